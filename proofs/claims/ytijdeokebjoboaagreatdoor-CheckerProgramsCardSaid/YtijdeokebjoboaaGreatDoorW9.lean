/- The machine on symbols: linear.Solve, linear.Verify. No condition. -/
import Derived.Test.YtijdeokebjoboaaGreatDoorW8
import Derived.Test.YtijdeokebjoboaaGreatDoorW7
set_option linter.unusedVariables false
set_option linter.unusedSimpArgs false
set_option linter.unusedSectionVars false
set_option linter.unnecessarySimpa false
set_option maxHeartbeats 4000000
set_option maxRecDepth 100000
namespace Go.Proofs.Tryz
open Go Go.Pi Go.Num Go.Lin
variable [Hole] {G : Nat → Option PV}
structure TP where
  obj : List (List UInt8)
  rows : List (List (List UInt8) × List UInt8)
def TP.rc (t : TP) (i : Nat) : List (List UInt8) := (t.rows.getD i ([], [])).1
def TP.rb (t : TP) (i : Nat) : List UInt8 := (t.rows.getD i ([], [])).2
def IsRws (v : PV) (t : TP) : Prop := (v = .nil ∧ t.rows = []) ∨ ∃ es, v = .slice es ∧ es.length = t.rows.length ∧ ∀ i, i < t.rows.length → ∃ w, es[i]? = some (.agg [w, .str (ba (t.rb i))]) ∧ IsSL w (t.rc i)
def IsTP (v : PV) (t : TP) : Prop := ∃ vo vr, v = .agg [vo, vr] ∧ IsSL vo t.obj ∧ IsRws vr t
theorem IsRws.len {v : PV} {t : TP} (h : IsRws v t) : lenPV v = some t.rows.length := by
  rcases h with ⟨rfl, h⟩ | ⟨es, rfl, h, _⟩
  · rw [h]; rfl
  · simp [lenPV, h]
theorem IsRws.cell {v : PV} {t : TP} (h : IsRws v t) : v.cellOk = true ∧ v.cells = [v] ∧ v.isTop = false ∧ v.ids = [] ∧ v.pureB = true := by
  rcases h with ⟨rfl, _⟩ | ⟨es, rfl, _⟩ <;> exact ⟨rfl, rfl, rfl, rfl, rfl⟩
theorem IsTP.inj {v : PV} {t u : TP} (h : IsTP v t) (h' : IsTP v u) : t = u := by
  obtain ⟨a, b, rfl, h1, h2⟩ := h
  obtain ⟨a', b', e, k1, k2⟩ := h'
  simp only [PV.agg.injEq, List.cons.injEq, and_true] at e
  obtain ⟨rfl, rfl⟩ := e
  have e1 := h1.inj k1
  have e2 : t.rows = u.rows := by
    rcases h2 with ⟨rfl, h2⟩ | ⟨es, rfl, h2, h3⟩
    · rcases k2 with ⟨_, k2⟩ | ⟨es, e, _⟩
      · rw [h2, k2]
      · cases e
    · rcases k2 with ⟨e, _⟩ | ⟨es', e, k2, k3⟩
      · cases e
      · cases e
        have hl : t.rows.length = u.rows.length := by omega
        refine List.ext_getElem hl fun i i1 i2 => ?_
        obtain ⟨w, j1, j2⟩ := h3 i i1
        obtain ⟨w', j3, j4⟩ := k3 i i2
        rw [j1] at j3
        simp only [Option.some.injEq, PV.agg.injEq, List.cons.injEq, PV.str.injEq, and_true] at j3
        obtain ⟨rfl, j5⟩ := j3
        have a1 := j2.inj j4
        have a2 := ba_inj j5
        simp only [TP.rc, TP.rb, List.getD, List.getElem?_eq_getElem i1, List.getElem?_eq_getElem i2, Option.getD_some] at a1 a2
        exact Prod.ext a1 a2
  cases t; cases u
  simp only [TP.mk.injEq]
  exact ⟨e1, e2⟩
noncomputable instance : Inhabited TP := ⟨⟨[], []⟩⟩
noncomputable def tp (v : PV) : TP := the (IsTP v)
theorem tp_eq {v : PV} {t : TP} (h : IsTP v t) : tp v = t := the_eq h fun _ h' => IsTP.inj h' h
theorem IsTP.pure {v : PV} {t : TP} (h : IsTP v t) : v.pureB = true := by
  obtain ⟨a, b, rfl, h1, h2⟩ := h
  simp [PV.pureB, PV.pureL, h1.pure, h2.cell.2.2.2.2]
def RdP (t : TP) (p : LP) : Prop := Rd t.obj p.obj ∧ p.rows.length = t.rows.length ∧ p.bounds.length = t.rows.length ∧ ∀ i, i < t.rows.length → (t.rc i).length = t.obj.length ∧ Rd (t.rc i) (rowAt p.rows i) ∧ RatText (t.rb i) (gq p.bounds i)
structure TP.Short (t : TP) : Prop where
  n : t.obj.length ≤ 50
  m : t.rows.length ≤ 50
  obj : LShort t.obj
  rl : ∀ i, i < t.rows.length → (t.rc i).length ≤ 50
  row : ∀ i, i < t.rows.length → LShort (t.rc i)
  bnd : ∀ i, i < t.rows.length → (t.rb i).length ≤ 20000
def zeroP : PV := .agg [.nil, .nil, .nil]
def LparseR (t : TP) (r : PV) : Prop := (∃ p v, RdP t p ∧ IsPr v p ∧ r = .tuple [v, .int .i64 0]) ∨ ((∀ p, ¬ RdP t p) ∧ ∃ e, e ≠ 0 ∧ r = .tuple [zeroP, .int .i64 e])
noncomputable def lparseR : CRel | [v], r => LparseR (tp v) r | _, _ => False
def lpI (v vr : PV) (t : TP) : Nat → List PV → St → Prop := fun w vs st => ∃ (i k : Nat) (H : List (Nat × Ent)), vs = [.int .i64 (i : Int), .int .i64 (t.rows.length : Int), .ptr 1 0 0, vr, .int .i64 (t.obj.length : Int), .ptr 0 0 0] ∧ i + w = t.rows.length ∧ (∀ l, l < i → (t.rc l).length = t.obj.length) ∧
  Go.Pi.look H 0 = some ⟨2, [v]⟩ ∧ Go.Pi.look H 1 = some ⟨3, [zeroP]⟩ ∧ (∀ q ∈ H, q.1 < k) ∧ 1 < k ∧ st = ⟨k, H, []⟩
def lpJ (io : List PV) (vr : PV) (t : TP) (n7 : Nat) : Nat → List PV → St → Prop := fun w vs st => ∃ (i k jr jb : Nat) (rs bs : List PV) (X : Nat → Nat → Rat) (B : Nat → Rat) (H : List (Nat × Ent)), vs = [.ptr n7 0 0, .int .i64 (i : Int), .ptr 1 0 0, .int .i64 (t.rows.length : Int), vr] ∧ i + w = t.rows.length ∧
  rs.length = i ∧ (∀ l, l < i → ∃ es, rs[l]? = some (.slice es) ∧ RV es t.obj.length (X l) ∧ ∀ q, q < t.obj.length → RatText (gt (t.rc l) q) (X l q)) ∧ RV bs i B ∧ (∀ l, l < i → RatText (t.rb l) (B l)) ∧
  Go.Pi.look H n7 = some ⟨3, [.agg [.slice io, slv jr i, slv jb i]]⟩ ∧ (0 < i → Go.Pi.look H jr = some ⟨1, rs⟩ ∧ Go.Pi.look H jb = some ⟨4, bs⟩ ∧ n7 < jr ∧ jr < jb ∧ jb < k) ∧
  Go.Pi.look H 1 = some ⟨3, [zeroP]⟩ ∧ (∀ q ∈ H, q.1 < k) ∧ 1 < n7 ∧ n7 < k ∧ st = ⟨k, H, []⟩
theorem rowAt_map {n i : Nat} {f : Nat → List Rat} (h : i < n) : rowAt ((List.range n).map f) i = f i := by simp [rowAt, List.getD, h]
theorem mkPr {t : TP} {io rs bs : List PV} {xo : List Rat} {X : Nat → Nat → Rat} {B : Nat → Rat} (ho1 : Rd t.obj xo) (ho2 : RV io xo.length (gq xo)) (hrs : rs.length = t.rows.length)
    (hX : ∀ l, l < t.rows.length → ∃ es, rs[l]? = some (.slice es) ∧ RV es t.obj.length (X l) ∧ ∀ q, q < t.obj.length → RatText (gt (t.rc l) q) (X l q)) (hbs : RV bs t.rows.length B) (hB : ∀ l, l < t.rows.length → RatText (t.rb l) (B l))
    (hall : ∀ l, l < t.rows.length → (t.rc l).length = t.obj.length) : ∃ p, RdP t p ∧ IsPr (.agg [.slice io, sv t.rows.length rs, sv t.rows.length bs]) p := by
  obtain ⟨p, hp⟩ : ∃ p : LP, p = ⟨xo, (List.range t.rows.length).map fun l => lst t.obj.length (X l), lst t.rows.length B⟩ := ⟨_, rfl⟩
  have e1 : p.obj = xo := by rw [hp]
  have e2 : p.m = t.rows.length := by rw [hp]; simp [LP.m]
  have e3 : p.bounds = lst t.rows.length B := by rw [hp]
  have e4 : ∀ l, l < t.rows.length → rowAt p.rows l = lst t.obj.length (X l) := fun l hl => by rw [hp]; exact rowAt_map hl
  have e5 : p.n = t.obj.length := by show p.obj.length = _; rw [e1]; exact ho1.1
  refine ⟨p, ⟨by rw [e1]; exact ho1, e2, by rw [e3, lst_len], fun i hi => ⟨hall i hi, ⟨by rw [e4 i hi, lst_len, hall i hi], fun q hq => ?_⟩, by rw [e3, lst_gq hi]; exact hB i hi⟩⟩, io, rs, bs, by rw [e2], ⟨?_, fun hm => ⟨by rw [e2]; exact hrs, fun i hi => ?_⟩, fun hm => ?_⟩, by rw [e3, lst_len, e2], fun i hi => ?_⟩
  · rw [e4 i hi, lst_gq (by rw [← hall i hi]; exact hq)]
    obtain ⟨es, _, _, h⟩ := hX i hi
    exact h q (by rw [← hall i hi]; exact hq)
  · rw [e1, e5, ← ho1.1]; exact ho2
  · rw [e2] at hi
    obtain ⟨es, h1, h2, _⟩ := hX i hi
    refine ⟨es, h1, ?_⟩
    rw [e5]
    refine h2.congr fun q hq => ?_
    show X i q = gq (rowAt p.rows i) q
    rw [e4 i hi, lst_gq hq]
  · rw [e2, e3]
    exact hbs.congr fun q hq => (lst_gq hq).symm
  · rw [e2] at hi
    rw [e4 i hi, lst_len, e5]
theorem lparse_ok (lib : ReadLib G) (v : PV) (t : TP) (hv : IsTP v t) (hs : t.Short) : Gives prog G 18 [v] (lparseR [v]) := by
  have hfe : lparseR [v] = LparseR t := by funext r; simp only [lparseR, tp_eq hv]
  rw [hfe]
  have err : ∀ {e : Int} {s : St}, (∀ p, ¬ RdP t p) → e ≠ 0 → outK (LparseR t) (.tuple [zeroP, .int .i64 e]) s := fun h he => outK_pure rfl (.inr ⟨h, _, he, rfl⟩)
  obtain ⟨vo, vr, rfl, h1, h2⟩ := hv
  obtain ⟨c1, c2, c3, c4⟩ := h1.cell
  obtain ⟨d1, d2, d3, d4, d5⟩ := h2.cell
  have lo := h1.len
  have lr := h2.len
  have t1 := hs.n
  have t2 := hs.m
  have g1 : ¬ (96 : Int) < t.obj.length := by omega
  have g2 : ¬ (256 : Int) < t.rows.length := by omega
  refine gives (S := [(49, readsR), (24, readR)]) (by kernel_rfl) (by kernel_rfl) (callW_of ann18 func18 rfl (by kernel_rfl) ?_)
  simp [c1, d1, lo, lr, g1, g2]
  refine loopK_of (lpI (.agg [vo, vr]) vr t) rfl rfl ?step1 t.rows.length _ _ ?init1
  case init1 => exact ⟨0, _, _, rfl, by omega, fun l h => absurd h (Nat.not_lt_zero l), rfl, rfl, by simp, by omega, rfl⟩
  case step1 =>
  rintro w vs st ⟨i, k, H, rfl, hiw, hall, l0, l1, hlt, hk, rfl⟩
  rcases Nat.eq_zero_or_pos w with h0 | h0
  · have hi : i = t.rows.length := by omega
    subst hi
    have k0 : ¬ k = 0 := by omega
    simp [l0]
    refine callK_pure rfl (by simp [PV.pureL, h1.pure]) (reads_ok lib vo t.obj h1 hs.obj (by omega)) fun r hr => ?_
    simp only [readsR, sl_eq h1] at hr
    rcases hr with ⟨xo, io, ho1, ho2, rfl⟩ | ⟨ho, e, he, rfl⟩
    · simp [l0, k0, lr]
      refine loopK_of (lpJ io vr t (k + 1)) rfl rfl ?step2 t.rows.length _ _ ?init2
      case init2 => exact ⟨0, _, 0, 0, [], [], fun _ _ => 0, fun _ => 0, _, rfl, by omega, rfl, fun l h => absurd h (Nat.not_lt_zero l), ⟨rfl, fun q h => absurd h (Nat.not_lt_zero q)⟩, fun l h => absurd h (Nat.not_lt_zero l), by rw [look_one_cons]; rfl, fun h => absurd h (Nat.lt_irrefl 0), by rw [look_cons_ne (by omega)]; exact l1, cons_lt hlt (by omega) (by omega), by omega, by omega, rfl⟩
      case step2 =>
      clear l0 hlt hiw
      rintro w2 vs st ⟨i, k2, jr, jb, rs, bs, X, B, H2, rfl, hiw2, hrs, hX, hbs, hB, l7, lj, l1, hlt2, hn7, hk2, rfl⟩
      obtain ⟨n7, hn7'⟩ : ∃ n7, n7 = k + 1 := ⟨_, rfl⟩
      rw [← hn7'] at l7 lj hn7 hk2 ⊢
      have l1' := l1
      unfold zeroP at l1'
      have lus : ∀ E, Go.Pi.look (Go.Pi.upd H2 1 E) 1 = some E := fun E => look_upd_same l1
      rcases Nat.eq_zero_or_pos w2 with h3 | h3
      · have hi : i = t.rows.length := by omega
        subst hi
        have lus : ∀ E, Go.Pi.look (Go.Pi.upd H2 1 E) 1 = some E := fun E => look_upd_same l1
        obtain ⟨j1, j2, j3, j4⟩ := slv_ids jr t.rows.length
        obtain ⟨i1, i2, i3, i4⟩ := slv_ids jb t.rows.length
        simp [l7, l1', lus, j2, i2]
        obtain ⟨p, hp1, hp2⟩ := mkPr ho1 ho2 hrs hX hbs hB hall
        rcases Nat.eq_zero_or_pos t.rows.length with m0 | m0
        · have e1 : slv jr t.rows.length = .nil := by rw [m0]; rfl
          have e2 : slv jb t.rows.length = .nil := by rw [m0]; rfl
          have e3 : ∀ es, sv t.rows.length es = .nil := fun es => by rw [m0]; rfl
          rw [e3, e3] at hp2
          rw [e1, e2]
          exact outK_pure (by simp [PV.pureB, PV.pureL]) (.inl ⟨p, _, hp1, hp2, rfl⟩)
        · obtain ⟨lr, lb, jn, jj, jk⟩ := lj m0
          rw [sv_pos m0, sv_pos m0] at hp2
          rw [slv_pos m0, slv_pos m0]
          refine (?gen : ∀ s : St, s.hp jr = some ⟨1, rs⟩ → s.hp jb = some ⟨4, bs⟩ → outK (LparseR t) (.tuple [.agg [.slice io, .own jr 0 t.rows.length, .own jb 0 t.rows.length], .int .i64 0]) s) _ ?a1 ?a2
          case a1 => exact (look_upd_ne (by omega)).trans lr
          case a2 => exact (look_upd_ne (by omega)).trans lb
          case gen =>
          intro s g1 g2
          have hr : reifyW s.hp (reifyN s.hp 5) (.own jr 0 t.rows.length) = some (.slice rs, [jr]) := reifyW_own g1 hrs (by decide) fun v hv => by
            obtain ⟨q, hq, rfl⟩ := List.getElem_of_mem hv
            obtain ⟨es, h1, _⟩ := hX q (by rw [← hrs]; exact hq)
            rw [List.getElem?_eq_getElem hq] at h1
            rw [Option.some.inj h1]
            rfl
          have hb : reifyW s.hp (reifyN s.hp 5) (.own jb 0 t.rows.length) = some (.slice bs, [jb]) := reifyW_own g2 hbs.len (by decide) hbs.pure
          have ha : reifyW s.hp (reifyN s.hp 5) (.agg [.slice io, .own jr 0 t.rows.length, .own jb 0 t.rows.length]) = some (.agg [.slice io, .slice rs, .slice bs], [jr, jb]) := by
            rw [reifyW]
            simp only [reifyWL, hr, hb, reifyW_pure (.slice io) rfl]
            rfl
          refine outK_tuple rfl (by simp only [reifyWL, ha, reifyW_pure (.int .i64 0) rfl]; rfl) (.inl ⟨p, _, hp1, hp2, rfl⟩)
      · have hi : i < t.rows.length := by omega
        have hii : (i : Int) < t.rows.length := by omega
        have wi : IntKind.i64.wrap ((i : Int) + 1) = ((i + 1 : Nat) : Int) := w_i64 (by omega)
        obtain ⟨es, rfl, esl, hes⟩ : ∃ es, vr = .slice es ∧ es.length = t.rows.length ∧ ∀ i, i < t.rows.length → ∃ w, es[i]? = some (.agg [w, .str (ba (t.rb i))]) ∧ IsSL w (t.rc i) := by
          rcases h2 with ⟨_, h⟩ | h
          · rw [h] at hi; simp at hi
          · exact h
        obtain ⟨rw_, f1, f2⟩ := hes i hi
        obtain ⟨r1, r2, r3, r4⟩ := f2.cell
        have f1' := getE f1
        have rl := f2.len
        have lsl : lenPV (.slice es) = some t.rows.length := by simp [lenPV, esl]
        simp [hii, f1, r1]
        refine callK_pure rfl (by simp [PV.pureL, f2.pure]) (reads_ok lib rw_ (t.rc i) f2 (hs.row i hi) (by have := hs.rl i hi; omega)) fun r hr => ?_
        simp only [readsR, sl_eq f2] at hr
        rcases hr with ⟨xr, ir, hr1, hr2, rfl⟩ | ⟨ho, e, he, rfl⟩
        · simp []
          refine callK_pure rfl rfl (Read_ok lib (t.rb i) (hs.bnd i hi)) fun r hr => ?_
          simp only [readR, ba_list] at hr
          obtain ⟨b, m, c, u, e, x, rfl, hx1, hx2⟩ := hr.cases
          obtain ⟨b', m', c', u', d, ee, i1, i2, _⟩ := hx1.cases
          simp only [PV.agg.injEq, List.cons.injEq, PV.bool.injEq, and_true] at ee
          obtain ⟨rfl, rfl, rfl, rfl⟩ := ee
          obtain ⟨a1, a2, a3, a4, a5⟩ := i1.cell
          obtain ⟨b1, b2, b3, b4, b5⟩ := i2.cell
          rcases hx2 with ⟨rfl, hx2⟩ | ⟨he, hx2⟩
          · simp [a1, b1]
            obtain ⟨n13, e13⟩ : ∃ n, n = k2 + 1 + 1 + 1 + 1 + 1 + 1 + 1 + 1 + 1 + 1 + 1 + 1 + 1 + 1 + 1 + 1 + 1 + 1 + 1 + 1 + 1 := ⟨_, rfl⟩
            obtain ⟨n10, e10⟩ : ∃ n, n = k2 + 1 + 1 + 1 := ⟨_, rfl⟩
            rw [← e13, ← e10, run_draw]
            have q1 : ¬ n13 = n7 := by omega
            have q2 : ¬ n10 = n7 := by omega
            have q3 : ¬ n10 = n13 := by omega
            have za8 : ¬ n13 + 1 + 1 + 1 + 1 + 1 + 1 + 1 + 1 = n7 := by omega
            have zb8 : ¬ n13 + 1 + 1 + 1 + 1 + 1 + 1 + 1 + 1 = n10 := by omega
            have zc8 : ¬ n13 + 1 + 1 + 1 + 1 + 1 + 1 + 1 + 1 = n13 := by omega
            have za9 : ¬ n13 + 1 + 1 + 1 + 1 + 1 + 1 + 1 + 1 + 1 = n7 := by omega
            have zb9 : ¬ n13 + 1 + 1 + 1 + 1 + 1 + 1 + 1 + 1 + 1 = n10 := by omega
            have zc9 : ¬ n13 + 1 + 1 + 1 + 1 + 1 + 1 + 1 + 1 + 1 = n13 := by omega
            have za13 : ¬ n13 + 1 + 1 + 1 + 1 + 1 + 1 + 1 + 1 + 1 + 1 + 1 + 1 + 1 = n7 := by omega
            have zb13 : ¬ n13 + 1 + 1 + 1 + 1 + 1 + 1 + 1 + 1 + 1 + 1 + 1 + 1 + 1 = n10 := by omega
            have zc13 : ¬ n13 + 1 + 1 + 1 + 1 + 1 + 1 + 1 + 1 + 1 + 1 + 1 + 1 + 1 = n13 := by omega
            have za14 : ¬ n13 + 1 + 1 + 1 + 1 + 1 + 1 + 1 + 1 + 1 + 1 + 1 + 1 + 1 + 1 = n7 := by omega
            have zb14 : ¬ n13 + 1 + 1 + 1 + 1 + 1 + 1 + 1 + 1 + 1 + 1 + 1 + 1 + 1 + 1 = n10 := by omega
            have zc14 : ¬ n13 + 1 + 1 + 1 + 1 + 1 + 1 + 1 + 1 + 1 + 1 + 1 + 1 + 1 + 1 = n13 := by omega
            have next : ∀ (k3 j1 j2 : Nat) (H3 : List (Nat × Ent)), Go.Pi.look H3 n7 = some ⟨3, [.agg [.slice io, .own j1 0 (i + 1), .own j2 0 (i + 1)]]⟩ → Go.Pi.look H3 j1 = some ⟨1, rs ++ [.slice ir]⟩ → Go.Pi.look H3 j2 = some ⟨4, bs ++ [.agg [.bool b, m, .bool c, u]]⟩ → Go.Pi.look H3 1 = some ⟨3, [zeroP]⟩ → (∀ q ∈ H3, q.1 < k3) → n7 < j1 → j1 < j2 → j2 < k3 → ∃ m', m' < w2 ∧ lpJ io (.slice es) t n7 m' [.ptr n7 0 0, .int .i64 (IntKind.i64.wrap ((i : Int) + 1)), .ptr 1 0 0, .int .i64 (t.rows.length : Int), .slice es] ⟨k3, H3, []⟩ := fun k3 j1 j2 H3 g1 g2 g3 g4 g5 g6 g7 g8 => by
              have rw0 : (t.rc i).length = t.obj.length := hall i hi
              refine ⟨w2 - 1, by omega, i + 1, k3, j1, j2, _, _, fun l q => if l = i then gq xr q else X l q, fun l => if l = i then x else B l, H3, by rw [wi], by omega, by rw [List.length_append, hrs]; rfl, fun l hl => ?_, (hbs.congr fun q hq => (if_neg (by omega)).symm).snoc (by rw [if_pos rfl]; exact hx1), fun l hl => ?_, by rw [slv_pos (by omega), slv_pos (by omega)]; exact g1, fun _ => ⟨g2, g3, g6, g7, g8⟩, g4, g5, by omega, by omega, rfl⟩
              · rcases lt_succ_cases hl with h4 | rfl
                · obtain ⟨es1, k1, k2, k3⟩ := hX l h4
                  refine ⟨es1, by rw [List.getElem?_append_left (by omega)]; exact k1, k2.congr fun q hq => (if_neg (by omega)).symm, fun q hq => ?_⟩
                  dsimp only; rw [if_neg (by omega)]; exact k3 q hq
                · refine ⟨ir, by rw [List.getElem?_append_right (by omega), hrs, Nat.sub_self]; rfl, ?_, fun q hq => ?_⟩
                  · rw [← rw0, ← hr1.1]
                    exact hr2.congr fun q hq => (if_pos rfl).symm
                  · dsimp only; rw [if_pos rfl]; exact hr1.2 q (by omega)
              · rcases lt_succ_cases hl with h4 | rfl
                · dsimp only; rw [if_neg (by omega)]; exact hB l h4
                · dsimp only; rw [if_pos rfl]; exact hx2
            have zd5 : ¬ n13 + 1 + 1 + 1 + 1 + 1 = n13 := by omega
            have zd : ¬ n13 + 1 + 1 + 1 + 1 + 1 + 1 + 1 + 1 + 1 + 1 + 1 + 1 + 1 + 1 = n13 + 1 + 1 + 1 + 1 + 1 + 1 + 1 + 1 + 1 := by omega
            rcases Nat.eq_zero_or_pos i with i0 | i0
            · have l7' : Go.Pi.look H2 n7 = some ⟨3, [.agg [.slice io, .nil, .nil]]⟩ := by rw [l7, i0]; rfl
              have lus7 : ∀ E, Go.Pi.look (Go.Pi.upd H2 n7 E) n7 = some E := fun E => look_upd_same l7'
              simp [l7', q1, q2, q3, a1, b1, buildSliceOp, putParts, repeatP, uniform, PV.pureL, PV.pureB, appendOp, appended, elems, PV.cells, a5, b5, lus7, upd_upd, za9, zc9, za14]
              have er : rs = [] := List.eq_nil_of_length_eq_zero (by omega)
              have eb : bs = [] := List.eq_nil_of_length_eq_zero (by rw [hbs.len]; exact i0)
              refine ⟨logOk_code (fun q => if q = n7 then 0 else if q = n13 then 1 else if q = n13 + 1 + 1 + 1 + 1 + 1 + 1 + 1 + 1 + 1 then 2 else if q = n13 + 1 + 1 + 1 + 1 + 1 + 1 + 1 + 1 + 1 + 1 + 1 + 1 + 1 + 1 then 3 else 4) (by simp [code, q1, za9, zc9, za14, zc14, zd5]; decide +kernel), ?_⟩
              have := next (n13 + 1 + 1 + 1 + 1 + 1 + 1 + 1 + 1 + 1 + 1 + 1 + 1 + 1 + 1 + 1 + 1 + 1 + 1 + 1 + 1 + 1) (n13 + 1 + 1 + 1 + 1 + 1 + 1 + 1 + 1 + 1) (n13 + 1 + 1 + 1 + 1 + 1 + 1 + 1 + 1 + 1 + 1 + 1 + 1 + 1 + 1)
              rw [er, eb, i0] at this
              rw [i0]
              exact this _ (by rw [look_cons_ne (by omega), look_cons_ne (by omega), look_cons_ne (by omega), look_cons_ne (by omega)]; exact look_upd_same l7') (by rw [look_cons_ne (by omega), look_one_cons]; rfl) (by rw [look_one_cons]; rfl) (by rw [look_cons_ne (by omega), look_cons_ne (by omega), look_cons_ne (by omega), look_cons_ne (by omega), look_upd_ne (by omega)]; exact l1)
                (cons_lt (m := n13 + 1 + 1 + 1 + 1 + 1 + 1 + 1 + 1 + 1 + 1 + 1 + 1 + 1 + 1 + 1 + 1 + 1 + 1 + 1 + 1 + 1) (cons_lt (m := n13 + 1 + 1 + 1 + 1 + 1 + 1 + 1 + 1 + 1 + 1) (cons_lt (m := n13 + 1) (cons_lt (m := n10 + 1) (upd_lt hlt2) (by omega) (by omega)) (by omega) (by omega)) (by omega) (by omega)) (by omega) (by omega)) (by omega) (by omega) (by omega)
            · have l7' : Go.Pi.look H2 n7 = some ⟨3, [.agg [.slice io, .own jr 0 i, .own jb 0 i]]⟩ := by rw [l7, slv_pos i0, slv_pos i0]
              obtain ⟨lr, lb, jn, jj, jk⟩ := lj i0
              have mk1 : (2 * (i + 1) + 1000) * 24 ≤ 140737488355328 := by omega
              have mk2 : (2 * (i + 1) + 1000) * 64 ≤ 140737488355328 := by omega
              have sx : ¬ i + 1 ≤ i := by omega
              have nr7 : ¬ jr = n7 := by omega
              have nb7 : ¬ jb = n7 := by omega
              have n7r : ¬ n7 = jr := by omega
              have n7b : ¬ n7 = jb := by omega
              have nrb : ¬ jr = jb := by omega
              have nbr : ¬ jb = jr := by omega
              have p1 : ¬ n13 = jr := by omega
              have p1' : ¬ jr = n13 := by omega
              have p2' : ¬ jb = n13 := by omega
              have ze1 : ¬ jr = n13 + 1 + 1 + 1 + 1 + 1 + 1 + 1 + 1 + 1 := by omega
              have ze2 : ¬ jr = n13 + 1 + 1 + 1 + 1 + 1 + 1 + 1 + 1 + 1 + 1 + 1 + 1 + 1 + 1 := by omega
              have ze3 : ¬ jb = n13 + 1 + 1 + 1 + 1 + 1 + 1 + 1 + 1 + 1 := by omega
              have ze4 : ¬ jb = n13 + 1 + 1 + 1 + 1 + 1 + 1 + 1 + 1 + 1 + 1 + 1 + 1 + 1 + 1 := by omega
              have p2 : ¬ n13 = jb := by omega
              have p3 : ¬ n10 = jr := by omega
              have p4 : ¬ n10 = jb := by omega
              have bsl := hbs.len
              have ld1 : Go.Pi.look (del H2 jr) n7 = Go.Pi.look H2 n7 := look_del_ne n7r
              have ld2 : Go.Pi.look (del H2 jr) jb = Go.Pi.look H2 jb := look_del_ne nbr
              have ld3 : Go.Pi.look (del (del H2 jr) jb) n7 = Go.Pi.look H2 n7 := by rw [look_del_ne n7b, ld1]
              rw [l7'] at ld1 ld3
              rw [lb] at ld2
              have lus7 : ∀ E, Go.Pi.look (Go.Pi.upd (del (del H2 jr) jb) n7 E) n7 = some E := fun E => look_upd_same ld3
              have zr8 : ¬ n13 + 1 + 1 + 1 + 1 + 1 + 1 + 1 + 1 = jr := by omega
              have zs8 : ¬ n13 + 1 + 1 + 1 + 1 + 1 + 1 + 1 + 1 = jb := by omega
              have zr9 : ¬ n13 + 1 + 1 + 1 + 1 + 1 + 1 + 1 + 1 + 1 = jr := by omega
              have zs9 : ¬ n13 + 1 + 1 + 1 + 1 + 1 + 1 + 1 + 1 + 1 = jb := by omega
              have zr13 : ¬ n13 + 1 + 1 + 1 + 1 + 1 + 1 + 1 + 1 + 1 + 1 + 1 + 1 + 1 = jr := by omega
              have zs13 : ¬ n13 + 1 + 1 + 1 + 1 + 1 + 1 + 1 + 1 + 1 + 1 + 1 + 1 + 1 = jb := by omega
              have zr14 : ¬ n13 + 1 + 1 + 1 + 1 + 1 + 1 + 1 + 1 + 1 + 1 + 1 + 1 + 1 + 1 = jr := by omega
              have zs14 : ¬ n13 + 1 + 1 + 1 + 1 + 1 + 1 + 1 + 1 + 1 + 1 + 1 + 1 + 1 + 1 = jb := by omega
              simp [l7', lr, hrs, bsl, mk1, mk2, sx, ld1, ld2, ld3, q1, q2, q3, p1, p2, p3, p4, a1, b1, buildSliceOp, putParts, repeatP, uniform, PV.pureL, PV.pureB, appendOp, appended, elems, PV.cells, a5, b5, lus7, upd_upd, del, za9, zc9, za14, zs9]
              refine ⟨logOk_code (fun q => if q = n7 then 0 else if q = n13 then 1 else if q = n13 + 1 + 1 + 1 + 1 + 1 + 1 + 1 + 1 + 1 then 2 else if q = n13 + 1 + 1 + 1 + 1 + 1 + 1 + 1 + 1 + 1 + 1 + 1 + 1 + 1 + 1 then 3 else 4) (by simp [code, q1, za9, zc9, za14, zc14, zd5, nr7, nb7, p1', p2', ze1, ze2, ze3, ze4]; decide +kernel), ?_⟩
              exact next _ _ _ _ (by rw [look_cons_ne (by omega), look_cons_ne (by omega), look_cons_ne (by omega), look_cons_ne (by omega)]; exact look_upd_same ld3) (by rw [look_cons_ne (by omega), look_one_cons]) (by rw [look_one_cons]) (by rw [look_cons_ne (by omega), look_cons_ne (by omega), look_cons_ne (by omega), look_cons_ne (by omega), look_upd_ne (by omega), look_del_ne (by omega), look_del_ne (by omega)]; exact l1)
                (cons_lt (m := n13 + 1 + 1 + 1 + 1 + 1 + 1 + 1 + 1 + 1 + 1 + 1 + 1 + 1 + 1 + 1 + 1 + 1 + 1 + 1 + 1 + 1) (cons_lt (m := n13 + 1 + 1 + 1 + 1 + 1 + 1 + 1 + 1 + 1 + 1) (cons_lt (m := n13 + 1) (cons_lt (m := n10 + 1) (upd_lt (del_lt (del_lt hlt2))) (by omega) (by omega)) (by omega) (by omega)) (by omega) (by omega)) (by omega) (by omega)) (by omega) (by omega) (by omega)
          · have he1 : (e != 0) = true := by simpa using he
            have n1 : ¬ k2 + 1 + 1 + 1 + 1 + 1 + 1 + 1 + 1 + 1 + 1 + 1 + 1 + 1 + 1 + 1 + 1 + 1 + 1 + 1 + 1 + 1 = 1 := by omega
            have n2 : ¬ k2 + 1 + 1 + 1 = 1 := by omega
            have n3 : ¬ k2 = 1 := by omega
            simp [a1, b1, he1, l1', lus]
            exact err (fun p hp => hx2 _ (hp.2.2.2 i hi).2.2) he
        · have he1 : (e != 0) = true := by simpa using he
          have n1 : ¬ k2 + 1 + 1 + 1 = 1 := by omega
          simp [he1, l1', lus]
          exact err (fun p hp => ho _ (hp.2.2.2 i hi).2.1) he
    · have he1 : (e != 0) = true := by simpa using he
      unfold zeroP at l1
      have lus : ∀ E, Go.Pi.look (Go.Pi.upd H 1 E) 1 = some E := fun E => look_upd_same l1
      simp [l1, lus, k0, he1]
      exact err (fun p hp => ho _ hp.1) he
  · have hi : i < t.rows.length := by omega
    have hii : (i : Int) < t.rows.length := by omega
    have wi : IntKind.i64.wrap ((i : Int) + 1) = ((i + 1 : Nat) : Int) := w_i64 (by omega)
    obtain ⟨es, rfl, esl, hes⟩ : ∃ es, vr = .slice es ∧ es.length = t.rows.length ∧ ∀ i, i < t.rows.length → ∃ w, es[i]? = some (.agg [w, .str (ba (t.rb i))]) ∧ IsSL w (t.rc i) := by
      rcases h2 with ⟨_, h⟩ | h
      · rw [h] at hi; simp at hi
      · exact h
    obtain ⟨rw_, f1, f2⟩ := hes i hi
    obtain ⟨r1, r2, r3, r4⟩ := f2.cell
    have f1' := getE f1
    have rl := f2.len
    have lsl : lenPV (.slice es) = some t.rows.length := by simp [lenPV, esl]
    have k0 : ¬ k = 0 := by omega
    by_cases hn : (t.rc i).length = t.obj.length
    · have hn1 : (((t.rc i).length : Int) != t.obj.length) = false := by rw [hn]; simp
      simp [hii, f1, r1, rl, hn1, wi]
      refine ⟨w - 1, by omega, i + 1, _, _, rfl, by omega, fun q hq => ?_, by rw [look_cons_ne (by omega)]; exact l0, by rw [look_cons_ne (by omega)]; exact l1, cons_lt hlt (by omega) (by omega), by omega, rfl⟩
      rcases lt_succ_cases hq with h4 | rfl
      · exact hall q h4
      · exact hn
    · have hn1 : (((t.rc i).length : Int) != t.obj.length) = true := by simp only [bne_iff_ne, ne_eq]; omega
      have n1 : ¬ k + 1 + 1 + 1 = 1 := by omega
      unfold zeroP at l1
      have lus : ∀ E, Go.Pi.look (Go.Pi.upd H 1 E) 1 = some E := fun E => look_upd_same l1
      simp [hii, f1, r1, rl, hn1, l1, lus]
      exact err (fun p hp => hn (hp.2.2.2 i hi).1) (by decide)
structure TP.Tiny (t : TP) : Prop where
  n : t.obj.length ≤ 4
  m : t.rows.length ≤ 7
  obj : ∀ i, i < t.obj.length → (gt t.obj i).length ≤ 20
  rl : ∀ i, i < t.rows.length → (t.rc i).length ≤ 8
  row : ∀ i, i < t.rows.length → ∀ j, j < (t.rc i).length → (gt (t.rc i) j).length ≤ 20
  bnd : ∀ i, i < t.rows.length → (t.rb i).length ≤ 20
theorem TP.Tiny.short {t : TP} (h : t.Tiny) : t.Short := ⟨by have := h.n; omega, by have := h.m; omega, fun i hi => by have := h.obj i hi; omega, fun i hi => by have := h.rl i hi; omega, fun i hi j hj => by have := h.row i hi j hj; omega, fun i hi => by have := h.bnd i hi; omega⟩
theorem bd_text {l : List UInt8} {q : Rat} (h : RatText l q) (hl : l.length ≤ 20) : Lin.Bd (10 ^ 20) q := by
  have h1 := h.lt
  have h2 : 10 ^ l.length ≤ 10 ^ 20 := Nat.pow_le_pow_right (by decide) hl
  obtain ⟨Y, hY⟩ : ∃ Y, Y = 10 ^ l.length := ⟨_, rfl⟩
  rw [← hY] at h1 h2
  exact ⟨by omega, by omega⟩
theorem RdP.n {t : TP} {p : LP} (h : RdP t p) : p.n = t.obj.length := h.1.1
theorem RdP.m {t : TP} {p : LP} (h : RdP t p) : p.m = t.rows.length := h.2.1
theorem RdP.tiny {t : TP} {p : LP} (h : RdP t p) (ht : t.Tiny) : p.Tiny := by
  have e1 := h.n
  have e2 := h.m
  refine ⟨by rw [e2]; exact ht.m, by rw [e1]; exact ht.n, by rw [e2]; exact h.2.2.1, fun i hi => ?_, fun j hj => ?_, fun i hi => ?_, fun i j hi hj => ?_⟩
  · rw [e2] at hi
    rw [e1, (h.2.2.2 i hi).2.1.1, (h.2.2.2 i hi).1]
  · rw [e1] at hj
    exact bd_text (h.1.2 j hj) (ht.obj j hj)
  · rw [e2] at hi
    exact bd_text (h.2.2.2 i hi).2.2 (ht.bnd i hi)
  · rw [e2] at hi
    rw [e1] at hj
    have hr := h.2.2.2 i hi
    exact bd_text (hr.2.1.2 j (by rw [hr.1]; exact hj)) (ht.row i hi j (by rw [hr.1]; exact hj))
theorem RatText.inj' {a : List UInt8} {x y : Rat} (h : RatText a x) (h' : RatText a y) : x = y := h.inj h'
theorem Rd.inj {l : List (List UInt8)} {x y : List Rat} (h : Rd l x) (h' : Rd l y) : x = y := by
  refine List.ext_getElem (by rw [h.1, h'.1]) fun i h1 h2 => ?_
  have := (h.2 i (by rw [← h.1]; exact h1)).inj (h'.2 i (by rw [← h.1]; exact h1))
  simpa [gq, List.getD, h1, h2] using this
theorem RdP.inj {t : TP} {p q : LP} (h : RdP t p) (h' : RdP t q) : p = q := by
  have e1 := h.1.inj h'.1
  have e2 : p.rows = q.rows := by
    refine List.ext_getElem (by rw [h.2.1, h'.2.1]) fun i h1 h2 => ?_
    have := (h.2.2.2 i (by rw [← h.2.1]; exact h1)).2.1.inj (h'.2.2.2 i (by rw [← h.2.1]; exact h1)).2.1
    simpa [rowAt, List.getD, h1, h2] using this
  have e3 : p.bounds = q.bounds := by
    refine List.ext_getElem (by rw [h.2.2.1, h'.2.2.1]) fun i h1 h2 => ?_
    have := (h.2.2.2 i (by rw [← h.2.2.1]; exact h1)).2.2.inj (h'.2.2.2 i (by rw [← h.2.2.1]; exact h1)).2.2
    simpa [gq, List.getD, h1, h2] using this
  cases p; cases q
  simp only [LP.mk.injEq]
  exact ⟨e1, e2, e3⟩
def zeroTO : PV := .agg [.int .i64 0, .str (ba []), .nil, .nil, .nil]
def SolveT (t : TP) (r : PV) : Prop := (∃ p o w, RdP t p ∧ Proves p o ∧ o.Fits 601 ∧ TextsR o w ∧ r = .tuple [w, .int .i64 0]) ∨ ((∀ p, ¬ RdP t p) ∧ ∃ e, e ≠ 0 ∧ r = .tuple [zeroTO, .int .i64 e])
noncomputable def solveTR : CRel | [v], r => SolveT (tp v) r | _, _ => False
theorem Proves.kinds {p : LP} {o : Sol} (h : Proves p o) : (o.kind = 1 ∨ o.kind = 2 ∨ o.kind = 3) ∧ o.pt.length ≤ p.n ∧ o.du.length ≤ p.m ∧ o.ray.length ≤ p.n := by
  rcases h with ⟨k, h1, h2, h3, _⟩ | ⟨k, h1, _, h2, h3⟩ | ⟨k, h1, h2, h3, _⟩
  · rw [h3]; exact ⟨.inl k, by rw [h2.1]; exact Nat.le_refl _, by rw [h1.1]; exact Nat.le_refl _, Nat.zero_le _⟩
  · rw [h2, h3]; exact ⟨.inr (.inl k), Nat.zero_le _, by rw [h1.1]; exact Nat.le_refl _, Nat.zero_le _⟩
  · rw [h2, h3]; exact ⟨.inr (.inr k), by rw [h1.1]; exact Nat.le_refl _, Nat.zero_le _, Nat.le_refl _⟩
theorem Solve_ok (lib : ReadLib G) (tl : TextLib G) (v : PV) (t : TP) (hv : IsTP v t) (ht : t.Tiny) : Gives prog G 7 [v] (solveTR [v]) := by
  have hfe : solveTR [v] = SolveT t := by funext r; simp only [solveTR, tp_eq hv]
  rw [hfe]
  have pv := hv.pure
  have hv0 := hv
  obtain ⟨vo, vr, rfl, h1, h2⟩ := hv
  obtain ⟨c1, c2, c3, c4⟩ := h1.cell
  obtain ⟨d1, d2, d3, d4, d5⟩ := h2.cell
  refine gives (S := [(18, lparseR), (19, solveR), (20, textsR)]) (by kernel_rfl) (by kernel_rfl) (callW_of ann7 func7 rfl (by kernel_rfl) ?_)
  simp [c1, d1]
  refine callK_pure rfl (by simp [PV.pureL, pv]) (lparse_ok lib _ t hv0 ht.short) fun r hr => ?_
  simp only [lparseR, tp_eq hv0] at hr
  rcases hr with ⟨p, w, hp, hw, rfl⟩ | ⟨hno, e, he, rfl⟩
  · have hpt := hp.tiny ht
    have hwp := hw.lp.pure
    have hw0 := hw
    obtain ⟨wo, wr, wb, rfl, k1, k2, k3⟩ := hw.lp
    obtain ⟨e1, e2, e3, e4⟩ := k1.cell
    obtain ⟨f1, f2, f3, f4⟩ := k2.cell
    obtain ⟨g1, g2, g3, g4⟩ := k3.cell
    simp [e1, f1, g1]
    refine callK_pure rfl (by simp [PV.pureL, hwp]) (solve_ok _ p hw0 hpt) fun r hr => ?_
    simp only [solveR, pr_eq hw0] at hr
    obtain ⟨o, ho1, ho2, ho3⟩ := hr
    obtain ⟨ks, s1, s2, s3⟩ := ho3.kinds
    have t1 := hpt.m
    have t2 := hpt.n
    simp []
    refine callK_pure rfl (by simp [PV.pureL, ho1.pure]) (texts_ok tl r o ho1 ⟨ho2.val.mono (by omega), fun i hi => (ho2.pt i hi).mono (by omega), fun i hi => (ho2.du i hi).mono (by omega), fun i hi => (ho2.ray i hi).mono (by omega)⟩ ks (by omega) (by omega) (by omega)) fun r2 hr2 => ?_
    simp only [textsR, so_eq ho1] at hr2
    have hr2' := hr2
    obtain ⟨u, hu, _⟩ := hr2
    have hup := hu.pure
    obtain ⟨a, b, c, rfl, m1, m2, m3⟩ := hu
    simp [m1.cell.1, m2.cell.1, m3.cell.1]
    exact outK_pure (by simpa [PV.pureB, PV.pureL] using hup) (.inl ⟨p, o, _, hp, ho3, ho2, hr2', rfl⟩)
  · have he1 : (e != 0) = true := by simpa using he
    simp [zeroP, he1]
    exact outK_pure rfl (.inr ⟨hno, e, he, rfl⟩)
def SizeT (t : TO) (n m : Nat) : Prop := (t.kind = 1 ∧ t.pt.length = n ∧ t.du.length = m ∧ t.ray.length = 0) ∨ (t.kind = 2 ∧ t.val = [] ∧ t.pt.length = 0 ∧ t.du.length = m ∧ t.ray.length = 0) ∨ (t.kind = 3 ∧ t.val = [] ∧ t.pt.length = n ∧ t.du.length = 0 ∧ t.ray.length = n)
noncomputable def sizesR : CRel | [v, .int _ n, .int _ m], r => ∃ e, r = .int .i64 e ∧ (e = 0 ↔ SizeT (to v) n.toNat m.toNat) | _, _ => False
theorem eq_int3 (n : Nat) (k : IntKind) (a b : Int) : eqPV prog (n + 1) 3 (.int k a) (.int k b) = some (a == b) := by simp [eqPV]
theorem eq124' (d : Nat) (xs ys : List PV) : eqPV prog (d + 1) 124 (.agg xs) (.agg ys) = eqElems prog (eqPV prog d) 3 1 3 0 xs ys := by simp [eqPV, size3]
theorem eq124 (a b c a' b' c' : Int) : eqPV prog 50 124 (.agg [.int .i64 a, .int .i64 b, .int .i64 c]) (.agg [.int .i64 a', .int .i64 b', .int .i64 c']) = some ((a == a') && (b == b') && (c == c')) := by
  have s0 : ∀ x y z : PV, subLoad (isAggT prog 3) 1 (0 * 1) (.agg [x, y, z]) = some x := fun x y z => by rw [agg3]; rfl
  have s1 : ∀ x y z : PV, subLoad (isAggT prog 3) 1 ((0 + 1) * 1) (.agg [x, y, z]) = some y := fun x y z => by rw [agg3]; rfl
  have s2 : ∀ x y z : PV, subLoad (isAggT prog 3) 1 ((0 + 1 + 1) * 1) (.agg [x, y, z]) = some z := fun x y z => by rw [agg3]; rfl
  rw [eq124', eqElems, s0, s0]
  dsimp only
  rw [eq_int3]
  cases a == a' with
  | false => rfl
  | true =>
    dsimp only
    rw [eqElems, s1, s1]
    dsimp only
    rw [eq_int3]
    cases b == b' with
    | false => rfl
    | true =>
      dsimp only
      rw [eqElems, s2, s2]
      dsimp only
      rw [eq_int3]
      cases c == c' <;> rfl
theorem eq124n (a b c a' b' c' : Nat) : eqPV prog 50 124 (.agg [.int .i64 a, .int .i64 b, .int .i64 c]) (.agg [.int .i64 a', .int .i64 b', .int .i64 c']) = some (decide (a = a' ∧ b = b' ∧ c = c')) := by
  rw [eq124]
  rw [Option.some.injEq, Bool.eq_iff_iff]
  simp only [Bool.and_eq_true, beq_iff_eq, decide_eq_true_eq]
  omega
theorem guard124 (p q : Bool) (l m : List PV) : guardB prog 124 p q (.agg l) (.agg m) = true := by
  have : prog.eqGuardType prog.depth 124 = false := by kernel_rfl
  show (!prog.eqGuardType prog.depth 124) = true
  rw [this]; rfl
theorem sizes_ok (v : PV) (t : TO) (n m : Nat) (hv : IsTO v t) (hk : t.kind = 1 ∨ t.kind = 2 ∨ t.kind = 3) : Gives prog G 33 [v, .int .i64 n, .int .i64 m] (sizesR [v, .int .i64 n, .int .i64 m]) := by
  have hfe : sizesR [v, .int .i64 n, .int .i64 m] = fun r => ∃ e, r = .int .i64 e ∧ (e = 0 ↔ SizeT t n m) := by funext r; simp only [sizesR, to_eq hv, Int.toNat_natCast]
  rw [hfe]
  obtain ⟨vp, vd, vr, rfl, h1, h2, h3⟩ := hv
  obtain ⟨c1, c2, c3, c4⟩ := h1.cell
  obtain ⟨d1, d2, d3, d4⟩ := h2.cell
  obtain ⟨e1, e2, e3, e4⟩ := h3.cell
  have l1 := h1.len
  have l2 := h2.len
  have l3 := h3.len
  refine gives (S := []) (by kernel_rfl) (by kernel_rfl) (callW_of ann33 func33 rfl (by kernel_rfl) ?_)
  rcases hk with hk | hk | hk
  · rw [hk]
    have E : eqPV prog 50 124 (.agg [.int .i64 t.pt.length, .int .i64 t.du.length, .int .i64 t.ray.length]) (.agg [.int .i64 n, .int .i64 m, .int .i64 0]) = some (decide (t.pt.length = n ∧ t.du.length = m ∧ t.ray.length = 0)) := eq124n _ _ _ n m 0
    by_cases h : t.pt.length = n ∧ t.du.length = m ∧ t.ray.length = 0
    · rw [decide_eq_true h] at E
      simp [c1, d1, e1, l1, l2, l3, E, guard124]
      exact outK_pure rfl ⟨_, rfl, fun _ => .inl ⟨hk, h⟩, fun _ => rfl⟩
    · rw [decide_eq_false h] at E
      simp [c1, d1, e1, l1, l2, l3, E, guard124]
      refine outK_pure rfl ⟨_, rfl, fun e => by simp at e, fun e => ?_⟩
      rcases e with ⟨_, e⟩ | ⟨e, _⟩ | ⟨e, _⟩
      · exact absurd e h
      · omega
      · omega
  · rw [hk]
    have E : eqPV prog 50 124 (.agg [.int .i64 t.pt.length, .int .i64 t.du.length, .int .i64 t.ray.length]) (.agg [.int .i64 0, .int .i64 m, .int .i64 0]) = some (decide (t.pt.length = 0 ∧ t.du.length = m ∧ t.ray.length = 0)) := eq124n _ _ _ 0 m 0
    by_cases h : t.pt.length = 0 ∧ t.du.length = m ∧ t.ray.length = 0
    · rw [decide_eq_true h] at E
      by_cases hv : t.val = []
      · simp [c1, d1, e1, l1, l2, l3, E, guard124, c0, sb_neq, hv]
        exact outK_pure rfl ⟨_, rfl, fun _ => .inr (.inl ⟨hk, hv, h⟩), fun _ => rfl⟩
      · simp [c1, d1, e1, l1, l2, l3, E, guard124, c0, sb_neq, hv]
        refine outK_pure rfl ⟨_, rfl, fun e => by simp at e, fun e => ?_⟩
        rcases e with ⟨e, _⟩ | ⟨_, e, _⟩ | ⟨e, _⟩
        · omega
        · exact absurd e hv
        · omega
    · rw [decide_eq_false h] at E
      simp [c1, d1, e1, l1, l2, l3, E, guard124]
      refine outK_pure rfl ⟨_, rfl, fun e => by simp at e, fun e => ?_⟩
      rcases e with ⟨e, _⟩ | ⟨_, _, e⟩ | ⟨e, _⟩
      · omega
      · exact absurd e h
      · omega
  · rw [hk]
    have E : eqPV prog 50 124 (.agg [.int .i64 t.pt.length, .int .i64 t.du.length, .int .i64 t.ray.length]) (.agg [.int .i64 n, .int .i64 0, .int .i64 n]) = some (decide (t.pt.length = n ∧ t.du.length = 0 ∧ t.ray.length = n)) := eq124n _ _ _ n 0 n
    by_cases h : t.pt.length = n ∧ t.du.length = 0 ∧ t.ray.length = n
    · rw [decide_eq_true h] at E
      by_cases hv : t.val = []
      · simp [c1, d1, e1, l1, l2, l3, E, guard124, c0, sb_neq, hv]
        exact outK_pure rfl ⟨_, rfl, fun _ => .inr (.inr ⟨hk, hv, h⟩), fun _ => rfl⟩
      · simp [c1, d1, e1, l1, l2, l3, E, guard124, c0, sb_neq, hv]
        refine outK_pure rfl ⟨_, rfl, fun e => by simp at e, fun e => ?_⟩
        rcases e with ⟨e, _⟩ | ⟨e, _⟩ | ⟨_, e, _⟩
        · omega
        · omega
        · exact absurd e hv
    · rw [decide_eq_false h] at E
      simp [c1, d1, e1, l1, l2, l3, E, guard124]
      refine outK_pure rfl ⟨_, rfl, fun e => by simp at e, fun e => ?_⟩
      rcases e with ⟨e, _⟩ | ⟨e, _⟩ | ⟨_, _, e⟩
      · omega
      · omega
      · exact absurd e h
def RdO (t : TO) (o : Sol) : Prop := o.kind = t.kind ∧ (t.kind = 1 → RatText t.val o.val) ∧ (t.kind ≠ 1 → o.val = 0) ∧ Rd t.pt o.pt ∧ Rd t.du o.du ∧ Rd t.ray o.ray
structure TO.Short (t : TO) : Prop where
  val : t.val.length ≤ 20000
  pt : LShort t.pt
  du : LShort t.du
  ray : LShort t.ray
  lp : t.pt.length ≤ 50
  ld : t.du.length ≤ 50
  lr : t.ray.length ≤ 50
def LreadP (t : TO) (r : PV) : Prop := (∃ o w, RdO t o ∧ IsSol w o ∧ r = .tuple [w, .int .i64 0]) ∨ ((∀ o, ¬ RdO t o) ∧ ∃ e w o, e ≠ 0 ∧ IsSol w o ∧ r = .tuple [w, .int .i64 e])
noncomputable def lreadR : CRel | [v], r => LreadP (to v) r | _, _ => False
def fld (j i : Nat) (f : PV) (l : List (List UInt8)) : Prop := if j < i then ∃ x es, Rd l x ∧ RV es x.length (gq x) ∧ f = .slice es else f = .nil
theorem fld_nil {j i : Nat} {f : PV} {l : List (List UInt8)} (h : fld j i f l) (hi : i ≤ j) : f = .nil := by unfold fld at h; rwa [if_neg (by omega)] at h
theorem fld_done {j i : Nat} {f : PV} {l : List (List UInt8)} (h : fld j i f l) (hi : j < i) : ∃ x es, Rd l x ∧ RV es x.length (gq x) ∧ f = .slice es := by unfold fld at h; rwa [if_pos hi] at h
theorem fld.rl {j i : Nat} {f : PV} {l : List (List UInt8)} (h : fld j i f l) : ∃ x, IsRL f x := by
  by_cases hi : j < i
  · obtain ⟨x, es, _, h2, rfl⟩ := fld_done h hi
    exact ⟨x, .inr ⟨es, rfl, h2⟩⟩
  · rw [fld_nil h (by omega)]; exact ⟨[], .inl ⟨rfl, rfl⟩⟩
theorem fld.cell {j i : Nat} {f : PV} {l : List (List UInt8)} (h : fld j i f l) : f.cellOk = true ∧ f.pureB = true := by
  obtain ⟨x, hx⟩ := h.rl
  exact ⟨hx.cell.1, hx.pure⟩
def rdI (k : Int) (w1 w2 w3 w4 : PV) (t : TO) (vp vd vr : PV) (nL : Nat) : Nat → List PV → St → Prop := fun w vs st => ∃ (i kk : Nat) (fp fd fr : PV) (H : List (Nat × Ent)), vs = [.int .i64 (i : Int), .int .i64 3, .ptr 6 0 0, .ptr 1 0 0, .own nL 0 3] ∧ i + w = 3 ∧ fld 0 i fp t.pt ∧ fld 1 i fd t.du ∧ fld 2 i fr t.ray ∧
  Go.Pi.look H 6 = some ⟨8, [.agg [.int .i64 k, w1, w2, w3, w4, fp, fd, fr]]⟩ ∧ Go.Pi.look H 1 = some ⟨8, [.agg [.int .i64 0, .bool false, .nil, .bool false, .nil, .nil, .nil, .nil]]⟩ ∧ Go.Pi.look H nL = some ⟨2, [.agg [.ptr 6 0 5, vp], .agg [.ptr 6 0 6, vd], .agg [.ptr 6 0 7, vr]]⟩ ∧
  (∀ q ∈ H, q.1 < kk) ∧ nL < kk ∧ 6 < nL ∧ st = ⟨kk, H, []⟩
theorem lread_ok (lib : ReadLib G) (v : PV) (t : TO) (hv : IsTO v t) (hs : t.Short) : Gives prog G 34 [v] (lreadR [v]) := by
  have hfe : lreadR [v] = LreadP t := by funext r; simp only [lreadR, to_eq hv]
  rw [hfe]
  obtain ⟨vp, vd, vr, rfl, h1, h2, h3⟩ := hv
  obtain ⟨c1, c2, c3, c4⟩ := h1.cell
  obtain ⟨d1, d2, d3, d4⟩ := h2.cell
  obtain ⟨e1, e2, e3, e4⟩ := h3.cell
  refine gives (S := [(24, readR), (49, readsR)]) (by kernel_rfl) (by kernel_rfl) (callW_of ann34 func34 rfl (by kernel_rfl) ?_)
  have l3 : ∀ r, lenPV (.own r 0 3) = some 3 := fun _ => rfl
  by_cases hk : t.kind = 1
  · have hk1 : (t.kind == 1) = true := by rw [hk]; rfl
    simp [c1, d1, e1, hk1]
    refine callK_pure rfl rfl (Read_ok lib t.val hs.val) fun r hr => ?_
    simp only [readR, ba_list] at hr
    obtain ⟨b, m, c, u, e, x, rfl, hx1, hx2⟩ := hr.cases
    obtain ⟨b', m', c', u', d, ee, i1, i2, _⟩ := hx1.cases
    simp only [PV.agg.injEq, List.cons.injEq, PV.bool.injEq, and_true] at ee
    obtain ⟨rfl, rfl, rfl, rfl⟩ := ee
    obtain ⟨a1, a2, a3, a4, a5⟩ := i1.cell
    obtain ⟨b1, b2, b3, b4, b5⟩ := i2.cell
    rcases hx2 with ⟨rfl, hx2⟩ | ⟨he, hx2⟩
    · simp [a1, b1, c1, d1, e1, buildSliceOp, putParts, repeatP, uniform, PV.pureL, PV.pureB, c2, d2, e2, c3, d3, e3, h1.pure, h2.pure, h3.pure, cells_ptr, l3]
      have hval : (t.kind = 1 → RatText t.val x) ∧ (t.kind ≠ 1 → x = 0) := ⟨fun _ => hx2, fun h => absurd hk h⟩
      clear hk1
      refine loopK_of (rdI t.kind (.bool b) m (.bool c) u t vp vd vr 35) rfl rfl ?step 3 _ _ ?init
      case init => exact ⟨0, _, .nil, .nil, .nil, _, rfl, by omega, rfl, rfl, rfl, rfl, rfl, rfl, by simp, by omega, by omega, rfl⟩
      case step =>
      rintro w vs st ⟨i, kk, fp, fd, fr, H, rfl, hiw, f1, f2, f3, g6, g1, gL, hlt, hkk, h6, rfl⟩
      have p1 := f1.cell
      have p2 := f2.cell
      have p3 := f3.cell
      have lus1 : ∀ E, Go.Pi.look (Go.Pi.upd H 1 E) 1 = some E := fun E => look_upd_same g1
      have lus6 : ∀ E, Go.Pi.look (Go.Pi.upd H 6 E) 6 = some E := fun E => look_upd_same g6
      have l61 : ∀ E, Go.Pi.look (Go.Pi.upd H 6 E) 1 = Go.Pi.look H 1 := fun E => look_upd_ne (by decide)
      rw [g1] at l61
      have lus61 : ∀ E F, Go.Pi.look (Go.Pi.upd (Go.Pi.upd H 6 E) 1 F) 1 = some F := fun E F => look_upd_same (l61 E)
      have n6 : ¬ kk + 1 + 1 + 1 = 6 := by omega
      have n1 : ¬ kk + 1 + 1 + 1 = 1 := by omega
      have nl : ¬ kk + 1 + 1 + 1 = 35 := by omega
      have nl2 : ¬ kk = 32 := by omega
      have m3 : ¬ kk = 3 := by omega
      rcases (show i = 3 ∨ i = 0 ∨ i = 1 ∨ i = 2 by omega) with rfl | rfl | rfl | rfl
      · simp [g6, g1, lus1, p1.1, p2.1, p3.1, a1, b1]
        obtain ⟨x1, es1, o1, q1, rfl⟩ := fld_done f1 (by omega)
        obtain ⟨x2, es2, o2, q2, rfl⟩ := fld_done f2 (by omega)
        obtain ⟨x3, es3, o3, q3, rfl⟩ := fld_done f3 (by omega)
        exact outK_pure (by simp [PV.pureB, PV.pureL, a5, b5]) (.inl ⟨⟨t.kind, x, x1, x2, x3⟩, _, ⟨rfl, hval.1, hval.2, o1, o2, o3⟩, ⟨_, _, _, _, _, _, _, rfl, hx1, .inr ⟨_, rfl, q1⟩, .inr ⟨_, rfl, q2⟩, .inr ⟨_, rfl, q3⟩⟩, rfl⟩)
      · simp [run_draw, gL, c1]
        refine dcallK_pure rfl (by simp [PV.pureL, h1.pure]) (reads_ok lib vp t.pt h1 hs.pt (by have := hs.lp; omega)) fun r hr => ?_
        simp only [readsR, sl_eq h1] at hr
        rcases hr with ⟨y, es, hy1, hy2, rfl⟩ | ⟨ho, e, he, rfl⟩
        · simp [g6, c4, n6]
          exact ⟨logOk_free (by simp only [List.map_cons, List.map_nil, tri, List.isEmpty_nil, List.isEmpty_cons]; decide +kernel), w - 1, by omega, 1, _, .slice es, fd, fr, _, rfl, by omega, by unfold fld; rw [if_pos (by omega)]; exact ⟨y, es, hy1, hy2, rfl⟩, by unfold fld at f2 ⊢; rw [if_neg (by omega)] at f2 ⊢; exact f2, by unfold fld at f3 ⊢; rw [if_neg (by omega)] at f3 ⊢; exact f3, by rw [look_cons_ne n6]; exact lus6 _, by rw [look_cons_ne n1]; exact l61 _, by rw [look_cons_ne nl, look_upd_ne (by decide)]; exact gL, cons_lt (upd_lt hlt) (by omega) (by omega), by omega, by omega, rfl⟩
        · have he1 : (e != 0) = true := by simpa using he
          simp [g6, lus6, l61, lus61, p2.1, p3.1, a1, b1, c4, n6, he1]
          obtain ⟨x2, g2'⟩ := f2.rl
          obtain ⟨x3, g3'⟩ := f3.rl
          exact ⟨logOk_free (by simp only [List.map_cons, List.map_nil, tri, List.isEmpty_nil, List.isEmpty_cons]; decide +kernel), outK_pure (by simp [PV.pureB, PV.pureL, a5, b5, p2.2, p3.2]) (.inr ⟨fun o h => ho _ h.2.2.2.1, e, _, ⟨t.kind, x, [], x2, x3⟩, he, ⟨_, _, _, _, _, _, _, rfl, hx1, .inl ⟨rfl, rfl⟩, g2', g3'⟩, rfl⟩)⟩
      · simp [run_draw, gL, d1]
        refine dcallK_pure rfl (by simp [PV.pureL, h2.pure]) (reads_ok lib vd t.du h2 hs.du (by have := hs.ld; omega)) fun r hr => ?_
        simp only [readsR, sl_eq h2] at hr
        rcases hr with ⟨y, es, hy1, hy2, rfl⟩ | ⟨ho, e, he, rfl⟩
        · simp [g6, d4, n6]
          exact ⟨logOk_free (by simp only [List.map_cons, List.map_nil, tri, List.isEmpty_nil, List.isEmpty_cons]; decide +kernel), w - 1, by omega, 2, _, fp, .slice es, fr, _, rfl, by omega, by unfold fld at f1 ⊢; rw [if_pos (by omega)] at f1 ⊢; exact f1, by unfold fld; rw [if_pos (by omega)]; exact ⟨y, es, hy1, hy2, rfl⟩, by unfold fld at f3 ⊢; rw [if_neg (by omega)] at f3 ⊢; exact f3, by rw [look_cons_ne n6]; exact lus6 _, by rw [look_cons_ne n1]; exact l61 _, by rw [look_cons_ne nl, look_upd_ne (by decide)]; exact gL, cons_lt (upd_lt hlt) (by omega) (by omega), by omega, by omega, rfl⟩
        · have he1 : (e != 0) = true := by simpa using he
          simp [g6, lus6, l61, lus61, p1.1, p3.1, a1, b1, d4, n6, he1]
          obtain ⟨x1, g1'⟩ := f1.rl
          obtain ⟨x3, g3'⟩ := f3.rl
          exact ⟨logOk_free (by simp only [List.map_cons, List.map_nil, tri, List.isEmpty_nil, List.isEmpty_cons]; decide +kernel), outK_pure (by simp [PV.pureB, PV.pureL, a5, b5, p1.2, p3.2]) (.inr ⟨fun o h => ho _ h.2.2.2.2.1, e, _, ⟨t.kind, x, x1, [], x3⟩, he, ⟨_, _, _, _, _, _, _, rfl, hx1, g1', .inl ⟨rfl, rfl⟩, g3'⟩, rfl⟩)⟩
      · simp [run_draw, gL, e1]
        refine dcallK_pure rfl (by simp [PV.pureL, h3.pure]) (reads_ok lib vr t.ray h3 hs.ray (by have := hs.lr; omega)) fun r hr => ?_
        simp only [readsR, sl_eq h3] at hr
        rcases hr with ⟨y, es, hy1, hy2, rfl⟩ | ⟨ho, e, he, rfl⟩
        · simp [g6, e4, n6]
          exact ⟨logOk_free (by simp only [List.map_cons, List.map_nil, tri, List.isEmpty_nil, List.isEmpty_cons]; decide +kernel), w - 1, by omega, 3, _, fp, fd, .slice es, _, rfl, by omega, by unfold fld at f1 ⊢; rw [if_pos (by omega)] at f1 ⊢; exact f1, by unfold fld at f2 ⊢; rw [if_pos (by omega)] at f2 ⊢; exact f2, by unfold fld; rw [if_pos (by omega)]; exact ⟨y, es, hy1, hy2, rfl⟩, by rw [look_cons_ne n6]; exact lus6 _, by rw [look_cons_ne n1]; exact l61 _, by rw [look_cons_ne nl, look_upd_ne (by decide)]; exact gL, cons_lt (upd_lt hlt) (by omega) (by omega), by omega, by omega, rfl⟩
        · have he1 : (e != 0) = true := by simpa using he
          simp [g6, lus6, l61, lus61, p1.1, p2.1, a1, b1, e4, n6, he1]
          obtain ⟨x1, g1'⟩ := f1.rl
          obtain ⟨x2, g2'⟩ := f2.rl
          exact ⟨logOk_free (by simp only [List.map_cons, List.map_nil, tri, List.isEmpty_nil, List.isEmpty_cons]; decide +kernel), outK_pure (by simp [PV.pureB, PV.pureL, a5, b5, p1.2, p2.2]) (.inr ⟨fun o h => ho _ h.2.2.2.2.2, e, _, ⟨t.kind, x, x1, x2, []⟩, he, ⟨_, _, _, _, _, _, _, rfl, hx1, g1', g2', .inl ⟨rfl, rfl⟩⟩, rfl⟩)⟩
    · have he1 : (e != 0) = true := by simpa using he
      simp [a1, b1, he1]
      exact outK_pure (by simp [PV.pureB, PV.pureL, a5, b5]) (.inr ⟨fun o ho => hx2 _ (ho.2.1 hk), e, _, ⟨t.kind, x, [], [], []⟩, he, ⟨b, m, c, u, .nil, .nil, .nil, rfl, hx1, .inl ⟨rfl, rfl⟩, .inl ⟨rfl, rfl⟩, .inl ⟨rfl, rfl⟩⟩, rfl⟩)
  · have hk1 : (t.kind == 1) = false := by simpa using hk
    simp [c1, d1, e1, hk1, buildSliceOp, putParts, repeatP, uniform, PV.pureL, PV.pureB, c2, d2, e2, c3, d3, e3, h1.pure, h2.pure, h3.pure, cells_ptr, l3]
    obtain ⟨x, hx1, hval⟩ : ∃ x : Rat, IsRat (.agg [.bool false, .nil, .bool false, .nil]) x ∧ (t.kind = 1 → RatText t.val x) ∧ (t.kind ≠ 1 → x = 0) := ⟨0, isRat_zero, fun h => absurd h hk, fun _ => rfl⟩
    have a1 : PV.nil.cellOk = true := rfl
    have b1 : PV.nil.cellOk = true := rfl
    have a5 : PV.nil.pureB = true := rfl
    have b5 : PV.nil.pureB = true := rfl
    clear hk1
    refine loopK_of (rdI t.kind (.bool false) .nil (.bool false) .nil t vp vd vr 24) rfl rfl ?step 3 _ _ ?init
    case init => exact ⟨0, _, .nil, .nil, .nil, _, rfl, by omega, rfl, rfl, rfl, rfl, rfl, rfl, by simp, by omega, by omega, rfl⟩
    case step =>
    rintro w vs st ⟨i, kk, fp, fd, fr, H, rfl, hiw, f1, f2, f3, g6, g1, gL, hlt, hkk, h6, rfl⟩
    have p1 := f1.cell
    have p2 := f2.cell
    have p3 := f3.cell
    have lus1 : ∀ E, Go.Pi.look (Go.Pi.upd H 1 E) 1 = some E := fun E => look_upd_same g1
    have lus6 : ∀ E, Go.Pi.look (Go.Pi.upd H 6 E) 6 = some E := fun E => look_upd_same g6
    have l61 : ∀ E, Go.Pi.look (Go.Pi.upd H 6 E) 1 = Go.Pi.look H 1 := fun E => look_upd_ne (by decide)
    rw [g1] at l61
    have lus61 : ∀ E F, Go.Pi.look (Go.Pi.upd (Go.Pi.upd H 6 E) 1 F) 1 = some F := fun E F => look_upd_same (l61 E)
    have n6 : ¬ kk + 1 + 1 + 1 = 6 := by omega
    have n1 : ¬ kk + 1 + 1 + 1 = 1 := by omega
    have nl : ¬ kk + 1 + 1 + 1 = 24 := by omega
    have nl2 : ¬ kk = 21 := by omega
    have m3 : ¬ kk = 3 := by omega
    rcases (show i = 3 ∨ i = 0 ∨ i = 1 ∨ i = 2 by omega) with rfl | rfl | rfl | rfl
    · simp [g6, g1, lus1, p1.1, p2.1, p3.1, a1]
      obtain ⟨x1, es1, o1, q1, rfl⟩ := fld_done f1 (by omega)
      obtain ⟨x2, es2, o2, q2, rfl⟩ := fld_done f2 (by omega)
      obtain ⟨x3, es3, o3, q3, rfl⟩ := fld_done f3 (by omega)
      exact outK_pure (by simp [PV.pureB, PV.pureL]) (.inl ⟨⟨t.kind, x, x1, x2, x3⟩, _, ⟨rfl, hval.1, hval.2, o1, o2, o3⟩, ⟨_, _, _, _, _, _, _, rfl, hx1, .inr ⟨_, rfl, q1⟩, .inr ⟨_, rfl, q2⟩, .inr ⟨_, rfl, q3⟩⟩, rfl⟩)
    · simp [run_draw, a1, gL, c1]
      refine dcallK_pure rfl (by simp [PV.pureL, h1.pure]) (reads_ok lib vp t.pt h1 hs.pt (by have := hs.lp; omega)) fun r hr => ?_
      simp only [readsR, sl_eq h1] at hr
      rcases hr with ⟨y, es, hy1, hy2, rfl⟩ | ⟨ho, e, he, rfl⟩
      · simp [g6, c4, n6]
        exact ⟨logOk_free (by simp only [List.map_cons, List.map_nil, tri, List.isEmpty_nil, List.isEmpty_cons]; decide +kernel), w - 1, by omega, 1, _, .slice es, fd, fr, _, rfl, by omega, by unfold fld; rw [if_pos (by omega)]; exact ⟨y, es, hy1, hy2, rfl⟩, by unfold fld at f2 ⊢; rw [if_neg (by omega)] at f2 ⊢; exact f2, by unfold fld at f3 ⊢; rw [if_neg (by omega)] at f3 ⊢; exact f3, by rw [look_cons_ne n6]; exact lus6 _, by rw [look_cons_ne n1]; exact l61 _, by rw [look_cons_ne nl, look_upd_ne (by decide)]; exact gL, cons_lt (upd_lt hlt) (by omega) (by omega), by omega, by omega, rfl⟩
      · have he1 : (e != 0) = true := by simpa using he
        simp [g6, lus6, l61, lus61, p2.1, p3.1, a1, c4, n6, he1]
        obtain ⟨x2, g2'⟩ := f2.rl
        obtain ⟨x3, g3'⟩ := f3.rl
        exact ⟨logOk_free (by simp only [List.map_cons, List.map_nil, tri, List.isEmpty_nil, List.isEmpty_cons]; decide +kernel), outK_pure (by simp [PV.pureB, PV.pureL, p2.2, p3.2]) (.inr ⟨fun o h => ho _ h.2.2.2.1, e, _, ⟨t.kind, x, [], x2, x3⟩, he, ⟨_, _, _, _, _, _, _, rfl, hx1, .inl ⟨rfl, rfl⟩, g2', g3'⟩, rfl⟩)⟩
    · simp [run_draw, a1, gL, d1]
      refine dcallK_pure rfl (by simp [PV.pureL, h2.pure]) (reads_ok lib vd t.du h2 hs.du (by have := hs.ld; omega)) fun r hr => ?_
      simp only [readsR, sl_eq h2] at hr
      rcases hr with ⟨y, es, hy1, hy2, rfl⟩ | ⟨ho, e, he, rfl⟩
      · simp [g6, d4, n6]
        exact ⟨logOk_free (by simp only [List.map_cons, List.map_nil, tri, List.isEmpty_nil, List.isEmpty_cons]; decide +kernel), w - 1, by omega, 2, _, fp, .slice es, fr, _, rfl, by omega, by unfold fld at f1 ⊢; rw [if_pos (by omega)] at f1 ⊢; exact f1, by unfold fld; rw [if_pos (by omega)]; exact ⟨y, es, hy1, hy2, rfl⟩, by unfold fld at f3 ⊢; rw [if_neg (by omega)] at f3 ⊢; exact f3, by rw [look_cons_ne n6]; exact lus6 _, by rw [look_cons_ne n1]; exact l61 _, by rw [look_cons_ne nl, look_upd_ne (by decide)]; exact gL, cons_lt (upd_lt hlt) (by omega) (by omega), by omega, by omega, rfl⟩
      · have he1 : (e != 0) = true := by simpa using he
        simp [g6, lus6, l61, lus61, p1.1, p3.1, a1, d4, n6, he1]
        obtain ⟨x1, g1'⟩ := f1.rl
        obtain ⟨x3, g3'⟩ := f3.rl
        exact ⟨logOk_free (by simp only [List.map_cons, List.map_nil, tri, List.isEmpty_nil, List.isEmpty_cons]; decide +kernel), outK_pure (by simp [PV.pureB, PV.pureL, p1.2, p3.2]) (.inr ⟨fun o h => ho _ h.2.2.2.2.1, e, _, ⟨t.kind, x, x1, [], x3⟩, he, ⟨_, _, _, _, _, _, _, rfl, hx1, g1', .inl ⟨rfl, rfl⟩, g3'⟩, rfl⟩)⟩
    · simp [run_draw, a1, gL, e1]
      refine dcallK_pure rfl (by simp [PV.pureL, h3.pure]) (reads_ok lib vr t.ray h3 hs.ray (by have := hs.lr; omega)) fun r hr => ?_
      simp only [readsR, sl_eq h3] at hr
      rcases hr with ⟨y, es, hy1, hy2, rfl⟩ | ⟨ho, e, he, rfl⟩
      · simp [g6, e4, n6]
        exact ⟨logOk_free (by simp only [List.map_cons, List.map_nil, tri, List.isEmpty_nil, List.isEmpty_cons]; decide +kernel), w - 1, by omega, 3, _, fp, fd, .slice es, _, rfl, by omega, by unfold fld at f1 ⊢; rw [if_pos (by omega)] at f1 ⊢; exact f1, by unfold fld at f2 ⊢; rw [if_pos (by omega)] at f2 ⊢; exact f2, by unfold fld; rw [if_pos (by omega)]; exact ⟨y, es, hy1, hy2, rfl⟩, by rw [look_cons_ne n6]; exact lus6 _, by rw [look_cons_ne n1]; exact l61 _, by rw [look_cons_ne nl, look_upd_ne (by decide)]; exact gL, cons_lt (upd_lt hlt) (by omega) (by omega), by omega, by omega, rfl⟩
      · have he1 : (e != 0) = true := by simpa using he
        simp [g6, lus6, l61, lus61, p1.1, p2.1, a1, e4, n6, he1]
        obtain ⟨x1, g1'⟩ := f1.rl
        obtain ⟨x2, g2'⟩ := f2.rl
        exact ⟨logOk_free (by simp only [List.map_cons, List.map_nil, tri, List.isEmpty_nil, List.isEmpty_cons]; decide +kernel), outK_pure (by simp [PV.pureB, PV.pureL, p1.2, p2.2]) (.inr ⟨fun o h => ho _ h.2.2.2.2.2, e, _, ⟨t.kind, x, x1, x2, []⟩, he, ⟨_, _, _, _, _, _, _, rfl, hx1, g1', g2', .inl ⟨rfl, rfl⟩⟩, rfl⟩)⟩
structure TO.Tiny (t : TO) : Prop where
  val : t.val.length ≤ 20
  pt : ∀ i, i < t.pt.length → (gt t.pt i).length ≤ 20
  du : ∀ i, i < t.du.length → (gt t.du i).length ≤ 20
  ray : ∀ i, i < t.ray.length → (gt t.ray i).length ≤ 20
  lp : t.pt.length ≤ 8
  ld : t.du.length ≤ 8
  lr : t.ray.length ≤ 8
theorem TO.Tiny.short {t : TO} (h : t.Tiny) : t.Short := ⟨by have := h.val; omega, fun i hi => by have := h.pt i hi; omega, fun i hi => by have := h.du i hi; omega, fun i hi => by have := h.ray i hi; omega, by have := h.lp; omega, by have := h.ld; omega, by have := h.lr; omega⟩
theorem fit_text {l : List UInt8} {q : Rat} (h : RatText l q) (hl : l.length ≤ 20) : RFits q 3 := bd_fits (bd_text h hl) big20
theorem RdO.fits {t : TO} {o : Sol} (h : RdO t o) (ht : t.Tiny) : o.Fits 3 := by
  obtain ⟨h1, h2, h3, h4, h5, h6⟩ := h
  refine ⟨?_, fun i hi => ?_, fun i hi => ?_, fun i hi => ?_⟩
  · by_cases hk : t.kind = 1
    · exact fit_text (h2 hk) ht.val
    · rw [h3 hk]; exact RFits.zero (by omega)
  · rw [h4.1] at hi; exact fit_text (h4.2 i hi) (ht.pt i hi)
  · rw [h5.1] at hi; exact fit_text (h5.2 i hi) (ht.du i hi)
  · rw [h6.1] at hi; exact fit_text (h6.2 i hi) (ht.ray i hi)
theorem RdO.inj {t : TO} {o u : Sol} (h : RdO t o) (h' : RdO t u) : o = u := by
  obtain ⟨h1, h2, h3, h4, h5, h6⟩ := h
  obtain ⟨k1, k2, k3, k4, k5, k6⟩ := h'
  have e : o.val = u.val := by
    by_cases hk : t.kind = 1
    · exact (h2 hk).inj (k2 hk)
    · rw [h3 hk, k3 hk]
  cases o; cases u
  simp only [Sol.mk.injEq]
  exact ⟨h1.trans k1.symm, e, h4.inj k4, h5.inj k5, h6.inj k6⟩
theorem sizeOk_of {t : TP} {u : TO} {p : LP} {o : Sol} (hp : RdP t p) (ho : RdO u o) (h : SizeT u t.obj.length t.rows.length) : SizeOk p o := by
  obtain ⟨h1, h2, h3, h4, h5, h6⟩ := ho
  have e1 := hp.n
  have e2 := hp.m
  have n4 := h4.1
  have n5 := h5.1
  have n6 := h6.1
  rcases h with ⟨k, a, b, c⟩ | ⟨k, _, a, b, c⟩ | ⟨k, _, a, b, c⟩
  · exact .inl ⟨by rw [h1, k], by omega, by omega, List.eq_nil_of_length_eq_zero (by omega)⟩
  · exact .inr (.inl ⟨by rw [h1, k], List.eq_nil_of_length_eq_zero (by omega), by omega, List.eq_nil_of_length_eq_zero (by omega)⟩)
  · exact .inr (.inr ⟨by rw [h1, k], by omega, List.eq_nil_of_length_eq_zero (by omega), by omega⟩)
open Classical in
theorem provB_iff {p : LP} {o : Sol} : provB p o = true ↔ Proves p o := by unfold provB; exact decide_eq_true_iff
def Acc (t : TP) (u : TO) : Prop := ∃ p o, RdP t p ∧ RdO u o ∧ SizeT u t.obj.length t.rows.length ∧ Proves p o
def VerT (t : TP) (u : TO) (r : PV) : Prop := ∃ e, r = .int .i64 e ∧ (e = 0 ↔ Acc t u)
noncomputable def verR : CRel | [v, w], r => VerT (tp v) (to w) r | _, _ => False
theorem Verify_ok (lib : ReadLib G) (v w : PV) (t : TP) (u : TO) (hv : IsTP v t) (hw : IsTO w u) (ht : t.Tiny) (hu : u.Tiny) : Gives prog G 10 [v, w] (verR [v, w]) := by
  have hfe : verR [v, w] = VerT t u := by funext r; simp only [verR, tp_eq hv, to_eq hw]
  rw [hfe]
  have bad : ∀ {e : Int} {s : St}, e ≠ 0 → ¬ Acc t u → outK (VerT t u) (.int .i64 e) s := fun h1 h2 => outK_pure rfl ⟨_, rfl, fun h => absurd h h1, fun h => absurd h h2⟩
  have pv := hv.pure
  have pw' := hw.pure
  have hv0 := hv
  have hw0 := hw
  obtain ⟨vo, vr, rfl, h1, h2⟩ := hv
  obtain ⟨c1, c2, c3, c4⟩ := h1.cell
  obtain ⟨d1, d2, d3, d4, d5⟩ := h2.cell
  obtain ⟨wp, wd, wr, rfl, k1, k2, k3⟩ := hw
  obtain ⟨e1, e2, e3, e4⟩ := k1.cell
  obtain ⟨f1, f2, f3, f4⟩ := k2.cell
  obtain ⟨g1, g2, g3, g4⟩ := k3.cell
  refine gives (S := [(18, lparseR), (33, sizesR), (34, lreadR), (35, provesR)]) (by kernel_rfl) (by kernel_rfl) (callW_of ann10 func10 rfl (by kernel_rfl) ?_)
  simp [c1, d1, e1, f1, g1]
  refine callK_pure rfl (by simp [PV.pureL, pv]) (lparse_ok lib _ t hv0 ht.short) fun r hr => ?_
  simp only [lparseR, tp_eq hv0] at hr
  rcases hr with ⟨p, x, hp, hx, rfl⟩ | ⟨hno, e, he, rfl⟩
  · have hpt := hp.tiny ht
    have hxp := hx.lp.pure
    have hx0 := hx
    obtain ⟨xo, xr, xb, rfl, m1, m2, m3⟩ := hx.lp
    obtain ⟨i1, i2, i3, i4⟩ := m1.cell
    obtain ⟨j1, j2, j3, j4⟩ := m2.cell
    obtain ⟨l1, l2, l3, l4⟩ := m3.cell
    have n1 := m1.len
    have n2 := m2.len
    by_cases hk : u.kind = 1 ∨ u.kind = 2 ∨ u.kind = 3
    · have hk1 : ¬ u.kind < 1 := by omega
      have hk2 : ¬ 3 < u.kind := by omega
      simp [i1, j1, l1, hk1, hk2, n1, n2]
      refine callK_pure rfl (by simp only [PV.pureL, pw', Bool.true_and]; rfl) (sizes_ok _ u p.obj.length p.rows.length hw0 hk) fun r hr => ?_
      simp only [sizesR, to_eq hw0, Int.toNat_natCast] at hr
      obtain ⟨e, rfl, he⟩ := hr
      rw [hp.1.1, hp.2.1] at he
      by_cases hs : SizeT u t.obj.length t.rows.length
      · have e0 := he.2 hs
        subst e0
        simp []
        refine callK_pure rfl (by simp [PV.pureL, pw']) (lread_ok lib _ u hw0 hu.short) fun r hr => ?_
        simp only [lreadR, to_eq hw0] at hr
        rcases hr with ⟨o, y, ho, hy, rfl⟩ | ⟨hno, e, y, o, he, hy, rfl⟩
        · have hyp := hy.pure
          have hy0 := hy
          obtain ⟨b, m, c, n, vp, vd, vr', rfl, q1, q2, q3, q4⟩ := hy
          obtain ⟨b', m', c', n', d, ee, a1, a2, _⟩ := q1.cases
          simp only [PV.agg.injEq, List.cons.injEq, PV.bool.injEq, and_true] at ee
          obtain ⟨rfl, rfl, rfl, rfl⟩ := ee
          have so := sizeOk_of hp ho hs
          simp [a1.cell.1, a2.cell.1, q2.cell.1, q3.cell.1, q4.cell.1]
          refine callK_pure rfl (by simp [PV.pureL, hxp, hyp]) (proves_ok _ _ p o hx0 hpt hy0 so (ho.fits hu)) fun r hr => ?_
          simp only [provesR, pr_eq hx0, so_eq hy0] at hr
          subst hr
          by_cases hpr : Proves p o
          · have hB : provB p o = true := provB_iff.2 hpr
            simp [hB]
            exact outK_pure rfl ⟨_, rfl, fun _ => ⟨p, o, hp, ho, hs, hpr⟩, fun _ => rfl⟩
          · have hB : provB p o = false := by rw [← Bool.not_eq_true]; exact fun h => hpr (provB_iff.1 h)
            simp [hB]
            refine bad (by decide) fun ⟨p', o', hp', ho', _, hpr'⟩ => hpr ?_
            rw [hp.inj hp', ho.inj ho']; exact hpr'
        · have he1 : (e != 0) = true := by simpa using he
          obtain ⟨b, m, c, n, vp, vd, vr', rfl, q1, q2, q3, q4⟩ := hy
          obtain ⟨b', m', c', n', d, ee, a1, a2, _⟩ := q1.cases
          simp only [PV.agg.injEq, List.cons.injEq, PV.bool.injEq, and_true] at ee
          obtain ⟨rfl, rfl, rfl, rfl⟩ := ee
          simp [a1.cell.1, a2.cell.1, q2.cell.1, q3.cell.1, q4.cell.1, he1]
          exact bad he fun ⟨p', o', _, ho', _⟩ => hno o' ho'
      · have he0 : e ≠ 0 := fun h => hs (he.1 h)
        have he1 : (e != 0) = true := by simpa using he0
        simp [he1]
        exact bad he0 fun ⟨p', o', _, _, hs', _⟩ => hs hs'
    · have nacc : ¬ Acc t u := fun ⟨p', o', _, _, hs', _⟩ => hk (by
        rcases hs' with ⟨h, _⟩ | ⟨h, _⟩ | ⟨h, _⟩
        · exact .inl h
        · exact .inr (.inl h)
        · exact .inr (.inr h))
      by_cases hk1 : u.kind < 1
      · simp [i1, j1, l1, hk1]
        exact bad (by decide) nacc
      · have hk2 : 3 < u.kind := by omega
        simp [i1, j1, l1, hk1, hk2]
        exact bad (by decide) nacc
  · have he1 : (e != 0) = true := by simpa using he
    simp [zeroP, he1]
    exact bad he fun ⟨p', o', hp', _⟩ => hno p' hp'
end Go.Proofs.Tryz
