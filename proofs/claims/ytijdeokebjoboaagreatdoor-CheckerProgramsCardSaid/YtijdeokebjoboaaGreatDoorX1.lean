/- The machine on symbols: checker.Program's parts. No condition. -/
import Derived.Test.YtijdeokebjoboaaGreatDoorW9
set_option linter.unusedVariables false
set_option linter.unusedSimpArgs false
set_option linter.unusedSectionVars false
set_option linter.unnecessarySimpa false
set_option maxHeartbeats 4000000
set_option maxRecDepth 100000
namespace Go.Proofs.Tryz
open Go Go.Pi Go.Num Go.Lin
variable [Hole] {G : Nat → Option PV}
def IsCR (v : PV) (x : List Rat) (y : Rat) : Prop := ∃ w b m c u, v = .agg [w, .bool b, m, .bool c, u] ∧ IsRL w x ∧ IsRat (.agg [.bool b, m, .bool c, u]) y
theorem IsCR.pure {v : PV} {x : List Rat} {y : Rat} (h : IsCR v x y) : v.pureB = true := by
 obtain ⟨w, b, m, c, u, rfl, h1, h2⟩ := h
 have := h2.pure
 simp only [PV.pureB, PV.pureL, Bool.and_eq_true] at this ⊢
 simp [this, h1.pure]
def IsCRows (v : PV) (p : LP) : Prop := (v = .nil ∧ p.m = 0) ∨ ∃ es, v = .slice es ∧ es.length = p.m ∧ ∀ i, i < p.m → ∃ w, es[i]? = some w ∧ IsCR w (rowAt p.rows i) (gq p.bounds i)
theorem IsCRows.len {v : PV} {p : LP} (h : IsCRows v p) : lenPV v = some p.m := by
 rcases h with ⟨rfl, h⟩ | ⟨es, rfl, h, _⟩
 ·rw [h]; rfl
 ·simp [lenPV, h]
theorem IsCRows.cell {v : PV} {p : LP} (h : IsCRows v p) : v.cellOk = true ∧ v.cells = [v] ∧ v.isTop = false ∧ v.ids = [] ∧ v.pureB = true := by
 rcases h with ⟨rfl, _⟩ | ⟨es, rfl, _⟩ <;> exact ⟨rfl, rfl, rfl, rfl, rfl⟩
def CprogT (t : TP) (r : PV) : Prop := (∃ p io vr, RdP t p ∧ RV io p.n (gq p.obj) ∧ IsCRows vr p ∧ r = .tuple [.slice io, vr, .bool true]) ∨ ((∀ p, ¬ RdP t p) ∧ r = .tuple [.nil, .nil, .bool false])
noncomputable def cprogR : CRel | [v], r => CprogT (tp v) r | _, _ => False
def RowsI (t : TP) (i : Nat) (rs : List PV) (X : Nat → Nat → Rat) (B : Nat → Rat) : Prop := rs.length = i ∧ ∀ l, l < i → ∃ es b m c u, rs[l]? = some (.agg [.slice es, .bool b, m, .bool c, u]) ∧ RV es t.obj.length (X l) ∧ (∀ q, q < t.obj.length → RatText (gt (t.rc l) q) (X l q)) ∧
 IsRat (.agg [.bool b, m, .bool c, u]) (B l) ∧ RatText (t.rb l) (B l) ∧ (t.rc l).length = t.obj.length
theorem RowsI.pure {t : TP} {i : Nat} {rs : List PV} {X : Nat → Nat → Rat} {B : Nat → Rat} (h : RowsI t i rs X B) : ∀ v ∈ rs, v.pureB = true := fun v hv => by
 obtain ⟨q, hq, rfl⟩ := List.getElem_of_mem hv
 obtain ⟨es, b, m, c, u, h1, h2, _, h3, _⟩ := h.2 q (by rw [← h.1]; exact hq)
 rw [List.getElem?_eq_getElem hq] at h1
 rw [Option.some.inj h1]
 have := h3.pure
 simpa [PV.pureB, PV.pureL] using this
theorem mkCr {t : TP} {rs : List PV} {xo : List Rat} {X : Nat → Nat → Rat} {B : Nat → Rat} (ho1 : Rd t.obj xo) (h : RowsI t t.rows.length rs X B) : ∃ p, RdP t p ∧ p.obj = xo ∧ IsCRows (sv t.rows.length rs) p := by
 obtain ⟨p, hp⟩ : ∃ p : LP, p = ⟨xo, (List.range t.rows.length).map fun l => lst t.obj.length (X l), lst t.rows.length B⟩ := ⟨_, rfl⟩
 have e1 : p.obj = xo := by rw [hp]
 have e2 : p.m = t.rows.length := by rw [hp]; simp [LP.m]
 have e3 : p.bounds = lst t.rows.length B := by rw [hp]
 have e4 : ∀ l, l < t.rows.length → rowAt p.rows l = lst t.obj.length (X l) := fun l hl => by rw [hp]; exact rowAt_map hl
 refine ⟨p, ⟨by rw [e1]; exact ho1, e2, by rw [e3, lst_len], fun i hi => ?_⟩, e1, ?_⟩
 ·obtain ⟨es, b, m, c, u, h1, h2, h3, h4, h5, h6⟩ := h.2 i hi
  refine ⟨h6, ⟨by rw [e4 i hi, lst_len, h6], fun q hq => ?_⟩, by rw [e3, lst_gq hi]; exact h5⟩
  rw [e4 i hi, lst_gq (by rw [← h6]; exact hq)]
  exact h3 q (by rw [← h6]; exact hq)
 ·rcases Nat.eq_zero_or_pos t.rows.length with m0 | m0
  ·exact .inl ⟨by rw [m0]; rfl, by rw [e2, m0]⟩
  ·refine .inr ⟨rs, sv_pos m0, by rw [h.1, e2], fun i hi => ?_⟩
   rw [e2] at hi
   obtain ⟨es, b, m, c, u, h1, h2, h3, h4, h5, h6⟩ := h.2 i hi
   refine ⟨_, h1, _, b, m, c, u, rfl, ?_, by rw [e3, lst_gq hi]; exact h4⟩
   rw [e4 i hi]; exact lst_rl h2
def cpI (io : List PV) (vr : PV) (t : TP) : Nat → List PV → St → Prop := fun w vs st => ∃ (i k jr : Nat) (rs : List PV) (X : Nat → Nat → Rat) (B : Nat → Rat) (H : List (Nat × Ent)), vs = [.int .i64 (i : Int), .int .i64 (t.rows.length : Int), slv jr i, vr, .int .i64 (t.obj.length : Int), .slice io] ∧ i + w = t.rows.length ∧
 RowsI t i rs X B ∧ (0 < i → Go.Pi.look H jr = some ⟨5, rs⟩ ∧ jr < k) ∧ (∀ q ∈ H, q.1 < k) ∧ st = ⟨k, H, []⟩
theorem cprog_ok (lib : ReadLib G) (v : PV) (t : TP) (hv : IsTP v t) (hs : t.Short) : Gives prog G 21 [v] (cprogR [v]) := by
 have hfe : cprogR [v] = CprogT t := by funext r; simp only [cprogR, tp_eq hv]
 rw [hfe]
 have err : ∀ {s : St}, (∀ p, ¬ RdP t p) → outK (CprogT t) (.tuple [.nil, .nil, .bool false]) s := fun h => outK_pure rfl (.inr ⟨h, rfl⟩)
 obtain ⟨vo, vr, rfl, h1, h2⟩ := hv
 obtain ⟨c1, c2, c3, c4⟩ := h1.cell
 obtain ⟨d1, d2, d3, d4, d5⟩ := h2.cell
 have lo := h1.len
 have lr := h2.len
 have t1 := hs.n
 have t2 := hs.m
 have g1 : ¬ (96 : Int) < t.obj.length := by omega
 have g2 : ¬ (256 : Int) < t.rows.length := by omega
 refine gives (S := [(22, creadsR), (24, readR)]) (by kernel_rfl) (by kernel_rfl) (callW_of ann21 func21 rfl (by kernel_rfl) ?_)
 simp [c1, d1, lo]
 refine callK_pure rfl (by simp [PV.pureL, h1.pure]) (creads_ok lib vo t.obj h1 hs.obj (by omega)) fun r hr => ?_
 simp only [creadsR, sl_eq h1] at hr
 rcases hr with ⟨xo, io, ho1, ho2, rfl⟩ | ⟨ho, rfl⟩
 ·simp [lr, g1, g2]
  refine loopK_of (cpI io vr t) rfl rfl ?step t.rows.length _ _ ?init
  case init => exact ⟨0, _, 0, [], fun _ _ => 0, fun _ => 0, _, rfl, by omega, ⟨rfl, fun l h => absurd h (Nat.not_lt_zero l)⟩, fun h => absurd h (Nat.lt_irrefl 0), by simp, rfl⟩
  case step =>
  rintro w vs st ⟨i, k, jr, rs, X, B, H, rfl, hiw, hR, lj, hlt, rfl⟩
  rcases Nat.eq_zero_or_pos w with h3 | h3
  ·have hi : i = t.rows.length := by omega
   subst hi
   simp []
   obtain ⟨p, hp1, hp2, hp3⟩ := mkCr ho1 hR
   have ho3 : RV io p.n (gq p.obj) := by
    have : p.n = xo.length := by show p.obj.length = _; rw [hp2]
    rw [this, hp2]; exact ho2
   rcases Nat.eq_zero_or_pos t.rows.length with m0 | m0
   ·have e1 : slv jr t.rows.length = .nil := by rw [m0]; rfl
    have e3 : ∀ es, sv t.rows.length es = .nil := fun es => by rw [m0]; rfl
    rw [e3] at hp3
    rw [e1]
    exact outK_pure rfl (.inl ⟨p, io, _, hp1, ho3, hp3, rfl⟩)
   ·obtain ⟨lr1, jk⟩ := lj m0
    rw [sv_pos m0] at hp3
    rw [slv_pos m0]
    have hb : reifyW (St.mk (k + 1 + 1 + 1 + 1 + 1 + 1) H []).hp (reifyN (St.mk (k + 1 + 1 + 1 + 1 + 1 + 1) H []).hp 5) (.own jr 0 t.rows.length) = some (.slice rs, [jr]) := reifyW_own lr1 hR.1 (by decide) hR.pure
    exact outK_tuple rfl (by simp only [reifyWL, hb, reifyW_pure (.slice io) rfl, reifyW_pure (.bool true) rfl]; rfl) (.inl ⟨p, io, _, hp1, ho3, hp3, rfl⟩)
  ·have hi : i < t.rows.length := by omega
   have hii : (i : Int) < t.rows.length := by omega
   have wi : IntKind.i64.wrap ((i : Int) + 1) = ((i + 1 : Nat) : Int) := w_i64 (by omega)
   obtain ⟨es, rfl, esl, hes⟩ : ∃ es, vr = .slice es ∧ es.length = t.rows.length ∧ ∀ i, i < t.rows.length → ∃ w, es[i]? = some (.agg [w, .str (ba (t.rb i))]) ∧ IsSL w (t.rc i) := by
    rcases h2 with ⟨_, h⟩ | h
    ·rw [h] at hi; simp at hi
    ·exact h
   obtain ⟨rw_, f1, f2⟩ := hes i hi
   obtain ⟨r1, r2, r3, r4⟩ := f2.cell
   have f1' := getE f1
   have lsl : lenPV (.slice es) = some t.rows.length := by simp [lenPV, esl]
   simp [hii, f1, r1]
   refine callK_pure rfl (by simp [PV.pureL, f2.pure]) (creads_ok lib rw_ (t.rc i) f2 (hs.row i hi) (by have := hs.rl i hi; omega)) fun r hr => ?_
   simp only [creadsR, sl_eq f2] at hr
   rcases hr with ⟨xr, ir, hr1, hr2, rfl⟩ | ⟨ho, rfl⟩
   ·simp []
    refine callK_pure rfl rfl (Read_ok lib (t.rb i) (hs.bnd i hi)) fun r hr => ?_
    simp only [readR, ba_list] at hr
    obtain ⟨b, m, c, u, e, x, rfl, hx1, hx2⟩ := hr.cases
    obtain ⟨b', m', c', u', d, ee, i1, i2, _⟩ := hx1.cases
    simp only [PV.agg.injEq, List.cons.injEq, PV.bool.injEq, and_true] at ee
    obtain ⟨rfl, rfl, rfl, rfl⟩ := ee
    obtain ⟨a1, a2, a3, a4, a5⟩ := i1.cell
    obtain ⟨b1, b2, b3, b4, b5⟩ := i2.cell
    rcases hx2 with ⟨rfl, hx2⟩ | ⟨he, hx2⟩
    ·have irl := hr2.len
     by_cases hn : xr.length = t.obj.length
     ·have hn1 : ((xr.length : Int) != t.obj.length) = false := by rw [hn]; simp
      have lir : lenPV (.slice ir) = some xr.length := by simp [lenPV, irl]
      have rwl : (t.rc i).length = t.obj.length := by rw [← hr1.1]; exact hn
      have next : ∀ (k3 j1 : Nat) (H3 : List (Nat × Ent)), Go.Pi.look H3 j1 = some ⟨5, rs ++ [.agg [.slice ir, .bool b, m, .bool c, u]]⟩ → (∀ q ∈ H3, q.1 < k3) → j1 < k3 → ∃ m', m' < w ∧ cpI io (.slice es) t m' [.int .i64 (IntKind.i64.wrap ((i : Int) + 1)), .int .i64 (t.rows.length : Int), .own j1 0 (i + 1), .slice es, .int .i64 (t.obj.length : Int), .slice io] ⟨k3, H3, []⟩ := fun k3 j1 H3 g1 g2 g3 => by
       refine ⟨w - 1, by omega, i + 1, k3, j1, _, fun l q => if l = i then gq xr q else X l q, fun l => if l = i then x else B l, H3, by rw [wi, slv_pos (by omega)], by omega, ⟨by rw [List.length_append, hR.1]; rfl, fun l hl => ?_⟩, fun _ => ⟨g1, g3⟩, g2, rfl⟩
       rcases lt_succ_cases hl with h4 | rfl
       ·obtain ⟨es1, b1, m1, c1, u1, k1, k2, k3, k4, k5, k6⟩ := hR.2 l h4
        refine ⟨es1, b1, m1, c1, u1, by rw [List.getElem?_append_left (by rw [hR.1]; omega)]; exact k1, k2.congr fun q hq => (if_neg (by omega)).symm, fun q hq => ?_, ?_, ?_, k6⟩
        ·dsimp only; rw [if_neg (by omega)]; exact k3 q hq
        ·dsimp only; rw [if_neg (by omega)]; exact k4
        ·dsimp only; rw [if_neg (by omega)]; exact k5
       ·refine ⟨ir, b, m, c, u, by rw [List.getElem?_append_right (by rw [hR.1]; exact Nat.le_refl _), hR.1, Nat.sub_self]; rfl, ?_, fun q hq => ?_, ?_, ?_, rwl⟩
        ·rw [← hn]
         exact hr2.congr fun q hq => (if_pos rfl).symm
        ·dsimp only; rw [if_pos rfl]; exact hr1.2 q (by omega)
        ·dsimp only; rw [if_pos rfl]; exact hx1
        ·dsimp only; rw [if_pos rfl]; exact hx2
      rcases Nat.eq_zero_or_pos i with i0 | i0
      ·have es0 : slv jr i = .nil := by rw [i0]; rfl
       rw [es0]
       simp [a1, b1, lir, hn1, buildSliceOp, putParts, repeatP, uniform, PV.pureL, PV.pureB, appendOp, appended, elems, a5, b5]
       have er : rs = [] := List.eq_nil_of_length_eq_zero (by rw [hR.1]; exact i0)
       have := next
       rw [er, i0] at this
       rw [i0]
       refine this _ _ _ (by rw [look_one_cons]; rfl) ?_ (by omega)
       exact cons_lt (cons_lt (m := k + 1 + 1 + 1 + 1 + 1 + 1 + 1 + 1 + 1 + 1 + 1 + 1 + 1 + 1 + 1 + 1 + 1 + 1 + 1 + 1) (cons_lt (m := k + 1 + 1 + 1 + 1) hlt (by omega) (by omega)) (by omega) (by omega)) (by omega) (by omega)
      ·have es0 : slv jr i = .own jr 0 i := slv_pos i0
       rw [es0]
       obtain ⟨lr1, jk⟩ := lj i0
       have hrl := hR.1
       have mk1 : (2 * (i + 1) + 1000) * 88 ≤ 140737488355328 := by omega
       have sx : ¬ i + 1 ≤ i := by omega
       have q1 : ¬ k + 1 + 1 + 1 + 1 + 1 + 1 + 1 + 1 + 1 + 1 + 1 + 1 + 1 + 1 + 1 + 1 + 1 + 1 + 1 = jr := by omega
       have q2 : ¬ k + 1 + 1 + 1 = jr := by omega
       simp [a1, b1, lir, hn1, buildSliceOp, putParts, repeatP, uniform, PV.pureL, PV.pureB, appendOp, appended, elems, a5, b5, lr1, hrl, mk1, sx, q1, q2, del]
       refine next _ _ _ (by rw [look_one_cons]) ?_ (by omega)
       exact cons_lt (cons_lt (m := k + 1 + 1 + 1 + 1 + 1 + 1 + 1 + 1 + 1 + 1 + 1 + 1 + 1 + 1 + 1 + 1 + 1 + 1 + 1 + 1) (cons_lt (m := k + 1 + 1 + 1 + 1) (del_lt hlt) (by omega) (by omega)) (by omega) (by omega)) (by omega) (by omega)
     ·have hn1 : ((xr.length : Int) != t.obj.length) = true := by simp only [bne_iff_ne, ne_eq]; omega
      have lir : lenPV (.slice ir) = some xr.length := by simp [lenPV, irl]
      simp [a1, b1, lir, hn1]
      exact err fun p hp => hn (by have := (hp.2.2.2 i hi).1; rw [hr1.1]; exact this)
    ·have he1 : (e != 0) = true := by simpa using he
     simp [a1, b1, he1]
     exact err fun p hp => hx2 _ (hp.2.2.2 i hi).2.2
   ·simp []
    refine callK_pure rfl rfl (Read_ok lib (t.rb i) (hs.bnd i hi)) fun r hr => ?_
    simp only [readR, ba_list] at hr
    obtain ⟨b, m, c, u, e, x, rfl, hx1, hx2⟩ := hr.cases
    obtain ⟨b', m', c', u', d, ee, i1, i2, _⟩ := hx1.cases
    simp only [PV.agg.injEq, List.cons.injEq, PV.bool.injEq, and_true] at ee
    obtain ⟨rfl, rfl, rfl, rfl⟩ := ee
    simp [i1.cell.1, i2.cell.1]
    exact err fun p hp => ho _ (hp.2.2.2 i hi).2.1
 ·simp []
  exact err fun p hp => ho _ hp.1
def pdI (va vb : PV) (a b : List Rat) : Nat → List PV → St → Prop := fun w vs st => ∃ (i k : Nat) (sv : PV), vs = [.int .i64 (i : Int), .ptr 1 0 0, .int .i64 (a.length : Int), va, vb, .ptr 0 0 0] ∧ i + w = a.length ∧ IsRat sv (dotS a b i) ∧ 1 < k ∧ st = ⟨k, [(1, ⟨4, [sv]⟩), (0, ⟨4, [ratZero]⟩)], []⟩
theorem product_ok (va vb : PV) (a b : List Rat) (K : Nat) (ha : IsRL va a) (hb : IsRL vb b) (hl : a.length ≤ b.length) (hn : a.length < 1000) (fa : LFits a K) (fb : LFits b K) (hK : 1 + a.length * (2 * K + 1) ≤ 90000) (hK2 : K ≤ 30000) : Gives prog G 29 [va, vb] (dotR [va, vb]) := by
 have hfe : dotR [va, vb] = fun r => IsRat r (dotL a b) := by funext r; simp only [dotR, rl_eq ha, rl_eq hb]
 rw [hfe]
 have la := ha.len
 refine gives (S := [(59, rmulR), (58, raddR)]) (by kernel_rfl) (by kernel_rfl) (callW_of ann29 func29 rfl (by kernel_rfl) ?_)
 simp [la, zero_rat]
 refine loopK_of (pdI va vb a b) rfl rfl ?step a.length _ _ ?init
 case init => exact ⟨0, _, ratZero, rfl, by omega, isRat_zero, by omega, rfl⟩
 case step =>
 rintro w vs st ⟨i, k, sv, rfl, hiw, hs, hk, rfl⟩
 have hs0 := hs
 obtain ⟨sb, sm, sc, su, sd, rfl, s1, s2, _⟩ := hs.cases
 obtain ⟨s11, s12, s13, s14, s15⟩ := s1.cell
 obtain ⟨s21, s22, s23, s24, s25⟩ := s2.cell
 rcases Nat.eq_zero_or_pos w with h0 | h0
 ·have hi : i = a.length := by omega
  subst hi
  simp [s11, s21, ratZero]
  exact outK_pure hs0.pure hs0
 ·have hi : i < a.length := by omega
  have hii : (i : Int) < a.length := by omega
  have wi : IntKind.i64.wrap ((i : Int) + 1) = ((i + 1 : Nat) : Int) := w_i64 (by omega)
  obtain ⟨ea, rfl, ra⟩ := ha.at hi
  obtain ⟨eb, rfl, rb⟩ := hb.at (show i < b.length by omega)
  obtain ⟨b2, m2, cc2, u2, d2, g1, g2, g3, g4⟩ := ra.get hi
  obtain ⟨x1, x2, x3, x4, x5⟩ := g3.cell
  obtain ⟨y1, y2, y3, y4, y5⟩ := g4.cell
  obtain ⟨b3, m3, cc3, u3, d3, j1, j2, j3, j4⟩ := rb.get (show i < b.length by omega)
  obtain ⟨v1, v2, v3, v4, v5⟩ := j3.cell
  obtain ⟨w1, w2, w3, w4, w5⟩ := j4.cell
  have g1' := getE g1
  have j1' := getE j1
  have eal := ra.len
  have ebl := rb.len
  have hib : i < b.length := by omega
  have fS := (dotS_fits fa fb hl i (by omega))
  have fS2 : 1 + i * (2 * K + 1) ≤ 90000 := Nat.le_trans (Nat.add_le_add_left (Nat.mul_le_mul_right _ (by omega)) 1) hK
  simp [run_draw, hi, hii, hib, g1', j1', eal, ebl]
  refine dcallK_pure rfl (by simp [PV.pureL, g2.pure, j2.pure]) (rmul_ok _ _ _ _ g2 j2 ((fa i hi).mono (by omega)) ((fb i hib).mono (by omega))) fun r hr => ?_
  simp only [rmulR, ratv_eq g2, ratv_eq j2] at hr
  simp []
  refine dcallK_pure rfl (by simp [PV.pureL, hs0.pure, hr.pure]) (radd_ok _ _ _ _ hs0 hr (fS.mono (by omega)) (((fa i hi).mul (fb i hib)).mono (by omega))) fun r9 hr9 => ?_
  simp only [raddR, ratv_eq hs0, ratv_eq hr] at hr9
  obtain ⟨b8, m8, cc8, u8, d8, rfl, t1, t2, _⟩ := hr.cases
  obtain ⟨t11, t12, t13, t14, t15⟩ := t1.cell
  obtain ⟨t21, t22, t23, t24, t25⟩ := t2.cell
  have hr9' := hr9
  obtain ⟨b9, m9, cc9, u9, d9, rfl, o1, o2, _⟩ := hr9'.cases
  obtain ⟨o11, o12, o13, o14, o15⟩ := o1.cell
  obtain ⟨o21, o22, o23, o24, o25⟩ := o2.cell
  simp [wi, x2, y2, v2, w2, s12, s22, t12, t22, o11, o21]
  refine ⟨logOk_free (by simp only [List.map_cons, List.map_nil, tri, List.isEmpty_nil, List.isEmpty_cons]; decide +kernel), w - 1, by omega, i + 1, _, _, rfl, by omega, hr9, by omega, rfl⟩
noncomputable def acceptedR : CRel | [.bool b], r => r = .int .i64 (if b then 0 else 27) | _, _ => False
theorem accepted_ok (b : Bool) : Gives prog G 25 [.bool b] (acceptedR [.bool b]) := by
 refine gives (S := []) (by kernel_rfl) (by kernel_rfl) (callW_of ann25 func25 rfl (by kernel_rfl) ?_)
 cases b
 ·simp []
  exact outK_pure rfl rfl
 ·simp []
  exact outK_pure rfl rfl
noncomputable def eq1R : CRel | [v, w], r => r = .bool (decide (ratv v = ratv w)) | _, _ => False
theorem eq1_ok (v w : PV) (x y : Rat) (hv : IsRat v x) (hw : IsRat w y) (fx : RFits x 100000) (fy : RFits y 100000) : Gives prog G 62 [v, w] (eq1R [v, w]) := by
 have hfe : eq1R [v, w] = fun r => r = .bool (decide (x = y)) := by funext r; simp only [eq1R, ratv_eq hv, ratv_eq hw]
 rw [hfe]
 have hv0 := hv
 have hw0 := hw
 obtain ⟨b2, m2, cc2, u2, d2, rfl, g3, g4, _⟩ := hv.cases
 obtain ⟨b3, m3, cc3, u3, d3, rfl, j3, j4, _⟩ := hw.cases
 refine gives (S := [(27, rcompareR)]) (by kernel_rfl) (by kernel_rfl) (callW_of ann62 func62 rfl (by kernel_rfl) ?_)
 simp [g3.cell.1, g4.cell.1, j3.cell.1, j4.cell.1]
 refine callK_pure rfl (by simp [PV.pureL, hv0.pure, hw0.pure]) (rcompare_ok _ _ _ _ hv0 hw0 fx fy) fun r hr => ?_
 simp only [rcompareR, ratv_eq hv0, ratv_eq hw0] at hr
 subst hr
 have CE := cmp_eq0 (x := x) (y := y)
 simp []
 exact outK_pure rfl (by rw [← CE])
noncomputable def equalB (a b : List Rat) : Bool := decide (a.length = b.length ∧ ∀ i, i < a.length → gq a i = gq b i)
noncomputable def equalR : CRel | v :: w :: _, r => r = .bool (equalB (rl v) (rl w)) | _, _ => False
def eqI (va vb : PV) (a b : List Rat) : Nat → List PV → St → Prop := fun w vs st => ∃ (i k : Nat) (H : List (Nat × Ent)), vs = [.int .i64 (i : Int), .int .i64 (a.length : Int), va, vb, .func 62 []] ∧ i + w = a.length ∧ (∀ l, l < i → gq a l = gq b l) ∧ (∀ q ∈ H, q.1 < k) ∧ st = ⟨k, H, []⟩
theorem eqfunc_ok (va vb : PV) (a b : List Rat) (ha : IsRL va a) (hb : IsRL vb b) (hn : a.length < 1000) (fa : LFits a 100000) (fb : LFits b 100000) : Gives prog G 61 [va, vb, .func 62 []] (equalR [va, vb, .func 62 []]) := by
 have hfe : equalR [va, vb, .func 62 []] = fun r => r = .bool (equalB a b) := by funext r; simp only [equalR, rl_eq ha, rl_eq hb]
 rw [hfe]
 have la := ha.len
 have lb := hb.len
 refine gives (S := [(62, eq1R)]) (by kernel_rfl) (by kernel_rfl) (callW_of ann61 func61 rfl (by kernel_rfl) ?_)
 by_cases hl : a.length = b.length
 ·have hl1 : ((a.length : Int) != b.length) = false := by rw [hl]; simp
  simp [la, lb, hl1]
  refine loopK_of (eqI va vb a b) rfl rfl ?step a.length _ _ ?init
  case init => exact ⟨0, _, _, rfl, by omega, fun l h => absurd h (Nat.not_lt_zero l), by simp, rfl⟩
  case step =>
  rintro w vs st ⟨i, k, H, rfl, hiw, hall, hlt, rfl⟩
  rcases Nat.eq_zero_or_pos w with h0 | h0
  ·have hi : i = a.length := by omega
   subst hi
   simp []
   exact outK_pure rfl (by rw [show equalB a b = true from decide_eq_true ⟨hl, hall⟩])
  ·have hi : i < a.length := by omega
   have hib : i < b.length := by omega
   have hii : (i : Int) < a.length := by omega
   have wi : IntKind.i64.wrap ((i : Int) + 1) = ((i + 1 : Nat) : Int) := w_i64 (by omega)
   obtain ⟨ea, rfl, ra⟩ := ha.at hi
   obtain ⟨eb, rfl, rb⟩ := hb.at hib
   obtain ⟨b2, m2, cc2, u2, d2, g1, g2, g3, g4⟩ := ra.get hi
   obtain ⟨x1, x2, x3, x4, x5⟩ := g3.cell
   obtain ⟨y1, y2, y3, y4, y5⟩ := g4.cell
   obtain ⟨b3, m3, cc3, u3, d3, j1, j2, j3, j4⟩ := rb.get hib
   obtain ⟨v1, v2, v3, v4, v5⟩ := j3.cell
   obtain ⟨w1, w2, w3, w4, w5⟩ := j4.cell
   have g1' := getE g1
   have j1' := getE j1
   have eal := ra.len
   have ebl := rb.len
   have n7 : ¬ k + 1 + 1 + 1 + 1 + 1 + 1 + 1 = k := by omega
   simp [hi, hii, hib, g1', j1', eal, ebl, x1, y1, v1, w1, n7]
   refine callK_pure rfl (by simp [PV.pureL, g2.pure, j2.pure]) (eq1_ok _ _ _ _ g2 j2 (fa i hi) (fb i hib)) fun r hr => ?_
   simp only [eq1R, ratv_eq g2, ratv_eq j2] at hr
   subst hr
   by_cases he : gq a i = gq b i
   ·simp [he, wi]
    refine ⟨w - 1, by omega, i + 1, _, _, rfl, by omega, fun l hl => ?_, ?_, rfl⟩
    ·rcases lt_succ_cases hl with h4 | rfl
     ·exact hall l h4
     ·exact he
    ·exact cons_lt (cons_lt (m := k + 1 + 1 + 1 + 1 + 1 + 1 + 1) hlt (by omega) (by omega)) (by omega) (by omega)
   ·simp [he]
    exact outK_pure rfl (by rw [show equalB a b = false from decide_eq_false fun h => he (h.2 i hi)])
 ·have hl1 : ((a.length : Int) != b.length) = true := by simp only [bne_iff_ne, ne_eq]; omega
  simp [la, lb, hl1]
  exact outK_pure rfl (by rw [show equalB a b = false from decide_eq_false fun h => hl h.1])
theorem equal_ok (va vb : PV) (a b : List Rat) (ha : IsRL va a) (hb : IsRL vb b) (hn : a.length < 1000) (fa : LFits a 100000) (fb : LFits b 100000) : Gives prog G 26 [va, vb] (equalR [va, vb]) := by
 have hfe : equalR [va, vb] = fun r => r = .bool (equalB a b) := by funext r; simp only [equalR, rl_eq ha, rl_eq hb]
 rw [hfe]
 refine gives (S := [(61, equalR)]) (by kernel_rfl) (by kernel_rfl) (callW_of ann26 func26 rfl (by kernel_rfl) ?_)
 simp []
 refine callK_pure rfl (by simp [PV.pureL, PV.pureB, ha.pure, hb.pure]) (eqfunc_ok va vb a b ha hb hn fa fb) fun r hr => ?_
 simp only [equalR, rl_eq ha, rl_eq hb] at hr
 subst hr
 simp []
 exact outK_pure rfl rfl
theorem IsCR.inj {v : PV} {x x' : List Rat} {y y' : Rat} (h : IsCR v x y) (h' : IsCR v x' y') : x = x' ∧ y = y' := by
 obtain ⟨w, b, m, c, u, rfl, h1, h2⟩ := h
 obtain ⟨w', b', m', c', u', e, k1, k2⟩ := h'
 simp only [PV.agg.injEq, List.cons.injEq, PV.bool.injEq, and_true] at e
 obtain ⟨rfl, rfl, rfl, rfl, rfl⟩ := e
 exact ⟨IsRL.inj h1 k1, h2.inj k2⟩
noncomputable def cr (v : PV) : List Rat × Rat := the (fun z => IsCR v z.1 z.2)
theorem cr_eq {v : PV} {x : List Rat} {y : Rat} (h : IsCR v x y) : cr v = (x, y) := the_eq (a := (x, y)) h fun z h' => by
 have := IsCR.inj h' h
 exact Prod.ext this.1 this.2
noncomputable def ask67 (v w : PV) : Bool := decide ((cr v).2 < dotL (cr v).1 (rl w))
noncomputable def ask32 (v w : PV) : Bool := decide (0 < dotL (cr v).1 (rl w))
open Classical in
noncomputable def anyB (q : PV → PV → Bool) (v w : PV) : Bool := decide (∃ es, v = .slice es ∧ ∃ x ∈ es, q x w = true)
open Classical in
theorem anyB_iff {q : PV → PV → Bool} {v w : PV} : anyB q v w = true ↔ ∃ es, v = .slice es ∧ ∃ x ∈ es, q x w = true := by unfold anyB; exact decide_eq_true_iff
theorem cmp_gt {x y : Rat} : decide (cmpR x y > 0) = decide (y < x) := cmpR_gt
noncomputable def pred67R : CRel | [v, .eptr w 0], r => r = .bool (ask67 v w) | _, _ => False
noncomputable def idx67R : CRel | [v, .func 67 [.eptr w 0]], r => ∃ n, r = .int .i64 n ∧ (0 ≤ n ↔ anyB ask67 v w = true) | _, _ => False
noncomputable def cont67R : CRel | [v, .func 67 [.eptr w 0]], r => r = .bool (anyB ask67 v w) | _, _ => False
theorem pred67_ok (v w : PV) (a x : List Rat) (y : Rat) (K : Nat) (hv : IsCR v a y) (hw : IsRL w x) (hn : a.length = x.length) (hx : x.length ≤ 10) (fa : LFits a K) (fx : LFits x K) (fy : RFits y 90000) (hK : K ≤ 1000) : Gives prog G 67 [v, .eptr w 0] (pred67R [v, .eptr w 0]) := by
 have hfe : pred67R [v, .eptr w 0] = fun r => r = .bool (decide (y < dotL a x)) := by funext r; simp only [pred67R, ask67, cr_eq hv, rl_eq hw]
 rw [hfe]
 obtain ⟨ww, b, m, c, u, rfl, k1, k2⟩ := hv
 obtain ⟨b', m', c', u', d, ee, i1, i2, _⟩ := k2.cases
 simp only [PV.agg.injEq, List.cons.injEq, PV.bool.injEq, and_true] at ee
 obtain ⟨rfl, rfl, rfl, rfl⟩ := ee
 have bnd : 1 + a.length * (2 * K + 1) ≤ 90000 := by
  have : a.length * (2 * K + 1) ≤ 10 * 2001 := Nat.mul_le_mul (by omega) (by omega)
  omega
 have fd : RFits (dotL a x) 90000 := (dotS_fits fa fx (by omega) _ (Nat.le_refl _)).mono bnd
 refine gives (S := [(29, dotR), (27, rcompareR)]) (by kernel_rfl) (by kernel_rfl) (callW_of ann67 func67 rfl (by kernel_rfl) ?_)
 simp [run_draw, k1.cell.1, i1.cell.1, i2.cell.1, hw.cell.2.1]
 refine dcallK_pure rfl (by simp [PV.pureL, k1.pure, hw.pure]) (product_ok ww w a x K k1 hw (by omega) (by omega) fa fx bnd (by omega)) fun r hr => ?_
 simp only [dotR, rl_eq k1, rl_eq hw] at hr
 simp []
 refine dcallK_pure rfl (by simp [PV.pureL, hr.pure, k2.pure]) (rcompare_ok _ _ _ _ hr k2 (fd.mono (by omega)) (fy.mono (by omega))) fun r2 hr2 => ?_
 simp only [rcompareR, ratv_eq hr, ratv_eq k2] at hr2
 subst hr2
 obtain ⟨b9, m9, cc9, u9, d9, rfl, o1, o2, _⟩ := hr.cases
 have CG := cmp_gt (x := dotL a x) (y := y)
 simp [k1.cell.2.2.2, i1.cell.2.1, i2.cell.2.1, hw.cell.2.2.2, o1.cell.2.1, o2.cell.2.1]
 exact ⟨by decide +kernel, outK_pure rfl (by rw [← CG])⟩
def ixI67 (v w : PV) (es : List PV) : Nat → List PV → St → Prop := fun n vs st => ∃ (i k : Nat) (H : List (Nat × Ent)), vs = [.int .i64 (i : Int), .int .i64 (es.length : Int), .func 67 [.eptr w 0], v] ∧ i + n = es.length ∧ (∀ l x, l < i → es[l]? = some x → ask67 x w = false) ∧ st = ⟨k, H, []⟩
theorem idx67_ok (v w : PV) (p : LP) (x : List Rat) (K : Nat) (hv : IsCRows v p) (hw : IsRL w x) (hn : ∀ i, i < p.m → (rowAt p.rows i).length = x.length) (hx : x.length ≤ 10) (hm : p.m ≤ 100) (fr : ∀ i, i < p.m → LFits (rowAt p.rows i) K) (fb : LFits p.bounds 90000) (fx : LFits x K) (hK : K ≤ 1000) (hbl : p.bounds.length = p.m) : Gives prog G 69 [v, .func 67 [.eptr w 0]] (idx67R [v, .func 67 [.eptr w 0]]) := by
 have lv := hv.len
 refine gives (S := [(67, pred67R)]) (by kernel_rfl) (by kernel_rfl) (callW_of ann69 func69 rfl (by kernel_rfl) ?_)
 obtain ⟨es, hes, hel⟩ : ∃ es, ((v = .nil ∧ es = []) ∨ v = .slice es) ∧ es.length = p.m := by
  rcases hv with ⟨rfl, h⟩ | ⟨es, rfl, h, _⟩
  ·exact ⟨[], .inl ⟨rfl, rfl⟩, h.symm⟩
  ·exact ⟨es, .inr rfl, h⟩
 simp [lv]
 rw [← hel]
 refine loopK_of (ixI67 v w es) rfl rfl ?step es.length _ _ ?init
 case init => exact ⟨0, _, _, rfl, by omega, fun l x h => absurd h (Nat.not_lt_zero l), rfl⟩
 case step =>
 rintro n vs st ⟨i, k, H, rfl, hin, hall, rfl⟩
 rcases Nat.eq_zero_or_pos n with h0 | h0
 ·have hi : i = es.length := by omega
  subst hi
  simp []
  refine outK_pure rfl ⟨_, rfl, fun h => by omega, fun h => ?_⟩
  exfalso
  obtain ⟨es', e, y, hy, hq⟩ := anyB_iff.1 h
  rcases hes with ⟨e2, _⟩ | e2
  ·rw [e] at e2; cases e2
  ·rw [e] at e2; cases e2
   obtain ⟨l, hl, rfl⟩ := List.getElem_of_mem hy
   rw [hall l _ hl (List.getElem?_eq_getElem hl)] at hq
   cases hq
 ·have hi : i < es.length := by omega
  have hii : (i : Int) < es.length := by omega
  have wi : IntKind.i64.wrap ((i : Int) + 1) = ((i + 1 : Nat) : Int) := w_i64 (by omega)
  obtain rfl : v = .slice es := by
   rcases hes with ⟨_, h⟩ | h
   ·rw [h] at hi; simp at hi
   ·exact h
  obtain ⟨row, f1, f2⟩ : ∃ w, es[i]? = some w ∧ IsCR w (rowAt p.rows i) (gq p.bounds i) := by
   rcases hv with ⟨e, _⟩ | ⟨es', e, _, h⟩
   ·cases e
   ·cases e; exact h i (by omega)
  have f1' := getE f1
  have f2p := f2.pure
  have f20 := f2
  obtain ⟨ww, b, m, c, u, rfl, k1, k2⟩ := f2
  simp [hi, hii, f1']
  refine callK_pure rfl (by simp only [PV.pureL, f2p, Bool.true_and]; simp [PV.pureB]) (pred67_ok _ w (rowAt p.rows i) x (gq p.bounds i) K f20 hw (hn i (by omega)) hx (fr i (by omega)) fx (fb i (by omega)) hK) fun r hr => ?_
  simp only [pred67R] at hr
  subst hr
  cases hq : ask67 (.agg [ww, .bool b, m, .bool c, u]) w with
  | true =>
   simp []
   refine outK_pure rfl ⟨_, rfl, fun _ => anyB_iff.2 ⟨es, rfl, _, List.mem_of_getElem? f1, hq⟩, fun _ => by omega⟩
  | false =>
   simp [wi]
   refine ⟨n - 1, by omega, i + 1, _, _, rfl, by omega, fun l x hl hx => ?_, rfl⟩
   rcases lt_succ_cases hl with h4 | rfl
   ·exact hall l x h4 hx
   ·rw [f1] at hx; cases hx; exact hq
theorem cont67_ok (v w : PV) (p : LP) (x : List Rat) (K : Nat) (hv : IsCRows v p) (hw : IsRL w x) (hn : ∀ i, i < p.m → (rowAt p.rows i).length = x.length) (hx : x.length ≤ 10) (hm : p.m ≤ 100) (fr : ∀ i, i < p.m → LFits (rowAt p.rows i) K) (fb : LFits p.bounds 90000) (fx : LFits x K) (hK : K ≤ 1000) (hbl : p.bounds.length = p.m) : Gives prog G 31 [v, .func 67 [.eptr w 0]] (cont67R [v, .func 67 [.eptr w 0]]) := by
 have pv := hv.cell.2.2.2.2
 refine gives (S := [(69, idx67R)]) (by kernel_rfl) (by kernel_rfl) (callW_of ann31 func31 rfl (by kernel_rfl) ?_)
 simp []
 refine callK_pure rfl (by simp [PV.pureL, pv, PV.pureB]) (idx67_ok v w p x K hv hw hn hx hm fr fb fx hK hbl) fun r hr => ?_
 simp only [idx67R] at hr
 obtain ⟨n, rfl, h⟩ := hr
 simp []
 refine outK_pure rfl ?_
 show PV.bool _ = PV.bool _
 rw [PV.bool.injEq, Bool.eq_iff_iff, decide_eq_true_eq]
 exact h
noncomputable def pred32R : CRel | [v, .eptr w 0], r => r = .bool (ask32 v w) | _, _ => False
noncomputable def idx32R : CRel | [v, .func 32 [.eptr w 0]], r => ∃ n, r = .int .i64 n ∧ (0 ≤ n ↔ anyB ask32 v w = true) | _, _ => False
noncomputable def cont32R : CRel | [v, .func 32 [.eptr w 0]], r => r = .bool (anyB ask32 v w) | _, _ => False
theorem pred32_ok (v w : PV) (a x : List Rat) (y : Rat) (K : Nat) (hv : IsCR v a y) (hw : IsRL w x) (hn : a.length = x.length) (hx : x.length ≤ 10) (fa : LFits a K) (fx : LFits x K) (fy : RFits y 90000) (hK : K ≤ 1000) : Gives prog G 32 [v, .eptr w 0] (pred32R [v, .eptr w 0]) := by
 have hfe : pred32R [v, .eptr w 0] = fun r => r = .bool (decide (0 < dotL a x)) := by funext r; simp only [pred32R, ask32, cr_eq hv, rl_eq hw]
 rw [hfe]
 obtain ⟨ww, b, m, c, u, rfl, k1, k2⟩ := hv
 obtain ⟨b', m', c', u', d, ee, i1, i2, _⟩ := k2.cases
 simp only [PV.agg.injEq, List.cons.injEq, PV.bool.injEq, and_true] at ee
 obtain ⟨rfl, rfl, rfl, rfl⟩ := ee
 have bnd : 1 + a.length * (2 * K + 1) ≤ 90000 := by
  have : a.length * (2 * K + 1) ≤ 10 * 2001 := Nat.mul_le_mul (by omega) (by omega)
  omega
 refine gives (S := [(29, dotR), (30, rsignR)]) (by kernel_rfl) (by kernel_rfl) (callW_of ann32 func32 rfl (by kernel_rfl) ?_)
 simp [k1.cell.1, i1.cell.1, i2.cell.1, hw.cell.2.1]
 refine callK_pure rfl (by simp [PV.pureL, k1.pure, hw.pure]) (product_ok ww w a x K k1 hw (by omega) (by omega) fa fx bnd (by omega)) fun r hr => ?_
 simp only [dotR, rl_eq k1, rl_eq hw] at hr
 simp []
 refine callK_pure rfl (by simp [PV.pureL, hr.pure]) (rsign_ok _ _ hr) fun r2 hr2 => ?_
 simp only [rsignR, ratv_eq hr] at hr2
 subst hr2
 simp []
 exact outK_pure rfl (by simp only [num_pos])
def ixI32 (v w : PV) (es : List PV) : Nat → List PV → St → Prop := fun n vs st => ∃ (i k : Nat) (H : List (Nat × Ent)), vs = [.int .i64 (i : Int), .int .i64 (es.length : Int), .func 32 [.eptr w 0], v] ∧ i + n = es.length ∧ (∀ l x, l < i → es[l]? = some x → ask32 x w = false) ∧ st = ⟨k, H, []⟩
theorem idx32_ok (v w : PV) (p : LP) (x : List Rat) (K : Nat) (hv : IsCRows v p) (hw : IsRL w x) (hn : ∀ i, i < p.m → (rowAt p.rows i).length = x.length) (hx : x.length ≤ 10) (hm : p.m ≤ 100) (fr : ∀ i, i < p.m → LFits (rowAt p.rows i) K) (fb : LFits p.bounds 90000) (fx : LFits x K) (hK : K ≤ 1000) (hbl : p.bounds.length = p.m) : Gives prog G 69 [v, .func 32 [.eptr w 0]] (idx32R [v, .func 32 [.eptr w 0]]) := by
 have lv := hv.len
 refine gives (S := [(32, pred32R)]) (by kernel_rfl) (by kernel_rfl) (callW_of ann69 func69 rfl (by kernel_rfl) ?_)
 obtain ⟨es, hes, hel⟩ : ∃ es, ((v = .nil ∧ es = []) ∨ v = .slice es) ∧ es.length = p.m := by
  rcases hv with ⟨rfl, h⟩ | ⟨es, rfl, h, _⟩
  ·exact ⟨[], .inl ⟨rfl, rfl⟩, h.symm⟩
  ·exact ⟨es, .inr rfl, h⟩
 simp [lv]
 rw [← hel]
 refine loopK_of (ixI32 v w es) rfl rfl ?step es.length _ _ ?init
 case init => exact ⟨0, _, _, rfl, by omega, fun l x h => absurd h (Nat.not_lt_zero l), rfl⟩
 case step =>
 rintro n vs st ⟨i, k, H, rfl, hin, hall, rfl⟩
 rcases Nat.eq_zero_or_pos n with h0 | h0
 ·have hi : i = es.length := by omega
  subst hi
  simp []
  refine outK_pure rfl ⟨_, rfl, fun h => by omega, fun h => ?_⟩
  exfalso
  obtain ⟨es', e, y, hy, hq⟩ := anyB_iff.1 h
  rcases hes with ⟨e2, _⟩ | e2
  ·rw [e] at e2; cases e2
  ·rw [e] at e2; cases e2
   obtain ⟨l, hl, rfl⟩ := List.getElem_of_mem hy
   rw [hall l _ hl (List.getElem?_eq_getElem hl)] at hq
   cases hq
 ·have hi : i < es.length := by omega
  have hii : (i : Int) < es.length := by omega
  have wi : IntKind.i64.wrap ((i : Int) + 1) = ((i + 1 : Nat) : Int) := w_i64 (by omega)
  obtain rfl : v = .slice es := by
   rcases hes with ⟨_, h⟩ | h
   ·rw [h] at hi; simp at hi
   ·exact h
  obtain ⟨row, f1, f2⟩ : ∃ w, es[i]? = some w ∧ IsCR w (rowAt p.rows i) (gq p.bounds i) := by
   rcases hv with ⟨e, _⟩ | ⟨es', e, _, h⟩
   ·cases e
   ·cases e; exact h i (by omega)
  have f1' := getE f1
  have f2p := f2.pure
  have f20 := f2
  obtain ⟨ww, b, m, c, u, rfl, k1, k2⟩ := f2
  simp [hi, hii, f1']
  refine callK_pure rfl (by simp only [PV.pureL, f2p, Bool.true_and]; simp [PV.pureB]) (pred32_ok _ w (rowAt p.rows i) x (gq p.bounds i) K f20 hw (hn i (by omega)) hx (fr i (by omega)) fx (fb i (by omega)) hK) fun r hr => ?_
  simp only [pred32R] at hr
  subst hr
  cases hq : ask32 (.agg [ww, .bool b, m, .bool c, u]) w with
  | true =>
   simp []
   refine outK_pure rfl ⟨_, rfl, fun _ => anyB_iff.2 ⟨es, rfl, _, List.mem_of_getElem? f1, hq⟩, fun _ => by omega⟩
  | false =>
   simp [wi]
   refine ⟨n - 1, by omega, i + 1, _, _, rfl, by omega, fun l x hl hx => ?_, rfl⟩
   rcases lt_succ_cases hl with h4 | rfl
   ·exact hall l x h4 hx
   ·rw [f1] at hx; cases hx; exact hq
theorem cont32_ok (v w : PV) (p : LP) (x : List Rat) (K : Nat) (hv : IsCRows v p) (hw : IsRL w x) (hn : ∀ i, i < p.m → (rowAt p.rows i).length = x.length) (hx : x.length ≤ 10) (hm : p.m ≤ 100) (fr : ∀ i, i < p.m → LFits (rowAt p.rows i) K) (fb : LFits p.bounds 90000) (fx : LFits x K) (hK : K ≤ 1000) (hbl : p.bounds.length = p.m) : Gives prog G 31 [v, .func 32 [.eptr w 0]] (cont32R [v, .func 32 [.eptr w 0]]) := by
 have pv := hv.cell.2.2.2.2
 refine gives (S := [(69, idx32R)]) (by kernel_rfl) (by kernel_rfl) (callW_of ann31 func31 rfl (by kernel_rfl) ?_)
 simp []
 refine callK_pure rfl (by simp [PV.pureL, pv, PV.pureB]) (idx32_ok v w p x K hv hw hn hx hm fr fb fx hK hbl) fun r hr => ?_
 simp only [idx32R] at hr
 obtain ⟨n, rfl, h⟩ := hr
 simp []
 refine outK_pure rfl ?_
 show PV.bool _ = PV.bool _
 rw [PV.bool.injEq, Bool.eq_iff_iff, decide_eq_true_eq]
 exact h
theorem holds_iff {p : LP} {x : List Rat} : holdsB p x = true ↔ ∀ i, i < p.m → dotL (rowAt p.rows i) x ≤ gq p.bounds i := by
 unfold holdsB LP.m
 rw [decide_eq_true_iff]
theorem any67 {v w : PV} {p : LP} {x : List Rat} (hv : IsCRows v p) (hw : IsRL w x) : anyB ask67 v w = !holdsB p x := by
 have key : anyB ask67 v w = true ↔ ¬ holdsB p x = true := by
  rw [anyB_iff, holds_iff]
  constructor
  ·rintro ⟨es, rfl, y, hy, hq⟩ h
   rcases hv with ⟨e, _⟩ | ⟨es', e, hl, hr⟩
   ·cases e
   ·cases e
    obtain ⟨l, hl2, rfl⟩ := List.getElem_of_mem hy
    obtain ⟨z, h1, h2⟩ := hr l (by omega)
    rw [List.getElem?_eq_getElem hl2] at h1
    rw [Option.some.inj h1] at hq
    unfold ask67 at hq
    rw [cr_eq h2, rl_eq hw, decide_eq_true_iff] at hq
    have := h l (by omega)
    dsimp only at hq
    grind
  ·intro h
   rcases hv with ⟨rfl, hm⟩ | ⟨es, rfl, hl, hr⟩
   ·exact absurd (fun i hi => by omega) h
   ·obtain ⟨i, hi⟩ := Classical.not_forall.1 h
    obtain ⟨hi, hn⟩ := Classical.not_imp.1 hi
    obtain ⟨z, h1, h2⟩ := hr i hi
    refine ⟨es, rfl, z, List.mem_of_getElem? h1, ?_⟩
    unfold ask67
    rw [cr_eq h2, rl_eq hw, decide_eq_true_iff]
    dsimp only
    grind
 cases h1 : anyB ask67 v w <;> cases h2 : holdsB p x <;> simp [h1, h2] at key ⊢
theorem any32 {v w : PV} {p : LP} {x : List Rat} (hv : IsCRows v p) (hw : IsRL w x) : anyB ask32 v w = true ↔ ¬ ∀ i, i < p.m → dotL (rowAt p.rows i) x ≤ 0 := by
 rw [anyB_iff]
 constructor
 ·rintro ⟨es, rfl, y, hy, hq⟩ h
  rcases hv with ⟨e, _⟩ | ⟨es', e, hl, hr⟩
  ·cases e
  ·cases e
   obtain ⟨l, hl2, rfl⟩ := List.getElem_of_mem hy
   obtain ⟨z, h1, h2⟩ := hr l (by omega)
   rw [List.getElem?_eq_getElem hl2] at h1
   rw [Option.some.inj h1] at hq
   unfold ask32 at hq
   rw [cr_eq h2, rl_eq hw, decide_eq_true_iff] at hq
   have := h l (by omega)
   dsimp only at hq
   grind
 ·intro h
  rcases hv with ⟨rfl, hm⟩ | ⟨es, rfl, hl, hr⟩
  ·exact absurd (fun i hi => by omega) h
  ·obtain ⟨i, hi⟩ := Classical.not_forall.1 h
   obtain ⟨hi, hn⟩ := Classical.not_imp.1 hi
   obtain ⟨z, h1, h2⟩ := hr i hi
   refine ⟨es, rfl, z, List.mem_of_getElem? h1, ?_⟩
   unfold ask32
   rw [cr_eq h2, rl_eq hw, decide_eq_true_iff]
   dsimp only
   grind
theorem reifyL_clos {hp : Nat → Option Ent} {v w : PV} {f r : Nat} (hv : v.pureB = true) (hw : w.pureB = true) (h : hp r = some ⟨1, [w]⟩) : reifyL hp [v, .func f [.ptr r 0 0]] = some ([v, .func f [.eptr w 0]], [r]) := by
 have h0 : reifyN hp 5 w = some (w, []) := reifyW_pure w hw
 have h1 : reify hp (.func f [.ptr r 0 0]) = some (.func f [.eptr w 0], [r]) := by
  unfold reify
  rw [show (PV.func f [.ptr r 0 0]).pureB = false from rfl]
  show reifyW hp (reifyN hp 5) (.func f [.ptr r 0 0]) = _
  simp only [reifyW, reifyWL, h, List.getElem?_cons_zero, Option.bind_some, h0]
  rfl
 simp only [reifyL, mapR, h1, reify_pure hv]
 rfl
noncomputable def fulfilledR : CRel | [v, w], r => r = .bool (!anyB ask67 v w) | _, _ => False
theorem fulfilled_ok (v w : PV) (p : LP) (x : List Rat) (K : Nat) (hv : IsCRows v p) (hw : IsRL w x) (hn : ∀ i, i < p.m → (rowAt p.rows i).length = x.length) (hx : x.length ≤ 10) (hm : p.m ≤ 100) (fr : ∀ i, i < p.m → LFits (rowAt p.rows i) K) (fb : LFits p.bounds 90000) (fx : LFits x K) (hK : K ≤ 1000) (hbl : p.bounds.length = p.m) : Gives prog G 28 [v, w] (fulfilledR [v, w]) := by
 have pv := hv.cell.2.2.2.2
 refine gives (S := [(31, cont67R)]) (by kernel_rfl) (by kernel_rfl) (callW_of ann28 func28 rfl (by kernel_rfl) ?_)
 simp [hw.cell.1, hw.cell.2.1]
 refine callK_spec rfl (reifyL_clos pv hw.pure rfl) (cont67_ok v w p x K hv hw hn hx hm fr fb fx hK hbl) fun r hr => ?_
 simp only [cont67R] at hr
 subst hr
 simp [thaw, PV.bareB]
 exact outK_pure rfl rfl
def CmbT (p : LP) (n : Nat) (y : List Rat) (r : PV) : Prop := ∃ w cs bd fine, r = .tuple [w, .bool fine] ∧ IsCR w cs bd ∧ (fine = true ↔ y.length = p.m ∧ ∀ i, i < p.m → 0 ≤ gq y i) ∧ (fine = true → cs.length = n ∧ (∀ j, j < n → gq cs j = cmbS p y p.m j) ∧ bd = dotL y p.bounds)
noncomputable def crows (v : PV) : LP → Prop := IsCRows v
def coI (p : LP) (n : Nat) (y : List Rat) (vr vy : PV) : Nat → List PV → St → Prop := fun w vs st => ∃ (i k : Nat) (es : List PV) (sb sc : Bool) (sm su : PV) (H : List (Nat × Ent)), vs = [.ptr 5 0 0, .int .i64 (i : Int), vr, .int .i64 (p.m : Int), .ptr 0 0 0, vy] ∧ i + w = p.m ∧ RV es n (cmbS p y i) ∧ IsRat (.agg [.bool sb, sm, .bool sc, su]) (dotS y p.bounds i) ∧ (∀ l, l < i → 0 ≤ gq y l) ∧
 Go.Pi.look H 5 = some ⟨5, [.agg [.own 3 0 n, .bool sb, sm, .bool sc, su]]⟩ ∧ Go.Pi.look H 3 = some ⟨4, es⟩ ∧ Go.Pi.look H 0 = some ⟨5, [.agg [.nil, .bool false, .nil, .bool false, .nil]]⟩ ∧ (∀ q ∈ H, q.1 < k) ∧ 5 < k ∧ st = ⟨k, H, []⟩
def coJ (p : LP) (n i n10 : Nat) (y : List Rat) (vr vy dv cv : PV) (sb sc : Bool) (sm su : PV) : Nat → List PV → St → Prop := fun w vs st => ∃ (j k : Nat) (es : List PV) (H : List (Nat × Ent)), vs = [.int .i64 (j : Int), .ptr 5 0 0, .int .i64 (n : Int), cv, .ptr n10 0 0, .int .i64 (i : Int), .int .i64 (p.m : Int), .ptr 0 0 0, vy, vr] ∧ j + w = n ∧ RV es n (fun q => if q < j then cmbS p y (i + 1) q else cmbS p y i q) ∧
 Go.Pi.look H n10 = some ⟨4, [dv]⟩ ∧ Go.Pi.look H 5 = some ⟨5, [.agg [.own 3 0 n, .bool sb, sm, .bool sc, su]]⟩ ∧ Go.Pi.look H 3 = some ⟨4, es⟩ ∧ Go.Pi.look H 0 = some ⟨5, [.agg [.nil, .bool false, .nil, .bool false, .nil]]⟩ ∧ (∀ q ∈ H, q.1 < k) ∧ 5 < n10 ∧ n10 < k ∧ st = ⟨k, H, []⟩
theorem outK_row {Q : PV → Prop} {s : St} {j n : Nat} {es : List PV} {f : Nat → Rat} {sb sc fine : Bool} {sm su : PV} (h : s.hp j = some ⟨4, es⟩) (hes : RV es n f) (p1 : sm.pureB = true) (p2 : su.pureB = true) (hq : Q (.tuple [.agg [.slice es, .bool sb, sm, .bool sc, su], .bool fine])) :
  outK Q (.tuple [.agg [.own j 0 n, .bool sb, sm, .bool sc, su], .bool fine]) s := by
 have hb : reifyW s.hp (reifyN s.hp 5) (.own j 0 n) = some (.slice es, [j]) := reifyW_own h hes.len (by decide) hes.pure
 have ha : reifyW s.hp (reifyN s.hp 5) (.agg [.own j 0 n, .bool sb, sm, .bool sc, su]) = some (.agg [.slice es, .bool sb, sm, .bool sc, su], [j]) := by
  rw [reifyW]
  simp only [reifyWL, hb, reifyW_pure (.bool sb) rfl, reifyW_pure (.bool sc) rfl, reifyW_pure sm p1, reifyW_pure su p2]
  rfl
 exact outK_tuple (by simp [PV.pureL, PV.pureB]) (by simp only [reifyWL, ha, reifyW_pure (.bool fine) rfl]; rfl) hq
theorem combine_ok (vr vy : PV) (p : LP) (y : List Rat) (n : Nat) (hv : IsCRows vr p) (hn : n = p.n) (ht : p.Tiny) (hy : IsRL vy y) (fy : LFits y 601) (yl : y.length ≤ 100) : Gives prog G 23 [vr, .int .i64 n, vy] (CmbT p n y) := by
 have pv := hv.cell.2.2.2.2
 have lv := hv.len
 have ly := hy.len
 have t1 := ht.m
 have t2 := ht.n
 have mk : n * 64 ≤ 140737488355328 := by omega
 have mk2 : n < 9223372036854775808 := by omega
 have mk3 : n * 4 ≤ 140737488355328 := by omega
 have zr1 : ratZero.cells.length = 4 := rfl
 have zr2 : ratZero.cells.all PV.cellOk = true := rfl
 refine gives (S := [(59, rmulR), (58, raddR), (30, rsignR)]) (by kernel_rfl) (by kernel_rfl) (callW_of ann23 func23 rfl (by kernel_rfl) ?_)
 by_cases hl : y.length = p.m
 ·have hl1 : ((y.length : Int) != p.m) = false := by rw [hl]; simp
  simp [lv, ly, mk, mk2, zero_rat, rep_eq, zr1, zr2, hl1]
  rw [hl]
  refine loopK_of (coI p n y vr vy) rfl rfl ?step1 p.m _ _ ?init1
  case init1 => exact ⟨0, _, _, _, _, _, _, _, rfl, by omega, RV.zero n, isRat_zero, fun l h => absurd h (Nat.not_lt_zero l), rfl, rfl, rfl, by simp, by omega, rfl⟩
  case step1 =>
  rintro w vs st ⟨i, k, es, sb, sc, sm, su, H, rfl, hiw, hes, hs, hpos, l5, l3, l0, hlt, hk, rfl⟩
  have hs0 := hs
  obtain ⟨sb', sm', sc', su', sd, ee, s1, s2, _⟩ := hs.cases
  simp only [PV.agg.injEq, List.cons.injEq, PV.bool.injEq, and_true] at ee
  obtain ⟨rfl, rfl, rfl, rfl⟩ := ee
  obtain ⟨s11, s12, s13, s14, s15⟩ := s1.cell
  obtain ⟨s21, s22, s23, s24, s25⟩ := s2.cell
  have lus0 : ∀ E, Go.Pi.look (Go.Pi.upd H 0 E) 0 = some E := fun E => look_upd_same l0
  rcases Nat.eq_zero_or_pos w with h0 | h0
  ·have hi : i = p.m := by omega
   subst hi
   simp [l5, l0, lus0, s11, s21]
   refine outK_row (j := 3) ((look_upd_ne (by decide)).trans l3) hes s15 s25 ⟨_, lst n (cmbS p y p.m), dotS y p.bounds p.m, true, rfl, ⟨_, _, _, _, _, rfl, lst_rl hes, hs0⟩, ⟨fun _ => ⟨hl, hpos⟩, fun _ => rfl⟩, fun _ => ⟨lst_len _ _, fun j hj => lst_gq hj, ?_⟩⟩
   unfold dotL; rw [hl]
  ·have hi : i < p.m := by omega
   have hiy : i < y.length := by omega
   have hii : (i : Int) < p.m := by omega
   have wi : IntKind.i64.wrap ((i : Int) + 1) = ((i + 1 : Nat) : Int) := w_i64 (by omega)
   obtain ⟨ey, rfl, ry⟩ := hy.at hiy
   obtain ⟨b2, m2, cc2, u2, d2, g1, g2, g3, g4⟩ := ry.get hiy
   obtain ⟨x1, x2, x3, x4, x5⟩ := g3.cell
   obtain ⟨y1, y2, y3, y4, y5⟩ := g4.cell
   have g1' := getE g1
   have eyl : ey.length = p.m := by rw [ry.len]; exact hl
   obtain ⟨ers, rfl, erl, hrow⟩ : ∃ ers, vr = .slice ers ∧ ers.length = p.m ∧ ∀ i, i < p.m → ∃ w, ers[i]? = some w ∧ IsCR w (rowAt p.rows i) (gq p.bounds i) := by
    rcases hv with ⟨_, h⟩ | h
    ·omega
    ·exact h
   obtain ⟨row, f1, ww, rb, rm, rc, ru, rfl, k1, k2⟩ := hrow i hi
   have f1' := getE f1
   obtain ⟨rb', rm', rc', ru', rd, ee, r1, r2, _⟩ := k2.cases
   simp only [PV.agg.injEq, List.cons.injEq, PV.bool.injEq, and_true] at ee
   obtain ⟨rfl, rfl, rfl, rfl⟩ := ee
   obtain ⟨r11, r12, r13, r14, r15⟩ := r1.cell
   obtain ⟨r21, r22, r23, r24, r25⟩ := r2.cell
   have rowl : (rowAt p.rows i).length = n := by rw [ht.rl i hi, hn]
   have lw := k1.len
   rw [rowl] at lw
   have l10 : ∀ q, lenPV (.slice q) = some q.length := fun _ => rfl
   have nk5 : ¬ k + 1 + 1 + 1 + 1 = 5 := by omega
   have nk50 : ¬ k = 1 := by omega
   have nk0 : ¬ k + 1 + 1 + 1 + 1 = 0 := by omega
   simp [hii, hi, g1', eyl, x1, y1]
   refine callK_pure rfl (by simp [PV.pureL, g2.pure]) (rsign_ok _ _ g2) fun r hr => ?_
   simp only [rsignR, ratv_eq g2] at hr
   subst hr
   by_cases hB : gq y i < 0
   ·have hB1 : (gq y i).num.sign < 0 := by have := sign_lt (q := gq y i); simpa [hB] using this
    simp [hB1, l5, l0, lus0, s11, s21, nk5]
    have l3' : Go.Pi.look ((k + 1 + 1 + 1 + 1, (⟨4, [.agg [.bool b2, m2, .bool cc2, u2]]⟩ : Ent)) :: Go.Pi.upd H 0 ⟨5, [.agg [.own 3 0 n, .bool sb, sm, .bool sc, su]]⟩) 3 = some ⟨4, es⟩ := by rw [look_cons_ne (by omega), look_upd_ne (by decide)]; exact l3
    refine outK_row (j := 3) l3' hes s15 s25 ⟨_, lst n (cmbS p y i), dotS y p.bounds i, false, rfl, ⟨_, _, _, _, _, rfl, lst_rl hes, hs0⟩, ⟨fun h => (by cases h), fun h => ?_⟩, fun h => (by cases h)⟩
    have := h.2 i hi
    grind
   ·have hB1 : ¬ (gq y i).num.sign < 0 := by have := sign_lt (q := gq y i); simpa [hB] using this
    simp [run_draw, hB1, l5, nk5, erl, hi, f1']
    have fb : LFits p.bounds 601 := fun q hq => (ht.fbnd q hq).mono (by omega)
    have fS : RFits (dotS y p.bounds i) 90000 := (dotS_fits fy fb (by rw [hl, ht.bl]; exact Nat.le_refl _) i (by omega)).mono (by omega)
    refine dcallK_pure rfl (by simp [PV.pureL, g2.pure, k2.pure]) (rmul_ok _ _ _ _ g2 k2 ((fy i hiy).mono (by omega)) ((fb i (by rw [ht.bl]; exact hi)).mono (by omega))) fun r hr => ?_
    simp only [rmulR, ratv_eq g2, ratv_eq k2] at hr
    simp []
    refine dcallK_pure rfl (by simp [PV.pureL, hs0.pure, hr.pure]) (radd_ok _ _ _ _ hs0 hr (fS.mono (by omega)) (((fy i hiy).mul (fb i (by rw [ht.bl]; exact hi))).mono (by omega))) fun r9 hr9 => ?_
    simp only [raddR, ratv_eq hs0, ratv_eq hr] at hr9
    obtain ⟨b8, m8, cc8, u8, d8, rfl, t1', t2', _⟩ := hr.cases
    obtain ⟨t11, t12, t13, t14, t15⟩ := t1'.cell
    obtain ⟨t21, t22, t23, t24, t25⟩ := t2'.cell
    have hr9' := hr9
    obtain ⟨b9, m9, cc9, u9, d9, rfl, o1, o2, _⟩ := hr9'.cases
    obtain ⟨o11, o12, o13, o14, o15⟩ := o1.cell
    obtain ⟨o21, o22, o23, o24, o25⟩ := o2.cell
    have lus5 : ∀ E, Go.Pi.look (Go.Pi.upd H 5 E) 5 = some E := fun E => look_upd_same l5
    simp [l5, nk5, x2, y2, r12, r22, s12, s22, t12, t22, o11, o21, erl, hi, f1', lw]
    refine ⟨logOk_free (by simp only [List.map_cons, List.map_nil, tri, List.isEmpty_nil, List.isEmpty_cons]; decide +kernel), ?_⟩
    refine loopK_of (coJ p n i (k + 1 + 1 + 1 + 1) y (.slice ers) (.slice ey) (.agg [.bool b2, m2, .bool cc2, u2]) ww b9 cc9 m9 u9) rfl rfl ?step2 n _ _ ?init2
    case init2 => exact ⟨0, _, es, _, rfl, by omega, hes.congr fun q _ => (if_neg (Nat.not_lt_zero q)).symm, by rw [look_one_cons], by rw [look_cons_ne (by omega)]; exact look_upd_same l5, by rw [look_cons_ne (by omega), look_upd_ne (by decide)]; exact l3, by rw [look_cons_ne (by omega), look_upd_ne (by decide)]; exact l0, cons_lt (upd_lt hlt) (by omega) (by omega), by omega, by omega, rfl⟩
    case step2 =>
    obtain ⟨n10, e10⟩ : ∃ q, q = k + 1 + 1 + 1 + 1 := ⟨_, rfl⟩
    rw [← e10]
    clear l5 l3 l0 lus0 lus5 hlt nk5 nk50 nk0
    rintro w2 vs st ⟨j, k2, es2, H2, rfl, hj, hes2, lt, l5, l3, l0, hlt, hn10, hk2, rfl⟩
    rcases Nat.eq_zero_or_pos w2 with h3 | h3
    ·have hjn : j = n := by omega
     subst hjn
     simp [wi]
     refine ⟨w - 1, by omega, i + 1, _, es2, b9, cc9, m9, u9, H2, rfl, by omega, hes2.congr (fun q hq => if_pos hq), hr9, fun l hl => ?_, l5, l3, l0, fun q hq => Nat.lt_of_lt_of_le (hlt q hq) (by omega), by omega, rfl⟩
     rcases lt_succ_cases hl with h4 | rfl
     ·exact hpos l h4
     ·grind
    ·have hjn : j < n := by omega
     have hjj : (j : Int) < n := by omega
     have wj : IntKind.i64.wrap ((j : Int) + 1) = ((j + 1 : Nat) : Int) := w_i64 (by omega)
     obtain ⟨er, rfl, rr⟩ := k1.at (show j < (rowAt p.rows i).length by omega)
     obtain ⟨b3, m3, cc3, u3, d3, j1, j2, j3, j4⟩ := rr.get (show j < (rowAt p.rows i).length by omega)
     obtain ⟨v1, v2, v3, v4, v5⟩ := j3.cell
     obtain ⟨w1, w2', w3, w4, w5⟩ := j4.cell
     have j1' := getE j1
     have errl : er.length = n := by rw [rr.len, rowl]
     obtain ⟨b6, m6, cc6, u6, d6, q1, q2, q3, q4⟩ := hes2.get hjn
     rw [if_neg (Nat.lt_irrefl j)] at q2 q3
     obtain ⟨z1, z2, z3, z4, z5⟩ := q3.cell
     obtain ⟨y1', y2', y3', y4', y5'⟩ := q4.cell
     have q1' := getE q1
     have es2l := hes2.len
     have n5 : ¬ n10 = 5 := by omega
     have n3 : ¬ n10 = 3 := by omega
     have a5 : ¬ k2 + 1 + 1 + 1 + 1 = 5 := by omega
     have a3 : ¬ k2 + 1 + 1 + 1 + 1 = 3 := by omega
     have a10 : ¬ k2 + 1 + 1 + 1 + 1 = n10 := by omega
     have a50 : ¬ k2 = 1 := by omega
     have l11 : ∀ a b c, lenPV (.own a b c) = some c := fun _ _ _ => rfl
     simp [run_draw, hjj, hjn, j1', errl, v1, w1, lt, l5, l3, q1', es2l, a5, a3, a10]
     have fc : RFits (cmbS p y i j) 90000 := (cmbS_fits ht fy hl (by rw [← hn]; exact hjn) i (by omega)).mono (by omega)
     have fx : RFits (gq (rowAt p.rows i) j) 3 := ht.frow hi j (by rw [rowl]; exact hjn)
     refine dcallK_pure rfl (by simp [PV.pureL, g2.pure, j2.pure]) (rmul_ok _ _ _ _ g2 j2 ((fy i hiy).mono (by omega)) (fx.mono (by omega))) fun r hr => ?_
     simp only [rmulR, ratv_eq g2, ratv_eq j2] at hr
     simp []
     refine dcallK_pure rfl (by simp [PV.pureL, q2.pure, hr.pure]) (radd_ok _ _ _ _ q2 hr (fc.mono (by omega)) (((fy i hiy).mul fx).mono (by omega))) fun r2 hr2 => ?_
     simp only [raddR, ratv_eq q2, ratv_eq hr] at hr2
     obtain ⟨b7, m7, cc7, u7, d7, rfl, p1, p2, _⟩ := hr.cases
     obtain ⟨p11, p12, p13, p14, p15⟩ := p1.cell
     obtain ⟨p21, p22, p23, p24, p25⟩ := p2.cell
     have hr2' := hr2
     obtain ⟨bb, mm, cc, uu, dd, rfl, a1', a2', _⟩ := hr2'.cases
     obtain ⟨a11, a12, a13, a14, a15⟩ := a1'.cell
     obtain ⟨a21, a22, a23, a24, a25⟩ := a2'.cell
     have lus3 : ∀ E, Go.Pi.look (Go.Pi.upd H2 3 E) 3 = some E := fun E => look_upd_same l3
     simp [hjn, wj, l3, q1', es2l, a3, x2, y2, v2, w2', p12, p22, z2, y2', a11, a21]
     refine ⟨logOk_free (by simp only [List.map_cons, List.map_nil, tri, List.isEmpty_nil, List.isEmpty_cons]; decide +kernel), w2 - 1, by omega, ?_⟩
     refine ⟨j + 1, _, es2.set j (.agg [.bool bb, mm, .bool cc, uu]), _, rfl, by omega, (hes2.set hr2).congr fun q hq => ?_, ?_, ?_, ?_, ?_, ?_, by omega, ?_, rfl⟩
     rotate_left 5
     ·exact cons_lt (upd_lt hlt) (by omega) (by omega)
     ·omega
     ·by_cases hq2 : q = j
      ·subst hq2
       rw [if_pos rfl, if_pos (by omega)]
       rfl
      ·rw [if_neg hq2]
       by_cases hq3 : q < j
       ·rw [if_pos hq3, if_pos (by omega)]
       ·rw [if_neg hq3, if_neg (by omega)]
     ·rw [look_cons_ne (by omega), look_upd_ne (by omega)]; exact lt
     ·rw [look_cons_ne (by omega), look_upd_ne (by omega)]; exact l5
     ·rw [look_cons_ne (by omega)]; exact look_upd_same l3
     ·rw [look_cons_ne (by omega), look_upd_ne (by omega)]; exact l0
 ·have hl1 : ((y.length : Int) != p.m) = true := by simp only [bne_iff_ne, ne_eq]; omega
  simp [lv, ly, mk, mk2, rep_eq, hl1]
  exact outK_row (j := 3) (es := List.replicate n ratZero) (f := fun _ => 0) rfl (RV.zero n) rfl rfl ⟨.agg [.slice (List.replicate n ratZero), .bool false, .nil, .bool false, .nil], lst n (fun _ => 0), 0, false, rfl, ⟨_, _, _, _, _, rfl, lst_rl (RV.zero n), isRat_zero⟩, ⟨fun h => (by cases h), fun h => absurd h.1 hl⟩, fun h => (by cases h)⟩
theorem rd_nil {l : List (List UInt8)} {x : List Rat} (h : Rd l x) : x.length = l.length := h.1
theorem acc1 {t : TP} {u : TO} {p : LP} {x y z : List Rat} (hk : u.kind = 1) (hp : RdP t p) (hx : Rd u.pt x) (hy : Rd u.du y) (hz : Rd u.ray z) : Acc t u ↔ ∃ v, RatText u.val v ∧ x.length = p.n ∧ y.length = p.m ∧ z.length = 0 ∧ (∀ i, i < p.m → 0 ≤ gq y i) ∧ (∀ j, j < p.n → cmbS p y p.m j = gq p.obj j) ∧ (∀ i, i < p.m → dotL (rowAt p.rows i) x ≤ gq p.bounds i) ∧ dotL y p.bounds = v ∧ dotL p.obj x = v := by
 have e1 := hp.n
 have e2 := hp.m
 constructor
 ·rintro ⟨p', o, hp', ho, hs, hpr⟩
  obtain rfl := hp.inj hp'
  obtain ⟨h1, h2, h3, h4, h5, h6⟩ := ho
  obtain rfl := hx.inj h4
  obtain rfl := hy.inj h5
  obtain rfl := hz.inj h6
  rcases hpr with ⟨_, c, hd, r, b1, b2⟩ | ⟨k, _⟩ | ⟨k, _⟩
  ·exact ⟨o.val, h2 hk, hd.1, c.1, by rw [r]; rfl, c.2.1, c.2.2, hd.2, b1, b2⟩
  ·omega
  ·omega
 ·rintro ⟨v, hv, a1, a2, a3, a4, a5, a6, a7, a8⟩
  refine ⟨p, ⟨1, v, x, y, z⟩, hp, ⟨hk.symm, fun _ => hv, fun h => absurd hk h, hx, hy, hz⟩, .inl ⟨hk, by rw [← hx.1, a1, e1], by rw [← hy.1, a2, e2], by rw [← hz.1, a3]⟩, .inl ⟨rfl, ⟨a2, a4, a5⟩, ⟨a1, a6⟩, List.eq_nil_of_length_eq_zero a3, a7, a8⟩⟩
theorem acc2 {t : TP} {u : TO} {p : LP} {x y z : List Rat} (hk : u.kind = 2) (hp : RdP t p) (hx : Rd u.pt x) (hy : Rd u.du y) (hz : Rd u.ray z) : Acc t u ↔ u.val = [] ∧ x.length = 0 ∧ y.length = p.m ∧ z.length = 0 ∧ (∀ i, i < p.m → 0 ≤ gq y i) ∧ (∀ j, j < p.n → cmbS p y p.m j = 0) ∧ dotL y p.bounds < 0 := by
 have e1 := hp.n
 have e2 := hp.m
 constructor
 ·rintro ⟨p', o, hp', ho, hs, hpr⟩
  obtain rfl := hp.inj hp'
  obtain ⟨h1, h2, h3, h4, h5, h6⟩ := ho
  obtain rfl := hx.inj h4
  obtain rfl := hy.inj h5
  obtain rfl := hz.inj h6
  have hval : u.val = [] := by
   rcases hs with ⟨k, _⟩ | ⟨_, k, _⟩ | ⟨k, _⟩
   ·omega
   ·exact k
   ·omega
  rcases hpr with ⟨k, _⟩ | ⟨_, c, d, a, r⟩ | ⟨k, _⟩
  ·omega
  ·exact ⟨hval, by rw [a]; rfl, c.1, by rw [r]; rfl, c.2.1, c.2.2, d⟩
  ·omega
 ·rintro ⟨hv, a1, a2, a3, a4, a5, a6⟩
  refine ⟨p, ⟨2, 0, x, y, z⟩, hp, ⟨hk.symm, fun h => by omega, fun h => rfl, hx, hy, hz⟩, .inr (.inl ⟨hk, hv, by rw [← hx.1, a1], by rw [← hy.1, a2, e2], by rw [← hz.1, a3]⟩), .inr (.inl ⟨rfl, ⟨a2, a4, a5⟩, a6, List.eq_nil_of_length_eq_zero a1, List.eq_nil_of_length_eq_zero a3⟩)⟩
theorem acc3 {t : TP} {u : TO} {p : LP} {x y z : List Rat} (hk : u.kind = 3) (hp : RdP t p) (hx : Rd u.pt x) (hy : Rd u.du y) (hz : Rd u.ray z) : Acc t u ↔ u.val = [] ∧ x.length = p.n ∧ y.length = 0 ∧ z.length = p.n ∧ (∀ i, i < p.m → dotL (rowAt p.rows i) z ≤ 0) ∧ (∀ i, i < p.m → dotL (rowAt p.rows i) x ≤ gq p.bounds i) ∧ 0 < dotL p.obj z := by
 have e1 := hp.n
 have e2 := hp.m
 constructor
 ·rintro ⟨p', o, hp', ho, hs, hpr⟩
  obtain rfl := hp.inj hp'
  obtain ⟨h1, h2, h3, h4, h5, h6⟩ := ho
  obtain rfl := hx.inj h4
  obtain rfl := hy.inj h5
  obtain rfl := hz.inj h6
  have hval : u.val = [] := by
   rcases hs with ⟨k, _⟩ | ⟨k, _⟩ | ⟨_, k, _⟩
   ·omega
   ·omega
   ·exact k
  rcases hpr with ⟨k, _⟩ | ⟨k, _⟩ | ⟨_, a, b, c, d, e⟩
  ·omega
  ·omega
  ·exact ⟨hval, a.1, by rw [b]; rfl, c, d, a.2, e⟩
 ·rintro ⟨hv, a1, a2, a3, a4, a5, a6⟩
  refine ⟨p, ⟨3, 0, x, y, z⟩, hp, ⟨hk.symm, fun h => by omega, fun h => rfl, hx, hy, hz⟩, .inr (.inr ⟨hk, hv, by rw [← hx.1, a1, e1], by rw [← hy.1, a2], by rw [← hz.1, a3, e1]⟩), .inr (.inr ⟨rfl, ⟨a1, a5⟩, List.eq_nil_of_length_eq_zero a2, a3, a4, a6⟩)⟩
def IsCP (v : PV) (q : LP) : Prop := IsCRows v q ∧ q.obj = [] ∧ q.bounds.length = q.m
def LP.bare (p : LP) : LP := ⟨[], p.rows, p.bounds⟩
theorem IsCP.of {v : PV} {p : LP} (h : IsCRows v p) (hb : p.bounds.length = p.m) : IsCP v p.bare := ⟨h, rfl, hb⟩
theorem IsCP.inj {v : PV} {p q : LP} (h : IsCP v p) (h' : IsCP v q) : p = q := by
 obtain ⟨h1, h2, h3⟩ := h
 obtain ⟨k1, k2, k3⟩ := h'
 have hm : p.m = q.m := by
  have := h1.len
  rw [k1.len] at this
  exact (Option.some.inj this).symm
 have key : ∀ i, i < p.m → rowAt p.rows i = rowAt q.rows i ∧ gq p.bounds i = gq q.bounds i := fun i hi => by
  rcases h1 with ⟨_, h⟩ | ⟨es, rfl, _, h⟩
  ·omega
  ·rcases k1 with ⟨e, _⟩ | ⟨es', e, _, h'⟩
   ·cases e
   ·cases e
    obtain ⟨w, a1, a2⟩ := h i hi
    obtain ⟨w', b1, b2⟩ := h' i (by omega)
    rw [a1] at b1
    cases b1
    exact IsCR.inj a2 b2
 have e2 : p.rows = q.rows := by
  refine List.ext_getElem hm fun i a1 a2 => ?_
  have := (key i a1).1
  simpa [rowAt, List.getD, a1, a2] using this
 have e3 : p.bounds = q.bounds := by
  refine List.ext_getElem (by omega) fun i a1 a2 => ?_
  have := (key i (by omega)).2
  simpa [gq, List.getD, a1, a2] using this
 cases p; cases q
 simp only [LP.mk.injEq]
 exact ⟨by simp only at h2 k2; rw [h2, k2], e2, e3⟩
noncomputable def cpv (v : PV) : LP := the (IsCP v)
theorem cpv_eq {v : PV} {p : LP} (h : IsCP v p) : cpv v = p := the_eq h fun _ h' => IsCP.inj h' h
noncomputable def combineR : CRel | [v, .int _ n, w], r => CmbT (cpv v) n.toNat (rl w) r | _, _ => False
theorem combine_g (vr vy : PV) (p : LP) (y : List Rat) (n : Nat) (hv : IsCRows vr p) (hn : n = p.n) (ht : p.Tiny) (hy : IsRL vy y) (fy : LFits y 601) (yl : y.length ≤ 100) : Gives prog G 23 [vr, .int .i64 n, vy] (combineR [vr, .int .i64 n, vy]) := by
 have : combineR [vr, .int .i64 n, vy] = CmbT p n y := by
  funext r
  simp only [combineR, cpv_eq (IsCP.of hv ht.bl), rl_eq hy, Int.toNat_natCast]
  rfl
 rw [this]
 exact combine_ok vr vy p y n hv hn ht hy fy yl
theorem combineR_eq {vr vy : PV} {p : LP} {y : List Rat} {n : Nat} (hv : IsCRows vr p) (ht : p.Tiny) (hy : IsRL vy y) : combineR [vr, .int .i64 n, vy] = CmbT p n y := by
 funext r
 simp only [combineR, cpv_eq (IsCP.of hv ht.bl), rl_eq hy, Int.toNat_natCast]
 rfl
end Go.Proofs.Tryz
