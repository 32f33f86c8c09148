/- The machine on symbols: linear, run, solve, proves. No condition. -/
import Derived.Test.YtijdeokebjoboaaGreatDoorW4
import Derived.Test.YtijdeokebjoboaaGreatDoorW5
set_option linter.unusedVariables false
set_option linter.unusedSimpArgs false
set_option linter.unusedSectionVars false
set_option linter.unnecessarySimpa false
set_option maxHeartbeats 4000000
set_option maxRecDepth 100000
namespace Go.Proofs.Tryz
open Go Go.Pi Go.Num Go.Lin
variable [Hole] {G : Nat → Option PV}
structure LP where
 obj : List Rat
 rows : List (List Rat)
 bounds : List Rat
def rowAt (rs : List (List Rat)) (i : Nat) : List Rat := rs.getD i []
def IsRLs (v : PV) (rs : List (List Rat)) : Prop := (v = .nil ∧ rs = []) ∨ ∃ es, v = .slice es ∧ es.length = rs.length ∧ ∀ i, i < rs.length → ∃ w, es[i]? = some w ∧ IsRL w (rowAt rs i)
theorem IsRLs.inj {v : PV} {l m : List (List Rat)} (h : IsRLs v l) (h' : IsRLs v m) : l = m := by
 rcases h with ⟨rfl, rfl⟩ | ⟨es, rfl, h1, h2⟩
 ·rcases h' with ⟨_, rfl⟩ | ⟨es, e, _⟩
  ·rfl
  ·cases e
 ·rcases h' with ⟨e, _⟩ | ⟨es', e, h3, h4⟩
  ·cases e
  ·cases e
   have hl : l.length = m.length := by omega
   refine List.ext_getElem hl fun i k1 k2 => ?_
   obtain ⟨x, j1, j2⟩ := h2 i k1
   obtain ⟨y, j3, j4⟩ := h4 i k2
   rw [j1] at j3
   cases j3
   have := IsRL.inj j2 j4
   simpa [rowAt, List.getD, k1, k2] using this
theorem IsRLs.len {v : PV} {l : List (List Rat)} (h : IsRLs v l) : lenPV v = some l.length := by
 rcases h with ⟨rfl, rfl⟩ | ⟨es, rfl, h, _⟩
 ·rfl
 ·simp [lenPV, h]
theorem IsRLs.pure {v : PV} {l : List (List Rat)} (h : IsRLs v l) : v.pureB = true := by
 rcases h with ⟨rfl, _⟩ | ⟨es, rfl, _⟩ <;> rfl
theorem IsRLs.cell {v : PV} {l : List (List Rat)} (h : IsRLs v l) : v.cellOk = true ∧ v.cells = [v] ∧ v.isTop = false ∧ v.ids = [] := by
 rcases h with ⟨rfl, _⟩ | ⟨es, rfl, _⟩ <;> exact ⟨rfl, rfl, rfl, rfl⟩
theorem IsRL.cell {v : PV} {l : List Rat} (h : IsRL v l) : v.cellOk = true ∧ v.cells = [v] ∧ v.isTop = false ∧ v.ids = [] := by
 rcases h with ⟨rfl, _⟩ | ⟨es, rfl, _⟩ <;> exact ⟨rfl, rfl, rfl, rfl⟩
theorem IsRLs.at {v : PV} {l : List (List Rat)} (h : IsRLs v l) {i : Nat} (hi : i < l.length) : ∃ es w, v = .slice es ∧ es.length = l.length ∧ es[i]? = some w ∧ IsRL w (rowAt l i) := by
 rcases h with ⟨_, rfl⟩ | ⟨es, rfl, h1, h2⟩
 ·simp at hi
 ·obtain ⟨w, h3, h4⟩ := h2 i hi
  exact ⟨es, w, rfl, h1, h3, h4⟩
def IsLP (v : PV) (p : LP) : Prop := ∃ vo vr vb, v = .agg [vo, vr, vb] ∧ IsRL vo p.obj ∧ IsRLs vr p.rows ∧ IsRL vb p.bounds
noncomputable instance : Inhabited LP := ⟨⟨[], [], []⟩⟩
noncomputable def lp (v : PV) : LP := the (IsLP v)
theorem IsLP.inj {v : PV} {p q : LP} (h : IsLP v p) (h' : IsLP v q) : p = q := by
 obtain ⟨a, b, c, rfl, h1, h2, h3⟩ := h
 obtain ⟨a', b', c', e, h4, h5, h6⟩ := h'
 simp only [PV.agg.injEq, List.cons.injEq, and_true] at e
 obtain ⟨rfl, rfl, rfl⟩ := e
 cases p; cases q
 simp only [LP.mk.injEq]
 exact ⟨IsRL.inj h1 h4, IsRLs.inj h2 h5, IsRL.inj h3 h6⟩
theorem lp_eq {v : PV} {p : LP} (h : IsLP v p) : lp v = p := the_eq h fun _ h' => IsLP.inj h' h
theorem IsLP.pure {v : PV} {p : LP} (h : IsLP v p) : v.pureB = true := by
 obtain ⟨a, b, c, rfl, h1, h2, h3⟩ := h
 simp [PV.pureB, PV.pureL, h1.pure, h2.pure, h3.pure]
structure LP.Ok (p : LP) (m n K : Nat) : Prop where
 obj : p.obj.length = n
 rows : p.rows.length = m
 bounds : p.bounds.length = m
 row : ∀ i, i < m → (rowAt p.rows i).length = n
 fo : LFits p.obj K
 fb : LFits p.bounds K
 fr : ∀ i, i < m → LFits (rowAt p.rows i) K
 m100 : m < 300
 n100 : n < 100
 k : K ≤ 400
open Classical in
noncomputable def holdsB (p : LP) (x : List Rat) : Bool := decide (∀ i, i < p.rows.length → dotL (rowAt p.rows i) x ≤ gq p.bounds i)
noncomputable def holdsR : CRel | [v, w], r => r = .bool (holdsB (lp v) (rl w)) | _, _ => False
theorem cmpR_gt {x y : Rat} : decide (cmpR x y > 0) = decide (y < x) := by
 unfold cmpR
 by_cases h : x < y
 ·rw [if_pos h]
  have : ¬ y < x := fun h' => by have := Rat.lt_irrefl (a := x); exact this (by grind)
  simp [this]
 ·rw [if_neg h]
  by_cases h2 : x = y
  ·rw [if_pos h2]
   have : ¬ y < x := fun h' => by rw [h2] at h'; exact Rat.lt_irrefl h'
   simp [this]
  ·rw [if_neg h2]
   have : y < x := by grind
   simp [this]
def holdsI (vr vx vo vb : PV) (p : LP) (x : List Rat) : Nat → List PV → St → Prop := fun w vs st => ∃ (i k b2 : Nat), vs = [.int .i64 (i : Int), .int .i64 (p.rows.length : Int), vr, vx, .ptr b2 0 0] ∧ i + w = p.rows.length ∧ (∀ l, l < i → dotL (rowAt p.rows l) x ≤ gq p.bounds l) ∧ b2 < k ∧ st = ⟨k, [(b2, ⟨3, [.agg [vo, vr, vb]]⟩)], []⟩
theorem holds_ok (v w : PV) (p : LP) (x : List Rat) (m n K : Nat) (hv : IsLP v p) (hx : IsRL w x) (ok : p.Ok m n K) (hl : x.length = n) (fx : LFits x K) : Gives prog G 71 [v, w] (holdsR [v, w]) := by
 have fin : ∀ {t : Bool} {s : St}, t = holdsB p x → outK (holdsR [v, w]) (.bool t) s := fun h => outK_pure rfl (by simp only [holdsR, lp_eq hv, rl_eq hx, h])
 obtain ⟨vo, vr, vb, rfl, h1, h2, h3⟩ := hv
 obtain ⟨c1, c2, c3, c4⟩ := h1.cell
 obtain ⟨d1, d2, d3, d4⟩ := h2.cell
 obtain ⟨e1, e2, e3, e4⟩ := h3.cell
 have lr := h2.len
 have rl' := ok.rows
 refine gives (S := [(72, dotR), (27, rcompareR)]) (by kernel_rfl) (by kernel_rfl) (callW_of ann71 func71 rfl (by kernel_rfl) ?_)
 simp [c1, d1, e1, lr]
 refine loopK_of (holdsI vr w vo vb p x) rfl rfl ?step p.rows.length _ _ ?init
 case init => exact ⟨0, _, _, rfl, by omega, fun l h => absurd h (Nat.not_lt_zero l), by omega, rfl⟩
 case step =>
 have mm := ok.m100
 rintro u vs st ⟨i, k, b2, rfl, hiu, hall, hb, rfl⟩
 rcases Nat.eq_zero_or_pos u with h0 | h0
 ·have hi : i = p.rows.length := by omega
  subst hi
  simp []
  exact fin (by unfold holdsB; exact (decide_eq_true hall).symm)
 ·have hi : i < p.rows.length := by omega
  have hii : (i : Int) < p.rows.length := by omega
  have wi : IntKind.i64.wrap ((i : Int) + 1) = ((i + 1 : Nat) : Int) := w_i64 (by omega)
  obtain ⟨er, row, rfl, f1, f2, f3⟩ := h2.at hi
  obtain ⟨eb, rfl, f4⟩ := h3.at (i := i) (by rw [ok.bounds]; omega)
  have hib : i < p.bounds.length := by rw [ok.bounds]; omega
  obtain ⟨b3, m3, cc3, u3, d3', j1, j2, j3, j4⟩ := f4.get hib
  obtain ⟨v1, v2, v3, v4, v5⟩ := j3.cell
  obtain ⟨w1, w2, w3, w4, w5⟩ := j4.cell
  obtain ⟨r1, r2, r3, r4⟩ := f3.cell
  have f2' := getE f2
  have j1' := getE j1
  have ebl := f4.len
  have rowl := ok.row i (by omega)
  have hn := ok.n100
  have hk := ok.k
  have bound : 1 + n * (2 * K + 1) ≤ 90000 := by
   have : n * (2 * K + 1) ≤ 99 * 801 := Nat.mul_le_mul (by omega) (by omega)
   omega
  have fd : RFits (dotL (rowAt p.rows i) x) 90000 := (dotS_fits (ok.fr i (by omega)) fx (by omega) _ (Nat.le_refl _)).mono (by rw [rowl]; exact bound)
  simp [run_draw, hii, hi, f1, f2', r2]
  refine dcallK_pure rfl (by simp [PV.pureL, f3.pure, hx.pure]) (dot_ok row w (rowAt p.rows i) x K f3 hx (by omega) (by omega) (ok.fr i (by omega)) fx (by rw [rowl]; exact bound) (by omega)) fun r hr => ?_
  simp only [dotR, rl_eq f3, rl_eq hx] at hr
  simp [hib, ebl, j1']
  refine dcallK_pure rfl (by simp [PV.pureL, hr.pure, j2.pure]) (rcompare_ok r _ _ _ hr j2 (fd.mono (by omega)) ((ok.fb i hib).mono (by omega))) fun r9 hr9 => ?_
  simp only [rcompareR, ratv_eq hr, ratv_eq j2] at hr9
  subst hr9
  obtain ⟨b8, m8, cc8, u8, d8, rfl, t1, t2, _⟩ := hr.cases
  obtain ⟨t11, t12, t13, t14, t15⟩ := t1.cell
  obtain ⟨t21, t22, t23, t24, t25⟩ := t2.cell
  have hxi : w.ids = [] := hx.cell.2.2.2
  by_cases hc : gq p.bounds i < dotL (rowAt p.rows i) x
  ·have hc1 : cmpR (dotL (rowAt p.rows i) x) (gq p.bounds i) > 0 := by have := cmpR_gt (x := dotL (rowAt p.rows i) x) (y := gq p.bounds i); simpa [hc] using this
   have hc2 : 0 < cmpR (dotL (rowAt p.rows i) x) (gq p.bounds i) := hc1
   simp [hc2, r4, hxi, t12, t22, v2, w2]
   refine ⟨logOk_free (by simp only [List.map_cons, List.map_nil, tri, List.isEmpty_nil, List.isEmpty_cons]; decide +kernel), fin ?_⟩
   unfold holdsB
   refine (decide_eq_false fun h => ?_).symm
   have := h i hi
   grind
  ·have hc1 : ¬ cmpR (dotL (rowAt p.rows i) x) (gq p.bounds i) > 0 := by have := cmpR_gt (x := dotL (rowAt p.rows i) x) (y := gq p.bounds i); simpa [hc] using this
   have hc2 : ¬ 0 < cmpR (dotL (rowAt p.rows i) x) (gq p.bounds i) := hc1
   simp [hc2, r4, hxi, t12, t22, v2, w2, wi]
   refine ⟨logOk_free (by simp only [List.map_cons, List.map_nil, tri, List.isEmpty_nil, List.isEmpty_cons]; decide +kernel), u - 1, by omega, i + 1, _, b2, rfl, by omega, fun l hl => ?_, by omega, rfl⟩
   rcases lt_succ_cases hl with h4 | rfl
   ·exact hall l h4
   ·grind
theorem less_pure {S : Specs} (hS1 : Go.Pi.look S 30 = some rsignR) (hS2 : Go.Pi.look S 59 = some rmulR) (hS3 : Go.Pi.look S 80 = some rsubR) (r1 n : Nat) (es1 es2 : List PV) (f g : Nat → Rat) (fv : PV) (q : Rat) (n0 : Nat) (H : List (Nat × Ent)) (Z : List Nat)
  (hH1 : Go.Pi.look H r1 = some ⟨4, es1⟩) (h1 : RV es1 n f) (h2 : RV es2 n g) (hn : n < 1000) (hr : r1 < n0) (hz : memB Z r1 = false) (hz0 : ∀ b, n0 ≤ b → memB Z b = false)
  (hq : IsRat fv q) (fq : RFits q 30000) (ff : ∀ k, k < n → RFits (f k) 60000) (fg : ∀ k, k < n → RFits (g k) 30000) :
  CallW prog (specEnv prog G S) G A1 104 [.own r1 0 n, .slice es2, fv] ⟨n0, H, Z⟩ (lessQ r1 n f g q H Z n0) := by
 obtain ⟨b, m, c, u, d, rfl, q1, q2, _⟩ := hq.cases
 obtain ⟨c1, c2, c3, c4, c5⟩ := q1.cell
 obtain ⟨e1, e2, e3, e4, e5⟩ := q2.cell
 refine callW_of ann104 func104 rfl (by kernel_rfl) ?_
 simp [c1, e1]
 refine callK_pure hS1 (by simp [PV.pureL, hq.pure]) (rsign_ok _ q hq) fun r hr => ?_
 simp only [rsignR, ratv_eq hq] at hr
 subst hr
 by_cases hq0 : q = 0
 ·have hs : (q.num.sign == 0) = true := by rw [num_sign_eq]; simp [hq0]
  simp [hs]
  exact ⟨rfl, n0 + 1 + 1 + 1 + 1, n0, _, es1, h1.congr fun k _ => by rw [hq0]; grind, by omega, by omega, by rw [upd_self hH1]⟩
 ·have hs : (q.num.sign == 0) = false := by rw [num_sign_eq]; simp [hq0]
  simp [hs, lenPV]
  refine loopK_of (lessI r1 n (.slice es2) f g q ⟨4, [.agg [.bool b, m, .bool c, u]]⟩ H Z n0) rfl rfl ?step n _ _ ?init
  case init => exact ⟨0, n0 + 1 + 1 + 1 + 1 + 1 + 1 + 1, n0, es1, rfl, by omega, h1.congr fun k _ => by rw [if_neg (by omega)], by omega, by omega, by rw [upd_self hH1]⟩
  case step =>
  rintro w vs st ⟨i, k, b5, es, rfl, him, hes, hb, hk, rfl⟩
  have lu : Go.Pi.look (upd H r1 ⟨4, es⟩) r1 = some ⟨4, es⟩ := look_upd_same hH1
  have n51 : ¬ b5 = r1 := by omega
  have z5 := hz0 b5 hb
  rcases Nat.eq_zero_or_pos w with h0 | h0
  ·obtain rfl : i = n := by omega
   simp []
   exact ⟨rfl, k + 1, b5, _, es, hes.congr fun j hj => by rw [if_pos hj], hb, by omega, rfl⟩
  ·have hi : i < n := by omega
   have hii : (i : Int) < n := by omega
   have wi : IntKind.i64.wrap ((i : Int) + 1) = ((i + 1 : Nat) : Int) := w_i64 (by omega)
   obtain ⟨b2, m2, c2', u2, d2, g1, g2, g3, g4⟩ := h2.get hi
   obtain ⟨x1, x2, x3, x4, x5⟩ := g3.cell
   obtain ⟨y1, y2, y3, y4, y5⟩ := g4.cell
   have g1' := getE g1
   have l2l := h2.len
   have esl := hes.len
   simp [hii, hi, l2l, g1']
   refine callK_pure hS1 (by simp [PV.pureL, g2.pure]) (rsign_ok _ _ g2) fun r hr => ?_
   simp only [rsignR, ratv_eq g2] at hr
   subst hr
   by_cases hg0 : g i = 0
   ·have hs2 : ((g i).num.sign != 0) = false := by rw [num_sign_ne]; simp [hg0]
    simp [hs2, wi]
    refine ⟨w - 1, by omega, i + 1, _, b5, es, rfl, by omega, hes.congr fun j hj => ?_, hb, by omega, rfl⟩
    by_cases hji : j < i
    ·rw [if_pos hji, if_pos (by omega)]
    ·rw [if_neg hji]
     by_cases hj2 : j = i
     ·subst hj2
      rw [if_pos (by omega), hg0]; grind
     ·rw [if_neg (by omega)]
   ·have hs2 : ((g i).num.sign != 0) = true := by rw [num_sign_ne]; simp [hg0]
    obtain ⟨b3, m3, c3', u3, d3, k1, k2, k3, k4⟩ := hes.get hi
    rw [if_neg (Nat.lt_irrefl i)] at k2 k3
    obtain ⟨v1, v2, v3, v4, v5⟩ := k3.cell
    obtain ⟨w1, w2, w3, w4, w5⟩ := k4.cell
    have k1' := getE k1
    simp [run_draw, hs2, hi, lu, n51, l2l, g1', k1]
    refine dcallK_pure hS2 (by simp [PV.pureL, hq.pure, g2.pure]) (rmul_ok _ _ q (g i) hq g2 (fq.mono (by omega)) ((fg i hi).mono (by omega))) fun r hr => ?_
    simp only [rmulR, ratv_eq hq, ratv_eq g2] at hr
    simp []
    refine dcallK_pure hS3 (by simp [PV.pureL, hr.pure, k2.pure]) (rsub_ok _ _ (f i) (q * g i) k2 hr ((ff i hi).mono (by omega)) ((fq.mul (fg i hi)).mono (by omega))) fun r3 hr3 => ?_
    simp only [rsubR, ratv_eq k2, ratv_eq hr] at hr3
    obtain ⟨b7, m7, c7, u7, d7, rfl, p1, p2, _⟩ := hr.cases
    obtain ⟨p11, p12, p13, p14, p15⟩ := p1.cell
    obtain ⟨p21, p22, p23, p24, p25⟩ := p2.cell
    have hr3' := hr3
    obtain ⟨b8, m8, c8, u8, d8, rfl, o1, o2, _⟩ := hr3'.cases
    obtain ⟨o11, o12, o13, o14, o15⟩ := o1.cell
    obtain ⟨o21, o22, o23, o24, o25⟩ := o2.cell
    simp [logOk, tb, wi, hi, lu, n51, k1', x2, y2, v2, w2, c2, e2, o11, o21, p12, p22, hz, upd_upd, esl]
    refine ⟨w - 1, by omega, i + 1, _, b5, es.set i (.agg [.bool b8, m8, .bool c8, u8]), rfl, by omega, (hes.set hr3).congr fun j hj => ?_, hb, by omega, rfl⟩
    by_cases hj2 : j = i
    ·subst hj2
     rw [if_pos rfl, if_pos (by omega)]
    ·rw [if_neg hj2]
     by_cases hji : j < i
     ·rw [if_pos hji, if_pos (by omega)]
     ·rw [if_neg hji, if_neg (by omega)]
theorem apply_fr (s : St) (r : PV) (fr : List Nat) : s.apply { val := r, fr := fr } = ⟨s.next + 1, s.heap, addFr s.next s.froz fr⟩ := rfl
theorem TabAt.ext' {L : Blk} {H H' : List (Nat × Ent)} {D : Lin.Tab} (h : TabAt L H D) (he : ∀ q, L.In D.m q → Go.Pi.look H' q = Go.Pi.look H q) : TabAt L H' D where
 tt := by rw [he _ (.inl rfl)]; exact h.tt
 bb := fun k => by rw [he _ (.inr (.inl rfl))]; exact h.bb k
 oo := fun k => by rw [he _ (.inr (.inr (.inl rfl)))]; exact h.oo k
 cc := fun k => by rw [he _ (.inr (.inr (.inr (.inl rfl))))]; exact h.cc k
 gg := fun k => by rw [he _ (.inr (.inr (.inr (.inr (.inl rfl)))))]; exact h.gg k
 rr := fun i hi => by rw [he _ (.inr (.inr (.inr (.inr (.inr (.inr ⟨i, hi, rfl⟩))))))]; exact h.rr i hi
 pp := fun k => by rw [he _ (.inr (.inr (.inr (.inr (.inr (.inl rfl))))))]; exact h.pp k
def Cov (φ : Nat → Nat) : List Lg → List Lg → Prop
 | [], [] => True
 | x :: l, y :: l' => x.ix = y.ix ∧ (∀ q ∈ x.rd, φ q ∈ y.rd) ∧ (∀ q ∈ x.wr, φ q ∈ y.wr) ∧ Cov φ l l'
 | _, _ => False
theorem Cov.mem {φ : Nat → Nat} : ∀ {l l' : List Lg}, Cov φ l l' → ∀ x ∈ l, ∃ y ∈ l', x.ix = y.ix ∧ (∀ q ∈ x.rd, φ q ∈ y.rd) ∧ ∀ q ∈ x.wr, φ q ∈ y.wr
 | [], [], _, x, hx => by cases hx
 | x :: l, y :: l', h, z, hz => by
  obtain ⟨h1, h2, h3, h4⟩ := h
  rcases List.mem_cons.1 hz with rfl | hz
  ·exact ⟨y, by simp, h1, h2, h3⟩
  ·obtain ⟨y', k1, k2⟩ := h4.mem z hz
   exact ⟨y', List.mem_cons_of_mem _ k1, k2⟩
 | [], _ :: _, h, _, _ => h.elim
 | _ :: _, [], h, _, _ => h.elim
theorem logOk_cov {m : List Nat} {l l' : List Lg} (φ : Nat → Nat) (hc : Cov φ l l') (h : logOk m l' = true) : logOk m l = true := by
 unfold logOk at h ⊢
 refine List.all_eq_true.2 fun x hx => ?_
 obtain ⟨x', hx', e1, e2, e3⟩ := hc.mem x hx
 have h1 := List.all_eq_true.1 h x' hx'
 cases hw : x.wr.isEmpty with
 | true => rfl
 | false =>
  have hw2 : x'.wr.isEmpty = false := by
   cases hq : x.wr with
   | nil => rw [hq] at hw; cases hw
   | cons q _ =>
    have := e3 q (by rw [hq]; simp)
    cases hq' : x'.wr with
    | nil => rw [hq'] at this; cases this
    | cons _ _ => rfl
  rw [hw2] at h1
  simp only [cond_false] at h1 ⊢
  refine List.all_eq_true.2 fun y hy => ?_
  obtain ⟨y', hy', f1, f2, f3⟩ := hc.mem y hy
  have h2 := List.all_eq_true.1 h1 y' hy'
  rw [e1, f1]
  cases hb : Nat.beq x'.ix y'.ix with
  | true => rfl
  | false =>
   rw [hb] at h2
   simp only [cond_false] at h2 ⊢
   cases hs : share x.wr (y.rd ++ y.wr) with
   | false => rfl
   | true =>
    obtain ⟨r, k1, k2⟩ := (share_iff _ _).1 hs
    have : share x'.wr (y'.rd ++ y'.wr) = true := (share_iff _ _).2 ⟨φ r, e3 r k1, by
     rcases List.mem_append.1 k2 with k | k
     ·exact List.mem_append_left _ (f2 r k)
     ·exact List.mem_append_right _ (f3 r k)⟩
    rw [this] at h2
    exact h2
def noOutcome : PV := .agg [.int .i64 0, .bool false, .nil, .bool false, .nil, .nil, .nil, .nil]
def runI (L : Blk) (D0 D : Lin.Tab) (Pr : Lin.Tab → Prop) (b2 : Nat) (H1 : List (Nat × Ent)) (Z : List Nat) (n1 : Nat) : Nat → List PV → St → Prop := fun w vs st => ∃ (K k : Nat) (Hk : List (Nat × Ent)) (D' : Lin.Tab), vs = [.ptr L.t 0 0, .ptr b2 0 0] ∧ w = 2 ^ (D.m + D.n) - K ∧ Traj D K D' ∧ Of D0 Pr D' ∧ Mid L n1 H1 D' k Hk ∧ Go.Pi.look Hk b2 = some ⟨8, [noOutcome]⟩ ∧ st = ⟨k, Hk, Z⟩
def duI (L : Blk) (D : Lin.Tab) (g : Nat → Nat → Rat) (b2 b6 bd : Nat) (oc : PV) (Hk : List (Nat × Ent)) (Z : List Nat) (k0 : Nat) : Nat → List PV → St → Prop := fun w vs st => ∃ (x k : Nat) (es : List PV), vs = [.int .i64 (x : Int), .ptr L.t 0 0, .int .i64 (D.n : Int), .ptr b6 0 0, slv L.o D.n, .ptr b2 0 0] ∧ x + w = D.n ∧ RV es D.m (g x) ∧ k0 ≤ k ∧
 st = ⟨k, (b6, ⟨8, [oc]⟩) :: (bd, ⟨4, es⟩) :: Hk, Z⟩
def duI2 (L : Blk) (D : Lin.Tab) (r : Nat) (g : Nat → Nat → Rat) (b2 b6 bd : Nat) (oc : PV) (Hk : List (Nat × Ent)) (Z : List Nat) (k0 : Nat) : Nat → List PV → St → Prop := fun w vs st => ∃ (x k : Nat) (es : List PV), vs = [.int .i64 (x : Int), .ptr L.t 0 0, .int .i64 (D.n : Int), .ptr b6 0 0, slv L.o D.n, .int .i64 (r : Int), .ptr b2 0 0] ∧ x + w = D.n ∧ RV es D.m (g x) ∧ k0 ≤ k ∧
 st = ⟨k, (b6, ⟨8, [oc]⟩) :: (bd, ⟨4, es⟩) :: Hk, Z⟩
structure RunEnd (D0 : Lin.Tab) (Pr : Lin.Tab → Prop) (L : Blk) (D' : Lin.Tab) (kind : Int) (q vp vd : PV) (col : Int) (Hk : List (Nat × Ent)) : Prop where
 of : Of D0 Pr D'
 good : D'.Good
 off : D'.Off
 opt : kind = 1 → (∀ v, ¬ D'.Wrong v) ∧ col = -1 ∧ IsRat q D'.val ∧ (∃ es, vp = .slice es ∧ RV es D'.n D'.pt) ∧ ∃ j es, vd = .own j 0 D'.m ∧ Go.Pi.look Hk j = some ⟨4, es⟩ ∧ RV es D'.m fun i => D'.at D'.top (D'.n + i)
 inf : kind = 2 → col = -1 ∧ q = ratZero ∧ vp = .nil ∧ ∃ i, i < D'.m ∧ D'.n ≤ D'.bas i ∧ D'.con i < 0 ∧ (∀ l, l < D'.n → D'.n ≤ D'.off l → 0 ≤ D'.cel i l) ∧ ∃ j es, vd = .own j 0 D'.m ∧ Go.Pi.look Hk j = some ⟨4, es⟩ ∧ RV es D'.m fun k => if D'.bas i = D'.n + k then 1 else D'.at (D'.cel i) (D'.n + k)
 unb : kind = 3 → q = ratZero ∧ vp = .nil ∧ vd = .nil ∧ TabAt L Hk D' ∧ ∃ j, j < D'.n ∧ col = j ∧ D'.n ≤ D'.off j ∧ D'.top j < 0 ∧ ∀ l, l < D'.m → D'.n ≤ D'.bas l → D'.cel l j ≤ 0
 kinds : kind = 1 ∨ kind = 2 ∨ kind = 3
def runQ (L : Blk) (D0 : Lin.Tab) (Pr : Lin.Tab → Prop) (H : List (Nat × Ent)) (Z : List Nat) (n0 : Nat) : PV → St → Prop := fun v st => ∃ (D' : Lin.Tab) (kind col : Int) (b c : Bool) (m u vp vd : PV) (k : Nat) (Hk : List (Nat × Ent)) (Z' : List Nat), v = .tuple [.agg [.int .i64 kind, .bool b, m, .bool c, u, vp, vd, .nil], .int .i64 col] ∧
 RunEnd D0 Pr L D' kind (.agg [.bool b, m, .bool c, u]) vp vd col Hk ∧ (∀ q, q < n0 → ¬ L.In D0.m q → Go.Pi.look Hk q = Go.Pi.look H q) ∧ (∀ p ∈ Hk, p.1 < k) ∧ n0 ≤ k ∧ (∀ q, memB Z q = false → (q < n0 → ¬ L.In D0.m q) → memB Z' q = false) ∧ (kind = 3 → Z' = Z) ∧ st = ⟨k, Hk, Z'⟩
theorem run_own {S : Specs} (hS1 : Go.Pi.look S 30 = some rsignR) (hS2 : Go.Pi.look S 59 = some rmulR) (hS3 : Go.Pi.look S 80 = some rsubR) (hS4 : Go.Pi.look S 54 = some rfromR) (hS5 : Go.Pi.look S 120 = some quotientR) (hS6 : Go.Pi.look S 104 = none) (hS7 : Go.Pi.look S 86 = none)
  (hS8 : Go.Pi.look S 88 = none) (hS9 : Go.Pi.look S 90 = none) (hS10 : Go.Pi.look S 91 = none) (hS11 : Go.Pi.look S 89 = none)
  (L : Blk) (D0 D : Lin.Tab) (Pr : Lin.Tab → Prop) (sm : Small D0 Pr) (n0 : Nat) (H : List (Nat × Ent)) (Z : List Nat) (ro : 0 < D0.m → 0 < D0.n → Room L D0.m n0 Z) (hz0 : ∀ q, n0 ≤ q → memB Z q = false) (hF : ∀ p ∈ H, p.1 < n0) (hD : TabAt L H D) (hin : ∀ q, L.In D0.m q → q < n0) (ho : Of D0 Pr D) (hr : D.Rel) :
  CallW prog (specEnv prog G S) G A1 55 [.ptr L.t 0 0] ⟨n0, H, Z⟩ (runQ L D0 Pr H Z n0) := by
 refine callW_of ann55 func55 rfl (by kernel_rfl) ?_
 have em0 := ho.same.m
 have en0 := ho.same.n
 have s1 := sm.m
 have s2 := sm.n
 simp []
 have hl0 : ∀ q, L.In D0.m q → q ≠ n0 := fun q hq e => by have := hin q hq; omega
 refine loopK_of (runI L D0 D Pr n0 ((n0, ⟨8, [noOutcome]⟩) :: H) Z (n0 + 2)) rfl rfl ?step (2 ^ (D.m + D.n)) _ _ ?init
 case init =>
  exact ⟨0, _, _, D, rfl, (Nat.sub_zero _).symm, Traj.start (ho.placed.good hr) ho.placed.lo, ho, ⟨hD.cons hF, Keeps.rfl', cons_lt hF (by omega) (by omega), by omega⟩, look_one_cons _ _ _, rfl⟩
 case step =>
 clear em0 en0
 rintro w vs st ⟨K, k, Hk, D', rfl, hw, tr, ho, mid, lb2, rfl⟩
 have em0 := ho.same.m
 have en0 := ho.same.n
 have m1000 : D'.m < 1000 := by omega
 have n1000 : D'.n < 1000 := by omega
 obtain ⟨good, off, _⟩ := tr.good
 have le := mid.le
 have old : ∀ q, q < n0 → ¬ L.In D0.m q → Go.Pi.look Hk q = Go.Pi.look H q := fun q h1 h2 => by
  rw [mid.keeps q (by omega) (by rw [em0]; exact h2), look_cons_ne (by omega)]
 have again : ∀ i j, D'.Step i j → ∀ kk, k ≤ kk → ∀ k4 H4, Mid L kk Hk (D'.pivot i j) k4 H4 → ∀ k5, k4 ≤ k5 → ∃ m', m' < w ∧ runI L D0 D Pr n0 ((n0, ⟨8, [noOutcome]⟩) :: H) Z (n0 + 2) m' [.ptr L.t 0 0, .ptr n0 0 0] ⟨k5, H4, Z⟩ := fun i j stp kk hkk k4 H4 mid4 k5 hk5 => by
  have tr' := tr.step stp
  have hb' := tr'.bound
  have le4 := mid4.le
  refine ⟨2 ^ (D.m + D.n) - (K + 1), by omega, K + 1, k5, H4, D'.pivot i j, rfl, rfl, tr', ho.pivot sm stp.hi stp.hj stp.ne, ((mid.wait hkk).trans mid4 rfl).wait hk5, ?_, rfl⟩
  rw [mid4.keeps n0 (by omega) fun h => by have := hin n0 (by rw [← em0]; exact h); omega]
  exact lb2
 have pv : ∀ i j, D'.Step i j → ∀ kk, k ≤ kk → CallW prog (specEnv prog G S) G A1 86 [.ptr L.t 0 0, .int .i64 i, .int .i64 j] ⟨kk, Hk, Z⟩ (pvQ L D' i j Hk Z kk) := fun i j stp kk hkk => by
  have h1 := stp.hi
  have h2 := stp.hj
  have rm := (ro (by omega) (by omega)).mono (show n0 ≤ kk by omega)
  have op := ho.pivot sm stp.hi stp.hj stp.ne
  exact pivot_own hS1 hS2 hS3 hS4 hS5 hS6 L D' i j _ Hk Z h1 h2 m1000 n1000 (by rw [em0]; exact rm.apart) (fun q hq => by rw [em0] at hq; exact rm.low q hq) (fun b hb => rm.free b (by omega)) (lt_mono mid.lt hkk) mid.tab stp.ne (sm.fits D' ho.placed ho.same) (sm.fits _ op.placed op.same)
 simp []
 refine callK_run (by simp only [specEnv, hS8]; rfl) ((wrong_own hS1 L D' _ Hk Z m1000 n1000 mid.tab).mono fun v st h => ?_)
 obtain ⟨⟨row, col, rfl, hR⟩, k2, hk2, rfl⟩ := h
 rcases hR with ⟨rfl, rfl, hopt⟩ | ⟨r, hr1, rfl, rfl, hr2, hr3, hr4⟩ | ⟨c, hc1, rfl, rfl, hc2, hc3, hc4⟩
 ·simp []
  obtain ⟨vb, vm, vc, vu, tt, tv⟩ := mid.tab.tt
  have sl := (slv_ids L.b D'.m).2.2.2
  have sl2 := (slv_ids L.o D'.n).2.2.2
  have tv' := tv
  obtain ⟨_, _, _, _, dd, he, w1, w2, _⟩ := tv'.cases
  simp only [PV.agg.injEq, List.cons.injEq, PV.bool.injEq, and_true] at he
  obtain ⟨rfl, rfl, rfl, rfl⟩ := he
  obtain ⟨x1, x2, x3, x4, x5⟩ := w1.cell
  obtain ⟨y1, y2, y3, y4, y5⟩ := w2.cell
  have mk : D'.m * 64 ≤ 140737488355328 := by omega
  have mk2 : D'.m < 9223372036854775808 := by omega
  have mk3 : D'.m * 4 ≤ 140737488355328 := by omega
  have zr1 : ratZero.cells.length = 4 := rfl
  have zr2 : ratZero.cells.all PV.cellOk = true := rfl
  rw [run_draw]
  simp [tt]
  obtain ⟨ib, io, ic, ig, ip, b, c, m, u, fr, hre, hV, hfr⟩ := mid.tab.reify (n := 0) (Z := [])
  have hin' : ∀ q ∈ L.t :: fr, L.In D0.m q := fun q hq => by
   rcases List.mem_cons.1 hq with rfl | hq
   ·exact .inl rfl
   ·have := hfr q hq; rw [em0] at this; exact this
  refine dcallK_run (ws := [tabV ib io ic ig ip b c m u D']) (fr := L.t :: fr) (Q := fun r => ∃ es, r = .slice es ∧ RV es D'.n D'.pt) (by simp only [specEnv, hS11]; rfl) (by
    have hre' : Pi.reify (St.hp ⟨k2 + 1 + 1 + 1 + 1 + 1 + 1 + 1 + 1 + 1 + 1 + 1 + 1 + 1 + 1 + 1 + 1 + 1, Hk, Z⟩) (.ptr L.t 0 0) = some (tabV ib io ic ig ip b c m u D', L.t :: fr) := hre
    simp only [reifyL, mapR, hre', List.append_nil]) (List.all_eq_true.2 fun q hq => by
    have := hin q (hin' q hq)
    rw [blt_iff]; show q < k2 + 1 + 1 + 1 + 1 + 1 + 1 + 1 + 1 + 1 + 1 + 1 + 1 + 1 + 1 + 1 + 1 + 1; omega) (point_pure ib io ic ig ip b c m u D' hV good.toWf m1000 n1000) ?_
  rintro r ⟨ep, rfl, hep⟩
  rw [apply_fr]
  obtain ⟨Z', hZe⟩ : ∃ Z', Z' = addFr (k2 + 1 + 1 + 1 + 1 + 1 + 1 + 1 + 1 + 1 + 1 + 1 + 1 + 1 + 1 + 1 + 1 + 1) Z (L.t :: fr) := ⟨_, rfl⟩
  have hZ' : ∀ q, memB Z q = false → ¬ L.In D0.m q → memB Z' q = false := fun q h1 h2 => by
   cases hb : memB Z' q with
   | false => rfl
   | true =>
    have h3 := (memB_iff _ _).1 hb
    rw [hZe, addFr_eq] at h3
    rcases List.mem_append.1 h3 with h | h
    ·exact absurd (hin' q (List.mem_filter.1 h).1) h2
    ·rw [(memB_iff _ _).2 h] at h1; cases h1
  simp only [← hZe]
  have z6 : memB Z' (k2 + 1 + 1 + 1 + 1 + 1 + 1 + 1 + 1 + 1 + 1 + 1 + 1 + 1 + 1 + 1 + 1 + 1 + 1 + 1 + 1 + 1 + 1 + 1 + 1 + 1) = false := hZ' _ (hz0 _ (by omega)) fun h => by have := hin _ h; omega
  obtain ⟨bd, hbd⟩ : ∃ b, b = k2 + 1 + 1 + 1 + 1 + 1 + 1 + 1 + 1 + 1 + 1 + 1 + 1 + 1 + 1 + 1 + 1 + 1 + 1 + 1 + 1 + 1 + 1 + 1 := ⟨_, rfl⟩
  obtain ⟨b6, hb6⟩ : ∃ b, b = bd + 1 + 1 := ⟨_, rfl⟩
  have ltk : L.t < n0 := hin _ (.inl rfl)
  have n6t : ¬ k2 + 1 + 1 + 1 + 1 + 1 + 1 + 1 + 1 + 1 + 1 + 1 + 1 + 1 + 1 + 1 + 1 + 1 + 1 + 1 + 1 + 1 + 1 + 1 + 1 + 1 = L.t := by omega
  have ndt : ¬ k2 + 1 + 1 + 1 + 1 + 1 + 1 + 1 + 1 + 1 + 1 + 1 + 1 + 1 + 1 + 1 + 1 + 1 + 1 + 1 + 1 + 1 + 1 + 1 = L.t := by omega
  simp [tt, sl, sl2, x1, y1, mk, mk2, zero_rat, rep_eq, zr1, zr2, z6, n6t, ndt]
  rw [← hbd, ← hb6]
  have zd : memB Z' bd = false := hZ' _ (hz0 _ (by omega)) fun h => by have := hin _ h; omega
  have zb2 : memB Z' n0 = false := hZ' _ (hz0 _ (by omega)) fun h => by have := hin _ h; omega
  have n62 : ¬ b6 = n0 := by omega
  have nd2 : ¬ bd = n0 := by omega
  have n6t' : ¬ b6 = L.t := by omega
  have ndt' : ¬ bd = L.t := by omega
  have n6d : ¬ b6 = bd := by omega
  have nd6 : ¬ bd = b6 := by omega
  refine ⟨?log, ?_⟩
  case log =>
   have hno : ∀ q ∈ fr, ¬ q = b6 ∧ ¬ q = bd := fun q hq => by have := hin q (hin' q (List.mem_cons_of_mem _ hq)); omega
   refine logOk_cov (fun q => if q = b6 then 2 else if q = bd then 1 else 0) (l' := [⟨14, [2], [2]⟩, ⟨13, [], [2]⟩, ⟨12, [], []⟩, ⟨11, [], [1]⟩, ⟨10, [0], []⟩, ⟨9, [0], []⟩, ⟨8, [], []⟩, ⟨7, [], []⟩, ⟨6, [], []⟩, ⟨5, [0], []⟩, ⟨4, [], []⟩, ⟨3, [0], []⟩, ⟨2, [], []⟩, ⟨1, [], []⟩, ⟨0, [], []⟩]) ?_ (by decide +kernel)
   have h1 : ∀ q ∈ (slv L.b D'.m).ids, ¬ q = b6 ∧ ¬ q = bd := fun q hq => by
    have : q = L.b := by
     unfold slv at hq
     split at hq
     ·simp [PV.ids] at hq
     ·simpa [PV.ids] using hq
    have := hin q (.inr (.inl this))
    omega
   have n6t2 : ¬ L.t = b6 := by omega
   have ndt2 : ¬ L.t = bd := by omega
   simp only [Cov, List.not_mem_nil, false_imp_iff, implies_true, and_true, true_and, List.mem_cons, or_false, forall_eq, forall_eq_or_imp, if_true, n6t2, ndt2, n6d, nd6, if_false]
   refine ⟨fun q hq => ?_, fun q hq => ?_⟩
   ·rw [if_neg (h1 q hq).1, if_neg (h1 q hq).2]
   ·rw [if_neg (hno q hq).1, if_neg (hno q hq).2]
  refine loopK_of (duI L D' (fun x i => sumN x (fun j => if D'.off j = D'.n + i then D'.top j else 0)) n0 b6 bd (.agg [.int .i64 1, .bool vb, vm, .bool vc, vu, .slice ep, .own bd 0 D'.m, .nil]) Hk Z' (b6 + 1)) rfl rfl ?stepA D'.n _ _ ?initA
  case initA => exact ⟨0, _, _, rfl, by omega, RV.zero D'.m, by omega, rfl⟩
  case stepA =>
  rintro w vs st ⟨x, kk, es, rfl, hxw, hes, hkk, rfl⟩
  rcases Nat.eq_zero_or_pos w with h0 | h0
  ·have hxn : x = D'.n := by omega
   subst hxn
   have lus : ∀ E, Go.Pi.look (Go.Pi.upd Hk n0 E) n0 = some E := fun E => look_upd_same lb2
   simp [lb2, noOutcome, n62, nd2, x1, y1, zb2, lus]
   refine ⟨D', 1, -1, vb, vc, vm, vu, .slice ep, .own bd 0 D'.m, _, _, Z', rfl, ⟨ho, good, off, fun _ => ⟨hopt, rfl, tv, ⟨ep, rfl, hep⟩, bd, es, rfl, ?_, hes⟩, fun h => absurd h (by decide), fun h => absurd h (by decide), .inl rfl⟩, fun q h1 h2 => ?_, ?_, by omega, fun q h1 h2 => hZ' q h1 fun h => h2 (hin q h) h, fun h => absurd h (by decide), rfl⟩
   ·rw [look_cons_ne n6d]; exact look_one_cons _ _ _
   ·rw [look_cons_ne (by omega), look_cons_ne (by omega), look_upd_ne (by omega)]; exact old q h1 h2
   ·exact cons_lt (cons_lt (upd_lt mid.lt) (m := bd + 1) (by omega) (by omega)) (by omega) (by omega)
  ·have hx : x < D'.n := by omega
   have np : 0 < D'.n := by omega
   have hxx : (x : Int) < D'.n := by omega
   have wx : IntKind.i64.wrap ((x : Int) + 1) = ((x + 1 : Nat) : Int) := w_i64 (by omega)
   have so : slv L.o D'.n = .own L.o 0 D'.n := slv_pos np
   have sp : slv L.p D'.n = .own L.p 0 D'.n := slv_pos np
   obtain ⟨eso, f3, f4⟩ := mid.tab.oo np
   have o1 := f4.at_ x hx
   obtain ⟨esi, r1, r2⟩ := mid.tab.pp np
   obtain ⟨b8, m8, cc8, u8, d8, l1, l2, l3, l4⟩ := r2.get hx
   obtain ⟨p1, p2, p3, p4, p5⟩ := l3.cell
   obtain ⟨q1, q2, q3, q4, q5⟩ := l4.cell
   have ino : L.o < n0 := hin _ (.inr (.inr (.inl rfl)))
   have inp : L.p < n0 := hin _ (.inr (.inr (.inr (.inr (.inr (.inl rfl))))))
   have n6o : ¬ b6 = L.o := by omega
   have ndo : ¬ bd = L.o := by omega
   have n6p : ¬ b6 = L.p := by omega
   have ndp : ¬ bd = L.p := by omega
   have next : ∀ es', RV es' D'.m (fun i => sumN (x + 1) (fun j => if D'.off j = D'.n + i then D'.top j else 0)) → ∀ k', b6 + 1 ≤ k' → ∃ m', m' < w ∧ duI L D' (fun x i => sumN x (fun j => if D'.off j = D'.n + i then D'.top j else 0)) n0 b6 bd (.agg [.int .i64 1, .bool vb, vm, .bool vc, vu, .slice ep, .own bd 0 D'.m, .nil]) Hk Z' (b6 + 1) m' [.int .i64 ((x + 1 : Nat) : Int), .ptr L.t 0 0, .int .i64 (D'.n : Int), .ptr b6 0 0, slv L.o D'.n, .ptr n0 0 0] ⟨k', (b6, ⟨8, [.agg [.int .i64 1, .bool vb, vm, .bool vc, vu, .slice ep, .own bd 0 D'.m, .nil]]⟩) :: (bd, ⟨4, es'⟩) :: Hk, Z'⟩ := fun es' h k' hk' => ⟨w - 1, by omega, x + 1, k', es', rfl, by omega, h, hk', rfl⟩
   rw [so] at next ⊢
   rcases Nat.lt_or_ge (D'.off x) D'.n with hA | hA
   ·have hA1 : ¬ (D'.n : Int) ≤ (D'.off x : Int) := by omega
    have hA2 : ¬ D'.n ≤ D'.off x := by omega
    simp [tt, f3, o1, hx, hxx, wx, hA1, n6o, ndo, n6t', ndt']
    refine next es (hes.congr fun v hv => ?_) _ (by omega)
    show sumN x _ = sumN x _ + (if D'.off x = D'.n + v then D'.top x else 0)
    rw [if_neg (by omega)]; grind
   ·have hA1 : (D'.n : Int) ≤ (D'.off x : Int) := by omega
    have hlt := off x hx
    have ws : IntKind.i64.wrap ((D'.off x : Int) - D'.n) = ((D'.off x - D'.n : Nat) : Int) := by rw [w_i64 (by omega)]; omega
    have hlt2 : D'.off x - D'.n < D'.m := by omega
    have esl := hes.len
    obtain ⟨b9, m9, cc9, u9, d9, o1', o2', _, _⟩ := hes.get hlt2
    have o1'' := getE o1'
    simp [run_draw, tt, f3, o1, hx, hxx, wx, hA1, n6o, ndo, n6t', ndt', n6p, ndp, n6d, nd6, sp, r1, l1, p1, q1, ws, hlt2, zd, esl, o1'']
    refine ⟨logOk_free (by simp only [List.map_cons, List.map_nil, tri, List.isEmpty_nil, List.isEmpty_cons]; decide +kernel), next _ ((hes.set (k := D'.off x - D'.n) l2).congr fun v hv => ?_) _ (by omega)⟩
    show (if v = D'.off x - D'.n then D'.top x else sumN x _) = sumN x _ + (if D'.off x = D'.n + v then D'.top x else 0)
    by_cases hv2 : v = D'.off x - D'.n
    ·rw [if_pos hv2, if_pos (by omega), sumN_zero' fun l hl => by rw [if_neg fun e => by have := good.io l x (by omega) hx (by omega); omega]]
     grind
    ·rw [if_neg hv2, if_neg (by omega)]; grind
 ·have hr0 : ¬ (r : Int) < 0 := by omega
  have hr0' : 0 ≤ (r : Int) := by omega
  simp [hr0, hr0']
  refine callK_run (by simp only [specEnv, hS9]; rfl) ((entering_own hS1 L D' r _ Hk Z hr1 m1000 n1000 mid.tab).mono fun v st h => ?_)
  obtain ⟨⟨out, rfl, hL⟩, k3, hk3, rfl⟩ := h
  rcases hL with ⟨rfl, hno⟩ | ⟨o, rfl, ho1, ho2, ho3⟩
  ·obtain ⟨vb, vm, vc, vu, tt, tv⟩ := mid.tab.tt
   have mp : 0 < D'.m := by omega
   have sl := (slv_ids L.b D'.m).2.2.2
   have sl2 := (slv_ids L.o D'.n).2.2.2
   have mk : D'.m * 64 ≤ 140737488355328 := by omega
   have mk2 : D'.m < 9223372036854775808 := by omega
   have mk3 : D'.m * 4 ≤ 140737488355328 := by omega
   have zr1 : ratZero.cells.length = 4 := rfl
   have zr2 : ratZero.cells.all PV.cellOk = true := rfl
   obtain ⟨bd, hbd⟩ : ∃ b, b = k3 + 1 + 1 + 1 + 1 + 1 + 1 + 1 + 1 := ⟨_, rfl⟩
   obtain ⟨b9, hb9⟩ : ∃ b, b = bd + 1 + 1 := ⟨_, rfl⟩
   have z9 : memB Z (k3 + 1 + 1 + 1 + 1 + 1 + 1 + 1 + 1 + 1 + 1) = false := hz0 _ (by omega)
   have ltk : L.t < n0 := hin _ (.inl rfl)
   have zd : memB Z bd = false := hz0 _ (by omega)
   have zb2 : memB Z n0 = false := hz0 _ (by omega)
   have n92 : ¬ b9 = n0 := by omega
   have nd2 : ¬ bd = n0 := by omega
   have n9t : ¬ b9 = L.t := by omega
   have ndt : ¬ bd = L.t := by omega
   have n9d : ¬ b9 = bd := by omega
   have nd9 : ¬ bd = b9 := by omega
   have inb : L.b < n0 := hin _ (.inr (.inl rfl))
   have n9b : ¬ b9 = L.b := by omega
   have ndb : ¬ bd = L.b := by omega
   have rlb := ho.placed.lb r hr1
   have ws0 : IntKind.i64.wrap ((D'.bas r : Int) - D'.n) = ((D'.bas r - D'.n : Nat) : Int) := by rw [w_i64 (by omega)]; omega
   have hlt0 : D'.bas r - D'.n < D'.m := by omega
   have sb : slv L.b D'.m = .own L.b 0 D'.m := slv_pos mp
   have sg : slv L.g D'.m = .own L.g 0 D'.m := slv_pos mp
   obtain ⟨esb, f1, f2⟩ := mid.tab.bb mp
   have b1 := f2.at_ r hr1
   obtain ⟨esg, g1, g2, g3⟩ := mid.tab.gg mp
   have g4 := g3 r hr1
   simp [tt, sl, mk, mk2, zero_rat, rep_eq, zr1, zr2, z9]
   rw [← hbd, ← hb9, run_draw]
   obtain ⟨e0, he0⟩ : ∃ e0, e0 = List.replicate D'.m ratZero := ⟨_, rfl⟩
   have hv0 : RV e0 D'.m (fun _ => 0) := by rw [he0]; exact RV.zero D'.m
   rw [← he0]
   have el0 := hv0.len
   obtain ⟨c1, c2, c3, c4, c5, c6, c7, _, _⟩ := hv0.get hlt0
   have c6' := getE c6
   simp [tt, sb, f1, b1, hr1, ws0, n9t, ndt, n9b, ndb, nd9]
   refine dcallK_pure hS4 rfl (rfrom_ok 1 (by omega)) fun r9 hr9 => ?_
   simp only [rfromR] at hr9
   obtain ⟨v1, v2, v3, v4, v5, rfl, v6, v7, _⟩ := hr9.cases
   obtain ⟨v61, v62, v63, v64, v65⟩ := v6.cell
   obtain ⟨v71, v72, v73, v74, v75⟩ := v7.cell
   simp [tt, sl2, v61, v71, n9t, ndt, n9d, hlt0, zd, el0, c6']
   refine ⟨logOk_free (by simp only [List.map_cons, List.map_nil, tri, List.isEmpty_nil, List.isEmpty_cons]; decide +kernel), ?_⟩
   refine loopK_of (duI2 L D' r (fun x i => if D'.bas r = D'.n + i then 1 else sumN x (fun j => if D'.off j = D'.n + i then D'.cel r j else 0)) n0 b9 bd (.agg [.int .i64 2, .bool false, .nil, .bool false, .nil, .nil, .own bd 0 D'.m, .nil]) Hk Z (b9 + 1)) rfl rfl ?stepB D'.n _ _ ?initB
   case initB => exact ⟨0, _, _, rfl, by omega, (hv0.set (k := D'.bas r - D'.n) hr9).congr fun i hi => by
    show (if i = D'.bas r - D'.n then _ else _) = if D'.bas r = D'.n + i then 1 else (0 : Rat)
    by_cases e : i = D'.bas r - D'.n
    ·rw [if_pos e, if_pos (by omega)]; rfl
    ·rw [if_neg e, if_neg (by omega)], by omega, rfl⟩
   case stepB =>
   rintro w vs st ⟨x, kk, es, rfl, hxw, hes, hkk, rfl⟩
   rcases Nat.eq_zero_or_pos w with h0 | h0
   ·have hxn : x = D'.n := by omega
    subst hxn
    have lus : ∀ E, Go.Pi.look (Go.Pi.upd Hk n0 E) n0 = some E := fun E => look_upd_same lb2
    simp [lb2, noOutcome, n92, nd2, zb2, lus]
    refine ⟨D', 2, -1, false, false, .nil, .nil, .nil, .own bd 0 D'.m, _, _, Z, rfl, ⟨ho, good, off, fun h => absurd h (by decide), fun _ => ⟨rfl, rfl, rfl, r, hr1, hr2, hr3, fun l h1 h2 => ?_, bd, es, rfl, ?_, hes⟩, fun h => absurd h (by decide), .inr (.inl rfl)⟩, fun q h1 h2 => ?_, ?_, by omega, fun q h1 h2 => h1, fun h => absurd h (by decide), rfl⟩
    ·rcases rlt (D'.cel r l) 0 with h | h
     ·exact absurd ⟨h2, h⟩ (hno l h1)
     ·exact h
    ·rw [look_cons_ne n9d]; exact look_one_cons _ _ _
    ·rw [look_cons_ne (by omega), look_cons_ne (by omega), look_upd_ne (by omega)]; exact old q h1 h2
    ·exact cons_lt (cons_lt (upd_lt mid.lt) (m := bd + 1) (by omega) (by omega)) (by omega) (by omega)
   ·have hx : x < D'.n := by omega
    have np : 0 < D'.n := by omega
    have hxx : (x : Int) < D'.n := by omega
    have wx : IntKind.i64.wrap ((x : Int) + 1) = ((x + 1 : Nat) : Int) := w_i64 (by omega)
    have so : slv L.o D'.n = .own L.o 0 D'.n := slv_pos np
    obtain ⟨eso, f3, f4⟩ := mid.tab.oo np
    have o1 := f4.at_ x hx
    obtain ⟨esi, r1, r2⟩ := mid.tab.rr r hr1
    obtain ⟨b8, m8, cc8, u8, d8, l1, l2, l3, l4⟩ := r2.get hx
    obtain ⟨p1, p2, p3, p4, p5⟩ := l3.cell
    obtain ⟨q1, q2, q3, q4, q5⟩ := l4.cell
    have ino : L.o < n0 := hin _ (.inr (.inr (.inl rfl)))
    have ing : L.g < n0 := hin _ (.inr (.inr (.inr (.inr (.inl rfl)))))
    have inr' : L.r r < n0 := hin _ (.inr (.inr (.inr (.inr (.inr (.inr ⟨r, by omega, rfl⟩))))))
    have n9o : ¬ b9 = L.o := by omega
    have ndo : ¬ bd = L.o := by omega
    have n9g : ¬ b9 = L.g := by omega
    have ndg : ¬ bd = L.g := by omega
    have n9r : ¬ b9 = L.r r := by omega
    have ndr : ¬ bd = L.r r := by omega
    have next : ∀ es', RV es' D'.m (fun i => if D'.bas r = D'.n + i then 1 else sumN (x + 1) (fun j => if D'.off j = D'.n + i then D'.cel r j else 0)) → ∀ k', b9 + 1 ≤ k' → ∃ m', m' < w ∧ duI2 L D' r (fun x i => if D'.bas r = D'.n + i then 1 else sumN x (fun j => if D'.off j = D'.n + i then D'.cel r j else 0)) n0 b9 bd (.agg [.int .i64 2, .bool false, .nil, .bool false, .nil, .nil, .own bd 0 D'.m, .nil]) Hk Z (b9 + 1) m' [.int .i64 ((x + 1 : Nat) : Int), .ptr L.t 0 0, .int .i64 (D'.n : Int), .ptr b9 0 0, slv L.o D'.n, .int .i64 r, .ptr n0 0 0] ⟨k', (b9, ⟨8, [.agg [.int .i64 2, .bool false, .nil, .bool false, .nil, .nil, .own bd 0 D'.m, .nil]]⟩) :: (bd, ⟨4, es'⟩) :: Hk, Z⟩ := fun es' h k' hk' => ⟨w - 1, by omega, x + 1, k', es', rfl, by omega, h, hk', rfl⟩
    rw [so] at next ⊢
    rcases Nat.lt_or_ge (D'.off x) D'.n with hA | hA
    ·have hA1 : ¬ (D'.n : Int) ≤ (D'.off x : Int) := by omega
     have hA2 : ¬ D'.n ≤ D'.off x := by omega
     simp [tt, f3, o1, hx, hxx, wx, hA1, n9o, ndo, n9t, ndt]
     refine next es (hes.congr fun v hv => ?_) _ (by omega)
     show (if D'.bas r = D'.n + v then 1 else sumN x _) = if D'.bas r = D'.n + v then 1 else sumN x _ + (if D'.off x = D'.n + v then D'.cel r x else 0)
     rw [if_neg (show ¬ D'.off x = D'.n + v by omega)]; grind
    ·have hA1 : (D'.n : Int) ≤ (D'.off x : Int) := by omega
     have hlt := off x hx
     have ws : IntKind.i64.wrap ((D'.off x : Int) - D'.n) = ((D'.off x - D'.n : Nat) : Int) := by rw [w_i64 (by omega)]; omega
     have hlt2 : D'.off x - D'.n < D'.m := by omega
     have esl := hes.len
     obtain ⟨b7, m7, cc7, u7, d7, o1', o2', _, _⟩ := hes.get hlt2
     have o1'' := getE o1'
     simp [run_draw, tt, f3, o1, hx, hxx, wx, hA1, n9o, ndo, n9t, ndt, n9g, ndg, n9r, ndr, n9d, nd9, sg, g1, g4, hr1, r1, l1, p1, q1, ws, hlt2, zd, esl, o1'']
     refine ⟨logOk_free (by simp only [List.map_cons, List.map_nil, tri, List.isEmpty_nil, List.isEmpty_cons]; decide +kernel), next _ ((hes.set (k := D'.off x - D'.n) l2).congr fun v hv => ?_) _ (by omega)⟩
     show (if v = D'.off x - D'.n then D'.cel r x else if D'.bas r = D'.n + v then 1 else sumN x _) = if D'.bas r = D'.n + v then 1 else sumN x _ + (if D'.off x = D'.n + v then D'.cel r x else 0)
     have dj := good.dj r x hr1 hx
     by_cases hv2 : v = D'.off x - D'.n
     ·rw [if_pos hv2, if_neg (by omega), if_pos (by omega), sumN_zero' fun l hl => by rw [if_neg fun e => by have := good.io l x (by omega) hx (by omega); omega]]
      grind
     ·rw [if_neg hv2]
      by_cases hb : D'.bas r = D'.n + v
      ·rw [if_pos hb, if_pos hb]
      ·rw [if_neg hb, if_neg hb, if_neg (by omega)]; grind
  ·have o0 : ¬ (o : Int) < 0 := by omega
   simp [o0]
   have st : D'.Step r o := ⟨hr1, ho1, hr2, ho2.1, .inl ⟨hr3, hr4, ho2.2, fun l h1 h2 h3 => by
    rcases rlt (D'.cel r l) 0 with h | h
    ·have := ho3 l h1 ⟨h2, h⟩; omega
    ·exact h⟩⟩
   refine callK_run (by simp only [specEnv, hS7]; rfl) ((pv r o st _ (by omega)).mono fun v st' h => ?_)
   obtain ⟨rfl, k4, H4, mid4, rfl⟩ := h
   simp []
   exact again r o st _ (by omega) k4 H4 mid4 _ (by omega)
 ·have hc0 : ¬ (c : Int) < 0 := by omega
  simp [hc0]
  refine callK_run (by simp only [specEnv, hS10]; rfl) ((leaving_own hS1 L D' c _ Hk Z hc1 m1000 n1000 mid.tab).mono fun v st h => ?_)
  obtain ⟨⟨out, rfl, hL⟩, k3, hk3, rfl⟩ := h
  rcases hL with ⟨rfl, hno⟩ | ⟨o, rfl, ho1, ho2, ho3⟩
  ·have zb2 : memB Z n0 = false := hz0 _ (by omega)
   have lus : ∀ E, Go.Pi.look (Go.Pi.upd Hk n0 E) n0 = some E := fun E => look_upd_same lb2
   simp [lb2, noOutcome, zb2, lus]
   refine ⟨D', 3, c, false, false, .nil, .nil, .nil, .nil, _, _, Z, rfl, ⟨ho, good, off, fun h => absurd h (by decide), fun h => absurd h (by decide), fun _ => ⟨rfl, rfl, rfl, ?_, c, hc1, rfl, hc2, hc3, fun l h1 h2 => ?_⟩, .inr (.inr rfl)⟩, fun q h1 h2 => ?_, ?_, by omega, fun q h1 h2 => h1, fun _ => rfl, rfl⟩
   ·exact mid.tab.ext' fun q hq => look_upd_ne fun e => by have := hin q (by rw [← em0]; exact hq); omega
   ·rcases rlt 0 (D'.cel l c) with h | h
    ·exact absurd ⟨h2, h⟩ (hno l h1)
    ·exact h
   ·rw [look_upd_ne (by omega)]; exact old q h1 h2
   ·exact lt_mono (upd_lt mid.lt) (by omega)
  ·have o0 : ¬ (o : Int) < 0 := by omega
   simp [o0]
   have st : D'.Step o c := ⟨ho1, hc1, ho2.1, hc2, .inr ⟨hc3, hc4, ho2.2, fun l h1 h2 h3 => by
    rcases rlt 0 (D'.cel l c) with h | h
    ·have := ho3 l h1 ⟨h2, h⟩; omega
    ·exact h⟩⟩
   refine callK_run (by simp only [specEnv, hS7]; rfl) ((pv o c st _ (by omega)).mono fun v st' h => ?_)
   obtain ⟨rfl, k4, H4, mid4, rfl⟩ := h
   simp []
   exact again o c st _ (by omega) k4 H4 mid4 _ (by omega)
def LP.m (p : LP) : Nat := p.rows.length
def LP.n (p : LP) : Nat := p.obj.length
def LP.cel (p : LP) (i j : Nat) : Rat := gq (rowAt p.rows i) j
def IsPr (v : PV) (p : LP) : Prop := ∃ io ir ib, v = .agg [.slice io, sv p.m ir, sv p.m ib] ∧ ProgV io ir ib p.m p.n p.cel (gq p.bounds) (gq p.obj) ∧ p.bounds.length = p.m ∧ ∀ i, i < p.m → (rowAt p.rows i).length = p.n
structure LP.Tiny (p : LP) : Prop where
 m : p.m ≤ 7
 n : p.n ≤ 4
 bl : p.bounds.length = p.m
 rl : ∀ i, i < p.m → (rowAt p.rows i).length = p.n
 obj : ∀ j, j < p.n → Lin.Bd (10 ^ 20) (gq p.obj j)
 bnd : ∀ i, i < p.m → Lin.Bd (10 ^ 20) (gq p.bounds i)
 cel : ∀ i j, i < p.m → j < p.n → Lin.Bd (10 ^ 20) (p.cel i j)
theorem bd_fits {X k : Nat} {q : Rat} (h : Lin.Bd X q) (hx : (X : Int) < pw k) : RFits q k := by
 have h1 := h.1
 have h2 := h.2
 obtain ⟨P, hP⟩ : ∃ P, P = pw k := ⟨_, rfl⟩
 rw [← hP] at hx
 exact ⟨by unfold Fits; rw [← hP]; omega, by unfold Fits; rw [← hP]; omega⟩
theorem big600 : ((2 ^ 85 * (10 ^ 20) ^ 256 : Nat) : Int) < pw 600 := by decide +kernel
structure Sol where
 kind : Int
 val : Rat
 pt : List Rat
 du : List Rat
 ray : List Rat
def IsSol (v : PV) (o : Sol) : Prop := ∃ b m c u vp vd vr, v = .agg [.int .i64 o.kind, .bool b, m, .bool c, u, vp, vd, vr] ∧ IsRat (.agg [.bool b, m, .bool c, u]) o.val ∧ IsRL vp o.pt ∧ IsRL vd o.du ∧ IsRL vr o.ray
structure Sol.Fits (o : Sol) (K : Nat) : Prop where
 val : RFits o.val K
 pt : LFits o.pt K
 du : LFits o.du K
 ray : LFits o.ray K
def Cmb (p : LP) (y : List Rat) (c : Nat → Rat) : Prop := y.length = p.m ∧ (∀ i, i < p.m → 0 ≤ gq y i) ∧ ∀ j, j < p.n → sumN p.m (fun i => gq y i * p.cel i j) = c j
def Hld (p : LP) (x : List Rat) : Prop := x.length = p.n ∧ ∀ i, i < p.m → dotL (rowAt p.rows i) x ≤ gq p.bounds i
def Proves (p : LP) (o : Sol) : Prop :=
 (o.kind = 1 ∧ Cmb p o.du (gq p.obj) ∧ Hld p o.pt ∧ o.ray = [] ∧ dotL o.du p.bounds = o.val ∧ dotL p.obj o.pt = o.val) ∨
 (o.kind = 2 ∧ Cmb p o.du (fun _ => 0) ∧ dotL o.du p.bounds < 0 ∧ o.pt = [] ∧ o.ray = []) ∨
 (o.kind = 3 ∧ Hld p o.pt ∧ o.du = [] ∧ o.ray.length = p.n ∧ (∀ i, i < p.m → dotL (rowAt p.rows i) o.ray ≤ 0) ∧ 0 < dotL p.obj o.ray)
theorem tiny_bd {p : LP} (h : p.Tiny) (c : Nat → Rat) (hc : ∀ j, j < p.n → Lin.Bd (10 ^ 20) (c j)) : (begin0 p.m p.n p.cel (gq p.bounds) c).Bd (10 ^ 20) :=
 ⟨fun i hi => h.bnd i hi, fun i j hi hj => h.cel i j hi hj, fun j hj => (hc j hj).neg, bd_zero (by decide)⟩
theorem tiny_small {p : LP} (h : p.Tiny) (c : Nat → Rat) (hc : ∀ j, j < p.n → Lin.Bd (10 ^ 20) (c j)) (D : Lin.Tab) (pl : D.Placed) (sm : Same (begin0 p.m p.n p.cel (gq p.bounds) c) D) : TFits D 600 := by
 have h1 := bounded pl.toWf pl.cov pl.lb pl.lo sm (tiny_bd h c hc)
 have h2 := (repeat_mono (X := 10 ^ 20) (by decide) h.n).1
 rw [repeat4] at h2
 have f : ∀ {q : Rat}, Lin.Bd (Nat.repeat grow p.n (10 ^ 20)) q → RFits q 600 := fun hq => bd_fits (hq.mono h2) big600
 exact ⟨fun i hi => f (h1.con i hi), fun i j hi hj => f (h1.cel i j hi hj), fun j hj => f (h1.top j hj), f h1.val⟩
theorem TFits.mono {D : Lin.Tab} {K K' : Nat} (h : TFits D K) (hk : K ≤ K') : TFits D K' := ⟨fun i hi => (h.con i hi).mono hk, fun i j hi hj => (h.cel i j hi hj).mono hk, fun j hj => (h.top j hj).mono hk, h.val.mono hk⟩
theorem rle_of {a b c : Rat} (e : a = b) (h : b ≤ c) : a ≤ c := e ▸ h
theorem rlt_of {a b c : Rat} (e : a = b) (h : b < c) : a < c := e ▸ h
theorem rgt_of {a b c : Rat} (e : b = c) (h : a < b) : a < c := e ▸ h
def lst (n : Nat) (f : Nat → Rat) : List Rat := (List.range n).map f
theorem lst_len (n : Nat) (f : Nat → Rat) : (lst n f).length = n := by simp [lst]
theorem lst_gq {n i : Nat} {f : Nat → Rat} (h : i < n) : gq (lst n f) i = f i := by simp [gq, lst, List.getD, h]
theorem lst_rl {es : List PV} {n : Nat} {f : Nat → Rat} (h : RV es n f) : IsRL (.slice es) (lst n f) := .inr ⟨es, rfl, by rw [lst_len]; exact h.congr fun k hk => (lst_gq hk).symm⟩
theorem lst_fits {n K : Nat} {f : Nat → Rat} (h : ∀ i, i < n → RFits (f i) K) : LFits (lst n f) K := fun i hi => by
 rw [lst_len] at hi
 rw [lst_gq hi]; exact h i hi
theorem nil_fits (K : Nat) : LFits [] K := fun i hi => absurd hi (Nat.not_lt_zero i)
theorem pt_fits {D : Lin.Tab} {K : Nat} (w : D.Wf) (f : TFits D K) (hK : 1 ≤ K) (v : Nat) : RFits (D.pt v) K := by
 by_cases h : ∃ i, i < D.m ∧ D.bas i = v
 ·obtain ⟨i, hi, rfl⟩ := h
  have : D.pt (D.bas i) = D.con i := by
   unfold Tab.pt
   rw [sumN_one hi fun k hk hne => by rw [if_neg fun e => hne (w.ib k i hk hi e)], if_pos rfl]
  rw [this]; exact f.con i hi
 ·have : D.pt v = 0 := sumN_zero' fun i hi => by rw [if_neg fun e => h ⟨i, hi, e⟩]
  rw [this]; exact RFits.zero hK
theorem at_fits {D : Lin.Tab} {K : Nat} (w : D.Wf) (hK : 1 ≤ K) (r : Nat → Rat) (hr : ∀ j, j < D.n → RFits (r j) K) (v : Nat) : RFits (D.at r v) K := by
 by_cases h : ∃ j, j < D.n ∧ D.off j = v
 ·obtain ⟨j, hj, rfl⟩ := h
  rw [w.at_off hj]; exact hr j hj
 ·rw [Tab.at_out (fun j hj e => h ⟨j, hj, e⟩)]; exact RFits.zero hK
theorem ray_fits {D : Lin.Tab} {K : Nat} (w : D.Wf) (f : TFits D K) (hK : 1 ≤ K) {j : Nat} (hj : j < D.n) {c : Rat} (hc : RFits c 1) (v : Nat) : RFits (D.ray j c v) (K + 1) := by
 by_cases h : ∃ i, i < D.m ∧ D.bas i = v
 ·obtain ⟨i, hi, rfl⟩ := h
  rw [w.ray_bas hi hj]
  have := (hc.mul (f.cel i j hi hj)).neg.mono (show 1 + K ≤ K + 1 by omega)
  first | exact this | (rw [show -c * D.cel i j = -(c * D.cel i j) by grind]; exact this) | (rw [show -(D.cel i j * c) = -(c * D.cel i j) by grind]; exact this)
 ·unfold Tab.ray
  rw [sumN_zero' fun i hi => by rw [if_neg fun e => h ⟨i, hi, e⟩]]
  split
  ·rw [show c - 0 = c by grind]; exact hc.mono (by omega)
  ·rw [show (0 : Rat) - 0 = 0 by grind]; exact RFits.zero (by omega)
section
variable {p : LP} {c : Nat → Rat} {D : Lin.Tab}
def optSol (D : Lin.Tab) : Sol := ⟨1, D.val, lst D.n D.pt, lst D.m (fun i => D.at D.top (D.n + i)), []⟩
theorem opt_sol (bl : p.bounds.length = p.m) (rl : ∀ i, i < p.m → (rowAt p.rows i).length = p.n) (sm : Same (begin0 p.m p.n p.cel (gq p.bounds) c) D) (g : D.Good) (o : D.Off) (h : ∀ v, ¬ D.Wrong v) :
  Cmb p (optSol D).du c ∧ Hld p (optSol D).pt ∧ dotL (optSol D).du p.bounds = D.val ∧ sumN p.n (fun j => c j * gq (optSol D).pt j) = D.val := by
 obtain ⟨h1, h2, h3, h4, h5⟩ := optimal g o sm h
 have em : D.m = p.m := sm.m
 have en : D.n = p.n := sm.n
 simp only [optSol, em, en]
 refine ⟨⟨lst_len _ _, fun i hi => ?_, fun j hj => ?_⟩, ⟨lst_len _ _, fun i hi => ?_⟩, ?_, ?_⟩
 ·rw [lst_gq hi]; exact h2 i hi
 ·rw [← h3 j hj]; exact sumN_congr fun i hi => by rw [lst_gq hi]
 ·refine rle_of ?_ (h1 i hi)
  unfold dotL dotS
  rw [rl i hi]
  exact sumN_congr fun j hj => by rw [lst_gq hj]; rfl
 ·rw [← h4]
  unfold dotL dotS
  rw [lst_len]
  exact sumN_congr fun i hi => by rw [lst_gq hi]
 ·rw [← h5]; exact sumN_congr fun j hj => by rw [lst_gq hj]
def infSol (D : Lin.Tab) (i : Nat) : Sol := ⟨2, 0, [], lst D.m (fun k => if D.bas i = D.n + k then 1 else D.at (D.cel i) (D.n + k)), []⟩
theorem inf_sol (bl : p.bounds.length = p.m) (sm : Same (begin0 p.m p.n p.cel (gq p.bounds) c) D) (g : D.Good) (o : D.Off) {i : Nat} (hi : i < D.m) (hb : D.n ≤ D.bas i) (hc : D.con i < 0) (h : ∀ l, l < D.n → D.n ≤ D.off l → 0 ≤ D.cel i l) : Proves p (infSol D i) := by
 have em : D.m = p.m := sm.m
 have en : D.n = p.n := sm.n
 obtain ⟨h1, h2, h3⟩ := infeasible g.toWf o g.lb g.cel sm (by omega) (by omega) hc (fun l h1 h2 => h l (by omega) (by omega)) (fun k => if D.bas i = D.n + k then 1 else D.at (D.cel i) (D.n + k)) (fun k hk => by simp only [en])
 refine .inr (.inl ⟨rfl, ⟨by simp only [infSol, lst_len, em], fun k hk => ?_, fun j hj => ?_⟩, ?_, rfl, rfl⟩)
 ·simp only [infSol, em]; rw [lst_gq hk]; exact h1 k hk
 ·rw [← h2 j hj]; exact sumN_congr fun k hk => by simp only [infSol, em]; rw [lst_gq hk]
 ·refine rlt_of ?_ h3
  unfold dotL dotS
  simp only [infSol, em, lst_len]
  exact sumN_congr fun k hk => by rw [lst_gq hk]
theorem unb_sol (rl : ∀ i, i < p.m → (rowAt p.rows i).length = p.n) (sm : Same (begin0 p.m p.n p.cel (gq p.bounds) c) D) (g : D.Wf) {j : Nat} (hj : j < D.n) (s : Rat) (hs : D.top j * s < 0) (hoff : D.n ≤ D.off j → 0 ≤ s) (h : ∀ l, l < D.m → D.n ≤ D.bas l → D.cel l j * s ≤ 0) :
  (∀ i, i < p.m → dotL (rowAt p.rows i) (lst D.n (D.ray j s)) ≤ 0) ∧ 0 < sumN p.n (fun l => c l * gq (lst D.n (D.ray j s)) l) := by
 have em : D.m = p.m := sm.m
 have en : D.n = p.n := sm.n
 obtain ⟨h1, h2⟩ := unbounded g sm (by omega) s hs (fun h' => hoff (by omega)) fun l h1 h2 => h l (by omega) (by omega)
 rw [en]
 refine ⟨fun i hi => rle_of ?_ (h1 i hi), rgt_of (sumN_congr fun l hl => by rw [lst_gq hl]) h2⟩
 unfold dotL dotS
 rw [rl i hi]
 exact sumN_congr fun l hl => by rw [lst_gq hl]; rfl
theorem dot_obj (x : List Rat) : dotL p.obj x = sumN p.n (fun j => gq p.obj j * gq x j) := rfl
theorem opt_fits (g : D.Wf) {K : Nat} (hK : 1 ≤ K) (f : TFits D K) : (optSol D).Fits K := ⟨f.val, lst_fits fun i _ => pt_fits g f hK i, lst_fits fun i _ => at_fits g hK _ f.top _, nil_fits K⟩
theorem inf_fits (g : D.Wf) {K : Nat} (hK : 1 ≤ K) (f : TFits D K) {i : Nat} (hi : i < D.m) : (infSol D i).Fits K := ⟨RFits.zero hK, nil_fits K, lst_fits fun k _ => by
 split
 ·exact RFits.one hK
 ·exact at_fits g hK _ (fun j hj => f.cel i j hi hj) _, nil_fits K⟩
end
theorem IsPr.lp {v : PV} {p : LP} (h : IsPr v p) : IsLP v p := by
 obtain ⟨io, ir, ib, rfl, hP, hb, hrl⟩ := h
 refine ⟨_, _, _, rfl, .inr ⟨io, rfl, hP.obj⟩, ?_, ?_⟩
 ·rcases Nat.eq_zero_or_pos p.m with h0 | h0
  ·exact .inl ⟨by rw [h0]; rfl, List.eq_nil_of_length_eq_zero h0⟩
  ·obtain ⟨h1, h2⟩ := hP.rows h0
   refine .inr ⟨ir, sv_pos h0, h1, fun i hi => ?_⟩
   obtain ⟨es, h3, h4⟩ := h2 i hi
   exact ⟨_, h3, .inr ⟨es, rfl, by rw [hrl i hi]; exact h4⟩⟩
 ·rcases Nat.eq_zero_or_pos p.m with h0 | h0
  ·exact .inl ⟨by rw [h0]; rfl, List.eq_nil_of_length_eq_zero (by omega)⟩
  ·exact .inr ⟨ib, sv_pos h0, by rw [hb]; exact hP.bounds h0⟩
theorem IsPr.inj {v : PV} {p q : LP} (h : IsPr v p) (h' : IsPr v q) : p = q := IsLP.inj h.lp h'.lp
noncomputable def pr (v : PV) : LP := the (IsPr v)
theorem pr_eq {v : PV} {p : LP} (h : IsPr v p) : pr v = p := the_eq h fun _ h' => IsPr.inj h' h
theorem out_reify {hp : Nat → Option Ent} {j n : Nat} {es : List PV} {f : Nat → Rat} {k : Int} {b c : Bool} {m u vp : PV} (h : hp j = some ⟨4, es⟩) (hv : RV es n f) (p1 : m.pureB = true) (p2 : u.pureB = true) (p3 : vp.pureB = true) :
  reify hp (.agg [.int .i64 k, .bool b, m, .bool c, u, vp, .own j 0 n, .nil]) = some (.agg [.int .i64 k, .bool b, m, .bool c, u, vp, .slice es, .nil], [j]) := by
 unfold reify
 have e0 : (PV.agg [.int .i64 k, .bool b, m, .bool c, u, vp, .own j 0 n, .nil]).pureB = false := by simp [PV.pureB, PV.pureL]
 rw [e0]
 show reifyW hp (reifyN hp 5) _ = _
 have h0 : ∀ v : PV, v.pureB = true → reifyW hp (reifyN hp 5) v = some (v, []) := fun v hv => reifyW_pure v hv
 have h1 : reifyW hp (reifyN hp 5) (.own j 0 n) = some (.slice es, [j]) := reifyW_own h hv.len (by omega) hv.pure
 have hl : reifyWL hp (reifyN hp 5) [.int .i64 k, .bool b, m, .bool c, u, vp, .own j 0 n, .nil] = some ([.int .i64 k, .bool b, m, .bool c, u, vp, .slice es, .nil], [j]) := by
  simp only [reifyWL, h0 _ p1, h0 _ p2, h0 _ p3, h1, h0 (.int .i64 k) rfl, h0 (.bool b) rfl, h0 (.bool c) rfl, h0 .nil rfl, List.append_nil, List.nil_append]
 rw [reifyW, hl]
def FeasR (p : LP) (r : PV) : Prop := ∃ o, IsSol r o ∧ o.Fits 600 ∧ ((o.kind = 2 ∧ Proves p o) ∨ (o.kind = 1 ∧ Hld p o.pt))
noncomputable def feasibleR : CRel | [v], r => FeasR (pr v) r | _, _ => False
def specsL : Specs := [(82, rnegR), (30, rsignR), (59, rmulR), (80, rsubR), (54, rfromR), (120, quotientR)]
theorem feasible_ok (v : PV) (p : LP) (hv : IsPr v p) (ht : p.Tiny) : Gives prog G 52 [v] (feasibleR [v]) := by
 have hfe : feasibleR [v] = FeasR p := by funext r; simp only [feasibleR, pr_eq hv]
 rw [hfe]
 obtain ⟨io, ir, ib, rfl, hP, hb, hrl⟩ := hv
 have vsl : ∀ es : List PV, (sv p.m es).cells = [sv p.m es] ∧ (sv p.m es).cellOk = true ∧ (sv p.m es).isTop = false := fun es => by unfold sv; split <;> exact ⟨rfl, rfl, rfl⟩
 have v1 := (vsl ir).2.1
 have v2 := (vsl ib).2.1
 have iol := hP.obj.len
 have t1 := ht.m
 have t2 := ht.n
 have mk : p.n * 64 ≤ 140737488355328 := by omega
 have mk2 : p.n < 9223372036854775808 := by omega
 have mk3 : p.n * 4 ≤ 140737488355328 := by omega
 have zr1 : ratZero.cells.length = 4 := rfl
 have zr2 : ratZero.cells.all PV.cellOk = true := rfl
 obtain ⟨io', hio⟩ : ∃ l, l = List.replicate p.n ratZero := ⟨_, rfl⟩
 have hP' : ProgV io' ir ib p.m p.n p.cel (gq p.bounds) (fun _ => 0) := ⟨by rw [hio]; exact RV.zero p.n, hP.rows, hP.bounds⟩
 refine gives (S := specsL) (by kernel_rfl) (by kernel_rfl) (callW_of ann52 func52 rfl (by kernel_rfl) ?_)
 simp [lenPV, iol, v1, v2, mk, mk2, zero_rat, rep_eq, zr1, zr2, ← hio]
 refine callK_run (by rfl) ((begin_own (S := specsL) rfl io' ir ib p.m p.n p.cel (gq p.bounds) (fun _ => 0) hP' (by omega) (by omega) _ _ _ 8 (by omega) rfl (by simp) (fun _ _ => rfl)).mono fun v st h => ?_)
 obtain ⟨L, k, Hk, rfl, tab, room, keep, lt, le, inn, rfl⟩ := h
 obtain ⟨D0, hD0⟩ : ∃ D0, D0 = begin0 p.m p.n p.cel (gq p.bounds) (fun _ => 0) := ⟨_, rfl⟩
 have dm : D0.m = p.m := by rw [hD0]; rfl
 have dn : D0.n = p.n := by rw [hD0]; rfl
 have sm : Small D0 (fun D => ∀ j, j < D.n → D.top j = 0) := ⟨by omega, by omega, fun D pl s => (tiny_small ht (fun _ => 0) (fun j hj => bd_zero (by decide)) D pl (hD0 ▸ s)).mono (by omega), fun D i j hi hj hc h l hl => by
  show (if l = j then 0 else D.top l) - D.top j * _ = 0
  rw [h j hj, h l hl]; grind⟩
 have ho : Of D0 (fun D => ∀ j, j < D.n → D.top j = 0) D0 := ⟨by rw [hD0]; exact begin0_placed, Same.rfl' _, fun j hj => by rw [hD0]; show -(0 : Rat) = 0; grind⟩
 rw [← hD0] at tab
 simp []
 refine callK_run (by rfl) ((release_own (S := specsL) rfl rfl rfl rfl rfl rfl rfl L D0 D0 _ sm _ Hk [] (fun h1 h2 => dm ▸ (room (by omega) (by omega)).mono (by omega)) (lt_mono lt (by omega)) tab ho (by rw [hD0]; exact Free.start)).mono fun v st h => ?_)
 obtain ⟨rfl, k2, H2, D, ho2, hf, mid, rfl⟩ := h
 have dm2 : D.m = p.m := by rw [ho2.same.m, dm]
 have dn2 : D.n = p.n := by rw [ho2.same.n, dn]
 have hrel : D.Rel := ⟨(show D.Free D.n by rw [ho2.same.n]; exact hf).all, fun j hj _ => ho2.pr j hj⟩
 have kk2 := mid.le
 simp []
 refine callK_run (by rfl) ((run_own (S := specsL) rfl rfl rfl rfl rfl rfl rfl rfl rfl rfl rfl L D0 D _ sm _ H2 [] (fun h1 h2 => dm ▸ (room (by omega) (by omega)).mono (by omega)) (fun _ _ => rfl) (lt_mono mid.lt (by omega)) mid.tab (fun q hq => by have := (inn q (dm ▸ hq)).2; omega) ho2 hrel).mono fun v st h => ?_)
 obtain ⟨D', kind, col, b', c', m', u', vp, vd, k3, H3, Z', rfl, re, keep3, lt3, le3, hZ', _, rfl⟩ := h
 have old : ∀ q, q < 12 → Go.Pi.look H3 q = Go.Pi.look _ q := fun q hq => (keep3 q (by omega) fun h => by have := (inn q (dm ▸ h)).1; omega).trans ((mid.keeps q (by omega) fun h => by have := (inn q (by rw [dm2] at h; exact h)).1; omega).trans (keep q hq))
 have l1 := old 1 (by omega)
 simp [Go.Pi.look, beq_lit] at l1
 have z1 : memB Z' 1 = false := hZ' 1 rfl fun _ h => by have := (inn 1 (dm ▸ h)).1; omega
 have good := re.good
 have sm2 := hD0 ▸ re.of.same
 have em : D'.m = p.m := sm2.m
 have en : D'.n = p.n := sm2.n
 have fD := tiny_small ht (fun _ => 0) (fun j hj => bd_zero (by decide)) D' re.of.placed sm2
 have lus : ∀ E, Go.Pi.look (Go.Pi.upd H3 1 E) 1 = some E := fun E => look_upd_same l1
 have zk : memB Z' (k3 + 1 + 1 + 1) = false := hZ' _ rfl fun h => by omega
 have nk : ¬ k3 + 1 + 1 + 1 = 1 := by omega
 rcases re.kinds with rfl | rfl | rfl
 ·obtain ⟨hopt, rfl, hval, ⟨ep, rfl, hep⟩, j, es, rfl, hj, hes⟩ := re.opt rfl
  obtain ⟨_, _, _, _, dd, he, w1, w2, _⟩ := hval.cases
  simp only [PV.agg.injEq, List.cons.injEq, PV.bool.injEq, and_true] at he
  obtain ⟨rfl, rfl, rfl, rfl⟩ := he
  obtain ⟨x1, x2, x3, x4, x5⟩ := w1.cell
  obtain ⟨y1, y2, y3, y4, y5⟩ := w2.cell
  simp [x1, y1, l1, z1, lus, zk]
  have jl := look_lt lt3 hj
  have j1 : 1 ≠ j := fun e => by rw [← e, l1] at hj; simp at hj
  obtain ⟨q1, q2, q3, q4⟩ := opt_sol (p := p) hb hrl sm2 good re.off hopt
  have f1 := opt_fits (D := D') good.toWf (by omega) fD
  exact ⟨_, _, out_reify (by show Go.Pi.look _ j = _; rw [look_cons_ne (by omega), look_upd_ne j1]; exact hj) hes x5 y5 rfl, optSol D', ⟨_, _, _, _, _, _, _, rfl, hval, lst_rl hep, lst_rl hes, .inl ⟨rfl, rfl⟩⟩, f1, .inr ⟨rfl, q2⟩⟩
 ·obtain ⟨rfl, hq, rfl, i, hi, hb', hc', hl, j, es, rfl, hj, hes⟩ := re.inf rfl
  simp only [ratZero, PV.agg.injEq, List.cons.injEq, PV.bool.injEq, and_true] at hq
  obtain ⟨rfl, rfl, rfl, rfl⟩ := hq
  simp [l1, z1, lus, zk]
  have jl := look_lt lt3 hj
  have j1 : 1 ≠ j := fun e => by rw [← e, l1] at hj; simp at hj
  have k1 := inf_sol (p := p) hb sm2 good re.off hi hb' hc' hl
  have f1 := inf_fits (D := D') good.toWf (by omega) fD hi
  exact ⟨_, _, out_reify (by show Go.Pi.look _ j = _; rw [look_cons_ne (by omega), look_upd_ne j1]; exact hj) hes rfl rfl rfl, infSol D' i, ⟨_, _, _, _, _, _, _, rfl, isRat_zero, .inl ⟨rfl, rfl⟩, lst_rl hes, .inl ⟨rfl, rfl⟩⟩, f1, .inl ⟨rfl, k1⟩⟩
 ·obtain ⟨_, _, _, _, j, hj, _, h1, h2, h3⟩ := re.unb rfl
  have := re.of.pr j hj
  rw [this] at h2
  exact absurd h2 Rat.lt_irrefl
theorem Sol.Fits.mono {o : Sol} {K K' : Nat} (h : o.Fits K) (hk : K ≤ K') : o.Fits K' := ⟨h.val.mono hk, fun i hi => (h.pt i hi).mono hk, fun i hi => (h.du i hi).mono hk, fun i hi => (h.ray i hi).mono hk⟩
def SolveR (p : LP) (r : PV) : Prop := ∃ o, IsSol r o ∧ o.Fits 601 ∧ Proves p o
noncomputable def solveR : CRel | [v], r => SolveR (pr v) r | _, _ => False
noncomputable def specsS : Specs := [(52, feasibleR), (82, rnegR), (30, rsignR), (59, rmulR), (80, rsubR), (54, rfromR), (120, quotientR)]
theorem dray {S : Specs} {cx : Cx} {L : Blk} {H : List (Nat × Ent)} {D : Lin.Tab} {Z rd : List Nat} {n j ix : Nat} {qv : PV} {q : Rat} {T : Tm} {dst : Option Tmp} {l : List Lg} {m : List Nat} {ops rest : List Oper} {k : Kont}
  (hS2 : Go.Pi.look S 59 = some rmulR) (hS3 : Go.Pi.look S 82 = some rnegR) (he : Go.Pi.look S 53 = none) (tab : TabAt L H D) (hlt : ∀ q, L.In D.m q → q < n) (hw : D.Wf) (hm : D.m < 1000) (hn : D.n < 1000) (hj : j < D.n) (hq : IsRat qv q) (fq : RFits q 30000) (fd : TFits D 15000)
  (h : ∀ es fr fz, RV es D.n (D.ray j q) → (∀ q, memB Z q = false → ¬ L.In D.m q → memB fz q = false) → drawK prog (specEnv prog G S) G A1 cx (ix + 1) (putT T dst (.slice es)) ⟨n + 1, H, fz⟩ ({ ix := ix, rd := rd ++ (L.t :: fr), wr := [] } :: l) m ops rest k) :
  dcallK prog (specEnv prog G S) G A1 cx 53 [.ptr L.t 0 0, .int .i64 j, qv] ix T ⟨n, H, Z⟩ dst rd l m ops rest k := by
 obtain ⟨ib, io, ic, ig, ip, b, c, mm, u, fr, hre, hV, hfr⟩ := tab.reify (n := 0) (Z := [])
 have hin' : ∀ q ∈ L.t :: fr, L.In D.m q := fun q hq => by
  rcases List.mem_cons.1 hq with rfl | hq
  ·exact .inl rfl
  ·exact hfr q hq
 refine dcallK_run (ws := [tabV ib io ic ig ip b c mm u D, .int .i64 j, qv]) (fr := L.t :: fr) (Q := fun r => ∃ es, r = .slice es ∧ RV es D.n (D.ray j q)) (by simp only [specEnv, he]; rfl) ?_ (List.all_eq_true.2 fun q hq => by
   rw [blt_iff]; exact hlt q (hin' q hq)) (ray_pure hS2 hS3 ib io ic ig ip b c mm u D j qv q hV hw hm hn hj hq fq fd) ?_
 ·have hre' : Pi.reify (St.hp ⟨n, H, Z⟩) (.ptr L.t 0 0) = some (tabV ib io ic ig ip b c mm u D, L.t :: fr) := hre
  have e1 : Pi.reify (St.hp ⟨n, H, Z⟩) (.int .i64 j) = some (.int .i64 j, []) := reify_pure rfl
  have e2 : Pi.reify (St.hp ⟨n, H, Z⟩) qv = some (qv, []) := reify_pure hq.pure
  simp only [reifyL, mapR, hre', e1, e2, List.append_nil]
 ·rintro r ⟨es, rfl, hes⟩
  rw [apply_fr]
  refine h es fr _ hes fun q h1 h2 => ?_
  obtain ⟨Z', hZe⟩ : ∃ Z', Z' = addFr n Z (L.t :: fr) := ⟨_, rfl⟩
  show memB (addFr n Z (L.t :: fr)) q = false
  rw [← hZe]
  cases hb : memB Z' q with
  | false => rfl
  | true =>
   have h3 := (memB_iff _ _).1 hb
   rw [hZe, addFr_eq] at h3
   rcases List.mem_append.1 h3 with h | h
   ·exact absurd (hin' q (List.mem_filter.1 h).1) h2
   ·rw [(memB_iff _ _).2 h] at h1; cases h1
theorem sgn_q {t : Rat} (h : t ≠ 0) : RFits ((-(t.num.sign) : Int) : Rat) 1 ∧ t * ((-(t.num.sign) : Int) : Rat) < 0 := by
 rcases Int.lt_trichotomy t.num 0 with h1 | h1 | h1
 ·have e := Int.sign_eq_neg_one_of_neg h1
  have h2 : t < 0 := by have := sign_lt (q := t); rw [e] at this; simpa using this.symm
  rw [e]
  refine ⟨RFits.one (Nat.le_refl 1), ?_⟩
  have : ((-(-1 : Int) : Int) : Rat) = 1 := rfl
  rw [this]; grind
 ·exact absurd (Rat.num_eq_zero.1 h1) h
 ·have e := Int.sign_eq_one_of_pos h1
  have h2 : 0 < t := by have := sign_gt (q := t); rw [e] at this; simpa using this.symm
  rw [e]
  have : ((-(1 : Int) : Int) : Rat) = -1 := rfl
  rw [this]
  exact ⟨(RFits.one (Nat.le_refl 1)).neg, by grind⟩
theorem pr_kind3 {p : LP} {pt ray : List Rat} (h1 : Hld p pt) (h2 : ray.length = p.n) (h3 : ∀ i, i < p.m → dotL (rowAt p.rows i) ray ≤ 0) (h4 : 0 < dotL p.obj ray) : Proves p ⟨3, 0, pt, [], ray⟩ := .inr (.inr ⟨rfl, h1, rfl, h2, h3, h4⟩)
def solI (L : Blk) (D : Lin.Tab) (H : List (Nat × Ent)) (n0 : Nat) : Nat → List PV → St → Prop := fun w vs st => ∃ (x k : Nat), vs = [.int .i64 (x : Int), .ptr L.t 0 0, .ptr 1 0 0, .int .i64 (D.n : Int), .ptr 0 0 0, slv L.o D.n] ∧ x + w = D.n ∧ (∀ l, l < x → D.off l < D.n → D.top l = 0) ∧ n0 ≤ k ∧ st = ⟨k, H, []⟩
theorem solve_ok (v : PV) (p : LP) (hv : IsPr v p) (ht : p.Tiny) : Gives prog G 19 [v] (solveR [v]) := by
 have hfe : solveR [v] = SolveR p := by funext r; simp only [solveR, pr_eq hv]
 rw [hfe]
 have feas := feasible_ok (G := G) v p hv ht
 have ffe : feasibleR [v] = FeasR p := by funext r; simp only [feasibleR, pr_eq hv]
 have prv := hv.lp.pure
 have hv' := hv
 obtain ⟨io, ir, ib, rfl, hP, hb, hrl⟩ := hv'
 have vsl : ∀ es : List PV, (sv p.m es).cells = [sv p.m es] ∧ (sv p.m es).cellOk = true ∧ (sv p.m es).isTop = false := fun es => by unfold sv; split <;> exact ⟨rfl, rfl, rfl⟩
 have v1 := (vsl ir).2.1
 have v2 := (vsl ib).2.1
 have t1 := ht.m
 have t2 := ht.n
 refine gives (S := specsS) (by kernel_rfl) (by kernel_rfl) (callW_of ann19 func19 rfl (by kernel_rfl) ?_)
 simp [v1, v2]
 refine callK_run (by rfl) ((begin_pure (S := specsS) rfl io ir ib p.m p.n p.cel (gq p.bounds) (gq p.obj) hP (by omega) (by omega) _ _ _ (by simp) (fun _ _ => rfl)).mono fun v st h => ?_)
 obtain ⟨L, k, Hk, rfl, tab, room, keep, lt, le, inn, rfl⟩ := h
 obtain ⟨D0, hD0⟩ : ∃ D0, D0 = begin0 p.m p.n p.cel (gq p.bounds) (gq p.obj) := ⟨_, rfl⟩
 have dm : D0.m = p.m := by rw [hD0]; rfl
 have dn : D0.n = p.n := by rw [hD0]; rfl
 have sm : Small D0 (fun _ => True) := ⟨by omega, by omega, fun D pl s => (tiny_small ht _ ht.obj D pl (hD0 ▸ s)).mono (by omega), fun _ _ _ _ _ _ _ => trivial⟩
 have ho : Of D0 (fun _ => True) D0 := ⟨by rw [hD0]; exact begin0_placed, Same.rfl' _, trivial⟩
 rw [← hD0] at tab
 simp []
 refine callK_run (by rfl) ((release_own (S := specsS) rfl rfl rfl rfl rfl rfl rfl L D0 D0 _ sm _ Hk [] (fun h1 h2 => dm ▸ (room (by omega) (by omega)).mono (by omega)) (lt_mono lt (by omega)) tab ho (by rw [hD0]; exact Free.start)).mono fun v st h => ?_)
 obtain ⟨rfl, k2, H2, D, ho2, hf, mid, rfl⟩ := h
 have dm2 : D.m = p.m := by rw [ho2.same.m, dm]
 have dn2 : D.n = p.n := by rw [ho2.same.n, dn]
 have hf' : D.Free D.n := by rw [ho2.same.n]; exact hf
 have kk2 := mid.le
 have sm0 := hD0 ▸ ho2.same
 have fD0 := tiny_small ht (gq p.obj) ht.obj D ho2.placed sm0
 have old2 : ∀ q, q < 3 → Go.Pi.look H2 q = Go.Pi.look _ q := fun q hq => (mid.keeps q (by omega) fun h => by have := (inn q (by rw [dm2] at h; exact h)).1; omega).trans (keep q hq)
 have l20 := old2 0 (by omega)
 have l21 := old2 1 (by omega)
 simp [Go.Pi.look, beq_lit] at l20 l21
 have tab2 := mid.tab
 obtain ⟨vb, vm, vc, vu, tt, tv⟩ := tab2.tt
 have slo := (slv_ids L.o D.n).2.2.2
 have m1000 : D.m < 1000 := by omega
 have n1000 : D.n < 1000 := by omega
 simp [tt, slo]
 refine loopK_of (solI L D H2 k2) rfl rfl ?step D.n _ _ ?init
 case init => exact ⟨0, _, rfl, by omega, fun l h => absurd h (Nat.not_lt_zero l), by omega, rfl⟩
 case step =>
 rintro w vs st ⟨x, kk, rfl, hxw, hz, hkk, rfl⟩
 rcases Nat.eq_zero_or_pos w with h0 | h0
 ·have hxn : x = D.n := by omega
  subst hxn
  have hrel : D.Rel := ⟨hf'.all, fun j hj h => hz j hj h⟩
  simp []
  refine callK_run (by rfl) ((run_own (S := specsS) rfl rfl rfl rfl rfl rfl rfl rfl rfl rfl rfl L D0 D _ sm _ H2 [] (fun h1 h2 => dm ▸ (room (by omega) (by omega)).mono (by omega)) (fun _ _ => rfl) (lt_mono mid.lt (by omega)) mid.tab (fun q hq => by have := (inn q (dm ▸ hq)).2; omega) ho2 hrel).mono fun v st h => ?_)
  obtain ⟨D', kind, col, b', c', m', u', vp, vd, k3, H3, Z', rfl, re, keep3, lt3, le3, hZ', hZ3, rfl⟩ := h
  have old : ∀ q, q < 3 → Go.Pi.look H3 q = Go.Pi.look H2 q := fun q hq => keep3 q (by omega) fun h => by have := (inn q (dm ▸ h)).1; omega
  have l30 := (old 0 (by omega)).trans l20
  have l31 := (old 1 (by omega)).trans l21
  have z1 : memB Z' 1 = false := hZ' 1 rfl fun _ h => by have := (inn 1 (dm ▸ h)).1; omega
  have good := re.good
  have sm2 := hD0 ▸ re.of.same
  have em : D'.m = p.m := sm2.m
  have en : D'.n = p.n := sm2.n
  have fD := tiny_small ht (gq p.obj) ht.obj D' re.of.placed sm2
  have lus : ∀ E, Go.Pi.look (Go.Pi.upd H3 1 E) 1 = some E := fun E => look_upd_same l31
  have zk : memB Z' (k3 + 1 + 1 + 1) = false := hZ' _ rfl fun h => by omega
  have nk : ¬ k3 + 1 + 1 + 1 = 1 := by omega
  rcases re.kinds with rfl | rfl | rfl
  ·obtain ⟨hopt, rfl, hval, ⟨ep, rfl, hep⟩, j, es, rfl, hj, hes⟩ := re.opt rfl
   obtain ⟨_, _, _, _, dd, he, w1, w2, _⟩ := hval.cases
   simp only [PV.agg.injEq, List.cons.injEq, PV.bool.injEq, and_true] at he
   obtain ⟨rfl, rfl, rfl, rfl⟩ := he
   obtain ⟨x1, x2, x3, x4, x5⟩ := w1.cell
   obtain ⟨y1, y2, y3, y4, y5⟩ := w2.cell
   simp [x1, y1, l31, z1, lus, zk]
   have jl := look_lt lt3 hj
   have j1 : 1 ≠ j := fun e => by rw [← e, l31] at hj; simp at hj
   obtain ⟨q1, q2, q3, q4⟩ := opt_sol (p := p) hb hrl sm2 good re.off hopt
   have f1 := opt_fits (D := D') good.toWf (by omega) fD
   exact ⟨_, _, out_reify (by show Go.Pi.look _ j = _; rw [look_cons_ne (by omega), look_upd_ne j1]; exact hj) hes x5 y5 rfl, optSol D', ⟨_, _, _, _, _, _, _, rfl, hval, lst_rl hep, lst_rl hes, .inl ⟨rfl, rfl⟩⟩, f1.mono (by omega), .inl ⟨rfl, q1, q2, rfl, q3, q4⟩⟩
  ·obtain ⟨rfl, hq, rfl, i, hi, hb', hc', hl, j, es, rfl, hj, hes⟩ := re.inf rfl
   simp only [ratZero, PV.agg.injEq, List.cons.injEq, PV.bool.injEq, and_true] at hq
   obtain ⟨rfl, rfl, rfl, rfl⟩ := hq
   simp [l31, z1, lus, zk]
   have jl := look_lt lt3 hj
   have j1 : 1 ≠ j := fun e => by rw [← e, l31] at hj; simp at hj
   have k1 := inf_sol (p := p) hb sm2 good re.off hi hb' hc' hl
   have f1 := inf_fits (D := D') good.toWf (by omega) fD hi
   exact ⟨_, _, out_reify (by show Go.Pi.look _ j = _; rw [look_cons_ne (by omega), look_upd_ne j1]; exact hj) hes rfl rfl rfl, infSol D' i, ⟨_, _, _, _, _, _, _, rfl, isRat_zero, .inl ⟨rfl, rfl⟩, lst_rl hes, .inl ⟨rfl, rfl⟩⟩, f1.mono (by omega), k1⟩
  ·obtain ⟨hq, rfl, rfl, tab3, j, hj, rfl, h1, h2, h3⟩ := re.unb rfl
   simp only [ratZero, PV.agg.injEq, List.cons.injEq, PV.bool.injEq, and_true] at hq
   obtain ⟨rfl, rfl, rfl, rfl⟩ := hq
   obtain rfl := hZ3 rfl
   have l3k : ∀ E, Go.Pi.look ((k3 + 1 + 1 + 1, E) :: H3) 0 = Go.Pi.look H3 0 := fun E => look_cons_ne (by omega)
   have nk0 : ¬ k3 + 1 + 1 + 1 = 0 := by omega
   simp [l30]
   refine callK_pure rfl (by simp only [PV.pureL, prv, Bool.and_self]) feas fun r hr => ?_
   rw [ffe] at hr
   obtain ⟨⟨kind, val, pt, du, ray⟩, ⟨b1, m1, c1, u1, vp1, vd1, vr1, rfl, i1, i2, i3, i4⟩, fo, hk⟩ := hr
   obtain ⟨_, _, _, _, dd, he, w1, w2, _⟩ := i1.cases
   simp only [PV.agg.injEq, List.cons.injEq, PV.bool.injEq, and_true] at he
   obtain ⟨rfl, rfl, rfl, rfl⟩ := he
   obtain ⟨x1, x2, x3, x4, x5⟩ := w1.cell
   obtain ⟨y1, y2, y3, y4, y5⟩ := w2.cell
   obtain ⟨p1, p2, p3, p4⟩ := i2.cell
   obtain ⟨d1, d2, d3, d4⟩ := i3.cell
   obtain ⟨e1, e2, e3, e4⟩ := i4.cell
   have nk2 : ¬ k3 + 1 + 1 + 1 + 1 + 1 + 1 + 1 + 1 + 1 + 1 + 1 = 1 := by omega
   simp only [] at hk
   rcases hk with ⟨rfl, hpr⟩ | ⟨rfl, hld⟩
   ·simp [l31, x1, y1, p1, d1, e1, lus]
    exact outK_pure (by simp [PV.pureB, PV.pureL, x5, y5, i2.pure, i3.pure, i4.pure]) ⟨_, ⟨_, _, _, _, _, _, _, rfl, i1, i2, i3, i4⟩, fo.mono (by omega), hpr⟩
   ·simp [x1, y1, p1, d1, e1]
    have tab4 := (tab3.cons (e := ⟨8, [.agg [.int .i64 3, .bool false, .nil, .bool false, .nil, .nil, .nil, .nil]]⟩) (j := k3 + 1 + 1 + 1) (lt_mono lt3 (by omega))).cons (e := ⟨8, [.agg [.int .i64 1, .bool b1, m1, .bool c1, u1, vp1, vd1, vr1]]⟩) (j := k3 + 1 + 1 + 1 + 1 + 1 + 1 + 1 + 1 + 1 + 1 + 1) (cons_lt (lt_mono lt3 (by omega)) (Nat.le_refl _) (by omega))
    rw [run_draw]
    simp []
    refine dcallK_pure rfl rfl (rfrom_ok 1 (by omega)) fun r9 hr9 => ?_
    simp only [rfromR] at hr9
    simp []
    refine dray rfl rfl rfl tab4 (fun q hq => by have := (inn q (by rw [em] at hq; exact hq)).2; omega) good.toWf (by omega) (by omega) hj hr9 ((RFits.one (Nat.le_refl 1)).mono (by omega)) (fD.mono (by omega)) fun es fr fz hes hfz => ?_
    have z1' : memB fz 1 = false := hfz 1 rfl fun h => by have := (inn 1 (by rw [em] at h; exact h)).1; omega
    simp [p1, p2, p3, l31, z1', lus]
    obtain ⟨q1, q2⟩ := unb_sol (p := p) hrl sm2 good.toWf hj 1 (by grind) (fun _ => by decide) (fun l h4 h5 => by have := h3 l h4 h5; grind)
    refine ⟨logOk_free (by simp only [List.map_cons, List.map_nil, tri, List.isEmpty_nil, List.isEmpty_cons]; decide +kernel), outK_pure (by simp [PV.pureB, PV.pureL, i2.pure]) ⟨⟨3, 0, pt, [], lst D'.n (D'.ray j 1)⟩, ⟨_, _, _, _, _, _, _, rfl, isRat_zero, i2, .inl ⟨rfl, rfl⟩, lst_rl hes⟩, ⟨RFits.zero (by omega), fun i hi => (fo.pt i hi).mono (by omega), nil_fits _, lst_fits fun i _ => ray_fits good.toWf fD (by omega) hj (RFits.one (Nat.le_refl 1)) i⟩, pr_kind3 hld (by rw [lst_len, en]) q1 q2⟩⟩
 ·have hx : x < D.n := by omega
  have np : 0 < D.n := by omega
  have hxx : (x : Int) < D.n := by omega
  have wx : IntKind.i64.wrap ((x : Int) + 1) = ((x + 1 : Nat) : Int) := w_i64 (by omega)
  obtain ⟨eso, f3, f4⟩ := tab2.oo np
  have o1 := f4.at_ x hx
  obtain ⟨esi, r1, r2⟩ := tab2.pp np
  obtain ⟨b2, m2, cc2, u2, d2, l1, l2, l3, l4⟩ := r2.get hx
  obtain ⟨g1, g2, g3, g4, g5⟩ := l3.cell
  obtain ⟨k1, k2', k3', k4', k5'⟩ := l4.cell
  have so : slv L.o D.n = .own L.o 0 D.n := slv_pos np
  have sg' : slv L.p D.n = .own L.p 0 D.n := slv_pos np
  have next : (D.off x < D.n → D.top x = 0) → ∀ k', k2 ≤ k' → ∃ m', m' < w ∧ solI L D H2 k2 m' [.int .i64 ((x + 1 : Nat) : Int), .ptr L.t 0 0, .ptr 1 0 0, .int .i64 (D.n : Int), .ptr 0 0 0, slv L.o D.n] ⟨k', H2, []⟩ := fun h k' hk' => ⟨w - 1, by omega, x + 1, k', rfl, by omega, fun l hl => by
   rcases lt_succ_cases hl with h4 | rfl
   ·exact hz l h4
   ·exact h, hk', rfl⟩
  rw [so] at next ⊢
  rcases Nat.lt_or_ge (D.off x) D.n with hA | hA
  ·have hA1 : (D.off x : Int) < (D.n : Int) := by omega
   simp [tt, f3, o1, hx, hxx, hA1, sg', r1, l1]
   refine callK_pure rfl (by simp [PV.pureL, l2.pure]) (rsign_ok _ _ l2) fun r hr => ?_
   simp only [rsignR, ratv_eq l2] at hr
   subst hr
   by_cases hf0 : D.top x = 0
   ·have hs : ((D.top x).num.sign != 0) = false := by rw [num_sign_ne]; simp [hf0]
    simp [hs, wx]
    exact next (fun _ => hf0) _ (by omega)
   ·have hs : ((D.top x).num.sign != 0) = true := by rw [num_sign_ne]; simp [hf0]
    simp [hs, l20]
    refine callK_pure rfl (by simp only [PV.pureL, prv, Bool.and_self]) feas fun r hr => ?_
    rw [ffe] at hr
    obtain ⟨⟨kind, val, pt, du, ray⟩, ⟨b1, m1, c1, u1, vp1, vd1, vr1, rfl, i1, i2, i3, i4⟩, fo, hk⟩ := hr
    obtain ⟨_, _, _, _, dd, he, w1, w2, _⟩ := i1.cases
    simp only [PV.agg.injEq, List.cons.injEq, PV.bool.injEq, and_true] at he
    obtain ⟨rfl, rfl, rfl, rfl⟩ := he
    obtain ⟨x1, x2, x3, x4, x5⟩ := w1.cell
    obtain ⟨y1, y2, y3, y4, y5⟩ := w2.cell
    obtain ⟨p1, p2, p3, p4⟩ := i2.cell
    obtain ⟨d1, d2, d3, d4⟩ := i3.cell
    obtain ⟨e1, e2, e3, e4⟩ := i4.cell
    have ltt : L.t < k2 := look_lt mid.lt tt
    have ltp : L.p < k2 := look_lt mid.lt r1
    have n61 : ¬ kk + 1 + 1 + 1 + 1 + 1 + 1 + 1 + 1 + 1 + 1 + 1 + 1 + 1 + 1 + 1 + 1 + 1 + 1 + 1 + 1 + 1 + 1 + 1 + 1 + 1 = 1 := by omega
    have n6t : ¬ kk + 1 + 1 + 1 + 1 + 1 + 1 + 1 + 1 + 1 + 1 + 1 + 1 + 1 + 1 + 1 + 1 + 1 + 1 + 1 + 1 + 1 + 1 + 1 + 1 + 1 = L.t := by omega
    have n6p : ¬ kk + 1 + 1 + 1 + 1 + 1 + 1 + 1 + 1 + 1 + 1 + 1 + 1 + 1 + 1 + 1 + 1 + 1 + 1 + 1 + 1 + 1 + 1 + 1 + 1 + 1 = L.p := by omega
    have lus : ∀ E, Go.Pi.look (Go.Pi.upd H2 1 E) 1 = some E := fun E => look_upd_same l21
    simp only [] at hk
    rcases hk with ⟨rfl, hpr⟩ | ⟨rfl, hld⟩
    ·simp [l21, x1, y1, p1, d1, e1, lus]
     exact outK_pure (by simp [PV.pureB, PV.pureL, x5, y5, i2.pure, i3.pure, i4.pure]) ⟨_, ⟨_, _, _, _, _, _, _, rfl, i1, i2, i3, i4⟩, fo.mono (by omega), hpr⟩
    ·simp [x1, y1, p1, d1, e1]
     have tab4 := tab2.cons (e := ⟨8, [.agg [.int .i64 1, .bool b1, m1, .bool c1, u1, vp1, vd1, vr1]]⟩) (j := kk + 1 + 1 + 1 + 1 + 1 + 1 + 1 + 1 + 1 + 1 + 1 + 1 + 1 + 1 + 1 + 1 + 1 + 1 + 1 + 1 + 1 + 1 + 1 + 1 + 1) (lt_mono mid.lt (by omega))
     rw [run_draw]
     simp [tt, sg', r1, l1, hx, n6t, n6p]
     refine dcallK_pure rfl (by simp [PV.pureL, l2.pure]) (rsign_ok _ _ l2) fun r hr => ?_
     simp only [rsignR, ratv_eq l2] at hr
     subst hr
     have sg1 : -1 ≤ (D.top x).num.sign ∧ (D.top x).num.sign ≤ 1 := by rcases Int.lt_trichotomy (D.top x).num 0 with h | h | h <;> simp [Int.sign_eq_neg_one_of_neg, Int.sign_eq_one_of_pos, h]
     have wsg : IntKind.i64.wrap (-(D.top x).num.sign) = -(D.top x).num.sign := w_i64 (by omega)
     simp [wsg]
     refine dcallK_pure rfl rfl (rfrom_ok _ (by omega)) fun r9 hr9 => ?_
     simp only [rfromR] at hr9
     obtain ⟨sq1, sq2⟩ := sgn_q hf0
     obtain ⟨sq, hsq⟩ : ∃ sq, sq = ((-((D.top x).num.sign) : Int) : Rat) := ⟨_, rfl⟩
     rw [← hsq] at hr9 sq1 sq2
     simp []
     refine dray rfl rfl rfl tab4 (fun q hq => by have := (inn q (by rw [dm2] at hq; exact hq)).2; omega) ho2.placed.toWf (by omega) (by omega) hx hr9 (sq1.mono (by omega)) (fD0.mono (by omega)) fun es fr fz hes hfz => ?_
     have z1' : memB fz 1 = false := hfz 1 rfl fun h => by have := (inn 1 (by rw [dm2] at h; exact h)).1; omega
     simp [p1, p2, p3, l21, z1', lus, g2, k2']
     obtain ⟨q1, q2⟩ := unb_sol (p := p) hrl sm0 ho2.placed.toWf hx sq sq2 (fun h => by omega) (fun l h4 h5 => by have := hf'.all l x h4 hx hA h5; rw [this]; grind)
     refine ⟨logOk_free (by simp only [List.map_cons, List.map_nil, tri, List.isEmpty_nil, List.isEmpty_cons]; decide +kernel), outK_pure (by simp [PV.pureB, PV.pureL, i2.pure]) ⟨⟨3, 0, pt, [], lst D.n (D.ray x sq)⟩, ⟨_, _, _, _, _, _, _, rfl, isRat_zero, i2, .inl ⟨rfl, rfl⟩, lst_rl hes⟩, ⟨RFits.zero (by omega), fun i hi => (fo.pt i hi).mono (by omega), nil_fits _, lst_fits fun i _ => ray_fits ho2.placed.toWf fD0 (by omega) hx sq1 i⟩, pr_kind3 hld (by rw [lst_len, dn2]) q1 q2⟩⟩
  ·have hA1 : ¬ (D.off x : Int) < (D.n : Int) := by omega
   have hA2 : ¬ D.off x < D.n := by omega
   simp [tt, f3, o1, hx, hxx, wx, hA1]
   exact next (fun h => absurd h hA2) _ (by omega)
theorem big20 : ((10 ^ 20 : Nat) : Int) < pw 3 := by decide +kernel
theorem LP.Tiny.fcel {p : LP} (h : p.Tiny) (i j : Nat) (hi : i < p.m) (hj : j < p.n) : RFits (p.cel i j) 3 := bd_fits (h.cel i j hi hj) big20
theorem LP.Tiny.fbnd {p : LP} (h : p.Tiny) : LFits p.bounds 3 := fun i hi => bd_fits (h.bnd i (by rw [← h.bl]; exact hi)) big20
theorem LP.Tiny.fobj {p : LP} (h : p.Tiny) : LFits p.obj 3 := fun i hi => bd_fits (h.obj i hi) big20
theorem LP.Tiny.frow {p : LP} (h : p.Tiny) {i : Nat} (hi : i < p.m) : LFits (rowAt p.rows i) 3 := fun j hj => h.fcel i j hi (by rw [← h.rl i hi]; exact hj)
def cmbS (p : LP) (y : List Rat) (i j : Nat) : Rat := sumN i (fun l => gq y l * p.cel l j)
theorem cmbS_fits {p : LP} (h : p.Tiny) {y : List Rat} {K : Nat} (hy : LFits y K) (hl : y.length = p.m) {j : Nat} (hj : j < p.n) : ∀ i, i ≤ p.m → RFits (cmbS p y i j) (1 + i * (K + 4))
 | 0, _ => RFits.zero (by omega)
 | i + 1, hi => by
  have h1 := cmbS_fits h hy hl hj i (by omega)
  have h2 := (hy i (by omega)).mul (h.fcel i j (by omega) hj)
  refine (h1.add h2).mono ?_
  rw [Nat.add_mul]; omega
open Classical in
noncomputable def combB (p : LP) (y c : List Rat) : Bool := decide ((∀ i, i < p.m → 0 ≤ gq y i) ∧ ∀ j, j < p.n → cmbS p y p.m j = gq c j)
def CombR (p : LP) (y c : List Rat) (r : PV) : Prop := ∃ q x, r = .tuple [q, .bool (combB p y c)] ∧ IsRat q x ∧ (combB p y c = true → x = dotL y p.bounds)
noncomputable def combinesR : CRel | [v, y, c], r => CombR (pr v) (rl y) (rl c) r | _, _ => False
def cmI1 (p : LP) (y : List Rat) (pv vy vw : PV) : Nat → List PV → St → Prop := fun w vs st => ∃ (i k : Nat) (es : List PV) (Hk : List (Nat × Ent)), vs = [.int .i64 (i : Int), .int .i64 (p.m : Int), .own 5 0 p.n, .ptr 0 0 0, .ptr 1 0 0, vy, vy, vw] ∧ i + w = p.m ∧ RV es p.n (cmbS p y i) ∧ (∀ l, l < i → 0 ≤ gq y l) ∧
 Go.Pi.look Hk 5 = some ⟨4, es⟩ ∧ Go.Pi.look Hk 0 = some ⟨3, [pv]⟩ ∧ Go.Pi.look Hk 1 = some ⟨4, [ratZero]⟩ ∧ (∀ q ∈ Hk, q.1 < k) ∧ 5 < k ∧ st = ⟨k, Hk, []⟩
def cmI2 (p : LP) (y c : List Rat) (vy vw : PV) (Hk : List (Nat × Ent)) (k0 : Nat) : Nat → List PV → St → Prop := fun w vs st => ∃ (j k : Nat), vs = [.int .i64 (j : Int), .int .i64 (p.n : Int), .ptr 1 0 0, .own 5 0 p.n, vw, vy, .ptr 0 0 0] ∧ j + w = p.n ∧ (∀ l, l < j → cmbS p y p.m l = gq c l) ∧ k0 ≤ k ∧ st = ⟨k, Hk, []⟩
def specsC : Specs := [(82, rnegR), (30, rsignR), (59, rmulR), (80, rsubR), (27, rcompareR)]
theorem combines_ok (v vy vw : PV) (p : LP) (y c : List Rat) (hv : IsPr v p) (ht : p.Tiny) (hy : IsRL vy y) (hc : IsRL vw c) (yl : y.length = p.m) (cl : c.length = p.n) (fy : LFits y 600) (fc : LFits c 600) : Gives prog G 70 [v, vy, vw] (combinesR [v, vy, vw]) := by
 have hfe : combinesR [v, vy, vw] = CombR p y c := by funext r; simp only [combinesR, pr_eq hv, rl_eq hy, rl_eq hc]
 rw [hfe]
 obtain ⟨io, ir, ib, rfl, hP, hb, hrl⟩ := hv
 have vsl : ∀ es : List PV, (sv p.m es).cells = [sv p.m es] ∧ (sv p.m es).cellOk = true ∧ (sv p.m es).isTop = false ∧ (sv p.m es).pureB = true := fun es => by unfold sv; split <;> exact ⟨rfl, rfl, rfl, rfl⟩
 have v1 := (vsl ir).2.1
 have v2 := (vsl ib).2.1
 have t1 := ht.m
 have t2 := ht.n
 have ly := hy.len
 have lc := hc.len
 rw [yl] at ly
 rw [cl] at lc
 have mk : p.n * 64 ≤ 140737488355328 := by omega
 have mk2 : p.n < 9223372036854775808 := by omega
 have mk3 : p.n * 4 ≤ 140737488355328 := by omega
 have zr1 : ratZero.cells.length = 4 := rfl
 have zr2 : ratZero.cells.all PV.cellOk = true := rfl
 refine gives (S := (72, dotR) :: specsC) (by kernel_rfl) (by kernel_rfl) (callW_of ann70 func70 rfl (by kernel_rfl) ?_)
 simp [v1, v2, lc, ly, mk, mk2, zero_rat, rep_eq, zr1, zr2]
 refine loopK_of (cmI1 p y (.agg [.slice io, sv p.m ir, sv p.m ib]) vy vw) rfl rfl ?step1 p.m _ _ ?init1
 case init1 => exact ⟨0, _, _, _, rfl, by omega, RV.zero p.n, fun l h => absurd h (Nat.not_lt_zero l), rfl, rfl, rfl, by simp, by omega, rfl⟩
 case step1 =>
 rintro w vs st ⟨i, k, es, Hk, rfl, hiw, hes, hpos, l5, l0, l1, hlt, hk, rfl⟩
 rcases Nat.eq_zero_or_pos w with h0 | h0
 ·have hi : i = p.m := by omega
  subst hi
  simp [lenPV]
  have ff : ∀ K, 1 + p.m * (600 + 4) ≤ K → ∀ x, x < p.n → RFits (cmbS p y p.m x) K := fun K hK x hx => (cmbS_fits ht fy yl hx p.m (by omega)).mono (by omega)
  refine loopK_of (cmI2 p y c vy vw Hk k) rfl rfl ?step2 p.n _ _ ?init2
  case init2 => exact ⟨0, _, rfl, by omega, fun l h => absurd h (Nat.not_lt_zero l), by omega, rfl⟩
  case step2 =>
  rintro w vs st ⟨j, kk, rfl, hjw, heq, hkk, rfl⟩
  have l1' := l1
  unfold ratZero at l1'
  have lus : ∀ E, Go.Pi.look (Go.Pi.upd Hk 1 E) 1 = some E := fun E => look_upd_same l1
  rcases Nat.eq_zero_or_pos w with h0 | h0
  ·have hj : j = p.n := by omega
   subst hj
   have hcb : combB p y c = true := decide_eq_true ⟨hpos, heq⟩
   have ibr : IsRL (sv p.m ib) p.bounds := by
    rcases Nat.eq_zero_or_pos p.m with h0 | h0
    ·exact .inl ⟨by rw [h0]; rfl, List.eq_nil_of_length_eq_zero (by omega)⟩
    ·exact .inr ⟨ib, sv_pos h0, by rw [hb]; exact hP.bounds h0⟩
   simp [l0]
   have bnd : 1 + y.length * (2 * 600 + 1) ≤ 90000 := by omega
   refine callK_pure rfl (by simp [PV.pureL, hy.pure, ibr.pure]) (dot_ok vy (sv p.m ib) y p.bounds 600 hy ibr (by omega) (by omega) fy (fun i hi => (ht.fbnd i hi).mono (by omega)) bnd (by omega)) fun r hr => ?_
   simp only [dotR, rl_eq hy, rl_eq ibr] at hr
   have hr' := hr
   obtain ⟨b8, m8, cc8, u8, d8, rfl, q1, q2, _⟩ := hr.cases
   obtain ⟨q11, q12, q13, q14, q15⟩ := q1.cell
   obtain ⟨q21, q22, q23, q24, q25⟩ := q2.cell
   simp [l1', lus, q11, q21]
   exact outK_pure (by simp [PV.pureB, PV.pureL, q15, q25]) ⟨_, _, by rw [hcb], hr', fun _ => rfl⟩
  ·have hj : j < p.n := by omega
   have hjj : (j : Int) < p.n := by omega
   have wj : IntKind.i64.wrap ((j : Int) + 1) = ((j + 1 : Nat) : Int) := w_i64 (by omega)
   obtain ⟨ec, rfl, hec⟩ := hc.at (i := j) (by omega)
   obtain ⟨b3, m3, cc3, u3, d3, j1, j2, j3, j4⟩ := hec.get (k := j) (by omega)
   obtain ⟨b6, m6, cc6, u6, d6, i1, i2, i3, i4⟩ := hes.get hj
   obtain ⟨g1, g2, g3, g4, g5⟩ := j3.cell
   obtain ⟨k1, k2, k3, k4, k5⟩ := j4.cell
   obtain ⟨g1', g2', g3', g4', g5'⟩ := i3.cell
   obtain ⟨k1', k2', k3', k4', k5'⟩ := i4.cell
   have j1' := getE j1
   have i1' := getE i1
   have ecl := hec.len
   have esl := hes.len
   simp [run_draw, hjj, hj, l5, j1', i1', ecl, esl, cl]
   refine dcallK_pure rfl (by simp [PV.pureL, i2.pure, j2.pure]) (rcompare_ok _ _ _ _ i2 j2 (ff _ (by omega) j hj) ((fc j (by omega)).mono (by omega))) fun r9 hr9 => ?_
   simp only [rcompareR, ratv_eq i2, ratv_eq j2] at hr9
   subst hr9
   have hcmp : (cmpR (cmbS p y p.m j) (gq c j) == 0) = decide (cmbS p y p.m j = gq c j) := by
    unfold cmpR
    by_cases h : cmbS p y p.m j < gq c j
    ·rw [if_pos h]
     have : ¬ cmbS p y p.m j = gq c j := fun e => by rw [e] at h; exact Rat.lt_irrefl h
     simp [this]
    ·rw [if_neg h]
     by_cases h2 : cmbS p y p.m j = gq c j
     ·rw [if_pos h2]; simp [h2]
     ·rw [if_neg h2]; simp [h2]
   by_cases hE : cmbS p y p.m j = gq c j
   ·have hE1 : (cmpR (cmbS p y p.m j) (gq c j) != 0) = false := by unfold bne; rw [hcmp]; simp [hE]
    simp [hE1, wj, g2, k2, g2', k2']
    refine ⟨logOk_free (by simp only [List.map_cons, List.map_nil, tri, List.isEmpty_nil, List.isEmpty_cons]; decide +kernel), w - 1, by omega, j + 1, _, rfl, by omega, fun l hl => ?_, by omega, rfl⟩
    rcases lt_succ_cases hl with h4 | rfl
    ·exact heq l h4
    ·exact hE
   ·have hE1 : (cmpR (cmbS p y p.m j) (gq c j) != 0) = true := by unfold bne; rw [hcmp]; simp [hE]
    simp [hE1, l1', lus, g2, k2, g2', k2']
    have hcb : combB p y c = false := decide_eq_false fun h => hE (h.2 j hj)
    refine ⟨logOk_free (by simp only [List.map_cons, List.map_nil, tri, List.isEmpty_nil, List.isEmpty_cons]; decide +kernel), outK_pure rfl ⟨_, 0, by rw [hcb]; rfl, isRat_zero, fun h => ?_⟩⟩
    rw [hcb] at h; cases h
 ·have hi : i < p.m := by omega
  have mp : 0 < p.m := by omega
  have hii : (i : Int) < p.m := by omega
  have wi : IntKind.i64.wrap ((i : Int) + 1) = ((i + 1 : Nat) : Int) := w_i64 (by omega)
  obtain ⟨ey, rfl, hey⟩ := hy.at (i := i) (by omega)
  obtain ⟨b3, m3, cc3, u3, d3, j1, j2, j3, j4⟩ := hey.get (k := i) (by omega)
  obtain ⟨g1, g2, g3, g4, g5⟩ := j3.cell
  obtain ⟨k1, k2, k3, k4, k5⟩ := j4.cell
  have j1' := getE j1
  have eyl := hey.len
  obtain ⟨erow, r1, r2⟩ := (hP.rows mp).2 i hi
  have r1' := getE r1
  have irl := (hP.rows mp).1
  have sr : sv p.m ir = .slice ir := sv_pos mp
  simp [hii, hi, j1', eyl, yl, g1, k1]
  refine callK_pure rfl (by simp [PV.pureL, j2.pure]) (rsign_ok _ _ j2) fun r hr => ?_
  simp only [rsignR, ratv_eq j2] at hr
  subst hr
  by_cases hB : gq y i < 0
  ·have hB1 : (gq y i).num.sign < 0 := by have := sign_lt (q := gq y i); simpa [hB] using this
   have l1' := l1
   unfold ratZero at l1'
   have lus : ∀ E, Go.Pi.look (Go.Pi.upd Hk 1 E) 1 = some E := fun E => look_upd_same l1
   have n41 : ¬ k + 1 + 1 + 1 + 1 = 1 := by omega
   simp [hB1, l1', lus]
   refine outK_pure rfl ⟨_, 0, by rw [show combB p y c = false from decide_eq_false fun h => by have := h.1 i hi; grind]; rfl, isRat_zero, fun h => ?_⟩
   rw [show combB p y c = false from decide_eq_false fun h => by have := h.1 i hi; grind] at h
   cases h
  ·have hB1 : ¬ (gq y i).num.sign < 0 := by have := sign_lt (q := gq y i); simpa [hB] using this
   have n40 : ¬ k + 1 + 1 + 1 + 1 = 0 := by omega
   rw [sr] at l0
   simp [run_draw, hB1, l0, r1', irl, hi]
   refine dcallK_pure rfl (by simp [PV.pureL, j2.pure]) (rneg_ok _ _ j2) fun r9 hr9 => ?_
   simp only [rnegR, ratv_eq j2] at hr9
   simp [g2, k2]
   refine ⟨logOk_free (by simp only [List.map_cons, List.map_nil, tri, List.isEmpty_nil, List.isEmpty_cons]; decide +kernel), ?_⟩
   have ff : ∀ K, 1 + p.m * (600 + 4) ≤ K → ∀ x, x < p.n → RFits (cmbS p y i x) K := fun K hK x hx => (cmbS_fits ht fy yl hx i (by omega)).mono (Nat.le_trans (Nat.add_le_add_left (Nat.mul_le_mul_right _ (by omega)) 1) hK)
   refine callK_run (by rfl) ((less_pure (S := (72, dotR) :: specsC) rfl rfl rfl 5 p.n es erow (cmbS p y i) (p.cel i) r9 (-(gq y i)) _ _ [] (by rw [look_cons_ne (by omega)]; exact l5) hes r2 (by omega) (by omega) rfl (fun _ _ => rfl) hr9 ((fy i (by omega)).neg.mono (by omega)) (ff _ (by omega)) (fun x hx => (ht.fcel i x hi hx).mono (by omega))).mono fun v st h => ?_)
   obtain ⟨rfl, k9, b5, fe, es', hes', hb5, hk5, rfl⟩ := h
   have n1 : ¬ k = 1 := by omega
   have n5 : ¬ k + 1 + 1 + 1 + 1 = 5 := by omega
   simp only [opsK_nil]
   simp [wi, n5]
   refine ⟨w - 1, by omega, i + 1, _, es', _, rfl, by omega, hes'.congr fun x hx => ?_, fun l hl => ?_, ?_, ?_, ?_, ?_, by omega, rfl⟩
   ·show _ = cmbS p y i x + gq y i * p.cel i x
    grind
   ·rcases lt_succ_cases hl with h4 | rfl
    ·exact hpos l h4
    ·grind
   ·rw [look_cons_ne (by omega), look_cons_ne (by omega)]; exact look_upd_same l5
   ·rw [look_cons_ne (by omega), look_cons_ne (by omega), look_upd_ne (by omega), sr]; exact l0
   ·rw [look_cons_ne (by omega), look_cons_ne (by omega), look_upd_ne (by omega)]; exact l1
   ·exact cons_lt (cons_lt (m := k + 1 + 1 + 1 + 1 + 1) (upd_lt hlt) (by omega) (by omega)) (by omega) (by omega)
theorem LP.Tiny.ok {p : LP} (h : p.Tiny) : p.Ok p.m p.n 3 := ⟨rfl, rfl, h.bl, h.rl, h.fobj, fun i hi => h.fbnd i hi, fun i hi => h.frow hi, by have := h.m; omega, by have := h.n; omega, by omega⟩
theorem IsSol.inj {v : PV} {o u : Sol} (h : IsSol v o) (h' : IsSol v u) : o = u := by
 obtain ⟨b, m, c, n, vp, vd, vr, rfl, h1, h2, h3, h4⟩ := h
 obtain ⟨b', m', c', n', vp', vd', vr', e, k1, k2, k3, k4⟩ := h'
 simp only [PV.agg.injEq, List.cons.injEq, PV.int.injEq, PV.bool.injEq, and_true, true_and] at e
 obtain ⟨e0, rfl, rfl, rfl, rfl, rfl, rfl, rfl⟩ := e
 cases o; cases u
 simp only [Sol.mk.injEq]
 exact ⟨e0, h1.inj k1, IsRL.inj h2 k2, IsRL.inj h3 k3, IsRL.inj h4 k4⟩
noncomputable instance : Inhabited Sol := ⟨⟨0, 0, [], [], []⟩⟩
noncomputable def so (v : PV) : Sol := the (IsSol v)
theorem so_eq {v : PV} {o : Sol} (h : IsSol v o) : so v = o := the_eq h fun _ h' => IsSol.inj h' h
theorem IsSol.pure {v : PV} {o : Sol} (h : IsSol v o) : v.pureB = true := by
 obtain ⟨b, m, c, n, vp, vd, vr, rfl, h1, h2, h3, h4⟩ := h
 have := h1.pure
 simp only [PV.pureB, PV.pureL, Bool.and_eq_true] at this ⊢
 simp [this, h2.pure, h3.pure, h4.pure]
def SizeOk (p : LP) (o : Sol) : Prop := (o.kind = 1 ∧ o.pt.length = p.n ∧ o.du.length = p.m ∧ o.ray = []) ∨ (o.kind = 2 ∧ o.pt = [] ∧ o.du.length = p.m ∧ o.ray = []) ∨ (o.kind = 3 ∧ o.pt.length = p.n ∧ o.du = [] ∧ o.ray.length = p.n)
theorem combB_iff {p : LP} {y c : List Rat} (yl : y.length = p.m) : combB p y c = true ↔ Cmb p y (gq c) := by
 unfold combB Cmb cmbS; simp [yl]
theorem holdsB_iff {p : LP} {x : List Rat} (xl : x.length = p.n) : holdsB p x = true ↔ Hld p x := by
 unfold holdsB Hld; simp [xl, LP.m]
open Classical in
noncomputable def provB (p : LP) (o : Sol) : Bool := decide (Proves p o)
theorem prov1 {p : LP} {o : Sol} (h : o.kind = 1) (h1 : o.pt.length = p.n) (h2 : o.du.length = p.m) (h3 : o.ray = []) : provB p o = (combB p o.du p.obj && holdsB p o.pt && decide (dotL o.du p.bounds = o.val) && decide (dotL p.obj o.pt = o.val)) := by
 rw [Bool.eq_iff_iff]
 unfold provB Proves
 simp only [decide_eq_true_eq, Bool.and_eq_true, combB_iff h2, holdsB_iff h1]
 constructor
 ·rintro (⟨_, k1, k2, _, k3, k4⟩ | ⟨k, _⟩ | ⟨k, _⟩)
  ·exact ⟨⟨⟨k1, k2⟩, k3⟩, k4⟩
  ·omega
  ·omega
 ·rintro ⟨⟨⟨k1, k2⟩, k3⟩, k4⟩
  exact .inl ⟨h, k1, k2, h3, k3, k4⟩
theorem prov2 {p : LP} {o : Sol} (h : o.kind = 2) (h1 : o.pt = []) (h2 : o.du.length = p.m) (h3 : o.ray = []) : provB p o = (combB p o.du (lst p.n fun _ => 0) && decide (dotL o.du p.bounds < 0)) := by
 rw [Bool.eq_iff_iff]
 unfold provB Proves
 have e : Cmb p o.du (gq (lst p.n fun _ => 0)) ↔ Cmb p o.du (fun _ => 0) := by
  unfold Cmb
  refine and_congr Iff.rfl (and_congr Iff.rfl ⟨fun k j hj => ?_, fun k j hj => ?_⟩)
  ·rw [k j hj, lst_gq hj]
  ·rw [k j hj, lst_gq hj]
 simp only [decide_eq_true_eq, Bool.and_eq_true, combB_iff h2, e]
 constructor
 ·rintro (⟨k, _⟩ | ⟨_, k1, k2, _⟩ | ⟨k, _⟩)
  ·omega
  ·exact ⟨k1, k2⟩
  ·omega
 ·rintro ⟨k1, k2⟩
  exact .inr (.inl ⟨h, k1, k2, h1, h3⟩)
open Classical in
theorem prov3 {p : LP} {o : Sol} (h : o.kind = 3) (h1 : o.pt.length = p.n) (h2 : o.du = []) (h3 : o.ray.length = p.n) : provB p o = (decide (∀ i, i < p.m → dotL (rowAt p.rows i) o.ray ≤ 0) && (holdsB p o.pt && decide (0 < dotL p.obj o.ray))) := by
 rw [Bool.eq_iff_iff]
 unfold provB Proves
 simp only [decide_eq_true_eq, Bool.and_eq_true, holdsB_iff h1]
 constructor
 ·rintro (⟨k, _⟩ | ⟨k, _⟩ | ⟨_, k1, _, _, k3, k4⟩)
  ·omega
  ·omega
  ·exact ⟨k3, k1, k4⟩
 ·rintro ⟨k3, k1, k4⟩
  exact .inr (.inr ⟨h, k1, h2, h3, k3, k4⟩)
noncomputable def provesR : CRel | [v, w], r => r = .bool (provB (pr v) (so w)) | _, _ => False
theorem cmp_eq0 {x y : Rat} : (cmpR x y == 0) = decide (x = y) := by
 unfold cmpR
 by_cases h : x < y
 ·rw [if_pos h]
  have : ¬ x = y := fun e => by rw [e] at h; exact Rat.lt_irrefl h
  simp [this]
 ·rw [if_neg h]
  by_cases h2 : x = y
  ·rw [if_pos h2]; simp [h2]
  ·rw [if_neg h2]; simp [h2]
def specsP : Specs := [(70, combinesR), (71, holdsR), (27, rcompareR), (72, dotR), (30, rsignR)]
def prI (p : LP) (o : Sol) (v w vr : PV) : Nat → List PV → St → Prop := fun u vs st => ∃ (i k : Nat), vs = [.int .i64 (i : Int), .int .i64 (p.m : Int), .ptr 1 0 0, vr, .ptr 0 0 0] ∧ i + u = p.m ∧ (∀ l, l < i → dotL (rowAt p.rows l) o.ray ≤ 0) ∧ 1 < k ∧ st = ⟨k, [(1, ⟨8, [w]⟩), (0, ⟨3, [v]⟩)], []⟩
theorem proves_ok (v w : PV) (p : LP) (o : Sol) (hv : IsPr v p) (ht : p.Tiny) (hw : IsSol w o) (hs : SizeOk p o) (fo : o.Fits 3) : Gives prog G 35 [v, w] (provesR [v, w]) := by
 have hfe : provesR [v, w] = fun r => r = .bool (provB p o) := by funext r; simp only [provesR, pr_eq hv, so_eq hw]
 rw [hfe]
 have hvl := hv.lp
 have ok := ht.ok
 have pv := hv
 have t1 := ht.m
 have t2 := ht.n
 obtain ⟨vo, vr, vb, rfl, h1, h2, h3⟩ := hvl
 obtain ⟨c1, c2, c3, c4⟩ := h1.cell
 obtain ⟨d1, d2, d3, d4⟩ := h2.cell
 obtain ⟨e1, e2, e3, e4⟩ := h3.cell
 obtain ⟨sb, sm, sc, su, vp, vd, vy, rfl, g1, g2, g3, g4⟩ := hw
 have gp := g1.pure
 obtain ⟨vb', vm', vc', vu', vd', ee, s1, s2, _⟩ := g1.cases
 simp only [PV.agg.injEq, List.cons.injEq, PV.bool.injEq, and_true] at ee
 obtain ⟨rfl, rfl, rfl, rfl⟩ := ee
 obtain ⟨s11, s12, s13, s14, s15⟩ := s1.cell
 obtain ⟨s21, s22, s23, s24, s25⟩ := s2.cell
 obtain ⟨p1, p2, p3, p4⟩ := g2.cell
 obtain ⟨q1, q2, q3, q4⟩ := g3.cell
 obtain ⟨y1, y2, y3, y4⟩ := g4.cell
 have pp : (PV.agg [vo, vr, vb]).pureB = true := pv.lp.pure
 refine gives (S := specsP) (by kernel_rfl) (by kernel_rfl) (callW_of ann35 func35 rfl (by kernel_rfl) ?_)
 rcases hs with ⟨hk, l1, l2, l3⟩ | ⟨hk, l1, l2, l3⟩ | ⟨hk, l1, l2, l3⟩
 ·rw [hk, prov1 hk l1 l2 l3]
  simp [c1, d1, e1, s11, s21, p1, q1, y1]
  refine callK_pure rfl (by simp [PV.pureL, pp, h1.pure, g3.pure]) (combines_ok _ vd vo p o.du p.obj pv ht g3 h1 l2 rfl (fun i hi => (fo.du i hi).mono (by omega)) (fun i hi => (ht.fobj i hi).mono (by omega))) fun r hr => ?_
  simp only [combinesR, pr_eq pv, rl_eq g3, rl_eq h1] at hr
  obtain ⟨q, x, rfl, hq, hx⟩ := hr
  obtain ⟨b8, m8, cc8, u8, d8, rfl, t1, t2, _⟩ := hq.cases
  obtain ⟨t11, t12, t13, t14, t15⟩ := t1.cell
  obtain ⟨t21, t22, t23, t24, t25⟩ := t2.cell
  have CE := cmp_eq0 (x := x) (y := o.val)
  have CF := cmp_eq0 (x := dotL p.obj o.pt) (y := o.val)
  by_cases hc : combB p o.du p.obj = true
  ·simp [run_draw, hc, t11, t21]
   refine dcallK_pure rfl (by simp [PV.pureL, pp, g2.pure]) (holds_ok _ vp p o.pt p.m p.n 3 pv.lp g2 ok l1 (fun i hi => fo.pt i hi)) fun r hr => ?_
   simp only [holdsR, lp_eq pv.lp, rl_eq g2] at hr
   subst hr
   by_cases hh : holdsB p o.pt = true
   ·simp [hh]
    have fx : RFits x 100 := by
     rw [hx hc]
     refine (dotS_fits (K := 3) fo.du (fun i hi => ht.fbnd i hi) (by rw [l2, ht.bl]; exact Nat.le_refl _) _ (Nat.le_refl _)).mono ?_
     rw [l2]; omega
    refine dcallK_pure rfl (by simp [PV.pureL, hq.pure, g1.pure]) (rcompare_ok _ _ _ _ hq g1 (fx.mono (by omega)) (fo.val.mono (by omega))) fun r hr => ?_
    simp only [rcompareR, ratv_eq hq, ratv_eq g1] at hr
    subst hr
    have hx' := hx hc
    by_cases hE : x = o.val
    ·have CE1 : (cmpR x o.val == 0) = true := by rw [CE]; simp [hE]
     have hE2 : dotL o.du p.bounds = o.val := hx' ▸ hE
     simp [CE1, hE2]
     have fy : RFits (dotL p.obj o.pt) 100 := by
      refine (dotS_fits (K := 3) (fun i hi => ht.fobj i hi) fo.pt (by rw [l1]; exact Nat.le_refl _) _ (Nat.le_refl _)).mono ?_
      show 1 + p.n * _ ≤ _
      omega
     refine dcallK_pure rfl (by simp [PV.pureL, h1.pure, g2.pure]) (dot_ok vo vp p.obj o.pt 3 h1 g2 (by rw [l1]; exact Nat.le_refl _) (by show p.n < _; omega) (fun i hi => ht.fobj i hi) fo.pt (by show 1 + p.n * _ ≤ _; omega) (by omega)) fun r hr => ?_
     simp only [dotR, rl_eq h1, rl_eq g2] at hr
     obtain ⟨y, hy⟩ : ∃ y, y = dotL p.obj o.pt := ⟨_, rfl⟩
     rw [← hy] at hr fy CF
     simp []
     refine dcallK_pure rfl (by simp [PV.pureL, hr.pure, g1.pure]) (rcompare_ok _ _ _ _ hr g1 (fy.mono (by omega)) (fo.val.mono (by omega))) fun r2 hr2 => ?_
     simp only [rcompareR, ratv_eq hr, ratv_eq g1] at hr2
     subst hr2
     obtain ⟨b9, m9, cc9, u9, d9, rfl, o1, o2, _⟩ := hr.cases
     obtain ⟨o11, o12, o13, o14, o15⟩ := o1.cell
     obtain ⟨o21, o22, o23, o24, o25⟩ := o2.cell
     by_cases hF : y = o.val
     ·have CF1 : (cmpR y o.val == 0) = true := by rw [CF]; simp [hF]
      have hF2 : dotL p.obj o.pt = o.val := hy ▸ hF
      simp [CF1, hF2, c4, d4, e4, p4, t12, t22, s12, s22, o12, o22]
      exact ⟨logOk_free (by simp only [List.map_cons, List.map_nil, tri, List.isEmpty_nil, List.isEmpty_cons]; decide +kernel), outK_pure rfl rfl⟩
     ·have CF1 : (cmpR y o.val == 0) = false := by rw [CF]; simp [hF]
      have hF2 : ¬ dotL p.obj o.pt = o.val := hy ▸ hF
      simp [CF1, hF2, c4, d4, e4, p4, t12, t22, s12, s22, o12, o22]
      exact ⟨logOk_free (by simp only [List.map_cons, List.map_nil, tri, List.isEmpty_nil, List.isEmpty_cons]; decide +kernel), outK_pure rfl rfl⟩
    ·have CE1 : (cmpR x o.val == 0) = false := by rw [CE]; simp [hE]
     have hE2 : ¬ dotL o.du p.bounds = o.val := hx' ▸ hE
     simp [CE1, hE2, c4, d4, e4, p4, t12, t22, s12, s22]
     exact ⟨logOk_free (by simp only [List.map_cons, List.map_nil, tri, List.isEmpty_nil, List.isEmpty_cons]; decide +kernel), outK_pure rfl rfl⟩
   ·simp [hh, c4, d4, e4, p4]
    exact ⟨logOk_free (by simp only [List.map_cons, List.map_nil, tri, List.isEmpty_nil, List.isEmpty_cons]; decide +kernel), outK_pure rfl rfl⟩
  ·simp [run_draw, hc, t11, t21]
   exact ⟨logOk_free (by simp only [List.map_cons, List.map_nil, tri, List.isEmpty_nil]; decide +kernel), outK_pure rfl rfl⟩
 ·rw [hk, prov2 hk l1 l2 l3]
  have mk : p.n * 64 ≤ 140737488355328 := by omega
  have mk2 : p.n < 9223372036854775808 := by omega
  have mk3 : p.n * 4 ≤ 140737488355328 := by omega
  have zr1 : ratZero.cells.length = 4 := rfl
  have zr2 : ratZero.cells.all PV.cellOk = true := rfl
  have lo := h1.len
  have lo' : lenPV vo = some p.n := lo
  simp [run_draw, c1, d1, e1, s11, s21, p1, q1, y1, mk, mk2, zero_rat, rep_eq, zr1, zr2, lo']
  have hz : IsRL (.slice (List.replicate p.n ratZero)) (lst p.n fun _ => 0) := lst_rl (RV.zero p.n)
  have rf : ∀ (hp : Nat → Option Ent) (r : Nat) (u w : PV), u.pureB = true → w.pureB = true → hp r = some ⟨4, List.replicate p.n ratZero⟩ → reifyL hp [u, w, .own r 0 p.n] = some ([u, w, .slice (List.replicate p.n ratZero)], [r]) := fun hp r u w hu hw hh => by
   have h1 : reify hp (.own r 0 p.n) = some (.slice (List.replicate p.n ratZero), [r]) := by
    unfold reify
    rw [show (PV.own r 0 p.n).pureB = false from rfl]
    exact reifyW_own hh (by simp) (by decide) fun v hv => by rw [List.eq_of_mem_replicate hv]; exact isRat_zero.pure
   simp only [reifyL, mapR, h1, reify_pure hu, reify_pure hw]
   rfl
  refine dcallK_spec rfl (rf _ _ _ _ pp g3.pure (by rfl)) (combines_ok _ vd _ p o.du _ pv ht g3 hz l2 (lst_len _ _) (fun i hi => (fo.du i hi).mono (by omega)) (lst_fits fun i hi => RFits.zero (by omega))) (by simp []) fun r hr => ?_
  simp only [combinesR, pr_eq pv, rl_eq g3, rl_eq hz] at hr
  obtain ⟨q, x, rfl, hq, hx⟩ := hr
  obtain ⟨b8, m8, cc8, u8, d8, rfl, t1, t2, _⟩ := hq.cases
  obtain ⟨t11, t12, t13, t14, t15⟩ := t1.cell
  obtain ⟨t21, t22, t23, t24, t25⟩ := t2.cell
  by_cases hc : combB p o.du (lst p.n fun _ => 0) = true
  ·simp [hc, t11, t21, c4, d4, e4, q4]
   refine ⟨by decide +kernel, callK_pure rfl (by simp [PV.pureL, hq.pure]) (rsign_ok _ _ hq) fun r2 hr2 => ?_⟩
   simp only [rsignR, ratv_eq hq] at hr2
   subst hr2
   have hx' := hx hc
   simp []
   exact outK_pure rfl (by rw [← hx']; simp only [num_neg])
  ·simp [hc, t11, t21, c4, d4, e4, q4]
   exact ⟨by decide +kernel, outK_pure rfl rfl⟩
 ·rw [hk, prov3 hk l1 l2 l3]
  simp [c1, d1, e1, s11, s21, p1, q1, y1, h2.len]
  refine loopK_of (prI p o (.agg [vo, vr, vb]) (.agg [.int .i64 3, .bool sb, sm, .bool sc, su, vp, vd, vy]) vr) rfl rfl ?step p.m _ _ ?init
  case init => exact ⟨0, _, rfl, by omega, fun l h => absurd h (Nat.not_lt_zero l), by omega, rfl⟩
  case step =>
  rintro u vs st ⟨i, k, rfl, hiu, hall, hk1, rfl⟩
  rcases Nat.eq_zero_or_pos u with h0 | h0
  ·have hi : i = p.m := by omega
   subst hi
   simp []
   refine callK_pure rfl (by simp [PV.pureL, pp, g2.pure]) (holds_ok _ vp p o.pt p.m p.n 3 pv.lp g2 ok l1 (fun i hi => fo.pt i hi)) fun r hr => ?_
   simp only [holdsR, lp_eq pv.lp, rl_eq g2] at hr
   subst hr
   by_cases hh : holdsB p o.pt = true
   ·simp [hh]
    refine callK_pure rfl (by simp [PV.pureL, h1.pure, g4.pure]) (dot_ok vo vy p.obj o.ray 3 h1 g4 (by rw [l3]; exact Nat.le_refl _) (by show p.n < _; omega) (fun i hi => ht.fobj i hi) fo.ray (by show 1 + p.n * _ ≤ _; omega) (by omega)) fun r hr => ?_
    simp only [dotR, rl_eq h1, rl_eq g4] at hr
    simp []
    refine callK_pure rfl (by simp [PV.pureL, hr.pure]) (rsign_ok _ _ hr) fun r2 hr2 => ?_
    simp only [rsignR, ratv_eq hr] at hr2
    subst hr2
    have sg := sign_gt (q := dotL p.obj o.ray)
    simp []
    exact outK_pure rfl (by simp only [decide_eq_true hall, Bool.true_and, num_pos])
   ·simp [hh]
    exact outK_pure rfl rfl
  ·have hi : i < p.m := by omega
   have hii : (i : Int) < p.m := by omega
   have wi : IntKind.i64.wrap ((i : Int) + 1) = ((i + 1 : Nat) : Int) := w_i64 (by omega)
   obtain ⟨er, row, rfl, f1, f2, f3⟩ := h2.at hi
   have f2' := getE f2
   obtain ⟨r1, r2, r3, r4⟩ := f3.cell
   have rowl := ok.row i hi
   simp [hii, f2, r2]
   refine callK_pure rfl (by simp [PV.pureL, f3.pure, g4.pure]) (dot_ok row vy (rowAt p.rows i) o.ray 3 f3 g4 (by rw [l3, rowl]; exact Nat.le_refl _) (by omega) (fun j hj => ht.frow hi j hj) fo.ray (by rw [rowl]; omega) (by omega)) fun r hr => ?_
   simp only [dotR, rl_eq f3, rl_eq g4] at hr
   simp []
   refine callK_pure rfl (by simp [PV.pureL, hr.pure]) (rsign_ok _ _ hr) fun r2 hr2 => ?_
   simp only [rsignR, ratv_eq hr] at hr2
   subst hr2
   have sg := sign_gt (q := dotL (rowAt p.rows i) o.ray)
   by_cases hs : 0 < dotL (rowAt p.rows i) o.ray
   ·have sg1 : (0 : Int) < (dotL (rowAt p.rows i) o.ray).num.sign := by simpa [hs] using sg
    have no : ¬ ∀ l, l < p.m → dotL (rowAt p.rows l) o.ray ≤ 0 := fun h => by have := h i hi; grind
    simp [sg1]
    refine outK_pure rfl ?_
    simp only [no, decide_false, Bool.false_and]
   ·have sg1 : ¬ (0 : Int) < (dotL (rowAt p.rows i) o.ray).num.sign := by simpa [hs] using sg
    simp [sg1, wi]
    refine ⟨u - 1, by omega, i + 1, _, rfl, by omega, fun l hl => ?_, by omega, rfl⟩
    rcases lt_succ_cases hl with h4 | rfl
    ·exact hall l h4
    ·grind
end Go.Proofs.Tryz
