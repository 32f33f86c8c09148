/- The machine on symbols: rational numbers. No condition. -/
import Derived.Test.YtijdeokebjoboaaGreatDoorW2
import Derived.Test.YtijdeokebjoboaaGreatDoorN2
set_option linter.unusedVariables false
set_option linter.unusedSimpArgs false
set_option linter.unusedSectionVars false
set_option linter.unnecessarySimpa false
set_option maxRecDepth 100000
namespace Go.Proofs.Tryz
open Go Go.Pi Go.Num Go.Lin
variable [Hole] {G : Nat → Option PV}
theorem fits_mono {z : Int} {k l : Nat} (h : Fits z k) (hk : k ≤ l) : Fits z l := Int.lt_of_lt_of_le h (pw_mono hk)
theorem fits_mul {x y : Int} {k l : Nat} (hx : Fits x k) (hy : Fits y l) : Fits (x * y) (k + l) := by
  unfold Fits at *
  rw [Int.natAbs_mul, pw_add, Int.natCast_mul]
  have h1 : (x.natAbs : Int) * y.natAbs ≤ x.natAbs * pw l := Int.mul_le_mul_of_nonneg_left (Int.le_of_lt hy) (by omega)
  have h2 : (x.natAbs : Int) * pw l < pw k * pw l := Int.mul_lt_mul_of_pos_right hx (pw_pos l)
  omega
theorem fits_add {x y : Int} {k : Nat} (hx : Fits x k) (hy : Fits y k) : Fits (x + y) (k + 1) := by
  unfold Fits at *
  have e : pw (k + 1) = 4294967296 * pw k := rfl
  rw [e]
  omega
theorem fits_neg {x : Int} {k : Nat} (hx : Fits x k) : Fits (-x) k := by unfold Fits at *; rw [Int.natAbs_neg]; exact hx
theorem fits_le {x y : Int} {k : Nat} (hy : Fits y k) (h : x.natAbs ≤ y.natAbs) : Fits x k := by unfold Fits at *; omega
theorem fits_one {k : Nat} (h : 1 ≤ k) : Fits 1 k := fits_mono (k := 1) (by unfold Fits; decide) h
theorem fits_zero (k : Nat) : Fits 0 k := pw_pos k
structure RFits (q : Rat) (k : Nat) : Prop where
  num : Fits q.num k
  den : Fits q.den k
theorem RFits.mono {q : Rat} {k l : Nat} (h : RFits q k) (hk : k ≤ l) : RFits q l := ⟨fits_mono h.num hk, fits_mono h.den hk⟩
theorem rfits_mk {n : Int} {d k : Nat} (hd : d ≠ 0) (hn : Fits n k) (hd' : Fits (d : Int) k) : RFits (mkRat n d) k := by
  have g0 : 0 < Nat.gcd n.natAbs d := Nat.gcd_pos_of_pos_right _ (by omega)
  refine ⟨?_, ?_⟩
  · rw [mk_num n d hd]
    refine fits_le hn ?_
    exact Int.natAbs_ediv_le_natAbs _ _
  · rw [mk_den n d hd]
    refine fits_le hd' ?_
    simp only [Int.natAbs_natCast]
    exact Nat.div_le_self _ _
theorem RFits.mul {a b : Rat} {k l : Nat} (ha : RFits a k) (hb : RFits b l) : RFits (a * b) (k + l) := by
  rw [mul_mk]
  refine rfits_mk (by have := a.den_nz; have := b.den_nz; exact Nat.mul_ne_zero a.den_nz b.den_nz) (fits_mul ha.num hb.num) ?_
  rw [Int.natCast_mul]
  exact fits_mul ha.den hb.den
theorem RFits.add {a b : Rat} {k l : Nat} (ha : RFits a k) (hb : RFits b l) : RFits (a + b) (k + l + 1) := by
  rw [add_mk]
  refine rfits_mk (Nat.mul_ne_zero a.den_nz b.den_nz) (fits_add (fits_mul ha.num hb.den) (fits_mono (fits_mul hb.num ha.den) (by omega))) ?_
  rw [Int.natCast_mul]
  exact fits_mono (fits_mul ha.den hb.den) (by omega)
theorem RFits.neg {a : Rat} {k : Nat} (ha : RFits a k) : RFits (-a) k := ⟨by rw [Rat.neg_num]; exact fits_neg ha.num, by rw [Rat.neg_den]; exact ha.den⟩
theorem RFits.zero {k : Nat} (h : 1 ≤ k) : RFits 0 k := ⟨fits_zero k, fits_one h⟩
theorem RFits.one {k : Nat} (h : 1 ≤ k) : RFits 1 k := ⟨fits_one h, fits_one h⟩
theorem _root_.Go.Pi.IsInt.c {b : Bool} {m : PV} {z : Int} (h : IsInt (.agg [.bool b, m]) z) : ∃ ds, IntC b m z ds := by
  obtain ⟨b', m', ds, e, h⟩ := h
  simp only [PV.agg.injEq, List.cons.injEq, PV.bool.injEq, and_true] at e
  obtain ⟨rfl, rfl⟩ := e
  exact ⟨ds, h⟩
theorem _root_.Go.Pi.IsInt.cell {b : Bool} {m : PV} {z : Int} (h : IsInt (.agg [.bool b, m]) z) : m.cellOk = true ∧ m.ids = [] ∧ m.cells = [m] ∧ m.isTop = false ∧ m.pureB = true := by
  obtain ⟨ds, h⟩ := h.c
  exact ⟨h.mag.cellOk, h.mag.ids, h.mag.cells, h.mag.isTop, h.mag.pure⟩
theorem _root_.Go.Pi.IsInt.shape {v : PV} {z : Int} (h : IsInt v z) : ∃ b m, v = .agg [.bool b, m] := by
  obtain ⟨b, m, ds, rfl, _⟩ := h
  exact ⟨b, m, rfl⟩
theorem _root_.Go.Pi.IsRat.cases {v : PV} {q : Rat} (h : IsRat v q) : ∃ b m c n d, v = .agg [.bool b, m, .bool c, n] ∧ IsInt (.agg [.bool b, m]) q.num ∧ IsInt (.agg [.bool c, n]) d ∧ (d = q.den ∨ (d = 0 ∧ q.den = 1)) := by
  obtain ⟨b, m, c, n, ds, es, rfl, h⟩ := h
  rcases h.den with k | ⟨k1, k⟩
  · exact ⟨b, m, c, n, q.den, rfl, ⟨b, m, ds, rfl, h.num⟩, ⟨c, n, es, rfl, k⟩, .inl rfl⟩
  · exact ⟨b, m, c, n, 0, rfl, ⟨b, m, ds, rfl, h.num⟩, ⟨c, n, es, rfl, k⟩, .inr ⟨rfl, k1⟩⟩
theorem IsRat.mk {b c : Bool} {m n : PV} {x d : Int} {q : Rat} (h : IsInt (.agg [.bool b, m]) x) (h' : IsInt (.agg [.bool c, n]) d) (hx : x = q.num) (hd : d = q.den ∨ (d = 0 ∧ q.den = 1)) : IsRat (.agg [.bool b, m, .bool c, n]) q := by
  obtain ⟨ds, h⟩ := h.c
  obtain ⟨es, h'⟩ := h'.c
  subst hx
  refine ⟨b, m, c, n, ds, es, rfl, h, ?_⟩
  rcases hd with rfl | ⟨rfl, hd⟩
  · exact .inl h'
  · exact .inr ⟨hd, h'⟩
theorem isInt_zero : IsInt (.agg [.bool false, .nil]) 0 := ⟨_, _, [], rfl, IsMag.nil, norm_nil, rfl, fun h => (by cases h)⟩
def quo (a b : Int) : Rat := mkRat (b.sign * a) b.natAbs
def oneR : CRel | [], r => IsInt r 1 | _, _ => False
def wholeR : CRel | [v], r => r = .bool (decide ((ratv v).den = 1)) | _, _ => False
def denR : CRel | [v], r => IsInt r (ratv v).den | _, _ => False
def rsignR : CRel | [v], r => r = .int .i64 (ratv v).num.sign | _, _ => False
def rnegR : CRel | [v], r => IsRat r (-(ratv v)) | _, _ => False
def reducedR : CRel | [a, b], r => IsRat r (quo (it a) (it b)) | _, _ => False
def raddR : CRel | [a, b], r => IsRat r (ratv a + ratv b) | _, _ => False
def rsubR : CRel | [a, b], r => IsRat r (ratv a - ratv b) | _, _ => False
def rmulR : CRel | [a, b], r => IsRat r (ratv a * ratv b) | _, _ => False
def rdivR : CRel | [a, b], r => ∃ q, r = .tuple [q, .int .i64 0] ∧ IsRat q (ratv a / ratv b) | _, _ => False
def quotientR : CRel | [a, b], r => IsRat r (ratv a / ratv b) | _, _ => False
def cmpR (x y : Rat) : Int := if x < y then -1 else if x = y then 0 else 1
def rcompareR : CRel | [a, b], r => r = .int .i64 (cmpR (ratv a) (ratv b)) | _, _ => False
def rfromR : CRel | [.int _ n], r => IsRat r (n : Rat) | _, _ => False
theorem compare_ok (v w : PV) (x y : Int) (hv : IsInt v x) (hw : IsInt w y) (fx : Fits x 900000) (fy : Fits y 900000) : Gives prog G 64 [v, w] (compareR [v, w]) := by
  have fin : ∀ {c : Int} {s : St}, c = cmpI x y → outK (compareR [v, w]) (.int .i64 c) s := fun h => outK_pure rfl (by simp only [compareR, it_eq hv, it_eq hw, h])
  have hv' := hv
  have hw' := hw
  obtain ⟨ba, va, a, rfl, ia⟩ := hv'
  obtain ⟨bb, vb, b, rfl, ib⟩ := hw'
  have la := ia.len fx
  have lb := ib.len fy
  have va0 := val_nonneg ia.norm.dig
  have vb0 := val_nonneg ib.norm.dig
  have hx := ia.val
  have hy := ib.val
  have na := ia.neg_iff
  have nb := ib.neg_iff
  refine gives (S := [(102, orderR)]) (by kernel_rfl) (by kernel_rfl) (callW_of ann64 func64 rfl (by kernel_rfl) ?_)
  cases ba with
  | false =>
    cases bb with
    | false =>
      simp [eqPV, ia.mag.cellOk, ib.mag.cellOk]
      refine callK_pure (R := orderR) rfl (by simp [PV.pureL, ia.mag.pure, ib.mag.pure]) (order_ok va vb a b ia.mag ib.mag ia.norm ib.norm (by omega) (by omega)) fun r hr => ?_
      simp only [orderR, mg_eq ia.mag, mg_eq ib.mag] at hr
      subst hr
      simp []
      exact fin (by simp at hx hy; rw [hx, hy])
    | true =>
      simp [eqPV, ia.mag.cellOk, ib.mag.cellOk]
      simp at na nb
      exact fin (cmpI_gt (by omega)).symm
  | true =>
    cases bb with
    | false =>
      simp [eqPV, ia.mag.cellOk, ib.mag.cellOk]
      simp at na nb
      exact fin (cmpI_lt (by omega)).symm
    | true =>
      simp [eqPV, ia.mag.cellOk, ib.mag.cellOk]
      refine callK_pure (R := orderR) rfl (by simp [PV.pureL, ia.mag.pure, ib.mag.pure]) (order_ok vb va b a ib.mag ia.mag ib.norm ia.norm (by omega) (by omega)) fun r hr => ?_
      simp only [orderR, mg_eq ia.mag, mg_eq ib.mag] at hr
      subst hr
      simp []
      refine fin ?_
      simp at hx hy
      rw [hx, hy]
      unfold cmpI
      by_cases h1 : val b < val a
      · rw [if_pos h1, if_pos (show -val a < -val b by omega)]
      · rw [if_neg h1, if_neg (show ¬ -val a < -val b by omega)]
        by_cases h2 : val b = val a
        · rw [if_pos h2, if_pos (show -val a = -val b by omega)]
        · rw [if_neg h2, if_neg (show ¬ -val a = -val b by omega)]
theorem one_ok : Gives prog G 100 [] (oneR []) := by
  refine gives (S := [(87, fromR)]) (by kernel_rfl) (by kernel_rfl) (callW_of ann100 func100 rfl (by kernel_rfl) ?_)
  simp []
  refine callK_pure (R := fromR) rfl rfl (from_ok 1 (by omega)) fun r hr => ?_
  simp only [fromR] at hr
  have hr' := hr
  obtain ⟨b, m, ds, rfl, i1⟩ := hr
  simp [i1.mag.cellOk]
  exact outK_pure hr'.pure hr'
theorem rfrom_ok (n : Int) (hn : -9223372036854775808 ≤ n ∧ n ≤ 9223372036854775807) : Gives prog G 54 [.int .i64 n] (rfromR [.int .i64 n]) := by
  refine gives (S := [(87, fromR)]) (by kernel_rfl) (by kernel_rfl) (callW_of ann54 func54 rfl (by kernel_rfl) ?_)
  simp []
  refine callK_pure (R := fromR) rfl rfl (from_ok n hn) fun r hr => ?_
  simp only [fromR] at hr
  have hr' := hr
  obtain ⟨b, m, ds, rfl, i1⟩ := hr
  simp [i1.mag.cellOk]
  have hq : IsRat (.agg [.bool b, m, .bool false, .nil]) (n : Rat) := IsRat.mk hr' isInt_zero (by simp) (.inr ⟨rfl, by simp⟩)
  exact outK_pure hq.pure hq
theorem rsign_ok (v : PV) (q : Rat) (hv : IsRat v q) : Gives prog G 30 [v] (rsignR [v]) := by
  have hq := ratv_eq hv
  obtain ⟨b, m, c, n, d, rfl, h1, h2, h3⟩ := hv.cases
  obtain ⟨c1, c2, c3, c4, c5⟩ := h1.cell
  obtain ⟨e1, e2, e3, e4, e5⟩ := h2.cell
  refine gives (S := [(68, signR)]) (by kernel_rfl) (by kernel_rfl) (callW_of ann30 func30 rfl (by kernel_rfl) ?_)
  simp [c1, e1]
  refine callK_pure (R := signR) rfl (by simp [PV.pureL, h1.pure]) (sign_ok _ _ h1) fun r hr => ?_
  simp only [signR, it_eq h1] at hr
  subst hr
  simp []
  exact outK_pure rfl (by simp only [rsignR, hq])
theorem cmpI_zero {x y : Int} : cmpI x y = 0 ↔ x = y := by
  unfold cmpI
  by_cases h : x < y
  · rw [if_pos h]; omega
  · rw [if_neg h]
    by_cases h2 : x = y
    · rw [if_pos h2]; simp [h2]
    · rw [if_neg h2]; omega
theorem whole_ok (v : PV) (q : Rat) (hv : IsRat v q) (hf : Fits q.den 900000) : Gives prog G 63 [v] (wholeR [v]) := by
  have hq := ratv_eq hv
  obtain ⟨b, m, c, n, d, rfl, h1, h2, h3⟩ := hv.cases
  obtain ⟨c1, c2, c3, c4, c5⟩ := h1.cell
  obtain ⟨e1, e2, e3, e4, e5⟩ := h2.cell
  have hp := q.den_pos
  have fin : ∀ {t : Bool} {s : St}, t = decide (q.den = 1) → outK (wholeR [.agg [.bool b, m, .bool c, n]]) (.bool t) s := fun h => outK_pure rfl (by simp only [wholeR, hq, h])
  refine gives (S := [(68, signR), (100, oneR), (64, compareR)]) (by kernel_rfl) (by kernel_rfl) (callW_of ann63 func63 rfl (by kernel_rfl) ?_)
  simp [run_draw, c1, e1]
  refine dcallK_pure (R := signR) rfl (by simp [PV.pureL, h2.pure]) (sign_ok _ _ h2) fun r hr => ?_
  simp only [signR, it_eq h2] at hr
  by_cases hd : d = 0
  · subst hd
    simp only [Int.sign_zero] at hr
    subst hr
    simp [logOk]
    exact fin (by simp; omega)
  · have hdd : d = q.den := by omega
    have hs : d.sign = 1 := Int.sign_eq_one_of_pos (by omega)
    rw [hs] at hr
    subst hr
    simp []
    refine dcallK_pure (R := oneR) rfl rfl one_ok fun r hr => ?_
    simp only [oneR] at hr
    simp []
    refine dcallK_pure (R := compareR) rfl (by simp [PV.pureL, h2.pure, hr.pure]) (compare_ok _ r d 1 h2 hr (by rw [hdd]; exact hf) (fits_one (by omega))) fun r2 hr2 => ?_
    simp only [compareR, it_eq h2, it_eq hr] at hr2
    have hr' := hr
    obtain ⟨b9, m9, rfl⟩ := hr.shape
    obtain ⟨g1, g2, g3, g4, g5⟩ := hr'.cell
    subst hr2
    simp [logOk, e2, g2]
    refine fin ?_
    rw [hdd]
    rw [Bool.eq_iff_iff]
    simp [cmpI_zero]
    omega
theorem den_ok (v : PV) (q : Rat) (hv : IsRat v q) : Gives prog G 66 [v] (denR [v]) := by
  have hq := ratv_eq hv
  obtain ⟨b, m, c, n, d, rfl, h1, h2, h3⟩ := hv.cases
  obtain ⟨c1, c2, c3, c4, c5⟩ := h1.cell
  obtain ⟨e1, e2, e3, e4, e5⟩ := h2.cell
  have hp := q.den_pos
  have fin : ∀ {r : PV} {s : St}, IsInt r q.den → outK (denR [.agg [.bool b, m, .bool c, n]]) r s := fun h => outK_pure h.pure (by simp only [denR, hq]; exact h)
  refine gives (S := [(68, signR), (100, oneR)]) (by kernel_rfl) (by kernel_rfl) (callW_of ann66 func66 rfl (by kernel_rfl) ?_)
  simp [c1, e1]
  refine callK_pure (R := signR) rfl (by simp [PV.pureL, h2.pure]) (sign_ok _ _ h2) fun r hr => ?_
  simp only [signR, it_eq h2] at hr
  by_cases hd : d = 0
  · subst hd
    simp only [Int.sign_zero] at hr
    subst hr
    simp []
    refine callK_pure (R := oneR) rfl rfl one_ok fun r hr => ?_
    simp only [oneR] at hr
    have hr' := hr
    obtain ⟨b9, m9, rfl⟩ := hr.shape
    obtain ⟨g1, g2, g3, g4, g5⟩ := hr'.cell
    simp [g1]
    exact fin (by rw [show ((q.den : Nat) : Int) = 1 by omega]; exact hr')
  · have hdd : d = q.den := by omega
    have hs : d.sign = 1 := Int.sign_eq_one_of_pos (by omega)
    rw [hs] at hr
    subst hr
    simp [e1]
    exact fin (by rw [← hdd]; exact h2)
theorem rneg_ok (v : PV) (q : Rat) (hv : IsRat v q) : Gives prog G 82 [v] (rnegR [v]) := by
  have hq := ratv_eq hv
  obtain ⟨b, m, c, n, d, rfl, h1, h2, h3⟩ := hv.cases
  obtain ⟨c1, c2, c3, c4, c5⟩ := h1.cell
  obtain ⟨e1, e2, e3, e4, e5⟩ := h2.cell
  refine gives (S := [(118, negR)]) (by kernel_rfl) (by kernel_rfl) (callW_of ann82 func82 rfl (by kernel_rfl) ?_)
  simp [run_draw, c1, e1]
  refine dcallK_pure (R := negR) rfl (by simp [PV.pureL, h1.pure]) (neg_ok _ _ h1) fun r hr => ?_
  simp only [negR, it_eq h1] at hr
  have hr' := hr
  obtain ⟨b9, m9, rfl⟩ := hr.shape
  obtain ⟨g1, g2, g3, g4, g5⟩ := hr'.cell
  simp [logOk, e1, g1, c2]
  have hr2 : IsRat (.agg [.bool b9, m9, .bool c, n]) (-q) := IsRat.mk hr' h2 (by rw [Rat.neg_num]) (by rw [Rat.neg_den]; exact h3)
  first | exact ⟨by decide, outK_pure hr2.pure (by simp only [rnegR, hq]; exact hr2)⟩ | exact outK_pure hr2.pure (by simp only [rnegR, hq]; exact hr2)
theorem quo_facts (x y : Int) (hy : y ≠ 0) : (quo x y).num = (y.sign * x) / (Nat.gcd x.natAbs y.natAbs : Nat) ∧ ((quo x y).den : Int) = (y.sign * y) / (Nat.gcd x.natAbs y.natAbs : Nat) := by
  have h0 : y.natAbs ≠ 0 := by omega
  have e1 : (y.sign * x).natAbs = x.natAbs := by rw [Int.natAbs_mul, Int.natAbs_sign_of_ne_zero hy, Nat.one_mul]
  have e2 : y.sign * y = (y.natAbs : Int) := by
    rcases Int.lt_or_le y 0 with h | h
    · rw [Int.sign_eq_neg_one_of_neg h]; omega
    · rw [Int.sign_eq_one_of_pos (by omega)]; omega
  unfold quo
  rw [mk_num _ _ h0, mk_den _ _ h0, e1, e2]
  exact ⟨rfl, by rw [Int.natCast_ediv]⟩
theorem reduced_ok (v w : PV) (x y : Int) (hv : IsInt v x) (hw : IsInt w y) (hy : y ≠ 0) (fx : Fits x 399999) (fy : Fits y 399999) : Gives prog G 94 [v, w] (reducedR [v, w]) := by
  have fin : ∀ {r : PV} {s : St}, IsRat r (quo x y) → outK (reducedR [v, w]) r s := fun h => outK_pure h.pure (by simp only [reducedR, it_eq hv, it_eq hw]; exact h)
  obtain ⟨q1, q2⟩ := quo_facts x y hy
  obtain ⟨g, hg⟩ : ∃ g, g = Nat.gcd x.natAbs y.natAbs := ⟨_, rfl⟩
  have g0 : 0 < g := by rw [hg]; exact Nat.gcd_pos_of_pos_right _ (by omega)
  rw [← hg] at q1 q2
  have fg : Fits (g : Int) 399999 := fits_le fy (by rw [hg]; simp only [Int.natAbs_natCast]; exact Nat.gcd_le_right _ (by omega))
  have hv' := hv
  have hw' := hw
  obtain ⟨b, m, rfl⟩ := hv'.shape
  obtain ⟨c, n, rfl⟩ := hw'.shape
  obtain ⟨c1, c2, c3, c4, c5⟩ := hv.cell
  obtain ⟨e1, e2, e3, e4, e5⟩ := hw.cell
  refine gives (S := [(68, signR), (100, oneR), (64, compareR), (118, negR), (101, gcdR), (128, divModR)]) (by kernel_rfl) (by kernel_rfl) (callW_of ann94 func94 rfl (by kernel_rfl) ?_)
  simp [c1, e1]
  refine callK_pure (R := signR) rfl (by simp [PV.pureL, hw.pure]) (sign_ok _ _ hw) fun r hr => ?_
  simp only [signR, it_eq hw] at hr
  subst hr
  rcases Int.lt_or_le y 0 with hn | hn
  · have hs : y.sign = -1 := Int.sign_eq_neg_one_of_neg hn
    rw [hs] at q1 q2 ⊢
    simp [run_draw]
    refine dcallK_pure (R := negR) rfl (by simp [PV.pureL, hv.pure]) (neg_ok _ _ hv) fun r hr => ?_
    simp only [negR, it_eq hv] at hr
    simp []
    refine dcallK_pure (R := negR) rfl (by simp [PV.pureL, hw.pure]) (neg_ok _ _ hw) fun r2 hr2 => ?_
    simp only [negR, it_eq hw] at hr2
    obtain ⟨b1, m1, rfl⟩ := hr.shape
    obtain ⟨b2, m2, rfl⟩ := hr2.shape
    obtain ⟨i1, i2, i3, i4, i5⟩ := hr.cell
    obtain ⟨j1, j2, j3, j4, j5⟩ := hr2.cell
    simp [logOk, i1, j1, c2, e2]
    have hgz : Nat.gcd (-x).natAbs (-y).natAbs = g := by rw [hg]; simp
    refine ⟨by decide, callK_pure (R := gcdR) rfl (by simp [PV.pureL, hr.pure, hr2.pure]) (gcd_ok _ _ (-x) (-y) hr hr2 (fits_mono (fits_neg fx) (by omega)) (fits_mono (fits_neg fy) (by omega))) fun r3 hr3 => ?_⟩
    simp only [gcdR, it_eq hr, it_eq hr2, hgz] at hr3
    obtain ⟨b3, m3, rfl⟩ := hr3.shape
    obtain ⟨k1, k2, k3, k4, k5⟩ := hr3.cell
    simp [run_draw, k1]
    refine dcallK_pure (R := oneR) rfl rfl one_ok fun r4 hr4 => ?_
    simp only [oneR] at hr4
    obtain ⟨b4, m4, rfl⟩ := hr4.shape
    obtain ⟨l1, l2, l3, l4, l5⟩ := hr4.cell
    simp []
    refine dcallK_pure (R := compareR) rfl (by simp [PV.pureL, hr3.pure, hr4.pure]) (compare_ok _ _ (g : Int) 1 hr3 hr4 (fits_mono fg (by omega)) (fits_one (by omega))) fun r5 hr5 => ?_
    simp only [compareR, it_eq hr3, it_eq hr4] at hr5
    subst hr5
    by_cases hg1 : (g : Int) = 1
    · have hc : cmpI (g : Int) 1 = 0 := cmpI_zero.2 hg1
      rw [hg1, Int.ediv_one] at q1 q2
      rw [hc]
      simp [logOk, i1, j1, k2, l2]
      have hres : IsRat (.agg [.bool b1, m1, .bool b2, m2]) (quo x y) := IsRat.mk hr hr2 (by rw [q1]; try simp) (.inl (by rw [q2]; try simp))
      first | exact ⟨by decide, fin hres⟩ | exact fin hres
    · have hc : (cmpI (g : Int) 1 != 0) = true := by simp only [bne_iff_ne, ne_eq, cmpI_zero]; exact hg1
      simp [logOk, k2, l2, hc]
      refine callK_pure (R := divModR) rfl (by simp [PV.pureL, hr.pure, hr3.pure]) (divMod_ok _ _ (-x) (g : Int) hr hr3 (fits_mono (fits_neg fx) (by omega)) fg (by omega)) fun r6 hr6 => ?_
      simp only [divModR, it_eq hr, it_eq hr3] at hr6
      obtain ⟨u, u', rfl, hu, hu'⟩ := hr6
      obtain ⟨b5, m5, rfl⟩ := hu.shape
      obtain ⟨b6, m6, rfl⟩ := hu'.shape
      obtain ⟨o1, o2, o3, o4, o5⟩ := hu.cell
      simp [o1]
      refine callK_pure (R := divModR) rfl (by simp [PV.pureL, hr2.pure, hr3.pure]) (divMod_ok _ _ (-y) (g : Int) hr2 hr3 (fits_mono (fits_neg fy) (by omega)) fg (by omega)) fun r7 hr7 => ?_
      simp only [divModR, it_eq hr2, it_eq hr3] at hr7
      obtain ⟨w, w', rfl, hw1, hw1'⟩ := hr7
      obtain ⟨b7, m7, rfl⟩ := hw1.shape
      obtain ⟨b8, m8, rfl⟩ := hw1'.shape
      obtain ⟨p1, p2, p3, p4, p5⟩ := hw1.cell
      simp [o1, p1]
      have hres : IsRat (.agg [.bool b5, m5, .bool b7, m7]) (quo x y) := IsRat.mk hu hw1 (by rw [q1]; try simp) (.inl (by rw [q2]; try simp))
      exact fin hres
  · have hs : y.sign = 1 := Int.sign_eq_one_of_pos (by omega)
    rw [hs] at q1 q2 ⊢
    simp []
    have hgz : Nat.gcd (x).natAbs (y).natAbs = g := hg.symm
    refine callK_pure (R := gcdR) rfl (by simp [PV.pureL, hv.pure, hw.pure]) (gcd_ok _ _ (x) (y) hv hw (fits_mono fx (by omega)) (fits_mono fy (by omega))) fun r3 hr3 => ?_
    simp only [gcdR, it_eq hv, it_eq hw, hgz] at hr3
    obtain ⟨b3, m3, rfl⟩ := hr3.shape
    obtain ⟨k1, k2, k3, k4, k5⟩ := hr3.cell
    simp [run_draw, k1]
    refine dcallK_pure (R := oneR) rfl rfl one_ok fun r4 hr4 => ?_
    simp only [oneR] at hr4
    obtain ⟨b4, m4, rfl⟩ := hr4.shape
    obtain ⟨l1, l2, l3, l4, l5⟩ := hr4.cell
    simp []
    refine dcallK_pure (R := compareR) rfl (by simp [PV.pureL, hr3.pure, hr4.pure]) (compare_ok _ _ (g : Int) 1 hr3 hr4 (fits_mono fg (by omega)) (fits_one (by omega))) fun r5 hr5 => ?_
    simp only [compareR, it_eq hr3, it_eq hr4] at hr5
    subst hr5
    by_cases hg1 : (g : Int) = 1
    · have hc : cmpI (g : Int) 1 = 0 := cmpI_zero.2 hg1
      rw [hg1, Int.ediv_one] at q1 q2
      rw [hc]
      simp [logOk, c1, e1, k2, l2]
      have hres : IsRat (.agg [.bool b, m, .bool c, n]) (quo x y) := IsRat.mk hv hw (by rw [q1]; try simp) (.inl (by rw [q2]; try simp))
      first | exact ⟨by decide, fin hres⟩ | exact fin hres
    · have hc : (cmpI (g : Int) 1 != 0) = true := by simp only [bne_iff_ne, ne_eq, cmpI_zero]; exact hg1
      simp [logOk, k2, l2, hc]
      refine callK_pure (R := divModR) rfl (by simp [PV.pureL, hv.pure, hr3.pure]) (divMod_ok _ _ (x) (g : Int) hv hr3 (fits_mono fx (by omega)) fg (by omega)) fun r6 hr6 => ?_
      simp only [divModR, it_eq hv, it_eq hr3] at hr6
      obtain ⟨u, u', rfl, hu, hu'⟩ := hr6
      obtain ⟨b5, m5, rfl⟩ := hu.shape
      obtain ⟨b6, m6, rfl⟩ := hu'.shape
      obtain ⟨o1, o2, o3, o4, o5⟩ := hu.cell
      simp [o1]
      refine callK_pure (R := divModR) rfl (by simp [PV.pureL, hw.pure, hr3.pure]) (divMod_ok _ _ (y) (g : Int) hw hr3 (fits_mono fy (by omega)) fg (by omega)) fun r7 hr7 => ?_
      simp only [divModR, it_eq hw, it_eq hr3] at hr7
      obtain ⟨w, w', rfl, hw1, hw1'⟩ := hr7
      obtain ⟨b7, m7, rfl⟩ := hw1.shape
      obtain ⟨b8, m8, rfl⟩ := hw1'.shape
      obtain ⟨p1, p2, p3, p4, p5⟩ := hw1.cell
      simp [o1, p1]
      have hres : IsRat (.agg [.bool b5, m5, .bool b7, m7]) (quo x y) := IsRat.mk hu hw1 (by rw [q1]; try simp) (.inl (by rw [q2]; try simp))
      exact fin hres
theorem quo_nat (x : Int) (d : Nat) (hd : d ≠ 0) : quo x d = mkRat x d := by
  unfold quo
  rw [Int.sign_eq_one_of_pos (by omega), Int.one_mul, Int.natAbs_natCast]
theorem radd_ok (v w : PV) (x y : Rat) (hv : IsRat v x) (hw : IsRat w y) (fx : RFits x 100000) (fy : RFits y 100000) : Gives prog G 58 [v, w] (raddR [v, w]) := by
  have fin : ∀ {r : PV} {s : St}, IsRat r (x + y) → outK (raddR [v, w]) r s := fun h => outK_pure h.pure (by simp only [raddR, ratv_eq hv, ratv_eq hw]; exact h)
  have hv' := hv
  have hw' := hw
  obtain ⟨b, m, c, n, d, rfl, h1, h2, h3⟩ := hv'.cases
  obtain ⟨c1, c2, c3, c4, c5⟩ := h1.cell
  obtain ⟨e1, e2, e3, e4, e5⟩ := h2.cell
  obtain ⟨b', m', c', n', d', rfl, h1', h2', h3'⟩ := hw'.cases
  obtain ⟨c1', c2', c3', c4', c5'⟩ := h1'.cell
  obtain ⟨e1', e2', e3', e4', e5'⟩ := h2'.cell
  refine gives (S := [(63, wholeR), (93, addR), (66, denR), (65, mulR), (94, reducedR)]) (by kernel_rfl) (by kernel_rfl) (callW_of ann58 func58 rfl (by kernel_rfl) ?_)
  simp [c1, e1, c1', e1']
  refine callK_pure (R := wholeR) rfl (by simp [PV.pureL, hv.pure]) (whole_ok _ x hv (fits_mono fx.den (by omega))) fun r hr => ?_
  simp only [wholeR, ratv_eq hv] at hr
  subst hr
  by_cases hx1 : x.den = 1
  · simp [hx1]
    refine callK_pure (R := wholeR) rfl (by simp [PV.pureL, hw.pure]) (whole_ok _ y hw (fits_mono fy.den (by omega))) fun r hr => ?_
    simp only [wholeR, ratv_eq hw] at hr
    subst hr
    by_cases hy1 : y.den = 1
    · simp [hy1]
      refine callK_pure (R := addR) rfl (by simp [PV.pureL, h1.pure, h1'.pure]) (add_ok _ _ _ _ h1 h1' (fits_mono fx.num (by omega)) (fits_mono fy.num (by omega))) fun r hr => ?_
      simp only [addR, it_eq h1, it_eq h1'] at hr
      obtain ⟨b3, m3, rfl⟩ := hr.shape
      obtain ⟨k1, k2, k3, k4, k5⟩ := hr.cell
      obtain ⟨w1, w2⟩ := whole_add x y hx1 hy1
      simp [k1]
      exact fin (IsRat.mk hr isInt_zero w1.symm (.inr ⟨rfl, w2⟩))
    · simp [run_draw, hy1]
      refine dcallK_pure (R := denR) rfl (by simp [PV.pureL, hw.pure]) (den_ok _ y hw) fun r1 hr1 => ?_
      simp only [denR, ratv_eq hw] at hr1
      simp [c2, c2', e2']
      refine dcallK_pure (R := mulR) rfl (by simp [PV.pureL, h1.pure, hr1.pure]) (mul_ok _ _ (x.num) ((y.den : Int)) h1 hr1 (fits_mono fx.num (by omega)) (fits_mono fy.den (by omega))) fun r2 hr2 => ?_
      simp only [mulR, it_eq h1, it_eq hr1] at hr2
      have hr1s := hr1
      obtain ⟨b1, m1, rfl⟩ := hr1.shape
      obtain ⟨i11, i12, i13, i14, i15⟩ := hr1.cell
      simp [c2, e2, i12]
      refine dcallK_pure (R := denR) rfl (by simp [PV.pureL, hv.pure]) (den_ok _ x hv) fun r3 hr3 => ?_
      simp only [denR, ratv_eq hv] at hr3
      simp [c2']
      refine dcallK_pure (R := mulR) rfl (by simp [PV.pureL, h1'.pure, hr3.pure]) (mul_ok _ _ (y.num) ((x.den : Int)) h1' hr3 (fits_mono fy.num (by omega)) (fits_mono fx.den (by omega))) fun r4 hr4 => ?_
      simp only [mulR, it_eq h1', it_eq hr3] at hr4
      have hr3s := hr3
      obtain ⟨b3, m3, rfl⟩ := hr3.shape
      obtain ⟨i31, i32, i33, i34, i35⟩ := hr3.cell
      simp [i32]
      have fA : Fits (x.num * y.den + y.num * x.den) (100000 + 100000 + 1) := fits_add (fits_mul fx.num fy.den) (fits_mono (fits_mul fy.num fx.den) (by omega))
      refine dcallK_pure (R := addR) rfl (by simp [PV.pureL, hr2.pure, hr4.pure]) (add_ok _ _ _ _ hr2 hr4 (fits_mono (fits_mul fx.num fy.den) (by omega)) (fits_mono (fits_mul fy.num fx.den) (by omega))) fun r5 hr5 => ?_
      simp only [addR, it_eq hr2, it_eq hr4] at hr5
      have hr2s := hr2
      obtain ⟨b2, m2, rfl⟩ := hr2.shape
      obtain ⟨i21, i22, i23, i24, i25⟩ := hr2.cell
      have hr4s := hr4
      obtain ⟨b4, m4, rfl⟩ := hr4.shape
      obtain ⟨i41, i42, i43, i44, i45⟩ := hr4.cell
      simp [c2, e2, i22, i42]
      refine dcallK_pure (R := denR) rfl (by simp [PV.pureL, hv.pure]) (den_ok _ x hv) fun r6 hr6 => ?_
      simp only [denR, ratv_eq hv] at hr6
      simp [c2', e2']
      refine dcallK_pure (R := denR) rfl (by simp [PV.pureL, hw.pure]) (den_ok _ y hw) fun r7 hr7 => ?_
      simp only [denR, ratv_eq hw] at hr7
      simp []
      refine dcallK_pure (R := mulR) rfl (by simp [PV.pureL, hr6.pure, hr7.pure]) (mul_ok _ _ ((x.den : Int)) ((y.den : Int)) hr6 hr7 (fits_mono fx.den (by omega)) (fits_mono fy.den (by omega))) fun r8 hr8 => ?_
      simp only [mulR, it_eq hr6, it_eq hr7] at hr8
      have hr6s := hr6
      obtain ⟨b6, m6, rfl⟩ := hr6.shape
      obtain ⟨i61, i62, i63, i64, i65⟩ := hr6.cell
      have hr7s := hr7
      obtain ⟨b7, m7, rfl⟩ := hr7.shape
      obtain ⟨i71, i72, i73, i74, i75⟩ := hr7.cell
      simp [i62, i72]
      have dd0 : x.den * y.den ≠ 0 := Nat.mul_ne_zero x.den_nz y.den_nz
      have dd1 : (x.den : Int) * y.den ≠ 0 := by rw [← Int.natCast_mul]; omega
      refine dcallK_pure (R := reducedR) rfl (by simp [PV.pureL, hr5.pure, hr8.pure]) (reduced_ok _ _ _ _ hr5 hr8 dd1 (fits_mono fA (by omega)) (fits_mono (fits_mul fx.den fy.den) (by omega))) fun r9 hr9 => ?_
      simp only [reducedR, it_eq hr5, it_eq hr8] at hr9
      rw [← Int.natCast_mul, quo_nat _ _ dd0, ← add_mk] at hr9
      have hr5s := hr5
      obtain ⟨b5, m5, rfl⟩ := hr5.shape
      obtain ⟨i51, i52, i53, i54, i55⟩ := hr5.cell
      have hr8s := hr8
      obtain ⟨b8, m8, rfl⟩ := hr8.shape
      obtain ⟨i81, i82, i83, i84, i85⟩ := hr8.cell
      have hr9' := hr9
      obtain ⟨b9, m9, c9, n9, d9, rfl, g1, g2, g3⟩ := hr9'.cases
      obtain ⟨u1, u2, u3, u4, u5⟩ := g1.cell
      obtain ⟨v1, v2, v3, v4, v5⟩ := g2.cell
      simp [logOk, i52, i82, u1, v1]
      first | exact fin hr9 | exact ⟨by decide, fin hr9⟩ | exact ⟨by decide, by decide, fin hr9⟩ | exact ⟨by decide, by decide, by decide, fin hr9⟩
  · simp [run_draw, hx1]
    refine dcallK_pure (R := denR) rfl (by simp [PV.pureL, hw.pure]) (den_ok _ y hw) fun r1 hr1 => ?_
    simp only [denR, ratv_eq hw] at hr1
    simp [c2, c2', e2']
    refine dcallK_pure (R := mulR) rfl (by simp [PV.pureL, h1.pure, hr1.pure]) (mul_ok _ _ (x.num) ((y.den : Int)) h1 hr1 (fits_mono fx.num (by omega)) (fits_mono fy.den (by omega))) fun r2 hr2 => ?_
    simp only [mulR, it_eq h1, it_eq hr1] at hr2
    have hr1s := hr1
    obtain ⟨b1, m1, rfl⟩ := hr1.shape
    obtain ⟨i11, i12, i13, i14, i15⟩ := hr1.cell
    simp [c2, e2, i12]
    refine dcallK_pure (R := denR) rfl (by simp [PV.pureL, hv.pure]) (den_ok _ x hv) fun r3 hr3 => ?_
    simp only [denR, ratv_eq hv] at hr3
    simp [c2']
    refine dcallK_pure (R := mulR) rfl (by simp [PV.pureL, h1'.pure, hr3.pure]) (mul_ok _ _ (y.num) ((x.den : Int)) h1' hr3 (fits_mono fy.num (by omega)) (fits_mono fx.den (by omega))) fun r4 hr4 => ?_
    simp only [mulR, it_eq h1', it_eq hr3] at hr4
    have hr3s := hr3
    obtain ⟨b3, m3, rfl⟩ := hr3.shape
    obtain ⟨i31, i32, i33, i34, i35⟩ := hr3.cell
    simp [i32]
    have fA : Fits (x.num * y.den + y.num * x.den) (100000 + 100000 + 1) := fits_add (fits_mul fx.num fy.den) (fits_mono (fits_mul fy.num fx.den) (by omega))
    refine dcallK_pure (R := addR) rfl (by simp [PV.pureL, hr2.pure, hr4.pure]) (add_ok _ _ _ _ hr2 hr4 (fits_mono (fits_mul fx.num fy.den) (by omega)) (fits_mono (fits_mul fy.num fx.den) (by omega))) fun r5 hr5 => ?_
    simp only [addR, it_eq hr2, it_eq hr4] at hr5
    have hr2s := hr2
    obtain ⟨b2, m2, rfl⟩ := hr2.shape
    obtain ⟨i21, i22, i23, i24, i25⟩ := hr2.cell
    have hr4s := hr4
    obtain ⟨b4, m4, rfl⟩ := hr4.shape
    obtain ⟨i41, i42, i43, i44, i45⟩ := hr4.cell
    simp [c2, e2, i22, i42]
    refine dcallK_pure (R := denR) rfl (by simp [PV.pureL, hv.pure]) (den_ok _ x hv) fun r6 hr6 => ?_
    simp only [denR, ratv_eq hv] at hr6
    simp [c2', e2']
    refine dcallK_pure (R := denR) rfl (by simp [PV.pureL, hw.pure]) (den_ok _ y hw) fun r7 hr7 => ?_
    simp only [denR, ratv_eq hw] at hr7
    simp []
    refine dcallK_pure (R := mulR) rfl (by simp [PV.pureL, hr6.pure, hr7.pure]) (mul_ok _ _ ((x.den : Int)) ((y.den : Int)) hr6 hr7 (fits_mono fx.den (by omega)) (fits_mono fy.den (by omega))) fun r8 hr8 => ?_
    simp only [mulR, it_eq hr6, it_eq hr7] at hr8
    have hr6s := hr6
    obtain ⟨b6, m6, rfl⟩ := hr6.shape
    obtain ⟨i61, i62, i63, i64, i65⟩ := hr6.cell
    have hr7s := hr7
    obtain ⟨b7, m7, rfl⟩ := hr7.shape
    obtain ⟨i71, i72, i73, i74, i75⟩ := hr7.cell
    simp [i62, i72]
    have dd0 : x.den * y.den ≠ 0 := Nat.mul_ne_zero x.den_nz y.den_nz
    have dd1 : (x.den : Int) * y.den ≠ 0 := by rw [← Int.natCast_mul]; omega
    refine dcallK_pure (R := reducedR) rfl (by simp [PV.pureL, hr5.pure, hr8.pure]) (reduced_ok _ _ _ _ hr5 hr8 dd1 (fits_mono fA (by omega)) (fits_mono (fits_mul fx.den fy.den) (by omega))) fun r9 hr9 => ?_
    simp only [reducedR, it_eq hr5, it_eq hr8] at hr9
    rw [← Int.natCast_mul, quo_nat _ _ dd0, ← add_mk] at hr9
    have hr5s := hr5
    obtain ⟨b5, m5, rfl⟩ := hr5.shape
    obtain ⟨i51, i52, i53, i54, i55⟩ := hr5.cell
    have hr8s := hr8
    obtain ⟨b8, m8, rfl⟩ := hr8.shape
    obtain ⟨i81, i82, i83, i84, i85⟩ := hr8.cell
    have hr9' := hr9
    obtain ⟨b9, m9, c9, n9, d9, rfl, g1, g2, g3⟩ := hr9'.cases
    obtain ⟨u1, u2, u3, u4, u5⟩ := g1.cell
    obtain ⟨v1, v2, v3, v4, v5⟩ := g2.cell
    simp [logOk, i52, i82, u1, v1]
    first | exact fin hr9 | exact ⟨by decide, fin hr9⟩ | exact ⟨by decide, by decide, fin hr9⟩ | exact ⟨by decide, by decide, by decide, fin hr9⟩
theorem rmul_ok (v w : PV) (x y : Rat) (hv : IsRat v x) (hw : IsRat w y) (fx : RFits x 100000) (fy : RFits y 100000) : Gives prog G 59 [v, w] (rmulR [v, w]) := by
  have fin : ∀ {r : PV} {s : St}, IsRat r (x * y) → outK (rmulR [v, w]) r s := fun h => outK_pure h.pure (by simp only [rmulR, ratv_eq hv, ratv_eq hw]; exact h)
  have hv' := hv
  have hw' := hw
  obtain ⟨b, m, c, n, d, rfl, h1, h2, h3⟩ := hv'.cases
  obtain ⟨c1, c2, c3, c4, c5⟩ := h1.cell
  obtain ⟨e1, e2, e3, e4, e5⟩ := h2.cell
  obtain ⟨b', m', c', n', d', rfl, h1', h2', h3'⟩ := hw'.cases
  obtain ⟨c1', c2', c3', c4', c5'⟩ := h1'.cell
  obtain ⟨e1', e2', e3', e4', e5'⟩ := h2'.cell
  refine gives (S := [(63, wholeR), (66, denR), (65, mulR), (94, reducedR)]) (by kernel_rfl) (by kernel_rfl) (callW_of ann59 func59 rfl (by kernel_rfl) ?_)
  simp [c1, e1, c1', e1']
  refine callK_pure (R := wholeR) rfl (by simp [PV.pureL, hv.pure]) (whole_ok _ x hv (fits_mono fx.den (by omega))) fun r hr => ?_
  simp only [wholeR, ratv_eq hv] at hr
  subst hr
  by_cases hx1 : x.den = 1
  · simp [hx1]
    refine callK_pure (R := wholeR) rfl (by simp [PV.pureL, hw.pure]) (whole_ok _ y hw (fits_mono fy.den (by omega))) fun r hr => ?_
    simp only [wholeR, ratv_eq hw] at hr
    subst hr
    by_cases hy1 : y.den = 1
    · simp [hy1]
      refine callK_pure (R := mulR) rfl (by simp [PV.pureL, h1.pure, h1'.pure]) (mul_ok _ _ _ _ h1 h1' (fits_mono fx.num (by omega)) (fits_mono fy.num (by omega))) fun r hr => ?_
      simp only [mulR, it_eq h1, it_eq h1'] at hr
      obtain ⟨b3, m3, rfl⟩ := hr.shape
      obtain ⟨k1, k2, k3, k4, k5⟩ := hr.cell
      obtain ⟨w1, w2⟩ := whole_mul x y hx1 hy1
      simp [k1]
      exact fin (IsRat.mk hr isInt_zero w1.symm (.inr ⟨rfl, w2⟩))
    · simp [run_draw, hy1]
      refine dcallK_pure (R := mulR) rfl (by simp [PV.pureL, h1.pure, h1'.pure]) (mul_ok _ _ (x.num) (y.num) h1 h1' (fits_mono fx.num (by omega)) (fits_mono fy.num (by omega))) fun r2 hr2 => ?_
      simp only [mulR, it_eq h1, it_eq h1'] at hr2
      simp [c2, e2, c2']
      refine dcallK_pure (R := denR) rfl (by simp [PV.pureL, hv.pure]) (den_ok _ x hv) fun r6 hr6 => ?_
      simp only [denR, ratv_eq hv] at hr6
      simp [c2', e2']
      refine dcallK_pure (R := denR) rfl (by simp [PV.pureL, hw.pure]) (den_ok _ y hw) fun r7 hr7 => ?_
      simp only [denR, ratv_eq hw] at hr7
      simp []
      refine dcallK_pure (R := mulR) rfl (by simp [PV.pureL, hr6.pure, hr7.pure]) (mul_ok _ _ ((x.den : Int)) ((y.den : Int)) hr6 hr7 (fits_mono fx.den (by omega)) (fits_mono fy.den (by omega))) fun r8 hr8 => ?_
      simp only [mulR, it_eq hr6, it_eq hr7] at hr8
      have hr6s := hr6
      obtain ⟨b6, m6, rfl⟩ := hr6.shape
      obtain ⟨i61, i62, i63, i64, i65⟩ := hr6.cell
      have hr7s := hr7
      obtain ⟨b7, m7, rfl⟩ := hr7.shape
      obtain ⟨i71, i72, i73, i74, i75⟩ := hr7.cell
      simp [i62, i72]
      have dd0 : x.den * y.den ≠ 0 := Nat.mul_ne_zero x.den_nz y.den_nz
      have dd1 : (x.den : Int) * y.den ≠ 0 := by rw [← Int.natCast_mul]; omega
      refine dcallK_pure (R := reducedR) rfl (by simp [PV.pureL, hr2.pure, hr8.pure]) (reduced_ok _ _ _ _ hr2 hr8 dd1 (fits_mono (fits_mul fx.num fy.num) (by omega)) (fits_mono (fits_mul fx.den fy.den) (by omega))) fun r9 hr9 => ?_
      simp only [reducedR, it_eq hr2, it_eq hr8] at hr9
      rw [← Int.natCast_mul, quo_nat _ _ dd0, ← mul_mk] at hr9
      have hr2s := hr2
      obtain ⟨b2, m2, rfl⟩ := hr2.shape
      obtain ⟨i21, i22, i23, i24, i25⟩ := hr2.cell
      have hr8s := hr8
      obtain ⟨b8, m8, rfl⟩ := hr8.shape
      obtain ⟨i81, i82, i83, i84, i85⟩ := hr8.cell
      have hr9' := hr9
      obtain ⟨b9, m9, c9, n9, d9, rfl, g1, g2, g3⟩ := hr9'.cases
      obtain ⟨u1, u2, u3, u4, u5⟩ := g1.cell
      obtain ⟨v1, v2, v3, v4, v5⟩ := g2.cell
      simp [logOk, i22, i82, u1, v1]
      first | exact fin hr9 | exact ⟨by decide, fin hr9⟩ | exact ⟨by decide, by decide, fin hr9⟩ | exact ⟨by decide, by decide, by decide, fin hr9⟩
  · simp [run_draw, hx1]
    refine dcallK_pure (R := mulR) rfl (by simp [PV.pureL, h1.pure, h1'.pure]) (mul_ok _ _ (x.num) (y.num) h1 h1' (fits_mono fx.num (by omega)) (fits_mono fy.num (by omega))) fun r2 hr2 => ?_
    simp only [mulR, it_eq h1, it_eq h1'] at hr2
    simp [c2, e2, c2']
    refine dcallK_pure (R := denR) rfl (by simp [PV.pureL, hv.pure]) (den_ok _ x hv) fun r6 hr6 => ?_
    simp only [denR, ratv_eq hv] at hr6
    simp [c2', e2']
    refine dcallK_pure (R := denR) rfl (by simp [PV.pureL, hw.pure]) (den_ok _ y hw) fun r7 hr7 => ?_
    simp only [denR, ratv_eq hw] at hr7
    simp []
    refine dcallK_pure (R := mulR) rfl (by simp [PV.pureL, hr6.pure, hr7.pure]) (mul_ok _ _ ((x.den : Int)) ((y.den : Int)) hr6 hr7 (fits_mono fx.den (by omega)) (fits_mono fy.den (by omega))) fun r8 hr8 => ?_
    simp only [mulR, it_eq hr6, it_eq hr7] at hr8
    have hr6s := hr6
    obtain ⟨b6, m6, rfl⟩ := hr6.shape
    obtain ⟨i61, i62, i63, i64, i65⟩ := hr6.cell
    have hr7s := hr7
    obtain ⟨b7, m7, rfl⟩ := hr7.shape
    obtain ⟨i71, i72, i73, i74, i75⟩ := hr7.cell
    simp [i62, i72]
    have dd0 : x.den * y.den ≠ 0 := Nat.mul_ne_zero x.den_nz y.den_nz
    have dd1 : (x.den : Int) * y.den ≠ 0 := by rw [← Int.natCast_mul]; omega
    refine dcallK_pure (R := reducedR) rfl (by simp [PV.pureL, hr2.pure, hr8.pure]) (reduced_ok _ _ _ _ hr2 hr8 dd1 (fits_mono (fits_mul fx.num fy.num) (by omega)) (fits_mono (fits_mul fx.den fy.den) (by omega))) fun r9 hr9 => ?_
    simp only [reducedR, it_eq hr2, it_eq hr8] at hr9
    rw [← Int.natCast_mul, quo_nat _ _ dd0, ← mul_mk] at hr9
    have hr2s := hr2
    obtain ⟨b2, m2, rfl⟩ := hr2.shape
    obtain ⟨i21, i22, i23, i24, i25⟩ := hr2.cell
    have hr8s := hr8
    obtain ⟨b8, m8, rfl⟩ := hr8.shape
    obtain ⟨i81, i82, i83, i84, i85⟩ := hr8.cell
    have hr9' := hr9
    obtain ⟨b9, m9, c9, n9, d9, rfl, g1, g2, g3⟩ := hr9'.cases
    obtain ⟨u1, u2, u3, u4, u5⟩ := g1.cell
    obtain ⟨v1, v2, v3, v4, v5⟩ := g2.cell
    simp [logOk, i22, i82, u1, v1]
    first | exact fin hr9 | exact ⟨by decide, fin hr9⟩ | exact ⟨by decide, by decide, fin hr9⟩ | exact ⟨by decide, by decide, by decide, fin hr9⟩
theorem rsub_ok (v w : PV) (x y : Rat) (hv : IsRat v x) (hw : IsRat w y) (fx : RFits x 100000) (fy : RFits y 100000) : Gives prog G 80 [v, w] (rsubR [v, w]) := by
  have fin : ∀ {r : PV} {s : St}, IsRat r (x - y) → outK (rsubR [v, w]) r s := fun h => outK_pure h.pure (by simp only [rsubR, ratv_eq hv, ratv_eq hw]; exact h)
  have hv' := hv
  have hw' := hw
  obtain ⟨b, m, c, n, d, rfl, h1, h2, h3⟩ := hv'.cases
  obtain ⟨c1, c2, c3, c4, c5⟩ := h1.cell
  obtain ⟨e1, e2, e3, e4, e5⟩ := h2.cell
  obtain ⟨b', m', c', n', d', rfl, h1', h2', h3'⟩ := hw'.cases
  obtain ⟨c1', c2', c3', c4', c5'⟩ := h1'.cell
  obtain ⟨e1', e2', e3', e4', e5'⟩ := h2'.cell
  refine gives (S := [(82, rnegR), (58, raddR)]) (by kernel_rfl) (by kernel_rfl) (callW_of ann80 func80 rfl (by kernel_rfl) ?_)
  simp [run_draw, c1, e1, c1', e1', c2', e2']
  refine dcallK_pure (R := rnegR) rfl (by simp [PV.pureL, hw.pure]) (rneg_ok _ y hw) fun r1 hr1 => ?_
  simp only [rnegR, ratv_eq hw] at hr1
  have hr1' := hr1
  obtain ⟨b1, m1, cc1, n1, d1, rfl, p1, p2, p3⟩ := hr1'.cases
  obtain ⟨s1, s2, s3, s4, s5⟩ := p1.cell
  obtain ⟨t1, t2, t3, t4, t5⟩ := p2.cell
  simp [c2, e2, s2, t2]
  refine dcallK_pure (R := raddR) rfl (by simp [PV.pureL, hv.pure, hr1.pure]) (radd_ok _ _ x (-y) hv hr1 fx fy.neg) fun r9 hr9 => ?_
  simp only [raddR, ratv_eq hv, ratv_eq hr1] at hr9
  have hr9' := hr9
  obtain ⟨b9, m9, c9, n9, d9, rfl, g1, g2, g3⟩ := hr9'.cases
  obtain ⟨u1, u2, u3, u4, u5⟩ := g1.cell
  obtain ⟨v1, v2, v3, v4, v5⟩ := g2.cell
  simp [logOk, u1, v1]
  rw [← Rat.sub_eq_add_neg] at hr9
  first | exact fin hr9 | exact ⟨by decide, fin hr9⟩ | exact ⟨by decide, by decide, fin hr9⟩ | exact ⟨by decide, by decide, by decide, fin hr9⟩ | exact ⟨by decide, by decide, by decide, by decide, fin hr9⟩
theorem quo_div (x y : Rat) (hy : y.num ≠ 0) : quo (x.num * y.den) (x.den * y.num) = x / y := by
  rw [div_mk x y hy]
  unfold quo
  have hs : ((x.den : Int) * y.num).sign = y.num.sign := by
    rw [Int.sign_mul, Int.sign_eq_one_of_pos (by have := x.den_pos; omega), Int.one_mul]
  rw [hs, Int.natAbs_mul, Int.natAbs_natCast]
theorem rdiv_ok (v w : PV) (x y : Rat) (hv : IsRat v x) (hw : IsRat w y) (hy : y.num ≠ 0) (fx : RFits x 100000) (fy : RFits y 100000) : Gives prog G 148 [v, w] (rdivR [v, w]) := by
  have fin : ∀ {r : PV} {s : St}, IsRat r (x / y) → outK (rdivR [v, w]) (.tuple [r, .int .i64 0]) s := fun h => outK_pure (by simp [PV.pureB, PV.pureL, h.pure]) (by simp only [rdivR, ratv_eq hv, ratv_eq hw]; exact ⟨_, rfl, h⟩)
  have hv' := hv
  have hw' := hw
  obtain ⟨b, m, c, n, d, rfl, h1, h2, h3⟩ := hv'.cases
  obtain ⟨c1, c2, c3, c4, c5⟩ := h1.cell
  obtain ⟨e1, e2, e3, e4, e5⟩ := h2.cell
  obtain ⟨b', m', c', n', d', rfl, h1', h2', h3'⟩ := hw'.cases
  obtain ⟨c1', c2', c3', c4', c5'⟩ := h1'.cell
  obtain ⟨e1', e2', e3', e4', e5'⟩ := h2'.cell
  refine gives (S := [(30, rsignR), (66, denR), (65, mulR), (94, reducedR)]) (by kernel_rfl) (by kernel_rfl) (callW_of ann148 func148 rfl (by kernel_rfl) ?_)
  simp [c1, e1, c1', e1']
  refine callK_pure (R := rsignR) rfl (by simp [PV.pureL, hw.pure]) (rsign_ok _ y hw) fun r0 hr0 => ?_
  simp only [rsignR, ratv_eq hw] at hr0
  subst hr0
  have ys : (y.num.sign == 0) = false := by simp only [beq_eq_false_iff_ne, ne_eq, Int.sign_eq_zero_iff_zero]; exact hy
  simp [run_draw, c2', e2', ys]
  refine dcallK_pure (R := denR) rfl (by simp [PV.pureL, hw.pure]) (den_ok _ y hw) fun r1 hr1 => ?_
  simp only [denR, ratv_eq hw] at hr1
  simp [c2]
  refine dcallK_pure (R := mulR) rfl (by simp [PV.pureL, h1.pure, hr1.pure]) (mul_ok _ _ (x.num) ((y.den : Int)) h1 hr1 (fits_mono fx.num (by omega)) (fits_mono fy.den (by omega))) fun r2 hr2 => ?_
  simp only [mulR, it_eq h1, it_eq hr1] at hr2
  obtain ⟨b1, m1, rfl⟩ := hr1.shape
  obtain ⟨i11, i12, i13, i14, i15⟩ := hr1.cell
  simp [c2, e2, i12]
  refine dcallK_pure (R := denR) rfl (by simp [PV.pureL, hv.pure]) (den_ok _ x hv) fun r3 hr3 => ?_
  simp only [denR, ratv_eq hv] at hr3
  simp [c2']
  refine dcallK_pure (R := mulR) rfl (by simp [PV.pureL, hr3.pure, h1'.pure]) (mul_ok _ _ ((x.den : Int)) (y.num) hr3 h1' (fits_mono fx.den (by omega)) (fits_mono fy.num (by omega))) fun r4 hr4 => ?_
  simp only [mulR, it_eq hr3, it_eq h1'] at hr4
  obtain ⟨b3, m3, rfl⟩ := hr3.shape
  obtain ⟨i31, i32, i33, i34, i35⟩ := hr3.cell
  simp [i32]
  have hz : (x.den : Int) * y.num ≠ 0 := Int.mul_ne_zero (by have := x.den_pos; omega) hy
  refine dcallK_pure (R := reducedR) rfl (by simp [PV.pureL, hr2.pure, hr4.pure]) (reduced_ok _ _ _ _ hr2 hr4 hz (fits_mono (fits_mul fx.num fy.den) (by omega)) (fits_mono (fits_mul fx.den fy.num) (by omega))) fun r9 hr9 => ?_
  simp only [reducedR, it_eq hr2, it_eq hr4] at hr9
  rw [quo_div x y hy] at hr9
  obtain ⟨b2, m2, rfl⟩ := hr2.shape
  obtain ⟨i21, i22, i23, i24, i25⟩ := hr2.cell
  obtain ⟨b4, m4, rfl⟩ := hr4.shape
  obtain ⟨i41, i42, i43, i44, i45⟩ := hr4.cell
  have hr9' := hr9
  obtain ⟨b9, m9, c9, n9, d9, rfl, g1, g2, g3⟩ := hr9'.cases
  obtain ⟨u1, u2, u3, u4, u5⟩ := g1.cell
  obtain ⟨v1, v2, v3, v4, v5⟩ := g2.cell
  simp [logOk, i22, i42, u1, v1]
  first | exact fin hr9 | exact ⟨by decide, fin hr9⟩ | exact ⟨by decide, by decide, fin hr9⟩ | exact ⟨by decide, by decide, by decide, fin hr9⟩ | exact ⟨by decide, by decide, by decide, by decide, fin hr9⟩
theorem cmp_cross (x y : Rat) : cmpI (x.num * y.den) (y.num * x.den) = cmpR x y := by
  unfold cmpI cmpR
  by_cases h : x < y
  · rw [if_pos h, if_pos ((cmp_lt x y).1 h)]
  · rw [if_neg h, if_neg fun h' => h ((cmp_lt x y).2 h')]
    by_cases h2 : x = y
    · rw [if_pos h2, if_pos ((cmp_eq x y).1 h2)]
    · rw [if_neg h2, if_neg fun h' => h2 ((cmp_eq x y).2 h')]
theorem rcompare_ok (v w : PV) (x y : Rat) (hv : IsRat v x) (hw : IsRat w y) (fx : RFits x 100000) (fy : RFits y 100000) : Gives prog G 27 [v, w] (rcompareR [v, w]) := by
  have fin : ∀ {c : Int} {s : St}, c = cmpR x y → outK (rcompareR [v, w]) (.int .i64 c) s := fun h => outK_pure rfl (by simp only [rcompareR, ratv_eq hv, ratv_eq hw, h])
  have hv' := hv
  have hw' := hw
  obtain ⟨b, m, c, n, d, rfl, h1, h2, h3⟩ := hv'.cases
  obtain ⟨c1, c2, c3, c4, c5⟩ := h1.cell
  obtain ⟨e1, e2, e3, e4, e5⟩ := h2.cell
  obtain ⟨b', m', c', n', d', rfl, h1', h2', h3'⟩ := hw'.cases
  obtain ⟨c1', c2', c3', c4', c5'⟩ := h1'.cell
  obtain ⟨e1', e2', e3', e4', e5'⟩ := h2'.cell
  refine gives (S := [(63, wholeR), (66, denR), (65, mulR), (64, compareR)]) (by kernel_rfl) (by kernel_rfl) (callW_of ann27 func27 rfl (by kernel_rfl) ?_)
  simp [c1, e1, c1', e1']
  refine callK_pure (R := wholeR) rfl (by simp [PV.pureL, hv.pure]) (whole_ok _ x hv (fits_mono fx.den (by omega))) fun r hr => ?_
  simp only [wholeR, ratv_eq hv] at hr
  subst hr
  by_cases hx1 : x.den = 1
  · simp [hx1]
    refine callK_pure (R := wholeR) rfl (by simp [PV.pureL, hw.pure]) (whole_ok _ y hw (fits_mono fy.den (by omega))) fun r hr => ?_
    simp only [wholeR, ratv_eq hw] at hr
    subst hr
    by_cases hy1 : y.den = 1
    · simp [hy1]
      refine callK_pure (R := compareR) rfl (by simp [PV.pureL, h1.pure, h1'.pure]) (compare_ok _ _ _ _ h1 h1' (fits_mono fx.num (by omega)) (fits_mono fy.num (by omega))) fun r hr => ?_
      simp only [compareR, it_eq h1, it_eq h1'] at hr
      subst hr
      simp []
      refine fin ?_
      have := cmp_cross x y
      rw [hx1, hy1] at this
      simpa using this
    · simp [run_draw, c2', e2', hy1]
      refine dcallK_pure (R := denR) rfl (by simp [PV.pureL, hw.pure]) (den_ok _ y hw) fun r1 hr1 => ?_
      simp only [denR, ratv_eq hw] at hr1
      simp [c2]
      refine dcallK_pure (R := mulR) rfl (by simp [PV.pureL, h1.pure, hr1.pure]) (mul_ok _ _ (x.num) ((y.den : Int)) h1 hr1 (fits_mono fx.num (by omega)) (fits_mono fy.den (by omega))) fun r2 hr2 => ?_
      simp only [mulR, it_eq h1, it_eq hr1] at hr2
      obtain ⟨b1, m1, rfl⟩ := hr1.shape
      obtain ⟨i11, i12, i13, i14, i15⟩ := hr1.cell
      simp [c2, e2, i12]
      refine dcallK_pure (R := denR) rfl (by simp [PV.pureL, hv.pure]) (den_ok _ x hv) fun r3 hr3 => ?_
      simp only [denR, ratv_eq hv] at hr3
      simp [c2']
      refine dcallK_pure (R := mulR) rfl (by simp [PV.pureL, h1'.pure, hr3.pure]) (mul_ok _ _ (y.num) ((x.den : Int)) h1' hr3 (fits_mono fy.num (by omega)) (fits_mono fx.den (by omega))) fun r4 hr4 => ?_
      simp only [mulR, it_eq h1', it_eq hr3] at hr4
      obtain ⟨b3, m3, rfl⟩ := hr3.shape
      obtain ⟨i31, i32, i33, i34, i35⟩ := hr3.cell
      simp [i32]
      refine dcallK_pure (R := compareR) rfl (by simp [PV.pureL, hr2.pure, hr4.pure]) (compare_ok _ _ _ _ hr2 hr4 (fits_mono (fits_mul fx.num fy.den) (by omega)) (fits_mono (fits_mul fy.num fx.den) (by omega))) fun r9 hr9 => ?_
      simp only [compareR, it_eq hr2, it_eq hr4] at hr9
      subst hr9
      obtain ⟨b2, m2, rfl⟩ := hr2.shape
      obtain ⟨i21, i22, i23, i24, i25⟩ := hr2.cell
      obtain ⟨b4, m4, rfl⟩ := hr4.shape
      obtain ⟨i41, i42, i43, i44, i45⟩ := hr4.cell
      simp [logOk, i22, i42]
      first | exact fin (cmp_cross x y) | exact ⟨by decide, fin (cmp_cross x y)⟩ | exact ⟨by decide, by decide, fin (cmp_cross x y)⟩ | exact ⟨by decide, by decide, by decide, fin (cmp_cross x y)⟩ | exact ⟨by decide, by decide, by decide, by decide, fin (cmp_cross x y)⟩
  · simp [run_draw, c2', e2', hx1]
    refine dcallK_pure (R := denR) rfl (by simp [PV.pureL, hw.pure]) (den_ok _ y hw) fun r1 hr1 => ?_
    simp only [denR, ratv_eq hw] at hr1
    simp [c2]
    refine dcallK_pure (R := mulR) rfl (by simp [PV.pureL, h1.pure, hr1.pure]) (mul_ok _ _ (x.num) ((y.den : Int)) h1 hr1 (fits_mono fx.num (by omega)) (fits_mono fy.den (by omega))) fun r2 hr2 => ?_
    simp only [mulR, it_eq h1, it_eq hr1] at hr2
    obtain ⟨b1, m1, rfl⟩ := hr1.shape
    obtain ⟨i11, i12, i13, i14, i15⟩ := hr1.cell
    simp [c2, e2, i12]
    refine dcallK_pure (R := denR) rfl (by simp [PV.pureL, hv.pure]) (den_ok _ x hv) fun r3 hr3 => ?_
    simp only [denR, ratv_eq hv] at hr3
    simp [c2']
    refine dcallK_pure (R := mulR) rfl (by simp [PV.pureL, h1'.pure, hr3.pure]) (mul_ok _ _ (y.num) ((x.den : Int)) h1' hr3 (fits_mono fy.num (by omega)) (fits_mono fx.den (by omega))) fun r4 hr4 => ?_
    simp only [mulR, it_eq h1', it_eq hr3] at hr4
    obtain ⟨b3, m3, rfl⟩ := hr3.shape
    obtain ⟨i31, i32, i33, i34, i35⟩ := hr3.cell
    simp [i32]
    refine dcallK_pure (R := compareR) rfl (by simp [PV.pureL, hr2.pure, hr4.pure]) (compare_ok _ _ _ _ hr2 hr4 (fits_mono (fits_mul fx.num fy.den) (by omega)) (fits_mono (fits_mul fy.num fx.den) (by omega))) fun r9 hr9 => ?_
    simp only [compareR, it_eq hr2, it_eq hr4] at hr9
    subst hr9
    obtain ⟨b2, m2, rfl⟩ := hr2.shape
    obtain ⟨i21, i22, i23, i24, i25⟩ := hr2.cell
    obtain ⟨b4, m4, rfl⟩ := hr4.shape
    obtain ⟨i41, i42, i43, i44, i45⟩ := hr4.cell
    simp [logOk, i22, i42]
    first | exact fin (cmp_cross x y) | exact ⟨by decide, fin (cmp_cross x y)⟩ | exact ⟨by decide, by decide, fin (cmp_cross x y)⟩ | exact ⟨by decide, by decide, by decide, fin (cmp_cross x y)⟩ | exact ⟨by decide, by decide, by decide, by decide, fin (cmp_cross x y)⟩
theorem quotient_ok (v w : PV) (x y : Rat) (hv : IsRat v x) (hw : IsRat w y) (hy : y.num ≠ 0) (fx : RFits x 100000) (fy : RFits y 100000) : Gives prog G 120 [v, w] (quotientR [v, w]) := by
  have fin : ∀ {r : PV} {s : St}, IsRat r (x / y) → outK (quotientR [v, w]) r s := fun h => outK_pure h.pure (by simp only [quotientR, ratv_eq hv, ratv_eq hw]; exact h)
  have hv' := hv
  have hw' := hw
  obtain ⟨b, m, c, n, d, rfl, h1, h2, h3⟩ := hv'.cases
  obtain ⟨c1, c2, c3, c4, c5⟩ := h1.cell
  obtain ⟨e1, e2, e3, e4, e5⟩ := h2.cell
  obtain ⟨b', m', c', n', d', rfl, h1', h2', h3'⟩ := hw'.cases
  obtain ⟨c1', c2', c3', c4', c5'⟩ := h1'.cell
  obtain ⟨e1', e2', e3', e4', e5'⟩ := h2'.cell
  refine gives (S := [(148, rdivR)]) (by kernel_rfl) (by kernel_rfl) (callW_of ann120 func120 rfl (by kernel_rfl) ?_)
  simp [c1, e1, c1', e1']
  refine callK_pure (R := rdivR) rfl (by simp [PV.pureL, hv.pure, hw.pure]) (rdiv_ok _ _ x y hv hw hy fx fy) fun r1 hr1 => ?_
  simp only [rdivR, ratv_eq hv, ratv_eq hw] at hr1
  obtain ⟨r9, rfl, hr9⟩ := hr1
  have hr9' := hr9
  obtain ⟨b9, m9, c9, n9, d9, rfl, g1, g2, g3⟩ := hr9'.cases
  obtain ⟨u1, u2, u3, u4, u5⟩ := g1.cell
  obtain ⟨v1, v2, v3, v4, v5⟩ := g2.cell
  simp [u1, v1]
  first | exact fin hr9 | exact ⟨by decide, fin hr9⟩ | exact ⟨by decide, by decide, fin hr9⟩ | exact ⟨by decide, by decide, by decide, fin hr9⟩ | exact ⟨by decide, by decide, by decide, by decide, fin hr9⟩
structure RV (es : List PV) (n : Nat) (f : Nat → Rat) : Prop where
  len : es.length = n
  at_ : ∀ k, k < n → ∃ v, es[k]? = some v ∧ IsRat v (f k)
theorem RV.get {es : List PV} {n : Nat} {f : Nat → Rat} (h : RV es n f) {k : Nat} (hk : k < n) : ∃ b m c u d, es[k]? = some (.agg [.bool b, m, .bool c, u]) ∧ IsRat (.agg [.bool b, m, .bool c, u]) (f k) ∧ IsInt (.agg [.bool b, m]) (f k).num ∧ IsInt (.agg [.bool c, u]) d := by
  obtain ⟨v, h1, h2⟩ := h.at_ k hk
  obtain ⟨b, m, c, u, d, rfl, h3, h4, _⟩ := h2.cases
  exact ⟨b, m, c, u, d, h1, h2, h3, h4⟩
theorem RV.set {es : List PV} {n : Nat} {f : Nat → Rat} (h : RV es n f) {k : Nat} {v : PV} {q : Rat} (hv : IsRat v q) : RV (es.set k v) n (fun b => if b = k then q else f b) := by
  refine ⟨by rw [List.length_set, h.len], fun j hj => ?_⟩
  by_cases hjk : j = k
  · subst hjk
    refine ⟨v, List.getElem?_set_self (by rw [h.len]; exact hj), ?_⟩
    rw [if_pos rfl]; exact hv
  · obtain ⟨w, h1, h2⟩ := h.at_ j hj
    refine ⟨w, by rw [List.getElem?_set_ne (Ne.symm hjk)]; exact h1, ?_⟩
    rw [if_neg hjk]; exact h2
theorem RV.congr {es : List PV} {n : Nat} {f g : Nat → Rat} (h : RV es n f) (e : ∀ k, k < n → f k = g k) : RV es n g := ⟨h.len, fun k hk => by
  obtain ⟨v, h1, h2⟩ := h.at_ k hk
  exact ⟨v, h1, by rw [← e k hk]; exact h2⟩⟩
theorem getE {es : List PV} {k : Nat} {v : PV} (h : es[k]? = some v) : ∀ hh : k < es.length, es[k]'hh = v := fun hh => by
  rw [List.getElem?_eq_getElem hh] at h; exact Option.some.inj h
def ratZero : PV := .agg [.bool false, .nil, .bool false, .nil]
theorem isRat_zero : IsRat ratZero 0 := IsRat.mk isInt_zero isInt_zero (by simp) (.inr ⟨rfl, by simp⟩)
theorem RV.zero (n : Nat) : RV (List.replicate n ratZero) n (fun _ => 0) := ⟨by simp, fun k hk => ⟨ratZero, by rw [List.getElem?_replicate, if_pos hk], isRat_zero⟩⟩
theorem rep_eq (v : PV) : ∀ n, repeatP v n = List.replicate n v
  | 0 => rfl
  | n + 1 => by rw [repeatP, rep_eq v n]; rfl
theorem num_sign_ne {q : Rat} : (q.num.sign != 0) = !decide (q = 0) := by
  rw [Bool.eq_iff_iff]
  simp [Int.sign_eq_zero_iff_zero]
theorem num_sign_eq {q : Rat} : (q.num.sign == 0) = decide (q = 0) := by
  rw [Bool.eq_iff_iff]
  simp [Int.sign_eq_zero_iff_zero]
def lessI (r1 n : Nat) (pv : PV) (f g : Nat → Rat) (q : Rat) (fe : Ent) (H : List (Nat × Ent)) (Z : List Nat) (n0 : Nat) : Nat → List PV → St → Prop := fun m vs st => ∃ (i k b5 : Nat) (es : List PV), vs = [.int .i64 (i : Int), pv, .own r1 0 n, .int .i64 (n : Int), .ptr b5 0 0] ∧ i + m = n ∧
  RV es n (fun b => if b < i then f b - q * g b else f b) ∧ n0 ≤ b5 ∧ b5 < k ∧ st = ⟨k, (b5, fe) :: upd H r1 ⟨4, es⟩, Z⟩
def lessQ (r1 n : Nat) (f g : Nat → Rat) (q : Rat) (H : List (Nat × Ent)) (Z : List Nat) (n0 : Nat) : PV → St → Prop := fun v st => v = .tuple [] ∧ ∃ k b5 fe es, RV es n (fun b => f b - q * g b) ∧ n0 ≤ b5 ∧ b5 < k ∧ st = ⟨k, (b5, fe) :: upd H r1 ⟨4, es⟩, Z⟩
theorem less_own {S : Specs} (hS1 : Go.Pi.look S 30 = some rsignR) (hS2 : Go.Pi.look S 59 = some rmulR) (hS3 : Go.Pi.look S 80 = some rsubR) (r1 r2 n : Nat) (es1 es2 : List PV) (f g : Nat → Rat) (fv : PV) (q : Rat) (n0 : Nat) (H : List (Nat × Ent)) (Z : List Nat)
    (hH1 : Go.Pi.look H r1 = some ⟨4, es1⟩) (hH2 : Go.Pi.look H r2 = some ⟨4, es2⟩) (h1 : RV es1 n f) (h2 : RV es2 n g) (hne : r1 ≠ r2) (hn : n < 1000) (hr : r1 < n0 ∧ r2 < n0) (hz : memB Z r1 = false) (hz0 : ∀ b, n0 ≤ b → memB Z b = false)
    (hq : IsRat fv q) (fq : RFits q 30000) (ff : ∀ k, k < n → RFits (f k) 60000) (fg : ∀ k, k < n → RFits (g k) 30000) :
    CallW prog (specEnv prog G S) G A1 104 [.own r1 0 n, .own r2 0 n, fv] ⟨n0, H, Z⟩ (lessQ r1 n f g q H Z n0) := by
  obtain ⟨b, m, c, u, d, rfl, q1, q2, _⟩ := hq.cases
  obtain ⟨c1, c2, c3, c4, c5⟩ := q1.cell
  obtain ⟨e1, e2, e3, e4, e5⟩ := q2.cell
  refine callW_of ann104 func104 rfl (by kernel_rfl) ?_
  simp [c1, e1]
  refine callK_pure hS1 (by simp [PV.pureL, hq.pure]) (rsign_ok _ q hq) fun r hr => ?_
  simp only [rsignR, ratv_eq hq] at hr
  subst hr
  by_cases hq0 : q = 0
  · have hs : (q.num.sign == 0) = true := by rw [num_sign_eq]; simp [hq0]
    simp [hs]
    exact ⟨rfl, n0 + 1 + 1 + 1 + 1, n0, _, es1, h1.congr fun k _ => by rw [hq0]; grind, by omega, by omega, by rw [upd_self hH1]⟩
  · have hs : (q.num.sign == 0) = false := by rw [num_sign_eq]; simp [hq0]
    simp [hs, lenPV]
    refine loopK_of (lessI r1 n (.own r2 0 n) f g q ⟨4, [.agg [.bool b, m, .bool c, u]]⟩ H Z n0) rfl rfl ?step n _ _ ?init
    case init => exact ⟨0, n0 + 1 + 1 + 1 + 1 + 1 + 1 + 1, n0, es1, rfl, by omega, h1.congr fun k _ => by rw [if_neg (by omega)], by omega, by omega, by rw [upd_self hH1]⟩
    case step =>
    rintro w vs st ⟨i, k, b5, es, rfl, him, hes, hb, hk, rfl⟩
    have lu : Go.Pi.look (upd H r1 ⟨4, es⟩) r1 = some ⟨4, es⟩ := look_upd_same hH1
    have l2 : Go.Pi.look (upd H r1 ⟨4, es⟩) r2 = some ⟨4, es2⟩ := by rw [look_upd_ne hne, hH2]
    have n51 : ¬ b5 = r1 := by omega
    have n52 : ¬ b5 = r2 := by omega
    have z5 := hz0 b5 hb
    rcases Nat.eq_zero_or_pos w with h0 | h0
    · obtain rfl : i = n := by omega
      simp []
      exact ⟨rfl, k + 1, b5, _, es, hes.congr fun j hj => by rw [if_pos hj], hb, by omega, rfl⟩
    · have hi : i < n := by omega
      have hii : (i : Int) < n := by omega
      have wi : IntKind.i64.wrap ((i : Int) + 1) = ((i + 1 : Nat) : Int) := w_i64 (by omega)
      obtain ⟨b2, m2, c2', u2, d2, g1, g2, g3, g4⟩ := h2.get hi
      obtain ⟨x1, x2, x3, x4, x5⟩ := g3.cell
      obtain ⟨y1, y2, y3, y4, y5⟩ := g4.cell
      have g1' := getE g1
      have l2l := h2.len
      have esl := hes.len
      simp [hii, hi, l2, n52, g1]
      refine callK_pure hS1 (by simp [PV.pureL, g2.pure]) (rsign_ok _ _ g2) fun r hr => ?_
      simp only [rsignR, ratv_eq g2] at hr
      subst hr
      by_cases hg0 : g i = 0
      · have hs2 : ((g i).num.sign != 0) = false := by rw [num_sign_ne]; simp [hg0]
        simp [hs2, wi]
        refine ⟨w - 1, by omega, i + 1, _, b5, es, rfl, by omega, hes.congr fun j hj => ?_, hb, by omega, rfl⟩
        by_cases hji : j < i
        · rw [if_pos hji, if_pos (by omega)]
        · rw [if_neg hji]
          by_cases hj2 : j = i
          · subst hj2
            rw [if_pos (by omega), hg0]; grind
          · rw [if_neg (by omega)]
      · have hs2 : ((g i).num.sign != 0) = true := by rw [num_sign_ne]; simp [hg0]
        obtain ⟨b3, m3, c3', u3, d3, k1, k2, k3, k4⟩ := hes.get hi
        rw [if_neg (Nat.lt_irrefl i)] at k2 k3
        obtain ⟨v1, v2, v3, v4, v5⟩ := k3.cell
        obtain ⟨w1, w2, w3, w4, w5⟩ := k4.cell
        have k1' := getE k1
        simp [run_draw, hs2, hi, lu, l2, n51, n52, g1, k1]
        refine dcallK_pure hS2 (by simp [PV.pureL, hq.pure, g2.pure]) (rmul_ok _ _ q (g i) hq g2 (fq.mono (by omega)) ((fg i hi).mono (by omega))) fun r hr => ?_
        simp only [rmulR, ratv_eq hq, ratv_eq g2] at hr
        simp []
        refine dcallK_pure hS3 (by simp [PV.pureL, hr.pure, k2.pure]) (rsub_ok _ _ (f i) (q * g i) k2 hr ((ff i hi).mono (by omega)) ((fq.mul (fg i hi)).mono (by omega))) fun r3 hr3 => ?_
        simp only [rsubR, ratv_eq k2, ratv_eq hr] at hr3
        obtain ⟨b7, m7, c7, u7, d7, rfl, p1, p2, _⟩ := hr.cases
        obtain ⟨p11, p12, p13, p14, p15⟩ := p1.cell
        obtain ⟨p21, p22, p23, p24, p25⟩ := p2.cell
        have hr3' := hr3
        obtain ⟨b8, m8, c8, u8, d8, rfl, o1, o2, _⟩ := hr3'.cases
        obtain ⟨o11, o12, o13, o14, o15⟩ := o1.cell
        obtain ⟨o21, o22, o23, o24, o25⟩ := o2.cell
        simp [logOk, tb, wi, hi, lu, n51, k1', x2, y2, v2, w2, c2, e2, o11, o21, p12, p22, hz, upd_upd, esl]
        refine ⟨w - 1, by omega, i + 1, _, b5, es.set i (.agg [.bool b8, m8, .bool c8, u8]), rfl, by omega, (hes.set hr3).congr fun j hj => ?_, hb, by omega, rfl⟩
        by_cases hj2 : j = i
        · subst hj2
          rw [if_pos rfl, if_pos (by omega)]
        · rw [if_neg hj2]
          by_cases hji : j < i
          · rw [if_pos hji, if_pos (by omega)]
          · rw [if_neg hji, if_neg (by omega)]
structure NV (es : List PV) (n : Nat) (f : Nat → Nat) : Prop where
  len : es.length = n
  at_ : ∀ k, k < n → es[k]? = some (.int .i64 (f k))
theorem NV.set {es : List PV} {n : Nat} {f : Nat → Nat} (h : NV es n f) {k v : Nat} : NV (es.set k (.int .i64 v)) n (upd1 f k v) := by
  refine ⟨by rw [List.length_set, h.len], fun j hj => ?_⟩
  unfold upd1
  by_cases hjk : j = k
  · subst hjk
    rw [List.getElem?_set_self (by rw [h.len]; exact hj), if_pos rfl]
  · rw [List.getElem?_set_ne (Ne.symm hjk), if_neg hjk]; exact h.at_ j hj
structure Blk where
  t : Nat
  b : Nat
  o : Nat
  c : Nat
  g : Nat
  p : Nat
  r : Nat → Nat
def slv (r n : Nat) : PV := if n = 0 then .nil else .own r 0 n
theorem slv_pos {r n : Nat} (h : 0 < n) : slv r n = .own r 0 n := if_neg (by omega)
theorem slv_ids (r n : Nat) : (slv r n).cells = [slv r n] ∧ (slv r n).cellOk = true ∧ (slv r n).isTop = false ∧ lenPV (slv r n) = some n := by
  unfold slv
  split
  · rename_i h; subst h; exact ⟨rfl, rfl, rfl, rfl⟩
  · exact ⟨rfl, rfl, rfl, rfl⟩
structure TabAt (L : Blk) (H : List (Nat × Ent)) (D : Lin.Tab) : Prop where
  tt : ∃ b m c u, Go.Pi.look H L.t = some ⟨10, [.agg [.int .i64 D.n, slv L.b D.m, slv L.o D.n, slv L.c D.m, slv L.g D.m, slv L.p D.n, .bool b, m, .bool c, u]]⟩ ∧ IsRat (.agg [.bool b, m, .bool c, u]) D.val
  bb : 0 < D.m → ∃ es, Go.Pi.look H L.b = some ⟨1, es⟩ ∧ NV es D.m D.bas
  oo : 0 < D.n → ∃ es, Go.Pi.look H L.o = some ⟨1, es⟩ ∧ NV es D.n D.off
  cc : 0 < D.m → ∃ es, Go.Pi.look H L.c = some ⟨4, es⟩ ∧ RV es D.m D.con
  gg : 0 < D.m → ∃ es, Go.Pi.look H L.g = some ⟨1, es⟩ ∧ es.length = D.m ∧ ∀ i, i < D.m → es[i]? = some (.own (L.r i) 0 D.n)
  rr : ∀ i, i < D.m → ∃ es, Go.Pi.look H (L.r i) = some ⟨4, es⟩ ∧ RV es D.n (D.cel i)
  pp : 0 < D.n → ∃ es, Go.Pi.look H L.p = some ⟨4, es⟩ ∧ RV es D.n D.top
structure Blk.Apart (L : Blk) (m : Nat) : Prop where
  tb : L.t ≠ L.b
  to : L.t ≠ L.o
  tc : L.t ≠ L.c
  tg : L.t ≠ L.g
  tp : L.t ≠ L.p
  bo : L.b ≠ L.o
  bc : L.b ≠ L.c
  bg : L.b ≠ L.g
  bp : L.b ≠ L.p
  oc : L.o ≠ L.c
  og : L.o ≠ L.g
  op : L.o ≠ L.p
  cg : L.c ≠ L.g
  cp : L.c ≠ L.p
  gp : L.g ≠ L.p
  r : ∀ i, i < m → L.t ≠ L.r i ∧ L.b ≠ L.r i ∧ L.o ≠ L.r i ∧ L.c ≠ L.r i ∧ L.g ≠ L.r i ∧ L.p ≠ L.r i
  rr : ∀ i k, i < m → k < m → L.r i = L.r k → i = k
def Blk.In (L : Blk) (m q : Nat) : Prop := q = L.t ∨ q = L.b ∨ q = L.o ∨ q = L.c ∨ q = L.g ∨ q = L.p ∨ ∃ i, i < m ∧ q = L.r i
def Keeps (L : Blk) (m n0 : Nat) (H H' : List (Nat × Ent)) : Prop := ∀ q, q < n0 → ¬ L.In m q → Go.Pi.look H' q = Go.Pi.look H q
theorem Keeps.rfl' {L : Blk} {m n0 : Nat} {H : List (Nat × Ent)} : Keeps L m n0 H H := fun _ _ _ => rfl
theorem Keeps.trans {L : Blk} {m n0 n1 : Nat} {H H' H'' : List (Nat × Ent)} (h : Keeps L m n0 H H') (h' : Keeps L m n1 H' H'') (hn : n0 ≤ n1) : Keeps L m n0 H H'' := fun q hq hi => by rw [h' q (by omega) hi, h q hq hi]
theorem Keeps.cons {L : Blk} {m n0 j : Nat} {e : Ent} {H H' : List (Nat × Ent)} (h : Keeps L m n0 H H') (hj : n0 ≤ j) : Keeps L m n0 H ((j, e) :: H') := fun q hq hi => by
  rw [← h q hq hi]
  have : ¬ j = q := by omega
  simp [Go.Pi.look, beq_lit, this]
theorem Keeps.upd {L : Blk} {m n0 j : Nat} {e : Ent} {H H' : List (Nat × Ent)} (h : Keeps L m n0 H H') (hj : n0 ≤ j ∨ L.In m j) : Keeps L m n0 H (upd H' j e) := fun q hq hi => by
  rw [look_upd_ne, h q hq hi]
  rintro rfl
  rcases hj with h1 | h1
  · omega
  · exact hi h1
theorem look_cons_ne {j q : Nat} {e : Ent} {H : List (Nat × Ent)} (h : j ≠ q) : Go.Pi.look ((j, e) :: H) q = Go.Pi.look H q := by simp [Go.Pi.look, beq_lit, h]
theorem TabAt.ext {L : Blk} {H H' : List (Nat × Ent)} {D : Lin.Tab} (h : TabAt L H D) (he : ∀ q e, Go.Pi.look H q = some e → Go.Pi.look H' q = some e) : TabAt L H' D where
  tt := by obtain ⟨b, m, c, u, h1, h2⟩ := h.tt; exact ⟨b, m, c, u, he _ _ h1, h2⟩
  bb := fun k => by obtain ⟨es, h1, h2⟩ := h.bb k; exact ⟨es, he _ _ h1, h2⟩
  oo := fun k => by obtain ⟨es, h1, h2⟩ := h.oo k; exact ⟨es, he _ _ h1, h2⟩
  cc := fun k => by obtain ⟨es, h1, h2⟩ := h.cc k; exact ⟨es, he _ _ h1, h2⟩
  gg := fun k => by obtain ⟨es, h1, h2⟩ := h.gg k; exact ⟨es, he _ _ h1, h2⟩
  rr := fun i hi => by obtain ⟨es, h1, h2⟩ := h.rr i hi; exact ⟨es, he _ _ h1, h2⟩
  pp := fun k => by obtain ⟨es, h1, h2⟩ := h.pp k; exact ⟨es, he _ _ h1, h2⟩
theorem TabAt.cons {L : Blk} {H : List (Nat × Ent)} {D : Lin.Tab} {j : Nat} {e : Ent} (h : TabAt L H D) (hj : ∀ p ∈ H, p.1 < j) : TabAt L ((j, e) :: H) D := h.ext fun q x hq => by
  have := look_lt hj hq
  rw [look_cons_ne (by omega)]; exact hq
theorem TabAt.setRow {L : Blk} {H : List (Nat × Ent)} {D : Lin.Tab} (h : TabAt L H D) (ap : L.Apart D.m) {i : Nat} (hi : i < D.m) (hn : 0 < D.n) {es : List PV} {f : Nat → Rat} (hv : RV es D.n f) {D' : Lin.Tab} (e1 : D' = { D with cel := fun x y => if x = i then f y else D.cel x y }) : TabAt L (upd H (L.r i) ⟨4, es⟩) D' := by
  subst e1
  obtain ⟨e0, h0, _⟩ := h.rr i hi
  obtain ⟨a1, a2, a3, a4, a5, a6⟩ := ap.r i hi
  have ne : ∀ {q}, q ≠ L.r i → Go.Pi.look (Go.Pi.upd H (L.r i) ⟨4, es⟩) q = Go.Pi.look H q := fun hq => look_upd_ne (Ne.symm hq)
  refine ⟨?_, fun k => ?_, fun k => ?_, fun k => ?_, fun k => ?_, fun x hx => ?_, fun k => ?_⟩
  · rw [ne a1]; exact h.tt
  · rw [ne a2]; exact h.bb k
  · rw [ne a3]; exact h.oo k
  · rw [ne a4]; exact h.cc k
  · rw [ne a5]; exact h.gg k
  · by_cases hxi : x = i
    · subst hxi
      exact ⟨es, look_upd_same h0, hv.congr fun y _ => by show f y = if x = x then f y else D.cel x y; rw [if_pos rfl]⟩
    · obtain ⟨es2, h1, h2⟩ := h.rr x hx
      exact ⟨es2, by rw [ne fun e => hxi (ap.rr _ _ hx hi e)]; exact h1, h2.congr fun y _ => by show D.cel x y = if x = i then f y else D.cel x y; rw [if_neg hxi]⟩
  · rw [ne a6]; exact h.pp k
theorem TabAt.setCon {L : Blk} {H : List (Nat × Ent)} {D : Lin.Tab} (h : TabAt L H D) (ap : L.Apart D.m) (hm : 0 < D.m) {es : List PV} {f : Nat → Rat} (hv : RV es D.m f) {D' : Lin.Tab} (e1 : D' = { D with con := f }) : TabAt L (upd H L.c ⟨4, es⟩) D' := by
  subst e1
  obtain ⟨e0, h0, _⟩ := h.cc hm
  have ne : ∀ {q}, q ≠ L.c → Go.Pi.look (Go.Pi.upd H L.c ⟨4, es⟩) q = Go.Pi.look H q := fun hq => look_upd_ne (Ne.symm hq)
  refine ⟨?_, fun k => ?_, fun k => ?_, fun k => ⟨es, look_upd_same h0, hv⟩, fun k => ?_, fun x hx => ?_, fun k => ?_⟩
  · rw [ne ap.tc]; exact h.tt
  · rw [ne ap.bc]; exact h.bb k
  · rw [ne ap.oc]; exact h.oo k
  · rw [ne (Ne.symm ap.cg)]; exact h.gg k
  · rw [ne (Ne.symm (ap.r x hx).2.2.2.1)]; exact h.rr x hx
  · rw [ne (Ne.symm ap.cp)]; exact h.pp k
theorem TabAt.setTop {L : Blk} {H : List (Nat × Ent)} {D : Lin.Tab} (h : TabAt L H D) (ap : L.Apart D.m) (hn : 0 < D.n) {es : List PV} {f : Nat → Rat} (hv : RV es D.n f) {D' : Lin.Tab} (e1 : D' = { D with top := f }) : TabAt L (upd H L.p ⟨4, es⟩) D' := by
  subst e1
  obtain ⟨e0, h0, _⟩ := h.pp hn
  have ne : ∀ {q}, q ≠ L.p → Go.Pi.look (Go.Pi.upd H L.p ⟨4, es⟩) q = Go.Pi.look H q := fun hq => look_upd_ne (Ne.symm hq)
  refine ⟨?_, fun k => ?_, fun k => ?_, fun k => ?_, fun k => ?_, fun x hx => ?_, fun k => ⟨es, look_upd_same h0, hv⟩⟩
  · rw [ne ap.tp]; exact h.tt
  · rw [ne ap.bp]; exact h.bb k
  · rw [ne ap.op]; exact h.oo k
  · rw [ne ap.cp]; exact h.cc k
  · rw [ne ap.gp]; exact h.gg k
  · rw [ne (Ne.symm (ap.r x hx).2.2.2.2.2)]; exact h.rr x hx
theorem TabAt.setVal {L : Blk} {H : List (Nat × Ent)} {D : Lin.Tab} (h : TabAt L H D) (ap : L.Apart D.m) {b c : Bool} {m u : PV} {q : Rat} (hv : IsRat (.agg [.bool b, m, .bool c, u]) q) {D' : Lin.Tab} (e1 : D' = { D with val := q }) :
    TabAt L (upd H L.t ⟨10, [.agg [.int .i64 D.n, slv L.b D.m, slv L.o D.n, slv L.c D.m, slv L.g D.m, slv L.p D.n, .bool b, m, .bool c, u]]⟩) D' := by
  subst e1
  obtain ⟨_, _, _, _, h0, _⟩ := h.tt
  have ne : ∀ {q e}, q ≠ L.t → Go.Pi.look (Go.Pi.upd H L.t e) q = Go.Pi.look H q := fun hq => look_upd_ne (Ne.symm hq)
  refine ⟨⟨b, m, c, u, look_upd_same h0, hv⟩, fun k => ?_, fun k => ?_, fun k => ?_, fun k => ?_, fun x hx => ?_, fun k => ?_⟩
  · rw [ne (Ne.symm ap.tb)]; exact h.bb k
  · rw [ne (Ne.symm ap.to)]; exact h.oo k
  · rw [ne (Ne.symm ap.tc)]; exact h.cc k
  · rw [ne (Ne.symm ap.tg)]; exact h.gg k
  · rw [ne (Ne.symm (ap.r x hx).1)]; exact h.rr x hx
  · rw [ne (Ne.symm ap.tp)]; exact h.pp k
theorem TabAt.setBas {L : Blk} {H : List (Nat × Ent)} {D : Lin.Tab} (h : TabAt L H D) (ap : L.Apart D.m) (hm : 0 < D.m) {es : List PV} {f : Nat → Nat} (hv : NV es D.m f) {D' : Lin.Tab} (e1 : D' = { D with bas := f }) : TabAt L (upd H L.b ⟨1, es⟩) D' := by
  subst e1
  obtain ⟨e0, h0, _⟩ := h.bb hm
  have ne : ∀ {q}, q ≠ L.b → Go.Pi.look (Go.Pi.upd H L.b ⟨1, es⟩) q = Go.Pi.look H q := fun hq => look_upd_ne (Ne.symm hq)
  refine ⟨?_, fun k => ⟨es, look_upd_same h0, hv⟩, fun k => ?_, fun k => ?_, fun k => ?_, fun x hx => ?_, fun k => ?_⟩
  · rw [ne ap.tb]; exact h.tt
  · rw [ne (Ne.symm ap.bo)]; exact h.oo k
  · rw [ne (Ne.symm ap.bc)]; exact h.cc k
  · rw [ne (Ne.symm ap.bg)]; exact h.gg k
  · rw [ne (Ne.symm (ap.r x hx).2.1)]; exact h.rr x hx
  · rw [ne (Ne.symm ap.bp)]; exact h.pp k
theorem TabAt.setOff {L : Blk} {H : List (Nat × Ent)} {D : Lin.Tab} (h : TabAt L H D) (ap : L.Apart D.m) (hn : 0 < D.n) {es : List PV} {f : Nat → Nat} (hv : NV es D.n f) {D' : Lin.Tab} (e1 : D' = { D with off := f }) : TabAt L (upd H L.o ⟨1, es⟩) D' := by
  subst e1
  obtain ⟨e0, h0, _⟩ := h.oo hn
  have ne : ∀ {q}, q ≠ L.o → Go.Pi.look (Go.Pi.upd H L.o ⟨1, es⟩) q = Go.Pi.look H q := fun hq => look_upd_ne (Ne.symm hq)
  refine ⟨?_, fun k => ?_, fun k => ⟨es, look_upd_same h0, hv⟩, fun k => ?_, fun k => ?_, fun x hx => ?_, fun k => ?_⟩
  · rw [ne ap.to]; exact h.tt
  · rw [ne ap.bo]; exact h.bb k
  · rw [ne (Ne.symm ap.oc)]; exact h.cc k
  · rw [ne (Ne.symm ap.og)]; exact h.gg k
  · rw [ne (Ne.symm (ap.r x hx).2.2.1)]; exact h.rr x hx
  · rw [ne (Ne.symm ap.op)]; exact h.pp k
theorem TabAt.congr {L : Blk} {H : List (Nat × Ent)} {D D' : Lin.Tab} (h : TabAt L H D) (e1 : D'.m = D.m) (e2 : D'.n = D.n) (e3 : ∀ i, i < D.m → D'.bas i = D.bas i) (e4 : ∀ j, j < D.n → D'.off j = D.off j) (e5 : ∀ i, i < D.m → D'.con i = D.con i) (e6 : ∀ i j, i < D.m → j < D.n → D'.cel i j = D.cel i j) (e7 : ∀ j, j < D.n → D'.top j = D.top j) (e8 : D'.val = D.val) : TabAt L H D' := by
  refine ⟨?_, fun k => ?_, fun k => ?_, fun k => ?_, fun k => ?_, fun x hx => ?_, fun k => ?_⟩
  · rw [e1, e2, e8]; exact h.tt
  · rw [e1] at k ⊢; obtain ⟨es, h1, h2⟩ := h.bb k; exact ⟨es, h1, h2.len, fun i hi => by rw [e3 i hi]; exact h2.at_ i hi⟩
  · rw [e2] at k ⊢; obtain ⟨es, h1, h2⟩ := h.oo k; exact ⟨es, h1, h2.len, fun i hi => by rw [e4 i hi]; exact h2.at_ i hi⟩
  · rw [e1] at k ⊢; obtain ⟨es, h1, h2⟩ := h.cc k; exact ⟨es, h1, h2.congr fun i hi => (e5 i hi).symm⟩
  · rw [e1] at k ⊢; rw [e2]; exact h.gg k
  · rw [e1] at hx; rw [e2]; obtain ⟨es, h1, h2⟩ := h.rr x hx; exact ⟨es, h1, h2.congr fun i hi => (e6 x i hx hi).symm⟩
  · rw [e2] at k ⊢; obtain ⟨es, h1, h2⟩ := h.pp k; exact ⟨es, h1, h2.congr fun i hi => (e7 i hi).symm⟩
end Go.Proofs.Tryz
