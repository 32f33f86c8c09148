/- The machine on symbols: checker.Program. No condition. -/
import Derived.Test.YtijdeokebjoboaaGreatDoorX1
set_option linter.unusedVariables false
set_option linter.unusedSimpArgs false
set_option linter.unusedSectionVars false
set_option linter.unnecessarySimpa false
set_option maxHeartbeats 8000000
set_option maxRecDepth 100000
namespace Go.Proofs.Tryz
open Go Go.Pi Go.Num Go.Lin
variable [Hole] {G : Nat → Option PV}
structure TO.Nums (u : TO) : Prop where
  short : u.Short
  val : ∀ x, RatText u.val x → RFits x 601
  pt : ∀ x, Rd u.pt x → LFits x 601
  du : ∀ x, Rd u.du x → LFits x 601
  ray : ∀ x, Rd u.ray x → LFits x 601
open Classical in
noncomputable def accN (t : TP) (u : TO) : Int := if Acc t u then 0 else 27
noncomputable def ckR : CRel | [v, w], r => r = .int .i64 (accN (tp v) (to w)) | _, _ => False
theorem accN_yes {t : TP} {u : TO} (h : Acc t u) : accN t u = 0 := if_pos h
theorem accN_no {t : TP} {u : TO} (h : ¬ Acc t u) : accN t u = 27 := if_neg h
theorem LFits.mono {l : List Rat} {K K' : Nat} (h : LFits l K) (hk : K ≤ K') : LFits l K' := fun i hi => (h i hi).mono hk
noncomputable def specsK : Specs := [(21, cprogR), (22, creadsR), (23, combineR), (24, readR), (26, equalR), (27, rcompareR), (28, fulfilledR), (29, dotR), (25, acceptedR), (30, rsignR), (31, cont32R)]
theorem Program_ok (lib : ReadLib G) (v w : PV) (t : TP) (u : TO) (hv : IsTP v t) (hw : IsTO w u) (ht : t.Tiny) (hu : u.Nums) : Gives prog G 9 [v, w] (ckR [v, w]) := by
  have hfe : ckR [v, w] = fun r => r = .int .i64 (accN t u) := by funext r; simp only [ckR, tp_eq hv, to_eq hw]
  rw [hfe]
  have good : ∀ {s : St}, Acc t u → outK (fun r => r = .int .i64 (accN t u)) (.int .i64 0) s := fun h => outK_pure rfl (by rw [accN_yes h])
  have bad : ∀ {s : St}, ¬ Acc t u → outK (fun r => r = .int .i64 (accN t u)) (.int .i64 27) s := fun h => outK_pure rfl (by rw [accN_no h])
  have pv := hv.pure
  have pw' := hw.pure
  have hv0 := hv
  have hw0 := hw
  obtain ⟨vo, vr, rfl, h1, h2⟩ := hv
  obtain ⟨c1, c2, c3, c4⟩ := h1.cell
  obtain ⟨d1, d2, d3, d4, d5⟩ := h2.cell
  obtain ⟨wp, wd, wr, rfl, k1, k2, k3⟩ := hw
  obtain ⟨e1, e2, e3, e4⟩ := k1.cell
  obtain ⟨f1, f2, f3, f4⟩ := k2.cell
  obtain ⟨g1, g2, g3, g4⟩ := k3.cell
  have us := hu.short
  refine gives (S := specsK) (by kernel_rfl) (by kernel_rfl) (callW_of ann9 func9 rfl (by kernel_rfl) ?_)
  simp [c1, d1, e1, f1, g1]
  refine callK_pure rfl (by simp [PV.pureL, pv]) (cprog_ok lib _ t hv0 ht.short) fun r hr => ?_
  simp only [cprogR, tp_eq hv0] at hr
  obtain ⟨pr1, ro, rs, pb, rfl, rp1, rp2, rp3, rp4, hpr⟩ : ∃ (pr1 : Unit) (ro rs : PV) (pb : Bool), r = .tuple [ro, rs, .bool pb] ∧ ro.pureB = true ∧ rs.pureB = true ∧ ro.cellOk = true ∧ rs.cellOk = true ∧ ((pb = true ∧ ∃ p, RdP t p ∧ (∃ io, ro = .slice io ∧ RV io p.n (gq p.obj)) ∧ IsCRows rs p) ∨ (pb = false ∧ ∀ p, ¬ RdP t p)) := by
    rcases hr with ⟨p, io, vr, a1, a2, a3, rfl⟩ | ⟨a1, rfl⟩
    · exact ⟨(), _, _, true, rfl, rfl, a3.cell.2.2.2.2, rfl, a3.cell.1, .inl ⟨rfl, p, a1, ⟨io, rfl, a2⟩, a3⟩⟩
    · exact ⟨(), _, _, false, rfl, rfl, rfl, rfl, rfl, .inr ⟨rfl, a1⟩⟩
  have rdc : ∀ {l : List (List UInt8)} {r : PV}, CreadsP l r → ∃ (rl : PV) (b : Bool), r = .tuple [rl, .bool b] ∧ rl.pureB = true ∧ rl.cellOk = true ∧ rl.cells = [rl] ∧ ((b = true ∧ ∃ x es, Rd l x ∧ rl = .slice es ∧ RV es x.length (gq x)) ∨ (b = false ∧ rl = .nil ∧ ∀ x, ¬ Rd l x)) := fun h => by
    rcases h with ⟨x, es, a1, a2, rfl⟩ | ⟨a1, rfl⟩
    · exact ⟨_, true, rfl, rfl, rfl, rfl, .inl ⟨rfl, x, es, a1, rfl, a2⟩⟩
    · exact ⟨_, false, rfl, rfl, rfl, rfl, .inr ⟨rfl, rfl, a1⟩⟩
  simp []
  refine callK_pure rfl (by simp [PV.pureL, k1.pure]) (creads_ok lib wp u.pt k1 us.pt (by have := us.lp; omega)) fun r hr => ?_
  simp only [creadsR, sl_eq k1] at hr
  obtain ⟨lx, bx, rfl, x1, x2, x3, hx⟩ := rdc hr
  simp []
  refine callK_pure rfl (by simp [PV.pureL, k2.pure]) (creads_ok lib wd u.du k2 us.du (by have := us.ld; omega)) fun r hr => ?_
  simp only [creadsR, sl_eq k2] at hr
  obtain ⟨ly, by_, rfl, y1, y2, y3, hy⟩ := rdc hr
  simp []
  refine callK_pure rfl (by simp [PV.pureL, k3.pure]) (creads_ok lib wr u.ray k3 us.ray (by have := us.lr; omega)) fun r hr => ?_
  simp only [creadsR, sl_eq k3] at hr
  obtain ⟨lz, bz, rfl, z1, z2, z3, hz⟩ := rdc hr
  rcases hpr with ⟨rfl, p, hp, ⟨io, rfl, hio⟩, hrs⟩ | ⟨rfl, hno⟩
  rotate_left
  · rcases hz with ⟨rfl, z, ez, hz, rfl, hez⟩ | ⟨rfl, rfl, hnz⟩
    · simp []
      exact bad fun ⟨p', o, hp', _⟩ => hno p' hp'
    · simp []
      exact bad fun ⟨p', o, hp', _⟩ => hno p' hp'
  rcases hx with ⟨rfl, x, ex, hx, rfl, hex⟩ | ⟨rfl, rfl, hno⟩
  rotate_left
  · rcases hz with ⟨rfl, z, ez, hz, rfl, hez⟩ | ⟨rfl, rfl, hnz⟩
    · simp []
      exact bad fun ⟨p', o, _, ho, _⟩ => hno _ ho.2.2.2.1
    · simp []
      exact bad fun ⟨p', o, _, ho, _⟩ => hno _ ho.2.2.2.1
  rcases hy with ⟨rfl, y, ey, hy, rfl, hey⟩ | ⟨rfl, rfl, hno⟩
  rotate_left
  · rcases hz with ⟨rfl, z, ez, hz, rfl, hez⟩ | ⟨rfl, rfl, hnz⟩
    · simp []
      exact bad fun ⟨p', o, _, ho, _⟩ => hno _ ho.2.2.2.2.1
    · simp []
      exact bad fun ⟨p', o, _, ho, _⟩ => hno _ ho.2.2.2.2.1
  rcases hz with ⟨rfl, z, ez, hz, rfl, hez⟩ | ⟨rfl, rfl, hno⟩
  rotate_left
  · simp []
    exact bad fun ⟨p', o, _, ho, _⟩ => hno _ ho.2.2.2.2.2
  have hpt := hp.tiny ht
  have pm := hpt.m
  have pn := hpt.n
  have ix : IsRL (.slice ex) x := .inr ⟨ex, rfl, hex⟩
  have iy : IsRL (.slice ey) y := .inr ⟨ey, rfl, hey⟩
  have iz : IsRL (.slice ez) z := .inr ⟨ez, rfl, hez⟩
  have iO : IsRL (.slice io) p.obj := .inr ⟨io, rfl, hio⟩
  have lx := hex.len
  have ly := hey.len
  have lz := hez.len
  have lio := hio.len
  have l10 : ∀ q, lenPV (.slice q) = some q.length := fun _ => rfl
  simp [l10, lio]
  refine callK_pure rfl (by simp [PV.pureL, rp2, PV.pureB]) (combine_g rs (.slice ey) p y p.n hrs rfl hpt iy (hu.du y hy) (by have := hy.1; have := us.ld; omega)) fun r hr => ?_
  rw [combineR_eq hrs hpt iy] at hr
  obtain ⟨cw, cs, bd, fine, rfl, hcw, hf1, hf2⟩ := hr
  obtain ⟨cc, cb, cm, cd, cu, rfl, hc1, hc2⟩ := hcw
  obtain ⟨cb', cm', cd', cu', dd, ee, i1, i2, _⟩ := hc2.cases
  simp only [PV.agg.injEq, List.cons.injEq, PV.bool.injEq, and_true] at ee
  obtain ⟨rfl, rfl, rfl, rfl⟩ := ee
  obtain ⟨q1, q2, q3, q4⟩ := hc1.cell
  obtain ⟨m1, m2, m3, m4, m5⟩ := i1.cell
  obtain ⟨n1, n2, n3, n4, n5⟩ := i2.cell
  have rid := hrs.cell.2.2.2.1
  have a1 := fun h1 => acc1 (t := t) (u := u) h1 hp hx hy hz
  have a2 := fun h1 => acc2 (t := t) (u := u) h1 hp hx hy hz
  have a3 := fun h1 => acc3 (t := t) (u := u) h1 hp hx hy hz
  have cmp0 : ∀ a b : Rat, (cmpR a b == 0) = decide (a = b) := fun a b => by
    unfold cmpR
    by_cases h : a < b
    · have : ¬ a = b := fun e => by rw [e] at h; exact Rat.lt_irrefl h
      simp [h, this]
    · by_cases h2 : a = b <;> simp [h, h2]
  have fineF : fine = true → LFits cs 10000 ∧ RFits bd 90000 := fun hf => by
    obtain ⟨h1, h2⟩ := hf1.1 hf
    obtain ⟨h3, h4, h5⟩ := hf2 hf
    refine ⟨fun j hj => ?_, ?_⟩
    · rw [h4 j (by omega)]
      exact (cmbS_fits hpt (hu.du y hy) h1 (by omega) p.m (Nat.le_refl _)).mono (by have : p.m * (601 + 4) ≤ 7 * 605 := Nat.mul_le_mul_right _ pm; omega)
    · rw [h5]
      exact (dotS_fits (hu.du y hy) (fun i hi => (hpt.fbnd i hi).mono (by omega)) (by rw [h1, hpt.bl]; exact Nat.le_refl _) y.length (Nat.le_refl _)).mono (by have : y.length * (2 * 601 + 1) ≤ 7 * 1203 := Nat.mul_le_mul_right _ (by omega); omega)
  by_cases hk1 : u.kind = 1
  · have hk : (u.kind == 1) = true := by rw [hk1]; rfl
    have a1 := a1 hk1
    simp [q1, m1, n1, hk]
    refine callK_pure rfl rfl (Read_ok lib u.val us.val) fun r hr => ?_
    simp only [readR, ba_list] at hr
    obtain ⟨b0, m0, c0, u0, e, v, rfl, hv1, hv2⟩ := hr.cases
    obtain ⟨b', m', c', u', d', ee, v1, v2, _⟩ := hv1.cases
    simp only [PV.agg.injEq, List.cons.injEq, PV.bool.injEq, and_true] at ee
    obtain ⟨rfl, rfl, rfl, rfl⟩ := ee
    obtain ⟨o1, o2, o3, o4, o5⟩ := v1.cell
    obtain ⟨w1, w2, w3, w4, w5⟩ := v2.cell
    rcases hv2 with ⟨rfl, hval⟩ | ⟨he, hno⟩
    rotate_left
    · have he1 : (e == 0) = false := by simpa using he
      simp [run_draw, o1, w1, he1]
      refine dcallK_pure rfl rfl (accepted_ok false) fun r hr => ?_
      simp only [acceptedR] at hr
      subst hr
      simp []
      exact ⟨by decide +kernel, bad fun h => by obtain ⟨q, hq, _⟩ := a1.1 h; exact hno q hq⟩
    have nv : ∀ {q}, RatText u.val q → q = v := fun h => h.inj hval
    cases hfine : fine with
    | false =>
      subst hfine
      simp [run_draw, o1, w1]
      refine dcallK_pure rfl rfl (accepted_ok false) fun r hr => ?_
      simp only [acceptedR] at hr
      subst hr
      simp []
      exact ⟨by decide +kernel, bad fun h => by obtain ⟨q, hq, h1, h2, h3, h4, h5, _⟩ := a1.1 h; have := hf1.2 ⟨h2, h4⟩; cases this⟩
    | true =>
    subst hfine
    obtain ⟨yl, ypos⟩ := hf1.1 rfl
    obtain ⟨csl, csv, rfl⟩ := hf2 rfl
    obtain ⟨fcs, fbd⟩ := fineF rfl
    by_cases hxl : x.length = p.n
    rotate_left
    · have hxl1 : ((x.length : Int) == p.n) = false := by simp only [beq_eq_false_iff_ne, ne_eq]; omega
      simp [run_draw, l10, lx, o1, w1, hxl1]
      refine dcallK_pure rfl rfl (accepted_ok false) fun r hr => ?_
      simp only [acceptedR] at hr
      subst hr
      simp []
      exact ⟨by decide +kernel, bad fun h => by obtain ⟨q, hq, h1, _⟩ := a1.1 h; exact hxl h1⟩
    have hxl1 : ((x.length : Int) == p.n) = true := by rw [hxl]; simp
    by_cases hzl : z.length = 0
    rotate_left
    · have hzl1 : ((z.length : Int) == 0) = false := by simp only [beq_eq_false_iff_ne, ne_eq]; omega
      simp [run_draw, l10, lx, lz, o1, w1, hxl1, hzl1]
      refine dcallK_pure rfl rfl (accepted_ok false) fun r hr => ?_
      simp only [acceptedR] at hr
      subst hr
      simp []
      exact ⟨by decide +kernel, bad fun h => by obtain ⟨q, hq, _, _, h1, _⟩ := a1.1 h; exact hzl h1⟩
    have hzl1 : ((z.length : Int) == 0) = true := by rw [hzl]; rfl
    simp [run_draw, l10, lx, lz, q4, o1, w1, hxl1, hzl1]
    refine dcallK_pure rfl (by simp [PV.pureL, hc1.pure, iO.pure]) (equal_ok cc (.slice io) cs p.obj hc1 iO (by omega) (fun i hi => (fcs i hi).mono (by omega)) (fun i hi => (hpt.fobj i hi).mono (by omega))) fun r hr => ?_
    simp only [equalR, rl_eq hc1, rl_eq iO] at hr
    subst hr
    have pn' : p.obj.length = p.n := rfl
    by_cases hE : ∀ j, j < p.n → cmbS p y p.m j = gq p.obj j
    rotate_left
    · have hE1 : equalB cs p.obj = false := decide_eq_false fun h => hE fun j hj => by rw [← csv j hj]; exact h.2 j (by omega)
      simp [hE1]
      refine dcallK_pure rfl rfl (accepted_ok false) fun r hr => ?_
      simp only [acceptedR] at hr
      subst hr
      simp []
      exact ⟨by decide +kernel, bad fun h => by obtain ⟨q, hq, _, _, _, _, h1, _⟩ := a1.1 h; exact hE h1⟩
    have hE1 : equalB cs p.obj = true := decide_eq_true ⟨by omega, fun j hj => by rw [csv j (by omega)]; exact hE j (by omega)⟩
    simp [m2, n2, o2, w2, hE1]
    refine dcallK_pure rfl (by simp [PV.pureL, hc2.pure, hv1.pure]) (rcompare_ok _ _ _ _ hc2 hv1 (fbd.mono (by omega)) ((hu.val v hval).mono (by omega))) fun r hr => ?_
    simp only [rcompareR, ratv_eq hc2, ratv_eq hv1] at hr
    subst hr
    have hC0 := cmp0 (dotL y p.bounds) v
    by_cases hC : dotL y p.bounds = v
    rotate_left
    · have hC1 : (cmpR (dotL y p.bounds) v == 0) = false := by rw [hC0]; simp [hC]
      simp [hC1]
      refine dcallK_pure rfl rfl (accepted_ok false) fun r hr => ?_
      simp only [acceptedR] at hr
      subst hr
      simp []
      exact ⟨by decide +kernel, bad fun h => by obtain ⟨q, hq, _, _, _, _, _, _, h1, _⟩ := a1.1 h; exact hC (by rw [h1]; exact nv hq)⟩
    have hC1 : (cmpR (dotL y p.bounds) v == 0) = true := by rw [hC0]; simp [hC]
    simp [rid, hC1]
    refine dcallK_pure rfl (by simp [PV.pureL, hrs.cell.2.2.2.2, ix.pure]) (fulfilled_ok rs (.slice ex) p x 601 hrs ix (fun i hi => by rw [hpt.rl i hi, hxl]) (by omega) (by omega) (fun i hi j hj => (hpt.frow hi j hj).mono (by omega)) (fun i hi => (hpt.fbnd i hi).mono (by omega)) (hu.pt x hx) (by omega) hpt.bl) fun r hr => ?_
    simp only [fulfilledR, any67 hrs ix, Bool.not_not] at hr
    subst hr
    by_cases hH : ∀ i, i < p.m → dotL (rowAt p.rows i) x ≤ gq p.bounds i
    rotate_left
    · have hH1 : holdsB p x = false := by rw [← Bool.not_eq_true, holds_iff]; exact hH
      simp [hH1]
      refine dcallK_pure rfl rfl (accepted_ok false) fun r hr => ?_
      simp only [acceptedR] at hr
      subst hr
      simp []
      exact ⟨by decide +kernel, bad fun h => by obtain ⟨q, hq, _, _, _, _, _, h1, _⟩ := a1.1 h; exact hH h1⟩
    have hH1 : holdsB p x = true := holds_iff.2 hH
    simp [hH1]
    refine dcallK_pure rfl (by simp [PV.pureL, iO.pure, ix.pure]) (product_ok (.slice io) (.slice ex) p.obj x 601 iO ix (by omega) (by omega) (fun i hi => (hpt.fobj i hi).mono (by omega)) (hu.pt x hx) (by have : p.obj.length * (2 * 601 + 1) ≤ 4 * 1203 := Nat.mul_le_mul_right _ (by omega); omega) (by omega)) fun r hr => ?_
    simp only [dotR, rl_eq iO, rl_eq ix] at hr
    have fD : RFits (dotL p.obj x) 90000 := (dotS_fits (K := 601) (fun i hi => (hpt.fobj i hi).mono (by omega)) (hu.pt x hx) (by omega) p.obj.length (Nat.le_refl _)).mono (by have : p.obj.length * (2 * 601 + 1) ≤ 4 * 1203 := Nat.mul_le_mul_right _ (by omega); omega)
    simp [o2, w2]
    refine dcallK_pure rfl (by simp [PV.pureL, hr.pure, hv1.pure]) (rcompare_ok _ _ _ _ hr hv1 (fD.mono (by omega)) ((hu.val v hval).mono (by omega))) fun r2 hr2 => ?_
    simp only [rcompareR, ratv_eq hr, ratv_eq hv1] at hr2
    subst hr2
    have hF0 := cmp0 (dotL p.obj x) v
    obtain ⟨b9, m9, cc9, u9, d9, rfl, i91, i92, _⟩ := hr.cases
    have j91 := i91.cell.2.1
    have j92 := i92.cell.2.1
    by_cases hF : dotL p.obj x = v
    rotate_left
    · have hF1 : (cmpR (dotL p.obj x) v == 0) = false := by rw [hF0]; simp [hF]
      simp [hF1, j91, j92]
      refine dcallK_pure rfl rfl (accepted_ok false) fun r hr => ?_
      simp only [acceptedR] at hr
      subst hr
      simp []
      exact ⟨by decide +kernel, bad fun h => by obtain ⟨q, hq, _, _, _, _, _, _, _, h1⟩ := a1.1 h; exact hF (by rw [h1]; exact nv hq)⟩
    have hF1 : (cmpR (dotL p.obj x) v == 0) = true := by rw [hF0]; simp [hF]
    simp [hF1, j91, j92]
    refine dcallK_pure rfl rfl (accepted_ok true) fun r hr => ?_
    simp only [acceptedR] at hr
    subst hr
    simp []
    exact ⟨by decide +kernel, good (a1.2 ⟨v, hval, hxl, yl, hzl, ypos, hE, hH, hC, hF⟩)⟩
  · by_cases hk2 : u.kind = 2
    · have hk : (u.kind == 1) = false := by rw [hk2]; rfl
      have hk' : (u.kind == 2) = true := by rw [hk2]; rfl
      have a2 := a2 hk2
      have mk : p.n * 64 ≤ 140737488355328 := by omega
      have mk2 : p.n < 9223372036854775808 := by omega
      have mk3 : p.n * 4 ≤ 140737488355328 := by omega
      have zr1 : ratZero.cells.length = 4 := rfl
      have zr2 : ratZero.cells.all PV.cellOk = true := rfl
      by_cases hv : u.val = []
      rotate_left
      · simp [run_draw, q1, m1, n1, hk, hk', c0, sb_eql, hv]
        refine dcallK_pure rfl rfl (accepted_ok false) fun r hr => ?_
        simp only [acceptedR] at hr
        subst hr
        simp []
        exact ⟨by decide +kernel, bad fun h => hv (a2.1 h).1⟩
      cases hfine : fine with
      | false =>
        subst hfine
        simp [run_draw, q1, m1, n1, hk, hk', c0, sb_eql, hv]
        refine dcallK_pure rfl rfl (accepted_ok false) fun r hr => ?_
        simp only [acceptedR] at hr
        subst hr
        simp []
        exact ⟨by decide +kernel, bad fun h => by obtain ⟨h0, h1, h2, h3, h4, _⟩ := a2.1 h; have := hf1.2 ⟨h2, h4⟩; cases this⟩
      | true =>
      subst hfine
      obtain ⟨yl, ypos⟩ := hf1.1 rfl
      obtain ⟨csl, csv, rfl⟩ := hf2 rfl
      obtain ⟨fcs, fbd⟩ := fineF rfl
      have wx : IntKind.i64.wrap ((x.length : Int) + z.length) = ((x.length + z.length : Nat) : Int) := w_i64 (by have := hx.1; have := hz.1; have := us.lp; have := us.lr; omega)
      by_cases hxz : x.length + z.length = 0
      rotate_left
      · have hxz1 : ((x.length : Int) + z.length == 0) = false := by simp only [beq_eq_false_iff_ne, ne_eq]; omega
        simp [run_draw, q1, m1, n1, l10, lx, lz, hk, hk', c0, sb_eql, hv, wx, hxz1]
        refine dcallK_pure rfl rfl (accepted_ok false) fun r hr => ?_
        simp only [acceptedR] at hr
        subst hr
        simp []
        exact ⟨by decide +kernel, bad fun h => by obtain ⟨h0, h1, h2, h3, _⟩ := a2.1 h; omega⟩
      have hxz1 : ((x.length : Int) + z.length == 0) = true := by simp only [beq_iff_eq]; omega
      simp [run_draw, q1, m1, n1, l10, lx, lz, q4, hk, hk', c0, sb_eql, mk, mk2, zero_rat, rep_eq, zr1, zr2, hv, wx, hxz1]
      have hzz : IsRL (.slice (List.replicate p.n ratZero)) (lst p.n fun _ => 0) := lst_rl (RV.zero p.n)
      have rf : ∀ (hp : Nat → Option Ent) (r : Nat) (u : PV), u.pureB = true → hp r = some ⟨4, List.replicate p.n ratZero⟩ → reifyL hp [u, .own r 0 p.n] = some ([u, .slice (List.replicate p.n ratZero)], [r]) := fun hp r u hu hh => by
        have h1 : reify hp (.own r 0 p.n) = some (.slice (List.replicate p.n ratZero), [r]) := by
          unfold reify
          rw [show (PV.own r 0 p.n).pureB = false from rfl]
          exact reifyW_own hh (by simp) (by decide) fun v hv => by rw [List.eq_of_mem_replicate hv]; exact isRat_zero.pure
        simp only [reifyL, mapR, h1, reify_pure hu]
        rfl
      refine dcallK_spec rfl (rf _ _ _ hc1.pure (by rfl)) (equal_ok cc _ cs _ hc1 hzz (by omega) (fun i hi => (fcs i hi).mono (by omega)) (lst_fits fun i hi => RFits.zero (by omega))) (by simp []) fun r hr => ?_
      simp only [equalR, rl_eq hc1, rl_eq hzz] at hr
      subst hr
      have lzz := lst_len p.n fun _ => (0 : Rat)
      by_cases hE : ∀ j, j < p.n → cmbS p y p.m j = 0
      rotate_left
      · have hE1 : equalB cs (lst p.n fun _ => 0) = false := decide_eq_false fun h => hE fun j hj => by rw [← csv j hj, h.2 j (by omega), lst_gq hj]
        simp [hE1]
        refine dcallK_pure rfl rfl (accepted_ok false) fun r hr => ?_
        simp only [acceptedR] at hr
        subst hr
        simp []
        exact ⟨by decide +kernel, bad fun h => by obtain ⟨_, _, _, _, _, h1, _⟩ := a2.1 h; exact hE h1⟩
      have hE1 : equalB cs (lst p.n fun _ => 0) = true := decide_eq_true ⟨by omega, fun j hj => by rw [csv j (by omega), lst_gq (by omega)]; exact hE j (by omega)⟩
      simp [m2, n2, hE1]
      refine dcallK_pure rfl (by simp [PV.pureL, hc2.pure]) (rsign_ok _ _ hc2) fun r hr => ?_
      simp only [rsignR, ratv_eq hc2] at hr
      subst hr
      have SL := sign_lt (q := dotL y p.bounds)
      by_cases hS : dotL y p.bounds < 0
      rotate_left
      · have hS1 : ¬ (dotL y p.bounds).num.sign < 0 := by simpa [hS] using SL
        simp [hS1]
        refine dcallK_pure rfl rfl (accepted_ok false) fun r hr => ?_
        simp only [acceptedR] at hr
        subst hr
        simp []
        exact ⟨by decide +kernel, bad fun h => by obtain ⟨_, _, _, _, _, _, h1⟩ := a2.1 h; exact hS h1⟩
      have hS1 : (dotL y p.bounds).num.sign < 0 := by simpa [hS] using SL
      simp [hS1]
      refine dcallK_pure rfl rfl (accepted_ok true) fun r hr => ?_
      simp only [acceptedR] at hr
      subst hr
      simp []
      exact ⟨by decide +kernel, good (a2.2 ⟨hv, by omega, yl, by omega, ypos, hE, hS⟩)⟩
    · by_cases hk3 : u.kind = 3
      · have hk : (u.kind == 1) = false := by rw [hk3]; rfl
        have hk' : (u.kind == 2) = false := by rw [hk3]; rfl
        have hk'' : (u.kind == 3) = true := by rw [hk3]; rfl
        have a3 := a3 hk3
        by_cases hv : u.val = []
        rotate_left
        · simp [q1, m1, n1, hk, hk', hk'', c0, sb_neq, hv]
          exact bad fun h => hv (a3.1 h).1
        by_cases hxl : x.length = p.n
        rotate_left
        · have hxl1 : ((x.length : Int) != p.n) = true := by simp only [bne_iff_ne, ne_eq]; omega
          simp [q1, m1, n1, l10, lx, hk, hk', hk'', c0, sb_neq, hv, hxl1]
          exact bad fun h => hxl (a3.1 h).2.1
        have hxl1 : ((x.length : Int) != p.n) = false := by rw [hxl]; simp
        by_cases hzl : z.length = p.n
        rotate_left
        · have hzl1 : ((z.length : Int) != p.n) = true := by simp only [bne_iff_ne, ne_eq]; omega
          simp [q1, m1, n1, l10, lx, lz, hk, hk', hk'', c0, sb_neq, hv, hxl1, hzl1]
          exact bad fun h => hzl (a3.1 h).2.2.2.1
        have hzl1 : ((z.length : Int) != p.n) = false := by rw [hzl]; simp
        by_cases hyl : y.length = 0
        rotate_left
        · have hyl1 : 0 < y.length := by omega
          simp [q1, m1, n1, l10, lx, ly, lz, hk, hk', hk'', c0, sb_neq, hv, hxl1, hzl1, hyl1]
          exact bad fun h => hyl (a3.1 h).2.2.1
        have hyl1 : ¬ 0 < y.length := by omega
        simp [q1, m1, n1, l10, lx, ly, lz, hk, hk', hk'', c0, sb_neq, hv, hxl1, hzl1, hyl1]
        refine callK_spec rfl (reifyL_clos hrs.cell.2.2.2.2 iz.pure (by rfl)) (cont32_ok rs (.slice ez) p z 601 hrs iz (fun i hi => by rw [hpt.rl i hi, hzl]) (by omega) (by omega) (fun i hi j hj => (hpt.frow hi j hj).mono (by omega)) (fun i hi => (hpt.fbnd i hi).mono (by omega)) (hu.ray z hz) (by omega) hpt.bl) fun r hr => ?_
        simp only [cont32R] at hr
        subst hr
        have A32 := any32 (v := rs) (w := .slice ez) hrs iz
        by_cases hD : ∀ i, i < p.m → dotL (rowAt p.rows i) z ≤ 0
        rotate_left
        · have hD1 : anyB ask32 rs (.slice ez) = true := A32.2 hD
          simp [hD1, thaw, PV.bareB]
          refine callK_pure rfl rfl (accepted_ok false) fun r hr => ?_
          simp only [acceptedR] at hr
          subst hr
          simp []
          exact bad fun h => hD (a3.1 h).2.2.2.2.1
        have hD1 : anyB ask32 rs (.slice ez) = false := by rw [← Bool.not_eq_true, A32]; exact fun h => h hD
        simp [hD1, thaw, PV.bareB]
        refine callK_pure rfl (by simp [PV.pureL, hrs.cell.2.2.2.2, ix.pure]) (fulfilled_ok rs (.slice ex) p x 601 hrs ix (fun i hi => by rw [hpt.rl i hi, hxl]) (by omega) (by omega) (fun i hi j hj => (hpt.frow hi j hj).mono (by omega)) (fun i hi => (hpt.fbnd i hi).mono (by omega)) (hu.pt x hx) (by omega) hpt.bl) fun r hr => ?_
        simp only [fulfilledR, any67 hrs ix, Bool.not_not] at hr
        subst hr
        by_cases hH : ∀ i, i < p.m → dotL (rowAt p.rows i) x ≤ gq p.bounds i
        rotate_left
        · have hH1 : holdsB p x = false := by rw [← Bool.not_eq_true, holds_iff]; exact hH
          simp [hH1]
          refine callK_pure rfl rfl (accepted_ok false) fun r hr => ?_
          simp only [acceptedR] at hr
          subst hr
          simp []
          exact bad fun h => hH (a3.1 h).2.2.2.2.2.1
        have hH1 : holdsB p x = true := holds_iff.2 hH
        have pn' : p.obj.length = p.n := rfl
        simp [hH1]
        refine callK_pure rfl (by simp [PV.pureL, iO.pure, iz.pure]) (product_ok (.slice io) (.slice ez) p.obj z 601 iO iz (by omega) (by omega) (fun i hi => (hpt.fobj i hi).mono (by omega)) (hu.ray z hz) (by have : p.obj.length * (2 * 601 + 1) ≤ 4 * 1203 := Nat.mul_le_mul_right _ (by omega); omega) (by omega)) fun r hr => ?_
        simp only [dotR, rl_eq iO, rl_eq iz] at hr
        simp []
        refine callK_pure rfl (by simp [PV.pureL, hr.pure]) (rsign_ok _ _ hr) fun r2 hr2 => ?_
        simp only [rsignR, ratv_eq hr] at hr2
        subst hr2
        have SG := sign_gt (q := dotL p.obj z)
        by_cases hS : 0 < dotL p.obj z
        rotate_left
        · have hS1 : ¬ 0 < (dotL p.obj z).num.sign := by simpa [hS] using SG
          simp [hS1]
          refine callK_pure rfl rfl (accepted_ok false) fun r hr => ?_
          simp only [acceptedR] at hr
          subst hr
          simp []
          exact bad fun h => hS (a3.1 h).2.2.2.2.2.2
        have hS1 : 0 < (dotL p.obj z).num.sign := by simpa [hS] using SG
        simp [hS1]
        refine callK_pure rfl rfl (accepted_ok true) fun r hr => ?_
        simp only [acceptedR] at hr
        subst hr
        simp []
        exact good (a3.2 ⟨hv, hxl, hyl, hzl, hD, hH, hS⟩)
      · have hk : (u.kind == 1) = false := by simpa using hk1
        have hk' : (u.kind == 2) = false := by simpa using hk2
        have hk'' : (u.kind == 3) = false := by simpa using hk3
        simp [q1, m1, n1, hk, hk', hk'']
        refine bad fun ⟨p', o, _, _, hs, _⟩ => ?_
        rcases hs with ⟨h, _⟩ | ⟨h, _⟩ | ⟨h, _⟩
        · exact hk1 h
        · exact hk2 h
        · exact hk3 h
end Go.Proofs.Tryz
