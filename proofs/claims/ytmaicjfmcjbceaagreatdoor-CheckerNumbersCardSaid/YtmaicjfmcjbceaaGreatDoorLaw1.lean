/- What the law meets: rational.Read and the test of a text's length, at a text of which nothing is known. -/
import Derived.Test.YtmaicjfmcjbceaaGreatDoorS2
import Derived.Test.YtmaicjfmcjbceaaGreatDoorTabs
namespace Go.Proofs.Tryz
open Go Go.Pi
open Go.RowKit (Below)
variable [Hole] {G : Nat → Option PV} {env : Env}
set_option linter.unusedSectionVars false
set_option linter.unusedSimpArgs false

theorem ann6 : A0 6 = some ⟨[0], [], []⟩ := by kernel_rfl
theorem ann14 : A0 14 = some ⟨[0], [], []⟩ := by kernel_rfl

set_option maxRecDepth 100000 in
theorem gives_Read (n : ByteArray) (hn : n.size ≤ 20) {m : Int} (hG : G 0 = some (.hole 1)) (hv : Hole.val 1 = .int .i64 m) : Gives G 6 [.str n] ReadOk := by
  obtain ⟨r, hr, hs⟩ := gives_read (G := G) n hn hG hv
  have hE : EnvOk prog G (envOf [(15, oneRow [.str n, .int .i64 65536] r)]) := envOf_ok fun p hp => by
    simp only [List.mem_singleton] at hp
    subst hp; exact hs
  refine ⟨r, hr, sum_row hE ⟨0 + 2, ?_⟩ func6 (by kernel_rfl) (by decide)⟩
  rcases hr with ⟨e, _, rfl⟩ | ⟨b, ds, c, v, rfl, hv'⟩
  · simp [evalSum, call_succ, loop_succ, callWith, loopWith, gc, restrict, resultsP, oneP, startT, evalCode, evalRegion, seqOps, wantedP, stepOp, callOf, evalOp, lkIn, lookT, putT, ofValue, ofCell, binP, intBin, shiftBin, unP, St.apply, addFr, beq_lit, blt_lit, ble_lit, lenT, lenPV, und3, und25, und231, und232, indexAddrOp, size231, cells_int, cells_bool, cells_str, cells_slice, cells_nil, cells_agg, cells_own, loadOp, subLoad, agg231, makeSliceOp, convP, w0, w1, w2, w3, w4, wm, n0, n1, n2, n3, n4, repeatP, ok_int, ok_bool, ok_slice, ok_nil, ok_own, zero231, bytes231, Go.Pi.look, firstRegion, storeOp, subStore, upd, St.hp, St.fz, memB, envCall, envOf, orE, oneRow, reifyL, mapR, reify, reifyN, reifyW, reifyWL, PV.pureB, PV.pureL, U_pure, drawOps, drawOp, okOut, touch, Out.wrote, logOk, share, inOrder, PV.ids, PV.idsL, ann6, func6, f6, zero29, size29, agg29, zeroRat]
  · rcases hv' with rfl | ⟨es, rfl⟩ <;> simp [evalSum, call_succ, loop_succ, callWith, loopWith, gc, restrict, resultsP, oneP, startT, evalCode, evalRegion, seqOps, wantedP, stepOp, callOf, evalOp, lkIn, lookT, putT, ofValue, ofCell, binP, intBin, shiftBin, unP, St.apply, addFr, beq_lit, blt_lit, ble_lit, lenT, lenPV, und3, und25, und231, und232, indexAddrOp, size231, cells_int, cells_bool, cells_str, cells_slice, cells_nil, cells_agg, cells_own, loadOp, subLoad, agg231, makeSliceOp, convP, w0, w1, w2, w3, w4, wm, n0, n1, n2, n3, n4, repeatP, ok_int, ok_bool, ok_slice, ok_nil, ok_own, zero231, bytes231, Go.Pi.look, firstRegion, storeOp, subStore, upd, St.hp, St.fz, memB, envCall, envOf, orE, oneRow, reifyL, mapR, reify, reifyN, reifyW, reifyWL, PV.pureB, PV.pureL, U_pure, drawOps, drawOp, okOut, touch, Out.wrote, logOk, share, inOrder, PV.ids, PV.idsL, ann6, func6, f6, zero29, size29, agg29]

set_option maxRecDepth 100000 in
theorem eval14 (n : ByteArray) : evalSum prog env G A0 (0 + 2) 14 [.str n] = some (.bool (decide ((20 : Int) < (n.size : Int)))) := by
  by_cases h : (20 : Int) < (n.size : Int) <;> simp [evalSum, call_succ, loop_succ, callWith, loopWith, gc, restrict, resultsP, oneP, startT, evalCode, evalRegion, seqOps, wantedP, stepOp, callOf, evalOp, lkIn, lookT, putT, ofValue, ofCell, binP, intBin, shiftBin, unP, St.apply, addFr, beq_lit, blt_lit, ble_lit, lenT, lenPV, und3, und25, und231, und232, indexAddrOp, size231, cells_int, cells_bool, cells_str, cells_slice, cells_nil, cells_agg, cells_own, loadOp, subLoad, agg231, makeSliceOp, convP, w0, w1, w2, w3, w4, wm, n0, n1, n2, n3, n4, repeatP, ok_int, ok_bool, ok_slice, ok_nil, ok_own, zero231, bytes231, Go.Pi.look, firstRegion, storeOp, subStore, upd, St.hp, St.fz, memB, envCall, envOf, orE, oneRow, reifyL, mapR, reify, reifyN, reifyW, reifyWL, PV.pureB, PV.pureL, U_pure, drawOps, drawOp, okOut, touch, Out.wrote, logOk, share, inOrder, PV.ids, PV.idsL, ann14, func14, f14, underlying22, h]

/-- From a text to a hole that it stands in. -/
theorem hole_sum {n : ByteArray} {f : FuncId} {r r' : PV} {F : Fn1} (hs : Sum prog G f (oneRow [.str n] r)) (h0 : Hole.val 0 = .string n) (hw : ∀ (w : World) (I : Nat → Prop) (x : Value), PRep w I r x → PRep w I r' x)
    (hF : ∀ vs t, F vs = some t → vs = [.hole 0] ∧ t = r') : Sum prog G f F := by
  refine ⟨hs.1, fun vs t ht w I xs hI hg ha => ?_⟩
  obtain ⟨rfl, rfl⟩ := hF vs t ht
  obtain ⟨x, ys, rfl, h1, h2⟩ := ha.cons_inv
  rw [h2.nil_inv]
  cases h1
  rw [h0]
  refine (hs.2 [.str n] r (by simp [oneRow]) w I [.string n] hI hg (.cons (.str _) .nil)).mono ?_
  rintro e w' ⟨x, I', rfl, hB, h3, h4, hp⟩
  exact ⟨x, I', rfl, hB, h3, h4, hw _ _ _ hp⟩

theorem sum_len {n : ByteArray} (h0 : Hole.val 0 = .string n) (b : Bool) (hb : decide ((20 : Int) < (n.size : Int)) = b) : Sum prog G 14 (lenH b) := by
  subst hb
  refine hole_sum (sum_row no_env ⟨_, eval14 n⟩ func14 (by kernel_rfl) (by decide)) h0 (fun w I x h => h) fun vs t h => ?_
  unfold lenH at h
  split at h
  · cases h; exact ⟨rfl, rfl⟩
  · cases h

theorem one_bool {w : World} {I : Nat → Prop} {b : Bool} {x : Value} (h : PRep w I (.bool b) x) : x.oneCell' = true := by cases h; rfl
theorem one_slice {w : World} {I : Nat → Prop} {l : List PV} {x : Value} (h : PRep w I (.slice l) x) : x.oneCell' = true := by cases h <;> rfl
theorem one_nil {w : World} {I : Nat → Prop} {x : Value} (h : PRep w I .nil x) : x.oneCell' = true := by cases h; rfl

theorem weak_ok {w : World} {I : Nat → Prop} {x : Value} {b c : Bool} {ds : List PV} {v : PV} (hv : v = .nil ∨ ∃ es, v = .slice es) (h : PRep w I (.tuple [.agg [.bool b, .slice ds, .bool c, v], .int .i64 0]) x) : PRep w I okR x := by
  cases h with
  | tuple cs xs hl h =>
    match xs, hl with
    | [p, q], _ =>
      have hp := h 0 _ _ rfl rfl
      have hq := h 1 _ _ rfl rfl
      cases hq
      cases hp with
      | agg cs' ys hl' h' =>
        match ys, hl' with
        | [y0, y1, y2, y3], _ =>
          have e0 := one_bool (h' 0 _ _ rfl rfl)
          have e1 := one_slice (h' 1 _ _ rfl rfl)
          have e2 := one_bool (h' 2 _ _ rfl rfl)
          have e3 : y3.oneCell' = true := by
            have := h' 3 _ _ rfl rfl
            rcases hv with rfl | ⟨es, rfl⟩
            · exact one_nil this
            · exact one_slice this
          have ha : PRep w I (.agg [.any, .any, .any, .any]) (.agg [y0, y1, y2, y3].toArray) := by
            have : All2 (PRep w I) [.any, .any, .any, .any] [y0, y1, y2, y3] := .cons (.any _ e0) (.cons (.any _ e1) (.cons (.any _ e2) (.cons (.any _ e3) .nil)))
            exact .agg _ _ this.1 this.2
          exact tuple_rep (.cons ha (.cons (.int _ _) .nil))

theorem hole_env {b : Bool} {r : PV} (h1 : Sum prog G 14 (lenH b)) (h2 : Sum prog G 6 (readH r)) : EnvOk prog G (holeEnv 14 6 b r) := by
  intro f F hF
  unfold holeEnv at hF
  cases e1 : Nat.beq f 14
  · rw [e1, cond_false] at hF
    simp only [bif_some, nat_beq_eq, Option.some.injEq] at hF
    obtain ⟨rfl, rfl⟩ := hF
    exact h2
  · rw [e1, cond_true] at hF
    obtain rfl := nat_beq_eq.1 e1
    cases hF
    exact h1

theorem len_env {b : Bool} (h1 : Sum prog G 14 (lenH b)) : EnvOk prog G (lenEnv 14 b) := by
  intro f F hF
  unfold lenEnv at hF
  simp only [bif_some, nat_beq_eq, Option.some.injEq] at hF
  obtain ⟨rfl, rfl⟩ := hF
  exact h1

theorem read_sum {n : ByteArray} {r r' : PV} (hs : Sum prog G 6 (oneRow [.str n] r)) (h0 : Hole.val 0 = .string n) (hw : ∀ (w : World) (I : Nat → Prop) (x : Value), PRep w I r x → PRep w I r' x) : Sum prog G 6 (readH r') := by
  refine hole_sum hs h0 hw fun vs t h => ?_
  unfold readH at h
  split at h
  · cases h; exact ⟨rfl, rfl⟩
  · cases h

/-- The five roads that the law may take. -/
theorem roads (n : ByteArray) (h0 : Hole.val 0 = .string n) {m : Int} (hG : G 0 = some (.hole 1)) (hv : Hole.val 1 = .int .i64 m) :
    EnvOk prog G (holeEnv 14 6 false (errR 3)) ∨ EnvOk prog G (holeEnv 14 6 false (errR 14)) ∨ EnvOk prog G (holeEnv 14 6 false (errR 19)) ∨ EnvOk prog G (holeEnv 14 6 false okR) ∨ EnvOk prog G (lenEnv 14 true) := by
  by_cases hn : n.size ≤ 20
  · have hl : Sum prog G 14 (lenH false) := sum_len h0 false (by rw [decide_eq_false_iff_not]; omega)
    obtain ⟨r, hr, hs⟩ := gives_Read (G := G) n hn hG hv
    rcases hr with ⟨e, he, rfl⟩ | ⟨b, ds, c, v, rfl, hv'⟩
    · have h6 : Sum prog G 6 (readH (errR e)) := read_sum hs h0 fun w I x h => h
      rcases he with rfl | rfl | rfl
      · exact .inl (hole_env hl h6)
      · exact .inr (.inl (hole_env hl h6))
      · exact .inr (.inr (.inl (hole_env hl h6)))
    · exact .inr (.inr (.inr (.inl (hole_env hl (read_sum hs h0 fun w I x h => weak_ok hv' h)))))
  · exact .inr (.inr (.inr (.inr (len_env (sum_len h0 true (by rw [decide_eq_true_eq]; omega))))))

theorem lib_env {m : Int} (hv : Hole.val 1 = .int .i64 m) : EnvOk prog YtmaicjfmcjbceaaGreatDoor.G1 YtmaicjfmcjbceaaGreatDoor.lib := by
  have hG : YtmaicjfmcjbceaaGreatDoor.G1 0 = some (.hole 1) := rfl
  intro f F hF
  unfold YtmaicjfmcjbceaaGreatDoor.lib libEnv at hF
  cases e1 : Nat.beq f 54
  · rw [e1, cond_false] at hF
    cases e2 : Nat.beq f 56
    · rw [e2, cond_false] at hF
      cases e3 : Nat.beq f 57
      · rw [e3, cond_false] at hF
        cases e4 : Nat.beq f 108
        · rw [e4, cond_false] at hF
          simp only [bif_some, nat_beq_eq, Option.some.injEq] at hF
          obtain ⟨rfl, rfl⟩ := hF
          exact sum_parseUint
        · rw [e4, cond_true] at hF
          obtain rfl := nat_beq_eq.1 e4
          cases hF
          exact sum_cutPrefix
      · rw [e3, cond_true] at hF
        obtain rfl := nat_beq_eq.1 e3
        cases hF
        exact sum_trim
    · rw [e2, cond_true] at hF
      obtain rfl := nat_beq_eq.1 e2
      cases hF
      exact sum_trimPrefix
  · rw [e1, cond_true] at hF
    obtain rfl := nat_beq_eq.1 e1
    cases hF
    exact sum_cut hG hv

/-- The summaries say that the law returns true. -/
def saysTrue (E : Env) : Bool := match E 3 with
  | some F => match F [.hole 0] with
    | some (.bool b) => b
    | _ => false
  | none => false

theorem of_says {E : Env} (hE : EnvOk prog G E) (h : saysTrue E = true) : ∃ F, Sum prog G 3 F ∧ F [.hole 0] = some (.bool true) := by
  unfold saysTrue at h
  split at h
  · rename_i F hF
    split at h
    · rename_i b hb
      subst h
      exact ⟨F, hE 3 F hF, hb⟩
    · cases h
  · cases h

open YtmaicjfmcjbceaaGreatDoor in
/-- THE LAW RETURNS true, whatever its text. -/
theorem law_sum (n : ByteArray) (h0 : Hole.val 0 = .string n) {m : Int} (hv : Hole.val 1 = .int .i64 m) : ∃ F, Sum prog G1 3 F ∧ F [.hole 0] = some (.bool true) := by
  have hG : G1 0 = some (.hole 1) := rfl
  have he : EnvOk prog G1 env0 := tab_good (lib_env hv) annOk mixed all0 fns0
  rcases roads (G := G1) n h0 hG hv with h | h | h | h | h
  · exact of_says (tab_good (n := 100) (h.or he) annOk mixed all1 fns1) (by decide +kernel)
  · exact of_says (tab_good (n := 100) (h.or he) annOk mixed all2 fns2) (by decide +kernel)
  · exact of_says (tab_good (n := 100) (h.or he) annOk mixed all3 fns3) (by decide +kernel)
  · exact of_says (tab_good (n := 100) (h.or he) annOk mixed all4 fns4) (by decide +kernel)
  · exact of_says (tab_good (n := 100) (h.or he) annOk mixed all5 fns5) (by decide +kernel)
end Go.Proofs.Tryz
