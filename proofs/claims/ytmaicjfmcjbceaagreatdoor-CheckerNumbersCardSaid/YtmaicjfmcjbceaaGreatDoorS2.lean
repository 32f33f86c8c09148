/- The interpreter on symbols: integer.Parse, rational.read. No condition. -/
import Derived.Test.YtmaicjfmcjbceaaGreatDoorS1
import Derived.Test.YtmaicjfmcjbceaaGreatDoorLays
/- The interpreter on symbols: strings.ContainsFunc at digits; integer.Parse whole. -/
namespace Go.Proofs.Tryz
open Go Go.Pi
open Go.RowKit (Below)
variable [Hole] {G : Nat → Option PV} {env : Env}
set_option linter.unusedSectionVars false
set_option linter.unusedSimpArgs false

theorem ann110 : A0 110 = some ⟨[0], [], []⟩ := by kernel_rfl

def notDigit (x : Nat) : Bool := decide ((x : Int) < 48) || decide ((x : Int) > 57)

set_option maxRecDepth 100000 in
theorem eval110 (x : Int) : evalSum prog env G A0 (0 + 2) 110 [.int .i32 x] = some (.bool (decide (x < 48) || decide (x > 57))) := by
  by_cases h1 : x < 48 <;> by_cases h2 : x > 57 <;> simp [evalSum, call_succ, loop_succ, callWith, loopWith, gc, restrict, resultsP, oneP, startT, evalCode, evalRegion, seqOps, wantedP, stepOp, callOf, evalOp, lkIn, lookT, putT, ofValue, ofCell, binP, intBin, shiftBin, unP, St.apply, addFr, beq_lit, blt_lit, ble_lit, lenT, lenPV, und3, und25, und231, und232, indexAddrOp, size231, cells_int, cells_bool, cells_str, cells_slice, cells_nil, cells_agg, cells_own, loadOp, subLoad, agg231, makeSliceOp, convP, w0, w1, w2, w3, w4, wm, n0, n1, n2, n3, n4, repeatP, ok_int, ok_bool, ok_slice, ok_nil, ok_own, zero231, bytes231, Go.Pi.look, firstRegion, storeOp, subStore, upd, St.hp, St.fz, memB, envCall, envOf, orE, oneRow, reifyL, mapR, reify, reifyN, reifyW, reifyWL, PV.pureB, PV.pureL, U_pure, drawOps, drawOp, okOut, touch, Out.wrote, logOk, share, inOrder, PV.ids, PV.idsL, ann110, func110, f110, h1, h2]

theorem sum110 (x : Int) : Sum prog (fun _ => none) 110 (oneRow [.int .i32 x] (.bool (decide (x < 48) || decide (x > 57)))) :=
  sum_row no_env ⟨_, eval110 x⟩ func110 (by kernel_rfl) (by decide)

theorem grows110 (w : World) : PredGrows prog 110 #[] notDigit w := by
  intro W x hx hb
  have h := (sum110 (x : Int)).2 [.int .i32 x] _ (by simp [oneRow]; rfl) W (fun _ => False) [.int .i32 x] (fun _ h => h.elim) (fun g e h => by cases h) (.cons (.int _ _) .nil)
  refine h.mono ?_
  rintro e w' ⟨y, I', rfl, hB, _, _, hp⟩
  cases hp
  exact ⟨rfl, hB⟩

theorem idx_digits (s : ByteArray) (hd : s.data.toList.all digitB = true) : ∀ (f pos : Nat), Lib.idxFuncFrom notDigit true s f pos = -1
  | 0, _ => rfl
  | f + 1, pos => by
    unfold Lib.idxFuncFrom
    split
    · rename_i hp
      have hb : digitB (s[pos]'hp) = true := by
        rw [List.all_eq_true] at hd
        refine hd _ ?_
        have : (s[pos]'hp) = s.data.toList[pos]'(by rw [← size_list]; exact hp) := by simp; rfl
        rw [this]
        exact List.getElem_mem _
      simp only [digitB, Bool.and_eq_true, ble_iff] at hb
      rw [decode_ascii s pos hp (by omega)]
      have : notDigit (s[pos]'hp).toNat = false := by
        simp only [notDigit, Bool.or_eq_false_iff, decide_eq_false_iff_not]
        omega
      simp only [this, Bool.false_eq_true, if_false]
      exact idx_digits s hd f _
    · rfl

theorem sum109 : Sum prog G 109 noneFn := by
  refine sum_flat (enters_pi func109 (by kernel_rfl) (by decide)) fun vs r h w I xs hg ha => ?_
  unfold noneFn at h
  split at h
  case h_2 => cases h
  rename_i s
  simp only [bif_some, Bool.and_eq_true, Option.some.injEq] at h
  obtain ⟨⟨_, hd⟩, rfl⟩ := h
  obtain ⟨x, ys, rfl, h1, h2⟩ := ha.cons_inv
  obtain ⟨y, zs, rfl, h3, h4⟩ := h2.cons_inv
  cases h1
  rw [h4.nil_inv]
  obtain ⟨cs, rfl, hcs⟩ : ∃ cs : List Value, y = .func (.func 110) #[] cs.toArray ∧ cs = [] := by
    cases h3 with
    | func f cs xs hl h => exact ⟨xs, rfl, List.length_eq_zero_iff.1 hl⟩
  subst hcs
  refine (Any.strings_ContainsFunc_grows Tryz.layContainsFunc 110 #[] (enters_of func110 (by kernel_rfl) rfl) notDigit s w (grows110 w)).mono ?_
  rintro e w' ⟨rfl, hB⟩
  refine ⟨_, rfl, hB, fun w' I' => ?_⟩
  have : Lib.idxFunc notDigit true s = -1 := idx_digits s hd _ _
  rw [this]
  exact .bool _
end Go.Proofs.Tryz

/- The interpreter on symbols: integer.Parse whole. -/
namespace Go.Proofs.Tryz
open Go Go.Pi
open Go.RowKit (Below)
variable [Hole] {G : Nat → Option PV} {env : Env}
set_option linter.unusedSectionVars false
set_option linter.unusedSimpArgs false

theorem seq_assoc {P : Program} {callF : CallF} {loopF : LoopF} {cx : Cx} {a b c : Code} {T : Tm} {s : St} : evalCode P env G callF loopF cx (.seq (.seq a b) c) T s = evalCode P env G callF loopF cx (.seq a (.seq b c)) T s := by
  simp only [evalCode]
  generalize evalCode P env G callF loopF cx a T s = r
  match r with
  | some (.normal, T1, s1) => rfl
  | some (.exit _, T1, s1) => rfl
  | some (.ret, T1, s1) => rfl
  | none => rfl

noncomputable def parseStart : Code := match f58.body with
  | some (.seq a (.seq b (.seq c (.seq d (.seq e (.seq f _)))))) => .seq (.seq (.seq (.seq (.seq a b) c) d) e) f
  | _ => .skip
noncomputable def parseEnd : Code := match f58.body with
  | some (.seq _ (.seq _ (.seq _ (.seq _ (.seq _ (.seq _ (.seq _ b))))))) => b
  | _ => .skip

theorem parse_env : EnvOk prog G (parseEnv G) := envOf_ok fun p hp => by
  simp only [List.mem_cons, List.mem_nil_iff, or_false] at hp
  rcases hp with rfl | rfl | rfl | rfl | rfl
  · exact sum_cutPrefix
  · exact sum109
  · exact sum_parseUint
  · exact pick_sum _ (enters_pi func112 (by kernel_rfl) (by decide))
  · exact pick_sum _ (enters_pi func113 (by kernel_rfl) (by decide))

/-- A string that Parse reads: its digits 's' behind a sign. -/
structure Numeral (a s : ByteArray) (neg : Bool) : Prop where
  cut : cutPrefixF [.str a, .str ⟨#[45]⟩] = some (.tuple [.str s, .bool neg])
  long : a.size ≤ 65536
  size : 1 ≤ s.size ∧ s.size ≤ 20
  all : s.data.toList.all digitB = true

theorem str_eq (x y : ByteArray) : strBin .eql x y = some (.bool (x.data.toList == y.data.toList)) := by rw [← ByteArray.toList_eq, ← ByteArray.toList_eq]; rfl
theorem str_ne (x y : ByteArray) : strBin .neq x y = some (.bool (!(x.data.toList == y.data.toList))) := by rw [← ByteArray.toList_eq, ← ByteArray.toList_eq]; rfl

theorem noneFn_some {s : ByteArray} (h : s.data.toList.all digitB = true) (hs : s.size ≤ 20) : noneFn [.str s, .func 110 []] = some (.bool false) := by
  have : smallS s = true := by unfold smallS; rw [blt_iff]; omega
  simp [noneFn, this, h]

/-- Is the numeral not in canonical form? -/
def badForm (c : UInt8) (n : Nat) (neg : Bool) : Bool := Nat.beq c.toNat 48 && (Nat.blt 1 n || neg)

set_option maxRecDepth 100000 in
theorem parse_start (e : Evs) (a s : ByteArray) (neg : Bool) (c : UInt8) (l : List UInt8) (hn : Numeral a s neg) (hl : s.data.toList = c :: l) (hb : badForm c s.size neg = false) :
    ∃ T k, evalCode prog (parseEnv G) G e.call e.loop cx58 parseStart [(0, .str a)] ⟨0, [], []⟩ = some (.normal, T, ⟨k, [(0, ⟨2, [.agg [.bool false, .nil]]⟩)], []⟩) ∧ lookT T 4 = .str s ∧ lookT T 6 = .nil ∧ lookT T 5 = .bool neg ∧ lookT T 2 = .ptr 0 0 0 := by
  have h1 : ¬ ((65536 : Int) < (a.size : Int)) := by have := hn.long; omega
  have h2 := hn.cut
  have h4 := noneFn_some hn.all hn.size.2
  cases hc : ((c.toNat : Int) == 48)
  · generalize hr : evalCode _ _ _ _ _ _ _ _ _ = r
    simp [evalSum, call_succ, loop_succ, callWith, loopWith, gc, restrict, resultsP, oneP, startT, evalCode, evalRegion, seqOps, wantedP, stepOp, callOf, evalOp, lkIn, lookT, putT, ofValue, ofCell, binP, intBin, shiftBin, unP, St.apply, addFr, beq_lit, blt_lit, ble_lit, lenT, lenPV, und3, und25, und231, und232, indexAddrOp, size231, cells_int, cells_bool, cells_str, cells_slice, cells_nil, cells_agg, cells_own, loadOp, subLoad, agg231, makeSliceOp, convP, w0, w1, w2, w3, w4, wm, n0, n1, n2, n3, n4, repeatP, ok_int, ok_bool, ok_slice, ok_nil, ok_own, zero231, bytes231, Go.Pi.look, firstRegion, storeOp, subStore, upd, St.hp, St.fz, memB, envCall, envOf, orE, oneRow, reifyL, mapR, reify, reifyN, reifyW, reifyWL, PV.pureB, PV.pureL, U_pure, drawOps, drawOp, okOut, touch, Out.wrote, logOk, share, inOrder, PV.ids, PV.idsL, parseEnv, parseStart, f58, cx58, underlying9, zero27, size27, h1, h2, str_eq, h4, indexOp, hl, hc] at hr
    subst hr
    exact ⟨_, _, rfl, by simp [lookT, beq_lit], by simp [lookT, beq_lit], by simp [lookT, beq_lit], by simp [lookT, beq_lit]⟩
  · have hc' : Nat.beq c.toNat 48 = true := by rw [nat_beq_eq]; have := beq_iff_eq.1 hc; omega
    simp only [badForm, hc', Bool.true_and, Bool.or_eq_false_iff] at hb
    obtain ⟨h5, rfl⟩ := hb
    have h6 : ¬ ((1 : Int) < (s.size : Int)) := by
      intro h
      have : Nat.blt 1 s.size = true := by rw [blt_iff]; omega
      rw [this] at h5; cases h5
    generalize hr : evalCode _ _ _ _ _ _ _ _ _ = r
    simp [evalSum, call_succ, loop_succ, callWith, loopWith, gc, restrict, resultsP, oneP, startT, evalCode, evalRegion, seqOps, wantedP, stepOp, callOf, evalOp, lkIn, lookT, putT, ofValue, ofCell, binP, intBin, shiftBin, unP, St.apply, addFr, beq_lit, blt_lit, ble_lit, lenT, lenPV, und3, und25, und231, und232, indexAddrOp, size231, cells_int, cells_bool, cells_str, cells_slice, cells_nil, cells_agg, cells_own, loadOp, subLoad, agg231, makeSliceOp, convP, w0, w1, w2, w3, w4, wm, n0, n1, n2, n3, n4, repeatP, ok_int, ok_bool, ok_slice, ok_nil, ok_own, zero231, bytes231, Go.Pi.look, firstRegion, storeOp, subStore, upd, St.hp, St.fz, memB, envCall, envOf, orE, oneRow, reifyL, mapR, reify, reifyN, reifyW, reifyWL, PV.pureB, PV.pureL, U_pure, drawOps, drawOp, okOut, touch, Out.wrote, logOk, share, inOrder, PV.ids, PV.idsL, parseEnv, parseStart, f58, cx58, underlying9, zero27, size27, h1, h2, str_eq, h4, indexOp, hl, hc, h6] at hr
    subst hr
    exact ⟨_, _, rfl, by simp [lookT, beq_lit], by simp [lookT, beq_lit], by simp [lookT, beq_lit], by simp [lookT, beq_lit]⟩

set_option maxRecDepth 100000 in
theorem parse_bad (n : Nat) (a s : ByteArray) (neg : Bool) (c : UInt8) (l : List UInt8) (hn : Numeral a s neg) (hl : s.data.toList = c :: l) (hb : badForm c s.size neg = true) :
    evalSum prog (parseEnv G) G A0 (n + 1) 58 [.str a] = some (.tuple [.agg [.bool false, .nil], .int .i64 3]) := by
  have h1 : ¬ ((65536 : Int) < (a.size : Int)) := by have := hn.long; omega
  have h2 := hn.cut
  have h4 := noneFn_some hn.all hn.size.2
  simp only [badForm, Bool.and_eq_true, nat_beq_eq, Bool.or_eq_true, blt_iff] at hb
  have hc : ((c.toNat : Int) == 48) = true := by rw [beq_iff_eq]; omega
  by_cases h6 : (1 : Int) < (s.size : Int)
  · simp [evalSum, call_succ, loop_succ, callWith, loopWith, gc, restrict, resultsP, oneP, startT, evalCode, evalRegion, seqOps, wantedP, stepOp, callOf, evalOp, lkIn, lookT, putT, ofValue, ofCell, binP, intBin, shiftBin, unP, St.apply, addFr, beq_lit, blt_lit, ble_lit, lenT, lenPV, und3, und25, und231, und232, indexAddrOp, size231, cells_int, cells_bool, cells_str, cells_slice, cells_nil, cells_agg, cells_own, loadOp, subLoad, agg231, makeSliceOp, convP, w0, w1, w2, w3, w4, wm, n0, n1, n2, n3, n4, repeatP, ok_int, ok_bool, ok_slice, ok_nil, ok_own, zero231, bytes231, Go.Pi.look, firstRegion, storeOp, subStore, upd, St.hp, St.fz, memB, envCall, envOf, orE, oneRow, reifyL, mapR, reify, reifyN, reifyW, reifyWL, PV.pureB, PV.pureL, U_pure, drawOps, drawOp, okOut, touch, Out.wrote, logOk, share, inOrder, PV.ids, PV.idsL, parseEnv, f58, func58, ann58, underlying9, underlying27, zero27, size27, size4, size25, agg27, buildOp, sizesOk, placesOf, spliceP, PV.isTop, h1, h2, str_eq, h4, indexOp, hl, hc, h6]
  · obtain rfl : neg = true := by
      rcases hb.2 with h | h
      · omega
      · exact h
    simp [evalSum, call_succ, loop_succ, callWith, loopWith, gc, restrict, resultsP, oneP, startT, evalCode, evalRegion, seqOps, wantedP, stepOp, callOf, evalOp, lkIn, lookT, putT, ofValue, ofCell, binP, intBin, shiftBin, unP, St.apply, addFr, beq_lit, blt_lit, ble_lit, lenT, lenPV, und3, und25, und231, und232, indexAddrOp, size231, cells_int, cells_bool, cells_str, cells_slice, cells_nil, cells_agg, cells_own, loadOp, subLoad, agg231, makeSliceOp, convP, w0, w1, w2, w3, w4, wm, n0, n1, n2, n3, n4, repeatP, ok_int, ok_bool, ok_slice, ok_nil, ok_own, zero231, bytes231, Go.Pi.look, firstRegion, storeOp, subStore, upd, St.hp, St.fz, memB, envCall, envOf, orE, oneRow, reifyL, mapR, reify, reifyN, reifyW, reifyWL, PV.pureB, PV.pureL, U_pure, drawOps, drawOp, okOut, touch, Out.wrote, logOk, share, inOrder, PV.ids, PV.idsL, parseEnv, f58, func58, ann58, underlying9, underlying27, zero27, size27, size4, size25, agg27, buildOp, sizesOk, placesOf, spliceP, PV.isTop, h1, h2, str_eq, h4, indexOp, hl, hc, h6]

set_option maxRecDepth 100000 in
theorem parse_stop (e : Evs) (T : Tm) (k : Nat) (neg b' : Bool) (zs : List Int) (h6 : lookT T 6 = .slice (U zs)) (h5 : lookT T 5 = .bool neg) (h2 : lookT T 2 = .ptr 0 0 0) (hs : signedFn G [.bool neg, .slice (U zs)] = some (intP b' zs)) :
    ∃ T2 s2, evalCode prog (parseEnv G) G e.call e.loop cx58 parseEnd T ⟨k, [(0, ⟨2, [.agg [.bool false, .nil]]⟩)], []⟩ = some (.ret, T2, s2) ∧ resultsP prog s2 T2 f58.results.toList = some [intP b' zs, .int .i64 0] := by
  unfold intP at hs ⊢
  generalize hr : evalCode _ _ _ _ _ _ _ _ _ = r
  simp [evalSum, call_succ, loop_succ, callWith, loopWith, gc, restrict, resultsP, oneP, startT, evalCode, evalRegion, seqOps, wantedP, stepOp, callOf, evalOp, lkIn, lookT, putT, ofValue, ofCell, binP, intBin, shiftBin, unP, St.apply, addFr, beq_lit, blt_lit, ble_lit, lenT, lenPV, und3, und25, und231, und232, indexAddrOp, size231, cells_int, cells_bool, cells_str, cells_slice, cells_nil, cells_agg, cells_own, loadOp, subLoad, agg231, makeSliceOp, convP, w0, w1, w2, w3, w4, wm, n0, n1, n2, n3, n4, repeatP, ok_int, ok_bool, ok_slice, ok_nil, ok_own, zero231, bytes231, Go.Pi.look, firstRegion, storeOp, subStore, upd, St.hp, St.fz, memB, envCall, envOf, orE, oneRow, reifyL, mapR, reify, reifyN, reifyW, reifyWL, PV.pureB, PV.pureL, U_pure, drawOps, drawOp, okOut, touch, Out.wrote, logOk, share, inOrder, PV.ids, PV.idsL, parseEnv, parseEnd, f58, cx58, h6, h5, h2, hs, size27] at hr
  subst hr
  exact ⟨_, _, rfl, by simp [evalSum, call_succ, loop_succ, callWith, loopWith, gc, restrict, resultsP, oneP, startT, evalCode, evalRegion, seqOps, wantedP, stepOp, callOf, evalOp, lkIn, lookT, putT, ofValue, ofCell, binP, intBin, shiftBin, unP, St.apply, addFr, beq_lit, blt_lit, ble_lit, lenT, lenPV, und3, und25, und231, und232, indexAddrOp, size231, cells_int, cells_bool, cells_str, cells_slice, cells_nil, cells_agg, cells_own, loadOp, subLoad, agg231, makeSliceOp, convP, w0, w1, w2, w3, w4, wm, n0, n1, n2, n3, n4, repeatP, ok_int, ok_bool, ok_slice, ok_nil, ok_own, zero231, bytes231, Go.Pi.look, firstRegion, storeOp, subStore, upd, St.hp, St.fz, memB, envCall, envOf, orE, oneRow, reifyL, mapR, reify, reifyN, reifyW, reifyWL, PV.pureB, PV.pureL, U_pure, drawOps, drawOp, okOut, touch, Out.wrote, logOk, share, inOrder, PV.ids, PV.idsL, f58, h2, size27, agg27]⟩

theorem gives_parse (a s : ByteArray) (neg : Bool) (hn : Numeral a s neg) :
    Gives G 58 [.str a] (fun r => r = .tuple [.agg [.bool false, .nil], .int .i64 3] ∨ ∃ b ds, r = .tuple [intP b ds, .int .i64 0] ∧ Digits 3 ds ∧ ds.length ≤ (s.size + 8) / 9) := by
  obtain ⟨c, l, hl⟩ : ∃ c l, s.data.toList = c :: l := by
    cases h : s.data.toList with
    | nil => have := hn.size.1; rw [size_list, h] at this; simp at this
    | cons c l => exact ⟨c, l, rfl⟩
  cases hb : badForm c s.size neg with
  | true => exact ⟨_, .inl rfl, sum_row parse_env ⟨_, parse_bad 0 a s neg c l hn hl hb⟩ func58 (by kernel_rfl) (by decide)⟩
  | false =>
    have hg : (s.size + 8) / 9 ≤ 3 := by have := hn.size.2; omega
    let N := 0 + 12 + (s.size + 8) / 9
    obtain ⟨T1, k1, a1, a4, a6, a5, a2⟩ := parse_start (G := G) (evalN prog (parseEnv G) G A0 N) a s neg c l hn hl hb
    obtain ⟨T2, k2, v, b1, b6, b5, b2, b3, b4⟩ := parse_loop (G := G) [(0, ⟨2, [.agg [.bool false, .nil]]⟩)] (by simp) (.bool neg) (.ptr 0 0 0) ((s.size + 8) / 9) 0 s .nil hn.size.2 rfl hn.all (.inl rfl) (by omega) 0 k1 T1 a4 a6 a5 a2
    have hv := b4 (.inl (by have := hn.size.1; omega))
    rcases b3 with h | ⟨zs, rfl, z1, z2⟩
    · exact absurd h hv
    obtain ⟨b', hs⟩ := signedFn_some (G := G) neg zs z1
    obtain ⟨T3, s3, c1, c2⟩ := parse_stop (G := G) (evalN prog (parseEnv G) G A0 N) T2 k2 neg b' zs b6 b5 b2 hs
    refine ⟨_, .inr ⟨b', zs, rfl, z1, by omega⟩, sum_row parse_env ⟨N + 1, ?_⟩ func58 (by kernel_rfl) (by decide)⟩
    refine sum_of_run (ex := .ret) (c := .seq _ (.seq _ (.seq _ (.seq _ (.seq _ (.seq _ (.seq (.block 0 (.loop parseBody)) parseEnd))))))) (fl := []) ann58 func58 rfl (by kernel_rfl) ?_ (by simp) c2 rfl ?_
    · rw [← seq_assoc, ← seq_assoc, ← seq_assoc, ← seq_assoc, ← seq_assoc]
      exact seq_ok (a := parseStart) a1 (seq_ok (block_loop b1) c1)
    · simp [oneP, reify, PV.pureB, PV.pureL, intP]
end Go.Proofs.Tryz

/- The interpreter on symbols: rational.digits, what rational.read calls. -/
namespace Go.Proofs.Tryz
open Go Go.Pi
open Go.RowKit (Below)
variable [Hole] {G : Nat → Option PV} {env : Env}
set_option linter.unusedSectionVars false
set_option linter.unusedSimpArgs false

theorem ann55 : A0 55 = some ⟨[0], [], []⟩ := by kernel_rfl

def tenDigits : List UInt8 := [48, 49, 50, 51, 52, 53, 54, 55, 56, 57]

/-- Digits, one at least. -/
def isNum (l : List UInt8) : Bool := !l.isEmpty && (trimU l tenDigits).isEmpty

theorem dropU_all (cs : List UInt8) : ∀ l : List UInt8, dropU cs l = [] → l.all (memU cs) = true
  | [], _ => rfl
  | b :: l, h => by
    simp only [dropU, Bool.cond_eq_ite] at h
    split at h
    · rename_i hb
      simp [hb, dropU_all cs l h]
    · cases h

theorem dropU_sub (cs : List UInt8) : ∀ l : List UInt8, (dropU cs l).all (memU cs) = true → l.all (memU cs) = true
  | [], _ => rfl
  | b :: l, h => by
    simp only [dropU, Bool.cond_eq_ite] at h
    split at h
    · rename_i hb
      simp only [List.all_cons, hb, Bool.true_and]
      exact dropU_sub cs l h
    · exact h

theorem memU_ten (b : UInt8) (h : memU tenDigits b = true) : digitB b = true := by
  simp only [memU, tenDigits, Bool.or_eq_true, nat_beq_eq, Bool.false_eq_true, or_false] at h
  simp only [digitB, Bool.and_eq_true, ble_iff]
  have e : ∀ n : Nat, n < 256 → (OfNat.ofNat n : UInt8).toNat = n := fun n hn => by
    show (UInt8.ofNat n).toNat = n
    simp [UInt8.toNat_ofNat, Nat.mod_eq_of_lt hn]
  rcases h with h | h | h | h | h | h | h | h | h | h <;> (rw [← h]; decide)

theorem isNum_spec {l : List UInt8} (h : isNum l = true) : l ≠ [] ∧ l.all digitB = true := by
  simp only [isNum, Bool.and_eq_true, Bool.not_eq_true', List.isEmpty_eq_false_iff, List.isEmpty_iff] at h
  refine ⟨h.1, ?_⟩
  have h1 := dropU_all _ _ h.2
  rw [List.all_reverse] at h1
  have h2 := dropU_sub _ _ h1
  rw [List.all_reverse] at h2
  rw [List.all_eq_true] at h2 ⊢
  exact fun b hb => memU_ten b (h2 b hb)

def digitsFn : Fn1
  | [.str s] => bif smallS s then some (.bool (isNum s.data.toList)) else none
  | _ => none

theorem trimF_eq (s : ByteArray) (l : List UInt8) (c : ByteArray) (hs : smallS s = true) (hl : s.data.toList = l) (hc : smallS c = true) (ha : c.data.toList.all (fun c => Nat.blt c.toNat 128) = true) : trimF [.str s, .str c] = some (bstr (trimU l c.data.toList)) := by
  simp [trimF, hs, hl, hc, ha]

theorem trim_env57 : EnvOk prog G (envOf [(57, trimF)]) := envOf_ok fun p hp => by
  simp only [List.mem_singleton] at hp
  subst hp
  exact sum_trim

set_option maxRecDepth 100000 in
theorem sum55 : Sum prog G 55 digitsFn := by
  refine evalSum_sound (env := envOf [(57, trimF)]) (A := A0) trim_env57 annOk mixed (enters_pi func55 (by kernel_rfl) (by decide)) fun vs r h => ?_
  unfold digitsFn at h
  split at h
  case h_2 => cases h
  rename_i s
  simp only [bif_some, Option.some.injEq] at h
  obtain ⟨hs, rfl⟩ := h
  refine ⟨0 + 2, ?_⟩
  cases hl : s.data.toList with
  | nil => simp [evalSum, call_succ, loop_succ, callWith, loopWith, gc, restrict, resultsP, oneP, startT, evalCode, evalRegion, seqOps, wantedP, stepOp, callOf, evalOp, lkIn, lookT, putT, ofValue, ofCell, binP, intBin, shiftBin, unP, St.apply, addFr, beq_lit, blt_lit, ble_lit, lenT, lenPV, und3, und25, und231, und232, indexAddrOp, size231, cells_int, cells_bool, cells_str, cells_slice, cells_nil, cells_agg, cells_own, loadOp, subLoad, agg231, makeSliceOp, convP, w0, w1, w2, w3, w4, wm, n0, n1, n2, n3, n4, repeatP, ok_int, ok_bool, ok_slice, ok_nil, ok_own, zero231, bytes231, Go.Pi.look, firstRegion, storeOp, subStore, upd, St.hp, St.fz, memB, envCall, envOf, orE, oneRow, reifyL, mapR, reify, reifyN, reifyW, reifyWL, PV.pureB, PV.pureL, U_pure, drawOps, drawOp, okOut, touch, Out.wrote, logOk, share, inOrder, PV.ids, PV.idsL, ann55, func55, f55, str_ne, str_eq, hl, isNum]
  | cons c l =>
    have ht := trimF_eq s (c :: l) ⟨#[48, 49, 50, 51, 52, 53, 54, 55, 56, 57]⟩ hs hl (by decide) (by decide)
    simp [evalSum, call_succ, loop_succ, callWith, loopWith, gc, restrict, resultsP, oneP, startT, evalCode, evalRegion, seqOps, wantedP, stepOp, callOf, evalOp, lkIn, lookT, putT, ofValue, ofCell, binP, intBin, shiftBin, unP, St.apply, addFr, beq_lit, blt_lit, ble_lit, lenT, lenPV, und3, und25, und231, und232, indexAddrOp, size231, cells_int, cells_bool, cells_str, cells_slice, cells_nil, cells_agg, cells_own, loadOp, subLoad, agg231, makeSliceOp, convP, w0, w1, w2, w3, w4, wm, n0, n1, n2, n3, n4, repeatP, ok_int, ok_bool, ok_slice, ok_nil, ok_own, zero231, bytes231, Go.Pi.look, firstRegion, storeOp, subStore, upd, St.hp, St.fz, memB, envCall, envOf, orE, oneRow, reifyL, mapR, reify, reifyN, reifyW, reifyWL, PV.pureB, PV.pureL, U_pure, drawOps, drawOp, okOut, touch, Out.wrote, logOk, share, inOrder, PV.ids, PV.idsL, ann55, func55, f55, str_ne, str_eq, hl, ht, bstr, isNum]
    rfl

/-! ### What rational.read calls -/

def ParseD (vs : List PV) : Prop := ∃ a s neg, vs = [.str a] ∧ Numeral a s neg
def ParseQ (vs : List PV) (r : PV) : Prop := ∃ a s neg, vs = [.str a] ∧ Numeral a s neg ∧ (r = .tuple [.agg [.bool false, .nil], .int .i64 3] ∨ ∃ b ds, r = .tuple [intP b ds, .int .i64 0] ∧ Digits 3 ds ∧ ds.length ≤ (s.size + 8) / 9)

theorem parse_gives (vs : List PV) (h : ParseD vs) : Gives G 58 vs (ParseQ vs) := by
  obtain ⟨a, s, neg, rfl, h⟩ := h
  obtain ⟨r, hr, hs⟩ := gives_parse (G := G) a s neg h
  exact ⟨r, ⟨a, s, neg, rfl, h, hr⟩, hs⟩

noncomputable def parseFn (G : Nat → Option PV) : Fn1 := pick (parse_gives (G := G))

theorem parseFn_some {a s : ByteArray} {neg : Bool} (h : Numeral a s neg) :
    ∃ r, parseFn G [.str a] = some r ∧ (r = .tuple [.agg [.bool false, .nil], .int .i64 3] ∨ ∃ b ds, r = .tuple [intP b ds, .int .i64 0] ∧ Digits 3 ds ∧ ds.length ≤ (s.size + 8) / 9) := by
  obtain ⟨r, hr, a', s', neg', e, h', hq⟩ := pick_some (parse_gives (G := G)) (vs := [.str a]) ⟨a, s, neg, rfl, h⟩
  simp only [List.cons.injEq, PV.str.injEq, and_true] at e
  subst e
  have := h.cut.symm.trans h'.cut
  simp only [Option.some.injEq, PV.tuple.injEq, List.cons.injEq, PV.str.injEq, PV.bool.injEq, and_true] at this
  obtain ⟨rfl, rfl⟩ := this
  exact ⟨r, hr, hq⟩

def CmpD (vs : List PV) : Prop := ∃ b x, vs = [intP b x, intP false [1]] ∧ x.length ≤ 2
def CmpQ (r : PV) : Prop := ∃ c : Int, r = .int .i64 c
theorem cmp_gives (vs : List PV) (h : CmpD vs) : Gives G 59 vs CmpQ := by
  obtain ⟨b, x, rfl, h⟩ := h
  exact gives_compare b x h
noncomputable def cmpFn (G : Nat → Option PV) : Fn1 := pick (Q := fun _ => CmpQ) (cmp_gives (G := G))
theorem cmpFn_some (b : Bool) (x : List Int) (h : x.length ≤ 2) : ∃ c : Int, cmpFn G [intP b x, intP false [1]] = some (.int .i64 c) := by
  obtain ⟨r, hr, c, rfl⟩ := pick_some (Q := fun _ => CmpQ) (cmp_gives (G := G)) (vs := [intP b x, intP false [1]]) ⟨b, x, rfl, h⟩
  exact ⟨c, hr⟩

def GcdD (vs : List PV) : Prop := ∃ b c x y, vs = [intP b x, intP c y] ∧ Digits 2 x ∧ Digits 2 y ∧ x.length + y.length ≤ 3
def GcdQ (r : PV) : Prop := ∃ z, r = intP false z ∧ z.length ≤ 2
theorem gcd_gives (vs : List PV) (h : GcdD vs) : Gives G 61 vs GcdQ := by
  obtain ⟨b, c, x, y, rfl, h1, h2, h3⟩ := h
  exact gives_gcd b c x y h1 h2 h3
noncomputable def gcdFn (G : Nat → Option PV) : Fn1 := pick (Q := fun _ => GcdQ) (gcd_gives (G := G))
theorem gcdFn_some (b c : Bool) (x y : List Int) (h1 : Digits 2 x) (h2 : Digits 2 y) (h3 : x.length + y.length ≤ 3) : ∃ z, gcdFn G [intP b x, intP c y] = some (intP false z) ∧ z.length ≤ 2 := by
  obtain ⟨r, hr, z, rfl, hz⟩ := pick_some (Q := fun _ => GcdQ) (gcd_gives (G := G)) (vs := [intP b x, intP c y]) ⟨b, c, x, y, rfl, h1, h2, h3⟩
  exact ⟨z, hr, hz⟩

theorem eval60 : evalSum prog (fun _ => none) (fun _ => none) A0 20 60 [] = some (intP false [1]) := by kernel_rfl

def oneFn : Fn1
  | [] => some (intP false [1])
  | _ => none

theorem sum60 : Sum prog G 60 oneFn := by
  have h := sum_row (G := fun _ => none) no_env ⟨20, eval60⟩ func60 (by kernel_rfl) (by decide)
  refine ⟨h.1, fun vs r hr w I xs hI hG ha => ?_⟩
  unfold oneFn at hr
  split at hr
  · cases hr
    exact h.2 [] _ (by simp [oneRow]) w I xs hI (fun g e h => by cases h) ha
  · cases hr

noncomputable def readEnv (G : Nat → Option PV) : Env := envOf [(54, cutF), (56, trimPrefixF), (57, trimF), (55, digitsFn), (58, parseFn G), (60, oneFn), (59, cmpFn G), (61, gcdFn G)]

theorem read_env {m : Int} (hG : G 0 = some (.hole 1)) (hv : Hole.val 1 = .int .i64 m) : EnvOk prog G (readEnv G) := envOf_ok fun p hp => by
  simp only [List.mem_cons, List.mem_nil_iff, or_false] at hp
  rcases hp with rfl | rfl | rfl | rfl | rfl | rfl | rfl | rfl
  · exact sum_cut hG hv
  · exact sum_trimPrefix
  · exact sum_trim
  · exact sum55
  · exact pick_sum _ (enters_pi func58 (by kernel_rfl) (by decide))
  · exact sum60
  · exact pick_sum _ (enters_pi func59 (by kernel_rfl) (by decide))
  · exact pick_sum _ (enters_pi func61 (by kernel_rfl) (by decide))
end Go.Proofs.Tryz

/- The interpreter on symbols: rational.read. -/
namespace Go.Proofs.Tryz
open Go Go.Pi
open Go.RowKit (Below)
variable [Hole] {G : Nat → Option PV} {env : Env}
set_option linter.unusedSectionVars false
set_option linter.unusedSimpArgs false

theorem ann15 : ∃ d, A0 15 = some ⟨[0,1], [], d⟩ ∧ d = [(15,[0,1,3,7,7,31,63,127,255,511,511,2047,4095,8191,16383,32767])] := ⟨_, by kernel_rfl, rfl⟩
theorem zero29 : zeroT prog 29 = some (.agg [.bool false, .nil, .bool false, .nil]) := by kernel_rfl
theorem size29 : sizeT prog 29 = some 4 := by kernel_rfl
theorem agg29 : isAggT prog 29 = true := by kernel_rfl

def zeroRat : PV := .agg [.bool false, .nil, .bool false, .nil]

/-- What read finds before it reads numbers. -/
structure Parts (n X Y D Z : ByteArray) (f p1 p2 z : Bool) : Prop where
  long : n.size ≤ 65536
  cut : cutF [.str n, .str ⟨#[47]⟩] = some (.tuple [.str X, .str Y, .bool f])
  tp : trimPrefixF [.str X, .str ⟨#[45]⟩] = some (.str D)
  d1 : digitsFn [.str D] = some (.bool p1)
  d2 : digitsFn [.str Y] = some (.bool p2)
  t0 : trimF [.str Y, .str ⟨#[48]⟩] = some (.str Z)
  tz : (Z.data.toList == []) = z

variable {n X Y D Z : ByteArray} {f p1 p2 z : Bool}


noncomputable def rA : Code := match f15.body with
  | some (.seq a (.seq b (.seq c (.seq (.block _ (.seq d _)) _)))) => .seq a (.seq b (.seq c d))
  | _ => .skip

noncomputable def rB : Code := match f15.body with
  | some (.seq _ (.seq _ (.seq _ (.seq (.block _ (.seq _ (.cond _ _ (.seq b _)))) _)))) => b
  | _ => .skip
noncomputable def rBerr : Code := match f15.body with
  | some (.seq _ (.seq _ (.seq _ (.seq (.block _ (.seq _ (.cond _ _ (.seq _ (.cond _ b _))))) _)))) => b
  | _ => .skip
noncomputable def rC : Code := match f15.body with
  | some (.seq _ (.seq _ (.seq _ (.seq (.block _ (.seq _ (.cond _ _ (.seq _ (.cond _ _ (.seq b _)))))) _)))) => b
  | _ => .skip
noncomputable def rCerr : Code := match f15.body with
  | some (.seq _ (.seq _ (.seq _ (.seq (.block _ (.seq _ (.cond _ _ (.seq _ (.cond _ _ (.seq _ (.cond _ b _))))))) _)))) => b
  | _ => .skip
noncomputable def rTail : Code := match f15.body with
  | some (.seq _ (.seq _ (.seq _ (.seq _ b)))) => b
  | _ => .skip

abbrev H0 : List (Nat × Ent) := [(0, ⟨4, [.agg [.bool false, .nil, .bool false, .nil]]⟩)]

set_option maxRecDepth 100000 in
theorem read_A (e : Evs) (cx : Cx) (h : Parts n X Y D Z f p1 p2 z) : ∃ T k, evalCode prog (readEnv G) G e.call e.loop cx rA [(0, .str n), (1, .int .i64 65536)] ⟨0, [], []⟩ = some (.normal, T, ⟨k + 1, H0, []⟩) ∧
    lookT T 20 = .bool false ∧ lookT T 4 = .ptr 0 0 0 ∧ lookT T 7 = .str X ∧ lookT T 8 = .str Y ∧ lookT T 9 = .bool f := by
  have h1 : ¬ ((65536 : Int) < (n.size : Int)) := by have := h.long; omega
  have c := h.cut
  generalize hr : evalCode _ _ _ _ _ _ _ _ _ = r
  simp [evalSum, call_succ, loop_succ, callWith, loopWith, gc, restrict, resultsP, oneP, startT, evalCode, evalRegion, seqOps, wantedP, stepOp, callOf, evalOp, lkIn, lookT, putT, ofValue, ofCell, binP, intBin, shiftBin, unP, St.apply, addFr, beq_lit, blt_lit, ble_lit, lenT, lenPV, und3, und25, und231, und232, indexAddrOp, size231, cells_int, cells_bool, cells_str, cells_slice, cells_nil, cells_agg, cells_own, loadOp, subLoad, agg231, makeSliceOp, convP, w0, w1, w2, w3, w4, wm, n0, n1, n2, n3, n4, repeatP, ok_int, ok_bool, ok_slice, ok_nil, ok_own, zero231, bytes231, Go.Pi.look, firstRegion, storeOp, subStore, upd, St.hp, St.fz, memB, envCall, envOf, orE, oneRow, reifyL, mapR, reify, reifyN, reifyW, reifyWL, PV.pureB, PV.pureL, U_pure, drawOps, drawOp, okOut, touch, Out.wrote, logOk, share, inOrder, PV.ids, PV.idsL, rA, readEnv, func15, f15, underlying9, underlying22, zero29, size29, h1, c] at hr
  subst hr
  exact ⟨_, 17, rfl, by simp [lookT, beq_lit], by simp [lookT, beq_lit], by simp [lookT, beq_lit], by simp [lookT, beq_lit], by simp [lookT, beq_lit]⟩

set_option maxRecDepth 100000 in
theorem read_B (e : Evs) (cx : Cx) (h : Parts n X Y D Z f p1 p2 z) (T : Tm) (k : Nat) (h4 : lookT T 4 = .ptr 0 0 0) (h7 : lookT T 7 = .str X) (h8 : lookT T 8 = .str Y) (h9 : lookT T 9 = .bool f) :
    ∃ T1 k1, evalCode prog (readEnv G) G e.call e.loop cx rB T ⟨k + 1, H0, []⟩ = some (.normal, T1, ⟨k1 + 1, H0, []⟩) ∧
    lookT T1 26 = .bool (!p1 || (f && !p2)) ∧ lookT T1 4 = .ptr 0 0 0 ∧ lookT T1 7 = .str X ∧ lookT T1 8 = .str Y ∧ lookT T1 9 = .bool f := by
  have tp := h.tp; have d1 := h.d1; have d2 := h.d2
  generalize hr : evalCode _ _ _ _ _ _ _ _ _ = r
  cases p1
  · simp [evalSum, call_succ, loop_succ, callWith, loopWith, gc, restrict, resultsP, oneP, startT, evalCode, evalRegion, seqOps, wantedP, stepOp, callOf, evalOp, lkIn, lookT, putT, ofValue, ofCell, binP, intBin, shiftBin, unP, St.apply, addFr, beq_lit, blt_lit, ble_lit, lenT, lenPV, und3, und25, und231, und232, indexAddrOp, size231, cells_int, cells_bool, cells_str, cells_slice, cells_nil, cells_agg, cells_own, loadOp, subLoad, agg231, makeSliceOp, convP, w0, w1, w2, w3, w4, wm, n0, n1, n2, n3, n4, repeatP, ok_int, ok_bool, ok_slice, ok_nil, ok_own, zero231, bytes231, Go.Pi.look, firstRegion, storeOp, subStore, upd, St.hp, St.fz, memB, envCall, envOf, orE, oneRow, reifyL, mapR, reify, reifyN, reifyW, reifyWL, PV.pureB, PV.pureL, U_pure, drawOps, drawOp, okOut, touch, Out.wrote, logOk, share, inOrder, PV.ids, PV.idsL, rB, readEnv, f15, h7, h8, h9, tp, d1, d2] at hr
    subst hr
    exact ⟨_, _, rfl, by simp [lookT, beq_lit], by simp [lookT, beq_lit, h4], by simp [lookT, beq_lit, h7], by simp [lookT, beq_lit, h8], by simp [lookT, beq_lit, h9]⟩
  · cases f
    · simp [evalSum, call_succ, loop_succ, callWith, loopWith, gc, restrict, resultsP, oneP, startT, evalCode, evalRegion, seqOps, wantedP, stepOp, callOf, evalOp, lkIn, lookT, putT, ofValue, ofCell, binP, intBin, shiftBin, unP, St.apply, addFr, beq_lit, blt_lit, ble_lit, lenT, lenPV, und3, und25, und231, und232, indexAddrOp, size231, cells_int, cells_bool, cells_str, cells_slice, cells_nil, cells_agg, cells_own, loadOp, subLoad, agg231, makeSliceOp, convP, w0, w1, w2, w3, w4, wm, n0, n1, n2, n3, n4, repeatP, ok_int, ok_bool, ok_slice, ok_nil, ok_own, zero231, bytes231, Go.Pi.look, firstRegion, storeOp, subStore, upd, St.hp, St.fz, memB, envCall, envOf, orE, oneRow, reifyL, mapR, reify, reifyN, reifyW, reifyWL, PV.pureB, PV.pureL, U_pure, drawOps, drawOp, okOut, touch, Out.wrote, logOk, share, inOrder, PV.ids, PV.idsL, rB, readEnv, f15, h7, h8, h9, tp, d1, d2] at hr
      subst hr
      exact ⟨_, _, rfl, by simp [lookT, beq_lit], by simp [lookT, beq_lit, h4], by simp [lookT, beq_lit, h7], by simp [lookT, beq_lit, h8], by simp [lookT, beq_lit, h9]⟩
    · simp [evalSum, call_succ, loop_succ, callWith, loopWith, gc, restrict, resultsP, oneP, startT, evalCode, evalRegion, seqOps, wantedP, stepOp, callOf, evalOp, lkIn, lookT, putT, ofValue, ofCell, binP, intBin, shiftBin, unP, St.apply, addFr, beq_lit, blt_lit, ble_lit, lenT, lenPV, und3, und25, und231, und232, indexAddrOp, size231, cells_int, cells_bool, cells_str, cells_slice, cells_nil, cells_agg, cells_own, loadOp, subLoad, agg231, makeSliceOp, convP, w0, w1, w2, w3, w4, wm, n0, n1, n2, n3, n4, repeatP, ok_int, ok_bool, ok_slice, ok_nil, ok_own, zero231, bytes231, Go.Pi.look, firstRegion, storeOp, subStore, upd, St.hp, St.fz, memB, envCall, envOf, orE, oneRow, reifyL, mapR, reify, reifyN, reifyW, reifyWL, PV.pureB, PV.pureL, U_pure, drawOps, drawOp, okOut, touch, Out.wrote, logOk, share, inOrder, PV.ids, PV.idsL, rB, readEnv, f15, h7, h8, h9, tp, d1, d2] at hr
      subst hr
      exact ⟨_, _, rfl, by simp [lookT, beq_lit], by simp [lookT, beq_lit, h4], by simp [lookT, beq_lit, h7], by simp [lookT, beq_lit, h8], by simp [lookT, beq_lit, h9]⟩
end Go.Proofs.Tryz

/- The interpreter on symbols: rational.read, its further parts. -/
namespace Go.Proofs.Tryz
open Go Go.Pi
open Go.RowKit (Below)
variable [Hole] {G : Nat → Option PV} {env : Env}
set_option linter.unusedSectionVars false
set_option linter.unusedSimpArgs false
variable {n X Y D Z : ByteArray} {f p1 p2 z : Bool}

/-- The results of read. -/
def ResOk (s : St) (T : Tm) (r : PV) (e : Int) : Prop := resultsP prog s T f15.results.toList = some [r, .int .i64 e]

set_option maxRecDepth 100000 in
theorem read_Berr (e : Evs) (cx : Cx) (T : Tm) (k : Nat) (h4 : lookT T 4 = .ptr 0 0 0) :
    ∃ T1 s1, evalCode prog env G e.call e.loop cx rBerr T ⟨k + 1, H0, []⟩ = some (.ret, T1, s1) ∧ ResOk s1 T1 zeroRat 14 := by
  generalize hr : evalCode _ _ _ _ _ _ _ _ _ = r
  simp [evalSum, call_succ, loop_succ, callWith, loopWith, gc, restrict, resultsP, oneP, startT, evalCode, evalRegion, seqOps, wantedP, stepOp, callOf, evalOp, lkIn, lookT, putT, ofValue, ofCell, binP, intBin, shiftBin, unP, St.apply, addFr, beq_lit, blt_lit, ble_lit, lenT, lenPV, und3, und25, und231, und232, indexAddrOp, size231, cells_int, cells_bool, cells_str, cells_slice, cells_nil, cells_agg, cells_own, loadOp, subLoad, agg231, makeSliceOp, convP, w0, w1, w2, w3, w4, wm, n0, n1, n2, n3, n4, repeatP, ok_int, ok_bool, ok_slice, ok_nil, ok_own, zero231, bytes231, Go.Pi.look, firstRegion, storeOp, subStore, upd, St.hp, St.fz, memB, envCall, envOf, orE, oneRow, reifyL, mapR, reify, reifyN, reifyW, reifyWL, PV.pureB, PV.pureL, U_pure, drawOps, drawOp, okOut, touch, Out.wrote, logOk, share, inOrder, PV.ids, PV.idsL, rBerr, f15, underlying29, zero29, size29, size27, agg29, buildOp, sizesOk, placesOf, structPlace, spliceP, PV.isTop, h4] at hr
  subst hr
  exact ⟨_, _, rfl, by simp [evalSum, call_succ, loop_succ, callWith, loopWith, gc, restrict, resultsP, oneP, startT, evalCode, evalRegion, seqOps, wantedP, stepOp, callOf, evalOp, lkIn, lookT, putT, ofValue, ofCell, binP, intBin, shiftBin, unP, St.apply, addFr, beq_lit, blt_lit, ble_lit, lenT, lenPV, und3, und25, und231, und232, indexAddrOp, size231, cells_int, cells_bool, cells_str, cells_slice, cells_nil, cells_agg, cells_own, loadOp, subLoad, agg231, makeSliceOp, convP, w0, w1, w2, w3, w4, wm, n0, n1, n2, n3, n4, repeatP, ok_int, ok_bool, ok_slice, ok_nil, ok_own, zero231, bytes231, Go.Pi.look, firstRegion, storeOp, subStore, upd, St.hp, St.fz, memB, envCall, envOf, orE, oneRow, reifyL, mapR, reify, reifyN, reifyW, reifyWL, PV.pureB, PV.pureL, U_pure, drawOps, drawOp, okOut, touch, Out.wrote, logOk, share, inOrder, PV.ids, PV.idsL, ResOk, f15, h4, size29, agg29, zeroRat]⟩

set_option maxRecDepth 100000 in
theorem read_Cerr (e : Evs) (cx : Cx) (T : Tm) (k : Nat) (h4 : lookT T 4 = .ptr 0 0 0) :
    ∃ T1 s1, evalCode prog env G e.call e.loop cx rCerr T ⟨k + 1, H0, []⟩ = some (.ret, T1, s1) ∧ ResOk s1 T1 zeroRat 19 := by
  generalize hr : evalCode _ _ _ _ _ _ _ _ _ = r
  simp [evalSum, call_succ, loop_succ, callWith, loopWith, gc, restrict, resultsP, oneP, startT, evalCode, evalRegion, seqOps, wantedP, stepOp, callOf, evalOp, lkIn, lookT, putT, ofValue, ofCell, binP, intBin, shiftBin, unP, St.apply, addFr, beq_lit, blt_lit, ble_lit, lenT, lenPV, und3, und25, und231, und232, indexAddrOp, size231, cells_int, cells_bool, cells_str, cells_slice, cells_nil, cells_agg, cells_own, loadOp, subLoad, agg231, makeSliceOp, convP, w0, w1, w2, w3, w4, wm, n0, n1, n2, n3, n4, repeatP, ok_int, ok_bool, ok_slice, ok_nil, ok_own, zero231, bytes231, Go.Pi.look, firstRegion, storeOp, subStore, upd, St.hp, St.fz, memB, envCall, envOf, orE, oneRow, reifyL, mapR, reify, reifyN, reifyW, reifyWL, PV.pureB, PV.pureL, U_pure, drawOps, drawOp, okOut, touch, Out.wrote, logOk, share, inOrder, PV.ids, PV.idsL, rCerr, f15, underlying29, zero29, size29, size27, agg29, buildOp, sizesOk, placesOf, structPlace, spliceP, PV.isTop, h4] at hr
  subst hr
  exact ⟨_, _, rfl, by simp [evalSum, call_succ, loop_succ, callWith, loopWith, gc, restrict, resultsP, oneP, startT, evalCode, evalRegion, seqOps, wantedP, stepOp, callOf, evalOp, lkIn, lookT, putT, ofValue, ofCell, binP, intBin, shiftBin, unP, St.apply, addFr, beq_lit, blt_lit, ble_lit, lenT, lenPV, und3, und25, und231, und232, indexAddrOp, size231, cells_int, cells_bool, cells_str, cells_slice, cells_nil, cells_agg, cells_own, loadOp, subLoad, agg231, makeSliceOp, convP, w0, w1, w2, w3, w4, wm, n0, n1, n2, n3, n4, repeatP, ok_int, ok_bool, ok_slice, ok_nil, ok_own, zero231, bytes231, Go.Pi.look, firstRegion, storeOp, subStore, upd, St.hp, St.fz, memB, envCall, envOf, orE, oneRow, reifyL, mapR, reify, reifyN, reifyW, reifyWL, PV.pureB, PV.pureL, U_pure, drawOps, drawOp, okOut, touch, Out.wrote, logOk, share, inOrder, PV.ids, PV.idsL, ResOk, f15, h4, size29, agg29, zeroRat]⟩

set_option maxRecDepth 100000 in
theorem read_C (e : Evs) (cx : Cx) (h : Parts n X Y D Z f p1 p2 z) (T : Tm) (k : Nat) (h4 : lookT T 4 = .ptr 0 0 0) (h7 : lookT T 7 = .str X) (h8 : lookT T 8 = .str Y) (h9 : lookT T 9 = .bool f) :
    ∃ T1 k1, evalCode prog (readEnv G) G e.call e.loop cx rC T ⟨k + 1, H0, []⟩ = some (.normal, T1, ⟨k1 + 1, H0, []⟩) ∧
    lookT T1 40 = .bool (f && z) ∧ lookT T1 4 = .ptr 0 0 0 ∧ lookT T1 7 = .str X ∧ lookT T1 8 = .str Y ∧ lookT T1 9 = .bool f := by
  have t0 := h.t0; have tz := h.tz
  generalize hr : evalCode _ _ _ _ _ _ _ _ _ = r
  cases f
  · simp [evalSum, call_succ, loop_succ, callWith, loopWith, gc, restrict, resultsP, oneP, startT, evalCode, evalRegion, seqOps, wantedP, stepOp, callOf, evalOp, lkIn, lookT, putT, ofValue, ofCell, binP, intBin, shiftBin, unP, St.apply, addFr, beq_lit, blt_lit, ble_lit, lenT, lenPV, und3, und25, und231, und232, indexAddrOp, size231, cells_int, cells_bool, cells_str, cells_slice, cells_nil, cells_agg, cells_own, loadOp, subLoad, agg231, makeSliceOp, convP, w0, w1, w2, w3, w4, wm, n0, n1, n2, n3, n4, repeatP, ok_int, ok_bool, ok_slice, ok_nil, ok_own, zero231, bytes231, Go.Pi.look, firstRegion, storeOp, subStore, upd, St.hp, St.fz, memB, envCall, envOf, orE, oneRow, reifyL, mapR, reify, reifyN, reifyW, reifyWL, PV.pureB, PV.pureL, U_pure, drawOps, drawOp, okOut, touch, Out.wrote, logOk, share, inOrder, PV.ids, PV.idsL, rC, readEnv, f15, h8, h9, t0, tz, str_eq] at hr
    subst hr
    exact ⟨_, _, rfl, by simp [lookT, beq_lit], by simp [lookT, beq_lit, h4], by simp [lookT, beq_lit, h7], by simp [lookT, beq_lit, h8], by simp [lookT, beq_lit, h9]⟩
  · simp [evalSum, call_succ, loop_succ, callWith, loopWith, gc, restrict, resultsP, oneP, startT, evalCode, evalRegion, seqOps, wantedP, stepOp, callOf, evalOp, lkIn, lookT, putT, ofValue, ofCell, binP, intBin, shiftBin, unP, St.apply, addFr, beq_lit, blt_lit, ble_lit, lenT, lenPV, und3, und25, und231, und232, indexAddrOp, size231, cells_int, cells_bool, cells_str, cells_slice, cells_nil, cells_agg, cells_own, loadOp, subLoad, agg231, makeSliceOp, convP, w0, w1, w2, w3, w4, wm, n0, n1, n2, n3, n4, repeatP, ok_int, ok_bool, ok_slice, ok_nil, ok_own, zero231, bytes231, Go.Pi.look, firstRegion, storeOp, subStore, upd, St.hp, St.fz, memB, envCall, envOf, orE, oneRow, reifyL, mapR, reify, reifyN, reifyW, reifyWL, PV.pureB, PV.pureL, U_pure, drawOps, drawOp, okOut, touch, Out.wrote, logOk, share, inOrder, PV.ids, PV.idsL, rC, readEnv, f15, h8, h9, t0, tz, str_eq] at hr
    subst hr
    exact ⟨_, _, rfl, by simp [lookT, beq_lit], by simp [lookT, beq_lit, h4], by simp [lookT, beq_lit, h7], by simp [lookT, beq_lit, h8], by simp [lookT, beq_lit, h9]⟩

noncomputable def rD : Code := match rTail with
  | .seq a (.seq (.seq b _) _) => .seq a b
  | _ => .skip
noncomputable def rDerr : Code := match rTail with
  | .seq _ (.seq (.seq _ (.cond _ b _)) _) => b
  | _ => .skip
noncomputable def rE : Code := match rTail with
  | .seq _ (.seq _ (.seq (.seq b _) _)) => b
  | _ => .skip
noncomputable def rEok : Code := match rTail with
  | .seq _ (.seq _ (.seq (.seq _ (.cond _ b _)) _)) => b
  | _ => .skip
noncomputable def rF : Code := match rTail with
  | .seq _ (.seq _ (.seq _ (.seq b _))) => b
  | _ => .skip
noncomputable def rG : Code := match rTail with
  | .seq _ (.seq _ (.seq _ (.seq _ (.seq (.seq b _) _)))) => b
  | _ => .skip
noncomputable def rGerr : Code := match rTail with
  | .seq _ (.seq _ (.seq _ (.seq _ (.seq (.seq _ (.cond _ b _)) _)))) => b
  | _ => .skip
noncomputable def rOk : Code := match rTail with
  | .seq _ (.seq _ (.seq _ (.seq _ (.seq _ b)))) => b
  | _ => .skip

abbrev H1 (j : Nat) (b : Bool) (w : PV) : List (Nat × Ent) := [(j + 1, ⟨2, [.agg [.bool b, w]]⟩), (0, ⟨4, [.agg [.bool false, .nil, .bool false, .nil]]⟩)]
abbrev H2 (i j : Nat) (b : Bool) (w : PV) (c : Bool) (v : PV) : List (Nat × Ent) := [(i + 1, ⟨2, [.agg [.bool c, v]]⟩), (j + 1, ⟨2, [.agg [.bool b, w]]⟩), (0, ⟨4, [.agg [.bool false, .nil, .bool false, .nil]]⟩)]

set_option maxRecDepth 100000 in
theorem read_D (e : Evs) (cx : Cx) (T : Tm) (k : Nat) (b : Bool) (w : PV) (ev : Int) (hw : w.cellOk = true) (h4 : lookT T 4 = .ptr 0 0 0) (h7 : lookT T 7 = .str X) (h8 : lookT T 8 = .str Y) (h9 : lookT T 9 = .bool f)
    (hp : parseFn G [.str X] = some (.tuple [.agg [.bool b, w], .int .i64 ev])) :
    ∃ T1 j k1, evalCode prog (readEnv G) G e.call e.loop cx rD T ⟨k + 1, H0, []⟩ = some (.normal, T1, ⟨k1 + 1, H1 j b w, []⟩) ∧ j < k1 ∧
    lookT T1 54 = .bool (ev != 0) ∧ lookT T1 10 = .ptr (j + 1) 0 0 ∧ lookT T1 4 = .ptr 0 0 0 ∧ lookT T1 8 = .str Y ∧ lookT T1 9 = .bool f := by
  generalize hr : evalCode _ _ _ _ _ _ _ _ _ = r
  simp [evalSum, call_succ, loop_succ, callWith, loopWith, gc, restrict, resultsP, oneP, startT, evalCode, evalRegion, seqOps, wantedP, stepOp, callOf, evalOp, lkIn, lookT, putT, ofValue, ofCell, binP, intBin, shiftBin, unP, St.apply, addFr, beq_lit, blt_lit, ble_lit, lenT, lenPV, und3, und25, und231, und232, indexAddrOp, size231, cells_int, cells_bool, cells_str, cells_slice, cells_nil, cells_agg, cells_own, loadOp, subLoad, agg231, makeSliceOp, convP, w0, w1, w2, w3, w4, wm, n0, n1, n2, n3, n4, repeatP, ok_int, ok_bool, ok_slice, ok_nil, ok_own, zero231, bytes231, Go.Pi.look, firstRegion, storeOp, subStore, upd, St.hp, St.fz, memB, envCall, envOf, orE, oneRow, reifyL, mapR, reify, reifyN, reifyW, reifyWL, PV.pureB, PV.pureL, U_pure, drawOps, drawOp, okOut, touch, Out.wrote, logOk, share, inOrder, PV.ids, PV.idsL, rD, rTail, readEnv, f15, h7, hp, zero27, size27, hw, underlying30] at hr
  subst hr
  exact ⟨_, k + 1 + 1 + 1 + 1 + 1, _, rfl, by omega, by simp [lookT, beq_lit], by simp [lookT, beq_lit], by simp [lookT, beq_lit, h4], by simp [lookT, beq_lit, h8], by simp [lookT, beq_lit, h9]⟩
end Go.Proofs.Tryz

/- The interpreter on symbols: rational.read, its last parts. -/
namespace Go.Proofs.Tryz
open Go Go.Pi
open Go.RowKit (Below)
variable [Hole] {G : Nat → Option PV} {env : Env}
set_option linter.unusedSectionVars false
set_option linter.unusedSimpArgs false
set_option linter.unusedVariables false
variable {n X Y D Z : ByteArray} {f p1 p2 z : Bool}

set_option maxRecDepth 100000 in
theorem read_Derr (e : Evs) (cx : Cx) (T : Tm) (k j : Nat) (b : Bool) (w : PV) (h4 : lookT T 4 = .ptr 0 0 0) :
    ∃ T1 s1, evalCode prog env G e.call e.loop cx rDerr T ⟨k + 1, H1 j b w, []⟩ = some (.ret, T1, s1) ∧ ResOk s1 T1 zeroRat 3 := by
  generalize hr : evalCode _ _ _ _ _ _ _ _ _ = r
  simp [evalSum, call_succ, loop_succ, callWith, loopWith, gc, restrict, resultsP, oneP, startT, evalCode, evalRegion, seqOps, wantedP, stepOp, callOf, evalOp, lkIn, lookT, putT, ofValue, ofCell, binP, intBin, shiftBin, unP, St.apply, addFr, beq_lit, blt_lit, ble_lit, lenT, lenPV, und3, und25, und231, und232, indexAddrOp, size231, cells_int, cells_bool, cells_str, cells_slice, cells_nil, cells_agg, cells_own, loadOp, subLoad, agg231, makeSliceOp, convP, w0, w1, w2, w3, w4, wm, n0, n1, n2, n3, n4, repeatP, ok_int, ok_bool, ok_slice, ok_nil, ok_own, zero231, bytes231, Go.Pi.look, firstRegion, storeOp, subStore, upd, St.hp, St.fz, memB, envCall, envOf, orE, oneRow, reifyL, mapR, reify, reifyN, reifyW, reifyWL, PV.pureB, PV.pureL, U_pure, drawOps, drawOp, okOut, touch, Out.wrote, logOk, share, inOrder, PV.ids, PV.idsL, rDerr, rTail, f15, underlying29, zero29, size29, size27, agg29, buildOp, sizesOk, placesOf, structPlace, spliceP, PV.isTop, h4] at hr
  subst hr
  exact ⟨_, _, rfl, by simp [evalSum, call_succ, loop_succ, callWith, loopWith, gc, restrict, resultsP, oneP, startT, evalCode, evalRegion, seqOps, wantedP, stepOp, callOf, evalOp, lkIn, lookT, putT, ofValue, ofCell, binP, intBin, shiftBin, unP, St.apply, addFr, beq_lit, blt_lit, ble_lit, lenT, lenPV, und3, und25, und231, und232, indexAddrOp, size231, cells_int, cells_bool, cells_str, cells_slice, cells_nil, cells_agg, cells_own, loadOp, subLoad, agg231, makeSliceOp, convP, w0, w1, w2, w3, w4, wm, n0, n1, n2, n3, n4, repeatP, ok_int, ok_bool, ok_slice, ok_nil, ok_own, zero231, bytes231, Go.Pi.look, firstRegion, storeOp, subStore, upd, St.hp, St.fz, memB, envCall, envOf, orE, oneRow, reifyL, mapR, reify, reifyN, reifyW, reifyWL, PV.pureB, PV.pureL, U_pure, drawOps, drawOp, okOut, touch, Out.wrote, logOk, share, inOrder, PV.ids, PV.idsL, ResOk, f15, h4, size29, agg29, zeroRat]⟩

set_option maxRecDepth 100000 in
theorem read_E (e : Evs) (cx : Cx) (T : Tm) (k j : Nat) (b : Bool) (w : PV) (h10 : lookT T 10 = .ptr (j + 1) 0 0) (h4 : lookT T 4 = .ptr 0 0 0) (h8 : lookT T 8 = .str Y) (h9 : lookT T 9 = .bool f) :
    ∃ T1 k1, evalCode prog env G e.call e.loop cx rE T ⟨k + 1, H1 j b w, []⟩ = some (.normal, T1, ⟨k1 + 1, H1 j b w, []⟩) ∧ k ≤ k1 ∧ lookT T1 57 = .bool (!f) ∧ lookT T1 10 = .ptr (j + 1) 0 0 ∧ lookT T1 4 = .ptr 0 0 0 ∧ lookT T1 8 = .str Y := by
  generalize hr : evalCode _ _ _ _ _ _ _ _ _ = r
  simp [evalSum, call_succ, loop_succ, callWith, loopWith, gc, restrict, resultsP, oneP, startT, evalCode, evalRegion, seqOps, wantedP, stepOp, callOf, evalOp, lkIn, lookT, putT, ofValue, ofCell, binP, intBin, shiftBin, unP, St.apply, addFr, beq_lit, blt_lit, ble_lit, lenT, lenPV, und3, und25, und231, und232, indexAddrOp, size231, cells_int, cells_bool, cells_str, cells_slice, cells_nil, cells_agg, cells_own, loadOp, subLoad, agg231, makeSliceOp, convP, w0, w1, w2, w3, w4, wm, n0, n1, n2, n3, n4, repeatP, ok_int, ok_bool, ok_slice, ok_nil, ok_own, zero231, bytes231, Go.Pi.look, firstRegion, storeOp, subStore, upd, St.hp, St.fz, memB, envCall, envOf, orE, oneRow, reifyL, mapR, reify, reifyN, reifyW, reifyWL, PV.pureB, PV.pureL, U_pure, drawOps, drawOp, okOut, touch, Out.wrote, logOk, share, inOrder, PV.ids, PV.idsL, rE, rTail, f15, h9] at hr
  subst hr
  exact ⟨_, _, rfl, by omega, by simp [lookT, beq_lit], by simp [lookT, beq_lit, h10], by simp [lookT, beq_lit, h4], by simp [lookT, beq_lit, h8]⟩

set_option maxRecDepth 100000 in
theorem read_Eok (e : Evs) (cx : Cx) (T : Tm) (k j : Nat) (b : Bool) (w : PV) (hw : w.cellOk = true) (hwt : w.isTop = false) (h10 : lookT T 10 = .ptr (j + 1) 0 0) (h4 : lookT T 4 = .ptr 0 0 0) :
    ∃ T1 s1, evalCode prog env G e.call e.loop cx rEok T ⟨k + 1, H1 j b w, []⟩ = some (.ret, T1, s1) ∧ ResOk s1 T1 (.agg [.bool b, w, .bool false, .nil]) 0 := by
  generalize hr : evalCode _ _ _ _ _ _ _ _ _ = r
  simp [evalSum, call_succ, loop_succ, callWith, loopWith, gc, restrict, resultsP, oneP, startT, evalCode, evalRegion, seqOps, wantedP, stepOp, callOf, evalOp, lkIn, lookT, putT, ofValue, ofCell, binP, intBin, shiftBin, unP, St.apply, addFr, beq_lit, blt_lit, ble_lit, lenT, lenPV, und3, und25, und231, und232, indexAddrOp, size231, cells_int, cells_bool, cells_str, cells_slice, cells_nil, cells_agg, cells_own, loadOp, subLoad, agg231, makeSliceOp, convP, w0, w1, w2, w3, w4, wm, n0, n1, n2, n3, n4, repeatP, ok_int, ok_bool, ok_slice, ok_nil, ok_own, zero231, bytes231, Go.Pi.look, firstRegion, storeOp, subStore, upd, St.hp, St.fz, memB, envCall, envOf, orE, oneRow, reifyL, mapR, reify, reifyN, reifyW, reifyWL, PV.pureB, PV.pureL, U_pure, drawOps, drawOp, okOut, touch, Out.wrote, logOk, share, inOrder, PV.ids, PV.idsL, rEok, rTail, f15, underlying29, zero29, size29, size27, agg29, agg27, buildOp, sizesOk, placesOf, structPlace, spliceP, PV.isTop, h4, h10, hw, hwt] at hr
  subst hr
  exact ⟨_, _, rfl, by simp [evalSum, call_succ, loop_succ, callWith, loopWith, gc, restrict, resultsP, oneP, startT, evalCode, evalRegion, seqOps, wantedP, stepOp, callOf, evalOp, lkIn, lookT, putT, ofValue, ofCell, binP, intBin, shiftBin, unP, St.apply, addFr, beq_lit, blt_lit, ble_lit, lenT, lenPV, und3, und25, und231, und232, indexAddrOp, size231, cells_int, cells_bool, cells_str, cells_slice, cells_nil, cells_agg, cells_own, loadOp, subLoad, agg231, makeSliceOp, convP, w0, w1, w2, w3, w4, wm, n0, n1, n2, n3, n4, repeatP, ok_int, ok_bool, ok_slice, ok_nil, ok_own, zero231, bytes231, Go.Pi.look, firstRegion, storeOp, subStore, upd, St.hp, St.fz, memB, envCall, envOf, orE, oneRow, reifyL, mapR, reify, reifyN, reifyW, reifyWL, PV.pureB, PV.pureL, U_pure, drawOps, drawOp, okOut, touch, Out.wrote, logOk, share, inOrder, PV.ids, PV.idsL, ResOk, f15, h4, size29, agg29]⟩

set_option maxRecDepth 100000 in
theorem read_F (e : Evs) (cx : Cx) (T : Tm) (k j : Nat) (b c : Bool) (w v : PV) (ev : Int) (hv : v.cellOk = true) (hjk : j < k) (h10 : lookT T 10 = .ptr (j + 1) 0 0) (h4 : lookT T 4 = .ptr 0 0 0) (h8 : lookT T 8 = .str Y)
    (hp : parseFn G [.str Y] = some (.tuple [.agg [.bool c, v], .int .i64 ev])) :
    ∃ T1 i k1, evalCode prog (readEnv G) G e.call e.loop cx rF T ⟨k + 1, H1 j b w, []⟩ = some (.normal, T1, ⟨k1 + 1, H2 i j b w c v, []⟩) ∧ j < i ∧ lookT T1 11 = .int .i64 ev ∧ lookT T1 12 = .ptr (i + 1) 0 0 ∧ lookT T1 10 = .ptr (j + 1) 0 0 ∧ lookT T1 4 = .ptr 0 0 0 := by
  generalize hr : evalCode _ _ _ _ _ _ _ _ _ = r
  simp [evalSum, call_succ, loop_succ, callWith, loopWith, gc, restrict, resultsP, oneP, startT, evalCode, evalRegion, seqOps, wantedP, stepOp, callOf, evalOp, lkIn, lookT, putT, ofValue, ofCell, binP, intBin, shiftBin, unP, St.apply, addFr, beq_lit, blt_lit, ble_lit, lenT, lenPV, und3, und25, und231, und232, indexAddrOp, size231, cells_int, cells_bool, cells_str, cells_slice, cells_nil, cells_agg, cells_own, loadOp, subLoad, agg231, makeSliceOp, convP, w0, w1, w2, w3, w4, wm, n0, n1, n2, n3, n4, repeatP, ok_int, ok_bool, ok_slice, ok_nil, ok_own, zero231, bytes231, Go.Pi.look, firstRegion, storeOp, subStore, upd, St.hp, St.fz, memB, envCall, envOf, orE, oneRow, reifyL, mapR, reify, reifyN, reifyW, reifyWL, PV.pureB, PV.pureL, U_pure, drawOps, drawOp, okOut, touch, Out.wrote, logOk, share, inOrder, PV.ids, PV.idsL, rF, rTail, readEnv, f15, h8, hp, zero27, size27, hv, underlying30] at hr
  subst hr
  exact ⟨_, k + 1 + 1 + 1 + 1 + 1, _, rfl, by omega, by simp [lookT, beq_lit], by simp [lookT, beq_lit], by simp [lookT, beq_lit, h10], by simp [lookT, beq_lit, h4]⟩

set_option maxRecDepth 100000 in
theorem read_Gerr (e : Evs) (cx : Cx) (T : Tm) (k i j : Nat) (b c : Bool) (w v : PV) (h4 : lookT T 4 = .ptr 0 0 0) :
    ∃ T1 s1, evalCode prog env G e.call e.loop cx rGerr T ⟨k + 1, H2 i j b w c v, []⟩ = some (.ret, T1, s1) ∧ ResOk s1 T1 zeroRat 3 := by
  generalize hr : evalCode _ _ _ _ _ _ _ _ _ = r
  simp [evalSum, call_succ, loop_succ, callWith, loopWith, gc, restrict, resultsP, oneP, startT, evalCode, evalRegion, seqOps, wantedP, stepOp, callOf, evalOp, lkIn, lookT, putT, ofValue, ofCell, binP, intBin, shiftBin, unP, St.apply, addFr, beq_lit, blt_lit, ble_lit, lenT, lenPV, und3, und25, und231, und232, indexAddrOp, size231, cells_int, cells_bool, cells_str, cells_slice, cells_nil, cells_agg, cells_own, loadOp, subLoad, agg231, makeSliceOp, convP, w0, w1, w2, w3, w4, wm, n0, n1, n2, n3, n4, repeatP, ok_int, ok_bool, ok_slice, ok_nil, ok_own, zero231, bytes231, Go.Pi.look, firstRegion, storeOp, subStore, upd, St.hp, St.fz, memB, envCall, envOf, orE, oneRow, reifyL, mapR, reify, reifyN, reifyW, reifyWL, PV.pureB, PV.pureL, U_pure, drawOps, drawOp, okOut, touch, Out.wrote, logOk, share, inOrder, PV.ids, PV.idsL, rGerr, rTail, f15, underlying29, zero29, size29, size27, agg29, buildOp, sizesOk, placesOf, structPlace, spliceP, PV.isTop, h4] at hr
  subst hr
  exact ⟨_, _, rfl, by simp [evalSum, call_succ, loop_succ, callWith, loopWith, gc, restrict, resultsP, oneP, startT, evalCode, evalRegion, seqOps, wantedP, stepOp, callOf, evalOp, lkIn, lookT, putT, ofValue, ofCell, binP, intBin, shiftBin, unP, St.apply, addFr, beq_lit, blt_lit, ble_lit, lenT, lenPV, und3, und25, und231, und232, indexAddrOp, size231, cells_int, cells_bool, cells_str, cells_slice, cells_nil, cells_agg, cells_own, loadOp, subLoad, agg231, makeSliceOp, convP, w0, w1, w2, w3, w4, wm, n0, n1, n2, n3, n4, repeatP, ok_int, ok_bool, ok_slice, ok_nil, ok_own, zero231, bytes231, Go.Pi.look, firstRegion, storeOp, subStore, upd, St.hp, St.fz, memB, envCall, envOf, orE, oneRow, reifyL, mapR, reify, reifyN, reifyW, reifyWL, PV.pureB, PV.pureL, U_pure, drawOps, drawOp, okOut, touch, Out.wrote, logOk, share, inOrder, PV.ids, PV.idsL, ResOk, f15, h4, size29, agg29, zeroRat]⟩

set_option maxRecDepth 100000 in
theorem read_Ok (e : Evs) (cx : Cx) (T : Tm) (k i j : Nat) (b c : Bool) (w v : PV) (hw : w.cellOk = true) (hwt : w.isTop = false) (hv : v.cellOk = true) (hvt : v.isTop = false) (hij : j < i) (h10 : lookT T 10 = .ptr (j + 1) 0 0) (h12 : lookT T 12 = .ptr (i + 1) 0 0) (h4 : lookT T 4 = .ptr 0 0 0) :
    ∃ T1 s1, evalCode prog env G e.call e.loop cx rOk T ⟨k + 1, H2 i j b w c v, []⟩ = some (.ret, T1, s1) ∧ ResOk s1 T1 (.agg [.bool b, w, .bool c, v]) 0 := by
  have hij' : ¬ i = j := by omega
  generalize hr : evalCode _ _ _ _ _ _ _ _ _ = r
  simp [evalSum, call_succ, loop_succ, callWith, loopWith, gc, restrict, resultsP, oneP, startT, evalCode, evalRegion, seqOps, wantedP, stepOp, callOf, evalOp, lkIn, lookT, putT, ofValue, ofCell, binP, intBin, shiftBin, unP, St.apply, addFr, beq_lit, blt_lit, ble_lit, lenT, lenPV, und3, und25, und231, und232, indexAddrOp, size231, cells_int, cells_bool, cells_str, cells_slice, cells_nil, cells_agg, cells_own, loadOp, subLoad, agg231, makeSliceOp, convP, w0, w1, w2, w3, w4, wm, n0, n1, n2, n3, n4, repeatP, ok_int, ok_bool, ok_slice, ok_nil, ok_own, zero231, bytes231, Go.Pi.look, firstRegion, storeOp, subStore, upd, St.hp, St.fz, memB, envCall, envOf, orE, oneRow, reifyL, mapR, reify, reifyN, reifyW, reifyWL, PV.pureB, PV.pureL, U_pure, drawOps, drawOp, okOut, touch, Out.wrote, logOk, share, inOrder, PV.ids, PV.idsL, rOk, rTail, f15, underlying29, zero29, size29, size27, agg29, agg27, buildOp, sizesOk, placesOf, structPlace, spliceP, PV.isTop, h4, h10, h12, hw, hwt, hv, hvt, hij'] at hr
  subst hr
  exact ⟨_, _, rfl, by simp [evalSum, call_succ, loop_succ, callWith, loopWith, gc, restrict, resultsP, oneP, startT, evalCode, evalRegion, seqOps, wantedP, stepOp, callOf, evalOp, lkIn, lookT, putT, ofValue, ofCell, binP, intBin, shiftBin, unP, St.apply, addFr, beq_lit, blt_lit, ble_lit, lenT, lenPV, und3, und25, und231, und232, indexAddrOp, size231, cells_int, cells_bool, cells_str, cells_slice, cells_nil, cells_agg, cells_own, loadOp, subLoad, agg231, makeSliceOp, convP, w0, w1, w2, w3, w4, wm, n0, n1, n2, n3, n4, repeatP, ok_int, ok_bool, ok_slice, ok_nil, ok_own, zero231, bytes231, Go.Pi.look, firstRegion, storeOp, subStore, upd, St.hp, St.fz, memB, envCall, envOf, orE, oneRow, reifyL, mapR, reify, reifyN, reifyW, reifyWL, PV.pureB, PV.pureL, U_pure, drawOps, drawOp, okOut, touch, Out.wrote, logOk, share, inOrder, PV.ids, PV.idsL, ResOk, f15, h4, size29, agg29]⟩
end Go.Proofs.Tryz

/- The interpreter on symbols: rational.read, the last test. -/
namespace Go.Proofs.Tryz
open Go Go.Pi
open Go.RowKit (Below)
variable [Hole] {G : Nat → Option PV} {env : Env}
set_option linter.unusedSectionVars false
set_option linter.unusedSimpArgs false
variable {n X Y D Z : ByteArray} {f p1 p2 z : Bool}

noncomputable def cx15 : Cx := ⟨⟨[0,1], [], [(15,[0,1,3,7,7,31,63,127,255,511,511,2047,4095,8191,16383,32767])]⟩, 0⟩

set_option maxRecDepth 100000 in
theorem read_G1 (e : Evs) (T : Tm) (k i j : Nat) (b c : Bool) (w v : PV) (ev : Int) (he : ev ≠ 0) (h11 : lookT T 11 = .int .i64 ev) :
    ∃ T1 s1, evalCode prog (readEnv G) G e.call e.loop cx15 rG T ⟨k + 1, H2 i j b w c v, []⟩ = some (.normal, T1, s1) ∧ (∃ k1, s1 = ⟨k1 + 1, H2 i j b w c v, []⟩) ∧ lookT T1 80 = .bool true ∧ lookT T1 4 = lookT T 4 := by
  have hb : (ev != 0) = true := by simpa using he
  generalize hr : evalCode _ _ _ _ _ _ _ _ _ = r
  simp [evalSum, call_succ, loop_succ, callWith, loopWith, gc, restrict, resultsP, oneP, startT, evalCode, evalRegion, seqOps, wantedP, stepOp, callOf, evalOp, lkIn, lookT, putT, ofValue, ofCell, binP, intBin, shiftBin, unP, St.apply, addFr, beq_lit, blt_lit, ble_lit, lenT, lenPV, und3, und25, und231, und232, indexAddrOp, size231, cells_int, cells_bool, cells_str, cells_slice, cells_nil, cells_agg, cells_own, loadOp, subLoad, agg231, makeSliceOp, convP, w0, w1, w2, w3, w4, wm, n0, n1, n2, n3, n4, repeatP, ok_int, ok_bool, ok_slice, ok_nil, ok_own, zero231, bytes231, Go.Pi.look, firstRegion, storeOp, subStore, upd, St.hp, St.fz, memB, envCall, envOf, orE, oneRow, reifyL, mapR, reify, reifyN, reifyW, reifyWL, PV.pureB, PV.pureL, U_pure, drawOps, drawOp, okOut, touch, Out.wrote, logOk, share, inOrder, PV.ids, PV.idsL, rG, rTail, f15, cx15, h11, hb] at hr
  subst hr
  exact ⟨_, _, rfl, ⟨_, rfl⟩, by simp [lookT, beq_lit], by simp [lookT, beq_lit]⟩

set_option maxRecDepth 100000 in
theorem read_G2 (e : Evs) (T : Tm) (k i j : Nat) (b c : Bool) (w v : PV) (h11 : lookT T 11 = .int .i64 0) (h12 : lookT T 12 = .ptr (i + 1) 0 0) (hv : v.pureB = true) (hvi : v.ids = [])
    (hc : cmpFn G [.agg [.bool c, v], intP false [1]] = some (.int .i64 0)) :
    ∃ T1 s1, evalCode prog (readEnv G) G e.call e.loop cx15 rG T ⟨k + 1, H2 i j b w c v, []⟩ = some (.normal, T1, s1) ∧ (∃ k1, s1 = ⟨k1 + 1, H2 i j b w c v, []⟩) ∧ lookT T1 80 = .bool true ∧ lookT T1 4 = lookT T 4 := by
  unfold intP at hc
  generalize hr : evalCode _ _ _ _ _ _ _ _ _ = r
  simp [evalSum, call_succ, loop_succ, callWith, loopWith, gc, restrict, resultsP, oneP, startT, evalCode, evalRegion, seqOps, wantedP, stepOp, callOf, evalOp, lkIn, lookT, putT, ofValue, ofCell, binP, intBin, shiftBin, unP, St.apply, addFr, beq_lit, blt_lit, ble_lit, lenT, lenPV, und3, und25, und231, und232, indexAddrOp, size231, cells_int, cells_bool, cells_str, cells_slice, cells_nil, cells_agg, cells_own, loadOp, subLoad, agg231, makeSliceOp, convP, w0, w1, w2, w3, w4, wm, n0, n1, n2, n3, n4, repeatP, ok_int, ok_bool, ok_slice, ok_nil, ok_own, zero231, bytes231, Go.Pi.look, firstRegion, storeOp, subStore, upd, St.hp, St.fz, memB, envCall, envOf, orE, oneRow, reifyL, mapR, reify, reifyN, reifyW, reifyWL, PV.pureB, PV.pureL, U_pure, drawOps, drawOp, okOut, touch, Out.wrote, logOk, share, inOrder, PV.ids, PV.idsL, rG, rTail, f15, cx15, h11, h12, hv, hvi, readEnv, size27, agg27, oneFn, intP, hc] at hr
  subst hr
  exact ⟨_, _, rfl, ⟨_, rfl⟩, by simp [lookT, beq_lit], by simp [lookT, beq_lit]⟩

set_option maxRecDepth 100000 in
theorem read_G3 (e : Evs) (T : Tm) (k i j : Nat) (b c : Bool) (w v : PV) (g : List Int) (c1 c2 : Int) (hij : j < i) (h11 : lookT T 11 = .int .i64 0) (h12 : lookT T 12 = .ptr (i + 1) 0 0) (h10 : lookT T 10 = .ptr (j + 1) 0 0)
    (hv : v.pureB = true) (hvi : v.ids = []) (hw : w.pureB = true) (hwi : w.ids = [])
    (hc : cmpFn G [.agg [.bool c, v], intP false [1]] = some (.int .i64 c1)) (h1 : c1 ≠ 0) (hg : gcdFn G [.agg [.bool b, w], .agg [.bool c, v]] = some (intP false g)) (hc2 : cmpFn G [intP false g, intP false [1]] = some (.int .i64 c2)) :
    ∃ T1 s1, evalCode prog (readEnv G) G e.call e.loop cx15 rG T ⟨k + 1, H2 i j b w c v, []⟩ = some (.normal, T1, s1) ∧ (∃ k1, s1 = ⟨k1 + 1, H2 i j b w c v, []⟩) ∧ lookT T1 80 = .bool (c2 != 0) ∧ lookT T1 4 = lookT T 4 ∧ lookT T1 10 = lookT T 10 ∧ lookT T1 12 = lookT T 12 := by
  have hij' : ¬ i = j := by omega
  have hb : (c1 == 0) = false := by simpa using h1
  unfold intP at hc hg hc2
  generalize hr : evalCode _ _ _ _ _ _ _ _ _ = r
  simp [evalSum, call_succ, loop_succ, callWith, loopWith, gc, restrict, resultsP, oneP, startT, evalCode, evalRegion, seqOps, wantedP, stepOp, callOf, evalOp, lkIn, lookT, putT, ofValue, ofCell, binP, intBin, shiftBin, unP, St.apply, addFr, beq_lit, blt_lit, ble_lit, lenT, lenPV, und3, und25, und231, und232, indexAddrOp, size231, cells_int, cells_bool, cells_str, cells_slice, cells_nil, cells_agg, cells_own, loadOp, subLoad, agg231, makeSliceOp, convP, w0, w1, w2, w3, w4, wm, n0, n1, n2, n3, n4, repeatP, ok_int, ok_bool, ok_slice, ok_nil, ok_own, zero231, bytes231, Go.Pi.look, firstRegion, storeOp, subStore, upd, St.hp, St.fz, memB, envCall, envOf, orE, oneRow, reifyL, mapR, reify, reifyN, reifyW, reifyWL, PV.pureB, PV.pureL, U_pure, drawOps, drawOp, okOut, touch, Out.wrote, logOk, share, inOrder, PV.ids, PV.idsL, rG, rTail, f15, cx15, h11, h12, h10, hv, hvi, hw, hwi, readEnv, size27, agg27, oneFn, intP, hc, hb, hg, hc2, hij'] at hr
  subst hr
  exact ⟨_, _, rfl, ⟨_, rfl⟩, by simp [lookT, beq_lit], by simp [lookT, beq_lit], by simp [lookT, beq_lit], by simp [lookT, beq_lit]⟩
end Go.Proofs.Tryz

/- The interpreter on symbols: rational.read whole: whatever text of at most 20 bytes it is handed, it returns. -/
namespace Go.Proofs.Tryz
open Go Go.Pi
open Go.RowKit (Below)
variable [Hole] {G : Nat → Option PV} {env : Env}
set_option linter.unusedSectionVars false
set_option linter.unusedSimpArgs false
variable {n X Y D Z : ByteArray} {f p1 p2 z : Bool}

section
variable {P : Program} {callF : CallF} {loopF : LoopF} {cx : Cx} {a b c d q t : Code} {T T1 : Tm} {s s1 : St} {x : Option (Ex × Tm × St)} {id : Nat}

theorem cond_t {o : Operand} (h : lkIn G T o = .bool true) (h' : evalCode P env G callF loopF cx a T s = x) : evalCode P env G callF loopF cx (.cond o a b) T s = x := by
  simp only [evalCode, h, h']
theorem cond_f {o : Operand} (h : lkIn G T o = .bool false) (h' : evalCode P env G callF loopF cx b T s = x) : evalCode P env G callF loopF cx (.cond o a b) T s = x := by
  simp only [evalCode, h, h']
theorem skip_ok : evalCode P env G callF loopF cx .skip T s = some (.normal, T, s) := by simp only [evalCode]
theorem seq_ret (h : evalCode P env G callF loopF cx a T s = some (.ret, T1, s1)) : evalCode P env G callF loopF cx (.seq a b) T s = some (.ret, T1, s1) := by
  simp only [evalCode, h]
theorem block_ret (h : evalCode P env G callF loopF cx a T s = some (.ret, T1, s1)) : evalCode P env G callF loopF cx (.block id a) T s = some (.ret, T1, s1) := by
  simp only [evalCode, h]

theorem start_ok (h : evalCode P env G callF loopF cx (.seq a (.seq b (.seq c d))) T s = some (.normal, T1, s1)) (h' : evalCode P env G callF loopF cx (.seq (.block id q) t) T1 s1 = x) :
    evalCode P env G callF loopF cx (.seq a (.seq b (.seq c (.seq (.block id (.seq d q)) t)))) T s = x := by
  simp only [evalCode] at h h' ⊢
  split at h
  · rename_i Ta sa ha
    split at h
    · rename_i Tb sb hb
      split at h
      · rename_i Tc sc hc
        simp only [ha, hb, hc, h]
        exact h'
      · rename_i hn; exact absurd h (fun h => hn _ _ h)
    · rename_i hn; exact absurd h (fun h => hn _ _ h)
  · rename_i hn; exact absurd h (fun h => hn _ _ h)

theorem two_ok (h : evalCode P env G callF loopF cx (.seq a b) T s = some (.normal, T1, s1)) (h' : evalCode P env G callF loopF cx (.seq c d) T1 s1 = x) :
    evalCode P env G callF loopF cx (.seq a (.seq (.seq b c) d)) T s = x := by
  simp only [evalCode] at h h' ⊢
  split at h
  · rename_i Ta sa ha
    simp only [ha, h]
    exact h'
  · rename_i hn; exact absurd h (fun h => hn _ _ h)
end

/-- What read may return. -/
def ReadOk (r : PV) : Prop := (∃ e : Int, (e = 3 ∨ e = 14 ∨ e = 19) ∧ r = .tuple [zeroRat, .int .i64 e]) ∨
  ∃ b ds c v, r = .tuple [.agg [.bool b, .slice ds, .bool c, v], .int .i64 0] ∧ (v = .nil ∨ ∃ es, v = .slice es)

/-- The tail of read. -/
def TailOk (G : Nat → Option PV) (e : Evs) (T : Tm) (k : Nat) : Prop :=
  ∃ T1 s1 r ev, evalCode prog (readEnv G) G e.call e.loop cx15 rTail T ⟨k + 1, H0, []⟩ = some (.ret, T1, s1) ∧ ResOk s1 T1 r ev ∧ ReadOk (.tuple [r, .int .i64 ev])

theorem read_tail (e : Evs) (hX : Numeral X D p1) (hY : f = true → Numeral Y Y false ∧ D.size + Y.size ≤ 19) (T : Tm) (k : Nat) (h4 : lookT T 4 = .ptr 0 0 0) (h7 : lookT T 7 = .str X) (h8 : lookT T 8 = .str Y) (h9 : lookT T 9 = .bool f) : TailOk G e T k := by
  have hdef : rTail = .seq (match rD with | .seq a _ => a | _ => .skip) (.seq (.seq (match rD with | .seq _ b => b | _ => .skip) (.cond (.tmp 54) rDerr .skip)) (.seq (.seq rE (.cond (.tmp 57) rEok .skip)) (.seq rF (.seq (.seq rG (.cond (.tmp 80) rGerr .skip)) rOk)))) := by kernel_rfl
  have hD : rD = .seq (match rD with | .seq a _ => a | _ => .skip) (match rD with | .seq _ b => b | _ => .skip) := by kernel_rfl
  obtain ⟨r, hr, hq⟩ := parseFn_some (G := G) hX
  rcases hq with rfl | ⟨b, ds, rfl, hd1, hd2⟩
  · obtain ⟨T1, j, k1, a1, _, a54, _, a4, _⟩ := read_D (G := G) e cx15 T k false .nil 3 rfl h4 h7 h8 h9 hr
    obtain ⟨T2, s2, b1, b2⟩ := read_Derr (G := G) (env := readEnv G) e cx15 T1 k1 j false .nil a4
    refine ⟨T2, s2, _, _, ?_, b2, .inl ⟨3, .inl rfl, rfl⟩⟩
    rw [hdef]
    rw [hD] at a1
    exact two_ok a1 (seq_ret (cond_t a54 b1))
  · obtain ⟨T1, j, k1, a1, hj, a54, a10, a4, a8, a9⟩ := read_D (G := G) e cx15 T k b (.slice (U ds)) 0 rfl h4 h7 h8 h9 hr
    obtain ⟨T2, k2, b1, hk2, b57, b10, b4, b8⟩ := read_E (G := G) (env := readEnv G) e cx15 T1 k1 j b (.slice (U ds)) a10 a4 a8 a9
    rw [hD] at a1
    cases f
    · obtain ⟨T3, s3, c1, c2⟩ := read_Eok (G := G) (env := readEnv G) e cx15 T2 k2 j b (.slice (U ds)) rfl rfl b10 b4
      refine ⟨T3, s3, _, _, ?_, c2, .inr ⟨b, _, false, _, rfl, .inl rfl⟩⟩
      rw [hdef]
      exact two_ok a1 (seq_ok (cond_f a54 skip_ok) (seq_ret (seq_ok b1 (cond_t b57 c1))))
    · obtain ⟨hY, hlen⟩ := hY rfl
      have hs := hX.size
      have hsy := hY.size
      obtain ⟨r2, hr2, hq2⟩ := parseFn_some (G := G) hY
      have pre : ∀ {x}, evalCode prog (readEnv G) G e.call e.loop cx15 (.seq rF (.seq (.seq rG (.cond (.tmp 80) rGerr .skip)) rOk)) T2 ⟨k2 + 1, H1 j b (.slice (U ds)), []⟩ = x → evalCode prog (readEnv G) G e.call e.loop cx15 rTail T ⟨k + 1, H0, []⟩ = x := by
        intro x hx
        rw [hdef]
        exact two_ok a1 (seq_ok (cond_f a54 skip_ok) (seq_ok (seq_ok b1 (cond_f b57 skip_ok)) hx))
      rcases hq2 with rfl | ⟨c, es, rfl, he1, he2⟩
      · obtain ⟨T3, i, k3, c1, hij, c11, c12, c10, c4⟩ := read_F (G := G) e cx15 T2 k2 j b false (.slice (U ds)) .nil 3 rfl (by omega) b10 b4 b8 hr2
        obtain ⟨T4, s4, d1, ⟨k4, rfl⟩, d80, d4⟩ := read_G1 (G := G) e T3 k3 i j b false (.slice (U ds)) .nil 3 (by decide) c11
        obtain ⟨T5, s5, e1, e2⟩ := read_Gerr (G := G) (env := readEnv G) e cx15 T4 k4 i j b false (.slice (U ds)) .nil (d4.trans c4)
        exact ⟨T5, s5, _, _, pre (seq_ok c1 (seq_ret (seq_ok d1 (cond_t d80 e1)))), e2, .inl ⟨3, .inl rfl, rfl⟩⟩
      · obtain ⟨T3, i, k3, c1, hij, c11, c12, c10, c4⟩ := read_F (G := G) e cx15 T2 k2 j b c (.slice (U ds)) (.slice (U es)) 0 rfl (by omega) b10 b4 b8 hr2
        have hds : Digits 2 ds := ⟨by omega, hd1.small, hd1.last⟩
        have hes : Digits 2 es := ⟨by omega, he1.small, he1.last⟩
        obtain ⟨m1, hm1⟩ := cmpFn_some (G := G) c es hes.len
        by_cases h0 : m1 = 0
        · subst h0
          obtain ⟨T4, s4, d1, ⟨k4, rfl⟩, d80, d4⟩ := read_G2 (G := G) e T3 k3 i j b c (.slice (U ds)) (.slice (U es)) c11 c12 rfl rfl hm1
          obtain ⟨T5, s5, e1, e2⟩ := read_Gerr (G := G) (env := readEnv G) e cx15 T4 k4 i j b c (.slice (U ds)) (.slice (U es)) (d4.trans c4)
          exact ⟨T5, s5, _, _, pre (seq_ok c1 (seq_ret (seq_ok d1 (cond_t d80 e1)))), e2, .inl ⟨3, .inl rfl, rfl⟩⟩
        · obtain ⟨g, hg, hgl⟩ := gcdFn_some (G := G) b c ds es hds hes (by omega)
          obtain ⟨m2, hm2⟩ := cmpFn_some (G := G) false g hgl
          obtain ⟨T4, s4, d1, ⟨k4, rfl⟩, d80, d4, d10, d12⟩ := read_G3 (G := G) e T3 k3 i j b c (.slice (U ds)) (.slice (U es)) g m1 m2 hij c11 c12 c10 rfl rfl rfl rfl hm1 h0 hg hm2
          cases hm : (m2 != 0)
          · rw [hm] at d80
            obtain ⟨T5, s5, e1, e2⟩ := read_Ok (G := G) (env := readEnv G) e cx15 T4 k4 i j b c (.slice (U ds)) (.slice (U es)) rfl rfl rfl rfl hij (d10.trans c10) (d12.trans c12) (d4.trans c4)
            exact ⟨T5, s5, _, _, pre (seq_ok c1 (seq_ok (seq_ok d1 (cond_f d80 skip_ok)) e1)), e2, .inr ⟨b, _, c, _, rfl, .inr ⟨_, rfl⟩⟩⟩
          · rw [hm] at d80
            obtain ⟨T5, s5, e1, e2⟩ := read_Gerr (G := G) (env := readEnv G) e cx15 T4 k4 i j b c (.slice (U ds)) (.slice (U es)) (d4.trans c4)
            exact ⟨T5, s5, _, _, pre (seq_ok c1 (seq_ret (seq_ok d1 (cond_t d80 e1)))), e2, .inl ⟨3, .inl rfl, rfl⟩⟩

theorem cut1_len (c : UInt8) : ∀ (l x y : List UInt8) (f : Bool), cut1 c l = (x, y, f) → (f = true → x.length + y.length + 1 = l.length) ∧ (f = false → x = l ∧ y = [])
  | [], x, y, f, h => by
    simp only [cut1, Prod.mk.injEq] at h
    obtain ⟨rfl, rfl, rfl⟩ := h
    exact ⟨fun h => (by cases h), fun _ => ⟨rfl, rfl⟩⟩
  | b :: l, x, y, f, h => by
    simp only [cut1, Bool.cond_eq_ite] at h
    split at h
    · simp only [Prod.mk.injEq] at h
      obtain ⟨rfl, rfl, rfl⟩ := h
      exact ⟨fun _ => by simp, fun h => (by cases h)⟩
    · generalize hc : cut1 c l = t at h
      obtain ⟨x', y', f'⟩ := t
      simp only [Prod.mk.injEq] at h
      obtain ⟨rfl, rfl, rfl⟩ := h
      have := cut1_len c l x' y' f' hc
      exact ⟨fun hf => by have := this.1 hf; simp only [List.length_cons]; omega, fun hf => by have := this.2 hf; rw [this.1]; exact ⟨rfl, this.2⟩⟩

/-- What is behind the sign. -/
def unsign (x : List UInt8) : List UInt8 × Bool := match behind x [45] with
  | some d => (d, true)
  | none => (x, false)

theorem unsign_len (x : List UInt8) : (unsign x).1.length ≤ x.length := by
  unfold unsign
  split
  · rename_i d hd
    rw [behind_eq] at hd
    split at hd
    · cases hd; simp
    · cases hd
  · exact Nat.le_refl _

def ba (l : List UInt8) : ByteArray := ⟨l.toArray⟩
theorem ba_list (l : List UInt8) : (ba l).data.toList = l := rfl
theorem ba_size (l : List UInt8) : (ba l).size = l.length := by rw [size_list]; rfl
theorem small_ba {l : List UInt8} (h : l.length ≤ 1000) : smallS (ba l) = true := by unfold smallS; rw [blt_iff, ba_size]; omega

theorem numeral_of (x : List UInt8) (hx : x.length ≤ 20) (h : isNum (unsign x).1 = true) : Numeral (ba x) (ba (unsign x).1) (unsign x).2 := by
  have hn := isNum_spec h
  have hl := unsign_len x
  refine ⟨?_, by rw [ba_size]; omega, ⟨?_, by rw [ba_size]; omega⟩, hn.2⟩
  · have e1 : (⟨#[45]⟩ : ByteArray).data.toList = [45] := rfl
    unfold cutPrefixF unsign
    simp only [e1, ba_list]
    cases behind x [45] <;> rfl
  · rw [ba_size]
    cases hu : (unsign x).1 with
    | nil => exact absurd hu hn.1
    | cons _ _ => simp

theorem numeral_plain (y : List UInt8) (hy : y.length ≤ 20) (h : isNum y = true) : Numeral (ba y) (ba y) false := by
  have hn := isNum_spec h
  have hb : behind y [45] = none := by
    match y, hn with
    | b :: y, hn =>
      have := hn.2
      simp only [List.all_cons, Bool.and_eq_true, digitB, ble_iff] at this
      have h1 : Nat.beq b.toNat (45 : UInt8).toNat = false := by
        rw [Bool.eq_false_iff, Ne, nat_beq_eq]
        have : (45 : UInt8).toNat = 45 := rfl
        omega
      simp only [behind, h1, cond_false]
  have hu : unsign y = (y, false) := by unfold unsign; rw [hb]
  have := numeral_of y hy (by rw [hu]; exact h)
  rw [hu] at this
  exact this

theorem parts_of (n : ByteArray) (hn : n.size ≤ 20) {x y : List UInt8} {f : Bool} (hc : cut1 47 n.data.toList = (x, y, f)) :
    Parts n (ba x) (ba y) (ba (unsign x).1) (ba (trimU y [48])) f (isNum (unsign x).1) (isNum y) (trimU y [48] == []) := by
  have hl := cut1_len _ _ _ _ _ hc
  have hnl : n.data.toList.length ≤ 20 := by rw [← size_list]; exact hn
  have hx : x.length ≤ 20 := by
    cases f
    · rw [(hl.2 rfl).1]; exact hnl
    · have := hl.1 rfl; omega
  have hy : y.length ≤ 20 := by
    cases f
    · rw [(hl.2 rfl).2]; simp
    · have := hl.1 rfl; omega
  have hd := unsign_len x
  have hsn : smallS n = true := by unfold smallS; rw [blt_iff]; omega
  refine ⟨by omega, ?_, ?_, ?_, ?_, ?_, ?_⟩
  · have e1 : (⟨#[47]⟩ : ByteArray).data.toList = [47] := rfl
    unfold cutF
    simp only [e1, hsn, cond_true, hc]
    rfl
  · have e1 : (⟨#[45]⟩ : ByteArray).data.toList = [45] := rfl
    unfold trimPrefixF unsign
    simp only [e1, ba_list]
    cases behind x [45] <;> rfl
  · unfold digitsFn
    simp only [small_ba (by omega : (unsign x).1.length ≤ 1000), cond_true, ba_list]
  · unfold digitsFn
    simp only [small_ba (by omega : y.length ≤ 1000), cond_true, ba_list]
  · exact trimF_eq (ba y) y ⟨#[48]⟩ (small_ba (by omega)) rfl (by decide) (by decide)
  · rfl

theorem gives_read (n : ByteArray) (hn : n.size ≤ 20) {m : Int} (hG : G 0 = some (.hole 1)) (hv : Hole.val 1 = .int .i64 m) : Gives G 15 [.str n, .int .i64 65536] ReadOk := by
  obtain ⟨d, ha, hd⟩ := ann15
  subst hd
  obtain ⟨x, y, f, hc⟩ : ∃ x y f, cut1 47 n.data.toList = (x, y, f) := ⟨_, _, _, rfl⟩
  have hP := parts_of n hn hc
  have hl := cut1_len _ _ _ _ _ hc
  have hnl : n.data.toList.length ≤ 20 := by rw [← size_list]; exact hn
  let e := evalN prog (readEnv G) G A0 0
  obtain ⟨T1, k1, a1, a20, a4, a7, a8, a9⟩ := read_A (G := G) e cx15 hP
  obtain ⟨T2, k2, b1, b26, b4, b7, b8, b9⟩ := read_B (G := G) e cx15 hP T1 k1 a4 a7 a8 a9
  have fin : ∀ {T s r ev}, evalCode prog (readEnv G) G e.call e.loop cx15 (.seq (.block 0 (.cond (.tmp 20) (match f15.body with
      | some (.seq _ (.seq _ (.seq _ (.seq (.block _ (.seq _ (.cond _ b _))) _)))) => b
      | _ => .skip) (.seq rB (.cond (.tmp 26) rBerr (.seq rC (.cond (.tmp 40) rCerr .skip)))))) rTail) T1 ⟨k1 + 1, H0, []⟩ = some (.ret, T, s) → ResOk s T r ev → ReadOk (.tuple [r, .int .i64 ev]) → Gives G 15 [.str n, .int .i64 65536] ReadOk := by
    intro T s r ev h1 h2 h3
    refine ⟨_, h3, sum_row (read_env hG hv) ⟨0 + 1, ?_⟩ func15 (by kernel_rfl) (by decide)⟩
    have hp : reify s.hp (.tuple [r, .int .i64 ev]) = some (.tuple [r, .int .i64 ev], []) := by
      rcases h3 with ⟨e', _, he⟩ | ⟨b, ds, c, v, he, hv'⟩
      · rw [he]; rfl
      · rw [he]
        rcases hv' with rfl | ⟨es, rfl⟩ <;> rfl
    refine sum_of_run (ex := .ret) (c := .seq _ (.seq _ (.seq _ (.seq (.block 0 (.seq _ (.cond (.tmp 20) _ (.seq rB (.cond (.tmp 26) rBerr (.seq rC (.cond (.tmp 40) rCerr .skip))))))) rTail)))) (fl := []) ha func15 rfl (by kernel_rfl) ?_ (by simp) h2 rfl hp
    exact start_ok a1 h1
  by_cases hp1 : (!isNum (unsign x).1 || (f && !isNum y)) = true
  · rw [hp1] at b26
    obtain ⟨T3, s3, c1, c2⟩ := read_Berr (G := G) (env := readEnv G) e cx15 T2 k2 b4
    exact fin (seq_ret (block_ret (cond_f a20 (seq_ok b1 (cond_t b26 c1))))) c2 (.inl ⟨14, .inr (.inl rfl), rfl⟩)
  · have hp1' : (!isNum (unsign x).1 || (f && !isNum y)) = false := by simpa using hp1
    rw [hp1'] at b26
    simp only [Bool.or_eq_false_iff, Bool.not_eq_false'] at hp1'
    obtain ⟨T3, k3, c1, c40, c4, c7, c8, c9⟩ := read_C (G := G) e cx15 hP T2 k2 b4 b7 b8 b9
    by_cases hz : (f && (trimU y [48] == [])) = true
    · rw [hz] at c40
      obtain ⟨T4, s4, d1, d2⟩ := read_Cerr (G := G) (env := readEnv G) e cx15 T3 k3 c4
      exact fin (seq_ret (block_ret (cond_f a20 (seq_ok b1 (cond_f b26 (seq_ok c1 (cond_t c40 d1))))))) d2 (.inl ⟨19, .inr (.inr rfl), rfl⟩)
    · rw [Bool.eq_false_iff.2 hz] at c40
      have hx : x.length ≤ 20 := by
        cases f
        · rw [(hl.2 rfl).1]; exact hnl
        · have := hl.1 rfl; omega
      have hN := numeral_of x hx hp1'.1
      obtain ⟨T4, s4, r, ev, d1, d2, d3⟩ := read_tail (G := G) (Y := ba y) (f := f) e hN (fun hf => by
        subst hf
        have h2 : isNum y = true := by simpa using hp1'.2
        have h3 := hl.1 rfl
        have h4 := unsign_len x
        exact ⟨numeral_plain y (by omega) h2, by rw [ba_size, ba_size]; omega⟩) T3 k3 c4 c7 c8 c9
      exact fin (seq_ok (block_ok (cond_f a20 (seq_ok b1 (cond_f b26 (seq_ok c1 (cond_f c40 skip_ok)))))) d1) d2 d3
end Go.Proofs.Tryz
