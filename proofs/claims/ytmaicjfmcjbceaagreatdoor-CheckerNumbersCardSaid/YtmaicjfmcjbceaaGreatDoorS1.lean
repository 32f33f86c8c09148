/- The interpreter on symbols: integer.trim, signed, scale, order, Compare, short, divide, Gcd, Parse's loops. No condition. -/
import Derived.Test.YtmaicjfmcjbceaaGreatDoorAnnOk
/- The interpreter on symbols: small functions of the program. -/
namespace Go.Proofs.Tryz
open Go Go.Pi
variable [Hole] {G : Nat → Option PV} {env : Env}
set_option linter.unusedSectionVars false
set_option linter.unusedSimpArgs false

theorem beq_lit (a b : Nat) : Nat.beq a b = decide (a = b) := by
  rw [Bool.eq_iff_iff, nat_beq_eq, decide_eq_true_eq]
theorem blt_lit (a b : Nat) : Nat.blt a b = decide (a < b) := by
  rw [Bool.eq_iff_iff, blt_iff, decide_eq_true_eq]
theorem ble_lit (a b : Nat) : Nat.ble a b = decide (a ≤ b) := by
  rw [Bool.eq_iff_iff, ble_iff, decide_eq_true_eq]


theorem call_succ_gen (P : Program) (A : FuncId → Option Ann) (n : Nat) (f : FuncId) (vs : List PV) (s : St) : (evalN P env G A (n + 1)).call f vs s = callWith P env G A (evalN P env G A n) f vs s := rfl
theorem loop_succ_gen (P : Program) (A : FuncId → Option Ann) (n : Nat) (cx : Cx) (b : Code) (T : Tm) (s : St) : (evalN P env G A (n + 1)).loop cx b T s = loopWith P env G (evalN P env G A n) cx b T s := rfl
theorem call_succ (n : Nat) (f : FuncId) (vs : List PV) (s : St) : (evalN prog env G A0 (n + 1)).call f vs s = callWith prog env G A0 (evalN prog env G A0 n) f vs s := call_succ_gen _ _ _ _ _ _
theorem loop_succ (n : Nat) (cx : Cx) (b : Code) (T : Tm) (s : St) : (evalN prog env G A0 (n + 1)).loop cx b T s = loopWith prog env G (evalN prog env G A0 n) cx b T s := loop_succ_gen _ _ _ _ _ _ _

theorem loop_end {P : Program} {e : Evs} {cx : Cx} {b : Code} {T T0 T1 : Tm} {s s0 s1 : St} {ex : Ex} (hg : gc cx b T s = (T0, s0)) (h : evalCode P env G e.call e.loop cx b T0 s0 = some (ex, T1, s1)) (hx : ex ≠ .normal) :
    loopWith P env G e cx b T s = some (ex, T1, s1) := by
  unfold loopWith
  rw [hg]
  simp only [h]
  cases ex <;> first | rfl | exact absurd rfl hx

theorem loop_next {P : Program} {e : Evs} {cx : Cx} {b : Code} {T T0 T1 : Tm} {s s0 s1 : St} {r : Option (Ex × Tm × St)} (hg : gc cx b T s = (T0, s0)) (h : evalCode P env G e.call e.loop cx b T0 s0 = some (.normal, T1, s1)) (hr : e.loop cx b T1 s1 = r) :
    loopWith P env G e cx b T s = r := by
  unfold loopWith
  rw [hg]
  simp only [h]
  exact hr

theorem sum_of_run {P : Program} {A : FuncId → Option Ann} {n : Nat} {f : FuncId} {fn : Func} {c : Code} {a : Ann} {vs : List PV} {ex : Ex} {T : Tm} {s : St} {u v : PV} {rs : List PV} {fl : List Nat} (hA : A f = some a) (hf : P.funcs[f]? = some fn) (hb : fn.body = some c) (hn : Nat.ble vs.length fn.ntmps = true)
    (h : evalCode P env G (evalN P env G A n).call (evalN P env G A n).loop ⟨a, 0⟩ c (startT a.keep vs) ⟨0, [], []⟩ = some (ex, T, s)) (hx : ∀ id, ex ≠ .exit id) (hr : resultsP P s T fn.results.toList = some rs) (hu : oneP rs = u) (hv : reify s.hp u = some (v, fl)) :
    evalSum P env G A (n + 1) f vs = some v := by
  unfold evalSum
  rw [call_succ_gen]
  unfold callWith
  simp only [hA, hf, hb, hn, cond_true, h]
  cases ex with
  | exit id => exact absurd rfl (hx id)
  | normal => simp only [hr, hu, hv]
  | ret => simp only [hr, hu, hv]

theorem seq_ok {P : Program} {callF : CallF} {loopF : LoopF} {cx : Cx} {a b : Code} {T T1 : Tm} {s s1 : St} {r : Option (Ex × Tm × St)} (h : evalCode P env G callF loopF cx a T s = some (.normal, T1, s1)) (h' : evalCode P env G callF loopF cx b T1 s1 = r) :
    evalCode P env G callF loopF cx (.seq a b) T s = r := by
  simp only [evalCode, h, h']

theorem block_loop {P : Program} {callF : CallF} {loopF : LoopF} {cx : Cx} {id : Nat} {b : Code} {T T1 : Tm} {s s1 : St} (h : loopF cx b T s = some (.exit id, T1, s1)) :
    evalCode P env G callF loopF cx (.block id (.loop b)) T s = some (.normal, T1, s1) := by
  simp [evalCode, h, beq_lit]

theorem und3 : prog.underlying 3 = some (.int .i64) := by kernel_rfl
theorem und25 : prog.underlying 25 = some (.slice 231) := by kernel_rfl
theorem und231 : prog.underlying 231 = some (.int .u32) := by kernel_rfl
theorem und232 : prog.underlying 232 = some (.int .u64) := by kernel_rfl
theorem size231 : sizeT prog 231 = some 1 := by kernel_rfl
theorem agg231 : isAggT prog 231 = false := by kernel_rfl
theorem ann144 : A0 144 = some ⟨[0], [(1, [0])], []⟩ := by kernel_rfl

noncomputable def trimBody : Code := match f144.body with
  | some (.seq _ (.seq (.block _ (.loop b)) _)) => b
  | _ => .skip

/-- Numbers of 32 bits. -/
def U (ds : List Int) : List PV := ds.map (.int .u32)


theorem wrap_i64 (n : Int) (h : -9223372036854775808 ≤ n ∧ n ≤ 9223372036854775807) : IntKind.i64.wrap n = n := IntWalk.i64_in _ h
theorem natOf_int {k : IntKind} {n : Nat} : natOf (.int k (n : Int)) = some n := rfl

/-- Without the zeros at the end. -/
def trimL (ds : List Int) : List Int := (ds.reverse.dropWhile (· == 0)).reverse

theorem trimL_nil : trimL [] = [] := rfl
theorem trimL_zero (ds : List Int) : trimL (ds ++ [0]) = trimL ds := by simp [trimL]
theorem trimL_pos (ds : List Int) {d : Int} (h : d ≠ 0) : trimL (ds ++ [d]) = ds ++ [d] := by simp [trimL, h]

theorem U_snoc (ds : List Int) (d : Int) : (U (ds ++ [d])).length = ds.length + 1 := by simp [U]
theorem U_last (ds : List Int) (d : Int) : (U (ds ++ [d]))[ds.length]? = some (.int .u32 d) := by simp [U]
theorem U_take (ds : List Int) (d : Int) : (U (ds ++ [d])).take ds.length = U ds := by simp [U]
theorem cells_int (k : IntKind) (n : Int) : (PV.int k n).cells = [.int k n] := rfl
theorem cells_bool (b : Bool) : (PV.bool b).cells = [.bool b] := rfl
theorem cells_str (b : ByteArray) : (PV.str b).cells = [.str b] := rfl
theorem cells_slice (b : List PV) : (PV.slice b).cells = [.slice b] := rfl
theorem cells_nil : PV.nil.cells = [.nil] := rfl
theorem cells_agg (b : List PV) : (PV.agg b).cells = b := rfl
theorem cells_own (r l n : Nat) : (PV.own r l n).cells = [.own r l n] := rfl
theorem U_all (ds : List Int) : (U ds).all (fun e => decide (e.cells.length = 1)) = true := by simp [U, PV.cells]

noncomputable def cx144 : Cx := ⟨⟨[0], [(1, [0])], []⟩, 0⟩

set_option maxRecDepth 100000 in
theorem trim_zero (e : Evs) (ds : List Int) (k : Nat) (hlen : ds.length < 1000) :
    ∃ T k', evalCode prog env G e.call e.loop cx144 trimBody [(0, .slice (U (ds ++ [0])))] ⟨k, [], []⟩ = some (.normal, T, ⟨k', [], []⟩) ∧ lookT T 0 = .slice (U ds) := by
  have hl := U_snoc ds 0
  have htake := U_take ds 0
  have hall := U_all (ds ++ [0])
  have hw : IntKind.i64.wrap (ds.length : Int) = (ds.length : Int) := wrap_i64 _ (by omega)
  have hn : ∀ k, natOf (.int k (ds.length : Int)) = some ds.length := fun k => rfl
  have hg : ∀ h, (U (ds ++ [0]))[ds.length]'h = .int .u32 0 := fun h => by simp [U]
  generalize hr : evalCode _ _ _ _ _ _ _ _ _ = r
  simp [trimBody, f144, cx144, evalCode, evalRegion, seqOps, wantedP, stepOp, callOf, evalOp, lkIn, lookT, putT, ofValue, ofCell, binP, intBin, St.apply, addFr, beq_lit, lenT, lenPV, und25, hl, hw, indexAddrOp, hn, size231, hg, cells_int, loadOp, subLoad, agg231, sliceOp, sliceOf, lowOf, highOf, htake, ble_lit, blt_lit, hall] at hr
  subst hr
  exact ⟨_, _, rfl, by simp [lookT, beq_lit]⟩

set_option maxRecDepth 100000 in
theorem trim_stop (e : Evs) (ds : List Int) (d : Int) (k : Nat) (hd : d ≠ 0) (hlen : ds.length < 1000) :
    ∃ T k', evalCode prog env G e.call e.loop cx144 trimBody [(0, .slice (U (ds ++ [d])))] ⟨k, [], []⟩ = some (.exit 0, T, ⟨k', [], []⟩) ∧ lookT T 0 = .slice (U (ds ++ [d])) := by
  have hl := U_snoc ds d
  have hw : IntKind.i64.wrap (ds.length : Int) = (ds.length : Int) := wrap_i64 _ (by omega)
  have hn : ∀ k, natOf (.int k (ds.length : Int)) = some ds.length := fun k => rfl
  have hg : ∀ h, (U (ds ++ [d]))[ds.length]'h = .int .u32 d := fun h => by simp [U]
  have hb : (d == 0) = false := by simpa using hd
  generalize hr : evalCode _ _ _ _ _ _ _ _ _ = r
  simp [trimBody, f144, cx144, evalCode, evalRegion, seqOps, wantedP, stepOp, callOf, evalOp, lkIn, lookT, putT, ofValue, ofCell, binP, intBin, St.apply, addFr, beq_lit, lenT, lenPV, und25, hl, hw, indexAddrOp, hn, size231, hg, cells_int, loadOp, subLoad, agg231, hb] at hr
  subst hr
  exact ⟨_, _, rfl, by simp [lookT, beq_lit]⟩

set_option maxRecDepth 100000 in
theorem trim_empty (e : Evs) (k : Nat) (v : PV) (hv : v = .nil ∨ v = .slice []) :
    ∃ T k', evalCode prog env G e.call e.loop cx144 trimBody [(0, v)] ⟨k, [], []⟩ = some (.exit 0, T, ⟨k', [], []⟩) ∧ lookT T 0 = v := by
  generalize hr : evalCode _ _ _ _ _ _ _ _ _ = r
  rcases hv with rfl | rfl <;>
  · simp [trimBody, f144, cx144, evalCode, evalRegion, seqOps, wantedP, stepOp, callOf, evalOp, lkIn, lookT, putT, ofValue, ofCell, binP, intBin, St.apply, addFr, beq_lit, lenT, lenPV, und25] at hr
    subst hr
    exact ⟨_, _, rfl, by simp [lookT, beq_lit]⟩

theorem trim_gc (T : Tm) (k : Nat) : gc cx144 trimBody T ⟨k, [], []⟩ = ([(0, lookT T 0)], ⟨k, [], []⟩) := by
  have : firstRegion trimBody = 1 := by kernel_rfl
  simp [gc, blt_lit, this, cx144, Go.Pi.look, restrict, beq_lit]

theorem trim_loop : ∀ (m : Nat) (ds : List Int), ds.length = m → m < 1000 → ∀ (n k : Nat) (T : Tm), lookT T 0 = .slice (U ds) →
    ∃ T' k', (evalN prog env G A0 (n + m + 1)).loop cx144 trimBody T ⟨k, [], []⟩ = some (.exit 0, T', ⟨k', [], []⟩) ∧ lookT T' 0 = .slice (U (trimL ds)) := by
  intro m
  induction m with
  | zero =>
    intro ds hm _ n k T hT
    obtain rfl : ds = [] := List.length_eq_zero_iff.1 hm
    obtain ⟨T1, k1, h1, h2⟩ := trim_empty (G := G) (env := env) (evalN prog env G A0 (n + 0)) k (.slice []) (.inr rfl)
    rw [loop_succ]
    exact ⟨T1, k1, loop_end (by rw [trim_gc, hT]; rfl) h1 (by simp), h2⟩
  | succ m ih =>
    intro ds hm hlt n k T hT
    rcases List.eq_nil_or_concat ds with rfl | ⟨l, d, rfl⟩
    · simp at hm
    have hl : l.length = m := by simpa using hm
    rw [← Nat.add_assoc, loop_succ]
    by_cases hd : d = 0
    · subst hd
      obtain ⟨T1, k1, h1, h2⟩ := trim_zero (G := G) (env := env) (evalN prog env G A0 (n + m + 1)) l k (by omega)
      obtain ⟨T2, k2, h3, h4⟩ := ih l hl (by omega) n k1 T1 h2
      exact ⟨T2, k2, loop_next (by rw [trim_gc, hT, List.concat_eq_append]) h1 h3, by rw [h4, List.concat_eq_append, trimL_zero]⟩
    · obtain ⟨T1, k1, h1, h2⟩ := trim_stop (G := G) (env := env) (evalN prog env G A0 (n + m + 1)) l d k hd (by omega)
      exact ⟨T1, k1, loop_end (by rw [trim_gc, hT, List.concat_eq_append]) h1 (by simp), by rw [h2, List.concat_eq_append, trimL_pos _ hd]⟩

theorem trim_call (n : Nat) (v u : PV) (h : ∀ (k : Nat) (T : Tm), lookT T 0 = v → ∃ T' k', (evalN prog env G A0 n).loop cx144 trimBody T ⟨k, [], []⟩ = some (.exit 0, T', ⟨k', [], []⟩) ∧ lookT T' 0 = u) (hu : u.pureB = true) :
    evalSum prog env G A0 (n + 1) 144 [v] = some u := by
  obtain ⟨T', k', h1, h2⟩ := h 1 [(2, .nil), (0, v)] (by simp [lookT, beq_lit])
  refine sum_of_run (c := .seq _ (.seq (.block 0 (.loop trimBody)) _)) (fl := []) (rs := [u]) (T := (2, u) :: (20, u) :: T') ann144 func144 rfl (by kernel_rfl) (seq_ok (T1 := [(2, .nil), (0, v)]) (s1 := ⟨1, [], []⟩) ?_ (seq_ok (block_loop h1) (r := some (.ret, _, ⟨k' + 1 + 1, [], []⟩)) ?_)) (by simp) ?_ rfl ?_
  · simp [evalCode, evalRegion, seqOps, wantedP, stepOp, callOf, evalOp, lkIn, lookT, putT, ofValue, ofCell, St.apply, addFr, startT]
  · simp [evalCode, evalRegion, seqOps, wantedP, stepOp, callOf, evalOp, lkIn, lookT, putT, St.apply, addFr, beq_lit, h2]
  · simp [f144, resultsP, lookT, beq_lit]
  · simp [reify, hu, oneP]


theorem U_pure (ds : List Int) : PV.pureL (U ds) = true := by
  induction ds with
  | nil => rfl
  | cons d ds ih => simpa [U, PV.pureL, PV.pureB] using ih

theorem eval_trim (ds : List Int) (h : ds.length < 1000) : ∃ n, evalSum prog env G A0 n 144 [.slice (U ds)] = some (.slice (U (trimL ds))) := by
  refine ⟨0 + ds.length + 1 + 1, trim_call _ _ _ (fun k T hT => ?_) (by simp [PV.pureB, U_pure])⟩
  exact trim_loop _ ds rfl h 0 k T hT

/-! ### Environments -/

def envOf : List (FuncId × Fn1) → Env
  | [] => fun _ => none
  | (f, F) :: l => orE (fun g => bif Nat.beq g f then some F else none) (envOf l)

theorem envOf_ok : ∀ {l : List (FuncId × Fn1)}, (∀ p ∈ l, Sum prog G p.1 p.2) → EnvOk prog G (envOf l)
  | [], _ => fun f F h => by cases h
  | (f, F) :: l, h => by
    refine EnvOk.or (fun g X hX => ?_) (envOf_ok fun p hp => h p (by simp [hp]))
    simp only [bif_some, nat_beq_eq, Option.some.injEq] at hX
    obtain ⟨rfl, rfl⟩ := hX
    exact h (_, _) (by simp)

def decI : List PV → Option (List Int)
  | [] => some []
  | .int .u32 n :: l => (decI l).map (n :: ·)
  | _ => none

theorem decI_spec : ∀ {es : List PV} {ds : List Int}, decI es = some ds → es = U ds
  | [], ds, h => by simp only [decI, Option.some.injEq] at h; subst h; rfl
  | e :: es, ds, h => by
    unfold decI at h
    split at h
    · rename_i e1; cases e1
    · rename_i n l e1
      cases e1
      simp only [Option.map_eq_some_iff] at h
      obtain ⟨ds', h', rfl⟩ := h
      rw [decI_spec h']
      rfl
    · cases h

def trimFn : Fn1
  | [.slice es] => bif Nat.blt es.length 1000 then (decI es).map (fun ds => .slice (U (trimL ds))) else none
  | _ => none

theorem sum_trim144 : Sum prog G 144 trimFn := by
  refine evalSum_sound (env := fun _ => none) (A := A0) (fun f F h => by cases h) annOk mixed (enters_pi func144 (by kernel_rfl) (by decide)) fun vs r h => ?_
  unfold trimFn at h
  split at h
  case h_2 => cases h
  rename_i es
  simp only [bif_some, blt_iff, Option.map_eq_some_iff] at h
  obtain ⟨hl, ds, hd, rfl⟩ := h
  obtain rfl := decI_spec hd
  exact eval_trim ds (by simpa [U] using hl)

end Go.Proofs.Tryz

/- The interpreter on symbols: integer.signed, integer.scale. -/
namespace Go.Proofs.Tryz
open Go Go.Pi
variable [Hole] {G : Nat → Option PV} {env : Env}
set_option linter.unusedSectionVars false
set_option linter.unusedSimpArgs false

theorem trimFn_1 (x : Int) : trimFn [.slice [.int .u32 x]] = some (.slice (U (trimL [x]))) := rfl
theorem trimFn_2 (x y : Int) : trimFn [.slice [.int .u32 x, .int .u32 y]] = some (.slice (U (trimL [x, y]))) := rfl
theorem trimFn_3 (x y z : Int) : trimFn [.slice [.int .u32 x, .int .u32 y, .int .u32 z]] = some (.slice (U (trimL [x, y, z]))) := rfl
theorem ok_int (k : IntKind) (n : Int) : (PV.int k n).cellOk = true := rfl
theorem ok_bool (b : Bool) : (PV.bool b).cellOk = true := rfl
theorem ok_slice (b : List PV) : (PV.slice b).cellOk = true := rfl
theorem ok_nil : PV.nil.cellOk = true := rfl
theorem ok_own (r l n : Nat) : (PV.own r l n).cellOk = true := rfl
theorem w0 : IntKind.i64.wrap 0 = 0 := rfl
theorem n0 (k : IntKind) : natOf (.int k 0) = some 0 := rfl
theorem w1 : IntKind.i64.wrap 1 = 1 := rfl
theorem n1 (k : IntKind) : natOf (.int k 1) = some 1 := rfl
theorem w2 : IntKind.i64.wrap 2 = 2 := rfl
theorem n2 (k : IntKind) : natOf (.int k 2) = some 2 := rfl
theorem w3 : IntKind.i64.wrap 3 = 3 := rfl
theorem n3 (k : IntKind) : natOf (.int k 3) = some 3 := rfl
theorem w4 : IntKind.i64.wrap 4 = 4 := rfl
theorem n4 (k : IntKind) : natOf (.int k 4) = some 4 := rfl
theorem wm : IntKind.i64.wrap (-1) = -1 := rfl
theorem size4 : sizeT prog 4 = some 1 := by kernel_rfl
theorem size25 : sizeT prog 25 = some 1 := by kernel_rfl
theorem size27 : sizeT prog 27 = some 2 := by kernel_rfl
theorem zero27 : zeroT prog 27 = some (.agg [.bool false, .nil]) := by kernel_rfl
theorem zero231 : zeroT prog 231 = some (.int .u32 0) := by kernel_rfl
theorem bytes231 : bytesT prog 231 = some 4 := by kernel_rfl
theorem agg27 : isAggT prog 27 = true := by kernel_rfl
theorem agg4 : isAggT prog 4 = false := by kernel_rfl
theorem agg25 : isAggT prog 25 = false := by kernel_rfl
theorem ann112 : A0 112 = some ⟨[0,2,1], [(4,[19,8,18,7,17,1,0])], []⟩ := by kernel_rfl
theorem ann113 : A0 113 = some ⟨[1,0], [], []⟩ := by kernel_rfl


/-! ### What is said of results -/

/-- Some call returns something of which Q holds. -/
def Gives (G : Nat → Option PV) (f : FuncId) (vs : List PV) (Q : PV → Prop) : Prop := ∃ r, Q r ∧ Sum prog G f (oneRow vs r)

theorem sum_row {f : FuncId} {vs : List PV} {r : PV} {fn : Func} (hE : EnvOk prog G env) (h : ∃ n, evalSum prog env G A0 n f vs = some r) (hf : prog.funcs[f]? = some fn) (hb : fn.body.isSome = true) (hn : fn.name ≠ "runtime.NumGoroutine") : Sum prog G f (oneRow vs r) := by
  refine evalSum_sound hE annOk mixed (enters_pi hf hb hn) fun vs' r' h' => ?_
  unfold oneRow at h'
  split at h'
  · rename_i e; cases h'; subst e; exact h
  · cases h'

def D32 (d : Int) : Prop := 0 ≤ d ∧ d < 4294967296

theorem d32_wrap (n : Int) : D32 (IntKind.u32.wrap n) := by
  unfold D32; rw [IntKind.wrap_u32]; omega

/-- The digits of a magnitude. -/
structure Digits (k : Nat) (ds : List Int) : Prop where
  len : ds.length ≤ k
  small : ∀ d ∈ ds, D32 d
  last : ∀ l d, ds = l ++ [d] → d ≠ 0

def Mag (k : Nat) (v : PV) : Prop := ∃ ds, v = .slice (U ds) ∧ Digits k ds

theorem trimL_digits : ∀ (k : Nat) (ds : List Int), ds.length ≤ k → (∀ d ∈ ds, D32 d) → Digits k (trimL ds)
  | 0, ds, h, _ => by
    obtain rfl : ds = [] := List.length_eq_zero_iff.1 (by omega)
    exact ⟨Nat.le_refl _, fun d h => by simp [trimL] at h, fun l d h => by simp [trimL] at h⟩
  | k + 1, ds, h, hd => by
    rcases List.eq_nil_or_concat ds with rfl | ⟨l, d, rfl⟩
    · exact ⟨by simp [trimL], fun d h => by simp [trimL] at h, fun l d h => by simp [trimL] at h⟩
    · rw [List.concat_eq_append] at h hd ⊢
      by_cases h0 : d = 0
      · subst h0
        rw [trimL_zero]
        have := trimL_digits k l (by simp at h; omega) fun d h => hd d (by simp [h])
        exact ⟨Nat.le_succ_of_le this.len, this.small, this.last⟩
      · rw [trimL_pos _ h0]
        exact ⟨h, hd, fun l' d' e => by
          have := List.append_inj' e rfl
          simp at this
          rw [← this.2]; exact h0⟩

theorem Digits.trim {k : Nat} {ds : List Int} (h : Digits k ds) : trimL ds = ds := by
  rcases List.eq_nil_or_concat ds with rfl | ⟨l, d, rfl⟩
  · rfl
  · rw [List.concat_eq_append]
    exact trimL_pos _ (h.last l d (List.concat_eq_append))

theorem Digits.mono {k m : Nat} {ds : List Int} (h : Digits k ds) (hm : k ≤ m) : Digits m ds := ⟨Nat.le_trans h.len hm, h.small, h.last⟩

theorem mag_trim {k : Nat} {ds : List Int} (h : ds.length ≤ k) (hd : ∀ d ∈ ds, D32 d) : Mag k (.slice (U (trimL ds))) := ⟨_, rfl, trimL_digits k ds h hd⟩

theorem trim_env : EnvOk prog G (envOf [(144, trimFn)]) := envOf_ok fun p hp => by
  simp only [List.mem_singleton] at hp
  subst hp
  exact sum_trim144

set_option maxRecDepth 100000 in
theorem gives_scale (v : PV) (k : Nat) (b p : Int) (hk : k ≤ 2) (hv : v = .nil ∨ Mag k v) : Gives G 112 [v, .int .u32 b, .int .u32 p] (Mag (k + 1)) := by
  have key : ∀ xs : List Int, xs.length ≤ k + 1 → (∀ d ∈ xs, D32 d) → (∃ n, evalSum prog (envOf [(144, trimFn)]) G A0 n 112 [v, .int .u32 b, .int .u32 p] = some (.slice (U (trimL xs)))) →
      Gives G 112 [v, .int .u32 b, .int .u32 p] (Mag (k + 1)) :=
    fun xs h1 h2 h3 => ⟨_, mag_trim h1 h2, sum_row trim_env h3 func112 (by kernel_rfl) (by decide)⟩
  have hds : v = .nil ∨ v = .slice [] ∨ (∃ a, 1 ≤ k ∧ v = .slice [.int .u32 a]) ∨ ∃ a c, 2 ≤ k ∧ v = .slice [.int .u32 a, .int .u32 c] := by
    rcases hv with h | ⟨ds, rfl, h⟩
    · exact .inl h
    · have := h.len
      match ds, this with
      | [], _ => exact .inr (.inl rfl)
      | [a], h => exact .inr (.inr (.inl ⟨a, h, rfl⟩))
      | [a, c], h => exact .inr (.inr (.inr ⟨a, c, h, rfl⟩))
      | _ :: _ :: _ :: _, h => simp at h; omega
  clear hv
  rcases hds with rfl | rfl | ⟨a, ha, rfl⟩ | ⟨a, c, hc, rfl⟩
  · refine key [_] (by simp) (fun d hd => ?_) ⟨0 + 7, by simp [evalSum, call_succ, loop_succ, callWith, loopWith, gc, restrict, resultsP, oneP, startT, evalCode, evalRegion, seqOps, wantedP, stepOp, callOf, evalOp, lkIn, lookT, putT, ofValue, ofCell, binP, intBin, shiftBin, unP, St.apply, addFr, beq_lit, blt_lit, ble_lit, lenT, lenPV, und3, und25, und231, und232, indexAddrOp, size231, cells_int, cells_bool, cells_str, cells_slice, cells_nil, cells_agg, cells_own, loadOp, subLoad, agg231, makeSliceOp, convP, w0, w1, w2, w3, w4, wm, n0, n1, n2, n3, n4, repeatP, ok_int, ok_bool, ok_slice, ok_nil, ok_own, zero231, bytes231, Go.Pi.look, firstRegion, storeOp, subStore, upd, St.hp, St.fz, memB, envCall, envOf, orE, oneRow, reifyL, mapR, reify, reifyN, reifyW, reifyWL, PV.pureB, PV.pureL, U_pure, drawOps, drawOp, okOut, touch, Out.wrote, logOk, share, inOrder, PV.ids, PV.idsL, ann112, func112, f112, trimFn_1]; rfl⟩
    simp only [List.mem_singleton] at hd; rw [hd]; exact d32_wrap _
  · refine key [_] (by simp) (fun d hd => ?_) ⟨0 + 7, by simp [evalSum, call_succ, loop_succ, callWith, loopWith, gc, restrict, resultsP, oneP, startT, evalCode, evalRegion, seqOps, wantedP, stepOp, callOf, evalOp, lkIn, lookT, putT, ofValue, ofCell, binP, intBin, shiftBin, unP, St.apply, addFr, beq_lit, blt_lit, ble_lit, lenT, lenPV, und3, und25, und231, und232, indexAddrOp, size231, cells_int, cells_bool, cells_str, cells_slice, cells_nil, cells_agg, cells_own, loadOp, subLoad, agg231, makeSliceOp, convP, w0, w1, w2, w3, w4, wm, n0, n1, n2, n3, n4, repeatP, ok_int, ok_bool, ok_slice, ok_nil, ok_own, zero231, bytes231, Go.Pi.look, firstRegion, storeOp, subStore, upd, St.hp, St.fz, memB, envCall, envOf, orE, oneRow, reifyL, mapR, reify, reifyN, reifyW, reifyWL, PV.pureB, PV.pureL, U_pure, drawOps, drawOp, okOut, touch, Out.wrote, logOk, share, inOrder, PV.ids, PV.idsL, ann112, func112, f112, trimFn_1]; rfl⟩
    simp only [List.mem_singleton] at hd; rw [hd]; exact d32_wrap _
  · refine key [_, _] (by simp; omega) (fun d hd => ?_) ⟨0 + 7, by simp [evalSum, call_succ, loop_succ, callWith, loopWith, gc, restrict, resultsP, oneP, startT, evalCode, evalRegion, seqOps, wantedP, stepOp, callOf, evalOp, lkIn, lookT, putT, ofValue, ofCell, binP, intBin, shiftBin, unP, St.apply, addFr, beq_lit, blt_lit, ble_lit, lenT, lenPV, und3, und25, und231, und232, indexAddrOp, size231, cells_int, cells_bool, cells_str, cells_slice, cells_nil, cells_agg, cells_own, loadOp, subLoad, agg231, makeSliceOp, convP, w0, w1, w2, w3, w4, wm, n0, n1, n2, n3, n4, repeatP, ok_int, ok_bool, ok_slice, ok_nil, ok_own, zero231, bytes231, Go.Pi.look, firstRegion, storeOp, subStore, upd, St.hp, St.fz, memB, envCall, envOf, orE, oneRow, reifyL, mapR, reify, reifyN, reifyW, reifyWL, PV.pureB, PV.pureL, U_pure, drawOps, drawOp, okOut, touch, Out.wrote, logOk, share, inOrder, PV.ids, PV.idsL, ann112, func112, f112, trimFn_2]; rfl⟩
    simp only [List.mem_cons, List.mem_nil_iff, or_false] at hd; rcases hd with hd | hd <;> rw [hd] <;> exact d32_wrap _
  · refine key [_, _, _] (by simp; omega) (fun d hd => ?_) ⟨0 + 7, by simp [evalSum, call_succ, loop_succ, callWith, loopWith, gc, restrict, resultsP, oneP, startT, evalCode, evalRegion, seqOps, wantedP, stepOp, callOf, evalOp, lkIn, lookT, putT, ofValue, ofCell, binP, intBin, shiftBin, unP, St.apply, addFr, beq_lit, blt_lit, ble_lit, lenT, lenPV, und3, und25, und231, und232, indexAddrOp, size231, cells_int, cells_bool, cells_str, cells_slice, cells_nil, cells_agg, cells_own, loadOp, subLoad, agg231, makeSliceOp, convP, w0, w1, w2, w3, w4, wm, n0, n1, n2, n3, n4, repeatP, ok_int, ok_bool, ok_slice, ok_nil, ok_own, zero231, bytes231, Go.Pi.look, firstRegion, storeOp, subStore, upd, St.hp, St.fz, memB, envCall, envOf, orE, oneRow, reifyL, mapR, reify, reifyN, reifyW, reifyWL, PV.pureB, PV.pureL, U_pure, drawOps, drawOp, okOut, touch, Out.wrote, logOk, share, inOrder, PV.ids, PV.idsL, ann112, func112, f112, trimFn_3]; rfl⟩
    simp only [List.mem_cons, List.mem_nil_iff, or_false] at hd; rcases hd with hd | hd | hd <;> rw [hd] <;> exact d32_wrap _
end Go.Proofs.Tryz

/- The interpreter on symbols: integer.signed, order, Compare, short. -/
namespace Go.Proofs.Tryz
open Go Go.Pi
variable [Hole] {G : Nat → Option PV} {env : Env}
set_option linter.unusedSectionVars false
set_option linter.unusedSimpArgs false

theorem ann114 : ∃ d, A0 114 = some ⟨[0,1], [(6,[5,0,1])], d⟩ ∧ d = [(8,[0,0,3,7,0,0,48,112,255]),(9,[0,0,3,7,0,0,48,112,255])] := ⟨_, by kernel_rfl, rfl⟩
theorem ann145 : A0 145 = some ⟨[0,1], [(4,[8,7,1,6,0])], []⟩ := by kernel_rfl
theorem ann59 : A0 59 = some ⟨[0,1], [], []⟩ := by kernel_rfl
theorem U_len (ds : List Int) : (U ds).length = ds.length := by simp [U]
theorem trimFn_U (ds : List Int) (h : ds.length < 1000) : trimFn [.slice (U ds)] = some (.slice (U (trimL ds))) := by
  have : ∀ ds : List Int, decI (U ds) = some ds := fun ds => by
    induction ds with
    | nil => rfl
    | cons d ds ih =>
      show decI (.int .u32 d :: U ds) = some (d :: ds)
      simp [decI, ih]
  simp [trimFn, U_len, blt_lit, h, this]

theorem guard_bool (t : TypeId) (p q a b : Bool) : guardB prog t p q (.bool a) (.bool b) = true := rfl
theorem eq_bool (n : Nat) (a b : Bool) : eqPV prog (n + 1) 4 (.bool a) (.bool b) = some (a == b) := by simp [eqPV, underlying4]

def intP (b : Bool) (ds : List Int) : PV := .agg [.bool b, .slice (U ds)]

set_option maxRecDepth 100000 in
theorem gives_signed (b : Bool) (ds : List Int) (k : Nat) (h : Digits k ds) (hk : k < 1000) : Gives G 113 [.bool b, .slice (U ds)] (fun r => ∃ b', r = intP b' ds) := by
  have hl : ds.length < 1000 := Nat.lt_of_le_of_lt h.len hk
  have ht := trimFn_U ds hl
  rw [h.trim] at ht
  refine ⟨intP (b && decide (0 < ds.length)) ds, ⟨_, rfl⟩, sum_row trim_env ⟨0 + 3, ?_⟩ func113 (by kernel_rfl) (by decide)⟩
  cases b <;> simp [evalSum, call_succ, loop_succ, callWith, loopWith, gc, restrict, resultsP, oneP, startT, evalCode, evalRegion, seqOps, wantedP, stepOp, callOf, evalOp, lkIn, lookT, putT, ofValue, ofCell, binP, intBin, shiftBin, unP, St.apply, addFr, beq_lit, blt_lit, ble_lit, lenT, lenPV, und3, und25, und231, und232, indexAddrOp, size231, cells_int, cells_bool, cells_str, cells_slice, cells_nil, cells_agg, cells_own, loadOp, subLoad, agg231, makeSliceOp, convP, w0, w1, w2, w3, w4, wm, n0, n1, n2, n3, n4, repeatP, ok_int, ok_bool, ok_slice, ok_nil, ok_own, zero231, bytes231, Go.Pi.look, firstRegion, storeOp, subStore, upd, St.hp, St.fz, memB, envCall, envOf, orE, oneRow, reifyL, mapR, reify, reifyN, reifyW, reifyWL, PV.pureB, PV.pureL, U_pure, drawOps, drawOp, okOut, touch, Out.wrote, logOk, share, inOrder, PV.ids, PV.idsL, ann113, func113, f113, ht, intP, underlying27, zero27, size27, size4, size25, agg27, agg4, agg25, buildOp, sizesOk, placesOf, structPlace, spliceP, PV.isTop, U_len]

set_option maxRecDepth 100000 in
theorem order_01 (v : Int) : evalSum prog env G A0 (0 + 4) 114 [.slice [], .slice [.int .u32 v]] = some (.int .i64 (-1)) := by
  obtain ⟨d, ha, _⟩ := ann114
  simp [evalSum, call_succ, loop_succ, callWith, loopWith, gc, restrict, resultsP, oneP, startT, evalCode, evalRegion, seqOps, wantedP, stepOp, callOf, evalOp, lkIn, lookT, putT, ofValue, ofCell, binP, intBin, shiftBin, unP, St.apply, addFr, beq_lit, blt_lit, ble_lit, lenT, lenPV, und3, und25, und231, und232, indexAddrOp, size231, cells_int, cells_bool, cells_str, cells_slice, cells_nil, cells_agg, cells_own, loadOp, subLoad, agg231, makeSliceOp, convP, w0, w1, w2, w3, w4, wm, n0, n1, n2, n3, n4, repeatP, ok_int, ok_bool, ok_slice, ok_nil, ok_own, zero231, bytes231, Go.Pi.look, firstRegion, storeOp, subStore, upd, St.hp, St.fz, memB, envCall, envOf, orE, oneRow, reifyL, mapR, reify, reifyN, reifyW, reifyWL, PV.pureB, PV.pureL, U_pure, drawOps, drawOp, okOut, touch, Out.wrote, logOk, share, inOrder, PV.ids, PV.idsL, ha, func114, f114]
set_option maxRecDepth 100000 in
theorem order_02 (v w : Int) : evalSum prog env G A0 (0 + 4) 114 [.slice [], .slice [.int .u32 v, .int .u32 w]] = some (.int .i64 (-1)) := by
  obtain ⟨d, ha, _⟩ := ann114
  simp [evalSum, call_succ, loop_succ, callWith, loopWith, gc, restrict, resultsP, oneP, startT, evalCode, evalRegion, seqOps, wantedP, stepOp, callOf, evalOp, lkIn, lookT, putT, ofValue, ofCell, binP, intBin, shiftBin, unP, St.apply, addFr, beq_lit, blt_lit, ble_lit, lenT, lenPV, und3, und25, und231, und232, indexAddrOp, size231, cells_int, cells_bool, cells_str, cells_slice, cells_nil, cells_agg, cells_own, loadOp, subLoad, agg231, makeSliceOp, convP, w0, w1, w2, w3, w4, wm, n0, n1, n2, n3, n4, repeatP, ok_int, ok_bool, ok_slice, ok_nil, ok_own, zero231, bytes231, Go.Pi.look, firstRegion, storeOp, subStore, upd, St.hp, St.fz, memB, envCall, envOf, orE, oneRow, reifyL, mapR, reify, reifyN, reifyW, reifyWL, PV.pureB, PV.pureL, U_pure, drawOps, drawOp, okOut, touch, Out.wrote, logOk, share, inOrder, PV.ids, PV.idsL, ha, func114, f114]
set_option maxRecDepth 100000 in
theorem order_12 (a v w : Int) : evalSum prog env G A0 (0 + 4) 114 [.slice [.int .u32 a], .slice [.int .u32 v, .int .u32 w]] = some (.int .i64 (-1)) := by
  obtain ⟨d, ha, _⟩ := ann114
  simp [evalSum, call_succ, loop_succ, callWith, loopWith, gc, restrict, resultsP, oneP, startT, evalCode, evalRegion, seqOps, wantedP, stepOp, callOf, evalOp, lkIn, lookT, putT, ofValue, ofCell, binP, intBin, shiftBin, unP, St.apply, addFr, beq_lit, blt_lit, ble_lit, lenT, lenPV, und3, und25, und231, und232, indexAddrOp, size231, cells_int, cells_bool, cells_str, cells_slice, cells_nil, cells_agg, cells_own, loadOp, subLoad, agg231, makeSliceOp, convP, w0, w1, w2, w3, w4, wm, n0, n1, n2, n3, n4, repeatP, ok_int, ok_bool, ok_slice, ok_nil, ok_own, zero231, bytes231, Go.Pi.look, firstRegion, storeOp, subStore, upd, St.hp, St.fz, memB, envCall, envOf, orE, oneRow, reifyL, mapR, reify, reifyN, reifyW, reifyWL, PV.pureB, PV.pureL, U_pure, drawOps, drawOp, okOut, touch, Out.wrote, logOk, share, inOrder, PV.ids, PV.idsL, ha, func114, f114]
set_option maxRecDepth 100000 in
theorem order_21 (a c v : Int) : evalSum prog env G A0 (0 + 4) 114 [.slice [.int .u32 a, .int .u32 c], .slice [.int .u32 v]] = some (.int .i64 1) := by
  obtain ⟨d, ha, _⟩ := ann114
  simp [evalSum, call_succ, loop_succ, callWith, loopWith, gc, restrict, resultsP, oneP, startT, evalCode, evalRegion, seqOps, wantedP, stepOp, callOf, evalOp, lkIn, lookT, putT, ofValue, ofCell, binP, intBin, shiftBin, unP, St.apply, addFr, beq_lit, blt_lit, ble_lit, lenT, lenPV, und3, und25, und231, und232, indexAddrOp, size231, cells_int, cells_bool, cells_str, cells_slice, cells_nil, cells_agg, cells_own, loadOp, subLoad, agg231, makeSliceOp, convP, w0, w1, w2, w3, w4, wm, n0, n1, n2, n3, n4, repeatP, ok_int, ok_bool, ok_slice, ok_nil, ok_own, zero231, bytes231, Go.Pi.look, firstRegion, storeOp, subStore, upd, St.hp, St.fz, memB, envCall, envOf, orE, oneRow, reifyL, mapR, reify, reifyN, reifyW, reifyWL, PV.pureB, PV.pureL, U_pure, drawOps, drawOp, okOut, touch, Out.wrote, logOk, share, inOrder, PV.ids, PV.idsL, ha, func114, f114]

set_option maxRecDepth 100000 in
theorem order_11 (a v : Int) : evalSum prog env G A0 (0 + 4) 114 [.slice [.int .u32 a], .slice [.int .u32 v]] = some (.int .i64 (if a = v then 0 else if a < v then -1 else 1)) := by
  obtain ⟨d, ha, hd⟩ := ann114
  subst hd
  by_cases h1 : a = v
  · simp [evalSum, call_succ, loop_succ, callWith, loopWith, gc, restrict, resultsP, oneP, startT, evalCode, evalRegion, seqOps, wantedP, stepOp, callOf, evalOp, lkIn, lookT, putT, ofValue, ofCell, binP, intBin, shiftBin, unP, St.apply, addFr, beq_lit, blt_lit, ble_lit, lenT, lenPV, und3, und25, und231, und232, indexAddrOp, size231, cells_int, cells_bool, cells_str, cells_slice, cells_nil, cells_agg, cells_own, loadOp, subLoad, agg231, makeSliceOp, convP, w0, w1, w2, w3, w4, wm, n0, n1, n2, n3, n4, repeatP, ok_int, ok_bool, ok_slice, ok_nil, ok_own, zero231, bytes231, Go.Pi.look, firstRegion, storeOp, subStore, upd, St.hp, St.fz, memB, envCall, envOf, orE, oneRow, reifyL, mapR, reify, reifyN, reifyW, reifyWL, PV.pureB, PV.pureL, U_pure, drawOps, drawOp, okOut, touch, Out.wrote, logOk, share, inOrder, PV.ids, PV.idsL, ha, func114, f114, h1]
  · have hne : (a != v) = true := by simpa using h1
    by_cases h2 : a < v
    · simp [evalSum, call_succ, loop_succ, callWith, loopWith, gc, restrict, resultsP, oneP, startT, evalCode, evalRegion, seqOps, wantedP, stepOp, callOf, evalOp, lkIn, lookT, putT, ofValue, ofCell, binP, intBin, shiftBin, unP, St.apply, addFr, beq_lit, blt_lit, ble_lit, lenT, lenPV, und3, und25, und231, und232, indexAddrOp, size231, cells_int, cells_bool, cells_str, cells_slice, cells_nil, cells_agg, cells_own, loadOp, subLoad, agg231, makeSliceOp, convP, w0, w1, w2, w3, w4, wm, n0, n1, n2, n3, n4, repeatP, ok_int, ok_bool, ok_slice, ok_nil, ok_own, zero231, bytes231, Go.Pi.look, firstRegion, storeOp, subStore, upd, St.hp, St.fz, memB, envCall, envOf, orE, oneRow, reifyL, mapR, reify, reifyN, reifyW, reifyWL, PV.pureB, PV.pureL, U_pure, drawOps, drawOp, okOut, touch, Out.wrote, logOk, share, inOrder, PV.ids, PV.idsL, ha, func114, f114, h1, hne, h2]
    · simp [evalSum, call_succ, loop_succ, callWith, loopWith, gc, restrict, resultsP, oneP, startT, evalCode, evalRegion, seqOps, wantedP, stepOp, callOf, evalOp, lkIn, lookT, putT, ofValue, ofCell, binP, intBin, shiftBin, unP, St.apply, addFr, beq_lit, blt_lit, ble_lit, lenT, lenPV, und3, und25, und231, und232, indexAddrOp, size231, cells_int, cells_bool, cells_str, cells_slice, cells_nil, cells_agg, cells_own, loadOp, subLoad, agg231, makeSliceOp, convP, w0, w1, w2, w3, w4, wm, n0, n1, n2, n3, n4, repeatP, ok_int, ok_bool, ok_slice, ok_nil, ok_own, zero231, bytes231, Go.Pi.look, firstRegion, storeOp, subStore, upd, St.hp, St.fz, memB, envCall, envOf, orE, oneRow, reifyL, mapR, reify, reifyN, reifyW, reifyWL, PV.pureB, PV.pureL, U_pure, drawOps, drawOp, okOut, touch, Out.wrote, logOk, share, inOrder, PV.ids, PV.idsL, ha, func114, f114, h1, hne, h2]

/-- Whatever two magnitudes hold, they are compared. -/
theorem no_env : EnvOk prog G (fun _ => none) := fun f F h => by cases h

/-- How two magnitudes compare, where not both are of two digits. -/
theorem gives_order (x y : List Int) (hx : x.length ≤ 2) (hy : 1 ≤ y.length ∧ y.length ≤ 2) (hxy : x.length + y.length ≤ 3) :
    ∃ c : Int, Sum prog G 114 (oneRow [.slice (U x), .slice (U y)] (.int .i64 c)) ∧ (c < 0 → x.length < y.length ∨ ∃ a v, x = [a] ∧ y = [v] ∧ a < v) ∧ (¬ c < 0 → y.length = 1 ∧ x ≠ []) := by
  have key : ∀ c, (∃ n, evalSum prog (fun _ => none) G A0 n 114 [.slice (U x), .slice (U y)] = some (.int .i64 c)) → Sum prog G 114 (oneRow [.slice (U x), .slice (U y)] (.int .i64 c)) :=
    fun c h => sum_row no_env h func114 (by kernel_rfl) (by decide)
  match x, y, hx, hy, hxy with
  | [], [v], _, _, _ => exact ⟨-1, key _ ⟨_, order_01 v⟩, fun _ => .inl (by simp), fun h => absurd (by decide) h⟩
  | [], [v, w], _, _, _ => exact ⟨-1, key _ ⟨_, order_02 v w⟩, fun _ => .inl (by simp), fun h => absurd (by decide) h⟩
  | [a], [v, w], _, _, _ => exact ⟨-1, key _ ⟨_, order_12 a v w⟩, fun _ => .inl (by simp), fun h => absurd (by decide) h⟩
  | [a, c], [v], _, _, _ => exact ⟨1, key _ ⟨_, order_21 a c v⟩, fun h => absurd h (by decide), fun h => ⟨rfl, by simp⟩⟩
  | [a], [v], _, _, _ =>
    refine ⟨_, key _ ⟨_, order_11 a v⟩, fun h => ?_, fun _ => ⟨rfl, by simp⟩⟩
    split at h
    · omega
    · split at h
      · rename_i h'; exact .inr ⟨a, v, rfl, rfl, h'⟩
      · omega
  | [a, c], [v, w], _, _, h => simp at h
  | _ :: _ :: _ :: _, _, h, _, _ => simp at h
  | _, [], _, h, _ => simp at h
  | _, _ :: _ :: _ :: _, _, h, _ => simp at h

set_option maxRecDepth 100000 in
/-- A number is compared with one. -/
theorem gives_compare (b : Bool) (x : List Int) (hx : x.length ≤ 2) : Gives G 59 [intP b x, intP false [1]] (fun r => ∃ c : Int, r = .int .i64 c) := by
  obtain ⟨c, hc, _⟩ := gives_order (G := G) x [1] hx (by simp) (by simp; omega)
  have hE : EnvOk prog G (envOf [(114, oneRow [.slice (U x), .slice (U [1])] (.int .i64 c))]) := envOf_ok fun p hp => by
    simp only [List.mem_singleton] at hp
    subst hp; exact hc
  cases b
  · refine ⟨_, ⟨c, rfl⟩, sum_row hE ⟨0 + 3, ?_⟩ func59 (by kernel_rfl) (by decide)⟩
    simp [evalSum, call_succ, loop_succ, callWith, loopWith, gc, restrict, resultsP, oneP, startT, evalCode, evalRegion, seqOps, wantedP, stepOp, callOf, evalOp, lkIn, lookT, putT, ofValue, ofCell, binP, intBin, shiftBin, unP, St.apply, addFr, beq_lit, blt_lit, ble_lit, lenT, lenPV, und3, und25, und231, und232, indexAddrOp, size231, cells_int, cells_bool, cells_str, cells_slice, cells_nil, cells_agg, cells_own, loadOp, subLoad, agg231, makeSliceOp, convP, w0, w1, w2, w3, w4, wm, n0, n1, n2, n3, n4, repeatP, ok_int, ok_bool, ok_slice, ok_nil, ok_own, zero231, bytes231, Go.Pi.look, firstRegion, storeOp, subStore, upd, St.hp, St.fz, memB, envCall, envOf, orE, oneRow, reifyL, mapR, reify, reifyN, reifyW, reifyWL, PV.pureB, PV.pureL, U_pure, drawOps, drawOp, okOut, touch, Out.wrote, logOk, share, inOrder, PV.ids, PV.idsL, ann59, func59, f59, intP, fieldAddrOp, underlying27, size4, size25, agg4, agg25, PV.cells, guard_bool, eq_bool]
  · refine ⟨_, ⟨-1, rfl⟩, sum_row hE ⟨0 + 3, ?_⟩ func59 (by kernel_rfl) (by decide)⟩
    simp [evalSum, call_succ, loop_succ, callWith, loopWith, gc, restrict, resultsP, oneP, startT, evalCode, evalRegion, seqOps, wantedP, stepOp, callOf, evalOp, lkIn, lookT, putT, ofValue, ofCell, binP, intBin, shiftBin, unP, St.apply, addFr, beq_lit, blt_lit, ble_lit, lenT, lenPV, und3, und25, und231, und232, indexAddrOp, size231, cells_int, cells_bool, cells_str, cells_slice, cells_nil, cells_agg, cells_own, loadOp, subLoad, agg231, makeSliceOp, convP, w0, w1, w2, w3, w4, wm, n0, n1, n2, n3, n4, repeatP, ok_int, ok_bool, ok_slice, ok_nil, ok_own, zero231, bytes231, Go.Pi.look, firstRegion, storeOp, subStore, upd, St.hp, St.fz, memB, envCall, envOf, orE, oneRow, reifyL, mapR, reify, reifyN, reifyW, reifyWL, PV.pureB, PV.pureL, U_pure, drawOps, drawOp, okOut, touch, Out.wrote, logOk, share, inOrder, PV.ids, PV.idsL, ann59, func59, f59, intP, fieldAddrOp, underlying27, size4, size25, agg4, agg25, PV.cells, guard_bool, eq_bool]

end Go.Proofs.Tryz

/- The interpreter on symbols: integer.short, divide, Gcd. -/
namespace Go.Proofs.Tryz
open Go Go.Pi
variable [Hole] {G : Nat → Option PV} {env : Env}
set_option linter.unusedSectionVars false
set_option linter.unusedSimpArgs false

theorem ann115 : A0 115 = some ⟨[0,1], [(10, [11,10,4,9,8])], []⟩ := by kernel_rfl

theorem rest_lt (x v : Int) (hv : 0 < v ∧ v < 4294967296) : 0 ≤ IntKind.u32.wrap ((IntKind.u64.wrap x).tmod v) ∧ IntKind.u32.wrap ((IntKind.u64.wrap x).tmod v) < v := by
  have h1 : 0 ≤ IntKind.u64.wrap x := by
    simp only [IntKind.wrap, IntKind.bits, IntKind.signed]; simp; omega
  have h2 : 0 ≤ (IntKind.u64.wrap x).tmod v := Int.tmod_nonneg _ h1
  have h3 : (IntKind.u64.wrap x).tmod v < v := Int.tmod_lt_of_pos _ hv.1
  rw [IntWalk.u32_in _ (by omega)]
  exact ⟨h2, h3⟩

set_option maxRecDepth 100000 in
theorem gives_short (x : List Int) (v : Int) (hx : 1 ≤ x.length ∧ x.length ≤ 2) (hv : 0 < v ∧ v < 4294967296) :
    Gives G 145 [.slice (U x), .int .u32 v] (fun r => ∃ q d, r = .tuple [.slice q, .int .u32 d] ∧ 0 ≤ d ∧ d < v) := by
  have hw : IntKind.u64.wrap v = v := IntWalk.u64_in _ (by omega)
  have hb : (v == 0) = false := by simpa using (by omega : v ≠ 0)
  have hz : ¬ v = 0 := by omega
  have key : ∀ r, (∃ q d, r = .tuple [.slice q, .int .u32 d] ∧ 0 ≤ d ∧ d < v) → (∃ n, evalSum prog (envOf [(144, trimFn)]) G A0 n 145 [.slice (U x), .int .u32 v] = some r) → Gives G 145 [.slice (U x), .int .u32 v] (fun r => ∃ q d, r = .tuple [.slice q, .int .u32 d] ∧ 0 ≤ d ∧ d < v) :=
    fun r h1 h2 => ⟨r, h1, sum_row trim_env h2 func145 (by kernel_rfl) (by decide)⟩
  match x, hx with
  | [a], _ =>
    refine key _ ?_ ⟨0 + 8, by simp [U, evalSum, call_succ, loop_succ, callWith, loopWith, gc, restrict, resultsP, oneP, startT, evalCode, evalRegion, seqOps, wantedP, stepOp, callOf, evalOp, lkIn, lookT, putT, ofValue, ofCell, binP, intBin, shiftBin, unP, St.apply, addFr, beq_lit, blt_lit, ble_lit, lenT, lenPV, und3, und25, und231, und232, indexAddrOp, size231, cells_int, cells_bool, cells_str, cells_slice, cells_nil, cells_agg, cells_own, loadOp, subLoad, agg231, makeSliceOp, convP, w0, w1, w2, w3, w4, wm, n0, n1, n2, n3, n4, repeatP, ok_int, ok_bool, ok_slice, ok_nil, ok_own, zero231, bytes231, Go.Pi.look, firstRegion, storeOp, subStore, upd, St.hp, St.fz, memB, envCall, envOf, orE, oneRow, reifyL, mapR, reify, reifyN, reifyW, reifyWL, PV.pureB, PV.pureL, U_pure, drawOps, drawOp, okOut, touch, Out.wrote, logOk, share, inOrder, PV.ids, PV.idsL, ann145, func145, f145, trimFn_1, hw, hb, hz]; rfl⟩
    exact ⟨_, _, rfl, rest_lt _ _ hv⟩
  | [a, c], _ =>
    refine key _ ?_ ⟨0 + 8, by simp [U, evalSum, call_succ, loop_succ, callWith, loopWith, gc, restrict, resultsP, oneP, startT, evalCode, evalRegion, seqOps, wantedP, stepOp, callOf, evalOp, lkIn, lookT, putT, ofValue, ofCell, binP, intBin, shiftBin, unP, St.apply, addFr, beq_lit, blt_lit, ble_lit, lenT, lenPV, und3, und25, und231, und232, indexAddrOp, size231, cells_int, cells_bool, cells_str, cells_slice, cells_nil, cells_agg, cells_own, loadOp, subLoad, agg231, makeSliceOp, convP, w0, w1, w2, w3, w4, wm, n0, n1, n2, n3, n4, repeatP, ok_int, ok_bool, ok_slice, ok_nil, ok_own, zero231, bytes231, Go.Pi.look, firstRegion, storeOp, subStore, upd, St.hp, St.fz, memB, envCall, envOf, orE, oneRow, reifyL, mapR, reify, reifyN, reifyW, reifyWL, PV.pureB, PV.pureL, U_pure, drawOps, drawOp, okOut, touch, Out.wrote, logOk, share, inOrder, PV.ids, PV.idsL, ann145, func145, f145, trimFn_2, hw, hb, hz]; rfl⟩
    exact ⟨_, _, rfl, rest_lt _ _ hv⟩

/-- What is said of a quotient and its rest. -/
def DivOk (y : List Int) (r : PV) : Prop := ∃ q R, r = .tuple [q, .slice (U R)] ∧ q.pureB = true ∧ Digits 2 R ∧ (∀ v, y = [v] → R = [] ∨ ∃ r, R = [r] ∧ 0 ≤ r ∧ r < v) ∧ (y.length = 2 → R.length ≤ 1)

set_option maxRecDepth 100000 in
theorem gives_divide (x y : List Int) (hx : Digits 2 x) (hy : Digits 2 y) (hn : y ≠ []) (hxy : x.length + y.length ≤ 3) :
    Gives G 115 [.slice (U x), .slice (U y)] (DivOk y) := by
  have hy1 : 1 ≤ y.length := by cases y with | nil => exact absurd rfl hn | cons => simp
  obtain ⟨c, hc, hneg, hpos⟩ := gives_order (G := G) x y hx.len ⟨hy1, hy.len⟩ hxy
  by_cases h0 : c < 0
  · have hE : EnvOk prog G (envOf [(114, oneRow [.slice (U x), .slice (U y)] (.int .i64 c))]) := envOf_ok fun p hp => by
      simp only [List.mem_singleton] at hp
      subst hp; exact hc
    refine ⟨.tuple [.nil, .slice (U x)], ⟨.nil, x, rfl, rfl, hx, fun v hv => ?_, fun hl => by omega⟩, sum_row hE ⟨0 + 4, ?_⟩ func115 (by kernel_rfl) (by decide)⟩
    · subst hv
      rcases hneg h0 with h | ⟨a, v', h1, h2, h3⟩
      · exact .inl (List.length_eq_zero_iff.1 (by simpa using h))
      · simp at h2
        subst h2
        exact .inr ⟨a, h1, (hx.small a (by simp [h1])).1, h3⟩
    · simp [evalSum, call_succ, loop_succ, callWith, loopWith, gc, restrict, resultsP, oneP, startT, evalCode, evalRegion, seqOps, wantedP, stepOp, callOf, evalOp, lkIn, lookT, putT, ofValue, ofCell, binP, intBin, shiftBin, unP, St.apply, addFr, beq_lit, blt_lit, ble_lit, lenT, lenPV, und3, und25, und231, und232, indexAddrOp, size231, cells_int, cells_bool, cells_str, cells_slice, cells_nil, cells_agg, cells_own, loadOp, subLoad, agg231, makeSliceOp, convP, w0, w1, w2, w3, w4, wm, n0, n1, n2, n3, n4, repeatP, ok_int, ok_bool, ok_slice, ok_nil, ok_own, zero231, bytes231, Go.Pi.look, firstRegion, storeOp, subStore, upd, St.hp, St.fz, memB, envCall, envOf, orE, oneRow, reifyL, mapR, reify, reifyN, reifyW, reifyWL, PV.pureB, PV.pureL, U_pure, drawOps, drawOp, okOut, touch, Out.wrote, logOk, share, inOrder, PV.ids, PV.idsL, ann115, func115, f115, h0]
  · obtain ⟨hl, hxn⟩ := hpos h0
    obtain ⟨v, rfl⟩ : ∃ v, y = [v] := by
      match y, hl with
      | [v], _ => exact ⟨v, rfl⟩
    have hv : 0 < v ∧ v < 4294967296 := by
      have h1 := hy.small v (by simp)
      have h2 := hy.last [] v rfl
      unfold D32 at h1; omega
    have hx1 : 1 ≤ x.length := by cases x with | nil => exact absurd rfl hxn | cons => simp
    obtain ⟨r, ⟨q, d, rfl, hd1, hd2⟩, hs⟩ := gives_short (G := G) x v ⟨hx1, hx.len⟩ hv
    have hE : EnvOk prog G (envOf [(114, oneRow [.slice (U x), .slice (U [v])] (.int .i64 c)), (145, oneRow [.slice (U x), .int .u32 v] (.tuple [.slice q, .int .u32 d])), (144, trimFn)]) := envOf_ok fun p hp => by
      simp only [List.mem_cons, List.mem_nil_iff, or_false] at hp
      rcases hp with rfl | rfl | rfl
      · exact hc
      · exact hs
      · exact sum_trim144
    have hD : Digits 2 (trimL [d]) := trimL_digits 2 [d] (by simp) fun e he => by simp at he; subst he; exact ⟨hd1, by omega⟩
    refine ⟨.tuple [.slice q, .slice (U (trimL [d]))], ⟨.slice q, _, rfl, rfl, hD, fun w hw => ?_, fun hl => by simp at hl⟩, sum_row hE ⟨0 + 4, ?_⟩ func115 (by kernel_rfl) (by decide)⟩
    · simp at hw
      subst hw
      by_cases hz : d = 0
      · subst hz; exact .inl (by simp [trimL])
      · exact .inr ⟨d, by simpa using trimL_pos [] hz, hd1, hd2⟩
    · have hU : U [v] = [.int .u32 v] := rfl
      simp [evalSum, call_succ, loop_succ, callWith, loopWith, gc, restrict, resultsP, oneP, startT, evalCode, evalRegion, seqOps, wantedP, stepOp, callOf, evalOp, lkIn, lookT, putT, ofValue, ofCell, binP, intBin, shiftBin, unP, St.apply, addFr, beq_lit, blt_lit, ble_lit, lenT, lenPV, und3, und25, und231, und232, indexAddrOp, size231, cells_int, cells_bool, cells_str, cells_slice, cells_nil, cells_agg, cells_own, loadOp, subLoad, agg231, makeSliceOp, convP, w0, w1, w2, w3, w4, wm, n0, n1, n2, n3, n4, repeatP, ok_int, ok_bool, ok_slice, ok_nil, ok_own, zero231, bytes231, Go.Pi.look, firstRegion, storeOp, subStore, upd, St.hp, St.fz, memB, envCall, envOf, orE, oneRow, reifyL, mapR, reify, reifyN, reifyW, reifyWL, PV.pureB, PV.pureL, U_pure, drawOps, drawOp, okOut, touch, Out.wrote, logOk, share, inOrder, PV.ids, PV.idsL, ann115, func115, f115, h0, hU, buildSliceOp, putParts, uniform, trimFn_1]
end Go.Proofs.Tryz

/- The interpreter on symbols: integer.Gcd. -/
namespace Go.Proofs.Tryz
open Go Go.Pi
variable [Hole] {G : Nat → Option PV} {env : Env}
set_option linter.unusedSectionVars false
set_option linter.unusedSimpArgs false

theorem U_inj : ∀ {x y : List Int}, U x = U y → x = y
  | [], [], _ => rfl
  | [], _ :: _, h => by simp [U] at h
  | _ :: _, [], h => by simp [U] at h
  | a :: x, b :: y, h => by
    have h : PV.int .u32 a :: U x = PV.int .u32 b :: U y := h
    simp only [List.cons.injEq, PV.int.injEq, true_and] at h
    rw [h.1, U_inj h.2]

open Classical in
/-- A summary by choice. -/
noncomputable def pick {G : Nat → Option PV} {f : FuncId} {D : List PV → Prop} {Q : List PV → PV → Prop} (h : ∀ vs, D vs → Gives G f vs (Q vs)) : Fn1 := fun vs => if hd : D vs then some (h vs hd).choose else none

theorem pick_sum {f : FuncId} {D : List PV → Prop} {Q : List PV → PV → Prop} (h : ∀ vs, D vs → Gives G f vs (Q vs)) (hen : Pi.Enters prog f) : Sum prog G f (pick h) := by
  refine ⟨hen, fun vs r hr => ?_⟩
  unfold pick at hr
  split at hr
  · rename_i hd
    cases hr
    exact (h vs hd).choose_spec.2.2 vs _ (by simp [oneRow])
  · cases hr

theorem pick_some {f : FuncId} {D : List PV → Prop} {Q : List PV → PV → Prop} (h : ∀ vs, D vs → Gives G f vs (Q vs)) {vs : List PV} (hd : D vs) : ∃ r, pick h vs = some r ∧ Q vs r := by
  refine ⟨(h vs hd).choose, ?_, (h vs hd).choose_spec.1⟩
  simp [pick, hd]

def DivD (vs : List PV) : Prop := ∃ x y, vs = [.slice (U x), .slice (U y)] ∧ Digits 2 x ∧ Digits 2 y ∧ y ≠ [] ∧ x.length + y.length ≤ 3
def DivQ (vs : List PV) (r : PV) : Prop := ∃ x y, vs = [.slice (U x), .slice (U y)] ∧ DivOk y r

theorem div_gives (vs : List PV) (h : DivD vs) : Gives G 115 vs (DivQ vs) := by
  obtain ⟨x, y, rfl, h1, h2, h3, h4⟩ := h
  obtain ⟨r, hr, hs⟩ := gives_divide (G := G) x y h1 h2 h3 h4
  exact ⟨r, ⟨x, y, rfl, hr⟩, hs⟩

noncomputable def divFn (G : Nat → Option PV) : Fn1 := pick (div_gives (G := G))

theorem divFn_some (x y : List Int) (h1 : Digits 2 x) (h2 : Digits 2 y) (h3 : y ≠ []) (h4 : x.length + y.length ≤ 3) : ∃ r, divFn G [.slice (U x), .slice (U y)] = some r ∧ DivOk y r := by
  obtain ⟨r, hr, x', y', he, hq⟩ := pick_some (div_gives (G := G)) (vs := [.slice (U x), .slice (U y)]) ⟨x, y, rfl, h1, h2, h3, h4⟩
  refine ⟨r, hr, ?_⟩
  simp only [List.cons.injEq, PV.slice.injEq, and_true] at he
  rw [U_inj he.2]; exact hq

theorem div_env : EnvOk prog G (envOf [(115, divFn G)]) := envOf_ok fun p hp => by
  simp only [List.mem_singleton] at hp
  subst hp
  exact pick_sum _ (enters_pi func115 (by kernel_rfl) (by decide))

theorem ann61 : A0 61 = some ⟨[0,1], [(2,[6,5,4])], [(1,[0,1,0,4,3,31])]⟩ := by kernel_rfl
noncomputable def cx61 : Cx := ⟨⟨[0,1], [(2,[6,5,4])], [(1,[0,1,0,4,3,31])]⟩, 0⟩

noncomputable def gcdBody : Code := match f61.body with
  | some (.seq _ (.seq _ (.seq (.block _ (.loop b)) _))) => b
  | _ => .skip

theorem gcd_first : firstRegion gcdBody = 2 := by kernel_rfl

set_option maxRecDepth 100000 in
theorem gcd_step (e : Evs) (x y R : List Int) (p q : PV) (k : Nat) (H : List (Nat × Ent)) (hy : y ≠ []) (hd : divFn G [.slice (U x), .slice (U y)] = some (.tuple [q, .slice (U R)])) :
    ∃ T k', evalCode prog (envOf [(115, divFn G)]) G e.call e.loop cx61 gcdBody [(6, .slice (U y)), (5, .slice (U x)), (4, p)] ⟨k, H, []⟩ = some (.normal, T, ⟨k', H, []⟩) ∧ lookT T 6 = .slice (U R) ∧ lookT T 5 = .slice (U y) ∧ lookT T 4 = p := by
  have hl : 0 < y.length := List.length_pos_iff.2 hy
  generalize hr : evalCode _ _ _ _ _ _ _ _ _ = r
  simp [evalSum, call_succ, loop_succ, callWith, loopWith, gc, restrict, resultsP, oneP, startT, evalCode, evalRegion, seqOps, wantedP, stepOp, callOf, evalOp, lkIn, lookT, putT, ofValue, ofCell, binP, intBin, shiftBin, unP, St.apply, addFr, beq_lit, blt_lit, ble_lit, lenT, lenPV, und3, und25, und231, und232, indexAddrOp, size231, cells_int, cells_bool, cells_str, cells_slice, cells_nil, cells_agg, cells_own, loadOp, subLoad, agg231, makeSliceOp, convP, w0, w1, w2, w3, w4, wm, n0, n1, n2, n3, n4, repeatP, ok_int, ok_bool, ok_slice, ok_nil, ok_own, zero231, bytes231, Go.Pi.look, firstRegion, storeOp, subStore, upd, St.hp, St.fz, memB, envCall, envOf, orE, oneRow, reifyL, mapR, reify, reifyN, reifyW, reifyWL, PV.pureB, PV.pureL, U_pure, drawOps, drawOp, okOut, touch, Out.wrote, logOk, share, inOrder, PV.ids, PV.idsL, gcdBody, f61, cx61, U_len, hl, hd] at hr
  subst hr
  exact ⟨_, _, rfl, by simp [lookT, beq_lit], by simp [lookT, beq_lit], by simp [lookT, beq_lit]⟩

set_option maxRecDepth 100000 in
theorem gcd_stop (e : Evs) (x : List Int) (p : PV) (k : Nat) (H : List (Nat × Ent)) :
    ∃ T k', evalCode prog env G e.call e.loop cx61 gcdBody [(6, .slice (U [])), (5, .slice (U x)), (4, p)] ⟨k, H, []⟩ = some (.exit 0, T, ⟨k', H, []⟩) ∧ lookT T 5 = .slice (U x) ∧ lookT T 4 = p := by
  generalize hr : evalCode _ _ _ _ _ _ _ _ _ = r
  simp [evalSum, call_succ, loop_succ, callWith, loopWith, gc, restrict, resultsP, oneP, startT, evalCode, evalRegion, seqOps, wantedP, stepOp, callOf, evalOp, lkIn, lookT, putT, ofValue, ofCell, binP, intBin, shiftBin, unP, St.apply, addFr, beq_lit, blt_lit, ble_lit, lenT, lenPV, und3, und25, und231, und232, indexAddrOp, size231, cells_int, cells_bool, cells_str, cells_slice, cells_nil, cells_agg, cells_own, loadOp, subLoad, agg231, makeSliceOp, convP, w0, w1, w2, w3, w4, wm, n0, n1, n2, n3, n4, repeatP, ok_int, ok_bool, ok_slice, ok_nil, ok_own, zero231, bytes231, Go.Pi.look, firstRegion, storeOp, subStore, upd, St.hp, St.fz, memB, envCall, envOf, orE, oneRow, reifyL, mapR, reify, reifyN, reifyW, reifyWL, PV.pureB, PV.pureL, U_pure, drawOps, drawOp, okOut, touch, Out.wrote, logOk, share, inOrder, PV.ids, PV.idsL, gcdBody, f61, cx61, U_len] at hr
  subst hr
  exact ⟨_, _, rfl, by simp [lookT, beq_lit], by simp [lookT, beq_lit]⟩

theorem gcd_gc (T : Tm) (k : Nat) (H : List (Nat × Ent)) (hH : H.length < 48) : gc cx61 gcdBody T ⟨k, H, []⟩ = ([(6, lookT T 6), (5, lookT T 5), (4, lookT T 4)], ⟨k, H, []⟩) := by
  simp [gc, blt_lit, gcd_first, cx61, Go.Pi.look, restrict, beq_lit, hH]

/-- The loop of Gcd ends. -/
def GcdEnds (G : Nat → Option PV) (H : List (Nat × Ent)) (p : PV) (x y : List Int) : Prop :=
  ∃ N, ∀ (n k : Nat) (T : Tm), lookT T 6 = .slice (U y) → lookT T 5 = .slice (U x) → lookT T 4 = p →
    ∃ T' k' z, (evalN prog (envOf [(115, divFn G)]) G A0 (n + N)).loop cx61 gcdBody T ⟨k, H, []⟩ = some (.exit 0, T', ⟨k', H, []⟩) ∧ lookT T' 5 = .slice (U z) ∧ z.length ≤ 2 ∧ lookT T' 4 = p

theorem gcd_nil (H : List (Nat × Ent)) (hH : H.length < 48) (p : PV) (x : List Int) (hx : x.length ≤ 2) : GcdEnds G H p x [] := by
  refine ⟨1, fun n k T h6 h5 h4 => ?_⟩
  obtain ⟨T1, k1, h1, h2, h3⟩ := gcd_stop (G := G) (env := envOf [(115, divFn G)]) (evalN prog (envOf [(115, divFn G)]) G A0 n) x p k H
  exact ⟨T1, k1, x, by rw [loop_succ]; exact loop_end (by rw [gcd_gc _ _ _ hH, h6, h5, h4]) h1 (by simp), h2, hx, h3⟩

theorem gcd_next (H : List (Nat × Ent)) (hH : H.length < 48) (p : PV) (x y : List Int) (h1 : Digits 2 x) (h2 : Digits 2 y) (h3 : y ≠ []) (h4 : x.length + y.length ≤ 3)
    (h : ∀ q R, DivOk y (.tuple [q, .slice (U R)]) → GcdEnds G H p y R) : GcdEnds G H p x y := by
  obtain ⟨r, hr, q, R, rfl, hq, hR, hR1, hR2⟩ := divFn_some (G := G) x y h1 h2 h3 h4
  obtain ⟨N, hN⟩ := h q R ⟨q, R, rfl, hq, hR, hR1, hR2⟩
  refine ⟨N + 1, fun n k T h6 h5 h4 => ?_⟩
  obtain ⟨T1, k1, g1, g6, g5, g4⟩ := gcd_step (G := G) (evalN prog (envOf [(115, divFn G)]) G A0 (n + N)) x y R p q k H h3 hr
  obtain ⟨T', k', z, f1, f2, f3, f4⟩ := hN n k1 T1 g6 g5 g4
  refine ⟨T', k', z, ?_, f2, f3, f4⟩
  rw [← Nat.add_assoc, loop_succ]
  exact loop_next (by rw [gcd_gc _ _ _ hH, h6, h5, h4]) g1 f1

theorem digits_nil : Digits 2 [] := ⟨by simp, fun d h => by simp at h, fun l d h => by simp at h⟩

theorem gcd_one (H : List (Nat × Ent)) (hH : H.length < 48) (p : PV) : ∀ (m : Nat) (x : List Int) (v : Int), Digits 2 x → Digits 2 [v] → v.toNat < m → GcdEnds G H p x [v]
  | 0, _, _, _, _, h => absurd h (Nat.not_lt_zero _)
  | m + 1, x, v, hx, hv, hm => by
    refine gcd_next H hH p x [v] hx hv (by simp) (by have := hx.len; simp; omega) fun q R hR => ?_
    obtain ⟨q', R', he, _, hR1, hR2, _⟩ := hR
    simp only [PV.tuple.injEq, List.cons.injEq, PV.slice.injEq, and_true] at he
    obtain ⟨_, hU⟩ := he
    obtain rfl := U_inj hU
    rcases hR2 v rfl with h | ⟨r, h, h1, h2⟩
    · rw [h]; exact gcd_nil H hH p _ (by simp)
    · rw [h]
      exact gcd_one H hH p m [v] r hv (by rw [← h]; exact hR1) (by omega)

theorem gcd_ends (H : List (Nat × Ent)) (hH : H.length < 48) (p : PV) (x y : List Int) (hx : Digits 2 x) (hy : Digits 2 y) (hxy : x.length + y.length ≤ 3) : GcdEnds G H p x y := by
  match y, hy with
  | [], _ => exact gcd_nil H hH p x hx.len
  | [v], hy => exact gcd_one H hH p _ x v hx hy (Nat.lt_succ_self _)
  | [v, w], hy =>
    refine gcd_next H hH p x [v, w] hx hy (by simp) hxy fun q R hR => ?_
    obtain ⟨q', R', he, _, hR1, _, hR2⟩ := hR
    simp only [PV.tuple.injEq, List.cons.injEq, PV.slice.injEq, and_true] at he
    obtain ⟨_, hU⟩ := he
    obtain rfl := U_inj hU
    have hl := hR2 rfl
    match R, hR1, hl with
    | [], _, _ => exact gcd_nil H hH p _ (by simp)
    | [r], h, _ => exact gcd_one H hH p _ _ r hy h (Nat.lt_succ_self _)
  | _ :: _ :: _ :: _, hy => exact absurd hy.len (by simp)


noncomputable def gcdRest : Code := match f61.body with
  | some (.seq _ (.seq _ (.seq _ b))) => b
  | _ => .skip

set_option maxRecDepth 100000 in
theorem gcd_rest (e : Evs) (T : Tm) (k : Nat) (z : List Int) (x y : PV) (h5 : lookT T 5 = .slice (U z)) (h4 : lookT T 4 = .ptr 2 0 0) :
    ∃ T2 s2, evalCode prog env G e.call e.loop cx61 gcdRest T ⟨k, [(2, ⟨2, [.agg [.bool false, .nil]]⟩), (1, ⟨2, [y]⟩), (0, ⟨2, [x]⟩)], []⟩ = some (.ret, T2, s2) ∧ resultsP prog s2 T2 f61.results.toList = some [intP false z] := by
  generalize hr : evalCode _ _ _ _ _ _ _ _ _ = r
  simp [evalSum, call_succ, loop_succ, callWith, loopWith, gc, restrict, resultsP, oneP, startT, evalCode, evalRegion, seqOps, wantedP, stepOp, callOf, evalOp, lkIn, lookT, putT, ofValue, ofCell, binP, intBin, shiftBin, unP, St.apply, addFr, beq_lit, blt_lit, ble_lit, lenT, lenPV, und3, und25, und231, und232, indexAddrOp, size231, cells_int, cells_bool, cells_str, cells_slice, cells_nil, cells_agg, cells_own, loadOp, subLoad, agg231, makeSliceOp, convP, w0, w1, w2, w3, w4, wm, n0, n1, n2, n3, n4, repeatP, ok_int, ok_bool, ok_slice, ok_nil, ok_own, zero231, bytes231, Go.Pi.look, firstRegion, storeOp, subStore, upd, St.hp, St.fz, memB, envCall, envOf, orE, oneRow, reifyL, mapR, reify, reifyN, reifyW, reifyWL, PV.pureB, PV.pureL, U_pure, drawOps, drawOp, okOut, touch, Out.wrote, logOk, share, inOrder, PV.ids, PV.idsL, gcdRest, f61, h5, h4, buildOp, sizesOk, placesOf, structPlace, spliceP, PV.isTop, underlying27, zero27, size27, size4, size25] at hr
  subst hr
  exact ⟨_, _, rfl, by simp [evalSum, call_succ, loop_succ, callWith, loopWith, gc, restrict, resultsP, oneP, startT, evalCode, evalRegion, seqOps, wantedP, stepOp, callOf, evalOp, lkIn, lookT, putT, ofValue, ofCell, binP, intBin, shiftBin, unP, St.apply, addFr, beq_lit, blt_lit, ble_lit, lenT, lenPV, und3, und25, und231, und232, indexAddrOp, size231, cells_int, cells_bool, cells_str, cells_slice, cells_nil, cells_agg, cells_own, loadOp, subLoad, agg231, makeSliceOp, convP, w0, w1, w2, w3, w4, wm, n0, n1, n2, n3, n4, repeatP, ok_int, ok_bool, ok_slice, ok_nil, ok_own, zero231, bytes231, Go.Pi.look, firstRegion, storeOp, subStore, upd, St.hp, St.fz, memB, envCall, envOf, orE, oneRow, reifyL, mapR, reify, reifyN, reifyW, reifyWL, PV.pureB, PV.pureL, U_pure, drawOps, drawOp, okOut, touch, Out.wrote, logOk, share, inOrder, PV.ids, PV.idsL, f61, h4, intP, size27, agg27]⟩

set_option maxRecDepth 100000 in
theorem gives_gcd (b c : Bool) (x y : List Int) (hx : Digits 2 x) (hy : Digits 2 y) (hxy : x.length + y.length ≤ 3) : Gives G 61 [intP b x, intP c y] (fun r => ∃ z, r = intP false z ∧ z.length ≤ 2) := by
  obtain ⟨N, hN⟩ := gcd_ends (G := G) [(2, ⟨2, [.agg [.bool false, .nil]]⟩), (1, ⟨2, [intP c y]⟩), (0, ⟨2, [intP b x]⟩)] (by simp) (.ptr 2 0 0) x y hx hy hxy
  obtain ⟨T', k', z, h1, h2, h3, h4⟩ := hN 0 9 [(6, .slice (U y)), (5, .slice (U x)), (12, .slice (U y)), (11, .ptr 1 0 1), (10, .slice (U x)), (9, .ptr 0 0 1), (4, .ptr 2 0 0), (3, .ptr 1 0 0), (2, .ptr 0 0 0), (0, intP b x), (1, intP c y)]
    (by simp [lookT, beq_lit]) (by simp [lookT, beq_lit]) (by simp [lookT, beq_lit])
  obtain ⟨T2, s2, e1, e2⟩ := gcd_rest (G := G) (env := envOf [(115, divFn G)]) (evalN prog (envOf [(115, divFn G)]) G A0 (0 + N)) T' k' z (intP b x) (intP c y) h2 h4
  refine ⟨intP false z, ⟨z, rfl, h3⟩, sum_row div_env ⟨0 + N + 1, ?_⟩ func61 (by kernel_rfl) (by decide)⟩
  refine sum_of_run (c := .seq _ (.seq _ (.seq (.block 0 (.loop gcdBody)) gcdRest))) (fl := []) ann61 func61 rfl (by kernel_rfl)
    (seq_ok (T1 := [(4, .ptr 2 0 0), (3, .ptr 1 0 0), (2, .ptr 0 0 0), (0, intP b x), (1, intP c y)]) (s1 := ⟨3, [(2, ⟨2, [.agg [.bool false, .nil]]⟩), (1, ⟨2, [intP c y]⟩), (0, ⟨2, [intP b x]⟩)], []⟩) ?_
      (seq_ok ?_ (seq_ok (block_loop h1) e1))) (by simp) e2 rfl ?_
  · simp [evalSum, call_succ, loop_succ, callWith, loopWith, gc, restrict, resultsP, oneP, startT, evalCode, evalRegion, seqOps, wantedP, stepOp, callOf, evalOp, lkIn, lookT, putT, ofValue, ofCell, binP, intBin, shiftBin, unP, St.apply, addFr, beq_lit, blt_lit, ble_lit, lenT, lenPV, und3, und25, und231, und232, indexAddrOp, size231, cells_int, cells_bool, cells_str, cells_slice, cells_nil, cells_agg, cells_own, loadOp, subLoad, agg231, makeSliceOp, convP, w0, w1, w2, w3, w4, wm, n0, n1, n2, n3, n4, repeatP, ok_int, ok_bool, ok_slice, ok_nil, ok_own, zero231, bytes231, Go.Pi.look, firstRegion, storeOp, subStore, upd, St.hp, St.fz, memB, envCall, envOf, orE, oneRow, reifyL, mapR, reify, reifyN, reifyW, reifyWL, PV.pureB, PV.pureL, U_pure, drawOps, drawOp, okOut, touch, Out.wrote, logOk, share, inOrder, PV.ids, PV.idsL, intP, underlying27, zero27, size27]
  · simp [evalSum, call_succ, loop_succ, callWith, loopWith, gc, restrict, resultsP, oneP, startT, evalCode, evalRegion, seqOps, wantedP, stepOp, callOf, evalOp, lkIn, lookT, putT, ofValue, ofCell, binP, intBin, shiftBin, unP, St.apply, addFr, beq_lit, blt_lit, ble_lit, lenT, lenPV, und3, und25, und231, und232, indexAddrOp, size231, cells_int, cells_bool, cells_str, cells_slice, cells_nil, cells_agg, cells_own, loadOp, subLoad, agg231, makeSliceOp, convP, w0, w1, w2, w3, w4, wm, n0, n1, n2, n3, n4, repeatP, ok_int, ok_bool, ok_slice, ok_nil, ok_own, zero231, bytes231, Go.Pi.look, firstRegion, storeOp, subStore, upd, St.hp, St.fz, memB, envCall, envOf, orE, oneRow, reifyL, mapR, reify, reifyN, reifyW, reifyWL, PV.pureB, PV.pureL, U_pure, drawOps, drawOp, okOut, touch, Out.wrote, logOk, share, inOrder, PV.ids, PV.idsL, intP, fieldAddrOp, underlying27, size25, agg25, PV.cells, cx61]
  · simp [evalSum, call_succ, loop_succ, callWith, loopWith, gc, restrict, resultsP, oneP, startT, evalCode, evalRegion, seqOps, wantedP, stepOp, callOf, evalOp, lkIn, lookT, putT, ofValue, ofCell, binP, intBin, shiftBin, unP, St.apply, addFr, beq_lit, blt_lit, ble_lit, lenT, lenPV, und3, und25, und231, und232, indexAddrOp, size231, cells_int, cells_bool, cells_str, cells_slice, cells_nil, cells_agg, cells_own, loadOp, subLoad, agg231, makeSliceOp, convP, w0, w1, w2, w3, w4, wm, n0, n1, n2, n3, n4, repeatP, ok_int, ok_bool, ok_slice, ok_nil, ok_own, zero231, bytes231, Go.Pi.look, firstRegion, storeOp, subStore, upd, St.hp, St.fz, memB, envCall, envOf, orE, oneRow, reifyL, mapR, reify, reifyN, reifyW, reifyWL, PV.pureB, PV.pureL, U_pure, drawOps, drawOp, okOut, touch, Out.wrote, logOk, share, inOrder, PV.ids, PV.idsL, intP]
end Go.Proofs.Tryz

/- The interpreter on symbols: integer.Parse, its loops. -/
namespace Go.Proofs.Tryz
open Go Go.Pi
variable [Hole] {G : Nat → Option PV} {env : Env}
set_option linter.unusedSectionVars false
set_option linter.unusedSimpArgs false

theorem ann58 : A0 58 = some ⟨[0], [(9,[4,6,5,2]),(13,[48,47,8,4,7,6,5,2])], []⟩ := by kernel_rfl
noncomputable def cx58 : Cx := ⟨⟨[0], [(9,[4,6,5,2]),(13,[48,47,8,4,7,6,5,2])], []⟩, 0⟩

noncomputable def parseBody : Code := match f58.body with
  | some (.seq _ (.seq _ (.seq _ (.seq _ (.seq _ (.seq _ (.seq (.block _ (.loop b)) _))))))) => b
  | _ => .skip
noncomputable def parseInner : Code := match parseBody with
  | .seq _ (.block _ (.seq _ (.seq _ (.seq (.seq _ (.block _ (.loop b))) _)))) => b
  | _ => .skip

theorem parse_first : firstRegion parseBody = 9 := by kernel_rfl
theorem inner_first : firstRegion parseInner = 13 := by kernel_rfl

set_option maxRecDepth 100000 in
theorem inner_step (e : Evs) (i n : Nat) (b : Int) (v4 v7 v6 v5 v2 : PV) (k : Nat) (H : List (Nat × Ent)) (hi : i < n) (hn : n < 100) :
    ∃ T k' b', evalCode prog env G e.call e.loop cx58 parseInner [(48, .int .i64 i), (47, .int .i64 n), (8, .int .u32 b), (4, v4), (7, v7), (6, v6), (5, v5), (2, v2)] ⟨k, H, []⟩ = some (.normal, T, ⟨k', H, []⟩) ∧
      lookT T 48 = .int .i64 ((i + 1 : Nat) : Int) ∧ lookT T 47 = .int .i64 n ∧ lookT T 8 = .int .u32 b' ∧ lookT T 4 = v4 ∧ lookT T 7 = v7 ∧ lookT T 6 = v6 ∧ lookT T 5 = v5 ∧ lookT T 2 = v2 := by
  have hw : IntKind.i64.wrap ((i : Int) + 1) = (i : Int) + 1 := wrap_i64 _ (by omega)
  generalize hr : evalCode _ _ _ _ _ _ _ _ _ = r
  simp [evalSum, call_succ, loop_succ, callWith, loopWith, gc, restrict, resultsP, oneP, startT, evalCode, evalRegion, seqOps, wantedP, stepOp, callOf, evalOp, lkIn, lookT, putT, ofValue, ofCell, binP, intBin, shiftBin, unP, St.apply, addFr, beq_lit, blt_lit, ble_lit, lenT, lenPV, und3, und25, und231, und232, indexAddrOp, size231, cells_int, cells_bool, cells_str, cells_slice, cells_nil, cells_agg, cells_own, loadOp, subLoad, agg231, makeSliceOp, convP, w0, w1, w2, w3, w4, wm, n0, n1, n2, n3, n4, repeatP, ok_int, ok_bool, ok_slice, ok_nil, ok_own, zero231, bytes231, Go.Pi.look, firstRegion, storeOp, subStore, upd, St.hp, St.fz, memB, envCall, envOf, orE, oneRow, reifyL, mapR, reify, reifyN, reifyW, reifyWL, PV.pureB, PV.pureL, U_pure, drawOps, drawOp, okOut, touch, Out.wrote, logOk, share, inOrder, PV.ids, PV.idsL, parseInner, parseBody, f58, cx58, hi, hw] at hr
  subst hr
  exact ⟨_, _, _, rfl, by simp [lookT, beq_lit], by simp [lookT, beq_lit], by simp [lookT, beq_lit]; rfl, by simp [lookT, beq_lit], by simp [lookT, beq_lit], by simp [lookT, beq_lit], by simp [lookT, beq_lit], by simp [lookT, beq_lit]⟩

set_option maxRecDepth 100000 in
theorem inner_stop (e : Evs) (n : Nat) (b : Int) (v4 v7 v6 v5 v2 : PV) (k : Nat) (H : List (Nat × Ent)) :
    ∃ T k', evalCode prog env G e.call e.loop cx58 parseInner [(48, .int .i64 n), (47, .int .i64 n), (8, .int .u32 b), (4, v4), (7, v7), (6, v6), (5, v5), (2, v2)] ⟨k, H, []⟩ = some (.exit 2, T, ⟨k', H, []⟩) ∧
      lookT T 8 = .int .u32 b ∧ lookT T 4 = v4 ∧ lookT T 7 = v7 ∧ lookT T 6 = v6 ∧ lookT T 5 = v5 ∧ lookT T 2 = v2 := by
  generalize hr : evalCode _ _ _ _ _ _ _ _ _ = r
  simp [evalSum, call_succ, loop_succ, callWith, loopWith, gc, restrict, resultsP, oneP, startT, evalCode, evalRegion, seqOps, wantedP, stepOp, callOf, evalOp, lkIn, lookT, putT, ofValue, ofCell, binP, intBin, shiftBin, unP, St.apply, addFr, beq_lit, blt_lit, ble_lit, lenT, lenPV, und3, und25, und231, und232, indexAddrOp, size231, cells_int, cells_bool, cells_str, cells_slice, cells_nil, cells_agg, cells_own, loadOp, subLoad, agg231, makeSliceOp, convP, w0, w1, w2, w3, w4, wm, n0, n1, n2, n3, n4, repeatP, ok_int, ok_bool, ok_slice, ok_nil, ok_own, zero231, bytes231, Go.Pi.look, firstRegion, storeOp, subStore, upd, St.hp, St.fz, memB, envCall, envOf, orE, oneRow, reifyL, mapR, reify, reifyN, reifyW, reifyWL, PV.pureB, PV.pureL, U_pure, drawOps, drawOp, okOut, touch, Out.wrote, logOk, share, inOrder, PV.ids, PV.idsL, parseInner, parseBody, f58, cx58] at hr
  subst hr
  exact ⟨_, _, rfl, by simp [lookT, beq_lit], by simp [lookT, beq_lit], by simp [lookT, beq_lit], by simp [lookT, beq_lit], by simp [lookT, beq_lit], by simp [lookT, beq_lit]⟩

theorem inner_gc (T : Tm) (k : Nat) (H : List (Nat × Ent)) (hH : H.length < 48) : gc cx58 parseInner T ⟨k, H, []⟩ =
    ([(48, lookT T 48), (47, lookT T 47), (8, lookT T 8), (4, lookT T 4), (7, lookT T 7), (6, lookT T 6), (5, lookT T 5), (2, lookT T 2)], ⟨k, H, []⟩) := by
  simp [gc, blt_lit, inner_first, cx58, Go.Pi.look, restrict, beq_lit, hH]

theorem parse_gc (T : Tm) (k : Nat) (H : List (Nat × Ent)) (hH : H.length < 48) : gc cx58 parseBody T ⟨k, H, []⟩ =
    ([(4, lookT T 4), (6, lookT T 6), (5, lookT T 5), (2, lookT T 2)], ⟨k, H, []⟩) := by
  simp [gc, blt_lit, parse_first, cx58, Go.Pi.look, restrict, beq_lit, hH]

theorem inner_loop (H : List (Nat × Ent)) (hH : H.length < 48) (n : Nat) (hn : n < 100) (v4 v7 v6 v5 v2 : PV) : ∀ (m i : Nat), i + m = n → ∀ (N k : Nat) (b : Int) (T : Tm),
    lookT T 48 = .int .i64 i → lookT T 47 = .int .i64 n → lookT T 8 = .int .u32 b → lookT T 4 = v4 → lookT T 7 = v7 → lookT T 6 = v6 → lookT T 5 = v5 → lookT T 2 = v2 →
    ∃ T' k' b', (evalN prog env G A0 (N + m + 1)).loop cx58 parseInner T ⟨k, H, []⟩ = some (.exit 2, T', ⟨k', H, []⟩) ∧ lookT T' 8 = .int .u32 b' ∧ lookT T' 4 = v4 ∧ lookT T' 7 = v7 ∧ lookT T' 6 = v6 ∧ lookT T' 5 = v5 ∧ lookT T' 2 = v2 := by
  intro m
  induction m with
  | zero =>
    intro i hi N k b T h48 h47 h8 h4 h7 h6 h5 h2
    obtain rfl : i = n := by omega
    obtain ⟨T1, k1, g, g8, g4, g7, g6, g5, g2⟩ := inner_stop (G := G) (env := env) (evalN prog env G A0 (N + 0)) i b v4 v7 v6 v5 v2 k H
    refine ⟨T1, k1, b, ?_, g8, g4, g7, g6, g5, g2⟩
    rw [loop_succ]
    exact loop_end (by rw [inner_gc _ _ _ hH, h48, h47, h8, h4, h7, h6, h5, h2]) g (by simp)
  | succ m ih =>
    intro i hi N k b T h48 h47 h8 h4 h7 h6 h5 h2
    obtain ⟨T1, k1, b1, g, g48, g47, g8, g4, g7, g6, g5, g2⟩ := inner_step (G := G) (env := env) (evalN prog env G A0 (N + m + 1)) i n b v4 v7 v6 v5 v2 k H (by omega) hn
    obtain ⟨T', k', b', f, f8⟩ := ih (i + 1) (by omega) N k1 b1 T1 g48 g47 g8 g4 g7 g6 g5 g2
    refine ⟨T', k', b', ?_, f8⟩
    rw [← Nat.add_assoc, loop_succ]
    exact loop_next (by rw [inner_gc _ _ _ hH, h48, h47, h8, h4, h7, h6, h5, h2]) g f
end Go.Proofs.Tryz

/- The interpreter on symbols: integer.Parse, a round of its loop. -/
namespace Go.Proofs.Tryz
open Go Go.Pi
variable [Hole] {G : Nat → Option PV} {env : Env}
set_option linter.unusedSectionVars false
set_option linter.unusedSimpArgs false

/-! ### What Parse calls -/

def ScaleD (vs : List PV) : Prop := ∃ v b p, vs = [v, .int .u32 b, .int .u32 p] ∧ (v = .nil ∨ ∃ ds, v = .slice (U ds) ∧ Digits 2 ds)
def ScaleQ (vs : List PV) (r : PV) : Prop := ∃ zs, r = .slice (U zs) ∧ Digits 3 zs ∧ ∀ v b p, vs = [v, .int .u32 b, .int .u32 p] → (v = .nil → zs.length ≤ 1) ∧ ∀ ds, v = .slice (U ds) → zs.length ≤ ds.length + 1

theorem scale_gives (vs : List PV) (h : ScaleD vs) : Gives G 112 vs (ScaleQ vs) := by
  obtain ⟨v, b, p, rfl, h⟩ := h
  rcases h with rfl | ⟨ds, rfl, hd⟩
  · obtain ⟨r, ⟨zs, rfl, hz⟩, hs⟩ := gives_scale (G := G) .nil 0 b p (by omega) (.inl rfl)
    refine ⟨_, ⟨zs, rfl, hz.mono (by omega), fun v b p e => ?_⟩, hs⟩
    have e1 := (List.cons.inj e).1
    subst e1
    exact ⟨fun _ => hz.len, fun ds h => by cases h⟩
  · obtain ⟨r, ⟨zs, rfl, hz⟩, hs⟩ := gives_scale (G := G) (.slice (U ds)) ds.length b p hd.len (.inr ⟨ds, rfl, ⟨Nat.le_refl _, hd.small, hd.last⟩⟩)
    refine ⟨_, ⟨zs, rfl, hz.mono (by have := hd.len; omega), fun v b p e => ?_⟩, hs⟩
    have e1 := (List.cons.inj e).1
    subst e1
    refine ⟨fun h => (by cases h), fun ds' h => ?_⟩
    simp only [PV.slice.injEq] at h
    rw [← U_inj h]; exact hz.len

noncomputable def scaleFn (G : Nat → Option PV) : Fn1 := pick (scale_gives (G := G))

def SignedD (vs : List PV) : Prop := ∃ b ds, vs = [.bool b, .slice (U ds)] ∧ Digits 3 ds
def SignedQ (vs : List PV) (r : PV) : Prop := ∃ b ds b', vs = [.bool b, .slice (U ds)] ∧ r = intP b' ds

theorem signed_gives (vs : List PV) (h : SignedD vs) : Gives G 113 vs (SignedQ vs) := by
  obtain ⟨b, ds, rfl, h⟩ := h
  obtain ⟨r, ⟨b', rfl⟩, hs⟩ := gives_signed (G := G) b ds 3 h (by omega)
  exact ⟨_, ⟨b, ds, b', rfl, rfl⟩, hs⟩

noncomputable def signedFn (G : Nat → Option PV) : Fn1 := pick (signed_gives (G := G))

theorem signedFn_some (b : Bool) (ds : List Int) (h : Digits 3 ds) : ∃ b', signedFn G [.bool b, .slice (U ds)] = some (intP b' ds) := by
  obtain ⟨r, hr, b1, ds1, b', e, rfl⟩ := pick_some (signed_gives (G := G)) (vs := [.bool b, .slice (U ds)]) ⟨b, ds, rfl, h⟩
  simp only [List.cons.injEq, PV.slice.injEq, and_true] at e
  have e2 := U_inj e.2
  subst e2
  exact ⟨b', hr⟩

/-- Digits, and no other byte. -/
def digitB (b : UInt8) : Bool := Nat.ble 48 b.toNat && Nat.ble b.toNat 57

def noneFn : Fn1
  | [.str s, .func 110 []] => bif smallS s && s.data.toList.all digitB then some (.bool false) else none
  | _ => none

/-- The environment of Parse. -/
noncomputable def parseEnv (G : Nat → Option PV) : Env := envOf [(108, cutPrefixF), (109, noneFn), (111, parseUintF), (112, scaleFn G), (113, signedFn G)]

theorem block_ok {P : Program} {callF : CallF} {loopF : LoopF} {cx : Cx} {id : Nat} {b : Code} {T T1 : Tm} {s s1 : St} (h : evalCode P env G callF loopF cx b T s = some (.normal, T1, s1)) :
    evalCode P env G callF loopF cx (.block id b) T s = some (.normal, T1, s1) := by
  simp [evalCode, h]

theorem seq3_ok {P : Program} {callF : CallF} {loopF : LoopF} {cx : Cx} {a b c l r : Code} {T T1 T2 : Tm} {s s1 s2 : St} {x : Option (Ex × Tm × St)} (h : evalCode P env G callF loopF cx (.seq a (.seq b c)) T s = some (.normal, T1, s1))
    (h1 : evalCode P env G callF loopF cx l T1 s1 = some (.normal, T2, s2)) (h2 : evalCode P env G callF loopF cx r T2 s2 = x) :
    evalCode P env G callF loopF cx (.seq a (.seq b (.seq (.seq c l) r))) T s = x := by
  simp only [evalCode] at h ⊢
  split at h
  · rename_i Ta sa ha
    split at h
    · rename_i Tb sb hb
      simp only [ha, hb, h, h1, h2]
    · rename_i hn
      exact absurd h (fun h => hn _ _ h)
  · rename_i hn
    exact absurd h (fun h => hn _ _ h)

noncomputable def parseHead : Code := match parseBody with
  | .seq a _ => a
  | _ => .skip
noncomputable def parsePre : Code := match parseBody with
  | .seq _ (.block _ (.seq a (.seq b (.seq (.seq c _) _)))) => .seq a (.seq b c)
  | _ => .skip
noncomputable def parsePost : Code := match parseBody with
  | .seq _ (.block _ (.seq _ (.seq _ (.seq _ r)))) => r
  | _ => .skip

set_option maxRecDepth 100000 in
theorem parse_head (e : Evs) (s : ByteArray) (m : Nat) (v6 v5 v2 : PV) (k : Nat) (H : List (Nat × Ent)) (hs : s.size = m + 1) :
    ∃ T k', evalCode prog env G e.call e.loop cx58 parseHead [(4, .str s), (6, v6), (5, v5), (2, v2)] ⟨k, H, []⟩ = some (.normal, T, ⟨k', H, []⟩) ∧ lookT T 4 = .str s ∧ lookT T 6 = v6 ∧ lookT T 5 = v5 ∧ lookT T 2 = v2 := by
  generalize hr : evalCode _ _ _ _ _ _ _ _ _ = r
  simp [evalSum, call_succ, loop_succ, callWith, loopWith, gc, restrict, resultsP, oneP, startT, evalCode, evalRegion, seqOps, wantedP, stepOp, callOf, evalOp, lkIn, lookT, putT, ofValue, ofCell, binP, intBin, shiftBin, unP, St.apply, addFr, beq_lit, blt_lit, ble_lit, lenT, lenPV, und3, und25, und231, und232, indexAddrOp, size231, cells_int, cells_bool, cells_str, cells_slice, cells_nil, cells_agg, cells_own, loadOp, subLoad, agg231, makeSliceOp, convP, w0, w1, w2, w3, w4, wm, n0, n1, n2, n3, n4, repeatP, ok_int, ok_bool, ok_slice, ok_nil, ok_own, zero231, bytes231, Go.Pi.look, firstRegion, storeOp, subStore, upd, St.hp, St.fz, memB, envCall, envOf, orE, oneRow, reifyL, mapR, reify, reifyN, reifyW, reifyWL, PV.pureB, PV.pureL, U_pure, drawOps, drawOp, okOut, touch, Out.wrote, logOk, share, inOrder, PV.ids, PV.idsL, parseHead, parseBody, f58, cx58, underlying9, hs] at hr
  subst hr
  exact ⟨_, _, rfl, by simp [lookT, beq_lit], by simp [lookT, beq_lit], by simp [lookT, beq_lit], by simp [lookT, beq_lit]⟩

set_option maxRecDepth 100000 in
theorem parse_end (e : Evs) (s : ByteArray) (v6 v5 v2 : PV) (k : Nat) (H : List (Nat × Ent)) (hs : s.size = 0) :
    ∃ T k', evalCode prog env G e.call e.loop cx58 parseBody [(4, .str s), (6, v6), (5, v5), (2, v2)] ⟨k, H, []⟩ = some (.exit 0, T, ⟨k', H, []⟩) ∧ lookT T 6 = v6 ∧ lookT T 5 = v5 ∧ lookT T 2 = v2 := by
  generalize hr : evalCode _ _ _ _ _ _ _ _ _ = r
  simp [evalSum, call_succ, loop_succ, callWith, loopWith, gc, restrict, resultsP, oneP, startT, evalCode, evalRegion, seqOps, wantedP, stepOp, callOf, evalOp, lkIn, lookT, putT, ofValue, ofCell, binP, intBin, shiftBin, unP, St.apply, addFr, beq_lit, blt_lit, ble_lit, lenT, lenPV, und3, und25, und231, und232, indexAddrOp, size231, cells_int, cells_bool, cells_str, cells_slice, cells_nil, cells_agg, cells_own, loadOp, subLoad, agg231, makeSliceOp, convP, w0, w1, w2, w3, w4, wm, n0, n1, n2, n3, n4, repeatP, ok_int, ok_bool, ok_slice, ok_nil, ok_own, zero231, bytes231, Go.Pi.look, firstRegion, storeOp, subStore, upd, St.hp, St.fz, memB, envCall, envOf, orE, oneRow, reifyL, mapR, reify, reifyN, reifyW, reifyWL, PV.pureB, PV.pureL, U_pure, drawOps, drawOp, okOut, touch, Out.wrote, logOk, share, inOrder, PV.ids, PV.idsL, parseBody, f58, cx58, underlying9, hs] at hr
  subst hr
  exact ⟨_, _, rfl, by simp [lookT, beq_lit], by simp [lookT, beq_lit], by simp [lookT, beq_lit]⟩

set_option maxRecDepth 100000 in
theorem parse_pre (e : Evs) (s : ByteArray) (m q : Nat) (v6 v5 v2 : PV) (T : Tm) (k : Nat) (H : List (Nat × Ent)) (hs : s.size = m + 1) (hm : m < 100) (hq : m % 9 = q)
    (h4 : lookT T 4 = .str s) (h6 : lookT T 6 = v6) (h5 : lookT T 5 = v5) (h2 : lookT T 2 = v2) :
    ∃ T1 k', evalCode prog env G e.call e.loop cx58 parsePre T ⟨k, H, []⟩ = some (.normal, T1, ⟨k', H, []⟩) ∧ lookT T1 48 = .int .i64 (0 : Nat) ∧ lookT T1 47 = .int .i64 ((q + 1 : Nat) : Int) ∧ lookT T1 8 = .int .u32 1 ∧
      lookT T1 4 = .str s ∧ lookT T1 7 = .int .i64 ((q + 1 : Nat) : Int) ∧ lookT T1 6 = v6 ∧ lookT T1 5 = v5 ∧ lookT T1 2 = v2 := by
  have hw : IntKind.i64.wrap (m : Int) = (m : Int) := wrap_i64 _ (by omega)
  have ht : (m : Int).tmod 9 = (q : Int) := by rw [← hq]; exact (Int.ofNat_tmod m 9).symm
  have hw2 : IntKind.i64.wrap ((q : Int) + 1) = (q : Int) + 1 := wrap_i64 _ (by omega)
  generalize hr : evalCode _ _ _ _ _ _ _ _ _ = r
  simp [evalSum, call_succ, loop_succ, callWith, loopWith, gc, restrict, resultsP, oneP, startT, evalCode, evalRegion, seqOps, wantedP, stepOp, callOf, evalOp, lkIn, lookT, putT, ofValue, ofCell, binP, intBin, shiftBin, unP, St.apply, addFr, beq_lit, blt_lit, ble_lit, lenT, lenPV, und3, und25, und231, und232, indexAddrOp, size231, cells_int, cells_bool, cells_str, cells_slice, cells_nil, cells_agg, cells_own, loadOp, subLoad, agg231, makeSliceOp, convP, w0, w1, w2, w3, w4, wm, n0, n1, n2, n3, n4, repeatP, ok_int, ok_bool, ok_slice, ok_nil, ok_own, zero231, bytes231, Go.Pi.look, firstRegion, storeOp, subStore, upd, St.hp, St.fz, memB, envCall, envOf, orE, oneRow, reifyL, mapR, reify, reifyN, reifyW, reifyWL, PV.pureB, PV.pureL, U_pure, drawOps, drawOp, okOut, touch, Out.wrote, logOk, share, inOrder, PV.ids, PV.idsL, parsePre, parseBody, f58, cx58, underlying9, hs, h4, hw, ht, hw2] at hr
  subst hr
  exact ⟨_, _, rfl, by simp [lookT, beq_lit], by simp [lookT, beq_lit], by simp [lookT, beq_lit], by simp [lookT, beq_lit, h4], by simp [lookT, beq_lit], by simp [lookT, beq_lit, h6], by simp [lookT, beq_lit, h5], by simp [lookT, beq_lit, h2]⟩
end Go.Proofs.Tryz

/- The interpreter on symbols: integer.Parse, its loop ends. -/
namespace Go.Proofs.Tryz
open Go Go.Pi
variable [Hole] {G : Nat → Option PV} {env : Env}
set_option linter.unusedSectionVars false
set_option linter.unusedSimpArgs false

set_option maxRecDepth 100000 in
theorem parse_post (e : Evs) (s : ByteArray) (m q : Nat) (b x : Int) (v6 v5 v2 z : PV) (T : Tm) (k : Nat) (H : List (Nat × Ent)) (hs : s.size = m + 1) (hq : q ≤ m)
    (h4 : lookT T 4 = .str s) (h7 : lookT T 7 = .int .i64 ((q + 1 : Nat) : Int)) (h8 : lookT T 8 = .int .u32 b) (h6 : lookT T 6 = v6) (h5 : lookT T 5 = v5) (h2 : lookT T 2 = v2) (hp : v6.pureB = true)
    (hP : parseUintF [.str (s.extract 0 (q + 1)), .int .i64 10, .int .i64 32] = some (.tuple [.int .u64 x, .nilIface])) (hS : scaleFn G [v6, .int .u32 b, .int .u32 (IntKind.u32.wrap x)] = some z) :
    ∃ T1 k', evalCode prog (parseEnv G) G e.call e.loop cx58 parsePost T ⟨k, H, []⟩ = some (.normal, T1, ⟨k', H, []⟩) ∧ lookT T1 4 = .str (s.extract (q + 1) (m + 1)) ∧ lookT T1 6 = z ∧ lookT T1 5 = v5 ∧ lookT T1 2 = v2 := by
  have hn : ∀ k, natOf (.int k ((q : Int) + 1)) = some (q + 1) := fun k => rfl
  generalize hr : evalCode _ _ _ _ _ _ _ _ _ = r
  simp [evalSum, call_succ, loop_succ, callWith, loopWith, gc, restrict, resultsP, oneP, startT, evalCode, evalRegion, seqOps, wantedP, stepOp, callOf, evalOp, lkIn, lookT, putT, ofValue, ofCell, binP, intBin, shiftBin, unP, St.apply, addFr, beq_lit, blt_lit, ble_lit, lenT, lenPV, und3, und25, und231, und232, indexAddrOp, size231, cells_int, cells_bool, cells_str, cells_slice, cells_nil, cells_agg, cells_own, loadOp, subLoad, agg231, makeSliceOp, convP, w0, w1, w2, w3, w4, wm, n0, n1, n2, n3, n4, repeatP, ok_int, ok_bool, ok_slice, ok_nil, ok_own, zero231, bytes231, Go.Pi.look, firstRegion, storeOp, subStore, upd, St.hp, St.fz, memB, envCall, envOf, orE, oneRow, reifyL, mapR, reify, reifyN, reifyW, reifyWL, PV.pureB, PV.pureL, U_pure, drawOps, drawOp, okOut, touch, Out.wrote, logOk, share, inOrder, PV.ids, PV.idsL, parseEnv, parsePost, parseBody, f58, cx58, underlying9, hs, h4, h7, h8, h6, hn, sliceOp, lowOf, highOf, hq, hP, hS, hp] at hr
  subst hr
  exact ⟨_, _, rfl, by simp [lookT, beq_lit], by simp [lookT, beq_lit], by simp [lookT, beq_lit, h5], by simp [lookT, beq_lit, h2]⟩

theorem digits_ok : ∀ (l : List UInt8) (j acc : Nat), l.all digitB = true → l.length + j ≤ 9 → acc < 10 ^ j → ∃ x, digitsU acc l = some x
  | [], _, acc, _, _, _ => ⟨acc, rfl⟩
  | b :: l, j, acc, h, hj, ha => by
    simp only [List.all_cons, Bool.and_eq_true, digitB, ble_iff] at h
    simp only [List.length_cons] at hj
    have h1 : acc * 10 + (b.toNat - 48) < 10 ^ (j + 1) := by rw [Nat.pow_succ]; omega
    have h2 : 10 ^ (j + 1) ≤ 10 ^ 9 := Nat.pow_le_pow_right (by omega) (by omega)
    obtain ⟨x, hx⟩ := digits_ok l (j + 1) _ h.2 (by omega) h1
    refine ⟨x, ?_⟩
    have h3 : acc * 10 + (b.toNat - 48) < 4294967296 := by omega
    simp only [digitsU, bif_some, Bool.and_eq_true, ble_iff, blt_iff]
    exact ⟨⟨⟨h.1.1, h.1.2⟩, h3⟩, hx⟩

theorem extract_list (s : ByteArray) (a b : Nat) : (s.extract a b).data.toList = (s.data.toList.drop a).take (b - a) := by
  simp [ByteArray.data_extract]

theorem size_list (s : ByteArray) : s.size = s.data.toList.length := by
  simp only [Array.length_toList]; rfl

theorem parseUint_some (s : ByteArray) (q : Nat) (hq : q < 9) (hs : q < s.size) (hd : s.data.toList.all digitB = true) :
    ∃ x : Int, parseUintF [.str (s.extract 0 (q + 1)), .int .i64 10, .int .i64 32] = some (.tuple [.int .u64 x, .nilIface]) := by
  have hlist := extract_list s 0 (q + 1)
  simp only [List.drop_zero, Nat.sub_zero] at hlist
  have hlen : (s.data.toList.take (q + 1)).length = q + 1 := by rw [List.length_take, ← size_list]; omega
  obtain ⟨x, hx⟩ := digits_ok (s.data.toList.take (q + 1)) 0 0 (by
    rw [List.all_eq_true] at hd ⊢
    exact fun b hb => hd b (List.mem_of_mem_take hb)) (by omega) (by simp)
  refine ⟨x, ?_⟩
  have hsm : smallS (s.extract 0 (q + 1)) = true := by
    unfold smallS
    rw [blt_iff, size_list, hlist, hlen]
    omega
  unfold parseUintF
  simp only [hlist, hsm, cond_true, hx]
  cases hc : s.data.toList.take (q + 1) with
  | nil => rw [hc] at hlen; simp at hlen
  | cons a l => rw [hc] at hx; simp [hx]

theorem scaleFn_some (v : PV) (b p : Int) (h : v = .nil ∨ ∃ ds, v = .slice (U ds) ∧ Digits 2 ds) :
    ∃ zs, scaleFn G [v, .int .u32 b, .int .u32 p] = some (.slice (U zs)) ∧ Digits 3 zs ∧ (v = .nil → zs.length ≤ 1) ∧ ∀ ds, v = .slice (U ds) → zs.length ≤ ds.length + 1 := by
  obtain ⟨r, hr, zs, rfl, h1, h2⟩ := pick_some (scale_gives (G := G)) (vs := [v, .int .u32 b, .int .u32 p]) ⟨v, b, p, rfl, h⟩
  exact ⟨zs, hr, h1, h2 v b p rfl⟩

/-- A magnitude so far: none, or of at most 'k' digits. -/
def SoFar (k : Nat) (v : PV) : Prop := v = .nil ∨ ∃ ds, v = .slice (U ds) ∧ Digits 3 ds ∧ ds.length ≤ k

theorem parse_round (n k m : Nat) (s : ByteArray) (v6 v5 v2 : PV) (j : Nat) (H : List (Nat × Ent)) (hH : H.length < 48) (hs : s.size = m + 1) (hm : m < 20) (hd : s.data.toList.all digitB = true) (hv : SoFar j v6) (hj : j ≤ 2) :
    ∃ T k' zs, evalCode prog (parseEnv G) G (evalN prog (parseEnv G) G A0 (n + 11)).call (evalN prog (parseEnv G) G A0 (n + 11)).loop cx58 parseBody [(4, .str s), (6, v6), (5, v5), (2, v2)] ⟨k, H, []⟩ = some (.normal, T, ⟨k', H, []⟩) ∧
      lookT T 4 = .str (s.extract (m % 9 + 1) (m + 1)) ∧ lookT T 6 = .slice (U zs) ∧ lookT T 5 = v5 ∧ lookT T 2 = v2 ∧ Digits 3 zs ∧ zs.length ≤ j + 1 := by
  obtain ⟨T1, k1, a1, a4, a6, a5, a2⟩ := parse_head (G := G) (env := parseEnv G) (evalN prog (parseEnv G) G A0 (n + 11)) s m v6 v5 v2 k H hs
  obtain ⟨T2, k2, b1, b48, b47, b8, b4, b7, b6, b5, b2⟩ := parse_pre (G := G) (env := parseEnv G) (evalN prog (parseEnv G) G A0 (n + 11)) s m (m % 9) v6 v5 v2 T1 k1 H hs (by omega) rfl a4 a6 a5 a2
  have hq9 : m % 9 < 9 := Nat.mod_lt _ (by omega)
  have hqm : m % 9 ≤ m := Nat.mod_le _ _
  obtain ⟨T3, k3, b', c1, c8, c4, c7, c6, c5, c2⟩ := inner_loop (G := G) (env := parseEnv G) H hH (m % 9 + 1) (by omega) (.str s) (.int .i64 ((m % 9 + 1 : Nat) : Int)) v6 v5 v2 (m % 9 + 1) 0 (by omega) (n + 9 - m % 9) k2 1 T2 b48 b47 b8 b4 b7 b6 b5 b2
  have hN : n + 9 - m % 9 + (m % 9 + 1) + 1 = n + 11 := by omega
  rw [hN] at c1
  obtain ⟨x, hx⟩ := parseUint_some s (m % 9) hq9 (by omega) hd
  have hv' : v6 = .nil ∨ ∃ ds, v6 = .slice (U ds) ∧ Digits 2 ds := by
    rcases hv with h | ⟨ds, h, h1, h2⟩
    · exact .inl h
    · exact .inr ⟨ds, h, by omega, h1.small, h1.last⟩
  have hpure : v6.pureB = true := by
    rcases hv with rfl | ⟨ds, rfl, _⟩ <;> rfl
  obtain ⟨zs, z1, z2, z3, z4⟩ := scaleFn_some (G := G) v6 b' (IntKind.u32.wrap x) hv'
  obtain ⟨T4, k4, d1, d4, d6, d5, d2⟩ := parse_post (G := G) (evalN prog (parseEnv G) G A0 (n + 11)) s m (m % 9) b' x v6 v5 v2 (.slice (U zs)) T3 k3 H hs hqm c4 c7 c8 c6 c5 c2 hpure hx z1
  refine ⟨T4, k4, zs, ?_, d4, d6, d5, d2, z2, ?_⟩
  · exact seq_ok (a := parseHead) a1 (block_ok (id := 1) (seq3_ok b1 (block_loop c1) d1))
  · rcases hv with h | ⟨ds, h, _, h2⟩
    · have := z3 h; omega
    · have := z4 ds h; omega

theorem parse_loop (H : List (Nat × Ent)) (hH : H.length < 48) (v5 v2 : PV) : ∀ (g j : Nat) (s : ByteArray) (v6 : PV), s.size ≤ 20 → (s.size + 8) / 9 = g → s.data.toList.all digitB = true → SoFar j v6 → j + g ≤ 3 →
    ∀ (n k : Nat) (T : Tm), lookT T 4 = .str s → lookT T 6 = v6 → lookT T 5 = v5 → lookT T 2 = v2 →
    ∃ T' k' v, (evalN prog (parseEnv G) G A0 (n + 12 + g)).loop cx58 parseBody T ⟨k, H, []⟩ = some (.exit 0, T', ⟨k', H, []⟩) ∧ lookT T' 6 = v ∧ lookT T' 5 = v5 ∧ lookT T' 2 = v2 ∧ SoFar (j + g) v ∧ (0 < s.size ∨ v6 ≠ .nil → v ≠ .nil)
  | 0, j, s, v6, hs, hg, hd, hv, hj, n, k, T, h4, h6, h5, h2 => by
    have h0 : s.size = 0 := by omega
    obtain ⟨T1, k1, a1, a6, a5, a2⟩ := parse_end (G := G) (env := parseEnv G) (evalN prog (parseEnv G) G A0 (n + 11)) s v6 v5 v2 k H h0
    refine ⟨T1, k1, v6, ?_, a6, a5, a2, hv, fun h => h.elim (fun h => by omega) id⟩
    rw [Nat.add_zero, show n + 12 = n + 11 + 1 from rfl, loop_succ]
    exact loop_end (by rw [parse_gc _ _ _ hH, h4, h6, h5, h2]) a1 (by simp)
  | g + 1, j, s, v6, hs, hg, hd, hv, hj, n, k, T, h4, h6, h5, h2 => by
    obtain ⟨m, hm⟩ : ∃ m, s.size = m + 1 := ⟨s.size - 1, by omega⟩
    obtain ⟨T1, k1, zs, a1, a4, a6, a5, a2, z1, z2⟩ := parse_round (G := G) (n + g + 1) k m s v6 v5 v2 j H hH hm (by omega) hd hv (by omega)
    have hlist := extract_list s (m % 9 + 1) (m + 1)
    have hsize : (s.extract (m % 9 + 1) (m + 1)).size = m + 1 - (m % 9 + 1) := by
      rw [size_list, hlist, List.length_take, List.length_drop, ← size_list, hm]
      omega
    have hall : (s.extract (m % 9 + 1) (m + 1)).data.toList.all digitB = true := by
      rw [hlist]
      rw [List.all_eq_true] at hd ⊢
      exact fun b hb => hd b (List.mem_of_mem_drop (List.mem_of_mem_take hb))
    obtain ⟨T', k', v, f1, f6, f5, f2, f3, f4⟩ := parse_loop H hH v5 v2 g (j + 1) (s.extract (m % 9 + 1) (m + 1)) (.slice (U zs)) (by rw [hsize]; omega) (by rw [hsize]; omega) hall (.inr ⟨zs, rfl, z1, z2⟩) (by omega) n k1 T1 a4 a6 a5 a2
    refine ⟨T', k', v, ?_, f6, f5, f2, by rw [show j + (g + 1) = j + 1 + g by omega]; exact f3, fun _ => f4 (.inr (by simp))⟩
    rw [← Nat.add_assoc, loop_succ]
    rw [show n + 12 + g = n + g + 1 + 11 by omega] at f1 ⊢
    exact loop_next (by rw [parse_gc _ _ _ hH, h4, h6, h5, h2]) a1 f1
end Go.Proofs.Tryz
