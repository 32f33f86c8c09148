/- Tables of results that are each right, given those below them, are right. No condition. -/
import Derived.Test.YtmaicjfmcjbceaaGreatDoorA4
/- Pi, part 26: tables of results. -/
namespace Go.Pi
variable [Hole]
set_option linter.unusedSectionVars false

def intEq : Int → Int → Bool
  | .ofNat a, .ofNat b => Nat.beq a b
  | .negSucc a, .negSucc b => Nat.beq a b
  | _, _ => false

def bytesEq : List UInt8 → List UInt8 → Bool
  | [], [] => true
  | a :: r, b :: t => Nat.beq a.toNat b.toNat && bytesEq r t
  | _, _ => false

mutual
def PV.same : PV → PV → Bool
  | .bool a, .bool b => a == b
  | .int k a, .int l b => decide (k = l) && intEq a b
  | .str a, .str b => bytesEq a.data.toList b.data.toList
  | .nil, .nil => true
  | .slice a, .slice b => PV.sameL a b
  | .eptr a n, .eptr b m => Nat.beq n m && PV.same a b
  | .nilPtr, .nilPtr => true
  | .agg a, .agg b => PV.sameL a b
  | .tuple a, .tuple b => PV.sameL a b
  | .func f a, .func g b => Nat.beq f g && PV.sameL a b
  | .nilFunc, .nilFunc => true
  | .iface t a, .iface u b => Nat.beq t u && PV.same a b
  | .nilIface, .nilIface => true
  | .hole a, .hole b => Nat.beq a b
  | .any, .any => true
  | _, _ => false
def PV.sameL : List PV → List PV → Bool
  | [], [] => true
  | a :: r, b :: t => PV.same a b && PV.sameL r t
  | _, _ => false
end

theorem intEq_spec {a b : Int} (h : intEq a b = true) : a = b := by
  cases a <;> cases b <;> simp only [intEq, nat_beq_eq, Bool.false_eq_true] at h <;> rw [h]

theorem bytesEq_spec : ∀ {a b : List UInt8}, bytesEq a b = true → a = b
  | [], [], _ => rfl
  | a :: r, b :: t, h => by
    simp only [bytesEq, Bool.and_eq_true, nat_beq_eq] at h
    rw [UInt8.toNat_inj.1 h.1, bytesEq_spec h.2]
  | [], _ :: _, h => by simp [bytesEq] at h
  | _ :: _, [], h => by simp [bytesEq] at h

mutual
theorem PV.same_spec : ∀ (a b : PV), PV.same a b = true → a = b
  | .bool a, b, h => by cases b <;> simp_all [PV.same]
  | .int k a, b, h => by
    cases b <;> simp only [PV.same, Bool.and_eq_true, decide_eq_true_eq, Bool.false_eq_true] at h
    rw [h.1, intEq_spec h.2]
  | .str a, b, h => by
    cases b <;> simp only [PV.same, Bool.false_eq_true] at h
    rename_i b
    have := bytesEq_spec h
    obtain ⟨⟨a⟩⟩ := a
    obtain ⟨⟨b⟩⟩ := b
    simp only at this
    rw [this]
  | .nil, b, h => by cases b <;> simp_all [PV.same]
  | .slice a, b, h => by
    cases b <;> simp only [PV.same, Bool.false_eq_true] at h
    rw [PV.sameL_spec a _ h]
  | .eptr a n, b, h => by
    cases b <;> simp only [PV.same, Bool.and_eq_true, nat_beq_eq, Bool.false_eq_true] at h
    rw [PV.same_spec a _ h.2, h.1]
  | .nilPtr, b, h => by cases b <;> simp_all [PV.same]
  | .agg a, b, h => by
    cases b <;> simp only [PV.same, Bool.false_eq_true] at h
    rw [PV.sameL_spec a _ h]
  | .tuple a, b, h => by
    cases b <;> simp only [PV.same, Bool.false_eq_true] at h
    rw [PV.sameL_spec a _ h]
  | .func f a, b, h => by
    cases b <;> simp only [PV.same, Bool.and_eq_true, nat_beq_eq, Bool.false_eq_true] at h
    rw [PV.sameL_spec a _ h.2, h.1]
  | .nilFunc, b, h => by cases b <;> simp_all [PV.same]
  | .iface t a, b, h => by
    cases b <;> simp only [PV.same, Bool.and_eq_true, nat_beq_eq, Bool.false_eq_true] at h
    rw [PV.same_spec a _ h.2, h.1]
  | .nilIface, b, h => by cases b <;> simp_all [PV.same]
  | .any, b, h => by cases b <;> simp_all [PV.same]
  | .hole a, b, h => by
    cases b <;> simp only [PV.same, nat_beq_eq, Bool.false_eq_true] at h
    rw [h]
  | .top, b, h => by simp [PV.same] at h
  | .own .., b, h => by simp [PV.same] at h
  | .ptr .., b, h => by simp [PV.same] at h
theorem PV.sameL_spec : ∀ (a b : List PV), PV.sameL a b = true → a = b
  | [], [], _ => rfl
  | a :: r, b :: t, h => by
    simp only [PV.sameL, Bool.and_eq_true] at h
    rw [PV.same_spec a b h.1, PV.sameL_spec r t h.2]
  | [], _ :: _, h => by simp [PV.sameL] at h
  | _ :: _, [], h => by simp [PV.sameL] at h
end

mutual
/-- A number by which two values are told apart at a glance. -/
def PV.mark : PV → Nat
  | .bool true => 3
  | .bool false => 5
  | .int _ (.ofNat n) => 2 * n + 7
  | .int _ (.negSucc n) => 3 * n + 11
  | .str s => bytesMark s.data.toList 13
  | .slice es => PV.markL es 17
  | .eptr e n => PV.mark e + n + 19
  | .agg es => PV.markL es 23
  | .tuple es => PV.markL es 29
  | .func f es => PV.markL es f + 31
  | .iface t v => PV.mark v + t + 37
  | .hole k => k + 41
  | .nil => 43
  | .nilPtr => 47
  | .nilFunc => 53
  | .nilIface => 59
  | _ => 61
def PV.markL : List PV → Nat → Nat
  | [], n => n
  | v :: vs, n => PV.markL vs ((n * 8191 + PV.mark v) % 1000000007)
def bytesMark : List UInt8 → Nat → Nat
  | [], n => n
  | b :: l, n => bytesMark l ((n * 257 + b.toNat) % 1000000007)
end

/-- One result: its arguments' mark, its number, the function, its arguments, what it returns. -/
structure Row where
  mark : Nat
  ix : Nat
  fn : FuncId
  args : List PV
  res : PV

/-- The rows of a function. -/
abbrev Tab := List (Nat × List Row)

def findRow : List Row → Nat → List PV → Option PV
  | [], _, _ => none
  | r :: rest, n, as => bif Nat.beq r.mark (PV.markL as 1) && Nat.blt r.ix n && PV.sameL r.args as then some r.res else findRow rest n as

/-- The summaries of the rows below 'n'; where there are none, those of 'base'. -/
def tabEnv (base : Env) (tab : Tab) (n : Nat) : Env := fun f => match look tab f, base f with
  | some rows, some F => some (fun as => match findRow rows n as with | some v => some v | none => F as)
  | some rows, none => some (fun as => findRow rows n as)
  | none, F => F

/-- One row is right, if those below it are. -/
def rowOk (P : Program) (base : Env) (G : Nat → Option PV) (A : FuncId → Option Ann) (tab : Tab) (fuel : Nat) (r : Row) : Bool :=
  match evalSum P (tabEnv base tab r.ix) G A fuel r.fn r.args with
  | some v => PV.same v r.res
  | none => false

end Go.Pi

/- Pi, part 27: rows that are each right, given those below them, make summaries that are right. -/
namespace Go.Pi
open Go.RowKit (Below)
variable [Hole]
set_option linter.unusedSectionVars false

/-- The summaries of the first; where there are none, those of the second. -/
def orE (E F : Env) : Env := fun f => match E f, F f with
  | some A, some B => some (fun as => match A as with | some v => some v | none => B as)
  | some A, none => some A
  | none, X => X

section
variable {P : Program} {G : Nat → Option PV}

theorem findRow_some {n : Nat} {as : List PV} {v : PV} : ∀ {rows : List Row}, findRow rows n as = some v → ∃ r ∈ rows, r.ix < n ∧ r.args = as ∧ r.res = v
  | [], h => by simp [findRow] at h
  | r :: rest, h => by
    simp only [findRow, Bool.cond_eq_ite] at h
    split at h
    · rename_i hc
      simp only [Bool.and_eq_true, blt_iff] at hc
      exact ⟨r, by simp, hc.1.2, PV.sameL_spec _ _ hc.2, by simpa using h⟩
    · obtain ⟨r', h1, h2⟩ := findRow_some h
      exact ⟨r', by simp [h1], h2⟩

open Classical in
/-- A summary of one row. -/
noncomputable def oneRow (as : List PV) (v : PV) : Fn1 := fun as' => if as' = as then some v else none

/-- One row is right. -/
def RowTrue (P : Program) (base : Env) (G : Nat → Option PV) (A : FuncId → Option Ann) (tab : Tab) (f : FuncId) (r : Row) : Prop :=
  r.fn = f ∧ ∃ fuel, rowOk P base G A tab fuel r = true

/-- THE TABLES ARE RIGHT. -/
theorem tab_ok {base : Env} {A : FuncId → Option Ann} {tab : Tab} (hB : EnvOk P G base) (hA : AnnOk P A) (hmix : P.follows .mixedOrders = true)
    (hen : ∀ f rows, look tab f = some rows → Enters P f) (h : ∀ f rows, look tab f = some rows → ∀ r ∈ rows, RowTrue P base G A tab f r) : ∀ n, EnvOk P G (tabEnv base tab n) := by
  classical
  intro n
  induction n using Nat.strongRecOn with
  | ind n ih =>
    have row : ∀ f rows, look tab f = some rows → ∀ as v, findRow rows n as = some v → Sum P G f (oneRow as v) := by
      intro f rows hl as v hv
      obtain ⟨r, hr, hix, rfl, rfl⟩ := findRow_some hv
      obtain ⟨hfn, fuel, hok⟩ := h f rows hl r hr
      refine evalSum_sound (ih r.ix hix) hA hmix (hen f rows hl) fun as' r' hr' => ?_
      unfold oneRow at hr'
      split at hr'
      · rename_i e
        cases hr'
        subst e
        unfold rowOk at hok
        split at hok
        · rename_i v' hv'
          rw [hfn] at hv'
          rw [← PV.same_spec _ _ hok]
          exact ⟨fuel, hv'⟩
        · cases hok
      · cases hr'
    intro f F hF
    unfold tabEnv at hF
    split at hF
    · rename_i rows F0 hl hb
      cases hF
      refine ⟨hen f rows hl, fun as r hr => ?_⟩
      dsimp only at hr
      split at hr
      · rename_i v hv
        cases hr
        exact (row f rows hl as _ hv).2 as _ (by simp [oneRow])
      · exact (hB f F0 hb).2 as r hr
    · rename_i rows hl hb
      cases hF
      refine ⟨hen f rows hl, fun as r hr => ?_⟩
      exact (row f rows hl as r hr).2 as r (by simp [oneRow])
    · exact hB f F hF

theorem EnvOk.or {E F : Env} (h : EnvOk P G E) (h' : EnvOk P G F) : EnvOk P G (orE E F) := by
  intro f X hX
  unfold orE at hX
  split at hX
  · rename_i A B hA hB
    cases hX
    refine ⟨(h f A hA).1, fun as r hr => ?_⟩
    dsimp only at hr
    split at hr
    · rename_i v hv
      cases hr
      exact (h f A hA).2 as _ hv
    · exact (h' f B hB).2 as r hr
  · rename_i A hA hB
    cases hX
    exact h f _ hA
  · exact h' f X hX

end
end Go.Pi

/- Pi, part 28: what five functions of Go's library return, as plain functions of strings. -/
namespace Go.Pi

def bstr (l : List UInt8) : PV := .str ⟨l.toArray⟩

/-- Around the first byte 'c'. -/
def cut1 (c : UInt8) : List UInt8 → List UInt8 × List UInt8 × Bool
  | [] => ([], [], false)
  | b :: l => bif Nat.beq b.toNat c.toNat then ([], l, true) else match cut1 c l with | (x, y, f) => (b :: x, y, f)

def memU : List UInt8 → UInt8 → Bool
  | [], _ => false
  | a :: l, b => Nat.beq a.toNat b.toNat || memU l b

def dropU (cs : List UInt8) : List UInt8 → List UInt8
  | [] => []
  | b :: l => bif memU cs b then dropU cs l else b :: l

def trimU (l cs : List UInt8) : List UInt8 := dropU cs (dropU cs l.reverse).reverse

/-- What is behind the prefix. -/
def behind : List UInt8 → List UInt8 → Option (List UInt8)
  | s, [] => some s
  | [], _ :: _ => none
  | a :: s, b :: p => bif Nat.beq a.toNat b.toNat then behind s p else none

def digitsU : Nat → List UInt8 → Option Nat
  | acc, [] => some acc
  | acc, b :: l => bif Nat.ble 48 b.toNat && Nat.ble b.toNat 57 && Nat.blt (acc * 10 + (b.toNat - 48)) 4294967296 then digitsU (acc * 10 + (b.toNat - 48)) l else none

def smallS (s : ByteArray) : Bool := Nat.blt s.size 4294967281

def cutF : Fn1
  | [.str a, .str b] => match b.data.toList with
    | [c] => bif smallS a then match cut1 c a.data.toList with | (x, y, f) => some (.tuple [bstr x, bstr y, .bool f]) else none
    | _ => none
  | _ => none
def trimPrefixF : Fn1
  | [.str a, .str b] => match behind a.data.toList b.data.toList with
    | some x => some (bstr x)
    | none => some (bstr a.data.toList)
  | _ => none
def cutPrefixF : Fn1
  | [.str a, .str b] => match behind a.data.toList b.data.toList with
    | some x => some (.tuple [bstr x, .bool true])
    | none => some (.tuple [bstr a.data.toList, .bool false])
  | _ => none
def trimF : Fn1
  | [.str a, .str b] => bif smallS a && smallS b && b.data.toList.all (fun c => Nat.blt c.toNat 128) then some (bstr (trimU a.data.toList b.data.toList)) else none
  | _ => none
def parseUintF : Fn1
  | [.str a, .int .i64 10, .int .i64 32] => match a.data.toList with
    | [] => none
    | l => bif smallS a then match digitsU 0 l with | some n => some (.tuple [.int .u64 n, .nilIface]) | none => none else none
  | _ => none

/-- The summaries of Go's own functions, by their numbers. -/
def libEnv (cut trimPrefix trim cutPrefix parseUint : FuncId) : Env := fun f =>
  bif Nat.beq f cut then some cutF else bif Nat.beq f trimPrefix then some trimPrefixF else bif Nat.beq f trim then some trimF
  else bif Nat.beq f cutPrefix then some cutPrefixF else bif Nat.beq f parseUint then some parseUintF else none

end Go.Pi

/- Pi, part 29: what is said of the functions that meet the law's own text: a text of which nothing is known. -/
namespace Go.Pi

/-- Is the text longer than 20 bytes? -/
def lenH (b : Bool) : Fn1
  | [.hole 0] => some (.bool b)
  | _ => none
/-- What is read. -/
def readH (r : PV) : Fn1
  | [.hole 0] => some r
  | _ => none

def errR (e : Int) : PV := .tuple [.agg [.bool false, .nil, .bool false, .nil], .int .i64 e]
def okR : PV := .tuple [.agg [.any, .any, .any, .any], .int .i64 0]

def holeEnv (len read : FuncId) (b : Bool) (r : PV) : Env := fun f => bif Nat.beq f len then some (lenH b) else bif Nat.beq f read then some (readH r) else none

def lenEnv (len : FuncId) (b : Bool) : Env := fun f => bif Nat.beq f len then some (lenH b) else none

end Go.Pi
