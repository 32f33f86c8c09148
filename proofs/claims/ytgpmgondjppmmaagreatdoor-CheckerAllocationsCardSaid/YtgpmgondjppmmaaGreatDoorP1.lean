/- The machine on symbols: offers as values; the helpers of an allocation. No condition. -/
import Derived.Test.YtgpmgondjppmmaaGreatDoorM4
import Derived.Test.YtgpmgondjppmmaaGreatDoorN2
set_option linter.unnecessarySimpa false
set_option linter.unusedSectionVars false
set_option linter.unusedSimpArgs false
set_option linter.unusedVariables false
set_option maxHeartbeats 4000000
set_option maxRecDepth 100000
namespace Go.Proofs.Tryz
open Go Go.Pi Go.Num Go.Lin Go.Alc
variable [Hole] {G:Nat → Option PV}
theorem ne12 {k b:Nat} (h:b < k):¬ k = b ∧ ¬ k+1 = b ∧ ¬ k+1+1 = b ∧ ¬ k+1+1+1 = b ∧ ¬ k+1+1+1+1 = b ∧ ¬ k+1+1+1+1+1 = b ∧ ¬ k+1+1+1+1+1+1 = b ∧ ¬ k+1+1+1+1+1+1+1 = b ∧ ¬ k+1+1+1+1+1+1+1+1 = b ∧ ¬ k+1+1+1+1+1+1+1+1+1 = b ∧ ¬ k+1+1+1+1+1+1+1+1+1+1 = b ∧ ¬ k+1+1+1+1+1+1+1+1+1+1+1 = b ∧ ¬ k+1+1+1+1+1+1+1+1+1+1+1+1 = b := by and_intros <;> omega
theorem ne30 {k b:Nat} (h:b < k):¬ k = b ∧ ¬ k+1 = b ∧ ¬ k+1+1 = b ∧ ¬ k+1+1+1 = b ∧ ¬ k+1+1+1+1 = b ∧ ¬ k+1+1+1+1+1 = b ∧ ¬ k+1+1+1+1+1+1 = b ∧ ¬ k+1+1+1+1+1+1+1 = b ∧ ¬ k+1+1+1+1+1+1+1+1 = b ∧ ¬ k+1+1+1+1+1+1+1+1+1 = b ∧ ¬ k+1+1+1+1+1+1+1+1+1+1 = b ∧ ¬ k+1+1+1+1+1+1+1+1+1+1+1 = b ∧ ¬ k+1+1+1+1+1+1+1+1+1+1+1+1 = b ∧ ¬ k+1+1+1+1+1+1+1+1+1+1+1+1+1 = b ∧ ¬ k+1+1+1+1+1+1+1+1+1+1+1+1+1+1 = b ∧ ¬ k+1+1+1+1+1+1+1+1+1+1+1+1+1+1+1 = b ∧ ¬ k+1+1+1+1+1+1+1+1+1+1+1+1+1+1+1+1 = b ∧ ¬ k+1+1+1+1+1+1+1+1+1+1+1+1+1+1+1+1+1 = b ∧ ¬ k+1+1+1+1+1+1+1+1+1+1+1+1+1+1+1+1+1+1 = b ∧ ¬ k+1+1+1+1+1+1+1+1+1+1+1+1+1+1+1+1+1+1+1 = b ∧ ¬ k+1+1+1+1+1+1+1+1+1+1+1+1+1+1+1+1+1+1+1+1 = b ∧ ¬ k+1+1+1+1+1+1+1+1+1+1+1+1+1+1+1+1+1+1+1+1+1 = b ∧ ¬ k+1+1+1+1+1+1+1+1+1+1+1+1+1+1+1+1+1+1+1+1+1+1 = b ∧ ¬ k+1+1+1+1+1+1+1+1+1+1+1+1+1+1+1+1+1+1+1+1+1+1+1 = b ∧ ¬ k+1+1+1+1+1+1+1+1+1+1+1+1+1+1+1+1+1+1+1+1+1+1+1+1 = b ∧ ¬ k+1+1+1+1+1+1+1+1+1+1+1+1+1+1+1+1+1+1+1+1+1+1+1+1+1 = b ∧ ¬ k+1+1+1+1+1+1+1+1+1+1+1+1+1+1+1+1+1+1+1+1+1+1+1+1+1+1 = b ∧ ¬ k+1+1+1+1+1+1+1+1+1+1+1+1+1+1+1+1+1+1+1+1+1+1+1+1+1+1+1 = b ∧ ¬ k+1+1+1+1+1+1+1+1+1+1+1+1+1+1+1+1+1+1+1+1+1+1+1+1+1+1+1+1 = b ∧ ¬ k+1+1+1+1+1+1+1+1+1+1+1+1+1+1+1+1+1+1+1+1+1+1+1+1+1+1+1+1+1 = b ∧ ¬ k+1+1+1+1+1+1+1+1+1+1+1+1+1+1+1+1+1+1+1+1+1+1+1+1+1+1+1+1+1+1 = b := by and_intros <;> omega
theorem ne60 {k b:Nat} (h:b < k):¬ k = b ∧ ¬ k+1 = b ∧ ¬ k+1+1 = b ∧ ¬ k+1+1+1 = b ∧ ¬ k+1+1+1+1 = b ∧ ¬ k+1+1+1+1+1 = b ∧ ¬ k+1+1+1+1+1+1 = b ∧ ¬ k+1+1+1+1+1+1+1 = b ∧ ¬ k+1+1+1+1+1+1+1+1 = b ∧ ¬ k+1+1+1+1+1+1+1+1+1 = b ∧ ¬ k+1+1+1+1+1+1+1+1+1+1 = b ∧ ¬ k+1+1+1+1+1+1+1+1+1+1+1 = b ∧ ¬ k+1+1+1+1+1+1+1+1+1+1+1+1 = b ∧ ¬ k+1+1+1+1+1+1+1+1+1+1+1+1+1 = b ∧ ¬ k+1+1+1+1+1+1+1+1+1+1+1+1+1+1 = b ∧ ¬ k+1+1+1+1+1+1+1+1+1+1+1+1+1+1+1 = b ∧ ¬ k+1+1+1+1+1+1+1+1+1+1+1+1+1+1+1+1 = b ∧ ¬ k+1+1+1+1+1+1+1+1+1+1+1+1+1+1+1+1+1 = b ∧ ¬ k+1+1+1+1+1+1+1+1+1+1+1+1+1+1+1+1+1+1 = b ∧ ¬ k+1+1+1+1+1+1+1+1+1+1+1+1+1+1+1+1+1+1+1 = b ∧ ¬ k+1+1+1+1+1+1+1+1+1+1+1+1+1+1+1+1+1+1+1+1 = b ∧ ¬ k+1+1+1+1+1+1+1+1+1+1+1+1+1+1+1+1+1+1+1+1+1 = b ∧ ¬ k+1+1+1+1+1+1+1+1+1+1+1+1+1+1+1+1+1+1+1+1+1+1 = b ∧ ¬ k+1+1+1+1+1+1+1+1+1+1+1+1+1+1+1+1+1+1+1+1+1+1+1 = b ∧ ¬ k+1+1+1+1+1+1+1+1+1+1+1+1+1+1+1+1+1+1+1+1+1+1+1+1 = b ∧ ¬ k+1+1+1+1+1+1+1+1+1+1+1+1+1+1+1+1+1+1+1+1+1+1+1+1+1 = b ∧ ¬ k+1+1+1+1+1+1+1+1+1+1+1+1+1+1+1+1+1+1+1+1+1+1+1+1+1+1 = b ∧ ¬ k+1+1+1+1+1+1+1+1+1+1+1+1+1+1+1+1+1+1+1+1+1+1+1+1+1+1+1 = b ∧ ¬ k+1+1+1+1+1+1+1+1+1+1+1+1+1+1+1+1+1+1+1+1+1+1+1+1+1+1+1+1 = b ∧ ¬ k+1+1+1+1+1+1+1+1+1+1+1+1+1+1+1+1+1+1+1+1+1+1+1+1+1+1+1+1+1 = b ∧ ¬ k+1+1+1+1+1+1+1+1+1+1+1+1+1+1+1+1+1+1+1+1+1+1+1+1+1+1+1+1+1+1 = b ∧ ¬ k+1+1+1+1+1+1+1+1+1+1+1+1+1+1+1+1+1+1+1+1+1+1+1+1+1+1+1+1+1+1+1 = b ∧ ¬ k+1+1+1+1+1+1+1+1+1+1+1+1+1+1+1+1+1+1+1+1+1+1+1+1+1+1+1+1+1+1+1+1 = b ∧ ¬ k+1+1+1+1+1+1+1+1+1+1+1+1+1+1+1+1+1+1+1+1+1+1+1+1+1+1+1+1+1+1+1+1+1 = b ∧ ¬ k+1+1+1+1+1+1+1+1+1+1+1+1+1+1+1+1+1+1+1+1+1+1+1+1+1+1+1+1+1+1+1+1+1+1 = b ∧ ¬ k+1+1+1+1+1+1+1+1+1+1+1+1+1+1+1+1+1+1+1+1+1+1+1+1+1+1+1+1+1+1+1+1+1+1+1 = b ∧ ¬ k+1+1+1+1+1+1+1+1+1+1+1+1+1+1+1+1+1+1+1+1+1+1+1+1+1+1+1+1+1+1+1+1+1+1+1+1 = b ∧ ¬ k+1+1+1+1+1+1+1+1+1+1+1+1+1+1+1+1+1+1+1+1+1+1+1+1+1+1+1+1+1+1+1+1+1+1+1+1+1 = b ∧ ¬ k+1+1+1+1+1+1+1+1+1+1+1+1+1+1+1+1+1+1+1+1+1+1+1+1+1+1+1+1+1+1+1+1+1+1+1+1+1+1 = b ∧ ¬ k+1+1+1+1+1+1+1+1+1+1+1+1+1+1+1+1+1+1+1+1+1+1+1+1+1+1+1+1+1+1+1+1+1+1+1+1+1+1+1 = b ∧ ¬ k+1+1+1+1+1+1+1+1+1+1+1+1+1+1+1+1+1+1+1+1+1+1+1+1+1+1+1+1+1+1+1+1+1+1+1+1+1+1+1+1 = b ∧ ¬ k+1+1+1+1+1+1+1+1+1+1+1+1+1+1+1+1+1+1+1+1+1+1+1+1+1+1+1+1+1+1+1+1+1+1+1+1+1+1+1+1+1 = b ∧ ¬ k+1+1+1+1+1+1+1+1+1+1+1+1+1+1+1+1+1+1+1+1+1+1+1+1+1+1+1+1+1+1+1+1+1+1+1+1+1+1+1+1+1+1 = b ∧ ¬ k+1+1+1+1+1+1+1+1+1+1+1+1+1+1+1+1+1+1+1+1+1+1+1+1+1+1+1+1+1+1+1+1+1+1+1+1+1+1+1+1+1+1+1 = b ∧ ¬ k+1+1+1+1+1+1+1+1+1+1+1+1+1+1+1+1+1+1+1+1+1+1+1+1+1+1+1+1+1+1+1+1+1+1+1+1+1+1+1+1+1+1+1+1 = b ∧ ¬ k+1+1+1+1+1+1+1+1+1+1+1+1+1+1+1+1+1+1+1+1+1+1+1+1+1+1+1+1+1+1+1+1+1+1+1+1+1+1+1+1+1+1+1+1+1 = b ∧ ¬ k+1+1+1+1+1+1+1+1+1+1+1+1+1+1+1+1+1+1+1+1+1+1+1+1+1+1+1+1+1+1+1+1+1+1+1+1+1+1+1+1+1+1+1+1+1+1 = b ∧ ¬ k+1+1+1+1+1+1+1+1+1+1+1+1+1+1+1+1+1+1+1+1+1+1+1+1+1+1+1+1+1+1+1+1+1+1+1+1+1+1+1+1+1+1+1+1+1+1+1 = b ∧ ¬ k+1+1+1+1+1+1+1+1+1+1+1+1+1+1+1+1+1+1+1+1+1+1+1+1+1+1+1+1+1+1+1+1+1+1+1+1+1+1+1+1+1+1+1+1+1+1+1+1 = b ∧ ¬ k+1+1+1+1+1+1+1+1+1+1+1+1+1+1+1+1+1+1+1+1+1+1+1+1+1+1+1+1+1+1+1+1+1+1+1+1+1+1+1+1+1+1+1+1+1+1+1+1+1 = b ∧ ¬ k+1+1+1+1+1+1+1+1+1+1+1+1+1+1+1+1+1+1+1+1+1+1+1+1+1+1+1+1+1+1+1+1+1+1+1+1+1+1+1+1+1+1+1+1+1+1+1+1+1+1 = b ∧ ¬ k+1+1+1+1+1+1+1+1+1+1+1+1+1+1+1+1+1+1+1+1+1+1+1+1+1+1+1+1+1+1+1+1+1+1+1+1+1+1+1+1+1+1+1+1+1+1+1+1+1+1+1 = b ∧ ¬ k+1+1+1+1+1+1+1+1+1+1+1+1+1+1+1+1+1+1+1+1+1+1+1+1+1+1+1+1+1+1+1+1+1+1+1+1+1+1+1+1+1+1+1+1+1+1+1+1+1+1+1+1 = b ∧ ¬ k+1+1+1+1+1+1+1+1+1+1+1+1+1+1+1+1+1+1+1+1+1+1+1+1+1+1+1+1+1+1+1+1+1+1+1+1+1+1+1+1+1+1+1+1+1+1+1+1+1+1+1+1+1 = b ∧ ¬ k+1+1+1+1+1+1+1+1+1+1+1+1+1+1+1+1+1+1+1+1+1+1+1+1+1+1+1+1+1+1+1+1+1+1+1+1+1+1+1+1+1+1+1+1+1+1+1+1+1+1+1+1+1+1 = b ∧ ¬ k+1+1+1+1+1+1+1+1+1+1+1+1+1+1+1+1+1+1+1+1+1+1+1+1+1+1+1+1+1+1+1+1+1+1+1+1+1+1+1+1+1+1+1+1+1+1+1+1+1+1+1+1+1+1+1 = b ∧ ¬ k+1+1+1+1+1+1+1+1+1+1+1+1+1+1+1+1+1+1+1+1+1+1+1+1+1+1+1+1+1+1+1+1+1+1+1+1+1+1+1+1+1+1+1+1+1+1+1+1+1+1+1+1+1+1+1+1 = b ∧ ¬ k+1+1+1+1+1+1+1+1+1+1+1+1+1+1+1+1+1+1+1+1+1+1+1+1+1+1+1+1+1+1+1+1+1+1+1+1+1+1+1+1+1+1+1+1+1+1+1+1+1+1+1+1+1+1+1+1+1 = b ∧ ¬ k+1+1+1+1+1+1+1+1+1+1+1+1+1+1+1+1+1+1+1+1+1+1+1+1+1+1+1+1+1+1+1+1+1+1+1+1+1+1+1+1+1+1+1+1+1+1+1+1+1+1+1+1+1+1+1+1+1+1 = b ∧ ¬ k+1+1+1+1+1+1+1+1+1+1+1+1+1+1+1+1+1+1+1+1+1+1+1+1+1+1+1+1+1+1+1+1+1+1+1+1+1+1+1+1+1+1+1+1+1+1+1+1+1+1+1+1+1+1+1+1+1+1+1 = b ∧ ¬ k+1+1+1+1+1+1+1+1+1+1+1+1+1+1+1+1+1+1+1+1+1+1+1+1+1+1+1+1+1+1+1+1+1+1+1+1+1+1+1+1+1+1+1+1+1+1+1+1+1+1+1+1+1+1+1+1+1+1+1+1 = b := by and_intros <;> omega
theorem le5 {p:Nat → Prop} {j:Nat} (h:∀ q,j ≤ q → p q) (k:Nat) (hk:j ≤ k):p k ∧ p (k+1) ∧ p (k+1+1) ∧ p (k+1+1+1) ∧ p (k+1+1+1+1) ∧ p (k+1+1+1+1+1) := by and_intros <;> exact h _ (by omega)
theorem le12 {p:Nat → Prop} {j:Nat} (h:∀ q,j ≤ q → p q) (k:Nat) (hk:j ≤ k):p k ∧ p (k+1) ∧ p (k+1+1) ∧ p (k+1+1+1) ∧ p (k+1+1+1+1) ∧ p (k+1+1+1+1+1) ∧ p (k+1+1+1+1+1+1) ∧ p (k+1+1+1+1+1+1+1) ∧ p (k+1+1+1+1+1+1+1+1) ∧ p (k+1+1+1+1+1+1+1+1+1) ∧ p (k+1+1+1+1+1+1+1+1+1+1) ∧ p (k+1+1+1+1+1+1+1+1+1+1+1) ∧ p (k+1+1+1+1+1+1+1+1+1+1+1+1) := by and_intros <;> exact h _ (by omega)
def Lst (R:PV → Prop) (v:PV):Prop := v = .nil ∨ ∃ es,v = .slice es ∧ ∀ w ∈ es,R w
def els:PV → List PV
 | .slice es => es
 | _ => []
theorem els_slice (es:List PV):els (.slice es) = es := rfl
theorem Lst.cell {R:PV → Prop} {v:PV} (h:Lst R v):v.cellOk = true ∧ v.cells = [v] ∧ v.isTop = false ∧ v.ids = [] ∧ v.pureB = true := by
 rcases h with rfl | ⟨es,rfl,_⟩ <;> exact ⟨rfl,rfl,rfl,rfl,rfl⟩
theorem Lst.len {R:PV → Prop} {v:PV} (h:Lst R v):lenPV v = some (els v).length := by
 rcases h with rfl | ⟨es,rfl,_⟩ <;> rfl
theorem Lst.at {R:PV → Prop} {v:PV} (h:Lst R v) {i:Nat} (hi:i < (els v).length):∃ es w,v = .slice es ∧ es[i]? = some w ∧ R w := by
 rcases h with rfl | ⟨es,rfl,h⟩
 ·simp [els] at hi
 ·exact ⟨es,es[i],rfl,List.getElem?_eq_getElem hi,h _ (List.getElem_mem hi)⟩
theorem Lst.all {R:PV → Prop} {v:PV} (h:Lst R v):∀ w ∈ els v,R w := by
 rcases h with rfl | ⟨es,rfl,h⟩
 ·intro w hw; cases hw
 ·exact h
theorem Lst.mono {R R':PV → Prop} {v:PV} (h:Lst R v) (hr:∀ w,R w → R' w):Lst R' v := by
 rcases h with rfl | ⟨es,rfl,h⟩
 ·exact .inl rfl
 ·exact .inr ⟨es,rfl,fun w hw => hr w (h w hw)⟩
def intV:PV → Int
 | .int _ k => k
 | _ => 0
def strV:PV → List UInt8
 | .str s => s.data.toList
 | _ => []
theorem strV_ba (l:List UInt8):strV (.str (ba l)) = l := ba_list l
def optV:PV → Opt
 | .agg [.int _ a,.int _ b,.int _ c] => ⟨a,b,c⟩
 | _ => default
def nomV:PV → Int
 | .agg [_,.int _ a,_,_] => a
 | _ => 0
def IsOpt (w:PV):Prop := ∃ a b c,w = .agg [.int .i64 a,.int .i64 b,.int .i64 c]
def IsDim (w:PV):Prop := ∃ l a b c,w = .agg [.str (ba l),.int .i64 a,.int .i64 b,.int .i64 c] ∧ l.length ≤ maxLen
def IsTerm (w:PV):Prop := ∃ d l,w = .agg [.int .i64 d,.str (ba l)] ∧ l.length ≤ maxLen
open Classical in
noncomputable def numT (l:List UInt8):Option Rat := if h:∃ x,RatText l x then some h.choose else none
theorem numT_some {l:List UInt8} {x:Rat} (h:RatText l x):numT l = some x := by
 have h':∃ x,RatText l x := ⟨x,h⟩
 unfold numT
 rw [dif_pos h']
 exact congrArg some (h'.choose_spec.inj h)
theorem numT_none {l:List UInt8} (h:∀ x,¬ RatText l x):numT l = none := by
 unfold numT
 rw [dif_neg fun ⟨x,hx⟩ => h x hx]
noncomputable def setF (f:List Rat) (t:PV):List Rat := match t with
 | .agg [.int _ d,.str s] => f.set d.toNat ((numT s.data.toList).getD 0)
 | _ => f
noncomputable def facs (n:Nat) (ts:List PV):List Rat := ts.foldl setF (List.replicate n 0)
noncomputable def rqV (n:Nat):PV → Rq
 | .agg [_,_,.str c,ts,_,_,.str lo,.str hi] => ⟨(numT c.data.toList).getD 0,facs n (els ts),numT lo.data.toList,numT hi.data.toList⟩
 | _ => default
noncomputable def offV:PV → Off
 | .agg (d :: o :: r :: _) => ⟨(els d).map nomV,(els o).map fun w => (els w).map optV,(els r).map (rqV (els d).length)⟩
 | _ => ⟨[],[],[]⟩
def NumOk (l:List UInt8):Prop := l.length ≤ 400 ∧ ∃ x,RatText l x
def EndOk (l:List UInt8):Prop := l = [] ∨ NumOk l
def TermOk (n:Nat) (t:PV):Prop := ∃ d l,t = .agg [.int .i64 d,.str (ba l)] ∧ 0 ≤ d ∧ d < n ∧ NumOk l
def ReqOk (n:Nat) (w:PV):Prop := ∃ nm op c ts fc ar lo hi,w = .agg [.str (ba nm),.int .i64 op,.str (ba c),ts,.str (ba fc),ar,.str (ba lo),.str (ba hi)] ∧ op = 0 ∧ NumOk c ∧ Lst (TermOk n) ts ∧ (els ts).length ≤ 64 ∧ EndOk lo ∧ EndOk hi ∧ ar.pureB = true ∧ ar.cellOk = true ∧ ar.cells = [ar] ∧ ar.isTop = false ∧ ar.ids = []
def OptOk (w:PV):Prop := ∃ a b c,w = .agg [.int .i64 a,.int .i64 b,.int .i64 c] ∧ -1073741824 ≤ a ∧ a ≤ 1073741824 ∧ -1073741824 ≤ b ∧ b ≤ 1073741824 ∧ 0 ≤ c ∧ c ≤ 1048576
def DimOk (w:PV):Prop := ∃ l a b c,w = .agg [.str (ba l),.int .i64 a,.int .i64 b,.int .i64 c] ∧ -1073741824 ≤ a ∧ a ≤ 1073741824
def RowOk (w:PV):Prop := Lst OptOk w ∧ 0 < (els w).length ∧ (els w).length ≤ 8
structure Vld (d o r:PV):Prop where
 dim:Lst DimOk d
 n0:0 < (els d).length
 n1:(els d).length ≤ 12
 opt:Lst RowOk o
 on:(els o).length = (els d).length
 req:Lst (ReqOk (els d).length) r
 m1:(els r).length ≤ 16
section
variable {d o r:PV}
theorem OptOk.pure {w:PV} (h:OptOk w):w.pureB = true := by
 obtain ⟨a,b,c,rfl,_⟩ := h
 rfl
theorem Vld.n (h:Vld d o r):(offV (.agg [d,o,r])).n = (els d).length := by simp [Off.n,offV]
theorem Vld.m (h:Vld d o r):(offV (.agg [d,o,r])).m = (els r).length := by simp [Off.m,offV]
theorem offV_app (d o r:PV) (l:List PV):offV (.agg (d :: o :: r :: l)) = offV (.agg [d,o,r]) := rfl
theorem Vld.row (h:Vld d o r) {i:Nat} (hi:i < (els d).length):∃ es row,o = .slice es ∧ es[i]? = some (.slice row) ∧ (∀ w ∈ row,OptOk w) ∧ 0 < row.length ∧ row.length ≤ 8 ∧ (offV (.agg [d,o,r])).cnt i = row.length ∧
  ∀ k (hk:k < row.length),(offV (.agg [d,o,r])).opt i k = optV row[k] := by
 obtain ⟨es,w,rfl,h1,h2,h3,h4⟩ := h.opt.at (i := i) (by rw [h.on]; exact hi)
 rcases h2 with rfl | ⟨row,rfl,h2⟩
 ·simp [els] at h3
 refine ⟨es,row,rfl,h1,h2,h3,h4,?_,fun k hk => ?_⟩
 ·simp [Off.cnt,Off.row,offV,els_slice,List.getD,h1]
 ·simp [Off.opt,Off.row,offV,els_slice,List.getD,h1,hk]
theorem Vld.nom (h:Vld d o r) {i:Nat} (hi:i < (els d).length):∃ es l a b c,d = .slice es ∧ es[i]? = some (.agg [.str (ba l),.int .i64 a,.int .i64 b,.int .i64 c]) ∧ -1073741824 ≤ a ∧ a ≤ 1073741824 ∧ (offV (.agg [d,o,r])).nom.getD i 0 = a := by
 obtain ⟨es,w,rfl,h1,l,a,b,c,rfl,h2,h3⟩ := h.dim.at hi
 exact ⟨es,l,a,b,c,rfl,h1,h2,h3,by simp [offV,els_slice,List.getD,h1,nomV]⟩
theorem Vld.rq (h:Vld d o r) {q:Nat} (hq:q < (els r).length):∃ es nm op c ts fc ar lo hi,r = .slice es ∧ es[q]? = some (.agg [.str (ba nm),.int .i64 op,.str (ba c),ts,.str (ba fc),ar,.str (ba lo),.str (ba hi)]) ∧ NumOk c ∧ Lst (TermOk (els d).length) ts ∧ (els ts).length ≤ 64 ∧ EndOk lo ∧ EndOk hi ∧
  (ar.pureB = true ∧ ar.cellOk = true ∧ ar.cells = [ar] ∧ ar.isTop = false ∧ ar.ids = []) ∧ (offV (.agg [d,o,r])).rq q = ⟨(numT c).getD 0,facs (els d).length (els ts),numT lo,numT hi⟩ := by
 obtain ⟨es,w,rfl,h1,nm,op,c,ts,fc,ar,lo,hi,rfl,h2,h3,h4,h5,h6,h7,h8⟩ := h.req.at hq
 exact ⟨es,nm,op,c,ts,fc,ar,lo,hi,rfl,h1,h3,h4,h5,h6,h7,h8,by simp [Off.rq,offV,els_slice,List.getD,h1,rqV,ba_list]⟩
theorem Vld.pure (h:Vld d o r):(PV.agg [d,o,r]).pureB = true := by
 simp [PV.pureB,PV.pureL,h.dim.cell.2.2.2.2,h.opt.cell.2.2.2.2,h.req.cell.2.2.2.2]
theorem Vld.cost (h:Vld d o r) {i k:Nat} (hi:i < (els d).length) (hk:k < (offV (.agg [d,o,r])).cnt i):0 ≤ ((offV (.agg [d,o,r])).opt i k).cost ∧ ((offV (.agg [d,o,r])).opt i k).cost ≤ 1048576 := by
 obtain ⟨es,row,rfl,h1,h2,h3,h4,h5,h6⟩ := h.row hi
 rw [h5] at hk
 rw [h6 k hk]
 obtain ⟨a,b,c,e,_,_,_,_,h7,h8⟩ := h2 _ (List.getElem_mem hk)
 rw [e]
 exact ⟨h7,h8⟩
end
def NL (l:List Nat):List PV := l.map fun (k:Nat) => .int .i64 (k:Int)
def natsV (v:PV):List Nat := (els v).map fun w => (intV w).toNat
def IsPre (v:PV) (l:List Nat):Prop := (v = .nil ∧ l = []) ∨ v = .slice (NL l)
theorem natsV_NL (l:List Nat):natsV (.slice (NL l)) = l := by simp [natsV,els,NL,List.map_map,Function.comp_def,intV]
theorem IsPre.nats {v:PV} {l:List Nat} (h:IsPre v l):natsV v = l := by
 rcases h with ⟨rfl,rfl⟩ | rfl
 ·rfl
 ·exact natsV_NL l
theorem NL_len (l:List Nat):(NL l).length = l.length := by simp [NL]
theorem IsPre.cell {v:PV} {l:List Nat} (h:IsPre v l):v.cellOk = true ∧ v.cells = [v] ∧ v.isTop = false ∧ v.ids = [] ∧ v.pureB = true := by
 rcases h with ⟨rfl,_⟩ | rfl <;> exact ⟨rfl,rfl,rfl,rfl,rfl⟩
theorem IsPre.len {v:PV} {l:List Nat} (h:IsPre v l):lenPV v = some l.length := by
 rcases h with ⟨rfl,rfl⟩ | rfl
 ·rfl
 ·simp [lenPV,NL_len]
theorem NL_get {l:List Nat} {i:Nat} (h:i < l.length):(NL l)[i]? = some (.int .i64 ((l.getD i 0:Nat):Int)) := by simp [NL,List.getD,h]
theorem IsPre.at {v:PV} {l:List Nat} (h:IsPre v l) {i:Nat} (hi:i < l.length):v = .slice (NL l) := by
 rcases h with ⟨_,rfl⟩ | h
 ·simp at hi
 ·exact h
theorem NL_app (l:List Nat) (k:Nat):NL (l ++ [k]) = NL l ++ [.int .i64 (k:Int)] := by simp [NL]
theorem pure_NL (l:List Nat):PV.pureL (NL l) = true := by
 rw [pureL_iff]
 intro v hv
 obtain ⟨k,_,rfl⟩ := List.mem_map.1 hv
 rfl
def IsSp (w:PV) (p:Rat × Rat):Prop := ∃ b m c u b' m' c' u',w = .agg [.bool b,m,.bool c,u,.bool b',m',.bool c',u'] ∧ IsRat (.agg [.bool b,m,.bool c,u]) p.1 ∧ IsRat (.agg [.bool b',m',.bool c',u']) p.2
theorem lt_succ_cases {l x:Nat} (h:l < x+1):l < x ∨ l = x := by omega
def slv (r n:Nat):PV := if n = 0 then .nil else .own r 0 n
theorem slv_pos {r n:Nat} (h:0 < n):slv r n = .own r 0 n := if_neg (by omega)
theorem slv_ids (r n:Nat):(slv r n).cells = [slv r n] ∧ (slv r n).cellOk = true ∧ (slv r n).isTop = false ∧ lenPV (slv r n) = some n := by
 unfold slv
 split
 ·rename_i h; subst h; exact ⟨rfl,rfl,rfl,rfl⟩
 ·exact ⟨rfl,rfl,rfl,rfl⟩
def sv (n:Nat) (es:List PV):PV := if n = 0 then .nil else .slice es
theorem sv_pos {n:Nat} {es:List PV} (h:0 < n):sv n es = .slice es := if_neg (by omega)
theorem outK_tuple {Q:PV → Prop} {vs ws:List PV} {fl:List Nat} {s:St} (hp:PV.pureL vs = false) (h:reifyWL s.hp (reifyN s.hp 5) vs = some (ws,fl)) (hq:Q (.tuple ws)):outK Q (.tuple vs) s := by
 refine ⟨.tuple ws,fl,?_,hq⟩
 unfold reify
 rw [show (PV.tuple vs).pureB = false from hp]
 show reifyW s.hp (reifyN s.hp 5) (.tuple vs) = _
 rw [reifyW,h]
theorem outK_agg {Q:PV → Prop} {vs ws:List PV} {fl:List Nat} {s:St} (hp:PV.pureL vs = false) (h:reifyWL s.hp (reifyN s.hp 5) vs = some (ws,fl)) (hq:Q (.agg ws)):outK Q (.agg vs) s := by
 refine ⟨.agg ws,fl,?_,hq⟩
 unfold reify
 rw [show (PV.agg vs).pureB = false from hp]
 show reifyW s.hp (reifyN s.hp 5) (.agg vs) = _
 rw [reifyW,h]
theorem lenS (es:List PV):lenPV (.slice es) = some es.length := rfl
theorem lenN:lenPV .nil = some 0 := rfl
theorem lenO (r lo n:Nat):lenPV (.own r lo n) = some n := rfl
attribute [simp] lenS lenN lenO
attribute [local simp] slice3Op clearOp
end Go.Proofs.Tryz
namespace Go.Proofs.Tryz
open Go Go.Pi Go.Num Go.Lin Go.Alc
variable [Hole] {G:Nat → Option PV}
attribute [local simp] slice3Op clearOp
def cmpOR:CRel | [x,y],r => r = .int .i64 ((optV x).cost - (optV y).cost) | _,_ => False
theorem cmpO_ok {f:Nat} (hf:f = 69 ∨ f = 117) (x y:PV) (hx:OptOk x) (hy:OptOk y):Gives prog G f [x,y] (cmpOR [x,y]) := by
 obtain ⟨a,b,c,rfl,_,_,_,_,c0,c1⟩ := hx
 obtain ⟨a',b',c',rfl,_,_,_,_,d0,d1⟩ := hy
 have w:IntKind.i64.wrap (c - c') = c - c' := w_i64 (by omega)
 rcases hf with rfl | rfl
 ·refine gives (S := []) (by kernel_rfl) (by kernel_rfl) (callW_of ann69 func69 rfl (by kernel_rfl) ?_)
  simp [tb,w]
  exact outK_pure rfl rfl
 ·refine gives (S := []) (by kernel_rfl) (by kernel_rfl) (callW_of ann117 func117 rfl (by kernel_rfl) ?_)
  simp [tb,w]
  exact outK_pure rfl rfl
def minR:CRel | [v,_],r => ∃ a b c,r = .agg [.int .i64 a,.int .i64 b,.int .i64 c] ∧ c = mcN ((els v).map optV) ((els v).length - 1) | _,_ => False
def mfI (es:List PV) (g:Nat):Nat → List PV → St → Prop := fun n vs st => ∃ (i k:Nat) (a b c:Int) (H:List (Nat × Ent)),vs = [.int .i64 (i:Int),.slice es,.ptr 7 0 0,.func g [],.ptr 0 0 0] ∧ i + n = es.length ∧ 0 < i ∧ c = mcN (es.map optV) (i - 1) ∧
 OptOk (.agg [.int .i64 a,.int .i64 b,.int .i64 c]) ∧ (∃ z,Go.Pi.look H 0 = some ⟨3,[.agg [.int .i64 z,.int .i64 z,.int .i64 z]]⟩) ∧ Go.Pi.look H 7 = some ⟨3,[.agg [.int .i64 a,.int .i64 b,.int .i64 c]]⟩ ∧ st = ⟨k,H,[]⟩
theorem min_ok {g:Nat} (hg:g = 69 ∨ g = 117) (es:List PV) (he:∀ w ∈ es,OptOk w) (h0:0 < es.length) (h1:es.length ≤ 8):Gives prog G 68 [.slice es,.func g []] (minR [.slice es,.func g []]) := by
 have n0:¬ (es.length:Int) < 1 := by omega
 have hS:Go.Pi.look (α := CRel) [(69,cmpOR),(117,cmpOR)] g = some cmpOR := by rcases hg with rfl | rfl <;> rfl
 refine gives (S := [(69,cmpOR),(117,cmpOR)]) (by kernel_rfl) (by kernel_rfl) (callW_of ann68 func68 rfl (by kernel_rfl) ?_)
 have e0:es[0]? = some es[0] := List.getElem?_eq_getElem h0
 obtain ⟨a,b,c,ew,hw⟩ := he _ (List.getElem_mem h0)
 rw [ew] at e0
 have e0' := getE e0
 simp [tb,n0,h0,e0,e0']
 refine loopK_of (mfI es g) rfl rfl ?step (es.length - 1) _ _ ?init
 case init => exact ⟨1,_,a,b,c,_,rfl,by omega,by omega,by simp [mcN,List.getD,e0,optV],⟨a,b,c,rfl,hw⟩,⟨_,rfl⟩,rfl,rfl⟩
 case step =>
 rintro n vs st ⟨i,k,a,b,c,H,rfl,hin,hi0,hc,hok,⟨z,l0⟩,l1,rfl⟩
 have lus:∀ E,Go.Pi.look (Go.Pi.upd H 0 E) 0 = some E := fun E => look_upd_same l0
 rcases Nat.eq_zero_or_pos n with hn | hn
 ·have hi:i = es.length := by omega
  subst hi
  simp [tb,l0,l1,lus]
  exact outK_pure rfl ⟨a,b,c,rfl,hc⟩
 ·have hi:i < es.length := by omega
  have hii:(i:Int) < es.length := by omega
  have wi:IntKind.i64.wrap ((i:Int)+1) = ((i+1:Nat):Int) := w_i64 (by omega)
  have ei:es[i]? = some es[i] := List.getElem?_eq_getElem hi
  have hw := he _ (List.getElem_mem hi)
  obtain ⟨a',b',c',ew,hw'⟩ := id hw
  rw [ew] at ei hw
  have ei' := getE ei
  simp [run_draw,tb,hii,hi,ei,ei',l1]
  refine dcallK_pure hS rfl (cmpO_ok hg _ _ hw hok) fun r hr => ?_
  simp only [cmpOR,optV] at hr
  subst hr
  have hm:mcN (es.map optV) i = if c' < c then c' else c := by
   obtain ⟨j,rfl⟩:∃ j,i = j+1 := ⟨i - 1,by omega⟩
   simp only [Nat.add_sub_cancel] at hc
   unfold mcN
   rw [← hc]
   simp [List.getD,ei,optV]
  by_cases hcc:c' < c
  ·have h2:c' - c < 0 := by omega
   have lu1:∀ E,Go.Pi.look (Go.Pi.upd H 7 E) 7 = some E := fun E => look_upd_same l1
   have lu0:∀ E,Go.Pi.look (Go.Pi.upd H 7 E) 0 = some _ := fun E => (look_upd_ne (by omega)).trans l0
   simp [run_draw,tb,hii,hi,ei,ei',l1,h2,wi]
   refine ⟨logOk_free (by simp [okTri,tri]),n - 1,by omega,i+1,_,a',b',c',_,rfl,by omega,by omega,?_,hw,⟨_,lu0 _⟩,lu1 _,rfl⟩
   simp [hm,hcc]
  ·have h2:¬ c' - c < 0 := by omega
   simp [run_draw,tb,hii,hi,ei,ei',l1,h2,wi]
   refine ⟨logOk_free (by simp [okTri,tri]),n - 1,by omega,i+1,_,a,b,c,_,rfl,by omega,by omega,?_,hok,⟨_,l0⟩,l1,rfl⟩
   simp [hm,hcc]
def IsRows (O:Off) (q:Nat) (w:PV):Prop := ∃ rows,w = .slice rows ∧ rows.length = O.n ∧ ∀ i,i < O.n → ∃ row,rows[i]? = some (.slice row) ∧ row.length = O.cnt i ∧ ∀ k,k < O.cnt i → ∃ x,row[k]? = some x ∧ IsSp x (sp O q i k)
structure DeskOk (d o r vs vc vh:PV):Prop extends Vld d o r where
 cheap:∃ es,vh = .slice es ∧ es.length = (els d).length ∧ ∀ i,i < (els d).length → es[i]? = some (.int .i64 (Alc.cheap (offV (.agg [d,o,r])) i))
 const:((els r).length = 0 ∧ vc = .nil) ∨ ∃ es,vc = .slice es ∧ es.length = (els r).length ∧ ∀ q,q < (els r).length → ∃ w,es[q]? = some w ∧ IsRat w ((offV (.agg [d,o,r])).rq q).c
 spans:((els r).length = 0 ∧ vs = .nil) ∨ ∃ es,vs = .slice es ∧ es.length = (els r).length ∧ ∀ q,q < (els r).length → ∃ w,es[q]? = some w ∧ IsRows (offV (.agg [d,o,r])) q w
section
variable {d o r vs vc vh:PV}
theorem DeskOk.cells (h:DeskOk d o r vs vc vh):(vs.cellOk = true ∧ vs.cells = [vs] ∧ vs.isTop = false ∧ vs.ids = [] ∧ vs.pureB = true) ∧ (vc.cellOk = true ∧ vc.cells = [vc] ∧ vc.isTop = false ∧ vc.ids = [] ∧ vc.pureB = true) ∧ (vh.cellOk = true ∧ vh.cells = [vh] ∧ vh.isTop = false ∧ vh.ids = [] ∧ vh.pureB = true) := by
 refine ⟨?_,?_,?_⟩
 ·rcases h.spans with ⟨_,rfl⟩ | ⟨es,rfl,_⟩ <;> exact ⟨rfl,rfl,rfl,rfl,rfl⟩
 ·rcases h.const with ⟨_,rfl⟩ | ⟨es,rfl,_⟩ <;> exact ⟨rfl,rfl,rfl,rfl,rfl⟩
 ·obtain ⟨es,rfl,_⟩ := h.cheap
  exact ⟨rfl,rfl,rfl,rfl,rfl⟩
theorem Vld.mc (h:Vld d o r) {i:Nat} (hi:i < (els d).length):∀ j,j < (offV (.agg [d,o,r])).cnt i → 0 ≤ mcN ((offV (.agg [d,o,r])).row i) j ∧ mcN ((offV (.agg [d,o,r])).row i) j ≤ 1048576
 | 0,hj => h.cost hi hj
 | j+1,hj => by
  have ih := h.mc hi j (by omega)
  have h1 := h.cost hi hj
  unfold mcN
  split
  ·exact h1
  ·exact ih
theorem Vld.cnt0 (h:Vld d o r) {i:Nat} (hi:i < (els d).length):0 < (offV (.agg [d,o,r])).cnt i := by
 obtain ⟨es,row,rfl,h1,h2,h3,h4,h5,h6⟩ := h.row hi
 omega
theorem Vld.cnt8 (h:Vld d o r) {i:Nat} (hi:i < (els d).length):(offV (.agg [d,o,r])).cnt i ≤ 8 := by
 obtain ⟨es,row,rfl,h1,h2,h3,h4,h5,h6⟩ := h.row hi
 omega
theorem Vld.ci (h:Vld d o r) {l:List Nat} (hl:InR (offV (.agg [d,o,r])) l) {i:Nat} (hi:i < (els d).length):0 ≤ Alc.ci (offV (.agg [d,o,r])) l i ∧ Alc.ci (offV (.agg [d,o,r])) l i ≤ 1048576 := by
 unfold Alc.ci Alc.cheap
 split
 ·rename_i h1
  exact h.cost hi (hl i h1)
 ·exact h.mc hi _ (by have := h.cnt0 hi; omega)
theorem Vld.bnd (h:Vld d o r) {l:List Nat} (hl:InR (offV (.agg [d,o,r])) l):∀ i,i ≤ (els d).length → 0 ≤ Alc.bnd (offV (.agg [d,o,r])) l i ∧ Alc.bnd (offV (.agg [d,o,r])) l i ≤ 1048576 * (i:Int)
 | 0,_ => ⟨Int.le_refl _,by simp [Alc.bnd]⟩
 | i+1,hi => by
  have ih := h.bnd hl i (by omega)
  have h1 := h.ci hl (i := i) (by omega)
  unfold Alc.bnd
  constructor
  ·omega
  ·rw [Int.natCast_add]; omega
end
noncomputable def boundR:CRel | [.eptr D 0,l],r => r = .int .i64 (bound (offV D) (natsV l)) | _,_ => False
noncomputable def bdI (O:Off) (D vl:PV) (hs:List PV) (l:List Nat):Nat → List PV → St → Prop := fun n vs st => ∃ (i k:Nat) (H:List (Nat × Ent)),vs = [.int .i64 (i:Int),vl,.int .i64 (hs.length:Int),.int .i64 (bnd O l i),.slice hs,.eptr D 0] ∧ i + n = hs.length ∧ st = ⟨k,H,[]⟩
theorem bound_ok {d o r vs vc vh vl:PV} {l:List Nat} (h:DeskOk d o r vs vc vh) (hl:IsPre vl l) (hi:InR (offV (.agg [d,o,r])) l) (hn:l.length ≤ (els d).length):Gives prog G 31 [.eptr (.agg [d,o,r,vs,vc,vh]) 0,vl] (boundR [.eptr (.agg [d,o,r,vs,vc,vh]) 0,vl]) := by
 have hfe:boundR [.eptr (.agg [d,o,r,vs,vc,vh]) 0,vl] = fun x => x = .int .i64 (bound (offV (.agg [d,o,r])) l) := by funext x; simp only [boundR,offV_app,hl.nats]
 rw [hfe]
 obtain ⟨O,hO⟩:∃ O,O = offV (.agg [d,o,r]) := ⟨_,rfl⟩
 rw [← hO] at hi ⊢
 have hON:O.n = (els d).length := by rw [hO]; exact h.n
 obtain ⟨hs,rfl,hsl,hh⟩ := h.cheap
 have hN := h.n1
 obtain ⟨p1,p2,p3,p4,p5⟩ := hl.cell
 have ll := hl.len
 refine gives (S := []) (by kernel_rfl) (by kernel_rfl) (callW_of ann31 func31 rfl (by kernel_rfl) ?_)
 simp [tb]
 refine loopK_of (bdI O (.agg [d,o,r,vs,vc,.slice hs]) vl hs l) rfl rfl ?step hs.length _ _ ?init
 case init => exact ⟨0,_,_,rfl,by omega,rfl⟩
 case step =>
 rintro n vs' st ⟨i,k,H,rfl,hin,rfl⟩
 rcases Nat.eq_zero_or_pos n with hn0 | hn0
 ·have hi0:i = hs.length := by omega
  subst hi0
  simp [tb]
  refine outK_pure rfl ?_
  show PV.int .i64 _ = PV.int .i64 (bnd O l O.n)
  rw [hON,hsl]
 ·have hi0:i < hs.length := by omega
  have hii:(i:Int) < hs.length := by omega
  have wi:IntKind.i64.wrap ((i:Int)+1) = ((i+1:Nat):Int) := w_i64 (by omega)
  have ei := hh i (by omega)
  rw [← hO] at ei
  have ei' := getE ei
  have hb := h.bnd (by rw [← hO]; exact hi) i (by omega)
  have hc := h.ci (by rw [← hO]; exact hi) (i := i) (by omega)
  have hb1:bnd O l (i+1) = bnd O l i + ci O l i := rfl
  rw [← hO] at hb hc
  by_cases hil:i < l.length
  ·have hil':(i:Int) < l.length := by omega
   obtain ⟨es,row,rfl,h1,h2,h3,h4,h5,h6⟩ := h.row (i := i) (by omega)
   rw [← hO] at h5 h6
   have h1' := getE h1
   have hiel:i < es.length := by have := h.on; simp only [els_slice] at this; omega
   have hk := hi i hil
   rw [h5] at hk
   obtain rfl := hl.at hil
   have hg := NL_get hil
   have hg' := getE hg
   have hci:ci O l i = (optV row[l.getD i 0]).cost := by unfold Alc.ci; rw [if_pos hil,h6 _ hk]
   obtain ⟨a,b,c,ew,_⟩ := h2 _ (List.getElem_mem hk)
   have hr:row[l.getD i 0]? = some (.agg [.int .i64 a,.int .i64 b,.int .i64 c]) := by rw [List.getElem?_eq_getElem hk,ew]
   rw [ew] at hci
   generalize l.getD i 0 = q at hk hg hg' hr ew hci
   have hr' := getE hr
   simp only [optV] at hci
   have wc:IntKind.i64.wrap (bnd O l i + c) = bnd O l (i+1) := by rw [hb1,← hci]; exact w_i64 (by omega)
   simp [run_draw,tb,hii,hi0,ei,ei',hil,hil',NL_len,h1,h1',hiel,hg,hg',hk,hr,hr',wc,wi]
   exact ⟨logOk_free (by simp [okTri,tri]),n - 1,by omega,i+1,_,_,by rfl,by omega,rfl⟩
  ·have hil':¬ (i:Int) < l.length := by omega
   have hci:ci O l i = cheap O i := by unfold Alc.ci; rw [if_neg hil]
   have wc:IntKind.i64.wrap (bnd O l i + cheap O i) = bnd O l (i+1) := by rw [hb1,← hci]; exact w_i64 (by omega)
   simp [run_draw,tb,hii,hi0,ei,ei',hil',ll,wc,wi]
   exact ⟨n - 1,by omega,i+1,_,_,by rfl,by omega,rfl⟩
def IsI (w:PV):Prop := ∃ k,w = .int .i64 k
def intsV (v:PV):List Int := (els v).map intV
theorem intsV_len (v:PV):(intsV v).length = (els v).length := by simp [intsV]
theorem intsV_at {es:List PV} {i:Nat} {k:Int} (h:es[i]? = some (.int .i64 k)):(intsV (.slice es)).getD i 0 = k := by simp [intsV,els,List.getD,h,intV]
def Within (O:Off) (l:List Int):Prop := ∀ i,i < l.length → 0 ≤ l.getD i 0 ∧ l.getD i 0 < O.cnt i
def prefixR:CRel | [.eptr D 0,v],r => ∃ e,r = .int .i64 e ∧ (e = 0 ↔ (intsV v).length ≤ (offV D).n ∧ Within (offV D) (intsV v)) | _,_ => False
def pfI (O:Off) (D v:PV):Nat → List PV → St → Prop := fun n vs st => ∃ (i k:Nat) (H:List (Nat × Ent)),vs = [.int .i64 (i:Int),.int .i64 ((els v).length:Int),v,.eptr D 0] ∧ i + n = (els v).length ∧ (∀ j,j < i → 0 ≤ (intsV v).getD j 0 ∧ (intsV v).getD j 0 < O.cnt j) ∧ st = ⟨k,H,[]⟩
theorem prefix_ok {d o r vs vc vh v:PV} (h:DeskOk d o r vs vc vh) (hv:Lst IsI v) (hl:(els v).length ≤ maxLen):Gives prog G 81 [.eptr (.agg [d,o,r,vs,vc,vh]) 0,v] (prefixR [.eptr (.agg [d,o,r,vs,vc,vh]) 0,v]) := by
 have hfe:prefixR [.eptr (.agg [d,o,r,vs,vc,vh]) 0,v] = fun x => ∃ e,x = .int .i64 e ∧ (e = 0 ↔ (els v).length ≤ (els d).length ∧ Within (offV (.agg [d,o,r])) (intsV v)) := by funext x; simp only [prefixR,offV_app,h.n,intsV_len]
 rw [hfe]
 obtain ⟨O,hO⟩:∃ O,O = offV (.agg [d,o,r]) := ⟨_,rfl⟩
 rw [← hO]
 have hN := h.n1
 have hm:maxLen ≤ 9223372036854775807 := by decide
 have ld := h.dim.len
 have lv := hv.len
 refine gives (S := []) (by kernel_rfl) (by kernel_rfl) (callW_of ann81 func81 rfl (by kernel_rfl) ?_)
 by_cases hs:(els d).length < (els v).length
 ·have hs':((els d).length:Int) < (els v).length := by omega
  simp [tb,ld,lv,hs']
  exact outK_pure rfl ⟨13,rfl,by omega⟩
 ·have hs':¬ ((els d).length:Int) < (els v).length := by omega
  simp [tb,ld,lv,hs']
  refine loopK_of (pfI O (.agg [d,o,r,vs,vc,vh]) v) rfl rfl ?step (els v).length _ _ ?init
  case init => exact ⟨0,_,_,rfl,by omega,fun j hj => absurd hj (Nat.not_lt_zero j),rfl⟩
  case step =>
  rintro n vs' st ⟨i,k,H,rfl,hin,hall,rfl⟩
  rcases Nat.eq_zero_or_pos n with hn0 | hn0
  ·have hi0:i = (els v).length := by omega
   subst hi0
   simp [tb]
   exact outK_pure rfl ⟨0,rfl,fun _ => ⟨by omega,fun j hj => hall j (by rw [intsV_len] at hj; exact hj)⟩,fun _ => rfl⟩
  ·have hi0:i < (els v).length := by omega
   have hii:(i:Int) < (els v).length := by omega
   have wi:IntKind.i64.wrap ((i:Int)+1) = ((i+1:Nat):Int) := w_i64 (by omega)
   obtain ⟨ev,w,rfl,f1,x,rfl⟩ := hv.at hi0
   have f1' := getE f1
   have hx := intsV_at f1
   obtain ⟨es,row,rfl,h1,h2,h3,h4,h5,h6⟩ := h.row (i := i) (by omega)
   rw [← hO] at h5 h6
   have h1' := getE h1
   have hiel:i < es.length := by have := h.on; simp only [els_slice] at this; omega
   simp only [els_slice] at hii hi0 lv ⊢
   by_cases c1:x < 0
   ·simp [tb,hii,hi0,f1,f1',c1]
    refine outK_pure rfl ⟨2,rfl,fun e => by omega,fun ⟨_,hw⟩ => ?_⟩
    have := hw i (by rw [intsV_len]; exact hi0)
    rw [hx] at this; omega
   ·by_cases c2:(row.length:Int) ≤ x
    ·simp [tb,hii,hi0,f1,f1',c1,c2,h1,h1',hiel]
     refine outK_pure rfl ⟨2,rfl,fun e => by omega,fun ⟨_,hw⟩ => ?_⟩
     have := hw i (by rw [intsV_len]; exact hi0)
     rw [hx,h5] at this; omega
    ·simp [tb,hii,hi0,f1,f1',c1,c2,h1,h1',hiel,wi]
     refine ⟨n - 1,by omega,i+1,_,_,by rfl,by simp only [els_slice] at hin ⊢; omega,fun j hj => ?_,rfl⟩
     rcases lt_succ_cases hj with h7 | rfl
     ·exact hall j h7
     ·rw [hx,h5]; omega
def choiceR:CRel | [.eptr D 0,v],r => ∃ e,r = .int .i64 e ∧ (e = 0 ↔ (intsV v).length = (offV D).n ∧ Within (offV D) (intsV v)) | _,_ => False
theorem whole_okd {d o r vs vc vh v:PV} (h:DeskOk d o r vs vc vh) (hv:Lst IsI v) (hl:(els v).length ≤ maxLen):Gives prog G 42 [.eptr (.agg [d,o,r,vs,vc,vh]) 0,v] (choiceR [.eptr (.agg [d,o,r,vs,vc,vh]) 0,v]) := by
 have hfe:choiceR [.eptr (.agg [d,o,r,vs,vc,vh]) 0,v] = fun x => ∃ e,x = .int .i64 e ∧ (e = 0 ↔ (els v).length = (els d).length ∧ Within (offV (.agg [d,o,r])) (intsV v)) := by funext x; simp only [choiceR,offV_app,h.n,intsV_len]
 rw [hfe]
 have ld := h.dim.len
 have lv := hv.len
 refine gives (S := [(81,prefixR)]) (by kernel_rfl) (by kernel_rfl) (callW_of ann42 func42 rfl (by kernel_rfl) ?_)
 by_cases hs:(els v).length = (els d).length
 ·simp [tb,ld,lv,hs]
  refine callK_pure rfl (by simp [PV.pureL,PV.pureB,hv.cell.2.2.2.2]) (prefix_ok h hv hl) fun x hx => ?_
  simp only [prefixR,offV_app,h.n,intsV_len] at hx
  obtain ⟨e,rfl,he⟩ := hx
  simp [tb]
  refine outK_pure rfl ⟨e,rfl,he.trans ⟨fun h => h.2,fun h => ⟨by omega,h⟩⟩⟩
 ·have hs':((((els v).length:Int) != ((els d).length:Int)) = true) := by simp only [bne_iff_ne,ne_eq]; omega
  simp [tb,ld,lv,hs']
  exact outK_pure rfl ⟨13,rfl,by omega⟩
structure XOk (d o r fs:PV):Prop extends Vld d o r where
 forms:((els r).length = 0 ∧ fs = .nil) ∨ ∃ es,fs = .slice es ∧ es.length = (els r).length ∧ ∀ q,q < (els r).length → ∃ b m c u fe,es[q]? = some (.agg [.bool b,m,.bool c,u,.slice fe]) ∧ IsRat (.agg [.bool b,m,.bool c,u]) ((offV (.agg [d,o,r])).rq q).c ∧ fe.length = (els d).length ∧
  ∀ i,i < (els d).length → ∃ x,fe[i]? = some x ∧ IsRat x (((offV (.agg [d,o,r])).rq q).f.getD i 0)
theorem XOk.cell {d o r fs:PV} (h:XOk d o r fs):fs.cellOk = true ∧ fs.cells = [fs] ∧ fs.isTop = false ∧ fs.ids = [] ∧ fs.pureB = true := by
 rcases h.forms with ⟨_,rfl⟩ | ⟨es,rfl,_⟩ <;> exact ⟨rfl,rfl,rfl,rfl,rfl⟩
theorem XOk.pure {d o r fs:PV} (h:XOk d o r fs):(PV.agg [d,o,r,fs]).pureB = true := by
 simp [PV.pureB,PV.pureL,h.dim.cell.2.2.2.2,h.opt.cell.2.2.2.2,h.req.cell.2.2.2.2,h.cell.2.2.2.2]
noncomputable def costR:CRel | [X,l],r => r = .int .i64 (bound (offV X) (natsV l)) | _,_ => False
noncomputable def ctI (O:Off) (vl:PV) (os:List PV) (l:List Nat):Nat → List PV → St → Prop := fun n vs st => ∃ (i k:Nat) (H:List (Nat × Ent)),vs = [.int .i64 (i:Int),.int .i64 (bnd O l i),vl,.int .i64 (os.length:Int),.slice os] ∧ i + n = os.length ∧ st = ⟨k,H,[]⟩
theorem cost_ok {d o r fs vl:PV} {l:List Nat} (h:XOk d o r fs) (hl:IsPre vl l) (hi:InR (offV (.agg [d,o,r])) l) (hn:l.length ≤ (els d).length):Gives prog G 79 [.agg [d,o,r,fs],vl] (costR [.agg [d,o,r,fs],vl]) := by
 have hfe:costR [.agg [d,o,r,fs],vl] = fun x => x = .int .i64 (bound (offV (.agg [d,o,r])) l) := by funext x; simp only [costR,offV_app,hl.nats]
 rw [hfe]
 obtain ⟨O,hO⟩:∃ O,O = offV (.agg [d,o,r]) := ⟨_,rfl⟩
 rw [← hO] at hi ⊢
 have hON:O.n = (els d).length := by rw [hO]; exact h.n
 have hN := h.n1
 have hd := h.dim.cell
 have hoc := h.opt.cell
 have hrc := h.req.cell
 have hfc := h.cell
 obtain ⟨p1,p2,p3,p4,p5⟩ := hl.cell
 have ll := hl.len
 have lo := h.opt.len
 obtain ⟨os,hos⟩:∃ os,o = .slice os := by
  obtain ⟨es,_,e,_⟩ := h.opt.at (i := 0) (by have := h.on; have := h.n0; omega)
  exact ⟨es,e⟩
 have hol := h.on
 rw [hos] at hol lo
 simp only [els_slice] at hol lo
 refine gives (S := [(68,minR)]) (by kernel_rfl) (by kernel_rfl) (callW_of ann79 func79 rfl (by kernel_rfl) ?_)
 simp [tb,hd.1,hoc.1,hrc.1,hfc.1,hos]
 refine loopK_of (ctI O vl os l) rfl rfl ?step os.length _ _ ?init
 case init => exact ⟨0,_,_,rfl,by omega,rfl⟩
 case step =>
 rintro n vs' st ⟨i,k,H,rfl,hin,rfl⟩
 rcases Nat.eq_zero_or_pos n with hn0 | hn0
 ·have hi0:i = os.length := by omega
  subst hi0
  simp [tb]
  refine outK_pure rfl ?_
  show PV.int .i64 _ = PV.int .i64 (bnd O l O.n)
  rw [hON,hol]
 ·have hi0:i < os.length := by omega
  have hii:(i:Int) < os.length := by omega
  have wi:IntKind.i64.wrap ((i:Int)+1) = ((i+1:Nat):Int) := w_i64 (by omega)
  have hb := h.bnd (by rw [← hO]; exact hi) i (by omega)
  have hc := h.ci (by rw [← hO]; exact hi) (i := i) (by omega)
  have hb1:bnd O l (i+1) = bnd O l i + ci O l i := rfl
  rw [← hO] at hb hc
  obtain ⟨es,row,hes,h1,h2,h3,h4,h5,h6⟩ := h.row (i := i) (by omega)
  rw [hos] at hes
  cases hes
  rw [← hO] at h5 h6
  have h1' := getE h1
  by_cases hil:i < l.length
  ·have hil':(i:Int) < l.length := by omega
   have hk := hi i hil
   rw [h5] at hk
   obtain rfl := hl.at hil
   have hg := NL_get hil
   have hg' := getE hg
   have hci:ci O l i = (optV row[l.getD i 0]).cost := by unfold Alc.ci; rw [if_pos hil,h6 _ hk]
   obtain ⟨a,b,c,ew,_⟩ := h2 _ (List.getElem_mem hk)
   have hr:row[l.getD i 0]? = some (.agg [.int .i64 a,.int .i64 b,.int .i64 c]) := by rw [List.getElem?_eq_getElem hk,ew]
   rw [ew] at hci
   generalize l.getD i 0 = q at hk hg hg' hr ew hci
   have hr' := getE hr
   simp only [optV] at hci
   have wc:IntKind.i64.wrap (bnd O l i + c) = bnd O l (i+1) := by rw [hb1,← hci]; exact w_i64 (by omega)
   simp [run_draw,tb,hii,hi0,hil,hil',NL_len,h1,h1',hg,hg',hk,hr,hr',wc,wi]
   exact ⟨n - 1,by omega,i+1,_,_,by rfl,by omega,rfl⟩
  ·have hil':¬ (i:Int) < l.length := by omega
   have hci:ci O l i = cheap O i := by unfold Alc.ci; rw [if_neg hil]
   simp [run_draw,tb,hii,hi0,h1,h1',hil',ll]
   refine callK_pure rfl (by simp [PV.pureL,PV.pureB]) (min_ok (.inr rfl) row h2 h3 h4) fun x hx => ?_
   obtain ⟨a,b,c,rfl,hcc⟩ := hx
   have hch:cheap O i = c := by
    rw [hcc]
    unfold Alc.cheap
    rw [h5]
    show mcN (O.row i) _ = _
    congr 1
    rw [hO]
    simp [Off.row,offV,hos,els_slice,List.getD,h1]
   have wc:IntKind.i64.wrap (bnd O l i + c) = bnd O l (i+1) := by rw [← hch,hb1,← hci]; exact w_i64 (by omega)
   simp [run_draw,tb,wc,wi]
   exact ⟨n - 1,by omega,i+1,_,_,by rfl,by omega,rfl⟩
theorem Parse_ok (lib:ReadLib G) (l:List UInt8) (hl:l.length ≤ 400):Gives prog G 66 [.str (ba l)] (readR [.str (ba l)]) := by
 have hfe:readR [.str (ba l)] = ReadP l := by funext r; simp only [readR,ba_list]
 rw [hfe]
 refine gives (S := [(102,readR)]) (by kernel_rfl) (by kernel_rfl) (callW_of ann66 func66 rfl (by kernel_rfl) ?_)
 simp [run_draw,tb]
 refine callK_pure rfl rfl (readM_ok lib l (by omega) 400 (by omega)) fun r hr => ?_
 simp only [readR,ba_list] at hr
 have hr0 := hr
 obtain ⟨b,m,c,u,e,x,rfl,h1,h2⟩ := hr.cases
 obtain ⟨b',m',c',u',d,ee,i1,i2,_⟩ := h1.cases
 simp only [PV.agg.injEq,List.cons.injEq,PV.bool.injEq,and_true] at ee
 obtain ⟨rfl,rfl,rfl,rfl⟩ := ee
 obtain ⟨a1,a2,a3,a4,a5⟩ := i1.cell
 obtain ⟨b1,b2,b3,b4,b5⟩ := i2.cell
 simp [run_draw,tb,a1,b1]
 exact outK_pure (by simp [PV.pureB,PV.pureL,a5,b5]) hr0
def rminR:CRel | [a,b],r => IsRat r (rmin (ratv a) (ratv b)) | _,_ => False
def rmaxR:CRel | [a,b],r => IsRat r (rmax (ratv a) (ratv b)) | _,_ => False
theorem cmpR_lt0 {x y:Rat}:cmpR x y < 0 ↔ x < y := by
 unfold cmpR
 split
 ·rename_i h; simp [h]
 ·rename_i h
  split <;> simp [h]
theorem cmpR_gt0 {x y:Rat}:0 < cmpR x y ↔ y < x := by
 unfold cmpR
 split
 ·rename_i h
  simp only [Int.reduceNeg,Int.reduceLT,false_iff]
  grind
 ·rename_i h
  split
  ·rename_i h2; subst h2; simp [Rat.lt_irrefl]
  ·rename_i h2
   simp only [Int.reduceLT,true_iff]
   grind
theorem rmin_ok (v w:PV) (x y:Rat) (hv:IsRat v x) (hw:IsRat w y) (fx:RFits x 100000) (fy:RFits y 100000):Gives prog G 71 [v,w] (rminR [v,w]) := by
 have hfe:rminR [v,w] = fun r => IsRat r (rmin x y) := by funext r; simp only [rminR,ratv_eq hv,ratv_eq hw]
 rw [hfe]
 have hv0 := hv
 have hw0 := hw
 obtain ⟨b,m,c,n,d,rfl,h1,h2,h3⟩ := hv.cases
 obtain ⟨c1,c2,c3,c4,c5⟩ := h1.cell
 obtain ⟨e1,e2,e3,e4,e5⟩ := h2.cell
 obtain ⟨b',m',c',n',d',rfl,k1,k2,k3⟩ := hw.cases
 obtain ⟨g1,g2,g3,g4,g5⟩ := k1.cell
 obtain ⟨i1,i2,i3,i4,i5⟩ := k2.cell
 refine gives (S := [(67,rcompareR)]) (by kernel_rfl) (by kernel_rfl) (callW_of ann71 func71 rfl (by kernel_rfl) ?_)
 simp [run_draw,tb,c1,e1,g1,i1]
 refine callK_pure rfl (by simp [PV.pureL,hv0.pure,hw0.pure]) (rcompare_ok _ _ _ _ hw0 hv0 fy fx) fun r hr => ?_
 simp only [rcompareR,ratv_eq hv0,ratv_eq hw0] at hr
 subst hr
 by_cases hc:y < x
 ·have hc' := cmpR_lt0.2 hc
  simp [run_draw,tb,c1,e1,g1,i1,hc']
  exact outK_pure (by simp [PV.pureB,PV.pureL,g5,i5]) (by unfold rmin; rw [if_pos hc]; exact hw0)
 ·have hc':¬ cmpR y x < 0 := fun h => hc (cmpR_lt0.1 h)
  simp [run_draw,tb,c1,e1,g1,i1,hc']
  exact outK_pure (by simp [PV.pureB,PV.pureL,c5,e5]) (by unfold rmin; rw [if_neg hc]; exact hv0)
theorem rmax_ok (v w:PV) (x y:Rat) (hv:IsRat v x) (hw:IsRat w y) (fx:RFits x 100000) (fy:RFits y 100000):Gives prog G 72 [v,w] (rmaxR [v,w]) := by
 have hfe:rmaxR [v,w] = fun r => IsRat r (rmax x y) := by funext r; simp only [rmaxR,ratv_eq hv,ratv_eq hw]
 rw [hfe]
 have hv0 := hv
 have hw0 := hw
 obtain ⟨b,m,c,n,d,rfl,h1,h2,h3⟩ := hv.cases
 obtain ⟨c1,c2,c3,c4,c5⟩ := h1.cell
 obtain ⟨e1,e2,e3,e4,e5⟩ := h2.cell
 obtain ⟨b',m',c',n',d',rfl,k1,k2,k3⟩ := hw.cases
 obtain ⟨g1,g2,g3,g4,g5⟩ := k1.cell
 obtain ⟨i1,i2,i3,i4,i5⟩ := k2.cell
 refine gives (S := [(67,rcompareR)]) (by kernel_rfl) (by kernel_rfl) (callW_of ann72 func72 rfl (by kernel_rfl) ?_)
 simp [run_draw,tb,c1,e1,g1,i1]
 refine callK_pure rfl (by simp [PV.pureL,hv0.pure,hw0.pure]) (rcompare_ok _ _ _ _ hw0 hv0 fy fx) fun r hr => ?_
 simp only [rcompareR,ratv_eq hv0,ratv_eq hw0] at hr
 subst hr
 by_cases hc:x < y
 ·have hc' := cmpR_gt0.2 hc
  simp [run_draw,tb,c1,e1,g1,i1,hc']
  exact outK_pure (by simp [PV.pureB,PV.pureL,g5,i5]) (by unfold rmax; rw [if_pos hc]; exact hw0)
 ·have hc':¬ 0 < cmpR y x := fun h => hc (cmpR_gt0.1 h)
  simp [run_draw,tb,c1,e1,g1,i1,hc']
  exact outK_pure (by simp [PV.pureB,PV.pureL,c5,e5]) (by unfold rmax; rw [if_neg hc]; exact hv0)
theorem rmin_fits {x y:Rat} {k:Nat} (hx:RFits x k) (hy:RFits y k):RFits (rmin x y) k := by unfold rmin; split <;> assumption
theorem rmax_fits {x y:Rat} {k:Nat} (hx:RFits x k) (hy:RFits y k):RFits (rmax x y) k := by unfold rmax; split <;> assumption
theorem fit400 {l:List UInt8} {x:Rat} (h:RatText l x) (hl:l.length ≤ 400):RFits x 401 := by
 have h1 := h.lt
 have h2 := pw_ge_ten l.length
 have h3:pw l.length ≤ pw 400 := pw_mono hl
 have h4:pw 401 = 4294967296 * pw 400 := rfl
 have h5 := pw_pos 400
 obtain ⟨Y,hY⟩:∃ Y,Y = 10 ^ l.length := ⟨_,rfl⟩
 obtain ⟨P,hP⟩:∃ P,P = pw 400 := ⟨_,rfl⟩
 rw [← hY] at h1 h2
 rw [← hP] at h3 h4 h5
 obtain ⟨a1,a2⟩ := h1
 exact ⟨by unfold Fits; rw [h4]; omega,by unfold Fits; rw [h4]; simp only [Int.natAbs_natCast]; omega⟩
theorem rfits_int {n:Int} (h:n.natAbs < 4294967296):RFits (n:Rat) 1 := by
 have e:pw 1 = 4294967296 := by decide
 exact ⟨by unfold Fits; rw [Rat.num_intCast,e]; omega,by unfold Fits; rw [Rat.den_intCast,e]; decide⟩
theorem num400 {l:List UInt8} (h:NumOk l):∃ x,RatText l x ∧ numT l = some x ∧ RFits x 401 := by
 obtain ⟨hl,x,hx⟩ := h
 exact ⟨x,hx,numT_some hx,fit400 hx hl⟩
section
variable {d o r:PV}
theorem facs_fits {n:Nat}:∀ (ts:List PV) (f:List Rat),(∀ t ∈ ts,TermOk n t) → (∀ i,RFits (f.getD i 0) 401) → ∀ i,RFits ((ts.foldl setF f).getD i 0) 401
 | [],f,_,hf => hf
 | t :: ts,f,ht,hf => by
  obtain ⟨e,l,rfl,_,_,hl⟩ := ht t (List.mem_cons_self ..)
  obtain ⟨x,_,hx,hfx⟩ := num400 hl
  refine facs_fits ts _ (fun t h => ht t (List.mem_cons_of_mem _ h)) fun i => ?_
  simp only [setF,ba_list,hx,Option.getD_some,List.getD,List.getElem?_set]
  split
  ·split
   ·exact hfx
   ·exact RFits.zero (by omega)
  ·exact hf i
theorem facs_len:∀ (ts:List PV) (f:List Rat),(ts.foldl setF f).length = f.length
 | [],f => rfl
 | t :: ts,f => by
  rw [List.foldl_cons,facs_len ts]
  unfold setF
  split
  ·simp
  ·rfl
theorem Vld.fits (h:Vld d o r) {q:Nat} (hq:q < (els r).length):RFits ((offV (.agg [d,o,r])).rq q).c 401 ∧ ∀ i,RFits (((offV (.agg [d,o,r])).rq q).f.getD i 0) 401 := by
 obtain ⟨es,nm,op,c,ts,fc,ar,lo,hi,rfl,h1,h2,h3,h4,h5,h6,h7,h8⟩ := h.rq hq
 rw [h8]
 obtain ⟨x,_,hx,hfx⟩ := num400 h2
 refine ⟨by rw [hx]; exact hfx,facs_fits (n := (els d).length) _ _ h3.all fun i => ?_⟩
 simp only [List.getD,List.getElem?_replicate]
 split
 ·exact RFits.zero (by omega)
 ·exact RFits.zero (by omega)
theorem Vld.ends (h:Vld d o r) {q i k:Nat} (hq:q < (els r).length) (hi:i < (els d).length) (hk:k < (offV (.agg [d,o,r])).cnt i):RFits (Alc.ends (offV (.agg [d,o,r])) q i k).1 402 ∧ RFits (Alc.ends (offV (.agg [d,o,r])) q i k).2 402 := by
 obtain ⟨es,row,e1,h1,h2,h3,h4,h5,h6⟩ := h.row hi
 obtain ⟨ds,l,a,b,c,e2,k1,k2,k3,k4⟩ := h.nom hi
 obtain ⟨a',b',c',e3,j1,j2,j3,j4,_⟩ := h2 _ (List.getElem_mem (by rw [h5] at hk; exact hk))
 have hf := (h.fits hq).2 i
 unfold Alc.ends
 rw [k4,h6 k (by rw [h5] at hk; exact hk),e3]
 exact ⟨RFits.mul hf (rfits_int (by simp only [optV]; omega)),RFits.mul hf (rfits_int (by simp only [optV]; omega))⟩
theorem Vld.sp (h:Vld d o r) {q i k:Nat} (hq:q < (els r).length) (hi:i < (els d).length) (hk:k < (offV (.agg [d,o,r])).cnt i):RFits (Alc.sp (offV (.agg [d,o,r])) q i k).1 402 ∧ RFits (Alc.sp (offV (.agg [d,o,r])) q i k).2 402 := by
 have := h.ends hq hi hk
 exact ⟨rmin_fits this.1 this.2,rmax_fits this.1 this.2⟩
theorem Vld.gl (h:Vld d o r) {q i:Nat} (hq:q < (els r).length) (hi:i < (els d).length):∀ j,j < (offV (.agg [d,o,r])).cnt i → RFits (Alc.gl (offV (.agg [d,o,r])) q i j).1 402 ∧ RFits (Alc.gl (offV (.agg [d,o,r])) q i j).2 402
 | 0,hj => h.sp hq hi hj
 | j+1,hj => by
  have a := h.gl hq hi j (by omega)
  have b := h.sp hq hi hj
  exact ⟨rmax_fits a.1 b.1,rmin_fits a.2 b.2⟩
theorem Vld.glA (h:Vld d o r) {q i:Nat} (hq:q < (els r).length) (hi:i < (els d).length):∀ j,j ≤ (offV (.agg [d,o,r])).cnt i → RFits (Alc.glA (offV (.agg [d,o,r])) q i j).1 402 ∧ RFits (Alc.glA (offV (.agg [d,o,r])) q i j).2 402
 | 0,_ => h.sp hq hi (h.cnt0 hi)
 | j+1,hj => by
  rw [glA_eq]
  exact h.gl hq hi j (by omega)
theorem Vld.si (h:Vld d o r) {l:List Nat} (hl:InR (offV (.agg [d,o,r])) l) {q i:Nat} (hq:q < (els r).length) (hi:i < (els d).length):RFits (Alc.si (offV (.agg [d,o,r])) q l i).1 402 ∧ RFits (Alc.si (offV (.agg [d,o,r])) q l i).2 402 := by
 unfold Alc.si
 split
 ·rename_i h1
  exact h.sp hq hi (hl i h1)
 ·exact h.gl hq hi _ (by have := h.cnt0 hi; omega)
theorem Vld.wst (h:Vld d o r) {l:List Nat} (hl:InR (offV (.agg [d,o,r])) l) {q:Nat} (hq:q < (els r).length):∀ i,i ≤ (els d).length → RFits (Alc.wst (offV (.agg [d,o,r])) q l i).1 (401 + 403 * i) ∧ RFits (Alc.wst (offV (.agg [d,o,r])) q l i).2 (401 + 403 * i)
 | 0,_ => ⟨(h.fits hq).1,(h.fits hq).1⟩
 | i+1,hi => by
  have a := h.wst hl hq i (by omega)
  have b := h.si hl hq (i := i) (by omega)
  exact ⟨(RFits.add a.1 b.1).mono (by omega),(RFits.add a.2 b.2).mono (by omega)⟩
end
def placeR:CRel | [.str s,_],r => ∃ i:Int,r = .int .i64 i ∧ -1 ≤ i ∧ i < s.size | _,_ => False
def partsR:CRel | _,r => ∃ a b f,r = .tuple [.str a,.str b,.bool f]
structure LongLib (G:Nat → Option PV):Prop where
 place:∀ l:List UInt8,Gives prog G 204 [.str (ba l),.int .u8 47] (placeR [.str (ba l),.int .u8 47])
theorem indexL_ok (lib:LongLib G) (l:List UInt8) (hl:400 < l.length):Gives prog G 186 [.str (ba l),.str (ba [47])] (placeR [.str (ba l),.str (ba [47])]) := by
 have hne:¬ [47] = l := fun e => by rw [← e] at hl; simp at hl
 refine gives (S := [(204,placeR)]) (by kernel_rfl) (by kernel_rfl) (callW_of ann186 func186 rfl (by kernel_rfl) ?_)
 simp [tb,ba_size,sb_eql,hne,indexOp]
 refine callK_pure rfl rfl (lib.place l) fun r hr => ?_
 simp only [placeR] at hr ⊢
 obtain ⟨i,rfl,h1,h2⟩ := hr
 simp [tb]
 exact outK_pure rfl ⟨i,rfl,h1,h2⟩
theorem cutL_ok (lib:LongLib G) (l:List UInt8) (hl:400 < l.length) (hm:l.length ≤ maxLen):Gives prog G 163 [.str (ba l),.str (ba [47])] (partsR [.str (ba l),.str (ba [47])]) := by
 refine gives (S := [(186,placeR)]) (by kernel_rfl) (by kernel_rfl) (callW_of ann163 func163 rfl (by kernel_rfl) ?_)
 simp [tb,ba_size]
 refine callK_pure rfl rfl (indexL_ok lib l hl) fun r hr => ?_
 simp only [placeR,ba_size] at hr
 obtain ⟨i,rfl,h1,h2⟩ := hr
 rcases Int.lt_or_le i 0 with h0 | h0
 ·have h0':¬ 0 ≤ i := by omega
  simp [tb,h0']
  exact outK_pure rfl ⟨_,_,_,rfl⟩
 ·obtain ⟨j,rfl⟩ := Int.eq_ofNat_of_zero_le h0
  have wj:IntKind.i64.wrap ((j:Int)+1) = ((j+1:Nat):Int) := w_i64 (by unfold maxLen at hm; omega)
  have hj:j ≤ l.length := by omega
  have hj1:j+1 ≤ l.length := by omega
  simp [run_draw,tb,ba_size,wj,sliceOp,lowOf,highOf,natOf_int,extract_ba,hj,hj1]
  exact ⟨by decide +kernel,outK_pure rfl ⟨_,_,_,rfl⟩⟩
theorem cutS_ok (lib:LongLib G) (l:List UInt8) (hl:400 < l.length) (hm:l.length ≤ maxLen):Gives prog G 138 [.str (ba l),.str (ba [47])] (partsR [.str (ba l),.str (ba [47])]) := by
 refine gives (S := [(163,partsR)]) (by kernel_rfl) (by kernel_rfl) (callW_of ann138 func138 rfl (by kernel_rfl) ?_)
 simp [tb]
 refine callK_pure rfl rfl (cutL_ok lib l hl hm) fun r hr => ?_
 obtain ⟨a,b,f,rfl⟩ := hr
 simp [tb]
 exact outK_pure rfl ⟨_,_,_,rfl⟩
theorem readL_ok (lib:LongLib G) (l:List UInt8) (hl:400 < l.length) (hm:l.length ≤ maxLen):Gives prog G 102 [.str (ba l),.int .i64 400] (fun r => r = .tuple [ratZero,.int .i64 5]) := by
 refine gives (S := [(138,partsR)]) (by kernel_rfl) (by kernel_rfl) (callW_of ann102 func102 rfl (by kernel_rfl) ?_)
 have hl':(400:Int) < l.length := by omega
 simp [tb,ba_size,c47]
 refine callK_pure rfl rfl (cutS_ok lib l hl hm) fun r hr => ?_
 obtain ⟨a,b,f,rfl⟩ := hr
 simp [tb,ba_size,hl']
 exact outK_pure rfl rfl
def ReadAny (l:List UInt8) (r:PV):Prop := (l.length ≤ 400 ∧ ReadP l r) ∨ (400 < l.length ∧ r = .tuple [ratZero,.int .i64 5])
def parseAnyR:CRel | [.str s],r => ReadAny s.data.toList r | _,_ => False
theorem ReadAny.cases {l:List UInt8} {r:PV} (h:ReadAny l r):∃ b m c u e x,r = .tuple [.agg [.bool b,m,.bool c,u],.int .i64 e] ∧ IsRat (.agg [.bool b,m,.bool c,u]) x ∧ (e = 0 → NumOk l ∧ RatText l x) := by
 rcases h with ⟨h1,h2⟩ | ⟨h1,rfl⟩
 ·obtain ⟨b,m,c,u,e,x,rfl,h3,h4⟩ := h2.cases
  refine ⟨b,m,c,u,e,x,rfl,h3,fun he => ?_⟩
  rcases h4 with ⟨_,h4⟩ | ⟨h4,_⟩
  ·exact ⟨⟨h1,x,h4⟩,h4⟩
  ·exact absurd he h4
 ·exact ⟨false,.nil,false,.nil,5,0,rfl,isRat_zero,fun h => absurd h (by decide)⟩
theorem parseAny_ok (rl:ReadLib G) (lib:LongLib G) (l:List UInt8) (hm:l.length ≤ maxLen):Gives prog G 66 [.str (ba l)] (parseAnyR [.str (ba l)]) := by
 have hfe:parseAnyR [.str (ba l)] = ReadAny l := by funext r; simp only [parseAnyR,ba_list]
 rw [hfe]
 rcases Nat.lt_or_ge 400 l.length with h | h
 ·refine gives (S := [(102,fun _ r => r = .tuple [ratZero,.int .i64 5])]) (by kernel_rfl) (by kernel_rfl) (callW_of ann66 func66 rfl (by kernel_rfl) ?_)
  simp [run_draw,tb]
  refine callK_pure rfl rfl (readL_ok lib l h hm) fun r hr => ?_
  subst hr
  simp [run_draw,tb,ratZero,intZero]
  exact outK_pure rfl (.inr ⟨h,rfl⟩)
 ·refine (Parse_ok rl l h).mono fun r hr => .inl ⟨h,?_⟩
  simpa only [readR,ba_list] using hr
end Go.Proofs.Tryz
