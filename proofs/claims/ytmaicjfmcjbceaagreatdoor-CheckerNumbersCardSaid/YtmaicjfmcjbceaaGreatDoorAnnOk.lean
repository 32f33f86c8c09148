/- What is told of the functions' code is right. -/
import Derived.Test.YtmaicjfmcjbceaaGreatDoorLib
import Derived.Test.YtmaicjfmcjbceaaGreatDoorData
namespace Go.Proofs.Tryz
open Go Go.Pi
variable [Hole]
set_option linter.unusedSectionVars false

noncomputable def A0 : FuncId → Option Ann := YtmaicjfmcjbceaaGreatDoor.ann

def badAnn (P : Program) (p : Nat × Ann) : Bool :=
  match P.funcs[p.1]? with
  | some fn => match fn.body with
    | some c => !(okCode fn.ntmps p.2.draws c && !(fn.name == "runtime.NumGoroutine"))
    | none => true
  | none => true

theorem annOk_of {P : Program} {l : List (Nat × Ann)} (h : l.all (fun p => !badAnn P p) = true) : AnnOk P (Go.Pi.look l) := by
  intro f a hf
  have := List.all_eq_true.1 h _ (look_mem _ _ _ hf)
  unfold badAnn at this
  simp only at this
  split at this
  · rename_i fn hfn
    split at this
    · rename_i c hc
      simp only [Bool.not_not, Bool.and_eq_true, Bool.not_eq_true', beq_eq_false_iff_ne] at this
      exact ⟨fn, c, hfn, hc, this.2, this.1⟩
    · simp at this
  · simp at this

set_option maxRecDepth 1000000 in
theorem annOk : AnnOk prog A0 := annOk_of (P := prog) (l := YtmaicjfmcjbceaaGreatDoor.annTab) (by decide +kernel)

theorem mixed : prog.follows .mixedOrders = true := by kernel_rfl

end Go.Proofs.Tryz
