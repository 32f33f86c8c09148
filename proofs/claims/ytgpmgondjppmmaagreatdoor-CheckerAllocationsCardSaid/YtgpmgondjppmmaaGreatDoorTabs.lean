/- The tables are right: each row is. -/
import Derived.Test.YtgpmgondjppmmaaGreatDoorCk1
import Derived.Test.YtgpmgondjppmmaaGreatDoorCk2
import Derived.Test.YtgpmgondjppmmaaGreatDoorCk3
import Derived.Test.YtgpmgondjppmmaaGreatDoorCk4
import Derived.Test.YtgpmgondjppmmaaGreatDoorCk5
import Derived.Test.YtgpmgondjppmmaaGreatDoorCk6
set_option linter.unnecessarySimpa false
set_option linter.unusedSectionVars false
set_option linter.unusedSimpArgs false
set_option linter.unusedVariables false
set_option maxRecDepth 1000000
namespace Go.Proofs.YtgpmgondjppmmaaGreatDoor
open Go Go.Pi
def rowsGood (P:Program) (p:Nat × List Row):Bool :=
 (p.2.all fun r => Nat.beq r.fn p.1) && match P.funcs[p.1]? with
  | some fn => fn.body.isSome && !(fn.name == "runtime.NumGoroutine")
  | none => false
theorem forall_nil {α:Type} {p:α → Prop}:∀ x ∈ ([]:List α),p x := fun _ h => by cases h
theorem forall_cons {α:Type} {p:α → Prop} {a:α} {l:List α} (h:p a) (h':∀ x ∈ l,p x):∀ x ∈ a :: l,p x := fun x hx => by
 rcases List.mem_cons.1 hx with rfl | hx
 ·exact h
 ·exact h' x hx
theorem tab_good [Hole] {P:Program} {base:Env} {G:Nat → Option PV} {A:FuncId → Option Ann} {tab:Tab} {n:Nat} (hB:EnvOk P G base) (hA:AnnOk P A) (hmix:P.follows .mixedOrders = true)
  (h:∀ p ∈ tab,p.2.all (rowOk P base G A tab 100000) = true) (h':tab.all (rowsGood P) = true):EnvOk P G (tabEnv base tab n) := by
 have good:∀ f rows,Go.Pi.look tab f = some rows → rowsGood P (f,rows) = true := fun f rows hl => List.all_eq_true.1 h' _ (look_mem _ _ _ hl)
 refine tab_ok hB hA hmix (fun f rows hl => ?_) (fun f rows hl r hr => ⟨?_,100000,List.all_eq_true.1 (h _ (look_mem _ _ _ hl)) r hr⟩) n
 ·have := good f rows hl
  simp only [rowsGood,Bool.and_eq_true] at this
  split at this
  ·rename_i fn hfn
   simp only [Bool.and_eq_true,Bool.not_eq_true',beq_eq_false_iff_ne] at this
   exact ⟨fn,hfn,this.2.1,this.2.2⟩
  ·cases this.2
 ·have := good f rows hl
  simp only [rowsGood,Bool.and_eq_true] at this
  exact nat_beq_eq.1 (List.all_eq_true.1 this.1 r hr)
theorem ok0_83:chk0 rows0_83 = true := by
 have h := ok0_83a
 have h' := ok0_83b
 unfold chk0 at h h' ⊢
 rw [← List.take_append_drop 1 rows0_83,List.all_append,h,h']
 rfl
theorem all0:∀ p ∈ tab0,chk0 p.2 = true := forall_cons ok0_123 (forall_cons ok0_156 (forall_cons ok0_122 (forall_cons ok0_67 (forall_cons ok0_90 (forall_cons ok0_127 (forall_cons ok0_128 (forall_cons ok0_103 (forall_cons ok0_144 (forall_cons ok0_53 (forall_cons ok0_130 (forall_cons ok0_108 (forall_cons ok0_104 (forall_cons ok0_70 (forall_cons ok0_75 (forall_cons ok0_159 (forall_cons ok0_118 (forall_cons ok0_160 (forall_cons ok0_92 (forall_cons ok0_146 (forall_cons ok0_84 (forall_cons ok0_71 (forall_cons ok0_72 (forall_cons ok0_131 (forall_cons ok0_94 (forall_cons ok0_109 (forall_cons ok0_142 (forall_cons ok0_102 (forall_cons ok0_77 (forall_cons ok0_124 (forall_cons ok0_86 (forall_cons ok0_105 (forall_cons ok0_139 (forall_cons ok0_173 (forall_cons ok0_161 (forall_cons ok0_133 (forall_cons ok0_97 (forall_cons ok0_175 (forall_cons ok0_87 (forall_cons ok0_111 (forall_cons ok0_176 (forall_cons ok0_106 (forall_cons ok0_158 (forall_cons ok0_126 (forall_cons ok0_74 (forall_cons ok0_35 (forall_cons ok0_51 (forall_cons ok0_143 (forall_cons ok0_57 (forall_cons ok0_129 (forall_cons ok0_49 (forall_cons ok0_76 (forall_cons ok0_36 (forall_cons ok0_50 (forall_cons ok0_82 (forall_cons ok0_83 (forall_cons ok0_46 (forall_cons ok0_47 (forall_cons ok0_40 (forall_cons ok0_17 (forall_cons ok0_52 (forall_cons ok0_54 (forall_cons ok0_19 (forall_cons ok0_93 (forall_cons ok0_96 (forall_cons ok0_132 (forall_cons ok0_95 (forall_cons ok0_20 (forall_cons ok0_198 (forall_cons ok0_178 (forall_cons ok0_147 (forall_cons ok0_112 (forall_cons ok0_114 (forall_cons ok0_115 (forall_cons ok0_18 (forall_cons ok0_110 (forall_cons ok0_157 (forall_cons ok0_125 (forall_cons ok0_88 (forall_cons ok0_89 (forall_cons ok0_4 (forall_nil)))))))))))))))))))))))))))))))))))))))))))))))))))))))))))))))))))))))))))))))))
theorem fns0:tab0.all (rowsGood Tryz.prog) = true := by decide +kernel
end Go.Proofs.YtgpmgondjppmmaaGreatDoor
