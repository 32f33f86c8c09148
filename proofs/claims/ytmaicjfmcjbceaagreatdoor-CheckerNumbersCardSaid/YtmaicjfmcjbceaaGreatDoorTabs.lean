/- The tables are right: each row is. -/
import Derived.Test.YtmaicjfmcjbceaaGreatDoorCk1
import Derived.Test.YtmaicjfmcjbceaaGreatDoorCk2
import Derived.Test.YtmaicjfmcjbceaaGreatDoorCk3
import Derived.Test.YtmaicjfmcjbceaaGreatDoorCk4
import Derived.Test.YtmaicjfmcjbceaaGreatDoorCk5
import Derived.Test.YtmaicjfmcjbceaaGreatDoorCk6
import Derived.Test.YtmaicjfmcjbceaaGreatDoorCk7
import Derived.Test.YtmaicjfmcjbceaaGreatDoorAnnOk
namespace Go.Proofs.YtmaicjfmcjbceaaGreatDoor
open Go Go.Pi
set_option maxRecDepth 1000000
/-- The rows bear their function's number, and it is entered as any. -/
def rowsGood (P : Program) (p : Nat × List Row) : Bool :=
  (p.2.all fun r => Nat.beq r.fn p.1) && match P.funcs[p.1]? with
    | some fn => fn.body.isSome && !(fn.name == "runtime.NumGoroutine")
    | none => false

theorem forall_nil {α : Type} {p : α → Prop} : ∀ x ∈ ([] : List α), p x := fun _ h => by cases h
theorem forall_cons {α : Type} {p : α → Prop} {a : α} {l : List α} (h : p a) (h' : ∀ x ∈ l, p x) : ∀ x ∈ a :: l, p x := fun x hx => by
  rcases List.mem_cons.1 hx with rfl | hx
  · exact h
  · exact h' x hx

theorem tab_good [Hole] {P : Program} {base : Env} {G : Nat → Option PV} {tab : Tab} {n : Nat} (hB : EnvOk P G base) (hA : AnnOk P ann) (hmix : P.follows .mixedOrders = true)
    (h : ∀ p ∈ tab, p.2.all (rowOk P base G ann tab 100000) = true) (h' : tab.all (rowsGood P) = true) : EnvOk P G (tabEnv base tab n) := by
  have good : ∀ f rows, Go.Pi.look tab f = some rows → rowsGood P (f, rows) = true := fun f rows hl => List.all_eq_true.1 h' _ (look_mem _ _ _ hl)
  refine tab_ok hB hA hmix (fun f rows hl => ?_) (fun f rows hl r hr => ⟨?_, 100000, List.all_eq_true.1 (h _ (look_mem _ _ _ hl)) r hr⟩) n
  · have := good f rows hl
    simp only [rowsGood, Bool.and_eq_true] at this
    split at this
    · rename_i fn hfn
      simp only [Bool.and_eq_true, Bool.not_eq_true', beq_eq_false_iff_ne] at this
      exact ⟨fn, hfn, this.2.1, this.2.2⟩
    · cases this.2
  · have := good f rows hl
    simp only [rowsGood, Bool.and_eq_true] at this
    exact nat_beq_eq.1 (List.all_eq_true.1 this.1 r hr) 

theorem ok0_63 : chk0 rows0_63 = true := by
  have h := ok0_63a
  have h' := ok0_63b
  unfold chk0 at h h' ⊢
  rw [← List.take_append_drop 1 rows0_63, List.all_append, h, h']
  rfl
theorem all0 : ∀ p ∈ tab0, chk0 p.2 = true := forall_cons ok0_77 (forall_cons ok0_75 (forall_cons ok0_27 (forall_cons ok0_25 (forall_cons ok0_79 (forall_cons ok0_126 (forall_cons ok0_124 (forall_cons ok0_59 (forall_cons ok0_114 (forall_cons ok0_51 (forall_cons ok0_128 (forall_cons ok0_113 (forall_cons ok0_70 (forall_cons ok0_49 (forall_cons ok0_69 (forall_cons ok0_155 (forall_cons ok0_116 (forall_cons ok0_156 (forall_cons ok0_32 (forall_cons ok0_144 (forall_cons ok0_31 (forall_cons ok0_78 (forall_cons ok0_72 (forall_cons ok0_125 (forall_cons ok0_80 (forall_cons ok0_74 (forall_cons ok0_58 (forall_cons ok0_15 (forall_cons ok0_6 (forall_cons ok0_121 (forall_cons ok0_66 (forall_cons ok0_71 (forall_cons ok0_55 (forall_cons ok0_110 (forall_cons ok0_167 (forall_cons ok0_141 (forall_cons ok0_109 (forall_cons ok0_112 (forall_cons ok0_28 (forall_cons ok0_145 (forall_cons ok0_115 (forall_cons ok0_97 (forall_cons ok0_159 (forall_cons ok0_133 (forall_cons ok0_76 (forall_cons ok0_30 (forall_cons ok0_22 (forall_cons ok0_61 (forall_cons ok0_35 (forall_cons ok0_127 (forall_cons ok0_20 (forall_cons ok0_120 (forall_cons ok0_65 (forall_cons ok0_21 (forall_cons ok0_62 (forall_cons ok0_63 (forall_cons ok0_16 (forall_cons ok0_18 (forall_cons ok0_17 (forall_cons ok0_7 (forall_cons ok0_50 (forall_cons ok0_52 (forall_cons ok0_12 (forall_cons ok0_83 (forall_cons ok0_85 (forall_cons ok0_129 (forall_cons ok0_84 (forall_cons ok0_10 (forall_cons ok0_195 (forall_cons ok0_190 (forall_cons ok0_176 (forall_cons ok0_151 (forall_cons ok0_153 (forall_cons ok0_154 (forall_cons ok0_8 (forall_cons ok0_60 (forall_cons ok0_158 (forall_cons ok0_132 (forall_cons ok0_98 (forall_cons ok0_81 (forall_cons ok0_4 (forall_nil)))))))))))))))))))))))))))))))))))))))))))))))))))))))))))))))))))))))))))))))))
theorem fns0 : tab0.all (rowsGood Tryz.prog) = true := by decide +kernel
theorem all1 : ∀ p ∈ tab1, chk1 p.2 = true := forall_cons ok1_121 (forall_cons ok1_66 (forall_cons ok1_22 (forall_cons ok1_23 (forall_cons ok1_35 (forall_cons ok1_91 (forall_cons ok1_53 (forall_cons ok1_13 (forall_cons ok1_5 (forall_cons ok1_18 (forall_cons ok1_7 (forall_cons ok1_9 (forall_cons ok1_10 (forall_cons ok1_37 (forall_cons ok1_87 (forall_cons ok1_38 (forall_cons ok1_39 (forall_cons ok1_86 (forall_cons ok1_92 (forall_cons ok1_40 (forall_cons ok1_11 (forall_cons ok1_3 (forall_nil))))))))))))))))))))))
theorem fns1 : tab1.all (rowsGood Tryz.prog) = true := by decide +kernel
theorem all2 : ∀ p ∈ tab2, chk2 p.2 = true := forall_cons ok2_121 (forall_cons ok2_66 (forall_cons ok2_22 (forall_cons ok2_23 (forall_cons ok2_35 (forall_cons ok2_91 (forall_cons ok2_53 (forall_cons ok2_13 (forall_cons ok2_5 (forall_cons ok2_18 (forall_cons ok2_7 (forall_cons ok2_9 (forall_cons ok2_10 (forall_cons ok2_37 (forall_cons ok2_87 (forall_cons ok2_38 (forall_cons ok2_39 (forall_cons ok2_86 (forall_cons ok2_92 (forall_cons ok2_40 (forall_cons ok2_11 (forall_cons ok2_3 (forall_nil))))))))))))))))))))))
theorem fns2 : tab2.all (rowsGood Tryz.prog) = true := by decide +kernel
theorem all3 : ∀ p ∈ tab3, chk3 p.2 = true := forall_cons ok3_121 (forall_cons ok3_66 (forall_cons ok3_22 (forall_cons ok3_23 (forall_cons ok3_35 (forall_cons ok3_91 (forall_cons ok3_53 (forall_cons ok3_13 (forall_cons ok3_5 (forall_cons ok3_18 (forall_cons ok3_7 (forall_cons ok3_9 (forall_cons ok3_10 (forall_cons ok3_37 (forall_cons ok3_87 (forall_cons ok3_38 (forall_cons ok3_39 (forall_cons ok3_86 (forall_cons ok3_92 (forall_cons ok3_40 (forall_cons ok3_11 (forall_cons ok3_3 (forall_nil))))))))))))))))))))))
theorem fns3 : tab3.all (rowsGood Tryz.prog) = true := by decide +kernel
theorem all4 : ∀ p ∈ tab4, chk4 p.2 = true := forall_cons ok4_53 (forall_cons ok4_13 (forall_cons ok4_5 (forall_cons ok4_3 (forall_nil))))
theorem fns4 : tab4.all (rowsGood Tryz.prog) = true := by decide +kernel
theorem all5 : ∀ p ∈ tab5, chk5 p.2 = true := forall_cons ok5_53 (forall_cons ok5_13 (forall_cons ok5_5 (forall_cons ok5_3 (forall_nil))))
theorem fns5 : tab5.all (rowsGood Tryz.prog) = true := by decide +kernel
end Go.Proofs.YtmaicjfmcjbceaaGreatDoor
