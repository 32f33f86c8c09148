/- What is said of five functions of Go's library, off the shelf's contracts: their summaries are right in this program. -/
import Derived.Test.YtmaicjfmcjbceaaGreatDoorA5
import Derived.Test.YtmaicjfmcjbceaaGreatDoorLays
namespace Go.Pi
open Go.RowKit (Below)
variable [Hole]
set_option linter.unusedSectionVars false

theorem cut1_eq (c : UInt8) : ∀ l : List UInt8, cut1 c l = Lib.cut l [c]
  | [] => by simp [cut1, Lib.cut, Lib.index]
  | b :: l => by
    have ih := cut1_eq c l
    have hge := Lib.index_ge l [c]
    simp only [cut1, ih, Lib.cut, Lib.index, List.isPrefixOf, Bool.and_true, Bool.cond_eq_ite, nat_beq_eq]
    by_cases h : b = c
    · subst h
      simp
    · have h1 : ¬ b.toNat = c.toNat := fun e => h (UInt8.toNat_inj.1 e)
      have h2 : (c == b) = false := by simpa using fun e : c = b => h e.symm
      simp only [if_neg h1, h2, Bool.false_eq_true, if_false]
      by_cases h3 : Lib.index l [c] = -1
      · simp [h3]
      · have h4 : 0 ≤ Lib.index l [c] := by omega
        have h5 : 0 ≤ Lib.index l [c] + 1 := by omega
        have h6 : (Lib.index l [c] == -1) = false := by simpa using h3
        have h7 : (Lib.index l [c] + 1).toNat = (Lib.index l [c]).toNat + 1 := by omega
        simp only [h6, Bool.false_eq_true, if_false, if_pos h4, if_pos h5, h7, List.take_succ_cons, List.length_singleton, List.drop_succ_cons]

theorem memU_eq (cs : List UInt8) (b : UInt8) : memU cs b = cs.contains b := by
  induction cs with
  | nil => rfl
  | cons a cs ih =>
    simp only [memU, ih, List.contains_cons]
    congr 1
    rw [Bool.eq_iff_iff, nat_beq_eq, beq_iff_eq]
    exact ⟨fun e => (UInt8.toNat_inj.1 e).symm, fun e => by rw [e]⟩

theorem dropU_eq (cs l : List UInt8) : dropU cs l = l.dropWhile (cs.contains ·) := by
  induction l with
  | nil => rfl
  | cons b l ih =>
    simp only [dropU, memU_eq, List.dropWhile_cons, Bool.cond_eq_ite, ih]

theorem trimU_eq (l cs : List UInt8) : trimU l cs = Lib.trimS l cs := by
  simp only [trimU, dropU_eq, Lib.trimS, Lib.trimLeftS, Lib.trimRightS]

theorem behind_eq : ∀ s p : List UInt8, behind s p = if p.isPrefixOf s then some (s.drop p.length) else none
  | s, [] => by cases s <;> simp [behind]
  | [], b :: p => by simp [behind, List.isPrefixOf]
  | a :: s, b :: p => by
    simp only [behind, behind_eq s p, List.isPrefixOf, Bool.cond_eq_ite, nat_beq_eq, List.length_cons, List.drop_succ_cons]
    by_cases h : a = b
    · subst h; simp
    · have h1 : ¬ a.toNat = b.toNat := fun e => h (UInt8.toNat_inj.1 e)
      have h2 : (b == a) = false := by simpa using fun e : b = a => h e.symm
      simp [h1, h2]

theorem digitsU_ok : ∀ (l : List UInt8) (acc u : Nat), acc < 4294967296 → digitsU acc l = some u → Lib.parseUintM (2 ^ 32 - 1) acc l = .ok u ∧ u < 4294967296
  | [], acc, u, ha, h => by
    simp only [digitsU, Option.some.injEq] at h
    subst h
    exact ⟨rfl, ha⟩
  | b :: l, acc, u, ha, h => by
    simp only [digitsU, bif_some, Bool.and_eq_true, ble_iff, blt_iff] at h
    obtain ⟨⟨⟨h1, h2⟩, h3⟩, h⟩ := h
    have ih := digitsU_ok l _ u h3 h
    refine ⟨?_, ih.2⟩
    rw [Lib.parseUintM, if_pos ⟨h1, h2⟩, if_neg (by omega), if_neg (by omega)]
    exact ih.1

section
variable {P : Program} {G : Nat → Option PV}

/-- A summary whose result bears no memory. -/
theorem sum_flat {f : FuncId} {F : Fn1} (hen : Enters P f)
    (h : ∀ vs r, F vs = some r → ∀ (w : World) (I : Nat → Prop) (xs : List Value), GlobOk G w I → All2 (PRep w I) vs xs →
      Calls P f xs.toArray w fun e w' => ∃ x, e = .returned x ∧ Below w.heap.size w w' ∧ ∀ (w' : World) (I' : Nat → Prop), PRep w' I' r x) : Sum P G f F := by
  refine ⟨hen, fun vs r hr w I xs hI hG ha => (h vs r hr w I xs hG ha).mono ?_⟩
  rintro e w' ⟨x, rfl, hb, hp⟩
  exact ⟨x, I, rfl, hb, fun b h => h, fun b h => ⟨Nat.lt_of_lt_of_le (hI b h) hb.size, .inl h⟩, hp w' I⟩

theorem two_strs {w : World} {I : Nat → Prop} {a b : ByteArray} {xs : List Value} (h : All2 (PRep w I) [.str a, .str b] xs) : xs = [.string a, .string b] := by
  obtain ⟨x, ys, rfl, h1, h2⟩ := h.cons_inv
  obtain ⟨y, zs, rfl, h3, h4⟩ := h2.cons_inv
  cases h1; cases h3; rw [h4.nil_inv]

theorem pv_str (w : World) (I : Nat → Prop) (l : List UInt8) : PRep w I (bstr l) (.string ⟨l.toArray⟩) := .str _

theorem tuple_rep {w : World} {I : Nat → Prop} {cs : List PV} {xs : List Value} (h : All2 (PRep w I) cs xs) : PRep w I (.tuple cs) (.tuple xs.toArray) := .tuple _ _ h.1 h.2

end
end Go.Pi

namespace Go.Proofs.Tryz
open Go Go.Pi
open Go.RowKit (Below)
variable [Hole] {G : Nat → Option PV}
set_option linter.unusedSectionVars false

theorem enters_pi {f : Nat} {fn : Func} (h : prog.funcs[f]? = some fn) (hb : fn.body.isSome = true) (hn : fn.name ≠ "runtime.NumGoroutine") : Pi.Enters prog f := ⟨fn, h, hb, hn⟩

/-- strings.Cut reads a variable of its own library (how long a text may be that is searched in another way): whatever it holds. -/
theorem sum_cut {m : Int} (hG : G 0 = some (.hole 1)) (hv : Hole.val 1 = .int .i64 m) : Sum prog G 54 cutF := by
  refine sum_flat (enters_pi func54 (by kernel_rfl) (by decide)) fun vs r h w I xs hg ha => ?_
  unfold cutF at h
  split at h
  case h_2 => cases h
  rename_i a b
  split at h
  case h_2 => cases h
  rename_i c hc
  simp only [bif_some] at h
  obtain ⟨hs, h⟩ := h
  cases two_strs ha
  have hcell : w.cell? ⟨0, 0, none⟩ = some (.int .i64 m) := by
    obtain ⟨_, ys, h1, h2⟩ := hg 0 _ hG
    obtain ⟨x, zs, rfl, h3, h4⟩ := h2.cons_inv
    have := h1 0 x rfl
    cases h3
    rw [hv] at this
    simpa using this
  refine (Any.strings_Cut Tryz.layCut a b m w (by simpa [smallS] using hs) hcell).mono ?_
  rintro e w' ⟨rfl, n, rfl⟩
  refine ⟨_, rfl, (Below.refl _ _).trans ⟨rfl, rfl, rfl, Nat.le_refl _, fun _ _ => rfl⟩, fun w' I' => ?_⟩
  have hb : b.data.toList = [c] := hc
  rw [hb, ← cut1_eq]
  generalize cut1 c a.data.toList = t at h ⊢
  obtain ⟨x, y, f⟩ := t
  cases h
  exact tuple_rep (.cons (pv_str _ _ _) (.cons (pv_str _ _ _) (.cons (.bool _) .nil)))

theorem sum_trimPrefix : Sum prog G 56 trimPrefixF := by
  refine sum_flat (enters_pi func56 (by kernel_rfl) (by decide)) fun vs r h w I xs hg ha => ?_
  unfold trimPrefixF at h
  split at h
  case h_2 => cases h
  rename_i a b
  cases two_strs ha
  refine (Any.strings_TrimPrefix Tryz.layTrimPrefix a b w).mono ?_
  rintro e w' ⟨rfl, rfl⟩
  refine ⟨_, rfl, Below.refl _ _, fun w' I' => ?_⟩
  rw [behind_eq] at h
  have ep : Lib.hasPrefix a.data.toList b.data.toList = b.data.toList.isPrefixOf a.data.toList := rfl
  unfold Lib.trimPrefix
  split at h
  · rename_i x hx
    split at hx
    · rename_i hp
      cases hx; cases h
      rw [if_pos (ep.trans hp)]; exact pv_str _ _ _
    · cases hx
  · rename_i hx
    split at hx
    · cases hx
    · rename_i hp
      cases h
      rw [if_neg (by rw [ep]; exact hp)]; exact pv_str _ _ _

theorem sum_cutPrefix : Sum prog G 108 cutPrefixF := by
  refine sum_flat (enters_pi func108 (by kernel_rfl) (by decide)) fun vs r h w I xs hg ha => ?_
  unfold cutPrefixF at h
  split at h
  case h_2 => cases h
  rename_i a b
  cases two_strs ha
  refine (Any.strings_CutPrefix Tryz.layCutPrefix a b w).mono ?_
  rintro e w' ⟨rfl, rfl⟩
  refine ⟨_, rfl, Below.refl _ _, fun w' I' => ?_⟩
  rw [behind_eq] at h
  have ep : Lib.hasPrefix a.data.toList b.data.toList = b.data.toList.isPrefixOf a.data.toList := rfl
  unfold Lib.trimPrefix
  split at h
  · rename_i x hx
    split at hx
    · rename_i hp
      cases hx; cases h
      rw [if_pos (ep.trans hp), ep, hp]; exact tuple_rep (.cons (pv_str _ _ _) (.cons (.bool _) .nil))
    · cases hx
  · rename_i hx
    split at hx
    · cases hx
    · rename_i hp
      cases h
      rw [if_neg (by rw [ep]; exact hp), ep, Bool.eq_false_iff.2 hp]; exact tuple_rep (.cons (pv_str _ _ _) (.cons (.bool _) .nil))

theorem sum_trim : Sum prog G 57 trimF := by
  refine sum_flat (enters_pi func57 (by kernel_rfl) (by decide)) fun vs r h w I xs hg ha => ?_
  unfold trimF at h
  split at h
  case h_2 => cases h
  rename_i a b
  simp only [bif_some, Bool.and_eq_true] at h
  obtain ⟨⟨⟨h1, h2⟩, h3⟩, h⟩ := h
  cases two_strs ha
  have ha : a.size < 4294967281 := by simpa [smallS] using h1
  have hb : b.size < 4294967281 := by simpa [smallS] using h2
  refine (Any.strings_Trim_laid Tryz.layTrim (by kernel_rfl) a b w (by omega) hb fun j c hj => ?_).mono ?_
  · exact blt_iff.1 (List.all_eq_true.1 h3 c (List.mem_of_getElem? hj))
  rintro e w' ⟨rfl, hB⟩
  refine ⟨_, rfl, hB, fun w' I' => ?_⟩
  rw [← trimU_eq]
  cases h
  exact pv_str _ _ _

theorem sum_parseUint : Sum prog G 111 parseUintF := by
  refine sum_flat (enters_pi func111 (by kernel_rfl) (by decide)) fun vs r h w I xs hg ha => ?_
  unfold parseUintF at h
  split at h
  case h_2 => cases h
  rename_i a
  split at h
  · cases h
  rename_i hne
  simp only [bif_some] at h
  obtain ⟨hs, h⟩ := h
  split at h
  case h_2 => cases h
  rename_i u hu
  cases h
  obtain ⟨x, ys, rfl, h1, h2⟩ := ha.cons_inv
  obtain ⟨y, zs, rfl, h3, h4⟩ := h2.cons_inv
  obtain ⟨z, ws, rfl, h5, h6⟩ := h4.cons_inv
  cases h1; cases h3; cases h5; rw [h6.nil_inv]
  have ha : a.size < 4294967281 := by simpa [smallS] using hs
  have hp : Lib.parseUintB 32 a.data.toList = .ok u := by
    rw [Lib.parseUintB, if_neg hne]
    exact (digitsU_ok _ _ _ (by decide) hu).1
  refine (Any.strconv_ParseUint_10_at32_ok Tryz.layParseUint a (by omega) u hp w).mono ?_
  rintro e w' ⟨rfl, hw⟩
  refine ⟨_, rfl, ?_, fun w' I' => tuple_rep (.cons (.int _ _) (.cons .nilIface .nil))⟩
  rcases hw with rfl | rfl
  · exact Below.refl _ _
  · exact Lib.bytesWorld_below _ _ _

end Go.Proofs.Tryz
