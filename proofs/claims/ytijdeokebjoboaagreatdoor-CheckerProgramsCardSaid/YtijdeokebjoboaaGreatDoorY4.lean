/- THE STATEMENT OF CheckerPrograms, tied: whatever program and outcome the law is handed, it returns true; both read as they did. Condition: the listed package-level variables read as the row says, which the card ties to the program's text. -/
import Derived.Test.YtijdeokebjoboaaGreatDoorY3
set_option linter.unusedVariables false
set_option linter.unusedSimpArgs false
set_option linter.unusedSectionVars false
set_option linter.unnecessarySimpa false
set_option maxRecDepth 1000000
namespace Go.Proofs.YtijdeokebjoboaaGreatDoor
open Go Go.ChangeShapes Go.WideShapes Go.ChangeAt Go.RowKit Go.Pi
open Go.ChangeMaps (open_string shut_string)
theorem lifted (os : Os) (started : os.Started) (H : Type) (enc : TypeId × Value → H) :
    ReturnsInHanded {} Tryz.checked os 3 .any (fun w args => (Rows.checkerProgramsSpec.pre enc Tryz.prog Tryz.f3 [] false w args ∧ laidMetH Tryz.prog Rows.checkerProgramsRow.laid w) ∧ sizedMet enc Tryz.prog Tryz.f3 (OpenSpec.ofChange Rows.checkerProgramsSpec) false w args)
      (Rows.checkerProgramsSpec.post enc Tryz.prog Tryz.f3 false true false false) := by
  refine returnsInHanded_of_calls own started (by kernel_rfl)
    (ChangeSpec.witness_shaped (enc := enc) (C := Tryz.checked) (os := os) (X := fun w _ => laidMetH Tryz.prog Rows.checkerProgramsRow.laid w) false (laidWorld os) #[.agg #[.slice none 0 0, .slice none 0 0], .agg #[.int .i64 0, .string ⟨#[]⟩, .slice none 0 0, .slice none 0 0, .slice none 0 0]] 8 rfl (World.shaped_of_RefB (by kernel_rfl) (by kernel_rfl)) (by kernel_rfl) (by kernel_rfl) (by kernel_rfl) (door_met os _)) ?_
  intro w tape i _ hsh _ hok hpre _
  obtain ⟨_, _, _, fn', hfn', _, _, _, _, hval⟩ := hok
  have e : fn' = Tryz.f3 := Option.some.inj (hfn'.symm.trans Tryz.func3)
  subst e
  obtain ⟨⟨⟨ds, gs, before, hw, hc⟩, hx⟩, hz⟩ := hpre
  have hW := DataW.Whole.of_heap (w' := w.forCall tape i) (by rfl) hw
  have hb := block_open (g := 0) (t := 3) (zero := #[.int .i64 0]) hsh (of_decide_eq_true (by kernel_rfl)) (by kernel_rfl) rfl (by kernel_rfl) (by kernel_rfl) Tryz.underlying3
  obtain ⟨m, t0, z0, hm⟩ := hb
  have htab0 := tab_met hx
  have htab : Lib.TabIs Tryz.prog (w.forCall tape i) "internal/strconv.uint64pow10" .u64 Lib.pow10Tab := htab0
  clear htab0
  suffices h : Calls Tryz.prog 3 i.args (w.forCall tape i) fun e W' => ∃ v, e = .returned v ∧ Rows.checkerProgramsSpec.post enc Tryz.prog Tryz.f3 false true false false (w.forCall tape i) i.args v W' by
    refine h.mono fun e W' ⟨v, he, hp⟩ => ?_
    subst he
    exact ChangeSpec.post_blind hp
  have hm : ∃ t z, (w.forCall tape i).heap[0]? = some (.cells #[.int .i64 m] t z) := ⟨t0, z0, hm⟩
  generalize w.forCall tape i = W at *
  generalize i.args = args at *
  have hval' : ∀ (j : Nat) t v, Tryz.f3.params[j]? = some t → args[j]? = some v → Value.okWide Tryz.prog W .any _ t v := hval
  have hW' := hW
  obtain ⟨p, q, hA0, hV, rfl, hfz, hnd⟩ := hW
  have hA : DataW.TrodAll enc Tryz.prog W 0 (fun _ => true) true Tryz.f3.params.toList args.toList ds p := hA0
  have hlt := hA.lt
  rw [Tryz.params3] at hA hval'
  obtain ⟨v0, v1, d0, d1, ps0, ps1, rfl, rfl, rfl, k0, k1⟩ := trodAll_two hA
  obtain ⟨rfl, rfl⟩ := trodVars_none hV
  obtain ⟨cs0, rfl, hs0⟩ := okWide_struct Tryz.underlying25 (hval' 0 25 v0 rfl rfl)
  obtain ⟨cs1, rfl, hs1⟩ := okWide_struct Tryz.underlying28 (hval' 1 28 v1 rfl rfl)
  clear hA0 hval hA
  simp only [List.append_nil] at hW'
  have pl0 : plainT Tryz.prog 8 25 = true := by kernel_rfl
  have pl1 : plainT Tryz.prog 8 28 = true := by kernel_rfl
  refine (Tryz.law_calls W m hm htab (.agg cs0) (.agg cs1) ?_).mono fun e W' ⟨he, hB⟩ => ?_
  · intro _
    obtain ⟨n0, h0⟩ := k0
    obtain ⟨n1, h1⟩ := k1
    obtain ⟨_, vs0, y0, a0⟩ := typed_of (I := fun b => b < W.heap.size) (fun b h => h) 8 n0 25 _ _ pl0 h0
    obtain ⟨_, vs1, y1, a1⟩ := typed_of (I := fun b => b < W.heap.size) (fun b h => h) 8 n1 28 _ _ pl1 h1
    obtain ⟨t, ht⟩ := Tryz.typed_program (d := 3) y0
    obtain ⟨u, hu⟩ := Tryz.typed_outcome (d := 3) y1
    have e0 : Value.agg cs0 = Value.agg cs0.toList.toArray := by simp
    have e1 : Value.agg cs1 = Value.agg cs1.toList.toArray := by simp
    exact ⟨_, _, t, u, ht, hu, by rw [e0]; exact .agg _ _ a0.1 a0.2, by rw [e1]; exact .agg _ _ a1.1 a1.2⟩
  · subst he
    have r0 := Below.trod (W' := W') (by kernel_rfl) (by kernel_rfl) (of_decide_eq_true (by kernel_rfl)) k0 hB fun x hx => hlt x (List.mem_append_left _ hx)
    have r1 := Below.trod (W' := W') (by kernel_rfl) (by kernel_rfl) (of_decide_eq_true (by kernel_rfl)) k1 hB fun x hx => hlt x (List.mem_append_right _ hx)
    exact ⟨_, rfl, _, _, _, [], _, [], hW', trodAll_mk1 (shut_bool Tryz.underlying4 true), trodAll_mk2 r0 r1, rfl, hB.frame _, fun h => by cases h⟩
theorem checkerPrograms_holds : Rows.CheckerProgramsSaid :=
  OpenClaim.holds_of_wide 3 Tryz.f3 rfl rfl rfl rfl rfl rfl rfl ⟨rfl, rfl, rfl, rfl, rfl⟩ rfl rfl rfl rfl rfl (by kernel_rfl) Tryz.func3 (by kernel_rfl)
    (of_decide_eq_true (by kernel_rfl)) (by unfold Func.isWrapper; first | (rw [if_pos (by decide +kernel)]; kernel_rfl) | (rw [if_neg (by decide +kernel)]; exact ⟨rfl, rfl⟩))
    (fun os started H enc _ => lifted os started H enc)
theorem card_holds : Rows.CheckerProgramsCardSaid :=
  Claim7.holds_tied_plain_at .later [] [.data, .data, .data, .data, .sentinel, .sentinel, .pinned] true (true, "914892c1f631ca80a4b2c6e83bde8e498fad7cc8dccdbe6786ffb605ff942f34") true
    checkerPrograms_holds (fun _ h => by cases h) (by kernel_rfl) (fun _ h => by cases h) checkerPrograms_row_tie rfl ⟨rfl, rfl⟩ (by kernel_rfl) rfl
    (fun f fn hf hfn => by
      obtain rfl : f = 3 := Option.some.inj ((show Tryz.prog.funcNamed "dowel/dowellaw54.CheckerPrograms" = some 3 by kernel_rfl).symm.trans hf) |>.symm
      obtain rfl : fn = Tryz.f3 := (Option.some.inj (Tryz.func3.symm.trans hfn)).symm
      exact ⟨by kernel_rfl, fun j t ht => by
        rw [Tryz.params3] at ht
        have hm : t ∈ [25, 28] := by simpa using Array.mem_of_getElem? ht
        have hall : ([25, 28].all fun u => !Tryz.prog.wantsStandIn u) = true := by kernel_rfl
        exact (show Tryz.prog.wantsStandIn t = false by simpa using List.all_eq_true.1 hall t hm)⟩)
    (by kernel_rfl)
end Go.Proofs.YtijdeokebjoboaaGreatDoor
