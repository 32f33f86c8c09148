/- THE STATEMENT OF CheckerAllocations, tied: whatever offer, change and number the law is handed, it returns true; all read as they did. Condition: the listed package-level variables read as the row says, which the card ties to the program's text. -/
import Derived.Test.YtgpmgondjppmmaaGreatDoorY3
set_option linter.unnecessarySimpa false
set_option linter.unusedSectionVars false
set_option linter.unusedSimpArgs false
set_option linter.unusedVariables false
set_option maxRecDepth 1000000
namespace Go.Proofs.YtgpmgondjppmmaaGreatDoor
open Go Go.ChangeShapes Go.WideShapes Go.ChangeAt Go.RowKit Go.Pi
open Go.ChangeMaps (open_string shut_string)
theorem lifted (os:Os) (started:os.Started) (H:Type) (enc:TypeId × Value → H) :
  ReturnsInHanded {} Tryz.checked os 3 .any (fun w args => (Rows.checkerAllocationsSpec.pre enc Tryz.prog Tryz.f3 [] false w args ∧ laidMetH Tryz.prog Rows.checkerAllocationsRow.laid w) ∧ sizedMet enc Tryz.prog Tryz.f3 (OpenSpec.ofChange Rows.checkerAllocationsSpec) false w args)
   (Rows.checkerAllocationsSpec.post enc Tryz.prog Tryz.f3 false true false false) := by
 refine returnsInHanded_of_calls own started (by kernel_rfl)
  (ChangeSpec.witness_shaped (enc := enc) (C := Tryz.checked) (os := os) (X := fun w _ => laidMetH Tryz.prog Rows.checkerAllocationsRow.laid w) false (laidWorld os) #[.agg #[.slice none 0 0,.slice none 0 0,.slice none 0 0],.agg #[.int .u8 0,.int .u8 0,.string ⟨#[]⟩],.int .i64 0] 8 rfl (World.shaped_of_RefB (by kernel_rfl) (by kernel_rfl)) (by kernel_rfl) (by kernel_rfl) (by kernel_rfl) (door_met os _)) ?_
 intro w tape i _ hsh _ hok hpre _
 obtain ⟨_,_,_,fn',hfn',_,_,_,_,hval⟩ := hok
 have e:fn' = Tryz.f3 := Option.some.inj (hfn'.symm.trans Tryz.func3)
 subst e
 obtain ⟨⟨⟨ds,gs,before,hw,hc⟩,hx⟩,hz⟩ := hpre
 have hW := DataW.Whole.of_heap (w' := w.forCall tape i) (by rfl) hw
 have hb := block_open (g := 0) (t := 3) (zero := #[.int .i64 0]) hsh (of_decide_eq_true (by kernel_rfl)) (by kernel_rfl) rfl (by kernel_rfl) (by kernel_rfl) Tryz.underlying3
 obtain ⟨m,t0,z0,hm⟩ := hb
 have htab0 := tab_met hx
 have htab : Lib.TabIs Tryz.prog (w.forCall tape i) "internal/strconv.uint64pow10" .u64 Lib.pow10Tab := htab0
 clear htab0
 suffices h:Calls Tryz.prog 3 i.args (w.forCall tape i) fun e W' => ∃ v,e = .returned v ∧ Rows.checkerAllocationsSpec.post enc Tryz.prog Tryz.f3 false true false false (w.forCall tape i) i.args v W' by
  refine h.mono fun e W' ⟨v,he,hp⟩ => ?_
  subst he
  exact ChangeSpec.post_blind hp
 have hm:∃ t z,(w.forCall tape i).heap[0]? = some (.cells #[.int .i64 m] t z) := ⟨t0,z0,hm⟩
 generalize w.forCall tape i = W at *
 generalize i.args = args at *
 have hval':∀ (j:Nat) t v,Tryz.f3.params[j]? = some t → args[j]? = some v → Value.okWide Tryz.prog W .any _ t v := hval
 have hW' := hW
 obtain ⟨p,q,hA0,hV,rfl,hfz,hnd⟩ := hW
 have hA:DataW.TrodAll enc Tryz.prog W 0 (fun _ => true) true Tryz.f3.params.toList args.toList ds p := hA0
 have hlt := hA.lt
 rw [Tryz.params3] at hA hval'
 obtain ⟨v0,v1,v2,d0,d1,d2,ps0,ps1,ps2,rfl,rfl,rfl,k0,k1,k2⟩ := trodAll_three hA
 obtain ⟨rfl,rfl⟩ := trodVars_none hV
 obtain ⟨cs0,rfl,hs0⟩ := okWide_struct Tryz.underlying26 (hval' 0 26 v0 rfl rfl)
 obtain ⟨cs1,rfl,hs1⟩ := okWide_struct Tryz.underlying29 (hval' 1 29 v1 rfl rfl)
 obtain ⟨y,rfl⟩ := okWide_int Tryz.underlying3 (hval' 2 3 v2 rfl rfl)
 clear hA0 hval hA
 simp only [List.append_nil] at hW'
 have cl:closedT Tryz.prog [26,29,5,27,22,23,24,91,9,3,33,185,102,100,97,95,197,98] = true := by kernel_rfl
 refine (Tryz.law_calls W m hm htab (.agg cs0) (.agg cs1) (.int .i64 y) ?_).mono fun e W' ⟨he,hB⟩ => ?_
 ·intro _
  obtain ⟨n0,h0⟩ := k0
  obtain ⟨n1,h1⟩ := k1
  obtain ⟨_,vs0,y0,a0⟩ := typedR_of (I := fun b => b < W.heap.size) (fun b h => h) cl n0 26 _ _ (by simp) h0
  obtain ⟨_,vs1,y1,a1⟩ := typedR_of (I := fun b => b < W.heap.size) (fun b h => h) cl n1 29 _ _ (by simp) h1
  obtain ⟨d,o,r,rfl,ho⟩ := Tryz.typed_offer y0
  obtain ⟨a,b,t,rfl,hb⟩ := Tryz.typed_spoil y1
  have e0:Value.agg cs0 = Value.agg cs0.toList.toArray := by simp
  have e1:Value.agg cs1 = Value.agg cs1.toList.toArray := by simp
  exact ⟨d,o,r,a,b,t,y,ho,hb,by rw [e0]; exact .agg _ _ a0.1 a0.2,by rw [e1]; exact .agg _ _ a1.1 a1.2,.int _ _⟩
 ·subst he
  have r0 := Below.trod (W' := W') (by kernel_rfl) (by kernel_rfl) (of_decide_eq_true (by kernel_rfl)) k0 hB fun x hx => hlt x (List.mem_append_left _ (List.mem_append_left _ hx))
  have r1 := Below.trod (W' := W') (by kernel_rfl) (by kernel_rfl) (of_decide_eq_true (by kernel_rfl)) k1 hB fun x hx => hlt x (List.mem_append_left _ (List.mem_append_right _ hx))
  have r2 := Below.trod (W' := W') (by kernel_rfl) (by kernel_rfl) (of_decide_eq_true (by kernel_rfl)) k2 hB fun x hx => hlt x (List.mem_append_right _ hx)
  exact ⟨_,rfl,_,_,_,[],_,[],hW',trodAll_mk1 (shut_bool Tryz.underlying4 true),trodAll_mk3 r0 r1 r2,rfl,hB.frame _,fun h => by cases h⟩
theorem checkerAllocations_holds:Rows.CheckerAllocationsSaid :=
 OpenClaim.holds_of_wide 3 Tryz.f3 rfl rfl rfl rfl rfl rfl rfl ⟨rfl,rfl,rfl,rfl,rfl⟩ rfl rfl rfl rfl rfl (by kernel_rfl) Tryz.func3 (by kernel_rfl)
  (of_decide_eq_true (by kernel_rfl)) (by unfold Func.isWrapper; first | (rw [if_pos (by decide +kernel)]; kernel_rfl) | (rw [if_neg (by decide +kernel)]; exact ⟨rfl,rfl⟩))
  (fun os started H enc _ => lifted os started H enc)
theorem card_holds:Rows.CheckerAllocationsCardSaid :=
 Claim7.holds_tied_plain_at .later [] [.data, .data, .data, .data, .sentinel, .sentinel, .pinned] true (true, "e27ff636f6d51ecb6bf959035e3905d337178ac7524d3dd14a35a618c82e7f5a") true
  checkerAllocations_holds (fun _ h => by cases h) (by kernel_rfl) (fun _ h => by cases h) checkerAllocations_row_tie rfl ⟨rfl,rfl⟩ (by kernel_rfl) rfl
  (fun f fn hf hfn => by
   obtain rfl : f = 3 := Option.some.inj ((show Tryz.prog.funcNamed "dowel/dowellaw54.CheckerAllocations" = some 3 by kernel_rfl).symm.trans hf) |>.symm
   obtain rfl:fn = Tryz.f3 := (Option.some.inj (Tryz.func3.symm.trans hfn)).symm
   exact ⟨by kernel_rfl,fun j t ht => by
    rw [Tryz.params3] at ht
    have hm:t ∈ [26,29,3] := by simpa using Array.mem_of_getElem? ht
    have hall:([26,29,3].all fun u => !Tryz.prog.wantsStandIn u) = true := by kernel_rfl
    exact (show Tryz.prog.wantsStandIn t = false by simpa using List.all_eq_true.1 hall t hm)⟩)
  (by kernel_rfl)
end Go.Proofs.YtgpmgondjppmmaaGreatDoor
