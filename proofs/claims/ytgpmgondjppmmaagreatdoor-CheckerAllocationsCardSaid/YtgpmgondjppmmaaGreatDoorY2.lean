/- THE LAW RETURNS true: known() by the kernel's runs; a call in the model's words. -/
import Derived.Test.YtgpmgondjppmmaaGreatDoorTabs
import Derived.Test.YtgpmgondjppmmaaGreatDoorLibs
import Derived.Test.YtgpmgondjppmmaaGreatDoorL2
set_option linter.unnecessarySimpa false
set_option linter.unusedSectionVars false
set_option linter.unusedSimpArgs false
set_option linter.unusedVariables false
namespace Go.Proofs.Tryz
open Go Go.Pi Go.Num Go.Lin Go.Alc
open Go.RowKit (Below)
def saysKnown (E:Env):Bool := match E 4 with
 | some F => match F [] with
  | some (.bool b) => b
  | _ => false
 | none => false
section
variable [Hole]
theorem known_ok {m:Int} (hv:Hole.val 1 = .int .i64 m):Gives prog YtgpmgondjppmmaaGreatDoor.G1 4 [] (knownR []) := by
 have he:EnvOk prog YtgpmgondjppmmaaGreatDoor.G1 YtgpmgondjppmmaaGreatDoor.env0 := YtgpmgondjppmmaaGreatDoor.tab_good (lib_env hv) annOk0 mixed YtgpmgondjppmmaaGreatDoor.all0 YtgpmgondjppmmaaGreatDoor.fns0
 have h:saysKnown YtgpmgondjppmmaaGreatDoor.env0 = true := by decide +kernel
 unfold saysKnown at h
 split at h
 ·rename_i F hF
  split at h
  ·rename_i b hb
   subst h
   exact sum_gives (he 4 F hF) hb rfl
  ·cases h
 ·cases h
end
@[reducible] def holeOf (m:Int):Hole where
 val := fun _ => .int .i64 m
 one := fun _ => rfl
theorem law_calls (W : World) (m : Int) (h0 : ∃ t z, W.heap[0]? = some (.cells #[.int .i64 m] t z)) (h5 : Lib.TabIs prog W "internal/strconv.uint64pow10" .u64 Lib.pow10Tab) (x0 x1 x2 : Value)
  (hp:∀ [Hole],∃ d o r a b t y,OffIn d o r ∧ b < 256 ∧ PRep W (fun b => b < W.heap.size) (.agg [d,o,r]) x0 ∧ PRep W (fun b => b < W.heap.size) (.agg [.int .u8 ((a:Nat):Int),.int .u8 ((b:Nat):Int),.str (ba t)]) x1 ∧ PRep W (fun b => b < W.heap.size) (.int .i64 y) x2) :
  Calls prog 3 #[x0,x1,x2] W fun e w' => e = .returned (.bool true) ∧ Below W.heap.size W w' := by
 letI:Hole := holeOf m
 obtain ⟨d,o,r,a,b,t,y,ho,hb,p0,p1,p2⟩ := hp
 have kn:Gives prog YtgpmgondjppmmaaGreatDoor.G1 4 [] (knownR []) := known_ok (m := m) rfl
 have rl:ReadLib YtgpmgondjppmmaaGreatDoor.G1 := readLib (m := m) rfl rfl
 have tl:TextLib YtgpmgondjppmmaaGreatDoor.G1 := textLib rfl
 have hs := law_ok rl tl longLib kn ho (a := a) (t := t) (y := y) hb
 have hg:GlobOk YtgpmgondjppmmaaGreatDoor.G1 W (fun b => b < W.heap.size) := by
  intro g e he
  unfold YtgpmgondjppmmaaGreatDoor.G1 at he
  cases e1:Nat.beq g 0 with
  | true =>
   rw [e1,cond_true] at he
   cases he
   obtain rfl := nat_beq_eq.1 e1
   obtain ⟨t0,z0,hh⟩ := h0
   refine ⟨(Array.getElem?_eq_some_iff.1 hh).1,[.int .i64 m],fun k x hk => ?_,.cons (.hole 1) .nil,fun cs t z h => ?_⟩
   ·cases k with
    | zero => simp at hk; subst hk; simp [World.cell?,hh]
    | succ k => simp at hk
   ·rw [hh] at h; cases h; rfl
  | false =>
   rw [e1,cond_false] at he
   simp only [bif_some,nat_beq_eq,Option.some.injEq] at he
   obtain ⟨rfl,rfl⟩ := he
   unfold Lib.TabIs World.var? at h5
   rw [show prog.globalNamed "internal/strconv.uint64pow10" = some 1 by kernel_rfl] at h5
   simp only [Option.bind_some] at h5
   split at h5
   ·rename_i cs t0 z0 hh
    have h5 := Option.some.inj h5
    refine ⟨(Array.getElem?_eq_some_iff.1 hh).1,cs.toList,fun k x hk => ?_,⟨?_,fun k v x hv hx => ?_⟩,fun cs' t z h => ?_⟩
    ·simp only [World.cell?,hh,Nat.zero_add,Option.isSome_none,Bool.false_eq_true,if_false]
     simpa using hk
    ·rw [h5]; simp [Lib.pow10Tab,PV.cells]
    ·rw [h5] at hx
     simp only [PV.cells,List.getElem?_map,Option.map_eq_some_iff] at hv
     obtain ⟨a,ha,rfl⟩ := hv
     simp only [Lib.pow10Tab,List.map_map,List.getElem?_map,Option.map_eq_some_iff,Function.comp] at hx
     obtain ⟨b,hb,rfl⟩ := hx
     rw [ha] at hb
     cases hb
     exact .int _ _
    ·rw [hh] at h; cases h; simp
   ·cases h5
 obtain ⟨z,hz,hs⟩ := hs
 refine (hs.2 _ _ (by simp [oneRow]; rfl) W (fun b => b < W.heap.size) [x0,x1,x2] (fun b h => h) hg (.cons p0 (.cons p1 (.cons p2 .nil)))).mono ?_
 rintro e w' ⟨x,I',rfl,hB,_,_,hp⟩
 simp only [IsTrue] at hz
 subst hz
 cases hp
 exact ⟨rfl,hB⟩
end Go.Proofs.Tryz
