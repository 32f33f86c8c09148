/- THE LAW RETURNS true: known() by the kernel's runs; a call in the model's words. -/
import Derived.Test.YtijdeokebjoboaaGreatDoorTabs
import Derived.Test.YtijdeokebjoboaaGreatDoorLibs
import Derived.Test.YtijdeokebjoboaaGreatDoorY1
set_option linter.unusedVariables false
set_option linter.unusedSimpArgs false
set_option linter.unusedSectionVars false
set_option linter.unnecessarySimpa false
namespace Go.Proofs.Tryz
open Go Go.Pi Go.Num Go.Lin
open Go.RowKit (Below)
def saysKnown (E : Env) : Bool := match E 4 with
  | some F => match F [] with
    | some (.bool b) => b
    | _ => false
  | none => false
section
variable [Hole]
theorem known_ok {m : Int} (hv : Hole.val 1 = .int .i64 m) : Gives prog YtijdeokebjoboaaGreatDoor.G1 4 [] (knownR []) := by
  have he : EnvOk prog YtijdeokebjoboaaGreatDoor.G1 YtijdeokebjoboaaGreatDoor.env0 := YtijdeokebjoboaaGreatDoor.tab_good (lib_env hv) annOk0 mixed YtijdeokebjoboaaGreatDoor.all0 YtijdeokebjoboaaGreatDoor.fns0
  have h : saysKnown YtijdeokebjoboaaGreatDoor.env0 = true := by decide +kernel
  unfold saysKnown at h
  split at h
  · rename_i F hF
    split at h
    · rename_i b hb
      subst h
      exact sum_gives (he 4 F hF) hb rfl
    · cases h
  · cases h
end
@[reducible] def holeOf (m : Int) : Hole where
  val := fun _ => .int .i64 m
  one := fun _ => rfl
theorem law_calls (W : World) (m : Int) (h0 : ∃ t z, W.heap[0]? = some (.cells #[.int .i64 m] t z)) (h5 : Lib.TabIs prog W "internal/strconv.uint64pow10" .u64 Lib.pow10Tab) (x0 x1 : Value)
    (hp : ∀ [Hole], ∃ v0 v1 t u, IsTP v0 t ∧ IsTO v1 u ∧ PRep W (fun b => b < W.heap.size) v0 x0 ∧ PRep W (fun b => b < W.heap.size) v1 x1) :
    Calls prog 3 #[x0, x1] W fun e w' => e = .returned (.bool true) ∧ Below W.heap.size W w' := by
  letI : Hole := holeOf m
  obtain ⟨v0, v1, t, u, hv0, hv1, p0, p1⟩ := hp
  have kn : Gives prog YtijdeokebjoboaaGreatDoor.G1 4 [] (knownR []) := known_ok (m := m) rfl
  have rl : ReadLib YtijdeokebjoboaaGreatDoor.G1 := readLib (m := m) rfl rfl
  have tl : TextLib YtijdeokebjoboaaGreatDoor.G1 := textLib rfl
  obtain ⟨r, hr, hs⟩ := law_ok rl tl kn v0 v1 t u hv0 hv1
  have hg : GlobOk YtijdeokebjoboaaGreatDoor.G1 W (fun b => b < W.heap.size) := by
    intro g e he
    unfold YtijdeokebjoboaaGreatDoor.G1 at he
    cases e1 : Nat.beq g 0 with
    | true =>
      rw [e1, cond_true] at he
      cases he
      obtain rfl := nat_beq_eq.1 e1
      obtain ⟨t0, z0, hh⟩ := h0
      refine ⟨(Array.getElem?_eq_some_iff.1 hh).1, [.int .i64 m], fun k x hk => ?_, .cons (.hole 1) .nil, fun cs t z h => ?_⟩
      · cases k with
        | zero => simp at hk; subst hk; simp [World.cell?, hh]
        | succ k => simp at hk
      · rw [hh] at h; cases h; rfl
    | false =>
      rw [e1, cond_false] at he
      simp only [bif_some, nat_beq_eq, Option.some.injEq] at he
      obtain ⟨rfl, rfl⟩ := he
      unfold Lib.TabIs World.var? at h5
      rw [show prog.globalNamed "internal/strconv.uint64pow10" = some 5 by kernel_rfl] at h5
      simp only [Option.bind_some] at h5
      split at h5
      · rename_i cs t0 z0 hh
        have h5 := Option.some.inj h5
        refine ⟨(Array.getElem?_eq_some_iff.1 hh).1, cs.toList, fun k x hk => ?_, ⟨?_, fun k v x hv hx => ?_⟩, fun cs' t z h => ?_⟩
        · simp only [World.cell?, hh, Nat.zero_add, Option.isSome_none, Bool.false_eq_true, if_false]
          simpa using hk
        · rw [h5]; simp [Lib.pow10Tab, PV.cells]
        · rw [h5] at hx
          simp only [PV.cells, List.getElem?_map, Option.map_eq_some_iff] at hv
          obtain ⟨a, ha, rfl⟩ := hv
          simp only [Lib.pow10Tab, List.map_map, List.getElem?_map, Option.map_eq_some_iff, Function.comp] at hx
          obtain ⟨b, hb, rfl⟩ := hx
          rw [ha] at hb
          cases hb
          exact .int _ _
        · rw [hh] at h; cases h; simp
      · cases h5
  refine (hs.2 [v0, v1] _ (by simp [oneRow]; rfl) W (fun b => b < W.heap.size) [x0, x1] (fun b h => h) hg (.cons p0 (.cons p1 .nil))).mono ?_
  rintro e w' ⟨x, I', rfl, hB, _, _, hp⟩
  simp only [lawR] at hr
  subst hr
  cases hp
  exact ⟨rfl, hB⟩
end Go.Proofs.Tryz
