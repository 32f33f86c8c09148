/- THE STATEMENT: whatever text the law is handed, it returns true; the text reads as it did. Condition: the listed package-level variables read as the row says (the card ties that to the program's text). -/
import Derived.Test.YtmaicjfmcjbceaaGreatDoorLaw1
import Derived.Test.YtmaicjfmcjbceaaGreatDoorRows
import Derived.Test.YtmaicjfmcjbceaaGreatDoorTie
import Derived.Test.YtmaicjfmcjbceaaGreatDoorCards
import Derived.ChangeSame
import Derived.ChangeVars
import Derived.JoinedOf
import Derived.RowKit
import Derived.RowKitTokens
import Derived.LaidLaws
import Derived.LaidHandle
import Derived.LaidMore
import Derived.OpenShut
import Derived.ProofKit
import Derived.Shelf.Vars
import Derived.SevenTiedAt
import Derived.Stop.Joined

namespace Go.Proofs.Tryz
open Go Go.Pi
open Go.RowKit (Below)

/-- The holes: the text, and what the library's variable holds. -/
@[reducible] def holeOf (s : ByteArray) (m : Int) : Hole where
  val := fun k => match k with
    | 0 => .string s
    | _ => .int .i64 m
  one := fun k => by cases k <;> rfl

theorem law_calls (s : ByteArray) (W : World) (m : Int) (hc : W.cell? ⟨0, 0, none⟩ = some (.int .i64 m)) :
    Calls prog 3 #[.string s] W fun e w' => e = .returned (.bool true) ∧ Below W.heap.size W w' := by
  letI : Hole := holeOf s m
  obtain ⟨F, hs, hF⟩ := law_sum s rfl (m := m) rfl
  have hb : 0 < W.heap.size := by
    simp only [World.cell?] at hc
    split at hc
    · rename_i h; exact (Array.getElem?_eq_some_iff.1 h).1
    · cases hc
  have hg : GlobOk YtmaicjfmcjbceaaGreatDoor.G1 W (fun b => b = 0) := by
    intro g e he
    unfold YtmaicjfmcjbceaaGreatDoor.G1 at he
    simp only [bif_some, nat_beq_eq, Option.some.injEq] at he
    obtain ⟨rfl, rfl⟩ := he
    refine ⟨rfl, [.int .i64 m], fun k x hk => ?_, .cons (.hole 1) .nil⟩
    cases k with
    | zero => simp at hk; subst hk; simpa using hc
    | succ k => simp at hk
  refine (hs.2 [.hole 0] _ hF W (fun b => b = 0) [.string s] (fun b h => by rw [h]; exact hb) hg (.cons (.hole 0) .nil)).mono ?_
  rintro e w' ⟨x, I', rfl, hB, _, _, hp⟩
  cases hp
  exact ⟨rfl, hB⟩
end Go.Proofs.Tryz
