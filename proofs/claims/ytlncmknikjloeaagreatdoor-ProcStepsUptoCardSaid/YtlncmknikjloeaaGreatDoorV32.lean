/-
  Parts of the proof: Walks over Stat of the root, and Dump, of a tree that has the root alone.
-/
import Derived.Test.YtlncmknikjloeaaGreatDoorV27
import Derived.Test.YtlncmknikjloeaaGreatDoorV31

section
namespace Go.Proofs.YtlncmknikjloeaaGreatDoor
open Go.RowKit Go.Maps

theorem statRoot (w : World) (t h : Nat) (hT : TreeOf w t (emptyT h)) : Calls Tryz.prog 72 #[ptrV t, .string ⟨#[]⟩, .string ⟨#[47]⟩] w fun e w' => e = .returned (.tuple #[.agg #[.int .i64 1, .bool true, .int .i64 493, .int .i64 0, .int .i64 0, .int .i64 1], .int .i64 0]) ∧ Below w.heap.size w w' :=
  (stat_any w t (emptyT h) Abs.emptyT (fun _ => h + 1) (emptyT_is hT) ⟨#[]⟩ ⟨#[47]⟩ (by decide) (by decide)).mono fun e w' ⟨he, hb⟩ => ⟨he.trans (by
    have : Abs.T.look Abs.emptyT (⟨#[]⟩ : ByteArray).data.toList (⟨#[47]⟩ : ByteArray).data.toList = .ok 1 := by rfl
    rw [this]; rfl), hb⟩
theorem dumpRoot (w : World) (t h : Nat) (hT : TreeOf w t (emptyT h)) : Calls Tryz.prog 63 #[ptrV t] w fun e w' => e = .returned (.slice none 0 0) ∧ Below w.heap.size w w' := by
  have e0 := hT.item (h + 1) (rootItem h) (by simp [emptyT])
  exact callsIn_wide.1 (dumpNone_wide w t (h + 1) h _ (hT.blk.cell 0) (e0.1.cell 5) (e0.2.2 rfl).1)

end Go.Proofs.YtlncmknikjloeaaGreatDoor
end
