/-
  A slice of bytes that came in, as the walks want it.
-/
import Derived.Test.YtnagiphjlfiifaaDoorLaw
import Derived.Test.YtnagiphjlfiifaaDoorTextClone
import Derived.ChangeSlices
namespace Go.Proofs.YtnagiphjlfiifaaDoor
open Go.ChangeShapes Go.WideShapes Go.ChangeAt Go.RowKit

theorem cellsByte : Tryd.prog.cellsOf 5 = 1 := by kernel_rfl
theorem bulk_lits {H : Type} (k : IntKind) (l : List Int) : Rows.uptoBulkAll (lits (H := H) k l) = l.length := by
  induction l with
  | nil => rfl
  | cons z l ih =>
    show Rows.uptoBulk (DataW.lit (H := H) (.int k z)) + Rows.uptoBulkAll (lits (H := H) k l) = l.length + 1
    rw [ih]
    simp only [Rows.uptoBulk]
    omega

theorem read_bytes {H : Type} {enc : TypeId × Value → H} {W : World} {fuel : Nat} {cs : List Value} {d : DataW H} {ps : List MemPlace} {a0 : Option Addr} {len cap : Nat}
    (h : DataW.trod enc Tryd.prog W 0 (fun _ => true) true fuel 25 cs = some (d, ps)) (hc : cs = [.slice a0 len cap]) :
    ∃ l : List UInt8, l.length = len ∧ l.length ≤ cap ∧ Reads W W.heap.size 1 a0 l.length (bytesC l) ∧ l.length ≤ Rows.uptoBulk d := by
  subst hc
  rcases open_ints Tryd.underlying25 Tryd.underlying5 cellsByte h with ⟨hcs, hx⟩ | ⟨a, len', cap', zs, hcs, _, hl, hm, hz, hx, hcell, hws⟩
  · simp at hcs
    obtain ⟨rfl, rfl, rfl⟩ := hcs
    exact ⟨[], rfl, Nat.le_refl _, Reads.none_, by simp⟩
  · simp at hcs
    obtain ⟨rfl, rfl, rfl⟩ := hcs
    simp only [Prod.mk.injEq] at hx
    obtain ⟨rfl, rfl⟩ := hx
    simp only [if_true] at hz
    have hlen : (zs.take len).length = len := by rw [List.length_take]; omega
    refine ⟨(zs.take len).map fun z => UInt8.ofNat z.toNat, by rw [List.length_map]; exact hlen, by rw [List.length_map, hlen]; exact hl, ⟨by simp [bytesC], fun hn => ⟨a, rfl, ?_, fun j u hu => ?_⟩⟩, ?_⟩
    · have hn' : 0 < len := by rw [List.length_map, hlen] at hn; exact hn
      have h := World.block_lt_of_cell? W _ (hcell 0 (by omega))
      rwa [block_of_add] at h
    · simp only [bytesC, List.map_map, List.getElem?_map, Option.map_eq_some_iff, Function.comp_apply] at hu
      obtain ⟨z, hz1, rfl⟩ := hu
      have hj : j < (zs.take len).length := (List.getElem?_eq_some_iff.1 hz1).1
      rw [hlen] at hj
      rw [List.getElem?_take, if_pos hj] at hz1
      have hzm : z ∈ zs := List.mem_of_getElem? hz1
      have hb := Go.bounds_u8 (hws z hzm)
      rw [hcell j (by omega), List.getD_eq_getElem?_getD, hz1, Option.getD_some, UInt8.toNat_ofNat']
      congr 2
      omega
    · simp only [Rows.uptoBulk, bulk_lits, List.length_map]
      omega

end Go.Proofs.YtnagiphjlfiifaaDoor
