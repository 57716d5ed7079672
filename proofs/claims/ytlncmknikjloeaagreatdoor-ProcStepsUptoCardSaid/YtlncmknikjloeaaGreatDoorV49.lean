/-
  Parts of the proof: Slices that came in, as the walk over ProcSteps wants them.
-/
import Derived.Test.YtlncmknikjloeaaGreatDoorLaw
import Derived.Test.YtlncmknikjloeaaGreatDoorV45
import Derived.ChangeSlices

section
namespace Go.Proofs.YtlncmknikjloeaaGreatDoor
open Go.ChangeShapes Go.WideShapes Go.ChangeAt Go.RowKit

theorem cellsB : Tryz.prog.cellsOf 5 = 1 := by kernel_rfl
theorem cellsBs : Tryz.prog.cellsOf 39 = 1 := by kernel_rfl
theorem bulk_ints {H : Type} (k : IntKind) (l : List Int) : Rows.uptoBulkAll (lits (H := H) k l) = l.length := by
  induction l with
  | nil => rfl
  | cons z l ih =>
    show Rows.uptoBulk (DataW.lit (H := H) (.int k z)) + Rows.uptoBulkAll (lits (H := H) k l) = l.length + 1
    rw [ih]
    simp only [Rows.uptoBulk]
    omega
theorem bulk_append {H : Type} (l l' : List (DataW H)) : Rows.uptoBulkAll (l ++ l') = Rows.uptoBulkAll l + Rows.uptoBulkAll l' := by
  induction l with
  | nil => simp [Rows.uptoBulkAll]
  | cons d l ih =>
    show Rows.uptoBulk d + Rows.uptoBulkAll (l ++ l') = (Rows.uptoBulk d + Rows.uptoBulkAll l) + _
    rw [ih]
    omega

/-- a part -/
theorem read_part {H : Type} {enc : TypeId × Value → H} {W : World} {fuel : Nat} {cs : List Value} {d : DataW H} {ps : List MemPlace}
    (h : DataW.trod enc Tryz.prog W 0 (fun _ => true) true fuel 39 cs = some (d, ps)) : ∃ p : PartIt, cs = [partV p] ∧ Bytes W W.heap.size (partV p) p.bs ∧ p.bs.length ≤ Rows.uptoBulk d := by
  rcases open_ints Tryz.underlying39 Tryz.underlying5 cellsB h with ⟨rfl, hx⟩ | ⟨a, len, cap, zs, rfl, _, hl, hm, hz, hx, hcell, hws⟩
  · exact ⟨⟨none, 0, []⟩, rfl, Bytes.nil _ _, by simp⟩
  · simp only [Prod.mk.injEq] at hx
    obtain ⟨rfl, rfl⟩ := hx
    simp only [if_true] at hz
    have hlen : (zs.take len).length = len := by rw [List.length_take]; omega
    have hbl : ((zs.take len).map fun z => UInt8.ofNat z.toNat).length = len := by rw [List.length_map]; exact hlen
    refine ⟨⟨some a, cap, (zs.take len).map fun z => UInt8.ofNat z.toNat⟩, ?_, ⟨some a, cap, rfl, by rw [hbl]; exact hl, hm, fun e => by simp at e, ⟨by simp [bytesC], fun hn => ⟨a, rfl, ?_, fun j u hu => ?_⟩⟩⟩, ?_⟩
    · show _ = [Value.slice (some a) _ cap]
      rw [hbl]
    · have hn' : 0 < len := by rw [hbl] at hn; exact hn
      have h := World.block_lt_of_cell? W _ (hcell 0 (by omega))
      rwa [block_of_add] at h
    · simp only [bytesC, List.map_map, List.getElem?_map, Option.map_eq_some_iff, Function.comp_apply] at hu
      obtain ⟨z, hz1, rfl⟩ := hu
      have hj : j < (zs.take len).length := (List.getElem?_eq_some_iff.1 hz1).1
      rw [hlen] at hj
      rw [List.getElem?_take, if_pos hj] at hz1
      have hzm : z ∈ zs := List.mem_of_getElem? hz1
      have hb := Go.bounds_u8 (hws z hzm)
      rw [hcell j (by omega), List.getD_eq_getElem?_getD, hz1, Option.getD_some, UInt8.toNat_ofNat']
      congr 2
      omega
    · show ((zs.take len).map fun z => UInt8.ofNat z.toNat).length ≤ _
      rw [hbl]
      simp only [Rows.uptoBulk, bulk_ints]
      rw [hlen]
      omega

set_option maxRecDepth 100000 in
/-- the parts -/
theorem read_parts {H : Type} {enc : TypeId × Value → H} {W : World} {fuel : Nat} {cs : List Value} {d : DataW H} {ps : List MemPlace} {a0 : Option Addr} {len cap : Nat}
    (h : DataW.trod enc Tryz.prog W 0 (fun _ => true) true fuel 22 cs = some (d, ps)) (hc : cs = [.slice a0 len cap]) :
    ∃ l : List PartIt, l.length = len ∧ Reads W W.heap.size 1 a0 len (l.map partV) ∧ (∀ p ∈ l, Bytes W W.heap.size (partV p) p.bs) ∧ (l.map (·.bs)).flatten.length + len ≤ 2 * Rows.uptoBulk d ∧ (l.map (·.bs)).flatten.length ≤ Rows.uptoBulk d := by
  subst hc
  rcases DataW.trod_slice Tryz.underlying22 h with ⟨hcs, hx⟩ | ⟨a, len', cap', elems, rest, n, rfl, hcs, hx, _, hl, hm, hlen, hel, _, _⟩
  · simp at hcs
    obtain ⟨rfl, rfl, rfl⟩ := hcs
    exact ⟨[], rfl, Reads.none_, by simp, by simp, by simp⟩
  · simp at hcs
    obtain ⟨rfl, rfl, rfl⟩ := hcs
    simp only [Prod.mk.injEq] at hx
    obtain ⟨rfl, rfl⟩ := hx
    have key : ∀ k, k ≤ len → ∃ l : List PartIt, l.length = k ∧ (∀ i p, l[i]? = some p → W.cell? (a.add i) = some (partV p)) ∧ (∀ p ∈ l, Bytes W W.heap.size (partV p) p.bs) ∧ (l.map (·.bs)).flatten.length ≤ Rows.uptoBulkAll ((elems.take k).map (·.1)) ∧ k ≤ Rows.uptoBulkAll ((elems.take k).map (·.1)) := by
      intro k
      induction k with
      | zero => intro _; exact ⟨[], rfl, by simp, by simp, by simp, by simp⟩
      | succ k ih =>
        intro hk
        obtain ⟨l, h1, h2, h3, h4, h5⟩ := ih (by omega)
        have hk' : k < elems.length := by omega
        have he := hel k (by omega)
        rw [List.getElem?_eq_getElem hk', cellsBs, Nat.mul_one, Option.bind_eq_some_iff] at he
        obtain ⟨cs', hcs, hy⟩ := he
        obtain ⟨p, rfl, hb, hle⟩ := read_part (d := elems[k].1) (ps := elems[k].2) hy
        have htk : (elems.take (k + 1)).map (·.1) = (elems.take k).map (·.1) ++ [elems[k].1] := by
          rw [List.take_succ_eq_append_getElem hk', List.map_append]; rfl
        have hb1 := bulk_one elems[k].1
        refine ⟨l ++ [p], by simp [h1], ?_, ?_, ?_, ?_⟩
        · intro i q hq
          by_cases hi : i < k
          · rw [List.getElem?_append_left (by omega)] at hq
            exact h2 i q hq
          · rw [List.getElem?_append_right (by omega)] at hq
            have hi0 : i - l.length = 0 := by
              have := (List.getElem?_eq_some_iff.1 hq).1
              simp at this
              omega
            rw [hi0] at hq
            simp at hq
            subst hq
            rw [show i = k by omega]
            exact cell_of_cells?_one hcs
        · intro q hq
          rcases List.mem_append.1 hq with hq | hq
          · exact h3 q hq
          · rw [List.mem_singleton] at hq
            subst hq
            exact hb
        · rw [htk, bulk_append, List.map_append, List.flatten_append, List.length_append]
          simp only [List.map_cons, List.map_nil, List.flatten_cons, List.flatten_nil, List.append_nil, Rows.uptoBulkAll]
          omega
        · rw [htk, bulk_append]
          simp only [Rows.uptoBulkAll]
          omega
    obtain ⟨l, h1, h2, h3, h4, h5⟩ := key len (Nat.le_refl _)
    rw [List.take_of_length_le (by omega)] at h4 h5
    refine ⟨l, h1, ⟨by simp [h1], fun hn => ⟨a, rfl, ?_, fun j u hu => ?_⟩⟩, h3, ?_, ?_⟩
    · have hl0 : 0 < l.length := by omega
      have := World.block_lt_of_cell? W _ (h2 0 _ (List.getElem?_eq_getElem hl0))
      rwa [block_of_add] at this
    · rw [List.getElem?_map, Option.map_eq_some_iff] at hu
      obtain ⟨p, hp, rfl⟩ := hu
      exact h2 j p hp
    · simp only [Rows.uptoBulk]
      omega
    · simp only [Rows.uptoBulk]
      omega

end Go.Proofs.YtlncmknikjloeaaGreatDoor
end
