/-
  Walks over the reference's Based, Number and Octal.
-/
import Derived.Test.YtlhiadnolckoeaaGreatDoorR10

section
namespace Go.Proofs.YtlhiadnolckoeaaGreatDoor
open Go.RowKit

namespace Pl
/-- a piece of digits that is too great, or no number at all -/
theorem no_of {b : Nat} (hb : 1 ≤ b) {most : Int} {l : List UInt8} {k : Nat} (h : most < (val b (l.take k) : Int)) : l = [] ∨ allDig b l = false ∨ most < (val b l : Int) := by
  have := val_mono b hb l k
  exact .inr (.inr (by omega))
theorem no_at {b : Nat} {l : List UInt8} {c : UInt8} (hc : c ∈ l) (h : isDig b c = false) : allDig b l = false := by
  rw [allDig, List.all_eq_false]
  exact ⟨c, hc, by simp [h]⟩
end Pl

set_option maxRecDepth 100000 in
set_option maxHeartbeats 4000000 in
theorem refbased8_any (s : ByteArray) (most : Int) (w : World) (hs : s.size ≤ 140737488351232) (hm0 : -9223372036854775808 ≤ most) (hm1 : most ≤ 9223372036854775807) :
    Calls Tryz.prog 72 #[.string s, .int .i64 most, .int .i64 8] w fun e w' => e = .returned (numRes 8 most s.data.toList) ∧ w' = w := by
  have hlen : s.data.toList.length = s.size := Array.length_toList
  obtain ⟨R, hR'⟩ : ∃ R, numRes 8 most s.data.toList = R := ⟨_, rfl⟩
  rw [hR']
  have hR := Lib.hid hR'
  clear hR'
  obtain ⟨Q, hQ⟩ : ∃ Q, most.tdiv 8 = Q := ⟨_, rfl⟩
  have hQb : (0 ≤ most → 8 * Q ≤ most ∧ most < 8 * Q + 8) ∧ (most < 0 → 8 * Q - 8 < most ∧ most ≤ 8 * Q) := by
    constructor
    · intro h
      rw [Int.tdiv_eq_ediv_of_nonneg h] at hQ
      omega
    · intro h
      have h1 : most.tdiv 8 = -((-most) / 8) := by
        rw [← Int.tdiv_eq_ediv_of_nonneg (show 0 ≤ -most by omega), Int.neg_tdiv, Int.neg_neg]
      omega
  have HQ := Lib.hid hQb
  clear hQb
  by_cases h0 : s.size = 0
  · have hs0 : s = ⟨#[]⟩ := by cases s with | mk d => congr 1; exact Array.eq_empty_of_size_eq_zero h0
    have HR : Hid (R = .tuple #[.int .i64 0, .bool false]) := Lib.hid (by rw [← hR.out]; exact numRes_no (.inl (by rw [hs0])))
    subst hs0
    clear h0 hR hlen
    go_enter Tryz.func72, Tryz.ntmps72
    go_wp2
    go_ret2
    exact ⟨congrArg Ending.returned HR.out.symm, rfl⟩
  have hne : s.data.toList ≠ [] := fun e => by rw [e, List.length_nil] at hlen; omega
  have HN := Lib.hid hne
  have hpos : 0 < s.size := by omega
  have hz : ((s.size : Int) == 0) = false := by rw [beq_eq_false_iff_ne]; omega
  have HL := Lib.hid hlen
  clear hne hlen h0
  go_enter Tryz.func72, Tryz.ntmps72
  go_wp2
  clear hz
  go_loop [8, 9, 10, 11] (fun n i _ _ => ∃ (k : Nat) (v : Int), k ≤ s.size ∧ 0 ≤ v ∧ Hid (v = (Pl.val 8 (s.data.toList.take k) : Nat) ∧ (∀ c ∈ s.data.toList.take k, Pl.isDig 8 c = true) ∧ (k = 0 ∨ v ≤ most)) ∧ v ≤ 9223372036854775807 ∧ n = .int .i64 v ∧ i = .int .i64 k) (fun _ i _ _ => s.size - (intOf i).toNat)
  case atStart => exact ⟨0, 0, by omega, by omega, Lib.hid ⟨by simp [Pl.val], by simp, .inl rfl⟩, by omega, rfl, rfl⟩
  case round =>
    obtain ⟨k, v, hk, hv0, hval, hv1, rfl, rfl⟩ := hrel
    by_cases hlt : k < s.size
    · obtain ⟨x, hx⟩ : ∃ x : Int, ((s[k]'hlt).toNat : Int) = x := ⟨_, rfl⟩
      have hx0 : 0 ≤ x := by omega
      have hx1 : x < 256 := by have := (s[k]'hlt).toNat_lt; omega
      have hmem : s[k]'hlt ∈ s.data.toList := Array.getElem_mem_toList hlt
      have hat : s.data.toList[k]? = some (s[k]'hlt) := by rw [Array.getElem?_toList]; exact Array.getElem?_eq_getElem hlt
      by_cases hd : Pl.isDig 8 (s[k]'hlt) = true
      · have hcr := of_decide_eq_true hd
        have hxl : 48 ≤ x := by omega
        have hxh : x < 48 + 8 := by omega
        have hstep : v * 8 + (x - 48) = (Pl.val 8 (s.data.toList.take (k + 1)) : Nat) := by
          rw [Pl.val_take hat, Int.natCast_add, Int.natCast_mul, ← hval.out.1]
          omega
        by_cases hle : v * 8 + (x - 48) ≤ most
        · have hQ1 : v ≤ Q := by have := HQ.out; omega
          have hnext : Hid (v * 8 + (x - 48) = (Pl.val 8 (s.data.toList.take (k + 1)) : Nat) ∧ (∀ c ∈ s.data.toList.take (k + 1), Pl.isDig 8 c = true) ∧ (k + 1 = 0 ∨ v * 8 + (x - 48) ≤ most)) := Lib.hid ⟨hstep, by
            rw [List.take_add_one, hat]
            intro c hc
            rcases List.mem_append.1 hc with h | h
            · exact hval.out.2.1 c h
            · simp at h; rw [h]; exact hd, .inr hle⟩
          have hm2 : 0 ≤ most := by omega
          have hQ' : most / 8 = Q := by rw [← Int.tdiv_eq_ediv_of_nonneg hm2]; exact hQ
          have h3 : v * 8 ≤ most - (x - 48) := by omega
          have h4 : v * 8 ≤ 9223372036854775807 := by omega
          clear hstep hcr hd hmem hat
          go_wp2
          go_round
          case rel => exact ⟨k + 1, v * 8 + (x - 48), by omega, by omega, hnext, by omega, rfl, by go_num⟩
          case measure => simp [intOf]; omega
        · have HR : Hid (R = .tuple #[.int .i64 0, .bool false]) := Lib.hid (by rw [← hR.out]; exact numRes_no (Pl.no_of (by omega) (k := k + 1) (by rw [← hstep]; omega)))
          have hgt : most < v * 8 + (x - 48) := by omega
          clear hstep hcr hd hmem hat hR HN hval hle
          by_cases hm2 : 0 ≤ most
          · have hQ' : most / 8 = Q := by rw [← Int.tdiv_eq_ediv_of_nonneg hm2]; exact hQ
            by_cases hv : v ≤ Q
            · have h3 : most - (x - 48) < v * 8 := by omega
              have h4 : v * 8 ≤ 9223372036854775807 := by have := HQ.out; omega
              clear hQ
              go_wp2
              go_loop [11] (fun j => ∃ i : Nat, i ≤ s.size ∧ j = .int .i64 i) (fun j => s.size - (intOf j).toNat)
              case atStart => exact ⟨k, by omega, rfl⟩
              case round =>
                obtain ⟨i, hi, rfl⟩ := hrel
                by_cases hil : i < s.size
                · obtain ⟨y, hy⟩ : ∃ y : Int, ((s[i]'hil).toNat : Int) = y := ⟨_, rfl⟩
                  have hy0 : 0 ≤ y := by omega
                  have hy1 : y < 256 := by have := (s[i]'hil).toNat_lt; omega
                  by_cases h1 : y < 48
                  · go_wp2
                    go_ret2
                    exact ⟨congrArg Ending.returned HR.out.symm, rfl⟩
                  · have h1' : 48 ≤ y := by omega
                    clear h1
                    by_cases h2 : y < 48 + 8
                    · go_wp2
                      go_round
                      case rel => exact ⟨i + 1, by omega, by go_num⟩
                      case measure => simp [intOf]; omega
                    · have h2' : 48 + 8 ≤ y := by omega
                      clear h2
                      go_wp2
                      go_ret2
                      exact ⟨congrArg Ending.returned HR.out.symm, rfl⟩
                · go_wp2
                  go_ret2
                  exact ⟨congrArg Ending.returned HR.out.symm, rfl⟩
            · have h3 : Q < v := by omega
              clear hQ hv
              go_wp2
              go_loop [11] (fun j => ∃ i : Nat, i ≤ s.size ∧ j = .int .i64 i) (fun j => s.size - (intOf j).toNat)
              case atStart => exact ⟨k, by omega, rfl⟩
              case round =>
                obtain ⟨i, hi, rfl⟩ := hrel
                by_cases hil : i < s.size
                · obtain ⟨y, hy⟩ : ∃ y : Int, ((s[i]'hil).toNat : Int) = y := ⟨_, rfl⟩
                  have hy0 : 0 ≤ y := by omega
                  have hy1 : y < 256 := by have := (s[i]'hil).toNat_lt; omega
                  by_cases h1 : y < 48
                  · go_wp2
                    go_ret2
                    exact ⟨congrArg Ending.returned HR.out.symm, rfl⟩
                  · have h1' : 48 ≤ y := by omega
                    clear h1
                    by_cases h2 : y < 48 + 8
                    · go_wp2
                      go_round
                      case rel => exact ⟨i + 1, by omega, by go_num⟩
                      case measure => simp [intOf]; omega
                    · have h2' : 48 + 8 ≤ y := by omega
                      clear h2
                      go_wp2
                      go_ret2
                      exact ⟨congrArg Ending.returned HR.out.symm, rfl⟩
                · go_wp2
                  go_ret2
                  exact ⟨congrArg Ending.returned HR.out.symm, rfl⟩
          · have hm3 : most < 0 := by omega
            clear hm2
            by_cases hv : v ≤ Q
            · have hv2 : v = 0 := by have := HQ.out; omega
              have hQ2 : Q = 0 := by have := HQ.out; omega
              have hm4 : -8 ≤ most := by have := HQ.out; omega
              subst hv2
              subst hQ2
              have h3 : most - (x - 48) < 0 := by omega
              clear hv hv0 hv1
              go_wp2
              go_loop [11] (fun j => ∃ i : Nat, i ≤ s.size ∧ j = .int .i64 i) (fun j => s.size - (intOf j).toNat)
              case atStart => exact ⟨k, by omega, rfl⟩
              case round =>
                obtain ⟨i, hi, rfl⟩ := hrel
                by_cases hil : i < s.size
                · obtain ⟨y, hy⟩ : ∃ y : Int, ((s[i]'hil).toNat : Int) = y := ⟨_, rfl⟩
                  have hy0 : 0 ≤ y := by omega
                  have hy1 : y < 256 := by have := (s[i]'hil).toNat_lt; omega
                  by_cases h1 : y < 48
                  · go_wp2
                    go_ret2
                    exact ⟨congrArg Ending.returned HR.out.symm, rfl⟩
                  · have h1' : 48 ≤ y := by omega
                    clear h1
                    by_cases h2 : y < 48 + 8
                    · go_wp2
                      go_round
                      case rel => exact ⟨i + 1, by omega, by go_num⟩
                      case measure => simp [intOf]; omega
                    · have h2' : 48 + 8 ≤ y := by omega
                      clear h2
                      go_wp2
                      go_ret2
                      exact ⟨congrArg Ending.returned HR.out.symm, rfl⟩
                · go_wp2
                  go_ret2
                  exact ⟨congrArg Ending.returned HR.out.symm, rfl⟩
            · have h3 : Q < v := by omega
              have h4 : -9223372036854775808 ≤ Q := by have := HQ.out; omega
              have h5 : Q ≤ 0 := by have := HQ.out; omega
              clear hv
              go_wp2
              go_loop [11] (fun j => ∃ i : Nat, i ≤ s.size ∧ j = .int .i64 i) (fun j => s.size - (intOf j).toNat)
              case atStart => exact ⟨k, by omega, rfl⟩
              case round =>
                obtain ⟨i, hi, rfl⟩ := hrel
                by_cases hil : i < s.size
                · obtain ⟨y, hy⟩ : ∃ y : Int, ((s[i]'hil).toNat : Int) = y := ⟨_, rfl⟩
                  have hy0 : 0 ≤ y := by omega
                  have hy1 : y < 256 := by have := (s[i]'hil).toNat_lt; omega
                  by_cases h1 : y < 48
                  · go_wp2
                    go_ret2
                    exact ⟨congrArg Ending.returned HR.out.symm, rfl⟩
                  · have h1' : 48 ≤ y := by omega
                    clear h1
                    by_cases h2 : y < 48 + 8
                    · go_wp2
                      go_round
                      case rel => exact ⟨i + 1, by omega, by go_num⟩
                      case measure => simp [intOf]; omega
                    · have h2' : 48 + 8 ≤ y := by omega
                      clear h2
                      go_wp2
                      go_ret2
                      exact ⟨congrArg Ending.returned HR.out.symm, rfl⟩
                · go_wp2
                  go_ret2
                  exact ⟨congrArg Ending.returned HR.out.symm, rfl⟩
      · have HR : Hid (R = .tuple #[.int .i64 0, .bool false]) := Lib.hid (by rw [← hR.out]; exact numRes_no (.inr (.inl (Pl.no_at hmem (by simpa using hd)))))
        have hcr : x < 48 ∨ 48 + 8 ≤ x := by
          have h1 : ¬ (48 ≤ (s[k]'hlt).toNat ∧ (s[k]'hlt).toNat < 48 + 8) := fun h => hd (decide_eq_true h)
          omega
        clear hd hmem hat hR HN hval
        rcases hcr with hcr | hcr
        · go_wp2
          go_ret2
          exact ⟨congrArg Ending.returned HR.out.symm, rfl⟩
        · have h1 : 48 ≤ x := by omega
          go_wp2
          go_ret2
          exact ⟨congrArg Ending.returned HR.out.symm, rfl⟩
    · have hk' : k = s.size := by omega
      have hlast : Hid (R = .tuple #[.int .i64 v, .bool true]) ∧ v ≤ most := by
        obtain ⟨h1, h2, h3⟩ := hval.out
        have h4 : s.data.toList.take k = s.data.toList := List.take_of_length_le (by have := HL.out; omega)
        rw [h4] at h1 h2
        have h5 : v ≤ most := by omega
        refine ⟨Lib.hid ?_, h5⟩
        rw [← hR.out, numRes_yes HN.out (List.all_eq_true.2 h2) (by omega), ← h1]
      obtain ⟨HR, hle⟩ := hlast
      clear hk' hR hval HN
      go_wp2
      go_ret2
      exact ⟨congrArg Ending.returned HR.out.symm, rfl⟩

theorem ref8_any (s : ByteArray) (most : Int) (w : World) (hs : s.size ≤ 140737488351232) (hm0 : -9223372036854775808 ≤ most) (hm1 : most ≤ 9223372036854775807) :
    Calls Tryz.prog 36 #[.string s, .int .i64 most] w fun e w' => e = .returned (numRes 8 most s.data.toList) ∧ w' = w := by
  have hcall := refbased8_any s most w hs hm0 hm1
  unfold numRes at hcall ⊢
  split at hcall
  · rename_i h
    rw [if_pos h]
    clear h
    go_enter Tryz.func36, Tryz.ntmps36
    go_wp2_with (go_at_call 72; refine hcall.mono ?_; rintro e w2 ⟨rfl, rfl⟩)
    go_ret2
    exact ⟨rfl, rfl⟩
  · rename_i h
    rw [if_neg h]
    clear h
    go_enter Tryz.func36, Tryz.ntmps36
    go_wp2_with (go_at_call 72; refine hcall.mono ?_; rintro e w2 ⟨rfl, rfl⟩)
    go_ret2
    exact ⟨rfl, rfl⟩

set_option maxRecDepth 100000 in
set_option maxHeartbeats 4000000 in
theorem refbased10_any (s : ByteArray) (most : Int) (w : World) (hs : s.size ≤ 140737488351232) (hm0 : -9223372036854775808 ≤ most) (hm1 : most ≤ 9223372036854775807) :
    Calls Tryz.prog 72 #[.string s, .int .i64 most, .int .i64 10] w fun e w' => e = .returned (numRes 10 most s.data.toList) ∧ w' = w := by
  have hlen : s.data.toList.length = s.size := Array.length_toList
  obtain ⟨R, hR'⟩ : ∃ R, numRes 10 most s.data.toList = R := ⟨_, rfl⟩
  rw [hR']
  have hR := Lib.hid hR'
  clear hR'
  obtain ⟨Q, hQ⟩ : ∃ Q, most.tdiv 10 = Q := ⟨_, rfl⟩
  have hQb : (0 ≤ most → 10 * Q ≤ most ∧ most < 10 * Q + 10) ∧ (most < 0 → 10 * Q - 10 < most ∧ most ≤ 10 * Q) := by
    constructor
    · intro h
      rw [Int.tdiv_eq_ediv_of_nonneg h] at hQ
      omega
    · intro h
      have h1 : most.tdiv 10 = -((-most) / 10) := by
        rw [← Int.tdiv_eq_ediv_of_nonneg (show 0 ≤ -most by omega), Int.neg_tdiv, Int.neg_neg]
      omega
  have HQ := Lib.hid hQb
  clear hQb
  by_cases h0 : s.size = 0
  · have hs0 : s = ⟨#[]⟩ := by cases s with | mk d => congr 1; exact Array.eq_empty_of_size_eq_zero h0
    have HR : Hid (R = .tuple #[.int .i64 0, .bool false]) := Lib.hid (by rw [← hR.out]; exact numRes_no (.inl (by rw [hs0])))
    subst hs0
    clear h0 hR hlen
    go_enter Tryz.func72, Tryz.ntmps72
    go_wp2
    go_ret2
    exact ⟨congrArg Ending.returned HR.out.symm, rfl⟩
  have hne : s.data.toList ≠ [] := fun e => by rw [e, List.length_nil] at hlen; omega
  have HN := Lib.hid hne
  have hpos : 0 < s.size := by omega
  have hz : ((s.size : Int) == 0) = false := by rw [beq_eq_false_iff_ne]; omega
  have HL := Lib.hid hlen
  clear hne hlen h0
  go_enter Tryz.func72, Tryz.ntmps72
  go_wp2
  clear hz
  go_loop [8, 9, 10, 11] (fun n i _ _ => ∃ (k : Nat) (v : Int), k ≤ s.size ∧ 0 ≤ v ∧ Hid (v = (Pl.val 10 (s.data.toList.take k) : Nat) ∧ (∀ c ∈ s.data.toList.take k, Pl.isDig 10 c = true) ∧ (k = 0 ∨ v ≤ most)) ∧ v ≤ 9223372036854775807 ∧ n = .int .i64 v ∧ i = .int .i64 k) (fun _ i _ _ => s.size - (intOf i).toNat)
  case atStart => exact ⟨0, 0, by omega, by omega, Lib.hid ⟨by simp [Pl.val], by simp, .inl rfl⟩, by omega, rfl, rfl⟩
  case round =>
    obtain ⟨k, v, hk, hv0, hval, hv1, rfl, rfl⟩ := hrel
    by_cases hlt : k < s.size
    · obtain ⟨x, hx⟩ : ∃ x : Int, ((s[k]'hlt).toNat : Int) = x := ⟨_, rfl⟩
      have hx0 : 0 ≤ x := by omega
      have hx1 : x < 256 := by have := (s[k]'hlt).toNat_lt; omega
      have hmem : s[k]'hlt ∈ s.data.toList := Array.getElem_mem_toList hlt
      have hat : s.data.toList[k]? = some (s[k]'hlt) := by rw [Array.getElem?_toList]; exact Array.getElem?_eq_getElem hlt
      by_cases hd : Pl.isDig 10 (s[k]'hlt) = true
      · have hcr := of_decide_eq_true hd
        have hxl : 48 ≤ x := by omega
        have hxh : x < 48 + 10 := by omega
        have hstep : v * 10 + (x - 48) = (Pl.val 10 (s.data.toList.take (k + 1)) : Nat) := by
          rw [Pl.val_take hat, Int.natCast_add, Int.natCast_mul, ← hval.out.1]
          omega
        by_cases hle : v * 10 + (x - 48) ≤ most
        · have hQ1 : v ≤ Q := by have := HQ.out; omega
          have hnext : Hid (v * 10 + (x - 48) = (Pl.val 10 (s.data.toList.take (k + 1)) : Nat) ∧ (∀ c ∈ s.data.toList.take (k + 1), Pl.isDig 10 c = true) ∧ (k + 1 = 0 ∨ v * 10 + (x - 48) ≤ most)) := Lib.hid ⟨hstep, by
            rw [List.take_add_one, hat]
            intro c hc
            rcases List.mem_append.1 hc with h | h
            · exact hval.out.2.1 c h
            · simp at h; rw [h]; exact hd, .inr hle⟩
          have hm2 : 0 ≤ most := by omega
          have hQ' : most / 10 = Q := by rw [← Int.tdiv_eq_ediv_of_nonneg hm2]; exact hQ
          have h3 : v * 10 ≤ most - (x - 48) := by omega
          have h4 : v * 10 ≤ 9223372036854775807 := by omega
          clear hstep hcr hd hmem hat
          go_wp2
          go_round
          case rel => exact ⟨k + 1, v * 10 + (x - 48), by omega, by omega, hnext, by omega, rfl, by go_num⟩
          case measure => simp [intOf]; omega
        · have HR : Hid (R = .tuple #[.int .i64 0, .bool false]) := Lib.hid (by rw [← hR.out]; exact numRes_no (Pl.no_of (by omega) (k := k + 1) (by rw [← hstep]; omega)))
          have hgt : most < v * 10 + (x - 48) := by omega
          clear hstep hcr hd hmem hat hR HN hval hle
          by_cases hm2 : 0 ≤ most
          · have hQ' : most / 10 = Q := by rw [← Int.tdiv_eq_ediv_of_nonneg hm2]; exact hQ
            by_cases hv : v ≤ Q
            · have h3 : most - (x - 48) < v * 10 := by omega
              have h4 : v * 10 ≤ 9223372036854775807 := by have := HQ.out; omega
              clear hQ
              go_wp2
              go_loop [11] (fun j => ∃ i : Nat, i ≤ s.size ∧ j = .int .i64 i) (fun j => s.size - (intOf j).toNat)
              case atStart => exact ⟨k, by omega, rfl⟩
              case round =>
                obtain ⟨i, hi, rfl⟩ := hrel
                by_cases hil : i < s.size
                · obtain ⟨y, hy⟩ : ∃ y : Int, ((s[i]'hil).toNat : Int) = y := ⟨_, rfl⟩
                  have hy0 : 0 ≤ y := by omega
                  have hy1 : y < 256 := by have := (s[i]'hil).toNat_lt; omega
                  by_cases h1 : y < 48
                  · go_wp2
                    go_ret2
                    exact ⟨congrArg Ending.returned HR.out.symm, rfl⟩
                  · have h1' : 48 ≤ y := by omega
                    clear h1
                    by_cases h2 : y < 48 + 10
                    · go_wp2
                      go_round
                      case rel => exact ⟨i + 1, by omega, by go_num⟩
                      case measure => simp [intOf]; omega
                    · have h2' : 48 + 10 ≤ y := by omega
                      clear h2
                      go_wp2
                      go_ret2
                      exact ⟨congrArg Ending.returned HR.out.symm, rfl⟩
                · go_wp2
                  go_ret2
                  exact ⟨congrArg Ending.returned HR.out.symm, rfl⟩
            · have h3 : Q < v := by omega
              clear hQ hv
              go_wp2
              go_loop [11] (fun j => ∃ i : Nat, i ≤ s.size ∧ j = .int .i64 i) (fun j => s.size - (intOf j).toNat)
              case atStart => exact ⟨k, by omega, rfl⟩
              case round =>
                obtain ⟨i, hi, rfl⟩ := hrel
                by_cases hil : i < s.size
                · obtain ⟨y, hy⟩ : ∃ y : Int, ((s[i]'hil).toNat : Int) = y := ⟨_, rfl⟩
                  have hy0 : 0 ≤ y := by omega
                  have hy1 : y < 256 := by have := (s[i]'hil).toNat_lt; omega
                  by_cases h1 : y < 48
                  · go_wp2
                    go_ret2
                    exact ⟨congrArg Ending.returned HR.out.symm, rfl⟩
                  · have h1' : 48 ≤ y := by omega
                    clear h1
                    by_cases h2 : y < 48 + 10
                    · go_wp2
                      go_round
                      case rel => exact ⟨i + 1, by omega, by go_num⟩
                      case measure => simp [intOf]; omega
                    · have h2' : 48 + 10 ≤ y := by omega
                      clear h2
                      go_wp2
                      go_ret2
                      exact ⟨congrArg Ending.returned HR.out.symm, rfl⟩
                · go_wp2
                  go_ret2
                  exact ⟨congrArg Ending.returned HR.out.symm, rfl⟩
          · have hm3 : most < 0 := by omega
            clear hm2
            by_cases hv : v ≤ Q
            · have hv2 : v = 0 := by have := HQ.out; omega
              have hQ2 : Q = 0 := by have := HQ.out; omega
              have hm4 : -10 ≤ most := by have := HQ.out; omega
              subst hv2
              subst hQ2
              have h3 : most - (x - 48) < 0 := by omega
              clear hv hv0 hv1
              go_wp2
              go_loop [11] (fun j => ∃ i : Nat, i ≤ s.size ∧ j = .int .i64 i) (fun j => s.size - (intOf j).toNat)
              case atStart => exact ⟨k, by omega, rfl⟩
              case round =>
                obtain ⟨i, hi, rfl⟩ := hrel
                by_cases hil : i < s.size
                · obtain ⟨y, hy⟩ : ∃ y : Int, ((s[i]'hil).toNat : Int) = y := ⟨_, rfl⟩
                  have hy0 : 0 ≤ y := by omega
                  have hy1 : y < 256 := by have := (s[i]'hil).toNat_lt; omega
                  by_cases h1 : y < 48
                  · go_wp2
                    go_ret2
                    exact ⟨congrArg Ending.returned HR.out.symm, rfl⟩
                  · have h1' : 48 ≤ y := by omega
                    clear h1
                    by_cases h2 : y < 48 + 10
                    · go_wp2
                      go_round
                      case rel => exact ⟨i + 1, by omega, by go_num⟩
                      case measure => simp [intOf]; omega
                    · have h2' : 48 + 10 ≤ y := by omega
                      clear h2
                      go_wp2
                      go_ret2
                      exact ⟨congrArg Ending.returned HR.out.symm, rfl⟩
                · go_wp2
                  go_ret2
                  exact ⟨congrArg Ending.returned HR.out.symm, rfl⟩
            · have h3 : Q < v := by omega
              have h4 : -9223372036854775808 ≤ Q := by have := HQ.out; omega
              have h5 : Q ≤ 0 := by have := HQ.out; omega
              clear hv
              go_wp2
              go_loop [11] (fun j => ∃ i : Nat, i ≤ s.size ∧ j = .int .i64 i) (fun j => s.size - (intOf j).toNat)
              case atStart => exact ⟨k, by omega, rfl⟩
              case round =>
                obtain ⟨i, hi, rfl⟩ := hrel
                by_cases hil : i < s.size
                · obtain ⟨y, hy⟩ : ∃ y : Int, ((s[i]'hil).toNat : Int) = y := ⟨_, rfl⟩
                  have hy0 : 0 ≤ y := by omega
                  have hy1 : y < 256 := by have := (s[i]'hil).toNat_lt; omega
                  by_cases h1 : y < 48
                  · go_wp2
                    go_ret2
                    exact ⟨congrArg Ending.returned HR.out.symm, rfl⟩
                  · have h1' : 48 ≤ y := by omega
                    clear h1
                    by_cases h2 : y < 48 + 10
                    · go_wp2
                      go_round
                      case rel => exact ⟨i + 1, by omega, by go_num⟩
                      case measure => simp [intOf]; omega
                    · have h2' : 48 + 10 ≤ y := by omega
                      clear h2
                      go_wp2
                      go_ret2
                      exact ⟨congrArg Ending.returned HR.out.symm, rfl⟩
                · go_wp2
                  go_ret2
                  exact ⟨congrArg Ending.returned HR.out.symm, rfl⟩
      · have HR : Hid (R = .tuple #[.int .i64 0, .bool false]) := Lib.hid (by rw [← hR.out]; exact numRes_no (.inr (.inl (Pl.no_at hmem (by simpa using hd)))))
        have hcr : x < 48 ∨ 48 + 10 ≤ x := by
          have h1 : ¬ (48 ≤ (s[k]'hlt).toNat ∧ (s[k]'hlt).toNat < 48 + 10) := fun h => hd (decide_eq_true h)
          omega
        clear hd hmem hat hR HN hval
        rcases hcr with hcr | hcr
        · go_wp2
          go_ret2
          exact ⟨congrArg Ending.returned HR.out.symm, rfl⟩
        · have h1 : 48 ≤ x := by omega
          go_wp2
          go_ret2
          exact ⟨congrArg Ending.returned HR.out.symm, rfl⟩
    · have hk' : k = s.size := by omega
      have hlast : Hid (R = .tuple #[.int .i64 v, .bool true]) ∧ v ≤ most := by
        obtain ⟨h1, h2, h3⟩ := hval.out
        have h4 : s.data.toList.take k = s.data.toList := List.take_of_length_le (by have := HL.out; omega)
        rw [h4] at h1 h2
        have h5 : v ≤ most := by omega
        refine ⟨Lib.hid ?_, h5⟩
        rw [← hR.out, numRes_yes HN.out (List.all_eq_true.2 h2) (by omega), ← h1]
      obtain ⟨HR, hle⟩ := hlast
      clear hk' hR hval HN
      go_wp2
      go_ret2
      exact ⟨congrArg Ending.returned HR.out.symm, rfl⟩

theorem ref10_any (s : ByteArray) (most : Int) (w : World) (hs : s.size ≤ 140737488351232) (hm0 : -9223372036854775808 ≤ most) (hm1 : most ≤ 9223372036854775807) :
    Calls Tryz.prog 37 #[.string s, .int .i64 most] w fun e w' => e = .returned (numRes 10 most s.data.toList) ∧ w' = w := by
  have hcall := refbased10_any s most w hs hm0 hm1
  unfold numRes at hcall ⊢
  split at hcall
  · rename_i h
    rw [if_pos h]
    clear h
    go_enter Tryz.func37, Tryz.ntmps37
    go_wp2_with (go_at_call 72; refine hcall.mono ?_; rintro e w2 ⟨rfl, rfl⟩)
    go_ret2
    exact ⟨rfl, rfl⟩
  · rename_i h
    rw [if_neg h]
    clear h
    go_enter Tryz.func37, Tryz.ntmps37
    go_wp2_with (go_at_call 72; refine hcall.mono ?_; rintro e w2 ⟨rfl, rfl⟩)
    go_ret2
    exact ⟨rfl, rfl⟩

end Go.Proofs.YtlhiadnolckoeaaGreatDoor
end
