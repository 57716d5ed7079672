/-
  Walks over text.based, Number and Octal.
-/
import Derived.Test.YtnagiphjlfiifaaDoorTextParse
namespace Go.Proofs.YtnagiphjlfiifaaDoor
open Go.RowKit

namespace Pl
def allDig (b : Nat) (l : List UInt8) : Bool := l.all (isDig b)
/-- is it a number to the base, and at most so great? -/
def okNum (b : Nat) (most : Int) (l : List UInt8) : Bool := !l.isEmpty && allDig b l && decide ((val b l : Int) ≤ most)
end Pl
/-- what reading a number answers -/
def numRes (b : Nat) (most : Int) (l : List UInt8) : Value := if Pl.okNum b most l = true then .tuple #[.int .i64 (Pl.val b l : Nat), .bool true] else .tuple #[.int .i64 0, .bool false]
theorem numRes_yes {b : Nat} {most : Int} {l : List UInt8} (hne : l ≠ []) (hd : Pl.allDig b l = true) (hm : (Pl.val b l : Int) ≤ most) : numRes b most l = .tuple #[.int .i64 (Pl.val b l : Nat), .bool true] := by
  unfold numRes Pl.okNum
  rw [if_pos]
  simp [hd, hm, hne]
theorem numRes_no {b : Nat} {most : Int} {l : List UInt8} (h : l = [] ∨ Pl.allDig b l = false ∨ most < (Pl.val b l : Int)) : numRes b most l = .tuple #[.int .i64 0, .bool false] := by
  unfold numRes Pl.okNum
  rw [if_neg]
  rcases h with h | h | h
  · simp [h]
  · simp [h]
  · simp; intro _ _; omega

set_option maxRecDepth 100000 in
set_option maxHeartbeats 2000000 in
theorem based8_bad (s : ByteArray) (most : Int) (w : World) (hs : s.size ≤ 140737488351232) (hbad : Pl.allDig 8 s.data.toList = false) :
    Calls Tryd.prog 23 #[.string s, .int .i64 most, .int .i64 8] w fun e w' => e = .returned (.tuple #[.int .i64 0, .bool false]) ∧ Below w.heap.size w w' := by
  have hconv := fun W => Lib.run_convert_string_bytes (P := Tryd.prog) W 9 25 5 s Tryd.underlying9 Tryd.underlying25 Tryd.underlying5
  have hB := Lib.hid hbad
  clear hbad
  go_enter Tryd.func23, Tryd.ntmps23
  go_wp2
  clear hconv
  go_loop [9, 15] (fun _ i => ∃ k : Nat, k ≤ s.size ∧ Hid (∀ c ∈ s.data.toList.take k, Pl.isDig 8 c = true) ∧ i = .int .i64 k) (fun _ i => s.size - (intOf i).toNat)
  case atStart => exact ⟨0, by omega, Lib.hid (by simp), rfl⟩
  case round =>
    obtain ⟨k, hk, hpre, rfl⟩ := hrel
    by_cases hlt : k < s.size
    · have hlt' : k < s.data.toList.length := by simpa using hlt
      obtain ⟨c, hc⟩ : ∃ c, s.data.toList[k]? = some c := ⟨_, List.getElem?_eq_getElem hlt'⟩
      have hcell : (Lib.bytesWorld w 5 s).cell? ⟨w.heap.size, k, none⟩ = some (.int .u8 c.toNat) := by
        rw [Lib.bytesWorld_cell w _ s k hlt, List.getD_eq_getElem?_getD, hc, Option.getD_some]
      by_cases hlo : c.toNat < 48
      · have hlo' : (c.toNat : Int) < 48 := by omega
        clear hc hpre hlt'
        go_wp2
        go_ret2
        exact ⟨rfl, below_bytesWorld w _ s⟩
      · obtain ⟨d, hd⟩ : ∃ d : Int, (c.toNat : Int) = d + 48 := ⟨(c.toNat : Int) - 48, by omega⟩
        have hd0 : 0 ≤ d := by omega
        have hd1 : d < 208 := by have := c.toNat_lt; omega
        rw [hd] at hcell
        by_cases hhi : d < 8
        · have hcd : Pl.isDig 8 c = true := decide_eq_true (by omega)
          have hnext : Hid (∀ c ∈ s.data.toList.take (k + 1), Pl.isDig 8 c = true) := Lib.hid (by
            rw [List.take_add_one, hc]
            intro x hx
            rcases List.mem_append.1 hx with h | h
            · exact hpre.out x h
            · simp at h; rw [h]; exact hcd)
          clear hc hpre hlt' hd hcd hlo
          go_wp2
          go_round
          case rel => exact ⟨k + 1, by omega, hnext, by go_num⟩
          case measure => simp [intOf]; omega
        · have hhi' : 8 ≤ d := by omega
          clear hc hpre hlt' hd hlo hhi
          go_wp2
          go_ret2
          exact ⟨rfl, below_bytesWorld w _ s⟩
    · exfalso
      have h1 := hB.out
      have h2 : s.data.toList.take k = s.data.toList := List.take_of_length_le (by simp; omega)
      have h3 := hpre.out
      rw [h2] at h3
      have h4 : Pl.allDig 8 s.data.toList = true := List.all_eq_true.2 h3
      rw [h4] at h1
      cases h1

set_option maxRecDepth 100000 in
set_option maxHeartbeats 2000000 in
theorem based8_all (s : ByteArray) (most : Int) (w : World) (hs : s.size ≤ 140737488351232) (hmm : most ≤ 9223372036854775807) (hall : Pl.allDig 8 s.data.toList = true) (ht : Tabs w) :
    Calls Tryd.prog 23 #[.string s, .int .i64 most, .int .i64 8] w fun e w' => e = .returned (numRes 8 most s.data.toList) ∧ Below w.heap.size w w' := by
  have hconv := fun W => Lib.run_convert_string_bytes (P := Tryd.prog) W 9 25 5 s Tryd.underlying9 Tryd.underlying25 Tryd.underlying5
  have hdig : ∀ c ∈ s.data.toList, Pl.isDig 8 c = true := List.all_eq_true.1 hall
  have hD := Lib.hid hdig
  have hA := Lib.hid hall
  have hT := Lib.hid (ht.below (below_bytesWorld w 5 s))
  have hbw := below_bytesWorld w 5 s
  have hsz := hbw.size
  clear hdig hall ht
  obtain ⟨R, hR'⟩ : ∃ R, numRes 8 most s.data.toList = R := ⟨_, rfl⟩
  rw [hR']
  have hR := Lib.hid hR'
  clear hR'
  go_enter Tryd.func23, Tryd.ntmps23
  go_wp2
  clear hconv
  go_loop [9, 15] (fun _ i => ∃ k : Nat, k ≤ s.size ∧ i = .int .i64 k) (fun _ i => s.size - (intOf i).toNat)
  case atStart => exact ⟨0, by omega, rfl⟩
  case round =>
    obtain ⟨k, hk, rfl⟩ := hrel
    by_cases hlt : k < s.size
    · have hlt' : k < s.data.toList.length := by simpa using hlt
      obtain ⟨c, hc⟩ : ∃ c, s.data.toList[k]? = some c := ⟨_, List.getElem?_eq_getElem hlt'⟩
      have hcd : Pl.isDig 8 c = true := hD.out c (List.mem_of_getElem? hc)
      have hcr := of_decide_eq_true hcd
      obtain ⟨d, hd⟩ : ∃ d : Int, (c.toNat : Int) = d + 48 := ⟨(c.toNat : Int) - 48, by omega⟩
      have hd0 : 0 ≤ d := by omega
      have hdb : d < 8 := by omega
      have hcell : (Lib.bytesWorld w 5 s).cell? ⟨w.heap.size, k, none⟩ = some (.int .u8 (d + 48)) := by
        rw [Lib.bytesWorld_cell w _ s k hlt, List.getD_eq_getElem?_getD, hc, Option.getD_some, hd]
      clear hc hlt' hd hcd hcr
      go_wp2
      go_round
      case rel => exact ⟨k + 1, by omega, by go_num⟩
      case measure => simp [intOf]; omega
    · clear hk
      by_cases h0 : s.size = 0
      · have hs0 : s = ⟨#[]⟩ := by cases s with | mk d => congr 1; exact Array.eq_empty_of_size_eq_zero h0
        have HR : Hid (R = .tuple #[.int .i64 0, .bool false]) := Lib.hid (by rw [← hR.out]; exact numRes_no (.inl (by rw [hs0])))
        subst hs0
        have hcall := pub8_empty _ hT.out
        clear h0 hR
        go_wp2_with (go_at_call 31; refine hcall.mono ?_; rintro e w2 ⟨N, rfl, hb⟩)
        go_ret2
        exact ⟨congrArg Ending.returned HR.out.symm, hbw.trans (hb.mono hsz)⟩
      · have hpos : 0 < s.size := by omega
        have hne : s.data.toList ≠ [] := fun e => by
          have : s.data.toList.length = s.size := Array.length_toList
          rw [e, List.length_nil] at this
          omega
        by_cases hv : Pl.val 8 s.data.toList ≤ 9223372036854775807
        · have hcall := pub8_ok s (Lib.bytesWorld w 5 s) hs hpos hD.out hv
          obtain ⟨V, hV⟩ : ∃ V : Int, (Pl.val 8 s.data.toList : Nat) = V := ⟨_, rfl⟩
          rw [hV] at hcall
          have hV0 : 0 ≤ V := by omega
          have hV1 : V ≤ 9223372036854775807 := by omega
          by_cases hm : V ≤ most
          · have HR : Hid (R = .tuple #[.int .i64 V, .bool true]) := Lib.hid (by rw [← hR.out, numRes_yes hne hA.out (by omega), hV])
            clear hR hV hv h0 hne
            go_wp2_with (go_at_call 31; refine hcall.mono ?_; rintro e w2 ⟨rfl, hb⟩)
            go_ret2
            exact ⟨congrArg Ending.returned HR.out.symm, hbw.trans (hb.mono hsz)⟩
          · have HR : Hid (R = .tuple #[.int .i64 0, .bool false]) := Lib.hid (by rw [← hR.out]; exact numRes_no (.inr (.inr (by omega))))
            have hm' : most < V := by omega
            clear hR hV hv h0 hne hm
            go_wp2_with (go_at_call 31; refine hcall.mono ?_; rintro e w2 ⟨rfl, hb⟩)
            go_ret2
            exact ⟨congrArg Ending.returned HR.out.symm, hbw.trans (hb.mono hsz)⟩
        · have hcall := pub8_over s (Lib.bytesWorld w 5 s) hs hpos hD.out (by omega) hT.out
          have HR : Hid (R = .tuple #[.int .i64 0, .bool false]) := Lib.hid (by rw [← hR.out]; exact numRes_no (.inr (.inr (by omega))))
          clear hR hv h0 hne
          go_wp2_with (go_at_call 31; refine hcall.mono ?_; rintro e w2 ⟨N, rfl, hb⟩)
          go_ret2
          exact ⟨congrArg Ending.returned HR.out.symm, hbw.trans (hb.mono hsz)⟩

theorem based8_any (s : ByteArray) (most : Int) (w : World) (hs : s.size ≤ 140737488351232) (hmm : most ≤ 9223372036854775807) (ht : Tabs w) :
    Calls Tryd.prog 23 #[.string s, .int .i64 most, .int .i64 8] w fun e w' => e = .returned (numRes 8 most s.data.toList) ∧ Below w.heap.size w w' := by
  cases hall : Pl.allDig 8 s.data.toList with
  | true => exact based8_all s most w hs hmm hall ht
  | false => rw [numRes_no (.inr (.inl hall))]; exact based8_bad s most w hs hall

theorem text8_any (s : ByteArray) (most : Int) (w : World) (hs : s.size ≤ 140737488351232) (hmm : most ≤ 9223372036854775807) (ht : Tabs w) :
    Calls Tryd.prog 14 #[.string s, .int .i64 most] w fun e w' => e = .returned (numRes 8 most s.data.toList) ∧ Below w.heap.size w w' := by
  have hcall := based8_any s most w hs hmm ht
  clear ht
  unfold numRes at hcall ⊢
  split at hcall
  · rename_i h
    rw [if_pos h]
    clear h
    go_enter Tryd.func14, Tryd.ntmps14
    go_wp2_with (go_at_call 23; refine hcall.mono ?_; rintro e w2 ⟨rfl, hb⟩)
    go_ret2
    exact ⟨rfl, hb⟩
  · rename_i h
    rw [if_neg h]
    clear h
    go_enter Tryd.func14, Tryd.ntmps14
    go_wp2_with (go_at_call 23; refine hcall.mono ?_; rintro e w2 ⟨rfl, hb⟩)
    go_ret2
    exact ⟨rfl, hb⟩

set_option maxRecDepth 100000 in
set_option maxHeartbeats 2000000 in
theorem based10_bad (s : ByteArray) (most : Int) (w : World) (hs : s.size ≤ 140737488351232) (hbad : Pl.allDig 10 s.data.toList = false) :
    Calls Tryd.prog 23 #[.string s, .int .i64 most, .int .i64 10] w fun e w' => e = .returned (.tuple #[.int .i64 0, .bool false]) ∧ Below w.heap.size w w' := by
  have hconv := fun W => Lib.run_convert_string_bytes (P := Tryd.prog) W 9 25 5 s Tryd.underlying9 Tryd.underlying25 Tryd.underlying5
  have hB := Lib.hid hbad
  clear hbad
  go_enter Tryd.func23, Tryd.ntmps23
  go_wp2
  clear hconv
  go_loop [9, 15] (fun _ i => ∃ k : Nat, k ≤ s.size ∧ Hid (∀ c ∈ s.data.toList.take k, Pl.isDig 10 c = true) ∧ i = .int .i64 k) (fun _ i => s.size - (intOf i).toNat)
  case atStart => exact ⟨0, by omega, Lib.hid (by simp), rfl⟩
  case round =>
    obtain ⟨k, hk, hpre, rfl⟩ := hrel
    by_cases hlt : k < s.size
    · have hlt' : k < s.data.toList.length := by simpa using hlt
      obtain ⟨c, hc⟩ : ∃ c, s.data.toList[k]? = some c := ⟨_, List.getElem?_eq_getElem hlt'⟩
      have hcell : (Lib.bytesWorld w 5 s).cell? ⟨w.heap.size, k, none⟩ = some (.int .u8 c.toNat) := by
        rw [Lib.bytesWorld_cell w _ s k hlt, List.getD_eq_getElem?_getD, hc, Option.getD_some]
      by_cases hlo : c.toNat < 48
      · have hlo' : (c.toNat : Int) < 48 := by omega
        clear hc hpre hlt'
        go_wp2
        go_ret2
        exact ⟨rfl, below_bytesWorld w _ s⟩
      · obtain ⟨d, hd⟩ : ∃ d : Int, (c.toNat : Int) = d + 48 := ⟨(c.toNat : Int) - 48, by omega⟩
        have hd0 : 0 ≤ d := by omega
        have hd1 : d < 208 := by have := c.toNat_lt; omega
        rw [hd] at hcell
        by_cases hhi : d < 10
        · have hcd : Pl.isDig 10 c = true := decide_eq_true (by omega)
          have hnext : Hid (∀ c ∈ s.data.toList.take (k + 1), Pl.isDig 10 c = true) := Lib.hid (by
            rw [List.take_add_one, hc]
            intro x hx
            rcases List.mem_append.1 hx with h | h
            · exact hpre.out x h
            · simp at h; rw [h]; exact hcd)
          clear hc hpre hlt' hd hcd hlo
          go_wp2
          go_round
          case rel => exact ⟨k + 1, by omega, hnext, by go_num⟩
          case measure => simp [intOf]; omega
        · have hhi' : 10 ≤ d := by omega
          clear hc hpre hlt' hd hlo hhi
          go_wp2
          go_ret2
          exact ⟨rfl, below_bytesWorld w _ s⟩
    · exfalso
      have h1 := hB.out
      have h2 : s.data.toList.take k = s.data.toList := List.take_of_length_le (by simp; omega)
      have h3 := hpre.out
      rw [h2] at h3
      have h4 : Pl.allDig 10 s.data.toList = true := List.all_eq_true.2 h3
      rw [h4] at h1
      cases h1

set_option maxRecDepth 100000 in
set_option maxHeartbeats 2000000 in
theorem based10_all (s : ByteArray) (most : Int) (w : World) (hs : s.size ≤ 140737488351232) (hmm : most ≤ 9223372036854775807) (hall : Pl.allDig 10 s.data.toList = true) (ht : Tabs w) :
    Calls Tryd.prog 23 #[.string s, .int .i64 most, .int .i64 10] w fun e w' => e = .returned (numRes 10 most s.data.toList) ∧ Below w.heap.size w w' := by
  have hconv := fun W => Lib.run_convert_string_bytes (P := Tryd.prog) W 9 25 5 s Tryd.underlying9 Tryd.underlying25 Tryd.underlying5
  have hdig : ∀ c ∈ s.data.toList, Pl.isDig 10 c = true := List.all_eq_true.1 hall
  have hD := Lib.hid hdig
  have hA := Lib.hid hall
  have hT := Lib.hid (ht.below (below_bytesWorld w 5 s))
  have hbw := below_bytesWorld w 5 s
  have hsz := hbw.size
  clear hdig hall ht
  obtain ⟨R, hR'⟩ : ∃ R, numRes 10 most s.data.toList = R := ⟨_, rfl⟩
  rw [hR']
  have hR := Lib.hid hR'
  clear hR'
  go_enter Tryd.func23, Tryd.ntmps23
  go_wp2
  clear hconv
  go_loop [9, 15] (fun _ i => ∃ k : Nat, k ≤ s.size ∧ i = .int .i64 k) (fun _ i => s.size - (intOf i).toNat)
  case atStart => exact ⟨0, by omega, rfl⟩
  case round =>
    obtain ⟨k, hk, rfl⟩ := hrel
    by_cases hlt : k < s.size
    · have hlt' : k < s.data.toList.length := by simpa using hlt
      obtain ⟨c, hc⟩ : ∃ c, s.data.toList[k]? = some c := ⟨_, List.getElem?_eq_getElem hlt'⟩
      have hcd : Pl.isDig 10 c = true := hD.out c (List.mem_of_getElem? hc)
      have hcr := of_decide_eq_true hcd
      obtain ⟨d, hd⟩ : ∃ d : Int, (c.toNat : Int) = d + 48 := ⟨(c.toNat : Int) - 48, by omega⟩
      have hd0 : 0 ≤ d := by omega
      have hdb : d < 10 := by omega
      have hcell : (Lib.bytesWorld w 5 s).cell? ⟨w.heap.size, k, none⟩ = some (.int .u8 (d + 48)) := by
        rw [Lib.bytesWorld_cell w _ s k hlt, List.getD_eq_getElem?_getD, hc, Option.getD_some, hd]
      clear hc hlt' hd hcd hcr
      go_wp2
      go_round
      case rel => exact ⟨k + 1, by omega, by go_num⟩
      case measure => simp [intOf]; omega
    · clear hk
      by_cases h0 : s.size = 0
      · have hs0 : s = ⟨#[]⟩ := by cases s with | mk d => congr 1; exact Array.eq_empty_of_size_eq_zero h0
        have HR : Hid (R = .tuple #[.int .i64 0, .bool false]) := Lib.hid (by rw [← hR.out]; exact numRes_no (.inl (by rw [hs0])))
        subst hs0
        have hcall := pub10_empty _ hT.out
        clear h0 hR
        go_wp2_with (go_at_call 31; refine hcall.mono ?_; rintro e w2 ⟨N, rfl, hb⟩)
        go_ret2
        exact ⟨congrArg Ending.returned HR.out.symm, hbw.trans (hb.mono hsz)⟩
      · have hpos : 0 < s.size := by omega
        have hne : s.data.toList ≠ [] := fun e => by
          have : s.data.toList.length = s.size := Array.length_toList
          rw [e, List.length_nil] at this
          omega
        by_cases hv : Pl.val 10 s.data.toList ≤ 9223372036854775807
        · have hcall := pub10_ok s (Lib.bytesWorld w 5 s) hs hpos hD.out hv
          obtain ⟨V, hV⟩ : ∃ V : Int, (Pl.val 10 s.data.toList : Nat) = V := ⟨_, rfl⟩
          rw [hV] at hcall
          have hV0 : 0 ≤ V := by omega
          have hV1 : V ≤ 9223372036854775807 := by omega
          by_cases hm : V ≤ most
          · have HR : Hid (R = .tuple #[.int .i64 V, .bool true]) := Lib.hid (by rw [← hR.out, numRes_yes hne hA.out (by omega), hV])
            clear hR hV hv h0 hne
            go_wp2_with (go_at_call 31; refine hcall.mono ?_; rintro e w2 ⟨rfl, hb⟩)
            go_ret2
            exact ⟨congrArg Ending.returned HR.out.symm, hbw.trans (hb.mono hsz)⟩
          · have HR : Hid (R = .tuple #[.int .i64 0, .bool false]) := Lib.hid (by rw [← hR.out]; exact numRes_no (.inr (.inr (by omega))))
            have hm' : most < V := by omega
            clear hR hV hv h0 hne hm
            go_wp2_with (go_at_call 31; refine hcall.mono ?_; rintro e w2 ⟨rfl, hb⟩)
            go_ret2
            exact ⟨congrArg Ending.returned HR.out.symm, hbw.trans (hb.mono hsz)⟩
        · have hcall := pub10_over s (Lib.bytesWorld w 5 s) hs hpos hD.out (by omega) hT.out
          have HR : Hid (R = .tuple #[.int .i64 0, .bool false]) := Lib.hid (by rw [← hR.out]; exact numRes_no (.inr (.inr (by omega))))
          clear hR hv h0 hne
          go_wp2_with (go_at_call 31; refine hcall.mono ?_; rintro e w2 ⟨N, rfl, hb⟩)
          go_ret2
          exact ⟨congrArg Ending.returned HR.out.symm, hbw.trans (hb.mono hsz)⟩

theorem based10_any (s : ByteArray) (most : Int) (w : World) (hs : s.size ≤ 140737488351232) (hmm : most ≤ 9223372036854775807) (ht : Tabs w) :
    Calls Tryd.prog 23 #[.string s, .int .i64 most, .int .i64 10] w fun e w' => e = .returned (numRes 10 most s.data.toList) ∧ Below w.heap.size w w' := by
  cases hall : Pl.allDig 10 s.data.toList with
  | true => exact based10_all s most w hs hmm hall ht
  | false => rw [numRes_no (.inr (.inl hall))]; exact based10_bad s most w hs hall

theorem text10_any (s : ByteArray) (most : Int) (w : World) (hs : s.size ≤ 140737488351232) (hmm : most ≤ 9223372036854775807) (ht : Tabs w) :
    Calls Tryd.prog 12 #[.string s, .int .i64 most] w fun e w' => e = .returned (numRes 10 most s.data.toList) ∧ Below w.heap.size w w' := by
  have hcall := based10_any s most w hs hmm ht
  clear ht
  unfold numRes at hcall ⊢
  split at hcall
  · rename_i h
    rw [if_pos h]
    clear h
    go_enter Tryd.func12, Tryd.ntmps12
    go_wp2_with (go_at_call 23; refine hcall.mono ?_; rintro e w2 ⟨rfl, hb⟩)
    go_ret2
    exact ⟨rfl, hb⟩
  · rename_i h
    rw [if_neg h]
    clear h
    go_enter Tryd.func12, Tryd.ntmps12
    go_wp2_with (go_at_call 23; refine hcall.mono ?_; rintro e w2 ⟨rfl, hb⟩)
    go_ret2
    exact ⟨rfl, hb⟩

end Go.Proofs.YtnagiphjlfiifaaDoor
