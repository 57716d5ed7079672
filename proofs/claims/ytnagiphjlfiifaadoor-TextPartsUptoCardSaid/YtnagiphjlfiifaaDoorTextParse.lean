/-
  Walks over strconv.ParseInt at the bases eight and ten, where every byte is a digit of the base.
-/
import Derived.Test.YtnagiphjlfiifaaDoorTextFormat
import Derived.Lib.IfaceNeq
namespace Go.Proofs.YtnagiphjlfiifaaDoor
open Go.RowKit

namespace Pl
/-- what digits say to a base -/
def val (b : Nat) (l : List UInt8) : Nat := l.foldl (fun n c => n * b + (c.toNat - 48)) 0
def isDig (b : Nat) (c : UInt8) : Bool := decide (48 ≤ c.toNat ∧ c.toNat < 48 + b)
theorem val_snoc (b : Nat) (l : List UInt8) (c : UInt8) : val b (l ++ [c]) = val b l * b + (c.toNat - 48) := by simp [val]
theorem val_take {b : Nat} {l : List UInt8} {k : Nat} {c : UInt8} (h : l[k]? = some c) : val b (l.take (k + 1)) = val b (l.take k) * b + (c.toNat - 48) := by
  rw [List.take_add_one, h, Option.toList_some, val_snoc]
theorem foldl_le (b : Nat) (hb : 1 ≤ b) : ∀ (l : List UInt8) (n : Nat), n ≤ l.foldl (fun n c => n * b + (c.toNat - 48)) n
  | [], n => Nat.le_refl n
  | c :: l, n => by
    rw [List.foldl_cons]
    refine Nat.le_trans ?_ (foldl_le b hb l _)
    have := Nat.mul_le_mul_left n hb
    omega
theorem val_mono (b : Nat) (hb : 1 ≤ b) (l : List UInt8) (k : Nat) : val b (l.take k) ≤ val b l := by
  have h : val b l = (l.drop k).foldl (fun n c => n * b + (c.toNat - 48)) (val b (l.take k)) := by
    unfold val
    rw [← List.foldl_append, List.take_append_drop]
  rw [h]
  exact foldl_le b hb _ _
end Pl

/-- what ParseUint answers: a value, or the greatest one and an error -/
def uintRes (v : Nat) : Value := if v < 18446744073709551616 then .tuple #[.int .u64 v, .nilIface] else .tuple #[.int .u64 18446744073709551615, .iface 60 (.int .i64 1)]
/-- what ParseInt answers -/
def intRes (v : Nat) : Value := if v ≤ 9223372036854775807 then .tuple #[.int .i64 v, .nilIface] else .tuple #[.int .i64 9223372036854775807, .iface 60 (.int .i64 1)]
theorem intRes_of {v : Nat} (h : v ≤ 9223372036854775807) : intRes v = .tuple #[.int .i64 v, .nilIface] := if_pos h
theorem intRes_over {v : Nat} (h : 9223372036854775808 ≤ v) : intRes v = .tuple #[.int .i64 9223372036854775807, .iface 60 (.int .i64 1)] := if_neg (by omega)
theorem Tryd.compErr : (Tryd.prog.info? 60).map (·.comparable) = some true := by kernel_rfl
theorem uintRes_of {v : Nat} (h : v < 18446744073709551616) : uintRes v = .tuple #[.int .u64 v, .nilIface] := if_pos h
theorem uintRes_over {v : Nat} (h : 18446744073709551616 ≤ v) : uintRes v = .tuple #[.int .u64 18446744073709551615, .iface 60 (.int .i64 1)] := if_neg (by omega)

set_option maxRecDepth 100000 in
set_option maxHeartbeats 2000000 in
theorem puint8 (s : ByteArray) (w : World) (hs : s.size ≤ 140737488351232) (hpos : 0 < s.size) (hdig : ∀ c ∈ s.data.toList, Pl.isDig 8 c = true) :
    Calls Tryd.prog 43 #[.string s, .int .i64 8, .int .i64 64] w fun e w' => e = .returned (uintRes (Pl.val 8 s.data.toList)) ∧ Below w.heap.size w w' := by
  have hconv := fun W => Lib.run_convert_string_bytes (P := Tryd.prog) W 9 25 5 s Tryd.underlying9 Tryd.underlying25 Tryd.underlying5
  have hne : s.toList.isEmpty = false := by
    rw [ByteArray.toList_eq, List.isEmpty_eq_false_iff]
    intro e
    have : s.data.toList.length = s.size := Array.length_toList
    rw [e, List.length_nil] at this
    omega
  have hD := Lib.hid hdig
  clear hdig
  obtain ⟨R, hR'⟩ : ∃ R, uintRes (Pl.val 8 s.data.toList) = R := ⟨_, rfl⟩
  rw [hR']
  have hR := Lib.hid hR'
  clear hR'
  have hw1 : IntKind.u64.wrap 18446744073709551616 = 0 := by decide
  have hw2 : IntKind.u64.wrap (-1) = 18446744073709551615 := by decide
  go_enter Tryd.func43, Tryd.ntmps43
  go_wp2
  clear hconv hne hw1 hw2
  go_loop [12, 13, 101] (fun us n i => ∃ (k : Nat) (v : Int), k ≤ s.size ∧ 0 ≤ v ∧ v ≤ 18446744073709551615 ∧ Hid (v = (Pl.val 8 (s.data.toList.take k) : Nat)) ∧ us = .bool false ∧ n = .int .u64 v ∧ i = .int .i64 k) (fun _ _ i => s.size - (intOf i).toNat)
  case atStart => exact ⟨0, 0, by omega, by omega, by omega, Lib.hid (by simp [Pl.val]), rfl, rfl, rfl⟩
  case round =>
    obtain ⟨k, v, hk, hv0, hv, hval, rfl, rfl, rfl⟩ := hrel
    by_cases hlt : k < s.size
    · have hlt' : k < s.data.toList.length := by simpa using hlt
      obtain ⟨c, hc⟩ : ∃ c, s.data.toList[k]? = some c := ⟨_, List.getElem?_eq_getElem hlt'⟩
      have hdc : Pl.isDig 8 c = true := hD.out c (List.mem_of_getElem? hc)
      have hcr := of_decide_eq_true hdc
      obtain ⟨d, hd⟩ : ∃ d : Int, (c.toNat : Int) = d + 48 := ⟨(c.toNat : Int) - 48, by omega⟩
      have hd0 : 0 ≤ d := by omega
      have hdb : d < 8 := by omega
      have hcell : (Lib.bytesWorld w 5 s).cell? ⟨w.heap.size, k, none⟩ = some (.int .u8 (d + 48)) := by
        rw [Lib.bytesWorld_cell w _ s k hlt, List.getD_eq_getElem?_getD, hc, Option.getD_some, hd]
      have hstep : v * 8 + d = (Pl.val 8 (s.data.toList.take (k + 1)) : Nat) := by
        rw [Pl.val_take hc, Int.natCast_add, Int.natCast_mul, ← hval.out]
        omega
      have hmono := Pl.val_mono 8 (by omega) s.data.toList (k + 1)
      have hu : (d + 48 == 95) = false := by rw [beq_eq_false_iff_ne]; omega
      have HS := Lib.hid hstep
      clear hc hdc hcr hd hlt'
      by_cases hcut : 2305843009213693952 ≤ v
      · have HR : Hid (R = .tuple #[.int .u64 18446744073709551615, .iface 60 (.int .i64 1)]) := Lib.hid (by rw [← hR.out, uintRes_over (by omega)])
        clear hmono hR hstep
        go_wp2
        go_ret2
        exact ⟨congrArg Ending.returned HR.out.symm, below_bytesWorld w _ s⟩
      · have hcut' : v < 2305843009213693952 := by omega
        clear hcut
        by_cases hov : v * 8 + d ≤ 18446744073709551615
        · clear hmono hv hstep
          go_wp2
          go_round
          case rel => exact ⟨k + 1, v * 8 + d, by omega, by omega, by omega, HS, rfl, rfl, by go_num⟩
          case measure => simp [intOf]; omega
        · have HR : Hid (R = .tuple #[.int .u64 18446744073709551615, .iface 60 (.int .i64 1)]) := Lib.hid (by rw [← hR.out, uintRes_over (by omega)])
          obtain ⟨x, hx⟩ : ∃ x : Int, v * 8 + d = x + 18446744073709551616 := ⟨v * 8 + d - 18446744073709551616, by omega⟩
          have hwr : IntKind.u64.wrap (v * 8 + d) = x := by
            have h1 : IntKind.u64.wrap (v * 8 + d) = (v * 8 + d) % 18446744073709551616 := rfl
            omega
          have hxv : x < v * 8 := by omega
          clear hmono hR hx hov hv hstep
          go_wp2
          go_ret2
          exact ⟨congrArg Ending.returned HR.out.symm, below_bytesWorld w _ s⟩
    · have hk' : k = s.size := by omega
      have hval2 : v = (Pl.val 8 s.data.toList : Nat) := by
        have h2 : s.data.toList.take k = s.data.toList := List.take_of_length_le (by simp; omega)
        rw [hval.out, h2]
      have HR : Hid (R = .tuple #[.int .u64 v, .nilIface]) := Lib.hid (by
        rw [← hR.out, uintRes_of (by omega), hval2])
      clear hk' hR hval2
      go_wp2
      go_ret2
      exact ⟨congrArg Ending.returned HR.out.symm, below_bytesWorld w _ s⟩

set_option maxRecDepth 100000 in
set_option maxHeartbeats 2000000 in
theorem pint8 (s : ByteArray) (w : World) (hs : s.size ≤ 140737488351232) (hpos : 0 < s.size) (hdig : ∀ c ∈ s.data.toList, Pl.isDig 8 c = true) :
    Calls Tryd.prog 36 #[.string s, .int .i64 8, .int .i64 64] w fun e w' => e = .returned (intRes (Pl.val 8 s.data.toList)) ∧ Below w.heap.size w w' := by
  have hne : s.toList.isEmpty = false := by
    rw [ByteArray.toList_eq, List.isEmpty_eq_false_iff]
    intro e
    have : s.data.toList.length = s.size := Array.length_toList
    rw [e, List.length_nil] at this
    omega
  have hq1 : ∀ W, (binOp .neq 46 (.iface 60 (.int .i64 1)) (.iface 60 (.int .i64 1))).run Tryd.prog W = .ok (.bool false) W := fun W => Lib.run_neq_iface_int W 1 1 Tryd.underlying46 Tryd.compErr Tryd.underlying60
  obtain ⟨c, hc⟩ : ∃ c, c = s[0]'hpos := ⟨_, rfl⟩
  have hcd : Pl.isDig 8 c = true := hdig c (by rw [hc]; exact Array.getElem_mem_toList hpos)
  have hcr := of_decide_eq_true hcd
  have h43 : ((c.toNat : Int) == 43) = false := by rw [beq_eq_false_iff_ne]; omega
  have h45 : ((c.toNat : Int) == 45) = false := by rw [beq_eq_false_iff_ne]; omega
  have hcall := puint8 s w hs hpos hdig
  obtain ⟨V, hV⟩ : ∃ V : Int, V = (Pl.val 8 s.data.toList : Nat) := ⟨_, rfl⟩
  obtain ⟨R, hR'⟩ : ∃ R, intRes (Pl.val 8 s.data.toList) = R := ⟨_, rfl⟩
  rw [hR']
  have hV0 : 0 ≤ V := by omega
  rw [hc] at h43 h45
  clear hdig hcd hcr hc
  by_cases h1 : V ≤ 9223372036854775807
  · have hu : uintRes (Pl.val 8 s.data.toList) = .tuple #[.int .u64 V, .nilIface] := by rw [uintRes_of (by omega), hV]
    have HR : Hid (R = .tuple #[.int .i64 V, .nilIface]) := Lib.hid (by rw [← hR', intRes_of (by omega), hV])
    rw [hu] at hcall
    clear hu hR' hV
    go_enter Tryd.func36, Tryd.ntmps36
    go_wp2_with (go_at_call 43; refine hcall.mono ?_; rintro e w' ⟨rfl, hb⟩)
    go_ret2
    exact ⟨congrArg Ending.returned HR.out.symm, hb⟩
  · have HR : Hid (R = .tuple #[.int .i64 9223372036854775807, .iface 60 (.int .i64 1)]) := Lib.hid (by rw [← hR', intRes_over (by omega)])
    by_cases h2 : V < 18446744073709551616
    · have hu : uintRes (Pl.val 8 s.data.toList) = .tuple #[.int .u64 V, .nilIface] := by rw [uintRes_of (by omega), hV]
      have h3 : 9223372036854775808 ≤ V := by omega
      rw [hu] at hcall
      clear hu hR' hV h1
      go_enter Tryd.func36, Tryd.ntmps36
      go_wp2_with (go_at_call 43; refine hcall.mono ?_; rintro e w' ⟨rfl, hb⟩)
      go_ret2
      exact ⟨congrArg Ending.returned HR.out.symm, hb⟩
    · have hu : uintRes (Pl.val 8 s.data.toList) = .tuple #[.int .u64 18446744073709551615, .iface 60 (.int .i64 1)] := uintRes_over (by omega)
      rw [hu] at hcall
      clear hu hR' hV h1 h2
      go_enter Tryd.func36, Tryd.ntmps36
      go_wp2_with (go_at_call 43; refine hcall.mono ?_; rintro e w' ⟨rfl, hb⟩)
      go_ret2
      exact ⟨congrArg Ending.returned HR.out.symm, hb⟩

theorem pub8_ok (s : ByteArray) (w : World) (hs : s.size ≤ 140737488351232) (hpos : 0 < s.size) (hdig : ∀ c ∈ s.data.toList, Pl.isDig 8 c = true) (hv : Pl.val 8 s.data.toList ≤ 9223372036854775807) :
    Calls Tryd.prog 31 #[.string s, .int .i64 8, .int .i64 64] w fun e w' => e = .returned (.tuple #[.int .i64 (Pl.val 8 s.data.toList : Nat), .nilIface]) ∧ Below w.heap.size w w' := by
  have hcall := pint8 s w hs hpos hdig
  rw [intRes_of hv] at hcall
  obtain ⟨V, hV⟩ : ∃ V : Int, (Pl.val 8 s.data.toList : Nat) = V := ⟨_, rfl⟩
  rw [hV] at hcall ⊢
  clear hv hdig hV
  go_enter Tryd.func31, Tryd.ntmps31
  go_wp2_with (go_at_call 36; refine hcall.mono ?_; rintro e w' ⟨rfl, hb⟩)
  go_ret2
  exact ⟨rfl, hb⟩

set_option maxHeartbeats 1000000 in
theorem pub8_over (s : ByteArray) (w : World) (hs : s.size ≤ 140737488351232) (hpos : 0 < s.size) (hdig : ∀ c ∈ s.data.toList, Pl.isDig 8 c = true) (hv : 9223372036854775808 ≤ Pl.val 8 s.data.toList) (ht : Tabs w) :
    Calls Tryd.prog 31 #[.string s, .int .i64 8, .int .i64 64] w fun e w' => ∃ N, e = .returned (.tuple #[.int .i64 9223372036854775807, .iface 64 (.pointer (some ⟨N, 0, none⟩))]) ∧ Below w.heap.size w w' := by
  have hcall := pint8 s w hs hpos hdig
  rw [intRes_over hv] at hcall
  have hT : ∀ w', Below w.heap.size w w' → Calls Tryd.prog 37 #[.string ⟨#[80, 97, 114, 115, 101, 73, 110, 116]⟩, .string s, .int .i64 8, .int .i64 64, .iface 60 (.int .i64 1)] w' fun e w2 => ∃ N, e = .returned (.iface 64 (.pointer (some ⟨N, 0, none⟩))) ∧ Below w'.heap.size w' w2 := fun w' hb => by
    obtain ⟨tp, p, hp⟩ := (ht.below hb).errR
    exact (Tryd.strconv_toError_range ⟨#[80, 97, 114, 115, 101, 73, 110, 116]⟩ s 8 64 _ w' (by omega) hp (.inr ⟨tp, p, rfl⟩)).mono fun e w2 ⟨N, h1, _, _, h4⟩ => ⟨N, h1, h4⟩
  clear hv hdig ht
  go_enter Tryd.func31, Tryd.ntmps31
  go_wp2_with (first | (go_at_call 36; refine hcall.mono ?_; rintro e w' ⟨rfl, hb⟩) | (go_at_call 37; refine (hT _ (by assumption)).mono ?_; rintro e w2 ⟨N, rfl, hb2⟩))
  go_ret2
  exact ⟨N, rfl, hb.trans (hb2.mono hb.size)⟩

theorem pint8_empty (w : World) : Calls Tryd.prog 36 #[.string ⟨#[]⟩, .int .i64 8, .int .i64 64] w fun e w' => e = .returned (.tuple #[.int .i64 0, .iface 60 (.int .i64 2)]) ∧ w' = w := by
  go_enter Tryd.func36, Tryd.ntmps36
  go_wp2
  go_ret2
  exact ⟨rfl, rfl⟩
set_option maxHeartbeats 1000000 in
theorem pub8_empty (w : World) (ht : Tabs w) :
    Calls Tryd.prog 31 #[.string ⟨#[]⟩, .int .i64 8, .int .i64 64] w fun e w' => ∃ N, e = .returned (.tuple #[.int .i64 0, .iface 64 (.pointer (some ⟨N, 0, none⟩))]) ∧ Below w.heap.size w w' := by
  have hT : Calls Tryd.prog 37 #[.string ⟨#[80, 97, 114, 115, 101, 73, 110, 116]⟩, .string ⟨#[]⟩, .int .i64 8, .int .i64 64, .iface 60 (.int .i64 2)] w fun e w2 => ∃ N, e = .returned (.iface 64 (.pointer (some ⟨N, 0, none⟩))) ∧ Below w.heap.size w w2 := by
    obtain ⟨tp, p, hp⟩ := ht.errS
    exact (Tryd.strconv_toError_syntax ⟨#[80, 97, 114, 115, 101, 73, 110, 116]⟩ ⟨#[]⟩ 8 64 _ w (by decide) hp (.inr ⟨tp, p, rfl⟩)).mono fun e w2 ⟨N, h1, _, _, h4⟩ => ⟨N, h1, h4⟩
  clear ht
  go_enter Tryd.func31, Tryd.ntmps31
  go_wp2_with (first | (go_at_call 36; refine (pint8_empty _).mono ?_; rintro e w' ⟨rfl, rfl⟩) | (go_at_call 37; refine hT.mono ?_; rintro e w2 ⟨N, rfl, hb2⟩))
  go_ret2
  exact ⟨N, rfl, hb2⟩

set_option maxRecDepth 100000 in
set_option maxHeartbeats 2000000 in
theorem puint10 (s : ByteArray) (w : World) (hs : s.size ≤ 140737488351232) (hpos : 0 < s.size) (hdig : ∀ c ∈ s.data.toList, Pl.isDig 10 c = true) :
    Calls Tryd.prog 43 #[.string s, .int .i64 10, .int .i64 64] w fun e w' => e = .returned (uintRes (Pl.val 10 s.data.toList)) ∧ Below w.heap.size w w' := by
  have hconv := fun W => Lib.run_convert_string_bytes (P := Tryd.prog) W 9 25 5 s Tryd.underlying9 Tryd.underlying25 Tryd.underlying5
  have hne : s.toList.isEmpty = false := by
    rw [ByteArray.toList_eq, List.isEmpty_eq_false_iff]
    intro e
    have : s.data.toList.length = s.size := Array.length_toList
    rw [e, List.length_nil] at this
    omega
  have hD := Lib.hid hdig
  clear hdig
  obtain ⟨R, hR'⟩ : ∃ R, uintRes (Pl.val 10 s.data.toList) = R := ⟨_, rfl⟩
  rw [hR']
  have hR := Lib.hid hR'
  clear hR'
  have hw1 : IntKind.u64.wrap 18446744073709551616 = 0 := by decide
  have hw2 : IntKind.u64.wrap (-1) = 18446744073709551615 := by decide
  go_enter Tryd.func43, Tryd.ntmps43
  go_wp2
  clear hconv hne hw1 hw2
  go_loop [12, 13, 101] (fun us n i => ∃ (k : Nat) (v : Int), k ≤ s.size ∧ 0 ≤ v ∧ v ≤ 18446744073709551615 ∧ Hid (v = (Pl.val 10 (s.data.toList.take k) : Nat)) ∧ us = .bool false ∧ n = .int .u64 v ∧ i = .int .i64 k) (fun _ _ i => s.size - (intOf i).toNat)
  case atStart => exact ⟨0, 0, by omega, by omega, by omega, Lib.hid (by simp [Pl.val]), rfl, rfl, rfl⟩
  case round =>
    obtain ⟨k, v, hk, hv0, hv, hval, rfl, rfl, rfl⟩ := hrel
    by_cases hlt : k < s.size
    · have hlt' : k < s.data.toList.length := by simpa using hlt
      obtain ⟨c, hc⟩ : ∃ c, s.data.toList[k]? = some c := ⟨_, List.getElem?_eq_getElem hlt'⟩
      have hdc : Pl.isDig 10 c = true := hD.out c (List.mem_of_getElem? hc)
      have hcr := of_decide_eq_true hdc
      obtain ⟨d, hd⟩ : ∃ d : Int, (c.toNat : Int) = d + 48 := ⟨(c.toNat : Int) - 48, by omega⟩
      have hd0 : 0 ≤ d := by omega
      have hdb : d < 10 := by omega
      have hcell : (Lib.bytesWorld w 5 s).cell? ⟨w.heap.size, k, none⟩ = some (.int .u8 (d + 48)) := by
        rw [Lib.bytesWorld_cell w _ s k hlt, List.getD_eq_getElem?_getD, hc, Option.getD_some, hd]
      have hstep : v * 10 + d = (Pl.val 10 (s.data.toList.take (k + 1)) : Nat) := by
        rw [Pl.val_take hc, Int.natCast_add, Int.natCast_mul, ← hval.out]
        omega
      have hmono := Pl.val_mono 10 (by omega) s.data.toList (k + 1)
      have hu : (d + 48 == 95) = false := by rw [beq_eq_false_iff_ne]; omega
      have HS := Lib.hid hstep
      clear hc hdc hcr hd hlt'
      by_cases hcut : 1844674407370955162 ≤ v
      · have HR : Hid (R = .tuple #[.int .u64 18446744073709551615, .iface 60 (.int .i64 1)]) := Lib.hid (by rw [← hR.out, uintRes_over (by omega)])
        clear hmono hR hstep
        go_wp2
        go_ret2
        exact ⟨congrArg Ending.returned HR.out.symm, below_bytesWorld w _ s⟩
      · have hcut' : v < 1844674407370955162 := by omega
        clear hcut
        by_cases hov : v * 10 + d ≤ 18446744073709551615
        · clear hmono hv hstep
          go_wp2
          go_round
          case rel => exact ⟨k + 1, v * 10 + d, by omega, by omega, by omega, HS, rfl, rfl, by go_num⟩
          case measure => simp [intOf]; omega
        · have HR : Hid (R = .tuple #[.int .u64 18446744073709551615, .iface 60 (.int .i64 1)]) := Lib.hid (by rw [← hR.out, uintRes_over (by omega)])
          obtain ⟨x, hx⟩ : ∃ x : Int, v * 10 + d = x + 18446744073709551616 := ⟨v * 10 + d - 18446744073709551616, by omega⟩
          have hwr : IntKind.u64.wrap (v * 10 + d) = x := by
            have h1 : IntKind.u64.wrap (v * 10 + d) = (v * 10 + d) % 18446744073709551616 := rfl
            omega
          have hxv : x < v * 10 := by omega
          clear hmono hR hx hov hv hstep
          go_wp2
          go_ret2
          exact ⟨congrArg Ending.returned HR.out.symm, below_bytesWorld w _ s⟩
    · have hk' : k = s.size := by omega
      have hval2 : v = (Pl.val 10 s.data.toList : Nat) := by
        have h2 : s.data.toList.take k = s.data.toList := List.take_of_length_le (by simp; omega)
        rw [hval.out, h2]
      have HR : Hid (R = .tuple #[.int .u64 v, .nilIface]) := Lib.hid (by
        rw [← hR.out, uintRes_of (by omega), hval2])
      clear hk' hR hval2
      go_wp2
      go_ret2
      exact ⟨congrArg Ending.returned HR.out.symm, below_bytesWorld w _ s⟩

set_option maxRecDepth 100000 in
set_option maxHeartbeats 2000000 in
theorem pint10 (s : ByteArray) (w : World) (hs : s.size ≤ 140737488351232) (hpos : 0 < s.size) (hdig : ∀ c ∈ s.data.toList, Pl.isDig 10 c = true) :
    Calls Tryd.prog 36 #[.string s, .int .i64 10, .int .i64 64] w fun e w' => e = .returned (intRes (Pl.val 10 s.data.toList)) ∧ Below w.heap.size w w' := by
  have hne : s.toList.isEmpty = false := by
    rw [ByteArray.toList_eq, List.isEmpty_eq_false_iff]
    intro e
    have : s.data.toList.length = s.size := Array.length_toList
    rw [e, List.length_nil] at this
    omega
  have hq1 : ∀ W, (binOp .neq 46 (.iface 60 (.int .i64 1)) (.iface 60 (.int .i64 1))).run Tryd.prog W = .ok (.bool false) W := fun W => Lib.run_neq_iface_int W 1 1 Tryd.underlying46 Tryd.compErr Tryd.underlying60
  obtain ⟨c, hc⟩ : ∃ c, c = s[0]'hpos := ⟨_, rfl⟩
  have hcd : Pl.isDig 10 c = true := hdig c (by rw [hc]; exact Array.getElem_mem_toList hpos)
  have hcr := of_decide_eq_true hcd
  have h43 : ((c.toNat : Int) == 43) = false := by rw [beq_eq_false_iff_ne]; omega
  have h45 : ((c.toNat : Int) == 45) = false := by rw [beq_eq_false_iff_ne]; omega
  have hcall := puint10 s w hs hpos hdig
  obtain ⟨V, hV⟩ : ∃ V : Int, V = (Pl.val 10 s.data.toList : Nat) := ⟨_, rfl⟩
  obtain ⟨R, hR'⟩ : ∃ R, intRes (Pl.val 10 s.data.toList) = R := ⟨_, rfl⟩
  rw [hR']
  have hV0 : 0 ≤ V := by omega
  rw [hc] at h43 h45
  clear hdig hcd hcr hc
  by_cases h1 : V ≤ 9223372036854775807
  · have hu : uintRes (Pl.val 10 s.data.toList) = .tuple #[.int .u64 V, .nilIface] := by rw [uintRes_of (by omega), hV]
    have HR : Hid (R = .tuple #[.int .i64 V, .nilIface]) := Lib.hid (by rw [← hR', intRes_of (by omega), hV])
    rw [hu] at hcall
    clear hu hR' hV
    go_enter Tryd.func36, Tryd.ntmps36
    go_wp2_with (go_at_call 43; refine hcall.mono ?_; rintro e w' ⟨rfl, hb⟩)
    go_ret2
    exact ⟨congrArg Ending.returned HR.out.symm, hb⟩
  · have HR : Hid (R = .tuple #[.int .i64 9223372036854775807, .iface 60 (.int .i64 1)]) := Lib.hid (by rw [← hR', intRes_over (by omega)])
    by_cases h2 : V < 18446744073709551616
    · have hu : uintRes (Pl.val 10 s.data.toList) = .tuple #[.int .u64 V, .nilIface] := by rw [uintRes_of (by omega), hV]
      have h3 : 9223372036854775808 ≤ V := by omega
      rw [hu] at hcall
      clear hu hR' hV h1
      go_enter Tryd.func36, Tryd.ntmps36
      go_wp2_with (go_at_call 43; refine hcall.mono ?_; rintro e w' ⟨rfl, hb⟩)
      go_ret2
      exact ⟨congrArg Ending.returned HR.out.symm, hb⟩
    · have hu : uintRes (Pl.val 10 s.data.toList) = .tuple #[.int .u64 18446744073709551615, .iface 60 (.int .i64 1)] := uintRes_over (by omega)
      rw [hu] at hcall
      clear hu hR' hV h1 h2
      go_enter Tryd.func36, Tryd.ntmps36
      go_wp2_with (go_at_call 43; refine hcall.mono ?_; rintro e w' ⟨rfl, hb⟩)
      go_ret2
      exact ⟨congrArg Ending.returned HR.out.symm, hb⟩

theorem pub10_ok (s : ByteArray) (w : World) (hs : s.size ≤ 140737488351232) (hpos : 0 < s.size) (hdig : ∀ c ∈ s.data.toList, Pl.isDig 10 c = true) (hv : Pl.val 10 s.data.toList ≤ 9223372036854775807) :
    Calls Tryd.prog 31 #[.string s, .int .i64 10, .int .i64 64] w fun e w' => e = .returned (.tuple #[.int .i64 (Pl.val 10 s.data.toList : Nat), .nilIface]) ∧ Below w.heap.size w w' := by
  have hcall := pint10 s w hs hpos hdig
  rw [intRes_of hv] at hcall
  obtain ⟨V, hV⟩ : ∃ V : Int, (Pl.val 10 s.data.toList : Nat) = V := ⟨_, rfl⟩
  rw [hV] at hcall ⊢
  clear hv hdig hV
  go_enter Tryd.func31, Tryd.ntmps31
  go_wp2_with (go_at_call 36; refine hcall.mono ?_; rintro e w' ⟨rfl, hb⟩)
  go_ret2
  exact ⟨rfl, hb⟩

set_option maxHeartbeats 1000000 in
theorem pub10_over (s : ByteArray) (w : World) (hs : s.size ≤ 140737488351232) (hpos : 0 < s.size) (hdig : ∀ c ∈ s.data.toList, Pl.isDig 10 c = true) (hv : 9223372036854775808 ≤ Pl.val 10 s.data.toList) (ht : Tabs w) :
    Calls Tryd.prog 31 #[.string s, .int .i64 10, .int .i64 64] w fun e w' => ∃ N, e = .returned (.tuple #[.int .i64 9223372036854775807, .iface 64 (.pointer (some ⟨N, 0, none⟩))]) ∧ Below w.heap.size w w' := by
  have hcall := pint10 s w hs hpos hdig
  rw [intRes_over hv] at hcall
  have hT : ∀ w', Below w.heap.size w w' → Calls Tryd.prog 37 #[.string ⟨#[80, 97, 114, 115, 101, 73, 110, 116]⟩, .string s, .int .i64 10, .int .i64 64, .iface 60 (.int .i64 1)] w' fun e w2 => ∃ N, e = .returned (.iface 64 (.pointer (some ⟨N, 0, none⟩))) ∧ Below w'.heap.size w' w2 := fun w' hb => by
    obtain ⟨tp, p, hp⟩ := (ht.below hb).errR
    exact (Tryd.strconv_toError_range ⟨#[80, 97, 114, 115, 101, 73, 110, 116]⟩ s 10 64 _ w' (by omega) hp (.inr ⟨tp, p, rfl⟩)).mono fun e w2 ⟨N, h1, _, _, h4⟩ => ⟨N, h1, h4⟩
  clear hv hdig ht
  go_enter Tryd.func31, Tryd.ntmps31
  go_wp2_with (first | (go_at_call 36; refine hcall.mono ?_; rintro e w' ⟨rfl, hb⟩) | (go_at_call 37; refine (hT _ (by assumption)).mono ?_; rintro e w2 ⟨N, rfl, hb2⟩))
  go_ret2
  exact ⟨N, rfl, hb.trans (hb2.mono hb.size)⟩

theorem pint10_empty (w : World) : Calls Tryd.prog 36 #[.string ⟨#[]⟩, .int .i64 10, .int .i64 64] w fun e w' => e = .returned (.tuple #[.int .i64 0, .iface 60 (.int .i64 2)]) ∧ w' = w := by
  go_enter Tryd.func36, Tryd.ntmps36
  go_wp2
  go_ret2
  exact ⟨rfl, rfl⟩
set_option maxHeartbeats 1000000 in
theorem pub10_empty (w : World) (ht : Tabs w) :
    Calls Tryd.prog 31 #[.string ⟨#[]⟩, .int .i64 10, .int .i64 64] w fun e w' => ∃ N, e = .returned (.tuple #[.int .i64 0, .iface 64 (.pointer (some ⟨N, 0, none⟩))]) ∧ Below w.heap.size w w' := by
  have hT : Calls Tryd.prog 37 #[.string ⟨#[80, 97, 114, 115, 101, 73, 110, 116]⟩, .string ⟨#[]⟩, .int .i64 10, .int .i64 64, .iface 60 (.int .i64 2)] w fun e w2 => ∃ N, e = .returned (.iface 64 (.pointer (some ⟨N, 0, none⟩))) ∧ Below w.heap.size w w2 := by
    obtain ⟨tp, p, hp⟩ := ht.errS
    exact (Tryd.strconv_toError_syntax ⟨#[80, 97, 114, 115, 101, 73, 110, 116]⟩ ⟨#[]⟩ 10 64 _ w (by decide) hp (.inr ⟨tp, p, rfl⟩)).mono fun e w2 ⟨N, h1, _, _, h4⟩ => ⟨N, h1, h4⟩
  clear ht
  go_enter Tryd.func31, Tryd.ntmps31
  go_wp2_with (first | (go_at_call 36; refine (pint10_empty _).mono ?_; rintro e w' ⟨rfl, rfl⟩) | (go_at_call 37; refine hT.mono ?_; rintro e w2 ⟨N, rfl, hb2⟩))
  go_ret2
  exact ⟨N, rfl, hb2⟩

end Go.Proofs.YtnagiphjlfiifaaDoor
