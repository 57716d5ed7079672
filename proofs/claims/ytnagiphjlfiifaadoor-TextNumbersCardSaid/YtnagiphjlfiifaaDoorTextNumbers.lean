/-
  The walk of TextNumbers: for every input the call returns true, and nothing that lay has turned.
-/
import Derived.Test.YtnagiphjlfiifaaDoorTextAwake
import Derived.Test.YtnagiphjlfiifaaDoorTextRefBased
import Derived.Test.YtnagiphjlfiifaaDoorTextRefDigits
namespace Go.Proofs.YtnagiphjlfiifaaDoor
open Go.RowKit

theorem numRes_form (b : Nat) (most : Int) (l : List UInt8) : ∃ (a : Int) (x : Bool), numRes b most l = .tuple #[.int .i64 a, .bool x] := by
  unfold numRes
  split
  · exact ⟨_, _, rfl⟩
  · exact ⟨_, _, rfl⟩

set_option maxRecDepth 100000 in
set_option maxHeartbeats 1000000 in
theorem textNumbers_any (s : ByteArray) (most n base : Int) (w : World) (hs : s.size ≤ 140737488351232) (hm0 : -9223372036854775808 ≤ most) (hm1 : most ≤ 9223372036854775807) (hn0 : -9223372036854775808 ≤ n) (hn1 : n ≤ 9223372036854775807) (ht : Tabs w) :
    Calls Tryd.prog 4 #[.string s, .int .i64 most, .int .i64 n, .int .i64 base] w fun e w' => e = .returned (.bool true) ∧ Below w.heap.size w w' := by
  obtain ⟨a, x, h10⟩ := numRes_form 10 most s.data.toList
  obtain ⟨c, y, h8⟩ := numRes_form 8 most s.data.toList
  have H10 := Lib.hid h10
  have H8 := Lib.hid h8
  have HT := Lib.hid ht
  clear ht h10 h8
  go_enter Tryd.func4, Tryd.ntmps4
  go_wp2_with fail
  refine (awake_any w HT.out).mono ?_
  rintro e w1 ⟨rfl, hB1⟩
  have T1 := Lib.hid (HT.out.below hB1)
  go_wp2_with fail
  refine (text10_any s most w1 hs hm1 T1.out).mono ?_
  rintro e w2 ⟨rfl, hb2⟩
  rw [H10.out]
  have T2 := Lib.hid (T1.out.below hb2)
  have hB2 : Below w.heap.size w w2 := hB1.trans (hb2.mono hB1.size)
  go_wp2_with fail
  refine (ref10_any s most w2 hs hm0 hm1).mono ?_
  rintro e w3 ⟨rfl, rfl⟩
  rw [H10.out]
  go_wp2_with fail
  refine (text8_any s most w3 hs hm1 T2.out).mono ?_
  rintro e w4 ⟨rfl, hb4⟩
  rw [H8.out]
  have T4 := Lib.hid (T2.out.below hb4)
  have hB4 : Below w.heap.size w w4 := hB2.trans (hb4.mono hB2.size)
  go_wp2_with fail
  refine (ref8_any s most w4 hs hm0 hm1).mono ?_
  rintro e w5 ⟨rfl, rfl⟩
  rw [H8.out]
  go_wp2_with fail
  refine (digits_any n base w5 hn0 hn1 T4.out).mono ?_
  rintro e w6 ⟨rfl, hb6⟩
  have hB6 : Below w.heap.size w w6 := hB4.trans (hb6.mono hB4.size)
  go_wp2_with fail
  refine (refdigits_any n base w6 hn0 hn1).mono ?_
  rintro e w7 ⟨rfl, hb7⟩
  go_wp2_with fail
  go_returns
  exact ⟨rfl, hB6.trans (hb7.mono hB6.size)⟩

end Go.Proofs.YtnagiphjlfiifaaDoor
