/-
  The walk of TextBack: for every input of bounded bulk the call returns true, and nothing that lay has turned.
-/
import Derived.Test.YtnagiphjlfiifaaDoorTextBackPlain
import Derived.Test.YtnagiphjlfiifaaDoorTextAwake
import Derived.Deep.LoopGhost
namespace Go.Proofs.YtnagiphjlfiifaaDoor
open Go.RowKit

namespace Pl
theorem digs_len {b : Nat} (h2 : 2 ≤ b) : ∀ (k n : Nat), n < 2 ^ (k + 1) → (digs b n).length ≤ k + 1 := by
  intro k
  induction k with
  | zero =>
    intro n hn
    by_cases h : n < b
    · rw [digs_small h]; simp
    · simp at hn; omega
  | succ k ih =>
    intro n hn
    by_cases h : n < b
    · rw [digs_small h]; simp
    · rw [digs_step h2 (by omega), List.length_append]
      have : n / b < 2 ^ (k + 1) := by
        refine Nat.div_lt_of_lt_mul (Nat.lt_of_lt_of_le hn ?_)
        rw [Nat.pow_succ, Nat.mul_comm]
        exact Nat.mul_le_mul_right _ h2
      have := ih _ this
      simp; omega
theorem digs_small_size {b n : Nat} (h2 : 2 ≤ b) (hn : n ≤ 9223372036854775807) : (digs b n).length ≤ 64 := by
  have h : (2 : Nat) ^ (63 + 1) = 18446744073709551616 := by decide
  exact digs_len h2 63 n (by omega)
theorem joined_len (ls : List (List UInt8)) : ls.length ≤ (joined ls).length := by
  induction ls with
  | nil => simp
  | cons x ls ih => rw [joined_cons]; simp; omega
theorem joined_take {ls : List (List UInt8)} {k : Nat} {l : List UInt8} (h : ls[k]? = some l) : joined (ls.take (k + 1)) = joined (ls.take k) ++ l ++ [10] := by
  rw [List.take_add_one, h, Option.toList_some, joined_snoc]
theorem joined_take_le (ls : List (List UInt8)) (k : Nat) : (joined (ls.take k)).length ≤ (joined ls).length := by
  have h : joined ls = joined (ls.take k) ++ joined (ls.drop k) := by rw [joined, joined, joined, ← List.flatMap_append, List.take_append_drop]
  rw [h, List.length_append]
  omega
end Pl

theorem textOf_nat {b : Int} {n : Nat} (hb : b = 8 ∨ b = 10 ∨ b = 16) : textOf b n = ⟨(Pl.digs b.toNat n).toArray⟩ := by
  unfold textOf
  rw [if_pos hb, text_nat]
theorem own_form {w : World} {base : Nat} {e : TypeId} {size n : Nat} {v : Value} {xs : List Value} (h : w.ownsRow base e size v n xs) (hn : 0 < n) :
    ∃ g cap, v = .slice (some ⟨g, 0, none⟩) n cap ∧ base ≤ g ∧ g < w.heap.size ∧ (∀ j u, xs[j]? = some u → w.cell? ⟨g, j, none⟩ = some u) := by
  obtain ⟨g, cap, hv, hb, hlt⟩ := h.form hn
  refine ⟨g, cap, hv, hb, hlt, fun j u hu => ?_⟩
  have hc := h.cells (g := g) (by rw [hv]; rfl) j u hu
  have e : (⟨g, 0, none⟩ : Addr).add j = ⟨g, j, none⟩ := by unfold Addr.add; split <;> simp_all
  rwa [e] at hc
/-- where bytes lie that are read -/
theorem bytes_at {W : World} {B : Nat} {A : Option Addr} {l : List UInt8} (h : Reads W B 1 A l.length (bytesC l)) (hpos : 0 < l.length) :
    ∃ b off, A = some ⟨b, off, none⟩ ∧ b < B ∧ ∀ (i : Nat) (c : UInt8), l[i]? = some c → W.cell? ⟨b, off + i, none⟩ = some (.int .u8 c.toNat) := by
  obtain ⟨⟨b, off, spot⟩, rfl, hb, hc⟩ := h.2 hpos
  have h0 : (bytesC l)[0]? = some (.int .u8 (l[0].toNat)) := by simp [bytesC, List.getElem?_eq_getElem hpos]
  obtain rfl : spot = none := World.cell?_spot (hc 0 _ h0)
  refine ⟨b, off, rfl, hb, fun i c hi => ?_⟩
  have e : (⟨b, off, none⟩ : Addr).add i = ⟨b, off + i, none⟩ := by unfold Addr.add; split <;> simp_all
  rw [← e]
  exact hc i _ (by simp [bytesC, hi])
theorem reads_one (w : World) (t : TypeId) (v : Value) : Reads (w.alloc (.cells #[v] t)) (w.heap.size + 1) 1 (some ⟨w.heap.size, 0, none⟩) 1 [v] := by
  refine ⟨rfl, fun _ => ⟨_, rfl, by simp, fun j u hu => ?_⟩⟩
  have e : (⟨w.heap.size, 0, none⟩ : Addr).add j = ⟨w.heap.size, j, none⟩ := by unfold Addr.add; split <;> simp_all
  rw [e, (Blk.new w _ _).cell j]
  simpa using hu

set_option maxRecDepth 100000 in
set_option maxHeartbeats 4000000 in
theorem textBack_any (A : Option Addr) (cap : Nat) (bs : List UInt8) (n : Int) (w : World) (hb : bs.length ≤ 1048576) (hcap : bs.length ≤ cap) (hr : Reads w w.heap.size 1 A bs.length (bytesC bs)) (hn0 : -9223372036854775808 ≤ n) (hn1 : n ≤ 9223372036854775807) (ht : Tabs w) :
    Calls Tryd.prog 5 #[.slice A bs.length cap, .int .i64 n] w fun e w' => e = .returned (.bool true) ∧ Below w.heap.size w w' := by
  have HT := Lib.hid ht
  have HR := Lib.hid hr
  obtain ⟨iB, hiB, hB0, hB1, hB2⟩ := info_parts Tryd.infoByte
  have HI := Lib.hid hiB
  have H0 := Lib.hid hB0
  have H1 := Lib.hid hB1
  have H2 := Lib.hid hB2
  clear ht hr hiB hB0 hB1 hB2
  go_enter Tryd.func5, Tryd.ntmps5
  go_wp2_with fail
  refine (awake_any w HT.out).mono ?_
  rintro e w1 ⟨rfl, hB1⟩
  have T1 := Lib.hid (HT.out.below hB1)
  go_wp2_with fail
  refine (lines_any A cap bs w1 (by omega) hcap ((HR.out.below hB1).more hB1.size) T1.out.utf8).mono ?_
  rintro e w2 ⟨v, rfl, ⟨vs, hrows, hrow⟩, hb2⟩
  obtain ⟨ls, hls⟩ : ∃ ls, Pl.pieces isLine bs = ls := ⟨_, rfl⟩
  rw [hls] at hrows hrow
  have hjoin := Pl.join_pieces bs.length bs (Nat.le_refl _)
  have hno := Pl.pieces_no bs.length bs (Nat.le_refl _)
  rw [hls] at hjoin hno
  have hjl : (Pl.joined ls).length ≤ 1048577 := by
    rw [hjoin, List.length_append]
    have : (Pl.tail10 bs).length ≤ 1 := by
      unfold Pl.tail10
      split
      · simp
      · split <;> simp
    omega
  have hll := Pl.joined_len ls
  obtain ⟨Ar, cr, rfl, hcr, hRr⟩ := own_slice hrows
  have hB2 : Below w.heap.size w w2 := hB1.trans (hb2.mono hB1.size)
  have HROWS := Lib.hid hrows
  have HROW := Lib.hid hrow
  have HJ := Lib.hid hjoin
  have HNO := Lib.hid hno
  have HLS := Lib.hid hls
  clear hrows hrow hjoin hno hRr hb2 hB1 hls
  go_wp2
  go_loopw [7, 8, 9] (fun all i _ wr => ∃ k : Nat, k ≤ ls.length ∧ i = .int .i64 k ∧ wr.ownsRow w2.heap.size 5 1 all (Pl.joined (ls.take k)).length (bytesC (Pl.joined (ls.take k))) ∧ Below w2.heap.size w2 wr) (fun _ i _ _ => ls.length - (intOf i).toNat)
  case atStart => exact ⟨0, by omega, rfl, ⟨rfl, .inl ⟨rfl, rfl⟩⟩, Below.refl _ _⟩
  case round =>
    obtain ⟨k, hk, rfl, hown, hbw⟩ := hrel
    have hszw := hbw.size
    by_cases hlt : k < ls.length
    · obtain ⟨l, hl⟩ : ∃ l, ls[k]? = some l := ⟨_, List.getElem?_eq_getElem hlt⟩
      obtain ⟨vi, hvi, howni⟩ := HROW.out k l hl
      obtain ⟨g, cg, hgv, hgb, hgl, hgc⟩ := own_form HROWS.out (show 0 < ls.length by omega)
      obtain ⟨Ai, ci, rfl, hci, hRi⟩ := own_slice howni
      simp only [Value.slice.injEq] at hgv
      obtain ⟨rfl, _, rfl⟩ := hgv
      have hcell : wr.cell? ⟨g, k, none⟩ = some (.slice Ai l.length ci) := (hbw.cell (p := ⟨g, k, none⟩) hgl).trans (hgc k _ hvi)
      have hRl : Reads wr wr.heap.size 1 Ai l.length (bytesC l) := (hRi.below hbw).more hbw.size
      have hj1 := Pl.joined_take hl
      have hj2 := Pl.joined_take_le ls (k + 1)
      have hj3 : (Pl.joined (ls.take (k + 1))).length = (Pl.joined (ls.take k)).length + l.length + 1 := by rw [hj1, List.length_append, List.length_append]; rfl
      have hll2 : l.length ≤ 1048577 := by omega
      have hn10 := HNO.out l (List.mem_of_getElem? hl)
      have hjb : (Pl.joined (ls.take k)).length + l.length + 1 ≤ 1048577 := by omega
      have HJ1 := Lib.hid hj1
      have HJ3 := Lib.hid hj3
      have HRL := Lib.hid hRl
      have HN10 := Lib.hid hn10
      have HOWN := Lib.hid hown
      clear hj1 hj2 hj3 hRi howni hvi hgc hl hn10 hRl hown
      go_wp2
      go_loop [9] (fun j => ∃ i : Nat, i ≤ l.length ∧ j = .int .i64 i) (fun j => l.length - (intOf j).toNat)
      case atStart => exact ⟨0, by omega, rfl⟩
      case round =>
        obtain ⟨i, hi, rfl⟩ := hrel
        by_cases hil : i < l.length
        · obtain ⟨c, hc⟩ : ∃ c, l[i]? = some c := ⟨_, List.getElem?_eq_getElem hil⟩
          have hc10 : c ≠ 10 := HN10.out c (List.mem_of_getElem? hc)
          have hx : ((c.toNat : Int) == 10) = false := by
            rw [beq_eq_false_iff_ne]
            intro e
            have h10 : (10 : UInt8).toNat = 10 := rfl
            exact hc10 (UInt8.toNat_inj.1 (by omega))
          obtain ⟨b, off, rfl, _, hac⟩ := bytes_at HRL.out (by omega)
          have hcc := hac i c hc
          clear hac hc hc10
          go_wp2
          go_round
          case rel => exact ⟨i + 1, by omega, by go_num⟩
          case measure => simp [intOf]; omega
        · go_wp2_with (first
            | (at_builtin; refine wpList_append_any _ rfl (.tmp 44) (.tmp 48) 25 rfl w2.heap.size 5 iB (.int .u8 0) 1 1 Tryd.underlying25 HI.out H0.out H1.out H2.out rfl (by decide) _ _ _ rfl HOWN.out wr.heap.size Ai l.length ci (bytesC l) rfl HRL.out (bytesC_oneCell l) (by simp only [maxLen]; omega) (by omega) hszw ?_; intro v3 w3 hown3 hg3 hat3)
            | (at_builtin; refine wpList_append_any _ rfl (.tmp 49) (.tmp 50) 25 rfl w2.heap.size 5 iB (.int .u8 0) 1 1 Tryd.underlying25 HI.out H0.out H1.out H2.out rfl (by decide) _ _ _ rfl (hown3.alloc _) (w3.heap.size + 1) (some ⟨w3.heap.size, 0, none⟩) 1 1 [.int .u8 10] rfl (reads_one w3 _ _) (by simp [Value.oneCell']) (by simp only [maxLen]; omega) (by omega) (by have := hg3.size; simp; omega) ?_; intro v4 w4 hown4 hg4 hat4))
          go_roundw
          case rel =>
            have hb3 : Below w2.heap.size w2 w3 := hbw.grown hg3 hszw (fun q hq => (HOWN.out.lt q hq).1)
            have hsz3 := hb3.size
            have hb4 : Below w2.heap.size w2 w4 := (hb3.alloc hsz3 _).grown hg4 (by simp; omega) (fun q hq => (hown3.lt q hq).1)
            refine ⟨k + 1, by omega, by go_num, ?_, hb4⟩
            rw [HJ3.out, HJ1.out]
            have : bytesC (Pl.joined (ls.take k) ++ l ++ [10]) = bytesC (Pl.joined (ls.take k)) ++ bytesC l ++ [.int .u8 10] := by simp [bytesC]
            rw [this]
            exact hown4
          case measure => simp [intOf]; omega
    · obtain rfl : k = ls.length := by omega
      rw [List.take_length] at hown
      obtain ⟨Aa, ca, rfl, hca, hRa⟩ := own_slice hown
      have hBw : Below w.heap.size w wr := hB2.trans (hbw.mono hB2.size)
      have hRb : Reads wr wr.heap.size 1 A bs.length (bytesC bs) := (HR.out.below hBw).more hBw.size
      have sb : (convert 25 9 (.slice A bs.length cap)).run Tryd.prog wr = .ok (.string ⟨bs.toArray⟩) wr := convert_string (P := Tryd.prog) Tryd.underlying25 Tryd.underlying5 Tryd.underlying9 hRb
      have sa : (convert 25 9 (.slice Aa (Pl.joined ls).length ca)).run Tryd.prog wr = .ok (.string ⟨(Pl.joined ls).toArray⟩) wr := convert_string (P := Tryd.prog) Tryd.underlying25 Tryd.underlying5 Tryd.underlying9 hRa
      obtain ⟨m, hm⟩ : ∃ m, (Pl.joined ls).length = m := ⟨_, rfl⟩
      rw [hm] at sa hca hjl hll ⊢
      have HRB := Lib.hid hRb
      have HTr := Lib.hid (HT.out.below hBw)
      clear hown hRa hRb hm hk hlt
      obtain ⟨S, hS⟩ : ∃ S : ByteArray, (⟨bs.toArray⟩ : ByteArray) = S := ⟨_, rfl⟩
      have hsS : S.size ≤ 1048576 := by rw [← hS]; exact hb
      have hj1 : (⟨(Pl.joined ls).toArray⟩ : ByteArray) = S ++ ⟨(Pl.tail10 bs).toArray⟩ := by
        rw [HJ.out, ← hS]
        apply ByteArray.ext
        simp
      rw [hS] at sb
      rw [hj1] at sa
      obtain ⟨q, hq⟩ : ∃ q, bs.length = q := ⟨_, rfl⟩
      rw [hq] at sb hb hcap ⊢
      have HQ := Lib.hid hq
      clear hj1 hq hS
      by_cases h0 : bs = []
      · have hj0 : S ++ ⟨(Pl.tail10 bs).toArray⟩ = S := by
          have h1 : Pl.tail10 bs = [] := by unfold Pl.tail10; rw [if_pos h0]
          rw [h1]; exact ByteArray.append_empty
        rw [hj0] at sa
        have hq0 : q = 0 := by rw [← HQ.out, h0]; rfl
        subst hq0
        clear hj0 h0
        by_cases hn : 0 ≤ n
        · obtain ⟨N, rfl⟩ := Int.eq_ofNat_of_zero_le hn
          clear hn
          go_wp2_with fail
          refine (show Calls Tryd.prog 16 #[.int .i64 (N : Int), .int .i64 10] wr _ from digits_any N 10 wr (by omega) (by omega) HTr.out).mono ?_
          rintro e w5 ⟨rfl, hb5⟩
          have T5 := Lib.hid (HTr.out.below hb5)
          have hB5 : Below w.heap.size w w5 := hBw.trans (hb5.mono hBw.size)
          obtain ⟨D, hD⟩ : ∃ D : ByteArray, textOf 10 (N : Int) = D := ⟨_, rfl⟩
          have hDl : D.data.toList = Pl.digs 10 N := by rw [← hD, textOf_nat (by decide)]; rfl
          have hDs : D.size ≤ 64 := by
            have h1 := Pl.digs_small_size (b := 10) (n := N) (by decide) (by omega)
            rw [← hDl] at h1
            simpa using h1
          rw [hD]
          have HD := Lib.hid hDl
          clear hD hDl hb5 sa sb
          go_wp2_with fail
          refine (text10_any D N w5 (by omega) (by omega) T5.out).mono ?_
          rintro e w6 ⟨rfl, hb6⟩
          rw [HD.out, num_back (by decide) (by decide)]
          have T6 := Lib.hid (T5.out.below hb6)
          have hB6 : Below w.heap.size w w6 := hB5.trans (hb6.mono hB5.size)
          clear hb6
          go_wp2_with fail
          refine (text10_any D ((N : Int) - 1) w6 (by omega) (by omega) T6.out).mono ?_
          rintro e w7 ⟨rfl, hb7⟩
          rw [HD.out, num_less (by decide) (by decide)]
          have T7 := Lib.hid (T6.out.below hb7)
          have hB7 : Below w.heap.size w w7 := hB6.trans (hb7.mono hB6.size)
          clear hb7 HD hDs
          go_wp2_with fail
          refine (show Calls Tryd.prog 16 #[.int .i64 (N : Int), .int .i64 8] w7 _ from digits_any N 8 w7 (by omega) (by omega) T7.out).mono ?_
          rintro e w8 ⟨rfl, hb8⟩
          have T8 := Lib.hid (T7.out.below hb8)
          have hB8 : Below w.heap.size w w8 := hB7.trans (hb8.mono hB7.size)
          obtain ⟨E, hE⟩ : ∃ E : ByteArray, textOf 8 (N : Int) = E := ⟨_, rfl⟩
          have hEl : E.data.toList = Pl.digs 8 N := by rw [← hE, textOf_nat (by decide)]; rfl
          have hEs : E.size ≤ 64 := by
            have h1 := Pl.digs_small_size (b := 8) (n := N) (by decide) (by omega)
            rw [← hEl] at h1
            simpa using h1
          rw [hE]
          have HE := Lib.hid hEl
          clear hE hEl hb8
          go_wp2_with fail
          refine (text8_any E N w8 (by omega) (by omega) T8.out).mono ?_
          rintro e w9 ⟨rfl, hb9⟩
          rw [HE.out, num_back (by decide) (by decide)]
          go_wp2_with fail
          go_returns
          exact ⟨rfl, hB8.trans (hb9.mono hB8.size)⟩
        · obtain ⟨N, hN⟩ := Int.eq_ofNat_of_zero_le (show 0 ≤ -(n + 1) by omega)
          have hn' : n < 0 := by omega
          clear hn
          go_wp2_with fail
          refine (show Calls Tryd.prog 16 #[.int .i64 (N : Int), .int .i64 10] wr _ from digits_any N 10 wr (by omega) (by omega) HTr.out).mono ?_
          rintro e w5 ⟨rfl, hb5⟩
          have T5 := Lib.hid (HTr.out.below hb5)
          have hB5 : Below w.heap.size w w5 := hBw.trans (hb5.mono hBw.size)
          obtain ⟨D, hD⟩ : ∃ D : ByteArray, textOf 10 (N : Int) = D := ⟨_, rfl⟩
          have hDl : D.data.toList = Pl.digs 10 N := by rw [← hD, textOf_nat (by decide)]; rfl
          have hDs : D.size ≤ 64 := by
            have h1 := Pl.digs_small_size (b := 10) (n := N) (by decide) (by omega)
            rw [← hDl] at h1
            simpa using h1
          rw [hD]
          have HD := Lib.hid hDl
          clear hD hDl hb5 sa sb
          go_wp2_with fail
          refine (text10_any D N w5 (by omega) (by omega) T5.out).mono ?_
          rintro e w6 ⟨rfl, hb6⟩
          rw [HD.out, num_back (by decide) (by decide)]
          have T6 := Lib.hid (T5.out.below hb6)
          have hB6 : Below w.heap.size w w6 := hB5.trans (hb6.mono hB5.size)
          clear hb6
          go_wp2_with fail
          refine (text10_any D ((N : Int) - 1) w6 (by omega) (by omega) T6.out).mono ?_
          rintro e w7 ⟨rfl, hb7⟩
          rw [HD.out, num_less (by decide) (by decide)]
          have T7 := Lib.hid (T6.out.below hb7)
          have hB7 : Below w.heap.size w w7 := hB6.trans (hb7.mono hB6.size)
          clear hb7 HD hDs
          go_wp2_with fail
          refine (show Calls Tryd.prog 16 #[.int .i64 (N : Int), .int .i64 8] w7 _ from digits_any N 8 w7 (by omega) (by omega) T7.out).mono ?_
          rintro e w8 ⟨rfl, hb8⟩
          have T8 := Lib.hid (T7.out.below hb8)
          have hB8 : Below w.heap.size w w8 := hB7.trans (hb8.mono hB7.size)
          obtain ⟨E, hE⟩ : ∃ E : ByteArray, textOf 8 (N : Int) = E := ⟨_, rfl⟩
          have hEl : E.data.toList = Pl.digs 8 N := by rw [← hE, textOf_nat (by decide)]; rfl
          have hEs : E.size ≤ 64 := by
            have h1 := Pl.digs_small_size (b := 8) (n := N) (by decide) (by omega)
            rw [← hEl] at h1
            simpa using h1
          rw [hE]
          have HE := Lib.hid hEl
          clear hE hEl hb8
          go_wp2_with fail
          refine (text8_any E N w8 (by omega) (by omega) T8.out).mono ?_
          rintro e w9 ⟨rfl, hb9⟩
          rw [HE.out, num_back (by decide) (by decide)]
          go_wp2_with fail
          go_returns
          exact ⟨rfl, hB8.trans (hb9.mono hB8.size)⟩
      · have hqp : 0 < q := by rw [← HQ.out]; exact List.length_pos_iff.2 h0
        obtain ⟨b, off, rfl, _, hac⟩ := bytes_at HRB.out (by rw [HQ.out]; exact hqp)
        obtain ⟨c, hc⟩ : ∃ c, bs[q - 1]? = some c := ⟨_, List.getElem?_eq_getElem (by rw [HQ.out]; omega)⟩
        have hcc := hac (q - 1) c hc
        have hlast : bs.getLast? = some c := by rw [List.getLast?_eq_getElem?, HQ.out]; exact hc
        clear hac hc
        by_cases hc10 : c = 10
        · have hj0 : S ++ ⟨(Pl.tail10 bs).toArray⟩ = S := by
            have h1 : Pl.tail10 bs = [] := by unfold Pl.tail10; rw [if_neg h0, if_pos (by rw [hlast, hc10])]
            rw [h1]; exact ByteArray.append_empty
          rw [hj0] at sa
          subst hc10
          rw [show (((10 : UInt8).toNat : Nat) : Int) = 10 from rfl] at hcc
          clear hj0 h0 hlast
          by_cases hn : 0 ≤ n
          · obtain ⟨N, rfl⟩ := Int.eq_ofNat_of_zero_le hn
            clear hn
            go_wp2_with fail
            refine (show Calls Tryd.prog 16 #[.int .i64 (N : Int), .int .i64 10] wr _ from digits_any N 10 wr (by omega) (by omega) HTr.out).mono ?_
            rintro e w5 ⟨rfl, hb5⟩
            have T5 := Lib.hid (HTr.out.below hb5)
            have hB5 : Below w.heap.size w w5 := hBw.trans (hb5.mono hBw.size)
            obtain ⟨D, hD⟩ : ∃ D : ByteArray, textOf 10 (N : Int) = D := ⟨_, rfl⟩
            have hDl : D.data.toList = Pl.digs 10 N := by rw [← hD, textOf_nat (by decide)]; rfl
            have hDs : D.size ≤ 64 := by
              have h1 := Pl.digs_small_size (b := 10) (n := N) (by decide) (by omega)
              rw [← hDl] at h1
              simpa using h1
            rw [hD]
            have HD := Lib.hid hDl
            clear hD hDl hb5 sa sb
            go_wp2_with fail
            refine (text10_any D N w5 (by omega) (by omega) T5.out).mono ?_
            rintro e w6 ⟨rfl, hb6⟩
            rw [HD.out, num_back (by decide) (by decide)]
            have T6 := Lib.hid (T5.out.below hb6)
            have hB6 : Below w.heap.size w w6 := hB5.trans (hb6.mono hB5.size)
            clear hb6
            go_wp2_with fail
            refine (text10_any D ((N : Int) - 1) w6 (by omega) (by omega) T6.out).mono ?_
            rintro e w7 ⟨rfl, hb7⟩
            rw [HD.out, num_less (by decide) (by decide)]
            have T7 := Lib.hid (T6.out.below hb7)
            have hB7 : Below w.heap.size w w7 := hB6.trans (hb7.mono hB6.size)
            clear hb7 HD hDs
            go_wp2_with fail
            refine (show Calls Tryd.prog 16 #[.int .i64 (N : Int), .int .i64 8] w7 _ from digits_any N 8 w7 (by omega) (by omega) T7.out).mono ?_
            rintro e w8 ⟨rfl, hb8⟩
            have T8 := Lib.hid (T7.out.below hb8)
            have hB8 : Below w.heap.size w w8 := hB7.trans (hb8.mono hB7.size)
            obtain ⟨E, hE⟩ : ∃ E : ByteArray, textOf 8 (N : Int) = E := ⟨_, rfl⟩
            have hEl : E.data.toList = Pl.digs 8 N := by rw [← hE, textOf_nat (by decide)]; rfl
            have hEs : E.size ≤ 64 := by
              have h1 := Pl.digs_small_size (b := 8) (n := N) (by decide) (by omega)
              rw [← hEl] at h1
              simpa using h1
            rw [hE]
            have HE := Lib.hid hEl
            clear hE hEl hb8
            go_wp2_with fail
            refine (text8_any E N w8 (by omega) (by omega) T8.out).mono ?_
            rintro e w9 ⟨rfl, hb9⟩
            rw [HE.out, num_back (by decide) (by decide)]
            go_wp2_with fail
            go_returns
            exact ⟨rfl, hB8.trans (hb9.mono hB8.size)⟩
          · obtain ⟨N, hN⟩ := Int.eq_ofNat_of_zero_le (show 0 ≤ -(n + 1) by omega)
            have hn' : n < 0 := by omega
            clear hn
            go_wp2_with fail
            refine (show Calls Tryd.prog 16 #[.int .i64 (N : Int), .int .i64 10] wr _ from digits_any N 10 wr (by omega) (by omega) HTr.out).mono ?_
            rintro e w5 ⟨rfl, hb5⟩
            have T5 := Lib.hid (HTr.out.below hb5)
            have hB5 : Below w.heap.size w w5 := hBw.trans (hb5.mono hBw.size)
            obtain ⟨D, hD⟩ : ∃ D : ByteArray, textOf 10 (N : Int) = D := ⟨_, rfl⟩
            have hDl : D.data.toList = Pl.digs 10 N := by rw [← hD, textOf_nat (by decide)]; rfl
            have hDs : D.size ≤ 64 := by
              have h1 := Pl.digs_small_size (b := 10) (n := N) (by decide) (by omega)
              rw [← hDl] at h1
              simpa using h1
            rw [hD]
            have HD := Lib.hid hDl
            clear hD hDl hb5 sa sb
            go_wp2_with fail
            refine (text10_any D N w5 (by omega) (by omega) T5.out).mono ?_
            rintro e w6 ⟨rfl, hb6⟩
            rw [HD.out, num_back (by decide) (by decide)]
            have T6 := Lib.hid (T5.out.below hb6)
            have hB6 : Below w.heap.size w w6 := hB5.trans (hb6.mono hB5.size)
            clear hb6
            go_wp2_with fail
            refine (text10_any D ((N : Int) - 1) w6 (by omega) (by omega) T6.out).mono ?_
            rintro e w7 ⟨rfl, hb7⟩
            rw [HD.out, num_less (by decide) (by decide)]
            have T7 := Lib.hid (T6.out.below hb7)
            have hB7 : Below w.heap.size w w7 := hB6.trans (hb7.mono hB6.size)
            clear hb7 HD hDs
            go_wp2_with fail
            refine (show Calls Tryd.prog 16 #[.int .i64 (N : Int), .int .i64 8] w7 _ from digits_any N 8 w7 (by omega) (by omega) T7.out).mono ?_
            rintro e w8 ⟨rfl, hb8⟩
            have T8 := Lib.hid (T7.out.below hb8)
            have hB8 : Below w.heap.size w w8 := hB7.trans (hb8.mono hB7.size)
            obtain ⟨E, hE⟩ : ∃ E : ByteArray, textOf 8 (N : Int) = E := ⟨_, rfl⟩
            have hEl : E.data.toList = Pl.digs 8 N := by rw [← hE, textOf_nat (by decide)]; rfl
            have hEs : E.size ≤ 64 := by
              have h1 := Pl.digs_small_size (b := 8) (n := N) (by decide) (by omega)
              rw [← hEl] at h1
              simpa using h1
            rw [hE]
            have HE := Lib.hid hEl
            clear hE hEl hb8
            go_wp2_with fail
            refine (text8_any E N w8 (by omega) (by omega) T8.out).mono ?_
            rintro e w9 ⟨rfl, hb9⟩
            rw [HE.out, num_back (by decide) (by decide)]
            go_wp2_with fail
            go_returns
            exact ⟨rfl, hB8.trans (hb9.mono hB8.size)⟩
        · have hj0 : S ++ ⟨(Pl.tail10 bs).toArray⟩ = S ++ ⟨#[10]⟩ := by
            have h1 : Pl.tail10 bs = [10] := by unfold Pl.tail10; rw [if_neg h0, if_neg (by rw [hlast]; intro e; exact hc10 (Option.some.inj e))]
            rw [h1]
          rw [hj0] at sa
          have hx : ((c.toNat : Int) == 10) = false := by
            rw [beq_eq_false_iff_ne]
            intro e
            have h10 : (10 : UInt8).toNat = 10 := rfl
            exact hc10 (UInt8.toNat_inj.1 (by omega))
          have hx2 : ((c.toNat : Int) != 10) = true := by rw [bne, hx]; rfl
          clear hj0 h0 hlast hc10
          by_cases hn : 0 ≤ n
          · obtain ⟨N, rfl⟩ := Int.eq_ofNat_of_zero_le hn
            clear hn
            go_wp2_with fail
            refine (show Calls Tryd.prog 16 #[.int .i64 (N : Int), .int .i64 10] wr _ from digits_any N 10 wr (by omega) (by omega) HTr.out).mono ?_
            rintro e w5 ⟨rfl, hb5⟩
            have T5 := Lib.hid (HTr.out.below hb5)
            have hB5 : Below w.heap.size w w5 := hBw.trans (hb5.mono hBw.size)
            obtain ⟨D, hD⟩ : ∃ D : ByteArray, textOf 10 (N : Int) = D := ⟨_, rfl⟩
            have hDl : D.data.toList = Pl.digs 10 N := by rw [← hD, textOf_nat (by decide)]; rfl
            have hDs : D.size ≤ 64 := by
              have h1 := Pl.digs_small_size (b := 10) (n := N) (by decide) (by omega)
              rw [← hDl] at h1
              simpa using h1
            rw [hD]
            have HD := Lib.hid hDl
            clear hD hDl hb5 sa sb
            go_wp2_with fail
            refine (text10_any D N w5 (by omega) (by omega) T5.out).mono ?_
            rintro e w6 ⟨rfl, hb6⟩
            rw [HD.out, num_back (by decide) (by decide)]
            have T6 := Lib.hid (T5.out.below hb6)
            have hB6 : Below w.heap.size w w6 := hB5.trans (hb6.mono hB5.size)
            clear hb6
            go_wp2_with fail
            refine (text10_any D ((N : Int) - 1) w6 (by omega) (by omega) T6.out).mono ?_
            rintro e w7 ⟨rfl, hb7⟩
            rw [HD.out, num_less (by decide) (by decide)]
            have T7 := Lib.hid (T6.out.below hb7)
            have hB7 : Below w.heap.size w w7 := hB6.trans (hb7.mono hB6.size)
            clear hb7 HD hDs
            go_wp2_with fail
            refine (show Calls Tryd.prog 16 #[.int .i64 (N : Int), .int .i64 8] w7 _ from digits_any N 8 w7 (by omega) (by omega) T7.out).mono ?_
            rintro e w8 ⟨rfl, hb8⟩
            have T8 := Lib.hid (T7.out.below hb8)
            have hB8 : Below w.heap.size w w8 := hB7.trans (hb8.mono hB7.size)
            obtain ⟨E, hE⟩ : ∃ E : ByteArray, textOf 8 (N : Int) = E := ⟨_, rfl⟩
            have hEl : E.data.toList = Pl.digs 8 N := by rw [← hE, textOf_nat (by decide)]; rfl
            have hEs : E.size ≤ 64 := by
              have h1 := Pl.digs_small_size (b := 8) (n := N) (by decide) (by omega)
              rw [← hEl] at h1
              simpa using h1
            rw [hE]
            have HE := Lib.hid hEl
            clear hE hEl hb8
            go_wp2_with fail
            refine (text8_any E N w8 (by omega) (by omega) T8.out).mono ?_
            rintro e w9 ⟨rfl, hb9⟩
            rw [HE.out, num_back (by decide) (by decide)]
            go_wp2_with fail
            go_returns
            exact ⟨rfl, hB8.trans (hb9.mono hB8.size)⟩
          · obtain ⟨N, hN⟩ := Int.eq_ofNat_of_zero_le (show 0 ≤ -(n + 1) by omega)
            have hn' : n < 0 := by omega
            clear hn
            go_wp2_with fail
            refine (show Calls Tryd.prog 16 #[.int .i64 (N : Int), .int .i64 10] wr _ from digits_any N 10 wr (by omega) (by omega) HTr.out).mono ?_
            rintro e w5 ⟨rfl, hb5⟩
            have T5 := Lib.hid (HTr.out.below hb5)
            have hB5 : Below w.heap.size w w5 := hBw.trans (hb5.mono hBw.size)
            obtain ⟨D, hD⟩ : ∃ D : ByteArray, textOf 10 (N : Int) = D := ⟨_, rfl⟩
            have hDl : D.data.toList = Pl.digs 10 N := by rw [← hD, textOf_nat (by decide)]; rfl
            have hDs : D.size ≤ 64 := by
              have h1 := Pl.digs_small_size (b := 10) (n := N) (by decide) (by omega)
              rw [← hDl] at h1
              simpa using h1
            rw [hD]
            have HD := Lib.hid hDl
            clear hD hDl hb5 sa sb
            go_wp2_with fail
            refine (text10_any D N w5 (by omega) (by omega) T5.out).mono ?_
            rintro e w6 ⟨rfl, hb6⟩
            rw [HD.out, num_back (by decide) (by decide)]
            have T6 := Lib.hid (T5.out.below hb6)
            have hB6 : Below w.heap.size w w6 := hB5.trans (hb6.mono hB5.size)
            clear hb6
            go_wp2_with fail
            refine (text10_any D ((N : Int) - 1) w6 (by omega) (by omega) T6.out).mono ?_
            rintro e w7 ⟨rfl, hb7⟩
            rw [HD.out, num_less (by decide) (by decide)]
            have T7 := Lib.hid (T6.out.below hb7)
            have hB7 : Below w.heap.size w w7 := hB6.trans (hb7.mono hB6.size)
            clear hb7 HD hDs
            go_wp2_with fail
            refine (show Calls Tryd.prog 16 #[.int .i64 (N : Int), .int .i64 8] w7 _ from digits_any N 8 w7 (by omega) (by omega) T7.out).mono ?_
            rintro e w8 ⟨rfl, hb8⟩
            have T8 := Lib.hid (T7.out.below hb8)
            have hB8 : Below w.heap.size w w8 := hB7.trans (hb8.mono hB7.size)
            obtain ⟨E, hE⟩ : ∃ E : ByteArray, textOf 8 (N : Int) = E := ⟨_, rfl⟩
            have hEl : E.data.toList = Pl.digs 8 N := by rw [← hE, textOf_nat (by decide)]; rfl
            have hEs : E.size ≤ 64 := by
              have h1 := Pl.digs_small_size (b := 8) (n := N) (by decide) (by omega)
              rw [← hEl] at h1
              simpa using h1
            rw [hE]
            have HE := Lib.hid hEl
            clear hE hEl hb8
            go_wp2_with fail
            refine (text8_any E N w8 (by omega) (by omega) T8.out).mono ?_
            rintro e w9 ⟨rfl, hb9⟩
            rw [HE.out, num_back (by decide) (by decide)]
            go_wp2_with fail
            go_returns
            exact ⟨rfl, hB8.trans (hb9.mono hB8.size)⟩

end Go.Proofs.YtnagiphjlfiifaaDoor
