/-
  A walk over the reference's Fields: the pieces that hold something, in the bytes' own memory.
-/
import Derived.Test.YtnagiphjlfiifaaDoorTextRefLines
namespace Go.Proofs.YtnagiphjlfiifaaDoor
open Go.RowKit

namespace Pl
theorem full_blank {p : UInt8 → Bool} {l : List UInt8} {k : Nat} {c : UInt8} (hc : l[k]? = some c) (hp : p c = true) : full (pieces p (l.drop k)) = full (pieces p (l.drop (k + 1))) := by
  rw [pieces_at p l k k (Nat.le_refl _) (fun j h1 h2 => absurd h2 (by omega)) c hc hp]
  simp [full]
theorem full_run {p : UInt8 → Bool} {l : List UInt8} {k j : Nat} (hkj : k < j) (hj : j ≤ l.length) (hn : ∀ i, k ≤ i → i < j → ∃ c, l[i]? = some c ∧ p c = false) (he : j = l.length ∨ ∃ c, l[j]? = some c ∧ p c = true) :
    full (pieces p (l.drop k)) = (l.drop k).take (j - k) :: full (pieces p (l.drop j)) := by
  have hlen : 0 < ((l.drop k).take (j - k)).length := by rw [List.length_take, List.length_drop]; omega
  rcases he with he | ⟨c, hc, hp⟩
  · have h1 := pieces_end p l k (by omega) (by rw [← he]; exact hn)
    rw [h1, if_pos (by omega), he, List.drop_length, pieces_nil]
    have h2 : (l.drop k).take (l.length - k) = l.drop k := List.take_of_length_le (by rw [List.length_drop]; omega)
    rw [h2]
    simp [full]; omega
  · rw [pieces_at p l k j (by omega) hn c hc hp, full_blank hc hp]
    simp only [full]
    rw [List.filter_cons_of_pos (by simpa using hlen)]
end Pl

theorem blank_any (b : UInt8) (W : World) : Calls Tryd.prog 30 #[.int .u8 b.toNat] W fun e w' => e = .returned (.bool (isBlank b)) ∧ w' = W := by
  have h1 := Pl.u8_eq b 32
  have h2 := Pl.u8_eq b 9
  unfold isBlank
  go_enter Tryd.func30, Tryd.ntmps30
  by_cases hb : b = 32
  · have hx : ((b.toNat : Int) == 32) = true := by rw [hb]; decide
    go_wp2
    go_returns
    exact ⟨by rw [hb]; rfl, rfl⟩
  · have hx : ((b.toNat : Int) == 32) = false := (show ((b.toNat : Int) == 32) = _ from h1).trans (beq_eq_false_iff_ne.2 hb)
    go_wp2
    go_returns
    exact ⟨by rw [beq_eq_false_iff_ne.2 hb, Bool.false_or, ← h2]; rfl, rfl⟩

set_option maxRecDepth 100000 in
set_option maxHeartbeats 4000000 in
theorem reffields_any (A : Option Addr) (cap : Nat) (bs : List UInt8) (w : World) (hb : bs.length ≤ 2097152) (hcap : bs.length ≤ cap) (hr : Reads w w.heap.size 1 A bs.length (bytesC bs)) :
    Calls Tryd.prog 22 #[.slice A bs.length cap] w fun e W' => ∃ v, e = .returned v ∧ RowsRead W' w.heap.size w v (Pl.full (Pl.pieces isBlank bs)) ∧ Below w.heap.size w W' := by
  obtain ⟨iS, hiS, hS0, hS1, hS2⟩ := info_parts Tryd.infoByte
  have hcut := Lib.hid (fun (A : Option Addr) (len cap n m : Nat) (hn : n ≤ m) (hm : m ≤ cap) (W : World) => run_cut2 (P := Tryd.prog) 25 5 iS 1 Tryd.underlying25 hiS hS1 A len cap .i64 .i64 n m n m rfl rfl hn hm W)
  clear hiS hS0 hS1 hS2
  obtain ⟨iR, hiR, hR0, hR1, hR2⟩ := info_parts Tryd.infoBytes
  have HI := Lib.hid hiR
  have H0 := Lib.hid hR0
  have H1 := Lib.hid hR1
  have H2 := Lib.hid hR2
  have HR := Lib.hid hr
  clear hiR hR0 hR1 hR2 hr
  go_enter Tryd.func22, Tryd.ntmps22
  go_wp2
  go_loopw [3, 4, 5, 6] (fun out i _ _ wr => ∃ (k : Nat) (acc : List (List UInt8)), k ≤ bs.length ∧ acc.length ≤ k ∧ i = .int .i64 k ∧ Hid (acc ++ Pl.full (Pl.pieces isBlank (bs.drop k)) = Pl.full (Pl.pieces isBlank bs)) ∧
    Hid (RowsRead wr w.heap.size w out acc) ∧ Below w.heap.size w wr) (fun _ i _ _ _ => bs.length - (intOf i).toNat)
  case atStart => exact ⟨0, [], Nat.zero_le _, Nat.le_refl _, rfl, Lib.hid (by simp), Lib.hid ⟨[], ⟨rfl, .inl ⟨rfl, rfl⟩⟩, fun i l h => by simp at h⟩, Below.refl _ _⟩
  case round =>
    obtain ⟨k, acc, hk, hacc, rfl, hpc, hrr, hbw⟩ := hrel
    have hszw := hbw.size
    by_cases hlt : k < bs.length
    · obtain ⟨c, hc⟩ : ∃ c, bs[k]? = some c := ⟨_, List.getElem?_eq_getElem hlt⟩
      obtain ⟨b, off, rfl, hbb, hac⟩ := bytes_at HR.out (by omega)
      have hcc : wr.cell? ⟨b, off + k, none⟩ = some (.int .u8 c.toNat) := (hbw.cell (p := ⟨b, off + k, none⟩) hbb).trans (hac k c hc)
      have HAC := Lib.hid hac
      clear hac
      cases hbl : isBlank c with
      | true =>
        have hnext : Hid (acc ++ Pl.full (Pl.pieces isBlank (bs.drop (k + 1))) = Pl.full (Pl.pieces isBlank bs)) := Lib.hid (by rw [← Pl.full_blank hc hbl]; exact hpc.out)
        have hcall := fun W => blank_any c W
        rw [hbl] at hcall
        clear hc hbl
        go_wp2_with (go_at_call 30; refine (hcall _).mono ?_; rintro e w' ⟨rfl, rfl⟩)
        go_roundw
        case rel => exact ⟨k + 1, acc, by omega, by omega, by go_num, hnext, hrr, hbw⟩
        case measure => simp [intOf]; omega
      | false =>
        have hcall := fun W => blank_any c W
        rw [hbl] at hcall
        obtain ⟨vs, hown, hels⟩ := hrr.out
        have HOWN := Lib.hid hown
        have HELS := Lib.hid hels
        have hvl : vs.length = acc.length := by have := hown.1; omega
        have HVL := Lib.hid hvl
        have HC := Lib.hid hc
        have HBL := Lib.hid hbl
        clear hown hels hrr hvl hc hbl
        go_wp2_with (go_at_call 30; refine (hcall _).mono ?_; rintro e w' ⟨rfl, rfl⟩)
        clear hcall hcc
        go_loop [4] (fun i => ∃ j : Nat, k ≤ j ∧ j ≤ bs.length ∧ i = .int .i64 j ∧ Hid (∀ i', k ≤ i' → i' < j → ∃ c, bs[i']? = some c ∧ isBlank c = false)) (fun i => bs.length - (intOf i).toNat)
        case atStart => exact ⟨k, Nat.le_refl _, hk, rfl, Lib.hid fun i' h1 h2 => absurd h2 (by omega)⟩
        case round =>
          obtain ⟨j, hkj0, hj, rfl, hn⟩ := hrel
          by_cases hjl : j < bs.length
          · obtain ⟨c2, hc2⟩ : ∃ c2, bs[j]? = some c2 := ⟨_, List.getElem?_eq_getElem hjl⟩
            have hcc2 : w'.cell? ⟨b, off + j, none⟩ = some (.int .u8 c2.toNat) := (hbw.cell (p := ⟨b, off + j, none⟩) hbb).trans (HAC.out j c2 hc2)
            cases hb2 : isBlank c2 with
            | true =>
              have hkj : k < j := by
                rcases Nat.lt_or_ge k j with h | h
                · exact h
                · obtain rfl : k = j := by omega
                  have h1 := HC.out
                  rw [hc2] at h1
                  cases h1
                  have h2 := HBL.out
                  rw [hb2] at h2
                  cases h2
              have hex : j = bs.length ∨ ∃ c, bs[j]? = some c ∧ isBlank c = true := .inr ⟨c2, hc2, hb2⟩
              by_cases h32 : c2 = 32
              · subst h32
                rw [show (((32 : UInt8).toNat : Nat) : Int) = 32 from rfl] at hcc2
                clear hc2 hb2
                have hfr := Pl.full_run hkj hj hn.out hex
                have hnext : Hid ((acc ++ [(bs.drop k).take (j - k)]) ++ Pl.full (Pl.pieces isBlank (bs.drop j)) = Pl.full (Pl.pieces isBlank bs)) := Lib.hid (by rw [← hpc.out, hfr, List.append_assoc]; rfl)
                have hcutr := bytesC_cut (cap := cap) HR.out (n := k) (m := j) (by omega) hj hcap
                have hcl : ((bs.drop k).take (j - k)).length = j - k := by rw [List.length_take, List.length_drop]; omega
                have hsl : ∀ W, (Instr.slice 25 (.slice (some ⟨b, off, none⟩) bs.length cap) (some (.int .i64 (k : Int))) (some (.int .i64 (j : Int))) none).run Tryd.prog W = .ok (.slice (cutA (some ⟨b, off, none⟩) cap k 1) (j - k) (cap - k)) W := fun W => hcut.out (some ⟨b, off, none⟩) bs.length cap k j (by omega) (by omega) W
                have HCR := Lib.hid hcutr
                have HCL := Lib.hid hcl
                clear hfr hcutr hcl hex hn
                go_wp2_with (at_builtin; refine wpList_append_any _ rfl (.tmp 40) (.tmp 45) 32 rfl w.heap.size 25 iR (.slice none 0 0) 1 24 Tryd.underlying32 HI.out H0.out H1.out H2.out rfl (by decide) _ acc.length vs rfl (HOWN.out.alloc _) (w'.heap.size + 1) (some ⟨w'.heap.size, 0, none⟩) 1 1 [.slice (cutA (some ⟨b, off, none⟩) cap k 1) (j - k) (cap - k)] rfl (row_new w' _) (by simp [Value.oneCell']) (by simp only [maxLen]; omega) (by omega) (by simp; omega) ?_; intro v3 w3 hown3 hg3 hat3)
                go_roundw
                case rel =>
                  rw [← HCL.out] at hown3
                  refine ⟨j, acc ++ [(bs.drop k).take (j - k)], by omega, by rw [List.length_append, List.length_singleton]; omega, rfl, hnext, Lib.hid (rows_snoc HELS.out HVL.out hown3 HCR.out), ?_⟩
                  exact (hbw.alloc hszw _).grown hg3 (by simp; omega) (fun q hq => (HOWN.out.lt q hq).1)
                case measure => simp [intOf]; omega
              · have h9 : c2 = 9 := by
                  unfold isBlank at hb2
                  rw [beq_eq_false_iff_ne.2 h32, Bool.false_or] at hb2
                  exact eq_of_beq hb2
                subst h9
                rw [show (((9 : UInt8).toNat : Nat) : Int) = 9 from rfl] at hcc2
                clear hc2 hb2 h32
                have hfr := Pl.full_run hkj hj hn.out hex
                have hnext : Hid ((acc ++ [(bs.drop k).take (j - k)]) ++ Pl.full (Pl.pieces isBlank (bs.drop j)) = Pl.full (Pl.pieces isBlank bs)) := Lib.hid (by rw [← hpc.out, hfr, List.append_assoc]; rfl)
                have hcutr := bytesC_cut (cap := cap) HR.out (n := k) (m := j) (by omega) hj hcap
                have hcl : ((bs.drop k).take (j - k)).length = j - k := by rw [List.length_take, List.length_drop]; omega
                have hsl : ∀ W, (Instr.slice 25 (.slice (some ⟨b, off, none⟩) bs.length cap) (some (.int .i64 (k : Int))) (some (.int .i64 (j : Int))) none).run Tryd.prog W = .ok (.slice (cutA (some ⟨b, off, none⟩) cap k 1) (j - k) (cap - k)) W := fun W => hcut.out (some ⟨b, off, none⟩) bs.length cap k j (by omega) (by omega) W
                have HCR := Lib.hid hcutr
                have HCL := Lib.hid hcl
                clear hfr hcutr hcl hex hn
                go_wp2_with (at_builtin; refine wpList_append_any _ rfl (.tmp 40) (.tmp 45) 32 rfl w.heap.size 25 iR (.slice none 0 0) 1 24 Tryd.underlying32 HI.out H0.out H1.out H2.out rfl (by decide) _ acc.length vs rfl (HOWN.out.alloc _) (w'.heap.size + 1) (some ⟨w'.heap.size, 0, none⟩) 1 1 [.slice (cutA (some ⟨b, off, none⟩) cap k 1) (j - k) (cap - k)] rfl (row_new w' _) (by simp [Value.oneCell']) (by simp only [maxLen]; omega) (by omega) (by simp; omega) ?_; intro v3 w3 hown3 hg3 hat3)
                go_roundw
                case rel =>
                  rw [← HCL.out] at hown3
                  refine ⟨j, acc ++ [(bs.drop k).take (j - k)], by omega, by rw [List.length_append, List.length_singleton]; omega, rfl, hnext, Lib.hid (rows_snoc HELS.out HVL.out hown3 HCR.out), ?_⟩
                  exact (hbw.alloc hszw _).grown hg3 (by simp; omega) (fun q hq => (HOWN.out.lt q hq).1)
                case measure => simp [intOf]; omega
            | false =>
              have hne : c2 ≠ 32 ∧ c2 ≠ 9 := by
                unfold isBlank at hb2
                constructor
                · intro e; rw [e] at hb2; cases hb2
                · intro e; rw [e] at hb2; cases hb2
              have h1 := Pl.u8_eq c2 32
              have h2 := Pl.u8_eq c2 9
              rw [beq_eq_false_iff_ne.2 hne.1] at h1
              rw [beq_eq_false_iff_ne.2 hne.2] at h2
              have e1 : ((c2.toNat : Int) == 32) = false := h1
              have e2 : ((c2.toNat : Int) == 9) = false := h2
              have e3 : ((c2.toNat : Int) != 32) = true := by rw [bne, e1]; rfl
              have e4 : ((c2.toNat : Int) != 9) = true := by rw [bne, e2]; rfl
              have hn' : Hid (∀ i', k ≤ i' → i' < j + 1 → ∃ c, bs[i']? = some c ∧ isBlank c = false) := Lib.hid fun i' h3 h4 => by
                by_cases h5 : i' < j
                · exact hn.out i' h3 h5
                · obtain rfl : i' = j := by omega
                  exact ⟨c2, hc2, hb2⟩
              clear hc2 hb2 hne h1 h2
              go_wp2
              go_round
              case rel => exact ⟨j + 1, by omega, by omega, by go_num, hn'⟩
              case measure => simp [intOf]; omega
          · have hjn : j = bs.length := by omega
            have hkj : k < j := by omega
            have hex : j = bs.length ∨ ∃ c, bs[j]? = some c ∧ isBlank c = true := .inl hjn
            clear hjn
            have hfr := Pl.full_run hkj hj hn.out hex
            have hnext : Hid ((acc ++ [(bs.drop k).take (j - k)]) ++ Pl.full (Pl.pieces isBlank (bs.drop j)) = Pl.full (Pl.pieces isBlank bs)) := Lib.hid (by rw [← hpc.out, hfr, List.append_assoc]; rfl)
            have hcutr := bytesC_cut (cap := cap) HR.out (n := k) (m := j) (by omega) hj hcap
            have hcl : ((bs.drop k).take (j - k)).length = j - k := by rw [List.length_take, List.length_drop]; omega
            have hsl : ∀ W, (Instr.slice 25 (.slice (some ⟨b, off, none⟩) bs.length cap) (some (.int .i64 (k : Int))) (some (.int .i64 (j : Int))) none).run Tryd.prog W = .ok (.slice (cutA (some ⟨b, off, none⟩) cap k 1) (j - k) (cap - k)) W := fun W => hcut.out (some ⟨b, off, none⟩) bs.length cap k j (by omega) (by omega) W
            have HCR := Lib.hid hcutr
            have HCL := Lib.hid hcl
            clear hfr hcutr hcl hex hn
            go_wp2_with (at_builtin; refine wpList_append_any _ rfl (.tmp 40) (.tmp 45) 32 rfl w.heap.size 25 iR (.slice none 0 0) 1 24 Tryd.underlying32 HI.out H0.out H1.out H2.out rfl (by decide) _ acc.length vs rfl (HOWN.out.alloc _) (w'.heap.size + 1) (some ⟨w'.heap.size, 0, none⟩) 1 1 [.slice (cutA (some ⟨b, off, none⟩) cap k 1) (j - k) (cap - k)] rfl (row_new w' _) (by simp [Value.oneCell']) (by simp only [maxLen]; omega) (by omega) (by simp; omega) ?_; intro v3 w3 hown3 hg3 hat3)
            go_roundw
            case rel =>
              rw [← HCL.out] at hown3
              refine ⟨j, acc ++ [(bs.drop k).take (j - k)], by omega, by rw [List.length_append, List.length_singleton]; omega, rfl, hnext, Lib.hid (rows_snoc HELS.out HVL.out hown3 HCR.out), ?_⟩
              exact (hbw.alloc hszw _).grown hg3 (by simp; omega) (fun q hq => (HOWN.out.lt q hq).1)
            case measure => simp [intOf]; omega
    · obtain rfl : k = bs.length := by omega
      have hfin : Hid (acc = Pl.full (Pl.pieces isBlank bs)) := Lib.hid (by
        have h := hpc.out
        rw [List.drop_length, Pl.pieces_nil] at h
        simpa [Pl.full] using h)
      clear hlt
      go_wp2
      go_returns
      exact ⟨_, rfl, hfin.out ▸ hrr.out, hbw⟩

end Go.Proofs.YtnagiphjlfiifaaDoor
