/-
  A walk over the law's own same: two lists of options and two lists of strings that read alike.
-/
import Derived.Test.YtnagiphjlfiifaaOptRef2
namespace Go.Proofs.Ytnagiphjlfiifaa
open Go.RowKit

theorem strs_get {l : List ByteArray} {k : Nat} (h : k < l.length) : (strs l)[k]? = some (.string l[k]) := by
  simp [strs, List.getElem?_map, List.getElem?_eq_getElem h]
theorem reads_str {w : World} {B : Nat} {A : Option Addr} {l : List ByteArray} (h : Reads w B 1 A l.length (strs l)) {k : Nat} (hk : k < l.length) :
    ∃ ad, A = some ad ∧ ad.block < B ∧ w.cell? (ad.add k) = some (.string l[k]) := by
  obtain ⟨ad, hA, hB, hc⟩ := h.2 (by omega)
  exact ⟨ad, hA, hB, hc _ _ (strs_get hk)⟩

set_option maxHeartbeats 400000 in
theorem same_any (A B C D : Option Addr) (ca cb cc cd : Nat) (l : List Pl.Opt) (s : List ByteArray) (w : World) (N1 N2 N3 N4 : Nat) (ha : Reads w N1 2 A l.length (optCells l)) (hb : Reads w N2 2 B l.length (optCells l))
    (hc : Reads w N3 1 C s.length (strs s)) (hd : Reads w N4 1 D s.length (strs s)) (hl : l.length ≤ 2097152) (hs : s.length ≤ 2097152) :
    Calls Try.prog 8 #[.slice A l.length ca, .slice B l.length cb, .slice C s.length cc, .slice D s.length cd] w fun e w' => e = .returned (.bool true) ∧ ∃ n, w' = w.drewN n := by
  have HA := Lib.hid ha
  have HB := Lib.hid hb
  have HC := Lib.hid hc
  have HD := Lib.hid hd
  clear ha hb hc hd
  go_enter Try.func8, Try.ntmps8
  go_wp2
  go_loopw [9] (fun i wr => ∃ k n : Nat, k ≤ l.length ∧ i = .int .i64 k ∧ wr = w.drewN n) (fun i _ => l.length - (intOf i).toNat)
  case atStart => exact ⟨0, 0, Nat.zero_le _, rfl, rfl⟩
  case round =>
    obtain ⟨k, n, hk, rfl, rfl⟩ := hrel
    by_cases hlt : k < l.length
    · obtain ⟨ad, rfl, _, hc1, hc2⟩ := reads_opt HA.out hlt
      obtain ⟨bd, rfl, _, hd1, hd2⟩ := reads_opt HB.out hlt
      go_wp2
      go_quiet (fail)
      go_wp2
      go_roundw
      case rel => exact ⟨k + 1, n + nq, by omega, by go_num, rfl⟩
      case measure => simp [intOf]; omega
    · go_wp2
      go_loopw [10] (fun i wr => ∃ k n : Nat, k ≤ s.length ∧ i = .int .i64 k ∧ wr = w.drewN n) (fun i _ => s.length - (intOf i).toNat)
      case atStart => exact ⟨0, n, Nat.zero_le _, rfl, rfl⟩
      case round =>
        obtain ⟨k, n, hk, rfl, rfl⟩ := hrel
        by_cases hlt : k < s.length
        · obtain ⟨ad, rfl, _, hc1⟩ := reads_str HC.out hlt
          obtain ⟨bd, rfl, _, hd1⟩ := reads_str HD.out hlt
          go_wp2
          go_quiet (fail)
          go_wp2
          go_roundw
          case rel => exact ⟨k + 1, n + nq, by omega, by go_num, rfl⟩
          case measure => simp [intOf]; omega
        · go_wp2
          go_returns
          exact ⟨rfl, n, rfl⟩
end Go.Proofs.Ytnagiphjlfiifaa
