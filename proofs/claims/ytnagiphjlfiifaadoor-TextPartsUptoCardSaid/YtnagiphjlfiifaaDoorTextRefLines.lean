/-
  A walk over the reference's Lines: the pieces, in the bytes' own memory.
-/
import Derived.Test.YtnagiphjlfiifaaDoorTextPieces
import Derived.Test.YtnagiphjlfiifaaDoorTextRefPlain
import Derived.Test.YtnagiphjlfiifaaDoorTextBackPlain
namespace Go.Proofs.YtnagiphjlfiifaaDoor
open Go.RowKit

/-- a list of pieces, in whatever memory -/
def RowsRead (w : World) (base : Nat) (w0 : World) (v : Value) (ls : List (List UInt8)) : Prop := ∃ vs : List Value, w.ownsRow base 25 1 v ls.length vs ∧ ∀ (i : Nat) (l : List UInt8), ls[i]? = some l → ∃ A ci, vs[i]? = some (.slice A l.length ci) ∧ Reads w0 w0.heap.size 1 A l.length (bytesC l)

theorem run_cut2 {P : Program} (t e : TypeId) (i : TypeInfo) (size : Nat) (ht : P.underlying t = some (.slice e)) (hi : P.info? e = some i) (hs : i.size = size)
    (A : Option Addr) (len cap : Nat) (k k2 : IntKind) (l h : Int) (n m : Nat) (hl : l = (n : Int)) (hh : h = (m : Int)) (hn : n ≤ m) (hm : m ≤ cap) (W : World) :
    (Instr.slice t (.slice A len cap) (some (.int k l)) (some (.int k2 h)) none).run P W = .ok (.slice (cutA A cap n size) (m - n) (cap - n)) W := by
  subst hl hh hs
  have hee : P.elem t = e := by simp only [Program.elem, ht]
  have he : P.underlying t = some (.slice (P.elem t)) := by rw [hee]; exact ht
  simp only [run_slice_lh W t A len cap he k k2 n m (by omega) (by omega) (by omega), hee, sizeOf, typeInfo, Sem.run_bind, Sem.run_pure]
  simp [hi, sliced, cutA, go_sem]

theorem bytesC_cut {w : World} {B n m cap : Nat} {A : Option Addr} {l : List UInt8} (h : Reads w B 1 A l.length (bytesC l)) (hn : n ≤ m) (hm : m ≤ l.length) (hc : l.length ≤ cap) :
    Reads w B 1 (cutA A cap n 1) ((l.drop n).take (m - n)).length (bytesC ((l.drop n).take (m - n))) := by
  have h1 := h.cutA (k := n) (cap := cap) (by omega) hc
  rw [Nat.mul_one, ← bytesC_drop, ← List.length_drop] at h1
  have h2 := take_reads (k := m - n) h1 (by rw [List.length_drop]; omega)
  rw [← bytesC_take] at h2
  have h3 : ((l.drop n).take (m - n)).length = m - n := by rw [List.length_take, List.length_drop]; omega
  rw [h3]
  exact h2

theorem rows_snoc {w : World} {base : Nat} {w0 : World} {v' : Value} {ls : List (List UInt8)} {vs : List Value} {A : Option Addr} {ci : Nat} {l : List UInt8}
    (hls : ∀ (i : Nat) (l : List UInt8), ls[i]? = some l → ∃ A ci, vs[i]? = some (.slice A l.length ci) ∧ Reads w0 w0.heap.size 1 A l.length (bytesC l)) (hvl : vs.length = ls.length)
    (h : w.ownsRow base 25 1 v' (ls.length + 1) (vs ++ [.slice A l.length ci])) (hr : Reads w0 w0.heap.size 1 A l.length (bytesC l)) : RowsRead w base w0 v' (ls ++ [l]) := by
  refine ⟨_, by rw [List.length_append, List.length_singleton]; exact h, fun i l' hi => ?_⟩
  rcases Nat.lt_or_ge i ls.length with hlt | hge
  · rw [List.getElem?_append_left hlt] at hi
    obtain ⟨A', c', h1, h2⟩ := hls i l' hi
    exact ⟨A', c', by rw [List.getElem?_append_left (by omega)]; exact h1, h2⟩
  · rw [List.getElem?_append_right hge] at hi
    have h0 : i - ls.length = 0 := by
      have := (List.getElem?_eq_some_iff.1 hi).1
      simp at this; omega
    rw [h0] at hi
    obtain rfl : l = l' := by simpa using hi
    exact ⟨A, ci, by rw [List.getElem?_append_right (by omega), hvl, h0]; rfl, hr⟩

set_option maxRecDepth 100000 in
set_option maxHeartbeats 2000000 in
theorem reflines_any (A : Option Addr) (cap : Nat) (bs : List UInt8) (w : World) (hb : bs.length ≤ 2097152) (hcap : bs.length ≤ cap) (hr : Reads w w.heap.size 1 A bs.length (bytesC bs)) :
    Calls Tryd.prog 20 #[.slice A bs.length cap] w fun e W' => ∃ v, e = .returned v ∧ RowsRead W' w.heap.size w v (Pl.pieces isLine bs) ∧ Below w.heap.size w W' := by
  obtain ⟨iS, hiS, hS0, hS1, hS2⟩ := info_parts Tryd.infoByte
  have hcut := Lib.hid (fun (A : Option Addr) (len cap n m : Nat) (hn : n ≤ m) (hm : m ≤ cap) (W : World) => run_cut2 (P := Tryd.prog) 25 5 iS 1 Tryd.underlying25 hiS hS1 A len cap .i64 .i64 n m n m rfl rfl hn hm W)
  have hcut1 := Lib.hid (fun (A : Option Addr) (len cap k : Nat) (hk : k ≤ len) (W : World) => run_cut (P := Tryd.prog) 25 5 iS 1 Tryd.underlying25 hiS hS1 A len cap .i64 k k rfl hk W)
  clear hiS hS0 hS1 hS2
  obtain ⟨iR, hiR, hR0, hR1, hR2⟩ := info_parts Tryd.infoBytes
  have HI := Lib.hid hiR
  have H0 := Lib.hid hR0
  have H1 := Lib.hid hR1
  have H2 := Lib.hid hR2
  have HR := Lib.hid hr
  clear hiR hR0 hR1 hR2 hr
  go_enter Tryd.func20, Tryd.ntmps20
  go_wp2
  go_loopw [3, 4, 5] (fun out fr i wr => ∃ (a k : Nat) (acc : List (List UInt8)), a ≤ k ∧ k ≤ bs.length ∧ acc.length ≤ a ∧ fr = .int .i64 a ∧ i = .int .i64 k ∧ Hid (acc ++ Pl.pieces isLine (bs.drop a) = Pl.pieces isLine bs) ∧
    Hid (∀ j, a ≤ j → j < k → ∃ c, bs[j]? = some c ∧ isLine c = false) ∧ Hid (RowsRead wr w.heap.size w out acc) ∧ Below w.heap.size w wr) (fun _ _ i _ => bs.length - (intOf i).toNat)
  case atStart => exact ⟨0, 0, [], Nat.le_refl _, Nat.zero_le _, Nat.le_refl _, rfl, rfl, Lib.hid (by simp), Lib.hid (fun j _ h => absurd h (by omega)), Lib.hid ⟨[], ⟨rfl, .inl ⟨rfl, rfl⟩⟩, fun i l h => by simp at h⟩, Below.refl _ _⟩
  case round =>
    obtain ⟨a, k, acc, hak, hk, hacc, rfl, rfl, hpc, hnl, hrr, hbw⟩ := hrel
    have hszw := hbw.size
    obtain ⟨vs, hown, hels⟩ := hrr.out
    have HOWN := Lib.hid hown
    have HELS := Lib.hid hels
    have hvl : vs.length = acc.length := by have := hown.1; omega
    have HVL := Lib.hid hvl
    clear hown hels hrr hvl
    by_cases hlt : k < bs.length
    · obtain ⟨c, hc⟩ : ∃ c, bs[k]? = some c := ⟨_, List.getElem?_eq_getElem hlt⟩
      obtain ⟨b, off, rfl, hbb, hac⟩ := bytes_at HR.out (by omega)
      have hcc : wr.cell? ⟨b, off + k, none⟩ = some (.int .u8 c.toNat) := (hbw.cell (p := ⟨b, off + k, none⟩) hbb).trans (hac k c hc)
      by_cases h10 : c = 10
      · have hpa := Pl.pieces_at isLine bs a k hak hnl.out c hc (by rw [h10]; rfl)
        have hnext : Hid ((acc ++ [(bs.drop a).take (k - a)]) ++ Pl.pieces isLine (bs.drop (k + 1)) = Pl.pieces isLine bs) := Lib.hid (by rw [← hpc.out, hpa, List.append_assoc]; rfl)
        have hcutr := bytesC_cut (cap := cap) HR.out (n := a) (m := k) hak (by omega) hcap
        have hcl : ((bs.drop a).take (k - a)).length = k - a := by rw [List.length_take, List.length_drop]; omega
        have hsl : ∀ W, (Instr.slice 25 (.slice (some ⟨b, off, none⟩) bs.length cap) (some (.int .i64 (a : Int))) (some (.int .i64 (k : Int))) none).run Tryd.prog W = .ok (.slice (cutA (some ⟨b, off, none⟩) cap a 1) (k - a) (cap - a)) W := fun W => hcut.out (some ⟨b, off, none⟩) bs.length cap a k hak (by omega) W
        subst h10
        rw [show (((10 : UInt8).toNat : Nat) : Int) = 10 from rfl] at hcc
        have HC := Lib.hid hcutr
        have HCL := Lib.hid hcl
        clear hac hpa hcutr hcl hc
        go_wp2_with (at_builtin; refine wpList_append_any _ rfl (.tmp 17) (.tmp 22) 32 rfl w.heap.size 25 iR (.slice none 0 0) 1 24 Tryd.underlying32 HI.out H0.out H1.out H2.out rfl (by decide) _ acc.length vs rfl (HOWN.out.alloc _) (wr.heap.size + 1) (some ⟨wr.heap.size, 0, none⟩) 1 1 [.slice (cutA (some ⟨b, off, none⟩) cap a 1) (k - a) (cap - a)] rfl (row_new wr _) (by simp [Value.oneCell']) (by simp only [maxLen]; omega) (by omega) (by simp; omega) ?_; intro v3 w3 hown3 hg3 hat3)
        go_roundw
        case rel =>
          rw [← HCL.out] at hown3
          refine ⟨k + 1, k + 1, acc ++ [(bs.drop a).take (k - a)], Nat.le_refl _, by omega, by rw [List.length_append, List.length_singleton]; omega, by go_num, by go_num, hnext, Lib.hid (fun j h1 h2 => absurd h2 (by omega)), Lib.hid (rows_snoc HELS.out HVL.out hown3 HC.out), ?_⟩
          exact (hbw.alloc hszw _).grown hg3 (by simp; omega) (fun q hq => (HOWN.out.lt q hq).1)
        case measure => simp [intOf]; omega
      · have hx : ((c.toNat : Int) == 10) = false := by
          rw [beq_eq_false_iff_ne]
          intro e
          have h1 : (10 : UInt8).toNat = 10 := rfl
          exact h10 (UInt8.toNat_inj.1 (by omega))
        have hnl' : Hid (∀ j, a ≤ j → j < k + 1 → ∃ c, bs[j]? = some c ∧ isLine c = false) := Lib.hid fun j h1 h2 => by
          by_cases hjk : j < k
          · exact hnl.out j h1 hjk
          · obtain rfl : j = k := by omega
            exact ⟨c, hc, by simpa [isLine] using h10⟩
        clear hac hc h10
        go_wp2
        go_roundw
        case rel => exact ⟨a, k + 1, acc, by omega, by omega, hacc, rfl, by go_num, hpc, hnl', Lib.hid ⟨vs, HOWN.out, HELS.out⟩, hbw⟩
        case measure => simp [intOf]; omega
    · obtain rfl : k = bs.length := by omega
      have hpe := Pl.pieces_end isLine bs a hak hnl.out
      by_cases hal : a < bs.length
      · have hfin : Hid (acc ++ [bs.drop a] = Pl.pieces isLine bs) := Lib.hid (by rw [← hpc.out, hpe, if_pos hal])
        have hcutr := bytesC_cut (cap := cap) HR.out (n := a) (m := bs.length) hak (Nat.le_refl _) hcap
        have hdr : (bs.drop a).take (bs.length - a) = bs.drop a := List.take_of_length_le (by rw [List.length_drop]; omega)
        rw [hdr] at hcutr
        have hcl : (bs.drop a).length = bs.length - a := List.length_drop
        obtain ⟨q, hq⟩ : ∃ q, bs.length = q := ⟨_, rfl⟩
        rw [hq] at hb hcap hak hal hcl ⊢
        have hsl : ∀ W, (Instr.slice 25 (.slice A q cap) (some (.int .i64 (a : Int))) none none).run Tryd.prog W = .ok (.slice (cutA A cap a 1) (q - a) (cap - a)) W := fun W => hcut1.out A q cap a hak W
        have HC := Lib.hid hcutr
        have HCL := Lib.hid hcl
        have HQ := Lib.hid hq
        clear hpe hcutr hdr hcl hq hk hlt
        go_wp2_with (at_builtin; refine wpList_append_any _ rfl (.tmp 30) (.tmp 34) 32 rfl w.heap.size 25 iR (.slice none 0 0) 1 24 Tryd.underlying32 HI.out H0.out H1.out H2.out rfl (by decide) _ acc.length vs rfl (HOWN.out.alloc _) (wr.heap.size + 1) (some ⟨wr.heap.size, 0, none⟩) 1 1 [.slice (cutA A cap a 1) (q - a) (cap - a)] rfl (row_new wr _) (by simp [Value.oneCell']) (by simp only [maxLen]; omega) (by omega) (by simp; omega) ?_; intro v3 w3 hown3 hg3 hat3)
        go_returns
        rw [← HCL.out] at hown3
        refine ⟨_, rfl, ?_, (hbw.alloc hszw _).grown hg3 (by simp; omega) (fun q hq => (HOWN.out.lt q hq).1)⟩
        rw [← hfin.out]
        exact rows_snoc HELS.out HVL.out hown3 HC.out
      · have hfin : Hid (acc = Pl.pieces isLine bs) := Lib.hid (by rw [← hpc.out, hpe, if_neg hal, List.append_nil])
        have hal' : bs.length ≤ a := by omega
        clear hpe hlt hal
        go_wp2
        go_returns
        exact ⟨_, rfl, hfin.out ▸ ⟨vs, HOWN.out, HELS.out⟩, hbw⟩

end Go.Proofs.YtnagiphjlfiifaaDoor
