/-
  Parts of the proof.
-/
import Derived.Test.YtffffjngodinnaaGreatDoorV19
import Derived.Test.YtffffjngodinnaaGreatDoorV12
namespace Go.Proofs.YtffffjngodinnaaGreatDoor
section
set_option maxRecDepth 100000
open Go.RowKit Go.Maps
theorem segs_len_pl (l : List UInt8) : (Abs.segs l).length <= l.length + 1 := by
 induction l with
 | nil => simp [Abs.segs]
 | cons c l ih =>
   unfold Abs.segs
   split
   · simp; omega
   · split
     · simp
     · rename_i h
       rw [h] at ih
       simp at ih ⊢
       omega
theorem below_thru {w W w' : World} (h : Below w.heap.size w W) (h' : Below W.heap.size W w') : Below w.heap.size w w' := h.trans (h'.mono h.size)
def Abs.plain : List UInt8 -> Bool
 | 47 :: l => (Abs.segs l).all Abs.named
 | _ => false
set_option maxHeartbeats 2000000 in
theorem plain_any (s : ByteArray) (w : World) (hs : s.size < 4294967281) : Calls Tryz.prog 91 #[.string s] w fun e w' => e = .returned (.bool (Abs.plain s.data.toList)) /\ Below w.heap.size w w' := by
 have hcut := Tryz.strings_CutPrefix s ⟨#[47]⟩ w
 obtain ⟨R, hR⟩ : ∃ R, Abs.plain s.data.toList = R := ⟨_, rfl⟩
 rw [hR]
 have HR := Lib.hid hR
 clear hR
 cases hp : Lib.hasPrefix s.data.toList (⟨#[47]⟩ : ByteArray).data.toList with
 | false =>
   rw [hp] at hcut
   have hRf : R = false := by
    rw [<- HR.out]
    cases hl : s.data.toList with
    | nil => rfl
    | cons c l =>
      rw [hl] at hp
      unfold Abs.plain
      split
      · rename_i h
        cases h
        exact absurd hp (by simp [Lib.hasPrefix, List.isPrefixOf])
      · rfl
   subst hRf
   go_enter Tryz.func91, Tryz.ntmps91
   go_wp2_with (go_at_call 120; refine hcut.mono ?_; rintro e w1 ⟨rfl, rfl⟩)
   go_returns
   exact ⟨rfl, Below.refl _ _⟩
 | true =>
   rw [hp] at hcut
   obtain ⟨l, hl⟩ : ∃ l, s.data.toList = 47 :: l := by
    cases hl : s.data.toList with
    | nil => rw [hl] at hp; simp [Lib.hasPrefix] at hp
    | cons c l =>
      rw [hl] at hp
      have h : ((47 : UInt8) == c && List.isPrefixOf [] l) = true := hp
      have : c = 47 := by
       rw [Bool.and_eq_true, beq_iff_eq] at h
       exact h.1.symm
      exact ⟨l, by rw [this]⟩
   have htr : (⟨(Lib.trimPrefix s.data.toList (⟨#[47]⟩ : ByteArray).data.toList).toArray⟩ : ByteArray) = ⟨l.toArray⟩ := by
    rw [hl]
    have : Lib.hasPrefix (47 :: l) [47] = true := by simp [Lib.hasPrefix, List.isPrefixOf]
    show (⟨(Lib.trimPrefix (47 :: l) [47]).toArray⟩ : ByteArray) = _
    rw [Lib.trimPrefix, if_pos this]
    rfl
   have hcut' : Calls Tryz.prog 120 #[.string s, .string ⟨#[47]⟩] w fun e w' => e = .returned (.tuple #[.string ⟨l.toArray⟩, .bool true]) /\ w' = w := by rw [<- htr]; exact hcut
   have hls : s.size = l.length + 1 := by
    have : s.size = s.data.toList.length := by simp
    rw [this, hl]; rfl
   have hsp := splitSlash ⟨l.toArray⟩ w (by show l.toArray.size < _; rw [List.size_toArray]; omega)
   have hRR : ((segsB ⟨l.toArray⟩).map fun b => Abs.named b.data.toList).all id = R := by
    rw [<- HR.out, hl]
    show _ = (Abs.segs l).all Abs.named
    simp [segsB, List.all_map, Function.comp_def]
   obtain ⟨B, hB⟩ : ∃ B, segsB ⟨l.toArray⟩ = B := ⟨_, rfl⟩
   rw [hB] at hsp hRR
   obtain ⟨n, hn⟩ : ∃ n, B.length = n := ⟨_, rfl⟩
   obtain ⟨W, hW⟩ : ∃ W, w.alloc (.cells (B.map Value.string).toArray 9) = W := ⟨_, rfl⟩
   have hbW : Below w.heap.size w W := by rw [<- hW]; exact (Below.refl _ w).alloc (Nat.le_refl _) _
   have kW : Blk W w.heap.size 9 (B.map Value.string).toArray := by rw [<- hW]; exact Blk.new w _ _
   rw [hn, hW] at hsp
   have HK := Lib.hid kW
   have HBW := Lib.hid hbW
   have HN := Lib.hid hn
   have HRR := Lib.hid hRR
   have hnl : n <= 4611686018427387904 := by
    have h1 := congrArg List.length hB
    rw [hn] at h1
    have h3 := segs_len_pl l
    have h4 : (segsB ⟨l.toArray⟩).length = (Abs.segs l).length := by simp [segsB]
    omega
   obtain ⟨g, hg⟩ : ∃ g, w.heap.size = g := ⟨_, rfl⟩
   rw [hg] at hsp
   have HG := Lib.hid hg
   clear hcut htr hl hls hB hn hW hbW kW hRR hp hg
   go_enter Tryz.func91, Tryz.ntmps91
   go_wp2_with (first
    | (go_at_call 120; refine hcut'.mono ?_; rintro e w1 ⟨rfl, hw1⟩; obtain rfl : w = w1 := hw1.symm)
    | (go_at_call 121; refine hsp.mono ?_; rintro e w1 ⟨rfl, hw1⟩; obtain rfl : W = w1 := hw1.symm))
   go_loopw [6, 17] (fun _ iv wr => ∃ i : Nat, i <= n /\ iv = .int .i64 (i : Int) /\ Hid (Below W.heap.size W wr) /\ Hid (((B.drop i).map fun b => Abs.named b.data.toList).all id = R)) (fun _ iv _ => n - (intOf iv).toNat)
   case atStart => exact ⟨0, Nat.zero_le _, rfl, Lib.hid (Below.refl _ _), HRR⟩
   case round =>
    obtain ⟨i, hi, rfl, HBE, HREST⟩ := hrel
    by_cases hlt : i < n
    · have hkk := Blk.on HK.out HBE.out
      obtain ⟨x, hx⟩ : ∃ x, B[i]? = some x := ⟨_, List.getElem?_eq_getElem (by rw [HN.out]; exact hlt)⟩
      have hcell : wr.cell? ⟨g, i, none⟩ = some (.string x) := by
       rw [<- HG.out, hkk.cell i]
       simp [List.getElem?_map, hx]
      have hdrop : B.drop i = x :: B.drop (i + 1) := by
       rw [List.drop_eq_getElem_cons (by rw [HN.out]; exact hlt)]
       rw [List.getElem?_eq_getElem (by rw [HN.out]; exact hlt)] at hx
       rw [Option.some.inj hx]
      have he := HREST.out
      rw [hdrop, List.map_cons, List.all_cons] at he
      have hnm := named_any x wr
      have HE := Lib.hid he
      have hi0 : (0 : Int) <= (i : Int) := by omega
      have hi1 : (i : Int) < (n : Int) := by omega
      clear hkk hx hdrop he
      cases hnx : Abs.named x.data.toList with
      | false =>
        rw [hnx] at hnm
        have hRf : R = false := by have := HE.out; rw [hnx] at this; simpa using this.symm
        subst hRf
        go_wp2_with (go_at_call 122; refine hnm.mono ?_; rintro e w2 ⟨rfl, hb2⟩)
        go_returns
        exact ⟨rfl, below_thru (below_thru HBW.out HBE.out) hb2⟩
      | true =>
        rw [hnx] at hnm
        have hR2 : ((B.drop (i + 1)).map fun b => Abs.named b.data.toList).all id = R := by have := HE.out; rw [hnx] at this; simpa using this
        have HR2 := Lib.hid hR2
        clear hR2
        go_wp2_with (go_at_call 122; refine hnm.mono ?_; rintro e w2 ⟨rfl, hb2⟩)
        exact ⟨⟨i + 1, by omega, by go_num, Lib.hid (below_thru HBE.out hb2), HR2⟩, by simp [intOf]; omega⟩
    · obtain rfl : i = n := by omega
      have he := HREST.out
      rw [List.drop_eq_nil_of_le (by rw [HN.out]; exact Nat.le_refl _)] at he
      have hRt : R = true := by simpa using he.symm
      subst hRt
      go_wp2_with fail
      go_returns
      exact ⟨rfl, below_thru HBW.out HBE.out⟩
end
end Go.Proofs.YtffffjngodinnaaGreatDoor
