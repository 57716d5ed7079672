/-
  Parts of the proof.
-/
import Derived.Test.YtffffjngodinnaaGreatDoorV18
import Derived.Test.YtffffjngodinnaaGreatDoorV02
namespace Go.Proofs.YtffffjngodinnaaGreatDoor
section
open Go.RowKit
theorem segs_split (s : List UInt8) : Lib.splitK [47] 0 (s.count 47) s = Abs.segs s := by
 induction s with
 | nil => rfl
 | cons c l ih =>
   unfold Abs.segs
   by_cases hc : c = 47
   · subst hc
     rw [if_pos rfl, List.count_cons_self]
     unfold Lib.splitK
     have h0 : Lib.index (47 :: l) [47] = 0 := by rw [Lib.index_one]; simp [Lib.indexByte]
     rw [h0, if_neg (by decide)]
     simp [ih]
   · rw [if_neg hc, List.count_cons_of_ne hc, <- ih]
     cases hk : l.count 47 with
     | zero => simp [Lib.splitK]
     | succ k =>
       have hm : (47 : UInt8) ∈ l := List.count_pos_iff.1 (by omega)
       have hne : Lib.indexByte l 47 ≠ -1 := by
        intro h
        obtain ⟨i, hi⟩ := List.mem_iff_getElem?.1 hm
        exact Lib.indexByte_none h i hi
       have hge := Lib.indexByte_ge l 47
       obtain ⟨o, ho⟩ : ∃ o : Nat, Lib.indexByte l 47 = o := ⟨(Lib.indexByte l 47).toNat, by omega⟩
       have hcb : (c == 47) = false := beq_eq_false_iff_ne.2 hc
       have h1 : Lib.index (c :: l) [47] = ((o + 1 : Nat) : Int) := by
        rw [Lib.index_one]
        unfold Lib.indexByte
        rw [hcb, ho]
        have : ((o : Int) == -1) = false := beq_eq_false_iff_ne.2 (by omega)
        simp [this]
       have h2 : Lib.index l [47] = (o : Int) := by rw [Lib.index_one, ho]
       unfold Lib.splitK
       rw [h1, h2, if_neg (by simp; omega), if_neg (by simp)]
       simp
def segsB (s : ByteArray) : List ByteArray := (Abs.segs s.data.toList).map fun l => ⟨l.toArray⟩
theorem segsB_split (s : ByteArray) : Lib.splitB ⟨#[47]⟩ 0 (Lib.countB s ⟨#[47]⟩) s = segsB s := by
 have h := Lib.splitB_data ⟨#[47]⟩ 0 (Lib.countB s ⟨#[47]⟩) s
 have hc : Lib.countB s ⟨#[47]⟩ = s.data.toList.count 47 := Lib.count_one 47 s.data.toList
 have h2 : (Lib.splitB ⟨#[47]⟩ 0 (Lib.countB s ⟨#[47]⟩) s).map (·.data.toList) = Abs.segs s.data.toList := by
  rw [h, hc]
  exact segs_split s.data.toList
 unfold segsB
 rw [<- h2, List.map_map]
 refine (List.map_id _).symm.trans (List.map_congr_left fun b _ => ?_)
 cases b
 rfl
theorem splitSlash (s : ByteArray) (w : World) (hs : s.size < 4294967281) :
 Calls Tryz.prog 121 #[.string s, .string ⟨#[47]⟩] w fun e w' =>
  e = .returned (.slice (some ⟨w.heap.size, 0, none⟩) (segsB s).length (segsB s).length) /\ w' = w.alloc (.cells ((segsB s).map Value.string).toArray 9) := by
 have hsz : (⟨#[47]⟩ : ByteArray).size = 1 := rfl
 have hC : Calls Tryz.prog 174 #[.string s, .string ⟨#[47]⟩] w fun e w' => e = .returned (.int .i64 (Lib.countB s ⟨#[47]⟩)) /\ w' = w := by
  refine (Tryz.strings_Count_one s 47 w).mono fun e w' ⟨he, hw⟩ => ⟨?_, hw⟩
  rw [he]
  show _ = Ending.returned (Value.int .i64 ((Lib.count s.data.toList [47] : Nat) : Int))
  rw [Lib.count_one]
  rfl
 have hI : ∀ (x : ByteArray) (c : Array Value), x.size <= s.size -> Calls Tryz.prog 175 #[.string x, .string ⟨#[47]⟩] (w.alloc (.cells c 9)) fun e w' => e = .returned (.int .i64 (Lib.indexB x ⟨#[47]⟩)) /\ w' = w.alloc (.cells c 9) := by
  intro x c _
  refine (Tryz.strings_Index_one x 47 _).mono fun e w' ⟨he, hw⟩ => ⟨?_, hw⟩
  rw [he]
  show _ = Ending.returned (Value.int .i64 (Lib.index x.data.toList [47]))
  rw [Lib.index_one]
 have hle := Lib.countB_le ⟨#[47]⟩ (by decide) s.size s (Nat.le_refl _)
 have hlen := Lib.splitB_all ⟨#[47]⟩ (by decide) 0 _ s rfl
 have c := Any.strings_genSplit_core Tryz.lays221 (by kernel_rfl) s ⟨#[47]⟩ 0 (-1) (Lib.countB s ⟨#[47]⟩ + 1) w hs (by decide) (by decide) hI hC (by decide) (by decide) (by rw [if_pos (by decide)]; omega)
 rw [Nat.add_sub_cancel, hlen] at c
 have e2 : Lib.cellsOf (Lib.splitB ⟨#[47]⟩ 0 (Lib.countB s ⟨#[47]⟩) s) (Lib.countB s ⟨#[47]⟩ + 1) = ((Lib.splitB ⟨#[47]⟩ 0 (Lib.countB s ⟨#[47]⟩) s).map Value.string).toArray := by rw [<- hlen]; exact Lib.cellsOf_full _
 rw [e2] at c
 have hl2 : Lib.countB s ⟨#[47]⟩ + 1 = (segsB s).length := by rw [<- hlen, segsB_split]
 rw [segsB_split, hl2] at c
 go_enter Tryz.func121, Tryz.ntmps121
 go_wp2_with (go_at_call 151; refine c.mono ?_; rintro e w' ⟨rfl, hw⟩; rw [hw])
 go_ret
 exact ⟨rfl, rfl⟩
end
section
set_option maxRecDepth 100000
open Go.RowKit
theorem decode_hi (s : ByteArray) (i : Nat) (h0 : 128 <= (s.get! i).toNat) :
 128 <= (Utf8.decode s i).1 /\ ((Utf8.decode s i).1 < 55296 \/ 57344 <= (Utf8.decode s i).1 /\ (Utf8.decode s i).1 <= 1114111) /\ 1 <= (Utf8.decode s i).2 /\ ∀ k, 1 <= k -> k < (Utf8.decode s i).2 -> i + k < s.size /\ 128 <= (s.get! (i + k)).toNat := by
 obtain ⟨d, hd⟩ : ∃ d, Utf8.decode s i = d := ⟨_, rfl⟩
 rw [hd]
 unfold Utf8.decode at hd
 obtain ⟨b0, e0⟩ : ∃ b, (s.get! i).toNat = b := ⟨_, rfl⟩
 obtain ⟨b1, e1⟩ : ∃ b, (s.get! (i + 1)).toNat = b := ⟨_, rfl⟩
 obtain ⟨b2, e2⟩ : ∃ b, (s.get! (i + 2)).toNat = b := ⟨_, rfl⟩
 obtain ⟨b3, e3⟩ : ∃ b, (s.get! (i + 3)).toNat = b := ⟨_, rfl⟩
 have l0 : b0 < 256 := by rw [<- e0]; exact (s.get! i).toNat_lt
 rw [e0] at h0
 simp only [Nat.add_zero, e0, e1, e2, e3, Bool.and_eq_true, decide_eq_true_eq, beq_iff_eq, Utf8.valid, Bool.or_eq_true, ge_iff_le] at hd
 rw [if_neg (show ¬ b0 < 128 by omega)] at hd
 have bad : ∀ d, (Utf8.runeError, 1) = d -> 128 <= d.1 /\ (d.1 < 55296 \/ 57344 <= d.1 /\ d.1 <= 1114111) /\ 1 <= d.2 /\ ∀ k, 1 <= k -> k < d.2 -> i + k < s.size /\ 128 <= (s.get! (i + k)).toNat := by
  rintro d rfl
  refine ⟨by decide, by decide, by decide, fun k h1 h2 => ?_⟩
  simp only at h2
  omega
 split at hd
 · split at hd
   · subst hd
     refine ⟨by simp only; omega, by simp only; omega, by simp only; omega, fun k h1 h2 => ?_⟩
     simp only at h2
     obtain rfl : k = 1 := by omega
     exact ⟨by omega, by omega⟩
   · exact bad _ hd
 · split at hd
   · split at hd
     · subst hd
       refine ⟨by simp only; omega, by simp only; omega, by simp only; omega, fun k h1 h2 => ?_⟩
       simp only at h2
       rcases (show k = 1 \/ k = 2 by omega) with rfl | rfl
       · exact ⟨by omega, by omega⟩
       · exact ⟨by omega, by omega⟩
     · exact bad _ hd
   · split at hd
     · split at hd
       · subst hd
         refine ⟨by simp only; omega, by simp only; omega, by simp only; omega, fun k h1 h2 => ?_⟩
         simp only at h2
         rcases (show k = 1 \/ k = 2 \/ k = 3 by omega) with rfl | rfl | rfl
         · exact ⟨by omega, by omega⟩
         · exact ⟨by omega, by omega⟩
         · exact ⟨by omega, by omega⟩
       · exact bad _ hd
     · exact bad _ hd
theorem encode_hi (r : Int) (h0 : 128 <= r) (h1 : r <= 1114111) : ∃ s : ByteArray, Utf8.encode r = s /\ 2 <= s.size /\ s.size <= 4 /\ ∃ x : UInt8, s.data.toList[s.size - 1]? = some x /\ 128 <= x.toNat := by
 obtain ⟨d, hd⟩ : ∃ d, Utf8.encode r = d := ⟨_, rfl⟩
 refine ⟨d, hd, ?_⟩
 unfold Utf8.encode at hd
 obtain ⟨c, hc⟩ : ∃ c, (if Utf8.valid r then r.toNat else Utf8.runeError) = c := ⟨_, rfl⟩
 have hc1 : 128 <= c := by
  rw [<- hc]
  split
  · omega
  · decide
 have hlast : ∀ n : Nat, 128 <= (UInt8.ofNat (0x80 + n % 64)).toNat := fun n => by simp; omega
 simp only [hc] at hd
 rw [if_neg (show ¬ c < 128 by omega)] at hd
 split at hd
 · subst hd; exact ⟨show 2 <= 2 by decide, show 2 <= 4 by decide, _, rfl, hlast _⟩
 · split at hd
   · subst hd; exact ⟨show 2 <= 3 by decide, show 3 <= 4 by decide, _, rfl, hlast _⟩
   · subst hd; exact ⟨show 2 <= 4 by decide, show 4 <= 4 by decide, _, rfl, hlast _⟩
theorem below_iter (w : World) (s : ByteArray) (n : Nat) : Below w.heap.size w (w.iter s n) := by
 have h := (Below.refl w.heap.size w).alloc (Nat.le_refl _) (.stringIter s n)
 exact h
set_option maxHeartbeats 2000000 in
theorem idxRuneHi (r : Int) (h0 : 128 <= r) (h1 : r < 55296 \/ 57344 <= r /\ r <= 1114111) (w : World) :
 Calls Tryz.prog 187 #[.string ⟨#[47, 0]⟩, .int .i32 r] w fun e w' => e = .returned (.int .i64 (-1)) /\ Below w.heap.size w w' := by
 by_cases he : r = 65533
 · subst he
   have n0 := fun ty => run_next_ascii (P := Tryz.prog) w ⟨#[47, 0]⟩ 0 ty (by decide) (by decide)
   have n1 := fun ty => run_next_ascii (P := Tryz.prog) w ⟨#[47, 0]⟩ 1 ty (by decide) (by decide)
   have n2 := fun ty => run_next_end (P := Tryz.prog) w ⟨#[47, 0]⟩ 2 ty (by decide)
   go_enter Tryz.func187, Tryz.ntmps187
   go_wp2
   refine wp_loop_rounds 3 ?_
   rw [rounds_succ]
   go_wp2
   rw [rounds_succ]
   go_wp2
   rw [rounds_succ]
   go_wp2
   go_ret
   exact ⟨rfl, below_iter w _ 2⟩
 · have hne : (r == 65533) = false := beq_eq_false_iff_ne.2 he
   obtain ⟨R, hR, hR2, hR4, x, hx, hx8⟩ := encode_hi r h0 (by omega)
   have hv : Lib.validRune r = true := by
    simp [Lib.validRune]
    omega
   have HX := Lib.hid hx
   clear hx
   have z0 : ((0 : Int) == (x.toNat : Int)) = false := beq_eq_false_iff_ne.2 (by omega)
   rcases (show R.size = 2 \/ 3 <= R.size by omega) with h2 | h3
   · obtain ⟨y, rfl⟩ : ∃ y, R = ⟨#[y, x]⟩ := by
      have hx := HX.out
      obtain ⟨⟨l⟩⟩ := R
      have hl : l.length = 2 := h2
      match l, hl with
      | [a, b], _ =>
        have e1 : b = x := by injection hx
        exact ⟨a, by rw [e1]⟩
     go_enter Tryz.func187, Tryz.ntmps187
     go_wp2_with (go_at_call 209; refine (Tryz.utf8_ValidRune _ _).mono ?_; rintro e w' ⟨rfl, hw⟩; rw [hw, hv])
     go_step3
     go_wp2_with fail
     refine wp_loop_rounds 1 ?_
     rw [rounds_succ]
     go_wp2
     go_step3
     go_wp2
     have hz : ((((⟨#[47, 0]⟩ : ByteArray)[1]'(by decide)).toNat : Int) != (((⟨#[y, x]⟩ : ByteArray)[1]'(show 1 < 2 by decide)).toNat : Int)) = true := by
      show ((0 : Int) != (x.toNat : Int)) = true
      rw [bne, z0]; rfl
     go_quiet (fail)
     go_wp2
     go_quiet ((go_at_call 208; exact quiet_add_same ((Tryz.strings_IndexByte (⟨#[]⟩) _ _).mono fun _ _ h => h)))
     go_wp2
     rw [Exit.noGoto_ret]
     go_wp2
     rw [Exit.noGoto_ret]
     go_ret
     exact ⟨rfl, below_drewN (Below.refl _ _) _⟩
   · go_enter Tryz.func187, Tryz.ntmps187
     go_wp2_with (go_at_call 209; refine (Tryz.utf8_ValidRune _ _).mono ?_; rintro e w' ⟨rfl, hw⟩; rw [hw, hv])
     go_step3
     go_wp2_with fail
     refine wp_loop_rounds 1 ?_
     rw [rounds_succ]
     go_wp2
     rw [Exit.noGoto_ret]
     go_ret
     exact ⟨rfl, Below.refl _ _⟩
theorem below_iterAt {w wr : World} {s : ByteArray} {n : Nat} (h : Below w.heap.size w wr) : Below w.heap.size w (wr.iterAt w.heap.size s n) :=
 ⟨h.os, h.tape, h.output, by simpa [World.iterAt] using h.size, fun g hg => (by
  show (wr.heap.setIfInBounds w.heap.size _)[g]? = _
  rw [Array.getElem?_setIfInBounds_ne (by omega)]
  exact h.block g hg)⟩
set_option maxHeartbeats 2000000 in
theorem idxAnyShort (s : ByteArray) (h8 : s.size <= 8) (w : World) :
 Calls Tryz.prog 176 #[.string s, .string ⟨#[47, 0]⟩] w fun e w' => e = .returned (.int .i64 (Lib.indexAny s.data.toList [47, 0])) /\ Below w.heap.size w w' := by
 have h8z : decide ((8 : Int) < (s.size : Int)) = false := decide_eq_false (by omega)
 have hw0 : Below w.heap.size w (w.alloc (.stringIter s 0)) := (Below.refl _ w).alloc (Nat.le_refl _) _
 go_enter Tryz.func176, Tryz.ntmps176
 go_wp2_with (go_at_call 188; refine (Tryz.strings_shouldUseASCIISet _ _).mono ?_; rintro e w' ⟨rfl, hw⟩; rw [hw, h8z])
 go_loopg [9, 10] s.size (fun g _ _ wx => ∃ i : Nat, g = s.size - i /\ i <= s.size /\ Below w.heap.size w wx /\ wx.heap[w.heap.size]? = some (.stringIter s i) /\ Hid (Lib.NoAny s.data.toList [47, 0] i))
 case atStart => exact ⟨0, rfl, Nat.zero_le _, hw0, World.iter_heap w _ _, Lib.hid (Lib.NoAny.zero _ _)⟩
 case round =>
  obtain ⟨i, hig, hile, hbw, hit, hno⟩ := hrel
  by_cases hi : i < s.size
  · obtain ⟨x, hx⟩ : ∃ x : UInt8, s[i]'hi = x := ⟨_, rfl⟩
    have hxl : s.data.toList[i]? = some x := by rw [<- hx]; exact Lib.data_getElem? s i hi
    by_cases h128 : x.toNat < 128
    · have hnx := fun ty => Lib.run_next_ascii_at (P := Tryz.prog) wr w.heap.size s i ty hit hi (by rw [hx]; exact h128)
      rw [hx] at hnx
      have hcon := Lib.contains_iff_indexByte [47, 0] x
      have hback : ((x.toNat : Int)).toNat.toUInt8 = x := by simp
      have Hx := Lib.hid hxl
      clear hxl hx
      have hit2 := Lib.iterAt_heap wr w.heap.size s i (i + 1) hit
      have hbw2 : Below w.heap.size w (wr.iterAt w.heap.size s (i + 1)) := below_iterAt hbw
      cases hin : ([47, 0] : List UInt8).contains x
      · rw [hin] at hcon
        have hlt : ¬ ((0 : Int) <= Lib.indexByte [47, 0] x) := of_decide_eq_false hcon.symm
        clear hcon
        go_wp2_with (go_at_call 187; refine (Tryz.strings_IndexRune_ascii _ _ _ (by omega) (by omega)).mono ?_; rintro e w' ⟨rfl, hw⟩; rw [hw, hback])
        go_roundg (s.size - (i + 1))
        case measure => omega
        case rel => exact ⟨i + 1, rfl, by omega, hbw2, hit2, Lib.hid (hno.out.succ Hx.out hin)⟩
      · rw [hin] at hcon
        have hge : (0 : Int) <= Lib.indexByte [47, 0] x := of_decide_eq_true hcon.symm
        clear hcon
        go_wp2_with (go_at_call 187; refine (Tryz.strings_IndexRune_ascii _ _ _ (by omega) (by omega)).mono ?_; rintro e w' ⟨rfl, hw⟩; rw [hw, hback])
        go_ret
        exact ⟨by rw [Lib.indexAny_hit hno.out Hx.out hin]; rfl, hbw2⟩
    · have hnx := fun ty => Lib.run_next_any_at (P := Tryz.prog) wr w.heap.size s i ty hit hi
      have hg : s.get! i = x := by
       have h1 : s.get! i = s.data[i]! := rfl
       rw [h1, getElem!_pos s.data i hi]
       exact hx
      obtain ⟨d1, d2, d3, d4⟩ := decode_hi s i (by rw [hg]; omega)
      obtain ⟨n, hn⟩ : ∃ n, (Utf8.decode s i).2 = n := ⟨_, rfl⟩
      obtain ⟨r, hr⟩ : ∃ r, (Utf8.decode s i).1 = r := ⟨_, rfl⟩
      rw [hr] at d1 d2
      rw [hn] at d3 d4
      rw [hn, hr] at hnx
      have hit2 := Lib.iterAt_heap wr w.heap.size s i (i + n) hit
      have hbw2 : Below w.heap.size w (wr.iterAt w.heap.size s (i + n)) := below_iterAt hbw
      have hin : i + n <= s.size := by
       by_cases h1 : n = 1
       · omega
       · have := (d4 (n - 1) (by omega) (by omega)).1; omega
      have hno2 : Hid (Lib.NoAny s.data.toList [47, 0] (i + n)) := Lib.hid (by
       intro j b hj hb
       by_cases hji : j < i
       · exact hno.out j b hji hb
       · have hjs : j < s.size := by omega
         have hb2 : s.get! j = b := by
          have h1 : s.get! j = s.data[j]! := rfl
          rw [h1, getElem!_pos s.data j hjs]
          have := Lib.data_getElem? s j hjs
          rw [this] at hb
          exact Option.some.inj hb
         have hb3 : 128 <= b.toNat := by
          by_cases hje : j = i
          · subst hje; rw [<- hb2, hg]; omega
          · have := (d4 (j - i) (by omega) (by omega)).2
            rw [show i + (j - i) = j by omega, hb2] at this
            exact this
         simp only [List.contains_cons, List.contains_nil, Bool.or_false, Bool.or_eq_false_iff, beq_eq_false_iff_ne, ne_eq]
         exact ⟨by rintro rfl; exact absurd hb3 (by decide), by rintro rfl; exact absurd hb3 (by decide)⟩)
      clear hn hr d4 hg hx hxl
      go_wp2_with (go_at_call 187; refine (idxRuneHi _ (by omega) (by omega) _).mono ?_; rintro e w2 ⟨rfl, hb2⟩)
      go_roundg (s.size - (i + n))
      case measure => omega
      case rel => exact ⟨i + n, rfl, hin, hbw2.trans (hb2.mono (Nat.le_trans hbw2.size (Nat.le_refl _))), (hb2.block _ (Array.getElem?_eq_some_iff.1 hit2).1).trans hit2, hno2⟩
  · obtain rfl : i = s.size := by omega
    have hnx := fun ty => Lib.run_next_end_at (P := Tryz.prog) wr w.heap.size s s.size ty hit (by omega)
    go_wp2
    go_ret
    exact ⟨by rw [Lib.indexAny_none (by rw [<- Lib.size_eq]; exact hno.out)]; rfl, hbw⟩
theorem idxAny_any (l : List UInt8) : decide (0 <= Lib.indexAny l [47, 0]) = l.any fun c => c == 47 || c == 0 := by
 induction l with
 | nil => rfl
 | cons b l ih =>
   have hge := Lib.indexAny_ge [47, 0] l
   rw [List.any_cons, <- ih]
   rw [show Lib.indexAny (b :: l) [47, 0] = if ([47, 0] : List UInt8).contains b = true then 0 else if (Lib.indexAny l [47, 0] == -1) = true then -1 else Lib.indexAny l [47, 0] + 1 from rfl]
   by_cases hb : b = 47 \/ b = 0
   · rcases hb with rfl | rfl <;> simp
   · obtain ⟨h1, h2⟩ := not_or.1 hb
     have hc : ([47, 0] : List UInt8).contains b = false := by simp [h1, h2]
     simp only [hc, Bool.false_eq_true, if_false, beq_eq_false_iff_ne.2 h1, beq_eq_false_iff_ne.2 h2, Bool.or_false, Bool.false_or]
     by_cases hm : Lib.indexAny l [47, 0] = -1
     · rw [hm]; rfl
     · rw [if_neg (by simpa using hm)]
       rw [decide_eq_decide]
       omega
set_option maxHeartbeats 2000000 in
theorem containsAny_any (s : ByteArray) (w : World) (hs : s.size < 4294967281) :
 Calls Tryz.prog 152 #[.string s, .string ⟨#[47, 0]⟩] w fun e w' => e = .returned (.bool (s.data.toList.any fun c => c == 47 || c == 0)) /\ Below w.heap.size w w' := by
 have hI : Calls Tryz.prog 176 #[.string s, .string ⟨#[47, 0]⟩] w fun e w' => e = .returned (.int .i64 (Lib.indexAny s.data.toList [47, 0])) /\ Below w.heap.size w w' := by
  by_cases h8 : s.size <= 8
  · exact idxAnyShort s h8 w
  · refine (Tryz.strings_IndexAny_long (fun w => by kernel_rfl) s ⟨#[47, 0]⟩ w (by decide) (by omega) hs (by decide) ?_).mono ?_
    · intro j b hb
      match j, hb with
      | 0, hb => cases hb; decide
      | 1, hb => cases hb; decide
    · rintro e w' ⟨rfl, rfl⟩
      exact ⟨rfl, ((Below.refl _ w).alloc (Nat.le_refl _) _).alloc (by simp) _⟩
 have hx := idxAny_any s.data.toList
 obtain ⟨i, hi⟩ : ∃ i, Lib.indexAny s.data.toList [47, 0] = i := ⟨_, rfl⟩
 rw [hi] at hI hx
 rw [<- hx]
 clear hx hi
 go_enter Tryz.func152, Tryz.ntmps152
 go_wp2_with (go_at_call 176; refine hI.mono ?_; rintro e w' ⟨rfl, hb⟩)
 go_ret
 exact ⟨rfl, hb⟩
set_option maxHeartbeats 2000000 in
theorem named_any (s : ByteArray) (w : World) :
 Calls Tryz.prog 122 #[.string s] w fun e w' => e = .returned (.bool (Abs.named s.data.toList)) /\ Below w.heap.size w w' := by
 obtain ⟨b, hb⟩ : ∃ b, (s.data.toList.any fun c => c == 47 || c == 0) = b := ⟨_, rfl⟩
 have hsz : s.data.toList.length = s.size := rfl
 obtain ⟨n, hn⟩ : ∃ n, Abs.named s.data.toList = n := ⟨_, rfl⟩
 rw [hn]
 unfold Abs.named at hn
 rw [hb, hsz] at hn
 by_cases h0 : s.size = 0
 · have : n = false := by
    have e : s.data.toList = [] := List.eq_nil_of_length_eq_zero (by omega)
    rw [e] at hn; rw [<- hn]; rfl
   subst this
   clear hn hb hsz
   go_enter Tryz.func122, Tryz.ntmps122
   go_wp2
   go_ret
   exact ⟨rfl, Below.refl _ _⟩
 have h1 : decide ((1 : Int) <= (s.size : Int)) = true := decide_eq_true (by omega)
 by_cases h32 : 32 < s.size
 · have : n = false := by
    have e : decide (s.size <= 32) = false := decide_eq_false (by omega)
    rw [e] at hn; rw [<- hn]; simp
   subst this
   clear hn hb hsz
   have h2 : decide ((s.size : Int) <= 32) = false := decide_eq_false (by omega)
   go_enter Tryz.func122, Tryz.ntmps122
   go_wp2
   go_ret
   exact ⟨rfl, Below.refl _ _⟩
 have h2 : decide ((s.size : Int) <= 32) = true := decide_eq_true (by omega)
 by_cases hd : s = ⟨#[46]⟩
 · subst hd
   have : n = false := by rw [<- hn]; rfl
   subst this
   clear hn hb hsz
   go_enter Tryz.func122, Tryz.ntmps122
   go_wp2
   go_ret
   exact ⟨rfl, Below.refl _ _⟩
 by_cases hdd : s = ⟨#[46, 46]⟩
 · subst hdd
   have : n = false := by rw [<- hn]; rfl
   subst this
   clear hn hb hsz
   go_enter Tryz.func122, Tryz.ntmps122
   go_wp2
   go_ret
   exact ⟨rfl, Below.refl _ _⟩
 have : n = !b := by
  have e1 : s.data.toList.isEmpty = false := by
   cases h : s.data.toList with
   | nil => rw [h] at hsz; simp at hsz; omega
   | cons _ _ => rfl
  have e2 : decide (s.size <= 32) = true := decide_eq_true (by omega)
  have e3 : (s.data.toList == Abs.dot) = false := beq_eq_false_iff_ne.2 fun e => hd (by obtain ⟨⟨l⟩⟩ := s; exact congrArg (fun l => (⟨⟨l⟩⟩ : ByteArray)) e)
  have e4 : (s.data.toList == Abs.dotdot) = false := beq_eq_false_iff_ne.2 fun e => hdd (by obtain ⟨⟨l⟩⟩ := s; exact congrArg (fun l => (⟨⟨l⟩⟩ : ByteArray)) e)
  rw [e1, e2, e3, e4] at hn
  rw [<- hn]; rfl
 subst this
 have hc := containsAny_any s w (by omega)
 rw [hb] at hc
 clear hn hb hsz
 have hd' : ¬ s.toList = [46] := fun e => hd (by rw [Lib.toList_data] at e; obtain ⟨⟨l⟩⟩ := s; exact congrArg (fun l => (⟨⟨l⟩⟩ : ByteArray)) e)
 have hdd' : ¬ s.toList = [46, 46] := fun e => hdd (by rw [Lib.toList_data] at e; obtain ⟨⟨l⟩⟩ := s; exact congrArg (fun l => (⟨⟨l⟩⟩ : ByteArray)) e)
 clear hd hdd
 go_enter Tryz.func122, Tryz.ntmps122
 go_wp2_with (go_at_call 152; refine hc.mono ?_; rintro e w' ⟨rfl, hb⟩)
 go_ret
 refine ⟨?_, hb⟩
 have e1 : (s.toList == [46]) = false := beq_eq_false_iff_ne.2 hd'
 have e2 : (s.toList == [46, 46]) = false := beq_eq_false_iff_ne.2 hdd'
 show Ending.returned (Value.bool ((!(s.toList == [46])) && (!(s.toList == [46, 46])) && !b)) = _
 rw [e1, e2]
 rfl
end
end Go.Proofs.YtffffjngodinnaaGreatDoor
