/-
  The reference's times comes to what the plain step says.
-/
import Derived.Test.YtlhiadnolckoeaaGreatDoorSetsD
import Derived.Test.YtlhiadnolckoeaaGreatDoorSetsE
import Derived.Test.YtlhiadnolckoeaaGreatDoorSetsF

section
namespace Go.Proofs.YtlhiadnolckoeaaGreatDoor
open Go.RowKit Go.Maps

theorem extract_toList (S : ByteArray) (f t : Nat) : (S.extract f t).data.toList = (S.data.toList.take t).drop f := by
  rw [ByteArray.data_extract]
  simp [List.drop_take]
theorem StPost.hit {w w' : World} {B g a b : Nat} {S : ByteArray} {x y : Pl.TS} {t : List UInt8} {e : Ending} (hb : b ≤ S.size) (ht : S.data.toList.drop b = t) (h : TimesHit w B g S b y e w') : StPost B g S a x (some (t, y)) w e w' :=
  ⟨h.1, h.2.1, b, hb, ht, h.2.2⟩
theorem timesV_oct {D : List UInt8} (hne : D ≠ []) (h48 : D.head? = some 48) : (Pl.timesV D = none ∧ numRes 8 2147483647 D = .tuple #[.int .i64 0, .bool false]) ∨ (Pl.timesV D = some (Pl.val 8 D) ∧ Pl.val 8 D ≤ 2147483647 ∧ numRes 8 2147483647 D = .tuple #[.int .i64 (Pl.val 8 D : Nat), .bool true]) := by
  unfold Pl.timesV
  rw [if_neg hne, if_pos h48]
  by_cases h : Pl.allDig 8 D = true ∧ Pl.val 8 D ≤ 2147483647
  · rw [if_pos h]
    exact .inr ⟨rfl, h.2, numRes_yes hne h.1 (by omega)⟩
  · rw [if_neg h]
    refine .inl ⟨rfl, numRes_no ?_⟩
    by_cases h1 : Pl.allDig 8 D = true
    · exact .inr (.inr (by have : ¬ Pl.val 8 D ≤ 2147483647 := fun k => h ⟨h1, k⟩; omega))
    · exact .inr (.inl (by simpa using h1))
theorem timesV_dec {D : List UInt8} (hne : D ≠ []) (h48 : D.head? ≠ some 48) (hd : Pl.allDig 10 D = true) : (Pl.timesV D = none ∧ numRes 10 2147483647 D = .tuple #[.int .i64 0, .bool false]) ∨ (Pl.timesV D = some (Pl.val 10 D) ∧ Pl.val 10 D ≤ 2147483647 ∧ numRes 10 2147483647 D = .tuple #[.int .i64 (Pl.val 10 D : Nat), .bool true]) := by
  unfold Pl.timesV
  rw [if_neg hne, if_neg h48]
  by_cases h : Pl.val 10 D ≤ 2147483647
  · rw [if_pos h]
    exact .inr ⟨rfl, h, numRes_yes hne hd (by omega)⟩
  · rw [if_neg h]
    exact .inl ⟨rfl, numRes_no (.inr (.inr (by omega)))⟩
theorem timesX_none {s : List UInt8} {x : Pl.TS} (h : Pl.timesV (Pl.timesD s) = none) : Pl.timesX s x = { x with bad := true } := by unfold Pl.timesX; rw [h]
theorem timesX_zbad {s : List UInt8} {x : Pl.TS} (h : Pl.timesV (Pl.timesD s) = some 0) (hr : 0 ≤ x.rest) : Pl.timesX s x = { x with bad := true } := by unfold Pl.timesX; rw [h]; exact if_pos hr
theorem timesX_zok {s : List UInt8} {x : Pl.TS} (h : Pl.timesV (Pl.timesD s) = some 0) (hr : x.rest < 0) : Pl.timesX s x = { out := x.out ++ [Pl.signC (s.drop 1)], rest := x.out.length, bad := x.bad } := by unfold Pl.timesX; rw [h]; exact if_neg (by omega)
theorem timesX_many {s : List UInt8} {x : Pl.TS} {q : Nat} (h : Pl.timesV (Pl.timesD s) = some q) (hq : 0 < q) : Pl.timesX s x = { x with out := x.out ++ List.replicate (min q 65536) (Pl.signC (s.drop 1)) } := by
  obtain ⟨p, rfl⟩ : ∃ p, q = p + 1 := ⟨q - 1, by omega⟩
  unfold Pl.timesX
  rw [h]

set_option maxRecDepth 100000 in
theorem refTimes_any (w : World) (B g : Nat) (S : ByteArray) (a : Nat) (x : Pl.TS) (h : StAt w B g S a x) (hBw : B ≤ w.heap.size) (ha : a < S.size) (hs : S.size ≤ 1048576) (ho : x.out.length + 65536 ≤ 140737488355328) :
    Calls Tryz.prog 20 #[.pointer (some ⟨g, 0, none⟩)] w (StPost B g S a x (Pl.timesS (S.data.toList.drop a) x) w) := by
  have hl : S.data.toList.length = S.size := Array.length_toList
  obtain ⟨s, hsd⟩ : ∃ s, S.data.toList.drop a = s := ⟨_, rfl⟩
  by_cases hA : Lib.hasPrefix s [91] = true ∧ s.drop 1 ≠ []
  · have h1 : a + 1 < S.size := by
      rcases Nat.lt_or_ge (a + 1) S.size with h | h
      · exact h
      · exact absurd (List.drop_eq_nil_of_le (by rw [← hsd, List.length_drop]; omega)) hA.2
    have h91 : (S[a]'ha == 91) = true := by
      have := hA.1
      rwa [← hsd, str_pre1 ha] at this
    have hd1 : s.drop 1 = S.data.toList.drop (a + 1) := by rw [← hsd, List.drop_drop]
    obtain ⟨n, hn⟩ : ∃ n, Pl.signN (s.drop 1) = n := ⟨_, rfl⟩
    obtain ⟨c, hc⟩ : ∃ c, Pl.signC (s.drop 1) = c := ⟨_, rfl⟩
    have hsg := refSign_any S (a + 1) h1 hs
    rw [← hd1, hn, hc, show ((a + 1 : Nat) : Int) = (a : Int) + 1 by omega] at hsg
    obtain ⟨hN1, hN2⟩ := signN_room h1
    rw [← hd1, hn] at hN1 hN2
    obtain ⟨k, hk⟩ : ∃ k, a + 1 + n = k := ⟨_, rfl⟩
    have hdk : s.drop (1 + n) = S.data.toList.drop k := by rw [← hsd, List.drop_drop, ← hk, Nat.add_assoc]
    by_cases hBs : Lib.hasPrefix (s.drop (1 + n)) [42] = true
    · have hkl : k < S.size := by
        rcases Nat.lt_or_ge k S.size with h | h
        · exact h
        · rw [hdk, str_pre1_no h] at hBs; cases hBs
      have h42 : (S[k]'hkl == 42) = true := by rwa [hdk, str_pre1 hkl] at hBs
      obtain ⟨D, hD⟩ : ∃ D, Pl.timesD s = D := ⟨_, rfl⟩
      obtain ⟨d, hdl⟩ : ∃ d, D.length = d := ⟨_, rfl⟩
      obtain ⟨f, hf⟩ : ∃ f, k + 1 = f := ⟨_, rfl⟩
      obtain ⟨t, ht⟩ : ∃ t, f + d = t := ⟨_, rfl⟩
      obtain ⟨tp1, tp2, tp3⟩ := Pl.times_parts s
      rw [hn, hD, hdl] at tp1 tp3
      rw [hD] at tp2
      have hdf : s.drop (2 + n) = S.data.toList.drop f := by rw [← hsd, List.drop_drop]; congr 1; omega
      have hdt : s.drop (2 + n + d) = S.data.toList.drop t := by rw [← hsd, List.drop_drop]; congr 1; omega
      rw [hdf, hdt] at tp1
      rw [hdt] at tp3
      have hts : t ≤ S.size := by
        have := congrArg List.length tp1
        rw [List.length_append, List.length_drop, List.length_drop, hdl, hl] at this
        omega
      have hDat : ∀ (j : Nat) (h : f + j < S.size), j < d → D[j]? = some (S[f + j]'h) := fun j h hj => by
        have h1 : (S.data.toList.drop f)[j]? = D[j]? := by rw [← tp1, List.getElem?_append_left (by omega)]
        rw [← h1, List.getElem?_drop, str_at h]
      have hdig : ∀ (j : Nat) (h : f + j < S.size), j < d → 48 ≤ (S[f + j]'h).toNat ∧ (S[f + j]'h).toNat ≤ 57 := fun j h hj => by
        have := of_decide_eq_true (tp2 _ (List.mem_of_getElem? (hDat j h hj)))
        omega
      have hend : ∀ (h : f + d < S.size), ¬ (48 ≤ (S[f + d]'h).toNat ∧ (S[f + d]'h).toNat ≤ 57) := fun h hh => by
        have h2 := tp3 (S[f + d]'h) (by subst ht; rw [List.head?_drop, str_at h])
        have : Pl.isDig 10 (S[f + d]'h) = true := decide_eq_true (by omega)
        rw [h2] at this
        cases this
      by_cases hCs : Lib.hasPrefix (s.drop (2 + n + d)) [93] = true
      · have htl : t < S.size := by
          rcases Nat.lt_or_ge t S.size with h | h
          · exact h
          · rw [hdt, str_pre1_no h] at hCs; cases hCs
        have h93 : (S[t]'htl == 93) = true := by rwa [hdt, str_pre1 htl] at hCs
        obtain ⟨b, hb⟩ : ∃ b, t + 1 = b := ⟨_, rfl⟩
        obtain ⟨T, hT⟩ : ∃ T, S.extract f t = T := ⟨_, rfl⟩
        have hTD : T.data.toList = D := by
          rw [← hT, extract_toList, List.drop_take, show t - f = d by omega, ← tp1, ← hdl, List.take_left]
        have hTs : T.size = d := by rw [← hdl, ← hTD, Array.length_toList]; rfl
        have hr : Pl.timesS s x = some (S.data.toList.drop b, Pl.timesX s x) := by
          unfold Pl.timesS
          rw [hn, hD, hdl, if_pos ⟨hA.1, hA.2, hBs, hCs⟩]
          congr 2
          rw [← hsd, List.drop_drop]
          congr 1
          omega
        rw [hsd, hr]
        by_cases hD0 : D = []
        · have hd0 : d = 0 := by rw [← hdl, hD0]; rfl
          have hV : Pl.timesV (Pl.timesD s) = some 0 := by rw [hD, hD0]; rfl
          by_cases hrest : 0 ≤ x.rest
          · rw [timesX_zbad hV hrest]
            exact (refTimes_nil_zbad w B g S a x h hBw ha hs h1 h91 c n k hk hsg hkl h42 f d t hf ht hts hdig hend htl h93 b hb T hT hTs hd0 hrest).mono fun e w' hh => StPost.hit (by omega) rfl hh
          · rw [timesX_zok hV (by omega), hc]
            exact (refTimes_nil_zok w B g S a x h hBw ha hs h1 h91 c n k hk hsg hkl h42 f d t hf ht hts hdig hend htl h93 b hb T hT hTs hd0 (by omega) ho).mono fun e w' hh => StPost.hit (by omega) rfl hh
        · have hd0 : 0 < d := by rw [← hdl]; exact List.length_pos_iff.2 hD0
          have hT0 : 0 < T.size := by omega
          have hhead : D.head? = some (T[0]'hT0) := by rw [← hTD, List.head?_eq_getElem?, str_at hT0]
          by_cases h48 : D.head? = some 48
          · have hz48 : (T[0]'hT0 == 48) = true := by rw [hhead] at h48; rw [Option.some.inj h48]; rfl
            have hcall : ∀ W, Calls Tryz.prog 36 #[.string T, .int .i64 2147483647] W fun e w' => e = .returned (numRes 8 2147483647 D) ∧ W = w' := fun W =>
              (ref8_any T 2147483647 W (by omega) (by omega) (by omega)).mono fun e w' ⟨he, hw⟩ => ⟨by rw [he, hTD], hw.symm⟩
            rcases timesV_oct hD0 h48 with ⟨hV, hN⟩ | ⟨hV, hq1, hN⟩
            · rw [hN] at hcall
              rw [← hD] at hV
              rw [timesX_none hV]
              exact (refTimes_oct_none w B g S a x h hBw ha hs h1 h91 c n k hk hsg hkl h42 f d t hf ht hts hdig hend htl h93 b hb T hT hTs hd0 hT0 hz48 hcall).mono fun e w' hh => StPost.hit (by omega) rfl hh
            · rw [hN] at hcall
              rw [← hD] at hV
              obtain ⟨q, hq⟩ : ∃ q, Pl.val 8 D = q := ⟨_, rfl⟩
              rw [hD, hq] at hV
              rw [hq] at hcall hq1
              rw [← hD] at hV
              by_cases hq0 : q = 0
              · subst hq0
                by_cases hrest : 0 ≤ x.rest
                · rw [timesX_zbad hV hrest]
                  exact (refTimes_oct_zbad w B g S a x h hBw ha hs h1 h91 c n k hk hsg hkl h42 f d t hf ht hts hdig hend htl h93 b hb T hT hTs hd0 hT0 hz48 hcall hrest).mono fun e w' hh => StPost.hit (by omega) rfl hh
                · rw [timesX_zok hV (by omega), hc]
                  exact (refTimes_oct_zok w B g S a x h hBw ha hs h1 h91 c n k hk hsg hkl h42 f d t hf ht hts hdig hend htl h93 b hb T hT hTs hd0 hT0 hz48 hcall (by omega) ho).mono fun e w' hh => StPost.hit (by omega) rfl hh
              · rw [timesX_many hV (by omega), hc]
                exact (refTimes_oct_many w B g S a x h hBw ha hs h1 h91 c n k hk hsg hkl h42 f d t hf ht hts hdig hend htl h93 b hb T hT hTs hd0 hT0 hz48 q (by omega) hq1 hcall ho).mono fun e w' hh => StPost.hit (by omega) rfl hh
          · have hz48 : (T[0]'hT0 == 48) = false := by
              rw [hhead] at h48
              exact beq_eq_false_iff_ne.2 fun e => h48 (by rw [e])
            have hcall : ∀ W, Calls Tryz.prog 37 #[.string T, .int .i64 2147483647] W fun e w' => e = .returned (numRes 10 2147483647 D) ∧ W = w' := fun W =>
              (ref10_any T 2147483647 W (by omega) (by omega) (by omega)).mono fun e w' ⟨he, hw⟩ => ⟨by rw [he, hTD], hw.symm⟩
            rcases timesV_dec hD0 h48 (List.all_eq_true.2 tp2) with ⟨hV, hN⟩ | ⟨hV, hq1, hN⟩
            · rw [hN] at hcall
              rw [← hD] at hV
              rw [timesX_none hV]
              exact (refTimes_dec_none w B g S a x h hBw ha hs h1 h91 c n k hk hsg hkl h42 f d t hf ht hts hdig hend htl h93 b hb T hT hTs hd0 hT0 hz48 hcall).mono fun e w' hh => StPost.hit (by omega) rfl hh
            · rw [hN] at hcall
              obtain ⟨q, hq⟩ : ∃ q, Pl.val 10 D = q := ⟨_, rfl⟩
              rw [hq] at hcall hq1 hV
              rw [← hD] at hV
              by_cases hq0 : q = 0
              · subst hq0
                by_cases hrest : 0 ≤ x.rest
                · rw [timesX_zbad hV hrest]
                  exact (refTimes_dec_zbad w B g S a x h hBw ha hs h1 h91 c n k hk hsg hkl h42 f d t hf ht hts hdig hend htl h93 b hb T hT hTs hd0 hT0 hz48 hcall hrest).mono fun e w' hh => StPost.hit (by omega) rfl hh
                · rw [timesX_zok hV (by omega), hc]
                  exact (refTimes_dec_zok w B g S a x h hBw ha hs h1 h91 c n k hk hsg hkl h42 f d t hf ht hts hdig hend htl h93 b hb T hT hTs hd0 hT0 hz48 hcall (by omega) ho).mono fun e w' hh => StPost.hit (by omega) rfl hh
              · rw [timesX_many hV (by omega), hc]
                exact (refTimes_dec_many w B g S a x h hBw ha hs h1 h91 c n k hk hsg hkl h42 f d t hf ht hts hdig hend htl h93 b hb T hT hTs hd0 hT0 hz48 q (by omega) hq1 hcall ho).mono fun e w' hh => StPost.hit (by omega) rfl hh
      · have hr : Pl.timesS s x = none := by
          unfold Pl.timesS
          rw [hn, hD, hdl]
          exact if_neg fun k => hCs k.2.2.2
        rw [hsd, hr]
        refine refTimes_noend w B g S a x h hBw ha hs h1 h91 c n k hk hsg hkl h42 f d t hf ht hts hdig hend fun htl => ?_
        rw [hdt, str_pre1 htl] at hCs
        simpa using hCs
    · have hr : Pl.timesS s x = none := by
        unfold Pl.timesS
        rw [hn]
        exact if_neg fun k => hBs k.2.2.1
      rw [hsd, hr]
      refine refTimes_nostar w B g S a x h hBw ha hs h1 h91 c n k hk (by omega) hsg fun hkl => ?_
      rw [hdk, str_pre1 hkl] at hBs
      simpa using hBs
  · have hr : Pl.timesS s x = none := if_neg fun k => hA ⟨k.1, k.2.1⟩
    rw [hsd, hr]
    exact refTimes_miss w B g S a x h ha hs (by rw [hsd]; exact hA)

end Go.Proofs.YtlhiadnolckoeaaGreatDoor
end
