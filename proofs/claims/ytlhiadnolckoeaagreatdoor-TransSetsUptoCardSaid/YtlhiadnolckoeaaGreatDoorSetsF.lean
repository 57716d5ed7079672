/-
  Walks over the reference's times: decimal digits (printed by wip/tools/reftimes2.py).
-/
import Derived.Test.YtlhiadnolckoeaaGreatDoorSetsC

section
namespace Go.Proofs.YtlhiadnolckoeaaGreatDoor
open Go.RowKit Go.Maps

set_option maxRecDepth 100000 in
set_option maxHeartbeats 4000000 in
theorem refTimes_dec_none (w : World) (B g : Nat) (S : ByteArray) (a : Nat) (x : Pl.TS) (h : StAt w B g S a x) (hBw : B ≤ w.heap.size) (ha : a < S.size) (hs : S.size ≤ 1048576) (h1 : a + 1 < S.size) (h91 : (S[a]'ha == 91) = true) (c : UInt8) (n k : Nat) (hk : a + 1 + n = k) (hsg : ∀ W, Calls Tryz.prog 21 #[.string S, .int .i64 ((a : Int) + 1)] W fun e w' => e = .returned (.tuple #[.int .u8 c.toNat, .int .i64 n]) ∧ Below W.heap.size W w') (hkl : k < S.size) (h42 : (S[k]'hkl == 42) = true) (f d t : Nat) (hf : k + 1 = f) (ht : f + d = t) (hts : t ≤ S.size) (hdig : ∀ (j : Nat) (h : f + j < S.size), j < d → 48 ≤ (S[f + j]'h).toNat ∧ (S[f + j]'h).toNat ≤ 57) (hend : ∀ (h : f + d < S.size), ¬ (48 ≤ (S[f + d]'h).toNat ∧ (S[f + d]'h).toNat ≤ 57)) (htl : t < S.size) (h93 : (S[t]'htl == 93) = true) (b : Nat) (hb : t + 1 = b) (T : ByteArray) (hT : S.extract f t = T) (hTs : T.size = d) (hd0 : 0 < d) (hT0 : 0 < T.size) (hz48 : (T[0]'hT0 == 48) = false) (hnum : ∀ W, Calls Tryz.prog 37 #[.string T, .int .i64 2147483647] W fun e w' => e = .returned (.tuple #[.int .i64 0, .bool false]) ∧ W = w') :
    Calls Tryz.prog 20 #[.pointer (some ⟨g, 0, none⟩)] w (TimesHit w B g S b { x with bad := true }) := by
  have HH := Lib.hid h
  obtain ⟨hBg, v, hblk, hown⟩ := h
  obtain ⟨A, cp, rfl, _⟩ := own_slice hown
  have q0 : w.cell? ⟨g, 0, none⟩ = some (.string S) := hblk.cell 0
  have q1 : w.cell? ⟨g, 1, none⟩ = some (.int .i64 a) := hblk.cell 1
  have ql := hblk.lt
  obtain ⟨m, hm⟩ : ∃ m, x.out.length = m := ⟨_, rfl⟩
  rw [hm] at hown hblk
  have HSG := Lib.hid hsg
  have HBLK := Lib.hid hblk
  have HOWN := Lib.hid hown
  have HM := Lib.hid hm
  have hn0 : 0 ≤ (n : Int) := by omega
  have hni : (n : Int) ≤ 1048576 := by omega
  have hi : (a : Int) + 1 < S.size := by omega
  have hd : decide ((S.size : Int) ≤ (a : Int) + 1) = false := decide_eq_false (by omega)
  have wa1 : IntKind.i64.wrap ((a : Int) + 1) = (a : Int) + 1 := IntWalk.i64_in _ (by omega)
  obtain ⟨z0, hz0⟩ : ∃ z : Int, ((S[a]'ha).toNat : Int) = z := ⟨_, rfl⟩
  have n0 : (z0 != 91) = false := by rw [u8_ne hz0 (p := 91) (n := 91) rfl, h91]; rfl
  have hkI : (a : Int) + 1 + n = k := by omega
  clear h91 hsg hblk hown hm
  obtain ⟨z1, hz1⟩ : ∃ z : Int, ((S[k]'hkl).toNat : Int) = z := ⟨_, rfl⟩
  have n1 : (z1 != 42) = false := by rw [u8_ne hz1 (p := 42) (n := 42) rfl, h42]; rfl
  have hkl2 : (k : Int) < S.size := by omega
  have hfI : (k : Int) + 1 = f := by omega
  have htI : (f : Int) + d = t := by omega
  have HDIG := Lib.hid hdig
  have HEND := Lib.hid hend
  clear h42 hdig hend
  obtain ⟨z2, hz2⟩ : ∃ z : Int, ((S[t]'htl).toNat : Int) = z := ⟨_, rfl⟩
  have n2 : (z2 != 93) = false := by rw [u8_ne hz2 (p := 93) (n := 93) rfl, h93]; rfl
  have htl2 : (t : Int) < S.size := by omega
  have hbI : (t : Int) + 1 = b := by omega
  clear h93
  have HN := Lib.hid hnum
  obtain ⟨z3, hz3⟩ : ∃ z : Int, ((T[0]'hT0).toNat : Int) = z := ⟨_, rfl⟩
  have n3 : (z3 == 48) = false := by
    have := u8_ne hz3 (p := 48) (n := 48) rfl
    rw [hz48] at this
    simpa [bne] using this
  clear hz48 hnum
  go_enter Tryz.func20, Tryz.ntmps20
  go_wp2_with fail
  go_quiet (fail)
  go_wp2_with fail
  go_region_held3 (fun W => W.cell? ⟨g, 0, none⟩ = some (.string S) ∧ W.cell? ⟨g, 1, none⟩ = some (.int .i64 a))
    (first | exact ⟨q0, q1⟩ | exact ⟨p0, p1⟩ | exact ⟨HBLK.out.cell 0, HBLK.out.cell 1⟩)
    (first
    | (go_at_call 21; (refine (HSG.out _).mono ?_); rintro e w1 ⟨rfl, hb1⟩
       have hbw : Below w.heap.size w w1 := (below_drew w _).trans hb1
       have B1 := Blk.on HBLK.out hbw
       have p0 : w1.cell? ⟨g, 0, none⟩ = some (.string S) := B1.cell 0
       have p1 : w1.cell? ⟨g, 1, none⟩ = some (.int .i64 a) := B1.cell 1
       have fp1 := B1.frozen 1
       have pl := B1.lt
       have O1 := Lib.hid (ownsRow_same HOWN.out fun k hk => hbw.block k (HOWN.out.lt k hk).2)
       have hBw1 : B ≤ w1.heap.size := Nat.le_trans hBw hbw.size))
  have BM := B1.set_ 1 (.int .i64 b)
  have mr : (w1.setCell ⟨g, 1, none⟩ (.int .i64 b)).cell? ⟨g, 3, none⟩ = some (.int .i64 x.rest) := BM.cell 3
  have mo : (w1.setCell ⟨g, 1, none⟩ (.int .i64 b)).cell? ⟨g, 2, none⟩ = some (.slice A m cp) := BM.cell 2
  have mb : (w1.setCell ⟨g, 1, none⟩ (.int .i64 b)).cell? ⟨g, 4, none⟩ = some (.bool x.bad) := BM.cell 4
  have mf3 := BM.frozen 3
  have mf4 := BM.frozen 4
  have ml := BM.lt
  have SM : Hid (StAt (w1.setCell ⟨g, 1, none⟩ (.int .i64 b)) B g S b x) := Lib.hid (stMoved hBg B1 (by rw [HM.out]; exact O1.out))
  have XM : Hid (BX B g w (w1.setCell ⟨g, 1, none⟩ (.int .i64 b))) := Lib.hid ((bx (hbw.mono hBw)).setG 1 _)
  go_wp2_with fail
  refine times_l1 w1 g S hs p0 pl f d (by omega) HDIG.out HEND.out ?_
  intro u73 u74 u75 u76 u77 u78 u79 u80 u81 u82 u83 u84 u85 u86 u87 u88 u89 u90 u91 u92 u93 u94 u95 u96 u97 u98 u99
  go_wp2_with (first
    | (go_at_call 37; (refine (HN.out _).mono ?_); rintro e w2 ⟨rfl, rfl⟩))
  go_returns
  exact ⟨XM.out.setG 4 _, rfl, SM.out.bad⟩

set_option maxRecDepth 100000 in
set_option maxHeartbeats 4000000 in
theorem refTimes_dec_zbad (w : World) (B g : Nat) (S : ByteArray) (a : Nat) (x : Pl.TS) (h : StAt w B g S a x) (hBw : B ≤ w.heap.size) (ha : a < S.size) (hs : S.size ≤ 1048576) (h1 : a + 1 < S.size) (h91 : (S[a]'ha == 91) = true) (c : UInt8) (n k : Nat) (hk : a + 1 + n = k) (hsg : ∀ W, Calls Tryz.prog 21 #[.string S, .int .i64 ((a : Int) + 1)] W fun e w' => e = .returned (.tuple #[.int .u8 c.toNat, .int .i64 n]) ∧ Below W.heap.size W w') (hkl : k < S.size) (h42 : (S[k]'hkl == 42) = true) (f d t : Nat) (hf : k + 1 = f) (ht : f + d = t) (hts : t ≤ S.size) (hdig : ∀ (j : Nat) (h : f + j < S.size), j < d → 48 ≤ (S[f + j]'h).toNat ∧ (S[f + j]'h).toNat ≤ 57) (hend : ∀ (h : f + d < S.size), ¬ (48 ≤ (S[f + d]'h).toNat ∧ (S[f + d]'h).toNat ≤ 57)) (htl : t < S.size) (h93 : (S[t]'htl == 93) = true) (b : Nat) (hb : t + 1 = b) (T : ByteArray) (hT : S.extract f t = T) (hTs : T.size = d) (hd0 : 0 < d) (hT0 : 0 < T.size) (hz48 : (T[0]'hT0 == 48) = false) (hnum : ∀ W, Calls Tryz.prog 37 #[.string T, .int .i64 2147483647] W fun e w' => e = .returned (.tuple #[.int .i64 0, .bool true]) ∧ W = w') (hrest : 0 ≤ x.rest) :
    Calls Tryz.prog 20 #[.pointer (some ⟨g, 0, none⟩)] w (TimesHit w B g S b { x with bad := true }) := by
  have HH := Lib.hid h
  obtain ⟨hBg, v, hblk, hown⟩ := h
  obtain ⟨A, cp, rfl, _⟩ := own_slice hown
  have q0 : w.cell? ⟨g, 0, none⟩ = some (.string S) := hblk.cell 0
  have q1 : w.cell? ⟨g, 1, none⟩ = some (.int .i64 a) := hblk.cell 1
  have ql := hblk.lt
  obtain ⟨m, hm⟩ : ∃ m, x.out.length = m := ⟨_, rfl⟩
  rw [hm] at hown hblk
  have HSG := Lib.hid hsg
  have HBLK := Lib.hid hblk
  have HOWN := Lib.hid hown
  have HM := Lib.hid hm
  have hn0 : 0 ≤ (n : Int) := by omega
  have hni : (n : Int) ≤ 1048576 := by omega
  have hi : (a : Int) + 1 < S.size := by omega
  have hd : decide ((S.size : Int) ≤ (a : Int) + 1) = false := decide_eq_false (by omega)
  have wa1 : IntKind.i64.wrap ((a : Int) + 1) = (a : Int) + 1 := IntWalk.i64_in _ (by omega)
  obtain ⟨z0, hz0⟩ : ∃ z : Int, ((S[a]'ha).toNat : Int) = z := ⟨_, rfl⟩
  have n0 : (z0 != 91) = false := by rw [u8_ne hz0 (p := 91) (n := 91) rfl, h91]; rfl
  have hkI : (a : Int) + 1 + n = k := by omega
  clear h91 hsg hblk hown hm
  obtain ⟨z1, hz1⟩ : ∃ z : Int, ((S[k]'hkl).toNat : Int) = z := ⟨_, rfl⟩
  have n1 : (z1 != 42) = false := by rw [u8_ne hz1 (p := 42) (n := 42) rfl, h42]; rfl
  have hkl2 : (k : Int) < S.size := by omega
  have hfI : (k : Int) + 1 = f := by omega
  have htI : (f : Int) + d = t := by omega
  have HDIG := Lib.hid hdig
  have HEND := Lib.hid hend
  clear h42 hdig hend
  obtain ⟨z2, hz2⟩ : ∃ z : Int, ((S[t]'htl).toNat : Int) = z := ⟨_, rfl⟩
  have n2 : (z2 != 93) = false := by rw [u8_ne hz2 (p := 93) (n := 93) rfl, h93]; rfl
  have htl2 : (t : Int) < S.size := by omega
  have hbI : (t : Int) + 1 = b := by omega
  clear h93
  have HN := Lib.hid hnum
  obtain ⟨z3, hz3⟩ : ∃ z : Int, ((T[0]'hT0).toNat : Int) = z := ⟨_, rfl⟩
  have n3 : (z3 == 48) = false := by
    have := u8_ne hz3 (p := 48) (n := 48) rfl
    rw [hz48] at this
    simpa [bne] using this
  clear hz48 hnum
  go_enter Tryz.func20, Tryz.ntmps20
  go_wp2_with fail
  go_quiet (fail)
  go_wp2_with fail
  go_region_held3 (fun W => W.cell? ⟨g, 0, none⟩ = some (.string S) ∧ W.cell? ⟨g, 1, none⟩ = some (.int .i64 a))
    (first | exact ⟨q0, q1⟩ | exact ⟨p0, p1⟩ | exact ⟨HBLK.out.cell 0, HBLK.out.cell 1⟩)
    (first
    | (go_at_call 21; (refine (HSG.out _).mono ?_); rintro e w1 ⟨rfl, hb1⟩
       have hbw : Below w.heap.size w w1 := (below_drew w _).trans hb1
       have B1 := Blk.on HBLK.out hbw
       have p0 : w1.cell? ⟨g, 0, none⟩ = some (.string S) := B1.cell 0
       have p1 : w1.cell? ⟨g, 1, none⟩ = some (.int .i64 a) := B1.cell 1
       have fp1 := B1.frozen 1
       have pl := B1.lt
       have O1 := Lib.hid (ownsRow_same HOWN.out fun k hk => hbw.block k (HOWN.out.lt k hk).2)
       have hBw1 : B ≤ w1.heap.size := Nat.le_trans hBw hbw.size))
  have BM := B1.set_ 1 (.int .i64 b)
  have mr : (w1.setCell ⟨g, 1, none⟩ (.int .i64 b)).cell? ⟨g, 3, none⟩ = some (.int .i64 x.rest) := BM.cell 3
  have mo : (w1.setCell ⟨g, 1, none⟩ (.int .i64 b)).cell? ⟨g, 2, none⟩ = some (.slice A m cp) := BM.cell 2
  have mb : (w1.setCell ⟨g, 1, none⟩ (.int .i64 b)).cell? ⟨g, 4, none⟩ = some (.bool x.bad) := BM.cell 4
  have mf3 := BM.frozen 3
  have mf4 := BM.frozen 4
  have ml := BM.lt
  have SM : Hid (StAt (w1.setCell ⟨g, 1, none⟩ (.int .i64 b)) B g S b x) := Lib.hid (stMoved hBg B1 (by rw [HM.out]; exact O1.out))
  have XM : Hid (BX B g w (w1.setCell ⟨g, 1, none⟩ (.int .i64 b))) := Lib.hid ((bx (hbw.mono hBw)).setG 1 _)
  go_wp2_with fail
  refine times_l1 w1 g S hs p0 pl f d (by omega) HDIG.out HEND.out ?_
  intro u73 u74 u75 u76 u77 u78 u79 u80 u81 u82 u83 u84 u85 u86 u87 u88 u89 u90 u91 u92 u93 u94 u95 u96 u97 u98 u99
  go_wp2_with (first
    | (go_at_call 37; (refine (HN.out _).mono ?_); rintro e w2 ⟨rfl, rfl⟩))
  go_returns
  exact ⟨XM.out.setG 4 _, rfl, SM.out.bad⟩

set_option maxRecDepth 100000 in
set_option maxHeartbeats 4000000 in
theorem refTimes_dec_zok (w : World) (B g : Nat) (S : ByteArray) (a : Nat) (x : Pl.TS) (h : StAt w B g S a x) (hBw : B ≤ w.heap.size) (ha : a < S.size) (hs : S.size ≤ 1048576) (h1 : a + 1 < S.size) (h91 : (S[a]'ha == 91) = true) (c : UInt8) (n k : Nat) (hk : a + 1 + n = k) (hsg : ∀ W, Calls Tryz.prog 21 #[.string S, .int .i64 ((a : Int) + 1)] W fun e w' => e = .returned (.tuple #[.int .u8 c.toNat, .int .i64 n]) ∧ Below W.heap.size W w') (hkl : k < S.size) (h42 : (S[k]'hkl == 42) = true) (f d t : Nat) (hf : k + 1 = f) (ht : f + d = t) (hts : t ≤ S.size) (hdig : ∀ (j : Nat) (h : f + j < S.size), j < d → 48 ≤ (S[f + j]'h).toNat ∧ (S[f + j]'h).toNat ≤ 57) (hend : ∀ (h : f + d < S.size), ¬ (48 ≤ (S[f + d]'h).toNat ∧ (S[f + d]'h).toNat ≤ 57)) (htl : t < S.size) (h93 : (S[t]'htl == 93) = true) (b : Nat) (hb : t + 1 = b) (T : ByteArray) (hT : S.extract f t = T) (hTs : T.size = d) (hd0 : 0 < d) (hT0 : 0 < T.size) (hz48 : (T[0]'hT0 == 48) = false) (hnum : ∀ W, Calls Tryz.prog 37 #[.string T, .int .i64 2147483647] W fun e w' => e = .returned (.tuple #[.int .i64 0, .bool true]) ∧ W = w') (hrest : x.rest < 0) (ho : x.out.length + 65536 ≤ 140737488355328) :
    Calls Tryz.prog 20 #[.pointer (some ⟨g, 0, none⟩)] w (TimesHit w B g S b { out := x.out ++ [c], rest := x.out.length, bad := x.bad }) := by
  have HH := Lib.hid h
  obtain ⟨hBg, v, hblk, hown⟩ := h
  obtain ⟨A, cp, rfl, _⟩ := own_slice hown
  have q0 : w.cell? ⟨g, 0, none⟩ = some (.string S) := hblk.cell 0
  have q1 : w.cell? ⟨g, 1, none⟩ = some (.int .i64 a) := hblk.cell 1
  have ql := hblk.lt
  obtain ⟨m, hm⟩ : ∃ m, x.out.length = m := ⟨_, rfl⟩
  rw [hm] at hown hblk
  have HSG := Lib.hid hsg
  have HBLK := Lib.hid hblk
  have HOWN := Lib.hid hown
  have HM := Lib.hid hm
  have hn0 : 0 ≤ (n : Int) := by omega
  have hni : (n : Int) ≤ 1048576 := by omega
  have hi : (a : Int) + 1 < S.size := by omega
  have hd : decide ((S.size : Int) ≤ (a : Int) + 1) = false := decide_eq_false (by omega)
  have wa1 : IntKind.i64.wrap ((a : Int) + 1) = (a : Int) + 1 := IntWalk.i64_in _ (by omega)
  obtain ⟨z0, hz0⟩ : ∃ z : Int, ((S[a]'ha).toNat : Int) = z := ⟨_, rfl⟩
  have n0 : (z0 != 91) = false := by rw [u8_ne hz0 (p := 91) (n := 91) rfl, h91]; rfl
  have hkI : (a : Int) + 1 + n = k := by omega
  clear h91 hsg hblk hown hm
  obtain ⟨z1, hz1⟩ : ∃ z : Int, ((S[k]'hkl).toNat : Int) = z := ⟨_, rfl⟩
  have n1 : (z1 != 42) = false := by rw [u8_ne hz1 (p := 42) (n := 42) rfl, h42]; rfl
  have hkl2 : (k : Int) < S.size := by omega
  have hfI : (k : Int) + 1 = f := by omega
  have htI : (f : Int) + d = t := by omega
  have HDIG := Lib.hid hdig
  have HEND := Lib.hid hend
  clear h42 hdig hend
  obtain ⟨z2, hz2⟩ : ∃ z : Int, ((S[t]'htl).toNat : Int) = z := ⟨_, rfl⟩
  have n2 : (z2 != 93) = false := by rw [u8_ne hz2 (p := 93) (n := 93) rfl, h93]; rfl
  have htl2 : (t : Int) < S.size := by omega
  have hbI : (t : Int) + 1 = b := by omega
  clear h93
  have HN := Lib.hid hnum
  obtain ⟨z3, hz3⟩ : ∃ z : Int, ((T[0]'hT0).toNat : Int) = z := ⟨_, rfl⟩
  have n3 : (z3 == 48) = false := by
    have := u8_ne hz3 (p := 48) (n := 48) rfl
    rw [hz48] at this
    simpa [bne] using this
  clear hz48 hnum
  go_enter Tryz.func20, Tryz.ntmps20
  go_wp2_with fail
  go_quiet (fail)
  go_wp2_with fail
  go_region_held3 (fun W => W.cell? ⟨g, 0, none⟩ = some (.string S) ∧ W.cell? ⟨g, 1, none⟩ = some (.int .i64 a))
    (first | exact ⟨q0, q1⟩ | exact ⟨p0, p1⟩ | exact ⟨HBLK.out.cell 0, HBLK.out.cell 1⟩)
    (first
    | (go_at_call 21; (refine (HSG.out _).mono ?_); rintro e w1 ⟨rfl, hb1⟩
       have hbw : Below w.heap.size w w1 := (below_drew w _).trans hb1
       have B1 := Blk.on HBLK.out hbw
       have p0 : w1.cell? ⟨g, 0, none⟩ = some (.string S) := B1.cell 0
       have p1 : w1.cell? ⟨g, 1, none⟩ = some (.int .i64 a) := B1.cell 1
       have fp1 := B1.frozen 1
       have pl := B1.lt
       have O1 := Lib.hid (ownsRow_same HOWN.out fun k hk => hbw.block k (HOWN.out.lt k hk).2)
       have hBw1 : B ≤ w1.heap.size := Nat.le_trans hBw hbw.size))
  have BM := B1.set_ 1 (.int .i64 b)
  have mr : (w1.setCell ⟨g, 1, none⟩ (.int .i64 b)).cell? ⟨g, 3, none⟩ = some (.int .i64 x.rest) := BM.cell 3
  have mo : (w1.setCell ⟨g, 1, none⟩ (.int .i64 b)).cell? ⟨g, 2, none⟩ = some (.slice A m cp) := BM.cell 2
  have mb : (w1.setCell ⟨g, 1, none⟩ (.int .i64 b)).cell? ⟨g, 4, none⟩ = some (.bool x.bad) := BM.cell 4
  have mf3 := BM.frozen 3
  have mf4 := BM.frozen 4
  have ml := BM.lt
  have SM : Hid (StAt (w1.setCell ⟨g, 1, none⟩ (.int .i64 b)) B g S b x) := Lib.hid (stMoved hBg B1 (by rw [HM.out]; exact O1.out))
  have XM : Hid (BX B g w (w1.setCell ⟨g, 1, none⟩ (.int .i64 b))) := Lib.hid ((bx (hbw.mono hBw)).setG 1 _)
  go_wp2_with fail
  refine times_l1 w1 g S hs p0 pl f d (by omega) HDIG.out HEND.out ?_
  intro u73 u74 u75 u76 u77 u78 u79 u80 u81 u82 u83 u84 u85 u86 u87 u88 u89 u90 u91 u92 u93 u94 u95 u96 u97 u98 u99
  go_wp2_with (first
    | (go_at_call 37; (refine (HN.out _).mono ?_); rintro e w2 ⟨rfl, rfl⟩))
  refine times_l2 w _ B g S b { x with rest := (x.out.length : Int) } (SM.out.resting m HM.out) (XM.out.setG 3 _) ?_ c 1 (by omega) ho ?_
  · exact Nat.le_trans hBw1 (by simp [World.setCell])
  intro u175 u176 u177 u178 u179 u180 u181 u182 u183 u184 u185 u186 u187 u188 u189 u190 u191 u192 u193 w3 s3 x3
  go_wp2_with fail
  go_returns
  exact ⟨x3, rfl, s3⟩

set_option maxRecDepth 100000 in
set_option maxHeartbeats 4000000 in
theorem refTimes_dec_many (w : World) (B g : Nat) (S : ByteArray) (a : Nat) (x : Pl.TS) (h : StAt w B g S a x) (hBw : B ≤ w.heap.size) (ha : a < S.size) (hs : S.size ≤ 1048576) (h1 : a + 1 < S.size) (h91 : (S[a]'ha == 91) = true) (c : UInt8) (n k : Nat) (hk : a + 1 + n = k) (hsg : ∀ W, Calls Tryz.prog 21 #[.string S, .int .i64 ((a : Int) + 1)] W fun e w' => e = .returned (.tuple #[.int .u8 c.toNat, .int .i64 n]) ∧ Below W.heap.size W w') (hkl : k < S.size) (h42 : (S[k]'hkl == 42) = true) (f d t : Nat) (hf : k + 1 = f) (ht : f + d = t) (hts : t ≤ S.size) (hdig : ∀ (j : Nat) (h : f + j < S.size), j < d → 48 ≤ (S[f + j]'h).toNat ∧ (S[f + j]'h).toNat ≤ 57) (hend : ∀ (h : f + d < S.size), ¬ (48 ≤ (S[f + d]'h).toNat ∧ (S[f + d]'h).toNat ≤ 57)) (htl : t < S.size) (h93 : (S[t]'htl == 93) = true) (b : Nat) (hb : t + 1 = b) (T : ByteArray) (hT : S.extract f t = T) (hTs : T.size = d) (hd0 : 0 < d) (hT0 : 0 < T.size) (hz48 : (T[0]'hT0 == 48) = false) (q : Nat) (hq0 : 0 < q) (hq1 : q ≤ 2147483647) (hnum : ∀ W, Calls Tryz.prog 37 #[.string T, .int .i64 2147483647] W fun e w' => e = .returned (.tuple #[.int .i64 (q : Nat), .bool true]) ∧ W = w') (ho : x.out.length + 65536 ≤ 140737488355328) :
    Calls Tryz.prog 20 #[.pointer (some ⟨g, 0, none⟩)] w (TimesHit w B g S b { x with out := x.out ++ List.replicate (min q 65536) c }) := by
  have HH := Lib.hid h
  obtain ⟨hBg, v, hblk, hown⟩ := h
  obtain ⟨A, cp, rfl, _⟩ := own_slice hown
  have q0 : w.cell? ⟨g, 0, none⟩ = some (.string S) := hblk.cell 0
  have q1 : w.cell? ⟨g, 1, none⟩ = some (.int .i64 a) := hblk.cell 1
  have ql := hblk.lt
  obtain ⟨m, hm⟩ : ∃ m, x.out.length = m := ⟨_, rfl⟩
  rw [hm] at hown hblk
  have HSG := Lib.hid hsg
  have HBLK := Lib.hid hblk
  have HOWN := Lib.hid hown
  have HM := Lib.hid hm
  have hn0 : 0 ≤ (n : Int) := by omega
  have hni : (n : Int) ≤ 1048576 := by omega
  have hi : (a : Int) + 1 < S.size := by omega
  have hd : decide ((S.size : Int) ≤ (a : Int) + 1) = false := decide_eq_false (by omega)
  have wa1 : IntKind.i64.wrap ((a : Int) + 1) = (a : Int) + 1 := IntWalk.i64_in _ (by omega)
  obtain ⟨z0, hz0⟩ : ∃ z : Int, ((S[a]'ha).toNat : Int) = z := ⟨_, rfl⟩
  have n0 : (z0 != 91) = false := by rw [u8_ne hz0 (p := 91) (n := 91) rfl, h91]; rfl
  have hkI : (a : Int) + 1 + n = k := by omega
  clear h91 hsg hblk hown hm
  obtain ⟨z1, hz1⟩ : ∃ z : Int, ((S[k]'hkl).toNat : Int) = z := ⟨_, rfl⟩
  have n1 : (z1 != 42) = false := by rw [u8_ne hz1 (p := 42) (n := 42) rfl, h42]; rfl
  have hkl2 : (k : Int) < S.size := by omega
  have hfI : (k : Int) + 1 = f := by omega
  have htI : (f : Int) + d = t := by omega
  have HDIG := Lib.hid hdig
  have HEND := Lib.hid hend
  clear h42 hdig hend
  obtain ⟨z2, hz2⟩ : ∃ z : Int, ((S[t]'htl).toNat : Int) = z := ⟨_, rfl⟩
  have n2 : (z2 != 93) = false := by rw [u8_ne hz2 (p := 93) (n := 93) rfl, h93]; rfl
  have htl2 : (t : Int) < S.size := by omega
  have hbI : (t : Int) + 1 = b := by omega
  clear h93
  have HN := Lib.hid hnum
  obtain ⟨z3, hz3⟩ : ∃ z : Int, ((T[0]'hT0).toNat : Int) = z := ⟨_, rfl⟩
  have n3 : (z3 == 48) = false := by
    have := u8_ne hz3 (p := 48) (n := 48) rfl
    rw [hz48] at this
    simpa [bne] using this
  clear hz48 hnum
  have hqn : ((q : Int) == 0) = false := by rw [beq_eq_false_iff_ne]; omega
  go_enter Tryz.func20, Tryz.ntmps20
  go_wp2_with fail
  go_quiet (fail)
  go_wp2_with fail
  go_region_held3 (fun W => W.cell? ⟨g, 0, none⟩ = some (.string S) ∧ W.cell? ⟨g, 1, none⟩ = some (.int .i64 a))
    (first | exact ⟨q0, q1⟩ | exact ⟨p0, p1⟩ | exact ⟨HBLK.out.cell 0, HBLK.out.cell 1⟩)
    (first
    | (go_at_call 21; (refine (HSG.out _).mono ?_); rintro e w1 ⟨rfl, hb1⟩
       have hbw : Below w.heap.size w w1 := (below_drew w _).trans hb1
       have B1 := Blk.on HBLK.out hbw
       have p0 : w1.cell? ⟨g, 0, none⟩ = some (.string S) := B1.cell 0
       have p1 : w1.cell? ⟨g, 1, none⟩ = some (.int .i64 a) := B1.cell 1
       have fp1 := B1.frozen 1
       have pl := B1.lt
       have O1 := Lib.hid (ownsRow_same HOWN.out fun k hk => hbw.block k (HOWN.out.lt k hk).2)
       have hBw1 : B ≤ w1.heap.size := Nat.le_trans hBw hbw.size))
  have BM := B1.set_ 1 (.int .i64 b)
  have mr : (w1.setCell ⟨g, 1, none⟩ (.int .i64 b)).cell? ⟨g, 3, none⟩ = some (.int .i64 x.rest) := BM.cell 3
  have mo : (w1.setCell ⟨g, 1, none⟩ (.int .i64 b)).cell? ⟨g, 2, none⟩ = some (.slice A m cp) := BM.cell 2
  have mb : (w1.setCell ⟨g, 1, none⟩ (.int .i64 b)).cell? ⟨g, 4, none⟩ = some (.bool x.bad) := BM.cell 4
  have mf3 := BM.frozen 3
  have mf4 := BM.frozen 4
  have ml := BM.lt
  have SM : Hid (StAt (w1.setCell ⟨g, 1, none⟩ (.int .i64 b)) B g S b x) := Lib.hid (stMoved hBg B1 (by rw [HM.out]; exact O1.out))
  have XM : Hid (BX B g w (w1.setCell ⟨g, 1, none⟩ (.int .i64 b))) := Lib.hid ((bx (hbw.mono hBw)).setG 1 _)
  go_wp2_with fail
  refine times_l1 w1 g S hs p0 pl f d (by omega) HDIG.out HEND.out ?_
  intro u73 u74 u75 u76 u77 u78 u79 u80 u81 u82 u83 u84 u85 u86 u87 u88 u89 u90 u91 u92 u93 u94 u95 u96 u97 u98 u99
  go_wp2_with (first
    | (go_at_call 37; (refine (HN.out _).mono ?_); rintro e w2 ⟨rfl, rfl⟩))
  refine times_l2 w _ B g S b x SM.out XM.out ?_ c q (by omega) ho ?_
  · exact Nat.le_trans hBw1 (by simp [World.setCell])
  intro u175 u176 u177 u178 u179 u180 u181 u182 u183 u184 u185 u186 u187 u188 u189 u190 u191 u192 u193 w3 s3 x3
  go_wp2_with fail
  go_returns
  exact ⟨x3, rfl, s3⟩

end Go.Proofs.YtlhiadnolckoeaaGreatDoor
end
