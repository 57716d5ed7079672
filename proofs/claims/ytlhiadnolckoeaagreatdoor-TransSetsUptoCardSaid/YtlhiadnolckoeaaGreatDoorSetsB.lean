/-
  The reference's string that is being read, as it stands in memory; a walk over its equal (printed by wip/tools/refequal.py).
-/
import Derived.Test.YtlhiadnolckoeaaGreatDoorSetsA
import Derived.Deep.RegionHeld3

section
namespace Go.Proofs.YtlhiadnolckoeaaGreatDoor
open Go.RowKit Go.Maps

/-- the state: its block below B, what it holds; its row lies at B or above -/
def StAt (w : World) (B g : Nat) (S : ByteArray) (a : Nat) (x : Pl.TS) : Prop :=
  g < B ∧ ∃ v, Blk w g 55 #[.string S, .int .i64 a, v, .int .i64 x.rest, .bool x.bad] ∧ w.ownsRow B 5 1 v x.out.length (bytesC x.out)
theorem StAt.below {w w' : World} {B g : Nat} {S : ByteArray} {a : Nat} {x : Pl.TS} (h : StAt w B g S a x) (hb : Below w.heap.size w w') : StAt w' B g S a x := by
  obtain ⟨h1, v, h2, h3⟩ := h
  exact ⟨h1, v, h2.on hb, ownsRow_same h3 fun k hk => hb.block k (h3.lt k hk).2⟩
theorem StAt.drewN {w : World} {B g : Nat} {S : ByteArray} {a : Nat} {x : Pl.TS} (h : StAt w B g S a x) (k : Nat) : StAt (w.drewN k) B g S a x := h
/-- what one of the kinds comes to -/
def StPost (B g : Nat) (S : ByteArray) (a : Nat) (x : Pl.TS) (r : Option (List UInt8 × Pl.TS)) (w : World) (e : Ending) (w' : World) : Prop :=
  BX B g w w' ∧ match r with
  | none => e = .returned (.bool false) ∧ StAt w' B g S a x
  | some (t, y) => e = .returned (.bool true) ∧ ∃ b, b ≤ S.size ∧ S.data.toList.drop b = t ∧ StAt w' B g S b y
theorem str_at {S : ByteArray} {k : Nat} (h : k < S.size) : S.data.toList[k]? = some (S[k]'h) := by
  rw [Array.getElem?_toList]
  exact Array.getElem?_eq_getElem h
theorem str_no {S : ByteArray} {k : Nat} (h : S.size ≤ k) : S.data.toList[k]? = none := by
  rw [Array.getElem?_toList]
  exact Array.getElem?_eq_none h
theorem str_pre1 {S : ByteArray} {k : Nat} (h : k < S.size) (p : UInt8) : Lib.hasPrefix (S.data.toList.drop k) [p] = (S[k]'h == p) := by
  rw [Pl.hasPrefix1, List.getElem?_drop, Nat.add_zero, str_at h]
  rfl
theorem str_pre1_no {S : ByteArray} {k : Nat} (h : S.size ≤ k) (p : UInt8) : Lib.hasPrefix (S.data.toList.drop k) [p] = false := by
  rw [Pl.hasPrefix1, List.getElem?_drop, Nat.add_zero, str_no h]
  rfl
theorem str_pre2 {S : ByteArray} {k : Nat} (h : k + 1 < S.size) (p q : UInt8) : Lib.hasPrefix (S.data.toList.drop k) [p, q] = (S[k]'(Nat.lt_of_succ_lt h) == p && S[k + 1]'h == q) := by
  rw [Pl.hasPrefix2, List.getElem?_drop, List.getElem?_drop, Nat.add_zero, str_at h, str_at (Nat.lt_of_succ_lt h)]
  rfl
theorem str_pre2_no {S : ByteArray} {k : Nat} (h : S.size ≤ k + 1) (p q : UInt8) : Lib.hasPrefix (S.data.toList.drop k) [p, q] = false := by
  rw [Pl.hasPrefix2, List.getElem?_drop, List.getElem?_drop, str_no h, Bool.and_eq_false_iff]
  exact .inr rfl
theorem u8_ne {c p : UInt8} {z n : Int} (hz : (c.toNat : Int) = z) (hn : (p.toNat : Int) = n) : (z != n) = !(c == p) := by
  subst hz hn
  rw [Bool.eq_iff_iff]
  simp only [bne_iff_ne, ne_eq, Bool.not_eq_true', beq_eq_false_iff_ne, Int.natCast_inj]
  exact not_congr UInt8.toNat_inj
theorem signN_room {S : ByteArray} {k : Nat} (h : k < S.size) : 1 ≤ Pl.signN (S.data.toList.drop k) ∧ k + Pl.signN (S.data.toList.drop k) ≤ S.size := by
  have hl : S.data.toList.length = S.size := Array.length_toList
  have h1 := Pl.signN_pos (s := S.data.toList.drop k) (fun e => by have := congrArg List.length e; rw [List.length_drop, List.length_nil] at this; omega)
  have h2 := Pl.signN_le (S.data.toList.drop k)
  rw [List.length_drop] at h2
  omega
theorem stPushed {w2 : World} {B g b : Nat} {S : ByteArray} {x : Pl.TS} {v v2 A0 r0 b0 : Value} {c : UInt8} (hg0 : g < B) (hr : r0 = .int .i64 x.rest) (hb : b0 = .bool x.bad) (h2 : Blk w2 g 55 #[.string S, A0, v, r0, b0])
    (hown : w2.ownsRow B 5 1 v2 (x.out.length + 1) (bytesC (x.out ++ [c]))) : StAt ((w2.setCell ⟨g, 2, none⟩ v2).setCell ⟨g, 1, none⟩ (.int .i64 b)) B g S b { x with out := x.out ++ [c] } := by
  subst hr hb
  refine ⟨hg0, v2, (h2.set_ 2 v2).set_ 1 _, ?_⟩
  have hl : (x.out ++ [c]).length = x.out.length + 1 := by simp
  rw [hl]
  exact ownsRow_setCell_other (ownsRow_setCell_other hown (own_blk_ne hown h2 (by decide)) _) (own_blk_ne hown h2 (by decide)) _

set_option maxRecDepth 100000 in
set_option maxHeartbeats 4000000 in
theorem refEqual_miss (w : World) (B g : Nat) (S : ByteArray) (a : Nat) (x : Pl.TS) (h : StAt w B g S a x) (ha : a < S.size) (hs : S.size ≤ 1048576) (hm : ¬ (Lib.hasPrefix (S.data.toList.drop a) [91, 61] = true ∧ (S.data.toList.drop a).drop 2 ≠ [])) :
    Calls Tryz.prog 19 #[.pointer (some ⟨g, 0, none⟩)] w (StPost B g S a x none w) := by
  have hl : S.data.toList.length = S.size := Array.length_toList
  have HH := Lib.hid h
  obtain ⟨_, v, hblk, _⟩ := h
  have q0 : w.cell? ⟨g, 0, none⟩ = some (.string S) := hblk.cell 0
  have q1 : w.cell? ⟨g, 1, none⟩ = some (.int .i64 a) := hblk.cell 1
  have ql := hblk.lt
  clear hblk
  by_cases h1 : a + 2 < S.size
  · rw [str_pre2 (show a + 1 < S.size by omega)] at hm
    obtain ⟨z0, hz0⟩ : ∃ z : Int, ((S[a]'(Nat.lt_of_succ_lt (show a + 1 < S.size by omega))).toNat : Int) = z := ⟨_, rfl⟩
    obtain ⟨z1, hz1⟩ : ∃ z : Int, ((S[a + 1]'(show a + 1 < S.size by omega)).toNat : Int) = z := ⟨_, rfl⟩
    have n0 := u8_ne hz0 (p := 91) (n := 91) rfl
    have n1 := u8_ne hz1 (p := 61) (n := 61) rfl
    have h2 : (S.data.toList.drop a).drop 2 ≠ [] := fun e => by
      have := congrArg List.length e
      rw [List.length_drop, List.length_drop, List.length_nil] at this
      omega
    have hi : (a : Int) + 2 < S.size := by omega
    have hd : decide ((S.size : Int) ≤ (a : Int) + 2) = false := decide_eq_false (by omega)
    have wa1 : IntKind.i64.wrap ((a : Int) + 1) = (a : Int) + 1 := IntWalk.i64_in _ (by omega)
    have wa2 : IntKind.i64.wrap ((a : Int) + 2) = (a : Int) + 2 := IntWalk.i64_in _ (by omega)
    cases e0 : S[a]'(Nat.lt_of_succ_lt (show a + 1 < S.size by omega)) == 91 with
    | false =>
      rw [e0] at n0
      simp only [Bool.not_false] at n0
      clear hm h2 n1 hz1 e0
      go_enter Tryz.func19, Tryz.ntmps19
      go_wp2_with fail
      go_quiet (fail)
      go_wp2_with fail
      go_returns
      exact ⟨bx (below_drew w _), rfl, HH.out.drewN _⟩
    | true =>
      cases e1 : S[a + 1]'(show a + 1 < S.size by omega) == 61 with
      | false =>
        rw [e0] at n0
        rw [e1] at n1
        simp only [Bool.not_false, Bool.not_true] at n0 n1
        clear hm h2 e0 e1
        go_enter Tryz.func19, Tryz.ntmps19
        go_wp2_with fail
        go_quiet (fail)
        go_wp2_with fail
        go_returns
        exact ⟨bx (below_drew w _), rfl, HH.out.drewN _⟩
      | true => exact absurd ⟨by rw [e0, e1]; rfl, h2⟩ hm
  · have hi : (S.size : Int) ≤ (a : Int) + 2 := by omega
    have hd : decide ((S.size : Int) ≤ (a : Int) + 2) = true := decide_eq_true hi
    have wa1 : IntKind.i64.wrap ((a : Int) + 1) = (a : Int) + 1 := IntWalk.i64_in _ (by omega)
    have wa2 : IntKind.i64.wrap ((a : Int) + 2) = (a : Int) + 2 := IntWalk.i64_in _ (by omega)
    clear hm h1
    go_enter Tryz.func19, Tryz.ntmps19
    go_wp2_with fail
    go_quiet (fail)
    go_wp2_with fail
    go_returns
    exact ⟨bx (below_drew w _), rfl, HH.out.drewN _⟩

set_option maxRecDepth 100000 in
set_option maxHeartbeats 4000000 in
theorem refEqual_any (w : World) (B g : Nat) (S : ByteArray) (a : Nat) (x : Pl.TS) (h : StAt w B g S a x) (hBw : B ≤ w.heap.size) (ha : a < S.size) (hs : S.size ≤ 1048576) (ho : x.out.length + 65536 ≤ 140737488355328) :
    Calls Tryz.prog 19 #[.pointer (some ⟨g, 0, none⟩)] w (StPost B g S a x (Pl.equalS (S.data.toList.drop a) x) w) := by
  have hl : S.data.toList.length = S.size := Array.length_toList
  by_cases hp : Lib.hasPrefix (S.data.toList.drop a) [91, 61] = true ∧ (S.data.toList.drop a).drop 2 ≠ []
  · have h1 : a + 2 < S.size := by
      rcases Nat.lt_or_ge (a + 2) S.size with h | h
      · exact h
      · exact absurd (List.drop_eq_nil_of_le (by rw [List.length_drop]; omega)) hp.2
    have hp1 := hp.1
    rw [str_pre2 (show a + 1 < S.size by omega), Bool.and_eq_true] at hp1
    obtain ⟨z0, hz0⟩ : ∃ z : Int, ((S[a]'(Nat.lt_of_succ_lt (show a + 1 < S.size by omega))).toNat : Int) = z := ⟨_, rfl⟩
    obtain ⟨z1, hz1⟩ : ∃ z : Int, ((S[a + 1]'(show a + 1 < S.size by omega)).toNat : Int) = z := ⟨_, rfl⟩
    have n0 := u8_ne hz0 (p := 91) (n := 91) rfl
    have n1 := u8_ne hz1 (p := 61) (n := 61) rfl
    rw [hp1.1] at n0
    rw [hp1.2] at n1
    simp only [Bool.not_true] at n0 n1
    have hi : (a : Int) + 2 < S.size := by omega
    have hd : decide ((S.size : Int) ≤ (a : Int) + 2) = false := decide_eq_false (by omega)
    have wa1 : IntKind.i64.wrap ((a : Int) + 1) = (a : Int) + 1 := IntWalk.i64_in _ (by omega)
    have wa2 : IntKind.i64.wrap ((a : Int) + 2) = (a : Int) + 2 := IntWalk.i64_in _ (by omega)
    have hsg := refSign_any S (a + 2) h1 hs
    obtain ⟨hN1, hN2⟩ := signN_room h1
    have hdd : S.data.toList.drop (a + 2) = (S.data.toList.drop a).drop 2 := by rw [List.drop_drop]
    rw [hdd] at hsg hN1 hN2
    obtain ⟨n, hn⟩ : ∃ n, Pl.signN ((S.data.toList.drop a).drop 2) = n := ⟨_, rfl⟩
    obtain ⟨c, hc⟩ : ∃ c, Pl.signC ((S.data.toList.drop a).drop 2) = c := ⟨_, rfl⟩
    rw [hn, hc] at hsg
    rw [hn] at hN1 hN2
    have hdk : (S.data.toList.drop a).drop (2 + n) = S.data.toList.drop (a + 2 + n) := by rw [List.drop_drop, Nat.add_assoc]
    have hcast : ((a + 2 : Nat) : Int) = (a : Int) + 2 := by omega
    rw [hcast] at hsg
    have HH := Lib.hid h
    obtain ⟨hBg, v, hblk, hown⟩ := h
    obtain ⟨A, cp, rfl, _⟩ := own_slice hown
    have q0 : w.cell? ⟨g, 0, none⟩ = some (.string S) := hblk.cell 0
    have q1 : w.cell? ⟨g, 1, none⟩ = some (.int .i64 a) := hblk.cell 1
    have ql := hblk.lt
    obtain ⟨m, hm⟩ : ∃ m, x.out.length = m := ⟨_, rfl⟩
    rw [hm] at hown ho hblk
    have HSG := Lib.hid hsg
    have HBLK := Lib.hid hblk
    have HOWN := Lib.hid hown
    have HM := Lib.hid hm
    have hn0 : 0 ≤ (n : Int) := by omega
    have hni : (n : Int) ≤ 1048576 := by omega
    have wn1 : IntKind.i64.wrap ((a : Int) + 2 + n) = (a : Int) + 2 + n := IntWalk.i64_in _ (by omega)
    have wn2 : IntKind.i64.wrap ((a : Int) + 2 + n + 1) = (a : Int) + 2 + n + 1 := IntWalk.i64_in _ (by omega)
    have wn3 : IntKind.i64.wrap ((a : Int) + 2 + n + 2) = (a : Int) + 2 + n + 2 := IntWalk.i64_in _ (by omega)
    by_cases h4 : a + 2 + n + 1 < S.size
    · have hi4 : (a : Int) + 2 + n + 1 < S.size := by omega
      obtain ⟨z2, hz2⟩ : ∃ z : Int, ((S[a + 2 + n]'(Nat.lt_of_succ_lt h4)).toNat : Int) = z := ⟨_, rfl⟩
      obtain ⟨z3, hz3⟩ : ∃ z : Int, ((S[a + 2 + n + 1]'h4).toNat : Int) = z := ⟨_, rfl⟩
      have n2 := u8_ne hz2 (p := 61) (n := 61) rfl
      have n3 := u8_ne hz3 (p := 93) (n := 93) rfl
      have hpre := str_pre2 h4 61 93
      rw [← hdk] at hpre
      cases e2 : S[a + 2 + n]'(Nat.lt_of_succ_lt h4) == 61 with
      | false =>
        rw [e2] at n2 hpre
        have hr : Pl.equalS (S.data.toList.drop a) x = none := if_neg (fun k => by have := k.2.2; rw [hn, hpre] at this; cases this)
        rw [hr]
        simp only [Bool.not_false] at n2
        clear hr hpre e2 n3 hz3 hp hp1 hdd hdk hn hc hsg hblk hown hm
        go_enter Tryz.func19, Tryz.ntmps19
        go_wp2_with fail
        go_quiet (fail)
        go_wp2_with fail
        go_region_held3 (fun W => W.cell? ⟨g, 0, none⟩ = some (.string S) ∧ W.cell? ⟨g, 1, none⟩ = some (.int .i64 a))
          (first | exact ⟨q0, q1⟩ | exact ⟨p0, p1⟩ | exact ⟨HBLK.out.cell 0, HBLK.out.cell 1⟩)
          (first
          | (go_at_call 21; (refine (HSG.out _).mono ?_); rintro e w1 ⟨rfl, hb1⟩
             have hbw : Below w.heap.size w w1 := (below_drew w _).trans hb1
             have B1 := Blk.on HBLK.out hbw
             have p0 : w1.cell? ⟨g, 0, none⟩ = some (.string S) := B1.cell 0
             have p1 : w1.cell? ⟨g, 1, none⟩ = some (.int .i64 a) := B1.cell 1
             have p2 : w1.cell? ⟨g, 2, none⟩ = some (.slice A m cp) := B1.cell 2
             have pl := B1.lt
             have O1 := Lib.hid (ownsRow_same HOWN.out fun k hk => hbw.block k (HOWN.out.lt k hk).2)
             have hBw1 : B ≤ w1.heap.size := Nat.le_trans hBw hbw.size))
        go_wp2_with fail
        go_returns
        exact ⟨bx (hbw.mono hBw), rfl, HH.out.below hbw⟩
      | true =>
        cases e3 : S[a + 2 + n + 1]'h4 == 93 with
        | false =>
          rw [e2, e3] at hpre
          rw [e2] at n2
          rw [e3] at n3
          have hr : Pl.equalS (S.data.toList.drop a) x = none := if_neg (fun k => by have := k.2.2; rw [hn, hpre] at this; cases this)
          rw [hr]
          simp only [Bool.not_false, Bool.not_true] at n2 n3
          clear hr hpre e2 e3 hp hp1 hdd hdk hn hc hsg hblk hown hm
          go_enter Tryz.func19, Tryz.ntmps19
          go_wp2_with fail
          go_quiet (fail)
          go_wp2_with fail
          go_region_held3 (fun W => W.cell? ⟨g, 0, none⟩ = some (.string S) ∧ W.cell? ⟨g, 1, none⟩ = some (.int .i64 a))
            (first | exact ⟨q0, q1⟩ | exact ⟨p0, p1⟩ | exact ⟨HBLK.out.cell 0, HBLK.out.cell 1⟩)
            (first
            | (go_at_call 21; (refine (HSG.out _).mono ?_); rintro e w1 ⟨rfl, hb1⟩
               have hbw : Below w.heap.size w w1 := (below_drew w _).trans hb1
               have B1 := Blk.on HBLK.out hbw
               have p0 : w1.cell? ⟨g, 0, none⟩ = some (.string S) := B1.cell 0
               have p1 : w1.cell? ⟨g, 1, none⟩ = some (.int .i64 a) := B1.cell 1
               have p2 : w1.cell? ⟨g, 2, none⟩ = some (.slice A m cp) := B1.cell 2
               have pl := B1.lt
               have O1 := Lib.hid (ownsRow_same HOWN.out fun k hk => hbw.block k (HOWN.out.lt k hk).2)
               have hBw1 : B ≤ w1.heap.size := Nat.le_trans hBw hbw.size))
          go_wp2_with fail
          go_returns
          exact ⟨bx (hbw.mono hBw), rfl, HH.out.below hbw⟩
        | true =>
          rw [e2, e3] at hpre
          rw [e2] at n2
          rw [e3] at n3
          have hr : Pl.equalS (S.data.toList.drop a) x = some ((S.data.toList.drop a).drop (4 + n), { x with out := x.out ++ [c] }) := by
            unfold Pl.equalS
            rw [if_pos ⟨hp.1, hp.2, by rw [hn, hpre]; rfl⟩, hn, hc]
          rw [hr]
          have HD : Hid (S.data.toList.drop (a + 2 + n + 2) = (S.data.toList.drop a).drop (4 + n)) := Lib.hid (by rw [List.drop_drop]; congr 1; omega)
          have h5 : a + 2 + n + 2 ≤ S.size := by omega
          simp only [Bool.not_true] at n2 n3
          clear hr hpre e2 e3 hp hp1 hdd hdk hn hc hsg hblk hown hm
          go_enter Tryz.func19, Tryz.ntmps19
          go_wp2_with fail
          go_quiet (fail)
          go_wp2_with fail
          go_region_held3 (fun W => W.cell? ⟨g, 0, none⟩ = some (.string S) ∧ W.cell? ⟨g, 1, none⟩ = some (.int .i64 a))
            (first | exact ⟨q0, q1⟩ | exact ⟨p0, p1⟩ | exact ⟨HBLK.out.cell 0, HBLK.out.cell 1⟩)
            (first
            | (go_at_call 21; (refine (HSG.out _).mono ?_); rintro e w1 ⟨rfl, hb1⟩
               have hbw : Below w.heap.size w w1 := (below_drew w _).trans hb1
               have B1 := Blk.on HBLK.out hbw
               have p0 : w1.cell? ⟨g, 0, none⟩ = some (.string S) := B1.cell 0
               have p1 : w1.cell? ⟨g, 1, none⟩ = some (.int .i64 a) := B1.cell 1
               have p2 : w1.cell? ⟨g, 2, none⟩ = some (.slice A m cp) := B1.cell 2
               have pl := B1.lt
               have O1 := Lib.hid (ownsRow_same HOWN.out fun k hk => hbw.block k (HOWN.out.lt k hk).2)
               have hBw1 : B ≤ w1.heap.size := Nat.le_trans hBw hbw.size))
          go_wp2_with (first
            | (at_builtin; refine wpList_push rfl _ _ rfl w1 B (.slice A m cp) m x.out c rfl O1.out HM.out.symm rfl hBw1 (by omega) ?_; intro A2 c2 w2 hown2 hg2 hat2
               have b2 := Blk.grown (B1.alloc _) hg2 (own_blk_ne O1.out B1 (by decide)).symm
               have r2 := b2.cell 2
               have f2 := b2.frozen 2
               have l2 := b2.lt
               have s2 := b2.set_ 2 (.slice A2 (m + 1) c2)
               have r1 := s2.cell 1
               have f1 := s2.frozen 1
               have l1 := s2.lt))
          go_returns
          have hcb : ((a + 2 + n + 2 : Nat) : Int) = (a : Int) + 2 + n + 2 := by omega
          have hst := stPushed (b := a + 2 + n + 2) (x := x) hBg rfl rfl b2 (by rw [HM.out]; exact hown2)
          rw [hcb] at hst
          have hb0 : Below B w (w1.alloc (.cells #[.int .u8 (c.toNat : Int)] 5)) := (hbw.mono hBw).alloc hBw1 _
          have hb2 := hb0.grown hg2 (Nat.le_trans hBw1 (by simp)) (fun j hj => (O1.out.lt j hj).1)
          exact ⟨((bx hb2).setG 2 _).setG 1 _, rfl, a + 2 + n + 2, h5, HD.out, hst⟩
    · have hi4 : (S.size : Int) ≤ (a : Int) + 2 + n + 1 := by omega
      have hd4 : decide ((S.size : Int) ≤ (a : Int) + 2 + n + 1) = true := decide_eq_true hi4
      have hr : Pl.equalS (S.data.toList.drop a) x = none := if_neg (fun k => by have := k.2.2; rw [hn, hdk, str_pre2_no (by omega)] at this; cases this)
      rw [hr]
      clear hr hp hp1 hdd hdk hn hc hsg hblk hown hm
      go_enter Tryz.func19, Tryz.ntmps19
      go_wp2_with fail
      go_quiet (fail)
      go_wp2_with fail
      go_region_held3 (fun W => W.cell? ⟨g, 0, none⟩ = some (.string S) ∧ W.cell? ⟨g, 1, none⟩ = some (.int .i64 a))
        (first | exact ⟨q0, q1⟩ | exact ⟨p0, p1⟩ | exact ⟨HBLK.out.cell 0, HBLK.out.cell 1⟩)
        (first
        | (go_at_call 21; (refine (HSG.out _).mono ?_); rintro e w1 ⟨rfl, hb1⟩
           have hbw : Below w.heap.size w w1 := (below_drew w _).trans hb1
           have B1 := Blk.on HBLK.out hbw
           have p0 : w1.cell? ⟨g, 0, none⟩ = some (.string S) := B1.cell 0
           have p1 : w1.cell? ⟨g, 1, none⟩ = some (.int .i64 a) := B1.cell 1
           have p2 : w1.cell? ⟨g, 2, none⟩ = some (.slice A m cp) := B1.cell 2
           have pl := B1.lt
           have O1 := Lib.hid (ownsRow_same HOWN.out fun k hk => hbw.block k (HOWN.out.lt k hk).2)
           have hBw1 : B ≤ w1.heap.size := Nat.le_trans hBw hbw.size))
      go_wp2_with fail
      go_returns
      exact ⟨bx (hbw.mono hBw), rfl, HH.out.below hbw⟩
  · have hr : Pl.equalS (S.data.toList.drop a) x = none := if_neg (fun k => hp ⟨k.1, k.2.1⟩)
    rw [hr]
    exact refEqual_miss w B g S a x h ha hs hp

end Go.Proofs.YtlhiadnolckoeaaGreatDoor
end
