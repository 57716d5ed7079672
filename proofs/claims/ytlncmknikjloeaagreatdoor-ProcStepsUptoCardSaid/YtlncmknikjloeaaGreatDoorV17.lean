/-
  Parts of the proof: Walks over Read at a pipe's end, at a source.
-/
import Derived.Test.YtlncmknikjloeaaGreatDoorV05

section
namespace Go.Proofs.YtlncmknikjloeaaGreatDoor
open Go.RowKit Go.Maps

set_option maxRecDepth 100000 in
set_option maxHeartbeats 2000000 in
/-- an empty pipe that can be written to -/
theorem readAgain (w : World) (b k : Nat) (D : Nat → Value) (h : TableOf w b k D) (i : Nat) (hi : i < 16) (p : Nat) (hD : D i = outV p) (c : Nat) (A : Option Addr) (r wr : Int) (hp : PipeAt w p (.slice A 0 c) r wr) (hwr : 0 < wr) (most : Int) (hm : 1 ≤ most) :
    Calls Tryz.prog 80 #[.pointer (some ⟨b, 0, none⟩), .int .i64 (i : Int), .int .i64 most] w fun e w' => e = .returned (.tuple #[.slice none 0 0, .int .i64 10]) ∧ Turns [] w w' := by
  have hhas := kHas w b k D h (i : Int)
  rw [if_pos (by omega), Int.toNat_natCast, hD] at hhas
  have hlt := hp.lt
  have c0 : w.cell? ⟨p, 0, none⟩ = some (.slice A 0 c) := hp.cell 0
  have c2 : w.cell? ⟨p, 2, none⟩ = some (.int .i64 wr) := hp.cell 2
  unfold outV at hhas
  go_enter Tryz.func80, Tryz.ntmps80
  go_wp2_with (go_at_call 93; refine hhas.mono ?_; rintro e w1 ⟨rfl, rfl⟩)
  go_returns
  exact ⟨rfl, (Turns.refl _ _).alloc _⟩

set_option maxRecDepth 100000 in
set_option maxHeartbeats 2000000 in
/-- a source that is interrupted -/
theorem readSourceIntr (w : World) (b k : Nat) (K : KS) (D : Nat → Value) (hK : KernOf w k K) (h : TableOf w b k D) (i : Nat) (hi : i < 16) (p : Nat) (hD : D i = sourceV p) (v : Value) (hp : Blk w p 153 #[v]) (most : Int) (hm : 1 ≤ most) (hf : K.next.1 = 2) :
    Calls Tryz.prog 80 #[.pointer (some ⟨b, 0, none⟩), .int .i64 (i : Int), .int .i64 most] w fun e w' => e = .returned (.tuple #[.slice none 0 0, .int .i64 9]) ∧ KernOf w' k K.took ∧ Turns [k] w w' := by
  have hhas := kHas w b k D h (i : Int)
  rw [if_pos (by omega), Int.toNat_natCast, hD] at hhas
  have hk := h.kern
  unfold sourceV at hhas
  have hfa := fun W hW => kFault W k K hW
  rw [hf] at hfa
  go_enter Tryz.func80, Tryz.ntmps80
  go_wp2_with (first
    | (go_at_call 93; refine hhas.mono ?_; rintro e w1 ⟨rfl, rfl⟩)
    | (go_at_call 94; refine (hfa _ hK).mono ?_; rintro e w2 ⟨rfl, hK2, hT2⟩))
  go_returns
  exact ⟨rfl, hK2.alloc _, hT2.alloc _⟩

set_option maxRecDepth 100000 in
set_option maxHeartbeats 2000000 in
/-- a pipe's end that is interrupted -/
theorem readOutIntr (w : World) (b k : Nat) (K : KS) (D : Nat → Value) (hK : KernOf w k K) (h : TableOf w b k D) (i : Nat) (hi : i < 16) (p : Nat) (hD : D i = outV p) (n c : Nat) (A : Option Addr) (r wr : Int) (hp : PipeAt w p (.slice A n c) r wr) (hwr : 0 < n ∨ wr ≤ 0) (most : Int) (hm : 1 ≤ most) (hf : K.next.1 = 2) :
    Calls Tryz.prog 80 #[.pointer (some ⟨b, 0, none⟩), .int .i64 (i : Int), .int .i64 most] w fun e w' => e = .returned (.tuple #[.slice none 0 0, .int .i64 9]) ∧ KernOf w' k K.took ∧ Turns [k] w w' := by
  have hhas := kHas w b k D h (i : Int)
  rw [if_pos (by omega), Int.toNat_natCast, hD] at hhas
  have hk := h.kern
  have hlt := hp.lt
  have hltb : b < w.heap.size := Blk.lt h
  have c0 : w.cell? ⟨p, 0, none⟩ = some (.slice A n c) := hp.cell 0
  have c2 : w.cell? ⟨p, 2, none⟩ = some (.int .i64 wr) := hp.cell 2
  unfold outV at hhas
  have hfa := fun W hW => kFault W k K hW
  rw [hf] at hfa
  have hK0 := fun o => hK.alloc o
  by_cases hn : n = 0
  · have hw : wr ≤ 0 := by omega
    subst hn
    go_enter Tryz.func80, Tryz.ntmps80
    go_wp2_with (first
      | (go_at_call 93; refine hhas.mono ?_; rintro e w1 ⟨rfl, rfl⟩)
      | (go_at_call 94; refine (hfa _ (hK0 _)).mono ?_; rintro e w2 ⟨rfl, hK2, hT2⟩))
    go_returns
    exact ⟨rfl, hK2.alloc _, (((Turns.refl _ _).alloc _).trans hT2).alloc _⟩
  · go_enter Tryz.func80, Tryz.ntmps80
    go_wp2_with (first
      | (go_at_call 93; refine hhas.mono ?_; rintro e w1 ⟨rfl, rfl⟩)
      | (go_at_call 94; refine (hfa _ (hK0 _)).mono ?_; rintro e w2 ⟨rfl, hK2, hT2⟩))
    go_returns
    exact ⟨rfl, hK2.alloc _, (((Turns.refl _ _).alloc _).trans hT2).alloc _⟩

set_option maxRecDepth 100000 in
set_option maxHeartbeats 2000000 in
/-- a source that is read -/
theorem readSource (w : World) (b k : Nat) (K : KS) (D : Nat → Value) (hK : KernOf w k K) (h : TableOf w b k D) (i : Nat) (hi : i < 16) (p : Nat) (hD : D i = sourceV p) (base : Nat) (A : Option Addr) (c : Nat) (bs : List UInt8) (hp : Blk w p 153 #[.slice A bs.length c])
    (hr : OffRow w base 5 (.slice A bs.length c) bs.length (bytesC bs)) (most : Int) (hm : 1 ≤ most) (hm2 : most ≤ 9223372036854775807) (hf : K.next.1 ≠ 2) (hf4 : K.next.1 ≠ 4) (hl : bs.length ≤ 140737488355328) (n : Nat) (hn : shortN (min most bs.length) K.next = (n : Int)) :
    Calls Tryz.prog 80 #[.pointer (some ⟨b, 0, none⟩), .int .i64 (i : Int), .int .i64 most] w fun e w' => ∃ u, e = .returned (.tuple #[u, .int .i64 0]) ∧ w'.ownsRow w.heap.size 5 1 u n (bytesC (bs.take n)) ∧
      KernOf w' k K.took ∧ Blk w' p 153 #[.slice (cutA A c n 1) (bs.length - n) (c - n)] ∧ Turns [k, p] w w' := by
  have hhas := kHas w b k D h (i : Int)
  rw [if_pos (by omega), Int.toNat_natCast, hD] at hhas
  have hk := h.kern
  unfold sourceV at hhas
  obtain ⟨f1, f2, hff⟩ : ∃ f1 f2, K.next = (f1, f2) := ⟨_, _, rfl⟩
  rw [hff] at hn
  have hfa := fun W hW => kFault W k K hW
  rw [hff] at hfa hf hf4
  have hpf : p ∉ K.foot k := hK.off hp (by decide) (by decide)
  have hsh := fun W => kShort W (min most bs.length) (f1, f2)
  rw [hn] at hsh
  have hnl : n ≤ bs.length := by
    have := (shortN_le (m := min most bs.length) (f := (f1, f2)) (by omega)).2
    omega
  have hc : bs.length ≤ c := by
    obtain ⟨A', c', e, hc, _⟩ := hr.form
    simp only [Value.slice.injEq] at e
    omega
  obtain ⟨iB, hiB, hB0, hB1, hB2⟩ := info_parts Tryz.infoByte
  have hfr := fun W => run_front (P := Tryz.prog) 39 5 iB Tryz.underlying39 hiB A bs.length c n (by omega) W
  have hct := fun W => run_cut (P := Tryz.prog) 39 5 iB 1 Tryz.underlying39 hiB hB1 A bs.length c .i64 (n : Int) n rfl hnl W
  clear hiB hB0 hB1 hB2
  obtain ⟨m, hm3⟩ : ∃ m, min most (bs.length : Int) = m := ⟨_, rfl⟩
  rw [hm3] at hn hsh
  rcases Int.lt_or_le (bs.length : Int) most with hml | hml
  · rw [Int.min_eq_right (Int.le_of_lt hml)] at hm3
    subst hm3
    have HC := Lib.hid hc
    have HN := Lib.hid hnl
    clear hc hnl
    go_enter Tryz.func80, Tryz.ntmps80
    go_wp2_with (first
      | (go_at_call 93; refine hhas.mono ?_; rintro e w1 ⟨rfl, rfl⟩)
      | (go_at_call 94; refine (hfa _ hK).mono ?_; rintro e w2 ⟨rfl, hK2, hT2⟩; have hp2 := (hT2.block p hp.lt (by intro hx; apply hpf; rw [List.mem_singleton.1 hx]; simp [KS.foot])).trans hp; have cp2 : w2.cell? ⟨p, 0, none⟩ = some (.slice A bs.length c) := Blk.cell hp2 0; have fp2 : w2.frozen? ⟨p, 0, none⟩ = false := Blk.frozen hp2 0; have lp2 : p < w2.heap.size := Blk.lt hp2))
    obtain ⟨W, hW⟩ : ∃ W, (w2.alloc (.cells #[.int .i64 f1, .int .i64 f2] 63)).drew = W := ⟨_, rfl⟩
    have q0 : W.cell? ⟨p, 0, none⟩ = some (.slice A bs.length c) := by rw [← hW]; exact (World.cell?_alloc_lt w2 _ _ lp2).trans cp2
    have q1 : W.cell? ⟨w2.heap.size, 0, none⟩ = some (.int .i64 f1) := by rw [← hW]; exact (Blk.new w2 _ _).cell 0
    have q2 : W.cell? ⟨w2.heap.size, 1, none⟩ = some (.int .i64 f2) := by rw [← hW]; exact (Blk.new w2 _ _).cell 1
    have lpW : p < W.heap.size := by rw [← hW]; show p < (w2.alloc _).heap.size; simp; omega
    have TW : Turns [k] w1 W := by rw [← hW]; exact (hT2.alloc _).drew
    have KW : KernOf W k K.took := by rw [← hW]; exact (hK2.alloc _).same fun _ _ => rfl
    have hOW : OffRow W base 5 (.slice A bs.length c) bs.length (bytesC bs) := by
      refine hr.same fun g hg => TW.block g (hr.lt hg).2 ?_
      rw [List.mem_singleton]
      rintro rfl
      exact hr.blk_ne hK.blk (by decide) hg
    obtain ⟨X, hX⟩ : ∃ X : Obj, .cells #[.int .i64 f1, .int .i64 f2] 63 = X := ⟨_, rfl⟩
    rw [hX] at hsh
    have HBY := Lib.hid (bytes_of_front hOW (fun g hg => Below.heap_alloc W X g hg) HN.out)
    have HLT : Hid ((bs.take n).length ≤ 140737488355328) := Lib.hid (by rw [List.length_take]; omega)
    have hpX : p < (W.alloc X).heap.size := by simp; omega
    have bW : Blk W p 153 #[.slice A bs.length c] := by rw [← hW]; exact (Below.heap_alloc w2 _ p lp2).trans hp2
    have HQ4 : ∀ w4, Below (W.alloc X).heap.size (W.alloc X) w4 → w4.cell? ⟨p, 0, none⟩ = some (.slice A bs.length c) := fun w4 hb => Blk.cell ((bW.alloc X).below hb hpX) 0
    have HF4 : ∀ w4, Below (W.alloc X).heap.size (W.alloc X) w4 → w4.frozen? ⟨p, 0, none⟩ = false := fun w4 hb => Blk.frozen ((bW.alloc X).below hb hpX) 0
    have HL4 : ∀ w4, Below (W.alloc X).heap.size (W.alloc X) w4 → p < w4.heap.size := fun w4 hb => Nat.lt_of_lt_of_le hpX hb.size
    refine still_tail 7 W hW (by kernel_rfl) (by kernel_rfl) ?_
    simp only [List.take_succ_cons, List.take_zero, List.drop_succ_cons, List.drop_zero]
    repeat still_step
    refine wpStill_nil ?_
    go_wp2_with (first
      | (go_at_call 96; refine (hsh _).mono ?_; rintro e w3 ⟨rfl, rfl⟩)
      | (go_at_call 39; refine (cloneB _ _ (bs.take n) HBY.out HLT.out).mono ?_; rintro e w4 ⟨u, rfl, hown, hbel⟩; have q4 := HQ4 w4 hbel; have f4 := HF4 w4 hbel; have l4 := HL4 w4 hbel))
    go_returns
    have T4 : Turns [k] w1 w4 := (TW.alloc X).then (Turns.of_below hbel) (by simp)
    have K4 : KernOf w4 k K.took := ((KW.alloc X).below hbel)
    refine ⟨u, rfl, ?_, K4.same (fun g hg => Below.heap_setCell w4 _ _ g (fun e => hpf ((show g = p from e) ▸ hg))), (((bW.alloc X).below hbel hpX).set_ 0 _), (T4.more (by simp)).setCell _ _ (by simp)⟩
    have h1 := Joins.ownsRow_le hown (show w1.heap.size ≤ (W.alloc X).heap.size by have := TW.size; simp; omega)
    rw [List.length_take, Nat.min_eq_left HN.out] at h1
    exact ownsRow_setCell_other h1 (fun e => by have := (hown.lt p e).1; omega) _
  · rw [Int.min_eq_left hml] at hm3
    subst hm3
    have HC := Lib.hid hc
    have HN := Lib.hid hnl
    clear hc hnl
    go_enter Tryz.func80, Tryz.ntmps80
    go_wp2_with (first
      | (go_at_call 93; refine hhas.mono ?_; rintro e w1 ⟨rfl, rfl⟩)
      | (go_at_call 94; refine (hfa _ hK).mono ?_; rintro e w2 ⟨rfl, hK2, hT2⟩; have hp2 := (hT2.block p hp.lt (by intro hx; apply hpf; rw [List.mem_singleton.1 hx]; simp [KS.foot])).trans hp; have cp2 : w2.cell? ⟨p, 0, none⟩ = some (.slice A bs.length c) := Blk.cell hp2 0; have fp2 : w2.frozen? ⟨p, 0, none⟩ = false := Blk.frozen hp2 0; have lp2 : p < w2.heap.size := Blk.lt hp2))
    obtain ⟨W, hW⟩ : ∃ W, (w2.alloc (.cells #[.int .i64 f1, .int .i64 f2] 63)).drew = W := ⟨_, rfl⟩
    have q0 : W.cell? ⟨p, 0, none⟩ = some (.slice A bs.length c) := by rw [← hW]; exact (World.cell?_alloc_lt w2 _ _ lp2).trans cp2
    have q1 : W.cell? ⟨w2.heap.size, 0, none⟩ = some (.int .i64 f1) := by rw [← hW]; exact (Blk.new w2 _ _).cell 0
    have q2 : W.cell? ⟨w2.heap.size, 1, none⟩ = some (.int .i64 f2) := by rw [← hW]; exact (Blk.new w2 _ _).cell 1
    have lpW : p < W.heap.size := by rw [← hW]; show p < (w2.alloc _).heap.size; simp; omega
    have TW : Turns [k] w1 W := by rw [← hW]; exact (hT2.alloc _).drew
    have KW : KernOf W k K.took := by rw [← hW]; exact (hK2.alloc _).same fun _ _ => rfl
    have hOW : OffRow W base 5 (.slice A bs.length c) bs.length (bytesC bs) := by
      refine hr.same fun g hg => TW.block g (hr.lt hg).2 ?_
      rw [List.mem_singleton]
      rintro rfl
      exact hr.blk_ne hK.blk (by decide) hg
    obtain ⟨X, hX⟩ : ∃ X : Obj, .cells #[.int .i64 f1, .int .i64 f2] 63 = X := ⟨_, rfl⟩
    rw [hX] at hsh
    have HBY := Lib.hid (bytes_of_front hOW (fun g hg => Below.heap_alloc W X g hg) HN.out)
    have HLT : Hid ((bs.take n).length ≤ 140737488355328) := Lib.hid (by rw [List.length_take]; omega)
    have hpX : p < (W.alloc X).heap.size := by simp; omega
    have bW : Blk W p 153 #[.slice A bs.length c] := by rw [← hW]; exact (Below.heap_alloc w2 _ p lp2).trans hp2
    have HQ4 : ∀ w4, Below (W.alloc X).heap.size (W.alloc X) w4 → w4.cell? ⟨p, 0, none⟩ = some (.slice A bs.length c) := fun w4 hb => Blk.cell ((bW.alloc X).below hb hpX) 0
    have HF4 : ∀ w4, Below (W.alloc X).heap.size (W.alloc X) w4 → w4.frozen? ⟨p, 0, none⟩ = false := fun w4 hb => Blk.frozen ((bW.alloc X).below hb hpX) 0
    have HL4 : ∀ w4, Below (W.alloc X).heap.size (W.alloc X) w4 → p < w4.heap.size := fun w4 hb => Nat.lt_of_lt_of_le hpX hb.size
    refine still_tail 7 W hW (by kernel_rfl) (by kernel_rfl) ?_
    simp only [List.take_succ_cons, List.take_zero, List.drop_succ_cons, List.drop_zero]
    repeat still_step
    refine wpStill_nil ?_
    go_wp2_with (first
      | (go_at_call 96; refine (hsh _).mono ?_; rintro e w3 ⟨rfl, rfl⟩)
      | (go_at_call 39; refine (cloneB _ _ (bs.take n) HBY.out HLT.out).mono ?_; rintro e w4 ⟨u, rfl, hown, hbel⟩; have q4 := HQ4 w4 hbel; have f4 := HF4 w4 hbel; have l4 := HL4 w4 hbel))
    go_returns
    have T4 : Turns [k] w1 w4 := (TW.alloc X).then (Turns.of_below hbel) (by simp)
    have K4 : KernOf w4 k K.took := ((KW.alloc X).below hbel)
    refine ⟨u, rfl, ?_, K4.same (fun g hg => Below.heap_setCell w4 _ _ g (fun e => hpf ((show g = p from e) ▸ hg))), (((bW.alloc X).below hbel hpX).set_ 0 _), (T4.more (by simp)).setCell _ _ (by simp)⟩
    have h1 := Joins.ownsRow_le hown (show w1.heap.size ≤ (W.alloc X).heap.size by have := TW.size; simp; omega)
    rw [List.length_take, Nat.min_eq_left HN.out] at h1
    exact ownsRow_setCell_other h1 (fun e => by have := (hown.lt p e).1; omega) _

set_option maxRecDepth 100000 in
set_option maxHeartbeats 2000000 in
/-- a pipe that is read, and has something -/
theorem readOut (w : World) (b k : Nat) (K : KS) (D : Nat → Value) (hK : KernOf w k K) (h : TableOf w b k D) (i : Nat) (hi : i < 16) (p : Nat) (hD : D i = outV p) (base : Nat) (A : Option Addr) (c : Nat) (bs : List UInt8) (r wr : Int) (hp : PipeAt w p (.slice A bs.length c) r wr) (hne : 0 < bs.length)
    (hr : OffRow w base 5 (.slice A bs.length c) bs.length (bytesC bs)) (most : Int) (hm : 1 ≤ most) (hm2 : most ≤ 9223372036854775807) (hf : K.next.1 ≠ 2) (hf4 : K.next.1 ≠ 4) (hl : bs.length ≤ 140737488355328) (n : Nat) (hn : shortN (min most bs.length) K.next = (n : Int)) :
    Calls Tryz.prog 80 #[.pointer (some ⟨b, 0, none⟩), .int .i64 (i : Int), .int .i64 most] w fun e w' => ∃ u, e = .returned (.tuple #[u, .int .i64 0]) ∧ w'.ownsRow w.heap.size 5 1 u n (bytesC (bs.take n)) ∧
      KernOf w' k K.took ∧ PipeAt w' p (.slice (cutA A c n 1) (bs.length - n) (c - n)) r wr ∧ Turns [k, p] w w' := by
  have hhas := kHas w b k D h (i : Int)
  rw [if_pos (by omega), Int.toNat_natCast, hD] at hhas
  have hk := h.kern
  unfold outV at hhas
  have hlt := hp.lt
  have hltb : b < w.heap.size := Blk.lt h
  have c0 : w.cell? ⟨p, 0, none⟩ = some (.slice A bs.length c) := hp.cell 0
  have c2 : w.cell? ⟨p, 2, none⟩ = some (.int .i64 wr) := hp.cell 2
  have hK0 := fun o => hK.alloc o
  have hb0 : ((bs.length : Int) == 0) = false := beq_eq_false_iff_ne.2 (by omega)
  obtain ⟨f1, f2, hff⟩ : ∃ f1 f2, K.next = (f1, f2) := ⟨_, _, rfl⟩
  rw [hff] at hn
  have hfa := fun W hW => kFault W k K hW
  rw [hff] at hfa hf hf4
  have hpf : p ∉ K.foot k := hK.off hp (by decide) (by decide)
  have hsh := fun W => kShort W (min most bs.length) (f1, f2)
  rw [hn] at hsh
  have hnl : n ≤ bs.length := by
    have := (shortN_le (m := min most bs.length) (f := (f1, f2)) (by omega)).2
    omega
  have hc : bs.length ≤ c := by
    obtain ⟨A', c', e, hc, _⟩ := hr.form
    simp only [Value.slice.injEq] at e
    omega
  obtain ⟨iB, hiB, hB0, hB1, hB2⟩ := info_parts Tryz.infoByte
  have hfr := fun W => run_front (P := Tryz.prog) 39 5 iB Tryz.underlying39 hiB A bs.length c n (by omega) W
  have hct := fun W => run_cut (P := Tryz.prog) 39 5 iB 1 Tryz.underlying39 hiB hB1 A bs.length c .i64 (n : Int) n rfl hnl W
  clear hiB hB0 hB1 hB2
  obtain ⟨m, hm3⟩ : ∃ m, min most (bs.length : Int) = m := ⟨_, rfl⟩
  rw [hm3] at hn hsh
  rcases Int.lt_or_le (bs.length : Int) most with hml | hml
  · rw [Int.min_eq_right (Int.le_of_lt hml)] at hm3
    subst hm3
    have HC := Lib.hid hc
    have HN := Lib.hid hnl
    clear hc hnl
    go_enter Tryz.func80, Tryz.ntmps80
    go_wp2_with (first
      | (go_at_call 93; refine hhas.mono ?_; rintro e w1 ⟨rfl, rfl⟩)
      | (go_at_call 94; refine (hfa _ (hK0 _)).mono ?_; rintro e w2 ⟨rfl, hK2, hT2⟩; have hp2 := (hT2.block p (Nat.lt_of_lt_of_le hp.lt (by simp)) (by intro hx; apply hpf; rw [List.mem_singleton.1 hx]; simp [KS.foot])).trans ((Below.heap_alloc _ _ p hp.lt).trans hp); have cp2 : w2.cell? ⟨p, 0, none⟩ = some (.slice A bs.length c) := Blk.cell hp2 0; have fp2 : w2.frozen? ⟨p, 0, none⟩ = false := Blk.frozen hp2 0; have lp2 : p < w2.heap.size := Blk.lt hp2))
    obtain ⟨W, hW⟩ : ∃ W, (w2.alloc (.cells #[.int .i64 f1, .int .i64 f2] 63)).drew = W := ⟨_, rfl⟩
    have q0 : W.cell? ⟨p, 0, none⟩ = some (.slice A bs.length c) := by rw [← hW]; exact (World.cell?_alloc_lt w2 _ _ lp2).trans cp2
    have q1 : W.cell? ⟨w2.heap.size, 0, none⟩ = some (.int .i64 f1) := by rw [← hW]; exact (Blk.new w2 _ _).cell 0
    have q2 : W.cell? ⟨w2.heap.size, 1, none⟩ = some (.int .i64 f2) := by rw [← hW]; exact (Blk.new w2 _ _).cell 1
    have lpW : p < W.heap.size := by rw [← hW]; show p < (w2.alloc _).heap.size; simp; omega
    have TW : Turns [k] w1 W := by rw [← hW]; exact ((((Turns.refl _ w1).alloc _).trans hT2).alloc _).drew
    have KW : KernOf W k K.took := by rw [← hW]; exact (hK2.alloc _).same fun _ _ => rfl
    have hOW : OffRow W base 5 (.slice A bs.length c) bs.length (bytesC bs) := by
      refine hr.same fun g hg => TW.block g (hr.lt hg).2 ?_
      rw [List.mem_singleton]
      rintro rfl
      exact hr.blk_ne hK.blk (by decide) hg
    obtain ⟨X, hX⟩ : ∃ X : Obj, .cells #[.int .i64 f1, .int .i64 f2] 63 = X := ⟨_, rfl⟩
    rw [hX] at hsh
    have HBY := Lib.hid (bytes_of_front hOW (fun g hg => Below.heap_alloc W X g hg) HN.out)
    have HLT : Hid ((bs.take n).length ≤ 140737488355328) := Lib.hid (by rw [List.length_take]; omega)
    have hpX : p < (W.alloc X).heap.size := by simp; omega
    have bW : PipeAt W p (.slice A bs.length c) r wr := by rw [← hW]; exact (Below.heap_alloc w2 _ p lp2).trans hp2
    have HQ4 : ∀ w4, Below (W.alloc X).heap.size (W.alloc X) w4 → w4.cell? ⟨p, 0, none⟩ = some (.slice A bs.length c) := fun w4 hb => Blk.cell ((bW.alloc X).below hb hpX) 0
    have HF4 : ∀ w4, Below (W.alloc X).heap.size (W.alloc X) w4 → w4.frozen? ⟨p, 0, none⟩ = false := fun w4 hb => Blk.frozen ((bW.alloc X).below hb hpX) 0
    have HL4 : ∀ w4, Below (W.alloc X).heap.size (W.alloc X) w4 → p < w4.heap.size := fun w4 hb => Nat.lt_of_lt_of_le hpX hb.size
    refine still_tail 7 W hW (by kernel_rfl) (by kernel_rfl) ?_
    simp only [List.take_succ_cons, List.take_zero, List.drop_succ_cons, List.drop_zero]
    repeat still_step
    refine wpStill_nil ?_
    go_wp2_with (first
      | (go_at_call 96; refine (hsh _).mono ?_; rintro e w3 ⟨rfl, rfl⟩)
      | (go_at_call 39; refine (cloneB _ _ (bs.take n) HBY.out HLT.out).mono ?_; rintro e w4 ⟨u, rfl, hown, hbel⟩; have q4 := HQ4 w4 hbel; have f4 := HF4 w4 hbel; have l4 := HL4 w4 hbel))
    go_returns
    have T4 : Turns [k] w1 w4 := (TW.alloc X).then (Turns.of_below hbel) (by simp)
    have K4 : KernOf w4 k K.took := ((KW.alloc X).below hbel)
    refine ⟨u, rfl, ?_, K4.same (fun g hg => Below.heap_setCell w4 _ _ g (fun e => hpf ((show g = p from e) ▸ hg))), (((bW.alloc X).below hbel hpX).set_ 0 _), (T4.more (by simp)).setCell _ _ (by simp)⟩
    have h1 := Joins.ownsRow_le hown (show w1.heap.size ≤ (W.alloc X).heap.size by have := TW.size; simp; omega)
    rw [List.length_take, Nat.min_eq_left HN.out] at h1
    exact ownsRow_setCell_other h1 (fun e => by have := (hown.lt p e).1; omega) _
  · rw [Int.min_eq_left hml] at hm3
    subst hm3
    have HC := Lib.hid hc
    have HN := Lib.hid hnl
    clear hc hnl
    go_enter Tryz.func80, Tryz.ntmps80
    go_wp2_with (first
      | (go_at_call 93; refine hhas.mono ?_; rintro e w1 ⟨rfl, rfl⟩)
      | (go_at_call 94; refine (hfa _ (hK0 _)).mono ?_; rintro e w2 ⟨rfl, hK2, hT2⟩; have hp2 := (hT2.block p (Nat.lt_of_lt_of_le hp.lt (by simp)) (by intro hx; apply hpf; rw [List.mem_singleton.1 hx]; simp [KS.foot])).trans ((Below.heap_alloc _ _ p hp.lt).trans hp); have cp2 : w2.cell? ⟨p, 0, none⟩ = some (.slice A bs.length c) := Blk.cell hp2 0; have fp2 : w2.frozen? ⟨p, 0, none⟩ = false := Blk.frozen hp2 0; have lp2 : p < w2.heap.size := Blk.lt hp2))
    obtain ⟨W, hW⟩ : ∃ W, (w2.alloc (.cells #[.int .i64 f1, .int .i64 f2] 63)).drew = W := ⟨_, rfl⟩
    have q0 : W.cell? ⟨p, 0, none⟩ = some (.slice A bs.length c) := by rw [← hW]; exact (World.cell?_alloc_lt w2 _ _ lp2).trans cp2
    have q1 : W.cell? ⟨w2.heap.size, 0, none⟩ = some (.int .i64 f1) := by rw [← hW]; exact (Blk.new w2 _ _).cell 0
    have q2 : W.cell? ⟨w2.heap.size, 1, none⟩ = some (.int .i64 f2) := by rw [← hW]; exact (Blk.new w2 _ _).cell 1
    have lpW : p < W.heap.size := by rw [← hW]; show p < (w2.alloc _).heap.size; simp; omega
    have TW : Turns [k] w1 W := by rw [← hW]; exact ((((Turns.refl _ w1).alloc _).trans hT2).alloc _).drew
    have KW : KernOf W k K.took := by rw [← hW]; exact (hK2.alloc _).same fun _ _ => rfl
    have hOW : OffRow W base 5 (.slice A bs.length c) bs.length (bytesC bs) := by
      refine hr.same fun g hg => TW.block g (hr.lt hg).2 ?_
      rw [List.mem_singleton]
      rintro rfl
      exact hr.blk_ne hK.blk (by decide) hg
    obtain ⟨X, hX⟩ : ∃ X : Obj, .cells #[.int .i64 f1, .int .i64 f2] 63 = X := ⟨_, rfl⟩
    rw [hX] at hsh
    have HBY := Lib.hid (bytes_of_front hOW (fun g hg => Below.heap_alloc W X g hg) HN.out)
    have HLT : Hid ((bs.take n).length ≤ 140737488355328) := Lib.hid (by rw [List.length_take]; omega)
    have hpX : p < (W.alloc X).heap.size := by simp; omega
    have bW : PipeAt W p (.slice A bs.length c) r wr := by rw [← hW]; exact (Below.heap_alloc w2 _ p lp2).trans hp2
    have HQ4 : ∀ w4, Below (W.alloc X).heap.size (W.alloc X) w4 → w4.cell? ⟨p, 0, none⟩ = some (.slice A bs.length c) := fun w4 hb => Blk.cell ((bW.alloc X).below hb hpX) 0
    have HF4 : ∀ w4, Below (W.alloc X).heap.size (W.alloc X) w4 → w4.frozen? ⟨p, 0, none⟩ = false := fun w4 hb => Blk.frozen ((bW.alloc X).below hb hpX) 0
    have HL4 : ∀ w4, Below (W.alloc X).heap.size (W.alloc X) w4 → p < w4.heap.size := fun w4 hb => Nat.lt_of_lt_of_le hpX hb.size
    refine still_tail 7 W hW (by kernel_rfl) (by kernel_rfl) ?_
    simp only [List.take_succ_cons, List.take_zero, List.drop_succ_cons, List.drop_zero]
    repeat still_step
    refine wpStill_nil ?_
    go_wp2_with (first
      | (go_at_call 96; refine (hsh _).mono ?_; rintro e w3 ⟨rfl, rfl⟩)
      | (go_at_call 39; refine (cloneB _ _ (bs.take n) HBY.out HLT.out).mono ?_; rintro e w4 ⟨u, rfl, hown, hbel⟩; have q4 := HQ4 w4 hbel; have f4 := HF4 w4 hbel; have l4 := HL4 w4 hbel))
    go_returns
    have T4 : Turns [k] w1 w4 := (TW.alloc X).then (Turns.of_below hbel) (by simp)
    have K4 : KernOf w4 k K.took := ((KW.alloc X).below hbel)
    refine ⟨u, rfl, ?_, K4.same (fun g hg => Below.heap_setCell w4 _ _ g (fun e => hpf ((show g = p from e) ▸ hg))), (((bW.alloc X).below hbel hpX).set_ 0 _), (T4.more (by simp)).setCell _ _ (by simp)⟩
    have h1 := Joins.ownsRow_le hown (show w1.heap.size ≤ (W.alloc X).heap.size by have := TW.size; simp; omega)
    rw [List.length_take, Nat.min_eq_left HN.out] at h1
    exact ownsRow_setCell_other h1 (fun e => by have := (hown.lt p e).1; omega) _

end Go.Proofs.YtlncmknikjloeaaGreatDoor
end
