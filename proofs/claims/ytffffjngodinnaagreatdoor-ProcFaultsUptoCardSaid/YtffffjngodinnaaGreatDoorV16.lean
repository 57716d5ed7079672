/-
  Parts of the proof: A walk over proc.New; Walks over Read at a pipe's end, at a source.
-/
import Derived.Test.YtffffjngodinnaaGreatDoorV15
import Derived.Test.YtffffjngodinnaaGreatDoorV07
import Derived.Deep.RegionWith
import Derived.Deep.RegionHeld3
import Derived.Test.YtffffjngodinnaaGreatDoorV08

section
namespace Go.Proofs.YtffffjngodinnaaGreatDoor
open Go.RowKit Go.Maps

theorem limS {Z W : World} {g : Nat} {t : TypeId} {b l r : Value} (zb : Blk Z g t #[b, l, r]) (h : Below (g + 1) Z W) : W.cell? ⟨g, 0, none⟩ = some b ∧ W.cell? ⟨g, 1, none⟩ = some l ∧ W.cell? ⟨g, 2, none⟩ = some r ∧ Below (g + 1) Z W :=
  have q := zb.below h (Nat.lt_succ_self g)
  ⟨q.cell 0, q.cell 1, q.cell 2, h⟩
theorem lim_le {Z W : World} {g : Nat} (hz : g + 1 ≤ Z.heap.size) (h : Below (g + 1) Z W) : g ≤ W.heap.size := by have := h.size; omega
set_option maxRecDepth 100000 in
set_option maxHeartbeats 2000000 in
theorem procNew (w : World) (k : Nat) (A1 A2 : Option Addr) (c1 c2 : Nat) (args env : List ByteArray) (cwd : ByteArray) (buf line run : Int) (h1 : Reads w w.heap.size 1 A1 args.length (strsC args)) (h2 : Reads w w.heap.size 1 A2 env.length (strsC env)) (l1 : args.length ≤ 2097152) (l2 : env.length ≤ 2097152) :
    Calls Tryz.prog 27 #[.pointer (some ⟨k, 0, none⟩), .slice A1 args.length c1, .slice A2 env.length c2, .string cwd, .agg #[.int .i64 buf, .int .i64 line, .int .i64 run]] w fun e w' => ∃ p tb av ev all, e = .returned (.pointer (some ⟨p, 0, none⟩)) ∧ w.heap.size ≤ p ∧ w.heap.size ≤ tb ∧
      ProcOf w' p { k := k, tb := tb, av := av, args := args, ev := ev, env := env, cwd := cwd, buf := buf, line := line, run := run, held := 0, peak := 0, lv := .slice none 0 0, log := [], at_ := 0, may := false, top := false, steps := 0, all := all } ∧
      Blk w' all 89 #[.slice none 0 0, .slice none 0 0, .int .i64 (-1)] ∧
      TableOf w' tb k (fun _ => .nilIface) ∧ Below w.heap.size w w' ∧ (∀ b, av.ownBlock = some b → w.heap.size ≤ b) ∧ (∀ b, ev.ownBlock = some b → w.heap.size ≤ b) ∧ w.heap.size ≤ all := by
  have hR1 := Lib.hid h1
  have hR2 := Lib.hid h2
  have L1 := Lib.hid l1
  have L2 := Lib.hid l2
  clear h1 h2 l1 l2
  go_enter Tryz.func27, Tryz.ntmps27
  go_wp2_with fail
  obtain ⟨Z, hZ⟩ : ∃ Z, w.alloc (.cells #[.int .i64 buf, .int .i64 line, .int .i64 run] 26) = Z := ⟨_, rfl⟩
  have bZ : Below w.heap.size w Z := by rw [← hZ]; exact (Below.refl _ w).alloc (Nat.le_refl _) _
  have zb : Blk Z w.heap.size 26 #[.int .i64 buf, .int .i64 line, .int .i64 run] := by rw [← hZ]; exact Blk.new w _ _
  rw [hZ]
  obtain ⟨g, hg⟩ : ∃ g, w.heap.size = g := ⟨_, rfl⟩
  have hzs : g < Z.heap.size := by rw [← hg]; exact zb.lt
  rw [hg] at zb bZ ⊢
  clear hZ
  have rd1 : ∀ W, Below (g + 1) Z W → Reads W g 1 A1 args.length (strsC args) := fun W hW => ((hg ▸ hR1.out : Reads w g 1 A1 args.length (strsC args)).below bZ).below (hW.mono (by omega))
  have rd2 : ∀ W, Below (g + 1) Z W → Reads W g 1 A2 env.length (strsC env) := fun W hW => ((hg ▸ hR2.out : Reads w g 1 A2 env.length (strsC env)).below bZ).below (hW.mono (by omega))
  have rd1 := Lib.hid rd1
  have rd2 := Lib.hid rd2
  have y0 : Z.cell? ⟨g, 0, none⟩ = some (.int .i64 buf) := zb.cell 0
  have y1 : Z.cell? ⟨g, 1, none⟩ = some (.int .i64 line) := zb.cell 1
  have y2 : Z.cell? ⟨g, 2, none⟩ = some (.int .i64 run) := zb.cell 2
  have hB : Below (g + 1) Z Z.drew := ⟨rfl, rfl, rfl, Nat.le_refl _, fun _ _ => rfl⟩
  have hgz : g + 1 ≤ Z.heap.size := hzs
  have hB0 : ∀ o, Below (g + 1) Z (Z.alloc o).drew := fun o => have h := (Below.refl (g + 1) Z).alloc hgz o; ⟨h.os, h.tape, h.output, h.size, h.block⟩
  have hB0s : ∀ o : Obj, (Z.alloc o).drew.heap.size = Z.heap.size + 1 := fun o => by show (Z.alloc o).heap.size = _; simp
  have hgw : g ≤ w.heap.size := Nat.le_of_eq hg.symm
  have HS := Lib.hid hB0s
  clear hR1 hR2 hB0s
  go_region_held3 (fun W => W.cell? ⟨g, 0, none⟩ = some (.int .i64 buf) ∧ W.cell? ⟨g, 1, none⟩ = some (.int .i64 line) ∧ W.cell? ⟨g, 2, none⟩ = some (.int .i64 run) ∧ Below (g + 1) Z W)
    (first | (go_split_ands; refine limS zb ?_; first | assumption | exact hB0 _ | (refine below_box ?_ hgz _; assumption)))
    (first
    | (go_at_call 58; refine (kTable _ _).mono ?_; rintro e w1 ⟨rfl, hT1, hb1⟩; have hB1 : Below (g + 1) Z w1 := (by go_split_ands; first | exact below_step (hB0 _) hb1 hgz | (refine below_step ?_ hb1 hgz; assumption)))
    | (go_at_call 59; have hT3 := hT2; refine (cloneS_any A2 env.length c2 env _ g rfl (rd2.out _ (by go_split_ands; assumption)) (by go_split_ands; exact lim_le hgz (by assumption)) L2.out).mono ?_; rintro e w3 ⟨ev, rfl, hown3, hb3⟩; obtain ⟨Ae, ce, rfl, _⟩ := own_slice hown3; have hB3 : Below (g + 1) Z w3 := (by go_split_ands; exact below_step (by assumption) hb3 hgz))
    | (go_at_call 59; refine (cloneS_any A1 args.length c1 args _ g rfl (rd1.out _ (by go_split_ands; assumption)) (by go_split_ands; exact lim_le hgz (by assumption)) L1.out).mono ?_; rintro e w2 ⟨av, rfl, hown2, hb2⟩; obtain ⟨Aa, ca, rfl, _⟩ := own_slice hown2; have hB2 : Below (g + 1) Z w2 := (by go_split_ands; exact below_step (by assumption) hb2 hgz); have hT2 := hT1))
  all_goals
    have h23 : Below w2.heap.size w2 w3 := by first | exact hb3 | exact below_step (below_one w2 _) hb3 (Nat.le_refl _)
    have h13 : Below w1.heap.size w1 w3 := by first | exact below_step hb2 h23 (Nat.le_refl _) | exact below_step (below_step (below_one w1 _) hb2 (Nat.le_refl _)) h23 (Nat.le_refl _)
    have hT9 := Blk.on hT1 h13
    try rw [HS.out _] at hT9
    have h9 : Below g w w3 := bZ.trans (hB3.mono (Nat.le_succ g))
    have o29 := own_on hown2 h23
    have s3 := hB3.size
    have s2 := hB2.size
    have s1 := hB1.size
    have h39 := h23.size
    have h29 := h13.size
    go_wp2_with fail
    go_returns
    rw [hg]
    refine ⟨_, _, _, _, _, rfl, ?_, ?_, ⟨(by first | exact Blk.new _ _ _ | exact Blk.newNext _ _ _ _), ?_, ?_, ⟨rfl, .inl ⟨rfl, rfl⟩⟩⟩, Blk.alloc (by first | exact Blk.new w3 _ _ | exact Blk.on (Blk.new w2 _ _) hb3 | exact Blk.on (Blk.new w1 _ _) (below_step hb2 hb3 (Nat.le_refl _)) | exact Blk.on (Blk.new Z _ _).drew (below_step (below_step hb1 hb2 (Nat.le_refl _)) hb3 (Nat.le_refl _))) _, Blk.alloc (by first | exact hT9 | exact Blk.alloc hT9 _) _, ?_, fun b hb => ?_, fun b hb => ?_, ?_⟩
    · first | omega | (simp; omega)
    · first | (show g ≤ Z.heap.size; omega) | omega | (simp; omega)
    · exact Joins.ownsRow_le ((by first | exact o29.alloc _ | exact (o29.alloc _).alloc _) : World.ownsRow _ _ _ _ _ _ _) (Nat.zero_le _)
    · exact Joins.ownsRow_le ((by first | exact hown3.alloc _ | exact (hown3.alloc _).alloc _) : World.ownsRow _ _ _ _ _ _ _) (Nat.zero_le _)
    · first | exact below_box h9 hgw _ | exact below_box (below_box h9 hgw _) hgw _
    · have := (hown2.lt b hb).1
      first | omega | (simp at this; omega)
    · have := (hown3.lt b hb).1
      first | omega | (simp at this; omega)
    · first | omega | (simp; omega)

end Go.Proofs.YtffffjngodinnaaGreatDoor
end

section
namespace Go.Proofs.YtffffjngodinnaaGreatDoor
open Go.RowKit Go.Maps

set_option maxRecDepth 100000 in
set_option maxHeartbeats 2000000 in
/-- an empty pipe that can be written to -/
theorem readAgain (w : World) (b k : Nat) (D : Nat → Value) (h : TableOf w b k D) (i : Nat) (hi : i < 16) (p : Nat) (hD : D i = outV p) (c : Nat) (A : Option Addr) (r wr : Int) (hp : PipeAt w p (.slice A 0 c) r wr) (hwr : 0 < wr) (most : Int) (hm : 1 ≤ most) :
    Calls Tryz.prog 145 #[.pointer (some ⟨b, 0, none⟩), .int .i64 (i : Int), .int .i64 most] w fun e w' => e = .returned (.tuple #[.slice none 0 0, .int .i64 10]) ∧ Turns [] w w' := by
  have hhas := kHas w b k D h (i : Int)
  rw [if_pos (by omega), Int.toNat_natCast, hD] at hhas
  have hlt := hp.lt
  have c0 : w.cell? ⟨p, 0, none⟩ = some (.slice A 0 c) := hp.cell 0
  have c2 : w.cell? ⟨p, 2, none⟩ = some (.int .i64 wr) := hp.cell 2
  unfold outV at hhas
  go_enter Tryz.func145, Tryz.ntmps145
  go_wp2_with (go_at_call 166; refine hhas.mono ?_; rintro e w1 ⟨rfl, rfl⟩)
  go_returns
  exact ⟨rfl, (Turns.refl _ _).alloc _⟩

set_option maxRecDepth 100000 in
set_option maxHeartbeats 2000000 in
/-- a source that is interrupted -/
theorem readSourceIntr (w : World) (b k : Nat) (K : KS) (D : Nat → Value) (hK : KernOf w k K) (h : TableOf w b k D) (i : Nat) (hi : i < 16) (p : Nat) (hD : D i = sourceV p) (v : Value) (hp : Blk w p 159 #[v]) (most : Int) (hm : 1 ≤ most) (hf : K.next.1 = 2) :
    Calls Tryz.prog 145 #[.pointer (some ⟨b, 0, none⟩), .int .i64 (i : Int), .int .i64 most] w fun e w' => e = .returned (.tuple #[.slice none 0 0, .int .i64 9]) ∧ KernOf w' k K.took ∧ Turns [k] w w' := by
  have hhas := kHas w b k D h (i : Int)
  rw [if_pos (by omega), Int.toNat_natCast, hD] at hhas
  have hk := h.kern
  unfold sourceV at hhas
  have hfa := fun W hW => kFault W k K hW
  rw [hf] at hfa
  go_enter Tryz.func145, Tryz.ntmps145
  go_wp2_with (first
    | (go_at_call 166; refine hhas.mono ?_; rintro e w1 ⟨rfl, rfl⟩)
    | (go_at_call 167; refine (hfa _ hK).mono ?_; rintro e w2 ⟨rfl, hK2, hT2⟩))
  go_returns
  exact ⟨rfl, hK2.alloc _, hT2.alloc _⟩

set_option maxRecDepth 100000 in
set_option maxHeartbeats 2000000 in
/-- a pipe's end that is interrupted -/
theorem readOutIntr (w : World) (b k : Nat) (K : KS) (D : Nat → Value) (hK : KernOf w k K) (h : TableOf w b k D) (i : Nat) (hi : i < 16) (p : Nat) (hD : D i = outV p) (n c : Nat) (A : Option Addr) (r wr : Int) (hp : PipeAt w p (.slice A n c) r wr) (hwr : 0 < n ∨ wr ≤ 0) (most : Int) (hm : 1 ≤ most) (hf : K.next.1 = 2) :
    Calls Tryz.prog 145 #[.pointer (some ⟨b, 0, none⟩), .int .i64 (i : Int), .int .i64 most] w fun e w' => e = .returned (.tuple #[.slice none 0 0, .int .i64 9]) ∧ KernOf w' k K.took ∧ Turns [k] w w' := by
  have hhas := kHas w b k D h (i : Int)
  rw [if_pos (by omega), Int.toNat_natCast, hD] at hhas
  have hk := h.kern
  have hlt := hp.lt
  have hltb : b < w.heap.size := Blk.lt h
  have c0 : w.cell? ⟨p, 0, none⟩ = some (.slice A n c) := hp.cell 0
  have c2 : w.cell? ⟨p, 2, none⟩ = some (.int .i64 wr) := hp.cell 2
  unfold outV at hhas
  have hfa := fun W hW => kFault W k K hW
  rw [hf] at hfa
  have hK0 := fun o => hK.alloc o
  by_cases hn : n = 0
  · have hw : wr ≤ 0 := by omega
    subst hn
    go_enter Tryz.func145, Tryz.ntmps145
    go_wp2_with (first
      | (go_at_call 166; refine hhas.mono ?_; rintro e w1 ⟨rfl, rfl⟩)
      | (go_at_call 167; refine (hfa _ (hK0 _)).mono ?_; rintro e w2 ⟨rfl, hK2, hT2⟩))
    go_returns
    exact ⟨rfl, hK2.alloc _, (((Turns.refl _ _).alloc _).trans hT2).alloc _⟩
  · go_enter Tryz.func145, Tryz.ntmps145
    go_wp2_with (first
      | (go_at_call 166; refine hhas.mono ?_; rintro e w1 ⟨rfl, rfl⟩)
      | (go_at_call 167; refine (hfa _ (hK0 _)).mono ?_; rintro e w2 ⟨rfl, hK2, hT2⟩))
    go_returns
    exact ⟨rfl, hK2.alloc _, (((Turns.refl _ _).alloc _).trans hT2).alloc _⟩

set_option maxRecDepth 100000 in
set_option maxHeartbeats 2000000 in
/-- a source that is read -/
theorem readSource (w : World) (b k : Nat) (K : KS) (D : Nat → Value) (hK : KernOf w k K) (h : TableOf w b k D) (i : Nat) (hi : i < 16) (p : Nat) (hD : D i = sourceV p) (base : Nat) (A : Option Addr) (c : Nat) (bs : List UInt8) (hp : Blk w p 159 #[.slice A bs.length c])
    (hr : OffRow w base 5 (.slice A bs.length c) bs.length (bytesC bs)) (most : Int) (hm : 1 ≤ most) (hm2 : most ≤ 9223372036854775807) (hf : K.next.1 ≠ 2) (hf4 : K.next.1 ≠ 4) (hl : bs.length ≤ 140737488355328) (n : Nat) (hn : shortN (min most bs.length) K.next = (n : Int)) :
    Calls Tryz.prog 145 #[.pointer (some ⟨b, 0, none⟩), .int .i64 (i : Int), .int .i64 most] w fun e w' => ∃ u, e = .returned (.tuple #[u, .int .i64 0]) ∧ w'.ownsRow w.heap.size 5 1 u n (bytesC (bs.take n)) ∧
      KernOf w' k K.took ∧ Blk w' p 159 #[.slice (cutA A c n 1) (bs.length - n) (c - n)] ∧ Turns [k, p] w w' := by
  have hhas := kHas w b k D h (i : Int)
  rw [if_pos (by omega), Int.toNat_natCast, hD] at hhas
  have hk := h.kern
  unfold sourceV at hhas
  obtain ⟨f1, f2, hff⟩ : ∃ f1 f2, K.next = (f1, f2) := ⟨_, _, rfl⟩
  rw [hff] at hn
  have hfa := fun W hW => kFault W k K hW
  rw [hff] at hfa hf hf4
  have hpf : p ∉ K.foot k := hK.off hp (by decide) (by decide)
  have hsh := fun W => kShort W (min most bs.length) (f1, f2)
  rw [hn] at hsh
  have hnl : n ≤ bs.length := by
    have := (shortN_le (m := min most bs.length) (f := (f1, f2)) (by omega)).2
    omega
  have hc : bs.length ≤ c := by
    obtain ⟨A', c', e, hc, _⟩ := hr.form
    simp only [Value.slice.injEq] at e
    omega
  obtain ⟨iB, hiB, hB0, hB1, hB2⟩ := info_parts Tryz.infoByte
  have hfr := fun W => run_front (P := Tryz.prog) 23 5 iB Tryz.underlying23 hiB A bs.length c n (by omega) W
  have hct := fun W => run_cut (P := Tryz.prog) 23 5 iB 1 Tryz.underlying23 hiB hB1 A bs.length c .i64 (n : Int) n rfl hnl W
  clear hiB hB0 hB1 hB2
  obtain ⟨m, hm3⟩ : ∃ m, min most (bs.length : Int) = m := ⟨_, rfl⟩
  rw [hm3] at hn hsh
  rcases Int.lt_or_le (bs.length : Int) most with hml | hml
  · rw [Int.min_eq_right (Int.le_of_lt hml)] at hm3
    subst hm3
    have HC := Lib.hid hc
    have HN := Lib.hid hnl
    clear hc hnl
    go_enter Tryz.func145, Tryz.ntmps145
    go_wp2_with (first
      | (go_at_call 166; refine hhas.mono ?_; rintro e w1 ⟨rfl, rfl⟩)
      | (go_at_call 167; refine (hfa _ hK).mono ?_; rintro e w2 ⟨rfl, hK2, hT2⟩; have hp2 := (hT2.block p hp.lt (by intro hx; apply hpf; rw [List.mem_singleton.1 hx]; simp [KS.foot])).trans hp; have cp2 : w2.cell? ⟨p, 0, none⟩ = some (.slice A bs.length c) := Blk.cell hp2 0; have fp2 : w2.frozen? ⟨p, 0, none⟩ = false := Blk.frozen hp2 0; have lp2 : p < w2.heap.size := Blk.lt hp2))
    obtain ⟨W, hW⟩ : ∃ W, (w2.alloc (.cells #[.int .i64 f1, .int .i64 f2] 44)).drew = W := ⟨_, rfl⟩
    have q0 : W.cell? ⟨p, 0, none⟩ = some (.slice A bs.length c) := by rw [← hW]; exact (World.cell?_alloc_lt w2 _ _ lp2).trans cp2
    have q1 : W.cell? ⟨w2.heap.size, 0, none⟩ = some (.int .i64 f1) := by rw [← hW]; exact (Blk.new w2 _ _).cell 0
    have q2 : W.cell? ⟨w2.heap.size, 1, none⟩ = some (.int .i64 f2) := by rw [← hW]; exact (Blk.new w2 _ _).cell 1
    have lpW : p < W.heap.size := by rw [← hW]; show p < (w2.alloc _).heap.size; simp; omega
    have TW : Turns [k] w1 W := by rw [← hW]; exact (hT2.alloc _).drew
    have KW : KernOf W k K.took := by rw [← hW]; exact (hK2.alloc _).same fun _ _ => rfl
    have hOW : OffRow W base 5 (.slice A bs.length c) bs.length (bytesC bs) := by
      refine hr.same fun g hg => TW.block g (hr.lt hg).2 ?_
      rw [List.mem_singleton]
      rintro rfl
      exact hr.blk_ne hK.blk (by decide) hg
    obtain ⟨X, hX⟩ : ∃ X : Obj, .cells #[.int .i64 f1, .int .i64 f2] 44 = X := ⟨_, rfl⟩
    rw [hX] at hsh
    have HBY := Lib.hid (bytes_of_front hOW (fun g hg => Below.heap_alloc W X g hg) HN.out)
    have HLT : Hid ((bs.take n).length ≤ 140737488355328) := Lib.hid (by rw [List.length_take]; omega)
    have hpX : p < (W.alloc X).heap.size := by simp; omega
    have bW : Blk W p 159 #[.slice A bs.length c] := by rw [← hW]; exact (Below.heap_alloc w2 _ p lp2).trans hp2
    have HQ4 : ∀ w4, Below (W.alloc X).heap.size (W.alloc X) w4 → w4.cell? ⟨p, 0, none⟩ = some (.slice A bs.length c) := fun w4 hb => Blk.cell ((bW.alloc X).below hb hpX) 0
    have HF4 : ∀ w4, Below (W.alloc X).heap.size (W.alloc X) w4 → w4.frozen? ⟨p, 0, none⟩ = false := fun w4 hb => Blk.frozen ((bW.alloc X).below hb hpX) 0
    have HL4 : ∀ w4, Below (W.alloc X).heap.size (W.alloc X) w4 → p < w4.heap.size := fun w4 hb => Nat.lt_of_lt_of_le hpX hb.size
    refine still_tail 7 W hW (by kernel_rfl) (by kernel_rfl) ?_
    simp only [List.take_succ_cons, List.take_zero, List.drop_succ_cons, List.drop_zero]
    repeat still_step
    refine wpStill_nil ?_
    go_wp2_with (first
      | (go_at_call 169; refine (hsh _).mono ?_; rintro e w3 ⟨rfl, rfl⟩)
      | (go_at_call 62; refine (cloneB _ _ (bs.take n) HBY.out HLT.out).mono ?_; rintro e w4 ⟨u, rfl, hown, hbel⟩; have q4 := HQ4 w4 hbel; have f4 := HF4 w4 hbel; have l4 := HL4 w4 hbel))
    go_returns
    have T4 : Turns [k] w1 w4 := (TW.alloc X).then (Turns.of_below hbel) (by simp)
    have K4 : KernOf w4 k K.took := ((KW.alloc X).below hbel)
    refine ⟨u, rfl, ?_, K4.same (fun g hg => Below.heap_setCell w4 _ _ g (fun e => hpf ((show g = p from e) ▸ hg))), (((bW.alloc X).below hbel hpX).set_ 0 _), (T4.more (by simp)).setCell _ _ (by simp)⟩
    have h1 := Joins.ownsRow_le hown (show w1.heap.size ≤ (W.alloc X).heap.size by have := TW.size; simp; omega)
    rw [List.length_take, Nat.min_eq_left HN.out] at h1
    exact ownsRow_setCell_other h1 (fun e => by have := (hown.lt p e).1; omega) _
  · rw [Int.min_eq_left hml] at hm3
    subst hm3
    have HC := Lib.hid hc
    have HN := Lib.hid hnl
    clear hc hnl
    go_enter Tryz.func145, Tryz.ntmps145
    go_wp2_with (first
      | (go_at_call 166; refine hhas.mono ?_; rintro e w1 ⟨rfl, rfl⟩)
      | (go_at_call 167; refine (hfa _ hK).mono ?_; rintro e w2 ⟨rfl, hK2, hT2⟩; have hp2 := (hT2.block p hp.lt (by intro hx; apply hpf; rw [List.mem_singleton.1 hx]; simp [KS.foot])).trans hp; have cp2 : w2.cell? ⟨p, 0, none⟩ = some (.slice A bs.length c) := Blk.cell hp2 0; have fp2 : w2.frozen? ⟨p, 0, none⟩ = false := Blk.frozen hp2 0; have lp2 : p < w2.heap.size := Blk.lt hp2))
    obtain ⟨W, hW⟩ : ∃ W, (w2.alloc (.cells #[.int .i64 f1, .int .i64 f2] 44)).drew = W := ⟨_, rfl⟩
    have q0 : W.cell? ⟨p, 0, none⟩ = some (.slice A bs.length c) := by rw [← hW]; exact (World.cell?_alloc_lt w2 _ _ lp2).trans cp2
    have q1 : W.cell? ⟨w2.heap.size, 0, none⟩ = some (.int .i64 f1) := by rw [← hW]; exact (Blk.new w2 _ _).cell 0
    have q2 : W.cell? ⟨w2.heap.size, 1, none⟩ = some (.int .i64 f2) := by rw [← hW]; exact (Blk.new w2 _ _).cell 1
    have lpW : p < W.heap.size := by rw [← hW]; show p < (w2.alloc _).heap.size; simp; omega
    have TW : Turns [k] w1 W := by rw [← hW]; exact (hT2.alloc _).drew
    have KW : KernOf W k K.took := by rw [← hW]; exact (hK2.alloc _).same fun _ _ => rfl
    have hOW : OffRow W base 5 (.slice A bs.length c) bs.length (bytesC bs) := by
      refine hr.same fun g hg => TW.block g (hr.lt hg).2 ?_
      rw [List.mem_singleton]
      rintro rfl
      exact hr.blk_ne hK.blk (by decide) hg
    obtain ⟨X, hX⟩ : ∃ X : Obj, .cells #[.int .i64 f1, .int .i64 f2] 44 = X := ⟨_, rfl⟩
    rw [hX] at hsh
    have HBY := Lib.hid (bytes_of_front hOW (fun g hg => Below.heap_alloc W X g hg) HN.out)
    have HLT : Hid ((bs.take n).length ≤ 140737488355328) := Lib.hid (by rw [List.length_take]; omega)
    have hpX : p < (W.alloc X).heap.size := by simp; omega
    have bW : Blk W p 159 #[.slice A bs.length c] := by rw [← hW]; exact (Below.heap_alloc w2 _ p lp2).trans hp2
    have HQ4 : ∀ w4, Below (W.alloc X).heap.size (W.alloc X) w4 → w4.cell? ⟨p, 0, none⟩ = some (.slice A bs.length c) := fun w4 hb => Blk.cell ((bW.alloc X).below hb hpX) 0
    have HF4 : ∀ w4, Below (W.alloc X).heap.size (W.alloc X) w4 → w4.frozen? ⟨p, 0, none⟩ = false := fun w4 hb => Blk.frozen ((bW.alloc X).below hb hpX) 0
    have HL4 : ∀ w4, Below (W.alloc X).heap.size (W.alloc X) w4 → p < w4.heap.size := fun w4 hb => Nat.lt_of_lt_of_le hpX hb.size
    refine still_tail 7 W hW (by kernel_rfl) (by kernel_rfl) ?_
    simp only [List.take_succ_cons, List.take_zero, List.drop_succ_cons, List.drop_zero]
    repeat still_step
    refine wpStill_nil ?_
    go_wp2_with (first
      | (go_at_call 169; refine (hsh _).mono ?_; rintro e w3 ⟨rfl, rfl⟩)
      | (go_at_call 62; refine (cloneB _ _ (bs.take n) HBY.out HLT.out).mono ?_; rintro e w4 ⟨u, rfl, hown, hbel⟩; have q4 := HQ4 w4 hbel; have f4 := HF4 w4 hbel; have l4 := HL4 w4 hbel))
    go_returns
    have T4 : Turns [k] w1 w4 := (TW.alloc X).then (Turns.of_below hbel) (by simp)
    have K4 : KernOf w4 k K.took := ((KW.alloc X).below hbel)
    refine ⟨u, rfl, ?_, K4.same (fun g hg => Below.heap_setCell w4 _ _ g (fun e => hpf ((show g = p from e) ▸ hg))), (((bW.alloc X).below hbel hpX).set_ 0 _), (T4.more (by simp)).setCell _ _ (by simp)⟩
    have h1 := Joins.ownsRow_le hown (show w1.heap.size ≤ (W.alloc X).heap.size by have := TW.size; simp; omega)
    rw [List.length_take, Nat.min_eq_left HN.out] at h1
    exact ownsRow_setCell_other h1 (fun e => by have := (hown.lt p e).1; omega) _

set_option maxRecDepth 100000 in
set_option maxHeartbeats 2000000 in
/-- a pipe that is read, and has something -/
theorem readOut (w : World) (b k : Nat) (K : KS) (D : Nat → Value) (hK : KernOf w k K) (h : TableOf w b k D) (i : Nat) (hi : i < 16) (p : Nat) (hD : D i = outV p) (base : Nat) (A : Option Addr) (c : Nat) (bs : List UInt8) (r wr : Int) (hp : PipeAt w p (.slice A bs.length c) r wr) (hne : 0 < bs.length)
    (hr : OffRow w base 5 (.slice A bs.length c) bs.length (bytesC bs)) (most : Int) (hm : 1 ≤ most) (hm2 : most ≤ 9223372036854775807) (hf : K.next.1 ≠ 2) (hf4 : K.next.1 ≠ 4) (hl : bs.length ≤ 140737488355328) (n : Nat) (hn : shortN (min most bs.length) K.next = (n : Int)) :
    Calls Tryz.prog 145 #[.pointer (some ⟨b, 0, none⟩), .int .i64 (i : Int), .int .i64 most] w fun e w' => ∃ u, e = .returned (.tuple #[u, .int .i64 0]) ∧ w'.ownsRow w.heap.size 5 1 u n (bytesC (bs.take n)) ∧
      KernOf w' k K.took ∧ PipeAt w' p (.slice (cutA A c n 1) (bs.length - n) (c - n)) r wr ∧ Turns [k, p] w w' := by
  have hhas := kHas w b k D h (i : Int)
  rw [if_pos (by omega), Int.toNat_natCast, hD] at hhas
  have hk := h.kern
  unfold outV at hhas
  have hlt := hp.lt
  have hltb : b < w.heap.size := Blk.lt h
  have c0 : w.cell? ⟨p, 0, none⟩ = some (.slice A bs.length c) := hp.cell 0
  have c2 : w.cell? ⟨p, 2, none⟩ = some (.int .i64 wr) := hp.cell 2
  have hK0 := fun o => hK.alloc o
  have hb0 : ((bs.length : Int) == 0) = false := beq_eq_false_iff_ne.2 (by omega)
  obtain ⟨f1, f2, hff⟩ : ∃ f1 f2, K.next = (f1, f2) := ⟨_, _, rfl⟩
  rw [hff] at hn
  have hfa := fun W hW => kFault W k K hW
  rw [hff] at hfa hf hf4
  have hpf : p ∉ K.foot k := hK.off hp (by decide) (by decide)
  have hsh := fun W => kShort W (min most bs.length) (f1, f2)
  rw [hn] at hsh
  have hnl : n ≤ bs.length := by
    have := (shortN_le (m := min most bs.length) (f := (f1, f2)) (by omega)).2
    omega
  have hc : bs.length ≤ c := by
    obtain ⟨A', c', e, hc, _⟩ := hr.form
    simp only [Value.slice.injEq] at e
    omega
  obtain ⟨iB, hiB, hB0, hB1, hB2⟩ := info_parts Tryz.infoByte
  have hfr := fun W => run_front (P := Tryz.prog) 23 5 iB Tryz.underlying23 hiB A bs.length c n (by omega) W
  have hct := fun W => run_cut (P := Tryz.prog) 23 5 iB 1 Tryz.underlying23 hiB hB1 A bs.length c .i64 (n : Int) n rfl hnl W
  clear hiB hB0 hB1 hB2
  obtain ⟨m, hm3⟩ : ∃ m, min most (bs.length : Int) = m := ⟨_, rfl⟩
  rw [hm3] at hn hsh
  rcases Int.lt_or_le (bs.length : Int) most with hml | hml
  · rw [Int.min_eq_right (Int.le_of_lt hml)] at hm3
    subst hm3
    have HC := Lib.hid hc
    have HN := Lib.hid hnl
    clear hc hnl
    go_enter Tryz.func145, Tryz.ntmps145
    go_wp2_with (first
      | (go_at_call 166; refine hhas.mono ?_; rintro e w1 ⟨rfl, rfl⟩)
      | (go_at_call 167; refine (hfa _ (hK0 _)).mono ?_; rintro e w2 ⟨rfl, hK2, hT2⟩; have hp2 := (hT2.block p (Nat.lt_of_lt_of_le hp.lt (by simp)) (by intro hx; apply hpf; rw [List.mem_singleton.1 hx]; simp [KS.foot])).trans ((Below.heap_alloc _ _ p hp.lt).trans hp); have cp2 : w2.cell? ⟨p, 0, none⟩ = some (.slice A bs.length c) := Blk.cell hp2 0; have fp2 : w2.frozen? ⟨p, 0, none⟩ = false := Blk.frozen hp2 0; have lp2 : p < w2.heap.size := Blk.lt hp2))
    obtain ⟨W, hW⟩ : ∃ W, (w2.alloc (.cells #[.int .i64 f1, .int .i64 f2] 44)).drew = W := ⟨_, rfl⟩
    have q0 : W.cell? ⟨p, 0, none⟩ = some (.slice A bs.length c) := by rw [← hW]; exact (World.cell?_alloc_lt w2 _ _ lp2).trans cp2
    have q1 : W.cell? ⟨w2.heap.size, 0, none⟩ = some (.int .i64 f1) := by rw [← hW]; exact (Blk.new w2 _ _).cell 0
    have q2 : W.cell? ⟨w2.heap.size, 1, none⟩ = some (.int .i64 f2) := by rw [← hW]; exact (Blk.new w2 _ _).cell 1
    have lpW : p < W.heap.size := by rw [← hW]; show p < (w2.alloc _).heap.size; simp; omega
    have TW : Turns [k] w1 W := by rw [← hW]; exact ((((Turns.refl _ w1).alloc _).trans hT2).alloc _).drew
    have KW : KernOf W k K.took := by rw [← hW]; exact (hK2.alloc _).same fun _ _ => rfl
    have hOW : OffRow W base 5 (.slice A bs.length c) bs.length (bytesC bs) := by
      refine hr.same fun g hg => TW.block g (hr.lt hg).2 ?_
      rw [List.mem_singleton]
      rintro rfl
      exact hr.blk_ne hK.blk (by decide) hg
    obtain ⟨X, hX⟩ : ∃ X : Obj, .cells #[.int .i64 f1, .int .i64 f2] 44 = X := ⟨_, rfl⟩
    rw [hX] at hsh
    have HBY := Lib.hid (bytes_of_front hOW (fun g hg => Below.heap_alloc W X g hg) HN.out)
    have HLT : Hid ((bs.take n).length ≤ 140737488355328) := Lib.hid (by rw [List.length_take]; omega)
    have hpX : p < (W.alloc X).heap.size := by simp; omega
    have bW : PipeAt W p (.slice A bs.length c) r wr := by rw [← hW]; exact (Below.heap_alloc w2 _ p lp2).trans hp2
    have HQ4 : ∀ w4, Below (W.alloc X).heap.size (W.alloc X) w4 → w4.cell? ⟨p, 0, none⟩ = some (.slice A bs.length c) := fun w4 hb => Blk.cell ((bW.alloc X).below hb hpX) 0
    have HF4 : ∀ w4, Below (W.alloc X).heap.size (W.alloc X) w4 → w4.frozen? ⟨p, 0, none⟩ = false := fun w4 hb => Blk.frozen ((bW.alloc X).below hb hpX) 0
    have HL4 : ∀ w4, Below (W.alloc X).heap.size (W.alloc X) w4 → p < w4.heap.size := fun w4 hb => Nat.lt_of_lt_of_le hpX hb.size
    refine still_tail 7 W hW (by kernel_rfl) (by kernel_rfl) ?_
    simp only [List.take_succ_cons, List.take_zero, List.drop_succ_cons, List.drop_zero]
    repeat still_step
    refine wpStill_nil ?_
    go_wp2_with (first
      | (go_at_call 169; refine (hsh _).mono ?_; rintro e w3 ⟨rfl, rfl⟩)
      | (go_at_call 62; refine (cloneB _ _ (bs.take n) HBY.out HLT.out).mono ?_; rintro e w4 ⟨u, rfl, hown, hbel⟩; have q4 := HQ4 w4 hbel; have f4 := HF4 w4 hbel; have l4 := HL4 w4 hbel))
    go_returns
    have T4 : Turns [k] w1 w4 := (TW.alloc X).then (Turns.of_below hbel) (by simp)
    have K4 : KernOf w4 k K.took := ((KW.alloc X).below hbel)
    refine ⟨u, rfl, ?_, K4.same (fun g hg => Below.heap_setCell w4 _ _ g (fun e => hpf ((show g = p from e) ▸ hg))), (((bW.alloc X).below hbel hpX).set_ 0 _), (T4.more (by simp)).setCell _ _ (by simp)⟩
    have h1 := Joins.ownsRow_le hown (show w1.heap.size ≤ (W.alloc X).heap.size by have := TW.size; simp; omega)
    rw [List.length_take, Nat.min_eq_left HN.out] at h1
    exact ownsRow_setCell_other h1 (fun e => by have := (hown.lt p e).1; omega) _
  · rw [Int.min_eq_left hml] at hm3
    subst hm3
    have HC := Lib.hid hc
    have HN := Lib.hid hnl
    clear hc hnl
    go_enter Tryz.func145, Tryz.ntmps145
    go_wp2_with (first
      | (go_at_call 166; refine hhas.mono ?_; rintro e w1 ⟨rfl, rfl⟩)
      | (go_at_call 167; refine (hfa _ (hK0 _)).mono ?_; rintro e w2 ⟨rfl, hK2, hT2⟩; have hp2 := (hT2.block p (Nat.lt_of_lt_of_le hp.lt (by simp)) (by intro hx; apply hpf; rw [List.mem_singleton.1 hx]; simp [KS.foot])).trans ((Below.heap_alloc _ _ p hp.lt).trans hp); have cp2 : w2.cell? ⟨p, 0, none⟩ = some (.slice A bs.length c) := Blk.cell hp2 0; have fp2 : w2.frozen? ⟨p, 0, none⟩ = false := Blk.frozen hp2 0; have lp2 : p < w2.heap.size := Blk.lt hp2))
    obtain ⟨W, hW⟩ : ∃ W, (w2.alloc (.cells #[.int .i64 f1, .int .i64 f2] 44)).drew = W := ⟨_, rfl⟩
    have q0 : W.cell? ⟨p, 0, none⟩ = some (.slice A bs.length c) := by rw [← hW]; exact (World.cell?_alloc_lt w2 _ _ lp2).trans cp2
    have q1 : W.cell? ⟨w2.heap.size, 0, none⟩ = some (.int .i64 f1) := by rw [← hW]; exact (Blk.new w2 _ _).cell 0
    have q2 : W.cell? ⟨w2.heap.size, 1, none⟩ = some (.int .i64 f2) := by rw [← hW]; exact (Blk.new w2 _ _).cell 1
    have lpW : p < W.heap.size := by rw [← hW]; show p < (w2.alloc _).heap.size; simp; omega
    have TW : Turns [k] w1 W := by rw [← hW]; exact ((((Turns.refl _ w1).alloc _).trans hT2).alloc _).drew
    have KW : KernOf W k K.took := by rw [← hW]; exact (hK2.alloc _).same fun _ _ => rfl
    have hOW : OffRow W base 5 (.slice A bs.length c) bs.length (bytesC bs) := by
      refine hr.same fun g hg => TW.block g (hr.lt hg).2 ?_
      rw [List.mem_singleton]
      rintro rfl
      exact hr.blk_ne hK.blk (by decide) hg
    obtain ⟨X, hX⟩ : ∃ X : Obj, .cells #[.int .i64 f1, .int .i64 f2] 44 = X := ⟨_, rfl⟩
    rw [hX] at hsh
    have HBY := Lib.hid (bytes_of_front hOW (fun g hg => Below.heap_alloc W X g hg) HN.out)
    have HLT : Hid ((bs.take n).length ≤ 140737488355328) := Lib.hid (by rw [List.length_take]; omega)
    have hpX : p < (W.alloc X).heap.size := by simp; omega
    have bW : PipeAt W p (.slice A bs.length c) r wr := by rw [← hW]; exact (Below.heap_alloc w2 _ p lp2).trans hp2
    have HQ4 : ∀ w4, Below (W.alloc X).heap.size (W.alloc X) w4 → w4.cell? ⟨p, 0, none⟩ = some (.slice A bs.length c) := fun w4 hb => Blk.cell ((bW.alloc X).below hb hpX) 0
    have HF4 : ∀ w4, Below (W.alloc X).heap.size (W.alloc X) w4 → w4.frozen? ⟨p, 0, none⟩ = false := fun w4 hb => Blk.frozen ((bW.alloc X).below hb hpX) 0
    have HL4 : ∀ w4, Below (W.alloc X).heap.size (W.alloc X) w4 → p < w4.heap.size := fun w4 hb => Nat.lt_of_lt_of_le hpX hb.size
    refine still_tail 7 W hW (by kernel_rfl) (by kernel_rfl) ?_
    simp only [List.take_succ_cons, List.take_zero, List.drop_succ_cons, List.drop_zero]
    repeat still_step
    refine wpStill_nil ?_
    go_wp2_with (first
      | (go_at_call 169; refine (hsh _).mono ?_; rintro e w3 ⟨rfl, rfl⟩)
      | (go_at_call 62; refine (cloneB _ _ (bs.take n) HBY.out HLT.out).mono ?_; rintro e w4 ⟨u, rfl, hown, hbel⟩; have q4 := HQ4 w4 hbel; have f4 := HF4 w4 hbel; have l4 := HL4 w4 hbel))
    go_returns
    have T4 : Turns [k] w1 w4 := (TW.alloc X).then (Turns.of_below hbel) (by simp)
    have K4 : KernOf w4 k K.took := ((KW.alloc X).below hbel)
    refine ⟨u, rfl, ?_, K4.same (fun g hg => Below.heap_setCell w4 _ _ g (fun e => hpf ((show g = p from e) ▸ hg))), (((bW.alloc X).below hbel hpX).set_ 0 _), (T4.more (by simp)).setCell _ _ (by simp)⟩
    have h1 := Joins.ownsRow_le hown (show w1.heap.size ≤ (W.alloc X).heap.size by have := TW.size; simp; omega)
    rw [List.length_take, Nat.min_eq_left HN.out] at h1
    exact ownsRow_setCell_other h1 (fun e => by have := (hown.lt p e).1; omega) _

end Go.Proofs.YtffffjngodinnaaGreatDoor
end
