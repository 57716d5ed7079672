/-
  Parts of the proof: Walks over call of a process that is stepped: one that has to wait; A walk over call of a process that is stepped: what was answered is told anew.
-/
import Derived.Test.YtffffjngodinnaaGreatDoorV13
import Derived.Test.YtffffjngodinnaaGreatDoorV07
import Derived.Test.YtffffjngodinnaaGreatDoorV20
import Derived.Test.YtffffjngodinnaaGreatDoorV15

section
namespace Go.Proofs.YtffffjngodinnaaGreatDoor
open Go.RowKit Go.Maps

/-- what a process that has to wait panics with -/
def waitsP : List PanicEntry := [{ v := .iface 203 (.agg #[]), recovered := false }]

set_option maxRecDepth 100000 in
set_option maxHeartbeats 2000000 in
theorem call_wait (w : World) (p : Nat) (J : PS) (h : ProcOf w p J) (hm : J.may = false) (ha : J.at_ = J.log.length) (f : Value) :
    Calls Tryz.prog 143 #[.pointer (some ⟨p, 0, none⟩), f] w fun e w' => e = .panicked waitsP ∧ Below w.heap.size w w' := by
  have hb := h.blk
  obtain ⟨A, cp, hlv, _⟩ := own_slice h.log
  obtain ⟨n, hn⟩ : ∃ n, J.log.length = n := ⟨_, rfl⟩
  rw [hn] at hlv ha
  have c8 : w.cell? ⟨p, 10, none⟩ = some (.slice A n cp) := by rw [hb.cell 10, ← hlv]; rfl
  have c9 : w.cell? ⟨p, 11, none⟩ = some (.int .i64 (n : Int)) := by rw [hb.cell 11]; simp [procCells, ha]
  have c10 : w.cell? ⟨p, 12, none⟩ = some (.bool false) := by rw [hb.cell 12]; simp [procCells, hm]
  have lp := hb.lt
  clear hb h hlv
  go_enter Tryz.func143, Tryz.ntmps143
  go_wp2_with fail
  go_quiet (fail)
  go_wp2_with fail
  refine wp_loop_rounds 1 ?_
  rw [rounds_succ]
  go_wp2_with fail
  exact ⟨rfl, rfl, below_drewN (below_one w _) _⟩

set_option maxRecDepth 100000 in
set_option maxHeartbeats 2000000 in
theorem procWrite_wait (w : World) (p : Nat) (J : PS) (h : ProcOf w p J) (hm : J.may = false) (ha : J.at_ = J.log.length) (fd : Int) (A : Option Addr) (n c : Nat) :
    Calls Tryz.prog 107 #[.pointer (some ⟨p, 0, none⟩), .int .i64 fd, .slice A n c] w fun e w' => e = .panicked waitsP ∧ Below w.heap.size w w' := by
  have hB : ∀ a b c, Below w.heap.size w (((w.alloc a).alloc b).alloc c) := fun a b c => below_box (below_box (below_one w a) (Nat.le_refl _) b) (Nat.le_refl _) c
  go_enter Tryz.func107, Tryz.ntmps107
  go_wp2_with (go_at_call 143; refine (call_wait _ p J (h.below (hB _ _ _)) hm ha _).mono ?_; rintro e w1 ⟨rfl, hb1⟩)
  exact ⟨rfl, rfl, (hB _ _ _).trans (hb1.mono (hB _ _ _).size)⟩

end Go.Proofs.YtffffjngodinnaaGreatDoor
end

section
namespace Go.Proofs.YtffffjngodinnaaGreatDoor
open Go.RowKit Go.Maps

theorem logC_at {l : List (Int × Int)} {i : Nat} {q : Int × Int} (h : l[i]? = some q) (j : Nat) (hj : j < 11) : (logC l)[i * 11 + j]? = (replyC q)[j]? := by
  induction l generalizing i with
  | nil => simp at h
  | cons a l ih =>
    have hl : (replyC a).length = 11 := rfl
    have e : logC (a :: l) = replyC a ++ logC l := rfl
    cases i with
    | zero =>
      obtain rfl : a = q := by simpa using h
      rw [e, List.getElem?_append_left (by rw [hl]; omega)]
      congr 1
      omega
    | succ i =>
      rw [e, List.getElem?_append_right (by rw [hl]; omega), hl, show (i + 1) * 11 + j - 11 = i * 11 + j by omega]
      exact ih (by simpa using h)

theorem cloneU_nil (w : World) : Calls Tryz.prog 37 #[.slice none 0 0] w fun e w' => e = .returned (.slice none 0 0) ∧ w' = w := by
  have heq := fun (W : World) => Lib.run_eql_slice_nil (P := Tryz.prog) W 23 5 none 0 0 0 0 Tryz.underlying23
  go_enter Tryz.func37, Tryz.ntmps37
  go_wp2
  go_returns
  exact ⟨rfl, rfl⟩
theorem cloneS_nil (w : World) : Calls Tryz.prog 59 #[.slice none 0 0] w fun e w' => e = .returned (.slice none 0 0) ∧ w' = w := by
  have heq := fun (W : World) => Lib.run_eql_slice_nil (P := Tryz.prog) W 22 9 none 0 0 0 0 Tryz.underlying22
  go_enter Tryz.func59, Tryz.ntmps59
  go_wp2
  go_returns
  exact ⟨rfl, rfl⟩

set_option maxRecDepth 100000 in
set_option maxHeartbeats 2000000 in
theorem call_replay (w : World) (p : Nat) (J : PS) (h : ProcOf w p J) (q : Int × Int) (hq : J.log[J.at_]? = some q) (hlog : J.log.length ≤ 1000000) (f : Value) :
    Calls Tryz.prog 143 #[.pointer (some ⟨p, 0, none⟩), f] w fun e w' => e = .returned (.agg (replyC q).toArray) ∧ ProcOf w' p { J with at_ := J.at_ + 1 } ∧ Turns [p] w w' := by
  have hb := h.blk
  obtain ⟨n, hn⟩ : ∃ n, J.log.length = n := ⟨_, rfl⟩
  obtain ⟨i, hi⟩ : ∃ i, J.at_ = i := ⟨_, rfl⟩
  rw [hi] at hq
  have hin : i < n := by rw [← hn]; exact (List.getElem?_eq_some_iff.1 hq).1
  obtain ⟨q1, q2⟩ := q
  obtain ⟨r, cp, hlv, hrow⟩ : ∃ r cp, J.lv = .slice (some ⟨r, 0, none⟩) n cp ∧ replyAt w r (i * 11) q1 q2 := by
    rcases h.log.2 with ⟨_, h0⟩ | ⟨r, cp, cur, e, _, hgb, _, _, _, hcur⟩
    · rw [hn] at h0; omega
    · refine ⟨r, cp, by rw [e, hn], replyAt.of fun j v hv => ?_⟩
      have hj : j < 11 := (List.getElem?_eq_some_iff.1 hv).1
      have h1 := (logC_at hq j hj).trans hv
      rw [← hcur, List.getElem?_take] at h1
      split at h1
      · rw [Array.getElem?_toList] at h1
        exact (cell_of_row w r (i * 11 + j) cur 252 (0, 0) hgb).trans h1
      · cases h1
  have c8 : w.cell? ⟨p, 10, none⟩ = some (.slice (some ⟨r, 0, none⟩) n cp) := by rw [hb.cell 10, ← hlv]; rfl
  have c9 : w.cell? ⟨p, 11, none⟩ = some (.int .i64 (i : Int)) := by rw [hb.cell 11]; simp [procCells, hi]
  have lp := hb.lt
  have hne : ((i : Int) == (n : Int)) = false := by rw [beq_eq_false_iff_ne]; omega
  have hw : wrap64 ((i : Int) + 1) = ((i + 1 : Nat) : Int) := by rw [w64 _ (by omega)]; omega
  have HROW := Lib.hid hrow
  have HP := Lib.hid h
  have HI := Lib.hid hi
  clear hb h hlv hrow hn hq hi hlog
  go_enter Tryz.func143, Tryz.ntmps143
  go_wp2_with fail
  go_quiet (fail)
  go_wp2_with fail
  obtain ⟨Z, hZ⟩ : ∃ Z, (w.alloc (.cells #[.int .i64 0, .int .i64 0, .slice none 0 0, .slice none 0 0, .int .i64 0, .bool false, .int .i64 0, .int .i64 0, .int .i64 0, .int .i64 0, .int .i64 0] 252)).drewN nq = Z := ⟨_, rfl⟩
  have bZ : Below w.heap.size w Z := by rw [← hZ]; exact below_drewN (below_one w _) nq
  have gZ : Blk Z w.heap.size 252 replyZ := by rw [← hZ]; exact (Blk.new w _ _).drewN nq
  rw [hZ]
  have d8 := (bZ.cell (p := ⟨p, 10, none⟩) lp).trans c8
  have d9 := (bZ.cell (p := ⟨p, 11, none⟩) lp).trans c9
  refine call_r11 Z p r i n cp q1 q2 d8 d9 (HROW.out.below bZ) hin ?_
  intro u58 u59 u60 u61 u62 u63 u64 u65 u66 u67 w1 g b1 hg1 gb
  dsimp only
  have B1 : Below w.heap.size w w1 := below_step bZ b1 (Nat.le_refl _)
  have P1 : ProcOf w1 p J := HP.out.below B1
  have R1 : Blk w1 w.heap.size 252 replyZ := Blk.on gZ b1
  have e9 : w1.cell? ⟨p, 11, none⟩ = some (.int .i64 (i : Int)) := (b1.cell (p := ⟨p, 11, none⟩) (Nat.lt_of_lt_of_le lp bZ.size)).trans d9
  have f9 : w1.frozen? ⟨p, 11, none⟩ = false := P1.blk.frozen 11
  have lp1 := P1.blk.lt
  have hgp : g ≠ p := by have := bZ.size; omega
  obtain ⟨h0, hh0⟩ : ∃ h0, w.heap.size = h0 := ⟨_, rfl⟩
  have hg0 : g ≠ h0 := by have := gZ.lt; omega
  have hp0 : h0 ≠ p := by omega
  rw [hh0] at R1 ⊢
  obtain ⟨W, hW⟩ : ∃ W, w1.setCell ⟨p, 11, none⟩ (.int .i64 ((i : Int) + 1)) = W := ⟨_, rfl⟩
  have gW : Blk W g 252 #[.int .i64 q1, .int .i64 0, .slice none 0 0, .slice none 0 0, .int .i64 0, .bool false, .int .i64 0, .int .i64 0, .int .i64 0, .int .i64 0, .int .i64 q2] := by rw [← hW]; exact gb.far hgp _
  have RW : Blk W h0 252 replyZ := by rw [← hW]; exact R1.far hp0 _
  have TW : Turns [p] w W := by rw [← hW]; exact ((Turns.of_below B1).more (by simp)).setCell ⟨p, 11, none⟩ _ (fun _ => List.mem_singleton.2 rfl)
  have PW : ProcOf W p { J with at_ := i + 1 } := by
    have hT : Turns [p] w1 W := by rw [← hW]; exact (Turns.refl _ w1).setCell ⟨p, 11, none⟩ _ (fun _ => List.mem_singleton.2 rfl)
    refine ⟨?_, ownsRow_same P1.args fun g hg => hT.block g (P1.args.lt g hg).2 ?_, ownsRow_same P1.env fun g hg => hT.block g (P1.env.lt g hg).2 ?_, ownsRow_same P1.log fun g hg => hT.block g (P1.log.lt g hg).2 ?_⟩
    · rw [← hW]
      have b2 := P1.blk.set_ 11 (.int .i64 ((i : Int) + 1))
      rw [show procCells { J with at_ := i + 1 } = (procCells J).setIfInBounds 11 (.int .i64 ((i : Int) + 1)) by simp [procCells]]
      exact b2
    all_goals
      rw [List.mem_singleton]
      rintro rfl
    · exact own_blk_ne P1.args P1.blk (by decide) hg
    · exact own_blk_ne P1.env P1.blk (by decide) hg
    · exact own_blk_ne P1.log P1.blk (by decide) hg
  obtain ⟨x0, x1, x2, x3, x4, x5, x6, x7, x8, x9, x10, xl⟩ := blk11 gW
  have x2f := gW.frozen 2
  have x3f := gW.frozen 3
  obtain ⟨V, hV⟩ : ∃ V, (W.setCell ⟨g, 2, none⟩ (.slice none 0 0)).setCell ⟨g, 3, none⟩ (.slice none 0 0) = V := ⟨_, rfl⟩
  have gV : Blk V g 252 #[.int .i64 q1, .int .i64 0, .slice none 0 0, .slice none 0 0, .int .i64 0, .bool false, .int .i64 0, .int .i64 0, .int .i64 0, .int .i64 0, .int .i64 q2] := by rw [← hV]; exact (gW.set_ 2 (.slice none 0 0)).set_ 3 (.slice none 0 0)
  have RV : Blk V h0 252 replyZ := by rw [← hV]; exact (RW.far (Ne.symm hg0) _).far (Ne.symm hg0) _
  have gw : w.heap.size ≤ g := Nat.le_trans bZ.size hg1
  have TV : Turns [p] w V := by rw [← hV]; exact (TW.setCell ⟨g, 2, none⟩ _ (fun hlt => by simp at hlt; omega)).setCell ⟨g, 3, none⟩ _ (fun hlt => by simp at hlt; omega)
  have PV : ProcOf V p { J with at_ := i + 1 } := by
    rw [← hV]
    exact PW.same fun k hk => by
      have hkg : k ≠ g := by
        have h1 := HP.out.foot_lt k hk
        omega
      rw [Below.heap_setCell _ _ _ _ hkg, Below.heap_setCell _ _ _ _ hkg]
  obtain ⟨x0, x1, x2, x3, x4, x5, x6, x7, x8, x9, x10, xl⟩ := blk11 gW
  have x2f := gW.frozen 2
  have x3f := gW.frozen 3
  have hone : (#[.int .i64 q1, .int .i64 0, .slice none 0 0, .slice none 0 0, .int .i64 0, .bool false, .int .i64 0, .int .i64 0, .int .i64 0, .int .i64 0, .int .i64 q2] : Array Value).all (·.oneCell') = true := by simp [Value.oneCell']
  have HTV := Lib.hid TV
  have HPV := Lib.hid PV
  clear TW PW gW RW R1 gb P1 B1 b1 gZ bZ TV PV
  go_wp2_with (first
    | (go_at_call 37; refine (cloneU_nil _).mono ?_; rintro e w2 ⟨rfl, rfl⟩)
    | (go_at_call 59; refine (cloneS_nil _).mono ?_; rintro e w2 ⟨rfl, rfl⟩)
    | (refine wpList_load_row rfl replyT (.tmp 6) rfl g rfl replyT #[.int .i64 q1, .int .i64 0, .slice none 0 0, .slice none 0 0, .int .i64 0, .bool false, .int .i64 0, .int .i64 0, .int .i64 0, .int .i64 0, .int .i64 q2] (0, 0) _ gV Tryz.underlying252 rfl (by kernel_rfl) ?_)
    | (refine wpList_store_blk rfl replyT (.tmp 4) (.tmp 83) rfl h0 replyT replyZ #[.int .i64 q1, .int .i64 0, .slice none 0 0, .slice none 0 0, .int .i64 0, .bool false, .int .i64 0, .int .i64 0, .int .i64 0, .int .i64 0, .int .i64 q2] rfl rfl RV rfl (by kernel_rfl) hone ?_; intro w10 b10 g10))
  obtain ⟨z0, z1, z2, z3, z4, z5, z6, z7, z8, z9, z10, _⟩ := blk11 b10
  refine bodyPost_ret (v := .agg #[.int .i64 q1, .int .i64 0, .slice none 0 0, .slice none 0 0, .int .i64 0, .bool false, .int .i64 0, .int .i64 0, .int .i64 0, .int .i64 0, .int .i64 q2]) (by simp [results, Tryz.results143, go_sem, z0, z1, z2, z3, z4, z5, z6, z7, z8, z9, z10]) rfl ?_
  have T10 : Turns [p] w w10 := HTV.out.grown g10 (fun k e hk => by cases e; omega)
  rw [HI.out]
  refine ⟨rfl, HPV.out.same fun k hk => g10.block k (HPV.out.foot_lt k hk) ?_, T10⟩
  have h1 := HP.out.foot_lt k hk
  intro e
  cases e
  omega

end Go.Proofs.YtffffjngodinnaaGreatDoor
end
