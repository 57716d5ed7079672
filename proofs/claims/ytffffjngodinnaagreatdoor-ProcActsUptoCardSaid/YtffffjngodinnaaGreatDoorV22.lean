/-
  Parts of the proof.
-/
import Derived.Test.YtffffjngodinnaaGreatDoorV21
import Derived.Test.YtffffjngodinnaaGreatDoorV18
namespace Go.Proofs.YtffffjngodinnaaGreatDoor
section
set_option maxRecDepth 100000
open Go.RowKit Go.Maps Go.Sort Go.Shelf
set_option maxHeartbeats 2000000 in
theorem walkNone (w : World) (B0 B1 x b : Nat) (f : Lit -> Option Value) (h0 : Blk w B0 166 #[.pointer (some ⟨x, 0, none⟩)]) (hc : w.cell? ⟨x, 5, none⟩ = some (.map (some b))) (hm : MapOf w Tryz.prog 9 b 0 f) :
 SeqTurns Fence.wide 7 Tryz.prog 101 #[.pointer (some ⟨B0, 0, none⟩), .pointer (some ⟨B1, 0, none⟩)] (fun x : Empty => x.elim) (fun _ _ => True) (fun _ => False) (fun _ _ => False) (fun xs => xs = []) w := by
 intro l J W hW hJ _ hJ0
 have hS : Fence.wide.fn 102 := trivial
 have hcW : W.cell? ⟨x, 5, none⟩ = some (.map (some b)) := (hW.cell (p := ⟨x, 5, none⟩) (World.block_lt_of_cell? w _ hc)).trans hc
 have hb0 := Blk.on h0 hW
 have hmW := hm.same (hW.block b hm.lt)
 have c0 : W.cell? ⟨B0, 0, none⟩ = some (.pointer (some ⟨x, 0, none⟩)) := hb0.cell 0
 have HJ := Lib.hid hJ
 have HJ0 := Lib.hid hJ0
 clear hJ hJ0
 refine callsIn_of_wp Tryz.func101 rfl trivial ?_ rfl
 simp only [Tryz.ntmps101, List.size_toArray, List.length_cons, List.length_nil, Nat.reduceSub, Nat.reduceAdd, Array.replicate_succ, Array.replicate_zero, List.push_toArray, List.append_toArray, List.nil_append, List.cons_append]
 obtain ⟨Z, hZ⟩ : ∃ Z, W.alloc (.cells #[.func (.yield l) #[] #[]] 205) = Z := ⟨_, rfl⟩
 have hbZ : Below W.heap.size W Z := by rw [<- hZ]; exact below_one _ _
 have z0 : Z.cell? ⟨B0, 0, none⟩ = some (.pointer (some ⟨x, 0, none⟩)) := (Blk.on hb0 hbZ).cell 0
 have zc : Z.cell? ⟨x, 5, none⟩ = some (.map (some b)) := (hbZ.cell (p := ⟨x, 5, none⟩) (World.block_lt_of_cell? W _ hcW)).trans hcW
 have zm := hmW.same (hbZ.block b hmW.lt)
 gi_wp2_with (gi_at_call 102; refine (sortedNone_wide Z x b f zc zm).mono ?_; rintro e w' ⟨rfl, hb⟩)
 refine wpIn_loop_rounds 1 ?_
 rw [roundsIn_succ]
 gi_wp2
 first | go_end0 | refine bodyPost_ret (results_none rfl _ _ _) rfl ?_
 exact ⟨⟨_, rfl⟩, [], rfl, HJ.out _ W _ none HJ0.out (only_of_below (hbZ.trans (hb.mono hbZ.size)) none) (fun r e => by cases e)⟩
set_option maxHeartbeats 1000000 in
theorem walk_any (w : World) (x : Nat) (s : ByteArray) : Calls Tryz.prog 65 #[.pointer (some ⟨x, 0, none⟩), .string s] w fun e w' => e = .returned (.func (.func 101) #[] #[.pointer (some ⟨w.heap.size, 0, none⟩), .pointer (some ⟨w.heap.size + 1, 0, none⟩)]) /\
 w' = (w.alloc (.cells #[.pointer (some ⟨x, 0, none⟩)] 166)).alloc (.cells #[.string s] 9) := by
 have hmf : ∀ (fn : Fn) (first cap : Array Value) (w : World), (Instr.makeFunc fn first cap).run Tryz.prog w = .ok (.func fn first cap) w := fun _ _ _ _ => rfl
 go_enter Tryz.func65, Tryz.ntmps65
 go_wp2
 go_returns
 exact ⟨rfl, rfl⟩
set_option maxHeartbeats 2000000 in
theorem insertNone (w : World) (c : Value) : Calls Tryz.prog 133 #[.slice none 0 0, .int .i64 0, .int .i64 0, c] w fun e w' => e = .returned (.tuple #[]) /\ w' = w := by
 go_enter Tryz.func133, Tryz.ntmps133
 go_wp2_with fail
 refine wp_loop_rounds 1 ?_
 rw [rounds_succ]
 go_wp2_with fail
 go_returns
 exact ⟨rfl, rfl⟩
set_option maxHeartbeats 2000000 in
theorem pdqNone (w : World) (c lim : Value) : Calls Tryz.prog 103 #[.slice none 0 0, .int .i64 0, .int .i64 0, lim, c] w fun e w' => e = .returned (.tuple #[]) /\ w' = w := by
 go_enter Tryz.func103, Tryz.ntmps103
 go_wp2_with fail
 refine wp_loop_rounds 1 ?_
 rw [rounds_succ]
 go_wp2_with (go_at_call 133; refine (insertNone _ _).mono ?_; rintro e w' ⟨rfl, rfl⟩)
 go_returns
 exact ⟨rfl, rfl⟩
set_option maxHeartbeats 2000000 in
theorem sortNone (w : World) (c : Value) : Calls Tryz.prog 66 #[.slice none 0 0, c] w fun e w' => e = .returned (.tuple #[]) /\ w' = w := by
 have hL : ∀ W, Calls Tryz.prog 104 #[.int .u64 0] W fun e w' => e = .returned (.int .i64 (Lib.bitLen 0)) /\ w' = W := fun W => Tryz.bits_Len 0 W (by omega) (by omega)
 go_enter Tryz.func66, Tryz.ntmps66
 go_wp2_with (first
  | (go_at_call 104; refine (hL _).mono ?_; rintro e w' ⟨rfl, rfl⟩)
  | (go_at_call 103; refine (pdqNone _ _ _).mono ?_; rintro e w' ⟨rfl, rfl⟩))
 go_returns
 exact ⟨rfl, rfl⟩
set_option maxHeartbeats 2000000 in
theorem dumpNone_wide (w : World) (t x b : Nat) (f : Lit -> Option Value) (h0 : w.cell? ⟨t, 0, none⟩ = some (.pointer (some ⟨x, 0, none⟩))) (hc : w.cell? ⟨x, 5, none⟩ = some (.map (some b))) (hm : MapOf w Tryz.prog 9 b 0 f) :
 CallsIn Fence.wide 8 Tryz.prog 34 #[.pointer (some ⟨t, 0, none⟩)] w fun e w' => e = .returned (.slice none 0 0) /\ Below w.heap.size w w' := by
 have hmm := @run_makeMap Tryz.prog
 have hfW : Fence.wide.fn 65 := trivial
 have hfS : Fence.wide.fn 66 := trivial
 refine callsIn_of_wp_marks Tryz.func34 rfl trivial ?_ rfl
 simp only [Tryz.ntmps34, List.size_toArray, List.length_cons, List.length_nil, Nat.reduceAdd, Nat.reduceSub, Array.replicate_succ, Array.replicate_zero, List.push_toArray, List.append_toArray, List.nil_append, List.cons_append]
 obtain ⟨Z, hZ⟩ : ∃ Z, w.alloc (.cells #[.slice none 0 0] 163) = Z := ⟨_, rfl⟩
 have hbZ : Below w.heap.size w Z := by rw [<- hZ]; exact below_one _ _
 have zl : Blk Z w.heap.size 163 #[.slice none 0 0] := by rw [<- hZ]; exact Blk.new w _ _
 have z0 : Z.cell? ⟨t, 0, none⟩ = some (.pointer (some ⟨x, 0, none⟩)) := (hbZ.cell (p := ⟨t, 0, none⟩) (World.block_lt_of_cell? w _ h0)).trans h0
 gi_wp2_with (gi_at_call 65; refine (callsIn_wide.2 (walk_any Z x ⟨#[]⟩)).mono ?_; rintro e w' ⟨rfl, hw1⟩)
 have hb1 : Below w.heap.size w w' := by rw [hw1]; exact below_box (below_box hbZ (Nat.le_refl _) _) (Nat.le_refl _) _
 have wl : Blk w' w.heap.size 163 #[.slice none 0 0] := by rw [hw1]; exact (zl.alloc _).alloc _
 have k0 : Blk w' Z.heap.size 166 #[.pointer (some ⟨x, 0, none⟩)] := by rw [hw1]; exact (Blk.new Z _ _).alloc _
 have hc1 : w'.cell? ⟨x, 5, none⟩ = some (.map (some b)) := (hb1.cell (p := ⟨x, 5, none⟩) (World.block_lt_of_cell? w _ hc)).trans hc
 have hm1 := hm.same (hb1.block b hm.lt)
 have hseq := walkNone w' Z.heap.size (Z.heap.size + 1) x b f k0 hc1 hm1
 rw [<- hw1]
 clear hw1 hZ
 refine wpIn_rangeFunc_each rfl (by omega) (gf := 101) (lb := #[.pointer (some ⟨Z.heap.size, 0, none⟩), .pointer (some ⟨Z.heap.size + 1, 0, none⟩)]) rfl trivial (enters_of Tryz.func101 (by kernel_rfl) rfl)
  hseq (fun _ _ => trivial) (fun _ _ _ _ _ _ _ _ => trivial) (Below.refl _ _) (fun x => x.elim) (fun _ h => h.elim)
  (fun _ W => Blk W w.heap.size 163 #[.slice none 0 0] /\ Below w'.heap.size w' W) ?own ⟨wl, Below.refl _ _⟩ (fun x => x.elim) (fun _ x => x.elim) (fun _ _ x => x.elim) ?done
 case own =>
  rintro s X Y row ⟨h1, h2⟩ hg hr
  refine ⟨h1.grown hg fun e => ?_, h2.grown hg h2.size fun r e => ?_⟩
  · rcases hr _ e.symm with ⟨_, o, ho, hcells⟩ | h
    · rw [show X.heap[w.heap.size]? = _ from h1] at ho
      cases ho
      cases hcells
    · exact h
  · rcases hr _ e with ⟨h, _⟩ | h
    · exact h
    · exact h.elim
 case done =>
  rintro D ys W hD rfl ⟨hl, hBw⟩ hK
  have hlW : w.heap.size < W.heap.size := hl.lt
  have cl : W.cell? ⟨w.heap.size, 0, none⟩ = some (.slice none 0 0) := hl.cell 0
  gi_wp2_with (gi_at_call 66; refine (callsIn_wide.2 (sortNone _ _)).mono ?_; rintro e w9 ⟨rfl, rfl⟩)
  refine wpIn_loop_rounds 1 ?_
  rw [roundsIn_succ]
  gi_wp2
  have hDlt : D < w9.heap.size := (Array.getElem?_eq_some_iff.1 hK).1
  have hK2 : (w9.alloc (.map #[] 0)).heap[D]? = some (.deferred (some [])) := (Below.heap_alloc w9 _ D hDlt).trans hK
  have hDw : w.heap.size <= D := Nat.le_trans hb1.size hD
  have hB9 : Below w.heap.size w (w9.alloc (.map #[] 0)) := (hb1.trans (hBw.mono hb1.size)).alloc (by have := hb1.size; have := hBw.size; omega) _
  refine ⟨by simp, .inl ⟨_, _, rfl, run_takeDeferred hK2, ?_⟩⟩
  refine ⟨.slice none 0 0, ?_, rfl, hB9.trans (belowK_b (w := w) (Nat.le_refl _) _ D _ _ hDw hK2 rfl rfl)⟩
  simp [results, Tryz.f34]
end
end Go.Proofs.YtffffjngodinnaaGreatDoor
