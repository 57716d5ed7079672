/-
  Parts that the claims share: A walk over what Write hands to call; A whole struct or array stored into a block of its own, and read again. Of no program.
-/
import Derived.Test.YtlhiadnolckoeaaGreatDoorR01
import Derived.Laws.CopyRow
import Derived.Laws.Tables

section
namespace Go.Proofs.YtlhiadnolckoeaaGreatDoor
open Go.RowKit Go.Maps

abbrev replyT : TypeId := 302
/-- a block of eleven cells -/
theorem blk11 {w : World} {g : Nat} {t : TypeId} {a0 a1 a2 a3 a4 a5 a6 a7 a8 a9 a10 : Value} (h : Blk w g t #[a0, a1, a2, a3, a4, a5, a6, a7, a8, a9, a10]) :
    w.cell? ⟨g, 0, none⟩ = some a0 ∧ w.cell? ⟨g, 1, none⟩ = some a1 ∧ w.cell? ⟨g, 2, none⟩ = some a2 ∧ w.cell? ⟨g, 3, none⟩ = some a3 ∧ w.cell? ⟨g, 4, none⟩ = some a4 ∧ w.cell? ⟨g, 5, none⟩ = some a5 ∧
    w.cell? ⟨g, 6, none⟩ = some a6 ∧ w.cell? ⟨g, 7, none⟩ = some a7 ∧ w.cell? ⟨g, 8, none⟩ = some a8 ∧ w.cell? ⟨g, 9, none⟩ = some a9 ∧ w.cell? ⟨g, 10, none⟩ = some a10 ∧ g < w.heap.size :=
  ⟨h.cell 0, h.cell 1, h.cell 2, h.cell 3, h.cell 4, h.cell 5, h.cell 6, h.cell 7, h.cell 8, h.cell 9, h.cell 10, h.lt⟩
def replyZ : Array Value := #[.int .i64 0, .int .i64 0, .slice none 0 0, .slice none 0 0, .int .i64 0, .bool false, .int .i64 0, .int .i64 0, .int .i64 0, .int .i64 0, .int .i64 0]

set_option maxRecDepth 100000 in
set_option maxHeartbeats 2000000 in
theorem write1_any (w : World) (B0 B1 B2 p tb : Nat) (fd bv : Value) (cs : Array Value) (h0 : Blk w B0 124 #[.pointer (some ⟨p, 0, none⟩)]) (h1 : Blk w B1 3 #[fd]) (h2 : Blk w B2 23 #[bv])
    (hp : Blk w p 132 cs) (hc1 : cs[1]? = some (.pointer (some ⟨tb, 0, none⟩))) (n er : Int) (S : List Nat) (hS : ∀ g ∈ S, g < w.heap.size) (R : World → Prop)
    (hw : ∀ W, Turns [] w W → w.heap.size < W.heap.size → Calls Tryz.prog 191 #[.pointer (some ⟨tb, 0, none⟩), fd, bv] W fun e w4 => e = .returned (.tuple #[.int .i64 n, .int .i64 er]) ∧ Turns S W w4 ∧ R w4) :
    Calls Tryz.prog 190 #[.pointer (some ⟨B0, 0, none⟩), .pointer (some ⟨B1, 0, none⟩), .pointer (some ⟨B2, 0, none⟩)] w fun e w' => e = .returned (.agg (replyC (n, er)).toArray) ∧
      ∃ w4, R w4 ∧ w' = (w4.setCell ⟨w.heap.size, 0, none⟩ (.int .i64 n)).setCell ⟨w.heap.size, 10, none⟩ (.int .i64 er) ∧ Turns S w w4 := by
  have c0 : w.cell? ⟨B0, 0, none⟩ = some (.pointer (some ⟨p, 0, none⟩)) := h0.cell 0
  have c1 : w.cell? ⟨B1, 0, none⟩ = some fd := h1.cell 0
  have c2 : w.cell? ⟨B2, 0, none⟩ = some bv := h2.cell 0
  have cp : w.cell? ⟨p, 1, none⟩ = some (.pointer (some ⟨tb, 0, none⟩)) := (hp.cell 1).trans hc1
  have l0 := h0.lt
  have l1 := h1.lt
  have l2 := h2.lt
  have lp := hp.lt
  go_enter Tryz.func190, Tryz.ntmps190
  go_wp2
  obtain ⟨Z, hZ⟩ : ∃ Z, w.alloc (.cells replyZ replyT) = Z := ⟨_, rfl⟩
  have hzb : Blk Z w.heap.size replyT replyZ := by rw [← hZ]; exact Blk.new w _ _
  have hTZ : Turns [] w Z := by rw [← hZ]; exact (Turns.refl _ w).alloc _
  have hzs : w.heap.size < Z.heap.size := hzb.lt
  have d0 : Z.cell? ⟨B0, 0, none⟩ = some (.pointer (some ⟨p, 0, none⟩)) := (hTZ.cell l0 (by simp)).trans c0
  have d1 : Z.cell? ⟨B1, 0, none⟩ = some fd := (hTZ.cell l1 (by simp)).trans c1
  have d2 : Z.cell? ⟨B2, 0, none⟩ = some bv := (hTZ.cell l2 (by simp)).trans c2
  have dp : Z.cell? ⟨p, 1, none⟩ = some (.pointer (some ⟨tb, 0, none⟩)) := (hTZ.cell lp (by simp)).trans cp
  rw [show w.alloc (.cells #[.int .i64 0, .int .i64 0, .slice none 0 0, .slice none 0 0, .int .i64 0, .bool false, .int .i64 0, .int .i64 0, .int .i64 0, .int .i64 0, .int .i64 0] replyT) = Z from hZ]
  obtain ⟨g, hg⟩ : ∃ g, w.heap.size = g := ⟨_, rfl⟩
  rw [hg] at hzb hzs ⊢
  clear c0 c1 c2 cp hZ
  go_region_with (go_at_call 191; refine (hw _ hTZ.drew (by rw [hg]; exact hzs)).mono ?_; rintro e w4 ⟨rfl, hT4, hR4⟩; have b4 : Blk w4 g replyT replyZ := ((hT4.block g hzs (fun hm => by have := hS g hm; omega)).trans hzb); obtain ⟨x0, x1, x2, x3, x4, x5, x6, x7, x8, x9, x10, hl4⟩ := blk11 b4; have y0 := b4.frozen 0; have y10 := b4.frozen 10)
  all_goals
    go_wp2
    have b9 : Blk ((w4.setCell ⟨g, 0, none⟩ (.int .i64 n)).setCell ⟨g, 10, none⟩ (.int .i64 er)) g replyT #[.int .i64 n, .int .i64 0, .slice none 0 0, .slice none 0 0, .int .i64 0, .bool false, .int .i64 0, .int .i64 0, .int .i64 0, .int .i64 0, .int .i64 er] := (b4.set_ 0 _).set_ 10 _
    obtain ⟨z0, z1, z2, z3, z4, z5, z6, z7, z8, z9, z10, _⟩ := blk11 b9
    refine bodyPost_ret (v := .agg (replyC (n, er)).toArray) (by simp [results, Tryz.results190, go_sem, z0, z1, z2, z3, z4, z5, z6, z7, z8, z9, z10, replyC]) rfl ?_
    exact ⟨rfl, w4, hR4, by rw [hg], (hTZ.more (by simp)).trans ((Turns.refl _ Z).drew.trans hT4)⟩

end Go.Proofs.YtlhiadnolckoeaaGreatDoor
end

section
namespace Go.Proofs.YtlhiadnolckoeaaGreatDoor
open Go.RowKit

section
variable {P : Program}
theorem run_store_blk {w : World} {g : Nat} {t : TypeId} {old : Array Value} (ty : TypeId) (cells : Array Value) (h : Blk w g t old) (hs : old.size = cells.size) (hi : (P.info? ty).map (·.size) = some cells.size) (h1 : cells.all (·.oneCell') = true) :
    (Instr.storeAt ty (.pointer (some ⟨g, 0, none⟩)) (.agg cells)).run P w = .ok () (w.setRow g cells) := by
  have hr := run_storeCells_at P g 0 t cells.toList 0 old w h (by simp [hs]) (fun v hv => (Array.all_eq_true_iff_forall_mem.1 h1) v (by simpa using hv))
  have e : (old.toList.take (0 + 0) ++ cells.toList ++ old.toList.drop (0 + 0 + cells.toList.length)).toArray = cells := by
    rw [List.take_zero, List.nil_append, List.drop_eq_nil_of_le (by simp [hs]), List.append_nil]
  rw [e] at hr
  cases hq : P.info? ty with
  | none => simp [hq] at hi
  | some i =>
    have hz : cells.size = i.size := by simp [hq] at hi; omega
    simp [Instr.storeAt, Instr.sureAddr, storeVar, sizeOf, typeInfo, hq, Value.cells, hz, hr]

theorem wpList_store_blk {ops : Array Oper} {rest : List Oper} {o : Oper} {a : Act} {w : World} {Q : Exit → Act → World → Prop} (hgd : o.guard = none) (ty : TypeId) (x y : Operand) (ho : o.op = .store ty x y)
    (g : Nat) (t : TypeId) (old cells : Array Value) (hx : a.eval x = .pointer (some ⟨g, 0, none⟩)) (hy : a.eval y = .agg cells) (h : Blk w g t old) (hs : old.size = cells.size) (hi : (P.info? ty).map (·.size) = some cells.size) (h1 : cells.all (·.oneCell') = true)
    (hK : ∀ w', Blk w' g t cells → w.grownBy w' (some g) → wpList P ops Q rest (a.put o.dst undef) w') : wpList P ops Q (o :: rest) a w := by
  refine wpList_plain hgd fun K' hK' => ?_
  have hrun := run_store_blk (P := P) ty cells h hs hi h1
  unfold Oper.wp execOp
  simp only [ho, hx, hy, Sem.run_bind, hrun, Sem.run_pure, Result.andThen_ok]
  exact hK' _ _ (hK _ (setRow_heap w g old cells t (0, 0) h) ⟨rfl, rfl, rfl, by simp [World.setRow], fun k _ hk => setRow_other w g k _ (fun e => hk (by rw [e]))⟩)
end

end Go.Proofs.YtlhiadnolckoeaaGreatDoor
end
