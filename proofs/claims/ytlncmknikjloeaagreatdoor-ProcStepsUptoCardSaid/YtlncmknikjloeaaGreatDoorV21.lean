/-
  Parts of the proof: What Hold, Drop and Lim of a process do to a job.
-/
import Derived.Test.YtlncmknikjloeaaGreatDoorV19

section
namespace Go.Proofs.YtlncmknikjloeaaGreatDoor
open Go.RowKit Go.Maps

/-- a flow that holds so much -/
def Flow.holds (F : Flow) (h m : Int) : Flow := { F with held := h, peak := m }
theorem JobOf.holds {w w' : World} {X : Job} {F : Flow} (h : JobOf w X F) (hd m : Int) (ht : Turns [X.p] w w') (hb : Blk w' X.p 89 (procCells (X.J (F.holds hd m)))) : JobOf w' X (F.holds hd m) ∧ Went X F (F.holds hd m) w w' := by
  have hbk : ∀ {t : TypeId} {cs : Array Value} {g : Nat}, Blk w g t cs → t ≠ 89 → w'.heap[g]? = w.heap[g]? := fun hg h1 => ht.block _ hg.lt (by rw [List.mem_singleton]; exact Blk.ne_ hg h.proc.blk h1)
  have hrow : ∀ {n : Nat} {v : Value} {xs : List Value}, OffRow w 0 5 v n xs → OffRow w' 0 5 v n xs := fun hv => hv.same fun g hg => ht.block g (hv.lt hg).2 (by rw [List.mem_singleton]; exact fun e => hv.blk_ne h.proc.blk (by decide) (e ▸ hg))
  refine ⟨?_, ht.more (by simp [Job.foot, PS.foot]), fun g hg => .inl hg⟩
  exact {
    proc := ⟨hb, ownsRow_same h.proc.args fun g hg => ht.block g (h.proc.args.lt g hg).2 (by rw [List.mem_singleton]; rintro rfl; exact own_blk_ne h.proc.args h.proc.blk (by decide) hg),
      ownsRow_same h.proc.env fun g hg => ht.block g (h.proc.env.lt g hg).2 (by rw [List.mem_singleton]; rintro rfl; exact own_blk_ne h.proc.env h.proc.blk (by decide) hg),
      ownsRow_same h.proc.log fun g hg => ht.block g (h.proc.log.lt g hg).2 (by rw [List.mem_singleton]; rintro rfl; exact own_blk_ne h.proc.log h.proc.blk (by decide) hg)⟩
    kern := h.kern.turns ht fun g hg hm => h.kern.off h.proc.blk (by decide) (by decide) ((List.mem_singleton.1 hm) ▸ hg)
    table := (hbk h.table (by decide)).trans h.table
    may := h.may, top := h.top, at_ := h.at_, log := h.log, sinks := h.sinks, thing := h.thing
    src := (hbk h.src (by decide)).trans h.src
    inp := hrow h.inp
    sink := fun b => (hbk (h.sink b) (by decide)).trans (h.sink b)
    row := fun b => hrow (h.row b)
    rows := h.rows
    inrow := h.inrow }

theorem JobOf.setHolds {w : World} {X : Job} {F : Flow} (h : JobOf w X F) (a b : Int) : JobOf (((w.setCell ⟨X.p, 8, none⟩ (.int .i64 a)).setCell ⟨X.p, 9, none⟩ (.int .i64 b)).drew) X (F.holds a b) ∧ Went X F (F.holds a b) w (((w.setCell ⟨X.p, 8, none⟩ (.int .i64 a)).setCell ⟨X.p, 9, none⟩ (.int .i64 b)).drew) := by
  have b1 : Blk ((w.setCell ⟨X.p, 8, none⟩ (.int .i64 a)).setCell ⟨X.p, 9, none⟩ (.int .i64 b)) X.p 89 _ := (h.proc.blk.set_ 8 (.int .i64 a)).set_ 9 (.int .i64 b)
  refine h.holds a b ((((Turns.refl [X.p] w).setCell ⟨X.p, 8, none⟩ _ (fun _ => List.mem_singleton.2 rfl)).setCell ⟨X.p, 9, none⟩ _ (fun _ => List.mem_singleton.2 rfl)).drew) ?_
  rw [show procCells (X.J (F.holds a b)) = ((procCells (X.J F)).setIfInBounds 8 (.int .i64 a)).setIfInBounds 9 (.int .i64 b) by simp [procCells, Job.J, Flow.holds]]
  exact b1
theorem JobOf.setHeld {w : World} {X : Job} {F : Flow} (h : JobOf w X F) (a : Int) : JobOf ((w.setCell ⟨X.p, 8, none⟩ (.int .i64 a)).drew) X (F.holds a F.peak) ∧ Went X F (F.holds a F.peak) w ((w.setCell ⟨X.p, 8, none⟩ (.int .i64 a)).drew) := by
  have b1 : Blk (w.setCell ⟨X.p, 8, none⟩ (.int .i64 a)) X.p 89 _ := h.proc.blk.set_ 8 (.int .i64 a)
  refine h.holds a F.peak (((Turns.refl [X.p] w).setCell ⟨X.p, 8, none⟩ _ (fun _ => List.mem_singleton.2 rfl)).drew) ?_
  rw [show procCells (X.J (F.holds a F.peak)) = (procCells (X.J F)).setIfInBounds 8 (.int .i64 a) by simp [procCells, Job.J, Flow.holds]]
  exact b1

set_option maxRecDepth 100000 in
set_option maxHeartbeats 1000000 in
theorem jobHold (w : World) (X : Job) (F : Flow) (h : JobOf w X F) (n k : Nat) (hk : F.held = (k : Int)) (hb : k + n < 4611686018427387904) (m : Int) (hm : max F.peak ((k + n : Nat) : Int) = m) :
    Calls Tryz.prog 53 #[.pointer (some ⟨X.p, 0, none⟩), .int .i64 (n : Int)] w fun e w' => e = .returned (.tuple #[]) ∧ JobOf w' X (F.holds ((k + n : Nat) : Int) m) ∧ Went X F (F.holds ((k + n : Nat) : Int) m) w w' := by
  have hB := h.proc.blk
  have c8 : w.cell? ⟨X.p, 8, none⟩ = some (.int .i64 (k : Int)) := by rw [hB.cell 8, ← hk]; rfl
  have c9 : w.cell? ⟨X.p, 9, none⟩ = some (.int .i64 F.peak) := by rw [hB.cell 9]; rfl
  have f8 : w.frozen? ⟨X.p, 8, none⟩ = false := hB.frozen 8
  have f9 : w.frozen? ⟨X.p, 9, none⟩ = false := hB.frozen 9
  have lp := hB.lt
  have hx : max (0 : Int) (n : Int) = (n : Int) := by omega
  have hw : wrap64 ((k : Int) + (n : Int)) = ((k + n : Nat) : Int) := by rw [w64 _ (by omega)]; omega
  have fin : ∀ a b : Int, a = (k : Int) + (n : Int) → b = m → JobOf (((w.setCell ⟨X.p, 8, none⟩ (.int .i64 a)).setCell ⟨X.p, 9, none⟩ (.int .i64 b)).drew) X (F.holds ((k : Int) + (n : Int)) m) ∧ Went X F (F.holds ((k : Int) + (n : Int)) m) w (((w.setCell ⟨X.p, 8, none⟩ (.int .i64 a)).setCell ⟨X.p, 9, none⟩ (.int .i64 b)).drew) := by
    rintro a b rfl rfl
    exact h.setHolds _ _
  rw [Int.natCast_add] at hm
  go_enter Tryz.func53, Tryz.ntmps53
  go_wp2_with fail
  all_goals go_region
  all_goals go_wp2_with fail
  all_goals
    go_end0
    exact ⟨rfl, fin _ _ (by omega) (by omega)⟩

set_option maxRecDepth 100000 in
set_option maxHeartbeats 1000000 in
theorem jobDrop (w : World) (X : Job) (F : Flow) (h : JobOf w X F) (n : Nat) (hk : F.held = (n : Int)) (hb : n < 4611686018427387904) :
    Calls Tryz.prog 55 #[.pointer (some ⟨X.p, 0, none⟩), .int .i64 (n : Int)] w fun e w' => e = .returned (.tuple #[]) ∧ JobOf w' X (F.holds 0 F.peak) ∧ Went X F (F.holds 0 F.peak) w w' := by
  have hB := h.proc.blk
  have c8 : w.cell? ⟨X.p, 8, none⟩ = some (.int .i64 (n : Int)) := by rw [hB.cell 8, ← hk]; rfl
  have f8 : w.frozen? ⟨X.p, 8, none⟩ = false := hB.frozen 8
  have lp := hB.lt
  have h0 : n = 0 → JobOf w X (F.holds 0 F.peak) ∧ Went X F (F.holds 0 F.peak) w w := fun hn => by
    have : F.holds 0 F.peak = F := by
      cases F
      simp only [Flow.holds] at hk ⊢
      subst hk
      simp [hn]
    rw [this]
    exact ⟨h, Went.refl _ _ _⟩
  have hs := h.setHeld 0
  go_enter Tryz.func55, Tryz.ntmps55
  go_wp2_with fail
  · go_region
    go_wp2_with fail
    go_end0
    exact ⟨rfl, hs⟩
  · go_end0
    exact ⟨rfl, h0 (by omega)⟩

set_option maxRecDepth 100000 in
set_option maxHeartbeats 1000000 in
theorem jobLim (w : World) (X : Job) (F : Flow) (h : JobOf w X F) :
    Calls Tryz.prog 26 #[.pointer (some ⟨X.p, 0, none⟩)] w fun e w' => e = .returned (.agg #[.int .i64 X.B.buf, .int .i64 X.B.line, .int .i64 X.B.run]) ∧ Below w.heap.size w w' := by
  have hB := h.proc.blk
  have c5 : w.cell? ⟨X.p, 5, none⟩ = some (.int .i64 X.B.buf) := by rw [hB.cell 5]; rfl
  have c6 : w.cell? ⟨X.p, 6, none⟩ = some (.int .i64 X.B.line) := by rw [hB.cell 6]; rfl
  have c7 : w.cell? ⟨X.p, 7, none⟩ = some (.int .i64 X.B.run) := by rw [hB.cell 7]; rfl
  have lp := hB.lt
  go_enter Tryz.func26, Tryz.ntmps26
  go_wp2_with fail
  go_returns
  exact ⟨rfl, (Below.refl _ w).alloc (Nat.le_refl _) _⟩

end Go.Proofs.YtlncmknikjloeaaGreatDoor
end
