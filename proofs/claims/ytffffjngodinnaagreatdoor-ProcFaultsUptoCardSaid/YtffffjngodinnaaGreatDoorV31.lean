/-
  Parts of the proof: Walks over Stat of the root, and Dump, of a tree that has the root alone; A walk over may of a job of no nodes.
-/
import Derived.Test.YtffffjngodinnaaGreatDoorV28
import Derived.Test.YtffffjngodinnaaGreatDoorV30
import Derived.BigQuiet
import Derived.Deep.QuietTactic

section
namespace Go.Proofs.YtffffjngodinnaaGreatDoor
open Go.RowKit Go.Maps

theorem statRoot (w : World) (t h : Nat) (hT : TreeOf w t (emptyT h)) : Calls Tryz.prog 56 #[ptrV t, .string ⟨#[]⟩, .string ⟨#[47]⟩] w fun e w' => e = .returned (.tuple #[.agg #[.int .i64 1, .bool true, .int .i64 493, .int .i64 0, .int .i64 0, .int .i64 1], .int .i64 0]) ∧ Below w.heap.size w w' :=
  (stat_any w t (emptyT h) Abs.emptyT (fun _ => h + 1) (emptyT_is hT) ⟨#[]⟩ ⟨#[47]⟩ (by decide) (by decide)).mono fun e w' ⟨he, hb⟩ => ⟨he.trans (by
    have : Abs.T.look Abs.emptyT (⟨#[]⟩ : ByteArray).data.toList (⟨#[47]⟩ : ByteArray).data.toList = .ok 1 := by rfl
    rw [this]; rfl), hb⟩
theorem dumpRoot (w : World) (t h : Nat) (hT : TreeOf w t (emptyT h)) : Calls Tryz.prog 34 #[ptrV t] w fun e w' => e = .returned (.slice none 0 0) ∧ Below w.heap.size w w' := by
  have e0 := hT.item (h + 1) (rootItem h) (by simp [emptyT])
  exact callsIn_wide.1 (dumpNone_wide w t (h + 1) h _ (hT.blk.cell 0) (e0.1.cell 5) (e0.2.2 rfl).1)

end Go.Proofs.YtffffjngodinnaaGreatDoor
end

section
namespace Go.Proofs.YtffffjngodinnaaGreatDoor
open Go.RowKit Go.Maps

/-- a job of no nodes, of these faults, at the root, at tick 0 -/
def jobCells (av ev iv : Value) (buf line run : Int) (fv : Value) : Array Value := #[av, ev, .string ⟨#[]⟩, iv, .slice none 0 0, .int .i64 buf, .int .i64 line, .int .i64 run, fv, .int .i64 0, .slice none 0 0]
/-- limits that may be -/
structure LimOk (buf line run : Int) : Prop where
  h1 : 1 ≤ buf
  h2 : 1 ≤ line
  h3 : line ≤ run
  h4 : buf ≤ 1099511627776
  h5 : run ≤ 1099511627776

theorem loadNone (w : World) : Calls Tryz.prog 55 #[.slice none 0 0] w fun e w' => ∃ t h, e = .returned (.tuple #[.pointer (some ⟨t, 0, none⟩), .int .i64 0]) ∧ w.heap.size ≤ t ∧ TreeOf w' t (emptyT h) ∧ Below w.heap.size w w' :=
  (treeLoadNil w).mono fun _ _ ⟨he, hT, hb⟩ => ⟨_, _, he, by omega, hT, hb⟩

set_option maxRecDepth 100000 in
set_option maxHeartbeats 2000000 in
theorem mayNil (w : World) (A : Option Addr) (n c : Nat) (ev iv : Value) (buf line run : Int) (fv : Value) (hn : 1 ≤ n) (hl : LimOk buf line run) :
    Calls Tryz.prog 25 #[.agg (jobCells (.slice A n c) ev iv buf line run fv)] w fun e w' => ∃ t h, e = .returned (.tuple #[ptrV t, .bool true]) ∧ w.heap.size ≤ t ∧ TreeOf w' t (emptyT h) ∧ Below w.heap.size w w' := by
  have hv := hl.h1
  have hv2 := hl.h2
  have hv3 := hl.h3
  have hv4 := hl.h4
  have hv5 := hl.h5
  unfold jobCells
  go_enter Tryz.func25, Tryz.ntmps25
  have hw1 : ¬ (n : Int) < 1 := by omega
  have hmx : ¬ (1099511627776 : Int) < max buf run := by omega
  go_wp2_with (first
    | (go_at_call 55; refine (loadNone _).mono ?_; rintro e w1 ⟨t, ht0, rfl, hts, hT, hb1⟩
       have bx : Blk w1 w.heap.size 30 (jobCells (.slice A n c) ev iv buf line run fv) := Blk.on (Blk.new w _ _) hb1
       have x0 : w1.cell? ⟨w.heap.size, 0, none⟩ = some (.slice A n c) := bx.cell 0
       have x2 : w1.cell? ⟨w.heap.size, 2, none⟩ = some (.string ⟨#[]⟩) := bx.cell 2
       have x5 : w1.cell? ⟨w.heap.size, 5, none⟩ = some (.int .i64 buf) := bx.cell 5
       have x6 : w1.cell? ⟨w.heap.size, 6, none⟩ = some (.int .i64 line) := bx.cell 6
       have x7 : w1.cell? ⟨w.heap.size, 7, none⟩ = some (.int .i64 run) := bx.cell 7
       have x9 : w1.cell? ⟨w.heap.size, 9, none⟩ = some (.int .i64 0) := bx.cell 9)
    | (go_at_call 56; refine (statRoot _ _ _ hT).mono ?_; rintro e w2 ⟨rfl, hb2⟩))
  all_goals
    go_quiet (fail)
    go_wp2_with fail
    go_returns
    refine ⟨t, ht0, rfl, Nat.le_trans (by simp) hts, ?_, ?_⟩
    · exact (hT.below hb2).below (below_drewN (below_one w2 _) nq)
    · exact below_step (below_step (below_one w _) hb1 (Nat.le_refl _)) (below_step hb2 (below_drewN (below_one w2 _) nq) (Nat.le_refl _)) (Nat.le_refl _)

end Go.Proofs.YtffffjngodinnaaGreatDoor
end
