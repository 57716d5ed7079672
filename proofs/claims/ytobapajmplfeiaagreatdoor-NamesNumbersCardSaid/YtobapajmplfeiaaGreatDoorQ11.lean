/-
  Parts that the claims share: Walks over names.Run and the law's run; names.Start of a printf: what it says from any world on; The law's own printf: its format, its arguments, what it tells: plain; What the law's own examples come to: echo, basename, dirname, false and true; A walk over how printf tells a number: the case d0f; A walk over how printf tells a number: the case d1f; A walk over how printf tells a number: the case x0f; A walk over how printf tells a number: the case x1f; What the law's own printf comes to.
-/
import Derived.Test.YtobapajmplfeiaaGreatDoorQ09
import Derived.Test.YtobapajmplfeiaaGreatDoorQ10

section
namespace Go.Proofs.YtobapajmplfeiaaGreatDoor
open Go.RowKit Go.Maps

def resV (ov ev : Value) (st sp pk : Int) : Value := .agg #[ov, ev, .int .i64 st, .slice none 0 0, .int .i64 sp, .int .i64 pk, .int .i64 0]

set_option maxRecDepth 100000 in
set_option maxHeartbeats 1000000 in
theorem namesRun (w : World) (A : Option Addr) (c n : Nat) (args : List ByteArray) (hr : Reads w w.heap.size 1 A n (strsC args)) (hn : args.length = n) (h1 : 1 ≤ n) (hn2 : n ≤ 2097152) (out err : List UInt8) (st : Int)
    (ho : out.length ≤ 140737488355328) (he : err.length ≤ 140737488355328) (hst : ∀ W, Below w.heap.size w W → StartDoes W args [] 3 9 9 27 (Came out err st)) :
    Calls Tryz.prog 18 #[.agg (jobCells (.slice A n c) (.slice none 0 0) (.slice none 0 0) 3 9 9)] w fun e w' => ∃ ov ev sp pk, e = .returned (.tuple #[resV ov ev st sp pk, .bool true]) ∧
      w'.ownsRow w.heap.size 5 1 ov out.length (bytesC out) ∧ w'.ownsRow w.heap.size 5 1 ev err.length (bytesC err) ∧ Below w.heap.size w w' := by
  have hrun : ∀ W, Below w.heap.size w W → Calls Tryz.prog 26 #[.agg (jobCells (.slice A n c) (.slice none 0 0) (.slice none 0 0) 3 9 9), .func (.func 27) #[] #[]] W fun e w' => ∃ ov ev sp pk, e = .returned (.tuple #[resV ov ev st sp pk, .bool true]) ∧
      w'.ownsRow W.heap.size 5 1 ov out.length (bytesC out) ∧ w'.ownsRow W.heap.size 5 1 ev err.length (bytesC err) ∧ Below W.heap.size W w' := by
    intro W hb
    subst hn
    refine (run_top W A c args (.slice none 0 0) [] 3 9 9 27 (Came out err st) ((hr.below hb).more hb.size) h1 hn2 ⟨none, 0, rfl, Nat.le_refl _, by unfold maxLen; omega, fun _ => rfl, Reads.none_⟩ (by simp) (by constructor <;> decide) (enters_of Tryz.func27 (by kernel_rfl) rfl) (hst W hb) ?_).mono ?_
    · rintro n F' ⟨_, h2, h3⟩ b
      cases b
      · rw [h3]; exact he
      · rw [h2]; exact ho
    · rintro e w' ⟨n, F', ov, ev, ⟨rfl, h2, h3⟩, rfl, h4, h5, h6⟩
      rw [h2] at h4
      rw [h3] at h5
      exact ⟨ov, ev, _, _, rfl, h4, h5, h6⟩
  unfold jobCells resV at hrun
  unfold jobCells
  have HR := Lib.hid hrun
  clear hrun hr hst
  obtain ⟨g, hg⟩ : ∃ g, w.heap.size = g := ⟨_, rfl⟩
  obtain ⟨Z, hZ⟩ : ∃ Z, (w.alloc (.cells #[.slice A n c, .slice none 0 0, .string ⟨#[]⟩, .slice none 0 0, .slice none 0 0, .int .i64 3, .int .i64 9, .int .i64 9, .slice none 0 0, .int .i64 0, .slice none 0 0] 44)).alloc (.cells #[.slice none 0 0, .slice none 0 0, .int .i64 0, .slice none 0 0, .int .i64 0, .int .i64 0, .int .i64 0] 30) = Z := ⟨_, rfl⟩
  have bZ : Below w.heap.size w Z := by rw [← hZ]; exact below_box (below_one w _) (Nat.le_refl _) _
  have kJ : Blk Z g 44 #[.slice A n c, .slice none 0 0, .string ⟨#[]⟩, .slice none 0 0, .slice none 0 0, .int .i64 3, .int .i64 9, .int .i64 9, .slice none 0 0, .int .i64 0, .slice none 0 0] := by rw [← hZ, ← hg]; exact (Blk.new w _ _).alloc _
  have kR : Blk Z (g + 1) 30 #[.slice none 0 0, .slice none 0 0, .int .i64 0, .slice none 0 0, .int .i64 0, .int .i64 0, .int .i64 0] := by rw [← hZ, ← hg]; exact Blk.newNext w _ _ _
  have z0 : Z.cell? ⟨g, 0, none⟩ = some (.slice A n c) := kJ.cell 0
  have z1 : Z.cell? ⟨g, 1, none⟩ = some (.slice none 0 0) := kJ.cell 1
  have z2 : Z.cell? ⟨g, 2, none⟩ = some (.string ⟨#[]⟩) := kJ.cell 2
  have z3 : Z.cell? ⟨g, 3, none⟩ = some (.slice none 0 0) := kJ.cell 3
  have z4 : Z.cell? ⟨g, 4, none⟩ = some (.slice none 0 0) := kJ.cell 4
  have z5 : Z.cell? ⟨g, 5, none⟩ = some (.int .i64 3) := kJ.cell 5
  have z6 : Z.cell? ⟨g, 6, none⟩ = some (.int .i64 9) := kJ.cell 6
  have z7 : Z.cell? ⟨g, 7, none⟩ = some (.int .i64 9) := kJ.cell 7
  have z8 : Z.cell? ⟨g, 8, none⟩ = some (.slice none 0 0) := kJ.cell 8
  have z9 : Z.cell? ⟨g, 9, none⟩ = some (.int .i64 0) := kJ.cell 9
  have z10 : Z.cell? ⟨g, 10, none⟩ = some (.slice none 0 0) := kJ.cell 10
  have hZs : g + 1 < Z.heap.size := kR.lt
  rw [hg] at bZ
  have HB := Lib.hid bZ
  have HKR := Lib.hid kR
  clear bZ kR kJ
  go_enter Tryz.func18, Tryz.ntmps18
  go_wp2_with (first
    | (go_at_call 26; refine (HR.out Z (by rw [hg]; exact HB.out)).mono ?_; rintro e w1 ⟨ov, ev, sp, pk, rfl, hov, hev, hb1⟩
       obtain ⟨Ao, co, rfl, _, _, _⟩ := own_slice hov
       obtain ⟨Ae, ce, rfl, _, _, _⟩ := own_slice hev
       have HR1 := Lib.hid (Blk.on HKR.out hb1))
    | (refine wpList_store_blk rfl 30 (.tmp 2) (.tmp 6) rfl (g + 1) 30 #[.slice none 0 0, .slice none 0 0, .int .i64 0, .slice none 0 0, .int .i64 0, .int .i64 0, .int .i64 0] #[.slice Ao out.length co, .slice Ae err.length ce, .int .i64 st, .slice none 0 0, .int .i64 sp, .int .i64 pk, .int .i64 0] rfl rfl HR1.out rfl (by kernel_rfl) (by kernel_rfl) ?_
       intro w2 b2 g2
       obtain ⟨q0, q1, q2, q3, q4, q5, q6⟩ := cells7 b2))
  refine bodyPost_ret (v := .tuple #[.agg #[.slice Ao out.length co, .slice Ae err.length ce, .int .i64 st, .slice none 0 0, .int .i64 sp, .int .i64 pk, .int .i64 0], .bool true]) (by simp [results, Tryz.results18, go_sem, q0, q1, q2, q3, q4, q5, q6]) rfl ?_
  have hzs := HB.out.size
  have b01 : Below g w w1 := HB.out.trans (hb1.mono (by omega))
  have hkeep : ∀ k, k < w1.heap.size → k ≠ g + 1 → w2.heap[k]? = w1.heap[k]? := fun k h1 h2 => g2.block k h1 (by simpa using h2)
  have ho2 : ∀ {v : Value} {n : Nat} {xs : List Value}, w1.ownsRow Z.heap.size 5 1 v n xs → w2.ownsRow g 5 1 v n xs := fun h =>
    own_down (ownsRow_same h fun k hk => hkeep k (h.lt k hk).2 (by have := (h.lt k hk).1; omega)) (by omega)
  subst hg
  exact ⟨_, _, sp, pk, rfl, ho2 hov, ho2 hev, (b01.grown g2 b01.size (fun k hk => by cases hk; omega)).mono (by omega)⟩

set_option maxRecDepth 100000 in
set_option maxHeartbeats 1000000 in
theorem lawRun (w : World) (A : Option Addr) (c n : Nat) (args : List ByteArray) (hr : Reads w w.heap.size 1 A n (strsC args)) (hn : args.length = n) (h1 : 1 ≤ n) (hn2 : n ≤ 2097152) (out err : List UInt8) (st : Int)
    (ho : out.length ≤ 140737488355328) (he : err.length ≤ 140737488355328) (hst : ∀ W, Below w.heap.size w W → StartDoes W args [] 3 9 9 27 (Came out err st)) :
    Calls Tryz.prog 11 #[.slice A n c] w fun e w' => ∃ ov ev sp pk, e = .returned (resV ov ev st sp pk) ∧
      w'.ownsRow w.heap.size 5 1 ov out.length (bytesC out) ∧ w'.ownsRow w.heap.size 5 1 ev err.length (bytesC err) ∧ Below w.heap.size w w' := by
  have hrun : ∀ W, Below w.heap.size w W → _ := fun W hb => namesRun W A c n args ((hr.below hb).more hb.size) hn h1 hn2 out err st ho he (fun V hV => hst V (hb.trans (hV.mono hb.size)))
  unfold jobCells resV at hrun
  have HR := Lib.hid hrun
  clear hrun hr hst
  obtain ⟨g, hg⟩ : ∃ g, w.heap.size = g := ⟨_, rfl⟩
  obtain ⟨Z, hZ⟩ : ∃ Z, w.alloc (.cells #[.slice none 0 0, .slice none 0 0, .int .i64 0, .slice none 0 0, .int .i64 0, .int .i64 0, .int .i64 0] 30) = Z := ⟨_, rfl⟩
  have bZ : Below w.heap.size w Z := by rw [← hZ]; exact below_one w _
  have kR : Blk Z g 30 #[.slice none 0 0, .slice none 0 0, .int .i64 0, .slice none 0 0, .int .i64 0, .int .i64 0, .int .i64 0] := by rw [← hZ, ← hg]; exact Blk.new w _ _
  have hZs : g < Z.heap.size := kR.lt
  rw [hg] at bZ
  have HB := Lib.hid bZ
  have HKR := Lib.hid kR
  clear bZ kR
  go_enter Tryz.func11, Tryz.ntmps11
  go_wp2_with (first
    | (go_at_call 18; refine (HR.out Z (by rw [hg]; exact HB.out)).mono ?_; rintro e w1 ⟨ov, ev, sp, pk, rfl, hov, hev, hb1⟩
       obtain ⟨Ao, co, rfl, _, _, _⟩ := own_slice hov
       obtain ⟨Ae, ce, rfl, _, _, _⟩ := own_slice hev
       have HR1 := Lib.hid (Blk.on HKR.out hb1)
       obtain ⟨u, hu⟩ : ∃ u, w1.heap.size = u := ⟨_, rfl⟩
       have hub : g < u := (by rw [← hu]; exact HR1.out.lt))
    | (refine wpList_store_blk rfl 30 (.tmp 3) (.tmp 10) rfl u 30 #[.slice none 0 0, .slice none 0 0, .int .i64 0, .slice none 0 0, .int .i64 0, .int .i64 0, .int .i64 0] #[.slice Ao out.length co, .slice Ae err.length ce, .int .i64 st, .slice none 0 0, .int .i64 sp, .int .i64 pk, .int .i64 0] rfl rfl (by rw [← hu]; exact Blk.new w1 _ _) rfl (by kernel_rfl) (by kernel_rfl) ?_
       intro w2 b2 g2
       obtain ⟨q0, q1, q2, q3, q4, q5, q6⟩ := cells7 b2
       have HR2 := Lib.hid (Blk.grown (HR1.out.alloc _) g2 (by simp; omega)))
    | (refine wpList_store_blk rfl 30 (.tmp 2) (.tmp 15) rfl g 30 #[.slice none 0 0, .slice none 0 0, .int .i64 0, .slice none 0 0, .int .i64 0, .int .i64 0, .int .i64 0] #[.slice Ao out.length co, .slice Ae err.length ce, .int .i64 st, .slice none 0 0, .int .i64 sp, .int .i64 pk, .int .i64 0] rfl rfl HR2.out rfl (by kernel_rfl) (by kernel_rfl) ?_
       intro w3 b3 g3
       obtain ⟨x0, x1, x2, x3, x4, x5, x6⟩ := cells7 b3))
  refine bodyPost_ret (v := .agg #[.slice Ao out.length co, .slice Ae err.length ce, .int .i64 st, .slice none 0 0, .int .i64 sp, .int .i64 pk, .int .i64 0]) (by simp [results, Tryz.results11, go_sem, x0, x1, x2, x3, x4, x5, x6]) rfl ?_
  have hzs := HB.out.size
  have b01 : Below g w w1 := HB.out.trans (hb1.mono (by omega))
  have bA : Below g w _ := b01.alloc (hg ▸ b01.size) (.cells #[.slice none 0 0, .slice none 0 0, .int .i64 0, .slice none 0 0, .int .i64 0, .int .i64 0, .int .i64 0] 30)
  have b02 := bA.grown g2 (hg ▸ bA.size) (fun k hk => by cases hk; omega)
  have b03 := b02.grown g3 (hg ▸ b02.size) (fun k hk => by cases hk; omega)
  have ho2 : ∀ {v : Value} {n : Nat} {xs : List Value}, w1.ownsRow Z.heap.size 5 1 v n xs → w3.ownsRow g 5 1 v n xs := fun h => by
    refine own_down (ownsRow_same h fun k hk => ?_) (by omega)
    have h1 := (h.lt k hk).1
    have h2 := (h.lt k hk).2
    have hs2 := g2.size
    have e1 : (w1.alloc (.cells #[.slice none 0 0, .slice none 0 0, .int .i64 0, .slice none 0 0, .int .i64 0, .int .i64 0, .int .i64 0] 30)).heap[k]? = w1.heap[k]? := Below.heap_alloc w1 _ k h2
    rw [g3.block k (by simp at hs2; omega) (by simp; omega), g2.block k (by simp; omega) (by simp; omega), e1]
  subst hg
  exact ⟨_, _, sp, pk, rfl, ho2 hov, ho2 hev, b03⟩

end Go.Proofs.YtobapajmplfeiaaGreatDoor
end

section
namespace Go.Proofs.YtobapajmplfeiaaGreatDoor
open Go.RowKit Go.Maps

set_option maxRecDepth 100000 in
set_option maxHeartbeats 1000000 in
theorem startPrintf' (w : World) (rest : List ByteArray) (inb : List UInt8) (buf line run : Int) (hl : rest.length < 2097152) (out err : List UInt8) (st : Int) (hm : SaysFrom w 51 (tagPrintf :: rest) out err st) :
    StartDoes w (tagPrintf :: rest) inb buf line run 27 (Came out err st) := by
  intro W X sv hb hJ ha _ _ _ hfoot
  have hargs := procArgs1 W X _ hJ tagPrintf rest ha rest.length rfl hl
  unfold tagPrintf at hargs
  have HM := Lib.hid hm
  have HA := Lib.hid ha
  have HFT := Lib.hid hfoot
  have HBW := Lib.hid hb
  clear hm ha hfoot hb
  go_enter Tryz.func27, Tryz.ntmps27
  go_wp2_with (first
    | (go_at_call 44; refine hargs.mono ?_; rintro e w1 ⟨g, cap, o, rfl, hcap, hg, hg1, hb1, hJ1, hc0, hcs, hcut⟩)
    | (go_at_call 52; refine (goTop _ X _ hJ1 _ _).mono ?_; rintro e w2 ⟨m, rfl, hM, hm, hb2⟩))
  go_returns
  refine ⟨m, _, _, rfl, hM, Nat.le_trans hb1.size hm, hb1.trans (hb2.mono hb1.size), enters_of Tryz.func51 (by kernel_rfl) rfl, ?_⟩
  intro W' hT' hJ'
  have hb3 := HBW.out
  have b12 : Below w.heap.size w w2 := (hb3.trans (hb1.mono hb3.size)).trans (hb2.mono (Nat.le_trans hb3.size hb1.size))
  refine (HM.out W' X _ (b12.trans (hT'.below b12.size (fun k hk => ?_))) HFT.out hJ' HA.out rfl rfl).mono ?_
  · rw [List.mem_singleton.1 hk]
    exact HFT.out _ (by simp [Job.foot, PS.foot])
  · rintro e w' ⟨rfl, F', hJF, hG, h1, h2⟩
    exact ⟨st, F', rfl, hJF, hG, rfl, h1, h2⟩

end Go.Proofs.YtobapajmplfeiaaGreatDoor
end

section
namespace Go.Proofs.YtobapajmplfeiaaGreatDoor

namespace Pl
def fmtA : List UInt8 := [37, 48, 51, 100, 44, 37, 45, 51, 115, 44, 37, 120, 92, 110]
def psA : List Piece := [convP [48] [51] 100, bytesP 44, convP [45] [51] 115, bytesP 44, convP [] [] 120, bytesP 10]
theorem fmtA_is : Fmt fmtA psA :=
  .conv [48] [51] 100 _ _ ⟨by decide, by decide, by decide, by decide, by decide⟩ (.byte 44 _ _ (by decide) (by decide) (.conv [45] [51] 115 _ _ ⟨by decide, by decide, by decide, by decide, by decide⟩
    (.byte 44 _ _ (by decide) (by decide) (.conv [] [] 120 _ _ ⟨by decide, by decide, by decide, by decide, by decide⟩ (.nl _ _ .nil)))))
theorem psA_eq : psA = [⟨[], 100, false, true, false, 3⟩, ⟨[44], 0, false, false, false, 0⟩, ⟨[], 115, true, false, false, 3⟩, ⟨[44], 0, false, false, false, 0⟩, ⟨[], 120, false, false, false, 0⟩, ⟨[10], 0, false, false, false, 0⟩] := rfl
def numA (a : List UInt8) : Nat × Bool := if a = [120] then (0, false) else (val 10 a, true)
def goodA (a : List UInt8) : Bool := a == [] || a == [120] || a == [55] || a == [50, 53, 53]
theorem numA0 : numA [] = (0, true) := by decide
theorem numAx : numA [120] = (0, false) := by decide
theorem numA7 : numA [55] = (7, true) := by decide
theorem numAf : numA [50, 53, 53] = (255, true) := by decide
theorem goodA_cases {a : List UInt8} (h : goodA a = true) : a = [] ∨ a = [120] ∨ a = [55] ∨ a = [50, 53, 53] := by
  unfold goodA at h
  simp only [Bool.or_eq_true, beq_iff_eq] at h
  rcases h with ((h | h) | h) | h
  · exact .inl h
  · exact .inr (.inl h)
  · exact .inr (.inr (.inl h))
  · exact .inr (.inr (.inr h))
theorem digsA7 : digs 10 7 = [55] := by rw [digs_small (by decide)]; rfl
theorem digsA0 : digs 10 0 = [48] := by rw [digs_small (by decide)]; rfl
theorem digsAx0 : digs 16 0 = [48] := by rw [digs_small (by decide)]; rfl
theorem digsAff : digs 16 255 = [102, 102] := by rw [digs_step (by decide) (by decide), digs_small (by decide)]; rfl
theorem stepA1 (A : List (List UInt8)) (bs : List UInt8) (says : List (List UInt8)) (b : Bool) : step numA ⟨[55] :: A, bs, says, b⟩ ⟨[], 100, false, true, false, 3⟩ = ⟨A, bs ++ [48, 48, 55], says, true⟩ := by
  simp [step, St.arg, numA7, Piece.toldL, Piece.zeroL, Piece.sharpL, Piece.wideL, baseOf, digsA7, List.replicate]
theorem stepA1x (A : List (List UInt8)) (bs : List UInt8) (says : List (List UInt8)) (b : Bool) : step numA ⟨[120] :: A, bs, says, b⟩ ⟨[], 100, false, true, false, 3⟩ = ⟨A, bs ++ [48, 48, 48], says ++ [[120]], true⟩ := by
  simp [step, St.arg, numAx, Piece.toldL, Piece.zeroL, Piece.sharpL, Piece.wideL, baseOf, digsA0, List.replicate]
theorem stepA2 (S : St) (c : UInt8) : step numA S ⟨[c], 0, false, false, false, 0⟩ = { S with bs := S.bs ++ [c] } := by simp [step]
theorem stepA3 (A : List (List UInt8)) (bs : List UInt8) (says : List (List UInt8)) (b : Bool) : step numA ⟨[97, 98] :: A, bs, says, b⟩ ⟨[], 115, true, false, false, 3⟩ = ⟨A, bs ++ [97, 98, 32], says, true⟩ := by
  simp [step, St.arg, Piece.wideL]
theorem stepA3n (bs : List UInt8) (says : List (List UInt8)) (b : Bool) : step numA ⟨[], bs, says, b⟩ ⟨[], 115, true, false, false, 3⟩ = ⟨[], bs ++ [32, 32, 32], says, true⟩ := by
  simp [step, St.arg, Piece.wideL, List.replicate]
theorem stepA5 (A : List (List UInt8)) (bs : List UInt8) (says : List (List UInt8)) (b : Bool) : step numA ⟨[50, 53, 53] :: A, bs, says, b⟩ ⟨[], 120, false, false, false, 0⟩ = ⟨A, bs ++ [102, 102], says, true⟩ := by
  simp [step, St.arg, numAf, Piece.toldL, Piece.zeroL, Piece.sharpL, Piece.wideL, baseOf, digsAff]
theorem stepA5n (bs : List UInt8) (says : List (List UInt8)) (b : Bool) : step numA ⟨[], bs, says, b⟩ ⟨[], 120, false, false, false, 0⟩ = ⟨[], bs ++ [48], says, true⟩ := by
  simp [step, St.arg, numA0, Piece.toldL, Piece.zeroL, Piece.sharpL, Piece.wideL, baseOf, digsAx0]
def argsA : List (List UInt8) := [[55], [97, 98], [50, 53, 53], [120]]
def outA1 : List UInt8 := [48, 48, 55, 44, 97, 98, 32, 44, 102, 102, 10]
def outA : List UInt8 := [48, 48, 55, 44, 97, 98, 32, 44, 102, 102, 10, 48, 48, 48, 44, 32, 32, 32, 44, 48, 10]
theorem passA1 : pass numA psA ⟨argsA, [], [], false⟩ = ⟨[[120]], outA1, [], true⟩ := by
  simp [pass, psA_eq, argsA, outA1, stepA1, stepA2, stepA3, stepA5]
theorem passA2 : pass numA psA ⟨[[120]], outA1, [], true⟩ = ⟨[], outA, [[120]], true⟩ := by
  simp [pass, psA_eq, outA1, outA, stepA1x, stepA2, stepA3n, stepA5n]
theorem endsA : Ends numA goodA psA ⟨argsA, [], [], false⟩ ⟨[], outA, [[120]], true⟩ := by
  refine .more _ _ ?_ ?_ ?_
  · simp [good, psA_eq, argsA, stepA1, stepA2, stepA3, stepA5, St.arg, goodA]
  · rw [passA1]; rfl
  · rw [passA1]
    have h : Ends numA goodA psA ⟨[[120]], outA1, [], true⟩ (pass numA psA ⟨[[120]], outA1, [], true⟩) := by
      refine .last _ ?_ ?_
      · simp [good, psA_eq, outA1, stepA1x, stepA2, stepA3n, stepA5n, St.arg, goodA]
      · rw [passA2]; rfl
    rwa [passA2] at h
end Pl

end Go.Proofs.YtobapajmplfeiaaGreatDoor
end

section
namespace Go.Proofs.YtobapajmplfeiaaGreatDoor
open Go.RowKit Go.Maps

/-- a run that comes to this -/
def RunIs (args : List ByteArray) (n : Nat) (out err : List UInt8) (st : Int) (w : World) : Prop :=
  ∀ (A : Option Addr) (c : Nat), Reads w w.heap.size 1 A n (strsC args) → Calls Tryz.prog 11 #[.slice A n c] w fun e w' => ∃ ov ev sp pk, e = .returned (resV ov ev st sp pk) ∧
      w'.ownsRow w.heap.size 5 1 ov out.length (bytesC out) ∧ w'.ownsRow w.heap.size 5 1 ev err.length (bytesC err) ∧ Below w.heap.size w w'

theorem RunIs.go {args : List ByteArray} {n : Nat} {out err : List UInt8} {st : Int} {w : World} (h : RunIs args n out err st w) (A : Option Addr) (c : Nat) (hr : Reads w w.heap.size 1 A n (strsC args)) :
    Calls Tryz.prog 11 #[.slice A n c] w fun e w' => ∃ ov ev sp pk, e = .returned (resV ov ev st sp pk) ∧
      w'.ownsRow w.heap.size 5 1 ov out.length (bytesC out) ∧ w'.ownsRow w.heap.size 5 1 ev err.length (bytesC err) ∧ Below w.heap.size w w' := h A c hr

theorem runEcho (w : World) : RunIs [⟨#[101, 99, 104, 111]⟩, ⟨#[45, 110]⟩, ⟨#[97]⟩] 3 [45, 110, 32, 97, 10] [] 0 w := by
  intro A c hr
  have hm := mainEcho tagEcho [⟨#[45, 110]⟩, ⟨#[97]⟩] (by simp) (by decide)
  rw [show echoL [⟨#[45, 110]⟩, ⟨#[97]⟩] ++ [10] = [45, 110, 32, 97, 10] by decide] at hm
  exact lawRun w A c 3 [tagEcho, ⟨#[45, 110]⟩, ⟨#[97]⟩] hr rfl (by omega) (by omega) _ _ 0 (by simp) (by simp) (fun V _ => startEcho V _ [] 3 9 9 (by simp) _ _ _ hm)

theorem runBase (w : World) : RunIs [⟨#[98, 97, 115, 101, 110, 97, 109, 101]⟩, ⟨#[47, 97, 47, 98, 46, 99]⟩, ⟨#[46, 99]⟩] 3 [98, 10] [] 0 w := by
  intro A c hr
  have hm := fun b1 b2 => mainBase tagBase [47, 97, 47, 98, 46, 99] [46, 99] b1 b2 (by simp) 47 rfl (by decide) (by simp) (by rw [show Pl.baseL [47, 97, 47, 98, 46, 99] [46, 99] = [98] by decide]; simp)
  rw [show Pl.baseL [47, 97, 47, 98, 46, 99] [46, 99] ++ [10] = [98, 10] by decide] at hm
  exact lawRun w A c 3 [tagBase, strB [47, 97, 47, 98, 46, 99], strB [46, 99]] hr rfl (by omega) (by omega) _ _ 0 (by simp) (by simp) (fun V _ => startBase V _ [] 3 9 9 (by simp) _ _ _ hm)

theorem runDir (w : World) : RunIs [⟨#[100, 105, 114, 110, 97, 109, 101]⟩, ⟨#[47, 97, 47, 47, 98, 47]⟩] 2 [47, 97, 10] [] 0 w := by
  intro A c hr
  have hm := fun b1 b2 => mainDir tagDir [47, 97, 47, 47, 98, 47] b1 b2 (by simp) 47 rfl (by decide) (by simp) (by rw [show Pl.dirL [47, 97, 47, 47, 98, 47] = [47, 97] by decide]; simp)
  rw [show Pl.dirL [47, 97, 47, 47, 98, 47] ++ [10] = [47, 97, 10] by decide] at hm
  exact lawRun w A c 2 [tagDir, strB [47, 97, 47, 47, 98, 47]] hr rfl (by omega) (by omega) _ _ 0 (by simp) (by simp) (fun V _ => startDir V _ [] 3 9 9 (by simp) _ _ _ hm)

theorem runFalse (w : World) : RunIs [⟨#[102, 97, 108, 115, 101]⟩] 1 [] [] 1 w := by
  intro A c hr
  exact lawRun w A c 1 [tagFalse] hr rfl (by omega) (by omega) _ _ 1 (by simp) (by simp) (fun V _ => startFalse V _ [] 3 9 9 (by simp) _ _ _ (mainFalse _))

theorem runTrue (w : World) : RunIs [⟨#[116, 114, 117, 101]⟩, ⟨#[45, 120]⟩] 2 [] [] 0 w := by
  intro A c hr
  exact lawRun w A c 2 [tagTrue, ⟨#[45, 120]⟩] hr rfl (by omega) (by omega) _ _ 0 (by simp) (by simp) (fun V _ => startTrue V _ [] 3 9 9 (by simp) _ _ _ (mainTrue _))

theorem readsNew (w : World) (l : List ByteArray) (n : Nat) (hn : l.length = n) (cells : Array Value) (hc : cells.toList = strsC l) : Reads (w.alloc (.cells cells 9)) (w.alloc (.cells cells 9)).heap.size 1 (some ⟨w.heap.size, 0, none⟩) n (strsC l) := by
  refine ⟨by simp [strsC, hn], fun _ => ⟨_, rfl, by simp, fun j u hu => ?_⟩⟩
  have e0 : (⟨w.heap.size, 0, none⟩ : Addr).add j = ⟨w.heap.size, j, none⟩ := by unfold Addr.add; split <;> simp_all
  rw [e0, (Blk.new w 9 cells).cell j, ← hu, ← hc]
  simp

end Go.Proofs.YtobapajmplfeiaaGreatDoor
end

section
namespace Go.Proofs.YtobapajmplfeiaaGreatDoor
open Go.RowKit Go.Maps

set_option maxRecDepth 100000 in
set_option maxHeartbeats 2000000 in
theorem told_d0f (pb : List UInt8) (mn ze : Bool) (wd : Nat) (hw : wd ≤ 1000) (w : World) :
    Calls Tryz.prog 86 #[.agg #[.string (strB pb), .int .u8 100, .bool mn, .bool false, .bool false, .bool ze, .bool false, .int .i64 (wd : Int), .int .i64 (-1)], .int .i64 0] w fun e w' => e = .returned (.string (strB ((Pl.Piece.mk pb 100 mn ze false wd).toldL 0))) ∧ Below w.heap.size w w' := by
  obtain ⟨g, hg⟩ : ∃ g, w.heap.size = g := ⟨_, rfl⟩
  obtain ⟨Z, hZ⟩ : ∃ Z, w.alloc (.cells #[.string (strB pb), .int .u8 100, .bool mn, .bool false, .bool false, .bool ze, .bool false, .int .i64 (wd : Int), .int .i64 (-1)] 169) = Z := ⟨_, rfl⟩
  have bZ : Below w.heap.size w Z := by rw [← hZ]; exact below_one w _
  have kZ : PieceAt g (Pl.Piece.mk pb 100 mn ze false wd) Z := PieceAt.of (t := 169) (by rw [← hZ, ← hg]; exact Blk.new w _ _)
  obtain ⟨hgZ, z0, z1, z2, z3, z4, z5, z6, z7, z8⟩ := kZ
  have hd : (Pl.Piece.mk pb 100 mn ze false wd).sharpL 0 = [48] := by
    have h0 : Pl.digs 10 0 = [48] := by rw [Pl.digs_small (by omega)]; rfl
    unfold Pl.Piece.sharpL
    rw [show Pl.baseOf (Pl.Piece.mk pb 100 mn ze false wd).letter = 10 from rfl]
    simp only [h0]
    rfl
  obtain ⟨S, hS⟩ : ∃ S : List UInt8, [48] = S := ⟨_, rfl⟩
  have hSl : S.length = 1 := by rw [← hS]; rfl
  have hrep1 := fun W => repeatOne 48 1 (by omega) W
  have hrep1' : ∀ W, Calls Tryz.prog 121 #[.string ⟨#[48]⟩, .int .i64 1] W fun e w' => e = .returned (.string (strB S)) ∧ Below W.heap.size W w' := by rw [← hS]; exact hrep1
  have hap : strB S ++ ⟨#[]⟩ = strB S := strB_append_nil S
  have hpx := fun W => Tryz.strings_HasPrefix (strB S) ⟨#[48]⟩ W
  have hpv : Lib.hasPrefix (strB S).data.toList [48] = true := by rw [← hS]; rfl
  have hmx1 : max (0 : Int) 1 = 1 := by decide
  have hSs : (strB S).size = S.length := strB_size S
  obtain ⟨k, hk⟩ : ∃ k, wd - S.length = k := ⟨_, rfl⟩
  have hrep2 := fun W => repeatOne 48 k (by omega) W
  have hmx2 : max (0 : Int) ((wd : Int) - 1) = (k : Int) := by omega
  have hk1 : k ≤ 1000 := by omega
  obtain ⟨R, hR⟩ : ∃ R, List.replicate k (48 : UInt8) = R := ⟨_, rfl⟩
  have hRs : (strB R).size = k := by rw [strB_size, ← hR]; simp
  have hRl : R.length = k := by rw [← hR]; simp
  rw [hR] at hrep2
  have hap2 := strB_append R S
  have hzl : (Pl.Piece.mk pb 100 mn ze false wd).zeroL S = if ze = true ∧ mn = false then R ++ S else S := by rw [← hR, ← hk]; rfl
  have hto : (Pl.Piece.mk pb 100 mn ze false wd).toldL 0 = (Pl.Piece.mk pb 100 mn ze false wd).wideL ((Pl.Piece.mk pb 100 mn ze false wd).zeroL S) := by unfold Pl.Piece.toldL; rw [hd, hS]
  have hn0 : (strB []).size = 0 := rfl
  have hn1 : (⟨#[]⟩ : ByteArray).size = 0 := rfl
  have hnil : ∀ T : List UInt8, (⟨#[]⟩ : ByteArray) ++ strB T = strB T := strB_nil_append
  have hRSs : (strB (R ++ S)).size = k + S.length := by rw [strB_size, List.length_append, hRl]
  have HTO := Lib.hid hto
  have HZL := Lib.hid hzl
  have HZB := Lib.hid bZ
  clear hto hzl bZ hR hk hd hrep1 hS
  cases mn <;> cases ze
  all_goals
    go_enter Tryz.func86, Tryz.ntmps86
    go_wp2_with (first
      | (go_at_call 121; have hq := hg2; have hq := hrep2 w2; with_reducible refine hq.mono ?_; rintro e w3 ⟨rfl, hb3⟩; obtain ⟨hg3, d0, d1, d2, d3, d4, d5, d6, d7, d8⟩ := (PieceAt.mk hg2 b0 b1 b2 b3 b4 b5 b6 b7 b8 : PieceAt g (Pl.Piece.mk pb 100 _ _ false wd) w2).below hb3)
      | (go_at_call 121; have hq := hrep1' Z; with_reducible refine hq.mono ?_; rintro e w2 ⟨rfl, hb2⟩; obtain ⟨hg2, b0, b1, b2, b3, b4, b5, b6, b7, b8⟩ := (PieceAt.mk hgZ z0 z1 z2 z3 z4 z5 z6 z7 z8 : PieceAt g (Pl.Piece.mk pb 100 _ _ false wd) Z).below hb2)
      | (go_at_call 82; refine (wideAgg pb _ 100 _ _ false wd _ hw (by first | omega | (rw [List.length_append]; omega))).mono ?_; rintro e w4 ⟨rfl, hb4⟩))
    go_returns
    refine ⟨by rw [HTO.out, HZL.out]; rfl, ?_⟩
    first
      | exact HZB.out.trans ((hb2.trans ((hb3.trans (hb4.mono hb3.size)).mono hb2.size)).mono HZB.out.size)
      | exact HZB.out.trans ((hb2.trans (hb4.mono hb2.size)).mono HZB.out.size)

end Go.Proofs.YtobapajmplfeiaaGreatDoor
end

section
namespace Go.Proofs.YtobapajmplfeiaaGreatDoor
open Go.RowKit Go.Maps

set_option maxRecDepth 100000 in
set_option maxHeartbeats 2000000 in
theorem told_d1f (pb : List UInt8) (mn ze : Bool) (wd : Nat) (hw : wd ≤ 1000) (n : Nat) (hn : 1 ≤ n) (hn2 : n ≤ 9223372036854775807) (w : World) (ht : Tabs w) :
    Calls Tryz.prog 86 #[.agg #[.string (strB pb), .int .u8 100, .bool mn, .bool false, .bool false, .bool ze, .bool false, .int .i64 (wd : Int), .int .i64 (-1)], .int .i64 n] w fun e w' => e = .returned (.string (strB ((Pl.Piece.mk pb 100 mn ze false wd).toldL n))) ∧ Below w.heap.size w w' := by
  obtain ⟨g, hg⟩ : ∃ g, w.heap.size = g := ⟨_, rfl⟩
  obtain ⟨Z, hZ⟩ : ∃ Z, w.alloc (.cells #[.string (strB pb), .int .u8 100, .bool mn, .bool false, .bool false, .bool ze, .bool false, .int .i64 (wd : Int), .int .i64 (-1)] 169) = Z := ⟨_, rfl⟩
  have bZ : Below w.heap.size w Z := by rw [← hZ]; exact below_one w _
  have kZ : PieceAt g (Pl.Piece.mk pb 100 mn ze false wd) Z := PieceAt.of (t := 169) (by rw [← hZ, ← hg]; exact Blk.new w _ _)
  obtain ⟨hgZ, z0, z1, z2, z3, z4, z5, z6, z7, z8⟩ := kZ
  obtain ⟨D, hD⟩ : ∃ D, Pl.digs 10 n = D := ⟨_, rfl⟩
  have hf : ∀ W, Tabs W → Calls Tryz.prog 124 #[.int .u64 (n : Int), .int .i64 10] W fun e w' => e = .returned (.string (strB D)) ∧ Below W.heap.size W w' := fun W hT => by rw [← hD]; exact fmtu10 n W (by omega) hT
  have hD1 := Pl.digs_pos 10 n
  have hD2 := Pl.digs_64 10 n (by omega) (by omega)
  rw [hD] at hD1 hD2
  obtain ⟨S, hd⟩ : ∃ S, (Pl.Piece.mk pb 100 mn ze false wd).sharpL n = S := ⟨_, rfl⟩
  have hrep1 := fun W => repeatOne 48 0 (by omega) W
  have hrep1' : ∀ W, Calls Tryz.prog 121 #[.string ⟨#[48]⟩, .int .i64 0] W fun e w' => e = .returned (.string (strB [])) ∧ Below W.heap.size W w' := hrep1
  have hap := strB_nil_append D
  have hDs : (strB D).size = D.length := strB_size D
  have hmx : max (0 : Int) (1 - (D.length : Int)) = 0 := by omega
  have hpx := fun W => Tryz.strings_HasPrefix (strB D) ⟨#[48]⟩ W
  have hpos : (n : Int) > 0 := by omega
  have hneg : decide ((n : Int) < 0) = false := decide_eq_false (by omega)
  have hS : S = D := by
    rw [← hd]
    unfold Pl.Piece.sharpL
    rw [show Pl.baseOf (Pl.Piece.mk pb 100 mn ze false wd).letter = 10 from rfl]
    simp only [hD]
    simp
  have hSl : S.length ≤ 65 := by rw [hS]; (omega)
  have hSs : (strB S).size = S.length := strB_size S
  obtain ⟨k, hk⟩ : ∃ k, wd - S.length = k := ⟨_, rfl⟩
  have hrep2 := fun W => repeatOne 48 k (by omega) W
  have hmx2 : max (0 : Int) ((wd : Int) - S.length) = (k : Int) := by omega
  have hk1 : k ≤ 1000 := by omega
  obtain ⟨R, hR⟩ : ∃ R, List.replicate k (48 : UInt8) = R := ⟨_, rfl⟩
  have hRs : (strB R).size = k := by rw [strB_size, ← hR]; simp
  have hRl : R.length = k := by rw [← hR]; simp
  rw [hR] at hrep2
  have hap2 := strB_append R S
  have hzl : (Pl.Piece.mk pb 100 mn ze false wd).zeroL S = if ze = true ∧ mn = false then R ++ S else S := by rw [← hR, ← hk]; rfl
  have hto : (Pl.Piece.mk pb 100 mn ze false wd).toldL n = (Pl.Piece.mk pb 100 mn ze false wd).wideL ((Pl.Piece.mk pb 100 mn ze false wd).zeroL S) := by unfold Pl.Piece.toldL; rw [hd]
  have hn0 : (strB []).size = 0 := rfl
  have hn1 : (⟨#[]⟩ : ByteArray).size = 0 := rfl
  have hnil : ∀ T : List UInt8, (⟨#[]⟩ : ByteArray) ++ strB T = strB T := strB_nil_append
  have hRSs : (strB (R ++ S)).size = k + S.length := by rw [strB_size, List.length_append, hRl]
  have HTO := Lib.hid hto
  have HZL := Lib.hid hzl
  have HZB := Lib.hid bZ
  have htZ := Tabs.below ht bZ
  clear hto hzl bZ hR hk hd hrep1
  subst hS
  cases mn <;> cases ze
  all_goals
    go_enter Tryz.func86, Tryz.ntmps86
    go_wp2_with (first
      | (go_at_call 124; refine (hf Z htZ).mono ?_; rintro e w1 ⟨rfl, hb1⟩; obtain ⟨hg1, a0, a1, a2, a3, a4, a5, a6, a7, a8⟩ := (PieceAt.mk hgZ z0 z1 z2 z3 z4 z5 z6 z7 z8 : PieceAt g (Pl.Piece.mk pb 100 _ _ false wd) Z).below hb1)
      | (go_at_call 121; have hq := hg2; have hq := hrep2 w2; with_reducible refine hq.mono ?_; rintro e w3 ⟨rfl, hb3⟩; obtain ⟨hg3, d0, d1, d2, d3, d4, d5, d6, d7, d8⟩ := (PieceAt.mk hg2 b0 b1 b2 b3 b4 b5 b6 b7 b8 : PieceAt g (Pl.Piece.mk pb 100 _ _ false wd) w2).below hb3)
      | (go_at_call 121; have hq := hrep1' w1; with_reducible refine hq.mono ?_; rintro e w2 ⟨rfl, hb2⟩; obtain ⟨hg2, b0, b1, b2, b3, b4, b5, b6, b7, b8⟩ := (PieceAt.mk hg1 a0 a1 a2 a3 a4 a5 a6 a7 a8 : PieceAt g (Pl.Piece.mk pb 100 _ _ false wd) w1).below hb2)
      | (go_at_call 82; refine (wideAgg pb _ 100 _ _ false wd _ hw (by first | omega | (rw [List.length_append]; omega))).mono ?_; rintro e w4 ⟨rfl, hb4⟩))
    go_returns
    refine ⟨by rw [HTO.out, HZL.out]; rfl, ?_⟩
    first
      | exact HZB.out.trans ((hb1.trans ((hb2.trans ((hb3.trans (hb4.mono hb3.size)).mono hb2.size)).mono hb1.size)).mono HZB.out.size)
      | exact HZB.out.trans ((hb1.trans ((hb2.trans (hb4.mono hb2.size)).mono hb1.size)).mono HZB.out.size)

end Go.Proofs.YtobapajmplfeiaaGreatDoor
end

section
namespace Go.Proofs.YtobapajmplfeiaaGreatDoor
open Go.RowKit Go.Maps

set_option maxRecDepth 100000 in
set_option maxHeartbeats 2000000 in
theorem told_x0f (pb : List UInt8) (mn ze : Bool) (wd : Nat) (hw : wd ≤ 1000) (w : World) :
    Calls Tryz.prog 86 #[.agg #[.string (strB pb), .int .u8 120, .bool mn, .bool false, .bool false, .bool ze, .bool false, .int .i64 (wd : Int), .int .i64 (-1)], .int .i64 0] w fun e w' => e = .returned (.string (strB ((Pl.Piece.mk pb 120 mn ze false wd).toldL 0))) ∧ Below w.heap.size w w' := by
  obtain ⟨g, hg⟩ : ∃ g, w.heap.size = g := ⟨_, rfl⟩
  obtain ⟨Z, hZ⟩ : ∃ Z, w.alloc (.cells #[.string (strB pb), .int .u8 120, .bool mn, .bool false, .bool false, .bool ze, .bool false, .int .i64 (wd : Int), .int .i64 (-1)] 169) = Z := ⟨_, rfl⟩
  have bZ : Below w.heap.size w Z := by rw [← hZ]; exact below_one w _
  have kZ : PieceAt g (Pl.Piece.mk pb 120 mn ze false wd) Z := PieceAt.of (t := 169) (by rw [← hZ, ← hg]; exact Blk.new w _ _)
  obtain ⟨hgZ, z0, z1, z2, z3, z4, z5, z6, z7, z8⟩ := kZ
  have hd : (Pl.Piece.mk pb 120 mn ze false wd).sharpL 0 = [48] := by
    have h0 : Pl.digs 16 0 = [48] := by rw [Pl.digs_small (by omega)]; rfl
    unfold Pl.Piece.sharpL
    rw [show Pl.baseOf (Pl.Piece.mk pb 120 mn ze false wd).letter = 16 from rfl]
    simp only [h0]
    rfl
  obtain ⟨S, hS⟩ : ∃ S : List UInt8, [48] = S := ⟨_, rfl⟩
  have hSl : S.length = 1 := by rw [← hS]; rfl
  have hrep1 := fun W => repeatOne 48 1 (by omega) W
  have hrep1' : ∀ W, Calls Tryz.prog 121 #[.string ⟨#[48]⟩, .int .i64 1] W fun e w' => e = .returned (.string (strB S)) ∧ Below W.heap.size W w' := by rw [← hS]; exact hrep1
  have hap : strB S ++ ⟨#[]⟩ = strB S := strB_append_nil S
  have hpx := fun W => Tryz.strings_HasPrefix (strB S) ⟨#[48]⟩ W
  have hpv : Lib.hasPrefix (strB S).data.toList [48] = true := by rw [← hS]; rfl
  have hmx1 : max (0 : Int) 1 = 1 := by decide
  have hSs : (strB S).size = S.length := strB_size S
  obtain ⟨k, hk⟩ : ∃ k, wd - S.length = k := ⟨_, rfl⟩
  have hrep2 := fun W => repeatOne 48 k (by omega) W
  have hmx2 : max (0 : Int) ((wd : Int) - 1) = (k : Int) := by omega
  have hk1 : k ≤ 1000 := by omega
  obtain ⟨R, hR⟩ : ∃ R, List.replicate k (48 : UInt8) = R := ⟨_, rfl⟩
  have hRs : (strB R).size = k := by rw [strB_size, ← hR]; simp
  have hRl : R.length = k := by rw [← hR]; simp
  rw [hR] at hrep2
  have hap2 := strB_append R S
  have hzl : (Pl.Piece.mk pb 120 mn ze false wd).zeroL S = if ze = true ∧ mn = false then R ++ S else S := by rw [← hR, ← hk]; rfl
  have hto : (Pl.Piece.mk pb 120 mn ze false wd).toldL 0 = (Pl.Piece.mk pb 120 mn ze false wd).wideL ((Pl.Piece.mk pb 120 mn ze false wd).zeroL S) := by unfold Pl.Piece.toldL; rw [hd, hS]
  have hn0 : (strB []).size = 0 := rfl
  have hn1 : (⟨#[]⟩ : ByteArray).size = 0 := rfl
  have hnil : ∀ T : List UInt8, (⟨#[]⟩ : ByteArray) ++ strB T = strB T := strB_nil_append
  have hRSs : (strB (R ++ S)).size = k + S.length := by rw [strB_size, List.length_append, hRl]
  have HTO := Lib.hid hto
  have HZL := Lib.hid hzl
  have HZB := Lib.hid bZ
  clear hto hzl bZ hR hk hd hrep1 hS
  cases mn <;> cases ze
  all_goals
    go_enter Tryz.func86, Tryz.ntmps86
    go_wp2_with (first
      | (go_at_call 121; have hq := hg2; have hq := hrep2 w2; with_reducible refine hq.mono ?_; rintro e w3 ⟨rfl, hb3⟩; obtain ⟨hg3, d0, d1, d2, d3, d4, d5, d6, d7, d8⟩ := (PieceAt.mk hg2 b0 b1 b2 b3 b4 b5 b6 b7 b8 : PieceAt g (Pl.Piece.mk pb 120 _ _ false wd) w2).below hb3)
      | (go_at_call 121; have hq := hrep1' Z; with_reducible refine hq.mono ?_; rintro e w2 ⟨rfl, hb2⟩; obtain ⟨hg2, b0, b1, b2, b3, b4, b5, b6, b7, b8⟩ := (PieceAt.mk hgZ z0 z1 z2 z3 z4 z5 z6 z7 z8 : PieceAt g (Pl.Piece.mk pb 120 _ _ false wd) Z).below hb2)
      | (go_at_call 82; refine (wideAgg pb _ 120 _ _ false wd _ hw (by first | omega | (rw [List.length_append]; omega))).mono ?_; rintro e w4 ⟨rfl, hb4⟩))
    go_returns
    refine ⟨by rw [HTO.out, HZL.out]; rfl, ?_⟩
    first
      | exact HZB.out.trans ((hb2.trans ((hb3.trans (hb4.mono hb3.size)).mono hb2.size)).mono HZB.out.size)
      | exact HZB.out.trans ((hb2.trans (hb4.mono hb2.size)).mono HZB.out.size)

end Go.Proofs.YtobapajmplfeiaaGreatDoor
end

section
namespace Go.Proofs.YtobapajmplfeiaaGreatDoor
open Go.RowKit Go.Maps

set_option maxRecDepth 100000 in
set_option maxHeartbeats 2000000 in
theorem told_x1f (pb : List UInt8) (mn ze : Bool) (wd : Nat) (hw : wd ≤ 1000) (n : Nat) (hn : 1 ≤ n) (hn2 : n ≤ 9223372036854775807) (w : World) (ht : Tabs w) :
    Calls Tryz.prog 86 #[.agg #[.string (strB pb), .int .u8 120, .bool mn, .bool false, .bool false, .bool ze, .bool false, .int .i64 (wd : Int), .int .i64 (-1)], .int .i64 n] w fun e w' => e = .returned (.string (strB ((Pl.Piece.mk pb 120 mn ze false wd).toldL n))) ∧ Below w.heap.size w w' := by
  obtain ⟨g, hg⟩ : ∃ g, w.heap.size = g := ⟨_, rfl⟩
  obtain ⟨Z, hZ⟩ : ∃ Z, w.alloc (.cells #[.string (strB pb), .int .u8 120, .bool mn, .bool false, .bool false, .bool ze, .bool false, .int .i64 (wd : Int), .int .i64 (-1)] 169) = Z := ⟨_, rfl⟩
  have bZ : Below w.heap.size w Z := by rw [← hZ]; exact below_one w _
  have kZ : PieceAt g (Pl.Piece.mk pb 120 mn ze false wd) Z := PieceAt.of (t := 169) (by rw [← hZ, ← hg]; exact Blk.new w _ _)
  obtain ⟨hgZ, z0, z1, z2, z3, z4, z5, z6, z7, z8⟩ := kZ
  obtain ⟨D, hD⟩ : ∃ D, Pl.digs 16 n = D := ⟨_, rfl⟩
  have hf : ∀ W, Tabs W → Calls Tryz.prog 124 #[.int .u64 (n : Int), .int .i64 16] W fun e w' => e = .returned (.string (strB D)) ∧ Below W.heap.size W w' := fun W hT => by rw [← hD]; exact fmtu16 n W (by omega) hT
  have hD1 := Pl.digs_pos 16 n
  have hD2 := Pl.digs_64 16 n (by omega) (by omega)
  rw [hD] at hD1 hD2
  obtain ⟨S, hd⟩ : ∃ S, (Pl.Piece.mk pb 120 mn ze false wd).sharpL n = S := ⟨_, rfl⟩
  have hrep1 := fun W => repeatOne 48 0 (by omega) W
  have hrep1' : ∀ W, Calls Tryz.prog 121 #[.string ⟨#[48]⟩, .int .i64 0] W fun e w' => e = .returned (.string (strB [])) ∧ Below W.heap.size W w' := hrep1
  have hap := strB_nil_append D
  have hDs : (strB D).size = D.length := strB_size D
  have hmx : max (0 : Int) (1 - (D.length : Int)) = 0 := by omega
  have hpx := fun W => Tryz.strings_HasPrefix (strB D) ⟨#[48]⟩ W
  have hpos : (n : Int) > 0 := by omega
  have hneg : decide ((n : Int) < 0) = false := decide_eq_false (by omega)
  have hS : S = D := by
    rw [← hd]
    unfold Pl.Piece.sharpL
    rw [show Pl.baseOf (Pl.Piece.mk pb 120 mn ze false wd).letter = 16 from rfl]
    simp only [hD]
    simp
  have hSl : S.length ≤ 65 := by rw [hS]; (omega)
  have hSs : (strB S).size = S.length := strB_size S
  obtain ⟨k, hk⟩ : ∃ k, wd - S.length = k := ⟨_, rfl⟩
  have hrep2 := fun W => repeatOne 48 k (by omega) W
  have hmx2 : max (0 : Int) ((wd : Int) - S.length) = (k : Int) := by omega
  have hk1 : k ≤ 1000 := by omega
  obtain ⟨R, hR⟩ : ∃ R, List.replicate k (48 : UInt8) = R := ⟨_, rfl⟩
  have hRs : (strB R).size = k := by rw [strB_size, ← hR]; simp
  have hRl : R.length = k := by rw [← hR]; simp
  rw [hR] at hrep2
  have hap2 := strB_append R S
  have hzl : (Pl.Piece.mk pb 120 mn ze false wd).zeroL S = if ze = true ∧ mn = false then R ++ S else S := by rw [← hR, ← hk]; rfl
  have hto : (Pl.Piece.mk pb 120 mn ze false wd).toldL n = (Pl.Piece.mk pb 120 mn ze false wd).wideL ((Pl.Piece.mk pb 120 mn ze false wd).zeroL S) := by unfold Pl.Piece.toldL; rw [hd]
  have hn0 : (strB []).size = 0 := rfl
  have hn1 : (⟨#[]⟩ : ByteArray).size = 0 := rfl
  have hnil : ∀ T : List UInt8, (⟨#[]⟩ : ByteArray) ++ strB T = strB T := strB_nil_append
  have hRSs : (strB (R ++ S)).size = k + S.length := by rw [strB_size, List.length_append, hRl]
  have HTO := Lib.hid hto
  have HZL := Lib.hid hzl
  have HZB := Lib.hid bZ
  have htZ := Tabs.below ht bZ
  clear hto hzl bZ hR hk hd hrep1
  subst hS
  cases mn <;> cases ze
  all_goals
    go_enter Tryz.func86, Tryz.ntmps86
    go_wp2_with (first
      | (go_at_call 124; refine (hf Z htZ).mono ?_; rintro e w1 ⟨rfl, hb1⟩; obtain ⟨hg1, a0, a1, a2, a3, a4, a5, a6, a7, a8⟩ := (PieceAt.mk hgZ z0 z1 z2 z3 z4 z5 z6 z7 z8 : PieceAt g (Pl.Piece.mk pb 120 _ _ false wd) Z).below hb1)
      | (go_at_call 121; have hq := hg2; have hq := hrep2 w2; with_reducible refine hq.mono ?_; rintro e w3 ⟨rfl, hb3⟩; obtain ⟨hg3, d0, d1, d2, d3, d4, d5, d6, d7, d8⟩ := (PieceAt.mk hg2 b0 b1 b2 b3 b4 b5 b6 b7 b8 : PieceAt g (Pl.Piece.mk pb 120 _ _ false wd) w2).below hb3)
      | (go_at_call 121; have hq := hrep1' w1; with_reducible refine hq.mono ?_; rintro e w2 ⟨rfl, hb2⟩; obtain ⟨hg2, b0, b1, b2, b3, b4, b5, b6, b7, b8⟩ := (PieceAt.mk hg1 a0 a1 a2 a3 a4 a5 a6 a7 a8 : PieceAt g (Pl.Piece.mk pb 120 _ _ false wd) w1).below hb2)
      | (go_at_call 82; refine (wideAgg pb _ 120 _ _ false wd _ hw (by first | omega | (rw [List.length_append]; omega))).mono ?_; rintro e w4 ⟨rfl, hb4⟩))
    go_returns
    refine ⟨by rw [HTO.out, HZL.out]; rfl, ?_⟩
    first
      | exact HZB.out.trans ((hb1.trans ((hb2.trans ((hb3.trans (hb4.mono hb3.size)).mono hb2.size)).mono hb1.size)).mono HZB.out.size)
      | exact HZB.out.trans ((hb1.trans ((hb2.trans (hb4.mono hb2.size)).mono hb1.size)).mono HZB.out.size)

end Go.Proofs.YtobapajmplfeiaaGreatDoor
end

section
namespace Go.Proofs.YtobapajmplfeiaaGreatDoor
open Go.RowKit Go.Maps

theorem pieceC_p1 : pieceC ⟨[], 100, false, true, false, 3⟩ = #[.string (strB []), .int .u8 100, .bool false, .bool false, .bool false, .bool true, .bool false, .int .i64 ((3 : Nat) : Int), .int .i64 (-1)] := rfl
theorem pieceC_p5 : pieceC ⟨[], 120, false, false, false, 0⟩ = #[.string (strB []), .int .u8 120, .bool false, .bool false, .bool false, .bool false, .bool false, .int .i64 ((0 : Nat) : Int), .int .i64 (-1)] := rfl
theorem doesA (w0 : World) (hT : Tabs w0) : Does51 w0 Pl.numA Pl.goodA Pl.psA where
  value := by
    intro a ha W hb
    have hTW : Tabs W := hT.below hb
    rcases Pl.goodA_cases ha with rfl | rfl | rfl | rfl
    · refine (valueNil W).mono ?_
      rintro e w' ⟨rfl, rfl⟩
      exact ⟨rfl, Below.refl _ _⟩
    · exact valueBad W hTW
    · exact valueDec 55 [] (by decide) (.inr rfl) (by decide) (by decide) W
    · exact valueDec 50 [53, 53] (by decide) (.inl (by decide)) (by decide) (by decide) W
  zero := by
    intro a ha
    unfold Pl.numA at ha ⊢
    split
    · rfl
    · rename_i h
      rw [if_neg h] at ha
      exact absurd ha (by simp)
  told := by
    intro p hp h0 h1 a ha W hb
    have hTW : Tabs W := hT.below hb
    rw [Pl.psA_eq] at hp
    simp only [List.mem_cons, List.not_mem_nil, or_false] at hp
    rcases hp with rfl | rfl | rfl | rfl | rfl | rfl
    · rw [pieceC_p1]
      rcases Pl.goodA_cases ha with rfl | rfl | rfl | rfl
      · exact told_d0f [] false true 3 (by decide) W
      · exact told_d0f [] false true 3 (by decide) W
      · exact told_d1f [] false true 3 (by decide) 7 (by decide) (by decide) W hTW
      · exact told_d1f [] false true 3 (by decide) 255 (by decide) (by decide) W hTW
    · exact absurd rfl h0
    · exact absurd rfl h1
    · exact absurd rfl h0
    · rw [pieceC_p5]
      rcases Pl.goodA_cases ha with rfl | rfl | rfl | rfl
      · exact told_x0f [] false false 0 (by decide) W
      · exact told_x0f [] false false 0 (by decide) W
      · exact told_x1f [] false false 0 (by decide) 7 (by decide) (by decide) W hTW
      · exact told_x1f [] false false 0 (by decide) 255 (by decide) (by decide) W hTW
    · exact absurd rfl h0
  wide := by
    intro p hp
    rw [Pl.psA_eq] at hp
    simp only [List.mem_cons, List.not_mem_nil, or_false] at hp
    rcases hp with rfl | rfl | rfl | rfl | rfl | rfl <;> decide
  b := by
    intro p hp h0
    rw [Pl.psA_eq] at hp
    simp only [List.mem_cons, List.not_mem_nil, or_false] at hp
    rcases hp with rfl | rfl | rfl | rfl | rfl | rfl
    · exact ⟨rfl, rfl⟩
    · exact absurd rfl h0
    · exact ⟨rfl, rfl⟩
    · exact absurd rfl h0
    · exact ⟨rfl, rfl⟩
    · exact absurd rfl h0

def errA : List UInt8 := [112, 114, 105, 110, 116, 102, 58, 32, 120, 58, 32, 110, 111, 116, 32, 97, 32, 110, 117, 109, 98, 101, 114, 10]
theorem errA_is : errs tagPrintf [[120]] = errA := by
  unfold errs
  rw [List.flatMap_cons, List.flatMap_nil, List.append_nil]
  decide
theorem runPrintf (w : World) (hT : Tabs w) : RunIs [⟨#[112, 114, 105, 110, 116, 102]⟩, ⟨#[37, 48, 51, 100, 44, 37, 45, 51, 115, 44, 37, 120, 92, 110]⟩, ⟨#[55]⟩, ⟨#[97, 98]⟩, ⟨#[50, 53, 53]⟩, ⟨#[120]⟩] 6 Pl.outA errA 1 w := by
  intro A c hr
  refine lawRun w A c 6 (tagPrintf :: strB Pl.fmtA :: Pl.argsA.map strB) hr rfl (by omega) (by omega) _ _ 1 (by decide) (by decide) (fun V hV => ?_)
  have hTV : Tabs V := hT.below hV
  have hm := mainPrintf V hTV tagPrintf (by decide) Pl.fmtA (by decide) (by decide) Pl.argsA Pl.psA Pl.fmtA_is (by decide) Pl.numA Pl.goodA (doesA V hTV) _ Pl.endsA (by decide) (by decide) (by rw [errA_is]; decide) (by decide) (by decide) (by decide)
  rw [errA_is] at hm
  exact startPrintf' V _ [] 3 9 9 (by decide) _ _ _ hm

end Go.Proofs.YtobapajmplfeiaaGreatDoor
end
