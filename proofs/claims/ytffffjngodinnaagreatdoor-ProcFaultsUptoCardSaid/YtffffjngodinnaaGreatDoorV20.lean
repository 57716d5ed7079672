/-
  Parts of the proof: The drawn regions of call: each a theorem of its own, over the frame written out (printed by wip/tools/callgen.py).
-/
import Derived.Test.YtffffjngodinnaaGreatDoorV13
import Derived.Test.YtffffjngodinnaaGreatDoorV07
import Derived.Deep.AppendLies
import Derived.Deep.RegionHeld3

section
namespace Go.Proofs.YtffffjngodinnaaGreatDoor
open Go.RowKit Go.Maps

/-- the regions of a function's code -/
def regsOf : Code → List Code
  | .region i ops b => [.region i ops b]
  | .loop c => regsOf c
  | .seq a b => regsOf a ++ regsOf b
  | .block _ c => regsOf c
  | .scope c => regsOf c
  | .cond _ a b => regsOf a ++ regsOf b
  | _ => []
def isReg (k : Nat) : Code → Bool
  | .region i _ _ => i == k
  | _ => false
noncomputable def callReg (k : Nat) : Code := (Tryz.f143.body.bind (fun c => (regsOf c).find? (isReg k))).getD .skip

theorem below_drew {B : Nat} (w : World) (k : Nat) : Below B w (w.drewN k) := below_drewN (Below.refl _ _) k

/-- a store of a whole struct, behind a name -/
def storeHere (ty : TypeId) (x y : Value) : Sem Unit := Instr.storeAt ty x y
theorem storeHere_eq (ty : TypeId) (x y : Value) : Instr.storeAt ty x y = storeHere ty x y := rfl
theorem run_storeHere {P : Program} {w : World} {g : Nat} {t : TypeId} {old : Array Value} (ty : TypeId) (cells : Array Value) (h : Blk w g t old) (hs : old.size = cells.size) (hi : (P.info? ty).map (·.size) = some cells.size) (h1 : cells.all (·.oneCell') = true) :
    ∃ w', (storeHere ty (.pointer (some ⟨g, 0, none⟩)) (.agg cells)).run P w = .ok () w' ∧ Blk w' g t cells ∧ w.grownBy w' (some g) :=
  ⟨_, run_store_blk (P := P) ty cells h hs hi h1, setRow_heap w g old cells t (0, 0) h, ⟨rfl, rfl, rfl, by simp [World.setRow], fun k _ hk => setRow_other w g k _ (fun e => hk (by rw [e]))⟩⟩

/-- the cells of a reply -/
def replyAt (W : World) (r o : Nat) (q1 q2 : Int) : Prop := W.cell? ⟨r, o, none⟩ = some (.int .i64 q1) ∧ W.cell? ⟨r, o + 1, none⟩ = some (.int .i64 0) ∧ W.cell? ⟨r, o + 2, none⟩ = some (.slice none 0 0) ∧ W.cell? ⟨r, o + 3, none⟩ = some (.slice none 0 0) ∧ W.cell? ⟨r, o + 4, none⟩ = some (.int .i64 0) ∧ W.cell? ⟨r, o + 5, none⟩ = some (.bool false) ∧ W.cell? ⟨r, o + 6, none⟩ = some (.int .i64 0) ∧ W.cell? ⟨r, o + 7, none⟩ = some (.int .i64 0) ∧ W.cell? ⟨r, o + 8, none⟩ = some (.int .i64 0) ∧ W.cell? ⟨r, o + 9, none⟩ = some (.int .i64 0) ∧ W.cell? ⟨r, o + 10, none⟩ = some (.int .i64 q2)
theorem replyAt.of {W : World} {r o : Nat} {q1 q2 : Int} (h : W.rangeAt r o (replyC (q1, q2))) : replyAt W r o q1 q2 := ⟨h 0 _ rfl, h 1 _ rfl, h 2 _ rfl, h 3 _ rfl, h 4 _ rfl, h 5 _ rfl, h 6 _ rfl, h 7 _ rfl, h 8 _ rfl, h 9 _ rfl, h 10 _ rfl⟩
theorem replyAt.below {w W : World} {r o : Nat} {q1 q2 : Int} (h : replyAt w r o q1 q2) (hb : Below w.heap.size w W) : replyAt W r o q1 q2 := by
  obtain ⟨h0, h1, h2, h3, h4, h5, h6, h7, h8, h9, h10⟩ := h
  exact ⟨(hb.cell (World.block_lt_of_cell? w _ h0)).trans h0, (hb.cell (World.block_lt_of_cell? w _ h1)).trans h1, (hb.cell (World.block_lt_of_cell? w _ h2)).trans h2, (hb.cell (World.block_lt_of_cell? w _ h3)).trans h3, (hb.cell (World.block_lt_of_cell? w _ h4)).trans h4, (hb.cell (World.block_lt_of_cell? w _ h5)).trans h5, (hb.cell (World.block_lt_of_cell? w _ h6)).trans h6, (hb.cell (World.block_lt_of_cell? w _ h7)).trans h7, (hb.cell (World.block_lt_of_cell? w _ h8)).trans h8, (hb.cell (World.block_lt_of_cell? w _ h9)).trans h9, (hb.cell (World.block_lt_of_cell? w _ h10)).trans h10⟩

section
attribute [local go_sem ↓ high] storeHere_eq
set_option maxRecDepth 100000 in
set_option maxHeartbeats 4000000 in
theorem call_r11 (w : World) (p r i n cp : Nat) (q1 q2 : Int) (c8 : w.cell? ⟨p, 10, none⟩ = some (.slice (some ⟨r, 0, none⟩) n cp)) (c9 : w.cell? ⟨p, 11, none⟩ = some (.int .i64 (i : Int))) (hr : replyAt w r (i * 11) q1 q2) (hin : i < n)
    {e1 e2 e3 e4 e5 e6 e7 e8 e9 e10 e11 e12 e13 e14 e15 e16 e17 e18 e19 e20 e21 e22 e23 e24 e25 e26 e27 e28 e29 e30 e31 e32 e33 e34 e35 e36 e37 e38 e39 e40 e41 e42 e43 e44 e45 e46 e47 e48 e49 e50 e51 e52 e53 e54 e55 e56 e57 e58 e59 e60 e61 e62 e63 e64 e65 e66 e67 e68 e69 e70 e71 e72 e73 e74 e75 e76 e77 e78 e79 e80 e81 e82 e83 : Value} {Q0 : Exit → Act → World → Prop}
    (hexit : ∀ (u58 u59 u60 u61 u62 u63 u64 u65 u66 u67 : Value) (w1 : World) (g : Nat), Below w.heap.size w w1 → w.heap.size ≤ g → Blk w1 g 252 #[.int .i64 q1, .int .i64 0, .slice none 0 0, .slice none 0 0, .int .i64 0, .bool false, .int .i64 0, .int .i64 0, .int .i64 0, .int .i64 0, .int .i64 q2] → Q0 .normal ⟨#[.pointer (some ⟨p, 0, none⟩), e1, e2, e3, e4, e5, .pointer (some ⟨g, 0, none⟩), e7, e8, e9, e10, e11, e12, e13, e14, e15, e16, e17, e18, e19, e20, e21, e22, e23, e24, e25, e26, e27, e28, e29, e30, e31, e32, e33, e34, e35, e36, e37, e38, e39, e40, e41, e42, e43, e44, e45, e46, e47, e48, e49, e50, e51, e52, e53, e54, e55, e56, e57, u58, u59, u60, u61, u62, u63, u64, u65, u66, u67, e68, e69, e70, e71, e72, e73, e74, e75, e76, e77, e78, e79, e80, e81, e82, e83], []⟩ w1) :
    Code.wp Tryz.prog (callReg 11) Q0 ⟨#[.pointer (some ⟨p, 0, none⟩), e1, e2, e3, e4, e5, e6, e7, e8, e9, e10, e11, e12, e13, e14, e15, e16, e17, e18, e19, e20, e21, e22, e23, e24, e25, e26, e27, e28, e29, e30, e31, e32, e33, e34, e35, e36, e37, e38, e39, e40, e41, e42, e43, e44, e45, e46, e47, e48, e49, e50, e51, e52, e53, e54, e55, e56, e57, e58, e59, e60, e61, e62, e63, e64, e65, e66, e67, e68, e69, e70, e71, e72, e73, e74, e75, e76, e77, e78, e79, e80, e81, e82, e83], []⟩ w := by
  dsimp only at hexit ⊢
  have HX := Lib.hid hexit
  have HR := Lib.hid hr
  have C8 := Lib.hid c8
  have C9 := Lib.hid c9
  have lp : p < w.heap.size := World.block_lt_of_cell? w _ c8
  have hii : (i : Int) < (n : Int) := by omega
  have hi0 : (0 : Int) ≤ (i : Int) := by omega
  obtain ⟨k0, k1, k2, k3, k4, k5, k6, k7, k8, k9, k10⟩ := hr
  obtain ⟨w5, hst5, b5, g5⟩ := run_storeHere (P := Tryz.prog) (w := (w.alloc (.cells #[.int .i64 0, .int .i64 0, .slice none 0 0, .slice none 0 0, .int .i64 0, .bool false, .int .i64 0, .int .i64 0, .int .i64 0, .int .i64 0, .int .i64 0] 252)).drew) (g := w.heap.size) 252 #[.int .i64 q1, .int .i64 0, .slice none 0 0, .slice none 0 0, .int .i64 0, .bool false, .int .i64 0, .int .i64 0, .int .i64 0, .int .i64 0, .int .i64 q2] (show Blk _ w.heap.size 252 replyZ from (Blk.new w _ _).drewN 1) (by rfl) (by kernel_rfl) (by kernel_rfl)
  have B5 : Below w.heap.size w w5 := ((below_one w _).trans (below_drew _ 1)).grown g5 (by simp) (fun j hj => by cases hj; exact Nat.le_refl _)
  have HB5 := Lib.hid B5
  have HK5 := Lib.hid b5
  obtain ⟨l0, l1, l2, l3, l4, l5, l6, l7, l8, l9, l10⟩ := HR.out.below B5
  have m8 : w5.cell? ⟨p, 10, none⟩ = some (.slice (some ⟨r, 0, none⟩) n cp) := (B5.cell lp).trans C8.out
  have m9 : w5.cell? ⟨p, 11, none⟩ = some (.int .i64 (i : Int)) := (B5.cell lp).trans C9.out
  clear hexit b5 g5 B5
  conv => arg 2; whnf
  go_region_held3 (fun W => W.cell? ⟨p, 10, none⟩ = some (.slice (some ⟨r, 0, none⟩) n cp) ∧ W.cell? ⟨p, 11, none⟩ = some (.int .i64 (i : Int)) ∧ W.cell? ⟨r, i * 11, none⟩ = some (.int .i64 q1) ∧ W.cell? ⟨r, i * 11 + 1, none⟩ = some (.int .i64 0) ∧ W.cell? ⟨r, i * 11 + 2, none⟩ = some (.slice none 0 0) ∧ W.cell? ⟨r, i * 11 + 3, none⟩ = some (.slice none 0 0) ∧ W.cell? ⟨r, i * 11 + 4, none⟩ = some (.int .i64 0) ∧ W.cell? ⟨r, i * 11 + 5, none⟩ = some (.bool false) ∧ W.cell? ⟨r, i * 11 + 6, none⟩ = some (.int .i64 0) ∧ W.cell? ⟨r, i * 11 + 7, none⟩ = some (.int .i64 0) ∧ W.cell? ⟨r, i * 11 + 8, none⟩ = some (.int .i64 0) ∧ W.cell? ⟨r, i * 11 + 9, none⟩ = some (.int .i64 0) ∧ W.cell? ⟨r, i * 11 + 10, none⟩ = some (.int .i64 q2))
    (first | (refine ⟨?_, ?_, ?_, ?_, ?_, ?_, ?_, ?_, ?_, ?_, ?_, ?_, ?_⟩ <;> assumption) | go_keep)
    (first | fail)
  all_goals exact HX.out _ _ _ _ _ _ _ _ _ _ _ _ HB5.out (Nat.le_refl _) HK5.out
end

theorem Tryz.infoReply : (Tryz.prog.info? 252).map (fun i => (i.zero, i.size, i.bytes)) = some (some (.agg #[.int .i64 0, .int .i64 0, .slice none 0 0, .slice none 0 0, .int .i64 0, .bool false, .int .i64 0, .int .i64 0, .int .i64 0, .int .i64 0, .int .i64 0]), 11, 120) := by kernel_rfl
theorem grownOver {w w1 : World} {o : Obj} {row : Option Nat} (h : (w.alloc o).drew.grownBy w1 row) : w.grownBy w1 row :=
  have hs : w.heap.size < (w.alloc o).drew.heap.size := by show w.heap.size < (w.alloc o).heap.size; simp
  ⟨h.os, h.tape, h.output, Nat.le_trans (Nat.le_of_lt hs) h.size, fun i hi hne => (h.block i (Nat.lt_trans hi hs) hne).trans (Below.heap_alloc w o i hi)⟩

set_option maxRecDepth 100000 in
set_option maxHeartbeats 4000000 in
theorem call_r10 (w : World) (p g5 n cp : Nat) (A : Option Addr) (q1 q2 : Int) (l : List (Int × Int)) (pc : Array Value) (hp : Blk w p 85 pc) (hpc : pc[10]? = some (.slice A n cp)) (hown : w.ownsRow 0 252 11 (.slice A n cp) n (logC l)) (hn : n ≤ 1000000) (hb : Blk w g5 252 #[.int .i64 q1, .int .i64 0, .slice none 0 0, .slice none 0 0, .int .i64 0, .bool false, .int .i64 0, .int .i64 0, .int .i64 0, .int .i64 0, .int .i64 q2])
    {e1 e2 e3 e4 e6 e7 e8 e9 e10 e11 e12 e13 e14 e15 e16 e17 e18 e19 e20 e21 e22 e23 e24 e25 e26 e27 e28 e29 e30 e31 e32 e33 e34 e35 e36 e37 e38 e39 e40 e41 e42 e43 e44 e45 e46 e47 e48 e49 e50 e51 e52 e53 e54 e55 e56 e57 e58 e59 e60 e61 e62 e63 e64 e65 e66 e67 e68 e69 e70 e71 e72 e73 e74 e75 e76 e77 e78 e79 e80 e81 e82 e83 : Value} {Q0 : Exit → Act → World → Prop}
    (hexit : ∀ (u48 u49 u50 u51 u52 u53 u54 u55 u56 u57 : Value) (w1 : World) (v : Value), Blk w1 p 85 (pc.setIfInBounds 10 v) → w1.ownsRow 0 252 11 v (n + 1) (logC (l ++ [(q1, q2)])) → Turns ([p] ++ (Value.slice A n cp).ownBlock.toList) w w1 → (v.ownBlock = (Value.slice A n cp).ownBlock ∨ ∃ g, v.ownBlock = some g ∧ w.heap.size ≤ g) → Q0 .normal ⟨#[.pointer (some ⟨p, 0, none⟩), e1, e2, e3, e4, .pointer (some ⟨g5, 0, none⟩), e6, e7, e8, e9, e10, e11, e12, e13, e14, e15, e16, e17, e18, e19, e20, e21, e22, e23, e24, e25, e26, e27, e28, e29, e30, e31, e32, e33, e34, e35, e36, e37, e38, e39, e40, e41, e42, e43, e44, e45, e46, e47, u48, u49, u50, u51, u52, u53, u54, u55, u56, u57, e58, e59, e60, e61, e62, e63, e64, e65, e66, e67, e68, e69, e70, e71, e72, e73, e74, e75, e76, e77, e78, e79, e80, e81, e82, e83], []⟩ w1) :
    Code.wp Tryz.prog (callReg 10) Q0 ⟨#[.pointer (some ⟨p, 0, none⟩), e1, e2, e3, e4, .pointer (some ⟨g5, 0, none⟩), e6, e7, e8, e9, e10, e11, e12, e13, e14, e15, e16, e17, e18, e19, e20, e21, e22, e23, e24, e25, e26, e27, e28, e29, e30, e31, e32, e33, e34, e35, e36, e37, e38, e39, e40, e41, e42, e43, e44, e45, e46, e47, e48, e49, e50, e51, e52, e53, e54, e55, e56, e57, e58, e59, e60, e61, e62, e63, e64, e65, e66, e67, e68, e69, e70, e71, e72, e73, e74, e75, e76, e77, e78, e79, e80, e81, e82, e83], []⟩ w := by
  dsimp only at hexit ⊢
  obtain ⟨iB, hiB, hB0, hB1, hB2⟩ := info_parts Tryz.infoReply
  have HX := Lib.hid hexit
  have HP := Lib.hid hp
  have c8 : w.cell? ⟨p, 10, none⟩ = some (.slice A n cp) := (hp.cell 10).trans hpc
  have lp : p < w.heap.size := hp.lt
  have lg : g5 < w.heap.size := hb.lt
  have k0 : w.cell? ⟨g5, 0, none⟩ = some (.int .i64 q1) := hb.cell 0
  have k1 : w.cell? ⟨g5, 1, none⟩ = some (.int .i64 0) := hb.cell 1
  have k2 : w.cell? ⟨g5, 2, none⟩ = some (.slice none 0 0) := hb.cell 2
  have k3 : w.cell? ⟨g5, 3, none⟩ = some (.slice none 0 0) := hb.cell 3
  have k4 : w.cell? ⟨g5, 4, none⟩ = some (.int .i64 0) := hb.cell 4
  have k5 : w.cell? ⟨g5, 5, none⟩ = some (.bool false) := hb.cell 5
  have k6 : w.cell? ⟨g5, 6, none⟩ = some (.int .i64 0) := hb.cell 6
  have k7 : w.cell? ⟨g5, 7, none⟩ = some (.int .i64 0) := hb.cell 7
  have k8 : w.cell? ⟨g5, 8, none⟩ = some (.int .i64 0) := hb.cell 8
  have k9 : w.cell? ⟨g5, 9, none⟩ = some (.int .i64 0) := hb.cell 9
  have k10 : w.cell? ⟨g5, 10, none⟩ = some (.int .i64 q2) := hb.cell 10
  have nb : Blk (w.alloc (.cells #[.int .i64 q1, .int .i64 0, .slice none 0 0, .slice none 0 0, .int .i64 0, .bool false, .int .i64 0, .int .i64 0, .int .i64 0, .int .i64 0, .int .i64 q2] 252)) w.heap.size 252 #[.int .i64 q1, .int .i64 0, .slice none 0 0, .slice none 0 0, .int .i64 0, .bool false, .int .i64 0, .int .i64 0, .int .i64 0, .int .i64 0, .int .i64 q2] := Blk.new w _ _
  have nA : ∀ j u, (replyC (q1, q2))[j]? = some u → (w.alloc (.cells #[.int .i64 q1, .int .i64 0, .slice none 0 0, .slice none 0 0, .int .i64 0, .bool false, .int .i64 0, .int .i64 0, .int .i64 0, .int .i64 0, .int .i64 q2] 252)).cell? ((⟨w.heap.size, 0, none⟩ : Addr).add j) = some u := fun j u hu => by
    rw [show (⟨w.heap.size, 0, none⟩ : Addr).add j = ⟨w.heap.size, j, none⟩ by unfold Addr.add; split <;> simp_all, nb.cell j, ← hu, ← Array.getElem?_toList]
    rfl
  have NA := Lib.hid (show ∀ j u, (replyC (q1, q2))[j]? = some u → (w.alloc (.cells #[.int .i64 q1, .int .i64 0, .slice none 0 0, .slice none 0 0, .int .i64 0, .bool false, .int .i64 0, .int .i64 0, .int .i64 0, .int .i64 0, .int .i64 q2] 252)).drew.cell? ((⟨w.heap.size, 0, none⟩ : Addr).add j) = some u from nA)
  have hownA : (w.alloc (.cells #[.int .i64 q1, .int .i64 0, .slice none 0 0, .slice none 0 0, .int .i64 0, .bool false, .int .i64 0, .int .i64 0, .int .i64 0, .int .i64 0, .int .i64 q2] 252)).ownsRow 0 252 11 (.slice A n cp) n (logC l) := hown.alloc _
  have OA := Lib.hid (show (w.alloc (.cells #[.int .i64 q1, .int .i64 0, .slice none 0 0, .slice none 0 0, .int .i64 0, .bool false, .int .i64 0, .int .i64 0, .int .i64 0, .int .i64 0, .int .i64 q2] 252)).drew.ownsRow 0 252 11 (.slice A n cp) n (logC l) from hownA)
  have hvp : (Value.slice A n cp).ownBlock ≠ some p := own_blk_ne hown hp (by decide)
  have HVP := Lib.hid hvp
  have hone : ∀ u ∈ replyC (q1, q2), u.oneCell' = true := by intro u hu; simp only [replyC, List.mem_cons, List.not_mem_nil, or_false] at hu; rcases hu with rfl | rfl | rfl | rfl | rfl | rfl | rfl | rfl | rfl | rfl | rfl <;> rfl
  have HO := Lib.hid hown
  have HLC := Lib.hid (show logC l ++ replyC (q1, q2) = logC (l ++ [(q1, q2)]) by simp [logC, List.flatMap_append])
  have HSZ := Lib.hid (show ((w.alloc (.cells #[.int .i64 q1, .int .i64 0, .slice none 0 0, .slice none 0 0, .int .i64 0, .bool false, .int .i64 0, .int .i64 0, .int .i64 0, .int .i64 0, .int .i64 q2] 252)).drew).heap.size = w.heap.size + 1 by show (w.alloc (.cells #[.int .i64 q1, .int .i64 0, .slice none 0 0, .slice none 0 0, .int .i64 0, .bool false, .int .i64 0, .int .i64 0, .int .i64 0, .int .i64 0, .int .i64 q2] 252)).heap.size = _; simp)
  have A4 := Lib.hid (show n + 1 ≤ maxLen by simp only [maxLen]; omega)
  have A5 := Lib.hid (show (n + 1) * 120 ≤ 140737488355328 by omega)
  clear hexit hp hpc hown hn hb nb nA hownA hvp
  conv => arg 2; whnf
  refine wp_region_noPanic ?_
  go_region_law (
    refine step_append_lies _ (by rfl) _ _ 80 (by rfl) 0 252 iB (.agg #[.int .i64 0, .int .i64 0, .slice none 0 0, .slice none 0 0, .int .i64 0, .bool false, .int .i64 0, .int .i64 0, .int .i64 0, .int .i64 0, .int .i64 0]) 11 120 Tryz.underlying80 hiB hB0 hB1 hB2 (by rfl) (by decide) (.slice A n cp) n (logC l) (by rfl) (by exact OA.out) ⟨w.heap.size, 0, none⟩ 1 1 (replyC (q1, q2)) (by rfl) (by rfl) (by exact NA.out) hone (by decide) A4.out A5.out (Nat.zero_le _) _ rfl ?_
    intro g1 cap1 w1 hown1 hgrow1 hat1 hlt1
    have hgw : w.grownBy w1 (Value.slice A n cp).ownBlock := grownOver hgrow1
    rw [HSZ.out] at hat1
    have P1 := Blk.grown HP.out hgw (fun e => HVP.out e.symm)
    have q1 : w1.cell? ⟨p, 10, none⟩ = some (.slice A n cp) := (P1.cell 10).trans ((HP.out.cell 10).symm.trans c8)
    have q2 : w1.frozen? ⟨p, 10, none⟩ = false := P1.frozen 10
    have q3 : p < w1.heap.size := P1.lt)
  all_goals
    refine HX.out _ _ _ _ _ _ _ _ _ _ _ (.slice (some ⟨g1, 0, none⟩) (n + 1) cap1) ?_ ?_ ?_ ?_
    · exact P1.set_ 10 _
    · rw [← HLC.out]
      exact ownsRow_setCell_other hown1 (fun e => by
        rcases hat1 with h1 | h1
        · exact HVP.out (h1.trans e)
        · simp [Value.ownBlock] at e; omega) _
    · refine ((Turns.refl _ w).grown hgw (fun k e _ => by simp [e])).setCell _ _ (fun _ => by simp)
    · rcases hat1 with h1 | h1
      · exact .inl h1.symm
      · exact .inr ⟨g1, rfl, by omega⟩

end Go.Proofs.YtffffjngodinnaaGreatDoor
end
