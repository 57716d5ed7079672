/-
  Parts of the proof.
-/
import Derived.Test.YtffffjngodinnaaGreatDoorV07
import Derived.Test.YtffffjngodinnaaGreatDoorV06
namespace Go.Proofs.YtffffjngodinnaaGreatDoor
section
open Go.RowKit Go.Maps
def strsC (l : List ByteArray) : List Value := l.map .string
structure PS where
 k : Nat
 tb : Nat
 av : Value
 args : List ByteArray
 ev : Value
 env : List ByteArray
 cwd : ByteArray
 buf : Int
 line : Int
 run : Int
 held : Int
 peak : Int
 lv : Value
 log : List (Int × Int)
 at_ : Nat
 may : Bool
 top : Bool
 steps : Nat
 all : Nat
def replyC (q : Int × Int) : List Value := [.int .i64 q.1, .int .i64 0, .slice none 0 0, .slice none 0 0, .int .i64 0, .bool false, .int .i64 0, .int .i64 0, .int .i64 0, .int .i64 0, .int .i64 q.2]
def logC (l : List (Int × Int)) : List Value := l.flatMap replyC
def procCells (J : PS) : Array Value :=
 #[.pointer (some ⟨J.k, 0, none⟩), .pointer (some ⟨J.tb, 0, none⟩), J.av, J.ev, .string J.cwd, .int .i64 J.buf, .int .i64 J.line, .int .i64 J.run, .int .i64 J.held, .int .i64 J.peak, J.lv, .int .i64 (J.at_ : Int), .bool J.may, .bool J.top, .bool false, .int .i64 (J.steps : Int), .nilIface, .pointer (some ⟨J.all, 0, none⟩)]
structure ProcOf (w : World) (p : Nat) (J : PS) : Prop where
 blk : Blk w p 85 (procCells J)
 args : w.ownsRow 0 9 1 J.av J.args.length (strsC J.args)
 env : w.ownsRow 0 9 1 J.ev J.env.length (strsC J.env)
 log : w.ownsRow 0 252 11 J.lv J.log.length (logC J.log)
section
variable {w w' : World} {p : Nat} {J : PS}
def PS.foot (J : PS) (p : Nat) : List Nat := [p] ++ J.av.ownBlock.toList ++ J.ev.ownBlock.toList ++ J.lv.ownBlock.toList
theorem ProcOf.foot_lt (h : ProcOf w p J) : ∀ g ∈ J.foot p, g < w.heap.size := by
 intro g hg
 simp only [PS.foot, List.mem_append, List.mem_cons, List.not_mem_nil, or_false, Option.mem_toList] at hg
 rcases hg with ((rfl | hg) | hg) | hg
 · exact h.blk.lt
 · exact (h.args.lt _ hg).2
 · exact (h.env.lt _ hg).2
 · exact (h.log.lt _ hg).2
theorem ProcOf.same (h : ProcOf w p J) (hb : ∀ g ∈ J.foot p, w'.heap[g]? = w.heap[g]?) : ProcOf w' p J := by
 refine ⟨(hb p (by simp [PS.foot])).trans h.blk, ownsRow_same h.args fun g hg => hb g ?_, ownsRow_same h.env fun g hg => hb g ?_, ownsRow_same h.log fun g hg => hb g ?_⟩ <;> simp [PS.foot, hg]
theorem ProcOf.turns {S : List Nat} (h : ProcOf w p J) (ht : Turns S w w') (hS : ∀ g ∈ J.foot p, g ∉ S) : ProcOf w' p J := h.same fun g hg => ht.block g (h.foot_lt g hg) (hS g hg)
theorem ProcOf.below (h : ProcOf w p J) (hb : Below w.heap.size w w') : ProcOf w' p J := h.turns (Turns.of_below hb) (by simp)
theorem ProcOf.off {g : Nat} {t : TypeId} {cs : Array Value} (h : ProcOf w p J) (hg : Blk w g t cs) (h1 : t ≠ 85) (h2 : t ≠ 9) (h3 : t ≠ 252) : g ∉ J.foot p := by
 simp only [PS.foot, List.mem_append, List.mem_cons, List.not_mem_nil, or_false, Option.mem_toList, not_or]
 exact ⟨⟨⟨Blk.ne_ hg h.blk h1, fun e => own_blk_ne h.args hg h2.symm e⟩, fun e => own_blk_ne h.env hg h2.symm e⟩, fun e => own_blk_ne h.log hg h3.symm e⟩
end
end
section
set_option maxRecDepth 100000
open Go.RowKit Go.Maps
abbrev replyT : TypeId := 252
theorem blk11 {w : World} {g : Nat} {t : TypeId} {a0 a1 a2 a3 a4 a5 a6 a7 a8 a9 a10 : Value} (h : Blk w g t #[a0, a1, a2, a3, a4, a5, a6, a7, a8, a9, a10]) :
 w.cell? ⟨g, 0, none⟩ = some a0 /\ w.cell? ⟨g, 1, none⟩ = some a1 /\ w.cell? ⟨g, 2, none⟩ = some a2 /\ w.cell? ⟨g, 3, none⟩ = some a3 /\ w.cell? ⟨g, 4, none⟩ = some a4 /\ w.cell? ⟨g, 5, none⟩ = some a5 /\
 w.cell? ⟨g, 6, none⟩ = some a6 /\ w.cell? ⟨g, 7, none⟩ = some a7 /\ w.cell? ⟨g, 8, none⟩ = some a8 /\ w.cell? ⟨g, 9, none⟩ = some a9 /\ w.cell? ⟨g, 10, none⟩ = some a10 /\ g < w.heap.size :=
 ⟨h.cell 0, h.cell 1, h.cell 2, h.cell 3, h.cell 4, h.cell 5, h.cell 6, h.cell 7, h.cell 8, h.cell 9, h.cell 10, h.lt⟩
def replyZ : Array Value := #[.int .i64 0, .int .i64 0, .slice none 0 0, .slice none 0 0, .int .i64 0, .bool false, .int .i64 0, .int .i64 0, .int .i64 0, .int .i64 0, .int .i64 0]
set_option maxHeartbeats 2000000 in
theorem write1_any (w : World) (B0 B1 B2 p tb : Nat) (fd bv : Value) (cs : Array Value) (h0 : Blk w B0 46 #[.pointer (some ⟨p, 0, none⟩)]) (h1 : Blk w B1 3 #[fd]) (h2 : Blk w B2 23 #[bv])
 (hp : Blk w p 85 cs) (hc1 : cs[1]? = some (.pointer (some ⟨tb, 0, none⟩))) (n er : Int) (S : List Nat) (hS : ∀ g ∈ S, g < w.heap.size) (R : World -> Prop)
 (hw : ∀ W, Turns [] w W -> w.heap.size < W.heap.size -> Calls Tryz.prog 147 #[.pointer (some ⟨tb, 0, none⟩), fd, bv] W fun e w4 => e = .returned (.tuple #[.int .i64 n, .int .i64 er]) /\ Turns S W w4 /\ R w4) :
 Calls Tryz.prog 146 #[.pointer (some ⟨B0, 0, none⟩), .pointer (some ⟨B1, 0, none⟩), .pointer (some ⟨B2, 0, none⟩)] w fun e w' => e = .returned (.agg (replyC (n, er)).toArray) /\
  ∃ w4, R w4 /\ w' = (w4.setCell ⟨w.heap.size, 0, none⟩ (.int .i64 n)).setCell ⟨w.heap.size, 10, none⟩ (.int .i64 er) /\ Turns S w w4 := by
 have c0 : w.cell? ⟨B0, 0, none⟩ = some (.pointer (some ⟨p, 0, none⟩)) := h0.cell 0
 have c1 : w.cell? ⟨B1, 0, none⟩ = some fd := h1.cell 0
 have c2 : w.cell? ⟨B2, 0, none⟩ = some bv := h2.cell 0
 have cp : w.cell? ⟨p, 1, none⟩ = some (.pointer (some ⟨tb, 0, none⟩)) := (hp.cell 1).trans hc1
 have l0 := h0.lt
 have l1 := h1.lt
 have l2 := h2.lt
 have lp := hp.lt
 go_enter Tryz.func146, Tryz.ntmps146
 go_wp2
 obtain ⟨Z, hZ⟩ : ∃ Z, w.alloc (.cells replyZ replyT) = Z := ⟨_, rfl⟩
 have hzb : Blk Z w.heap.size replyT replyZ := by rw [<- hZ]; exact Blk.new w _ _
 have hTZ : Turns [] w Z := by rw [<- hZ]; exact (Turns.refl _ w).alloc _
 have hzs : w.heap.size < Z.heap.size := hzb.lt
 have d0 : Z.cell? ⟨B0, 0, none⟩ = some (.pointer (some ⟨p, 0, none⟩)) := (hTZ.cell l0 (by simp)).trans c0
 have d1 : Z.cell? ⟨B1, 0, none⟩ = some fd := (hTZ.cell l1 (by simp)).trans c1
 have d2 : Z.cell? ⟨B2, 0, none⟩ = some bv := (hTZ.cell l2 (by simp)).trans c2
 have dp : Z.cell? ⟨p, 1, none⟩ = some (.pointer (some ⟨tb, 0, none⟩)) := (hTZ.cell lp (by simp)).trans cp
 rw [show w.alloc (.cells #[.int .i64 0, .int .i64 0, .slice none 0 0, .slice none 0 0, .int .i64 0, .bool false, .int .i64 0, .int .i64 0, .int .i64 0, .int .i64 0, .int .i64 0] replyT) = Z from hZ]
 obtain ⟨g, hg⟩ : ∃ g, w.heap.size = g := ⟨_, rfl⟩
 rw [hg] at hzb hzs ⊢
 clear c0 c1 c2 cp hZ
 go_region_with (go_at_call 147; refine (hw _ hTZ.drew (by rw [hg]; exact hzs)).mono ?_; rintro e w4 ⟨rfl, hT4, hR4⟩; have b4 : Blk w4 g replyT replyZ := ((hT4.block g hzs (fun hm => by have := hS g hm; omega)).trans hzb); obtain ⟨x0, x1, x2, x3, x4, x5, x6, x7, x8, x9, x10, hl4⟩ := blk11 b4; have y0 := b4.frozen 0; have y10 := b4.frozen 10)
 all_goals
  go_wp2
  have b9 : Blk ((w4.setCell ⟨g, 0, none⟩ (.int .i64 n)).setCell ⟨g, 10, none⟩ (.int .i64 er)) g replyT #[.int .i64 n, .int .i64 0, .slice none 0 0, .slice none 0 0, .int .i64 0, .bool false, .int .i64 0, .int .i64 0, .int .i64 0, .int .i64 0, .int .i64 er] := (b4.set_ 0 _).set_ 10 _
  obtain ⟨z0, z1, z2, z3, z4, z5, z6, z7, z8, z9, z10, _⟩ := blk11 b9
  refine bodyPost_ret (v := .agg (replyC (n, er)).toArray) (by simp [results, Tryz.results146, go_sem, z0, z1, z2, z3, z4, z5, z6, z7, z8, z9, z10, replyC]) rfl ?_
  exact ⟨rfl, w4, hR4, by rw [hg], (hTZ.more (by simp)).trans ((Turns.refl _ Z).drew.trans hT4)⟩
end
end Go.Proofs.YtffffjngodinnaaGreatDoor
