/-
  Parts of the proof.
-/
import Derived.Test.YtffffjngodinnaaGreatDoorV31
import Derived.Test.YtffffjngodinnaaGreatDoorV30
import Derived.Test.YtffffjngodinnaaGreatDoorV11
section
namespace Go.Proofs.YtffffjngodinnaaGreatDoor.Abs
def lkN : List (Nat × Nat) -> Nat -> Option Nat
 | [], _ => none
 | (j, v) :: m, i => if i = j then some v else lkN m i
def nums (t : T) (i : Nat) (m : List (Nat × Nat)) (j : Nat) : List (Nat × Nat) := if t.isDir j || (lkN m j).isSome then m else m ++ [(j, i + 1)]
def inoOf (t : T) (m : List (Nat × Nat)) (j : Nat) : Int := if t.isDir j then 0 else ((lkN m j).getD 0 : Nat)
def nodeOf (t : T) (m : List (Nat × Nat)) (a : List UInt8 × Nat) : Nd := match t.get a.2 with
 | none => ⟨a.1, false, 0, 0, 0, []⟩
 | some x => ⟨a.1, x.dir, x.mode, x.tick, inoOf t m a.2, x.data⟩
def dumpGo (t : T) : Nat -> List (Nat × Nat) -> List (List UInt8 × Nat) -> List Nd
 | _, _, [] => []
 | i, m, a :: l => nodeOf t (nums t i m a.2) a :: dumpGo t (i + 1) (nums t i m a.2) l
def T.dump (t : T) : List Nd := dumpGo t 0 [] (sortT (t.walkN 12 1 []))
structure NumsOk (t : T) (i : Nat) (m : List (Nat × Nat)) : Prop where
 live : ∀ q ∈ m, ∃ x, t.get q.1 = some x
 ge : ∀ q ∈ m, 1 <= q.2 /\ q.2 <= i
theorem NumsOk.nil (t : T) : NumsOk t 0 [] := ⟨fun _ h => (by cases h), fun _ h => (by cases h)⟩
theorem NumsOk.step {t : T} {i : Nat} {m : List (Nat × Nat)} (h : NumsOk t i m) {j : Nat} (hj : ∃ x, t.get j = some x) : NumsOk t (i + 1) (nums t i m j) := by
 unfold nums
 split
 · exact ⟨h.live, fun q hq => ⟨(h.ge q hq).1, Nat.le_succ_of_le (h.ge q hq).2⟩⟩
 · refine ⟨fun q hq => ?_, fun q hq => ?_⟩
   · rcases List.mem_append.1 hq with hq | hq
     · exact h.live q hq
     · rw [List.mem_singleton] at hq; subst hq; exact hj
   · rcases List.mem_append.1 hq with hq | hq
     · exact ⟨(h.ge q hq).1, Nat.le_succ_of_le (h.ge q hq).2⟩
     · rw [List.mem_singleton] at hq; subst hq; exact ⟨Nat.succ_le_succ (Nat.zero_le _), Nat.le_refl _⟩
theorem lkN_mem {m : List (Nat × Nat)} {j v : Nat} (h : lkN m j = some v) : (j, v) ∈ m := by
 induction m with
 | nil => cases h
 | cons q m ih =>
   obtain ⟨k, u⟩ := q
   unfold lkN at h
   split at h
   · rename_i e; subst e; cases h; simp
   · exact List.mem_cons_of_mem _ (ih h)
theorem lkN_snoc {m : List (Nat × Nat)} {j v : Nat} (h : lkN m j = none) : lkN (m ++ [(j, v)]) j = some v := by
 induction m with
 | nil => simp [lkN]
 | cons q m ih =>
   obtain ⟨k, u⟩ := q
   unfold lkN at h
   rw [List.cons_append]
   unfold lkN
   split at h
   · cases h
   · rename_i e
     rw [if_neg e]
     exact ih h
end Go.Proofs.YtffffjngodinnaaGreatDoor.Abs
end
section
namespace Go.Proofs.YtffffjngodinnaaGreatDoor
open Go.RowKit Go.Maps
structure NodeIt where
 path : ByteArray
 dir : Bool
 mode : Int
 tick : Int
 ino : Int
 A : Option Addr
 c : Nat
 data : List UInt8
def NodeIt.dv (n : NodeIt) : Value := .slice n.A n.data.length n.c
def nodeC (n : NodeIt) : List Value := [.string n.path, .bool n.dir, .int .i64 n.mode, .int .i64 n.tick, .int .i64 n.ino, n.dv]
def nodesC (l : List NodeIt) : List Value := l.flatMap nodeC
def NodeIt.nd (n : NodeIt) : Abs.Nd := ⟨n.path.data.toList, n.dir, n.mode, n.tick, n.ino, n.data⟩
theorem nodesC_len (l : List NodeIt) : (nodesC l).length = l.length * 6 := flatMap_len (enc := nodeC) (k := 6) (fun _ => rfl) l
theorem nodesC_at {l : List NodeIt} {i : Nat} {n : NodeIt} (h : l[i]? = some n) (j : Nat) (hj : j < 6) : (nodesC l)[i * 6 + j]? = (nodeC n)[j]? := flatMap_at (enc := nodeC) (k := 6) (fun _ => rfl) l i j n h hj
theorem nodesC_snoc (l : List NodeIt) (n : NodeIt) : nodesC (l ++ [n]) = nodesC l ++ nodeC n := by simp [nodesC]
theorem Tryz.infoNode : (Tryz.prog.info? 111).map (fun i => (i.zero, i.size, i.bytes)) = some (some (.agg #[.string ⟨#[]⟩, .bool false, .int .i64 0, .int .i64 0, .int .i64 0, .slice none 0 0]), 6, 72) := by kernel_rfl
def loopsAt : Code -> List Code
 | .loop c => [c]
 | .seq a b => loopsAt a ++ loopsAt b
 | .block _ c => loopsAt c
 | .scope c => loopsAt c
 | .cond _ a b => loopsAt a ++ loopsAt b
 | _ => []
structure NodesOwn (w : World) (B : Nat) (v : Value) (l : List NodeIt) : Prop where
 row : w.ownsRow B 111 6 v l.length (nodesC l)
 data : ∀ n ∈ l, w.ownsRow B 5 1 n.dv n.data.length (bytesC n.data)
theorem NodesOwn.below {w w' : World} {B : Nat} {v : Value} {l : List NodeIt} (h : NodesOwn w B v l) (hb : Below w.heap.size w w') : NodesOwn w' B v l := ⟨own_on h.row hb, fun n hn => own_on (h.data n hn) hb⟩
theorem NodesOwn.le {w : World} {B B' : Nat} {v : Value} {l : List NodeIt} (h : NodesOwn w B v l) (hB : B' <= B) : NodesOwn w B' v l := ⟨Joins.ownsRow_le h.row hB, fun n hn => Joins.ownsRow_le (h.data n hn) hB⟩
theorem NodesOwn.nil (w : World) (B : Nat) : NodesOwn w B (.slice none 0 0) [] := ⟨World.ownsRow_nil _ _ _ _, fun _ h => (by cases h)⟩
theorem own_ne {w : World} {B n size g : Nat} {e t : TypeId} {v : Value} {xs : List Value} (h : w.ownsRow B e size v n xs) {cs : Array Value} (hg : Blk w g t cs) (hne : e ≠ t) : v.ownBlock ≠ some g := by
 rcases h.2 with ⟨rfl, _⟩ | ⟨g', cap, cur, rfl, _, hb, _⟩
 · simp [Value.ownBlock]
 · intro e1
   have : g' = g := by simpa [Value.ownBlock] using e1
   subst this
   have h2 := (show w.heap[g']? = _ from hb).symm.trans hg
   injection h2 with h2
   injection h2 with _ h2
   exact hne h2
theorem own_grown {w w' : World} {B n size : Nat} {e : TypeId} {v : Value} {xs : List Value} (h : w.ownsRow B e size v n xs) {row : Option Nat} (hg : w.grownBy w' row) (hne : ∀ r, row = some r -> v.ownBlock ≠ some r) : w'.ownsRow B e size v n xs :=
 ownsRow_same h fun g hv => hg.block g (h.lt g hv).2 (fun e => hne g e.symm hv)
end Go.Proofs.YtffffjngodinnaaGreatDoor
end
