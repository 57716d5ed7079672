/-
  Parts of the proof.
-/
import Derived.Test.YtffffjngodinnaaGreatDoorV04
import Derived.Test.YtffffjngodinnaaGreatDoorV02
namespace Go.Proofs.YtffffjngodinnaaGreatDoor
section
set_option maxRecDepth 100000
open Go.RowKit Go.Maps
theorem TableOf.set {w : World} {b k : Nat} {D : Nat -> Value} (h : TableOf w b k D) (i : Nat) (hi : i < 16) (x : Value) : TableOf (w.setCell ⟨b, i + 1, none⟩ x) b k (fun j => if j = i then x else D j) := by
 have h1 := Blk.set_ h (i + 1) x
 unfold TableOf
 have e : (tableCells k D).setIfInBounds (i + 1) x = tableCells k (fun j => if j = i then x else D j) := by
  unfold tableCells
  apply Array.ext_getElem?
  intro j
  rw [List.setIfInBounds_toArray]
  cases j with
  | zero => simp
  | succ j =>
    by_cases hj : j = i
    · subst hj; simp [hi]
    · by_cases h16 : j < 16 <;> simp [h16, hj, show ¬ i = j from fun e => hj e.symm]
 rwa [e] at h1
set_option maxHeartbeats 1000000 in
theorem setPut (w : World) (b k : Nat) (D : Nat -> Value) (h : TableOf w b k D) (i : Nat) (hi : i < 16) (hD : D i = .nilIface) (t : TypeId) (x : Value) (Q : World -> Prop)
 (ht : Calls Tryz.prog 96 #[.pointer (some ⟨k, 0, none⟩), .iface t x] w fun e w' => e = .returned (.tuple #[]) /\ Q w') (hQ : ∀ w', Q w' -> w'.heap[b]? = w.heap[b]?) :
 Calls Tryz.prog 60 #[.pointer (some ⟨b, 0, none⟩), .int .i64 (i : Int), .iface t x] w fun e w' => e = .returned (.tuple #[]) /\ ∃ w1, Q w1 /\ w' = w1.setCell ⟨b, i + 1, none⟩ (.iface t x) := by
 have hc := h.fd i hi
 rw [hD] at hc
 have hc1 : w.cell? ⟨b, 1 + i, none⟩ = some .nilIface := by rwa [Nat.add_comm]
 have hk := h.kern
 go_enter Tryz.func60, Tryz.ntmps60
 go_wp2_with (go_at_call 96; refine ht.mono ?_; rintro e w1 ⟨rfl, hq⟩; have hT : TableOf w1 b k D := (hQ w1 hq).trans h; have hc2 : w1.cell? ⟨b, 1 + i, none⟩ = some .nilIface := (by rw [Nat.add_comm, hT.fd i hi, hD]); have hf := Blk.frozen hT (1 + i))
 go_returns
 exact ⟨rfl, _, hq, by rw [Nat.add_comm]⟩
set_option maxHeartbeats 1000000 in
theorem setNil (w : World) (b k : Nat) (D : Nat -> Value) (h : TableOf w b k D) (i : Nat) (hi : i < 16) (t : TypeId) (x : Value) (hD : D i = .iface t x) (Q : World -> Prop)
 (ht : Calls Tryz.prog 97 #[.pointer (some ⟨k, 0, none⟩), .iface t x] (w.setCell ⟨b, i + 1, none⟩ .nilIface) fun e w' => e = .returned (.tuple #[]) /\ Q w') :
 Calls Tryz.prog 60 #[.pointer (some ⟨b, 0, none⟩), .int .i64 (i : Int), .nilIface] w fun e w' => e = .returned (.tuple #[]) /\ Q w' := by
 have hc := h.fd i hi
 rw [hD] at hc
 have hc1 : w.cell? ⟨b, 1 + i, none⟩ = some (.iface t x) := by rwa [Nat.add_comm]
 have hf := Blk.frozen h (1 + i)
 have hk := h.kern
 rw [Nat.add_comm i 1] at ht
 go_enter Tryz.func60, Tryz.ntmps60
 go_wp2_with (go_at_call 97; refine ht.mono ?_; rintro e w1 ⟨rfl, hq⟩)
 go_returns
 exact ⟨rfl, hq⟩
set_option maxHeartbeats 1000000 in
theorem kPut (w : World) (b k : Nat) (K : KS) (D : Nat -> Value) (hK : KernOf w k K) (h : TableOf w b k D) (i : Nat) (hi : i < 16) (hD : D i = .nilIface) (n : Int) (hn : -9223372036854775808 <= n /\ n <= 9223372036854775807) (t : TypeId) (x : Value)
 (hx : K.tf (.int .i64 n) = some (.iface t x)) (has : ∀ W, (Instr.typeAssert (.iface t x) 146 151 true).run Tryz.prog W = .ok (.tuple #[.pointer none, .bool false]) W) (Q : World -> Prop)
 (ht : Calls Tryz.prog 96 #[.pointer (some ⟨k, 0, none⟩), .iface t x] w fun e w' => e = .returned (.tuple #[]) /\ Q w') (hQ : ∀ w', Q w' -> w'.heap[b]? = w.heap[b]?) :
 Calls Tryz.prog 29 #[.pointer (some ⟨b, 0, none⟩), .int .i64 (i : Int), .int .i64 n] w fun e w' => e = .returned (.int .i64 0) /\ ∃ w1, Q w1 /\ w' = w1.setCell ⟨b, i + 1, none⟩ (.iface t x) := by
 have hset := setPut w b k D h i hi hD t x Q ht hQ
 have hk := h.kern
 have c5 : w.cell? ⟨k, 5, none⟩ = some (.map (some K.tb)) := hK.blk.cell 5
 go_enter Tryz.func29, Tryz.ntmps29
 go_wp2_with (first | (go_at_call 60; refine hset.mono ?_; rintro e w1 ⟨rfl, w2, hq, rfl⟩) | (at_lookup; refine wpList_look_of _ rfl _ _ 135 rfl 3 146 intKeys Tryz.underlying135 .nilIface (by kernel_rfl) K.tb K.tn K.tf rfl hK.things _ (.int .i64 n) rfl (keyOf_int_mk Tryz.underlying3 (WalkArith.wf_i64 (by omega))) ?_; rw [hx]))
 go_returns
 exact ⟨rfl, _, hq, rfl⟩
end
section
set_option maxRecDepth 100000
open Go.RowKit Go.Maps
noncomputable def KS.adds (K : KS) (x : Value) : KS := { K with last := K.last + 1, tn := K.tn + 1, tf := upd K.tf (numK (K.last + 1)) (some x) }
theorem KernOf.below {w w' : World} {k : Nat} {K : KS} (h : KernOf w k K) (hb : Below w.heap.size w w') : KernOf w' k K := h.same fun b hm => hb.block b (h.foot_lt b hm)
theorem KernOf.alloc {w : World} {k : Nat} {K : KS} (h : KernOf w k K) (o : Obj) : KernOf (w.alloc o) k K := h.below ((Below.refl _ w).alloc (Nat.le_refl _) o)
set_option maxHeartbeats 1000000 in
theorem kSource (w : World) (k : Nat) (K : KS) (h : KernOf w k K) (h1 : K.last < 4611686018427387904) (h2 : K.tn < 4611686018427387904) (v : Value) (bs : List UInt8) (hb : Bytes w w.heap.size v bs) (hl : bs.length <= 140737488355328) :
 Calls Tryz.prog 30 #[.pointer (some ⟨k, 0, none⟩), v] w fun e w' => ∃ s u, e = .returned (.int .i64 ((K.last + 1 : Nat) : Int)) /\ w.heap.size <= s /\
  Blk w' s 159 #[u] /\ OffRow w' w.heap.size 5 u bs.length (bytesC bs) /\ KernOf w' k (K.adds (sourceV s)) /\ Turns [k, K.tb] w w' := by
 have hcl := cloneB w v bs hb hl
 go_enter Tryz.func30, Tryz.ntmps30
 go_wp2_with (first
  | (go_at_call 62; refine hcl.mono ?_; rintro e w1 ⟨u, rfl, hown, hbel⟩; obtain ⟨A, c, rfl, hc1, hc2, hrd⟩ := own_slice hown)
  | (go_at_call 61; refine (kAdd _ k K _ ((h.below hbel).alloc _) h1 h2).mono ?_; rintro e w2 ⟨rfl, hK2, hT2⟩))
 go_returns
 have hs : w1.heap.size ∉ [k, K.tb] := by
  have := h.blk.lt
  have := h.things.lt
  have := hbel.size
  simp only [List.mem_cons, List.not_mem_nil, or_false, not_or]
  omega
 refine ⟨w1.heap.size, .slice A bs.length c, rfl, hbel.size, ?_, ?_, hK2, ((Turns.of_below hbel).more (by simp)).alloc _ |>.trans hT2⟩
 · exact (hT2.block _ (by simp) hs).trans (Blk.new w1 _ _)
 · refine OffRow.of_own (ownsRow_same (hown.alloc _) fun g hg => hT2.block g ?_ ?_)
   · have := (hown.lt g hg).2
     simp; omega
   · have h1 := (hown.lt g hg).1
     have := h.blk.lt
     have := h.things.lt
     simp only [List.mem_cons, List.not_mem_nil, or_false, not_or]
     omega
set_option maxHeartbeats 1000000 in
theorem kTable (w : World) (k : Nat) :
 Calls Tryz.prog 58 #[.pointer (some ⟨k, 0, none⟩)] w fun e w' => e = .returned (.pointer (some ⟨w.heap.size, 0, none⟩)) /\ TableOf w' w.heap.size k (fun _ => .nilIface) /\ Below w.heap.size w w' := by
 go_enter Tryz.func58, Tryz.ntmps58
 go_wp2
 go_returns
 exact ⟨rfl, Blk.new w _ _, (Below.refl _ w).alloc (Nat.le_refl _) _⟩
end
end Go.Proofs.YtffffjngodinnaaGreatDoor
