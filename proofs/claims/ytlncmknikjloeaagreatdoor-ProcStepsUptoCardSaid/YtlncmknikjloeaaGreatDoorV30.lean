/-
  Parts of the proof: A walk over tree.parts: the parts of a path, one by one; A walk over tree.leads: from an item along a path.
-/
import Derived.Test.YtlncmknikjloeaaGreatDoorChecked
import Derived.Test.YtlncmknikjloeaaGreatDoorV28
import Derived.WalkKit
import Derived.WalkSpells
import Derived.WalkLawsBesides
import Derived.Lib.Hide
import Derived.Handy
import Derived.RangeFuncNested
import Derived.RangeFuncBound
import Derived.RangeFuncCalls
import Derived.RangeFuncLeaves
import Derived.RangeFuncBox
import Derived.Shelf.Abstract
import Derived.Shelf.RegionOpen
import Derived.OwnWalkIn
import Derived.TacticsInMore
import Derived.LoopNIn
import Derived.LoopIn
import Derived.BigFrameIn
import Derived.Deep.LoopGhost
import Derived.Sort.LoopGhostIn
import Derived.BigGuardIn
import Derived.Test.YtlncmknikjloeaaGreatDoorV07
import Derived.Test.YtlncmknikjloeaaGreatDoorV29
import Derived.Maps.OwnOps

section
namespace Go.Proofs.YtlncmknikjloeaaGreatDoor
open Go.RowKit
attribute [local go_sem] Oper.semAt_some

/-- all cells stand as they stood, but for those of a few blocks -/
def KeepCells (S : List Nat) (W W' : World) : Prop := W.heap.size ≤ W'.heap.size ∧ ∀ g o, W.heap[g]? = some o → o.isCells = true → g ∉ S → W'.heap[g]? = some o
theorem KeepCells.refl (S : List Nat) (W : World) : KeepCells S W W := ⟨Nat.le_refl _, fun _ _ h _ _ => h⟩
theorem KeepCells.trans {S : List Nat} {A B C : World} (h : KeepCells S A B) (k : KeepCells S B C) : KeepCells S A C := ⟨Nat.le_trans h.1 k.1, fun g o hg ho hS => k.2 g o (h.2 g o hg ho hS) ho hS⟩
theorem KeepCells.putObj {S : List Nat} (W : World) (l : Nat) (o o' : Obj) (h : W.heap[l]? = some o) (hc : o.isCells = false) : KeepCells S W (W.putObj l o') := by
  refine ⟨by have := (grownBy_putObj' W l o').size; exact this, fun g x hg hx _ => ?_⟩
  by_cases e : g = l
  · subst e; rw [h] at hg; cases hg; rw [hc] at hx; cases hx
  · exact (World.putObj_heap_other e).trans hg
theorem KeepCells.alloc (S : List Nat) (W : World) (o : Obj) : KeepCells S W (W.alloc o) := ⟨by simp, fun g x hg _ _ => (Below.heap_alloc W o g (Array.getElem?_eq_some_iff.1 hg).1).trans hg⟩
theorem KeepCells.setCell {S : List Nat} (W : World) (p : Addr) (v : Value) (hp : p.block ∈ S) : KeepCells S W (W.setCell p v) :=
  ⟨by simp [World.setCell], fun g x hg _ hS => (Below.heap_setCell W p v g (by rintro rfl; exact hS hp)).trans hg⟩
theorem KeepCells.boxed {S : List Nat} {W W' : World} {b : Nat} {t : TypeId} {v : Value} (h : KeepCells S W W') (hb : Boxed W b t v) (hS : b ∉ S) : Boxed W' b t v := h.2 b _ hb rfl hS
theorem KeepCells.blk {S : List Nat} {W W' : World} {b : Nat} {t : TypeId} {cs : Array Value} (h : KeepCells S W W') (hb : Blk W b t cs) (hS : b ∉ S) : Blk W' b t cs := h.2 b _ hb rfl hS

/-- the parts, as strings -/
def partsB (s : ByteArray) : List ByteArray := (Abs.parts s.data.toList).map fun l => ⟨l.toArray⟩
theorem partsB_segs (s : ByteArray) : partsB s = (segsB s).filter fun b => !b.toList.isEmpty := by
  unfold partsB segsB Abs.parts
  rw [List.filter_map]
  congr 1
  refine List.filter_congr fun l _ => ?_
  simp [Lib.toList_data]
/-- the parts among the first k pieces -/
def partsTo (s : ByteArray) (k : Nat) : List ByteArray := ((segsB s).take k).filter fun b => !b.toList.isEmpty
theorem partsTo_succ {s : ByteArray} {k : Nat} (h : k < (segsB s).length) : partsTo s (k + 1) = partsTo s k ++ if (segsB s)[k].toList.isEmpty then [] else [(segsB s)[k]] := by
  unfold partsTo
  rw [List.take_succ_eq_append_getElem h, List.filter_append]
  congr 1
  by_cases hc : (segsB s)[k].toList.isEmpty <;> simp [hc]
theorem partsTo_all (s : ByteArray) : partsTo s (segsB s).length = partsB s := by rw [partsB_segs, partsTo, List.take_length]
theorem partsTo_le (s : ByteArray) (k : Nat) : (partsTo s k).length ≤ (partsB s).length := by
  rw [partsB_segs, partsTo]
  exact ((List.take_sublist k _).filter _).length_le
theorem partsTo_prefix (s : ByteArray) (k : Nat) : ∃ j, partsTo s k = (partsB s).take j := by
  have h : (segsB s) = (segsB s).take k ++ (segsB s).drop k := (List.take_append_drop k _).symm
  refine ⟨(partsTo s k).length, ?_⟩
  rw [partsB_segs]
  conv => rhs; rw [h, List.filter_append]
  unfold partsTo
  simp
theorem segs_len (l : List UInt8) : (Abs.segs l).length = l.count 47 + 1 := by
  induction l with
  | nil => rfl
  | cons c l ih =>
    unfold Abs.segs
    split
    · rename_i h; subst h; simp [ih]
    · rename_i h
      rw [List.count_cons_of_ne h]
      cases hs : Abs.segs l with
      | nil => rw [hs] at ih; simp at ih
      | cons a b => rw [hs] at ih; simpa using ih
theorem segsB_len (s : ByteArray) : (segsB s).length ≤ s.size + 1 := by
  unfold segsB
  rw [List.length_map, segs_len]
  have := List.count_le_length (a := (47 : UInt8)) (l := s.data.toList)
  have e : s.data.toList.length = s.size := rfl
  omega
/-- what the iterator yields -/
def encStr (x : ByteArray) : Array Value := #[.string x]

set_option maxRecDepth 100000 in
set_option maxHeartbeats 2000000 in
theorem parts1_in (F : Fence) (n : Nat) (h1 : F.fn 138) (h2 : F.fn 99) (hW2 : ∀ {args w R}, Calls Tryz.prog 99 args w R → CallsIn F (n - 1) Tryz.prog 99 args w R) (hro : F.round = none) (hn : 1 ≤ n) (lp Bs : Nat) (s : ByteArray) (hs : s.size < 1073741824) (Kp : World → World → Prop) (Off : World → Nat → Prop) (hKO : ∀ A B g, Kp A B → Off A g → B.heap[g]? = A.heap[g]? ∧ Off B g)
    (J Jx : List ByteArray → World → Prop) (W : World) (hJ : AbidesFrom W.heap.size J) (hO : ∀ cs t, Off (W.alloc (.cells cs t)) W.heap.size) (hBs : Boxed W Bs 9 (.string s))
    (hY : ∀ pre x W1, J pre W1 → pre.length < (partsB s).length → YieldAt F (n - 1) Tryz.prog lp (encStr x) W1 fun e W' =>
      (e = .returned (.bool true) ∧ J (pre ++ [x]) W' ∧ Kp W1 W') ∨ (e = .returned (.bool false) ∧ Jx (pre ++ [x]) W'))
    (h0 : J [] W) :
    CallsIn F n Tryz.prog 138 #[.func (.yield lp) #[] #[], .pointer (some ⟨Bs, 0, none⟩)] W fun e W' => (∃ v, e = .returned v) ∧
      ((∃ ys, ys = partsB s ∧ J ys W') ∨ (∃ pre, (∃ k, pre = (partsB s).take k) ∧ Jx pre W')) := by
  have hcB := hBs.cell
  have hsl := segsB_len s
  refine callsIn_of_wp Tryz.func138 rfl h1 ?_ hro
  simp only [Tryz.ntmps138, List.size_toArray, List.length_cons, List.length_nil, Nat.reduceAdd, Nat.reduceSub, Array.replicate_succ, Array.replicate_zero, List.push_toArray, List.append_toArray, List.nil_append, List.cons_append]
  gi_wp2_with (gi_at_call 99; refine (hW2 (splitSlash s _ (by omega))).mono ?_; rintro e w1 ⟨rfl, rfl⟩)
  have hbk : Blk (W.alloc (.cells ((segsB s).map Value.string).toArray 9)) W.heap.size 9 ((segsB s).map Value.string).toArray := Blk.new W _ _
  have hJ0 : J [] (W.alloc (.cells ((segsB s).map Value.string).toArray 9)) := hJ _ _ _ none h0 (World.grownBy_alloc W _ none) (fun r e => by cases e)
  have hnS := hO ((segsB s).map Value.string).toArray 9
  obtain ⟨W0, hW0⟩ : ∃ W0, W.alloc (.cells ((segsB s).map Value.string).toArray 9) = W0 := ⟨_, rfl⟩
  rw [hW0] at hbk hJ0 hnS ⊢
  clear hW0
  obtain ⟨r, hr⟩ : ∃ r, W.heap.size = r := ⟨_, rfl⟩
  rw [hr] at hbk hnS ⊢
  clear hr
  have HKO := Lib.hid hKO
  have hY' := Lib.hid hY
  have hJ' := Lib.hid hJ
  clear hY hJ hKO hO
  have hto := Lib.hid (partsTo_all s)
  obtain ⟨N, hN⟩ : ∃ N, (segsB s).length = N := ⟨_, rfl⟩
  have HN := Lib.hid hN
  rw [hN] at hsl ⊢
  clear hN
  gi_loopw [8] (fun i wr => ∃ k : Nat, k ≤ N ∧ i = .int .i64 k ∧ J (partsTo s k) wr ∧ Blk wr r 9 ((segsB s).map Value.string).toArray ∧ Hid (Off wr r)) (fun i _ => N - (intOf i).toNat)
  case atStart => exact ⟨0, Nat.zero_le _, rfl, hJ0, hbk, Lib.hid hnS⟩
  case round =>
    obtain ⟨k, hk, rfl, hJk, hbl, hof⟩ := hrel
    by_cases hlt : k < N
    · have hlt' : k < (segsB s).length := by rw [HN.out]; exact hlt
      obtain ⟨x, hx⟩ : ∃ x, (segsB s)[k] = x := ⟨_, rfl⟩
      have hce : wr.cell? ⟨r, k, none⟩ = some (.string x) := by
        rw [hbl.cell]
        simp [← hx, hlt']
      have hsu := partsTo_succ hlt'
      rw [hx] at hsu
      by_cases he : x.toList.isEmpty = true
      · rw [if_pos he, List.append_nil] at hsu
        have HS := Lib.hid hsu
        clear hsu hx
        gi_wp2
        refine ⟨fun f hf => (by cases hf), ?_⟩
        gi_wp2
        go_roundw
        case rel => exact ⟨k + 1, by omega, by go_num, by rw [HS.out]; exact hJk, hbl, hof⟩
        case measure => simp [intOf]; omega
      · rw [if_neg he] at hsu
        have he' : x.toList.isEmpty = false := by simpa using he
        have HS := Lib.hid hsu
        have hpl : (partsTo s k).length < (partsB s).length := by
          have h1 := partsTo_le s (k + 1)
          rw [hsu] at h1
          rw [List.length_append, List.length_singleton] at h1
          omega
        obtain ⟨fn, tmps, assign, body, hy, hRr⟩ := hY'.out _ x wr hJk hpl
        simp only [encStr] at hy
        clear hsu hx hpl
        gi_wp2
        refine hRr.mono ?_
        rintro e W3 (⟨rfl, hJ3, hk3⟩ | ⟨rfl, hJx3⟩)
        · have hb3 : Blk W3 r 9 _ := (HKO.out _ _ r hk3 hof.out).1.trans hbl
          have hof3 := Lib.hid (HKO.out _ _ r hk3 hof.out).2
          gi_wp2
          go_roundw
          case rel => exact ⟨k + 1, by omega, by go_num, by rw [HS.out]; exact hJ3, hb3, hof3⟩
          case measure => simp [intOf]; omega
        · obtain ⟨j, hj⟩ := partsTo_prefix s (k + 1)
          rw [HS.out] at hj
          have HJ := Lib.hid hj
          clear hj
          gi_wp2
          refine bodyPost_ret (results_none rfl _ _ _) rfl ?_
          exact ⟨⟨_, rfl⟩, .inr ⟨_, ⟨j, HJ.out⟩, hJx3⟩⟩
    · obtain rfl : k = N := by omega
      gi_wp2
      go_end0
      exact ⟨⟨_, rfl⟩, .inl ⟨_, rfl, by rw [← hto.out, HN.out]; exact hJk⟩⟩

theorem parts1_stopsK (F : Fence) (n : Nat) (h1 : F.fn 138) (h2 : F.fn 99) (hW2 : ∀ {args w R}, Calls Tryz.prog 99 args w R → CallsIn F (n - 1) Tryz.prog 99 args w R) (hro : F.round = none) (hn : 1 ≤ n) (Bs : Nat) (s : ByteArray) (hs : s.size < 1073741824)
    (Kp : World → World → Prop) (Off : World → Nat → Prop) (hKO : ∀ A B g, Kp A B → Off A g → B.heap[g]? = A.heap[g]? ∧ Off B g)
    (w : World) (hO : ∀ W, Below w.heap.size w W → ∀ cs t, Off (W.alloc (.cells cs t)) W.heap.size) (hBs : Boxed w Bs 9 (.string s)) :
    SeqStopsK F n Tryz.prog 138 #[.pointer (some ⟨Bs, 0, none⟩)] encStr Kp (fun ys => ys = partsB s) (fun pre => ∃ k, pre = (partsB s).take k) (partsB s).length w := fun lp J Jx W hW hJ _ hY h0 =>
  parts1_in F n h1 h2 hW2 hro hn lp Bs s hs Kp Off hKO J Jx W hJ (hO W hW) (show W.heap[Bs]? = _ from (hW.block Bs hBs.lt).trans hBs) hY h0

theorem parts1_stops (F : Fence) (n : Nat) (h1 : F.fn 138) (h2 : F.fn 99) (hW2 : ∀ {args w R}, Calls Tryz.prog 99 args w R → CallsIn F (n - 1) Tryz.prog 99 args w R) (hro : F.round = none) (hn : 1 ≤ n) (Bs : Nat) (s : ByteArray) (hs : s.size < 1073741824) (S : List Nat)
    (w : World) (hS : ∀ g ∈ S, g < w.heap.size) (hBs : Boxed w Bs 9 (.string s)) :
    SeqStopsK F n Tryz.prog 138 #[.pointer (some ⟨Bs, 0, none⟩)] encStr (KeepCells S) (fun ys => ys = partsB s) (fun pre => ∃ k, pre = (partsB s).take k) (partsB s).length w :=
  parts1_stopsK F n h1 h2 hW2 hro hn Bs s hs (KeepCells S) (fun W g => (∃ t cs, Blk W g t cs) ∧ g ∉ S)
    (fun A B g hk ⟨⟨t, cs, hb⟩, hg⟩ => ⟨(hk.blk hb hg).trans (show A.heap[g]? = _ from hb).symm, ⟨t, cs, hk.blk hb hg⟩, hg⟩) w
    (fun W hW cs t => ⟨⟨t, cs, Blk.new W t cs⟩, fun h => by have := hS _ h; have := hW.size; omega⟩) hBs

set_option maxHeartbeats 1000000 in
theorem parts_in (F : Fence) (n : Nat) (h : F.fn 123) (hro : F.round = none) (s : ByteArray) (w : World) :
    CallsIn F n Tryz.prog 123 #[.string s] w fun e w' => e = .returned (.func (.func 138) #[] #[.pointer (some ⟨w.heap.size, 0, none⟩)]) ∧ w' = w.alloc (.cells #[.string s] 9) := by
  refine callsIn_of_wp Tryz.func123 rfl h ?_ hro
  simp only [Tryz.ntmps123, List.size_toArray, List.length_cons, List.length_nil, Nat.reduceAdd, Nat.reduceSub, Array.replicate_succ, Array.replicate_zero, List.push_toArray, List.append_toArray, List.nil_append, List.cons_append]
  gi_wp2
  go_ret
  exact ⟨rfl, rfl⟩

end Go.Proofs.YtlncmknikjloeaaGreatDoor
end

section
namespace Go.Proofs.YtlncmknikjloeaaGreatDoor
open Go.RowKit Go.Maps
attribute [local go_sem] Oper.semAt_some

/-- a path's first parts, as lists of bytes -/
def plainL (l : List ByteArray) : List Abs.Name := l.map (·.data.toList)
theorem plainL_parts (s : ByteArray) : plainL (partsB s) = Abs.parts s.data.toList := by simp [plainL, partsB, Function.comp_def]
/-- what leads answers -/
def leadsV (β : Nat → Nat) : Except Nat Nat → Value
  | .ok j => .tuple #[ptrV (β j), .int .i64 0]
  | .error e => .tuple #[.pointer none, .int .i64 (e : Int)]
theorem stringKeys : Keyed Tryz.prog 9 := string_keyed Tryz.underlying9

theorem leads_append {t : Abs.T} : ∀ (l m : List Abs.Name) (i : Nat), t.leads i (l ++ m) = match t.leads i l with | .ok j => t.leads j m | .error e => .error e := by
  intro l
  induction l with
  | nil => intro m i; simp [Abs.T.leads]
  | cons p ps ih =>
    intro m i
    rw [List.cons_append, Abs.T.leads_cons, Abs.T.leads_cons]
    cases t.step i p with
    | error e => rfl
    | ok j => exact ih m j
theorem leads_snoc {t : Abs.T} (l : List Abs.Name) (p : Abs.Name) (i j : Nat) (h : t.leads i l = .ok j) : t.leads i (l ++ [p]) = t.step j p := by
  rw [leads_append, h]
  show t.leads j [p] = _
  rw [Abs.T.leads_cons]
  cases t.step j p <;> rfl
theorem leads_stop {t : Abs.T} (l : List Abs.Name) (k i e : Nat) (h : t.leads i (l.take k) = .error e) : t.leads i l = .error e := by
  conv => lhs; rw [← List.take_append_drop k l]
  rw [leads_append, h]

theorem Boxed_below {W W' : World} {B b : Nat} {t : TypeId} {v : Value} (h : Boxed W b t v) (hb : Below B W W') (hlt : b < B) : Boxed W' b t v := (hb.block b hlt).trans h

theorem boxed_row {W W' : World} {row : Option Nat} {b : Nat} {t : TypeId} {v : Value} (h : Boxed W b t v) (hg : W.grownBy W' row) (hr : ∀ r, row = some r → ∃ o : Obj, W.heap[r]? = some o ∧ o.isCells = false) : Boxed W' b t v :=
  h.kept hg (fun e => by obtain ⟨o, ho, hc⟩ := hr b e.symm; rw [show W.heap[b]? = _ from h] at ho; cases ho; cases hc)

theorem keepCells_below {W W' : World} (S : List Nat) (hb : Below W.heap.size W W') : KeepCells S W W' := ⟨hb.size, fun g _ hg _ _ => (hb.block g (Array.getElem?_eq_some_iff.1 hg).1).trans hg⟩
theorem keyOf_str (x : ByteArray) (h : x.size ≤ maxLen) : keyOf Tryz.prog 9 (.string x) = some (.string x.data.toList) := by
  simp [keyOf, mapKey, Tryz.underlying9, h]
theorem named_size {x : ByteArray} (h : Abs.named x.data.toList = true) : x.size ≤ 32 := by
  unfold Abs.named at h
  simp only [Bool.and_eq_true, decide_eq_true_eq] at h
  exact h.1.1.1.2

set_option maxRecDepth 100000 in
set_option maxHeartbeats 4000000 in
theorem leads_wide (w : World) (t : Nat) (S : TS) (T : Abs.T) (β : Nat → Nat) (h : TreeIs w t S T β) (i0 : Nat) (hi0 : ∃ x, T.get i0 = some x) (path : ByteArray) (hp : path.size < 1073741824) :
    CallsIn Fence.wide 4 Tryz.prog 104 #[ptrV t, ptrV (β i0), .string path] w fun e w' => e = .returned (leadsV β (T.leads i0 (Abs.parts path.data.toList))) ∧ Below w.heap.size w w' := by
  refine callsIn_of_wp_marks Tryz.func104 rfl trivial ?_ rfl
  simp only [Tryz.ntmps104, List.size_toArray, List.length_cons, List.length_nil, Nat.reduceAdd, Nat.reduceSub, Array.replicate_succ, Array.replicate_zero, List.push_toArray, List.append_toArray, List.nil_append, List.cons_append]
  unfold ptrV
  have f112 : Fence.wide.fn 123 := trivial
  have f105 : Fence.wide.fn 100 := trivial
  gi_wp2_with (gi_at_call 123; refine (parts_in Fence.wide 3 trivial rfl path _).mono ?_; rintro e w' ⟨rfl, rfl⟩)
  have b4 := (((Boxed.new w 73 (.pointer (some ⟨β i0, 0, none⟩))).alloc (.cells #[.pointer none] 73)).alloc (.cells #[.int .i64 0] 35)).alloc (.cells #[.string path] 9)
  have b6 := ((Boxed.new (w.alloc (.cells #[.pointer (some ⟨β i0, 0, none⟩)] 73)) 73 (.pointer none)).alloc (.cells #[.int .i64 0] 35)).alloc (.cells #[.string path] 9)
  have b7 := (Boxed.new ((w.alloc (.cells #[.pointer (some ⟨β i0, 0, none⟩)] 73)).alloc (.cells #[.pointer none] 73)) 35 (.int .i64 0)).alloc (.cells #[.string path] 9)
  have bP := Boxed.new (((w.alloc (.cells #[.pointer (some ⟨β i0, 0, none⟩)] 73)).alloc (.cells #[.pointer none] 73)).alloc (.cells #[.int .i64 0] 35)) 9 (.string path)
  simp only [World.size_alloc] at b6 b7 bP
  have hB0 : Below w.heap.size w ((((w.alloc (.cells #[.pointer (some ⟨β i0, 0, none⟩)] 73)).alloc (.cells #[.pointer none] 73)).alloc (.cells #[.int .i64 0] 35)).alloc (.cells #[.string path] 9)) :=
    ((((Below.refl _ w).alloc (Nat.le_refl _) _).alloc (by simp) _).alloc (by simp; omega) _).alloc (by simp; omega) _
  have hsz : ((((w.alloc (.cells #[.pointer (some ⟨β i0, 0, none⟩)] 73)).alloc (.cells #[.pointer none] 73)).alloc (.cells #[.int .i64 0] 35)).alloc (.cells #[.string path] 9)).heap.size = w.heap.size + 1 + 1 + 1 + 1 := by simp
  obtain ⟨W0, hW0⟩ : ∃ W0, (((w.alloc (.cells #[.pointer (some ⟨β i0, 0, none⟩)] 73)).alloc (.cells #[.pointer none] 73)).alloc (.cells #[.int .i64 0] 35)).alloc (.cells #[.string path] 9) = W0 := ⟨_, rfl⟩
  rw [hW0] at b4 b6 b7 bP hB0 hsz ⊢
  clear hW0
  have hstops := parts1_stops Fence.wide 3 trivial trivial (fun h => callsIn_wide.2 h) rfl (by omega) (w.heap.size + 1 + 1 + 1) path hp [w.heap.size] W0 (by simp; omega) bP
  refine wpIn_rangeFunc_ownH rfl (by omega) (gf := 138) (lb := #[.pointer (some ⟨w.heap.size + 1 + 1 + 1, 0, none⟩)]) rfl trivial (enters_of Tryz.func138 (by kernel_rfl) rfl)
    hstops KeepCells.trans (fun W l o o' _ hl hc _ => KeepCells.putObj W l o o' hl hc) (Below.refl _ _) (fun _ => rfl)
    (fun pre W => (∃ i, T.leads i0 (plainL pre) = .ok i ∧ (∃ x, T.get i = some x) ∧ Boxed W w.heap.size 73 (.pointer (some ⟨β i, 0, none⟩))) ∧ Boxed W (w.heap.size + 1) 73 (.pointer none) ∧ Boxed W (w.heap.size + 1 + 1) 35 (.int .i64 0) ∧ Below w.heap.size w W)
    (fun k pre W => (k = .ret ∧ ∃ e : Nat, T.leads i0 (plainL pre) = .error e ∧ Boxed W (w.heap.size + 1) 73 (.pointer none) ∧ Boxed W (w.heap.size + 1 + 1) 35 (.int .i64 (e : Int))) ∧ Below w.heap.size w W)
    ?own ?ownx ?start
    (fun x a' _ => a' = { tmps := #[Value.pointer (some ⟨t, 0, none⟩), Value.pointer (some ⟨β i0, 0, none⟩), .string path, undef, .pointer (some ⟨w.heap.size, 0, none⟩), undef, .pointer (some ⟨w.heap.size + 1, 0, none⟩), .pointer (some ⟨w.heap.size + 1 + 1, 0, none⟩), .string x, undef, undef, .string path, .func (.func 138) #[] #[.pointer (some ⟨w.heap.size + 1 + 1 + 1, 0, none⟩)], .string x, undef, undef, undef, undef, undef, undef, undef, undef, undef, undef, undef, undef, undef, undef, undef, undef, undef, undef, undef, undef, undef, undef, undef, undef, undef, undef, undef, undef, undef, undef, undef, undef, undef], defers := [] })
    (fun x a' s X Y row hs hg hr => hs)
    ?assign ?body ?done ?stop
  case own =>
    rintro pre X Y row ⟨⟨i, h1, h2, h3⟩, h4, h5, h6⟩ hg hr
    exact ⟨⟨i, h1, h2, boxed_row h3 hg fun r e => (hr r e).2⟩, boxed_row h4 hg fun r e => (hr r e).2, boxed_row h5 hg fun r e => (hr r e).2, h6.grown hg h6.size fun r e => (hr r e).1 |> Nat.le_trans hB0.size⟩
  case ownx =>
    rintro k pre X Y row ⟨⟨hk, e, h1, h4, h5⟩, h6⟩ hg hr
    exact ⟨⟨hk, e, h1, boxed_row h4 hg fun r e => (hr r e).2, boxed_row h5 hg fun r e => (hr r e).2⟩, h6.grown hg h6.size fun r e => (hr r e).1 |> Nat.le_trans hB0.size⟩
  case start => exact ⟨⟨i0, rfl, hi0, b4⟩, b6, b7, hB0⟩
  case assign =>
    rintro lp pre x W K hI hK
    simp only [encStr]
    gi_wp2
    exact hK _ _ (KeepsFrom.refl _ _) (KeepCells.refl _ _) hI rfl
  case body =>
    rintro lp pre x a' W hlp _ ⟨⟨i, hi, ⟨z, hz⟩, c4⟩, c6, c7, hBw⟩ rfl hlt
    obtain ⟨y, hy, by0, _, _, _, hyd, _, hdir, _, _⟩ := h.at_ hz
    have byW : Blk W (β i) 76 (itemCells y) := by0.below hBw by0.lt
    have k3 : W.cell? ⟨β i, 3, none⟩ = some (.bool y.dir) := byW.cell 3
    have k5 : W.cell? ⟨β i, 5, none⟩ = some (.map (if y.dir then some y.nb else none)) := byW.cell 5
    have k6 : W.cell? ⟨β i, 6, none⟩ = some (.pointer (if y.dir then some ⟨y.up, 0, none⟩ else none)) := byW.cell 6
    have g4 := c4.cell
    have l4 := c4.lt
    have f4 := c4.frozen
    have g6 := c6.cell
    have f6 := c6.frozen
    have g7 := c7.cell
    have f7 := c7.frozen
    have hsn := leads_snoc (t := T) (plainL pre) x.data.toList i0 i hi
    have hpx : plainL (pre ++ [x]) = plainL pre ++ [x.data.toList] := by simp [plainL]
    rw [← hpx] at hsn
    have HS := Lib.hid hsn
    have HI := Lib.hid hi
    have HB := Lib.hid hBw
    clear hi hsn hpx hsz hBw
    have kret : ∀ (e : Nat), T.step i x.data.toList = .error e → (KeepsFrom W0.heap.size W ((W.setCell ⟨w.heap.size + 1, 0, none⟩ (.pointer none)).setCell ⟨w.heap.size + 1 + 1, 0, none⟩ (.int .i64 (e : Int)))) := fun e _ => KeepsFrom.trans ((KeepsOthers.setCell _ _ _).from _) ((KeepsOthers.setCell _ _ _).from _)
    by_cases hd : z.dir = true
    · rw [hd] at hyd
      rw [hyd] at k3 k5 k6
      simp only [if_true] at k5 k6
      obtain ⟨hnf, hup⟩ := hdir hd
      by_cases h1 : x.data.toList = Abs.dot
      · have hst : T.step i x.data.toList = .ok i := by simp [Abs.T.step, hz, hd, h1]
        have h1' : x.toList = [46] := by rw [Lib.toList_data]; exact h1
        clear h1
        gi_wp2
        exact ⟨KeepsFrom.refl _ _, KeepCells.refl _ _, ⟨i, by rw [HS.out, hst], ⟨z, hz⟩, c4⟩, c6, c7, HB.out⟩
      by_cases h2 : x.data.toList = Abs.dotdot
      · have hst : T.step i x.data.toList = .ok z.up := by simp [Abs.T.step, hz, hd, h2, Abs.dot, Abs.dotdot]
        have h1' : ¬ x.toList = [46] := by rw [Lib.toList_data]; exact h1
        have h2' : x.toList = [46, 46] := by rw [Lib.toList_data]; exact h2
        clear h1 h2
        rw [hup] at k6
        gi_wp2
        exact ⟨(KeepsOthers.setCell _ _ _).from _, KeepCells.setCell _ _ _ (by simp), ⟨z.up, by rw [HS.out, hst], h.wf.step_live hz hst, c4.set _⟩, c6.other (by omega) _, c7.other (by omega) _, HB.out.setCell (p := ⟨w.heap.size, 0, none⟩) (by simp) _⟩
      have h1' : (x.toList == [46]) = false := beq_eq_false_iff_ne.2 (by rw [Lib.toList_data]; exact h1)
      have h2' : (x.toList == [46, 46]) = false := beq_eq_false_iff_ne.2 (by rw [Lib.toList_data]; exact h2)
      have hnd := fun w2 => named_any x w2
      cases hn : Abs.named x.data.toList with
      | false =>
        have hst : T.step i x.data.toList = .error 13 := by simp [Abs.T.step, hz, hd, h1, h2, hn]
        rw [hn] at hnd
        clear h1 h2
        gi_wp2_with (gi_at_call 100; refine (callsIn_wide.2 (hnd _)).mono ?_; rintro e w2 ⟨rfl, hb⟩; have c62 := Boxed_below c6 hb c6.lt; have c72 := Boxed_below c7 hb c7.lt; have g6 := c62.cell; have f6 := c62.frozen; have g7 := c72.cell; have f7 := c72.frozen)
        exact ⟨(KeepsFrom.trans (KeepsFrom.of_grownBy (only_of_below hb none) (fun j e => by cases e)) (KeepsFrom.trans ((KeepsOthers.setCell _ _ _).from _) ((KeepsOthers.setCell _ _ _).from _))), ⟨rfl, 13, by rw [HS.out, hst], (c62.set _).other (by omega) _, (c72.other (by omega) _).set _⟩, ((HB.out.trans (hb.mono HB.out.size)).setCell (p := ⟨w.heap.size + 1, 0, none⟩) (by simp) _).setCell (p := ⟨w.heap.size + 1 + 1, 0, none⟩) (by simp; omega) _⟩
      | true =>
        rw [hn] at hnd
        have hm := ((h.mem.item _ _ hy).2.2 hyd).1
        have hL := fun w2 (hb : Below W.heap.size W w2) => MapOf.look (hm.same (w' := w2) ((hb.block _ (Nat.lt_of_lt_of_le hm.lt HB.out.size)).trans (HB.out.block _ hm.lt))) stringKeys Tryz.underlying74 (show (zeroValue 73).run Tryz.prog w2 = .ok (.pointer none) w2 from by kernel_rfl) (key := .string x) (kl := .string x.data.toList) (keyOf_str x (by have := named_size hn; unfold maxLen; omega))
        have hns : namesF y.nf (.string x.data.toList) = ((Abs.lk z.names x.data.toList).map β).map ptrV := by show (y.nf _).map ptrV = _; rw [hnf]
        rw [hns] at hL
        cases hlk : Abs.lk z.names x.data.toList with
        | none =>
          have hst : T.step i x.data.toList = .error 1 := by simp [Abs.T.step, hz, hd, h1, h2, hn, hlk]
          rw [hlk] at hL
          simp only [Option.map_none, Option.getD_none, Option.isSome_none] at hL
          have HL := Lib.hid hL
          clear h1 h2 hL hns
          gi_wp2_with (gi_at_call 100; refine (callsIn_wide.2 (hnd _)).mono ?_; rintro e w2 ⟨rfl, hb⟩; have hl2 := HL.out w2 hb; have c42 := (Boxed_below c4 hb c4.lt).cell; have k52 := (hb.cell (p := ⟨β i, 5, none⟩) byW.lt).trans k5; have c62 := Boxed_below c6 hb c6.lt; have c72 := Boxed_below c7 hb c7.lt; have g6 := c62.cell; have f6 := c62.frozen; have g7 := c72.cell; have f7 := c72.frozen)
          exact ⟨(KeepsFrom.trans (KeepsFrom.of_grownBy (only_of_below hb none) (fun j e => by cases e)) (KeepsFrom.trans ((KeepsOthers.setCell _ _ _).from _) ((KeepsOthers.setCell _ _ _).from _))), ⟨rfl, 1, by rw [HS.out, hst], (c62.set _).other (by omega) _, (c72.other (by omega) _).set _⟩, ((HB.out.trans (hb.mono HB.out.size)).setCell (p := ⟨w.heap.size + 1, 0, none⟩) (by simp) _).setCell (p := ⟨w.heap.size + 1 + 1, 0, none⟩) (by simp; omega) _⟩
        | some j =>
          have hst : T.step i x.data.toList = .ok j := by simp [Abs.T.step, hz, hd, h1, h2, hn, hlk]
          rw [hlk] at hL
          simp only [Option.map_some, Option.getD_some, Option.isSome_some, ptrV] at hL
          have HL := Lib.hid hL
          clear h1 h2 hL hns
          gi_wp2_with (gi_at_call 100; refine (callsIn_wide.2 (hnd _)).mono ?_; rintro e w2 ⟨rfl, hb⟩; have hl2 := HL.out w2 hb; have b42 := Boxed_below c4 hb c4.lt; have c42 := b42.cell; have f42 := b42.frozen; have k52 := (hb.cell (p := ⟨β i, 5, none⟩) byW.lt).trans k5; have c62 := Boxed_below c6 hb c6.lt; have c72 := Boxed_below c7 hb c7.lt)
          exact ⟨KeepsFrom.trans (KeepsFrom.of_grownBy (only_of_below hb none) (fun j e => by cases e)) ((KeepsOthers.setCell _ _ _).from _), KeepCells.trans (keepCells_below _ hb) (KeepCells.setCell _ _ _ (by simp)), ⟨j, by rw [HS.out, hst], h.wf.step_live hz hst, b42.set _⟩, c62.other (by omega) _, c72.other (by omega) _, (HB.out.trans (hb.mono HB.out.size)).setCell (p := ⟨w.heap.size, 0, none⟩) (by simp) _⟩
    · have hd' : z.dir = false := by simpa using hd
      rw [hd'] at hyd
      rw [hyd] at k3
      have hst : T.step i x.data.toList = .error 3 := by simp [Abs.T.step, hz, hd']
      gi_wp2
      exact ⟨kret 3 hst, ⟨rfl, 3, by rw [HS.out, hst], (c6.set _).other (by omega) _, (c7.other (by omega) _).set _⟩, (HB.out.setCell (p := ⟨w.heap.size + 1, 0, none⟩) (by simp) _).setCell (p := ⟨w.heap.size + 1 + 1, 0, none⟩) (by simp; omega) _⟩
  case done =>
    rintro D ys W hD rfl ⟨⟨i, hi, _, c4⟩, c6, c7, hBw⟩ hK
    have g4 := c4.cell
    have g6 := c6.cell
    have f6 := c6.frozen
    have g7 := c7.cell
    have f7 := c7.frozen
    have hDw : w.heap.size ≤ D := Nat.le_trans hB0.size hD
    have HI := Lib.hid hi
    clear hi hsz
    gi_wp2
    have h1' := (c6.set (.pointer (some ⟨β i, 0, none⟩))).other (B' := w.heap.size + 1 + 1) (by omega) (.int .i64 0)
    have h2' := (c7.other (B' := w.heap.size + 1) (by omega) (.pointer (some ⟨β i, 0, none⟩))).set (.int .i64 0)
    have hK' := (KeepsOthers.trans (KeepsOthers.setCell W ⟨w.heap.size + 1, 0, none⟩ (.pointer (some ⟨β i, 0, none⟩))) (KeepsOthers.setCell _ ⟨w.heap.size + 1 + 1, 0, none⟩ (.int .i64 0))).same D _ hK rfl
    refine ⟨by simp, .inl ⟨_, _, rfl, run_takeDeferred hK', ?_⟩⟩
    have r1 := cell_kept h1'.cell (grownBy_putObj' _ D (.deferred none)) (fun r e => by cases e; exact ⟨_, hK', rfl⟩)
    have r2 := cell_kept h2'.cell (grownBy_putObj' _ D (.deferred none)) (fun r e => by cases e; exact ⟨_, hK', rfl⟩)
    refine ⟨.tuple #[.pointer (some ⟨β i, 0, none⟩), .int .i64 0], ?_, by rw [← plainL_parts, HI.out]; rfl, ((hBw.setCell (p := ⟨w.heap.size + 1, 0, none⟩) (by simp) _).setCell (p := ⟨w.heap.size + 1 + 1, 0, none⟩) (by simp; omega) _).trans (belowK_b (w := w) (Nat.le_refl _) _ D _ _ hDw hK' rfl rfl)⟩
    simp [results, Tryz.f104, go_sem, r1, r2]
  case stop =>
    rintro D k pre W hD ⟨k', rfl⟩ ⟨⟨rfl, e, he, c6, c7⟩, hBw⟩ hK
    have hDw : w.heap.size ≤ D := Nat.le_trans hB0.size hD
    gi_wp2
    refine ⟨by simp, .inl ⟨_, _, rfl, run_takeDeferred hK, ?_⟩⟩
    have r1 := cell_kept c6.cell (grownBy_putObj' _ D (.deferred none)) (fun r e => by cases e; exact ⟨_, hK, rfl⟩)
    have r2 := cell_kept c7.cell (grownBy_putObj' _ D (.deferred none)) (fun r e => by cases e; exact ⟨_, hK, rfl⟩)
    have hfin : T.leads i0 (Abs.parts path.data.toList) = .error e := by
      rw [← plainL_parts]
      refine leads_stop _ k' _ _ ?_
      rw [← he]
      simp [plainL, List.map_take]
    refine ⟨.tuple #[.pointer none, .int .i64 (e : Int)], ?_, by rw [hfin]; rfl, hBw.trans (belowK_b (w := w) (Nat.le_refl _) _ D _ _ hDw hK rfl rfl)⟩
    simp [results, Tryz.f104, go_sem, r1, r2]

theorem leads_any (w : World) (t : Nat) (S : TS) (T : Abs.T) (β : Nat → Nat) (h : TreeIs w t S T β) (i0 : Nat) (hi0 : ∃ x, T.get i0 = some x) (path : ByteArray) (hp : path.size < 1073741824) :
    Calls Tryz.prog 104 #[.pointer (some ⟨t, 0, none⟩), .pointer (some ⟨β i0, 0, none⟩), .string path] w fun e w' => e = .returned (leadsV β (T.leads i0 (Abs.parts path.data.toList))) ∧ Below w.heap.size w w' :=
  callsIn_wide.1 (leads_wide w t S T β h i0 hi0 path hp)

end Go.Proofs.YtlncmknikjloeaaGreatDoor
end
