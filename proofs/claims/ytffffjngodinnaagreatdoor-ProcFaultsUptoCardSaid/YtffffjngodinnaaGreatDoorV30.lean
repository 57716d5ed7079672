/-
  Parts of the proof: A walk over tree.parts: the parts of a path, one by one; A walk over tree.leads: from an item along a path; Walks over tree.from, look, Find, Stat; A walk over slices.Collect of a path's parts.
-/
import Derived.Test.YtffffjngodinnaaGreatDoorChecked
import Derived.Test.YtffffjngodinnaaGreatDoorV29
import Derived.WalkKit
import Derived.WalkSpells
import Derived.WalkLawsBesides
import Derived.Lib.Hide
import Derived.Handy
import Derived.RangeFuncNested
import Derived.RangeFuncBound
import Derived.RangeFuncCalls
import Derived.RangeFuncLeaves
import Derived.RangeFuncBox
import Derived.Shelf.Abstract
import Derived.Shelf.RegionOpen
import Derived.OwnWalkIn
import Derived.TacticsInMore
import Derived.LoopNIn
import Derived.LoopIn
import Derived.BigFrameIn
import Derived.Deep.LoopGhost
import Derived.Sort.LoopGhostIn
import Derived.BigGuardIn
import Derived.Test.YtffffjngodinnaaGreatDoorV09
import Derived.Maps.OwnOps
import Derived.StillTailTactics
import Derived.Deep.RegionWith
import Derived.Deep.RegionHeld3
import Derived.Test.YtffffjngodinnaaGreatDoorV08
import Derived.Test.YtffffjngodinnaaGreatDoorV12
import Derived.Test.YtffffjngodinnaaGreatDoorV04
import Derived.Stop.RegionWithIn

section
namespace Go.Proofs.YtffffjngodinnaaGreatDoor
open Go.RowKit
attribute [local go_sem] Oper.semAt_some

/-- all cells stand as they stood, but for those of a few blocks -/
def KeepCells (S : List Nat) (W W' : World) : Prop := W.heap.size ≤ W'.heap.size ∧ ∀ g o, W.heap[g]? = some o → o.isCells = true → g ∉ S → W'.heap[g]? = some o
theorem KeepCells.refl (S : List Nat) (W : World) : KeepCells S W W := ⟨Nat.le_refl _, fun _ _ h _ _ => h⟩
theorem KeepCells.trans {S : List Nat} {A B C : World} (h : KeepCells S A B) (k : KeepCells S B C) : KeepCells S A C := ⟨Nat.le_trans h.1 k.1, fun g o hg ho hS => k.2 g o (h.2 g o hg ho hS) ho hS⟩
theorem KeepCells.putObj {S : List Nat} (W : World) (l : Nat) (o o' : Obj) (h : W.heap[l]? = some o) (hc : o.isCells = false) : KeepCells S W (W.putObj l o') := by
  refine ⟨by have := (grownBy_putObj' W l o').size; exact this, fun g x hg hx _ => ?_⟩
  by_cases e : g = l
  · subst e; rw [h] at hg; cases hg; rw [hc] at hx; cases hx
  · exact (World.putObj_heap_other e).trans hg
theorem KeepCells.alloc (S : List Nat) (W : World) (o : Obj) : KeepCells S W (W.alloc o) := ⟨by simp, fun g x hg _ _ => (Below.heap_alloc W o g (Array.getElem?_eq_some_iff.1 hg).1).trans hg⟩
theorem KeepCells.setCell {S : List Nat} (W : World) (p : Addr) (v : Value) (hp : p.block ∈ S) : KeepCells S W (W.setCell p v) :=
  ⟨by simp [World.setCell], fun g x hg _ hS => (Below.heap_setCell W p v g (by rintro rfl; exact hS hp)).trans hg⟩
theorem KeepCells.boxed {S : List Nat} {W W' : World} {b : Nat} {t : TypeId} {v : Value} (h : KeepCells S W W') (hb : Boxed W b t v) (hS : b ∉ S) : Boxed W' b t v := h.2 b _ hb rfl hS
theorem KeepCells.blk {S : List Nat} {W W' : World} {b : Nat} {t : TypeId} {cs : Array Value} (h : KeepCells S W W') (hb : Blk W b t cs) (hS : b ∉ S) : Blk W' b t cs := h.2 b _ hb rfl hS

/-- the parts, as strings -/
def partsB (s : ByteArray) : List ByteArray := (Abs.parts s.data.toList).map fun l => ⟨l.toArray⟩
theorem partsB_segs (s : ByteArray) : partsB s = (segsB s).filter fun b => !b.toList.isEmpty := by
  unfold partsB segsB Abs.parts
  rw [List.filter_map]
  congr 1
  refine List.filter_congr fun l _ => ?_
  simp [Lib.toList_data]
/-- the parts among the first k pieces -/
def partsTo (s : ByteArray) (k : Nat) : List ByteArray := ((segsB s).take k).filter fun b => !b.toList.isEmpty
theorem partsTo_succ {s : ByteArray} {k : Nat} (h : k < (segsB s).length) : partsTo s (k + 1) = partsTo s k ++ if (segsB s)[k].toList.isEmpty then [] else [(segsB s)[k]] := by
  unfold partsTo
  rw [List.take_succ_eq_append_getElem h, List.filter_append]
  congr 1
  by_cases hc : (segsB s)[k].toList.isEmpty <;> simp [hc]
theorem partsTo_all (s : ByteArray) : partsTo s (segsB s).length = partsB s := by rw [partsB_segs, partsTo, List.take_length]
theorem partsTo_le (s : ByteArray) (k : Nat) : (partsTo s k).length ≤ (partsB s).length := by
  rw [partsB_segs, partsTo]
  exact ((List.take_sublist k _).filter _).length_le
theorem partsTo_prefix (s : ByteArray) (k : Nat) : ∃ j, partsTo s k = (partsB s).take j := by
  have h : (segsB s) = (segsB s).take k ++ (segsB s).drop k := (List.take_append_drop k _).symm
  refine ⟨(partsTo s k).length, ?_⟩
  rw [partsB_segs]
  conv => rhs; rw [h, List.filter_append]
  unfold partsTo
  simp
theorem segs_len (l : List UInt8) : (Abs.segs l).length = l.count 47 + 1 := by
  induction l with
  | nil => rfl
  | cons c l ih =>
    unfold Abs.segs
    split
    · rename_i h; subst h; simp [ih]
    · rename_i h
      rw [List.count_cons_of_ne h]
      cases hs : Abs.segs l with
      | nil => rw [hs] at ih; simp at ih
      | cons a b => rw [hs] at ih; simpa using ih
theorem segsB_len (s : ByteArray) : (segsB s).length ≤ s.size + 1 := by
  unfold segsB
  rw [List.length_map, segs_len]
  have := List.count_le_length (a := (47 : UInt8)) (l := s.data.toList)
  have e : s.data.toList.length = s.size := rfl
  omega
/-- what the iterator yields -/
def encStr (x : ByteArray) : Array Value := #[.string x]

set_option maxRecDepth 100000 in
set_option maxHeartbeats 2000000 in
theorem parts1_in (F : Fence) (n : Nat) (h1 : F.fn 178) (h2 : F.fn 121) (hW2 : ∀ {args w R}, Calls Tryz.prog 121 args w R → CallsIn F (n - 1) Tryz.prog 121 args w R) (hro : F.round = none) (hn : 1 ≤ n) (lp Bs : Nat) (s : ByteArray) (hs : s.size < 1073741824) (Kp : World → World → Prop) (Off : World → Nat → Prop) (hKO : ∀ A B g, Kp A B → Off A g → B.heap[g]? = A.heap[g]? ∧ Off B g)
    (J Jx : List ByteArray → World → Prop) (W : World) (hJ : AbidesFrom W.heap.size J) (hO : ∀ cs t, Off (W.alloc (.cells cs t)) W.heap.size) (hBs : Boxed W Bs 9 (.string s))
    (hY : ∀ pre x W1, J pre W1 → pre.length < (partsB s).length → YieldAt F (n - 1) Tryz.prog lp (encStr x) W1 fun e W' =>
      (e = .returned (.bool true) ∧ J (pre ++ [x]) W' ∧ Kp W1 W') ∨ (e = .returned (.bool false) ∧ Jx (pre ++ [x]) W'))
    (h0 : J [] W) :
    CallsIn F n Tryz.prog 178 #[.func (.yield lp) #[] #[], .pointer (some ⟨Bs, 0, none⟩)] W fun e W' => (∃ v, e = .returned v) ∧
      ((∃ ys, ys = partsB s ∧ J ys W') ∨ (∃ pre, (∃ k, pre = (partsB s).take k) ∧ Jx pre W')) := by
  have hcB := hBs.cell
  have hsl := segsB_len s
  refine callsIn_of_wp Tryz.func178 rfl h1 ?_ hro
  simp only [Tryz.ntmps178, List.size_toArray, List.length_cons, List.length_nil, Nat.reduceAdd, Nat.reduceSub, Array.replicate_succ, Array.replicate_zero, List.push_toArray, List.append_toArray, List.nil_append, List.cons_append]
  gi_wp2_with (gi_at_call 121; refine (hW2 (splitSlash s _ (by omega))).mono ?_; rintro e w1 ⟨rfl, rfl⟩)
  have hbk : Blk (W.alloc (.cells ((segsB s).map Value.string).toArray 9)) W.heap.size 9 ((segsB s).map Value.string).toArray := Blk.new W _ _
  have hJ0 : J [] (W.alloc (.cells ((segsB s).map Value.string).toArray 9)) := hJ _ _ _ none h0 (World.grownBy_alloc W _ none) (fun r e => by cases e)
  have hnS := hO ((segsB s).map Value.string).toArray 9
  obtain ⟨W0, hW0⟩ : ∃ W0, W.alloc (.cells ((segsB s).map Value.string).toArray 9) = W0 := ⟨_, rfl⟩
  rw [hW0] at hbk hJ0 hnS ⊢
  clear hW0
  obtain ⟨r, hr⟩ : ∃ r, W.heap.size = r := ⟨_, rfl⟩
  rw [hr] at hbk hnS ⊢
  clear hr
  have HKO := Lib.hid hKO
  have hY' := Lib.hid hY
  have hJ' := Lib.hid hJ
  clear hY hJ hKO hO
  have hto := Lib.hid (partsTo_all s)
  obtain ⟨N, hN⟩ : ∃ N, (segsB s).length = N := ⟨_, rfl⟩
  have HN := Lib.hid hN
  rw [hN] at hsl ⊢
  clear hN
  gi_loopw [8] (fun i wr => ∃ k : Nat, k ≤ N ∧ i = .int .i64 k ∧ J (partsTo s k) wr ∧ Blk wr r 9 ((segsB s).map Value.string).toArray ∧ Hid (Off wr r)) (fun i _ => N - (intOf i).toNat)
  case atStart => exact ⟨0, Nat.zero_le _, rfl, hJ0, hbk, Lib.hid hnS⟩
  case round =>
    obtain ⟨k, hk, rfl, hJk, hbl, hof⟩ := hrel
    by_cases hlt : k < N
    · have hlt' : k < (segsB s).length := by rw [HN.out]; exact hlt
      obtain ⟨x, hx⟩ : ∃ x, (segsB s)[k] = x := ⟨_, rfl⟩
      have hce : wr.cell? ⟨r, k, none⟩ = some (.string x) := by
        rw [hbl.cell]
        simp [← hx, hlt']
      have hsu := partsTo_succ hlt'
      rw [hx] at hsu
      by_cases he : x.toList.isEmpty = true
      · rw [if_pos he, List.append_nil] at hsu
        have HS := Lib.hid hsu
        clear hsu hx
        gi_wp2
        refine ⟨fun f hf => (by cases hf), ?_⟩
        gi_wp2
        go_roundw
        case rel => exact ⟨k + 1, by omega, by go_num, by rw [HS.out]; exact hJk, hbl, hof⟩
        case measure => simp [intOf]; omega
      · rw [if_neg he] at hsu
        have he' : x.toList.isEmpty = false := by simpa using he
        have HS := Lib.hid hsu
        have hpl : (partsTo s k).length < (partsB s).length := by
          have h1 := partsTo_le s (k + 1)
          rw [hsu] at h1
          rw [List.length_append, List.length_singleton] at h1
          omega
        obtain ⟨fn, tmps, assign, body, hy, hRr⟩ := hY'.out _ x wr hJk hpl
        simp only [encStr] at hy
        clear hsu hx hpl
        gi_wp2
        refine hRr.mono ?_
        rintro e W3 (⟨rfl, hJ3, hk3⟩ | ⟨rfl, hJx3⟩)
        · have hb3 : Blk W3 r 9 _ := (HKO.out _ _ r hk3 hof.out).1.trans hbl
          have hof3 := Lib.hid (HKO.out _ _ r hk3 hof.out).2
          gi_wp2
          go_roundw
          case rel => exact ⟨k + 1, by omega, by go_num, by rw [HS.out]; exact hJ3, hb3, hof3⟩
          case measure => simp [intOf]; omega
        · obtain ⟨j, hj⟩ := partsTo_prefix s (k + 1)
          rw [HS.out] at hj
          have HJ := Lib.hid hj
          clear hj
          gi_wp2
          refine bodyPost_ret (results_none rfl _ _ _) rfl ?_
          exact ⟨⟨_, rfl⟩, .inr ⟨_, ⟨j, HJ.out⟩, hJx3⟩⟩
    · obtain rfl : k = N := by omega
      gi_wp2
      go_end0
      exact ⟨⟨_, rfl⟩, .inl ⟨_, rfl, by rw [← hto.out, HN.out]; exact hJk⟩⟩

theorem parts1_stopsK (F : Fence) (n : Nat) (h1 : F.fn 178) (h2 : F.fn 121) (hW2 : ∀ {args w R}, Calls Tryz.prog 121 args w R → CallsIn F (n - 1) Tryz.prog 121 args w R) (hro : F.round = none) (hn : 1 ≤ n) (Bs : Nat) (s : ByteArray) (hs : s.size < 1073741824)
    (Kp : World → World → Prop) (Off : World → Nat → Prop) (hKO : ∀ A B g, Kp A B → Off A g → B.heap[g]? = A.heap[g]? ∧ Off B g)
    (w : World) (hO : ∀ W, Below w.heap.size w W → ∀ cs t, Off (W.alloc (.cells cs t)) W.heap.size) (hBs : Boxed w Bs 9 (.string s)) :
    SeqStopsK F n Tryz.prog 178 #[.pointer (some ⟨Bs, 0, none⟩)] encStr Kp (fun ys => ys = partsB s) (fun pre => ∃ k, pre = (partsB s).take k) (partsB s).length w := fun lp J Jx W hW hJ _ hY h0 =>
  parts1_in F n h1 h2 hW2 hro hn lp Bs s hs Kp Off hKO J Jx W hJ (hO W hW) (show W.heap[Bs]? = _ from (hW.block Bs hBs.lt).trans hBs) hY h0

theorem parts1_stops (F : Fence) (n : Nat) (h1 : F.fn 178) (h2 : F.fn 121) (hW2 : ∀ {args w R}, Calls Tryz.prog 121 args w R → CallsIn F (n - 1) Tryz.prog 121 args w R) (hro : F.round = none) (hn : 1 ≤ n) (Bs : Nat) (s : ByteArray) (hs : s.size < 1073741824) (S : List Nat)
    (w : World) (hS : ∀ g ∈ S, g < w.heap.size) (hBs : Boxed w Bs 9 (.string s)) :
    SeqStopsK F n Tryz.prog 178 #[.pointer (some ⟨Bs, 0, none⟩)] encStr (KeepCells S) (fun ys => ys = partsB s) (fun pre => ∃ k, pre = (partsB s).take k) (partsB s).length w :=
  parts1_stopsK F n h1 h2 hW2 hro hn Bs s hs (KeepCells S) (fun W g => (∃ t cs, Blk W g t cs) ∧ g ∉ S)
    (fun A B g hk ⟨⟨t, cs, hb⟩, hg⟩ => ⟨(hk.blk hb hg).trans (show A.heap[g]? = _ from hb).symm, ⟨t, cs, hk.blk hb hg⟩, hg⟩) w
    (fun W hW cs t => ⟨⟨t, cs, Blk.new W t cs⟩, fun h => by have := hS _ h; have := hW.size; omega⟩) hBs

set_option maxHeartbeats 1000000 in
theorem parts_in (F : Fence) (n : Nat) (h : F.fn 155) (hro : F.round = none) (s : ByteArray) (w : World) :
    CallsIn F n Tryz.prog 155 #[.string s] w fun e w' => e = .returned (.func (.func 178) #[] #[.pointer (some ⟨w.heap.size, 0, none⟩)]) ∧ w' = w.alloc (.cells #[.string s] 9) := by
  refine callsIn_of_wp Tryz.func155 rfl h ?_ hro
  simp only [Tryz.ntmps155, List.size_toArray, List.length_cons, List.length_nil, Nat.reduceAdd, Nat.reduceSub, Array.replicate_succ, Array.replicate_zero, List.push_toArray, List.append_toArray, List.nil_append, List.cons_append]
  gi_wp2
  go_ret
  exact ⟨rfl, rfl⟩

end Go.Proofs.YtffffjngodinnaaGreatDoor
end

section
namespace Go.Proofs.YtffffjngodinnaaGreatDoor
open Go.RowKit Go.Maps
attribute [local go_sem] Oper.semAt_some

/-- a path's first parts, as lists of bytes -/
def plainL (l : List ByteArray) : List Abs.Name := l.map (·.data.toList)
theorem plainL_parts (s : ByteArray) : plainL (partsB s) = Abs.parts s.data.toList := by simp [plainL, partsB, Function.comp_def]
/-- what leads answers -/
def leadsV (β : Nat → Nat) : Except Nat Nat → Value
  | .ok j => .tuple #[ptrV (β j), .int .i64 0]
  | .error e => .tuple #[.pointer none, .int .i64 (e : Int)]
theorem stringKeys : Keyed Tryz.prog 9 := string_keyed Tryz.underlying9

theorem leads_append {t : Abs.T} : ∀ (l m : List Abs.Name) (i : Nat), t.leads i (l ++ m) = match t.leads i l with | .ok j => t.leads j m | .error e => .error e := by
  intro l
  induction l with
  | nil => intro m i; simp [Abs.T.leads]
  | cons p ps ih =>
    intro m i
    rw [List.cons_append, Abs.T.leads_cons, Abs.T.leads_cons]
    cases t.step i p with
    | error e => rfl
    | ok j => exact ih m j
theorem leads_snoc {t : Abs.T} (l : List Abs.Name) (p : Abs.Name) (i j : Nat) (h : t.leads i l = .ok j) : t.leads i (l ++ [p]) = t.step j p := by
  rw [leads_append, h]
  show t.leads j [p] = _
  rw [Abs.T.leads_cons]
  cases t.step j p <;> rfl
theorem leads_stop {t : Abs.T} (l : List Abs.Name) (k i e : Nat) (h : t.leads i (l.take k) = .error e) : t.leads i l = .error e := by
  conv => lhs; rw [← List.take_append_drop k l]
  rw [leads_append, h]

theorem Boxed_below {W W' : World} {B b : Nat} {t : TypeId} {v : Value} (h : Boxed W b t v) (hb : Below B W W') (hlt : b < B) : Boxed W' b t v := (hb.block b hlt).trans h

theorem boxed_row {W W' : World} {row : Option Nat} {b : Nat} {t : TypeId} {v : Value} (h : Boxed W b t v) (hg : W.grownBy W' row) (hr : ∀ r, row = some r → ∃ o : Obj, W.heap[r]? = some o ∧ o.isCells = false) : Boxed W' b t v :=
  h.kept hg (fun e => by obtain ⟨o, ho, hc⟩ := hr b e.symm; rw [show W.heap[b]? = _ from h] at ho; cases ho; cases hc)

theorem keepCells_below {W W' : World} (S : List Nat) (hb : Below W.heap.size W W') : KeepCells S W W' := ⟨hb.size, fun g _ hg _ _ => (hb.block g (Array.getElem?_eq_some_iff.1 hg).1).trans hg⟩
theorem keyOf_str (x : ByteArray) (h : x.size ≤ maxLen) : keyOf Tryz.prog 9 (.string x) = some (.string x.data.toList) := by
  simp [keyOf, mapKey, Tryz.underlying9, h]
theorem named_size {x : ByteArray} (h : Abs.named x.data.toList = true) : x.size ≤ 32 := by
  unfold Abs.named at h
  simp only [Bool.and_eq_true, decide_eq_true_eq] at h
  exact h.1.1.1.2

set_option maxRecDepth 100000 in
set_option maxHeartbeats 4000000 in
theorem leads_wide (w : World) (t : Nat) (S : TS) (T : Abs.T) (β : Nat → Nat) (h : TreeIs w t S T β) (i0 : Nat) (hi0 : ∃ x, T.get i0 = some x) (path : ByteArray) (hp : path.size < 1073741824) :
    CallsIn Fence.wide 4 Tryz.prog 126 #[ptrV t, ptrV (β i0), .string path] w fun e w' => e = .returned (leadsV β (T.leads i0 (Abs.parts path.data.toList))) ∧ Below w.heap.size w w' := by
  refine callsIn_of_wp_marks Tryz.func126 rfl trivial ?_ rfl
  simp only [Tryz.ntmps126, List.size_toArray, List.length_cons, List.length_nil, Nat.reduceAdd, Nat.reduceSub, Array.replicate_succ, Array.replicate_zero, List.push_toArray, List.append_toArray, List.nil_append, List.cons_append]
  unfold ptrV
  have f112 : Fence.wide.fn 155 := trivial
  have f105 : Fence.wide.fn 122 := trivial
  gi_wp2_with (gi_at_call 155; refine (parts_in Fence.wide 3 trivial rfl path _).mono ?_; rintro e w' ⟨rfl, rfl⟩)
  have b4 := (((Boxed.new w 166 (.pointer (some ⟨β i0, 0, none⟩))).alloc (.cells #[.pointer none] 166)).alloc (.cells #[.int .i64 0] 52)).alloc (.cells #[.string path] 9)
  have b6 := ((Boxed.new (w.alloc (.cells #[.pointer (some ⟨β i0, 0, none⟩)] 166)) 166 (.pointer none)).alloc (.cells #[.int .i64 0] 52)).alloc (.cells #[.string path] 9)
  have b7 := (Boxed.new ((w.alloc (.cells #[.pointer (some ⟨β i0, 0, none⟩)] 166)).alloc (.cells #[.pointer none] 166)) 52 (.int .i64 0)).alloc (.cells #[.string path] 9)
  have bP := Boxed.new (((w.alloc (.cells #[.pointer (some ⟨β i0, 0, none⟩)] 166)).alloc (.cells #[.pointer none] 166)).alloc (.cells #[.int .i64 0] 52)) 9 (.string path)
  simp only [World.size_alloc] at b6 b7 bP
  have hB0 : Below w.heap.size w ((((w.alloc (.cells #[.pointer (some ⟨β i0, 0, none⟩)] 166)).alloc (.cells #[.pointer none] 166)).alloc (.cells #[.int .i64 0] 52)).alloc (.cells #[.string path] 9)) :=
    ((((Below.refl _ w).alloc (Nat.le_refl _) _).alloc (by simp) _).alloc (by simp; omega) _).alloc (by simp; omega) _
  have hsz : ((((w.alloc (.cells #[.pointer (some ⟨β i0, 0, none⟩)] 166)).alloc (.cells #[.pointer none] 166)).alloc (.cells #[.int .i64 0] 52)).alloc (.cells #[.string path] 9)).heap.size = w.heap.size + 1 + 1 + 1 + 1 := by simp
  obtain ⟨W0, hW0⟩ : ∃ W0, (((w.alloc (.cells #[.pointer (some ⟨β i0, 0, none⟩)] 166)).alloc (.cells #[.pointer none] 166)).alloc (.cells #[.int .i64 0] 52)).alloc (.cells #[.string path] 9) = W0 := ⟨_, rfl⟩
  rw [hW0] at b4 b6 b7 bP hB0 hsz ⊢
  clear hW0
  have hstops := parts1_stops Fence.wide 3 trivial trivial (fun h => callsIn_wide.2 h) rfl (by omega) (w.heap.size + 1 + 1 + 1) path hp [w.heap.size] W0 (by simp; omega) bP
  refine wpIn_rangeFunc_ownH rfl (by omega) (gf := 178) (lb := #[.pointer (some ⟨w.heap.size + 1 + 1 + 1, 0, none⟩)]) rfl trivial (enters_of Tryz.func178 (by kernel_rfl) rfl)
    hstops KeepCells.trans (fun W l o o' _ hl hc _ => KeepCells.putObj W l o o' hl hc) (Below.refl _ _) (fun _ => rfl)
    (fun pre W => (∃ i, T.leads i0 (plainL pre) = .ok i ∧ (∃ x, T.get i = some x) ∧ Boxed W w.heap.size 166 (.pointer (some ⟨β i, 0, none⟩))) ∧ Boxed W (w.heap.size + 1) 166 (.pointer none) ∧ Boxed W (w.heap.size + 1 + 1) 52 (.int .i64 0) ∧ Below w.heap.size w W)
    (fun k pre W => (k = .ret ∧ ∃ e : Nat, T.leads i0 (plainL pre) = .error e ∧ Boxed W (w.heap.size + 1) 166 (.pointer none) ∧ Boxed W (w.heap.size + 1 + 1) 52 (.int .i64 (e : Int))) ∧ Below w.heap.size w W)
    ?own ?ownx ?start
    (fun x a' _ => a' = { tmps := #[Value.pointer (some ⟨t, 0, none⟩), Value.pointer (some ⟨β i0, 0, none⟩), .string path, undef, .pointer (some ⟨w.heap.size, 0, none⟩), undef, .pointer (some ⟨w.heap.size + 1, 0, none⟩), .pointer (some ⟨w.heap.size + 1 + 1, 0, none⟩), .string x, undef, undef, .string path, .func (.func 178) #[] #[.pointer (some ⟨w.heap.size + 1 + 1 + 1, 0, none⟩)], .string x, undef, undef, undef, undef, undef, undef, undef, undef, undef, undef, undef, undef, undef, undef, undef, undef, undef, undef, undef, undef, undef, undef, undef, undef, undef, undef, undef, undef, undef, undef, undef, undef, undef], defers := [] })
    (fun x a' s X Y row hs hg hr => hs)
    ?assign ?body ?done ?stop
  case own =>
    rintro pre X Y row ⟨⟨i, h1, h2, h3⟩, h4, h5, h6⟩ hg hr
    exact ⟨⟨i, h1, h2, boxed_row h3 hg fun r e => (hr r e).2⟩, boxed_row h4 hg fun r e => (hr r e).2, boxed_row h5 hg fun r e => (hr r e).2, h6.grown hg h6.size fun r e => (hr r e).1 |> Nat.le_trans hB0.size⟩
  case ownx =>
    rintro k pre X Y row ⟨⟨hk, e, h1, h4, h5⟩, h6⟩ hg hr
    exact ⟨⟨hk, e, h1, boxed_row h4 hg fun r e => (hr r e).2, boxed_row h5 hg fun r e => (hr r e).2⟩, h6.grown hg h6.size fun r e => (hr r e).1 |> Nat.le_trans hB0.size⟩
  case start => exact ⟨⟨i0, rfl, hi0, b4⟩, b6, b7, hB0⟩
  case assign =>
    rintro lp pre x W K hI hK
    simp only [encStr]
    gi_wp2
    exact hK _ _ (KeepsFrom.refl _ _) (KeepCells.refl _ _) hI rfl
  case body =>
    rintro lp pre x a' W hlp _ ⟨⟨i, hi, ⟨z, hz⟩, c4⟩, c6, c7, hBw⟩ rfl hlt
    obtain ⟨y, hy, by0, _, _, _, hyd, _, hdir, _, _⟩ := h.at_ hz
    have byW : Blk W (β i) 179 (itemCells y) := by0.below hBw by0.lt
    have k3 : W.cell? ⟨β i, 3, none⟩ = some (.bool y.dir) := byW.cell 3
    have k5 : W.cell? ⟨β i, 5, none⟩ = some (.map (if y.dir then some y.nb else none)) := byW.cell 5
    have k6 : W.cell? ⟨β i, 6, none⟩ = some (.pointer (if y.dir then some ⟨y.up, 0, none⟩ else none)) := byW.cell 6
    have g4 := c4.cell
    have l4 := c4.lt
    have f4 := c4.frozen
    have g6 := c6.cell
    have f6 := c6.frozen
    have g7 := c7.cell
    have f7 := c7.frozen
    have hsn := leads_snoc (t := T) (plainL pre) x.data.toList i0 i hi
    have hpx : plainL (pre ++ [x]) = plainL pre ++ [x.data.toList] := by simp [plainL]
    rw [← hpx] at hsn
    have HS := Lib.hid hsn
    have HI := Lib.hid hi
    have HB := Lib.hid hBw
    clear hi hsn hpx hsz hBw
    have kret : ∀ (e : Nat), T.step i x.data.toList = .error e → (KeepsFrom W0.heap.size W ((W.setCell ⟨w.heap.size + 1, 0, none⟩ (.pointer none)).setCell ⟨w.heap.size + 1 + 1, 0, none⟩ (.int .i64 (e : Int)))) := fun e _ => KeepsFrom.trans ((KeepsOthers.setCell _ _ _).from _) ((KeepsOthers.setCell _ _ _).from _)
    by_cases hd : z.dir = true
    · rw [hd] at hyd
      rw [hyd] at k3 k5 k6
      simp only [if_true] at k5 k6
      obtain ⟨hnf, hup⟩ := hdir hd
      by_cases h1 : x.data.toList = Abs.dot
      · have hst : T.step i x.data.toList = .ok i := by simp [Abs.T.step, hz, hd, h1]
        have h1' : x.toList = [46] := by rw [Lib.toList_data]; exact h1
        clear h1
        gi_wp2
        exact ⟨KeepsFrom.refl _ _, KeepCells.refl _ _, ⟨i, by rw [HS.out, hst], ⟨z, hz⟩, c4⟩, c6, c7, HB.out⟩
      by_cases h2 : x.data.toList = Abs.dotdot
      · have hst : T.step i x.data.toList = .ok z.up := by simp [Abs.T.step, hz, hd, h2, Abs.dot, Abs.dotdot]
        have h1' : ¬ x.toList = [46] := by rw [Lib.toList_data]; exact h1
        have h2' : x.toList = [46, 46] := by rw [Lib.toList_data]; exact h2
        clear h1 h2
        rw [hup] at k6
        gi_wp2
        exact ⟨(KeepsOthers.setCell _ _ _).from _, KeepCells.setCell _ _ _ (by simp), ⟨z.up, by rw [HS.out, hst], h.wf.step_live hz hst, c4.set _⟩, c6.other (by omega) _, c7.other (by omega) _, HB.out.setCell (p := ⟨w.heap.size, 0, none⟩) (by simp) _⟩
      have h1' : (x.toList == [46]) = false := beq_eq_false_iff_ne.2 (by rw [Lib.toList_data]; exact h1)
      have h2' : (x.toList == [46, 46]) = false := beq_eq_false_iff_ne.2 (by rw [Lib.toList_data]; exact h2)
      have hnd := fun w2 => named_any x w2
      cases hn : Abs.named x.data.toList with
      | false =>
        have hst : T.step i x.data.toList = .error 13 := by simp [Abs.T.step, hz, hd, h1, h2, hn]
        rw [hn] at hnd
        clear h1 h2
        gi_wp2_with (gi_at_call 122; refine (callsIn_wide.2 (hnd _)).mono ?_; rintro e w2 ⟨rfl, hb⟩; have c62 := Boxed_below c6 hb c6.lt; have c72 := Boxed_below c7 hb c7.lt; have g6 := c62.cell; have f6 := c62.frozen; have g7 := c72.cell; have f7 := c72.frozen)
        exact ⟨(KeepsFrom.trans (KeepsFrom.of_grownBy (only_of_below hb none) (fun j e => by cases e)) (KeepsFrom.trans ((KeepsOthers.setCell _ _ _).from _) ((KeepsOthers.setCell _ _ _).from _))), ⟨rfl, 13, by rw [HS.out, hst], (c62.set _).other (by omega) _, (c72.other (by omega) _).set _⟩, ((HB.out.trans (hb.mono HB.out.size)).setCell (p := ⟨w.heap.size + 1, 0, none⟩) (by simp) _).setCell (p := ⟨w.heap.size + 1 + 1, 0, none⟩) (by simp; omega) _⟩
      | true =>
        rw [hn] at hnd
        have hm := ((h.mem.item _ _ hy).2.2 hyd).1
        have hL := fun w2 (hb : Below W.heap.size W w2) => MapOf.look (hm.same (w' := w2) ((hb.block _ (Nat.lt_of_lt_of_le hm.lt HB.out.size)).trans (HB.out.block _ hm.lt))) stringKeys Tryz.underlying177 (show (zeroValue 166).run Tryz.prog w2 = .ok (.pointer none) w2 from by kernel_rfl) (key := .string x) (kl := .string x.data.toList) (keyOf_str x (by have := named_size hn; unfold maxLen; omega))
        have hns : namesF y.nf (.string x.data.toList) = ((Abs.lk z.names x.data.toList).map β).map ptrV := by show (y.nf _).map ptrV = _; rw [hnf]
        rw [hns] at hL
        cases hlk : Abs.lk z.names x.data.toList with
        | none =>
          have hst : T.step i x.data.toList = .error 1 := by simp [Abs.T.step, hz, hd, h1, h2, hn, hlk]
          rw [hlk] at hL
          simp only [Option.map_none, Option.getD_none, Option.isSome_none] at hL
          have HL := Lib.hid hL
          clear h1 h2 hL hns
          gi_wp2_with (gi_at_call 122; refine (callsIn_wide.2 (hnd _)).mono ?_; rintro e w2 ⟨rfl, hb⟩; have hl2 := HL.out w2 hb; have c42 := (Boxed_below c4 hb c4.lt).cell; have k52 := (hb.cell (p := ⟨β i, 5, none⟩) byW.lt).trans k5; have c62 := Boxed_below c6 hb c6.lt; have c72 := Boxed_below c7 hb c7.lt; have g6 := c62.cell; have f6 := c62.frozen; have g7 := c72.cell; have f7 := c72.frozen)
          exact ⟨(KeepsFrom.trans (KeepsFrom.of_grownBy (only_of_below hb none) (fun j e => by cases e)) (KeepsFrom.trans ((KeepsOthers.setCell _ _ _).from _) ((KeepsOthers.setCell _ _ _).from _))), ⟨rfl, 1, by rw [HS.out, hst], (c62.set _).other (by omega) _, (c72.other (by omega) _).set _⟩, ((HB.out.trans (hb.mono HB.out.size)).setCell (p := ⟨w.heap.size + 1, 0, none⟩) (by simp) _).setCell (p := ⟨w.heap.size + 1 + 1, 0, none⟩) (by simp; omega) _⟩
        | some j =>
          have hst : T.step i x.data.toList = .ok j := by simp [Abs.T.step, hz, hd, h1, h2, hn, hlk]
          rw [hlk] at hL
          simp only [Option.map_some, Option.getD_some, Option.isSome_some, ptrV] at hL
          have HL := Lib.hid hL
          clear h1 h2 hL hns
          gi_wp2_with (gi_at_call 122; refine (callsIn_wide.2 (hnd _)).mono ?_; rintro e w2 ⟨rfl, hb⟩; have hl2 := HL.out w2 hb; have b42 := Boxed_below c4 hb c4.lt; have c42 := b42.cell; have f42 := b42.frozen; have k52 := (hb.cell (p := ⟨β i, 5, none⟩) byW.lt).trans k5; have c62 := Boxed_below c6 hb c6.lt; have c72 := Boxed_below c7 hb c7.lt)
          exact ⟨KeepsFrom.trans (KeepsFrom.of_grownBy (only_of_below hb none) (fun j e => by cases e)) ((KeepsOthers.setCell _ _ _).from _), KeepCells.trans (keepCells_below _ hb) (KeepCells.setCell _ _ _ (by simp)), ⟨j, by rw [HS.out, hst], h.wf.step_live hz hst, b42.set _⟩, c62.other (by omega) _, c72.other (by omega) _, (HB.out.trans (hb.mono HB.out.size)).setCell (p := ⟨w.heap.size, 0, none⟩) (by simp) _⟩
    · have hd' : z.dir = false := by simpa using hd
      rw [hd'] at hyd
      rw [hyd] at k3
      have hst : T.step i x.data.toList = .error 3 := by simp [Abs.T.step, hz, hd']
      gi_wp2
      exact ⟨kret 3 hst, ⟨rfl, 3, by rw [HS.out, hst], (c6.set _).other (by omega) _, (c7.other (by omega) _).set _⟩, (HB.out.setCell (p := ⟨w.heap.size + 1, 0, none⟩) (by simp) _).setCell (p := ⟨w.heap.size + 1 + 1, 0, none⟩) (by simp; omega) _⟩
  case done =>
    rintro D ys W hD rfl ⟨⟨i, hi, _, c4⟩, c6, c7, hBw⟩ hK
    have g4 := c4.cell
    have g6 := c6.cell
    have f6 := c6.frozen
    have g7 := c7.cell
    have f7 := c7.frozen
    have hDw : w.heap.size ≤ D := Nat.le_trans hB0.size hD
    have HI := Lib.hid hi
    clear hi hsz
    gi_wp2
    have h1' := (c6.set (.pointer (some ⟨β i, 0, none⟩))).other (B' := w.heap.size + 1 + 1) (by omega) (.int .i64 0)
    have h2' := (c7.other (B' := w.heap.size + 1) (by omega) (.pointer (some ⟨β i, 0, none⟩))).set (.int .i64 0)
    have hK' := (KeepsOthers.trans (KeepsOthers.setCell W ⟨w.heap.size + 1, 0, none⟩ (.pointer (some ⟨β i, 0, none⟩))) (KeepsOthers.setCell _ ⟨w.heap.size + 1 + 1, 0, none⟩ (.int .i64 0))).same D _ hK rfl
    refine ⟨by simp, .inl ⟨_, _, rfl, run_takeDeferred hK', ?_⟩⟩
    have r1 := cell_kept h1'.cell (grownBy_putObj' _ D (.deferred none)) (fun r e => by cases e; exact ⟨_, hK', rfl⟩)
    have r2 := cell_kept h2'.cell (grownBy_putObj' _ D (.deferred none)) (fun r e => by cases e; exact ⟨_, hK', rfl⟩)
    refine ⟨.tuple #[.pointer (some ⟨β i, 0, none⟩), .int .i64 0], ?_, by rw [← plainL_parts, HI.out]; rfl, ((hBw.setCell (p := ⟨w.heap.size + 1, 0, none⟩) (by simp) _).setCell (p := ⟨w.heap.size + 1 + 1, 0, none⟩) (by simp; omega) _).trans (belowK_b (w := w) (Nat.le_refl _) _ D _ _ hDw hK' rfl rfl)⟩
    simp [results, Tryz.f126, go_sem, r1, r2]
  case stop =>
    rintro D k pre W hD ⟨k', rfl⟩ ⟨⟨rfl, e, he, c6, c7⟩, hBw⟩ hK
    have hDw : w.heap.size ≤ D := Nat.le_trans hB0.size hD
    gi_wp2
    refine ⟨by simp, .inl ⟨_, _, rfl, run_takeDeferred hK, ?_⟩⟩
    have r1 := cell_kept c6.cell (grownBy_putObj' _ D (.deferred none)) (fun r e => by cases e; exact ⟨_, hK, rfl⟩)
    have r2 := cell_kept c7.cell (grownBy_putObj' _ D (.deferred none)) (fun r e => by cases e; exact ⟨_, hK, rfl⟩)
    have hfin : T.leads i0 (Abs.parts path.data.toList) = .error e := by
      rw [← plainL_parts]
      refine leads_stop _ k' _ _ ?_
      rw [← he]
      simp [plainL, List.map_take]
    refine ⟨.tuple #[.pointer none, .int .i64 (e : Int)], ?_, by rw [hfin]; rfl, hBw.trans (belowK_b (w := w) (Nat.le_refl _) _ D _ _ hDw hK rfl rfl)⟩
    simp [results, Tryz.f126, go_sem, r1, r2]

theorem leads_any (w : World) (t : Nat) (S : TS) (T : Abs.T) (β : Nat → Nat) (h : TreeIs w t S T β) (i0 : Nat) (hi0 : ∃ x, T.get i0 = some x) (path : ByteArray) (hp : path.size < 1073741824) :
    Calls Tryz.prog 126 #[.pointer (some ⟨t, 0, none⟩), .pointer (some ⟨β i0, 0, none⟩), .string path] w fun e w' => e = .returned (leadsV β (T.leads i0 (Abs.parts path.data.toList))) ∧ Below w.heap.size w w' :=
  callsIn_wide.1 (leads_wide w t S T β h i0 hi0 path hp)

end Go.Proofs.YtffffjngodinnaaGreatDoor
end

section
namespace Go.Proofs.YtffffjngodinnaaGreatDoor
open Go.RowKit Go.Maps

set_option maxRecDepth 100000 in
set_option maxHeartbeats 2000000 in
theorem from_any (w : World) (t : Nat) (S : TS) (T : Abs.T) (β : Nat → Nat) (h : TreeIs w t S T β) (cwd path : ByteArray) (hc : cwd.size < 1073741824) (hp : path.size < 1073741824) :
    Calls Tryz.prog 125 #[.pointer (some ⟨t, 0, none⟩), .string cwd, .string path] w fun e w' => e = .returned (leadsV β (T.start cwd.data.toList path.data.toList)) ∧ Below w.heap.size w w' := by
  have c0 : w.cell? ⟨t, 0, none⟩ = some (.pointer (some ⟨β 1, 0, none⟩)) := by rw [h.mem.blk.cell 0, ← h.rep.root]; rfl
  have hl := leads_any w t S T β h 1 h.wf.root_live cwd hc
  obtain ⟨r, hr⟩ : ∃ r, T.leads 1 (Abs.parts cwd.data.toList) = r := ⟨_, rfl⟩
  rw [hr] at hl
  obtain ⟨q, hq⟩ : ∃ q, T.start cwd.data.toList path.data.toList = q := ⟨_, rfl⟩
  rw [hq]
  unfold Abs.T.start at hq
  rw [hr] at hq
  cases r with
  | error e =>
    have he := Abs.T.leads_ne0 hr
    have he1 : ((e : Int) != 0) = true := by simpa using he
    simp only at hq
    subst hq
    clear hr he
    unfold leadsV at hl ⊢
    go_enter Tryz.func125, Tryz.ntmps125
    go_wp2_with (go_at_call 126; refine hl.mono ?_; rintro e w' ⟨rfl, hb⟩)
    go_ret2
    exact ⟨rfl, hb⟩
  | ok i =>
    obtain ⟨x, hx⟩ := h.wf.leads_live _ _ h.wf.root_live hr
    obtain ⟨y, hy, by0, _, _, _, hyd, _, _, _, _⟩ := h.at_ hx
    have k3 : w.cell? ⟨β i, 3, none⟩ = some (.bool x.dir) := by rw [by0.cell 3, ← hyd]; rfl
    have lb := by0.lt
    have lt' := h.mem.blk.lt
    have hdx : T.isDir i = x.dir := by simp [Abs.T.isDir, hx]
    simp only [hdx] at hq
    clear hr hx hy by0 hyd hdx
    unfold leadsV ptrV at hl
    simp only at hl
    cases hd : x.dir with
    | false =>
      rw [hd] at k3 hq
      simp only [if_true] at hq
      subst hq
      go_enter Tryz.func125, Tryz.ntmps125
      go_wp2_with (go_at_call 126; refine hl.mono ?_; rintro e w' ⟨rfl, hb⟩; have k32 := (hb.cell (p := ⟨β i, 3, none⟩) lb).trans k3)
      go_ret2
      exact ⟨rfl, hb⟩
    | true =>
      rw [hd] at k3 hq
      simp only [Bool.true_eq_false, if_false] at hq
      obtain ⟨⟨l⟩⟩ := path
      cases l with
      | nil =>
        simp only at hq
        subst hq
        go_enter Tryz.func125, Tryz.ntmps125
        go_wp2_with (go_at_call 126; refine hl.mono ?_; rintro e w' ⟨rfl, hb⟩; have k32 := (hb.cell (p := ⟨β i, 3, none⟩) lb).trans k3)
        go_ret2
        exact ⟨rfl, hb⟩
      | cons c l =>
        simp only at hq
        by_cases h47 : c = 47
        · rw [if_pos h47] at hq
          subst hq h47
          go_enter Tryz.func125, Tryz.ntmps125
          go_wp2_with (go_at_call 126; refine hl.mono ?_; rintro e w' ⟨rfl, hb⟩; have k32 := (hb.cell (p := ⟨β i, 3, none⟩) lb).trans k3; have c02 := (hb.cell (p := ⟨t, 0, none⟩) lt').trans c0)
          go_ret2
          exact ⟨rfl, hb⟩
        · rw [if_neg h47] at hq
          subst hq
          have hz : ((c.toNat : Int) == 47) = false := beq_eq_false_iff_ne.2 (fun e => h47 (UInt8.toNat_inj.1 (show c.toNat = (47 : UInt8).toNat from by exact_mod_cast e)))
          have hz' : ((((⟨⟨c :: l⟩⟩ : ByteArray)[0]'(Nat.succ_pos _)).toNat : Int) == 47) = false := hz
          clear h47
          go_enter Tryz.func125, Tryz.ntmps125
          go_wp2_with (go_at_call 126; refine hl.mono ?_; rintro e w' ⟨rfl, hb⟩; have k32 := (hb.cell (p := ⟨β i, 3, none⟩) lb).trans k3; have c02 := (hb.cell (p := ⟨t, 0, none⟩) lt').trans c0)
          go_ret2
          exact ⟨rfl, hb⟩

/-- what look answers, as leads does -/
theorem slash_suffix (s : ByteArray) : Lib.hasSuffix s.data.toList [47] = Abs.slash s.data.toList := by
  unfold Lib.hasSuffix Abs.slash
  rw [Bool.eq_iff_iff, List.isSuffixOf_iff_suffix, beq_iff_eq, List.getLast?_eq_some_iff]
  exact ⟨fun ⟨t, ht⟩ => ⟨t, ht.symm⟩, fun ⟨t, ht⟩ => ⟨t, ht.symm⟩⟩

set_option maxRecDepth 100000 in
set_option maxHeartbeats 2000000 in
theorem look_any (w : World) (t : Nat) (S : TS) (T : Abs.T) (β : Nat → Nat) (h : TreeIs w t S T β) (cwd path : ByteArray) (hc : cwd.size < 1073741824) (hp : path.size < 1073741824) :
    Calls Tryz.prog 95 #[.pointer (some ⟨t, 0, none⟩), .string cwd, .string path] w fun e w' => e = .returned (leadsV β (T.look cwd.data.toList path.data.toList)) ∧ Below w.heap.size w w' := by
  have hf := from_any w t S T β h cwd path hc hp
  obtain ⟨r, hr⟩ : ∃ r, T.start cwd.data.toList path.data.toList = r := ⟨_, rfl⟩
  rw [hr] at hf
  obtain ⟨q, hq⟩ : ∃ q, T.look cwd.data.toList path.data.toList = q := ⟨_, rfl⟩
  rw [hq]
  unfold Abs.T.look at hq
  rw [hr] at hq
  cases r with
  | error e =>
    have he := Abs.T.start_ne0 hr
    have he1 : ((e : Int) != 0) = true := by simpa using he
    simp only at hq
    subst hq
    clear hr he
    unfold leadsV at hf ⊢
    go_enter Tryz.func95, Tryz.ntmps95
    go_wp2_with (go_at_call 125; refine hf.mono ?_; rintro e w' ⟨rfl, hb⟩)
    go_ret2
    exact ⟨rfl, hb⟩
  | ok i =>
    obtain ⟨x, hx, hxd⟩ := Abs.isDir_of (h.wf.start_dir hr)
    simp only at hq
    obtain ⟨r2, hr2⟩ : ∃ r, T.leads i (Abs.parts path.data.toList) = r := ⟨_, rfl⟩
    rw [hr2] at hq
    have hl := fun w2 (hb : Below w.heap.size w w2) => leads_any w2 t S T β (h.below hb) i ⟨x, hx⟩ path hp
    rw [hr2] at hl
    unfold leadsV ptrV at hf
    simp only at hf
    clear hr
    cases r2 with
    | error e =>
      have he := Abs.T.leads_ne0 hr2
      have he1 : ((e : Int) != 0) = true := by simpa using he
      simp only at hq
      subst hq
      clear hr2 he
      unfold leadsV at hl ⊢
      simp only at hl
      go_enter Tryz.func95, Tryz.ntmps95
      go_wp2_with (first | (go_at_call 125; refine hf.mono ?_; rintro e w' ⟨rfl, hb⟩) | (go_at_call 126; refine (hl _ hb).mono ?_; rintro e w2 ⟨rfl, hb2⟩))
      go_ret2
      exact ⟨rfl, hb.trans (hb2.mono hb.size)⟩
    | ok j =>
      obtain ⟨z, hz⟩ := h.wf.leads_live _ _ ⟨x, hx⟩ hr2
      obtain ⟨y, hy, by0, _, _, _, hyd, _, _, _, _⟩ := h.at_ hz
      have k3 : w.cell? ⟨β j, 3, none⟩ = some (.bool z.dir) := by rw [by0.cell 3, ← hyd]; rfl
      have lb := by0.lt
      have hdz : T.isDir j = z.dir := by simp [Abs.T.isDir, hz]
      simp only [hdz] at hq
      have hsf := fun w2 => Tryz.strings_HasSuffix path ⟨#[47]⟩ w2 (by omega)
      rw [slash_suffix] at hsf
      clear hx hxd hr2 hz hy by0 hyd hdz
      unfold leadsV ptrV at hl
      simp only at hl
      cases hs : Abs.slash path.data.toList with
      | false =>
        rw [hs] at hsf hq
        simp only [Bool.false_and, Bool.false_eq_true, if_false] at hq
        subst hq
        go_enter Tryz.func95, Tryz.ntmps95
        go_wp2_with (first | (go_at_call 125; refine hf.mono ?_; rintro e w' ⟨rfl, hb⟩) | (go_at_call 126; refine (hl _ hb).mono ?_; rintro e w2 ⟨rfl, hb2⟩; have k32 := (hb2.cell (p := ⟨β j, 3, none⟩) (Nat.lt_of_lt_of_le lb hb.size)).trans ((hb.cell (p := ⟨β j, 3, none⟩) lb).trans k3)) | (go_at_call 127; refine (hsf _).mono ?_; rintro e w3 ⟨rfl, rfl⟩))
        go_ret2
        exact ⟨rfl, hb.trans (hb2.mono hb.size)⟩
      | true =>
        rw [hs] at hsf hq
        simp only [Bool.true_and] at hq
        cases hd : z.dir with
        | true =>
          rw [hd] at k3 hq
          simp only [Bool.not_true, Bool.false_eq_true, if_false] at hq
          subst hq
          go_enter Tryz.func95, Tryz.ntmps95
          go_wp2_with (first | (go_at_call 125; refine hf.mono ?_; rintro e w' ⟨rfl, hb⟩) | (go_at_call 126; refine (hl _ hb).mono ?_; rintro e w2 ⟨rfl, hb2⟩; have k32 := (hb2.cell (p := ⟨β j, 3, none⟩) (Nat.lt_of_lt_of_le lb hb.size)).trans ((hb.cell (p := ⟨β j, 3, none⟩) lb).trans k3)) | (go_at_call 127; refine (hsf _).mono ?_; rintro e w3 ⟨rfl, rfl⟩))
          go_ret2
          exact ⟨rfl, hb.trans (hb2.mono hb.size)⟩
        | false =>
          rw [hd] at k3 hq
          simp only [Bool.not_false, if_true] at hq
          subst hq
          go_enter Tryz.func95, Tryz.ntmps95
          go_wp2_with (first | (go_at_call 125; refine hf.mono ?_; rintro e w' ⟨rfl, hb⟩) | (go_at_call 126; refine (hl _ hb).mono ?_; rintro e w2 ⟨rfl, hb2⟩; have k32 := (hb2.cell (p := ⟨β j, 3, none⟩) (Nat.lt_of_lt_of_le lb hb.size)).trans ((hb.cell (p := ⟨β j, 3, none⟩) lb).trans k3)) | (go_at_call 127; refine (hsf _).mono ?_; rintro e w3 ⟨rfl, rfl⟩))
          go_ret2
          exact ⟨rfl, hb.trans (hb2.mono hb.size)⟩

theorem Boxed6 {w w' : World} {t : TypeId} {cs : Array Value} (hb : Below (w.alloc (.cells cs t)).heap.size (w.alloc (.cells cs t)) w') : Blk w' w.heap.size t cs := (hb.block _ (by simp)).trans (Blk.new w t cs)

theorem blk6 {w : World} {g : Nat} {t : TypeId} {a0 a1 a2 a3 a4 a5 : Value} (h : Blk w g t #[a0, a1, a2, a3, a4, a5]) : Blk w g t #[a0, a1, a2, a3, a4, a5] ∧ w.cell? ⟨g, 0, none⟩ = some a0 ∧ w.cell? ⟨g, 1, none⟩ = some a1 ∧ w.cell? ⟨g, 2, none⟩ = some a2 ∧ w.cell? ⟨g, 3, none⟩ = some a3 ∧ w.cell? ⟨g, 4, none⟩ = some a4 ∧ w.cell? ⟨g, 5, none⟩ = some a5 ∧
    w.frozen? ⟨g, 0, none⟩ = false ∧ w.frozen? ⟨g, 1, none⟩ = false ∧ w.frozen? ⟨g, 2, none⟩ = false ∧ w.frozen? ⟨g, 3, none⟩ = false ∧ w.frozen? ⟨g, 4, none⟩ = false ∧ w.frozen? ⟨g, 5, none⟩ = false ∧ g < w.heap.size :=
  ⟨h, h.cell 0, h.cell 1, h.cell 2, h.cell 3, h.cell 4, h.cell 5, h.frozen 0, h.frozen 1, h.frozen 2, h.frozen 3, h.frozen 4, h.frozen 5, h.lt⟩
theorem set6 {w : World} {g : Nat} {t : TypeId} {a0 a1 a2 a3 a4 a5 : Value} (h : Blk w g t #[a0, a1, a2, a3, a4, a5]) (v0 v1 v2 v3 v4 v5 : Value) : Blk ((((((w.setCell ⟨g, 0, none⟩ v0).setCell ⟨g, 1, none⟩ v1).setCell ⟨g, 2, none⟩ v2).setCell ⟨g, 3, none⟩ v3).setCell ⟨g, 4, none⟩ v4).setCell ⟨g, 5, none⟩ v5) g t #[v0, v1, v2, v3, v4, v5] :=
  (((((h.set_ 0 v0).set_ 1 v1).set_ 2 v2).set_ 3 v3).set_ 4 v4).set_ 5 v5
theorem below_drewN' {B : Nat} {a w : World} (h : Below B a w) : Below B a w.drew := ⟨h.os, h.tape, h.output, h.size, h.block⟩
theorem below6 {B g : Nat} {a w : World} (h : Below B a w) (hg : B ≤ g) (v0 v1 v2 v3 v4 v5 : Value) : Below B a ((((((w.setCell ⟨g, 0, none⟩ v0).setCell ⟨g, 1, none⟩ v1).setCell ⟨g, 2, none⟩ v2).setCell ⟨g, 3, none⟩ v3).setCell ⟨g, 4, none⟩ v4).setCell ⟨g, 5, none⟩ v5) :=
  (((((h.setCell (p := ⟨g, 0, none⟩) hg _).setCell (p := ⟨g, 1, none⟩) hg _).setCell (p := ⟨g, 2, none⟩) hg _).setCell (p := ⟨g, 3, none⟩) hg _).setCell (p := ⟨g, 4, none⟩) hg _).setCell (p := ⟨g, 5, none⟩) hg _
/-- how what stands at a number is told -/
def statV (T : Abs.T) (i : Nat) : Value := match T.get i with
  | none => .agg #[.int .i64 0, .bool false, .int .i64 0, .int .i64 0, .int .i64 0, .int .i64 0]
  | some x => .agg #[.int .i64 (i : Int), .bool x.dir, .int .i64 x.mode, .int .i64 x.tick, .int .i64 (x.data.length : Int), .int .i64 (if x.dir then 1 else (T.links i : Int))]
def statR (T : Abs.T) : Except Nat Nat → Value
  | .ok j => .tuple #[statV T j, .int .i64 0]
  | .error e => .tuple #[.agg #[.int .i64 0, .bool false, .int .i64 0, .int .i64 0, .int .i64 0, .int .i64 0], .int .i64 (e : Int)]

set_option maxRecDepth 100000 in
set_option maxHeartbeats 2000000 in
theorem stat_any (w : World) (t : Nat) (S : TS) (T : Abs.T) (β : Nat → Nat) (h : TreeIs w t S T β) (cwd path : ByteArray) (hc : cwd.size < 1073741824) (hp : path.size < 1073741824) :
    Calls Tryz.prog 56 #[.pointer (some ⟨t, 0, none⟩), .string cwd, .string path] w fun e w' => e = .returned (statR T (T.look cwd.data.toList path.data.toList)) ∧ Below w.heap.size w w' := by
  have hl := fun w2 (hb : Below w.heap.size w w2) => look_any w2 t S T β (h.below hb) cwd path hc hp
  obtain ⟨r, hr⟩ : ∃ r, T.look cwd.data.toList path.data.toList = r := ⟨_, rfl⟩
  rw [hr] at hl ⊢
  have hA := fun o => (Below.refl w.heap.size w).alloc (Nat.le_refl _) o
  cases r with
  | error e =>
    have he := Abs.T.look_ne0 hr
    have he1 : ((e : Int) != 0) = true := by simpa using he
    clear hr he
    unfold leadsV at hl
    unfold statR
    go_enter Tryz.func56, Tryz.ntmps56
    go_wp2_with (go_at_call 95; refine (hl _ (hA _)).mono ?_; rintro e w' ⟨rfl, hb⟩; obtain ⟨bR, r0, r1, r2, r3, r4, r5, s0, s1, s2, s3, s4, s5, lR⟩ := blk6 (Boxed6 hb))
    obtain ⟨_, x0, x1, x2, x3, x4, x5, _⟩ := blk6 (set6 bR (.int .i64 0) (.bool false) (.int .i64 0) (.int .i64 0) (.int .i64 0) (.int .i64 0))
    refine bodyPost_ret (v := .tuple #[.agg #[.int .i64 0, .bool false, .int .i64 0, .int .i64 0, .int .i64 0, .int .i64 0], .int .i64 (e : Int)]) (by simp [results, Tryz.results56, go_sem, x0, x1, x2, x3, x4, x5]) rfl ?_
    exact ⟨rfl, below6 ((hA _).trans (hb.mono (by simp))) (Nat.le_refl _) _ _ _ _ _ _⟩
  | ok i =>
    obtain ⟨x, hx⟩ := h.wf.look_live hr
    obtain ⟨y, hy, by0, hin, hmo, hti, hyd, hda, _, hli, _⟩ := h.at_ hx
    unfold leadsV ptrV at hl
    have k0 : w.cell? ⟨β i, 0, none⟩ = some (.int .i64 (i : Int)) := by rw [by0.cell 0, ← hin]; rfl
    have k1 : w.cell? ⟨β i, 1, none⟩ = some (.int .i64 x.mode) := by rw [by0.cell 1, ← hmo]; rfl
    have k2 : w.cell? ⟨β i, 2, none⟩ = some (.int .i64 x.tick) := by rw [by0.cell 2, ← hti]; rfl
    have k3 : w.cell? ⟨β i, 3, none⟩ = some (.bool x.dir) := by rw [by0.cell 3, ← hyd]; rfl
    have k7 : w.cell? ⟨β i, 7, none⟩ = some (.int .i64 (T.links i : Int)) := by rw [by0.cell 7, ← hli]; rfl
    obtain ⟨A, cp, hdv, _, _⟩ := (h.mem.item _ _ hy).2.1.form
    have k4 : w.cell? ⟨β i, 4, none⟩ = some (.slice A x.data.length cp) := by rw [by0.cell 4, ← hda, ← hdv]; rfl
    have lb := by0.lt
    have hsv : statV T i = .agg #[.int .i64 (i : Int), .bool x.dir, .int .i64 x.mode, .int .i64 x.tick, .int .i64 (x.data.length : Int), .int .i64 (if x.dir then 1 else (T.links i : Int))] := by simp [statV, hx]
    unfold statR
    simp only [hsv]
    obtain ⟨nl, hnl⟩ : ∃ nl, T.links i = nl := ⟨_, rfl⟩
    rw [hnl] at k7 ⊢
    clear hr hx hy by0 hin hmo hti hyd hda hli hdv hsv hnl
    cases hd : x.dir with
    | true =>
      rw [hd] at k3
      go_enter Tryz.func56, Tryz.ntmps56
      go_wp2_with (go_at_call 95; refine (hl _ (hA _)).mono ?_; rintro e w' ⟨rfl, hb⟩; obtain ⟨bR, r0, r1, r2, r3, r4, r5, s0, s1, s2, s3, s4, s5, lR⟩ := blk6 (Boxed6 hb))
      have lb' : β i < w'.heap.size := Nat.lt_of_lt_of_le lb (Nat.le_trans (by simp) hb.size)
      have q0 := (show w'.cell? ⟨β i, 0, none⟩ = _ from ((hb.cell (p := ⟨β i, 0, none⟩) (by simp; omega)).trans (World.cell?_alloc_lt w _ ⟨β i, 0, none⟩ lb)).trans k0)
      have q1 := (show w'.cell? ⟨β i, 1, none⟩ = _ from ((hb.cell (p := ⟨β i, 1, none⟩) (by simp; omega)).trans (World.cell?_alloc_lt w _ ⟨β i, 1, none⟩ lb)).trans k1)
      have q2 := (show w'.cell? ⟨β i, 2, none⟩ = _ from ((hb.cell (p := ⟨β i, 2, none⟩) (by simp; omega)).trans (World.cell?_alloc_lt w _ ⟨β i, 2, none⟩ lb)).trans k2)
      have q3 := (show w'.cell? ⟨β i, 3, none⟩ = _ from ((hb.cell (p := ⟨β i, 3, none⟩) (by simp; omega)).trans (World.cell?_alloc_lt w _ ⟨β i, 3, none⟩ lb)).trans k3)
      have q4 := (show w'.cell? ⟨β i, 4, none⟩ = _ from ((hb.cell (p := ⟨β i, 4, none⟩) (by simp; omega)).trans (World.cell?_alloc_lt w _ ⟨β i, 4, none⟩ lb)).trans k4)
      have q7 := (show w'.cell? ⟨β i, 7, none⟩ = _ from ((hb.cell (p := ⟨β i, 7, none⟩) (by simp; omega)).trans (World.cell?_alloc_lt w _ ⟨β i, 7, none⟩ lb)).trans k7)
      have bR' : Blk w'.drew w.heap.size 131 _ := bR
      clear r0 r1 r2 r3 r4 r5 s0 s1 s2 s3 s4 s5
      go_region_held3 (fun W => W.cell? ⟨β i, 0, none⟩ = some (.int .i64 (i : Int)) ∧ W.cell? ⟨β i, 1, none⟩ = some (.int .i64 x.mode) ∧ W.cell? ⟨β i, 2, none⟩ = some (.int .i64 x.tick) ∧ W.cell? ⟨β i, 3, none⟩ = some (.bool true) ∧ W.cell? ⟨β i, 4, none⟩ = some (.slice A x.data.length cp)) (first | go_keep | (go_split_ands; refine ⟨?_, ?_, ?_, ?_, ?_⟩ <;> first | assumption | (rw [World.cell?_drew]; rw [World.cell?_alloc_lt _ _ _ (by first | exact lb' | (simp; exact lb'))]; assumption) | (rw [World.cell?_alloc_lt _ _ _ (by first | exact lb' | (simp; exact lb'))]; assumption))) (fail)
      all_goals
        go_wp2_with (first
          | (refine wpList_store_blk rfl 131 (.tmp 6) (.tmp 54) rfl w.heap.size 131 #[.int .i64 0, .bool false, .int .i64 0, .int .i64 0, .int .i64 0, .int .i64 0] #[.int .i64 (i : Int), .bool true, .int .i64 x.mode, .int .i64 x.tick, .int .i64 (x.data.length : Int), .int .i64 1] rfl rfl (show Blk _ _ _ _ from bR.alloc _) rfl (by kernel_rfl) (by kernel_rfl) ?_; intro w9 b9 g9)
          | (refine wpList_load_row rfl 131 (.tmp 10) rfl w'.heap.size rfl 131 #[.int .i64 (i : Int), .bool true, .int .i64 x.mode, .int .i64 x.tick, .int .i64 (x.data.length : Int), .int .i64 1] (0, 0) _ (World.alloc_heap_new w' _) Tryz.underlying131 rfl (by kernel_rfl) ?_))
        obtain ⟨_, x0, x1, x2, x3, x4, x5, _⟩ := blk6 b9
        refine bodyPost_ret (v := .tuple #[.agg #[.int .i64 (i : Int), .bool true, .int .i64 x.mode, .int .i64 x.tick, .int .i64 (x.data.length : Int), .int .i64 1], .int .i64 0]) (by simp [results, Tryz.results56, go_sem, x0, x1, x2, x3, x4, x5]) rfl ?_
        exact ⟨rfl, (below_drewN' ((((hA _).trans (hb.mono (by simp)))).alloc (by omega) _)).grown g9 (by simp; omega) (fun k e => by cases e; exact Nat.le_refl _)⟩
    | false =>
      rw [hd] at k3
      go_enter Tryz.func56, Tryz.ntmps56
      go_wp2_with (go_at_call 95; refine (hl _ (hA _)).mono ?_; rintro e w' ⟨rfl, hb⟩; obtain ⟨bR, r0, r1, r2, r3, r4, r5, s0, s1, s2, s3, s4, s5, lR⟩ := blk6 (Boxed6 hb))
      have lb' : β i < w'.heap.size := Nat.lt_of_lt_of_le lb (Nat.le_trans (by simp) hb.size)
      have q0 := (show w'.cell? ⟨β i, 0, none⟩ = _ from ((hb.cell (p := ⟨β i, 0, none⟩) (by simp; omega)).trans (World.cell?_alloc_lt w _ ⟨β i, 0, none⟩ lb)).trans k0)
      have q1 := (show w'.cell? ⟨β i, 1, none⟩ = _ from ((hb.cell (p := ⟨β i, 1, none⟩) (by simp; omega)).trans (World.cell?_alloc_lt w _ ⟨β i, 1, none⟩ lb)).trans k1)
      have q2 := (show w'.cell? ⟨β i, 2, none⟩ = _ from ((hb.cell (p := ⟨β i, 2, none⟩) (by simp; omega)).trans (World.cell?_alloc_lt w _ ⟨β i, 2, none⟩ lb)).trans k2)
      have q3 := (show w'.cell? ⟨β i, 3, none⟩ = _ from ((hb.cell (p := ⟨β i, 3, none⟩) (by simp; omega)).trans (World.cell?_alloc_lt w _ ⟨β i, 3, none⟩ lb)).trans k3)
      have q4 := (show w'.cell? ⟨β i, 4, none⟩ = _ from ((hb.cell (p := ⟨β i, 4, none⟩) (by simp; omega)).trans (World.cell?_alloc_lt w _ ⟨β i, 4, none⟩ lb)).trans k4)
      have q7 := (show w'.cell? ⟨β i, 7, none⟩ = _ from ((hb.cell (p := ⟨β i, 7, none⟩) (by simp; omega)).trans (World.cell?_alloc_lt w _ ⟨β i, 7, none⟩ lb)).trans k7)
      have bR' : Blk w'.drew w.heap.size 131 _ := bR
      clear r0 r1 r2 r3 r4 r5 s0 s1 s2 s3 s4 s5
      go_region_held3 (fun W => W.cell? ⟨β i, 0, none⟩ = some (.int .i64 (i : Int)) ∧ W.cell? ⟨β i, 1, none⟩ = some (.int .i64 x.mode) ∧ W.cell? ⟨β i, 2, none⟩ = some (.int .i64 x.tick) ∧ W.cell? ⟨β i, 3, none⟩ = some (.bool false) ∧ W.cell? ⟨β i, 4, none⟩ = some (.slice A x.data.length cp)) (first | go_keep | (go_split_ands; refine ⟨?_, ?_, ?_, ?_, ?_⟩ <;> first | assumption | (rw [World.cell?_drew]; rw [World.cell?_alloc_lt _ _ _ (by first | exact lb' | (simp; exact lb'))]; assumption) | (rw [World.cell?_alloc_lt _ _ _ (by first | exact lb' | (simp; exact lb'))]; assumption))) (fail)
      all_goals
        go_wp2_with (first
          | (refine wpList_store_blk rfl 131 (.tmp 6) (.tmp 54) rfl w.heap.size 131 #[.int .i64 0, .bool false, .int .i64 0, .int .i64 0, .int .i64 0, .int .i64 0] #[.int .i64 (i : Int), .bool false, .int .i64 x.mode, .int .i64 x.tick, .int .i64 (x.data.length : Int), .int .i64 (nl : Int)] rfl rfl (show Blk _ _ _ _ from bR.alloc _) rfl (by kernel_rfl) (by kernel_rfl) ?_; intro w9 b9 g9)
          | (refine wpList_load_row rfl 131 (.tmp 10) rfl w'.heap.size rfl 131 #[.int .i64 (i : Int), .bool false, .int .i64 x.mode, .int .i64 x.tick, .int .i64 (x.data.length : Int), .int .i64 (nl : Int)] (0, 0) _ (World.alloc_heap_new w' _) Tryz.underlying131 rfl (by kernel_rfl) ?_))
        obtain ⟨_, x0, x1, x2, x3, x4, x5, _⟩ := blk6 b9
        refine bodyPost_ret (v := .tuple #[.agg #[.int .i64 (i : Int), .bool false, .int .i64 x.mode, .int .i64 x.tick, .int .i64 (x.data.length : Int), .int .i64 (nl : Int)], .int .i64 0]) (by simp [results, Tryz.results56, go_sem, x0, x1, x2, x3, x4, x5]) rfl ?_
        exact ⟨rfl, (below_drewN' ((((hA _).trans (hb.mono (by simp)))).alloc (by omega) _)).grown g9 (by simp; omega) (fun k e => by cases e; exact Nat.le_refl _)⟩

end Go.Proofs.YtffffjngodinnaaGreatDoor
end

section
namespace Go.Proofs.YtffffjngodinnaaGreatDoor
open Go.RowKit

/-- append, behind a name that the walk does not open: its equation is laid as a hypothesis -/
def appendHere (ats : Array TypeId) (ty : TypeId) (cs : Array Bool) (args : Array Value) : Sem Next := builtin .append ats ty cs args
theorem appendHere_eq (ats : Array TypeId) (ty : TypeId) (cs : Array Bool) (args : Array Value) : builtin .append ats ty cs args = appendHere ats ty cs args := rfl
theorem run_appendHere {P : Program} {ats : Array TypeId} {ty : TypeId} {cs : Array Bool} {args : Array Value} {v : Value} {w w' : World} (h : (Builtin.append_ ats ty args).run P w = .ok v w') : (appendHere ats ty cs args).run P w = .ok (.value v) w' := by
  simp [appendHere, builtin, h, Result.andThen]
attribute [local go_sem] Oper.semAt_some
attribute [local go_sem ↓ high] appendHere_eq

/-- blocks that a slice in the box b does not turn when it is appended to -/
def OffB (b : Nat) (T : TypeId) (W : World) (g : Nat) : Prop := (∃ t cs, Blk W g t cs) ∧ g ≠ b ∧ ∃ v, Boxed W b T v ∧ v.ownBlock ≠ some g
def KpB (b : Nat) (T : TypeId) (W W' : World) : Prop := ∀ g, OffB b T W g → W'.heap[g]? = W.heap[g]? ∧ OffB b T W' g
theorem KpB.trans {b : Nat} {T : TypeId} {A B C : World} (h : KpB b T A B) (k : KpB b T B C) : KpB b T A C := fun g hg => ⟨((k g (h g hg).2).1).trans (h g hg).1, (k g (h g hg).2).2⟩
theorem KpB.refl (b : Nat) (T : TypeId) (W : World) : KpB b T W W := fun _ hg => ⟨rfl, hg⟩
theorem KpB.putObj {b : Nat} {T : TypeId} (W : World) (l : Nat) (o o' : Obj) (h : W.heap[l]? = some o) (hc : o.isCells = false) : KpB b T W (W.putObj l o') := by
  rintro g ⟨⟨t, cs, hb⟩, hne, v, hv, hvg⟩
  have ne : ∀ {k : Nat} {t : TypeId} {cs : Array Value}, W.heap[k]? = some (.cells cs t (0, 0)) → k ≠ l := by
    rintro k t cs hk rfl
    rw [hk] at h; cases h; cases hc
  have e1 : (W.putObj l o').heap[g]? = W.heap[g]? := World.putObj_heap_other (ne hb)
  have e2 : (W.putObj l o').heap[b]? = W.heap[b]? := World.putObj_heap_other (ne hv)
  exact ⟨e1, ⟨t, cs, e1.trans hb⟩, hne, v, e2.trans hv, hvg⟩

theorem Tryz.infoStr : (Tryz.prog.info? 9).map (fun i => (i.zero, i.size, i.bytes)) = some (some (.string ByteArray.empty), 1, 16) := by kernel_rfl
theorem row_new (w : World) (t : TypeId) (v : Value) : Reads (w.alloc (.cells #[v] t)) (w.heap.size + 1) 1 (some ⟨w.heap.size, 0, none⟩) 1 [v] := by
  refine ⟨rfl, fun _ => ⟨_, rfl, by simp, fun j u hu => ?_⟩⟩
  have e : (⟨w.heap.size, 0, none⟩ : Addr).add j = ⟨w.heap.size, j, none⟩ := by unfold Addr.add; split <;> simp_all
  rw [e, (Blk.new w _ _).cell j]
  simpa using hu

theorem own_byR {w w' : World} {row : Option Nat} {base n size : Nat} {e : TypeId} {v : Value} {xs : List Value} (h : w.ownsRow base e size v n xs) (hg : w.grownBy w' row) (hr : ∀ r, row = some r → ∃ o : Obj, w.heap[r]? = some o ∧ o.isCells = false) : w'.ownsRow base e size v n xs := by
  refine h.kept hg ?_
  rcases h.2 with ⟨rfl, _⟩ | ⟨g, cap, cur, rfl, hb, hgb, _⟩
  · exact .inl rfl
  · refine .inr fun e' => ?_
    obtain ⟨o, ho, hc⟩ := hr g (by simpa [Value.ownBlock] using e'.symm)
    rw [hgb] at ho; cases ho; cases hc
/-- a round: a string more -/
theorem collect_round (b B0 : Nat) (W : World) (v : Value) (xs : List Value) (x : ByteArray) (hbB : b < B0) (hB0 : B0 ≤ W.heap.size) (hv : Boxed W b 22 v) (hown : W.ownsRow B0 9 1 v xs.length xs) (hn : xs.length ≤ 2147483648) :
    ∃ v' w2, (∃ A n c, v' = .slice A n c) ∧ (appendHere #[22, 22] 22 #[false, false] #[v, .slice (some ⟨W.heap.size, 0, none⟩) 1 1]).run Tryz.prog (W.alloc (.cells #[.string x] 9)) = .ok (.value v') w2 ∧
      w2.cell? ⟨b, 0, none⟩ = some v ∧ w2.frozen? ⟨b, 0, none⟩ = false ∧ b < w2.heap.size ∧
      Boxed (w2.setCell ⟨b, 0, none⟩ v') b 22 v' ∧ (w2.setCell ⟨b, 0, none⟩ v').ownsRow B0 9 1 v' (xs ++ [Value.string x]).length (xs ++ [Value.string x]) ∧ KpB b 22 W (w2.setCell ⟨b, 0, none⟩ v') ∧ KeepsOthers W (w2.setCell ⟨b, 0, none⟩ v') ∧
      ∀ n₀ w₀, n₀ ≤ b → n₀ ≤ B0 → Below n₀ w₀ W → Below n₀ w₀ (w2.setCell ⟨b, 0, none⟩ v') := by
  obtain ⟨iR, hiR, hR0, hR1, hR2⟩ := info_parts Tryz.infoStr
  have hva := hv.alloc (.cells #[.string x] 9)
  obtain ⟨v', w2, hrun, hown2, hg, hat⟩ := run_append_any (P := Tryz.prog) (W.alloc (.cells #[.string x] 9)) B0 22 22 9 iR (.string ByteArray.empty) 1 16 Tryz.underlying22 hiR hR0 hR1 hR2 rfl (by decide)
    v xs.length xs (hown.alloc _) (W.heap.size + 1) (some ⟨W.heap.size, 0, none⟩) 1 1 [.string x] (row_new W _ _) (by simp [Value.oneCell']) (by simp only [maxLen]; omega) (by omega) (by simp; omega)
  have hne : v.ownBlock ≠ some b := fun e => by have := (hown.lt b e).1; omega
  have hv2 : Boxed w2 b 22 v := hva.kept hg (fun e => hne e.symm)
  have hne2 : v'.ownBlock ≠ some b := fun e => by have := (hown2.lt b e).1; omega
  have hsz : W.heap.size + 1 ≤ w2.heap.size := by have := hg.size; simpa using this
  refine ⟨v', w2, (by obtain ⟨A, c, e, _⟩ := own_slice hown2; exact ⟨A, _, c, e⟩), run_appendHere hrun, hv2.cell, hv2.frozen, hv2.lt, hv2.set v', ?_, ?_, ?_, ?_⟩
  · rw [List.length_append, List.length_singleton]
    exact ownsRow_setCell_other hown2 hne2 _
  · rintro g ⟨⟨t, cs, hb⟩, hgb, u, hu, hug⟩
    obtain rfl : u = v := by
      have h1 := (show W.heap[b]? = _ from hu).symm.trans hv
      simp only [Option.some.injEq, Obj.cells.injEq] at h1
      simpa using h1.1
    have e1 : (w2.setCell ⟨b, 0, none⟩ v').heap[g]? = W.heap[g]? :=
      (Below.heap_setCell _ _ _ _ hgb).trans ((hg.block g (by have := hb.lt; simp; omega) (fun e => hug e.symm)).trans (Below.heap_alloc _ _ _ hb.lt))
    refine ⟨e1, ⟨t, cs, e1.trans hb⟩, hgb, v', hv2.set v', fun e => ?_⟩
    rcases hat with h1 | h1
    · exact hug (h1.symm.trans e)
    · rw [h1] at e
      injection e with e
      have := hb.lt
      simp at e; omega
  · refine KeepsOthers.trans (KeepsOthers.alloc _ _) (KeepsOthers.trans (KeepsOthers.of_grownBy hg fun j o ej hj => ?_) (KeepsOthers.setCell _ _ _))
    rcases (hown.alloc (.cells #[.string x] 9)).2 with ⟨rfl, _⟩ | ⟨g, cap, cur, rfl, _, hgb, _⟩
    · simp [Value.ownBlock] at ej
    · obtain rfl : g = j := by simpa [Value.ownBlock] using ej
      rw [hgb] at hj; cases hj; rfl
  · intro n₀ w₀ h1 h2 hb
    exact ((hb.alloc (by omega) _).grown hg (by simp; omega) (fun k hk => by have := (hown.lt k hk).1; omega)).setCell (p := ⟨b, 0, none⟩) h1 v'

set_option maxRecDepth 100000 in
set_option maxHeartbeats 2000000 in
theorem appendSeq_wide (w : World) (Bs : Nat) (s : ByteArray) (hs : s.size < 1073741824) (hB : Boxed w Bs 9 (.string s)) :
    CallsIn Fence.wide 5 Tryz.prog 179 #[.slice none 0 0, .func (.func 178) #[] #[.pointer (some ⟨Bs, 0, none⟩)]] w fun e w' => ∃ v, e = .returned v ∧ w'.ownsRow w.heap.size 9 1 v (partsB s).length ((partsB s).map .string) ∧ Below w.heap.size w w' := by
  refine callsIn_of_wp_marks Tryz.func179 rfl trivial ?_ rfl
  simp only [Tryz.ntmps179, List.size_toArray, List.length_cons, List.length_nil, Nat.reduceAdd, Nat.reduceSub, Array.replicate_succ, Array.replicate_zero, List.push_toArray, List.append_toArray, List.nil_append, List.cons_append]
  gi_wp2
  have b0 := Boxed.new w 22 (.slice none 0 0)
  have hB0 : Below w.heap.size w (w.alloc (.cells #[.slice none 0 0] 22)) := (Below.refl _ w).alloc (Nat.le_refl _) _
  have hsz : (w.alloc (.cells #[.slice none 0 0] 22)).heap.size = w.heap.size + 1 := by simp
  have hBs := hB.alloc (.cells #[.slice none 0 0] 22)
  obtain ⟨W0, hW0⟩ : ∃ W0, w.alloc (.cells #[.slice none 0 0] 22) = W0 := ⟨_, rfl⟩
  rw [hW0] at b0 hB0 hsz hBs ⊢
  clear hW0
  have hstops := parts1_stopsK Fence.wide 4 trivial trivial (fun h => callsIn_wide.2 h) rfl (by omega) Bs s hs (KpB w.heap.size 22) (OffB w.heap.size 22) (fun A B g hk hg => hk g hg) W0
    (fun W hW cs t => ⟨⟨t, cs, Blk.new W t cs⟩, by have := hW.size; omega, .slice none 0 0, Boxed.alloc ((hW.block _ b0.lt).trans b0) _, by simp [Value.ownBlock]⟩) hBs
  refine wpIn_rangeFunc_ownH rfl (by omega) (gf := 178) (lb := #[.pointer (some ⟨Bs, 0, none⟩)]) rfl trivial (enters_of Tryz.func178 (by kernel_rfl) rfl)
    hstops KpB.trans (fun W l o o' _ hl hc _ => KpB.putObj W l o o' hl hc) (Below.refl _ _) (fun _ => rfl)
    (fun pre W => (∃ v, Boxed W w.heap.size 22 v ∧ W.ownsRow W0.heap.size 9 1 v (pre.map Value.string).length (pre.map Value.string)) ∧ Below w.heap.size w W)
    (fun _ _ _ => False)
    ?own (fun _ _ _ _ _ hs _ _ => hs) ?start
    (fun x a' _ => a' = { tmps := #[.slice none 0 0, .func (.func 178) #[] #[.pointer (some ⟨Bs, 0, none⟩)], .pointer (some ⟨w.heap.size, 0, none⟩), undef, .slice none 0 0, .string x, .func (.func 178) #[] #[.pointer (some ⟨Bs, 0, none⟩)], .string x, undef, undef, undef, undef, undef], defers := [] })
    (fun x a' s X Y row hs hg hr => hs)
    ?assign ?body ?done ?stop
  case own =>
    rintro pre X Y row ⟨⟨v, h1, h2⟩, h6⟩ hg hr
    exact ⟨⟨v, boxed_row h1 hg fun r e => (hr r e).2, own_byR h2 hg fun r e => (hr r e).2⟩, h6.grown hg h6.size fun r e => (hr r e).1 |> Nat.le_trans hB0.size⟩
  case start => exact ⟨⟨_, b0, ⟨rfl, .inl ⟨rfl, rfl⟩⟩⟩, hB0⟩
  case assign =>
    rintro lp pre x W K hI hK
    simp only [encStr]
    gi_wp2
    exact hK _ _ (KeepsFrom.refl _ _) (KpB.refl _ _ _) hI rfl
  case body =>
    rintro lp pre x a' W hlp _ ⟨⟨v, bv, hv⟩, hBw⟩ rfl hlt
    have hpl : (partsB s).length ≤ s.size + 1 := by
      rw [partsB_segs]
      exact Nat.le_trans (List.length_filter_le _ _) (segsB_len s)
    obtain ⟨v', w2, ⟨A', n', c', rfl⟩, hrun, c2, f2, l2, bF, oF, kF, kO, hbF⟩ := collect_round w.heap.size W0.heap.size W v (pre.map Value.string) x (by omega) (by have := hBw.size; have := bv.lt; omega) bv hv (by simp; omega)
    have cv := bv.cell
    have la := bv.lt
    gi_wp2
    have hpx : (pre ++ [x]).map Value.string = pre.map Value.string ++ [.string x] := by simp
    exact ⟨kO.from _, kF, ⟨_, bF, by rw [hpx]; exact oF⟩, hbF _ _ (Nat.le_refl _) (by omega) hBw⟩
  case done =>
    rintro D ys W hD rfl ⟨⟨v, bv, hv⟩, hBw⟩ hK
    have cv := bv.cell
    gi_wp2
    have hDw : w.heap.size ≤ D := Nat.le_trans hB0.size hD
    refine ⟨by simp, .inl ⟨_, _, rfl, run_takeDeferred hK, ?_⟩⟩
    refine ⟨v, ?_, ⟨v, rfl, ?_, hBw.trans (belowK_b (w := w) (Nat.le_refl _) _ D _ _ hDw hK rfl rfl)⟩⟩
    · simp [results, Tryz.f179]
    · have h1 := own_byR hv (grownBy_putObj' _ D (.deferred none)) (fun r e => by cases e; exact ⟨_, hK, rfl⟩)
      rw [List.length_map] at h1
      exact Joins.ownsRow_le h1 (by omega)
  case stop =>
    rintro D k pre W hD _ hf
    exact hf.elim

set_option maxRecDepth 100000 in
set_option maxHeartbeats 2000000 in
theorem collect_any (w : World) (Bs : Nat) (s : ByteArray) (hs : s.size < 1073741824) (hB : Boxed w Bs 9 (.string s)) :
    Calls Tryz.prog 158 #[.func (.func 178) #[] #[.pointer (some ⟨Bs, 0, none⟩)]] w fun e w' => ∃ v, e = .returned v ∧ w'.ownsRow w.heap.size 9 1 v (partsB s).length ((partsB s).map .string) ∧ Below w.heap.size w w' := by
  have h := callsIn_wide.1 (appendSeq_wide w Bs s hs hB)
  go_enter Tryz.func158, Tryz.ntmps158
  go_wp2_with (go_at_call 179; refine h.mono ?_; rintro e w' ⟨v, rfl, ho, hb⟩)
  go_ret
  exact ⟨v, rfl, ho, hb⟩

end Go.Proofs.YtffffjngodinnaaGreatDoor
end
