/-
  Parts of the proof.
-/
import Derived.Test.YtffffjngodinnaaGreatDoorV19
import Derived.RangeFuncBound
import Derived.Test.YtffffjngodinnaaGreatDoorV08
import Derived.Deep.RegionHeld3
namespace Go.Proofs.YtffffjngodinnaaGreatDoor
section
set_option maxRecDepth 100000
open Go.RowKit
attribute [local go_sem] Oper.semAt_some
def KeepCells (S : List Nat) (W W' : World) : Prop := W.heap.size <= W'.heap.size /\ ∀ g o, W.heap[g]? = some o -> o.isCells = true -> g ∉ S -> W'.heap[g]? = some o
theorem KeepCells.refl (S : List Nat) (W : World) : KeepCells S W W := ⟨Nat.le_refl _, fun _ _ h _ _ => h⟩
theorem KeepCells.trans {S : List Nat} {A B C : World} (h : KeepCells S A B) (k : KeepCells S B C) : KeepCells S A C := ⟨Nat.le_trans h.1 k.1, fun g o hg ho hS => k.2 g o (h.2 g o hg ho hS) ho hS⟩
theorem KeepCells.putObj {S : List Nat} (W : World) (l : Nat) (o o' : Obj) (h : W.heap[l]? = some o) (hc : o.isCells = false) : KeepCells S W (W.putObj l o') := by
 refine ⟨by have := (grownBy_putObj' W l o').size; exact this, fun g x hg hx _ => ?_⟩
 by_cases e : g = l
 · subst e; rw [h] at hg; cases hg; rw [hc] at hx; cases hx
 · exact (World.putObj_heap_other e).trans hg
theorem KeepCells.setCell {S : List Nat} (W : World) (p : Addr) (v : Value) (hp : p.block ∈ S) : KeepCells S W (W.setCell p v) :=
 ⟨by simp [World.setCell], fun g x hg _ hS => (Below.heap_setCell W p v g (by rintro rfl; exact hS hp)).trans hg⟩
theorem KeepCells.blk {S : List Nat} {W W' : World} {b : Nat} {t : TypeId} {cs : Array Value} (h : KeepCells S W W') (hb : Blk W b t cs) (hS : b ∉ S) : Blk W' b t cs := h.2 b _ hb rfl hS
def partsB (s : ByteArray) : List ByteArray := (Abs.parts s.data.toList).map fun l => ⟨l.toArray⟩
theorem partsB_segs (s : ByteArray) : partsB s = (segsB s).filter fun b => !b.toList.isEmpty := by
 unfold partsB segsB Abs.parts
 rw [List.filter_map]
 congr 1
 refine List.filter_congr fun l _ => ?_
 simp [Lib.toList_data]
def partsTo (s : ByteArray) (k : Nat) : List ByteArray := ((segsB s).take k).filter fun b => !b.toList.isEmpty
theorem partsTo_succ {s : ByteArray} {k : Nat} (h : k < (segsB s).length) : partsTo s (k + 1) = partsTo s k ++ if (segsB s)[k].toList.isEmpty then [] else [(segsB s)[k]] := by
 unfold partsTo
 rw [List.take_succ_eq_append_getElem h, List.filter_append]
 congr 1
 by_cases hc : (segsB s)[k].toList.isEmpty <;> simp [hc]
theorem partsTo_all (s : ByteArray) : partsTo s (segsB s).length = partsB s := by rw [partsB_segs, partsTo, List.take_length]
theorem partsTo_le (s : ByteArray) (k : Nat) : (partsTo s k).length <= (partsB s).length := by
 rw [partsB_segs, partsTo]
 exact ((List.take_sublist k _).filter _).length_le
theorem partsTo_prefix (s : ByteArray) (k : Nat) : ∃ j, partsTo s k = (partsB s).take j := by
 have h : (segsB s) = (segsB s).take k ++ (segsB s).drop k := (List.take_append_drop k _).symm
 refine ⟨(partsTo s k).length, ?_⟩
 rw [partsB_segs]
 conv => rhs; rw [h, List.filter_append]
 unfold partsTo
 simp
theorem segs_len (l : List UInt8) : (Abs.segs l).length = l.count 47 + 1 := by
 induction l with
 | nil => rfl
 | cons c l ih =>
   unfold Abs.segs
   split
   · rename_i h; subst h; simp [ih]
   · rename_i h
     rw [List.count_cons_of_ne h]
     cases hs : Abs.segs l with
     | nil => rw [hs] at ih; simp at ih
     | cons a b => rw [hs] at ih; simpa using ih
theorem segsB_len (s : ByteArray) : (segsB s).length <= s.size + 1 := by
 unfold segsB
 rw [List.length_map, segs_len]
 have := List.count_le_length (a := (47 : UInt8)) (l := s.data.toList)
 have e : s.data.toList.length = s.size := rfl
 omega
def encStr (x : ByteArray) : Array Value := #[.string x]
set_option maxHeartbeats 2000000 in
theorem parts1_in (F : Fence) (n : Nat) (h1 : F.fn 178) (h2 : F.fn 121) (hW2 : ∀ {args w R}, Calls Tryz.prog 121 args w R -> CallsIn F (n - 1) Tryz.prog 121 args w R) (hro : F.round = none) (hn : 1 <= n) (lp Bs : Nat) (s : ByteArray) (hs : s.size < 1073741824) (Kp : World -> World -> Prop) (Off : World -> Nat -> Prop) (hKO : ∀ A B g, Kp A B -> Off A g -> B.heap[g]? = A.heap[g]? /\ Off B g)
 (J Jx : List ByteArray -> World -> Prop) (W : World) (hJ : AbidesFrom W.heap.size J) (hO : ∀ cs t, Off (W.alloc (.cells cs t)) W.heap.size) (hBs : Boxed W Bs 9 (.string s))
 (hY : ∀ pre x W1, J pre W1 -> pre.length < (partsB s).length -> YieldAt F (n - 1) Tryz.prog lp (encStr x) W1 fun e W' =>
  (e = .returned (.bool true) /\ J (pre ++ [x]) W' /\ Kp W1 W') \/ (e = .returned (.bool false) /\ Jx (pre ++ [x]) W'))
 (h0 : J [] W) :
 CallsIn F n Tryz.prog 178 #[.func (.yield lp) #[] #[], .pointer (some ⟨Bs, 0, none⟩)] W fun e W' => (∃ v, e = .returned v) /\
  ((∃ ys, ys = partsB s /\ J ys W') \/ (∃ pre, (∃ k, pre = (partsB s).take k) /\ Jx pre W')) := by
 have hcB := hBs.cell
 have hsl := segsB_len s
 refine callsIn_of_wp Tryz.func178 rfl h1 ?_ hro
 simp only [Tryz.ntmps178, List.size_toArray, List.length_cons, List.length_nil, Nat.reduceAdd, Nat.reduceSub, Array.replicate_succ, Array.replicate_zero, List.push_toArray, List.append_toArray, List.nil_append, List.cons_append]
 gi_wp2_with (gi_at_call 121; refine (hW2 (splitSlash s _ (by omega))).mono ?_; rintro e w1 ⟨rfl, rfl⟩)
 have hbk : Blk (W.alloc (.cells ((segsB s).map Value.string).toArray 9)) W.heap.size 9 ((segsB s).map Value.string).toArray := Blk.new W _ _
 have hJ0 : J [] (W.alloc (.cells ((segsB s).map Value.string).toArray 9)) := hJ _ _ _ none h0 (World.grownBy_alloc W _ none) (fun r e => by cases e)
 have hnS := hO ((segsB s).map Value.string).toArray 9
 obtain ⟨W0, hW0⟩ : ∃ W0, W.alloc (.cells ((segsB s).map Value.string).toArray 9) = W0 := ⟨_, rfl⟩
 rw [hW0] at hbk hJ0 hnS ⊢
 clear hW0
 obtain ⟨r, hr⟩ : ∃ r, W.heap.size = r := ⟨_, rfl⟩
 rw [hr] at hbk hnS ⊢
 clear hr
 have HKO := Lib.hid hKO
 have hY' := Lib.hid hY
 have hJ' := Lib.hid hJ
 clear hY hJ hKO hO
 have hto := Lib.hid (partsTo_all s)
 obtain ⟨N, hN⟩ : ∃ N, (segsB s).length = N := ⟨_, rfl⟩
 have HN := Lib.hid hN
 rw [hN] at hsl ⊢
 clear hN
 gi_loopw [8] (fun i wr => ∃ k : Nat, k <= N /\ i = .int .i64 k /\ J (partsTo s k) wr /\ Blk wr r 9 ((segsB s).map Value.string).toArray /\ Hid (Off wr r)) (fun i _ => N - (intOf i).toNat)
 case atStart => exact ⟨0, Nat.zero_le _, rfl, hJ0, hbk, Lib.hid hnS⟩
 case round =>
  obtain ⟨k, hk, rfl, hJk, hbl, hof⟩ := hrel
  by_cases hlt : k < N
  · have hlt' : k < (segsB s).length := by rw [HN.out]; exact hlt
    obtain ⟨x, hx⟩ : ∃ x, (segsB s)[k] = x := ⟨_, rfl⟩
    have hce : wr.cell? ⟨r, k, none⟩ = some (.string x) := by
     rw [hbl.cell]
     simp [<- hx, hlt']
    have hsu := partsTo_succ hlt'
    rw [hx] at hsu
    by_cases he : x.toList.isEmpty = true
    · rw [if_pos he, List.append_nil] at hsu
      have HS := Lib.hid hsu
      clear hsu hx
      gi_wp2
      refine ⟨fun f hf => (by cases hf), ?_⟩
      gi_wp2
      go_roundw
      case rel => exact ⟨k + 1, by omega, by go_num, by rw [HS.out]; exact hJk, hbl, hof⟩
      case measure => simp [intOf]; omega
    · rw [if_neg he] at hsu
      have he' : x.toList.isEmpty = false := by simpa using he
      have HS := Lib.hid hsu
      have hpl : (partsTo s k).length < (partsB s).length := by
       have h1 := partsTo_le s (k + 1)
       rw [hsu] at h1
       rw [List.length_append, List.length_singleton] at h1
       omega
      obtain ⟨fn, tmps, assign, body, hy, hRr⟩ := hY'.out _ x wr hJk hpl
      simp only [encStr] at hy
      clear hsu hx hpl
      gi_wp2
      refine hRr.mono ?_
      rintro e W3 (⟨rfl, hJ3, hk3⟩ | ⟨rfl, hJx3⟩)
      · have hb3 : Blk W3 r 9 _ := (HKO.out _ _ r hk3 hof.out).1.trans hbl
        have hof3 := Lib.hid (HKO.out _ _ r hk3 hof.out).2
        gi_wp2
        go_roundw
        case rel => exact ⟨k + 1, by omega, by go_num, by rw [HS.out]; exact hJ3, hb3, hof3⟩
        case measure => simp [intOf]; omega
      · obtain ⟨j, hj⟩ := partsTo_prefix s (k + 1)
        rw [HS.out] at hj
        have HJ := Lib.hid hj
        clear hj
        gi_wp2
        refine bodyPost_ret (results_none rfl _ _ _) rfl ?_
        exact ⟨⟨_, rfl⟩, .inr ⟨_, ⟨j, HJ.out⟩, hJx3⟩⟩
  · obtain rfl : k = N := by omega
    gi_wp2
    go_end0
    exact ⟨⟨_, rfl⟩, .inl ⟨_, rfl, by rw [<- hto.out, HN.out]; exact hJk⟩⟩
theorem parts1_stopsK (F : Fence) (n : Nat) (h1 : F.fn 178) (h2 : F.fn 121) (hW2 : ∀ {args w R}, Calls Tryz.prog 121 args w R -> CallsIn F (n - 1) Tryz.prog 121 args w R) (hro : F.round = none) (hn : 1 <= n) (Bs : Nat) (s : ByteArray) (hs : s.size < 1073741824)
 (Kp : World -> World -> Prop) (Off : World -> Nat -> Prop) (hKO : ∀ A B g, Kp A B -> Off A g -> B.heap[g]? = A.heap[g]? /\ Off B g)
 (w : World) (hO : ∀ W, Below w.heap.size w W -> ∀ cs t, Off (W.alloc (.cells cs t)) W.heap.size) (hBs : Boxed w Bs 9 (.string s)) :
 SeqStopsK F n Tryz.prog 178 #[.pointer (some ⟨Bs, 0, none⟩)] encStr Kp (fun ys => ys = partsB s) (fun pre => ∃ k, pre = (partsB s).take k) (partsB s).length w := fun lp J Jx W hW hJ _ hY h0 =>
 parts1_in F n h1 h2 hW2 hro hn lp Bs s hs Kp Off hKO J Jx W hJ (hO W hW) (show W.heap[Bs]? = _ from (hW.block Bs hBs.lt).trans hBs) hY h0
theorem parts1_stops (F : Fence) (n : Nat) (h1 : F.fn 178) (h2 : F.fn 121) (hW2 : ∀ {args w R}, Calls Tryz.prog 121 args w R -> CallsIn F (n - 1) Tryz.prog 121 args w R) (hro : F.round = none) (hn : 1 <= n) (Bs : Nat) (s : ByteArray) (hs : s.size < 1073741824) (S : List Nat)
 (w : World) (hS : ∀ g ∈ S, g < w.heap.size) (hBs : Boxed w Bs 9 (.string s)) :
 SeqStopsK F n Tryz.prog 178 #[.pointer (some ⟨Bs, 0, none⟩)] encStr (KeepCells S) (fun ys => ys = partsB s) (fun pre => ∃ k, pre = (partsB s).take k) (partsB s).length w :=
 parts1_stopsK F n h1 h2 hW2 hro hn Bs s hs (KeepCells S) (fun W g => (∃ t cs, Blk W g t cs) /\ g ∉ S)
  (fun A B g hk ⟨⟨t, cs, hb⟩, hg⟩ => ⟨(hk.blk hb hg).trans (show A.heap[g]? = _ from hb).symm, ⟨t, cs, hk.blk hb hg⟩, hg⟩) w
  (fun W hW cs t => ⟨⟨t, cs, Blk.new W t cs⟩, fun h => by have := hS _ h; have := hW.size; omega⟩) hBs
set_option maxHeartbeats 1000000 in
theorem parts_in (F : Fence) (n : Nat) (h : F.fn 155) (hro : F.round = none) (s : ByteArray) (w : World) :
 CallsIn F n Tryz.prog 155 #[.string s] w fun e w' => e = .returned (.func (.func 178) #[] #[.pointer (some ⟨w.heap.size, 0, none⟩)]) /\ w' = w.alloc (.cells #[.string s] 9) := by
 refine callsIn_of_wp Tryz.func155 rfl h ?_ hro
 simp only [Tryz.ntmps155, List.size_toArray, List.length_cons, List.length_nil, Nat.reduceAdd, Nat.reduceSub, Array.replicate_succ, Array.replicate_zero, List.push_toArray, List.append_toArray, List.nil_append, List.cons_append]
 gi_wp2
 go_ret
 exact ⟨rfl, rfl⟩
end
section
set_option maxRecDepth 100000
open Go.RowKit Go.Maps
attribute [local go_sem] Oper.semAt_some
def plainL (l : List ByteArray) : List Abs.Name := l.map (·.data.toList)
theorem plainL_parts (s : ByteArray) : plainL (partsB s) = Abs.parts s.data.toList := by simp [plainL, partsB, Function.comp_def]
def leadsV (β : Nat -> Nat) : Except Nat Nat -> Value
 | .ok j => .tuple #[ptrV (β j), .int .i64 0]
 | .error e => .tuple #[.pointer none, .int .i64 (e : Int)]
theorem stringKeys : Keyed Tryz.prog 9 := string_keyed Tryz.underlying9
theorem leads_append {t : Abs.T} : ∀ (l m : List Abs.Name) (i : Nat), t.leads i (l ++ m) = match t.leads i l with | .ok j => t.leads j m | .error e => .error e := by
 intro l
 induction l with
 | nil => intro m i; simp [Abs.T.leads]
 | cons p ps ih =>
   intro m i
   rw [List.cons_append, Abs.T.leads_cons, Abs.T.leads_cons]
   cases t.step i p with
   | error e => rfl
   | ok j => exact ih m j
theorem leads_snoc {t : Abs.T} (l : List Abs.Name) (p : Abs.Name) (i j : Nat) (h : t.leads i l = .ok j) : t.leads i (l ++ [p]) = t.step j p := by
 rw [leads_append, h]
 show t.leads j [p] = _
 rw [Abs.T.leads_cons]
 cases t.step j p <;> rfl
theorem leads_stop {t : Abs.T} (l : List Abs.Name) (k i e : Nat) (h : t.leads i (l.take k) = .error e) : t.leads i l = .error e := by
 conv => lhs; rw [<- List.take_append_drop k l]
 rw [leads_append, h]
theorem Boxed_below {W W' : World} {B b : Nat} {t : TypeId} {v : Value} (h : Boxed W b t v) (hb : Below B W W') (hlt : b < B) : Boxed W' b t v := (hb.block b hlt).trans h
theorem boxed_row {W W' : World} {row : Option Nat} {b : Nat} {t : TypeId} {v : Value} (h : Boxed W b t v) (hg : W.grownBy W' row) (hr : ∀ r, row = some r -> ∃ o : Obj, W.heap[r]? = some o /\ o.isCells = false) : Boxed W' b t v :=
 h.kept hg (fun e => by obtain ⟨o, ho, hc⟩ := hr b e.symm; rw [show W.heap[b]? = _ from h] at ho; cases ho; cases hc)
theorem keepCells_below {W W' : World} (S : List Nat) (hb : Below W.heap.size W W') : KeepCells S W W' := ⟨hb.size, fun g _ hg _ _ => (hb.block g (Array.getElem?_eq_some_iff.1 hg).1).trans hg⟩
theorem keyOf_str (x : ByteArray) (h : x.size <= maxLen) : keyOf Tryz.prog 9 (.string x) = some (.string x.data.toList) := by
 simp [keyOf, mapKey, Tryz.underlying9, h]
theorem named_size {x : ByteArray} (h : Abs.named x.data.toList = true) : x.size <= 32 := by
 unfold Abs.named at h
 simp only [Bool.and_eq_true, decide_eq_true_eq] at h
 exact h.1.1.1.2
set_option maxHeartbeats 4000000 in
theorem leads_wide (w : World) (t : Nat) (S : TS) (T : Abs.T) (β : Nat -> Nat) (h : TreeIs w t S T β) (i0 : Nat) (hi0 : ∃ x, T.get i0 = some x) (path : ByteArray) (hp : path.size < 1073741824) :
 CallsIn Fence.wide 4 Tryz.prog 126 #[ptrV t, ptrV (β i0), .string path] w fun e w' => e = .returned (leadsV β (T.leads i0 (Abs.parts path.data.toList))) /\ Below w.heap.size w w' := by
 refine callsIn_of_wp_marks Tryz.func126 rfl trivial ?_ rfl
 simp only [Tryz.ntmps126, List.size_toArray, List.length_cons, List.length_nil, Nat.reduceAdd, Nat.reduceSub, Array.replicate_succ, Array.replicate_zero, List.push_toArray, List.append_toArray, List.nil_append, List.cons_append]
 unfold ptrV
 have f112 : Fence.wide.fn 155 := trivial
 have f105 : Fence.wide.fn 122 := trivial
 gi_wp2_with (gi_at_call 155; refine (parts_in Fence.wide 3 trivial rfl path _).mono ?_; rintro e w' ⟨rfl, rfl⟩)
 have b4 := (((Boxed.new w 166 (.pointer (some ⟨β i0, 0, none⟩))).alloc (.cells #[.pointer none] 166)).alloc (.cells #[.int .i64 0] 52)).alloc (.cells #[.string path] 9)
 have b6 := ((Boxed.new (w.alloc (.cells #[.pointer (some ⟨β i0, 0, none⟩)] 166)) 166 (.pointer none)).alloc (.cells #[.int .i64 0] 52)).alloc (.cells #[.string path] 9)
 have b7 := (Boxed.new ((w.alloc (.cells #[.pointer (some ⟨β i0, 0, none⟩)] 166)).alloc (.cells #[.pointer none] 166)) 52 (.int .i64 0)).alloc (.cells #[.string path] 9)
 have bP := Boxed.new (((w.alloc (.cells #[.pointer (some ⟨β i0, 0, none⟩)] 166)).alloc (.cells #[.pointer none] 166)).alloc (.cells #[.int .i64 0] 52)) 9 (.string path)
 simp only [World.size_alloc] at b6 b7 bP
 have hB0 : Below w.heap.size w ((((w.alloc (.cells #[.pointer (some ⟨β i0, 0, none⟩)] 166)).alloc (.cells #[.pointer none] 166)).alloc (.cells #[.int .i64 0] 52)).alloc (.cells #[.string path] 9)) :=
  ((((Below.refl _ w).alloc (Nat.le_refl _) _).alloc (by simp) _).alloc (by simp; omega) _).alloc (by simp; omega) _
 have hsz : ((((w.alloc (.cells #[.pointer (some ⟨β i0, 0, none⟩)] 166)).alloc (.cells #[.pointer none] 166)).alloc (.cells #[.int .i64 0] 52)).alloc (.cells #[.string path] 9)).heap.size = w.heap.size + 1 + 1 + 1 + 1 := by simp
 obtain ⟨W0, hW0⟩ : ∃ W0, (((w.alloc (.cells #[.pointer (some ⟨β i0, 0, none⟩)] 166)).alloc (.cells #[.pointer none] 166)).alloc (.cells #[.int .i64 0] 52)).alloc (.cells #[.string path] 9) = W0 := ⟨_, rfl⟩
 rw [hW0] at b4 b6 b7 bP hB0 hsz ⊢
 clear hW0
 have hstops := parts1_stops Fence.wide 3 trivial trivial (fun h => callsIn_wide.2 h) rfl (by omega) (w.heap.size + 1 + 1 + 1) path hp [w.heap.size] W0 (by simp; omega) bP
 refine wpIn_rangeFunc_ownH rfl (by omega) (gf := 178) (lb := #[.pointer (some ⟨w.heap.size + 1 + 1 + 1, 0, none⟩)]) rfl trivial (enters_of Tryz.func178 (by kernel_rfl) rfl)
  hstops KeepCells.trans (fun W l o o' _ hl hc _ => KeepCells.putObj W l o o' hl hc) (Below.refl _ _) (fun _ => rfl)
  (fun pre W => (∃ i, T.leads i0 (plainL pre) = .ok i /\ (∃ x, T.get i = some x) /\ Boxed W w.heap.size 166 (.pointer (some ⟨β i, 0, none⟩))) /\ Boxed W (w.heap.size + 1) 166 (.pointer none) /\ Boxed W (w.heap.size + 1 + 1) 52 (.int .i64 0) /\ Below w.heap.size w W)
  (fun k pre W => (k = .ret /\ ∃ e : Nat, T.leads i0 (plainL pre) = .error e /\ Boxed W (w.heap.size + 1) 166 (.pointer none) /\ Boxed W (w.heap.size + 1 + 1) 52 (.int .i64 (e : Int))) /\ Below w.heap.size w W)
  ?own ?ownx ?start
  (fun x a' _ => a' = { tmps := #[Value.pointer (some ⟨t, 0, none⟩), Value.pointer (some ⟨β i0, 0, none⟩), .string path, undef, .pointer (some ⟨w.heap.size, 0, none⟩), undef, .pointer (some ⟨w.heap.size + 1, 0, none⟩), .pointer (some ⟨w.heap.size + 1 + 1, 0, none⟩), .string x, undef, undef, .string path, .func (.func 178) #[] #[.pointer (some ⟨w.heap.size + 1 + 1 + 1, 0, none⟩)], .string x, undef, undef, undef, undef, undef, undef, undef, undef, undef, undef, undef, undef, undef, undef, undef, undef, undef, undef, undef, undef, undef, undef, undef, undef, undef, undef, undef, undef, undef, undef, undef, undef, undef], defers := [] })
  (fun x a' s X Y row hs hg hr => hs)
  ?assign ?body ?done ?stop
 case own =>
  rintro pre X Y row ⟨⟨i, h1, h2, h3⟩, h4, h5, h6⟩ hg hr
  exact ⟨⟨i, h1, h2, boxed_row h3 hg fun r e => (hr r e).2⟩, boxed_row h4 hg fun r e => (hr r e).2, boxed_row h5 hg fun r e => (hr r e).2, h6.grown hg h6.size fun r e => (hr r e).1 |> Nat.le_trans hB0.size⟩
 case ownx =>
  rintro k pre X Y row ⟨⟨hk, e, h1, h4, h5⟩, h6⟩ hg hr
  exact ⟨⟨hk, e, h1, boxed_row h4 hg fun r e => (hr r e).2, boxed_row h5 hg fun r e => (hr r e).2⟩, h6.grown hg h6.size fun r e => (hr r e).1 |> Nat.le_trans hB0.size⟩
 case start => exact ⟨⟨i0, rfl, hi0, b4⟩, b6, b7, hB0⟩
 case assign =>
  rintro lp pre x W K hI hK
  simp only [encStr]
  gi_wp2
  exact hK _ _ (KeepsFrom.refl _ _) (KeepCells.refl _ _) hI rfl
 case body =>
  rintro lp pre x a' W hlp _ ⟨⟨i, hi, ⟨z, hz⟩, c4⟩, c6, c7, hBw⟩ rfl hlt
  obtain ⟨y, hy, by0, _, _, _, hyd, _, hdir, _, _⟩ := h.at_ hz
  have byW : Blk W (β i) 179 (itemCells y) := by0.below hBw by0.lt
  have k3 : W.cell? ⟨β i, 3, none⟩ = some (.bool y.dir) := byW.cell 3
  have k5 : W.cell? ⟨β i, 5, none⟩ = some (.map (if y.dir then some y.nb else none)) := byW.cell 5
  have k6 : W.cell? ⟨β i, 6, none⟩ = some (.pointer (if y.dir then some ⟨y.up, 0, none⟩ else none)) := byW.cell 6
  have g4 := c4.cell
  have l4 := c4.lt
  have f4 := c4.frozen
  have g6 := c6.cell
  have f6 := c6.frozen
  have g7 := c7.cell
  have f7 := c7.frozen
  have hsn := leads_snoc (t := T) (plainL pre) x.data.toList i0 i hi
  have hpx : plainL (pre ++ [x]) = plainL pre ++ [x.data.toList] := by simp [plainL]
  rw [<- hpx] at hsn
  have HS := Lib.hid hsn
  have HI := Lib.hid hi
  have HB := Lib.hid hBw
  clear hi hsn hpx hsz hBw
  have kret : ∀ (e : Nat), T.step i x.data.toList = .error e -> (KeepsFrom W0.heap.size W ((W.setCell ⟨w.heap.size + 1, 0, none⟩ (.pointer none)).setCell ⟨w.heap.size + 1 + 1, 0, none⟩ (.int .i64 (e : Int)))) := fun e _ => KeepsFrom.trans ((KeepsOthers.setCell _ _ _).from _) ((KeepsOthers.setCell _ _ _).from _)
  by_cases hd : z.dir = true
  · rw [hd] at hyd
    rw [hyd] at k3 k5 k6
    simp only [if_true] at k5 k6
    obtain ⟨hnf, hup⟩ := hdir hd
    by_cases h1 : x.data.toList = Abs.dot
    · have hst : T.step i x.data.toList = .ok i := by simp [Abs.T.step, hz, hd, h1]
      have h1' : x.toList = [46] := by rw [Lib.toList_data]; exact h1
      clear h1
      gi_wp2
      exact ⟨KeepsFrom.refl _ _, KeepCells.refl _ _, ⟨i, by rw [HS.out, hst], ⟨z, hz⟩, c4⟩, c6, c7, HB.out⟩
    by_cases h2 : x.data.toList = Abs.dotdot
    · have hst : T.step i x.data.toList = .ok z.up := by simp [Abs.T.step, hz, hd, h2, Abs.dot, Abs.dotdot]
      have h1' : ¬ x.toList = [46] := by rw [Lib.toList_data]; exact h1
      have h2' : x.toList = [46, 46] := by rw [Lib.toList_data]; exact h2
      clear h1 h2
      rw [hup] at k6
      gi_wp2
      exact ⟨(KeepsOthers.setCell _ _ _).from _, KeepCells.setCell _ _ _ (by simp), ⟨z.up, by rw [HS.out, hst], h.wf.step_live hz hst, c4.set _⟩, c6.other (by omega) _, c7.other (by omega) _, HB.out.setCell (p := ⟨w.heap.size, 0, none⟩) (by simp) _⟩
    have h1' : (x.toList == [46]) = false := beq_eq_false_iff_ne.2 (by rw [Lib.toList_data]; exact h1)
    have h2' : (x.toList == [46, 46]) = false := beq_eq_false_iff_ne.2 (by rw [Lib.toList_data]; exact h2)
    have hnd := fun w2 => named_any x w2
    cases hn : Abs.named x.data.toList with
    | false =>
      have hst : T.step i x.data.toList = .error 13 := by simp [Abs.T.step, hz, hd, h1, h2, hn]
      rw [hn] at hnd
      clear h1 h2
      gi_wp2_with (gi_at_call 122; refine (callsIn_wide.2 (hnd _)).mono ?_; rintro e w2 ⟨rfl, hb⟩; have c62 := Boxed_below c6 hb c6.lt; have c72 := Boxed_below c7 hb c7.lt; have g6 := c62.cell; have f6 := c62.frozen; have g7 := c72.cell; have f7 := c72.frozen)
      exact ⟨(KeepsFrom.trans (KeepsFrom.of_grownBy (only_of_below hb none) (fun j e => by cases e)) (KeepsFrom.trans ((KeepsOthers.setCell _ _ _).from _) ((KeepsOthers.setCell _ _ _).from _))), ⟨rfl, 13, by rw [HS.out, hst], (c62.set _).other (by omega) _, (c72.other (by omega) _).set _⟩, ((HB.out.trans (hb.mono HB.out.size)).setCell (p := ⟨w.heap.size + 1, 0, none⟩) (by simp) _).setCell (p := ⟨w.heap.size + 1 + 1, 0, none⟩) (by simp; omega) _⟩
    | true =>
      rw [hn] at hnd
      have hm := ((h.mem.item _ _ hy).2.2 hyd).1
      have hL := fun w2 (hb : Below W.heap.size W w2) => MapOf.look (hm.same (w' := w2) ((hb.block _ (Nat.lt_of_lt_of_le hm.lt HB.out.size)).trans (HB.out.block _ hm.lt))) stringKeys Tryz.underlying177 (show (zeroValue 166).run Tryz.prog w2 = .ok (.pointer none) w2 from by kernel_rfl) (key := .string x) (kl := .string x.data.toList) (keyOf_str x (by have := named_size hn; unfold maxLen; omega))
      have hns : namesF y.nf (.string x.data.toList) = ((Abs.lk z.names x.data.toList).map β).map ptrV := by show (y.nf _).map ptrV = _; rw [hnf]
      rw [hns] at hL
      cases hlk : Abs.lk z.names x.data.toList with
      | none =>
        have hst : T.step i x.data.toList = .error 1 := by simp [Abs.T.step, hz, hd, h1, h2, hn, hlk]
        rw [hlk] at hL
        simp only [Option.map_none, Option.getD_none, Option.isSome_none] at hL
        have HL := Lib.hid hL
        clear h1 h2 hL hns
        gi_wp2_with (gi_at_call 122; refine (callsIn_wide.2 (hnd _)).mono ?_; rintro e w2 ⟨rfl, hb⟩; have hl2 := HL.out w2 hb; have c42 := (Boxed_below c4 hb c4.lt).cell; have k52 := (hb.cell (p := ⟨β i, 5, none⟩) byW.lt).trans k5; have c62 := Boxed_below c6 hb c6.lt; have c72 := Boxed_below c7 hb c7.lt; have g6 := c62.cell; have f6 := c62.frozen; have g7 := c72.cell; have f7 := c72.frozen)
        exact ⟨(KeepsFrom.trans (KeepsFrom.of_grownBy (only_of_below hb none) (fun j e => by cases e)) (KeepsFrom.trans ((KeepsOthers.setCell _ _ _).from _) ((KeepsOthers.setCell _ _ _).from _))), ⟨rfl, 1, by rw [HS.out, hst], (c62.set _).other (by omega) _, (c72.other (by omega) _).set _⟩, ((HB.out.trans (hb.mono HB.out.size)).setCell (p := ⟨w.heap.size + 1, 0, none⟩) (by simp) _).setCell (p := ⟨w.heap.size + 1 + 1, 0, none⟩) (by simp; omega) _⟩
      | some j =>
        have hst : T.step i x.data.toList = .ok j := by simp [Abs.T.step, hz, hd, h1, h2, hn, hlk]
        rw [hlk] at hL
        simp only [Option.map_some, Option.getD_some, Option.isSome_some, ptrV] at hL
        have HL := Lib.hid hL
        clear h1 h2 hL hns
        gi_wp2_with (gi_at_call 122; refine (callsIn_wide.2 (hnd _)).mono ?_; rintro e w2 ⟨rfl, hb⟩; have hl2 := HL.out w2 hb; have b42 := Boxed_below c4 hb c4.lt; have c42 := b42.cell; have f42 := b42.frozen; have k52 := (hb.cell (p := ⟨β i, 5, none⟩) byW.lt).trans k5; have c62 := Boxed_below c6 hb c6.lt; have c72 := Boxed_below c7 hb c7.lt)
        exact ⟨KeepsFrom.trans (KeepsFrom.of_grownBy (only_of_below hb none) (fun j e => by cases e)) ((KeepsOthers.setCell _ _ _).from _), KeepCells.trans (keepCells_below _ hb) (KeepCells.setCell _ _ _ (by simp)), ⟨j, by rw [HS.out, hst], h.wf.step_live hz hst, b42.set _⟩, c62.other (by omega) _, c72.other (by omega) _, (HB.out.trans (hb.mono HB.out.size)).setCell (p := ⟨w.heap.size, 0, none⟩) (by simp) _⟩
  · have hd' : z.dir = false := by simpa using hd
    rw [hd'] at hyd
    rw [hyd] at k3
    have hst : T.step i x.data.toList = .error 3 := by simp [Abs.T.step, hz, hd']
    gi_wp2
    exact ⟨kret 3 hst, ⟨rfl, 3, by rw [HS.out, hst], (c6.set _).other (by omega) _, (c7.other (by omega) _).set _⟩, (HB.out.setCell (p := ⟨w.heap.size + 1, 0, none⟩) (by simp) _).setCell (p := ⟨w.heap.size + 1 + 1, 0, none⟩) (by simp; omega) _⟩
 case done =>
  rintro D ys W hD rfl ⟨⟨i, hi, _, c4⟩, c6, c7, hBw⟩ hK
  have g4 := c4.cell
  have g6 := c6.cell
  have f6 := c6.frozen
  have g7 := c7.cell
  have f7 := c7.frozen
  have hDw : w.heap.size <= D := Nat.le_trans hB0.size hD
  have HI := Lib.hid hi
  clear hi hsz
  gi_wp2
  have h1' := (c6.set (.pointer (some ⟨β i, 0, none⟩))).other (B' := w.heap.size + 1 + 1) (by omega) (.int .i64 0)
  have h2' := (c7.other (B' := w.heap.size + 1) (by omega) (.pointer (some ⟨β i, 0, none⟩))).set (.int .i64 0)
  have hK' := (KeepsOthers.trans (KeepsOthers.setCell W ⟨w.heap.size + 1, 0, none⟩ (.pointer (some ⟨β i, 0, none⟩))) (KeepsOthers.setCell _ ⟨w.heap.size + 1 + 1, 0, none⟩ (.int .i64 0))).same D _ hK rfl
  refine ⟨by simp, .inl ⟨_, _, rfl, run_takeDeferred hK', ?_⟩⟩
  have r1 := cell_kept h1'.cell (grownBy_putObj' _ D (.deferred none)) (fun r e => by cases e; exact ⟨_, hK', rfl⟩)
  have r2 := cell_kept h2'.cell (grownBy_putObj' _ D (.deferred none)) (fun r e => by cases e; exact ⟨_, hK', rfl⟩)
  refine ⟨.tuple #[.pointer (some ⟨β i, 0, none⟩), .int .i64 0], ?_, by rw [<- plainL_parts, HI.out]; rfl, ((hBw.setCell (p := ⟨w.heap.size + 1, 0, none⟩) (by simp) _).setCell (p := ⟨w.heap.size + 1 + 1, 0, none⟩) (by simp; omega) _).trans (belowK_b (w := w) (Nat.le_refl _) _ D _ _ hDw hK' rfl rfl)⟩
  simp [results, Tryz.f126, go_sem, r1, r2]
 case stop =>
  rintro D k pre W hD ⟨k', rfl⟩ ⟨⟨rfl, e, he, c6, c7⟩, hBw⟩ hK
  have hDw : w.heap.size <= D := Nat.le_trans hB0.size hD
  gi_wp2
  refine ⟨by simp, .inl ⟨_, _, rfl, run_takeDeferred hK, ?_⟩⟩
  have r1 := cell_kept c6.cell (grownBy_putObj' _ D (.deferred none)) (fun r e => by cases e; exact ⟨_, hK, rfl⟩)
  have r2 := cell_kept c7.cell (grownBy_putObj' _ D (.deferred none)) (fun r e => by cases e; exact ⟨_, hK, rfl⟩)
  have hfin : T.leads i0 (Abs.parts path.data.toList) = .error e := by
   rw [<- plainL_parts]
   refine leads_stop _ k' _ _ ?_
   rw [<- he]
   simp [plainL, List.map_take]
  refine ⟨.tuple #[.pointer none, .int .i64 (e : Int)], ?_, by rw [hfin]; rfl, hBw.trans (belowK_b (w := w) (Nat.le_refl _) _ D _ _ hDw hK rfl rfl)⟩
  simp [results, Tryz.f126, go_sem, r1, r2]
theorem leads_any (w : World) (t : Nat) (S : TS) (T : Abs.T) (β : Nat -> Nat) (h : TreeIs w t S T β) (i0 : Nat) (hi0 : ∃ x, T.get i0 = some x) (path : ByteArray) (hp : path.size < 1073741824) :
 Calls Tryz.prog 126 #[.pointer (some ⟨t, 0, none⟩), .pointer (some ⟨β i0, 0, none⟩), .string path] w fun e w' => e = .returned (leadsV β (T.leads i0 (Abs.parts path.data.toList))) /\ Below w.heap.size w w' :=
 callsIn_wide.1 (leads_wide w t S T β h i0 hi0 path hp)
end
section
set_option maxRecDepth 100000
open Go.RowKit Go.Maps
set_option maxHeartbeats 2000000 in
theorem from_any (w : World) (t : Nat) (S : TS) (T : Abs.T) (β : Nat -> Nat) (h : TreeIs w t S T β) (cwd path : ByteArray) (hc : cwd.size < 1073741824) (hp : path.size < 1073741824) :
 Calls Tryz.prog 125 #[.pointer (some ⟨t, 0, none⟩), .string cwd, .string path] w fun e w' => e = .returned (leadsV β (T.start cwd.data.toList path.data.toList)) /\ Below w.heap.size w w' := by
 have c0 : w.cell? ⟨t, 0, none⟩ = some (.pointer (some ⟨β 1, 0, none⟩)) := by rw [h.mem.blk.cell 0, <- h.rep.root]; rfl
 have hl := leads_any w t S T β h 1 h.wf.root_live cwd hc
 obtain ⟨r, hr⟩ : ∃ r, T.leads 1 (Abs.parts cwd.data.toList) = r := ⟨_, rfl⟩
 rw [hr] at hl
 obtain ⟨q, hq⟩ : ∃ q, T.start cwd.data.toList path.data.toList = q := ⟨_, rfl⟩
 rw [hq]
 unfold Abs.T.start at hq
 rw [hr] at hq
 cases r with
 | error e =>
   have he := Abs.T.leads_ne0 hr
   have he1 : ((e : Int) != 0) = true := by simpa using he
   simp only at hq
   subst hq
   clear hr he
   unfold leadsV at hl ⊢
   go_enter Tryz.func125, Tryz.ntmps125
   go_wp2_with (go_at_call 126; refine hl.mono ?_; rintro e w' ⟨rfl, hb⟩)
   go_ret2
   exact ⟨rfl, hb⟩
 | ok i =>
   obtain ⟨x, hx⟩ := h.wf.leads_live _ _ h.wf.root_live hr
   obtain ⟨y, hy, by0, _, _, _, hyd, _, _, _, _⟩ := h.at_ hx
   have k3 : w.cell? ⟨β i, 3, none⟩ = some (.bool x.dir) := by rw [by0.cell 3, <- hyd]; rfl
   have lb := by0.lt
   have lt' := h.mem.blk.lt
   have hdx : T.isDir i = x.dir := by simp [Abs.T.isDir, hx]
   simp only [hdx] at hq
   clear hr hx hy by0 hyd hdx
   unfold leadsV ptrV at hl
   simp only at hl
   cases hd : x.dir with
   | false =>
     rw [hd] at k3 hq
     simp only [if_true] at hq
     subst hq
     go_enter Tryz.func125, Tryz.ntmps125
     go_wp2_with (go_at_call 126; refine hl.mono ?_; rintro e w' ⟨rfl, hb⟩; have k32 := (hb.cell (p := ⟨β i, 3, none⟩) lb).trans k3)
     go_ret2
     exact ⟨rfl, hb⟩
   | true =>
     rw [hd] at k3 hq
     simp only [Bool.true_eq_false, if_false] at hq
     obtain ⟨⟨l⟩⟩ := path
     cases l with
     | nil =>
       simp only at hq
       subst hq
       go_enter Tryz.func125, Tryz.ntmps125
       go_wp2_with (go_at_call 126; refine hl.mono ?_; rintro e w' ⟨rfl, hb⟩; have k32 := (hb.cell (p := ⟨β i, 3, none⟩) lb).trans k3)
       go_ret2
       exact ⟨rfl, hb⟩
     | cons c l =>
       simp only at hq
       by_cases h47 : c = 47
       · rw [if_pos h47] at hq
         subst hq h47
         go_enter Tryz.func125, Tryz.ntmps125
         go_wp2_with (go_at_call 126; refine hl.mono ?_; rintro e w' ⟨rfl, hb⟩; have k32 := (hb.cell (p := ⟨β i, 3, none⟩) lb).trans k3; have c02 := (hb.cell (p := ⟨t, 0, none⟩) lt').trans c0)
         go_ret2
         exact ⟨rfl, hb⟩
       · rw [if_neg h47] at hq
         subst hq
         have hz : ((c.toNat : Int) == 47) = false := beq_eq_false_iff_ne.2 (fun e => h47 (UInt8.toNat_inj.1 (show c.toNat = (47 : UInt8).toNat from by exact_mod_cast e)))
         have hz' : ((((⟨⟨c :: l⟩⟩ : ByteArray)[0]'(Nat.succ_pos _)).toNat : Int) == 47) = false := hz
         clear h47
         go_enter Tryz.func125, Tryz.ntmps125
         go_wp2_with (go_at_call 126; refine hl.mono ?_; rintro e w' ⟨rfl, hb⟩; have k32 := (hb.cell (p := ⟨β i, 3, none⟩) lb).trans k3; have c02 := (hb.cell (p := ⟨t, 0, none⟩) lt').trans c0)
         go_ret2
         exact ⟨rfl, hb⟩
theorem slash_suffix (s : ByteArray) : Lib.hasSuffix s.data.toList [47] = Abs.slash s.data.toList := by
 unfold Lib.hasSuffix Abs.slash
 rw [Bool.eq_iff_iff, List.isSuffixOf_iff_suffix, beq_iff_eq, List.getLast?_eq_some_iff]
 exact ⟨fun ⟨t, ht⟩ => ⟨t, ht.symm⟩, fun ⟨t, ht⟩ => ⟨t, ht.symm⟩⟩
set_option maxHeartbeats 2000000 in
theorem look_any (w : World) (t : Nat) (S : TS) (T : Abs.T) (β : Nat -> Nat) (h : TreeIs w t S T β) (cwd path : ByteArray) (hc : cwd.size < 1073741824) (hp : path.size < 1073741824) :
 Calls Tryz.prog 95 #[.pointer (some ⟨t, 0, none⟩), .string cwd, .string path] w fun e w' => e = .returned (leadsV β (T.look cwd.data.toList path.data.toList)) /\ Below w.heap.size w w' := by
 have hf := from_any w t S T β h cwd path hc hp
 obtain ⟨r, hr⟩ : ∃ r, T.start cwd.data.toList path.data.toList = r := ⟨_, rfl⟩
 rw [hr] at hf
 obtain ⟨q, hq⟩ : ∃ q, T.look cwd.data.toList path.data.toList = q := ⟨_, rfl⟩
 rw [hq]
 unfold Abs.T.look at hq
 rw [hr] at hq
 cases r with
 | error e =>
   have he := Abs.T.start_ne0 hr
   have he1 : ((e : Int) != 0) = true := by simpa using he
   simp only at hq
   subst hq
   clear hr he
   unfold leadsV at hf ⊢
   go_enter Tryz.func95, Tryz.ntmps95
   go_wp2_with (go_at_call 125; refine hf.mono ?_; rintro e w' ⟨rfl, hb⟩)
   go_ret2
   exact ⟨rfl, hb⟩
 | ok i =>
   obtain ⟨x, hx, hxd⟩ := Abs.isDir_of (h.wf.start_dir hr)
   simp only at hq
   obtain ⟨r2, hr2⟩ : ∃ r, T.leads i (Abs.parts path.data.toList) = r := ⟨_, rfl⟩
   rw [hr2] at hq
   have hl := fun w2 (hb : Below w.heap.size w w2) => leads_any w2 t S T β (h.below hb) i ⟨x, hx⟩ path hp
   rw [hr2] at hl
   unfold leadsV ptrV at hf
   simp only at hf
   clear hr
   cases r2 with
   | error e =>
     have he := Abs.T.leads_ne0 hr2
     have he1 : ((e : Int) != 0) = true := by simpa using he
     simp only at hq
     subst hq
     clear hr2 he
     unfold leadsV at hl ⊢
     simp only at hl
     go_enter Tryz.func95, Tryz.ntmps95
     go_wp2_with (first | (go_at_call 125; refine hf.mono ?_; rintro e w' ⟨rfl, hb⟩) | (go_at_call 126; refine (hl _ hb).mono ?_; rintro e w2 ⟨rfl, hb2⟩))
     go_ret2
     exact ⟨rfl, hb.trans (hb2.mono hb.size)⟩
   | ok j =>
     obtain ⟨z, hz⟩ := h.wf.leads_live _ _ ⟨x, hx⟩ hr2
     obtain ⟨y, hy, by0, _, _, _, hyd, _, _, _, _⟩ := h.at_ hz
     have k3 : w.cell? ⟨β j, 3, none⟩ = some (.bool z.dir) := by rw [by0.cell 3, <- hyd]; rfl
     have lb := by0.lt
     have hdz : T.isDir j = z.dir := by simp [Abs.T.isDir, hz]
     simp only [hdz] at hq
     have hsf := fun w2 => Tryz.strings_HasSuffix path ⟨#[47]⟩ w2 (by omega)
     rw [slash_suffix] at hsf
     clear hx hxd hr2 hz hy by0 hyd hdz
     unfold leadsV ptrV at hl
     simp only at hl
     cases hs : Abs.slash path.data.toList with
     | false =>
       rw [hs] at hsf hq
       simp only [Bool.false_and, Bool.false_eq_true, if_false] at hq
       subst hq
       go_enter Tryz.func95, Tryz.ntmps95
       go_wp2_with (first | (go_at_call 125; refine hf.mono ?_; rintro e w' ⟨rfl, hb⟩) | (go_at_call 126; refine (hl _ hb).mono ?_; rintro e w2 ⟨rfl, hb2⟩; have k32 := (hb2.cell (p := ⟨β j, 3, none⟩) (Nat.lt_of_lt_of_le lb hb.size)).trans ((hb.cell (p := ⟨β j, 3, none⟩) lb).trans k3)) | (go_at_call 127; refine (hsf _).mono ?_; rintro e w3 ⟨rfl, rfl⟩))
       go_ret2
       exact ⟨rfl, hb.trans (hb2.mono hb.size)⟩
     | true =>
       rw [hs] at hsf hq
       simp only [Bool.true_and] at hq
       cases hd : z.dir with
       | true =>
         rw [hd] at k3 hq
         simp only [Bool.not_true, Bool.false_eq_true, if_false] at hq
         subst hq
         go_enter Tryz.func95, Tryz.ntmps95
         go_wp2_with (first | (go_at_call 125; refine hf.mono ?_; rintro e w' ⟨rfl, hb⟩) | (go_at_call 126; refine (hl _ hb).mono ?_; rintro e w2 ⟨rfl, hb2⟩; have k32 := (hb2.cell (p := ⟨β j, 3, none⟩) (Nat.lt_of_lt_of_le lb hb.size)).trans ((hb.cell (p := ⟨β j, 3, none⟩) lb).trans k3)) | (go_at_call 127; refine (hsf _).mono ?_; rintro e w3 ⟨rfl, rfl⟩))
         go_ret2
         exact ⟨rfl, hb.trans (hb2.mono hb.size)⟩
       | false =>
         rw [hd] at k3 hq
         simp only [Bool.not_false, if_true] at hq
         subst hq
         go_enter Tryz.func95, Tryz.ntmps95
         go_wp2_with (first | (go_at_call 125; refine hf.mono ?_; rintro e w' ⟨rfl, hb⟩) | (go_at_call 126; refine (hl _ hb).mono ?_; rintro e w2 ⟨rfl, hb2⟩; have k32 := (hb2.cell (p := ⟨β j, 3, none⟩) (Nat.lt_of_lt_of_le lb hb.size)).trans ((hb.cell (p := ⟨β j, 3, none⟩) lb).trans k3)) | (go_at_call 127; refine (hsf _).mono ?_; rintro e w3 ⟨rfl, rfl⟩))
         go_ret2
         exact ⟨rfl, hb.trans (hb2.mono hb.size)⟩
theorem Boxed6 {w w' : World} {t : TypeId} {cs : Array Value} (hb : Below (w.alloc (.cells cs t)).heap.size (w.alloc (.cells cs t)) w') : Blk w' w.heap.size t cs := (hb.block _ (by simp)).trans (Blk.new w t cs)
theorem blk6 {w : World} {g : Nat} {t : TypeId} {a0 a1 a2 a3 a4 a5 : Value} (h : Blk w g t #[a0, a1, a2, a3, a4, a5]) : Blk w g t #[a0, a1, a2, a3, a4, a5] /\ w.cell? ⟨g, 0, none⟩ = some a0 /\ w.cell? ⟨g, 1, none⟩ = some a1 /\ w.cell? ⟨g, 2, none⟩ = some a2 /\ w.cell? ⟨g, 3, none⟩ = some a3 /\ w.cell? ⟨g, 4, none⟩ = some a4 /\ w.cell? ⟨g, 5, none⟩ = some a5 /\
 w.frozen? ⟨g, 0, none⟩ = false /\ w.frozen? ⟨g, 1, none⟩ = false /\ w.frozen? ⟨g, 2, none⟩ = false /\ w.frozen? ⟨g, 3, none⟩ = false /\ w.frozen? ⟨g, 4, none⟩ = false /\ w.frozen? ⟨g, 5, none⟩ = false /\ g < w.heap.size :=
 ⟨h, h.cell 0, h.cell 1, h.cell 2, h.cell 3, h.cell 4, h.cell 5, h.frozen 0, h.frozen 1, h.frozen 2, h.frozen 3, h.frozen 4, h.frozen 5, h.lt⟩
theorem set6 {w : World} {g : Nat} {t : TypeId} {a0 a1 a2 a3 a4 a5 : Value} (h : Blk w g t #[a0, a1, a2, a3, a4, a5]) (v0 v1 v2 v3 v4 v5 : Value) : Blk ((((((w.setCell ⟨g, 0, none⟩ v0).setCell ⟨g, 1, none⟩ v1).setCell ⟨g, 2, none⟩ v2).setCell ⟨g, 3, none⟩ v3).setCell ⟨g, 4, none⟩ v4).setCell ⟨g, 5, none⟩ v5) g t #[v0, v1, v2, v3, v4, v5] :=
 (((((h.set_ 0 v0).set_ 1 v1).set_ 2 v2).set_ 3 v3).set_ 4 v4).set_ 5 v5
theorem below_drewN' {B : Nat} {a w : World} (h : Below B a w) : Below B a w.drew := ⟨h.os, h.tape, h.output, h.size, h.block⟩
theorem below6 {B g : Nat} {a w : World} (h : Below B a w) (hg : B <= g) (v0 v1 v2 v3 v4 v5 : Value) : Below B a ((((((w.setCell ⟨g, 0, none⟩ v0).setCell ⟨g, 1, none⟩ v1).setCell ⟨g, 2, none⟩ v2).setCell ⟨g, 3, none⟩ v3).setCell ⟨g, 4, none⟩ v4).setCell ⟨g, 5, none⟩ v5) :=
 (((((h.setCell (p := ⟨g, 0, none⟩) hg _).setCell (p := ⟨g, 1, none⟩) hg _).setCell (p := ⟨g, 2, none⟩) hg _).setCell (p := ⟨g, 3, none⟩) hg _).setCell (p := ⟨g, 4, none⟩) hg _).setCell (p := ⟨g, 5, none⟩) hg _
def statV (T : Abs.T) (i : Nat) : Value := match T.get i with
 | none => .agg #[.int .i64 0, .bool false, .int .i64 0, .int .i64 0, .int .i64 0, .int .i64 0]
 | some x => .agg #[.int .i64 (i : Int), .bool x.dir, .int .i64 x.mode, .int .i64 x.tick, .int .i64 (x.data.length : Int), .int .i64 (if x.dir then 1 else (T.links i : Int))]
def statR (T : Abs.T) : Except Nat Nat -> Value
 | .ok j => .tuple #[statV T j, .int .i64 0]
 | .error e => .tuple #[.agg #[.int .i64 0, .bool false, .int .i64 0, .int .i64 0, .int .i64 0, .int .i64 0], .int .i64 (e : Int)]
set_option maxHeartbeats 2000000 in
theorem stat_any (w : World) (t : Nat) (S : TS) (T : Abs.T) (β : Nat -> Nat) (h : TreeIs w t S T β) (cwd path : ByteArray) (hc : cwd.size < 1073741824) (hp : path.size < 1073741824) :
 Calls Tryz.prog 56 #[.pointer (some ⟨t, 0, none⟩), .string cwd, .string path] w fun e w' => e = .returned (statR T (T.look cwd.data.toList path.data.toList)) /\ Below w.heap.size w w' := by
 have hl := fun w2 (hb : Below w.heap.size w w2) => look_any w2 t S T β (h.below hb) cwd path hc hp
 obtain ⟨r, hr⟩ : ∃ r, T.look cwd.data.toList path.data.toList = r := ⟨_, rfl⟩
 rw [hr] at hl ⊢
 have hA := fun o => (Below.refl w.heap.size w).alloc (Nat.le_refl _) o
 cases r with
 | error e =>
   have he := Abs.T.look_ne0 hr
   have he1 : ((e : Int) != 0) = true := by simpa using he
   clear hr he
   unfold leadsV at hl
   unfold statR
   go_enter Tryz.func56, Tryz.ntmps56
   go_wp2_with (go_at_call 95; refine (hl _ (hA _)).mono ?_; rintro e w' ⟨rfl, hb⟩; obtain ⟨bR, r0, r1, r2, r3, r4, r5, s0, s1, s2, s3, s4, s5, lR⟩ := blk6 (Boxed6 hb))
   obtain ⟨_, x0, x1, x2, x3, x4, x5, _⟩ := blk6 (set6 bR (.int .i64 0) (.bool false) (.int .i64 0) (.int .i64 0) (.int .i64 0) (.int .i64 0))
   refine bodyPost_ret (v := .tuple #[.agg #[.int .i64 0, .bool false, .int .i64 0, .int .i64 0, .int .i64 0, .int .i64 0], .int .i64 (e : Int)]) (by simp [results, Tryz.results56, go_sem, x0, x1, x2, x3, x4, x5]) rfl ?_
   exact ⟨rfl, below6 ((hA _).trans (hb.mono (by simp))) (Nat.le_refl _) _ _ _ _ _ _⟩
 | ok i =>
   obtain ⟨x, hx⟩ := h.wf.look_live hr
   obtain ⟨y, hy, by0, hin, hmo, hti, hyd, hda, _, hli, _⟩ := h.at_ hx
   unfold leadsV ptrV at hl
   have k0 : w.cell? ⟨β i, 0, none⟩ = some (.int .i64 (i : Int)) := by rw [by0.cell 0, <- hin]; rfl
   have k1 : w.cell? ⟨β i, 1, none⟩ = some (.int .i64 x.mode) := by rw [by0.cell 1, <- hmo]; rfl
   have k2 : w.cell? ⟨β i, 2, none⟩ = some (.int .i64 x.tick) := by rw [by0.cell 2, <- hti]; rfl
   have k3 : w.cell? ⟨β i, 3, none⟩ = some (.bool x.dir) := by rw [by0.cell 3, <- hyd]; rfl
   have k7 : w.cell? ⟨β i, 7, none⟩ = some (.int .i64 (T.links i : Int)) := by rw [by0.cell 7, <- hli]; rfl
   obtain ⟨A, cp, hdv, _, _⟩ := (h.mem.item _ _ hy).2.1.form
   have k4 : w.cell? ⟨β i, 4, none⟩ = some (.slice A x.data.length cp) := by rw [by0.cell 4, <- hda, <- hdv]; rfl
   have lb := by0.lt
   have hsv : statV T i = .agg #[.int .i64 (i : Int), .bool x.dir, .int .i64 x.mode, .int .i64 x.tick, .int .i64 (x.data.length : Int), .int .i64 (if x.dir then 1 else (T.links i : Int))] := by simp [statV, hx]
   unfold statR
   simp only [hsv]
   obtain ⟨nl, hnl⟩ : ∃ nl, T.links i = nl := ⟨_, rfl⟩
   rw [hnl] at k7 ⊢
   clear hr hx hy by0 hin hmo hti hyd hda hli hdv hsv hnl
   cases hd : x.dir with
   | true =>
     rw [hd] at k3
     go_enter Tryz.func56, Tryz.ntmps56
     go_wp2_with (go_at_call 95; refine (hl _ (hA _)).mono ?_; rintro e w' ⟨rfl, hb⟩; obtain ⟨bR, r0, r1, r2, r3, r4, r5, s0, s1, s2, s3, s4, s5, lR⟩ := blk6 (Boxed6 hb))
     have lb' : β i < w'.heap.size := Nat.lt_of_lt_of_le lb (Nat.le_trans (by simp) hb.size)
     have q0 := (show w'.cell? ⟨β i, 0, none⟩ = _ from ((hb.cell (p := ⟨β i, 0, none⟩) (by simp; omega)).trans (World.cell?_alloc_lt w _ ⟨β i, 0, none⟩ lb)).trans k0)
     have q1 := (show w'.cell? ⟨β i, 1, none⟩ = _ from ((hb.cell (p := ⟨β i, 1, none⟩) (by simp; omega)).trans (World.cell?_alloc_lt w _ ⟨β i, 1, none⟩ lb)).trans k1)
     have q2 := (show w'.cell? ⟨β i, 2, none⟩ = _ from ((hb.cell (p := ⟨β i, 2, none⟩) (by simp; omega)).trans (World.cell?_alloc_lt w _ ⟨β i, 2, none⟩ lb)).trans k2)
     have q3 := (show w'.cell? ⟨β i, 3, none⟩ = _ from ((hb.cell (p := ⟨β i, 3, none⟩) (by simp; omega)).trans (World.cell?_alloc_lt w _ ⟨β i, 3, none⟩ lb)).trans k3)
     have q4 := (show w'.cell? ⟨β i, 4, none⟩ = _ from ((hb.cell (p := ⟨β i, 4, none⟩) (by simp; omega)).trans (World.cell?_alloc_lt w _ ⟨β i, 4, none⟩ lb)).trans k4)
     have q7 := (show w'.cell? ⟨β i, 7, none⟩ = _ from ((hb.cell (p := ⟨β i, 7, none⟩) (by simp; omega)).trans (World.cell?_alloc_lt w _ ⟨β i, 7, none⟩ lb)).trans k7)
     have bR' : Blk w'.drew w.heap.size 131 _ := bR
     clear r0 r1 r2 r3 r4 r5 s0 s1 s2 s3 s4 s5
     go_region_held3 (fun W => W.cell? ⟨β i, 0, none⟩ = some (.int .i64 (i : Int)) /\ W.cell? ⟨β i, 1, none⟩ = some (.int .i64 x.mode) /\ W.cell? ⟨β i, 2, none⟩ = some (.int .i64 x.tick) /\ W.cell? ⟨β i, 3, none⟩ = some (.bool true) /\ W.cell? ⟨β i, 4, none⟩ = some (.slice A x.data.length cp)) (first | go_keep | (go_split_ands; refine ⟨?_, ?_, ?_, ?_, ?_⟩ <;> first | assumption | (rw [World.cell?_drew]; rw [World.cell?_alloc_lt _ _ _ (by first | exact lb' | (simp; exact lb'))]; assumption) | (rw [World.cell?_alloc_lt _ _ _ (by first | exact lb' | (simp; exact lb'))]; assumption))) (fail)
     all_goals
      go_wp2_with (first
       | (refine wpList_store_blk rfl 131 (.tmp 6) (.tmp 54) rfl w.heap.size 131 #[.int .i64 0, .bool false, .int .i64 0, .int .i64 0, .int .i64 0, .int .i64 0] #[.int .i64 (i : Int), .bool true, .int .i64 x.mode, .int .i64 x.tick, .int .i64 (x.data.length : Int), .int .i64 1] rfl rfl (show Blk _ _ _ _ from bR.alloc _) rfl (by kernel_rfl) (by kernel_rfl) ?_; intro w9 b9 g9)
       | (refine wpList_load_row rfl 131 (.tmp 10) rfl w'.heap.size rfl 131 #[.int .i64 (i : Int), .bool true, .int .i64 x.mode, .int .i64 x.tick, .int .i64 (x.data.length : Int), .int .i64 1] (0, 0) _ (World.alloc_heap_new w' _) Tryz.underlying131 rfl (by kernel_rfl) ?_))
      obtain ⟨_, x0, x1, x2, x3, x4, x5, _⟩ := blk6 b9
      refine bodyPost_ret (v := .tuple #[.agg #[.int .i64 (i : Int), .bool true, .int .i64 x.mode, .int .i64 x.tick, .int .i64 (x.data.length : Int), .int .i64 1], .int .i64 0]) (by simp [results, Tryz.results56, go_sem, x0, x1, x2, x3, x4, x5]) rfl ?_
      exact ⟨rfl, (below_drewN' ((((hA _).trans (hb.mono (by simp)))).alloc (by omega) _)).grown g9 (by simp; omega) (fun k e => by cases e; exact Nat.le_refl _)⟩
   | false =>
     rw [hd] at k3
     go_enter Tryz.func56, Tryz.ntmps56
     go_wp2_with (go_at_call 95; refine (hl _ (hA _)).mono ?_; rintro e w' ⟨rfl, hb⟩; obtain ⟨bR, r0, r1, r2, r3, r4, r5, s0, s1, s2, s3, s4, s5, lR⟩ := blk6 (Boxed6 hb))
     have lb' : β i < w'.heap.size := Nat.lt_of_lt_of_le lb (Nat.le_trans (by simp) hb.size)
     have q0 := (show w'.cell? ⟨β i, 0, none⟩ = _ from ((hb.cell (p := ⟨β i, 0, none⟩) (by simp; omega)).trans (World.cell?_alloc_lt w _ ⟨β i, 0, none⟩ lb)).trans k0)
     have q1 := (show w'.cell? ⟨β i, 1, none⟩ = _ from ((hb.cell (p := ⟨β i, 1, none⟩) (by simp; omega)).trans (World.cell?_alloc_lt w _ ⟨β i, 1, none⟩ lb)).trans k1)
     have q2 := (show w'.cell? ⟨β i, 2, none⟩ = _ from ((hb.cell (p := ⟨β i, 2, none⟩) (by simp; omega)).trans (World.cell?_alloc_lt w _ ⟨β i, 2, none⟩ lb)).trans k2)
     have q3 := (show w'.cell? ⟨β i, 3, none⟩ = _ from ((hb.cell (p := ⟨β i, 3, none⟩) (by simp; omega)).trans (World.cell?_alloc_lt w _ ⟨β i, 3, none⟩ lb)).trans k3)
     have q4 := (show w'.cell? ⟨β i, 4, none⟩ = _ from ((hb.cell (p := ⟨β i, 4, none⟩) (by simp; omega)).trans (World.cell?_alloc_lt w _ ⟨β i, 4, none⟩ lb)).trans k4)
     have q7 := (show w'.cell? ⟨β i, 7, none⟩ = _ from ((hb.cell (p := ⟨β i, 7, none⟩) (by simp; omega)).trans (World.cell?_alloc_lt w _ ⟨β i, 7, none⟩ lb)).trans k7)
     have bR' : Blk w'.drew w.heap.size 131 _ := bR
     clear r0 r1 r2 r3 r4 r5 s0 s1 s2 s3 s4 s5
     go_region_held3 (fun W => W.cell? ⟨β i, 0, none⟩ = some (.int .i64 (i : Int)) /\ W.cell? ⟨β i, 1, none⟩ = some (.int .i64 x.mode) /\ W.cell? ⟨β i, 2, none⟩ = some (.int .i64 x.tick) /\ W.cell? ⟨β i, 3, none⟩ = some (.bool false) /\ W.cell? ⟨β i, 4, none⟩ = some (.slice A x.data.length cp)) (first | go_keep | (go_split_ands; refine ⟨?_, ?_, ?_, ?_, ?_⟩ <;> first | assumption | (rw [World.cell?_drew]; rw [World.cell?_alloc_lt _ _ _ (by first | exact lb' | (simp; exact lb'))]; assumption) | (rw [World.cell?_alloc_lt _ _ _ (by first | exact lb' | (simp; exact lb'))]; assumption))) (fail)
     all_goals
      go_wp2_with (first
       | (refine wpList_store_blk rfl 131 (.tmp 6) (.tmp 54) rfl w.heap.size 131 #[.int .i64 0, .bool false, .int .i64 0, .int .i64 0, .int .i64 0, .int .i64 0] #[.int .i64 (i : Int), .bool false, .int .i64 x.mode, .int .i64 x.tick, .int .i64 (x.data.length : Int), .int .i64 (nl : Int)] rfl rfl (show Blk _ _ _ _ from bR.alloc _) rfl (by kernel_rfl) (by kernel_rfl) ?_; intro w9 b9 g9)
       | (refine wpList_load_row rfl 131 (.tmp 10) rfl w'.heap.size rfl 131 #[.int .i64 (i : Int), .bool false, .int .i64 x.mode, .int .i64 x.tick, .int .i64 (x.data.length : Int), .int .i64 (nl : Int)] (0, 0) _ (World.alloc_heap_new w' _) Tryz.underlying131 rfl (by kernel_rfl) ?_))
      obtain ⟨_, x0, x1, x2, x3, x4, x5, _⟩ := blk6 b9
      refine bodyPost_ret (v := .tuple #[.agg #[.int .i64 (i : Int), .bool false, .int .i64 x.mode, .int .i64 x.tick, .int .i64 (x.data.length : Int), .int .i64 (nl : Int)], .int .i64 0]) (by simp [results, Tryz.results56, go_sem, x0, x1, x2, x3, x4, x5]) rfl ?_
      exact ⟨rfl, (below_drewN' ((((hA _).trans (hb.mono (by simp)))).alloc (by omega) _)).grown g9 (by simp; omega) (fun k e => by cases e; exact Nat.le_refl _)⟩
end
section
set_option maxRecDepth 100000
open Go.RowKit
def appendHere (ats : Array TypeId) (ty : TypeId) (cs : Array Bool) (args : Array Value) : Sem Next := builtin .append ats ty cs args
theorem appendHere_eq (ats : Array TypeId) (ty : TypeId) (cs : Array Bool) (args : Array Value) : builtin .append ats ty cs args = appendHere ats ty cs args := rfl
theorem run_appendHere {P : Program} {ats : Array TypeId} {ty : TypeId} {cs : Array Bool} {args : Array Value} {v : Value} {w w' : World} (h : (Builtin.append_ ats ty args).run P w = .ok v w') : (appendHere ats ty cs args).run P w = .ok (.value v) w' := by
 simp [appendHere, builtin, h, Result.andThen]
attribute [local go_sem] Oper.semAt_some
attribute [local go_sem ↓ high] appendHere_eq
def OffB (b : Nat) (T : TypeId) (W : World) (g : Nat) : Prop := (∃ t cs, Blk W g t cs) /\ g ≠ b /\ ∃ v, Boxed W b T v /\ v.ownBlock ≠ some g
def KpB (b : Nat) (T : TypeId) (W W' : World) : Prop := ∀ g, OffB b T W g -> W'.heap[g]? = W.heap[g]? /\ OffB b T W' g
theorem KpB.trans {b : Nat} {T : TypeId} {A B C : World} (h : KpB b T A B) (k : KpB b T B C) : KpB b T A C := fun g hg => ⟨((k g (h g hg).2).1).trans (h g hg).1, (k g (h g hg).2).2⟩
theorem KpB.refl (b : Nat) (T : TypeId) (W : World) : KpB b T W W := fun _ hg => ⟨rfl, hg⟩
theorem KpB.putObj {b : Nat} {T : TypeId} (W : World) (l : Nat) (o o' : Obj) (h : W.heap[l]? = some o) (hc : o.isCells = false) : KpB b T W (W.putObj l o') := by
 rintro g ⟨⟨t, cs, hb⟩, hne, v, hv, hvg⟩
 have ne : ∀ {k : Nat} {t : TypeId} {cs : Array Value}, W.heap[k]? = some (.cells cs t (0, 0)) -> k ≠ l := by
  rintro k t cs hk rfl
  rw [hk] at h; cases h; cases hc
 have e1 : (W.putObj l o').heap[g]? = W.heap[g]? := World.putObj_heap_other (ne hb)
 have e2 : (W.putObj l o').heap[b]? = W.heap[b]? := World.putObj_heap_other (ne hv)
 exact ⟨e1, ⟨t, cs, e1.trans hb⟩, hne, v, e2.trans hv, hvg⟩
theorem Tryz.infoStr : (Tryz.prog.info? 9).map (fun i => (i.zero, i.size, i.bytes)) = some (some (.string ByteArray.empty), 1, 16) := by kernel_rfl
theorem row_new (w : World) (t : TypeId) (v : Value) : Reads (w.alloc (.cells #[v] t)) (w.heap.size + 1) 1 (some ⟨w.heap.size, 0, none⟩) 1 [v] := by
 refine ⟨rfl, fun _ => ⟨_, rfl, by simp, fun j u hu => ?_⟩⟩
 have e : (⟨w.heap.size, 0, none⟩ : Addr).add j = ⟨w.heap.size, j, none⟩ := by unfold Addr.add; split <;> simp_all
 rw [e, (Blk.new w _ _).cell j]
 simpa using hu
theorem own_byR {w w' : World} {row : Option Nat} {base n size : Nat} {e : TypeId} {v : Value} {xs : List Value} (h : w.ownsRow base e size v n xs) (hg : w.grownBy w' row) (hr : ∀ r, row = some r -> ∃ o : Obj, w.heap[r]? = some o /\ o.isCells = false) : w'.ownsRow base e size v n xs := by
 refine h.kept hg ?_
 rcases h.2 with ⟨rfl, _⟩ | ⟨g, cap, cur, rfl, hb, hgb, _⟩
 · exact .inl rfl
 · refine .inr fun e' => ?_
   obtain ⟨o, ho, hc⟩ := hr g (by simpa [Value.ownBlock] using e'.symm)
   rw [hgb] at ho; cases ho; cases hc
theorem collect_round (b B0 : Nat) (W : World) (v : Value) (xs : List Value) (x : ByteArray) (hbB : b < B0) (hB0 : B0 <= W.heap.size) (hv : Boxed W b 22 v) (hown : W.ownsRow B0 9 1 v xs.length xs) (hn : xs.length <= 2147483648) :
 ∃ v' w2, (∃ A n c, v' = .slice A n c) /\ (appendHere #[22, 22] 22 #[false, false] #[v, .slice (some ⟨W.heap.size, 0, none⟩) 1 1]).run Tryz.prog (W.alloc (.cells #[.string x] 9)) = .ok (.value v') w2 /\
  w2.cell? ⟨b, 0, none⟩ = some v /\ w2.frozen? ⟨b, 0, none⟩ = false /\ b < w2.heap.size /\
  Boxed (w2.setCell ⟨b, 0, none⟩ v') b 22 v' /\ (w2.setCell ⟨b, 0, none⟩ v').ownsRow B0 9 1 v' (xs ++ [Value.string x]).length (xs ++ [Value.string x]) /\ KpB b 22 W (w2.setCell ⟨b, 0, none⟩ v') /\ KeepsOthers W (w2.setCell ⟨b, 0, none⟩ v') /\
  ∀ n₀ w₀, n₀ <= b -> n₀ <= B0 -> Below n₀ w₀ W -> Below n₀ w₀ (w2.setCell ⟨b, 0, none⟩ v') := by
 obtain ⟨iR, hiR, hR0, hR1, hR2⟩ := info_parts Tryz.infoStr
 have hva := hv.alloc (.cells #[.string x] 9)
 obtain ⟨v', w2, hrun, hown2, hg, hat⟩ := run_append_any (P := Tryz.prog) (W.alloc (.cells #[.string x] 9)) B0 22 22 9 iR (.string ByteArray.empty) 1 16 Tryz.underlying22 hiR hR0 hR1 hR2 rfl (by decide)
  v xs.length xs (hown.alloc _) (W.heap.size + 1) (some ⟨W.heap.size, 0, none⟩) 1 1 [.string x] (row_new W _ _) (by simp [Value.oneCell']) (by simp only [maxLen]; omega) (by omega) (by simp; omega)
 have hne : v.ownBlock ≠ some b := fun e => by have := (hown.lt b e).1; omega
 have hv2 : Boxed w2 b 22 v := hva.kept hg (fun e => hne e.symm)
 have hne2 : v'.ownBlock ≠ some b := fun e => by have := (hown2.lt b e).1; omega
 have hsz : W.heap.size + 1 <= w2.heap.size := by have := hg.size; simpa using this
 refine ⟨v', w2, (by obtain ⟨A, c, e, _⟩ := own_slice hown2; exact ⟨A, _, c, e⟩), run_appendHere hrun, hv2.cell, hv2.frozen, hv2.lt, hv2.set v', ?_, ?_, ?_, ?_⟩
 · rw [List.length_append, List.length_singleton]
   exact ownsRow_setCell_other hown2 hne2 _
 · rintro g ⟨⟨t, cs, hb⟩, hgb, u, hu, hug⟩
   obtain rfl : u = v := by
    have h1 := (show W.heap[b]? = _ from hu).symm.trans hv
    simp only [Option.some.injEq, Obj.cells.injEq] at h1
    simpa using h1.1
   have e1 : (w2.setCell ⟨b, 0, none⟩ v').heap[g]? = W.heap[g]? :=
    (Below.heap_setCell _ _ _ _ hgb).trans ((hg.block g (by have := hb.lt; simp; omega) (fun e => hug e.symm)).trans (Below.heap_alloc _ _ _ hb.lt))
   refine ⟨e1, ⟨t, cs, e1.trans hb⟩, hgb, v', hv2.set v', fun e => ?_⟩
   rcases hat with h1 | h1
   · exact hug (h1.symm.trans e)
   · rw [h1] at e
     injection e with e
     have := hb.lt
     simp at e; omega
 · refine KeepsOthers.trans (KeepsOthers.alloc _ _) (KeepsOthers.trans (KeepsOthers.of_grownBy hg fun j o ej hj => ?_) (KeepsOthers.setCell _ _ _))
   rcases (hown.alloc (.cells #[.string x] 9)).2 with ⟨rfl, _⟩ | ⟨g, cap, cur, rfl, _, hgb, _⟩
   · simp [Value.ownBlock] at ej
   · obtain rfl : g = j := by simpa [Value.ownBlock] using ej
     rw [hgb] at hj; cases hj; rfl
 · intro n₀ w₀ h1 h2 hb
   exact ((hb.alloc (by omega) _).grown hg (by simp; omega) (fun k hk => by have := (hown.lt k hk).1; omega)).setCell (p := ⟨b, 0, none⟩) h1 v'
set_option maxHeartbeats 2000000 in
theorem appendSeq_wide (w : World) (Bs : Nat) (s : ByteArray) (hs : s.size < 1073741824) (hB : Boxed w Bs 9 (.string s)) :
 CallsIn Fence.wide 5 Tryz.prog 179 #[.slice none 0 0, .func (.func 178) #[] #[.pointer (some ⟨Bs, 0, none⟩)]] w fun e w' => ∃ v, e = .returned v /\ w'.ownsRow w.heap.size 9 1 v (partsB s).length ((partsB s).map .string) /\ Below w.heap.size w w' := by
 refine callsIn_of_wp_marks Tryz.func179 rfl trivial ?_ rfl
 simp only [Tryz.ntmps179, List.size_toArray, List.length_cons, List.length_nil, Nat.reduceAdd, Nat.reduceSub, Array.replicate_succ, Array.replicate_zero, List.push_toArray, List.append_toArray, List.nil_append, List.cons_append]
 gi_wp2
 have b0 := Boxed.new w 22 (.slice none 0 0)
 have hB0 : Below w.heap.size w (w.alloc (.cells #[.slice none 0 0] 22)) := (Below.refl _ w).alloc (Nat.le_refl _) _
 have hsz : (w.alloc (.cells #[.slice none 0 0] 22)).heap.size = w.heap.size + 1 := by simp
 have hBs := hB.alloc (.cells #[.slice none 0 0] 22)
 obtain ⟨W0, hW0⟩ : ∃ W0, w.alloc (.cells #[.slice none 0 0] 22) = W0 := ⟨_, rfl⟩
 rw [hW0] at b0 hB0 hsz hBs ⊢
 clear hW0
 have hstops := parts1_stopsK Fence.wide 4 trivial trivial (fun h => callsIn_wide.2 h) rfl (by omega) Bs s hs (KpB w.heap.size 22) (OffB w.heap.size 22) (fun A B g hk hg => hk g hg) W0
  (fun W hW cs t => ⟨⟨t, cs, Blk.new W t cs⟩, by have := hW.size; omega, .slice none 0 0, Boxed.alloc ((hW.block _ b0.lt).trans b0) _, by simp [Value.ownBlock]⟩) hBs
 refine wpIn_rangeFunc_ownH rfl (by omega) (gf := 178) (lb := #[.pointer (some ⟨Bs, 0, none⟩)]) rfl trivial (enters_of Tryz.func178 (by kernel_rfl) rfl)
  hstops KpB.trans (fun W l o o' _ hl hc _ => KpB.putObj W l o o' hl hc) (Below.refl _ _) (fun _ => rfl)
  (fun pre W => (∃ v, Boxed W w.heap.size 22 v /\ W.ownsRow W0.heap.size 9 1 v (pre.map Value.string).length (pre.map Value.string)) /\ Below w.heap.size w W)
  (fun _ _ _ => False)
  ?own (fun _ _ _ _ _ hs _ _ => hs) ?start
  (fun x a' _ => a' = { tmps := #[.slice none 0 0, .func (.func 178) #[] #[.pointer (some ⟨Bs, 0, none⟩)], .pointer (some ⟨w.heap.size, 0, none⟩), undef, .slice none 0 0, .string x, .func (.func 178) #[] #[.pointer (some ⟨Bs, 0, none⟩)], .string x, undef, undef, undef, undef, undef], defers := [] })
  (fun x a' s X Y row hs hg hr => hs)
  ?assign ?body ?done ?stop
 case own =>
  rintro pre X Y row ⟨⟨v, h1, h2⟩, h6⟩ hg hr
  exact ⟨⟨v, boxed_row h1 hg fun r e => (hr r e).2, own_byR h2 hg fun r e => (hr r e).2⟩, h6.grown hg h6.size fun r e => (hr r e).1 |> Nat.le_trans hB0.size⟩
 case start => exact ⟨⟨_, b0, ⟨rfl, .inl ⟨rfl, rfl⟩⟩⟩, hB0⟩
 case assign =>
  rintro lp pre x W K hI hK
  simp only [encStr]
  gi_wp2
  exact hK _ _ (KeepsFrom.refl _ _) (KpB.refl _ _ _) hI rfl
 case body =>
  rintro lp pre x a' W hlp _ ⟨⟨v, bv, hv⟩, hBw⟩ rfl hlt
  have hpl : (partsB s).length <= s.size + 1 := by
   rw [partsB_segs]
   exact Nat.le_trans (List.length_filter_le _ _) (segsB_len s)
  obtain ⟨v', w2, ⟨A', n', c', rfl⟩, hrun, c2, f2, l2, bF, oF, kF, kO, hbF⟩ := collect_round w.heap.size W0.heap.size W v (pre.map Value.string) x (by omega) (by have := hBw.size; have := bv.lt; omega) bv hv (by simp; omega)
  have cv := bv.cell
  have la := bv.lt
  gi_wp2
  have hpx : (pre ++ [x]).map Value.string = pre.map Value.string ++ [.string x] := by simp
  exact ⟨kO.from _, kF, ⟨_, bF, by rw [hpx]; exact oF⟩, hbF _ _ (Nat.le_refl _) (by omega) hBw⟩
 case done =>
  rintro D ys W hD rfl ⟨⟨v, bv, hv⟩, hBw⟩ hK
  have cv := bv.cell
  gi_wp2
  have hDw : w.heap.size <= D := Nat.le_trans hB0.size hD
  refine ⟨by simp, .inl ⟨_, _, rfl, run_takeDeferred hK, ?_⟩⟩
  refine ⟨v, ?_, ⟨v, rfl, ?_, hBw.trans (belowK_b (w := w) (Nat.le_refl _) _ D _ _ hDw hK rfl rfl)⟩⟩
  · simp [results, Tryz.f179]
  · have h1 := own_byR hv (grownBy_putObj' _ D (.deferred none)) (fun r e => by cases e; exact ⟨_, hK, rfl⟩)
    rw [List.length_map] at h1
    exact Joins.ownsRow_le h1 (by omega)
 case stop =>
  rintro D k pre W hD _ hf
  exact hf.elim
set_option maxHeartbeats 2000000 in
theorem collect_any (w : World) (Bs : Nat) (s : ByteArray) (hs : s.size < 1073741824) (hB : Boxed w Bs 9 (.string s)) :
 Calls Tryz.prog 158 #[.func (.func 178) #[] #[.pointer (some ⟨Bs, 0, none⟩)]] w fun e w' => ∃ v, e = .returned v /\ w'.ownsRow w.heap.size 9 1 v (partsB s).length ((partsB s).map .string) /\ Below w.heap.size w w' := by
 have h := callsIn_wide.1 (appendSeq_wide w Bs s hs hB)
 go_enter Tryz.func158, Tryz.ntmps158
 go_wp2_with (go_at_call 179; refine h.mono ?_; rintro e w' ⟨v, rfl, ho, hb⟩)
 go_ret
 exact ⟨v, rfl, ho, hb⟩
end
section
set_option maxRecDepth 100000
open Go.RowKit Go.Maps
def placeV (β : Nat -> Nat) : Except Nat (Option (Nat × Abs.Name)) -> Value
 | .error e => .tuple #[.pointer none, .string ⟨#[]⟩, .int .i64 (e : Int)]
 | .ok none => .tuple #[.pointer none, .string ⟨#[]⟩, .int .i64 0]
 | .ok (some (d, n)) => .tuple #[.pointer (some ⟨β d, 0, none⟩), .string ⟨n.toArray⟩, .int .i64 0]
theorem last_row {w : World} {base : Nat} {v : Value} {l : List ByteArray} (h : w.ownsRow base 9 1 v l.length (l.map .string)) (hl : l ≠ []) :
 ∃ g cap, v = .slice (some ⟨g, 0, none⟩) l.length cap /\ l.length <= cap /\ base <= g /\ g < w.heap.size /\ w.cell? ⟨g, l.length - 1, none⟩ = some (.string (l.getLast hl)) /\
  ∀ (j : Nat) x, l.dropLast[j]? = some x -> w.cell? ⟨g, 0 + j, none⟩ = some (.string x) := by
 have hpos : 0 < l.length := List.length_pos_iff.2 hl
 rcases h.2 with ⟨_, e⟩ | ⟨g, cap, cur, rfl, hb, hg, hn, _⟩
 · omega
 · have hlt := (Array.getElem?_eq_some_iff.1 hg).1
   have hc : ∀ j x, l[j]? = some x -> w.cell? ⟨g, j, none⟩ = some (.string x) := by
    intro j x hx
    have ea : (⟨g, 0, none⟩ : Addr).add j = ⟨g, j, none⟩ := by unfold Addr.add; split <;> simp_all
    rw [<- ea]
    exact h.cells (g := g) rfl j (.string x) (by simp [hx])
   refine ⟨g, cap, rfl, hn, hb, hlt, ?_, fun j x hx => ?_⟩
   · refine hc _ _ ?_
     rw [List.getLast_eq_getElem, <- List.getElem?_eq_getElem]
   · rw [Nat.zero_add]
     refine hc j x ?_
     have hj := (List.getElem?_eq_some_iff.1 hx).1
     rw [List.length_dropLast] at hj
     rw [List.getElem?_dropLast, if_pos hj] at hx
     exact hx
set_option maxHeartbeats 4000000 in
theorem place_any (w : World) (t : Nat) (S : TS) (T : Abs.T) (β : Nat -> Nat) (h : TreeIs w t S T β) (cwd path : ByteArray) (hc : cwd.size < 1073741824) (hp : path.size < 1073741824) :
 Calls Tryz.prog 153 #[.pointer (some ⟨t, 0, none⟩), .string cwd, .string path] w fun e w' => e = .returned (placeV β (T.place cwd.data.toList path.data.toList)) /\ Below w.heap.size w w' := by
 have hf := from_any w t S T β h cwd path hc hp
 obtain ⟨r, hr⟩ : ∃ r, T.start cwd.data.toList path.data.toList = r := ⟨_, rfl⟩
 rw [hr] at hf
 obtain ⟨q, hq⟩ : ∃ q, T.place cwd.data.toList path.data.toList = q := ⟨_, rfl⟩
 rw [hq]
 unfold Abs.T.place at hq
 rw [hr] at hq
 have hparts := fun W => callsIn_wide.1 (parts_in Fence.wide 3 trivial rfl path W)
 have hcol := fun W => collect_any (W.alloc (.cells #[.string path] 9)) W.heap.size path hp (Boxed.new W 9 (.string path))
 cases r with
 | error e =>
   have he := Abs.T.start_ne0 hr
   have he1 : ((e : Int) != 0) = true := by simpa using he
   simp only at hq
   subst hq
   clear hr he
   unfold leadsV at hf
   unfold placeV
   go_enter Tryz.func153, Tryz.ntmps153
   go_wp2_with (go_at_call 125; refine hf.mono ?_; rintro e w' ⟨rfl, hb⟩)
   go_ret3
   exact ⟨rfl, hb⟩
 | ok i =>
   obtain ⟨x, hx, hxd⟩ := Abs.isDir_of (h.wf.start_dir hr)
   unfold leadsV ptrV at hf
   simp only at hf hq
   have hpl : (Abs.parts path.data.toList).getLast? = (partsB path).getLast?.map (·.data.toList) := by rw [<- plainL_parts]; simp [plainL]
   by_cases hl : partsB path = []
   · rw [hpl, hl] at hq
     simp only [List.getLast?_nil, Option.map_none] at hq
     subst hq
     unfold placeV
     rw [hl] at hcol
     clear hr hpl hl
     go_enter Tryz.func153, Tryz.ntmps153
     go_wp2_with (first
      | (go_at_call 125; refine hf.mono ?_; rintro e w' ⟨rfl, hb⟩)
      | (go_at_call 155; refine (hparts _).mono ?_; rintro e w2 ⟨rfl, rfl⟩)
      | (go_at_call 158; refine (hcol _).mono ?_; rintro e w3 ⟨v, rfl, ho, hb3⟩; obtain ⟨A, c, rfl, _, _, _⟩ := own_slice ho))
     go_ret3
     exact ⟨rfl, ((hb.alloc hb.size _).trans (hb3.mono (by have := hb.size; simp; omega)))⟩
   · obtain ⟨last, hlast⟩ : ∃ y, (partsB path).getLast hl = y := ⟨_, rfl⟩
     rw [hpl, List.getLast?_eq_some_getLast hl, hlast] at hq
     simp only [Option.map_some] at hq
     obtain ⟨m, hm⟩ : ∃ m, (partsB path).length = m + 1 := ⟨(partsB path).length - 1, by have := List.length_pos_iff.2 hl; omega⟩
     have hpn : m < 2147483648 := by
      have h1 : (partsB path).length <= (segsB path).length := by rw [partsB_segs]; exact List.length_filter_le _ _
      have := segsB_len path
      omega
     obtain ⟨r2, hr2⟩ : ∃ r, T.leads i (Abs.parts path.data.toList).dropLast = r := ⟨_, rfl⟩
     rw [hr2] at hq
     have hjl := Abs.join_parts_le path.data.toList
     have hjp := Abs.parts_join (Abs.parts path.data.toList).dropLast (fun p hp => Abs.parts_ok _ p (List.dropLast_subset _ hp))
     obtain ⟨js, hjs⟩ : ∃ js : ByteArray, (⟨(Lib.join (Abs.parts path.data.toList).dropLast [47]).toArray⟩ : ByteArray) = js := ⟨_, rfl⟩
     have hjs1 : js.data.toList = Lib.join (Abs.parts path.data.toList).dropLast [47] := by rw [<- hjs]
     have hjs2 : js.size < 1073741824 := by rw [<- hjs]; show (Lib.join _ _).length < _; have : path.data.toList.length = path.size := rfl; omega
     have hld := fun W (hb : Below w.heap.size w W) => leads_any W t S T β (h.below hb) i ⟨x, hx⟩ js hjs2
     rw [hjs1, hjp, hr2] at hld
     have hjoin : ∀ (W : World) (g cap : Nat), g < W.heap.size -> m <= cap -> (∀ (j : Nat) x, (partsB path).dropLast[j]? = some x -> W.cell? ⟨g, 0 + j, none⟩ = some (.string x)) ->
      Calls Tryz.prog 177 #[.slice (some ⟨g, 0, none⟩) m cap, .string ⟨#[47]⟩] W fun e w' => e = .returned (.string js) /\ Below W.heap.size W w' := by
      intro W g cap hg hcap hcells
      have hml : (partsB path).dropLast.length = m := by rw [List.length_dropLast, hm]; omega
      have hmp : (partsB path).dropLast.map (·.data.toList) = (Abs.parts path.data.toList).dropLast := by rw [<- plainL_parts, plainL, List.map_dropLast]
      have h1 := Tryz.strings_Join g 0 cap (partsB path).dropLast ⟨#[47]⟩ W hcells hg (by omega) (by omega) (by rw [hmp]; have : path.data.toList.length = path.size := rfl; show (Lib.join _ [47]).length <= _; omega)
      rw [hml, hmp] at h1
      rw [<- hjs]
      exact h1
     have hrow := fun (W : World) v (ho : W.ownsRow w.heap.size 9 1 v (partsB path).length ((partsB path).map .string)) => last_row ho hl
     rw [hm, hlast, Nat.add_sub_cancel] at hrow
     obtain ⟨iB, hiB, hB0, hB1, hB2⟩ := info_parts Tryz.infoStr
     have hfr := fun (A : Option Addr) (len cap : Nat) (hh : m <= cap) W => run_front (P := Tryz.prog) 22 9 iB Tryz.underlying22 hiB A len cap m hh W
     clear hiB hB0 hB1 hB2
     have HF := Lib.hid hfr
     have HR := Lib.hid hrow
     have HJ := Lib.hid hjoin
     have HL := Lib.hid hld
     have HX := Lib.hid hx
     have hm2 : (((m : Nat) : Int) + 1 == 0) = false := beq_eq_false_iff_ne.2 (by omega)
     rw [hm] at hcol
     clear hfr hrow hjoin hld hx hr hpl hlast hl hm hjl hjp hjs hjs1 hjs2
     cases r2 with
     | error e =>
       have he := Abs.T.leads_ne0 hr2
       have he1 : ((e : Int) != 0) = true := by simpa using he
       simp only at hq
       subst hq
       unfold placeV
       clear hr2 he
       go_enter Tryz.func153, Tryz.ntmps153
       go_wp2_with (first
        | (go_at_call 125; refine hf.mono ?_; rintro e w' ⟨rfl, hb⟩)
        | (go_at_call 155; refine (hparts _).mono ?_; rintro e w2 ⟨rfl, rfl⟩)
        | (go_at_call 158; refine (hcol _).mono ?_; rintro e w3 ⟨v, rfl, ho, hb3⟩; obtain ⟨g, cap, rfl, hcap, hg1, hg2, hlc, hjc⟩ := HR.out w3 v (Joins.ownsRow_le ho (by have := hb.size; simp; omega)); have HF2 := HF.out (some ⟨g, 0, none⟩) (m + 1) cap (by omega))
        | (go_at_call 177; refine (HJ.out _ g cap hg2 (by omega) hjc).mono ?_; rintro e w4 ⟨rfl, hb4⟩; have hb04 : Below w.heap.size w w4 := ((hb.alloc hb.size _).trans (hb3.mono (by have := hb.size; simp; omega))).trans (hb4.mono (by have := hb.size; have := hb3.size; simp at this; omega)))
        | (go_at_call 126; refine (HL.out _ hb04).mono ?_; rintro e w5 ⟨rfl, hb5⟩; unfold leadsV))
       go_ret3
       exact ⟨rfl, hb04.trans (hb5.mono hb04.size)⟩
     | ok d =>
       obtain ⟨z, hz⟩ := h.wf.leads_live _ _ ⟨x, HX.out⟩ hr2
       obtain ⟨y, hy, by0, _, _, _, hyd, _, _, _, _⟩ := h.at_ hz
       have k3 : w.cell? ⟨β d, 3, none⟩ = some (.bool z.dir) := by rw [by0.cell 3, <- hyd]; rfl
       have lb := by0.lt
       have hdz : T.isDir d = z.dir := by simp [Abs.T.isDir, hz]
       simp only [hdz] at hq
       have hnd := fun w2 => named_any last w2
       clear hr2 hz hy by0 hyd hdz
       cases hd : z.dir with
       | false =>
         rw [hd] at k3 hq
         simp only [if_true] at hq
         subst hq
         unfold placeV
         go_enter Tryz.func153, Tryz.ntmps153
         go_wp2_with (first
          | (go_at_call 125; refine hf.mono ?_; rintro e w' ⟨rfl, hb⟩)
          | (go_at_call 155; refine (hparts _).mono ?_; rintro e w2 ⟨rfl, rfl⟩)
          | (go_at_call 158; refine (hcol _).mono ?_; rintro e w3 ⟨v, rfl, ho, hb3⟩; obtain ⟨g, cap, rfl, hcap, hg1, hg2, hlc, hjc⟩ := HR.out w3 v (Joins.ownsRow_le ho (by have := hb.size; simp; omega)); have HF2 := HF.out (some ⟨g, 0, none⟩) (m + 1) cap (by omega))
          | (go_at_call 177; refine (HJ.out _ g cap hg2 (by omega) hjc).mono ?_; rintro e w4 ⟨rfl, hb4⟩; have hb04 : Below w.heap.size w w4 := ((hb.alloc hb.size _).trans (hb3.mono (by have := hb.size; simp; omega))).trans (hb4.mono (by have := hb.size; have := hb3.size; simp at this; omega)))
          | (go_at_call 126; refine (HL.out _ hb04).mono ?_; rintro e w5 ⟨rfl, hb5⟩; unfold leadsV ptrV; have k35 := (hb5.cell (p := ⟨β d, 3, none⟩) (Nat.lt_of_lt_of_le lb hb04.size)).trans ((hb04.cell (p := ⟨β d, 3, none⟩) lb).trans k3))
          | (go_at_call 122; refine (hnd _).mono ?_; rintro e w6 ⟨rfl, hb6⟩))
         go_ret3
         exact ⟨rfl, hb04.trans (hb5.mono hb04.size)⟩
       | true =>
         rw [hd] at k3 hq
         simp only [Bool.true_eq_false, if_false] at hq
         by_cases h1 : last.data.toList = Abs.dot
         · rw [if_pos (.inl h1)] at hq
           subst hq
           unfold placeV
           have h1' : (last.toList == [46]) = true := beq_iff_eq.2 (by rw [Lib.toList_data]; exact h1)
           clear h1
           go_enter Tryz.func153, Tryz.ntmps153
           go_wp2_with (first
            | (go_at_call 125; refine hf.mono ?_; rintro e w' ⟨rfl, hb⟩)
            | (go_at_call 155; refine (hparts _).mono ?_; rintro e w2 ⟨rfl, rfl⟩)
            | (go_at_call 158; refine (hcol _).mono ?_; rintro e w3 ⟨v, rfl, ho, hb3⟩; obtain ⟨g, cap, rfl, hcap, hg1, hg2, hlc, hjc⟩ := HR.out w3 v (Joins.ownsRow_le ho (by have := hb.size; simp; omega)); have HF2 := HF.out (some ⟨g, 0, none⟩) (m + 1) cap (by omega))
            | (go_at_call 177; refine (HJ.out _ g cap hg2 (by omega) hjc).mono ?_; rintro e w4 ⟨rfl, hb4⟩; have hb04 : Below w.heap.size w w4 := ((hb.alloc hb.size _).trans (hb3.mono (by have := hb.size; simp; omega))).trans (hb4.mono (by have := hb.size; have := hb3.size; simp at this; omega)))
            | (go_at_call 126; refine (HL.out _ hb04).mono ?_; rintro e w5 ⟨rfl, hb5⟩; unfold leadsV ptrV; have k35 := (hb5.cell (p := ⟨β d, 3, none⟩) (Nat.lt_of_lt_of_le lb hb04.size)).trans ((hb04.cell (p := ⟨β d, 3, none⟩) lb).trans k3))
            | (go_at_call 122; refine (hnd _).mono ?_; rintro e w6 ⟨rfl, hb6⟩))
           go_ret3
           exact ⟨rfl, hb04.trans (hb5.mono hb04.size)⟩
         have h1' : (last.toList == [46]) = false := beq_eq_false_iff_ne.2 (by rw [Lib.toList_data]; exact h1)
         by_cases h2 : last.data.toList = Abs.dotdot
         · rw [if_pos (.inr h2)] at hq
           subst hq
           unfold placeV
           have h2' : (last.toList == [46, 46]) = true := beq_iff_eq.2 (by rw [Lib.toList_data]; exact h2)
           clear h1 h2
           go_enter Tryz.func153, Tryz.ntmps153
           go_wp2_with (first
            | (go_at_call 125; refine hf.mono ?_; rintro e w' ⟨rfl, hb⟩)
            | (go_at_call 155; refine (hparts _).mono ?_; rintro e w2 ⟨rfl, rfl⟩)
            | (go_at_call 158; refine (hcol _).mono ?_; rintro e w3 ⟨v, rfl, ho, hb3⟩; obtain ⟨g, cap, rfl, hcap, hg1, hg2, hlc, hjc⟩ := HR.out w3 v (Joins.ownsRow_le ho (by have := hb.size; simp; omega)); have HF2 := HF.out (some ⟨g, 0, none⟩) (m + 1) cap (by omega))
            | (go_at_call 177; refine (HJ.out _ g cap hg2 (by omega) hjc).mono ?_; rintro e w4 ⟨rfl, hb4⟩; have hb04 : Below w.heap.size w w4 := ((hb.alloc hb.size _).trans (hb3.mono (by have := hb.size; simp; omega))).trans (hb4.mono (by have := hb.size; have := hb3.size; simp at this; omega)))
            | (go_at_call 126; refine (HL.out _ hb04).mono ?_; rintro e w5 ⟨rfl, hb5⟩; unfold leadsV ptrV; have k35 := (hb5.cell (p := ⟨β d, 3, none⟩) (Nat.lt_of_lt_of_le lb hb04.size)).trans ((hb04.cell (p := ⟨β d, 3, none⟩) lb).trans k3))
            | (go_at_call 122; refine (hnd _).mono ?_; rintro e w6 ⟨rfl, hb6⟩))
           go_ret3
           exact ⟨rfl, hb04.trans (hb5.mono hb04.size)⟩
         have h2' : (last.toList == [46, 46]) = false := beq_eq_false_iff_ne.2 (by rw [Lib.toList_data]; exact h2)
         rw [if_neg (not_or.2 ⟨h1, h2⟩)] at hq
         cases hn : Abs.named last.data.toList with
         | false =>
           rw [hn] at hnd hq
           simp only [if_true] at hq
           subst hq
           unfold placeV
           clear h1 h2
           go_enter Tryz.func153, Tryz.ntmps153
           go_wp2_with (first
            | (go_at_call 125; refine hf.mono ?_; rintro e w' ⟨rfl, hb⟩)
            | (go_at_call 155; refine (hparts _).mono ?_; rintro e w2 ⟨rfl, rfl⟩)
            | (go_at_call 158; refine (hcol _).mono ?_; rintro e w3 ⟨v, rfl, ho, hb3⟩; obtain ⟨g, cap, rfl, hcap, hg1, hg2, hlc, hjc⟩ := HR.out w3 v (Joins.ownsRow_le ho (by have := hb.size; simp; omega)); have HF2 := HF.out (some ⟨g, 0, none⟩) (m + 1) cap (by omega))
            | (go_at_call 177; refine (HJ.out _ g cap hg2 (by omega) hjc).mono ?_; rintro e w4 ⟨rfl, hb4⟩; have hb04 : Below w.heap.size w w4 := ((hb.alloc hb.size _).trans (hb3.mono (by have := hb.size; simp; omega))).trans (hb4.mono (by have := hb.size; have := hb3.size; simp at this; omega)))
            | (go_at_call 126; refine (HL.out _ hb04).mono ?_; rintro e w5 ⟨rfl, hb5⟩; unfold leadsV ptrV; have k35 := (hb5.cell (p := ⟨β d, 3, none⟩) (Nat.lt_of_lt_of_le lb hb04.size)).trans ((hb04.cell (p := ⟨β d, 3, none⟩) lb).trans k3))
            | (go_at_call 122; refine (hnd _).mono ?_; rintro e w6 ⟨rfl, hb6⟩))
           go_ret3
           exact ⟨rfl, (hb04.trans (hb5.mono hb04.size)).trans (hb6.mono (Nat.le_trans hb04.size hb5.size))⟩
         | true =>
           rw [hn] at hnd hq
           simp only [Bool.true_eq_false, if_false] at hq
           subst hq
           unfold placeV
           clear h1 h2
           go_enter Tryz.func153, Tryz.ntmps153
           go_wp2_with (first
            | (go_at_call 125; refine hf.mono ?_; rintro e w' ⟨rfl, hb⟩)
            | (go_at_call 155; refine (hparts _).mono ?_; rintro e w2 ⟨rfl, rfl⟩)
            | (go_at_call 158; refine (hcol _).mono ?_; rintro e w3 ⟨v, rfl, ho, hb3⟩; obtain ⟨g, cap, rfl, hcap, hg1, hg2, hlc, hjc⟩ := HR.out w3 v (Joins.ownsRow_le ho (by have := hb.size; simp; omega)); have HF2 := HF.out (some ⟨g, 0, none⟩) (m + 1) cap (by omega))
            | (go_at_call 177; refine (HJ.out _ g cap hg2 (by omega) hjc).mono ?_; rintro e w4 ⟨rfl, hb4⟩; have hb04 : Below w.heap.size w w4 := ((hb.alloc hb.size _).trans (hb3.mono (by have := hb.size; simp; omega))).trans (hb4.mono (by have := hb.size; have := hb3.size; simp at this; omega)))
            | (go_at_call 126; refine (HL.out _ hb04).mono ?_; rintro e w5 ⟨rfl, hb5⟩; unfold leadsV ptrV; have k35 := (hb5.cell (p := ⟨β d, 3, none⟩) (Nat.lt_of_lt_of_le lb hb04.size)).trans ((hb04.cell (p := ⟨β d, 3, none⟩) lb).trans k3))
            | (go_at_call 122; refine (hnd _).mono ?_; rintro e w6 ⟨rfl, hb6⟩))
           go_ret3
           exact ⟨rfl, (hb04.trans (hb5.mono hb04.size)).trans (hb6.mono (Nat.le_trans hb04.size hb5.size))⟩
theorem depthN_eq {T : Abs.T} {dp : Nat -> Nat} (h1 : dp 1 = 0) (hdp : ∀ i x, T.get i = some x -> x.dir = true -> i ≠ 1 -> dp i = dp x.up + 1 /\ dp i <= 10) (hup : ∀ i x, T.get i = some x -> x.dir = true -> ∃ y, T.get x.up = some y /\ y.dir = true) :
 ∀ n i, (∃ x, T.get i = some x /\ x.dir = true) -> dp i < n -> T.depthN n i = dp i := by
 intro n
 induction n with
 | zero => intro i _ h; omega
 | succ n ih =>
   rintro i ⟨x, hx, hd⟩ hlt
   unfold Abs.T.depthN
   by_cases hi : i = 1
   · subst hi; rw [if_pos rfl, h1]
   · rw [if_neg hi, hx]
     have h2 := (hdp i x hx hd hi).1
     simp only
     rw [ih x.up (hup i x hx hd) (by omega), h2]
     omega
theorem Tryz.infoItem : ∃ j, Tryz.prog.info? 179 = some j /\ j.size ≠ 0 := by
 have h : (Tryz.prog.info? 179).map (·.size) = some 9 := by kernel_rfl
 cases hj : Tryz.prog.info? 179 with
 | none => rw [hj] at h; cases h
 | some j => rw [hj] at h; exact ⟨j, rfl, by simp at h; omega⟩
theorem neq_item_same (w : World) (a : Addr) : (binOp .neq 166 (.pointer (some a)) (.pointer (some a))).run Tryz.prog w = .ok (.bool false) w := by
 obtain ⟨j, hj, _⟩ := Tryz.infoItem
 exact Lib.run_neq_ptr_same w a Tryz.underlying166 hj
theorem eq_item (w : World) {a b : Nat} {ca cb : Array Value} (ha : Blk w a 179 ca) (hb : Blk w b 179 cb) : (Op.equal 166 (.pointer (some ⟨a, 0, none⟩)) (.pointer (some ⟨b, 0, none⟩))).run Tryz.prog w = .ok (decide (a = b)) w := by
 obtain ⟨j, hj, hz⟩ := Tryz.infoItem
 have h : ∀ d : Nat, (Op.equalIn (d + 1) 166 (.pointer (some ⟨a, 0, none⟩)) (.pointer (some ⟨b, 0, none⟩))).run Tryz.prog w = .ok (decide (a = b)) w := fun d => by
  by_cases e : a = b
  · subst e
    simp [Op.equalIn, run_underlying Tryz.underlying166, sizeOf, typeInfo, hj, run_sameAddr_same]
  · have hne : (⟨a, 0, none⟩ : Addr) ≠ ⟨b, 0, none⟩ := fun h => e (by injection h)
    simp [Op.equalIn, run_underlying Tryz.underlying166, sizeOf, typeInfo, hj, hz, run_sameAddr_other w hne ha hb, e]
 simp only [Op.equal, Op.maxDepth, h 9999]
theorem neq_item (w : World) {a b : Nat} {ca cb : Array Value} (ha : Blk w a 179 ca) (hb : Blk w b 179 cb) (hne : a ≠ b) : (binOp .neq 166 (.pointer (some ⟨a, 0, none⟩)) (.pointer (some ⟨b, 0, none⟩))).run Tryz.prog w = .ok (.bool true) w := by
 have h := eq_item w ha hb
 rw [decide_eq_false hne] at h
 simp [binOp, h]
set_option maxHeartbeats 2000000 in
theorem depth_any (w : World) (t : Nat) (S : TS) (T : Abs.T) (β : Nat -> Nat) (h : TreeIs w t S T β) (d : Nat) (hd : T.isDir d = true) :
 Calls Tryz.prog 154 #[.pointer (some ⟨t, 0, none⟩), .pointer (some ⟨β d, 0, none⟩)] w fun e w' => e = .returned (.int .i64 (T.depth d : Int)) /\ w' = w := by
 obtain ⟨dp, h1, hdp⟩ := h.wf.rank
 have hdir := Abs.isDir_of hd
 have hdd : dp d <= 10 := by
  obtain ⟨x, hx, hxd⟩ := hdir
  by_cases e : d = 1
  · subst e; omega
  · exact (hdp d x hx hxd e).2
 have hfin : T.depth d = dp d := depthN_eq h1 hdp h.wf.up 11 d hdir (by omega)
 rw [hfin]
 have c0 : w.cell? ⟨t, 0, none⟩ = some (.pointer (some ⟨β 1, 0, none⟩)) := by rw [h.mem.blk.cell 0, <- h.rep.root]; rfl
 go_enter Tryz.func154, Tryz.ntmps154
 go_wp2
 go_loop [1, 5] (fun x n => ∃ j k : Nat, x = .pointer (some ⟨β j, 0, none⟩) /\ n = .int .i64 k /\ k <= 10 /\ dp j + k = dp d /\ ∃ z, T.get j = some z /\ z.dir = true) (fun _ n => (11 - intOf n).toNat)
 case atStart => exact ⟨d, 0, rfl, rfl, by omega, by omega, hdir⟩
 case round =>
  obtain ⟨j, k, rfl, rfl, hk, hjk, z, hz, hzd⟩ := hrel
  obtain ⟨y, hy, by0, _, _, _, hyd, _, hdr, _, _⟩ := h.at_ hz
  obtain ⟨xr, hxr, _⟩ := h.wf.root
  by_cases hj : j = 1
  · subst hj
    have hq := neq_item_same w ⟨β 1, 0, none⟩
    have hk1 : k = dp d := by omega
    go_wp2
    go_ret
    exact ⟨rfl, rfl⟩
  · have hne : β j ≠ β 1 := fun e => hj (h.rep.inj _ _ _ _ hz hxr e)
    have k6 : w.cell? ⟨β j, 6, none⟩ = some (.pointer (some ⟨β z.up, 0, none⟩)) := by rw [by0.cell 6, <- (hdr hzd).2]; simp [itemCells, hyd, hzd]
    have hd2 := hdp j z hz hzd hj
    have hu2 := h.wf.up j z hz hzd
    obtain ⟨yr, _, byr, _⟩ := h.at_ hxr
    have hq := neq_item w by0 byr hne
    go_wp2
    exact ⟨⟨z.up, k + 1, rfl, by go_num, by omega, by omega, hu2⟩, by simp [intOf]; omega⟩
end
section
set_option maxRecDepth 100000
open Go.RowKit Go.Maps
def MayIs (β : Nat -> Nat) : Except Nat (Nat × Abs.Name) -> Ending -> Prop
 | .error e, r => ∃ dv nv, r = .returned (.tuple #[dv, nv, .int .i64 (e : Int)])
 | .ok (d, n), r => r = .returned (.tuple #[.pointer (some ⟨β d, 0, none⟩), .string ⟨n.toArray⟩, .int .i64 0])
theorem place_ok {T : Abs.T} {cwd path : List UInt8} {d : Nat} {n : Abs.Name} (h : T.place cwd path = .ok (some (d, n))) : T.isDir d = true /\ Abs.named n = true := by
 unfold Abs.T.place at h
 split at h
 · cases h
 · split at h
   · cases h
   · split at h
     · cases h
     · split at h
       · cases h
       · rename_i hd
         split at h
         · cases h
         · split at h
           · cases h
           · rename_i hn
             simp only [Except.ok.injEq, Option.some.injEq, Prod.mk.injEq] at h
             obtain ⟨rfl, rfl⟩ := h
             exact ⟨by simpa using hd, by simpa using hn⟩
set_option maxHeartbeats 4000000 in
theorem may_any (w : World) (t : Nat) (S : TS) (T : Abs.T) (β : Nat -> Nat) (h : TreeIs w t S T β) (cwd path : ByteArray) (hc : cwd.size < 1073741824) (hp : path.size < 1073741824) (dir : Bool) :
 Calls Tryz.prog 123 #[.pointer (some ⟨t, 0, none⟩), .string cwd, .string path, .bool dir] w fun e w' => MayIs β (T.may cwd.data.toList path.data.toList dir) e /\ Below w.heap.size w w' := by
 have hf := place_any w t S T β h cwd path hc hp
 obtain ⟨r, hr⟩ : ∃ r, T.place cwd.data.toList path.data.toList = r := ⟨_, rfl⟩
 rw [hr] at hf
 obtain ⟨q, hq⟩ : ∃ q, T.may cwd.data.toList path.data.toList dir = q := ⟨_, rfl⟩
 rw [hq]
 unfold Abs.T.may at hq
 rw [hr] at hq
 match r, hr with
 | .error e, hr =>
   have he := Abs.T.place_ne0 hr
   have he1 : ((e : Int) != 0) = true := by simpa using he
   simp only at hq
   subst hq
   clear hr he
   unfold placeV at hf
   simp only at hf
   go_enter Tryz.func123, Tryz.ntmps123
   go_wp2_with (go_at_call 153; refine hf.mono ?_; rintro e w' ⟨rfl, hb⟩)
   go_ret3
   exact ⟨⟨_, _, rfl⟩, hb⟩
 | .ok none, hr =>
   simp only at hq
   subst hq
   clear hr
   unfold placeV at hf
   simp only at hf
   go_enter Tryz.func123, Tryz.ntmps123
   go_wp2_with (go_at_call 153; refine hf.mono ?_; rintro e w' ⟨rfl, hb⟩)
   go_ret3
   exact ⟨⟨_, _, rfl⟩, hb⟩
 | .ok (some (d, n)), hr =>
   obtain ⟨hd, hn⟩ := place_ok hr
   obtain ⟨x, hx, hxd⟩ := Abs.isDir_of hd
   simp only [hx] at hq
   unfold placeV at hf
   simp only at hf
   obtain ⟨ns, hns⟩ : ∃ ns : ByteArray, (⟨n.toArray⟩ : ByteArray) = ns := ⟨_, rfl⟩
   have hnl : ns.data.toList = n := by rw [<- hns]
   have hsz : ns.size <= 32 := named_size (by rw [hnl]; exact hn)
   have hne : ns.toList.isEmpty = false := by
    rw [Lib.toList_data, hnl]
    cases n with
    | nil => simp [Abs.named] at hn
    | cons _ _ => rfl
   obtain ⟨y, hy, by0, _, _, _, hyd, _, hdir, _, _⟩ := h.at_ hx
   rw [hxd] at hyd
   obtain ⟨hnf, _⟩ := hdir hxd
   have k5 : w.cell? ⟨β d, 5, none⟩ = some (.map (some y.nb)) := by rw [by0.cell 5]; simp [itemCells, hyd]
   have c3 : w.cell? ⟨t, 3, none⟩ = some (.int .i64 (T.many : Int)) := by rw [h.mem.blk.cell 3, <- h.rep.many]; rfl
   have lb := by0.lt
   have lt' := h.mem.blk.lt
   have hm := ((h.mem.item _ _ hy).2.2 hyd).1
   have hL := fun w2 (hb : Below w.heap.size w w2) => MapOf.look1 (hm.same (w' := w2) (hb.block _ hm.lt)) stringKeys Tryz.underlying177 (show (zeroValue 166).run Tryz.prog w2 = .ok (.pointer none) w2 from by kernel_rfl) (key := .string ns) (kl := .string ns.data.toList) (keyOf_str ns (by unfold maxLen; omega))
   have hnsf : namesF y.nf (.string ns.data.toList) = ((Abs.lk x.names n).map β).map ptrV := by show (y.nf _).map ptrV = _; rw [hnf, hnl]
   rw [hnsf] at hL
   have hdp := fun w2 (hb : Below w.heap.size w w2) => depth_any w2 t S T β (h.below hb) d hd
   have hsf := fun w2 => Tryz.strings_HasSuffix path ⟨#[47]⟩ w2 (by omega)
   rw [slash_suffix] at hsf
   rw [hns] at hf
   obtain ⟨sl, hsl⟩ : ∃ sl, Abs.slash path.data.toList = sl := ⟨_, rfl⟩
   obtain ⟨dp, hdpe⟩ : ∃ dp, T.depth d = dp := ⟨_, rfl⟩
   obtain ⟨mn, hmn⟩ : ∃ mn, T.many = mn := ⟨_, rfl⟩
   rw [hsl] at hsf
   rw [hdpe] at hdp
   rw [hmn] at c3
   rw [hsl, hdpe, hmn] at hq
   have HL := Lib.hid hL
   have HD := Lib.hid hdp
   have HX := Lib.hid hns
   clear hL hdp hns hr hsl hdpe hmn hx hy by0 hyd hdir hnf hnsf hm hd hnl hxd
   cases hlk : Abs.lk x.names n with
   | some j =>
     rw [hlk] at HL hq
     simp only [Option.isSome_some, if_true] at hq
     subst hq
     go_enter Tryz.func123, Tryz.ntmps123
     go_wp2_with (go_at_call 153; refine hf.mono ?_; rintro e w' ⟨rfl, hb⟩; have hl2 := HL.out w' hb; simp only [Option.map_some, Option.getD_some, ptrV] at hl2; have k52 := (hb.cell (p := ⟨β d, 5, none⟩) lb).trans k5)
     go_ret3
     exact ⟨⟨_, _, rfl⟩, hb⟩
   | none =>
     rw [hlk] at HL hq
     simp only [Option.isSome_none, Bool.false_eq_true, if_false] at hq
     cases hs : (sl && !dir) with
     | true =>
       rw [hs] at hq
       simp only [if_true] at hq
       subst hq
       simp only [Bool.and_eq_true, Bool.not_eq_true'] at hs
       obtain ⟨rfl, rfl⟩ := hs
       go_enter Tryz.func123, Tryz.ntmps123
       go_wp2_with (first
        | (go_at_call 153; refine hf.mono ?_; rintro e w' ⟨rfl, hb⟩; have hl2 := HL.out w' hb; simp only [Option.map_none, Option.getD_none] at hl2; have k52 := (hb.cell (p := ⟨β d, 5, none⟩) lb).trans k5; have c32 := (hb.cell (p := ⟨t, 3, none⟩) lt').trans c3)
        | (go_at_call 127; refine (hsf _).mono ?_; rintro e w3 ⟨rfl, rfl⟩)
        | (go_at_call 154; refine (HD.out _ hb).mono ?_; rintro e w4 ⟨rfl, rfl⟩))
       go_ret3
       exact ⟨⟨_, _, rfl⟩, hb⟩
     | false =>
       rw [hs] at hq
       simp only [Bool.false_eq_true, if_false] at hq
       by_cases hdp10 : 10 <= dp
       · rw [if_pos hdp10] at hq
         subst hq
         rcases (show sl = false \/ (sl = true /\ dir = true) by cases sl <;> cases dir <;> simp_all) with rfl | ⟨rfl, rfl⟩
         all_goals
          go_enter Tryz.func123, Tryz.ntmps123
          go_wp2_with (first
           | (go_at_call 153; refine hf.mono ?_; rintro e w' ⟨rfl, hb⟩; have hl2 := HL.out w' hb; simp only [Option.map_none, Option.getD_none] at hl2; have k52 := (hb.cell (p := ⟨β d, 5, none⟩) lb).trans k5; have c32 := (hb.cell (p := ⟨t, 3, none⟩) lt').trans c3)
           | (go_at_call 127; refine (hsf _).mono ?_; rintro e w3 ⟨rfl, rfl⟩)
           | (go_at_call 154; refine (HD.out _ hb).mono ?_; rintro e w4 ⟨rfl, rfl⟩))
          go_ret3
          exact ⟨⟨_, _, rfl⟩, hb⟩
       · rw [if_neg hdp10] at hq
         by_cases hm2 : 200 <= mn
         · rw [if_pos hm2] at hq
           subst hq
           rcases (show sl = false \/ (sl = true /\ dir = true) by cases sl <;> cases dir <;> simp_all) with rfl | ⟨rfl, rfl⟩
           all_goals
            go_enter Tryz.func123, Tryz.ntmps123
            go_wp2_with (first
             | (go_at_call 153; refine hf.mono ?_; rintro e w' ⟨rfl, hb⟩; have hl2 := HL.out w' hb; simp only [Option.map_none, Option.getD_none] at hl2; have k52 := (hb.cell (p := ⟨β d, 5, none⟩) lb).trans k5; have c32 := (hb.cell (p := ⟨t, 3, none⟩) lt').trans c3)
             | (go_at_call 127; refine (hsf _).mono ?_; rintro e w3 ⟨rfl, rfl⟩)
             | (go_at_call 154; refine (HD.out _ hb).mono ?_; rintro e w4 ⟨rfl, rfl⟩))
            go_ret3
            exact ⟨⟨_, _, rfl⟩, hb⟩
         · rw [if_neg hm2] at hq
           subst hq
           rcases (show sl = false \/ (sl = true /\ dir = true) by cases sl <;> cases dir <;> simp_all) with rfl | ⟨rfl, rfl⟩
           all_goals
            go_enter Tryz.func123, Tryz.ntmps123
            go_wp2_with (first
             | (go_at_call 153; refine hf.mono ?_; rintro e w' ⟨rfl, hb⟩; have hl2 := HL.out w' hb; simp only [Option.map_none, Option.getD_none] at hl2; have k52 := (hb.cell (p := ⟨β d, 5, none⟩) lb).trans k5; have c32 := (hb.cell (p := ⟨t, 3, none⟩) lt').trans c3)
             | (go_at_call 127; refine (hsf _).mono ?_; rintro e w3 ⟨rfl, rfl⟩)
             | (go_at_call 154; refine (HD.out _ hb).mono ?_; rintro e w4 ⟨rfl, rfl⟩))
            go_ret3
            exact ⟨by show _ = _; rw [HX.out]; rfl, hb⟩
end
section
set_option maxRecDepth 100000
open Go.RowKit Go.Maps
def updN (nf : List UInt8 -> Option Nat) (n : List UInt8) (v : Option Nat) : List UInt8 -> Option Nat := fun m => if m = n then v else nf m
theorem namesF_upd (nf : List UInt8 -> Option Nat) (n : List UInt8) (v : Option Nat) : namesF (updN nf n v) = upd (namesF nf) (.string n) (v.map ptrV) := by
 funext l
 cases l with
 | string s =>
   by_cases hs : s = n
   · subst hs
     rw [upd_same]
     show ((updN nf s v) s).map ptrV = _
     simp [updN]
   · rw [upd_other _ _ (fun e => hs (by injection e))]
     show ((updN nf n v) s).map ptrV = (nf s).map ptrV
     simp [updN, hs]
 | _ => exact (upd_other _ _ (fun e => by cases e)).symm
def TS.putE (S : TS) (bd : Nat) (yd : Item) (n : List UInt8) (bx : Nat) (yx : Item) : TS :=
 { (S.put bd { yd with nn := yd.nn + 1, nf := updN yd.nf n (some bx) }).put bx { yx with links := yx.links + 1, up := if yx.dir then bd else yx.up } with many := S.many + 1 }
theorem TS.put_put (S : TS) (b : Nat) (y y' : Item) (m : Int) : TS.put { S.put b y with next := S.next, many := m } b y' = { S.put b y' with many := m } := by
 unfold TS.put
 congr 1
 funext c
 by_cases hc : c = b <;> simp [hc]
theorem strLit (n : List UInt8) : WideAt.IsKeyLit (.string n) := trivial
set_option maxHeartbeats 2000000 in
theorem put_raw (w : World) (t : Nat) (S : TS) (h : TreeOf w t S) (bd bx : Nat) (yd yx : Item) (hd : S.items bd = some yd) (hdd : yd.dir = true) (hx : S.items bx = some yx) (hne : bd ≠ bx) (ns : ByteArray) (hs : ns.size <= 32) (hnn : yd.nn < 2305843009213693952) (hl : Calm yx.links) (hm : Calm S.many) :
 Calls Tryz.prog 124 #[.pointer (some ⟨t, 0, none⟩), .pointer (some ⟨bd, 0, none⟩), .string ns, .pointer (some ⟨bx, 0, none⟩)] w fun e w' => e = .returned (.tuple #[]) /\ TreeOf w' t (S.putE bd yd ns.data.toList bx yx) /\ TurnsP (S.foot t) w w' := by
 obtain ⟨d1, d2, d3⟩ := h.item bd yd hd
 obtain ⟨x1, x2, x3⟩ := h.item bx yx hx
 obtain ⟨m1, m2⟩ := d3 hdd
 have k5 : w.cell? ⟨bd, 5, none⟩ = some (.map (some yd.nb)) := by rw [d1.cell 5]; simp [itemCells, hdd]
 have wl := hl.wrap_up
 have wm := hm.wrap_up
 have htx : t ≠ bx := Blk.ne_ h.blk x1 (by decide)
 have hF : ∀ w1, MapOf w1 Tryz.prog 9 yd.nb (yd.nn + 1) (upd (namesF yd.nf) (.string ns.data.toList) (some (ptrV bx))) -> w.grownBy w1 (some yd.nb) -> TreeOf w1 t (S.put bd { yd with nn := yd.nn + 1, nf := updN yd.nf ns.data.toList (some bx) }) := by
  intro w1 hm1 hg1
  refine h.setNames hd hdd hg1 (yd.nn + 1) _ ?_
  rw [namesF_upd]
  exact hm1
 have HF := Lib.hid hF
 clear hF
 go_enter Tryz.func124, Tryz.ntmps124
 cases hxd : yx.dir with
 | true =>
   go_wp2_with (at_mapUpdate; refine wpList_store_of _ rfl _ _ _ 177 rfl 9 166 stringKeys Tryz.underlying177 yd.nb yd.nn (namesF yd.nf) rfl m1 (by unfold maxLen; omega) _ _ (.string ns.data.toList) rfl rfl (keyOf_str ns (by unfold maxLen; omega)) (strLit _) ?_; intro w1 hm1 hg1; have hT1 := HF.out w1 hm1 hg1; have b1 := (hT1.item bx yx (by rw [TS.put_other _ _ (Ne.symm hne)]; exact hx)).1; have q3 : w1.cell? ⟨bx, 3, none⟩ = some (.bool true) := (by rw [b1.cell 3, <- hxd]; rfl); have q7 : w1.cell? ⟨bx, 7, none⟩ = some (.int .i64 yx.links) := b1.cell 7; have f7 := b1.frozen 7; have q6 : w1.cell? ⟨bx, 6, none⟩ = some (.pointer (some ⟨yx.up, 0, none⟩)) := (by rw [b1.cell 6]; simp [itemCells, hxd]); have f6 := b1.frozen 6; have r3 : w1.cell? ⟨t, 3, none⟩ = some (.int .i64 S.many) := hT1.blk.cell 3; have g3 := hT1.blk.frozen 3; have lx := b1.lt; have lt1 := hT1.blk.lt)
   go_returns
   have hT1 := HF.out w1 hm1 hg1
   have hx1 : (S.put bd { yd with nn := yd.nn + 1, nf := updN yd.nf ns.data.toList (some bx) }).items bx = some yx := by rw [TS.put_other _ _ (Ne.symm hne)]; exact hx
   have hT2 := hT1.setItem (y' := { yx with links := yx.links + 1 }) hx1 (grown_setCell w1 ⟨bx, 7, none⟩ (.int .i64 (yx.links + 1))) (b1.set_ 7 _) rfl rfl rfl rfl rfl rfl
   have hT3 := hT2.setTree (grown_setCell _ ⟨t, 3, none⟩ (.int .i64 (S.many + 1))) S.next (S.many + 1) (hT2.blk.set_ 3 _)
   have fnb : S.foot t yd.nb := .inr (.inr ⟨bd, yd, hd, .inr (.inl ⟨hdd, rfl⟩)⟩)
   have fbx : S.foot t bx := .inr (.inr ⟨bx, yx, hx, .inl rfl⟩)
   have hP := (((TurnsP.refl (S.foot t) w).grown hg1 (fun k e _ => by cases e; exact fnb)).setCell ⟨bx, 7, none⟩ (.int .i64 (yx.links + 1)) (fun _ => fbx)).setCell ⟨t, 3, none⟩ (.int .i64 (S.many + 1)) (fun _ => .inl rfl)
   have bx3 := (hT3.item bx { yx with links := yx.links + 1 } (TS.put_same _ _ _)).1
   have hT4 := hT3.setItem (y' := { yx with links := yx.links + 1, up := bd }) (TS.put_same _ _ _) (grown_setCell _ ⟨bx, 6, none⟩ (.pointer (some ⟨bd, 0, none⟩))) (by have := bx3.set_ 6 (.pointer (some ⟨bd, 0, none⟩)); simpa [itemCells, hxd] using this) rfl rfl rfl rfl rfl rfl
   refine ⟨rfl, ?_, hP.setCell _ _ (fun _ => fbx)⟩
   have e : S.putE bd yd ns.data.toList bx yx = TS.put { (S.put bd { yd with nn := yd.nn + 1, nf := updN yd.nf ns.data.toList (some bx) }).put bx { yx with links := yx.links + 1 } with next := S.next, many := S.many + 1 } bx { yx with links := yx.links + 1, up := bd } := by
    unfold TS.putE
    rw [if_pos hxd]
    exact (TS.put_put _ _ _ _ _).symm
   rw [e]
   exact hT4
 | false =>
   go_wp2_with (at_mapUpdate; refine wpList_store_of _ rfl _ _ _ 177 rfl 9 166 stringKeys Tryz.underlying177 yd.nb yd.nn (namesF yd.nf) rfl m1 (by unfold maxLen; omega) _ _ (.string ns.data.toList) rfl rfl (keyOf_str ns (by unfold maxLen; omega)) (strLit _) ?_; intro w1 hm1 hg1; have hT1 := HF.out w1 hm1 hg1; have b1 := (hT1.item bx yx (by rw [TS.put_other _ _ (Ne.symm hne)]; exact hx)).1; have q3 : w1.cell? ⟨bx, 3, none⟩ = some (.bool false) := (by rw [b1.cell 3, <- hxd]; rfl); have q7 : w1.cell? ⟨bx, 7, none⟩ = some (.int .i64 yx.links) := b1.cell 7; have f7 := b1.frozen 7; have r3 : w1.cell? ⟨t, 3, none⟩ = some (.int .i64 S.many) := hT1.blk.cell 3; have g3 := hT1.blk.frozen 3; have lx := b1.lt; have lt1 := hT1.blk.lt)
   go_returns
   have hT1 := HF.out w1 hm1 hg1
   have hx1 : (S.put bd { yd with nn := yd.nn + 1, nf := updN yd.nf ns.data.toList (some bx) }).items bx = some yx := by rw [TS.put_other _ _ (Ne.symm hne)]; exact hx
   have hT2 := hT1.setItem (y' := { yx with links := yx.links + 1 }) hx1 (grown_setCell w1 ⟨bx, 7, none⟩ (.int .i64 (yx.links + 1))) (b1.set_ 7 _) rfl rfl rfl rfl rfl rfl
   have hT3 := hT2.setTree (grown_setCell _ ⟨t, 3, none⟩ (.int .i64 (S.many + 1))) S.next (S.many + 1) (hT2.blk.set_ 3 _)
   have fnb : S.foot t yd.nb := .inr (.inr ⟨bd, yd, hd, .inr (.inl ⟨hdd, rfl⟩)⟩)
   have fbx : S.foot t bx := .inr (.inr ⟨bx, yx, hx, .inl rfl⟩)
   have hP := (((TurnsP.refl (S.foot t) w).grown hg1 (fun k e _ => by cases e; exact fnb)).setCell ⟨bx, 7, none⟩ (.int .i64 (yx.links + 1)) (fun _ => fbx)).setCell ⟨t, 3, none⟩ (.int .i64 (S.many + 1)) (fun _ => .inl rfl)
   refine ⟨rfl, ?_, hP⟩
   have e : S.putE bd yd ns.data.toList bx yx = { (S.put bd { yd with nn := yd.nn + 1, nf := updN yd.nf ns.data.toList (some bx) }).put bx { yx with links := yx.links + 1 } with next := S.next, many := S.many + 1 } := by
    unfold TS.putE
    rw [if_neg (by rw [hxd]; decide)]
    rfl
   rw [e]
   exact hT3
end
section
open Go.RowKit Go.Maps
def updF (f : Nat -> Option Nat) (n : Nat) (v : Option Nat) : Nat -> Option Nat := fun m => if m = n then v else f m
def updB (β : Nat -> Nat) (n b : Nat) : Nat -> Nat := fun m => if m = n then b else β m
theorem rep_made {S S4 : TS} {T : Abs.T} {β : Nat -> Nat} (h : Rep S T β) (hwf : T.WF) {b : Nat} (hb : ∀ i x, T.get i = some x -> β i ≠ b) {d : Nat} {n : Abs.Name} {y x : Abs.Ent} (hy : T.get d = some y) (hyd : y.dir = true) (hlk : Abs.lk y.names n = none)
 (hxn : x.names = []) (hxh : x.held = 0) (hxd : x.data = []) (hxu : x.dir = true -> x.up = d) {yd yx : Item} {m : Nat} (hdi : S.items (β d) = some yd)
 (e0 : yx.ino = T.next) (e1 : yx.mode = x.mode) (e2 : yx.tick = x.tick) (e3 : yx.dir = x.dir) (e4 : yx.data = []) (e5 : yx.links = 0) (e6 : yx.held = 0) (e7 : ∀ n, yx.nf n = none)
 (r0 : S4.root = S.root) (r1 : S4.next = S.next + 1) (r2 : S4.many = S.many + 1)
 (r3 : ∀ c, S4.items c = if c = b then some { yx with links := yx.links + 1, up := if yx.dir then β d else yx.up } else if c = β d then some { yd with nn := m, nf := updN yd.nf n (some b) } else S.items c)
 (r4 : ∀ i, S4.files i = if x.dir then S.files i else updF S.files T.next (some b) i) : Rep S4 (T.made d n x) (updB β T.next b) := by
 have hg := fun i => hwf.made_get (n := n) (x := x) (i := i) hy
 have hlinks := fun i => hwf.made_links (n := n) (x := x) (i := i) hy hxn
 have hold : ∀ {i z}, T.get i = some z -> i ≠ T.next := fun {i z} hz => by have := (hwf.lt i z hz).2; omega
 have hβ : ∀ {i z}, T.get i = some z -> updB β T.next b i = β i := fun {i z} hz => if_neg (hold hz)
 have hβn : updB β T.next b T.next = b := if_pos rfl
 have hback : ∀ {i z'}, (T.made d n x).get i = some z' -> (i = T.next /\ z' = x) \/ (i = d /\ z' = { y with names := Abs.ins n T.next y.names }) \/ (i ≠ d /\ T.get i = some z') := by
  intro i z' hz
  rw [hg] at hz
  by_cases e1 : i = T.next
  · rw [if_pos e1] at hz; cases hz; exact .inl ⟨e1, rfl⟩
  · rw [if_neg e1] at hz
    by_cases e2 : i = d
    · rw [if_pos e2] at hz; cases hz; exact .inr (.inl ⟨e2, rfl⟩)
    · rw [if_neg e2] at hz; exact .inr (.inr ⟨e2, hz⟩)
 obtain ⟨xr, hxr, _⟩ := hwf.root
 refine ⟨?_, ?_, ?_, ?_, ?_, ?_⟩
 · rw [r0, hβ hxr]; exact h.root
 · rw [r1, h.next]; rfl
 · rw [r2, h.many, hwf.made_many hy hxn]; omega
 · intro i j zi zj hi hj he
   have hlive : ∀ {k z}, (T.made d n x).get k = some z -> k ≠ T.next -> ∃ z, T.get k = some z := by
    intro k z hk hne
    rcases hback hk with ⟨e, _⟩ | ⟨rfl, _⟩ | ⟨_, hk⟩
    · exact absurd e hne
    · exact ⟨y, hy⟩
    · exact ⟨z, hk⟩
   by_cases hi1 : i = T.next
   · by_cases hj1 : j = T.next
     · rw [hi1, hj1]
     · obtain ⟨z, hz⟩ := hlive hj hj1
       rw [hi1, hβn, hβ hz] at he
       exact absurd he.symm (hb _ _ hz)
   · obtain ⟨z, hz⟩ := hlive hi hi1
     by_cases hj1 : j = T.next
     · rw [hj1, hβn, hβ hz] at he
       exact absurd he (hb _ _ hz)
     · obtain ⟨z2, hz2⟩ := hlive hj hj1
       rw [hβ hz, hβ hz2] at he
       exact h.inj _ _ _ _ hz hz2 he
 · intro i z' hz
   rcases hback hz with ⟨rfl, rfl⟩ | ⟨rfl, rfl⟩ | ⟨hid, hz⟩
   · rw [hβn, r3, if_pos rfl, hlinks, if_pos rfl, hwf.links_none hwf.next_none]
     refine ⟨_, rfl, e0, e1, e2, e3, by rw [hxd]; exact e4, fun hd => ⟨fun n => ?_, ?_⟩, ?_, ?_⟩
     · show yx.nf n = _
       rw [e7, hxn]; rfl
     · show (if yx.dir = true then β d else yx.up) = _
       rw [e3, if_pos hd, hxu hd, hβ hy]
     · show yx.links + 1 = _
       rw [e5]; rfl
     · show yx.held = _
       rw [e6, hxh]; rfl
   · obtain ⟨w0, hw0, h1, h2, h3, h4, h5, h6, h7, h8⟩ := h.item _ _ hy
     rw [hdi] at hw0
     cases hw0
     rw [hβ hy, r3, if_neg (hb _ _ hy), if_pos rfl, hlinks, if_neg (hold hy)]
     refine ⟨_, rfl, h1, h2, h3, h4, h5, fun hd => ⟨fun k => ?_, ?_⟩, h7, h8⟩
     · show updN yd.nf n (some b) k = _
       simp only
       rw [Abs.lk_ins hlk]
       unfold updN
       by_cases hk : k = n
       · rw [if_pos hk, if_pos hk, Option.map_some, hβn]
       · rw [if_neg hk, if_neg hk, (h6 hyd).1 k]
         cases hl : Abs.lk y.names k with
         | none => rfl
         | some j =>
           obtain ⟨_, zj, hzj⟩ := hwf.live _ _ _ _ hy hl
           rw [Option.map_some, Option.map_some, hβ hzj]
     · show yd.up = updB β T.next b y.up
       obtain ⟨zu, hzu, _⟩ := hwf.up _ _ hy hyd
       rw [hβ hzu]
       exact (h6 hyd).2
   · obtain ⟨w0, hw0, h1, h2, h3, h4, h5, h6, h7, h8⟩ := h.item _ _ hz
     rw [hβ hz, r3, if_neg (hb _ _ hz), if_neg (fun e => hid (h.inj _ _ _ _ hz hy e)), hlinks, if_neg (hold hz)]
     refine ⟨w0, hw0, h1, h2, h3, h4, h5, fun hd => ⟨fun k => ?_, ?_⟩, h7, h8⟩
     · rw [(h6 hd).1 k]
       cases hl : Abs.lk z'.names k with
       | none => rfl
       | some j =>
         obtain ⟨_, zj, hzj⟩ := hwf.live _ _ _ _ hz hl
         rw [Option.map_some, Option.map_some, hβ hzj]
     · obtain ⟨zu, hzu, _⟩ := hwf.up _ _ hz hd
       rw [hβ hzu]
       exact (h6 hd).2
 · intro i
   rw [r4, hg]
   by_cases e1 : i = T.next
   · subst e1
     rw [if_pos rfl, hβn]
     simp only
     cases hd : x.dir with
     | true =>
       simp only [if_true]
       rw [h.files, hwf.next_none]
     | false => simp [updF]
   · rw [if_neg e1]
     have hf : (if x.dir = true then S.files i else updF S.files T.next (some b) i) = S.files i := by
      split
      · rfl
      · exact if_neg e1
     rw [hf, h.files]
     by_cases e2 : i = d
     · subst e2
       rw [if_pos rfl, hy]
       simp [hyd]
     · rw [if_neg e2]
       cases hz : T.get i with
       | none => rfl
       | some z => simp only; rw [hβ hz]
end
section
set_option maxRecDepth 100000
open Go.RowKit Go.Maps
def TS.within (S : TS) (c : Nat) : Prop := (∀ b y, S.items b = some y -> y.nn <= c) /\ S.fn <= c
def TWent (w w' : World) (t : Nat) (S : TS) (c : Nat) (T' : Abs.T) : Prop :=
 ∃ S' β', TreeIs w' t S' T' β' /\ S'.within c /\ TurnsP (S.foot t) w w' /\ ∀ b, S'.foot t b -> S.foot t b \/ w.heap.size <= b
def makeV : Except Nat Nat -> Value
 | .ok i => .tuple #[.int .i64 (i : Int), .int .i64 0]
 | .error e => .tuple #[.int .i64 0, .int .i64 (e : Int)]
theorem may_ok {T : Abs.T} {cwd path : List UInt8} {dir : Bool} {d : Nat} {n : Abs.Name} (h : T.may cwd path dir = .ok (d, n)) : ∃ x, T.get d = some x /\ x.dir = true /\ Abs.named n = true /\ Abs.lk x.names n = none /\ T.depth d < 10 /\ T.many < 200 := by
 unfold Abs.T.may at h
 split at h
 · cases h
 · cases h
 · rename_i d' n' hp
   obtain ⟨hd, hn⟩ := place_ok hp
   obtain ⟨x, hx, hxd⟩ := Abs.isDir_of hd
   rw [hx] at h
   simp only at h
   split at h
   · cases h
   · rename_i h1
     split at h
     · cases h
     · split at h
       · cases h
       · split at h
         · cases h
         · simp only [Except.ok.injEq, Prod.mk.injEq] at h
           obtain ⟨rfl, rfl⟩ := h
           exact ⟨x, hx, hxd, hn, by simpa using h1, by omega, by omega⟩
theorem may_ne0 {T : Abs.T} {cwd path : List UInt8} {dir : Bool} {e : Nat} (h : T.may cwd path dir = .error e) : e ≠ 0 := by
 unfold Abs.T.may at h
 split at h
 · rename_i e' he; injection h with h; subst h; exact Abs.T.place_ne0 he
 · cases h; decide
 · repeat' split at h
   all_goals (cases h <;> decide)
set_option maxHeartbeats 4000000 in
theorem make_no (w : World) (t : Nat) (S : TS) (T : Abs.T) (β : Nat -> Nat) (h : TreeIs w t S T β) (cwd path : ByteArray) (hc : cwd.size < 1073741824) (hp : path.size < 1073741824) (dir : Bool) (mode now : Int) (e : Nat) (hm : T.may cwd.data.toList path.data.toList dir = .error e) :
 Calls Tryz.prog 94 #[.pointer (some ⟨t, 0, none⟩), .string cwd, .string path, .bool dir, .int .i64 mode, .int .i64 now] w fun r w' => r = .returned (makeV (.error e)) /\ Below w.heap.size w w' := by
 have hf := may_any w t S T β h cwd path hc hp dir
 rw [hm] at hf
 have he := may_ne0 hm
 have he1 : ((e : Int) != 0) = true := by simpa using he
 clear hm he
 unfold MayIs at hf
 unfold makeV
 go_enter Tryz.func94, Tryz.ntmps94
 go_wp2_with (go_at_call 123; refine hf.mono ?_; rintro e w' ⟨⟨dv, nv, rfl⟩, hb⟩)
 go_ret2
 exact ⟨rfl, hb⟩
theorem i64_and511 (n : Int) : bits .and .i64 n 511 = n % 512 := by
 have h511 : (BitVec.ofInt 64 511).toNat = 2 ^ 9 - 1 := by decide
 have key : (BitVec.ofInt 64 n &&& BitVec.ofInt 64 511).toNat = (n % ((2 ^ 64 : Nat) : Int)).toNat % 2 ^ 9 := by
  rw [BitVec.toNat_and, BitVec.toNat_ofInt, h511, Nat.and_two_pow_sub_one_eq_mod]
 show IntKind.i64.wrap ((BitVec.ofInt 64 n &&& BitVec.ofInt 64 511).toNat : Nat) = n % 512
 rw [key, IntKind.wrap_i64]
 omega
def newFile (ino : Nat) (mode tick : Int) : Item := { ino := ino, mode := mode, tick := tick, dir := false, dv := .slice none 0 0, data := [], nb := 0, nn := 0, nf := fun _ => none, up := 0, links := 0, held := 0 }
def newDir (ino : Nat) (mode tick : Int) (nb up : Nat) : Item := { ino := ino, mode := mode, tick := tick, dir := true, dv := .slice none 0 0, data := [], nb := nb, nn := 0, nf := fun _ => none, up := up, links := 0, held := 0 }
theorem filesF_upd (f : Nat -> Option Nat) (n : Nat) (v : Option Nat) : filesF (updF f n v) = upd (filesF f) (numK n) (v.map ptrV) := by
 funext l
 by_cases hl : l = numK n
 · subst hl
   rw [upd_same]
   unfold filesF
   simp [updF]
 · rw [upd_other _ _ hl]
   unfold filesF
   split
   · rename_i m
     split
     · rename_i hm
       have : m.toNat ≠ n := fun e => hl (by simp only [numK, Lit.int.injEq, true_and]; omega)
       simp [updF, this]
     · rfl
   · rfl
set_option maxHeartbeats 4000000 in
theorem make_file (w : World) (t : Nat) (S : TS) (T : Abs.T) (β : Nat -> Nat) (h : TreeIs w t S T β) (c : Nat) (hwi : S.within c) (hcb : c < 1152921504606846976) (hnx : T.next < 1152921504606846976) (cwd path : ByteArray) (hc : cwd.size < 1073741824) (hp : path.size < 1073741824) (mode now : Int) (d : Nat) (n : Abs.Name) (hm : T.may cwd.data.toList path.data.toList false = .ok (d, n)) :
 Calls Tryz.prog 94 #[.pointer (some ⟨t, 0, none⟩), .string cwd, .string path, .bool false, .int .i64 mode, .int .i64 now] w fun r w' => r = .returned (makeV (.ok T.next)) /\ TWent w w' t S (c + 1) (T.made d n { dir := false, mode := Abs.nine mode, tick := now }) := by
 have hf := may_any w t S T β h cwd path hc hp false
 rw [hm] at hf
 obtain ⟨x, hx, hxd, hn, hlk, hdep, hmany⟩ := may_ok hm
 unfold MayIs at hf
 simp only at hf
 obtain ⟨yd, hyd, bd, hin, hmo, hti, hdi, hda, hdr, hli, hhe⟩ := h.at_ hx
 rw [hxd] at hdi
 have hsn : S.next = T.next := h.rep.next
 have hT1 : ∀ w1, Below w.heap.size w w1 -> w1.cell? ⟨t, 2, none⟩ = some (.int .i64 (T.next : Int)) /\ w1.frozen? ⟨t, 2, none⟩ = false /\ t < w1.heap.size /\ w1.cell? ⟨t, 1, none⟩ = some (.map (some S.fb)) := by
  intro w1 hb
  have h1 := (h.below hb).mem.blk
  exact ⟨by rw [h1.cell 2, <- hsn]; rfl, h1.frozen 2, h1.lt, h1.cell 1⟩
 have HT := Lib.hid hT1
 clear hT1
 unfold makeV
 go_enter Tryz.func94, Tryz.ntmps94
 go_wp2_with (go_at_call 123; refine hf.mono ?_; rintro e w1 ⟨rfl, hb⟩; obtain ⟨c2, f2, lt1, c1⟩ := HT.out w1 hb)
 rw [i64_and511]
 obtain ⟨b, hbe⟩ : ∃ b, w1.heap.size = b := ⟨_, rfl⟩
 have hI1 := h.below hb
 have hTa := hI1.mem.setTree (grown_setCell w1 ⟨t, 2, none⟩ (.int .i64 ((T.next : Int) + 1))) (S.next + 1) S.many (by have := hI1.mem.blk.set_ 2 (.int .i64 ((T.next : Int) + 1)); rw [hsn]; exact this)
 have hsza : (w1.setCell ⟨t, 2, none⟩ (.int .i64 ((T.next : Int) + 1))).heap.size = b := by simp [hbe]
 have hTb := fun o => hTa.below ((Below.refl _ _).alloc (Nat.le_refl _) o)
 have hnew := Blk.new (w1.setCell ⟨t, 2, none⟩ (.int .i64 ((T.next : Int) + 1))) 179 (itemCells (newFile T.next (Abs.nine mode) now))
 rw [hsza] at hnew
 have hTc := (hTb _).addItem (y := newFile T.next (Abs.nine mode) now) hnew (OffRow.nil _ _ _) (fun e => by cases e) (fun e => by cases e) (fun g e => by simp [newFile, Value.ownBlock] at e)
 have P1 : TurnsP (S.foot t) w ((w1.setCell ⟨t, 2, none⟩ (.int .i64 ((T.next : Int) + 1))).alloc (.cells (itemCells (newFile T.next (Abs.nine mode) now)) 179)) := ((TurnsP.of_below hb).setCell _ _ (fun _ => .inl rfl)).alloc _
 have hWe : (w1.setCell ⟨t, 2, none⟩ (.int .i64 ((T.next : Int) + 1))).alloc (.cells #[.int .i64 (T.next : Int), .int .i64 (mode % 512), .int .i64 now, .bool false, .slice none 0 0, .map none, .pointer none, .int .i64 0, .int .i64 0] 179) = (w1.setCell ⟨t, 2, none⟩ (.int .i64 ((T.next : Int) + 1))).alloc (.cells (itemCells (newFile T.next (Abs.nine mode) now)) 179) := rfl
 rw [hWe, hbe]
 obtain ⟨W, hW⟩ : ∃ W, ((w1.setCell ⟨t, 2, none⟩ (.int .i64 ((T.next : Int) + 1))).alloc (.cells (itemCells (newFile T.next (Abs.nine mode) now)) 179)).drew = W := ⟨_, rfl⟩
 have hTd : TreeOf W t (TS.put { S with next := S.next + 1, many := S.many } b (newFile T.next (Abs.nine mode) now)) := by rw [<- hW]; exact hTc.off (F := fun _ => False) ((TurnsP.refl _ _).drew) (fun _ _ => id)
 have P2 : TurnsP (S.foot t) w W := by rw [<- hW]; exact P1.drew
 have hbW : b < W.heap.size := by rw [<- hW]; show b < (World.alloc _ _).heap.size; rw [World.size_alloc, hsza]; omega
 have bi := (hTd.item b _ (TS.put_same _ _ _)).1
 have q0 : W.cell? ⟨b, 0, none⟩ = some (.int .i64 (T.next : Int)) := bi.cell 0
 have q1 : W.cell? ⟨t, 1, none⟩ = some (.map (some S.fb)) := hTd.blk.cell 1
 have ltW := hTd.blk.lt
 refine still_tail 9 W hW (by kernel_rfl) (by kernel_rfl) ?_
 simp only [List.take_succ_cons, List.take_zero, List.drop_succ_cons, List.drop_zero]
 repeat still_step
 refine wpStill_nil ?_
 have hfW : MapOf W Tryz.prog 3 S.fb S.fn (filesF S.files) := hTd.files
 have hfn := hwi.2
 have hdb : β d ≠ b := fun e => by have := bd.lt; have := hb.size; omega
 obtain ⟨S3, hS3⟩ : ∃ S3 : TS, { TS.put { S with next := S.next + 1, many := S.many } b (newFile T.next (Abs.nine mode) now) with fn := S.fn + 1, files := updF S.files T.next (some b) } = S3 := ⟨_, rfl⟩
 have hd3 : S3.items (β d) = some yd := by rw [<- hS3]; exact (TS.put_other _ _ hdb).trans hyd
 have hb3 : S3.items b = some (newFile T.next (Abs.nine mode) now) := by rw [<- hS3]; exact TS.put_same _ _ _
 have hm3 : S3.many = (T.many : Int) := by rw [<- hS3]; exact h.rep.many
 have hfoot3 : ∀ g, S3.foot t g -> S.foot t g \/ w.heap.size <= g := by
  rintro g (rfl | rfl | ⟨i, y, hy, hg⟩)
  · exact .inl (.inl rfl)
  · rw [<- hS3]; exact .inl (.inr (.inl rfl))
  · rw [<- hS3] at hy
    by_cases hi : i = b
    · subst hi
      rw [show TS.items _ i = _ from TS.put_same _ _ _] at hy
      cases hy
      rcases hg with rfl | ⟨hd, _⟩ | hv
      · exact .inr (by have := hb.size; omega)
      · cases hd
      · simp [newFile, Value.ownBlock] at hv
    · rw [show TS.items _ i = _ from TS.put_other _ _ hi] at hy
      exact .inl (.inr (.inr ⟨i, y, hy, hg⟩))
 have hT3 : ∀ w3, MapOf w3 Tryz.prog 3 S.fb (S.fn + 1) (upd (filesF S.files) (numK T.next) (some (ptrV b))) -> W.grownBy w3 (some S.fb) -> TreeOf w3 t S3 := by
  intro w3 hm hg
  have := hTd.setFiles hg (S.fn + 1) (updF S.files T.next (some b)) (by rw [filesF_upd]; exact hm)
  rw [hS3] at this
  exact this
 have hput := fun w3 h3 => put_raw w3 t S3 h3 (β d) b yd (newFile T.next (Abs.nine mode) now) hd3 hdi hb3 hdb ⟨n.toArray⟩ (named_size (by exact hn)) (by have := hwi.1 _ _ hyd; omega) (by unfold Calm newFile; simp) (by unfold Calm; rw [hm3]; omega)
 have H3 := Lib.hid hT3
 have HP := Lib.hid hput
 clear hT3 hput hTd hTc hTa hTb hnew hI1 hm3
 go_wp2_with (first
  | (go_at_call 124; refine (HP.out w3 hT3).mono ?_; rintro e w4 ⟨rfl, hT4, hP4⟩; have bi4 := (hT4.item b _ (TS.put_same _ _ _)).1; have q04 : w4.cell? ⟨b, 0, none⟩ = some (.int .i64 (T.next : Int)) := bi4.cell 0)
  | (at_mapUpdate; refine wpList_store_of _ rfl _ _ _ 167 rfl 3 166 intKeys Tryz.underlying167 S.fb S.fn (filesF S.files) rfl hfW (by unfold maxLen; omega) _ _ (numK T.next) rfl rfl (keyOf_int_mk Tryz.underlying3 (WalkArith.wf_i64 (by omega))) trivial ?_; intro w3 hm3 hg3; have hT3 := H3.out w3 hm3 hg3))
 go_ret2
 have hE : ∀ c, (S3.putE (β d) yd n b (newFile T.next (Abs.nine mode) now)).items c = if c = b then some { newFile T.next (Abs.nine mode) now with links := (newFile T.next (Abs.nine mode) now).links + 1, up := if (newFile T.next (Abs.nine mode) now).dir then β d else (newFile T.next (Abs.nine mode) now).up } else if c = β d then some { yd with nn := yd.nn + 1, nf := updN yd.nf n (some b) } else S.items c := by
  intro c
  by_cases hc : c = b
  · subst hc; rw [if_pos rfl]; exact TS.put_same _ _ _
  · rw [if_neg hc]
    refine (TS.put_other _ _ hc).trans ?_
    by_cases hcd : c = β d
    · subst hcd; rw [if_pos rfl]; exact TS.put_same _ _ _
    · rw [if_neg hcd]
      refine (TS.put_other _ _ hcd).trans ?_
      rw [<- hS3]
      exact TS.put_other _ _ hc
 refine ⟨rfl, S3.putE (β d) yd n b (newFile T.next (Abs.nine mode) now), updB β T.next b, ⟨hT4, ?_, ?_⟩, ?_, ?_, ?_⟩
 · refine rep_made h.rep h.wf (fun i z hz e => ?_) hx hxd hlk rfl rfl rfl (fun e => by cases e) (m := yd.nn + 1) hyd (yx := newFile T.next (Abs.nine mode) now) rfl rfl rfl rfl rfl rfl rfl (fun _ => rfl) ?_ ?_ ?_ hE (fun i => ?_)
   · obtain ⟨yz, _, bz, _⟩ := h.at_ hz
     have := bz.lt; have := hb.size; omega
   · rw [<- hS3]; rfl
   · rw [<- hS3]; rfl
   · rw [<- hS3]; rfl
   · rw [<- hS3]; rfl
 · exact h.wf.made_wf hx hxd hlk rfl (fun e => by cases e) hdep
 · refine ⟨fun c y hy => ?_, ?_⟩
   · rw [hE] at hy
     split at hy
     · cases hy; exact Nat.zero_le _
     · split at hy
       · cases hy; exact Nat.succ_le_succ (hwi.1 _ _ hyd)
       · have := hwi.1 _ _ hy; omega
   · show S3.fn <= _
     rw [<- hS3]
     exact Nat.succ_le_succ hwi.2
 · refine (P2.grown hg3 (fun k e _ => by cases e; exact .inr (.inl rfl))).then hP4 hfoot3
 · rintro g (rfl | e | ⟨i, y, hy, hg⟩)
   · exact .inl (.inl rfl)
   · refine .inl (.inr (.inl (e.trans ?_)))
     show S3.fb = _
     rw [<- hS3]; rfl
   · rw [hE] at hy
     split at hy
     · rename_i hib
       cases hy
       rcases hg with rfl | ⟨hd, _⟩ | hv
       · exact .inr (by have := hb.size; omega)
       · cases hd
       · simp [newFile, Value.ownBlock] at hv
     · split at hy
       · rename_i _ hid
         cases hy
         exact .inl (.inr (.inr ⟨β d, yd, hyd, by rw [<- hid]; exact hg⟩))
       · exact .inl (.inr (.inr ⟨i, y, hy, hg⟩))
end
section
open Go.RowKit
theorem nat_clear9 (X : Nat) (h : X < 2 ^ 64) : X &&& (2 ^ 64 - 512) = X / 512 * 512 := by
 apply Nat.eq_of_testBit_eq
 intro i
 have e : (2 ^ 64 - 512 : Nat) = (2 ^ 55 - 1) <<< 9 := by decide
 have e2 : X / 512 * 512 = (X >>> 9) <<< 9 := by rw [Nat.shiftRight_eq_div_pow, Nat.shiftLeft_eq]
 rw [e, e2, Nat.testBit_and, Nat.testBit_shiftLeft, Nat.testBit_shiftLeft, Nat.testBit_two_pow_sub_one, Nat.testBit_shiftRight]
 by_cases h9 : 9 <= i
 · by_cases h64 : i < 64
   · simp [h9, show i - 9 < 55 by omega, show 9 + (i - 9) = i by omega]
   · have hx : X.testBit i = false := Nat.testBit_lt_two_pow (Nat.lt_of_lt_of_le h (Nat.pow_le_pow_right (by decide) (by omega)))
     simp [hx, h9, show 9 + (i - 9) = i by omega]
 · simp [h9]
theorem i64_clear511 (n : Int) (h1 : -9223372036854775808 <= n) (h2 : n <= 9223372036854775807) : bits .andNot .i64 n 511 = n - n % 512 := by
 have h511 : (~~~ (BitVec.ofInt 64 511)).toNat = 2 ^ 64 - 512 := by decide
 have key : (BitVec.ofInt 64 n &&& ~~~ (BitVec.ofInt 64 511)).toNat = (n % ((2 ^ 64 : Nat) : Int)).toNat / 512 * 512 := by
  rw [BitVec.toNat_and, BitVec.toNat_ofInt, h511, nat_clear9 _ (by omega)]
 show IntKind.i64.wrap ((BitVec.ofInt 64 n &&& ~~~ (BitVec.ofInt 64 511)).toNat : Nat) = _
 rw [key, IntKind.wrap_i64]
 omega
theorem mode_bits (n : Int) (h1 : -9223372036854775808 <= n) (h2 : n <= 9223372036854775807) : (bits .andNot .i64 n 511 != 0) = decide (n < 0 \/ 511 < n) := by
 rw [i64_clear511 n h1 h2]
 by_cases h : n < 0 \/ 511 < n
 · rw [decide_eq_true h, bne_iff_ne]; omega
 · rw [decide_eq_false h]
   have : n - n % 512 = 0 := by omega
   rw [this]; rfl
end
end Go.Proofs.YtffffjngodinnaaGreatDoor
