/-
  Parts of the proof.
-/
import Derived.Test.YtffffjngodinnaaGreatDoorV29
import Derived.Test.YtffffjngodinnaaGreatDoorV21
import Derived.Test.YtffffjngodinnaaGreatDoorV12
namespace Go.Proofs.YtffffjngodinnaaGreatDoor
section
open Go.RowKit Go.Maps Go.Shelf Go.Lib Go.Sort
def cmpN (a b : List UInt8) : Int := if Abs.nlt a b then -1 else if Abs.nlt b a then 1 else 0
set_option maxHeartbeats 1000000 in
theorem isNaN_str (x : ByteArray) (w : World) : Calls Tryz.prog 105 #[.string x] w fun e w' => e = .returned (.bool false) /\ w' = w := by
 go_enter Tryz.func105, Tryz.ntmps105
 go_wp2
 go_returns
 simp
theorem bytesLess_nlt : ∀ a b : List UInt8, Op.bytesLess a b = Abs.nlt a b
 | [], [] => rfl
 | [], _ :: _ => rfl
 | _ :: _, [] => rfl
 | a :: l, b :: m => by
   unfold Op.bytesLess Abs.nlt
   by_cases h1 : a < b
   · simp [h1]
   · by_cases h2 : b < a
     · have : a ≠ b := fun e => by subst e; exact UInt8.lt_irrefl _ h2
       simp [h1, h2, this]
     · have : a = b := UInt8.le_antisymm (UInt8.not_lt.1 h2) (UInt8.not_lt.1 h1)
       subst this
       simp [bytesLess_nlt l m]
set_option maxHeartbeats 1000000 in
theorem compare_str (x y : ByteArray) (w : World) : Calls Tryz.prog 68 #[.string x, .string y] w fun e w' => e = .returned (.int .i64 (cmpN x.data.toList y.data.toList)) /\ w' = w := by
 have hb1 := bytesLess_nlt x.toList y.toList
 have he : x.data.toList = x.toList := (toList_data x).symm
 have he2 : y.data.toList = y.toList := (toList_data y).symm
 rw [he, he2]
 unfold cmpN
 cases h1 : Abs.nlt x.toList y.toList with
 | true =>
   rw [h1] at hb1
   clear h1
   go_enter Tryz.func68, Tryz.ntmps68
   go_wp2_with (go_at_call 105; refine (isNaN_str _ _).mono ?_; rintro e w' ⟨rfl, hw⟩; obtain rfl : w = w' := hw.symm)
   go_returns
   exact ⟨rfl, rfl⟩
 | false =>
   rw [h1] at hb1
   cases h2 : Abs.nlt y.toList x.toList with
   | true =>
     have hb2 : (x.toList == y.toList) = false := by
      rw [beq_eq_false_iff_ne]
      intro e
      rw [e, Abs.nlt_irrefl] at h2
      cases h2
     clear h1 h2
     go_enter Tryz.func68, Tryz.ntmps68
     go_wp2_with (go_at_call 105; refine (isNaN_str _ _).mono ?_; rintro e w' ⟨rfl, hw⟩; obtain rfl : w = w' := hw.symm)
     go_returns
     exact ⟨rfl, rfl⟩
   | false =>
     have hb2 : (x.toList == y.toList) = true := by
      rw [beq_iff_eq]
      by_cases e : x.toList = y.toList
      · exact e
      · rw [Abs.nlt_total e h1] at h2; cases h2
     clear h1 h2
     go_enter Tryz.func68, Tryz.ntmps68
     go_wp2_with (go_at_call 105; refine (isNaN_str _ _).mono ?_; rintro e w' ⟨rfl, hw⟩; obtain rfl : w = w' := hw.symm)
     go_returns
     exact ⟨rfl, rfl⟩
def toldC (β : Nat -> Nat) (a : List UInt8 × Nat) : List Value := [.string ⟨a.1.toArray⟩, .pointer (some ⟨β a.2, 0, none⟩)]
def cmpT (a b : List UInt8 × Nat) : Int := cmpN a.1 b.1
set_option maxHeartbeats 1000000 in
theorem told_less (β : Nat -> Nat) (x y : List UInt8 × Nat) (W : World) : Calls Tryz.prog 67 #[.agg (toldC β x).toArray, .agg (toldC β y).toArray] W fun e w' => e = .returned (.int .i64 (cmpT x y)) /\ ∃ q os', w' = grow (W.drewN q) os' := by
 have hcon := fun W' => compare_str ⟨x.1.toArray⟩ ⟨y.1.toArray⟩ W'
 rw [show cmpN (⟨x.1.toArray⟩ : ByteArray).data.toList (⟨y.1.toArray⟩ : ByteArray).data.toList = cmpT x y from by simp [cmpT]] at hcon
 generalize cmpT x y = r at hcon ⊢
 unfold toldC
 go_enter Tryz.func67, Tryz.ntmps67
 go_wp2_with (go_at_call 68; refine (hcon _).mono ?_; rintro e w' ⟨rfl, rfl⟩)
 go_ret
 exact ⟨rfl, 0, _, by rw [alloc_eq_grow, alloc_eq_grow, grow_grow]; rfl⟩
theorem ltOf_cmpT (x y : List UInt8 × Nat) : ltOf cmpT x y = Abs.nlt x.1 y.1 := by
 unfold ltOf cmpT cmpN
 cases h1 : Abs.nlt x.1 y.1 with
 | true => simp
 | false =>
   cases h2 : Abs.nlt y.1 x.1 with
   | true => simp
   | false => simp
theorem swo_cmpT : SWO (ltOf cmpT) where
 irrefl x := by rw [ltOf_cmpT]; exact Abs.nlt_irrefl _
 trans x y z h1 h2 := by rw [ltOf_cmpT] at *; exact Abs.nlt_trans h1 h2
 ntrans x y z h1 h2 := by
  rw [ltOf_cmpT] at *
  cases h3 : Abs.nlt x.1 z.1 with
  | false => rfl
  | true =>
    by_cases e : x.1 = y.1
    · rw [e] at h3; rw [h2] at h3; cases h3
    · have h4 := Abs.nlt_total e h1
      rw [Abs.nlt_trans h4 h3] at h2
      cases h2
end
section
open Go.RowKit Go.Maps Go.Shelf Go.Lib Go.Sort
section
variable {α : Type} {enc : α -> List Value} {k : Nat}
theorem flatMap_at (hk : ∀ x, (enc x).length = k) : ∀ (l : List α) (i j : Nat) (a : α), l[i]? = some a -> j < k -> (l.flatMap enc)[i * k + j]? = (enc a)[j]?
 | [], i, j, a, h, _ => by simp at h
 | b :: l, 0, j, a, h, hj => by
   simp only [List.getElem?_cons_zero, Option.some.injEq] at h
   subst h
   rw [List.flatMap_cons, Nat.zero_mul, Nat.zero_add, List.getElem?_append_left (by rw [hk]; exact hj)]
 | b :: l, i + 1, j, a, h, hj => by
   rw [List.getElem?_cons_succ] at h
   rw [List.flatMap_cons, List.getElem?_append_right (by rw [hk, Nat.succ_mul]; omega), hk, show (i + 1) * k + j - k = i * k + j by rw [Nat.succ_mul]; omega]
   exact flatMap_at hk l i j a h hj
theorem flatMap_len (hk : ∀ x, (enc x).length = k) (l : List α) : (l.flatMap enc).length = l.length * k := by
 induction l with
 | nil => simp
 | cons a l ih => rw [List.flatMap_cons, List.length_append, ih, hk, List.length_cons, Nat.succ_mul]; omega
theorem flatK_toList [Inhabited α] (hk : ∀ x, (enc x).length = k) (l : List α) : (flatK enc k l.toArray).toList = l.flatMap enc := by
 apply List.ext_getElem?
 intro t
 by_cases ht : t < l.length * k
 · have hk0 : 0 < k := by
    rcases Nat.eq_zero_or_pos k with e | h
    · rw [e, Nat.mul_zero] at ht; omega
    · exact h
   have h1 : t / k < l.length := by rw [Nat.div_lt_iff_lt_mul hk0]; exact ht
   have h2 : t % k < k := Nat.mod_lt _ hk0
   have h3 := flatMap_at hk l (t / k) (t % k) (l[t / k]) (List.getElem?_eq_getElem h1) h2
   rw [show t / k * k + t % k = t from Nat.div_add_mod' t k] at h3
   rw [h3, Array.getElem?_toList, Array.getElem?_eq_getElem (by simpa using ht)]
   have h4 := get_flatK enc k l.toArray t (by simpa using ht)
   rw [getElem!_pos _ _ (by simpa using ht)] at h4
   rw [h4]
   have h5 : l.toArray[t / k]! = l[t / k] := by rw [getElem!_pos _ _ (by simpa using h1)]; simp
   rw [h5, getElem!_pos _ _ (by rw [hk]; exact h2), List.getElem?_eq_getElem (by rw [hk]; exact h2)]
 · rw [List.getElem?_eq_none (by simpa using ht), List.getElem?_eq_none (by rw [flatMap_len hk]; omega)]
theorem holds_blockI {w : World} {g : Nat} {cur : Array Value} {e : TypeId} {d : Array Value} (hb : w.heap[g]? = some (.cells cur e (0, 0))) (ht : cur.toList.take d.size = d.toList) : Holds id w g 0 d := by
 intro j hj
 refine ⟨?_, by simp [World.frozen?, hb]⟩
 have h1 : (cur.toList.take d.size)[j]? = d.toList[j]? := by rw [ht]
 rw [List.getElem?_take_of_lt hj] at h1
 simp only [World.cell?, hb, Nat.zero_add]
 simp only [Option.isSome_none, Bool.false_eq_true, if_false]
 rw [<- Array.getElem?_toList, h1]
 simp [hj]
theorem heap_sortedI {w : World} {g n : Nat} {os : Array Obj} {cur : Array Value} {e : TypeId} {fr : Nat × Nat} (d : Array Value) (hb : w.heap[g]? = some (.cells cur e fr)) :
 (grow (putRow id (Sort.ahead w n) g 0 d) os).heap[g]? = some (.cells (putCells id 0 d cur) e fr) := by
 have hg : g < w.heap.size := (Array.getElem?_eq_some_iff.1 hb).1
 rw [heap_grow_old _ _ (by simpa using hg)]
 simp [putRow, mapBlock, Sort.ahead, Array.getElem?_modify, hb, onCells]
theorem grownBy_sortedI {w : World} {g n : Nat} {os : Array Obj} (d : Array Value) : w.grownBy (grow (putRow id (Sort.ahead w n) g 0 d) os) (some g) := by
 refine ⟨rfl, rfl, rfl, by simp, fun k hk hne => ?_⟩
 rw [heap_grow_old _ _ (by simpa using hk)]
 have : g ≠ k := fun e => hne (by rw [e])
 simp [putRow, mapBlock, Sort.ahead, Array.getElem?_modify, this]
theorem take_putCellsI (cur d : Array Value) (h : d.size <= cur.size) : (putCells id 0 d cur).toList.take d.size = d.toList := by
 apply List.ext_getElem?
 intro j
 by_cases hj : j < d.size
 · rw [List.getElem?_take_of_lt hj, Array.getElem?_toList]
   simp [putCells, hj, show j < cur.size by omega]
 · rw [List.getElem?_take_eq_none (by omega), List.getElem?_eq_none (by simpa using hj)]
end
def sortT (l : List (List UInt8 × Nat)) : List (List UInt8 × Nat) := l.mergeSort fun x y => !Abs.nlt y.1 x.1
theorem sortT_len (l : List (List UInt8 × Nat)) : (sortT l).length = l.length := List.length_mergeSort _
theorem mem_sortT {l : List (List UInt8 × Nat)} {a : List UInt8 × Nat} : a ∈ sortT l ↔ a ∈ l := (List.mergeSort_perm _ _).mem_iff
set_option maxHeartbeats 1000000 in
theorem sort_told (w : World) (β : Nat -> Nat) (L : List (List UInt8 × Nat)) (hdet : ∀ a ∈ L, ∀ b ∈ L, a.1 = b.1 -> a = b) (base : Nat) (v : Value) (hown : w.ownsRow base 172 2 v L.length (L.flatMap (toldC β))) (hlen : L.length <= 1048576) :
 Calls Tryz.prog 66 #[v, .func (.func 67) #[] #[]] w fun e w' => e = .returned (.tuple #[]) /\ w'.ownsRow base 172 2 v L.length ((sortT L).flatMap (toldC β)) /\ w.grownBy w' v.ownBlock := by
 have hk : ∀ x, (toldC β x).length = 2 := fun _ => rfl
 rcases hown.2 with ⟨rfl, hz⟩ | ⟨g, cap, cur, rfl, hbase, hg, r1, r2, r3, r4⟩
 · have hL : L = [] := List.eq_nil_of_length_eq_zero hz
   subst hL
   have hcon := AnyF.slices_SortFunc_none { Tryz.sortF66 with } none 0 (.func (.func 67) #[] #[]) w
   refine Calls.mono hcon ?_
   rintro e w' ⟨rfl, rfl⟩
   refine ⟨rfl, ?_, ⟨rfl, rfl, rfl, Nat.le_refl _, fun _ _ _ => rfl⟩⟩
   rw [show sortT [] = [] from by simp [sortT]]
   exact hown
 · have hcs : (L.flatMap (toldC β)).length = L.length * 2 := flatMap_len hk L
   have hne : 0 < L.length \/ L.length = 0 := by omega
   rcases hne with hpos | hz
   · obtain ⟨a0, ha0⟩ : ∃ a0, a0 ∈ L := by
      cases L with
      | nil => simp at hpos
      | cons a l => exact ⟨a, by simp⟩
     let α := { a : List UInt8 × Nat // a ∈ L }
     letI : Inhabited α := ⟨⟨a0, ha0⟩⟩
     let L' : List α := L.attach
     have hL' : L'.map (·.1) = L := List.attach_map_subtype_val L
     have hlen' : L'.length = L.length := List.length_attach
     let encA : α -> List Value := fun a => toldC β a.1
     have hkA : ∀ x, (encA x).length = 2 := fun _ => rfl
     have hfl : L'.flatMap encA = L.flatMap (toldC β) := by
      conv => rhs; rw [<- hL', List.flatMap_map]
     have hflK : (flatK encA 2 L'.toArray).toList = L.flatMap (toldC β) := (flatK_toList hkA L').trans hfl
     have hsz : (flatK encA 2 L'.toArray).size = L.length * 2 := by rw [size_flatK]; simp [hlen']
     have hH : HoldsK encA 2 w g 0 L'.toArray := holds_blockI hg (by rw [hsz, hflK]; exact r4)
     have hgl : g < w.heap.size := (Array.getElem?_eq_some_iff.1 hg).1
     have eg : ∀ args w, (callFunc 67 args).run Tryz.prog w = .ok (.enter 67 args) w := enters_of Tryz.func67 (by kernel_rfl) rfl
     have hlt : ∀ x y : α, ltOf (fun x y : α => cmpT x.1 y.1) x y = Abs.nlt x.1.1 y.1.1 := fun x y => ltOf_cmpT x.1 y.1
     have hO : SWO (ltOf fun x y : α => cmpT x.1 y.1) :=
      ⟨fun x => swo_cmpT.irrefl x.1, fun x y z => swo_cmpT.trans x.1 y.1 z.1, fun x y z => swo_cmpT.ntrans x.1 y.1 z.1⟩
     have hT : ∀ x y : α, ltOf (fun x y : α => cmpT x.1 y.1) x y = false -> ltOf (fun x y : α => cmpT x.1 y.1) y x = false -> x = y := by
      intro x y h1 h2
      rw [hlt] at h1 h2
      by_cases e : x.1.1 = y.1.1
      · exact Subtype.ext (hdet _ x.2 _ y.2 e)
      · rw [Abs.nlt_total e h1] at h2; cases h2
     have hcon := AnyQ.slices_SortFunc_total { Tryz.sortF66 with } 2 (fun _ => by kernel_rfl) (fun _ => by kernel_rfl) encA hkA (fun x v hv => by simp only [encA, toldC, List.mem_cons, List.not_mem_nil, or_false] at hv; rcases hv with rfl | rfl <;> rfl) (fun x y : α => cmpT x.1 y.1) hO 67 #[] g 0 cap L'.toArray w eg
      (fun _ _ _ _ x y => told_less β x.1 y.1 _) hH hgl (by simp [hlen']; omega) hT
     rw [show L'.toArray.size = L.length from by simp [hlen']] at hcon
     refine Calls.mono hcon ?_
     rintro e w' ⟨rfl, n, os, rfl⟩
     obtain ⟨M, hM⟩ : ∃ M, (L'.mergeSort fun x y => !(ltOf fun x y : α => cmpT x.1 y.1) y x) = M := ⟨_, rfl⟩
     have hMl : M.length = L.length := by rw [<- hM, List.length_mergeSort, hlen']
     have hMs : M.map (·.1) = sortT L := by
      rw [<- hM]
      unfold sortT
      have hms := List.map_mergeSort (r := fun x y : α => !(ltOf fun x y : α => cmpT x.1 y.1) y x) (s := fun x y : List UInt8 × Nat => !Abs.nlt y.1 x.1) (f := fun a : α => a.1) (l := L') (fun a _ b _ => by rw [hlt])
      rw [hL'] at hms
      exact hms
     have hMf : (flatK encA 2 M.toArray).toList = (sortT L).flatMap (toldC β) := by
      rw [flatK_toList hkA M, <- hMs, List.flatMap_map]
     have hMz : (flatK encA 2 M.toArray).size = L.length * 2 := by rw [size_flatK]; simp [hMl]
     show _ /\ World.ownsRow (grow (putRow id (Sort.ahead w n) g 0 (flatK encA 2 (L'.toArray.toList.mergeSort fun x y => !(ltOf fun x y : α => cmpT x.1 y.1) y x).toArray)) os) _ _ _ _ _ _ /\ _
     rw [show L'.toArray.toList = L' from rfl, hM]
     refine ⟨rfl, ⟨by rw [flatMap_len hk, sortT_len], .inr ⟨g, cap, _, rfl, hbase, heap_sortedI _ hg, r1, r2, by simp [putCells, r3], ?_⟩⟩, grownBy_sortedI _⟩
     rw [<- hMz, <- hMf]
     exact take_putCellsI cur _ (by rw [hMz, r3]; exact Nat.mul_le_mul_right _ r1)
   · have hL : L = [] := List.eq_nil_of_length_eq_zero hz
     subst hL
     have hcon := AnyF.slices_SortFunc_none { Tryz.sortF66 with } (some ⟨g, 0, none⟩) cap (.func (.func 67) #[] #[]) w
     refine Calls.mono hcon ?_
     rintro e w' ⟨rfl, rfl⟩
     refine ⟨rfl, ?_, ⟨rfl, rfl, rfl, Nat.le_refl _, fun _ _ _ => rfl⟩⟩
     rw [show sortT [] = [] from by simp [sortT]]
     exact hown
end
end Go.Proofs.YtffffjngodinnaaGreatDoor
