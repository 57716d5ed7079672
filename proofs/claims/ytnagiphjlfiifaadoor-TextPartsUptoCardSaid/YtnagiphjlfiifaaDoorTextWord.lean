/-
  Walks over text.Word, the reference's Word, and both Diags: what is said of errors.
-/
import Derived.Test.YtnagiphjlfiifaaDoorRows
import Derived.Test.YtnagiphjlfiifaaDoorTextClone
import Derived.Lib.ConvBytes
import Derived.Laws.IdiomStrings
import Derived.WalkKit
import Derived.WalkSpells
import Derived.WalkLawsBesides
import Derived.Lib.Hide
import Derived.Handy
import Derived.Laws.Tables
namespace Go.Proofs.YtnagiphjlfiifaaDoor
open Go.RowKit

/-- the words of errors -/
def wordsL : List (List UInt8) := [[101, 114, 114, 111, 114], [110, 111, 32, 115, 117, 99, 104, 32, 102, 105, 108, 101], [102, 105, 108, 101, 32, 101, 120, 105, 115, 116, 115], [110, 111, 116, 32, 97, 32, 100, 105, 114, 101, 99, 116, 111, 114, 121], [105, 115, 32, 97, 32, 100, 105, 114, 101, 99, 116, 111, 114, 121], [100, 105, 114, 101, 99, 116, 111, 114, 121, 32, 110, 111, 116, 32, 101, 109, 112, 116, 121], [110, 111, 32, 115, 112, 97, 99, 101, 32, 108, 101, 102, 116], [105, 110, 112, 117, 116, 47, 111, 117, 116, 112, 117, 116, 32, 101, 114, 114, 111, 114], [98, 114, 111, 107, 101, 110, 32, 112, 105, 112, 101], [105, 110, 116, 101, 114, 114, 117, 112, 116, 101, 100], [110, 111, 116, 32, 110, 111, 119], [98, 97, 100, 32, 100, 101, 115, 99, 114, 105, 112, 116, 111, 114], [116, 111, 111, 32, 109, 97, 110, 121], [98, 97, 100, 32, 110, 97, 109, 101], [116, 111, 111, 32, 100, 101, 101, 112], [98, 117, 115, 121], [105, 110, 118, 97, 108, 105, 100], [98, 97, 100, 32, 97, 114, 103, 117, 109, 101, 110, 116], [108, 105, 110, 101, 32, 116, 111, 111, 32, 108, 111, 110, 103], [117, 115, 97, 103, 101], [98, 97, 100, 32, 114, 101, 103, 117, 108, 97, 114, 32, 101, 120, 112, 114, 101, 115, 115, 105, 111, 110], [98, 97, 100, 32, 115, 99, 114, 105, 112, 116], [110, 111, 116, 32, 102, 111, 117, 110, 100], [115, 97, 109, 101, 32, 102, 105, 108, 101], [98, 97, 100, 32, 115, 121, 110, 116, 97, 120], [110, 111, 116, 32, 97, 32, 110, 117, 109, 98, 101, 114], [110, 111, 116, 32, 105, 110, 32, 111, 114, 100, 101, 114]]
def wordCells : Array Value := (wordsL.map fun l => Value.string ⟨l.toArray⟩).toArray
/-- the word of an error -/
def wordOf (e : Int) : ByteArray := ⟨(wordsL.getD (if 1 ≤ e ∧ e ≤ 26 then e.toNat else 0) []).toArray⟩

theorem wpList_build_eq {P : Program} {ops : Array Oper} {rest : List Oper} {o : Oper} {a : Act} {w : World} {Q : Exit → Act → World → Prop} (hg : o.guard = none) (t : TypeId) (parts : Array (Nat × Operand)) (ho : o.op = .build t parts) (cells : Array Value)
    (hf : P.built t (parts.map fun (i, x) => (i, a.eval x)).toList = some cells)
    (h : wpList P ops Q rest (a.put o.dst (.agg cells)) w) : wpList P ops Q (o :: rest) a w :=
  wpList_build hg t parts ho (by rw [hf]; rfl) (by rw [hf]; exact h)
theorem setRow_alloc_new (w : World) (old cs : Array Value) (t : TypeId) : (w.alloc (.cells old t)).setRow w.heap.size cs = w.alloc (.cells cs t) := by
  have h : (w.heap.push (Obj.cells old t (0, 0))).modify w.heap.size (fun | .cells _ elem frozen => .cells cs elem frozen | o => o) = w.heap.push (Obj.cells cs t (0, 0)) := by
    apply Array.ext_getElem?
    intro i
    rw [Array.getElem?_modify]
    by_cases hi : w.heap.size = i
    · subst hi; simp
    · rw [if_neg hi, Array.getElem?_push, Array.getElem?_push]
      simp [show ¬ i = w.heap.size from fun e => hi e.symm]
  show World.mk .. = World.mk ..
  congr 1

theorem wordCell (k : Nat) (hk : k < 27) : wordCells[k]? = some (.string (wordOf k)) := by
  have h : (List.range 27).all (fun k => decide (wordsL[k]? = some (wordsL.getD (if 1 ≤ (k : Int) ∧ (k : Int) ≤ 26 then (k : Int).toNat else 0) []))) = true := by decide
  have h1 := of_decide_eq_true (List.all_eq_true.1 h k (List.mem_range.2 hk))
  simp only [wordCells, wordOf, List.getElem?_toArray, List.getElem?_map, h1, Option.map_some]

set_option maxHeartbeats 1000000 in
theorem word_in (k : Nat) (hk : k < 27) (w : World) : Calls Tryd.prog 8 #[.int .i64 k] w fun e w' => e = .returned (.string (wordOf k)) ∧ Below w.heap.size w w' := by
  have hcell : (w.alloc (.cells wordCells 37)).cell? ⟨w.heap.size, k, none⟩ = some (.string (wordOf k)) := by
    rw [(Blk.new w _ _).cell k]
    exact wordCell k hk
  go_enter Tryd.func8, Tryd.ntmps8
  go_wp2_with (first | (refine wpList_build_eq rfl 37 _ rfl wordCells (by kernel_rfl) ?_) | (refine wpList_store_row rfl 37 _ _ rfl w.heap.size wordCells rfl rfl 37 _ (heap_alloc_new _ _) (by kernel_rfl) (by kernel_rfl) (by kernel_rfl) ?_; rw [setRow_alloc_new]))
  go_ret
  exact ⟨rfl, (Below.refl _ _).alloc (Nat.le_refl _) _⟩

set_option maxHeartbeats 1000000 in
theorem word_out (e : Int) (he : e < 0 ∨ 27 ≤ e) (w : World) : Calls Tryd.prog 8 #[.int .i64 e] w fun e' w' => e' = .returned (.string (wordOf e)) ∧ Below w.heap.size w w' := by
  have hcell : (w.alloc (.cells wordCells 37)).cell? ⟨w.heap.size, 0, none⟩ = some (.string (wordOf e)) := by
    rw [(Blk.new w _ _).cell 0]
    have h0 : wordOf e = wordOf (0 : Nat) := by unfold wordOf; rw [if_neg (by omega), if_neg (by omega)]
    rw [h0]
    exact wordCell 0 (by omega)
  rcases he with he | he
  · go_enter Tryd.func8, Tryd.ntmps8
    go_wp2_with (first | (refine wpList_build_eq rfl 37 _ rfl wordCells (by kernel_rfl) ?_) | (refine wpList_store_row rfl 37 _ _ rfl w.heap.size wordCells rfl rfl 37 _ (heap_alloc_new _ _) (by kernel_rfl) (by kernel_rfl) (by kernel_rfl) ?_; rw [setRow_alloc_new]))
    go_ret
    exact ⟨rfl, (Below.refl _ _).alloc (Nat.le_refl _) _⟩
  · have he0 : ¬ e < 0 := by omega
    go_enter Tryd.func8, Tryd.ntmps8
    go_wp2_with (first | (refine wpList_build_eq rfl 37 _ rfl wordCells (by kernel_rfl) ?_) | (refine wpList_store_row rfl 37 _ _ rfl w.heap.size wordCells rfl rfl 37 _ (heap_alloc_new _ _) (by kernel_rfl) (by kernel_rfl) (by kernel_rfl) ?_; rw [setRow_alloc_new]))
    go_ret
    exact ⟨rfl, (Below.refl _ _).alloc (Nat.le_refl _) _⟩

theorem word_any (e : Int) (w : World) : Calls Tryd.prog 8 #[.int .i64 e] w fun e' w' => e' = .returned (.string (wordOf e)) ∧ Below w.heap.size w w' := by
  by_cases h : 0 ≤ e ∧ e < 27
  · obtain ⟨k, rfl⟩ := Int.eq_ofNat_of_zero_le h.1
    exact word_in k (by omega) w
  · exact word_out e (by omega) w

/-- the table of the reference's words -/
def WordTab (W : World) : Prop := ∀ k, k < 27 → W.cell? ⟨0, k, none⟩ = some (.string (wordOf k))
theorem WordTab.below {B : Nat} {w w' : World} (h : WordTab w) (hb : Below B w w') (hB : 0 < B) : WordTab w' := fun k hk => (hb.cell (p := ⟨0, k, none⟩) hB).trans (h k hk)

set_option maxHeartbeats 1000000 in
theorem refword_any (e : Int) (w : World) (ht : WordTab w) : Calls Tryd.prog 9 #[.int .i64 e] w fun e' w' => e' = .returned (.string (wordOf e)) ∧ w' = w := by
  by_cases h : 1 ≤ e ∧ e ≤ 26
  · obtain ⟨k, rfl⟩ := Int.eq_ofNat_of_zero_le (show 0 ≤ e by omega)
    have hc : w.cell? ⟨0, k, none⟩ = some (.string (wordOf k)) := ht k (by omega)
    obtain ⟨h1, h2⟩ := h
    clear ht
    go_enter Tryd.func9, Tryd.ntmps9
    go_wp2
    go_ret
    exact ⟨rfl, rfl⟩
  · have h0 : wordOf e = ⟨#[101, 114, 114, 111, 114]⟩ := by unfold wordOf; rw [if_neg h]; rfl
    rw [h0]
    clear ht h0
    by_cases h1 : e < 1
    · clear h
      go_enter Tryd.func9, Tryd.ntmps9
      go_wp2
      go_ret
      exact ⟨rfl, rfl⟩
    · have h2 : 26 < e := by omega
      clear h
      go_enter Tryd.func9, Tryd.ntmps9
      go_wp2
      go_ret
      exact ⟨rfl, rfl⟩

def colonB : ByteArray := ⟨#[58, 32]⟩
def lineB : ByteArray := ⟨#[10]⟩
/-- the line that says it -/
def diagOf (tag op : ByteArray) (e : Int) : ByteArray := tag ++ colonB ++ (if op.size = 0 then ⟨#[]⟩ else op ++ colonB) ++ wordOf e ++ lineB

/-- a string as bytes in a new row -/
theorem reads_bytesWorld (w : World) (t : TypeId) (s : ByteArray) : Reads (Lib.bytesWorld w t s) (Lib.bytesWorld w t s).heap.size 1 (some ⟨w.heap.size, 0, none⟩) s.data.toList.length (bytesC s.data.toList) := by
  refine ⟨by simp [bytesC], fun _ => ⟨_, rfl, by rw [Lib.bytesWorld_size]; simp, fun j u hu => ?_⟩⟩
  have hj : j < s.data.toList.length := by
    have := (List.getElem?_eq_some_iff.1 hu).1
    rwa [bytesC_length] at this
  have e : (⟨w.heap.size, 0, none⟩ : Addr).add j = ⟨w.heap.size, j, none⟩ := by unfold Addr.add; split <;> simp_all
  rw [e, Lib.bytesWorld_cell w t s j (by simpa using hj), ← hu]
  simp only [bytesC, List.getElem?_map, List.getD_eq_getElem?_getD, List.getElem?_eq_getElem hj, Option.map_some, Option.getD_some]
theorem below_bytesWorld (w : World) (t : TypeId) (s : ByteArray) : Below w.heap.size w (Lib.bytesWorld w t s) :=
  ⟨rfl, rfl, rfl, by rw [Lib.bytesWorld_size]; omega, fun j hj => Lib.bytesWorld_at_old w t s j hj⟩

/-- a string's length and the capacity of its bytes, behind names that no walk opens -/
def strLen (s : ByteArray) : Nat := s.data.toList.length
def strCap (W : World) (e : TypeId) (s : ByteArray) : Nat := grownCap W s.size 0 e
theorem convert_bytes {P : Program} {src dst e : TypeId} (hs : P.underlying src = some .string) (hd : P.underlying dst = some (.slice e)) (he : P.underlying e = some (.int .u8)) (W : World) (s : ByteArray) :
    (convert src dst (.string s)).run P W = .ok (.slice (some ⟨W.heap.size, 0, none⟩) (strLen s) (strCap W e s)) (Lib.bytesWorld W e s) := by
  rw [Lib.run_convert_string_bytes W src dst e s hs hd he]
  simp [strLen, strCap]

/-- the bytes that a slice reads as, as a string -/
theorem convert_string {P : Program} {src dst e : TypeId} (hs : P.underlying src = some (.slice e)) (he : P.underlying e = some (.int .u8)) (hd : P.underlying dst = some .string) {W : World} {B cap : Nat} {A : Option Addr} {l : List UInt8} (hr : Reads W B 1 A l.length (bytesC l)) :
    (convert src dst (.slice A l.length cap)).run P W = .ok (.string ⟨l.toArray⟩) W := by
  rcases A with _ | ad
  · have h0 : l = [] := by
      rcases l with _ | ⟨c, l⟩
      · rfl
      · obtain ⟨ad, h, _⟩ := hr.2 (by simp); cases h
    subst h0
    exact run_convert_bytes_nil W src e hs he 0 cap dst hd
  · refine run_convert_bytes_back W src dst e ad cap l hs he hd fun j hj => ?_
    obtain ⟨ad', h, _, hc⟩ := hr.2 (by omega)
    cases h
    exact hc j _ (by simp [bytesC, List.getElem?_eq_getElem hj])

def MadeBytes (w : World) (l : List UInt8) (v : Value) (W : World) : Prop := ∃ g cap, v = .slice (some ⟨g, 0, none⟩) l.length cap ∧ Reads W W.heap.size 1 (some ⟨g, 0, none⟩) l.length (bytesC l) ∧ Below w.heap.size w W
theorem MadeBytes.of {w W : World} (hb : Below w.heap.size w W) (t : TypeId) (s : ByteArray) (cap : Nat) : MadeBytes w s.data.toList (.slice (some ⟨W.heap.size, 0, none⟩) s.data.toList.length cap) (Lib.bytesWorld W t s) :=
  ⟨_, _, rfl, reads_bytesWorld W t s, hb.trans ((below_bytesWorld W t s).mono hb.size)⟩

theorem wordOf_size (e : Int) : (wordOf e).size ≤ 32 := by
  have h : wordsL.all (fun l => decide (l.length ≤ 32)) = true := by decide
  unfold wordOf
  show (wordsL.getD _ []).length ≤ 32
  generalize (if 1 ≤ e ∧ e ≤ 26 then e.toNat else 0) = k
  rw [List.getD_eq_getElem?_getD]
  cases hk : wordsL[k]? with
  | none => simp
  | some l => exact of_decide_eq_true (List.all_eq_true.1 h l (List.mem_of_getElem? hk))

set_option maxHeartbeats 1000000 in
theorem diag_any (tag op : ByteArray) (e : Int) (w : World) (htag : tag.size ≤ 140737488351232) (hop : op.size ≤ 140737488351232) : Calls Tryd.prog 10 #[.string tag, .string op, .int .i64 e] w fun e' w' => ∃ v, e' = .returned v ∧ MadeBytes w (diagOf tag op e).data.toList v w' := by
  have hconv := convert_bytes (P := Tryd.prog) (src := 9) (dst := 25) (e := 5) Tryd.underlying9 Tryd.underlying25 Tryd.underlying5
  have hws := wordOf_size e
  by_cases h : op.size = 0
  · have h0 : op = ⟨#[]⟩ := by cases op with | mk d => congr 1; exact Array.eq_empty_of_size_eq_zero h
    subst h0
    have hd := Lib.hid (show tag ++ colonB ++ ⟨#[]⟩ ++ wordOf e ++ lineB = diagOf tag ⟨#[]⟩ e from rfl)
    clear h hop
    go_enter Tryd.func10, Tryd.ntmps10
    go_wp2_with (go_at_call 8; refine (word_any _ _).mono ?_; rintro e' w2 ⟨rfl, hb⟩)
    all_goals go_ret
    all_goals exact ⟨_, rfl, hd.out ▸ MadeBytes.of hb _ _ _⟩
  · have hd := Lib.hid (show tag ++ colonB ++ (op ++ colonB) ++ wordOf e ++ lineB = diagOf tag op e by
      unfold diagOf; rw [if_neg h])
    have hne : op.toList.isEmpty = false := by
      rw [ByteArray.toList_eq, List.isEmpty_eq_false_iff]
      intro e; exact h (by simpa using congrArg List.length e)
    clear h
    go_enter Tryd.func10, Tryd.ntmps10
    go_wp2_with (go_at_call 8; refine (word_any _ _).mono ?_; rintro e' w2 ⟨rfl, hb⟩)
    all_goals go_ret
    all_goals exact ⟨_, rfl, hd.out ▸ MadeBytes.of hb _ _ _⟩

set_option maxHeartbeats 1000000 in
theorem refdiag_any (tag op : ByteArray) (e : Int) (w : World) (htag : tag.size ≤ 140737488351232) (hop : op.size ≤ 140737488351232) (ht : WordTab w) : Calls Tryd.prog 11 #[.string tag, .string op, .int .i64 e] w fun e' w' => ∃ v, e' = .returned v ∧ MadeBytes w (diagOf tag op e).data.toList v w' := by
  have hconv := convert_bytes (P := Tryd.prog) (src := 9) (dst := 25) (e := 5) Tryd.underlying9 Tryd.underlying25 Tryd.underlying5
  have hws := wordOf_size e
  have hw := refword_any e w ht
  clear ht
  by_cases h : op.size = 0
  · have h0 : op = ⟨#[]⟩ := by cases op with | mk d => congr 1; exact Array.eq_empty_of_size_eq_zero h
    subst h0
    have hd := Lib.hid (show tag ++ colonB ++ wordOf e ++ lineB = diagOf tag ⟨#[]⟩ e by
      unfold diagOf; rw [if_pos h, show (tag ++ colonB ++ (⟨#[]⟩ : ByteArray)) = tag ++ colonB from ByteArray.append_empty])
    clear h hop
    go_enter Tryd.func11, Tryd.ntmps11
    go_wp2_with (go_at_call 9; refine hw.mono ?_; rintro e' w2 ⟨rfl, rfl⟩)
    all_goals go_ret
    all_goals exact ⟨_, rfl, hd.out ▸ MadeBytes.of (Below.refl _ _) _ _ _⟩
  · have hd := Lib.hid (show tag ++ colonB ++ op ++ colonB ++ wordOf e ++ lineB = diagOf tag op e by
      unfold diagOf; rw [if_neg h]; simp only [ByteArray.append_assoc])
    have hne : op.toList.isEmpty = false := by
      rw [ByteArray.toList_eq, List.isEmpty_eq_false_iff]
      intro e; exact h (by simpa using congrArg List.length e)
    clear h
    go_enter Tryd.func11, Tryd.ntmps11
    go_wp2_with (go_at_call 9; refine hw.mono ?_; rintro e' w2 ⟨rfl, rfl⟩)
    all_goals go_ret
    all_goals exact ⟨_, rfl, hd.out ▸ MadeBytes.of (Below.refl _ _) _ _ _⟩

end Go.Proofs.YtnagiphjlfiifaaDoor
