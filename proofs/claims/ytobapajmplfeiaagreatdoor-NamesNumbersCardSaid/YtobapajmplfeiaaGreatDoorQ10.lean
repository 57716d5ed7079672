/-
  Parts that the claims share: A walk over how printf reads a width; A walk over how printf reads a line feed behind a backslash; Rows of printf's pieces; one more appended; A walk over how printf reads a conversion: flags of minus, zero and sharp, a width, a letter; A walk over how printf reads a format; What printf does with a format's pieces and its arguments: plain; What printf holds while it runs: a job, a builder, the arguments' box, the pieces; what its calls do to them; Walks over how printf reads an argument's number: none, decimal digits, and an x; A walk over printf.
-/
import Derived.Test.YtobapajmplfeiaaGreatDoorQ09
import Derived.Laws.AppendOwn
import Derived.Test.YtobapajmplfeiaaGreatDoorQ04
import Derived.Test.YtobapajmplfeiaaGreatDoorQ05
import Derived.Test.YtobapajmplfeiaaGreatDoorQ03

section
namespace Go.Proofs.YtobapajmplfeiaaGreatDoor
open Go.RowKit Go.Maps

namespace Pl
theorem contains_dig (c : UInt8) : ([48, 49, 50, 51, 52, 53, 54, 55, 56, 57] : List UInt8).contains c = isDig 10 c := by
  have h : ∀ n : UInt8, (c == n) = decide (c.toNat = n.toNat) := fun n => by
    rw [Bool.eq_iff_iff]
    simp [UInt8.toNat_inj]
  simp only [List.contains_cons, List.contains_nil, h]
  unfold isDig
  rw [Bool.eq_iff_iff]
  simp
  omega
theorem trim_digs (D R : List UInt8) (hD : ∀ c ∈ D, isDig 10 c = true) (hR : ∀ c, R.head? = some c → isDig 10 c = false) : Lib.trimLeftS (D ++ R) [48, 49, 50, 51, 52, 53, 54, 55, 56, 57] = R := by
  unfold Lib.trimLeftS
  have h1 : (fun c => ([48, 49, 50, 51, 52, 53, 54, 55, 56, 57] : List UInt8).contains c) = fun c => isDig 10 c := funext contains_dig
  rw [h1, List.dropWhile_append_of_pos hD]
  cases R with
  | nil => rfl
  | cons c R => rw [List.dropWhile_cons_of_neg (by rw [hR c rfl]; simp)]
theorem isDig_small {c : UInt8} (h : isDig 10 c = true) : c.toNat < 58 := by
  have := of_decide_eq_true h
  omega
end Pl
theorem trimDigs (D R : List UInt8) (hD : ∀ c ∈ D, Pl.isDig 10 c = true) (hR : ∀ c, R.head? = some c → Pl.isDig 10 c = false) (w : World) :
    Calls Tryz.prog 183 #[.string (strB (D ++ R)), .string ⟨#[48, 49, 50, 51, 52, 53, 54, 55, 56, 57]⟩] w fun e w' => e = .returned (.string (strB R)) ∧ Below w.heap.size w w' := by
  have h := Tryz.strings_TrimLeft_set (strB (D ++ R)) ⟨#[48, 49, 50, 51, 52, 53, 54, 55, 56, 57]⟩ w (by decide) (ascii_of_all (by decide))
  have e : Lib.trimLeftS (strB (D ++ R)).data.toList (⟨#[48, 49, 50, 51, 52, 53, 54, 55, 56, 57]⟩ : ByteArray).data.toList = R := Pl.trim_digs D R hD hR
  rw [e] at h
  exact h

set_option maxRecDepth 100000 in
set_option maxHeartbeats 1000000 in
theorem number_none (R : List UInt8) (hR : ∀ c, R.head? = some c → Pl.isDig 10 c = false) (w : World) :
    Calls Tryz.prog 155 #[.string (strB R)] w fun e w' => e = .returned (.tuple #[.int .i64 0, .string (strB R), .bool true]) ∧ Below w.heap.size w w' := by
  have ht := fun W => trimDigs [] R (by simp) hR W
  simp only [List.nil_append] at ht
  have he : ((strB R).toList == (strB R).toList) = true := by simp
  clear hR
  go_enter Tryz.func155, Tryz.ntmps155
  go_wp2_with (go_at_call 183; refine (ht _).mono ?_; rintro e w1 ⟨rfl, hb1⟩)
  go_ret3
  exact ⟨rfl, hb1⟩

set_option maxRecDepth 100000 in
set_option maxHeartbeats 1000000 in
theorem number_some (D R : List UInt8) (h0 : D ≠ []) (hD : ∀ c ∈ D, Pl.isDig 10 c = true) (hR : ∀ c, R.head? = some c → Pl.isDig 10 c = false) (hv : Pl.val 10 D ≤ 1000) (hl : D.length + R.length ≤ 1000000) (w : World) (hT : Tabs w) :
    Calls Tryz.prog 155 #[.string (strB (D ++ R))] w fun e w' => e = .returned (.tuple #[.int .i64 (Pl.val 10 D : Nat), .string (strB R), .bool true]) ∧ Below w.heap.size w w' := by
  have ht := fun W => trimDigs D R hD hR W
  have hn := fun W (h : Tabs W) => text10_any (strB D) 1000 W (by rw [strB_size]; omega) (by omega) h
  have hr : numRes 10 1000 (strB D).data.toList = .tuple #[.int .i64 (Pl.val 10 D : Nat), .bool true] := numRes_yes h0 (List.all_eq_true.2 hD) (by rw [strB_data]; omega)
  rw [hr] at hn
  obtain ⟨V, hV⟩ : ∃ V, Pl.val 10 D = V := ⟨_, rfl⟩
  rw [hV] at hn ⊢
  obtain ⟨S, hS⟩ : ∃ S, D ++ R = S := ⟨_, rfl⟩
  rw [hS] at ht ⊢
  have hne : ((strB R).toList == (strB S).toList) = false := by
    rw [strB_toList, strB_toList, ← hS]
    refine beq_eq_false_iff_ne.2 fun e => ?_
    have := congrArg List.length e
    rw [List.length_append] at this
    have h1 : D.length ≠ 0 := fun h => h0 (List.eq_nil_of_length_eq_zero h)
    omega
  have hSl : S.length = D.length + R.length := by rw [← hS, List.length_append]
  have hs1 : (strB S).size = D.length + R.length := by rw [strB_size, hSl]
  have hs2 : (strB R).size = R.length := strB_size R
  have hex : (strB S).extract 0 D.length = strB D := by
    rw [← hS, strB, Lib.extract_mk]
    simp [strB]
  obtain ⟨d, hd⟩ : ∃ d, D.length = d := ⟨_, rfl⟩
  obtain ⟨r, hr2⟩ : ∃ r, R.length = r := ⟨_, rfl⟩
  rw [hd] at hex hs1 hl
  rw [hr2] at hs1 hs2 hl
  have hw : IntKind.i64.wrap (((d + r : Nat) : Int) - (r : Int)) = (d : Int) := by rw [IntWalk.i64_in _ (by omega)]; omega
  clear hS hSl hr hV hD hR h0 hv hd hr2
  have hT1 := Lib.hid hT
  clear hT
  go_enter Tryz.func155, Tryz.ntmps155
  go_wp2_with (first
    | (go_at_call 183; refine (ht _).mono ?_; rintro e w1 ⟨rfl, hb1⟩; have hT2 := Lib.hid (Tabs.below hT1.out hb1))
    | (go_at_call 184; refine (hn _ hT2.out).mono ?_; rintro e w2 ⟨rfl, hb2⟩))
  go_ret3
  exact ⟨rfl, hb1.trans (hb2.mono hb1.size)⟩

end Go.Proofs.YtobapajmplfeiaaGreatDoor
end

section
namespace Go.Proofs.YtobapajmplfeiaaGreatDoor
open Go.RowKit Go.Maps

theorem strB_head (c : UInt8) (s : List UInt8) (h : 0 < (strB (c :: s)).size) : (strB (c :: s))[0]'h = c := rfl
theorem strB_cons_size (c : UInt8) (s : List UInt8) : (strB (c :: s)).size = s.length + 1 := by rw [strB_size]; simp
theorem strB_tail (c : UInt8) (s : List UInt8) (n : Nat) (hn : n = s.length + 1) : (strB (c :: s)).extract 1 n = strB s := by
  subst hn
  rw [strB, Lib.extract_mk]
  simp [strB]
theorem strB_ne (c : UInt8) (s : List UInt8) : (strB (c :: s)).toList.isEmpty = false := by rw [strB_toList]; rfl

set_option maxRecDepth 100000 in
set_option maxHeartbeats 1000000 in
theorem escape_n (s : List UInt8) (hs : s.length ≤ 1000000) (w : World) :
    Calls Tryz.prog 117 #[.string (strB (110 :: s)), .bool false] w fun e w' => e = .returned (.tuple #[.string ⟨#[10]⟩, .string (strB s), .bool false]) ∧ ∃ k, w' = w.drewN k := by
  have hne := strB_ne 110 s
  have hh := strB_head 110 s
  have hsz := strB_cons_size 110 s
  have htl := strB_tail 110 s (s.length + 1) rfl
  have hidx := fun W => Tryz.strings_IndexByte ⟨#[92, 97, 98, 102, 110, 114, 116, 118]⟩ 110 W
  have hiv : Lib.indexByte (⟨#[92, 97, 98, 102, 110, 114, 116, 118]⟩ : ByteArray).data.toList (110 : Int).toNat.toUInt8 = 4 := by decide
  rw [hiv] at hidx
  obtain ⟨S, hS⟩ : ∃ S, strB (110 :: s) = S := ⟨_, rfl⟩
  simp only [hS] at hne hh hsz htl ⊢
  clear hiv
  go_enter Tryz.func117, Tryz.ntmps117
  go_wp2_with (go_at_call 94; refine (hidx _).mono ?_; rintro e w1 ⟨rfl, rfl⟩)
  go_quiet (fail)
  go_wp2_with fail
  go_ret3
  exact ⟨rfl, _, rfl⟩

end Go.Proofs.YtobapajmplfeiaaGreatDoor
end

section
namespace Go.Proofs.YtobapajmplfeiaaGreatDoor
open Go.RowKit Go.Maps

/-- the cells of a piece as it stands in a row: no precision is told of bytes -/
def pieceC (p : Pl.Piece) : Array Value := #[.string (strB p.b), .int .u8 p.letter.toNat, .bool p.minus, .bool false, .bool false, .bool p.zero, .bool p.sharp, .int .i64 (p.width : Int), .int .i64 (if p.letter = 0 then 0 else -1)]
def piecesC (l : List Pl.Piece) : List Value := l.flatMap fun p => (pieceC p).toList
theorem piecesC_snoc (l : List Pl.Piece) (p : Pl.Piece) : piecesC (l ++ [p]) = piecesC l ++ (pieceC p).toList := by simp [piecesC]
theorem piecesC_length (l : List Pl.Piece) : (piecesC l).length = l.length * 9 := by
  induction l with
  | nil => rfl
  | cons p l ih => simp [piecesC, pieceC] at ih ⊢; omega
theorem piecesC_at (l : List Pl.Piece) (k : Nat) (p : Pl.Piece) (hp : l[k]? = some p) (j : Nat) (hj : j < 9) : (piecesC l)[k * 9 + j]? = (pieceC p).toList[j]? := by
  induction l generalizing k with
  | nil => simp at hp
  | cons q l ih =>
    cases k with
    | zero =>
      simp at hp
      subst hp
      show ((pieceC q).toList ++ piecesC l)[0 * 9 + j]? = _
      rw [Nat.zero_mul, Nat.zero_add, List.getElem?_append_left (by simpa [pieceC] using hj)]
    | succ k =>
      have h2 : l[k]? = some p := by simpa using hp
      show ((pieceC q).toList ++ piecesC l)[(k + 1) * 9 + j]? = _
      rw [List.getElem?_append_right (by simp [pieceC]; omega), ← ih k h2]
      congr 1
      simp [pieceC]
      omega
theorem pieceC_oneCell (p : Pl.Piece) : ∀ u ∈ (pieceC p).toList, u.oneCell' = true := by
  intro u hu
  simp [pieceC] at hu
  rcases hu with rfl | rfl | rfl | rfl | rfl | rfl | rfl | rfl | rfl <;> rfl
def zeroPiece : Array Value := #[.string ⟨#[]⟩, .int .u8 0, .bool false, .bool false, .bool false, .bool false, .bool false, .int .i64 0, .int .i64 0]
theorem Tryz.infoPiece : (Tryz.prog.info? 169).map (fun i => (i.zero, i.size, i.bytes)) = some (some (.agg zeroPiece), 9, 40) := by kernel_rfl

theorem cell_piece_new (W : World) (t : TypeId) (p : Pl.Piece) : ∀ (j : Nat) u, (pieceC p).toList[j]? = some u → (W.alloc (.cells (pieceC p) t)).cell? ((⟨W.heap.size, 0, none⟩ : Addr).add j) = some u := by
  intro j u hu
  have e0 : (⟨W.heap.size, 0, none⟩ : Addr).add j = ⟨W.heap.size, j, none⟩ := by unfold Addr.add; split <;> simp_all
  rw [e0, (Blk.new W t (pieceC p)).cell j]
  simpa using hu

/-- one piece is appended: what it is made in lies one block ahead -/
theorem append_piece {ops : Array Oper} {rest : List Oper} {o : Oper} {a : Act} {Q : Exit → Act → World → Prop} (hgd : o.guard = none) (s x : Operand)
    (ho : o.op = .call { callee := .builtin .append, args := #[s, x], argTypes := #[161, 161] })
    (w wr : World) (v : Value) (acc : List Pl.Piece) (p : Pl.Piece) (hs : a.eval s = v) (hx : a.eval x = .slice (some ⟨wr.heap.size, 0, none⟩) 1 1)
    (hown : wr.ownsRow w.heap.size 169 9 v acc.length (piecesC acc)) (hb : Below w.heap.size w wr) (hlen : acc.length < 2097152)
    (h : ∀ v' w', w'.ownsRow w.heap.size 169 9 v' (acc ++ [p]).length (piecesC (acc ++ [p])) → Below w.heap.size w w' → wpList Tryz.prog ops Q rest (a.put o.dst v') w') :
    wpList Tryz.prog ops Q (o :: rest) a (wr.alloc (.cells (pieceC p) 169)) := by
  obtain ⟨iO, hiO, hO0, hO1, hO2⟩ := info_parts Tryz.infoPiece
  have hbs := hb.size
  refine wpList_append_own _ hgd s x 161 ho w.heap.size 169 iO (.agg zeroPiece) 9 40 Tryz.underlying161 hiO hO0 hO1 hO2 rfl (by decide)
    v acc.length (piecesC acc) hs (hown.alloc _) ⟨wr.heap.size, 0, none⟩ 1 1 (pieceC p).toList hx rfl (cell_piece_new _ _ _) (pieceC_oneCell p) (by simp only [maxLen]; omega) (by omega) (by simp; omega) ?_
  intro v' w' hown' hg _
  refine h v' w' (by rw [piecesC_snoc, List.length_append]; exact hown') ((hb.alloc hbs _).grown hg (by simp; omega) fun k hk => (hown.lt k hk).1)

end Go.Proofs.YtobapajmplfeiaaGreatDoor
end

section
namespace Go.Proofs.YtobapajmplfeiaaGreatDoor
open Go.RowKit Go.Maps

theorem number_any (D R : List UInt8) (hD : ∀ c ∈ D, Pl.isDig 10 c = true) (hR : ∀ c, R.head? = some c → Pl.isDig 10 c = false) (hv : Pl.val 10 D ≤ 1000) (hl : D.length + R.length ≤ 1000000) (w : World) (hT : Tabs w) :
    Calls Tryz.prog 155 #[.string (strB (D ++ R))] w fun e w' => e = .returned (.tuple #[.int .i64 (Pl.val 10 D : Nat), .string (strB R), .bool true]) ∧ Below w.heap.size w w' := by
  by_cases h0 : D = []
  · subst h0
    exact number_none R hR w
  · exact number_some D R h0 hD hR hv hl w hT

def sLen : Value → Nat
  | .string s => s.size
  | _ => 0
def flCells (f : Pl.Fl) (wd : Int) (c : UInt8) : Array Value := #[.string ⟨#[]⟩, .int .u8 c.toNat, .bool f.mn, .bool false, .bool false, .bool f.ze, .bool f.sh, .int .i64 wd, .int .i64 (-1)]
theorem isLet_facts {c : UInt8} (h : Pl.isLet c = true) : ((c.toNat : Int) == 45) = false ∧ ((c.toNat : Int) == 43) = false ∧ ((c.toNat : Int) == 32) = false ∧ ((c.toNat : Int) == 48) = false ∧ ((c.toNat : Int) == 35) = false ∧ Pl.isDig 10 c = false ∧ c ≠ 46 ∧ c ≠ 0 ∧
    ∃ k : Nat, Lib.indexByte [100, 105, 117, 111, 120, 88, 99, 115, 98] c = (k : Int) := by
  unfold Pl.isLet at h
  simp only [Bool.or_eq_true, beq_iff_eq] at h
  rcases h with (((rfl | rfl) | rfl) | rfl) | rfl
  · exact ⟨rfl, rfl, rfl, rfl, rfl, rfl, by decide, by decide, 0, by decide⟩
  · exact ⟨rfl, rfl, rfl, rfl, rfl, rfl, by decide, by decide, 1, by decide⟩
  · exact ⟨rfl, rfl, rfl, rfl, rfl, rfl, by decide, by decide, 3, by decide⟩
  · exact ⟨rfl, rfl, rfl, rfl, rfl, rfl, by decide, by decide, 4, by decide⟩
  · exact ⟨rfl, rfl, rfl, rfl, rfl, rfl, by decide, by decide, 7, by decide⟩

theorem below_set {B : Nat} {a w : World} {g i : Nat} {u : Value} (h : Below B a w) (hg : B ≤ g) : Below B a (w.setCell ⟨g, i, none⟩ u) := h.setCell (p := ⟨g, i, none⟩) hg u
theorem isFl_facts {c : UInt8} (h : Pl.isFl c = true) : c = 45 ∨ c = 48 ∨ c = 35 := by
  unfold Pl.isFl at h
  simp only [Bool.or_eq_true, beq_iff_eq] at h
  rcases h with (h | h) | h
  · exact .inl h
  · exact .inr (.inl h)
  · exact .inr (.inr h)
theorem flCells_put (f : Pl.Fl) : (flCells f 0 0).setIfInBounds 2 (.bool true) = flCells (f.put 45) 0 0 ∧ (flCells f 0 0).setIfInBounds 5 (.bool true) = flCells (f.put 48) 0 0 ∧ (flCells f 0 0).setIfInBounds 6 (.bool true) = flCells (f.put 35) 0 0 := by
  obtain ⟨m, z, h⟩ := f
  refine ⟨?_, ?_, ?_⟩ <;> simp [flCells, Pl.Fl.put]
/-- the cells of a piece's block -/
structure FlAt (g : Nat) (f : Pl.Fl) (wd : Int) (c : UInt8) (W : World) : Prop where
  blk : Blk W g 169 (flCells f wd c)
theorem FlAt.cells {g : Nat} {f : Pl.Fl} {wd : Int} {c : UInt8} {W : World} (h : FlAt g f wd c W) : W.cell? ⟨g, 0, none⟩ = some (.string ⟨#[]⟩) ∧ W.cell? ⟨g, 1, none⟩ = some (.int .u8 c.toNat) ∧ W.cell? ⟨g, 2, none⟩ = some (.bool f.mn) ∧ W.cell? ⟨g, 3, none⟩ = some (.bool false) ∧ W.cell? ⟨g, 4, none⟩ = some (.bool false) ∧
    W.cell? ⟨g, 5, none⟩ = some (.bool f.ze) ∧ W.cell? ⟨g, 6, none⟩ = some (.bool f.sh) ∧ W.cell? ⟨g, 7, none⟩ = some (.int .i64 wd) ∧ W.cell? ⟨g, 8, none⟩ = some (.int .i64 (-1)) :=
  ⟨h.blk.cell 0, h.blk.cell 1, h.blk.cell 2, h.blk.cell 3, h.blk.cell 4, h.blk.cell 5, h.blk.cell 6, h.blk.cell 7, h.blk.cell 8⟩

set_option maxRecDepth 100000 in
set_option maxHeartbeats 1000000 in
theorem conversion_any (F D : List UInt8) (c : UInt8) (s : List UInt8) (h : Pl.Conv F D c) (hl : F.length + D.length + s.length ≤ 900000) (w : World) (hT : Tabs w) :
    Calls Tryz.prog 119 #[.string (strB (F ++ (D ++ c :: s)))] w fun e w' => e = .returned (.tuple #[.agg (flCells (F.foldl Pl.Fl.put Pl.Fl.none) (Pl.val 10 D : Nat) c), .string (strB s), .bool true]) ∧ Below w.heap.size w w' := by
  obtain ⟨l1, l2, l3, l4, l5, l6, l7, l8, kx, l9⟩ := isLet_facts h.le
  have hnum := fun W (hT : Tabs W) => number_any D (c :: s) h.dg (by intro x hx; cases hx; exact l6) h.wd (by simp; omega) W hT
  obtain ⟨V, hV⟩ : ∃ V : Int, (Pl.val 10 D : Nat) = V := ⟨_, rfl⟩
  rw [hV] at hnum ⊢
  have hcut := fun W => Tryz.strings_CutPrefix (strB (c :: s)) ⟨#[46]⟩ W
  have hp1 : Lib.hasPrefix (strB (c :: s)).data.toList (⟨#[46]⟩ : ByteArray).data.toList = false := by
    show Lib.hasPrefix (c :: s) [46] = false
    have h46 : (46 == c) = false := beq_eq_false_iff_ne.2 (fun e => l7 e.symm)
    simp [Lib.hasPrefix, List.isPrefixOf, h46]
  have hp2 : (⟨(Lib.trimPrefix (strB (c :: s)).data.toList (⟨#[46]⟩ : ByteArray).data.toList).toArray⟩ : ByteArray) = strB (c :: s) := by
    unfold Lib.trimPrefix
    rw [hp1]
    rfl
  rw [hp1, hp2] at hcut
  have hidx := fun W => Tryz.strings_IndexByte ⟨#[100, 105, 117, 111, 120, 88, 99, 115, 98]⟩ c.toNat W
  have hc8 : (c.toNat : Int).toNat.toUInt8 = c := by simp
  rw [hc8] at hidx
  have l9' : Lib.indexByte (⟨#[100, 105, 117, 111, 120, 88, 99, 115, 98]⟩ : ByteArray).data.toList c = (kx : Int) := l9
  rw [l9'] at hidx
  have hkx : decide ((kx : Int) < 0) = false := decide_eq_false (by omega)
  have hkx' : ¬ ((kx : Int) < 0) := by omega
  obtain ⟨R, hR⟩ : ∃ R, D ++ c :: s = R := ⟨_, rfl⟩
  have hRh : ∃ r0 R0, R = r0 :: R0 ∧ ((r0.toNat : Int) == 45) = false ∧ ((r0.toNat : Int) == 43) = false ∧ ((r0.toNat : Int) == 32) = false ∧ ((r0.toNat : Int) == 48) = false ∧ ((r0.toNat : Int) == 35) = false := by
    cases D with
    | nil => exact ⟨c, s, by rw [← hR]; rfl, l1, l2, l3, l4, l5⟩
    | cons d D =>
      have hd := of_decide_eq_true (h.dg d (by simp))
      have hd0 : d ≠ 48 := fun e => h.d0 (by rw [e]; rfl)
      have hn : ∀ n : Nat, d.toNat ≠ n → ((d.toNat : Int) == n) = false := fun n hn => beq_eq_false_iff_ne.2 (by omega)
      have hd48 : d.toNat ≠ 48 := fun e => hd0 (UInt8.toNat_inj.1 e)
      exact ⟨d, D ++ c :: s, by rw [← hR]; rfl, hn 45 (by omega), hn 43 (by omega), hn 32 (by omega), hn 48 hd48, hn 35 (by omega)⟩
  rw [hR] at hnum ⊢
  obtain ⟨r0, R0, hR0, k1, k2, k3, k4, k5⟩ := hRh
  have hRl : R.length = D.length + (s.length + 1) := by rw [← hR]; simp
  have hfl := h.fl
  have HF := Lib.hid hfl
  have HR0 := Lib.hid hR0
  clear hR0
  clear h l1 l2 l3 l4 l5 l6 l7 l9 l9' hp1 hp2 hc8 hV hR hfl
  obtain ⟨g, hg⟩ : ∃ g, w.heap.size = g := ⟨_, rfl⟩
  obtain ⟨Z, hZ⟩ : ∃ Z, (w.alloc (.cells #[.string ⟨#[]⟩, .int .u8 0, .bool false, .bool false, .bool false, .bool false, .bool false, .int .i64 0, .int .i64 0] 169)).alloc (.cells #[.string ⟨#[]⟩, .int .u8 0, .bool false, .bool false, .bool false, .bool false, .bool false, .int .i64 0, .int .i64 (-1)] 169) = Z := ⟨_, rfl⟩
  have bZ : Below w.heap.size w Z := by rw [← hZ]; exact below_box (below_one w _) (Nat.le_refl _) _
  have k0 : Blk Z g 169 zeroPiece := by rw [← hZ, ← hg]; exact (Blk.new w _ _).alloc _
  have kx1 : FlAt (g + 1) Pl.Fl.none 0 0 Z := ⟨by rw [← hZ, ← hg]; exact Blk.newNext w _ _ _⟩
  have HB := Lib.hid bZ
  have HK0 := Lib.hid k0
  have HKX := Lib.hid kx1
  clear bZ k0 kx1
  go_enter Tryz.func119, Tryz.ntmps119
  go_wp2_with fail
  go_step3
  go_wp2_with fail
  go_step3
  go_wp2_with fail
  go_loopw [0] (fun sv wr => ∃ F1 F2, Hid (F = F1 ++ F2) ∧ sv = .string (strB (F2 ++ R)) ∧ Hid (FlAt (g + 1) (F1.foldl Pl.Fl.put Pl.Fl.none) 0 0 wr) ∧ Hid (Blk wr g 169 zeroPiece) ∧ Hid (Below w.heap.size w wr)) (fun sv _ => sLen sv)
  case atStart => exact ⟨[], F, Lib.hid rfl, rfl, HKX, HK0, HB⟩
  case round =>
    obtain ⟨F1, F2, HF12, rfl, HX, HK, HBL⟩ := hrel
    obtain ⟨fl, hfl⟩ : ∃ fl, F1.foldl Pl.Fl.put Pl.Fl.none = fl := ⟨_, rfl⟩
    have HX' : Hid (FlAt (g + 1) fl 0 0 wr) := by rw [← hfl]; exact HX
    cases F2 with
    | nil =>
      have hFF : fl = F.foldl Pl.Fl.put Pl.Fl.none := by rw [← hfl, HF12.out, List.append_nil]
      have HFF := Lib.hid hFF
      have hne : (strB R).toList.isEmpty = false := by rw [HR0.out]; exact strB_ne _ _
      have hsz0 : 0 < (strB R).size := by rw [HR0.out, strB_cons_size]; omega
      have hh : ∀ h : 0 < (strB R).size, (strB R)[0]'h = r0 := fun h => by
        have e := HR0.out
        subst e
        exact strB_head r0 R0 h
      have hTr := Lib.hid (Tabs.below hT (HBL.out))
      obtain ⟨x0, x1, x2, x3, x4, x5, x6, x7, x8⟩ := HX'.out.cells
      have hne2 := strB_ne c s
      have hh2 := strB_head c s
      have hsz2 := strB_cons_size c s
      have htl2 := strB_tail c s (s.length + 1) rfl
      obtain ⟨S, hS⟩ : ∃ S, strB (c :: s) = S := ⟨_, rfl⟩
      simp only [List.nil_append, hS] at hne2 hh2 hsz2 htl2 hnum hcut ⊢
      have y7 : wr.frozen? ⟨g + 1, 7, none⟩ = false := HX'.out.blk.frozen 7
      have hlt : g + 1 < wr.heap.size := HX'.out.blk.lt
      clear hFF hfl HX
      go_wp2_with (first
        | (go_at_call 155; refine (hnum _ hTr.out).mono ?_; rintro e w1 ⟨rfl, hb1⟩
           have hlt1 : g + 1 < w1.heap.size := (by have := hb1.size; omega)
           have HX1 : FlAt (g + 1) fl 0 0 w1 := ⟨HX'.out.blk.below hb1 hlt⟩
           obtain ⟨a0, a1, a2, a3, a4, a5, a6, a7, a8⟩ := HX1.cells
           have q7 : w1.frozen? ⟨g + 1, 7, none⟩ = false := HX1.blk.frozen 7
           have q1 : w1.frozen? ⟨g + 1, 1, none⟩ = false := HX1.blk.frozen 1)
        | (go_at_call 129; refine (hcut _).mono ?_; rintro e w2 ⟨rfl, rfl⟩)
        | (go_at_call 94; refine (hidx _).mono ?_; rintro e w2 ⟨rfl, rfl⟩))
      obtain ⟨W2, hW2⟩ : ∃ W2, (w1.setCell ⟨g + 1, 7, none⟩ (.int .i64 V)).setCell ⟨g + 1, 1, none⟩ (.int .u8 c.toNat) = W2 := ⟨_, rfl⟩
      have HX2 : FlAt (g + 1) fl V c W2 := ⟨by rw [← hW2]; exact (HX1.blk.set_ 7 _).set_ 1 _⟩
      have HK2 : Blk W2 g 169 zeroPiece := by rw [← hW2]; exact ((HK.out.below hb1 (by omega)).far (by simp) _).far (by simp) _
      have HB2 : Hid (Below w.heap.size w W2) := Lib.hid (by rw [← hW2]; exact (((HBL.out.trans (hb1.mono HBL.out.size)).setCell (p := ⟨g + 1, 7, none⟩) (by simp; omega) _).setCell (p := ⟨g + 1, 1, none⟩) (by simp; omega) _))
      rw [hW2]
      obtain ⟨e0, e1, e2, e3, e4, e5, e6, e7, e8⟩ := HX2.cells
      clear hb1 HX1 a0 a1 a2 a3 a4 a5 a6 a7 a8 q7 q1 hlt1 hW2 x0 x1 x2 x3 x4 x5 x6 x7 x8 y7
      have z0 : W2.cell? ⟨g, 0, none⟩ = some (.string ⟨#[]⟩) := HK2.cell 0
      have z1 : W2.cell? ⟨g, 1, none⟩ = some (.int .u8 0) := HK2.cell 1
      have z2 : W2.cell? ⟨g, 2, none⟩ = some (.bool false) := HK2.cell 2
      have z3 : W2.cell? ⟨g, 3, none⟩ = some (.bool false) := HK2.cell 3
      have z4 : W2.cell? ⟨g, 4, none⟩ = some (.bool false) := HK2.cell 4
      have z5 : W2.cell? ⟨g, 5, none⟩ = some (.bool false) := HK2.cell 5
      have z6 : W2.cell? ⟨g, 6, none⟩ = some (.bool false) := HK2.cell 6
      have z7 : W2.cell? ⟨g, 7, none⟩ = some (.int .i64 0) := HK2.cell 7
      have z8 : W2.cell? ⟨g, 8, none⟩ = some (.int .i64 0) := HK2.cell 8
      have zf : ∀ i, W2.frozen? ⟨g, i, none⟩ = false := HK2.frozen
      have h1s : (1 : Int) ≤ (s.length : Int) + 1 := by omega
      go_region
      go_wp2_with fail
      rw [Exit.noGoto_ret]
      refine bodyPost_ret (v := .tuple #[.agg #[.string ⟨#[]⟩, .int .u8 c.toNat, .bool fl.mn, .bool false, .bool false, .bool fl.ze, .bool fl.sh, .int .i64 V, .int .i64 (-1)], .string (strB s), .bool true]) (by simp [results, Tryz.results119, go_sem, z0, z1, z2, z3, z4, z5, z6, z7, z8]) rfl ?_
      refine ⟨by rw [HFF.out]; rfl, ?_⟩
      have hwg : w.heap.size ≤ g := Nat.le_of_eq hg
      exact Below.drew (below_set (below_set (below_set (below_set (below_set (below_set (below_set (below_set (below_set HB2.out hwg) hwg) hwg) hwg) hwg) hwg) hwg) hwg) hwg)
    | cons f F2 =>
      have hf := HF.out f (by rw [HF12.out]; simp)
      have hne := strB_ne f (F2 ++ R)
      have hh := strB_head f (F2 ++ R)
      have hsz := strB_cons_size f (F2 ++ R)
      have htl := strB_tail f (F2 ++ R) ((F2 ++ R).length + 1) rfl
      have hrest : Hid (F = (F1 ++ [f]) ++ F2) := Lib.hid (by rw [HF12.out]; simp)
      have hput : (F1 ++ [f]).foldl Pl.Fl.put Pl.Fl.none = fl.put f := by rw [List.foldl_append, hfl]; rfl
      have HPUT := Lib.hid hput
      have hlt : g + 1 < wr.heap.size := HX'.out.blk.lt
      obtain ⟨x0, x1, x2, x3, x4, x5, x6, x7, x8⟩ := HX'.out.cells
      have y2 : wr.frozen? ⟨g + 1, 2, none⟩ = false := HX'.out.blk.frozen 2
      have y5 : wr.frozen? ⟨g + 1, 5, none⟩ = false := HX'.out.blk.frozen 5
      have y6 : wr.frozen? ⟨g + 1, 6, none⟩ = false := HX'.out.blk.frozen 6
      obtain ⟨S, hS⟩ : ∃ S, strB (f :: (F2 ++ R)) = S := ⟨_, rfl⟩
      simp only [List.cons_append, hS] at hne hh hsz htl ⊢
      obtain ⟨n, hn⟩ : ∃ n, (F2 ++ R).length = n := ⟨_, rfl⟩
      simp only [hn] at hsz htl
      clear hput hfl HX
      rcases isFl_facts hf with rfl | rfl | rfl
      · go_wp2_with fail
        refine ⟨⟨F1 ++ [45], F2, hrest, rfl, Lib.hid ⟨?_⟩, Lib.hid (HK.out.far (by simp) _), Lib.hid (HBL.out.setCell (p := ⟨g + 1, 2, none⟩) (by simp; omega) _)⟩, ?_⟩
        · rw [HPUT.out, ← (flCells_put fl).1]; exact HX'.out.blk.set_ 2 _
        · simp only [sLen, hsz, strB_size]; omega
      · go_wp2_with fail
        refine ⟨⟨F1 ++ [48], F2, hrest, rfl, Lib.hid ⟨?_⟩, Lib.hid (HK.out.far (by simp) _), Lib.hid (HBL.out.setCell (p := ⟨g + 1, 5, none⟩) (by simp; omega) _)⟩, ?_⟩
        · rw [HPUT.out, ← (flCells_put fl).2.1]; exact HX'.out.blk.set_ 5 _
        · simp only [sLen, hsz, strB_size]; omega
      · go_wp2_with fail
        refine ⟨⟨F1 ++ [35], F2, hrest, rfl, Lib.hid ⟨?_⟩, Lib.hid (HK.out.far (by simp) _), Lib.hid (HBL.out.setCell (p := ⟨g + 1, 6, none⟩) (by simp; omega) _)⟩, ?_⟩
        · rw [HPUT.out, ← (flCells_put fl).2.2]; exact HX'.out.blk.set_ 6 _
        · simp only [sLen, hsz, strB_size]; omega

end Go.Proofs.YtobapajmplfeiaaGreatDoor
end

section
namespace Go.Proofs.YtobapajmplfeiaaGreatDoor
open Go.RowKit Go.Maps

theorem pieceC_bytes (c : UInt8) : pieceC (Pl.bytesP c) = #[.string ⟨#[c]⟩, .int .u8 0, .bool false, .bool false, .bool false, .bool false, .bool false, .int .i64 0, .int .i64 0] := rfl
theorem pieceC_conv (F D : List UInt8) (c : UInt8) (h : c ≠ 0) (V : Int) (hV : (Pl.val 10 D : Nat) = V) (fl : Pl.Fl) (hfl : F.foldl Pl.Fl.put Pl.Fl.none = fl) :
    pieceC (Pl.convP F D c) = #[.string ⟨#[]⟩, .int .u8 c.toNat, .bool fl.mn, .bool false, .bool false, .bool fl.ze, .bool fl.sh, .int .i64 V, .int .i64 (-1)] := by
  subst hV hfl
  unfold pieceC Pl.convP
  simp only [if_neg h]
  rfl
theorem append_piece' {ops : Array Oper} {rest : List Oper} {o : Oper} {a : Act} {Q : Exit → Act → World → Prop} (hgd : o.guard = none) (s x : Operand)
    (ho : o.op = .call { callee := .builtin .append, args := #[s, x], argTypes := #[161, 161] })
    (w wr : World) (v : Value) (acc : List Pl.Piece) (p : Pl.Piece) (cells : Array Value) (hp : pieceC p = cells) (gB : Nat) (hgB : gB = wr.heap.size) (hs : a.eval s = v) (hx : a.eval x = .slice (some ⟨gB, 0, none⟩) 1 1)
    (hown : wr.ownsRow w.heap.size 169 9 v acc.length (piecesC acc)) (hb : Below w.heap.size w wr) (hlen : acc.length < 2097152)
    (h : ∀ v' w', w'.ownsRow w.heap.size 169 9 v' (acc ++ [p]).length (piecesC (acc ++ [p])) → Below w.heap.size w w' → wpList Tryz.prog ops Q rest (a.put o.dst v') w') :
    wpList Tryz.prog ops Q (o :: rest) a (wr.alloc (.cells cells 169)) := by
  rw [← hp]
  subst hgB
  exact append_piece hgd s x ho w wr v acc p hs hx hown hb hlen h

theorem blk9 {W : World} {g : Nat} {t : TypeId} {a0 a1 a2 a3 a4 a5 a6 a7 a8 : Value} (h : Blk W g t #[a0, a1, a2, a3, a4, a5, a6, a7, a8]) : W.cell? ⟨g, 0, none⟩ = some a0 ∧ W.cell? ⟨g, 1, none⟩ = some a1 ∧ W.cell? ⟨g, 2, none⟩ = some a2 ∧ W.cell? ⟨g, 3, none⟩ = some a3 ∧ W.cell? ⟨g, 4, none⟩ = some a4 ∧
    W.cell? ⟨g, 5, none⟩ = some a5 ∧ W.cell? ⟨g, 6, none⟩ = some a6 ∧ W.cell? ⟨g, 7, none⟩ = some a7 ∧ W.cell? ⟨g, 8, none⟩ = some a8 :=
  ⟨h.cell 0, h.cell 1, h.cell 2, h.cell 3, h.cell 4, h.cell 5, h.cell 6, h.cell 7, h.cell 8⟩
theorem convertOne (W : World) (g : Nat) (c : UInt8) (hg : W.cell? ⟨g, 0, none⟩ = some (.int .u8 c.toNat)) :
    (convert 27 9 (.slice (some ⟨g, 0, none⟩) 1 1)).run Tryz.prog W = .ok (.string ⟨#[c]⟩) W := by
  have h := run_convert_bytes_back (P := Tryz.prog) W 27 9 5 ⟨g, 0, none⟩ 1 [c] Tryz.underlying27 Tryz.underlying5 Tryz.underlying9 (fun j hj => by
    have h0 : j = 0 := by simpa using hj
    subst h0
    exact hg)
  exact h
set_option maxRecDepth 100000 in
set_option maxHeartbeats 8000000 in
theorem format_any (s : List UInt8) (ps : List Pl.Piece) (h : Pl.Fmt s ps) (hl : s.length ≤ 900000) (w : World) (hT : Tabs w) :
    Calls Tryz.prog 79 #[.string (strB s)] w fun e w' => ∃ v, e = .returned (.tuple #[v, .bool true]) ∧ w'.ownsRow w.heap.size 169 9 v ps.length (piecesC ps) ∧ Below w.heap.size w w' := by
  have HFM := Lib.hid h
  have hpl := h.len
  clear h
  go_enter Tryz.func79, Tryz.ntmps79
  go_wp2_with fail
  go_loopw [0, 4] (fun sv lx wr => ∃ s' acc ps' lv, Hid (Pl.Fmt s' ps') ∧ Hid (ps = acc ++ ps') ∧ s'.length ≤ s.length ∧ sv = .string (strB s') ∧ lv = lx ∧ wr.ownsRow w.heap.size 169 9 lv acc.length (piecesC acc) ∧ Below w.heap.size w wr) (fun sv _ _ => sLen sv)
  case atStart => exact ⟨s, [], ps, _, HFM, Lib.hid rfl, Nat.le_refl _, rfl, rfl, World.ownsRow_nil _ _ _ _, Below.refl _ _⟩
  case round =>
    obtain ⟨s', acc, ps', lv, HF, HPS, hs', rfl, rfl, hown, hb⟩ := hrel
    have hacc : acc.length ≤ ps.length := by rw [HPS.out, List.length_append]; omega
    have hbs := hb.size
    have hf := HF.out
    cases hf with
    | nil =>
      have hne : (strB ([] : List UInt8)).toList.isEmpty = true := by rw [strB_toList]; rfl
      go_wp2_with fail
      go_ret2
      refine ⟨lv, rfl, ?_, hb⟩
      rw [HPS.out, List.append_nil]
      exact hown
    | byte c s2 ps2 h92 h37 h2 =>
      have hne := strB_ne c s2
      have hh := strB_head c s2
      have hsz := strB_cons_size c s2
      have htl := strB_tail c s2 (s2.length + 1) rfl
      have b92 : ((c.toNat : Int) == 92) = false := beq_eq_false_iff_ne.2 (fun e => h92 (UInt8.toNat_inj.1 (by show _ = 92; omega)))
      have b37 : ((c.toNat : Int) == 37) = false := beq_eq_false_iff_ne.2 (fun e => h37 (UInt8.toNat_inj.1 (by show _ = 37; omega)))
      have b37' : ((c.toNat : Int) != 37) = true := by rw [bne, b37]; rfl
      have hcv := convertOne (wr.alloc (.cells #[.int .u8 c.toNat] 5)) wr.heap.size c ((Blk.new wr _ _).cell 0)
      obtain ⟨S, hS⟩ : ∃ S, strB (c :: s2) = S := ⟨_, rfl⟩
      simp only [hS] at hne hh hsz htl ⊢
      clear h92 h37
      go_wp2_with (at_builtin; refine append_piece' rfl _ _ rfl w (wr.alloc (.cells #[.int .u8 c.toNat] 5)) lv acc (Pl.bytesP c) _ (pieceC_bytes c) (wr.heap.size + 1) (by simp) rfl rfl (hown.alloc _) (hb.alloc hbs _) (by omega) ?_; intro v1 w1 hown1 hb1)
      exact ⟨⟨s2, acc ++ [Pl.bytesP c], ps2, v1, Lib.hid h2, Lib.hid (by rw [HPS.out]; simp), by simp at hs'; omega, rfl, rfl, hown1, hb1⟩, by simp only [sLen, hsz, strB_size]; omega⟩
    | nl s2 ps2 h2 =>
      have hes := fun W => escape_n s2 (by simp at hs'; omega) W
      obtain ⟨T, hT2⟩ : ∃ T, 110 :: s2 = T := ⟨_, rfl⟩
      have HTL : Hid (T.length = s2.length + 1) := Lib.hid (by rw [← hT2]; rfl)
      rw [hT2] at hes hs' ⊢
      have hne := strB_ne 92 T
      have hh := strB_head 92 T
      have hsz := strB_cons_size 92 T
      have htl := strB_tail 92 T (T.length + 1) rfl
      obtain ⟨S, hS⟩ : ∃ S, strB (92 :: T) = S := ⟨_, rfl⟩
      simp only [hS] at hne hh hsz htl ⊢
      clear hT2
      go_wp2_with (first
        | (go_at_call 117; refine (hes _).mono ?_; rintro e w2 ⟨rfl, nd, rfl⟩)
        | (at_builtin; refine append_piece' rfl _ _ rfl w (wr.drewN nd) lv acc (Pl.bytesP 10) _ (pieceC_bytes 10) wr.heap.size rfl rfl rfl hown (below_drewN hb nd) (by omega) ?_; intro v1 w1 hown1 hb1))
      exact ⟨⟨s2, acc ++ [Pl.bytesP 10], ps2, v1, Lib.hid h2, Lib.hid (by rw [HPS.out]; simp), by have := HTL.out; simp at hs'; omega, rfl, rfl, hown1, hb1⟩, by have := HTL.out; simp only [sLen, hsz, strB_size]; omega⟩
    | conv F D c s2 ps2 hc h2 =>
      have hc0 := (isLet_facts hc.le).2.2.2.2.2.2.2.1
      have hlen : F.length + D.length + s2.length + 2 ≤ s.length := by
        simp only [List.length_cons, List.length_append] at hs'
        omega
      have hcon := fun W (hT : Tabs W) => conversion_any F D c s2 hc (by omega) W hT
      obtain ⟨V, hV⟩ : ∃ V : Int, (Pl.val 10 D : Nat) = V := ⟨_, rfl⟩
      obtain ⟨fl, hfl⟩ : ∃ fl, F.foldl Pl.Fl.put Pl.Fl.none = fl := ⟨_, rfl⟩
      have hpc := pieceC_conv F D c hc0 V hV fl hfl
      rw [hV, hfl] at hcon
      unfold flCells at hcon
      have hrh : ∀ r0 R0, F ++ (D ++ c :: s2) = r0 :: R0 → r0 ≠ 37 := by
        intro r0 R0 e
        cases F with
        | nil =>
          cases D with
          | nil =>
            have : c = r0 := by simpa using (List.cons.inj e).1
            subst this
            intro e
            have := hc.le
            rw [e] at this
            exact absurd this (by decide)
          | cons d D =>
            have : d = r0 := by simpa using (List.cons.inj e).1
            subst this
            intro e
            have := hc.dg d (by simp)
            rw [e] at this
            exact absurd this (by decide)
        | cons f F =>
          have : f = r0 := by simpa using (List.cons.inj e).1
          subst this
          intro e
          have := hc.fl f (by simp)
          rw [e] at this
          exact absurd this (by decide)
      obtain ⟨R, hR⟩ : ∃ R, F ++ (D ++ c :: s2) = R := ⟨_, rfl⟩
      rw [hR] at hrh hcon
      have hpf : Lib.hasPrefix (strB R).data.toList (⟨#[37]⟩ : ByteArray).data.toList = false := by
        show Lib.hasPrefix R [37] = false
        cases R with
        | nil => rfl
        | cons r0 R0 =>
          have h46 : (37 == r0) = false := beq_eq_false_iff_ne.2 (fun e => hrh r0 R0 rfl e.symm)
          simp [Lib.hasPrefix, List.isPrefixOf, h46]
      have hpx := fun W => Tryz.strings_HasPrefix (strB R) ⟨#[37]⟩ W
      rw [hpf] at hpx
      have hne := strB_ne 37 R
      have hh := strB_head 37 R
      have hsz := strB_cons_size 37 R
      have htl := strB_tail 37 R (R.length + 1) rfl
      have HRL : Hid (R.length = F.length + (D.length + (s2.length + 1))) := Lib.hid (by rw [← hR]; simp)
      obtain ⟨S, hS⟩ : ∃ S, strB (37 :: R) = S := ⟨_, rfl⟩
      simp only [hR, hS] at hne hh hsz htl ⊢
      have HPC := Lib.hid hpc
      clear hpc hV hfl hpf hrh hR
      have hTr := Lib.hid (Tabs.below hT hb)
      go_wp2_with (first
        | (go_at_call 118; refine (hpx _).mono ?_; rintro e w2 ⟨rfl, rfl⟩)
        | (go_at_call 119; refine (hcon _ hTr.out).mono ?_; rintro e w3 ⟨rfl, hb3⟩)
        | (refine wpList_store_blk rfl 169 (.tmp 7) (.tmp 52) rfl w3.heap.size 169 zeroPiece #[.string ⟨#[]⟩, .int .u8 c.toNat, .bool fl.mn, .bool false, .bool false, .bool fl.ze, .bool fl.sh, .int .i64 V, .int .i64 (-1)] rfl rfl (Blk.new w3 _ _) rfl (by kernel_rfl) (by kernel_rfl) ?_
           intro w4 hk4 hg4
           obtain ⟨z0, z1, z2, z3, z4, z5, z6, z7, z8⟩ := blk9 hk4
           have hb4 : Below w3.heap.size w3 w4 := (below_one w3 _).grown hg4 (by simp) (fun k hk => by cases hk; exact Nat.le_refl _)
           have hbw3 := hb.trans (hb3.mono hbs)
           have hbw4 : Below w.heap.size w w4 := hbw3.trans (hb4.mono hbw3.size)
           have hown4 : w4.ownsRow w.heap.size 169 9 lv acc.length (piecesC acc) := own_on (own_on hown hb3) hb4)
        | (at_builtin; refine append_piece' rfl _ _ rfl w w4 lv acc (Pl.convP F D c) _ HPC.out w4.heap.size rfl rfl rfl hown4 hbw4 (by omega) ?_; intro v1 w5 hown5 hb5))
      exact ⟨⟨s2, acc ++ [Pl.convP F D c], ps2, v1, Lib.hid h2, Lib.hid (by rw [HPS.out]; simp), by omega, rfl, rfl, hown5, hb5⟩, by have := HRL.out; simp only [sLen, hsz, strB_size]; omega⟩

end Go.Proofs.YtobapajmplfeiaaGreatDoor
end

section
namespace Go.Proofs.YtobapajmplfeiaaGreatDoor

namespace Pl
/-- arguments left, what is told, what of it isn't a number, whether an argument was asked for -/
structure St where
  A : List (List UInt8)
  bs : List UInt8
  says : List (List UInt8)
  again : Bool
def St.arg (S : St) : List UInt8 := S.A.headD []
def step (num : List UInt8 → Nat × Bool) (S : St) (p : Piece) : St :=
  if p.letter = 0 then { S with bs := S.bs ++ p.b }
  else if p.letter = 115 then { A := S.A.tail, bs := S.bs ++ p.wideL S.arg, says := S.says, again := true }
  else { A := S.A.tail, bs := S.bs ++ p.toldL (num S.arg).1, says := S.says ++ (if (num S.arg).2 then [] else [S.arg]), again := true }
def pass (num : List UInt8 → Nat × Bool) (l : List Piece) (S : St) : St := l.foldl (step num) { S with again := false }
/-- every argument that is asked for a number is one of these -/
def good (num : List UInt8 → Nat × Bool) (Q : List UInt8 → Bool) : List Piece → St → Bool
  | [], _ => true
  | p :: l, S => (p.letter == 0 || p.letter == 115 || Q S.arg) && good num Q l (step num S p)
inductive Ends (num : List UInt8 → Nat × Bool) (Q : List UInt8 → Bool) (l : List Piece) : St → St → Prop
  | last (S : St) : good num Q l { S with again := false } = true → ((pass num l S).again && !(pass num l S).A.isEmpty) = false → Ends num Q l S (pass num l S)
  | more (S S' : St) : good num Q l { S with again := false } = true → ((pass num l S).again && !(pass num l S).A.isEmpty) = true → Ends num Q l (pass num l S) S' → Ends num Q l S S'
structure St.Le (S S' : St) : Prop where
  bs : S.bs <+: S'.bs
  says : S.says <+: S'.says
  args : ∀ a ∈ S'.A, a ∈ S.A
  cut : S'.A.length ≤ S.A.length
theorem St.Le.refl (S : St) : S.Le S := ⟨List.prefix_refl _, List.prefix_refl _, fun _ h => h, Nat.le_refl _⟩
theorem St.Le.trans {S S' S'' : St} (h : S.Le S') (h' : S'.Le S'') : S.Le S'' := ⟨h.bs.trans h'.bs, h.says.trans h'.says, fun a ha => h.args a (h'.args a ha), Nat.le_trans h'.cut h.cut⟩
theorem step_le (num : List UInt8 → Nat × Bool) (S : St) (p : Piece) : S.Le (step num S p) := by
  unfold step
  split
  · exact ⟨List.prefix_append _ _, List.prefix_refl _, fun _ h => h, Nat.le_refl _⟩
  · split
    · exact ⟨List.prefix_append _ _, List.prefix_refl _, fun _ h => List.mem_of_mem_tail h, by simp⟩
    · exact ⟨List.prefix_append _ _, List.prefix_append _ _, fun _ h => List.mem_of_mem_tail h, by simp⟩
theorem foldl_LE (num : List UInt8 → Nat × Bool) (l : List Piece) : ∀ S : St, S.Le (l.foldl (step num) S) := by
  induction l with
  | nil => exact fun S => St.Le.refl S
  | cons p l ih => exact fun S => (step_le num S p).trans (ih _)
theorem pass_le (num : List UInt8 → Nat × Bool) (l : List Piece) (S : St) : S.Le (pass num l S) :=
  (show S.Le { S with again := false } from ⟨List.prefix_refl _, List.prefix_refl _, fun _ h => h, Nat.le_refl _⟩).trans (foldl_LE num l _)
theorem Ends.le {num : List UInt8 → Nat × Bool} {Q : List UInt8 → Bool} {l : List Piece} {S S' : St} (h : Ends num Q l S S') : S.Le S' := by
  induction h with
  | last S _ _ => exact pass_le num l S
  | more S S' _ _ _ ih => exact (pass_le num l S).trans ih
/-- an argument asked for is an argument less -/
theorem step_again (num : List UInt8 → Nat × Bool) (S : St) (p : Piece) (n : Nat) (h : S.again = true → S.A.length < n ∨ S.A = []) (hn : S.A.length ≤ n) : (step num S p).again = true → (step num S p).A.length < n ∨ (step num S p).A = [] := by
  unfold step
  split
  · exact h
  · split
    all_goals
      intro _
      show S.A.tail.length < n ∨ S.A.tail = []
      cases hA : S.A with
      | nil => exact .inr rfl
      | cons a A => rw [hA] at hn; simp at hn ⊢; exact .inl hn
theorem foldl_again (num : List UInt8 → Nat × Bool) (l : List Piece) (n : Nat) : ∀ S : St, (S.again = true → S.A.length < n ∨ S.A = []) → S.A.length ≤ n → (l.foldl (step num) S).again = true → (l.foldl (step num) S).A.length < n ∨ (l.foldl (step num) S).A = [] := by
  induction l with
  | nil => exact fun S h _ => h
  | cons p l ih => exact fun S h hn => ih _ (step_again num S p n h hn) (Nat.le_trans (step_le num S p).cut hn)
theorem pass_less (num : List UInt8 → Nat × Bool) (l : List Piece) (S : St) (h : ((pass num l S).again && !(pass num l S).A.isEmpty) = true) : (pass num l S).A.length < S.A.length := by
  simp only [Bool.and_eq_true, Bool.not_eq_true', List.isEmpty_eq_false_iff] at h
  exact (foldl_again num l S.A.length { S with again := false } (by simp) (Nat.le_refl _) h.1).resolve_right h.2
end Pl
/-- what printf tells of arguments that are no numbers -/
def errs (tag : ByteArray) (says : List (List UInt8)) : List UInt8 := says.flatMap fun a => (diagOf tag (strB a) 25).data.toList
theorem errs_snoc (tag : ByteArray) (says : List (List UInt8)) (a : List UInt8) : errs tag (says ++ [a]) = errs tag says ++ (diagOf tag (strB a) 25).data.toList := by simp [errs]
theorem errs_le (tag : ByteArray) {l l' : List (List UInt8)} (h : l <+: l') : (errs tag l).length ≤ (errs tag l').length := by
  obtain ⟨t, rfl⟩ := h
  simp [errs]

end Go.Proofs.YtobapajmplfeiaaGreatDoor
end

section
namespace Go.Proofs.YtobapajmplfeiaaGreatDoor
open Go.RowKit Go.Maps

/-- the box that holds the arguments left -/
structure ArgsAt (W : World) (b3 g o c : Nat) (A : List (List UInt8)) : Prop where
  blk : Blk W b3 26 #[.slice (some ⟨g, o, none⟩) A.length c]
  row : ∃ cur, Blk W g 9 cur
  cap : A.length ≤ c
  cells : ∀ (j : Nat) x, A[j]? = some x → W.cell? ⟨g, o + j, none⟩ = some (.string (strB x))
theorem ArgsAt.ne {W : World} {b3 g o c : Nat} {A : List (List UInt8)} (h : ArgsAt W b3 g o c A) : g ≠ b3 := by
  obtain ⟨cur, hr⟩ := h.row
  exact Blk.ne_ hr h.blk (by decide)
theorem ArgsAt.same {W W' : World} {b3 g o c : Nat} {A : List (List UInt8)} (h : ArgsAt W b3 g o c A) (h1 : W'.heap[b3]? = W.heap[b3]?) (h2 : W'.heap[g]? = W.heap[g]?) : ArgsAt W' b3 g o c A := by
  obtain ⟨cur, hr⟩ := h.row
  exact ⟨h1.trans h.blk, ⟨cur, h2.trans hr⟩, h.cap, fun j x hx => (cell_same (a := ⟨g, o + j, none⟩) h2).trans (h.cells j x hx)⟩

theorem cutMore (g o cap : Nat) : ∃ o', cutA (some ⟨g, o, none⟩) cap 1 1 = some ⟨g, o', none⟩ ∧ (cap ≠ 1 → o' = o + 1) := by
  unfold cutA
  split
  · exact ⟨o, rfl, fun h => absurd (by assumption) h⟩
  · refine ⟨o + 1, ?_, fun _ => rfl⟩
    show some ((⟨g, o, none⟩ : Addr).add (1 * 1)) = _
    unfold Addr.add
    rfl
theorem run_cutArgs (g o n cap : Nat) (hn : 1 ≤ n) : ∃ o', (cap ≠ 1 → o' = o + 1) ∧ ∀ W, (Instr.slice 26 (.slice (some ⟨g, o, none⟩) n cap) (some (.int .i64 1)) none none).run Tryz.prog W = .ok (.slice (some ⟨g, o', none⟩) (n - 1) (cap - 1)) W := by
  obtain ⟨o', ho, hoc⟩ := cutMore g o cap
  obtain ⟨iS, hiS, hS0, hS1, hS2⟩ := info_parts Tryz.infoStrC
  refine ⟨o', hoc, fun W => ?_⟩
  have := run_cut (P := Tryz.prog) 26 9 iS 1 Tryz.underlying26 hiS hS1 (some ⟨g, o, none⟩) n cap .i64 1 1 rfl hn W
  rwa [ho] at this

set_option maxHeartbeats 1000000 in
theorem next_any (W : World) (b3 g o c : Nat) (A : List (List UInt8)) (h : ArgsAt W b3 g o c A) :
    Calls Tryz.prog 80 #[.pointer (some ⟨b3, 0, none⟩)] W fun e w' => e = .returned (.string (strB (A.headD []))) ∧ (∃ o' c', ArgsAt w' b3 g o' c' A.tail) ∧ Turns [b3] W w' := by
  have k0 : W.cell? ⟨b3, 0, none⟩ = some (.slice (some ⟨g, o, none⟩) A.length c) := h.blk.cell 0
  have kf : W.frozen? ⟨b3, 0, none⟩ = false := h.blk.frozen 0
  cases A with
  | nil =>
    go_enter Tryz.func80, Tryz.ntmps80
    go_wp2_with fail
    go_returns
    exact ⟨rfl, ⟨o, c, h⟩, Turns.refl _ _⟩
  | cons a A =>
    have hc := h.cap
    have hg := h.ne
    have h0 := h.cells 0 a rfl
    rw [Nat.add_zero] at h0
    obtain ⟨o', ho', hcut⟩ := run_cutArgs g o (A.length + 1) c (by omega)
    simp only [List.length_cons] at k0 hc
    have HH := Lib.hid h
    clear h
    go_enter Tryz.func80, Tryz.ntmps80
    go_wp2_with fail
    go_returns
    obtain ⟨cur, hr⟩ := HH.out.row
    refine ⟨rfl, ⟨o', c - 1, ⟨?_, ⟨cur, hr.far (by simpa using hg) _⟩, by simp; omega, fun j x hx => ?_⟩⟩, turns_set (by simp) _ _⟩
    · exact HH.out.blk.set_ 0 _
    · have hx' : A[j]? = some x := hx
      have hj : j < A.length := (List.getElem?_eq_some_iff.1 hx').1
      rw [cell_same (a := ⟨g, o' + j, none⟩) (Below.heap_setCell _ _ _ _ (by simpa using hg)), ho' (by omega)]
      have := HH.out.cells (j + 1) x (by simpa using hx')
      rwa [show o + 1 + j = o + (j + 1) by omega]

/-- where a run of printf stands: the world ahead of the job, the world at its start, the job and its flow then, its blocks -/
structure E51 where
  w0 : World
  w : World
  X : Job
  F : Flow
  tag : ByteArray
  b3 : Nat
  g : Nat
  b8 : Nat
  lv : Value
  ps : List Pl.Piece
structure In51 (E : E51) (A : List (List UInt8)) (bs : List UInt8) (says : List (List UInt8)) (W : World) : Prop where
  low : Below E.w0.heap.size E.w0 W
  flow : ∃ F' v, JobOf W E.X F' ∧ Went E.X E.F F' E.w W ∧ E.g ∉ E.X.foot F' ∧ (∀ k ∈ E.X.foot F', E.w0.heap.size ≤ k) ∧ F'.said true = [] ∧ F'.said false = errs E.tag says ∧ F'.steps ≤ says.length ∧
    Bld W E.b8 v bs ∧ (∀ k, v.ownBlock = some k → k ∉ E.X.foot F' ∧ E.w.heap.size ≤ k)
  args : ∃ o c, ArgsAt W E.b3 E.g o c A
  pieces : W.ownsRow E.w.heap.size 169 9 E.lv E.ps.length (piecesC E.ps)
  l3 : E.w.heap.size ≤ E.b3
  l8 : E.w.heap.size ≤ E.b8
  l0 : E.w0.heap.size ≤ E.w.heap.size
section
variable {E : E51} {A : List (List UInt8)} {bs : List UInt8} {says : List (List UInt8)} {W W' : World}
theorem In51.b3 (h : In51 E A bs says W) : ∃ cs, Blk W E.b3 26 cs := by
  obtain ⟨o, c, ha⟩ := h.args
  exact ⟨_, ha.blk⟩
theorem In51.b8 (h : In51 E A bs says W) : ∃ cs, Blk W E.b8 167 cs := by
  obtain ⟨F', v, _, _, _, _, _, _, _, hB, _⟩ := h.flow
  rcases hB.blk with k | k
  · exact ⟨_, k⟩
  · exact ⟨_, k⟩
/-- a job's blocks are none of the types that printf holds -/
theorem foot_type {F' : Flow} (hJ : JobOf W E.X F') {k : Nat} {t : TypeId} {cs : Array Value} (hk : Blk W k t cs) (ht : t = 26 ∨ t = 167 ∨ t = 169) : k ∉ E.X.foot F' := by
  rcases ht with rfl | rfl | rfl <;> exact hJ.off hk (by decide) (by decide) (by decide) (by decide) (by decide) (by decide) (by decide) (by decide) (by decide)
theorem own_piece {B n : Nat} {v : Value} {xs : List Value} (h : W.ownsRow B 169 9 v n xs) {k : Nat} (hk : v.ownBlock = some k) : ∃ cs, Blk W k 169 cs := by
  rcases h.2 with ⟨rfl, _⟩ | ⟨g, cap, cur, rfl, _, hg, _⟩
  · simp [Value.ownBlock] at hk
  · obtain rfl : g = k := by simpa [Value.ownBlock] using hk
    exact ⟨cur, hg⟩
theorem own_bytes {B n : Nat} {v : Value} {xs : List Value} (h : W.ownsRow B 5 1 v n xs) {k : Nat} (hk : v.ownBlock = some k) : ∃ cs, Blk W k 5 cs := by
  rcases h.2 with ⟨rfl, _⟩ | ⟨g, cap, cur, rfl, _, hg, _⟩
  · simp [Value.ownBlock] at hk
  · obtain rfl : g = k := by simpa [Value.ownBlock] using hk
    exact ⟨cur, hg⟩
theorem In51.below (h : In51 E A bs says W) (hb : Below W.heap.size W W') : In51 E A bs says W' := by
  have hl := h.low.size
  obtain ⟨F', v, hJ, hG, hgo, hfo, h1, h2, h3, hB, hv⟩ := h.flow
  obtain ⟨o, c, ha⟩ := h.args
  obtain ⟨cur, hr⟩ := ha.row
  exact ⟨h.low.trans (hb.mono hl), ⟨F', v, hJ.below hb, hG.trans (Went.of_below _ _ hb), hgo, hfo, h1, h2, h3, hB.same (hb.block _ hB.lt) (fun g hg => hb.block g (hB.row_lt hg)), hv⟩,
    ⟨o, c, ha.same (hb.block _ ha.blk.lt) (hb.block _ hr.lt)⟩, own_on h.pieces hb, h.l3, h.l8, h.l0⟩
theorem In51.tabs (h : In51 E A bs says W) (hT : Tabs E.w0) : Tabs W := hT.below h.low

theorem In51.next (h : In51 E A bs says W) : Calls Tryz.prog 80 #[.pointer (some ⟨E.b3, 0, none⟩)] W fun e w' => e = .returned (.string (strB (A.headD []))) ∧ In51 E A.tail bs says w' ∧ (∀ k cs, Blk W k 169 cs → Blk w' k 169 cs) := by
  obtain ⟨F', v, hJ, hG, hgo, hfo, h1, h2, h3, hB, hv⟩ := h.flow
  obtain ⟨o, c, ha⟩ := h.args
  refine (next_any W E.b3 E.g o c A ha).mono ?_
  rintro e w' ⟨rfl, hA, hT⟩
  have h3f : E.b3 ∉ E.X.foot F' := foot_type hJ ha.blk (.inl rfl)
  have hl : E.w.heap.size ≤ W.heap.size := hG.turns.size
  have keep : ∀ k, k < W.heap.size → k ≠ E.b3 → w'.heap[k]? = W.heap[k]? := fun k h1 h2 => hT.block k h1 (by simpa using h2)
  obtain ⟨c8, hc8⟩ := h.b8
  refine ⟨rfl, ⟨h.low.trans (hT.below (Nat.le_trans h.l0 hl) (by intro k hk; rw [List.mem_singleton.1 hk]; exact Nat.le_trans h.l0 h.l3)), ⟨F', v, hJ.turns hT (fun k hk hm => h3f (by rwa [List.mem_singleton.1 hm] at hk)), ?_, hgo, hfo, h1, h2, h3, ?_, hv⟩, hA, ?_, h.l3, h.l8, h.l0⟩, ?_⟩
  · refine ⟨hG.turns.then hT (fun k hk hlt => ?_), hG.news⟩
    have := h.l3
    rw [List.mem_singleton.1 hk] at hlt
    omega
  · exact hB.same (keep _ hB.lt (Blk.ne_ hc8 ha.blk (by decide))) (fun k hk => keep k (hB.row_lt hk) (by
      obtain ⟨cs, hcs⟩ := own_bytes hB.row hk
      exact Blk.ne_ hcs ha.blk (by decide)))
  · refine ownsRow_same h.pieces fun k hk => ?_
    obtain ⟨cs, hcs⟩ := own_piece h.pieces hk
    exact keep k hcs.lt (Blk.ne_ hcs ha.blk (by decide))
  · intro k cs hk
    exact (keep k hk.lt (Blk.ne_ hk ha.blk (by decide))).trans hk

theorem In51.write (h : In51 E A bs says W) (s : List UInt8) (hl : bs.length + s.length ≤ 140737488355328) : Calls Tryz.prog 81 #[.pointer (some ⟨E.b8, 0, none⟩), .string (strB s)] W fun e w' => e = .returned (.tuple #[.int .i64 (strB s).size, .nilIface]) ∧ In51 E A (bs ++ s) says w' ∧ (∀ k cs, Blk W k 169 cs → Blk w' k 169 cs) := by
  obtain ⟨F', v, hJ, hG, hgo, hfo, h1, h2, h3, hB, hv⟩ := h.flow
  obtain ⟨o, c, ha⟩ := h.args
  obtain ⟨cur, hr⟩ := ha.row
  obtain ⟨c8, hc8⟩ := h.b8
  refine (buildString W E.b8 v bs (strB s) hB (by rw [strB_size]; exact hl)).mono ?_
  rintro e w' ⟨rfl, v', hB', hT, hv'⟩
  have h8f : E.b8 ∉ E.X.foot F' := foot_type hJ hc8 (.inr (.inl rfl))
  have hlw : E.w.heap.size ≤ W.heap.size := hG.turns.size
  have hS : ∀ k ∈ E.b8 :: v.ownBlock.toList, E.w.heap.size ≤ k ∧ k ∉ E.X.foot F' := by
    intro k hk
    simp only [List.mem_cons, Option.mem_toList] at hk
    rcases hk with rfl | hk
    · exact ⟨h.l8, h8f⟩
    · exact ⟨(hv k hk).2, (hv k hk).1⟩
  have keep : ∀ {k : Nat} {t : TypeId} {cs : Array Value}, Blk W k t cs → t ≠ 167 → t ≠ 5 → w'.heap[k]? = W.heap[k]? := by
    intro k t cs hk n1 n2
    refine hT.block k hk.lt ?_
    simp only [List.mem_cons, Option.mem_toList, not_or]
    exact ⟨Blk.ne_ hk hc8 n1, fun e => own_blk_ne hB.row hk n2.symm e⟩
  rw [strB_data] at hB'
  refine ⟨rfl, ⟨h.low.trans (hT.below (Nat.le_trans h.l0 hlw) (fun k hk => Nat.le_trans h.l0 (hS k hk).1)), ⟨F', v', hJ.turns hT (fun k hk hm => (hS k hm).2 hk), ?_, hgo, hfo, h1, h2, h3, hB', ?_⟩, ⟨o, c, ha.same (keep ha.blk (by decide) (by decide)) (keep hr (by decide) (by decide))⟩, ?_, h.l3, h.l8, h.l0⟩, ?_⟩
  · exact ⟨hG.turns.then hT (fun k hk hlt => absurd hlt (Nat.not_lt.2 (hS k hk).1)), hG.news⟩
  · intro k hk
    rcases hv' with e | ⟨g', e, hg'⟩
    · exact hv k (e ▸ hk)
    · rw [hk] at e
      cases e
      exact ⟨fun hm => absurd (hJ.foot_lt k hm) (Nat.not_lt.2 hg'), Nat.le_trans hlw hg'⟩
  · refine ownsRow_same h.pieces fun k hk => ?_
    obtain ⟨cs, hcs⟩ := own_piece h.pieces hk
    exact keep hcs (by decide) (by decide)
  · intro k cs hk
    exact (keep hk (by decide) (by decide)).trans hk

theorem In51.say (h : In51 E A bs says W) (rest : List ByteArray) (ha : E.X.B.args = E.tag :: rest) (hn : E.X.B.args.length ≤ 2097152) (htag : E.tag.size ≤ 140737488351232) (a : List UInt8) (hal : a.length ≤ 140737488351232)
    (hs : says.length < 4611686018427387904) (hl : (errs E.tag (says ++ [a])).length ≤ 140737488355000) :
    Calls Tryz.prog 85 #[.pointer (some ⟨E.X.p, 0, none⟩), .string (strB a), .int .i64 25] W fun e w' => e = .returned (.tuple #[]) ∧ In51 E A bs (says ++ [a]) w' ∧ (∀ k cs, Blk W k 169 cs → Blk w' k 169 cs) := by
  obtain ⟨F', v, hJ, hG, hgo, hfo, h1, h2, h3, hB, hv⟩ := h.flow
  obtain ⟨o, c, hA⟩ := h.args
  obtain ⟨cur, hr⟩ := hA.row
  obtain ⟨c8, hc8⟩ := h.b8
  have hlw : E.w.heap.size ≤ W.heap.size := hG.turns.size
  refine (jobSay W E.X F' hJ (by omega) E.tag rest ha hn (strB a) 25 htag (by rw [strB_size]; exact hal) (by rw [h2, ← List.length_append, ← errs_snoc]; exact hl)).mono ?_
  rintro e w' ⟨rfl, F2, hJ2, hG2, hW2⟩
  have keep : ∀ {k : Nat}, k < W.heap.size → k ∉ E.X.foot F' → w'.heap[k]? = W.heap[k]? := fun h1 h2 => (hG2.away h1 h2).1
  refine ⟨rfl, ⟨h.low.trans (hG2.turns.below (Nat.le_trans h.l0 hlw) hfo), ⟨F2, v, hJ2, hG.trans hG2, (hG2.away hr.lt hgo).2, ?_, ?_, ?_, ?_, ?_, ?_⟩, ⟨o, c, hA.same (keep hA.blk.lt (foot_type hJ hA.blk (.inl rfl))) (keep hr.lt hgo)⟩, ?_, h.l3, h.l8, h.l0⟩, ?_⟩
  · intro k hk
    rcases hG2.news k hk with h1 | h1
    · exact hfo k h1
    · exact Nat.le_trans (Nat.le_trans h.l0 hlw) h1
  · rw [hW2.said, if_neg (by decide), h1]
  · rw [hW2.said, if_pos rfl, h2, errs_snoc]
  · have := hW2.steps
    rw [List.length_append, List.length_singleton]
    omega
  · exact hB.same (keep hB.lt (foot_type hJ hc8 (.inr (.inl rfl)))) (fun k hk => keep (hB.row_lt hk) (hv k hk).1)
  · exact fun k hk => ⟨(hG2.away (hB.row_lt hk) (hv k hk).1).2, (hv k hk).2⟩
  · refine ownsRow_same h.pieces fun k hk => ?_
    obtain ⟨cs, hcs⟩ := own_piece h.pieces hk
    exact keep hcs.lt (foot_type hJ hcs (.inr (.inr rfl)))
  · intro k cs hk
    exact (keep hk.lt (foot_type hJ hk (.inr (.inr rfl)))).trans hk

theorem In51.said (h : In51 E A bs says W) (h0 : bs ≠ []) : Calls Tryz.prog 87 #[.pointer (some ⟨E.b8, 0, none⟩)] W fun e w' => e = .returned (.string (strB bs)) ∧ ∃ F', JobOf w' E.X F' ∧ Went E.X E.F F' E.w w' ∧ F'.said true = [] ∧ F'.said false = errs E.tag says ∧ F'.steps ≤ says.length := by
  obtain ⟨F', v, hJ, hG, hgo, hfo, h1, h2, h3, hB, hv⟩ := h.flow
  refine (buildSaid W E.b8 v bs hB h0).mono ?_
  rintro e w' ⟨rfl, hT⟩
  refine ⟨rfl, F', hJ.turns hT (fun k hk hm => (hv k (by simpa using hm)).1 hk), ⟨hG.turns.then hT (fun k hk hlt => ?_), hG.news⟩, h1, h2, h3⟩
  exact absurd hlt (Nat.not_lt.2 (hv k (by simpa using hk)).2)
end

end Go.Proofs.YtobapajmplfeiaaGreatDoor
end

section
namespace Go.Proofs.YtobapajmplfeiaaGreatDoor
open Go.RowKit Go.Maps

set_option maxHeartbeats 1000000 in
theorem valueNil (w : World) : Calls Tryz.prog 84 #[.string (strB [])] w fun e w' => e = .returned (.tuple #[.int .i64 0, .bool true]) ∧ w' = w := by
  show Calls Tryz.prog 84 #[.string ⟨#[]⟩] w _
  go_enter Tryz.func84, Tryz.ntmps84
  go_wp2_with fail
  go_returns
  exact ⟨rfl, rfl⟩

set_option maxRecDepth 100000 in
set_option maxHeartbeats 2000000 in
theorem valueDec (d : UInt8) (D : List UInt8) (hD : ∀ c ∈ d :: D, Pl.isDig 10 c = true) (hz : d ≠ 48 ∨ D = []) (hv : Pl.val 10 (d :: D) ≤ 9223372036854775807) (hl : D.length ≤ 1000000) (w : World) :
    Calls Tryz.prog 84 #[.string (strB (d :: D))] w fun e w' => e = .returned (.tuple #[.int .i64 (Pl.val 10 (d :: D) : Nat), .bool true]) ∧ Below w.heap.size w w' := by
  have hp := fun W => pub10_ok (strB (d :: D)) W (by rw [strB_size]; simp; omega) (by rw [strB_size]; simp) (by rw [strB_data]; exact hD) (by rw [strB_data]; exact hv)
  rw [strB_data] at hp
  obtain ⟨V, hV⟩ : ∃ V : Nat, Pl.val 10 (d :: D) = V := ⟨_, rfl⟩
  rw [hV] at hp ⊢
  have hd := of_decide_eq_true (hD d (by simp))
  have hn : ∀ n : Nat, d.toNat ≠ n → ((d.toNat : Int) == n) = false := fun n hn => beq_eq_false_iff_ne.2 (by omega)
  have b39 : ((d.toNat : Int) == 39) = false := hn 39 (by omega)
  have b34 : ((d.toNat : Int) == 34) = false := hn 34 (by omega)
  have b45 : ((d.toNat : Int) == 45) = false := hn 45 (by omega)
  have b43 : ((d.toNat : Int) == 43) = false := hn 43 (by omega)
  have hne := strB_ne d D
  have hh := strB_head d D
  have hsz := strB_cons_size d D
  have hpx : ∀ c2 : UInt8, c2 = 120 ∨ c2 = 88 → D ≠ [] → Lib.hasPrefix (strB (d :: D)).data.toList (⟨#[48, c2]⟩ : ByteArray).data.toList = false := by
    intro c2 _ hDn
    show Lib.hasPrefix (d :: D) [48, c2] = false
    have h48 : (48 == d) = false := beq_eq_false_iff_ne.2 (fun e => (hz.resolve_right hDn) e.symm)
    simp [Lib.hasPrefix, List.isPrefixOf, h48]
  have hnil : (⟨#[]⟩ : ByteArray) ++ strB (d :: D) = strB (d :: D) := strB_append [] (d :: D)
  by_cases h0 : D = []
  · subst h0
    obtain ⟨S, hS⟩ : ∃ S, strB [d] = S := ⟨_, rfl⟩
    simp only [hS] at hp hne hh hsz hnil ⊢
    simp only [List.length_nil] at hsz
    clear hpx hD hv hV hz
    go_enter Tryz.func84, Tryz.ntmps84
    go_wp2_with (go_at_call 122; refine (hp _).mono ?_; rintro e w1 ⟨rfl, hb1⟩)
    go_returns
    exact ⟨rfl, hb1⟩
  · have hx := fun W => Tryz.strings_HasPrefix (strB (d :: D)) ⟨#[48, 120]⟩ W
    have hX := fun W => Tryz.strings_HasPrefix (strB (d :: D)) ⟨#[48, 88]⟩ W
    rw [hpx 120 (.inl rfl) h0] at hx
    rw [hpx 88 (.inr rfl) h0] at hX
    have b48 : ((d.toNat : Int) == 48) = false := hn 48 (fun e => (hz.resolve_right h0) (UInt8.toNat_inj.1 e))
    obtain ⟨S, hS⟩ : ∃ S, strB (d :: D) = S := ⟨_, rfl⟩
    simp only [hS] at hp hne hh hsz hnil hx hX ⊢
    clear hpx hD hv hV hz
    go_enter Tryz.func84, Tryz.ntmps84
    go_wp2_with (first
      | (go_at_call 118; refine (hx _).mono ?_; rintro e w1 ⟨rfl, rfl⟩)
      | (go_at_call 118; refine (hX _).mono ?_; rintro e w1 ⟨rfl, rfl⟩)
      | (go_at_call 122; refine (hp _).mono ?_; rintro e w1 ⟨rfl, hb1⟩))
    all_goals
      go_returns
      exact ⟨rfl, hb1⟩

set_option maxRecDepth 100000 in
set_option maxHeartbeats 2000000 in
theorem valueBad (w : World) (hT : Tabs w) : Calls Tryz.prog 84 #[.string (strB [120])] w fun e w' => e = .returned (.tuple #[.int .i64 0, .bool false]) ∧ Below w.heap.size w w' := by
  obtain ⟨te, pe, hv⟩ := hT.errS
  have hp : Calls Tryz.prog 122 #[.string ⟨#[120]⟩, .int .i64 10, .int .i64 64] w fun e w' => ∃ N, e = .returned (.tuple #[.int .i64 0, .iface 292 (.pointer (some ⟨N, 0, none⟩))]) ∧ Below w.heap.size w w' :=
    (Any.strconv_ParseInt_10_at64_syntax Tryz.laysC174 ⟨#[120]⟩ (by decide) (by decide) (.iface te pe) w hv (.inr ⟨te, pe, rfl⟩)).mono fun e w' ⟨N, h1, _, _, h4⟩ => ⟨N, h1, h4⟩
  show Calls Tryz.prog 84 #[.string ⟨#[120]⟩] w _
  clear hv hT
  go_enter Tryz.func84, Tryz.ntmps84
  go_wp2_with (go_at_call 122; refine hp.mono ?_; rintro e w1 ⟨N, rfl, hb1⟩)
  go_returns
  exact ⟨rfl, hb1⟩

end Go.Proofs.YtobapajmplfeiaaGreatDoor
end

section
namespace Go.Proofs.YtobapajmplfeiaaGreatDoor
open Go.RowKit Go.Maps

/-- what a letter's conversion calls answer -/
structure Does51 (w0 : World) (num : List UInt8 → Nat × Bool) (Q : List UInt8 → Bool) (ps : List Pl.Piece) : Prop where
  value : ∀ a, Q a = true → ∀ W, Below w0.heap.size w0 W → Calls Tryz.prog 84 #[.string (strB a)] W fun e w' => e = .returned (.tuple #[.int .i64 (num a).1, .bool (num a).2]) ∧ Below W.heap.size W w'
  zero : ∀ a, (num a).2 = false → (num a).1 = 0
  told : ∀ p ∈ ps, p.letter ≠ 0 → p.letter ≠ 115 → ∀ a, Q a = true → ∀ W, Below w0.heap.size w0 W → Calls Tryz.prog 86 #[.agg (pieceC p), .int .i64 (num a).1] W fun e w' => e = .returned (.string (strB (p.toldL (num a).1))) ∧ Below W.heap.size W w'
  wide : ∀ p ∈ ps, p.width ≤ 1000
  b : ∀ p ∈ ps, p.letter ≠ 0 → p.b = [] ∧ Pl.isLet p.letter = true
def stOf (says : List (List UInt8)) : Int := if says = [] then 0 else 1
def mBox (W : World) (b3 : Nat) : Nat := match W.cell? ⟨b3, 0, none⟩ with
  | some (.slice _ n _) => n
  | _ => 0
def mBool : Value → Nat
  | .bool true => 1
  | _ => 0
def mInt : Value → Nat
  | .int _ i => i.toNat
  | _ => 0
theorem In51.box {E : E51} {A : List (List UInt8)} {bs : List UInt8} {says : List (List UInt8)} {W : World} (h : In51 E A bs says W) : mBox W E.b3 = A.length := by
  obtain ⟨o, c, ha⟩ := h.args
  have : W.cell? ⟨E.b3, 0, none⟩ = some (.slice (some ⟨E.g, o, none⟩) A.length c) := ha.blk.cell 0
  unfold mBox
  rw [this]
theorem own_form9 {W : World} {B n : Nat} {v : Value} {xs : List Value} (h : W.ownsRow B 169 9 v n xs) (hn : 0 < n) : ∃ g cap, v = .slice (some ⟨g, 0, none⟩) n cap ∧ B ≤ g ∧ n ≤ cap ∧ n ≤ maxLen := by
  rcases h.2 with ⟨_, h0⟩ | ⟨g, cap, cur, rfl, hg, _, hn, hc, _⟩
  · omega
  · exact ⟨g, cap, rfl, hg, hn, Nat.le_trans hn hc⟩
theorem pieceC_at {W : World} {B n g cap : Nat} {ps : List Pl.Piece} (h : W.ownsRow B 169 9 (.slice (some ⟨g, 0, none⟩) n cap) n (piecesC ps)) {k : Nat} {p : Pl.Piece} (hp : ps[k]? = some p) :
    ∀ j, j < 9 → W.cell? ⟨g, k * 9 + j, none⟩ = (pieceC p).toList[j]? := by
  intro j hj
  have hx := piecesC_at ps k p hp j hj
  obtain ⟨u, hu⟩ : ∃ u, (pieceC p).toList[j]? = some u := ⟨_, List.getElem?_eq_getElem (by simpa [pieceC] using hj)⟩
  rw [hu] at hx ⊢
  have := h.cells (g := g) rfl (k * 9 + j) u hx
  have e0 : (⟨g, 0, none⟩ : Addr).add (k * 9 + j) = ⟨g, k * 9 + j, none⟩ := by unfold Addr.add; split <;> simp_all
  rwa [e0] at this

theorem piece_range {W : World} {B n g cap : Nat} {ps : List Pl.Piece} (h : W.ownsRow B 169 9 (.slice (some ⟨g, 0, none⟩) n cap) n (piecesC ps)) {k : Nat} {p : Pl.Piece} (hp : ps[k]? = some p) : W.rangeAt g (k * 9) (pieceC p).toList := by
  intro j u hu
  have h9 : j < 9 := by simpa [pieceC] using (List.getElem?_eq_some_iff.1 hu).1
  rw [pieceC_at h hp j h9]
  exact hu

/-- the arguments behind the name, in a row of their own -/
theorem procArgs2 (w : World) (X : Job) (F : Flow) (h : JobOf w X F) (tag : ByteArray) (rest : List ByteArray) (ha : X.B.args = tag :: rest) (n : Nat) (hn : rest.length = n) (hl : n < 2097152) :
    Calls Tryz.prog 44 #[.pointer (some ⟨X.p, 0, none⟩)] w fun e w' => ∃ g cap cur, e = .returned (.slice (some ⟨g, 0, none⟩) (n + 1) cap) ∧ n + 1 ≤ cap ∧ w.heap.size ≤ g ∧ Below w.heap.size w w' ∧ Blk w' g 9 cur ∧
      (∀ j x, rest[j]? = some x → w'.cell? ⟨g, j + 1, none⟩ = some (.string x)) := by
  subst hn
  have hj : (X.J F).args = tag :: rest := ha
  refine (procArgs w X.p (X.J F) h.proc (by rw [hj]; simp; omega)).mono ?_
  rintro e w' ⟨v, rfl, hown, hb⟩
  rw [hj] at hown
  rcases hown.2 with ⟨_, h0⟩ | ⟨g, cap, cur, rfl, hg, hblk, hn, hc, hcur⟩
  · simp at h0
  · refine ⟨g, cap, cur, rfl, by simpa using hn, hg, hb, hblk, fun j x hx => ?_⟩
    have := hown.cells (g := g) rfl (j + 1) (.string x) (by simp only [strsC, List.map_cons, List.getElem?_cons_succ, List.getElem?_map, hx, Option.map_some])
    have e0 : (⟨g, 0, none⟩ : Addr).add (j + 1) = ⟨g, j + 1, none⟩ := by unfold Addr.add; split <;> simp_all
    rwa [e0] at this

/-- a main that says this and ends so, whatever the world ahead of it was -/
def SaysFrom (w0 : World) (id : FuncId) (args : List ByteArray) (out err : List UInt8) (st : Int) : Prop :=
  ∀ W X F, Below w0.heap.size w0 W → (∀ g ∈ X.foot F, w0.heap.size ≤ g) → JobOf W X F → X.B.args = args → F.steps = 0 → F.said = (fun _ => []) → Calls Tryz.prog id #[.pointer (some ⟨X.p, 0, none⟩)] W fun e w' => e = .returned (.int .i64 st) ∧
    ∃ F', JobOf w' X F' ∧ Went X F F' W w' ∧ F'.said true = out ∧ F'.said false = err

/-- the first pass, and what is left of the others -/
theorem Pl.Ends.first {num : List UInt8 → Nat × Bool} {Q : List UInt8 → Bool} {ps : List Pl.Piece} {S S' : Pl.St} (h : Pl.Ends num Q ps S S') : Pl.good num Q ps { S with again := false } = true ∧
    ∃ T, Pl.pass num ps S = T ∧ T.Le S' ∧ T.A.length ≤ S.A.length ∧ ((T.again && !T.A.isEmpty) = true → Pl.Ends num Q ps T S' ∧ T.A.length < S.A.length) ∧ ((T.again && !T.A.isEmpty) = false → T = S') := by
  cases h with
  | last S hg h1 => exact ⟨hg, _, rfl, Pl.St.Le.refl _, (Pl.pass_le num ps S).cut, fun e => (by rw [h1] at e; cases e), fun _ => rfl⟩
  | more S S' hg h1 h2 => exact ⟨hg, _, rfl, h2.le, (Pl.pass_le num ps S).cut, fun _ => ⟨h2, Pl.pass_less num ps S h1⟩, fun e => (by rw [h1] at e; cases e)⟩
/-- ahead of the first pass -/
theorem In51.start {w0 W w1 w2 : World} {X : Job} {F : Flow} {tag : ByteArray} (hlow : Below w0.heap.size w0 W) (hX : JobOf W X F) (hfoot : ∀ k ∈ X.foot F, w0.heap.size ≤ k) (h0 : F.steps = 0) (hs : F.said = fun _ => []) (hb1 : Below W.heap.size W w1)
    {g : Nat} {cur : Array Value} (hrow : Blk w1 g 9 cur) (hg : W.heap.size ≤ g) {v1 : Value} {Zb : World} (hZb : w1.alloc (.cells #[v1] 26) = Zb) (hb2 : Below Zb.heap.size Zb w2)
    {lv : Value} {ps : List Pl.Piece} (hown : w2.ownsRow Zb.heap.size 169 9 lv ps.length (piecesC ps)) {A : List (List UInt8)} {o2 cap : Nat} (hcap : A.length ≤ cap) (hcs : ∀ (j : Nat) x, A[j]? = some x → w1.cell? ⟨g, o2 + j, none⟩ = some (.string (strB x))) :
    In51 ⟨w0, W, X, F, tag, w1.heap.size, g, w2.heap.size, lv, ps⟩ A [] [] ((w2.setCell ⟨w1.heap.size, 0, none⟩ (.slice (some ⟨g, o2, none⟩) A.length cap)).alloc (.cells #[.pointer none, .slice none 0 0] 167)) := by
  have hl := hlow.size
  have kb : Blk Zb w1.heap.size 26 #[v1] := by rw [← hZb]; exact Blk.new w1 _ _
  have bZ : Below W.heap.size W Zb := by rw [← hZb]; exact below_box hb1 (Nat.le_refl _) _
  have kr : Blk Zb g 9 cur := by rw [← hZb]; exact hrow.alloc _
  have b2 : Below W.heap.size W w2 := bZ.trans (hb2.mono bZ.size)
  have b4 : Below W.heap.size W ((w2.setCell ⟨w1.heap.size, 0, none⟩ (.slice (some ⟨g, o2, none⟩) A.length cap)).alloc (.cells #[.pointer none, .slice none 0 0] 167)) := below_box (below_set b2 hb1.size) (Nat.le_refl _) _
  have hgn : g ≠ w1.heap.size := by have := hrow.lt; omega
  have kr4 : Blk ((w2.setCell ⟨w1.heap.size, 0, none⟩ (.slice (some ⟨g, o2, none⟩) A.length cap)).alloc (.cells #[.pointer none, .slice none 0 0] 167)) g 9 cur := ((kr.on hb2).far (by simpa using hgn) _).alloc _
  have kb4 := ((kb.on hb2).set_ 0 (.slice (some ⟨g, o2, none⟩) A.length cap)).alloc (.cells #[.pointer none, .slice none 0 0] 167)
  have hz1 : w1.heap.size < Zb.heap.size := kb.lt
  have hsz : (w2.setCell ⟨w1.heap.size, 0, none⟩ (.slice (some ⟨g, o2, none⟩) A.length cap)).heap.size = w2.heap.size := by simp
  refine ⟨hlow.trans (b4.mono hl), ⟨F, .slice none 0 0, hX.below b4, Went.of_below _ _ b4, fun hm => absurd (hX.foot_lt _ hm) (Nat.not_lt.2 hg), hfoot, by rw [hs], by rw [hs]; rfl, by rw [h0]; exact Nat.le_refl _, ⟨.inl ?_, World.ownsRow_nil _ _ _ _⟩, fun k hk => by simp [Value.ownBlock] at hk⟩,
    ⟨o2, cap, kb4, ⟨cur, kr4⟩, hcap, fun j x hx => ?_⟩, ?_, hb1.size, b2.size, hl⟩
  · have := Blk.new (w2.setCell ⟨w1.heap.size, 0, none⟩ (.slice (some ⟨g, o2, none⟩) A.length cap)) 167 #[.pointer none, .slice none 0 0]
    rwa [hsz] at this
  · exact (cell_same (a := ⟨g, o2 + j, none⟩) (kr4.trans hrow.symm)).trans (hcs j x hx)
  · refine own_down (ownsRow_same hown fun k hk => ?_) bZ.size
    have h1 := (hown.lt k hk).1
    have h2 := (hown.lt k hk).2
    exact (Below.heap_alloc _ _ k (by rw [hsz]; exact h2)).trans (Below.heap_setCell _ _ _ _ (by simp; omega))

set_option maxRecDepth 100000 in
set_option maxHeartbeats 4000000 in
theorem mainPrintf (w0 : World) (hT : Tabs w0) (tag : ByteArray) (htag : tag.size ≤ 140737488351232) (fmt : List UInt8) (hdd : fmt ≠ [45, 45]) (hfl : fmt.length ≤ 900000) (A : List (List UInt8)) (ps : List Pl.Piece) (hF : Pl.Fmt fmt ps) (hps : 0 < ps.length) (num : List UInt8 → Nat × Bool) (Q : List UInt8 → Bool) (hD : Does51 w0 num Q ps)
    (S' : Pl.St) (hE : Pl.Ends num Q ps ⟨A, [], [], false⟩ S') (hne : S'.bs ≠ []) (hbs : S'.bs.length ≤ 140737488350000) (hes : (errs tag S'.says).length ≤ 140737488355000) (hsl : S'.says.length < 4611686018427387904) (hAn : A.length < 2000000) (hal : ∀ a ∈ A, a.length ≤ 140737488350000) :
    SaysFrom w0 51 (tag :: strB fmt :: A.map strB) S'.bs (errs tag S'.says) (stOf S'.says) := by
  intro W X F hlow hfoot hX ha h0 hs
  have hargs := procArgs2 W X F hX tag (strB fmt :: A.map strB) ha (A.length + 1) (by simp) (by omega)
  have hfm := fun W hT => format_any fmt ps hF hfl W hT
  have hddb : ((strB fmt).toList == [45, 45]) = false := by rw [strB_toList]; exact beq_eq_false_iff_ne.2 hdd
  have hwl : W.heap.size ≤ W.heap.size := Nat.le_refl _
  have hlw := hlow.size
  have HLOW := Lib.hid hlow
  have HFOOT := Lib.hid hfoot
  have HX := Lib.hid hX
  have HA := Lib.hid ha
  have H0 := Lib.hid h0
  have HS := Lib.hid hs
  have HD := Lib.hid hD
  have HE := Lib.hid hE
  have HT := Lib.hid hT
  have HAL := Lib.hid hal
  have HES := Lib.hid hes
  obtain ⟨n, hn⟩ : ∃ n, A.length = n := ⟨_, rfl⟩
  have HN := Lib.hid hn
  obtain ⟨np, hnp⟩ : ∃ np, ps.length = np := ⟨_, rfl⟩
  rw [hn] at hargs hAn
  rw [hnp] at hfm hps
  have HNP := Lib.hid hnp
  clear hlow hfoot hX ha h0 hs hD hE hT hal hes hn hdd hF hnp
  go_enter Tryz.func51, Tryz.ntmps51
  go_wp2_with (first
    | (go_at_call 44; refine hargs.mono ?_; rintro e w1 ⟨g, cap, cur, rfl, hcap, hg, hb1, hrow, hcs⟩
       obtain ⟨o1, ho1, hcut1'⟩ := run_cutArgs g 0 (n + 1 + 1) cap (by omega)
       obtain rfl : o1 = 1 := ho1 (by omega)
       have hcut1 : ∀ W, (Instr.slice 26 (.slice (some ⟨g, 0, none⟩) (n + 1 + 1) cap) (some (.int .i64 1)) none none).run Tryz.prog W = .ok (.slice (some ⟨g, 1, none⟩) (n + 1) (cap - 1)) W := hcut1'
       obtain ⟨o2, ho2, hcut2'⟩ := run_cutArgs g 1 (n + 1) (cap - 1) (by omega)
       have hcut2 : ∀ W, (Instr.slice 26 (.slice (some ⟨g, 1, none⟩) (n + 1) (cap - 1)) (some (.int .i64 1)) none none).run Tryz.prog W = .ok (.slice (some ⟨g, o2, none⟩) n (cap - 1 - 1)) W := hcut2'
       have k1 : w1.cell? ⟨g, 1, none⟩ = some (.string (strB fmt)) := hcs 0 _ rfl
       have kr := hrow.alloc (.cells #[.slice (some ⟨g, 1, none⟩) (n + 1) (cap - 1)] 26)
       have k2 : (w1.alloc (.cells #[.slice (some ⟨g, 1, none⟩) (n + 1) (cap - 1)] 26)).cell? ⟨g, 1, none⟩ = some (.string (strB fmt)) := (cell_same (a := ⟨g, 1, none⟩) (kr.trans hrow.symm)).trans k1
       have hbz : Below W.heap.size W (w1.alloc (.cells #[.slice (some ⟨g, 1, none⟩) (n + 1) (cap - 1)] 26)) := below_box hb1 (Nat.le_refl _) _
       clear hcut1' hcut2')
    | (go_at_call 79; have hq := hfm _ (HT.out.below (HLOW.out.trans (hbz.mono hlw))); refine hq.mono ?_; rintro e w2 ⟨v, rfl, hown, hb2⟩; obtain ⟨gP, cP, rfl, hgP, hcP, hnM⟩ := own_form9 hown hps
       have kb : Blk w2 w1.heap.size 26 #[.slice (some ⟨g, 1, none⟩) (n + 1) (cap - 1)] := (Blk.new w1 26 #[.slice (some ⟨g, 1, none⟩) (n + 1) (cap - 1)]).on hb2
       have x0 : w2.cell? ⟨w1.heap.size, 0, none⟩ = some (.slice (some ⟨g, 1, none⟩) (n + 1) (cap - 1)) := kb.cell 0
       have xf : w2.frozen? ⟨w1.heap.size, 0, none⟩ = false := kb.frozen 0))
  have HIN : Hid (In51 (E51.mk w0 W X F tag w1.heap.size g w2.heap.size (.slice (some ⟨gP, 0, none⟩) np cP) ps) A [] [] ((w2.setCell ⟨w1.heap.size, 0, none⟩ (.slice (some ⟨g, o2, none⟩) n (cap - 1 - 1))).alloc (.cells #[.pointer none, .slice none 0 0] 167))) := Lib.hid (by
    have hst := In51.start (tag := tag) (A := A) (o2 := o2) (cap := cap - 1 - 1) (ps := ps) HLOW.out HX.out HFOOT.out H0.out HS.out hb1 hrow hg rfl hb2 (by rw [HNP.out]; exact hown) (by rw [HN.out]; omega) (fun j x hx => by
      have hj : j < A.length := (List.getElem?_eq_some_iff.1 hx).1
      have hjn := HN.out
      have h2 : o2 = 1 + 1 := ho2 (by omega)
      have := hcs (j + 1) (strB x) (by rw [List.getElem?_cons_succ, List.getElem?_map, hx]; rfl)
      rw [h2, show 1 + 1 + j = j + 1 + 1 by omega]
      exact this)
    rw [HN.out] at hst
    exact hst)
  obtain ⟨Zw, hZw⟩ : ∃ Z, (w2.setCell ⟨w1.heap.size, 0, none⟩ (.slice (some ⟨g, o2, none⟩) n (cap - 1 - 1))).alloc (.cells #[.pointer none, .slice none 0 0] 167) = Z := ⟨_, rfl⟩
  rw [hZw] at HIN ⊢
  clear hZw x0 xf kb hown hcs hcut1 hcut2 hrow hb2 hb1 k1 k2 kr hbz
  obtain ⟨b3, hb3⟩ : ∃ b, w1.heap.size = b := ⟨_, rfl⟩
  obtain ⟨b8, hb8⟩ : ∃ b, w2.heap.size = b := ⟨_, rfl⟩
  simp only [hb3, hb8] at HIN ⊢
  go_loopw [6, 9, 10] (fun st sp ag wr => ∃ (S : Pl.St) (b : Bool), Hid (In51 (E51.mk w0 W X F tag b3 g b8 (.slice (some ⟨gP, 0, none⟩) np cP) ps) S.A S.bs S.says wr) ∧ st = .int .i64 (stOf S.says) ∧ sp = .bool false ∧ ag = .bool b ∧ Hid (b = true → Pl.Ends num Q ps S S') ∧ Hid (b = false → S = S') ∧ Hid (∀ a ∈ S.A, a ∈ A)) (fun _ _ ag wr => mBox wr b3 + mBool ag)
  case atStart => exact ⟨⟨A, [], [], false⟩, true, HIN, rfl, rfl, rfl, Lib.hid fun _ => HE.out, Lib.hid (fun e => by cases e), Lib.hid fun a ha => ha⟩
  case round =>
    obtain ⟨S, b, HI, rfl, rfl, rfl, HEn, HEq, HSA⟩ := hrel
    obtain ⟨z, hz⟩ : ∃ z, stOf S.says = z := ⟨_, rfl⟩
    have hz0 : 0 ≤ z := by rw [← hz]; unfold stOf; split <;> omega
    rw [hz]
    have HZ := Lib.hid hz
    clear hz
    cases b with
    | false =>
      have hS : S = S' := HEq.out rfl
      have hsaid := HI.out.said (by rw [hS]; exact hne)
      have hmx : max z 0 = z := by omega
      have hbl : S.bs.length ≤ 140737488355000 := by rw [hS]; omega
      have hsl' : S.says.length < 4611686018427387904 := by rw [hS]; exact hsl
      have HS' := Lib.hid hS
      clear hS
      go_wp2_with (first
        | (go_at_call 87; refine hsaid.mono ?_; rintro e w5 ⟨rfl, F5, hJ5, hG5, ht1, ht2, hst5⟩)
        | (go_at_call 74; refine (jobTell _ X F5 hJ5 (by omega) (strB S.bs) (by rw [ht1, strB_data]; simpa using hbl)).mono ?_; rintro e w6 ⟨rfl, F6, hJ6, hG6, hW6⟩))
      go_returns
      refine ⟨by rw [← HS'.out, HZ.out]; rfl, F6, hJ6, hG5.trans hG6, ?_, ?_⟩
      · rw [hW6.said, if_pos rfl, ht1, strB_data, ← HS'.out]; rfl
      · rw [hW6.said, if_neg (by decide), ht2, ← HS'.out]
    | true =>
      obtain ⟨hgood, T1, hT1, hT1le, hcut, hmore, hlast⟩ := (HEn.out rfl).first
      obtain ⟨Ws, HWs⟩ : ∃ Ws, Ws = wr := ⟨_, rfl⟩
      have HBX : Hid (mBox wr b3 = S.A.length) := Lib.hid HI.out.box
      have HGD := Lib.hid hgood
      have HT1 := Lib.hid hT1
      have HLE := Lib.hid hT1le
      have HCUT := Lib.hid hcut
      have HMORE := Lib.hid hmore
      have HLAST := Lib.hid hlast
      clear hgood hT1 hT1le hcut hmore hlast
      go_wp2_with fail
      go_loopw [6, 9, 10, 56] (fun st sp ag ki wq => ∃ (T : Pl.St) (k : Nat), k ≤ np ∧ ki = .int .i64 (k : Int) ∧ Hid (In51 (E51.mk w0 W X F tag b3 g b8 (.slice (some ⟨gP, 0, none⟩) np cP) ps) T.A T.bs T.says wq) ∧ st = .int .i64 (stOf T.says) ∧ sp = .bool false ∧ ag = .bool T.again ∧ Hid ((ps.drop k).foldl (Pl.step num) T = T1) ∧ Hid (Pl.good num Q (ps.drop k) T = true) ∧ Hid (∀ a ∈ T.A, a ∈ A)) (fun _ _ _ ki _ => np - mInt ki)
      case atStart => exact ⟨{ S with again := false }, 0, Nat.zero_le _, rfl, HI, by rw [HZ.out], rfl, rfl, HT1, HGD, HSA⟩
      case round =>
        obtain ⟨T, k, hk, rfl, HT, rfl, rfl, rfl, HF, HG, HTA⟩ := hrel
        by_cases hlt : k < np
        · have hkm : k + 1 ≤ 9223372036854775807 := by
            have h := hnM
            unfold maxLen at h
            omega
          have HWK : Hid (wrap64 ((k : Int) + 1) = ((k + 1 : Nat) : Int)) := Lib.hid (Eq.trans (w64 _ ⟨by omega, by omega⟩) (by omega))
          obtain ⟨p, hp⟩ : ∃ p, ps[k]? = some p := ⟨_, List.getElem?_eq_getElem (by rw [HNP.out]; exact hlt)⟩
          have hdrop : ps.drop k = p :: ps.drop (k + 1) := by
            have h1 := List.drop_eq_getElem_cons (l := ps) (i := k) (by rw [HNP.out]; exact hlt)
            rw [h1, (List.getElem?_eq_some_iff.1 hp).2]
          have hpm : p ∈ ps := List.mem_of_getElem? hp
          obtain ⟨T2, hT2⟩ : ∃ T2, Pl.step num T p = T2 := ⟨_, rfl⟩
          have HF2 : Hid ((ps.drop (k + 1)).foldl (Pl.step num) T2 = T1) := Lib.hid (by have h := HF.out; rw [hdrop] at h; rw [← hT2]; exact h)
          have hg2 : (p.letter == 0 || p.letter == 115 || Q T.arg) = true ∧ Pl.good num Q (ps.drop (k + 1)) T2 = true := by
            have h := HG.out
            rw [hdrop] at h
            unfold Pl.good at h
            rw [hT2] at h
            exact Bool.and_eq_true_iff.1 h
          have HG2 : Hid (Pl.good num Q (ps.drop (k + 1)) T2 = true) := Lib.hid hg2.2
          have hle : T2.Le S' := Pl.St.Le.trans (by rw [← HF2.out]; exact Pl.foldl_LE num _ T2) HLE.out
          have hleT : T.Le T2 := by rw [← hT2]; exact Pl.step_le num T p
          have hwd := HD.out.wide p hpm
          have hrow : wr.ownsRow W.heap.size 169 9 (.slice (some ⟨gP, 0, none⟩) np cP) np (piecesC ps) := by
            have h := HT.out.pieces
            rw [show (E51.mk w0 W X F tag b3 g b8 (.slice (some ⟨gP, 0, none⟩) np cP) ps).ps.length = np from HNP.out] at h
            exact h
          have hrange := piece_range hrow hp
          have harg : T.arg.length ≤ 140737488350000 := by
            unfold Pl.St.arg
            cases hA : T.A with
            | nil => simp
            | cons a A2 => exact HAL.out a (HTA.out a (by rw [hA]; simp))
          have HTA2 : Hid (∀ a ∈ T2.A, a ∈ A) := Lib.hid fun a ha => HTA.out a (hleT.args a ha)
          have b0 : (0 : Int) ≤ (k : Int) := by omega
          have b1 : (k : Int) < (np : Int) := by omega
          obtain ⟨pb, c, mn, ze, sh, wd⟩ := p
          by_cases h0 : c = 0
          · subst h0
            have hT2' : T2 = { T with bs := T.bs ++ pb } := by rw [← hT2]; simp [Pl.step]
            subst hT2'
            have hbl : T.bs.length + pb.length ≤ 140737488355328 := by
              have := hle.bs.length_le
              simp only [List.length_append] at this
              omega
            clear hT2 hg2 hle hleT hdrop hrow harg
            go_wp2_with (first
              | (refine wpList_load_mid rfl _ _ rfl gP (k * 9) rfl (pieceC ⟨pb, 0, mn, ze, sh, wd⟩).toList _ hrange Tryz.underlying169 rfl (by kernel_rfl) ?_)
              | (refine wpList_store_blk rfl 169 (.tmp 12) (.tmp 59) rfl wr.heap.size 169 zeroPiece (pieceC ⟨pb, 0, mn, ze, sh, wd⟩) rfl rfl (Blk.new wr _ _) rfl (by kernel_rfl) (by kernel_rfl) ?_
                 intro wb hkb hgb
                 have hbb : Below wr.heap.size wr wb := (below_one wr _).grown hgb (by simp) (fun k hk => by cases hk; exact Nat.le_refl _)
                 have HIb := Lib.hid (HT.out.below hbb)
                 obtain ⟨z0, z1, z2, z3, z4, z5, z6, z7, z8⟩ := blk9 hkb
                 have HKB := Lib.hid hkb
                 clear hkb hgb hbb)
              | (go_at_call 81; refine (HIb.out.write pb hbl).mono ?_; rintro e w4 ⟨rfl, HI4, _⟩))
            exact ⟨⟨{ T with bs := T.bs ++ pb }, k + 1, by omega, by first | rw [HWK.out] | rfl, Lib.hid HI4, rfl, rfl, rfl, HF2, HG2, HTA2⟩, by simp only [mInt]; first | (rw [HWK.out]; omega) | omega⟩
          have hc0 : ((c.toNat : Int) == 0) = false := beq_eq_false_iff_ne.2 (fun e => h0 (UInt8.toNat_inj.1 (by show _ = 0; omega)))
          obtain ⟨a, ha⟩ : ∃ a, T.arg = a := ⟨_, rfl⟩
          have ha' : T.A.headD [] = a := ha
          rw [ha] at harg hg2
          have HAE := Lib.hid ha'
          by_cases h115 : c = 115
          · subst h115
            obtain ⟨L, hL⟩ : ∃ L, (Pl.Piece.mk pb 115 mn ze sh wd).wideL a = L := ⟨_, rfl⟩
            have hT2' : T2 = ⟨T.A.tail, T.bs ++ L, T.says, true⟩ := by rw [← hT2, ← hL, ← ha]; simp [Pl.step]
            subst hT2'
            have hwide := fun W => wideAgg pb a 115 mn ze sh wd W hwd harg
            rw [hL] at hwide
            have hbl : T.bs.length + L.length ≤ 140737488355328 := by
              have := hle.bs.length_le
              simp only [List.length_append] at this
              omega
            clear hT2 hg2 hle hleT hdrop hrow harg ha ha' hL
            go_wp2_with (first
              | (refine wpList_load_mid rfl _ _ rfl gP (k * 9) rfl (pieceC ⟨pb, 115, mn, ze, sh, wd⟩).toList _ hrange Tryz.underlying169 rfl (by kernel_rfl) ?_)
              | (refine wpList_store_blk rfl 169 (.tmp 12) (.tmp 59) rfl wr.heap.size 169 zeroPiece (pieceC ⟨pb, 115, mn, ze, sh, wd⟩) rfl rfl (Blk.new wr _ _) rfl (by kernel_rfl) (by kernel_rfl) ?_
                 intro wb hkb hgb
                 have hbb : Below wr.heap.size wr wb := (below_one wr _).grown hgb (by simp) (fun k hk => by cases hk; exact Nat.le_refl _)
                 have HIb := Lib.hid (HT.out.below hbb)
                 obtain ⟨z0, z1, z2, z3, z4, z5, z6, z7, z8⟩ := blk9 hkb
                 have HKB := Lib.hid hkb
                 clear hkb hgb hbb)
              | (go_at_call 80; refine HIb.out.next.mono ?_; rintro e w4 ⟨rfl, HI4, hkeep⟩
                 rw [HAE.out]
                 have hk4 := hkeep _ _ HKB.out
                 obtain ⟨y0, y1, y2, y3, y4, y5, y6, y7, y8⟩ := blk9 hk4)
              | (go_at_call 82; refine (hwide _).mono ?_; rintro e w5 ⟨rfl, hb5⟩; have HI5 := HI4.below hb5)
              | (go_at_call 81; refine (HI5.write L hbl).mono ?_; rintro e w6 ⟨rfl, HI6, _⟩))
            exact ⟨⟨⟨T.A.tail, T.bs ++ L, T.says, true⟩, k + 1, by omega, by first | rw [HWK.out] | rfl, Lib.hid HI6, rfl, rfl, rfl, HF2, HG2, HTA2⟩, by simp only [mInt]; first | (rw [HWK.out]; omega) | omega⟩
          have hc115 : ((c.toNat : Int) == 115) = false := beq_eq_false_iff_ne.2 (fun e => h115 (UInt8.toNat_inj.1 (by show _ = 115; omega)))
          have hQ : Q a = true := by
            have h := hg2.1
            simp only [Bool.or_eq_true, beq_iff_eq] at h
            rcases h with (h | h) | h
            · exact absurd h h0
            · exact absurd h h115
            · exact h
          obtain ⟨hpb, hlet⟩ := HD.out.b _ hpm h0
          have hlet' : c = 100 ∨ c = 105 ∨ c = 111 ∨ c = 120 := by
            unfold Pl.isLet at hlet
            simp only [Bool.or_eq_true, beq_iff_eq] at hlet
            rcases hlet with (((h | h) | h) | h) | h
            · exact .inl h
            · exact .inr (.inl h)
            · exact .inr (.inr (.inl h))
            · exact .inr (.inr (.inr h))
            · exact absurd h h115
          have hc99 : ((c.toNat : Int) == 99) = false := by rcases hlet' with rfl | rfl | rfl | rfl <;> rfl
          have hc98 : ((c.toNat : Int) == 98) = false := by rcases hlet' with rfl | rfl | rfl | rfl <;> rfl
          have hval := HD.out.value a hQ
          have htold := HD.out.told _ hpm h0 h115 a hQ
          obtain ⟨L, hL⟩ : ∃ L, (Pl.Piece.mk pb c mn ze sh wd).toldL (num a).1 = L := ⟨_, rfl⟩
          rw [hL] at htold
          have hT2' : T2 = ⟨T.A.tail, T.bs ++ L, T.says ++ (if (num a).2 then [] else [a]), true⟩ := by rw [← hT2, ← hL, ← ha]; simp [Pl.step, h0, h115]
          subst hT2'
          have hbl : T.bs.length + L.length ≤ 140737488355328 := by
            have := hle.bs.length_le
            simp only [List.length_append] at this
            omega
          have hpc : pieceC ⟨pb, c, mn, ze, sh, wd⟩ = #[.string (strB pb), .int .u8 c.toNat, .bool mn, .bool false, .bool false, .bool ze, .bool sh, .int .i64 (wd : Int), .int .i64 (-1)] := by
            unfold pieceC
            simp only [if_neg h0]
          rw [hpc] at htold
          cases hok : (num a).2 with
          | true =>
            rw [hok] at hval
            obtain ⟨m, hm⟩ : ∃ m, (num a).1 = m := ⟨_, rfl⟩
            rw [hm] at hval htold
            have HF3 : Hid ((ps.drop (k + 1)).foldl (Pl.step num) ⟨T.A.tail, T.bs ++ L, T.says, true⟩ = T1) := Lib.hid (by have h := HF2.out; simpa [hok] using h)
            have HG3 : Hid (Pl.good num Q (ps.drop (k + 1)) ⟨T.A.tail, T.bs ++ L, T.says, true⟩ = true) := Lib.hid (by have h := HG2.out; simpa [hok] using h)
            have HPC := Lib.hid hpc
            clear hpc hT2 hg2 hle hleT hdrop hrow harg ha ha' hL hQ hpb hlet hlet' hok hm hp hpm HF2 HG2
            go_wp2_with (first
              | (refine wpList_load_mid rfl _ _ rfl gP (k * 9) rfl (pieceC ⟨pb, c, mn, ze, sh, wd⟩).toList _ hrange Tryz.underlying169 rfl (by kernel_rfl) ?_)
              | (refine wpList_store_blk rfl 169 (.tmp 12) (.tmp 59) rfl wr.heap.size 169 zeroPiece (pieceC ⟨pb, c, mn, ze, sh, wd⟩) rfl rfl (Blk.new wr _ _) rfl (by kernel_rfl) (by kernel_rfl) ?_
                 intro wb hkb hgb
                 have hbb : Below wr.heap.size wr wb := (below_one wr _).grown hgb (by simp) (fun k hk => by cases hk; exact Nat.le_refl _)
                 have HIb := Lib.hid (HT.out.below hbb)
                 rw [HPC.out] at hkb
                 obtain ⟨z0, z1, z2, z3, z4, z5, z6, z7, z8⟩ := blk9 hkb
                 have HKB := Lib.hid hkb
                 clear hkb hgb hbb)
              | (go_at_call 80; refine HIb.out.next.mono ?_; rintro e w4 ⟨rfl, HI4, hkeep⟩
                 rw [HAE.out]
                 have hk4 := hkeep _ _ HKB.out
                 obtain ⟨y0, y1, y2, y3, y4, y5, y6, y7, y8⟩ := blk9 hk4)
              | (go_at_call 84; refine (hval _ HI4.low).mono ?_; rintro e w5 ⟨rfl, hb5⟩; have HI5 := HI4.below hb5
                 have hk5 := hk4.on hb5
                 obtain ⟨x0, x1, x2, x3, x4, x5, x6, x7, x8⟩ := blk9 hk5)
              | (go_at_call 86; refine (htold _ HI5.low).mono ?_; rintro e w6 ⟨rfl, hb6⟩; have HI6 := HI5.below hb6)
              | (go_at_call 81; refine (HI6.write L hbl).mono ?_; rintro e w7 ⟨rfl, HI7, _⟩))
            exact ⟨⟨⟨T.A.tail, T.bs ++ L, T.says, true⟩, k + 1, by omega, by first | rw [HWK.out] | rfl, Lib.hid HI7, rfl, rfl, rfl, HF3, HG3, HTA2⟩, by simp only [mInt]; first | (rw [HWK.out]; omega) | omega⟩
          | false =>
            rw [hok] at hval
            rw [HD.out.zero a hok] at hval htold
            have HF3 : Hid ((ps.drop (k + 1)).foldl (Pl.step num) ⟨T.A.tail, T.bs ++ L, T.says ++ [a], true⟩ = T1) := Lib.hid (by have h := HF2.out; simpa [hok] using h)
            have HG3 : Hid (Pl.good num Q (ps.drop (k + 1)) ⟨T.A.tail, T.bs ++ L, T.says ++ [a], true⟩ = true) := Lib.hid (by have h := HG2.out; simpa [hok] using h)
            have hsle : (T.says ++ [a]) <+: S'.says := by have h := hle.says; simpa [hok] using h
            have hs1 : T.says.length < 4611686018427387904 := by have h := hsle.length_le; simp only [List.length_append, List.length_singleton] at h; omega
            have hs2 : (errs tag (T.says ++ [a])).length ≤ 140737488355000 := Nat.le_trans (errs_le tag hsle) HES.out
            have hsn : stOf (T.says ++ [a]) = 1 := by unfold stOf; simp
            have hna : X.B.args.length ≤ 2097152 := by rw [HA.out]; simp [HN.out]; omega
            have hsay := fun W' (h : In51 (E51.mk w0 W X F tag b3 g b8 (.slice (some ⟨gP, 0, none⟩) np cP) ps) T.A.tail T.bs T.says W') => h.say _ HA.out hna htag a (by omega) hs1 hs2
            have HSN := Lib.hid hsn
            have HPC := Lib.hid hpc
            clear hpc hT2 hg2 hle hleT hdrop hrow harg ha ha' hL hQ hpb hlet hlet' hok hp hpm HF2 HG2 hsle hs1 hs2 hsn hna
            go_wp2_with (first
              | (refine wpList_load_mid rfl _ _ rfl gP (k * 9) rfl (pieceC ⟨pb, c, mn, ze, sh, wd⟩).toList _ hrange Tryz.underlying169 rfl (by kernel_rfl) ?_)
              | (refine wpList_store_blk rfl 169 (.tmp 12) (.tmp 59) rfl wr.heap.size 169 zeroPiece (pieceC ⟨pb, c, mn, ze, sh, wd⟩) rfl rfl (Blk.new wr _ _) rfl (by kernel_rfl) (by kernel_rfl) ?_
                 intro wb hkb hgb
                 have hbb : Below wr.heap.size wr wb := (below_one wr _).grown hgb (by simp) (fun k hk => by cases hk; exact Nat.le_refl _)
                 have HIb := Lib.hid (HT.out.below hbb)
                 rw [HPC.out] at hkb
                 obtain ⟨z0, z1, z2, z3, z4, z5, z6, z7, z8⟩ := blk9 hkb
                 have HKB := Lib.hid hkb
                 clear hkb hgb hbb)
              | (go_at_call 80; refine HIb.out.next.mono ?_; rintro e w4 ⟨rfl, HI4, hkeep⟩
                 rw [HAE.out]
                 have hk4 := hkeep _ _ HKB.out
                 obtain ⟨y0, y1, y2, y3, y4, y5, y6, y7, y8⟩ := blk9 hk4)
              | (go_at_call 84; refine (hval _ HI4.low).mono ?_; rintro e w5 ⟨rfl, hb5⟩; have HI5 := HI4.below hb5
                 have hk5 := hk4.on hb5)
              | (go_at_call 85; refine (hsay _ HI5).mono ?_; rintro e w6 ⟨rfl, HI6, hkeep6⟩
                 have hk6 := hkeep6 _ _ hk5
                 obtain ⟨x0, x1, x2, x3, x4, x5, x6, x7, x8⟩ := blk9 hk6)
              | (go_at_call 86; refine (htold _ HI6.low).mono ?_; rintro e w7 ⟨rfl, hb7⟩; have HI7 := HI6.below hb7)
              | (go_at_call 81; refine (HI7.write L hbl).mono ?_; rintro e w8 ⟨rfl, HI8, _⟩))
            exact ⟨⟨⟨T.A.tail, T.bs ++ L, T.says ++ [a], true⟩, k + 1, by omega, by first | rw [HWK.out] | rfl, Lib.hid HI8, by rw [HSN.out], rfl, rfl, HF3, HG3, HTA2⟩, by simp only [mInt]; first | (rw [HWK.out]; omega) | omega⟩
        · have hTT : T = T1 := by
            have h := HF.out
            rw [List.drop_eq_nil_of_le (by rw [HNP.out]; omega)] at h
            exact h
          subst hTT
          obtain rfl : k = np := by omega
          obtain ⟨o, cc, hat⟩ := HT.out.args
          have hbx : wr.cell? ⟨b3, 0, none⟩ = some (.slice (some ⟨g, o, none⟩) T.A.length cc) := hat.blk.cell 0
          have HMB : Hid (mBox wr b3 = T.A.length) := Lib.hid HT.out.box
          clear hat hlt
          obtain ⟨m, hm⟩ : ∃ m, T.A.length = m := ⟨_, rfl⟩
          rw [hm] at hbx
          have HM := Lib.hid hm
          have hcut := HCUT.out
          rw [hm] at hcut
          clear hm
          cases hag : T.again with
          | false =>
            go_wp2_with fail
            exact ⟨⟨T, false, HT, rfl, rfl, rfl, Lib.hid (fun e => by cases e), Lib.hid (fun _ => HLAST.out (by rw [hag]; rfl)), HTA⟩, by rw [HMB.out, HBX.out, HM.out]; simp only [mBool]; omega⟩
          | true =>
            by_cases hm0 : m = 0
            · subst hm0
              have hA0 : T.A = [] := List.eq_nil_of_length_eq_zero HM.out
              go_wp2_with fail
              exact ⟨⟨T, false, HT, rfl, rfl, rfl, Lib.hid (fun e => by cases e), Lib.hid (fun _ => HLAST.out (by rw [hag, hA0]; rfl)), HTA⟩, by rw [HMB.out, HBX.out, HM.out]; simp only [mBool]; omega⟩
            · have hm1 : (0 : Int) < (m : Int) := by omega
              have hm2 : 0 < m := by omega
              have hdm : decide (0 < m) = true := decide_eq_true hm2
              have hA1 : (T.again && !T.A.isEmpty) = true := by
                have : T.A ≠ [] := fun e => hm0 (by rw [← HM.out, e]; rfl)
                rw [hag]
                simp [this]
              have hme := HMORE.out hA1
              have HME := Lib.hid hme
              clear hme hA1
              go_wp2_with fail
              refine ⟨⟨T, true, HT, rfl, rfl, by first | rfl | rw [hdm], Lib.hid (fun _ => HME.out.1), Lib.hid (fun e => by cases e), HTA⟩, ?_⟩
              rw [HMB.out, HBX.out]
              first
                | rw [hdm]
                | skip
              simp only [mBool]
              have := HME.out.2
              omega

end Go.Proofs.YtobapajmplfeiaaGreatDoor
end
