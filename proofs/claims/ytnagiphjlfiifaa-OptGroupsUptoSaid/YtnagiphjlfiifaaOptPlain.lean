/-
  The plain mathematics of layer 6 (opt): what kind, parse, has and last compute, as plain functions on lists. Nothing of the program stands here.
-/
namespace Go.Proofs.Ytnagiphjlfiifaa.Pl

/-- an option: its letter, its argument -/
abbrev Opt := UInt8 × ByteArray

/-- kind of a letter in a spec: from a place on -/
def kindFrom (spec : List UInt8) (c : UInt8) : Int :=
  match spec with
  | [] => 0
  | x :: rest => if x = c then (match rest with | y :: _ => if y = 58 then 2 else 1 | [] => 1) else kindFrom rest c

def kind (spec : List UInt8) (c : UInt8) : Int := if c = 58 ∨ c = 45 then 0 else kindFrom spec c

theorem u8_beq (a b : UInt8) : ((a.toNat : Int) == (b.toNat : Int)) = (a == b) := by
  by_cases h : a = b
  · subst h; simp
  · have : a.toNat ≠ b.toNat := fun e => h (UInt8.toNat_inj.1 e)
    rw [beq_eq_false_iff_ne.2 h, beq_eq_false_iff_ne.2 (by omega)]

theorem drop_at (s : ByteArray) (k : Nat) (h : k < s.size) : s.data.toList.drop k = s[k] :: s.data.toList.drop (k + 1) := by
  rw [List.drop_eq_getElem_cons (by simpa using h)]; rfl

theorem kindFrom_miss (s : ByteArray) (c : UInt8) (k : Nat) (h : k < s.size) (hx : s[k] ≠ c) : kindFrom (s.data.toList.drop k) c = kindFrom (s.data.toList.drop (k + 1)) c := by
  rw [drop_at s k h]; simp [kindFrom, hx]

theorem kindFrom_two (s : ByteArray) (c : UInt8) (k : Nat) (h : k < s.size) (hx : s[k] = c) (h1 : k + 1 < s.size) (h2 : s[k + 1] = 58) : kindFrom (s.data.toList.drop k) c = 2 := by
  rw [drop_at s k h, drop_at s (k + 1) h1]; simp [kindFrom, hx, h2]

theorem kindFrom_one (s : ByteArray) (c : UInt8) (k : Nat) (h : k < s.size) (hx : s[k] = c) (h1 : k + 1 < s.size) (h2 : s[k + 1] ≠ 58) : kindFrom (s.data.toList.drop k) c = 1 := by
  rw [drop_at s k h, drop_at s (k + 1) h1]; simp [kindFrom, hx, h2]

theorem kindFrom_last (s : ByteArray) (c : UInt8) (k : Nat) (h : k < s.size) (hx : s[k] = c) (h1 : ¬ k + 1 < s.size) : kindFrom (s.data.toList.drop k) c = 1 := by
  rw [drop_at s k h, List.drop_eq_nil_of_le (by simp; omega)]; simp [kindFrom, hx]

theorem kindFrom_end (s : ByteArray) (c : UInt8) (k : Nat) (h : ¬ k < s.size) : kindFrom (s.data.toList.drop k) c = 0 := by
  rw [List.drop_eq_nil_of_le (by simp; omega)]; simp [kindFrom]

theorem kindFrom_range (s : List UInt8) (c : UInt8) : kindFrom s c = 0 ∨ kindFrom s c = 1 ∨ kindFrom s c = 2 := by
  induction s with
  | nil => simp [kindFrom]
  | cons x r ih =>
    unfold kindFrom
    split
    · split
      · split <;> simp
      · simp
    · exact ih

theorem kind_range (s : List UInt8) (c : UInt8) : kind s c = 0 ∨ kind s c = 1 ∨ kind s c = 2 := by
  unfold kind
  split
  · simp
  · exact kindFrom_range s c

/-- the letters of one argument, from a place on; the place of the next argument -/
def inner (kd : UInt8 → Int) (args : List ByteArray) : List UInt8 → Nat → Option (List Opt × Nat)
  | [], i => some ([], i)
  | c :: bs, i =>
    if kd c = 0 then none
    else if kd c = 1 then (inner kd args bs i).map (fun p => ((c, ⟨#[]⟩) :: p.1, p.2))
    else if bs ≠ [] then some ([(c, ⟨bs.toArray⟩)], i)
    else match args[i]? with
      | none => none
      | some x => some ([(c, x)], i + 1)

theorem inner_le (kd : UInt8 → Int) (args : List ByteArray) : ∀ (bs : List UInt8) (i : Nat) (l : List Opt) (j : Nat), inner kd args bs i = some (l, j) → i ≤ j := by
  intro bs
  induction bs with
  | nil => intro i l j h; simp [inner] at h; omega
  | cons c bs ih =>
    intro i l j h
    unfold inner at h
    split at h
    · cases h
    split at h
    · cases hi : inner kd args bs i with
      | none => rw [hi] at h; simp at h
      | some p =>
        obtain ⟨l', j'⟩ := p
        rw [hi] at h; simp at h
        have := ih i l' j' hi
        omega
    split at h
    · simp at h; omega
    split at h
    · cases h
    · simp at h; omega

/-- all arguments from a place on: the options; the place of the first operand -/
def outer (kd : UInt8 → Int) (args : List ByteArray) (i : Nat) : Option (List Opt × Nat) :=
  match args[i]? with
  | none => some ([], i)
  | some a =>
    if a.data.toList = [45, 45] then some ([], i + 1)
    else if a.size < 2 ∨ a.data.toList.head? ≠ some 45 then some ([], i)
    else match inner kd args (a.data.toList.drop 1) (i + 1) with
      | none => none
      | some (l, j) => if i < j ∧ i < args.length then (outer kd args j).map (fun q => (l ++ q.1, q.2)) else none
  termination_by args.length - i

/-- what is still to come, behind the options acc, in the letters bs of an argument -/
def rest (kd : UInt8 → Int) (args : List ByteArray) (acc : List Opt) (i : Nat) : Option (List Opt × Nat) := (outer kd args i).map fun q => (acc ++ q.1, q.2)
def within (kd : UInt8 → Int) (args : List ByteArray) (acc : List Opt) (bs : List UInt8) (i : Nat) : Option (List Opt × Nat) :=
  (inner kd args bs i).bind fun p => rest kd args (acc ++ p.1) p.2

theorem rest_nil (kd : UInt8 → Int) (args : List ByteArray) (i : Nat) : rest kd args [] i = outer kd args i := by
  unfold rest; cases outer kd args i <;> simp

theorem rest_end {kd : UInt8 → Int} {args : List ByteArray} {acc : List Opt} {i : Nat} (h : args[i]? = none) : rest kd args acc i = some (acc, i) := by
  unfold rest outer; simp [h]

theorem rest_stroke {kd : UInt8 → Int} {args : List ByteArray} {acc : List Opt} {i : Nat} {a : ByteArray} (h : args[i]? = some a) (h2 : a.data.toList = [45, 45]) : rest kd args acc i = some (acc, i + 1) := by
  unfold rest outer; simp [h, h2]

theorem rest_stop {kd : UInt8 → Int} {args : List ByteArray} {acc : List Opt} {i : Nat} {a : ByteArray} (h : args[i]? = some a) (h2 : a.data.toList ≠ [45, 45]) (h3 : a.size < 2 ∨ a.data.toList.head? ≠ some 45) : rest kd args acc i = some (acc, i) := by
  unfold rest outer; simp only [h, if_neg h2, if_pos h3]; simp

theorem rest_go {kd : UInt8 → Int} {args : List ByteArray} {acc : List Opt} {i : Nat} {a : ByteArray} (h : args[i]? = some a) (h2 : a.data.toList ≠ [45, 45]) (h3 : ¬ a.size < 2) (h4 : a.data.toList.head? = some 45) :
    rest kd args acc i = within kd args acc (a.data.toList.drop 1) (i + 1) := by
  unfold rest within
  rw [outer]
  simp only [h, if_neg h2]
  rw [if_neg (by simp only [h4, ne_eq, not_true_eq_false, or_false]; exact h3)]
  cases hi : inner kd args (a.data.toList.drop 1) (i + 1) with
  | none => simp
  | some p =>
    obtain ⟨l, j⟩ := p
    have hj := inner_le _ _ _ _ _ _ hi
    have hlt : i < args.length := by
      rcases Nat.lt_or_ge i args.length with h' | h'
      · exact h'
      · rw [List.getElem?_eq_none h'] at h; cases h
    simp only [Option.bind_some]
    rw [if_pos ⟨by omega, hlt⟩]
    unfold rest
    cases outer kd args j <;> simp

theorem within_nil {kd : UInt8 → Int} {args : List ByteArray} {acc : List Opt} {i : Nat} : within kd args acc [] i = rest kd args acc i := by simp [within, inner]

theorem within_none {kd : UInt8 → Int} {args : List ByteArray} {acc : List Opt} {c : UInt8} {bs : List UInt8} {i : Nat} (h : kd c = 0) : within kd args acc (c :: bs) i = none := by simp [within, inner, h]

theorem within_alone {kd : UInt8 → Int} {args : List ByteArray} {acc : List Opt} {c : UInt8} {bs : List UInt8} {i : Nat} (h : kd c = 1) : within kd args acc (c :: bs) i = within kd args (acc ++ [(c, ⟨#[]⟩)]) bs i := by
  simp only [within, inner, h]
  cases inner kd args bs i <;> simp

theorem within_here {kd : UInt8 → Int} {args : List ByteArray} {acc : List Opt} {c : UInt8} {bs : List UInt8} {i : Nat} (h : kd c = 2) (hb : bs ≠ []) : within kd args acc (c :: bs) i = rest kd args (acc ++ [(c, ⟨bs.toArray⟩)]) i := by
  simp [within, inner, h, hb]

theorem within_lacks {kd : UInt8 → Int} {args : List ByteArray} {acc : List Opt} {c : UInt8} {i : Nat} (h : kd c = 2) (ha : args[i]? = none) : within kd args acc [c] i = none := by
  simp [within, inner, h, ha]

theorem within_next {kd : UInt8 → Int} {args : List ByteArray} {acc : List Opt} {c : UInt8} {i : Nat} {x : ByteArray} (h : kd c = 2) (ha : args[i]? = some x) : within kd args acc [c] i = rest kd args (acc ++ [(c, x)]) (i + 1) := by
  simp [within, inner, h, ha]

/-- the bytes of all arguments from a place on -/
def total (args : List ByteArray) : Nat := (args.map (·.size)).sum
theorem total_drop {args : List ByteArray} {i : Nat} {a : ByteArray} (h : args[i]? = some a) : total (args.drop i) = a.size + total (args.drop (i + 1)) := by
  obtain ⟨hl, rfl⟩ := List.getElem?_eq_some_iff.1 h
  unfold total
  rw [List.drop_eq_getElem_cons hl, List.map_cons, List.sum_cons]
theorem total_drop_le (args : List ByteArray) (i : Nat) : total (args.drop (i + 1)) ≤ total (args.drop i) := by
  cases h : args[i]? with
  | none => rw [List.drop_eq_nil_of_le (by have := List.getElem?_eq_none_iff.1 h; omega)]; simp [total]
  | some a => rw [total_drop h]; omega

end Go.Proofs.Ytnagiphjlfiifaa.Pl
