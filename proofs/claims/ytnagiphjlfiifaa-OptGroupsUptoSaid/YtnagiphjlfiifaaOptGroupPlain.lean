/-
  The plain law of OptGroups: options apart, and in one group, are parted alike.
-/
import Derived.Test.YtnagiphjlfiifaaOptPlain
namespace Go.Proofs.Ytnagiphjlfiifaa.Pl

def alone (c : UInt8) : Prop := c = 97 ∨ c = 98 ∨ c = 99
def wanting (c : UInt8) : Prop := c = 110 ∨ c = 109
instance (c : UInt8) : Decidable (alone c) := by unfold alone; infer_instance
instance (c : UInt8) : Decidable (wanting c) := by unfold wanting; infer_instance

/-- the spec of the law -/
def sp2 : ByteArray := ⟨#[97, 98, 99, 110, 58, 109, 58]⟩
theorem kd_alone {c : UInt8} (h : alone c) : kind sp2.data.toList c = 1 := by
  rcases h with rfl | rfl | rfl <;> decide
theorem kd_wants {c : UInt8} (h : wanting c) : kind sp2.data.toList c = 2 := by
  rcases h with rfl | rfl <;> decide
theorem alone_not_wants {c : UInt8} (h : alone c) : ¬ wanting c := by
  rcases h with rfl | rfl | rfl <;> decide

def two (c : UInt8) : ByteArray := ⟨#[45, c]⟩
def strokes : ByteArray := ⟨#[45, 45]⟩

def apartOf : List UInt8 → List ByteArray → List ByteArray
  | [], _ => []
  | c :: cs, as => if alone c then two c :: apartOf cs as else if wanting c then (match as with | [] => apartOf cs [] | x :: as' => two c :: x :: apartOf cs as') else apartOf cs as
def wantOf : List UInt8 → List ByteArray → List Opt
  | [], _ => []
  | c :: cs, as => if alone c then (c, ⟨#[]⟩) :: wantOf cs as else if wanting c then (match as with | [] => wantOf cs [] | x :: as' => (c, x) :: wantOf cs as') else wantOf cs as
def groupOf : List UInt8 → List UInt8
  | [] => []
  | c :: cs => if alone c then c :: groupOf cs else groupOf cs
def usedOf : List UInt8 → List ByteArray → Nat
  | [], _ => 0
  | c :: cs, as => if alone c then usedOf cs as else if wanting c then (match as with | [] => usedOf cs [] | _ :: as' => usedOf cs as' + 1) else usedOf cs as

theorem two_go {kd : UInt8 → Int} {args : List ByteArray} {acc : List Opt} {i : Nat} {c : UInt8} (h : args[i]? = some (two c)) (hc : c ≠ 45) : rest kd args acc i = within kd args acc [c] (i + 1) := by
  rw [rest_go h (by simp [two, hc]) (by simp [two, ByteArray.size]) (by simp [two])]
  simp [two]

/-- one behind the other -/
theorem rest_apart (ops : List ByteArray) : ∀ (cs : List UInt8) (as pre : List ByteArray) (acc : List Opt) (all : List ByteArray), all = pre ++ (apartOf cs as ++ strokes :: ops) →
    rest (kind sp2.data.toList) all acc pre.length = some (acc ++ wantOf cs as, pre.length + (apartOf cs as).length + 1) := by
  intro cs
  induction cs with
  | nil =>
    intro as pre acc all hall
    rw [rest_stroke (a := strokes) (by rw [hall]; simp [apartOf]) (by rfl)]
    simp [apartOf, wantOf]
  | cons c cs ih =>
    intro as pre acc all hall
    by_cases h1 : alone c
    · have e1 : apartOf (c :: cs) as = two c :: apartOf cs as := by simp [apartOf, h1]
      have e2 : wantOf (c :: cs) as = (c, ⟨#[]⟩) :: wantOf cs as := by simp [wantOf, h1]
      rw [e1] at hall
      rw [two_go (c := c) (by rw [hall]; simp) (by rintro rfl; revert h1; decide), within_alone (kd_alone h1), within_nil]
      have h := ih as (pre ++ [two c]) (acc ++ [(c, ⟨#[]⟩)]) all (by rw [hall]; simp)
      rw [List.length_append, List.length_singleton] at h
      rw [h, e1, e2]
      simp; omega
    · by_cases h2 : wanting c
      · cases as with
        | nil =>
          have e1 : apartOf (c :: cs) [] = apartOf cs [] := by simp [apartOf, h1, h2]
          have e2 : wantOf (c :: cs) [] = wantOf cs [] := by simp [wantOf, h1, h2]
          rw [e1] at hall ⊢
          rw [e2]
          exact ih [] pre acc all hall
        | cons x as =>
          have e1 : apartOf (c :: cs) (x :: as) = two c :: x :: apartOf cs as := by simp [apartOf, h1, h2]
          have e2 : wantOf (c :: cs) (x :: as) = (c, x) :: wantOf cs as := by simp [wantOf, h1, h2]
          rw [e1] at hall
          have hx : all[pre.length + 1]? = some x := by rw [hall, List.getElem?_append_right (by omega)]; simp
          rw [two_go (c := c) (by rw [hall]; simp) (by rintro rfl; revert h2; decide), within_next (kd_wants h2) hx]
          have h := ih as (pre ++ [two c, x]) (acc ++ [(c, x)]) all (by rw [hall]; simp)
          rw [List.length_append] at h
          rw [show pre.length + 1 + 1 = pre.length + [two c, x].length from rfl, h, e1, e2]
          simp; omega
      · have e1 : apartOf (c :: cs) as = apartOf cs as := by simp [apartOf, h1, h2]
        have e2 : wantOf (c :: cs) as = wantOf cs as := by simp [wantOf, h1, h2]
        rw [e1] at hall ⊢
        rw [e2]
        exact ih as pre acc all hall

theorem outer_apart (cs : List UInt8) (as ops : List ByteArray) : outer (kind sp2.data.toList) (apartOf cs as ++ strokes :: ops) 0 = some (wantOf cs as, (apartOf cs as).length + 1) := by
  have h := rest_apart ops cs as [] [] _ rfl
  simp only [List.nil_append, List.length_nil, Nat.zero_add] at h
  rw [← rest_nil]
  exact h

/-- letters that stand in one group -/
theorem within_group {all : List ByteArray} {i : Nat} (tail : List UInt8) : ∀ (g : List UInt8) (acc : List Opt), (∀ c ∈ g, alone c) →
    within (kind sp2.data.toList) all acc (g ++ tail) i = within (kind sp2.data.toList) all (acc ++ g.map fun c => (c, ⟨#[]⟩)) tail i := by
  intro g
  induction g with
  | nil => intro acc _; simp
  | cons c g ih =>
    intro acc h
    rw [List.cons_append, within_alone (kd_alone (h c (by simp))), ih _ (fun x hx => h x (by simp [hx]))]
    simp

theorem groupOf_alone : ∀ (cs : List UInt8), ∀ c ∈ groupOf cs, alone c := by
  intro cs
  induction cs with
  | nil => intro c h; cases h
  | cons x cs ih =>
    intro c h
    unfold groupOf at h
    split at h
    · rename_i hx
      rcases List.mem_cons.1 h with rfl | h
      · exact hx
      · exact ih c h
    · exact ih c h

theorem wantOf_group : ∀ (cs : List UInt8) (as : List ByteArray), usedOf cs as = 0 → wantOf cs as = (groupOf cs).map fun c => (c, ⟨#[]⟩) := by
  intro cs
  induction cs with
  | nil => intro as _; rfl
  | cons c cs ih =>
    intro as h
    by_cases h1 : alone c
    · simp only [usedOf, if_pos h1] at h
      simp only [wantOf, groupOf, if_pos h1, List.map_cons, ih as h]
    · by_cases h2 : wanting c
      · cases as with
        | nil =>
          simp only [usedOf, if_neg h1, if_pos h2] at h
          simp only [wantOf, groupOf, if_neg h1, if_pos h2, ih [] h]
        | cons x as => simp only [usedOf, if_neg h1, if_pos h2] at h; omega
      · simp only [usedOf, if_neg h1, if_neg h2] at h
        simp only [wantOf, groupOf, if_neg h1, if_neg h2, ih as h]

theorem outer_group (g : List UInt8) (ops : List ByteArray) (hg : ∀ c ∈ g, alone c) (hne : g ≠ []) :
    outer (kind sp2.data.toList) (⟨(45 :: g).toArray⟩ :: strokes :: ops) 0 = some (g.map (fun c => (c, ⟨#[]⟩)), 2) := by
  obtain ⟨c, g', rfl⟩ := List.exists_cons_of_ne_nil hne
  rw [← rest_nil, rest_go (a := ⟨(45 :: c :: g').toArray⟩) (by rfl) (by
    intro e
    simp at e
    have := hg c (by simp)
    rw [e.1] at this
    revert this; decide) (by simp [ByteArray.size]) (by simp)]
  have h := within_group (all := ⟨(45 :: c :: g').toArray⟩ :: strokes :: ops) (i := 0 + 1) [] (c :: g') [] hg
  simp only [List.append_nil, List.nil_append] at h
  rw [show List.drop 1 (ByteArray.mk (45 :: c :: g').toArray).data.toList = c :: g' from rfl, h, within_nil, rest_stroke (a := strokes) (by rfl) (by rfl)]

theorem outer_group_n (g a0 : List UInt8) (ops : List ByteArray) (hg : ∀ c ∈ g, alone c) (hne : g ≠ []) (ha : a0 ≠ []) :
    outer (kind sp2.data.toList) (⟨(45 :: g ++ 110 :: a0).toArray⟩ :: strokes :: ops) 0 = some (g.map (fun c => (c, ⟨#[]⟩)) ++ [(110, ⟨a0.toArray⟩)], 2) := by
  obtain ⟨c, g', rfl⟩ := List.exists_cons_of_ne_nil hne
  rw [← rest_nil, rest_go (a := ⟨(45 :: (c :: g') ++ 110 :: a0).toArray⟩) (by rfl) (by
    intro e
    simp at e) (by simp [ByteArray.size]) (by simp)]
  have h := within_group (all := ⟨(45 :: (c :: g') ++ 110 :: a0).toArray⟩ :: strokes :: ops) (i := 0 + 1) (110 :: a0) (c :: g') [] hg
  rw [show List.drop 1 (ByteArray.mk (45 :: (c :: g') ++ 110 :: a0).toArray).data.toList = (c :: g') ++ 110 :: a0 from by simp, h, within_here (kd_wants (.inl rfl)) ha, rest_stroke (a := strokes) (by rfl) (by rfl)]
  simp

end Go.Proofs.Ytnagiphjlfiifaa.Pl
