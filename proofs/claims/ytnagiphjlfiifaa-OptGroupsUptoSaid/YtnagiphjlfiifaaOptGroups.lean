/-
  The walk of OptGroups: for every input of bounded bulk the call returns true, and nothing that lay has turned.
-/
import Derived.Test.YtnagiphjlfiifaaOptGroupPlain
import Derived.Test.YtnagiphjlfiifaaOptParses
namespace Go.Proofs.Ytnagiphjlfiifaa
open Go.RowKit

/-- two rows of different element types never share a block -/
theorem grown_other {w w' : World} {base base' n n' size size' : Nat} {e e' : TypeId} {v v' : Value} {xs xs' : List Value} (h : w.ownsRow base e size v n xs) (h' : w.ownsRow base' e' size' v' n' xs') (hne : e ≠ e') (hg : w.grownBy w' v.ownBlock) : w'.ownsRow base' e' size' v' n' xs' := by
  refine h'.kept hg ?_
  rcases h'.2 with ⟨rfl, _⟩ | ⟨g', cap', cur', rfl, _, hh', _⟩
  · exact .inl rfl
  · refine .inr fun he => ?_
    rcases h.2 with ⟨rfl, _⟩ | ⟨g, cap, cur, rfl, _, hh, _⟩
    · simp [Value.ownBlock] at he
    · have he' : g' = g := by simpa [Value.ownBlock] using he
      subst he'
      rw [hh] at hh'
      injection hh' with hh'
      injection hh' with _ ht
      exact hne ht

/-- the two rows that OptGroups makes -/
def Rows2 (N w : World) (vP : Value) (P : List ByteArray) (vW : Value) (L : List Pl.Opt) : Prop :=
  w.ownsRow N.heap.size 9 1 vP P.length (strs P) ∧ w.ownsRow N.heap.size 35 2 vW L.length (optCells L) ∧ Below N.heap.size N w

theorem strs_append (a b : List ByteArray) : strs (a ++ b) = strs a ++ strs b := by simp [strs]
theorem optCells_append (a b : List Pl.Opt) : optCells (a ++ b) = optCells a ++ optCells b := by simp [optCells]
theorem optCells_oneCell (l : List Pl.Opt) : ∀ u ∈ optCells l, u.oneCell' = true := by
  intro u hu
  unfold optCells at hu
  obtain ⟨p, _, hp⟩ := List.mem_flatMap.1 hu
  simp at hp
  rcases hp with rfl | rfl <;> rfl

theorem Rows2.alloc {N w : World} {vP vW : Value} {P : List ByteArray} {L : List Pl.Opt} (h : Rows2 N w vP P vW L) (o : Obj) : Rows2 N (w.alloc o) vP P vW L :=
  ⟨h.1.alloc o, h.2.1.alloc o, h.2.2.alloc h.2.2.size o⟩

theorem wp_app_str {o : Oper} {a : Act} {K : Act → World → Prop} {Q : Exit → Act → World → Prop} (s x : Operand)
    (ho : o.op = .call { callee := .builtin .append, args := #[s, x], argTypes := #[22, 22] })
    (N W : World) (vP vW : Value) (P : List ByteArray) (L : List Pl.Opt) (xs : List ByteArray) (B : Nat) (A : Option Addr) (m c : Nat) (hm : m = xs.length) (hs : a.eval s = vP) (hx : a.eval x = .slice A m c)
    (hr : Reads W B 1 A xs.length (strs xs)) (hR : Rows2 N W vP P vW L) (hlen : P.length + xs.length ≤ 2097152)
    (h : ∀ v' w', Rows2 N w' v' (P ++ xs) vW L → K (a.put o.dst v') w') : o.wp Try.prog a W K Q := by
  subst hm
  obtain ⟨iS, hiS, hS0, hS1, hS2⟩ := info_parts Try.infoStr
  obtain ⟨h1, h2, hb⟩ := hR
  refine wp_append_any W s x 22 ho N.heap.size 9 iS (.string ⟨#[]⟩) 1 16 Try.underlying22 hiS hS0 hS1 hS2 rfl (by decide) vP P.length (strs P) hs h1 B A xs.length c (strs xs) hx hr (strs_oneCell xs) (by simp only [maxLen]; omega) (by omega) hb.size ?_
  intro v' w' hown hg _
  refine h v' w' ⟨by rw [List.length_append, strs_append]; exact hown, grown_other h1 h2 (by decide) hg, hb.grown hg hb.size fun k hk => (h1.lt k hk).1⟩

theorem wp_app_opt {o : Oper} {a : Act} {K : Act → World → Prop} {Q : Exit → Act → World → Prop} (s x : Operand)
    (ho : o.op = .call { callee := .builtin .append, args := #[s, x], argTypes := #[24, 24] })
    (N W : World) (vP vW : Value) (P : List ByteArray) (L : List Pl.Opt) (q : Pl.Opt) (B : Nat) (A : Option Addr) (c : Nat) (hs : a.eval s = vW) (hx : a.eval x = .slice A 1 c)
    (hr : Reads W B 2 A 1 (optCells [q])) (hR : Rows2 N W vP P vW L) (hlen : L.length + 1 ≤ 2097152)
    (h : ∀ v' w', Rows2 N w' vP P v' (L ++ [q]) → W.grownBy w' vW.ownBlock → K (a.put o.dst v') w') : o.wp Try.prog a W K Q := by
  obtain ⟨iO, hiO, hO0, hO1, hO2⟩ := info_parts Try.infoOpt
  obtain ⟨h1, h2, hb⟩ := hR
  refine wp_append_any W s x 24 ho N.heap.size 35 iO (.agg #[.int .u8 0, .string ⟨#[]⟩]) 2 24 Try.underlying24 hiO hO0 hO1 hO2 rfl (by decide) vW L.length (optCells L) hs h2 B A 1 c (optCells [q]) hx hr (optCells_oneCell _) (by simp only [maxLen]; omega) (by omega) hb.size ?_
  intro v' w' hown hg _
  refine h v' w' ⟨grown_other h2 h1 (by decide) hg, by rw [List.length_append, optCells_append]; exact hown, hb.grown hg hb.size fun k hk => (h2.lt k hk).1⟩ hg

theorem app_str {ops : Array Oper} {rest : List Oper} {o : Oper} {a : Act} {Q : Exit → Act → World → Prop} (hgd : o.guard = none) (s x : Operand)
    (ho : o.op = .call { callee := .builtin .append, args := #[s, x], argTypes := #[22, 22] })
    (N W : World) (vP vW : Value) (P : List ByteArray) (L : List Pl.Opt) (xs : List ByteArray) (B : Nat) (A : Option Addr) (m c : Nat) (hm : m = xs.length) (hs : a.eval s = vP) (hx : a.eval x = .slice A m c)
    (hr : Reads W B 1 A xs.length (strs xs)) (hR : Rows2 N W vP P vW L) (hlen : P.length + xs.length ≤ 2097152)
    (h : ∀ v' w', Rows2 N w' v' (P ++ xs) vW L → wpList Try.prog ops Q rest (a.put o.dst v') w') : wpList Try.prog ops Q (o :: rest) a W :=
  wpList_plain hgd fun _ hK => wp_app_str s x ho N W vP vW P L xs B A m c hm hs hx hr hR hlen fun v' w' hn => hK _ _ (h v' w' hn)

theorem app_opt {ops : Array Oper} {rest : List Oper} {o : Oper} {a : Act} {Q : Exit → Act → World → Prop} (hgd : o.guard = none) (s x : Operand)
    (ho : o.op = .call { callee := .builtin .append, args := #[s, x], argTypes := #[24, 24] })
    (N W : World) (vP vW : Value) (P : List ByteArray) (L : List Pl.Opt) (q : Pl.Opt) (B : Nat) (A : Option Addr) (c : Nat) (hs : a.eval s = vW) (hx : a.eval x = .slice A 1 c)
    (hr : Reads W B 2 A 1 (optCells [q])) (hR : Rows2 N W vP P vW L) (hlen : L.length + 1 ≤ 2097152)
    (h : ∀ v' w', Rows2 N w' vP P v' (L ++ [q]) → W.grownBy w' vW.ownBlock → wpList Try.prog ops Q rest (a.put o.dst v') w') : wpList Try.prog ops Q (o :: rest) a W :=
  wpList_plain hgd fun _ hK => wp_app_opt s x ho N W vP vW P L q B A c hs hx hr hR hlen fun v' w' hn hg => hK _ _ (h v' w' hn hg)

theorem step_app_str {ops : Array Oper} {o : Oper} {a : Act} {K : Act → World → Prop} {Q : Exit → Act → World → Prop} {E : Prop} (hgd : o.guard = none) (s x : Operand)
    (ho : o.op = .call { callee := .builtin .append, args := #[s, x], argTypes := #[22, 22] })
    (N W : World) (vP vW : Value) (P : List ByteArray) (L : List Pl.Opt) (xs : List ByteArray) (B : Nat) (A : Option Addr) (m c : Nat) (hm : m = xs.length) (hs : a.eval s = vP) (hx : a.eval x = .slice A m c)
    (hr : Reads W B 1 A xs.length (strs xs)) (hR : Rows2 N W vP P vW L) (hlen : P.length + xs.length ≤ 2097152)
    (h : ∀ v' w', Rows2 N w' v' (P ++ xs) vW L → K (a.put o.dst v') w') :
    if Region.wanted o (yielded ops a.tmps) = true then Oper.wp Try.prog o a W K Q else E := by
  rw [if_pos (by simp [Region.wanted, hgd])]
  exact wp_app_str s x ho N W vP vW P L xs B A m c hm hs hx hr hR hlen h

/-- a row that was just made -/
theorem opt_new (w : World) (b : Nat) (hb : b = w.heap.size) (q : Pl.Opt) : Reads (w.alloc (.cells #[.int .u8 q.1.toNat, .string q.2] 35)) (w.heap.size + 1) 2 (some ⟨b, 0, none⟩) 1 (optCells [q]) := by
  subst hb
  refine ⟨by simp [optCells], fun _ => ⟨_, rfl, by simp, fun j u hu => ?_⟩⟩
  have e : (⟨w.heap.size, 0, none⟩ : Addr).add j = ⟨w.heap.size, j, none⟩ := by unfold Addr.add; split <;> simp_all
  rw [e, (Blk.new w _ _).cell j]
  simpa [optCells] using hu
theorem str_new (w : World) (b : Nat) (hb : b = w.heap.size) (s : ByteArray) : Reads (w.alloc (.cells #[.string s] 9)) (w.heap.size + 1) 1 (some ⟨b, 0, none⟩) 1 (strs [s]) := by
  subst hb
  have h := reads_new w 9 (strs [s])
  rw [show (w.alloc (.cells (strs [s]).toArray 9)).heap.size = w.heap.size + 1 from by simp] at h
  exact h

theorem one_byte (W : World) (c : UInt8) : (convert 33 9 (.slice (some ⟨W.heap.size, 0, none⟩) 1 1)).run Try.prog (W.alloc (.cells #[.int .u8 c.toNat] 5)) = .ok (.string ⟨#[c]⟩) (W.alloc (.cells #[.int .u8 c.toNat] 5)) := by
  refine run_convert_bytes_back _ _ _ 5 ⟨W.heap.size, 0, none⟩ 1 [c] Try.underlying33 Try.underlying5 Try.underlying9 fun j hj => ?_
  have hj0 : j = 0 := by simpa using hj
  subst hj0
  exact (Blk.new W 5 _).cell 0

theorem Rows2.drew {N w : World} {vP vW : Value} {P : List ByteArray} {L : List Pl.Opt} (h : Rows2 N w vP P vW L) : Rows2 N w.drew vP P vW L := ⟨h.1.drew, h.2.1.drew, below_drewN h.2.2 1⟩
theorem Rows2.below {N w w' : World} {vP vW : Value} {P : List ByteArray} {L : List Pl.Opt} (h : Rows2 N w vP P vW L) (hb : Below w.heap.size w w') : Rows2 N w' vP P vW L :=
  ⟨ownsRow_below h.1 hb (Nat.le_refl _), ownsRow_below h.2.1 hb (Nat.le_refl _), h.2.2.trans (hb.mono h.2.2.size)⟩
theorem two_new (w : World) (b : Nat) (hb : b = w.heap.size) (s t : ByteArray) : Reads (w.alloc (.cells #[.string s, .string t] 9)) (w.heap.size + 1) 1 (some ⟨b, 0, none⟩) 2 (strs [s, t]) := by
  subst hb
  have h := reads_new w 9 (strs [s, t])
  rw [show (w.alloc (.cells (strs [s, t]).toArray 9)).heap.size = w.heap.size + 1 from by simp] at h
  exact h
theorem total_append (a b : List ByteArray) : Pl.total (a ++ b) = Pl.total a + Pl.total b := by simp [Pl.total]
theorem total_cons (a : ByteArray) (b : List ByteArray) : Pl.total (a :: b) = a.size + Pl.total b := by simp [Pl.total]
theorem total_apart : ∀ (cs : List UInt8) (xs : List ByteArray), Pl.total (Pl.apartOf cs xs) ≤ 2 * cs.length + Pl.total xs := by
  intro cs
  induction cs with
  | nil => intro xs; simp [Pl.apartOf, Pl.total]
  | cons c cs ih =>
    intro xs
    have h2 : (Pl.two c).size = 2 := rfl
    simp only [Pl.apartOf, List.length_cons]
    split
    · have := ih xs; rw [total_cons]; omega
    · split
      · cases xs with
        | nil => have := ih []; simp only; omega
        | cons x xs => have := ih xs; simp only [total_cons]; omega
      · have := ih xs; omega

theorem rows2_new (w : World) (b : Nat) (hb : b = w.heap.size) (s t : ByteArray) : Rows2 w (w.alloc (.cells #[.string s, .string t] 9)) (.slice (some ⟨b, 0, none⟩) 2 2) [s, t] (.slice none 0 0) [] := by
  subst hb
  exact ⟨⟨by simp [strs], .inr ⟨w.heap.size, 2, #[.string s, .string t], rfl, Nat.le_refl _, Blk.new w _ _, by simp, by simp [maxLen], by simp, by simp [strs]⟩⟩, World.ownsRow_nil _ _ _ _, (Below.refl _ w).alloc (Nat.le_refl _) _⟩
theorem drop_behind (P ops : List ByteArray) (x : ByteArray) : (P ++ x :: ops).drop (P.length + 1) = ops := by
  rw [List.drop_append]
  simp
theorem group_n (g : List UInt8) (x : ByteArray) : (⟨(45 :: g).toArray⟩ : ByteArray) ++ ⟨#[110]⟩ ++ x = ⟨(45 :: g ++ 110 :: x.data.toList).toArray⟩ := by
  apply ByteArray.ext
  simp

theorem kept_new {w w' : World} {row : Option Nat} {N n size : Nat} {e : TypeId} {v : Value} {xs : List Value} (hg : w.grownBy w' row) (h : w.ownsRow N e size v n xs) (hlt : ∀ k, row = some k → k < N) : w'.ownsRow N e size v n xs := by
  refine h.kept hg ?_
  cases hv : v.ownBlock with
  | none => exact .inl rfl
  | some k =>
    refine .inr fun he => ?_
    have h1 := (h.lt k hv).1
    have h2 := hlt k he.symm
    omega
theorem parsed_own {w w' : World} {args : List ByteArray} {r : Option (List Pl.Opt × Nat)} {e : Ending} (h : Parsed w args r e w') :
    ∃ Aa ca Ac cc, e = .returned (.tuple #[.slice Aa (Pl.outcome args r).1.length ca, .slice Ac (Pl.outcome args r).2.1.length cc, .int .i64 (Pl.outcome args r).2.2]) ∧
      w'.ownsRow w.heap.size 35 2 (.slice Aa (Pl.outcome args r).1.length ca) (Pl.outcome args r).1.length (optCells (Pl.outcome args r).1) ∧ w'.ownsRow w.heap.size 9 1 (.slice Ac (Pl.outcome args r).2.1.length cc) (Pl.outcome args r).2.1.length (strs (Pl.outcome args r).2.1) ∧ Below w.heap.size w w' := by
  obtain ⟨hb, h⟩ := h
  cases r with
  | none => exact ⟨none, 0, none, 0, h, World.ownsRow_nil _ _ _ _, World.ownsRow_nil _ _ _ _, hb⟩
  | some p =>
    obtain ⟨l, j⟩ := p
    obtain ⟨v, v2, rfl, h1, h2⟩ := h
    have hl : (args.drop j).length = args.length - j := List.length_drop
    rw [← hl] at h2
    obtain ⟨Aa, ca, rfl, _, _⟩ := own_slice h1
    obtain ⟨Ac, cc, rfl, _, _⟩ := own_slice h2
    exact ⟨Aa, ca, Ac, cc, rfl, h1, h2, hb⟩

theorem stroke_add (c : UInt8) : (⟨#[45]⟩ : ByteArray) ++ ⟨#[c]⟩ = Pl.two c := by
  apply ByteArray.ext
  simp [Pl.two]
theorem push_add (g t : List UInt8) : (⟨(45 :: g).toArray⟩ : ByteArray) ++ ⟨t.toArray⟩ = ⟨(45 :: (g ++ t)).toArray⟩ := by
  apply ByteArray.ext
  simp

theorem one_byte_drew (W : World) (c : UInt8) : (convert 33 9 (.slice (some ⟨W.heap.size, 0, none⟩) 1 1)).run Try.prog (W.alloc (.cells #[.int .u8 c.toNat] 5)).drew = .ok (.string ⟨#[c]⟩) (W.alloc (.cells #[.int .u8 c.toNat] 5)).drew := by
  refine run_convert_bytes_back _ _ _ 5 ⟨W.heap.size, 0, none⟩ 1 [c] Try.underlying33 Try.underlying5 Try.underlying9 fun j hj => ?_
  have hj0 : j = 0 := by simpa using hj
  subst hj0
  exact (Blk.new W 5 _).cell 0

set_option maxRecDepth 100000 in
set_option maxHeartbeats 2000000 in
theorem optGroups_any (letters : ByteArray) (A B : Option Addr) (ca cb : Nat) (args ops : List ByteArray) (w : World) (hra : Reads w w.heap.size 1 A args.length (strs args)) (hrb : Reads w w.heap.size 1 B ops.length (strs ops))
    (ht : Pl.total args + Pl.total ops ≤ 1048576) (h1 : letters.size ≤ 1048576) (h2 : args.length ≤ 1048576) (h3 : ops.length ≤ 1048576) :
    Calls Try.prog 4 #[.string letters, .slice A args.length ca, .slice B ops.length cb] w fun e w' => e = .returned (.bool true) ∧ Below w.heap.size w w' := by
  have hRA := Lib.hid hra
  have hRB := Lib.hid hrb
  clear hra hrb
  go_enter Try.func4, Try.ntmps4
  go_wp2_with fail
  refine (awake_any w).mono ?_
  rintro e w1 ⟨rfl, hb1⟩
  by_cases hl1 : 500 < letters.size
  · go_wp2_with fail
    go_returns
    exact ⟨rfl, hb1⟩
  by_cases hl2 : 500 < args.length
  · go_wp2_with fail
    go_returns
    exact ⟨rfl, hb1⟩
  by_cases hl3 : 500 < ops.length
  · go_wp2_with fail
    go_returns
    exact ⟨rfl, hb1⟩
  go_wp2_with fail
  go_loopw [8, 9, 10, 11, 12] (fun vP gv vW nv i wr => ∃ (k m : Nat) (P : List ByteArray) (L : List Pl.Opt) (g : List UInt8), k ≤ letters.size ∧ i = .int .i64 k ∧ nv = .int .i64 m ∧ m ≤ args.length ∧ gv = .string ⟨(45 :: g).toArray⟩ ∧
      Rows2 w1 wr vP P vW L ∧ P.length ≤ 2 * k ∧ L.length ≤ k ∧ m ≤ k ∧ g.length ≤ k ∧
      Hid (Pl.apartOf letters.data.toList args = P ++ Pl.apartOf (letters.data.toList.drop k) (args.drop m)) ∧ Hid (Pl.wantOf letters.data.toList args = L ++ Pl.wantOf (letters.data.toList.drop k) (args.drop m)) ∧
      Hid (Pl.groupOf letters.data.toList = g ++ Pl.groupOf (letters.data.toList.drop k)) ∧ Hid (Pl.usedOf letters.data.toList args = m + Pl.usedOf (letters.data.toList.drop k) (args.drop m))) (fun _ _ _ _ i _ => letters.size - (intOf i).toNat)
  case atStart => exact ⟨0, 0, [], [], [], by omega, rfl, rfl, by omega, rfl, ⟨World.ownsRow_nil _ _ _ _, World.ownsRow_nil _ _ _ _, Below.refl _ _⟩, by simp, by simp, by omega, by simp, Lib.hid (by simp), Lib.hid (by simp), Lib.hid (by simp), Lib.hid (by simp)⟩
  case round =>
    obtain ⟨k, m, P, L, g, hk, rfl, rfl, hm, rfl, hR, hP, hL, hmk, hg, e1, e2, e3, e4⟩ := hrel
    by_cases hlt : k < letters.size
    · have hd := Lib.hid (Pl.drop_at letters k hlt)
      by_cases c1 : Pl.alone letters[k]
      · have bs : (letters[k].toNat : Int) = 97 ∨ (letters[k].toNat : Int) = 98 ∨ (letters[k].toNat : Int) = 99 := by
          rcases c1 with h | h | h <;> rw [h] <;> decide
        have hconv := fun W => one_byte W letters[k]
        have e1' := Lib.hid (show Pl.apartOf letters.data.toList args = (P ++ [Pl.two letters[k]]) ++ Pl.apartOf (letters.data.toList.drop (k + 1)) (args.drop m) by rw [e1.out, hd.out]; simp [Pl.apartOf, c1])
        have e2' := Lib.hid (show Pl.wantOf letters.data.toList args = (L ++ [(letters[k], ⟨#[]⟩)]) ++ Pl.wantOf (letters.data.toList.drop (k + 1)) (args.drop m) by rw [e2.out, hd.out]; simp [Pl.wantOf, c1])
        have e3' := Lib.hid (show Pl.groupOf letters.data.toList = (g ++ [letters[k]]) ++ Pl.groupOf (letters.data.toList.drop (k + 1)) by rw [e3.out, hd.out]; simp [Pl.groupOf, c1])
        have e4' := Lib.hid (show Pl.usedOf letters.data.toList args = m + Pl.usedOf (letters.data.toList.drop (k + 1)) (args.drop m) by rw [e4.out, hd.out]; simp [Pl.usedOf, c1])
        clear e1 e2 e3 e4
        go_wp2_with (first
          | (at_builtin; refine app_str rfl _ _ rfl w1 _ _ _ P L [⟨#[45]⟩ ++ ⟨#[letters[k]]⟩] _ _ _ _ rfl rfl rfl (str_new _ _ (by simp) (⟨#[45]⟩ ++ ⟨#[letters[k]]⟩)) ((hR.alloc _).alloc _) (by simp; omega) ?_; intro v1 w2 hR1; rw [stroke_add] at hR1)
          | (at_builtin; refine app_opt rfl _ _ rfl w1 _ _ _ _ L (letters[k], ⟨#[]⟩) _ _ _ rfl rfl (opt_new _ _ (by simp) (letters[k], ⟨#[]⟩)) ((hR1.alloc _).alloc _) (by omega) ?_; intro v2 w3 hR2 _))
        all_goals go_roundw
        all_goals first
          | (simp [intOf]; omega)
          | exact ⟨k + 1, m, _, _, _, by omega, by go_num, rfl, hm, by rw [push_add], hR2, by simp; omega, by simp; omega, by omega, by simp; omega, e1', e2', e3', e4'⟩
      · obtain ⟨ne1, ne2, ne3⟩ : ((letters[k].toNat : Int) == 97) = false ∧ ((letters[k].toNat : Int) == 98) = false ∧ ((letters[k].toNat : Int) == 99) = false := by
          refine ⟨?_, ?_, ?_⟩
          · exact (Pl.u8_beq letters[k] 97).trans (beq_eq_false_iff_ne.2 fun h => c1 (.inl h))
          · exact (Pl.u8_beq letters[k] 98).trans (beq_eq_false_iff_ne.2 fun h => c1 (.inr (.inl h)))
          · exact (Pl.u8_beq letters[k] 99).trans (beq_eq_false_iff_ne.2 fun h => c1 (.inr (.inr h)))
        by_cases c2 : Pl.wanting letters[k]
        · have bs : (letters[k].toNat : Int) = 110 ∨ (letters[k].toNat : Int) = 109 := by
            rcases c2 with h | h <;> rw [h] <;> decide
          by_cases hma : m < args.length
          · have hb0 := hb1.trans (hR.2.2.mono hb1.size)
            obtain ⟨ad, rfl, hadB, hcw⟩ := reads_str (hRA.out.below hb1) hma
            have hadB1 : (ad.add m).block < w1.heap.size := by rw [block_of_add]; exact Nat.lt_of_lt_of_le hadB hb1.size
            have hcm := (hR.2.2.cell hadB1).trans hcw
            have hdm := Lib.hid (List.drop_eq_getElem_cons hma)
            have e1' := Lib.hid (show Pl.apartOf letters.data.toList args = (P ++ [Pl.two letters[k], args[m]]) ++ Pl.apartOf (letters.data.toList.drop (k + 1)) (args.drop (m + 1)) by rw [e1.out, hd.out, hdm.out]; simp [Pl.apartOf, c1, c2])
            have e2' := Lib.hid (show Pl.wantOf letters.data.toList args = (L ++ [(letters[k], args[m])]) ++ Pl.wantOf (letters.data.toList.drop (k + 1)) (args.drop (m + 1)) by rw [e2.out, hd.out, hdm.out]; simp [Pl.wantOf, c1, c2])
            have e3' := Lib.hid (show Pl.groupOf letters.data.toList = g ++ Pl.groupOf (letters.data.toList.drop (k + 1)) by rw [e3.out, hd.out]; simp [Pl.groupOf, c1])
            have e4' := Lib.hid (show Pl.usedOf letters.data.toList args = (m + 1) + Pl.usedOf (letters.data.toList.drop (k + 1)) (args.drop (m + 1)) by rw [e4.out, hd.out, hdm.out]; simp [Pl.usedOf, c1, c2]; omega)
            have hconv := fun W => one_byte W letters[k]
            have hcl : ∀ o, (wr.alloc o).cell? (ad.add m) = some (.string args[m]) := fun o => (World.cell?_alloc_lt wr o _ (by rw [block_of_add]; exact Nat.lt_of_lt_of_le hadB hb0.size)).trans hcm
            clear e1 e2 e3 e4 c2 hdm
            go_wp2_with fail
            all_goals have hconv2 := fun W => one_byte_drew W letters[k]
            all_goals go_region_law ((refine step_app_str rfl _ _ rfl w1 _ _ _ P L [⟨#[45]⟩ ++ ⟨#[letters[k]]⟩, args[m]] _ _ _ _ rfl (by rfl) (by rfl) (by first | exact two_new _ _ (by simp) _ _ | exact (two_new _ _ (by simp) _ _).drew) (by first | exact ((hR.alloc _).alloc _).drew | exact ((hR.alloc _).alloc _)) (by simp; omega) ?_; intro v1 w2 hR1; rw [stroke_add] at hR1))
            all_goals clear hconv hconv2 hcl hcm
            all_goals have hcm2 := (hR1.2.2.cell hadB1).trans hcw
            all_goals go_wp2_with (at_builtin; refine app_opt rfl _ _ rfl w1 _ _ _ _ L (letters[k], args[m]) _ _ _ rfl rfl (opt_new _ _ (by simp) (letters[k], args[m])) (hR1.alloc _) (by omega) ?_; intro v2 w3 hR2 _)
            all_goals go_roundw
            all_goals first
              | (simp [intOf]; omega)
              | exact ⟨k + 1, m + 1, _, _, _, by omega, by go_num, by go_num, by omega, rfl, hR2, by simp; omega, by simp; omega, by omega, by omega, e1', e2', e3', e4'⟩
          · have hdm : args.drop m = [] := List.drop_eq_nil_of_le (by omega)
            have e1' := Lib.hid (show Pl.apartOf letters.data.toList args = P ++ Pl.apartOf (letters.data.toList.drop (k + 1)) (args.drop m) by rw [e1.out, hd.out, hdm]; simp [Pl.apartOf, c1, c2])
            have e2' := Lib.hid (show Pl.wantOf letters.data.toList args = L ++ Pl.wantOf (letters.data.toList.drop (k + 1)) (args.drop m) by rw [e2.out, hd.out, hdm]; simp [Pl.wantOf, c1, c2])
            have e3' := Lib.hid (show Pl.groupOf letters.data.toList = g ++ Pl.groupOf (letters.data.toList.drop (k + 1)) by rw [e3.out, hd.out]; simp [Pl.groupOf, c1])
            have e4' := Lib.hid (show Pl.usedOf letters.data.toList args = m + Pl.usedOf (letters.data.toList.drop (k + 1)) (args.drop m) by rw [e4.out, hd.out, hdm]; simp [Pl.usedOf, c1, c2])
            clear e1 e2 e3 e4 c2 hdm
            go_wp2_with fail
            all_goals go_roundw
            all_goals first
              | (simp [intOf]; omega)
              | exact ⟨k + 1, m, _, _, _, by omega, by go_num, rfl, hm, rfl, hR, by omega, by omega, by omega, by omega, e1', e2', e3', e4'⟩
        · obtain ⟨ne4, ne5⟩ : ((letters[k].toNat : Int) == 110) = false ∧ ((letters[k].toNat : Int) == 109) = false := by
            refine ⟨?_, ?_⟩
            · exact (Pl.u8_beq letters[k] 110).trans (beq_eq_false_iff_ne.2 fun h => c2 (.inl h))
            · exact (Pl.u8_beq letters[k] 109).trans (beq_eq_false_iff_ne.2 fun h => c2 (.inr h))
          have e1' := Lib.hid (show Pl.apartOf letters.data.toList args = P ++ Pl.apartOf (letters.data.toList.drop (k + 1)) (args.drop m) by rw [e1.out, hd.out]; simp [Pl.apartOf, c1, c2])
          have e2' := Lib.hid (show Pl.wantOf letters.data.toList args = L ++ Pl.wantOf (letters.data.toList.drop (k + 1)) (args.drop m) by rw [e2.out, hd.out]; simp [Pl.wantOf, c1, c2])
          have e3' := Lib.hid (show Pl.groupOf letters.data.toList = g ++ Pl.groupOf (letters.data.toList.drop (k + 1)) by rw [e3.out, hd.out]; simp [Pl.groupOf, c1])
          have e4' := Lib.hid (show Pl.usedOf letters.data.toList args = m + Pl.usedOf (letters.data.toList.drop (k + 1)) (args.drop m) by rw [e4.out, hd.out]; simp [Pl.usedOf, c1, c2])
          clear e1 e2 e3 e4
          go_wp2_with fail
          go_roundw
          case measure => simp [intOf]; omega
          case rel => exact ⟨k + 1, m, _, _, _, by omega, by go_num, rfl, hm, rfl, hR, by omega, by omega, by omega, by omega, e1', e2', e3', e4'⟩
    · have hke : k = letters.size := by omega
      have hnil : letters.data.toList.drop k = [] := List.drop_eq_nil_of_le (by rw [Array.length_toList]; show letters.size ≤ _; omega)
      have f1 : Pl.apartOf letters.data.toList args = P := by rw [e1.out, hnil]; simp [Pl.apartOf]
      have f2 : Pl.wantOf letters.data.toList args = L := by rw [e2.out, hnil]; simp [Pl.wantOf]
      have f3 : Pl.groupOf letters.data.toList = g := by rw [e3.out, hnil]; simp [Pl.groupOf]
      have f4 : Pl.usedOf letters.data.toList args = m := by rw [e4.out, hnil]; simp [Pl.usedOf]
      have hout := Pl.outer_apart letters.data.toList args ops
      rw [f1, f2] at hout
      have htp := total_apart letters.data.toList args
      rw [f1, Array.length_toList] at htp
      have htp' : Pl.total P ≤ 2 * letters.size + Pl.total args := htp
      have F2 := Lib.hid f2
      have F3 := Lib.hid f3
      have F4 := Lib.hid f4
      have HO := Lib.hid hout
      clear e1 e2 e3 e4 hnil f1 f2 f3 f4 hout htp
      go_wp2_with (first
        | (at_builtin; refine app_str rfl _ _ rfl w1 _ _ _ P L [Pl.strokes] _ _ _ _ rfl rfl rfl (str_new _ _ (by simp) Pl.strokes) (hR.alloc _) (by simp; omega) ?_; intro v1 w2 hR1)
        | (at_builtin; refine app_str rfl _ _ rfl w1 _ v1 _ _ L ops w.heap.size B ops.length cb rfl rfl rfl (hRB.out.below (hb1.trans (hR1.2.2.mono hb1.size))) hR1 (by simp; omega) ?_; intro v2 w3 hR2))
      rw [List.append_assoc, List.singleton_append] at hR2
      obtain ⟨A2, cap2, rfl, hcap2, hr2⟩ := own_slice hR2.1
      obtain ⟨Aw, cw, rfl, hcw, _⟩ := own_slice hR2.2.1
      have hlen : (P ++ Pl.strokes :: ops).length = P.length + 1 + ops.length := by simp; omega
      have htot : Pl.total (P ++ Pl.strokes :: ops) ≤ 2000000 := by
        rw [total_append, total_cons, show Pl.strokes.size = 2 from rfl]; omega
      have HR2 := Lib.hid hR2
      have Hr2 := Lib.hid hr2
      clear hR hR1 hR2 hr2
      go_wp2_with fail
      refine (parse_any A2 cap2 (P ++ Pl.strokes :: ops) Pl.sp2 w3 (by decide) hcap2 Hr2.out htot (by omega) (fun k a h => Nat.le_trans (total_ge _ k a h) htot)).mono ?_
      rintro e w4 hp4
      rw [HO.out] at hp4
      obtain ⟨Aa, ca', Ac, cc, rfl, hra, hoc, hB4⟩ := parsed_form hp4
      have hO : Pl.outcome (P ++ Pl.strokes :: ops) (some (L, P.length + 1)) = (L, ops, 0) := by show (L, (P ++ Pl.strokes :: ops).drop (P.length + 1), (0 : Int)) = _; rw [drop_behind]
      rw [hO] at hra hoc ⊢
      clear hO hp4 HO Hr2
      have HRa := Lib.hid hra
      have HOc := Lib.hid hoc
      have HR4 := Lib.hid (HR2.out.below hB4)
      have hbw4 : Below w.heap.size w w4 := hb1.trans (HR4.out.2.2.mono hb1.size)
      clear hra hoc HR2
      go_wp2_with fail
      refine (same_any Aa Aw Ac B ca' cw cc cb L ops w4 w4.heap.size w4.heap.size w4.heap.size w.heap.size HRa.out (Reads.of_own HR4.out.2.1) (Reads.of_own HOc.out) (hRB.out.below hbw4) (by omega) (by omega)).mono ?_
      rintro e w5 ⟨rfl, n5, hw5⟩
      have hB5 : Below w4.heap.size w4 w5 := by rw [hw5]; exact below_drewN (Below.refl _ _) n5
      clear hw5
      have HR5 := Lib.hid (HR4.out.below hB5)
      have hbw5 : Below w.heap.size w w5 := hb1.trans (HR5.out.2.2.mono hb1.size)
      clear HR4 HRa HOc hbw4
      by_cases hm0 : 0 < m
      · go_wp2_with fail
        go_returns
        exact ⟨rfl, hbw5⟩
      have hm00 : m = 0 := by omega
      by_cases hg0 : g = []
      · subst hg0
        go_wp2_with fail
        go_returns
        exact ⟨rfl, hbw5⟩
      have hgl : 0 < g.length := List.length_pos_iff.2 hg0
      have hg1 : ((g.length : Int) + 1 == 1) = false := beq_eq_false_iff_ne.2 (by omega)
      subst hm00
      have hLg : L = g.map fun c => (c, ⟨#[]⟩) := by rw [← F2.out, ← F3.out]; exact Pl.wantOf_group _ _ F4.out
      have hga : ∀ c ∈ g, Pl.alone c := by rw [← F3.out]; exact Pl.groupOf_alone _
      have hout2 := Pl.outer_group g ops hga hg0
      rw [← hLg] at hout2
      have HO2 := Lib.hid hout2
      have HGa := Lib.hid hga
      have HLg := Lib.hid hLg
      have hgs : (⟨(45 :: g).toArray⟩ : ByteArray).size = g.length + 1 := by simp [ByteArray.size]
      have htot2 : Pl.total (⟨(45 :: g).toArray⟩ :: Pl.strokes :: ops) ≤ 2000000 := by
        rw [total_cons, total_cons, show Pl.strokes.size = 2 from rfl, hgs]; omega
      clear hout2 hga hLg hg0 htot htp' F2 F3 F4 hgs
      go_wp2_with (at_builtin; refine app_str rfl _ _ rfl w5 _ (.slice (some ⟨w5.heap.size, 0, none⟩) 2 2) (.slice none 0 0) [⟨(45 :: g).toArray⟩, Pl.strokes] [] ops w.heap.size B ops.length cb rfl rfl rfl (hRB.out.below (hbw5.alloc hbw5.size _)) (rows2_new w5 _ rfl _ _) (by simp; omega) ?_; intro v3 w6 hR6)
      rw [show [(⟨(45 :: g).toArray⟩ : ByteArray), Pl.strokes] ++ ops = ⟨(45 :: g).toArray⟩ :: Pl.strokes :: ops from rfl] at hR6
      obtain ⟨A3, cap3, rfl, hcap3, hr3⟩ := own_slice hR6.1
      have hB6 : Below w5.heap.size w5 w6 := hR6.2.2
      have HR6 := Lib.hid (HR5.out.below hB6)
      have Hr3 := Lib.hid hr3
      clear hR6 hr3 HR5
      go_wp2_with fail
      refine (parse_any A3 cap3 (⟨(45 :: g).toArray⟩ :: Pl.strokes :: ops) Pl.sp2 w6 (by decide) hcap3 Hr3.out htot2 (by simp only [List.length_cons]; omega) (fun k a h => Nat.le_trans (total_ge _ k a h) htot2)).mono ?_
      rintro e w7 hp7
      rw [HO2.out] at hp7
      obtain ⟨Ad, cd, Af, cf, rfl, hrd, hof, hB7⟩ := parsed_form hp7
      have hO : Pl.outcome (⟨(45 :: g).toArray⟩ :: Pl.strokes :: ops) (some (L, 2)) = (L, ops, 0) := rfl
      rw [hO] at hrd hof ⊢
      clear hO hp7 HO2 Hr3
      have HRd := Lib.hid hrd
      have HOf := Lib.hid hof
      have HR7 := Lib.hid (HR6.out.below hB7)
      have hbw7 : Below w.heap.size w w7 := hb1.trans (HR7.out.2.2.mono hb1.size)
      clear hrd hof HR6
      go_wp2_with fail
      refine (same_any Ad Aw Af B cd cw cf cb L ops w7 w7.heap.size w7.heap.size w7.heap.size w.heap.size HRd.out (Reads.of_own HR7.out.2.1) (Reads.of_own HOf.out) (hRB.out.below hbw7) (by omega) (by omega)).mono ?_
      rintro e w8 ⟨rfl, n8, hw8⟩
      have hB8 : Below w7.heap.size w7 w8 := by rw [hw8]; exact below_drewN (Below.refl _ _) n8
      clear hw8
      have HR8 := Lib.hid (HR7.out.below hB8)
      have hbw8 : Below w.heap.size w w8 := hb1.trans (HR8.out.2.2.mono hb1.size)
      clear HR7 HRd HOf hbw7
      by_cases hz : args.length = 0
      · go_wp2_with fail
        go_returns
        exact ⟨rfl, hbw8⟩
      have hzp : 0 < args.length := by omega
      obtain ⟨ad, rfl, hadB, hc0⟩ := reads_str (k := 0) hRA.out hzp
      rw [show ad.add 0 = ad from rfl] at hc0
      have hc8 := (hbw8.cell hadB).trans hc0
      by_cases ha0 : args[0].data.toList = []
      · have hae : (args[0].toList == []) = true := by rw [Lib.toList_data, ha0]; rfl
        go_wp2_with fail
        go_returns
        exact ⟨rfl, hbw8⟩
      have hae : (args[0].toList == []) = false := by rw [Lib.toList_data]; exact beq_eq_false_iff_ne.2 ha0
      have hs0 : args[0].size ≤ Pl.total args := total_ge args 0 _ (List.getElem?_eq_getElem hzp)
      obtain ⟨gn, hgn⟩ : ∃ gn, gn = (⟨(45 :: g).toArray⟩ : ByteArray) ++ (⟨#[110]⟩ : ByteArray) ++ args[0] := ⟨_, rfl⟩
      have hgn2 : gn = ⟨(45 :: g ++ (110 : UInt8) :: args[0].data.toList).toArray⟩ := hgn.trans (group_n g args[0])
      have hgs : gn.size = g.length + 2 + args[0].size := by
        rw [hgn2]
        have : args[0].data.toList.length = args[0].size := Array.length_toList
        show (45 :: g ++ (110 : UInt8) :: args[0].data.toList).toArray.size = _
        simp; omega
      have hout3 := Pl.outer_group_n g args[0].data.toList ops HGa.out (List.length_pos_iff.1 hgl) ha0
      rw [← hgn2, show (⟨args[0].data.toList.toArray⟩ : ByteArray) = args[0] from by simp] at hout3
      have htot3 : Pl.total (gn :: Pl.strokes :: ops) ≤ 2000000 := by
        rw [total_cons, total_cons, show Pl.strokes.size = 2 from rfl, hgs]; omega
      obtain ⟨L5, hL5⟩ : ∃ L5, L5 = L ++ [((110 : UInt8), args[0])] := ⟨_, rfl⟩
      rw [← HLg.out] at hout3
      rw [← hL5] at hout3
      have hl5 := Lib.hid (show L5.length = L.length + 1 by rw [hL5]; simp)
      have HL5 := Lib.hid hL5
      have HO3 := Lib.hid hout3
      clear hL5
      have Hgn := Lib.hid hgn
      clear hout3 hgn hgn2 hgs ha0 htot2
      go_wp2_with (at_builtin; rw [← Hgn.out]; refine app_str rfl _ _ rfl w8 _ (.slice (some ⟨w8.heap.size, 0, none⟩) 2 2) (.slice none 0 0) [gn, Pl.strokes] [] ops w.heap.size B ops.length cb rfl rfl rfl (hRB.out.below (hbw8.alloc hbw8.size _)) (rows2_new w8 _ rfl _ _) (by simp; omega) ?_; intro v4 w9 hR9)
      rw [show [gn, Pl.strokes] ++ ops = gn :: Pl.strokes :: ops from rfl] at hR9
      obtain ⟨A4, cap4, rfl, hcap4, hr4⟩ := own_slice hR9.1
      have hB9 : Below w8.heap.size w8 w9 := hR9.2.2
      have HR9 := Lib.hid (HR8.out.below hB9)
      have Hr4 := Lib.hid hr4
      clear hR9 hr4 HR8 hc8
      go_wp2_with fail
      refine (parse_any A4 cap4 (gn :: Pl.strokes :: ops) Pl.sp2 w9 (by decide) hcap4 Hr4.out htot3 (by simp only [List.length_cons]; omega) (fun k a h => Nat.le_trans (total_ge _ k a h) htot3)).mono ?_
      rintro e w10 hp10
      rw [HO3.out] at hp10
      obtain ⟨Ah, ch, Ai, ci, rfl, hrh, hoi, hB10⟩ := parsed_own hp10
      have hO : Pl.outcome (gn :: Pl.strokes :: ops) (some (L5, 2)) = (L5, ops, 0) := rfl
      rw [hO] at hrh hoi ⊢
      clear hO hp10 HO3 Hr4
      have HRh := Lib.hid hrh
      have HOi := Lib.hid hoi
      have HR10 := HR9.out.below hB10
      have hbw10 : Below w.heap.size w w10 := hb1.trans (HR10.2.2.mono hb1.size)
      have hc10 := (hbw10.cell hadB).trans hc0
      have hwlt : ∀ k, (Value.slice Aw L.length cw).ownBlock = some k → k < w9.heap.size := fun k hk => (HR9.out.2.1.lt k hk).2
      clear hrh hoi HR9
      go_wp2_with (at_builtin; refine app_opt rfl _ _ rfl w1 _ _ _ _ L ((110 : UInt8), args[0]) _ _ _ rfl rfl (opt_new _ _ (by simp) ((110 : UInt8), args[0])) (HR10.alloc _) (by omega) ?_; intro v5 w11 hR11 hg11)
      rw [← HL5.out] at hR11
      obtain ⟨A5, c5, rfl, hc5, hr5⟩ := own_slice hR11.2.1
      have hrh := kept_new hg11 (HRh.out.alloc _) hwlt
      have hoi := kept_new hg11 (HOi.out.alloc _) hwlt
      have hbw11 : Below w.heap.size w w11 := hb1.trans (hR11.2.2.mono hb1.size)
      have HRh2 := Lib.hid (Reads.of_own hrh)
      have HOi2 := Lib.hid (Reads.of_own hoi)
      have Hr5 := Lib.hid hr5
      clear hR11 hrh hoi hr5 HRh HOi hg11 hwlt HR10
      go_wp2_with fail
      refine (same_any Ah A5 Ai B ch c5 ci cb L5 ops w11 w11.heap.size w11.heap.size w11.heap.size w.heap.size HRh2.out Hr5.out HOi2.out (hRB.out.below hbw11) (by have := hl5.out; omega) (by omega)).mono ?_
      rintro e w12 ⟨rfl, n12, hw12⟩
      have hB12 : Below w11.heap.size w11 w12 := by rw [hw12]; exact below_drewN (Below.refl _ _) n12
      clear hw12
      have hbw12 : Below w.heap.size w w12 := hbw11.trans (hB12.mono hbw11.size)
      go_wp2_with fail
      go_returns
      exact ⟨rfl, hbw12⟩

end Go.Proofs.Ytnagiphjlfiifaa
