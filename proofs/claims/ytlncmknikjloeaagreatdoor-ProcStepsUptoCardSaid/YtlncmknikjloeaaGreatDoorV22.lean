/-
  Parts of the proof: The map of the kinds of acts, and what each of them does to a job; What an act does to a job; A walk over the main function of acts, for a job that runs to its end at once; A row of acts, cloned with all of its bytes: the beginning of Acts; A walk over Acts of proc, up to the machine that it makes.
-/
import Derived.Test.YtlncmknikjloeaaGreatDoorV20
import Derived.Test.YtlncmknikjloeaaGreatDoorV21
import Derived.Shelf.Abstract
import Derived.Test.YtlncmknikjloeaaGreatDoorV10
import Derived.Deep.MidRow
import Derived.Test.YtlncmknikjloeaaGreatDoorV13
import Derived.Laws.OwnMore
import Derived.Deep.RegionHeld3
import Derived.Test.YtlncmknikjloeaaGreatDoorV14
import Derived.Deep.RegionWith
import Derived.LoopN

section
namespace Go.Proofs.YtlncmknikjloeaaGreatDoor
open Go.RowKit Go.Maps

section
variable {P : Program} (w : World) {ops : Array Oper} {rest : List Oper} {o : Oper} {a : Act} {Q : Exit → Act → World → Prop}
/-- an entry of a map's literal -/
theorem wpList_insert_of (hg : o.guard = none) (m x v : Operand) (t : TypeId) (hop : o.op = Op.insert t m x v) (k e : TypeId) (K : Keyed P k) (ht : P.underlying t = some (.map k e)) (b n : Nat) (f : Lit → Option Value)
    (hm : a.eval m = .map (some b)) (h : MapOf w P k b n f) (hn : n < maxLen) (key val : Value) (kl : Lit) (hx : a.eval x = key) (hv : a.eval v = val) (hkey : keyOf P k key = some kl) (hkl : WideAt.IsKeyLit kl)
    (hK : ∀ w', MapOf w' P k b (n + 1) (upd f kl (some val)) → w.grownBy w' (some b) → wpList P ops Q rest (a.put o.dst undef) w') : wpList P ops Q (o :: rest) a w := by
  refine wpList_plain hg fun K' hK' => ?_
  obtain ⟨w', hrun, r1, r2⟩ := h.store K ht hn (val := val) hkey hkl
  unfold Oper.wp
  simp [execOp, hop, hm, hx, hv, hrun, Result.andThen]
  exact hK' _ _ (hK w' r1 r2)
end

/-- what stands for a kind -/
def kindV (id : FuncId) : Value := .agg #[.func (.func id) #[] #[]]
def kindL (n : Int) : Lit := .int .i64 n
noncomputable def kindF : Lit → Option Value :=
  upd (upd (upd (upd (upd (upd (fun _ => none) (kindL 1) (some (kindV 48))) (kindL 2) (some (kindV 49))) (kindL 3) (some (kindV 51)))
    (kindL 4) (some (kindV 52))) (kindL 5) (some (kindV 54))) (kindL 6) (some (kindV 56))
/-- the function of a kind -/
def kindOf (n : Int) : Option FuncId := if n = 1 then some 48 else if n = 2 then some 49 else if n = 3 then some 51 else if n = 4 then some 52 else if n = 5 then some 54 else if n = 6 then some 56 else none
theorem kindL_ne {a b : Int} (h : a ≠ b) : kindL a ≠ kindL b := fun e => h (by unfold kindL at e; injection e)
theorem kindF_of (n : Int) : kindF (kindL n) = (kindOf n).map kindV := by
  unfold kindF kindOf
  by_cases h1 : n = 1
  · subst h1; simp [upd, kindL]
  by_cases h2 : n = 2
  · subst h2; simp [upd, kindL]
  by_cases h3 : n = 3
  · subst h3; simp [upd, kindL]
  by_cases h4 : n = 4
  · subst h4; simp [upd, kindL]
  by_cases h5 : n = 5
  · subst h5; simp [upd, kindL]
  by_cases h6 : n = 6
  · subst h6; simp [upd, kindL]
  rw [upd_other _ _ (kindL_ne h6), upd_other _ _ (kindL_ne h5), upd_other _ _ (kindL_ne h4), upd_other _ _ (kindL_ne h3), upd_other _ _ (kindL_ne h2), upd_other _ _ (kindL_ne h1)]
  simp [h1, h2, h3, h4, h5, h6]

set_option maxRecDepth 100000 in
set_option maxHeartbeats 2000000 in
theorem acts_map (w : World) : Calls Tryz.prog 36 #[] w fun e w' => e = .returned (.map (some w.heap.size)) ∧ MapOf w' Tryz.prog 3 w.heap.size 6 kindF ∧ Below w.heap.size w w' := by
  have hmm := @run_makeMap Tryz.prog
  obtain ⟨b, hb0⟩ : ∃ b, w.heap.size = b := ⟨_, rfl⟩
  obtain ⟨W, hW⟩ : ∃ W, w.alloc (.map #[] 0) = W := ⟨_, rfl⟩
  have hm : MapOf W Tryz.prog 3 b 0 (fun _ => none) := by rw [← hW, ← hb0]; exact MapOf.made w Tryz.prog 3
  have hb : Below b w W := by rw [← hW, ← hb0]; exact (Below.refl _ _).alloc (Nat.le_refl _) _
  have hbs : b ≤ W.heap.size := by rw [← hb0]; exact hb.size
  go_enter Tryz.func36, Tryz.ntmps36
  have hcls : ∀ W', MapOf W' Tryz.prog 3 b 6 kindF → MapOf W' Tryz.prog 3 b 6 kindF := fun _ h => h
  unfold kindF kindV kindL at hcls
  go_wp2_with (
    refine wpList_insert_of _ rfl _ _ _ 107 rfl 3 112 intKeys Tryz.underlying107 b _ _ rfl hm (by unfold maxLen; omega) _ _ _ rfl rfl (keyOf_int_mk Tryz.underlying3 (WalkArith.wf_i64 (by omega))) trivial ?_
    intro w2 hm2 hg2
    replace hb := hb.grown hg2 hbs (fun j hj => (by cases hj; exact Nat.le_refl _))
    replace hbs := Nat.le_trans hbs hg2.size
    replace hm := hm2
    clear hm2 hg2)
  go_returns
  exact ⟨by rw [hb0]; rfl, by rw [hb0]; exact hcls _ hm, by rw [hb0]; exact hb⟩

set_option maxRecDepth 100000 in
set_option maxHeartbeats 1000000 in
theorem jobHoldI (w : World) (X : Job) (F : Flow) (h : JobOf w X F) (n : Int) (hn : -9223372036854775808 ≤ n ∧ n ≤ 9223372036854775807) (k : Nat) (hk : F.held = (k : Int)) (hb : (k : Int) + max 0 n < 4611686018427387904) :
    Calls Tryz.prog 53 #[.pointer (some ⟨X.p, 0, none⟩), .int .i64 n] w fun e w' => e = .returned (.tuple #[]) ∧ JobOf w' X (F.holds ((k : Int) + max 0 n) (max F.peak ((k : Int) + max 0 n))) ∧ Went X F (F.holds ((k : Int) + max 0 n) (max F.peak ((k : Int) + max 0 n))) w w' := by
  have hB := h.proc.blk
  have c8 : w.cell? ⟨X.p, 8, none⟩ = some (.int .i64 (k : Int)) := by rw [hB.cell 8, ← hk]; rfl
  have c9 : w.cell? ⟨X.p, 9, none⟩ = some (.int .i64 F.peak) := by rw [hB.cell 9]; rfl
  have f8 : w.frozen? ⟨X.p, 8, none⟩ = false := hB.frozen 8
  have f9 : w.frozen? ⟨X.p, 9, none⟩ = false := hB.frozen 9
  have lp := hB.lt
  obtain ⟨t, ht⟩ : ∃ t : Int, (k : Int) + max 0 n = t := ⟨_, rfl⟩
  obtain ⟨m, hm⟩ : ∃ m : Int, max F.peak t = m := ⟨_, rfl⟩
  rw [ht, hm]
  have fin : ∀ a b : Int, a = t → b = m → JobOf (((w.setCell ⟨X.p, 8, none⟩ (.int .i64 a)).setCell ⟨X.p, 9, none⟩ (.int .i64 b)).drew) X (F.holds t m) ∧ Went X F (F.holds t m) w (((w.setCell ⟨X.p, 8, none⟩ (.int .i64 a)).setCell ⟨X.p, 9, none⟩ (.int .i64 b)).drew) := by
    rintro a b rfl rfl
    exact h.setHolds _ _
  by_cases hle : n ≤ 0
  · have hx : max (0 : Int) n = 0 := by omega
    have HT := Lib.hid (show t = (k : Int) by omega)
    have HM := Lib.hid hm
    clear ht hm
    go_enter Tryz.func53, Tryz.ntmps53
    go_wp2_with fail
    all_goals go_region
    all_goals go_wp2_with fail
    all_goals
      go_end0
      have h1 := HT.out
      have h2 := HM.out
      refine ⟨rfl, fin _ _ ?_ ?_⟩ <;> omega
  · have hx : max (0 : Int) n = n := by omega
    have HT := Lib.hid (show t = (k : Int) + n by omega)
    have HM := Lib.hid hm
    have hw : wrap64 ((k : Int) + n) = (k : Int) + n := w64 _ (by omega)
    clear ht hm
    go_enter Tryz.func53, Tryz.ntmps53
    go_wp2_with fail
    all_goals go_region
    all_goals go_wp2_with fail
    all_goals
      go_end0
      have h1 := HT.out
      have h2 := HM.out
      refine ⟨rfl, fin _ _ ?_ ?_⟩ <;> omega

/-- what is held behind a Drop -/
def dropped (k n : Int) : Int := if 0 < n then k - min n k else k
set_option maxRecDepth 100000 in
set_option maxHeartbeats 1000000 in
theorem jobDropI (w : World) (X : Job) (F : Flow) (h : JobOf w X F) (n : Int) (hn : -9223372036854775808 ≤ n ∧ n ≤ 9223372036854775807) (k : Nat) (hk : F.held = (k : Int)) (hb : k < 4611686018427387904) :
    Calls Tryz.prog 55 #[.pointer (some ⟨X.p, 0, none⟩), .int .i64 n] w fun e w' => e = .returned (.tuple #[]) ∧ JobOf w' X (F.holds (dropped k n) F.peak) ∧ Went X F (F.holds (dropped k n) F.peak) w w' := by
  have hB := h.proc.blk
  have c8 : w.cell? ⟨X.p, 8, none⟩ = some (.int .i64 (k : Int)) := by rw [hB.cell 8, ← hk]; rfl
  have f8 : w.frozen? ⟨X.p, 8, none⟩ = false := hB.frozen 8
  have lp := hB.lt
  obtain ⟨t, ht⟩ : ∃ t, dropped k n = t := ⟨_, rfl⟩
  rw [ht]
  have fin : ∀ a : Int, a = t → JobOf ((w.setCell ⟨X.p, 8, none⟩ (.int .i64 a)).drew) X (F.holds t F.peak) ∧ Went X F (F.holds t F.peak) w ((w.setCell ⟨X.p, 8, none⟩ (.int .i64 a)).drew) := by
    rintro a rfl
    exact h.setHeld _
  by_cases hle : 0 < n
  · have HT := Lib.hid (show t = (k : Int) - min n k by rw [← ht, dropped, if_pos hle])
    have hw : wrap64 ((k : Int) - n) = (k : Int) - n := w64 _ (by omega)
    clear ht
    go_enter Tryz.func55, Tryz.ntmps55
    go_wp2_with fail
    go_region
    all_goals go_wp2_with fail
    all_goals
      go_end0
      have h1 := HT.out
      refine ⟨rfl, fin _ ?_⟩
      omega
  · have htk : t = (k : Int) := by rw [← ht, dropped, if_neg hle]
    have h0 : JobOf w X (F.holds t F.peak) ∧ Went X F (F.holds t F.peak) w w := by
      have : F.holds t F.peak = F := by
        cases F
        simp only [Flow.holds] at hk ⊢
        rw [htk, hk]
      rw [this]
      exact ⟨h, Went.refl _ _ _⟩
    clear ht htk
    go_enter Tryz.func55, Tryz.ntmps55
    go_wp2_with fail
    go_end0
    exact ⟨rfl, h0⟩

end Go.Proofs.YtlncmknikjloeaaGreatDoor
end

section
namespace Go.Proofs.YtlncmknikjloeaaGreatDoor
open Go.RowKit Go.Maps Go.Shelf

theorem i64_and255 (n : Int) : bits .and .i64 n 255 = n % 256 := by
  have h511 : (BitVec.ofInt 64 255).toNat = 2 ^ 8 - 1 := by decide
  have key : (BitVec.ofInt 64 n &&& BitVec.ofInt 64 255).toNat = (n % ((2 ^ 64 : Nat) : Int)).toNat % 2 ^ 8 := by
    rw [BitVec.toNat_and, BitVec.toNat_ofInt, h511, Nat.and_two_pow_sub_one_eq_mod]
  show IntKind.i64.wrap ((BitVec.ofInt 64 n &&& BitVec.ofInt 64 255).toNat : Nat) = n % 256
  rw [key, IntWalk.i64_in _ (by omega)]
  omega

namespace PF
/-- an act -/
def act (fl : List (Int × Int)) (s : PF) (k n : Int) (bs : List UInt8) : PF × Int :=
  if k = 1 then s.copies fl (max 1 n).toNat
  else if k = 2 then all fl (s.left fl + bs.length + 1) s true bs
  else if k = 3 then all fl (s.left fl + bs.length + 1) s false bs
  else if k = 4 then (s.holds (s.held + max 0 n) (max s.peak (s.held + max 0 n)), -1)
  else if k = 5 then (s.holds (dropped s.held n) s.peak, -1)
  else if k = 6 then (s, n % 256)
  else (s, -1)
/-- what an act asks of the numbers -/
structure Fits (fl : List (Int × Int)) (s : PF) (n : Int) (bs : List UInt8) : Prop where
  num : -9223372036854775808 ≤ n ∧ n ≤ 9223372036854775807
  steps : s.steps + s.left fl + s.inb.length + bs.length + 2 < 4611686018427387904
  said : ∀ b, (s.said b).length + s.inb.length + bs.length ≤ 140737488355000
  held : ∃ k : Nat, s.held = (k : Int) ∧ (k : Int) + max 0 n < 4611686018427387904
end PF

/-- a function that does acts of a kind -/
def ActDoes (id : FuncId) (k : Int) : Prop := ∀ (w : World) (X : Job) (F : Flow) (n : Int) (A : Option Addr) (c : Nat) (bs : List UInt8), JobOf w X F → Reads w w.heap.size 1 A bs.length (bytesC bs) → (∀ ad, A = some ad → ad.block ∉ X.foot F) → bs.length ≤ c → F.pl.Fits X.K.fl n bs →
  Calls Tryz.prog id #[.pointer (some ⟨X.p, 0, none⟩), .agg #[.int .i64 k, .int .i64 n, .slice A bs.length c]] w fun e w' => e = .returned (.int .i64 (F.pl.act X.K.fl k n bs).2) ∧ ∃ F', F'.pl = (F.pl.act X.K.fl k n bs).1 ∧ JobOf w' X F' ∧ Went X F F' w w'

theorem does_copy : ActDoes 48 1 := by
  intro w X F n A c bs h hb hA hc hf
  have h1 := hf.steps
  have h2 := hf.said true
  have hq := copies_any w X F h 1 n (.slice A bs.length c) hf.num (by show F.pl.steps + _ + F.pl.inb.length + 2 < _; omega) (by show (F.pl.said true).length + F.pl.inb.length ≤ _; omega)
  exact hq

set_option maxRecDepth 100000 in
set_option maxHeartbeats 1000000 in
theorem does_out : ActDoes 49 2 := by
  intro w X F n A c bs h hb hA hc hf
  have h1 := hf.steps
  have h2 := hf.said true
  have bW := below_one w (.cells #[.int .i64 2, .int .i64 n, .slice A bs.length c] 41)
  have hq := all_any _ X F (h.below bW) true A c bs ((hb.below bW).more bW.size) hA hc (by show F.pl.steps + F.pl.left X.K.fl + bs.length < _; omega) (by show (F.pl.said true).length + bs.length ≤ _; omega) (F.pl.left X.K.fl + bs.length + 1) (Nat.lt_succ_self _) _ rfl
  have hR : F.pl.act X.K.fl 2 n bs = PF.all X.K.fl (F.pl.left X.K.fl + bs.length + 1) F.pl true bs := by simp [PF.act]
  rw [hR]
  obtain ⟨m, hm⟩ : ∃ m, bs.length = m := ⟨_, rfl⟩
  obtain ⟨Z, hZ⟩ : ∃ Z, PF.all X.K.fl (F.pl.left X.K.fl + bs.length + 1) F.pl true bs = Z := ⟨_, rfl⟩
  rw [hZ] at hq ⊢
  rw [hm] at hq ⊢ bW
  have HB := Lib.hid bW
  have kb := (Blk.new w 41 #[.int .i64 2, .int .i64 n, .slice A m c]).cell 2
  clear h hb hA hc hf h1 h2 bW hR hm hZ
  go_enter Tryz.func49, Tryz.ntmps49
  go_wp2_with (go_at_call 50; refine hq.mono ?_; rintro e w1 ⟨rfl, F1, hF1, hJ1, hW1⟩)
  go_returns
  exact ⟨rfl, F1, hF1, hJ1, (Went.of_below X F HB.out).trans hW1⟩

set_option maxRecDepth 100000 in
set_option maxHeartbeats 1000000 in
theorem does_err : ActDoes 51 3 := by
  intro w X F n A c bs h hb hA hc hf
  have h1 := hf.steps
  have h2 := hf.said false
  have bW := below_one w (.cells #[.int .i64 3, .int .i64 n, .slice A bs.length c] 41)
  have hq := all_any _ X F (h.below bW) false A c bs ((hb.below bW).more bW.size) hA hc (by show F.pl.steps + F.pl.left X.K.fl + bs.length < _; omega) (by show (F.pl.said false).length + bs.length ≤ _; omega) (F.pl.left X.K.fl + bs.length + 1) (Nat.lt_succ_self _) _ rfl
  have hR : F.pl.act X.K.fl 3 n bs = PF.all X.K.fl (F.pl.left X.K.fl + bs.length + 1) F.pl false bs := by simp [PF.act]
  rw [hR]
  obtain ⟨m, hm⟩ : ∃ m, bs.length = m := ⟨_, rfl⟩
  obtain ⟨Z, hZ⟩ : ∃ Z, PF.all X.K.fl (F.pl.left X.K.fl + bs.length + 1) F.pl false bs = Z := ⟨_, rfl⟩
  rw [hZ] at hq ⊢
  rw [hm] at hq ⊢ bW
  have HB := Lib.hid bW
  have kb := (Blk.new w 41 #[.int .i64 3, .int .i64 n, .slice A m c]).cell 2
  clear h hb hA hc hf h1 h2 bW hR hm hZ
  go_enter Tryz.func51, Tryz.ntmps51
  go_wp2_with (go_at_call 50; refine hq.mono ?_; rintro e w1 ⟨rfl, F1, hF1, hJ1, hW1⟩)
  go_returns
  exact ⟨rfl, F1, hF1, hJ1, (Went.of_below X F HB.out).trans hW1⟩

set_option maxRecDepth 100000 in
set_option maxHeartbeats 1000000 in
theorem does_hold : ActDoes 52 4 := by
  intro w X F n A c bs h hb hA hc hf
  obtain ⟨k, hk, hkb⟩ := hf.held
  have bW := below_one w (.cells #[.int .i64 4, .int .i64 n, .slice A bs.length c] 41)
  have hq := jobHoldI _ X F (h.below bW) n hf.num k hk hkb
  obtain ⟨F1, hF1⟩ : ∃ F1, F.holds ((k : Int) + max 0 n) (max F.peak ((k : Int) + max 0 n)) = F1 := ⟨_, rfl⟩
  have hR : F.pl.act X.K.fl 4 n bs = (F1.pl, -1) := by
    rw [← hF1]
    unfold PF.act
    rw [if_neg (by decide), if_neg (by decide), if_neg (by decide), if_pos rfl, hk]
    rfl
  rw [hR]
  rw [hF1] at hq
  have HB := Lib.hid bW
  have kb := (Blk.new w 41 #[.int .i64 4, .int .i64 n, .slice A bs.length c]).cell 1
  clear h hb hA hc hf bW hR hF1 hk hkb
  go_enter Tryz.func52, Tryz.ntmps52
  go_wp2_with (go_at_call 53; refine hq.mono ?_; rintro e w1 ⟨rfl, hJ1, hW1⟩)
  go_returns
  exact ⟨rfl, F1, rfl, hJ1, (Went.of_below X F HB.out).trans hW1⟩

set_option maxRecDepth 100000 in
set_option maxHeartbeats 1000000 in
theorem does_drop : ActDoes 54 5 := by
  intro w X F n A c bs h hb hA hc hf
  obtain ⟨k, hk, hkb⟩ := hf.held
  have bW := below_one w (.cells #[.int .i64 5, .int .i64 n, .slice A bs.length c] 41)
  have hq := jobDropI _ X F (h.below bW) n hf.num k hk (by omega)
  obtain ⟨F1, hF1⟩ : ∃ F1, F.holds (dropped k n) F.peak = F1 := ⟨_, rfl⟩
  have hR : F.pl.act X.K.fl 5 n bs = (F1.pl, -1) := by
    rw [← hF1]
    unfold PF.act
    rw [if_neg (by decide), if_neg (by decide), if_neg (by decide), if_neg (by decide), if_pos rfl, hk]
    rfl
  rw [hR]
  rw [hF1] at hq
  have HB := Lib.hid bW
  have kb := (Blk.new w 41 #[.int .i64 5, .int .i64 n, .slice A bs.length c]).cell 1
  clear h hb hA hc hf bW hR hF1 hk hkb
  go_enter Tryz.func54, Tryz.ntmps54
  go_wp2_with (go_at_call 55; refine hq.mono ?_; rintro e w1 ⟨rfl, hJ1, hW1⟩)
  go_returns
  exact ⟨rfl, F1, rfl, hJ1, (Went.of_below X F HB.out).trans hW1⟩

set_option maxRecDepth 100000 in
set_option maxHeartbeats 1000000 in
theorem does_end : ActDoes 56 6 := by
  intro w X F n A c bs h hb hA hc hf
  have bW := below_one w (.cells #[.int .i64 6, .int .i64 n, .slice A bs.length c] 41)
  have hJ := h.below bW
  have hR : F.pl.act X.K.fl 6 n bs = (F.pl, n % 256) := by simp [PF.act]
  rw [hR]
  have HB := Lib.hid bW
  have HJ := Lib.hid hJ
  have ha := i64_and255 n
  have kb := (Blk.new w 41 #[.int .i64 6, .int .i64 n, .slice A bs.length c]).cell 1
  clear h hb hA hc hf bW hR hJ
  go_enter Tryz.func56, Tryz.ntmps56
  go_wp2_with fail
  go_returns
  exact ⟨rfl, F, rfl, HJ.out, Went.of_below X F HB.out⟩

theorem does_kind {k : Int} {id : FuncId} (h : kindOf k = some id) : ActDoes id k ∧ ∀ args W, (callFunc id args).run Tryz.prog W = .ok (.enter id args) W := by
  unfold kindOf at h
  split at h
  · subst k; cases h; exact ⟨does_copy, enters_of Tryz.func48 (by kernel_rfl) rfl⟩
  split at h
  · subst k; cases h; exact ⟨does_out, enters_of Tryz.func49 (by kernel_rfl) rfl⟩
  split at h
  · subst k; cases h; exact ⟨does_err, enters_of Tryz.func51 (by kernel_rfl) rfl⟩
  split at h
  · subst k; cases h; exact ⟨does_hold, enters_of Tryz.func52 (by kernel_rfl) rfl⟩
  split at h
  · subst k; cases h; exact ⟨does_drop, enters_of Tryz.func54 (by kernel_rfl) rfl⟩
  split at h
  · subst k; cases h; exact ⟨does_end, enters_of Tryz.func56 (by kernel_rfl) rfl⟩
  cases h
theorem PF.act_none {fl : List (Int × Int)} {s : PF} {k n : Int} {bs : List UInt8} (h : kindOf k = none) : s.act fl k n bs = (s, -1) := by
  unfold kindOf at h
  unfold PF.act
  repeat' split at h
  all_goals first | (cases h; done) | (simp [*])

end Go.Proofs.YtlncmknikjloeaaGreatDoor
end

section
namespace Go.Proofs.YtlncmknikjloeaaGreatDoor
open Go.RowKit Go.Maps Go.Shelf

/-- an act as it stands in memory -/
structure ActIt where
  k : Int
  n : Int
  A : Option Addr
  c : Nat
  bs : List UInt8
def actC (a : ActIt) : List Value := [.int .i64 a.k, .int .i64 a.n, .slice a.A a.bs.length a.c]
def actsC (l : List ActIt) : List Value := l.flatMap actC
theorem actsC_length (l : List ActIt) : (actsC l).length = l.length * 3 := by
  induction l with
  | nil => rfl
  | cons a l ih => rw [show actsC (a :: l) = actC a ++ actsC l from rfl, List.length_append, ih, show (actC a).length = 3 from rfl, List.length_cons]; omega
theorem actsC_at {l : List ActIt} {i : Nat} {a : ActIt} (h : l[i]? = some a) (j : Nat) (hj : j < 3) : (actsC l)[i * 3 + j]? = (actC a)[j]? := by
  induction l generalizing i with
  | nil => simp at h
  | cons b l ih =>
    have hl : (actC b).length = 3 := rfl
    have e : actsC (b :: l) = actC b ++ actsC l := rfl
    cases i with
    | zero =>
      obtain rfl : b = a := by simpa using h
      rw [e, List.getElem?_append_left (by rw [hl]; omega)]
      congr 1
      omega
    | succ i =>
      rw [e, List.getElem?_append_right (by rw [hl]; omega), hl, show (i + 1) * 3 + j - 3 = i * 3 + j by omega]
      exact ih (by simpa using h)

namespace PF
/-- acts one behind the other: the status -/
def acts (fl : List (Int × Int)) : PF → List ActIt → PF × Int
  | s, [] => (s, 0)
  | s, a :: l => if 0 ≤ (s.act fl a.k a.n a.bs).2 then s.act fl a.k a.n a.bs else acts fl (s.act fl a.k a.n a.bs).1 l
/-- what they ask of the numbers -/
def FitsAll (fl : List (Int × Int)) : PF → List ActIt → Prop
  | _, [] => True
  | s, a :: l => s.Fits fl a.n a.bs ∧ FitsAll fl (s.act fl a.k a.n a.bs).1 l
end PF

/-- the acts of a machine, and the kinds, where its main function finds them; all of it in blocks from L on -/
structure ActsIn (w : World) (L bl bk : Nat) (l : List ActIt) : Prop where
  box : ∃ v, Blk w bl 42 #[v] ∧ w.ownsRow L 41 3 v l.length (actsC l)
  bytes : ∀ a ∈ l, a.bs.length ≤ a.c ∧ w.ownsRow L 5 1 (.slice a.A a.bs.length a.c) a.bs.length (bytesC a.bs)
  kinds : ∃ mb, Blk w bk 107 #[.map (some mb)] ∧ MapOf w Tryz.prog 3 mb 6 kindF ∧ L ≤ mb
  low : L ≤ bl ∧ L ≤ bk
/-- blocks from L on are as they were -/
def KeptFrom (L : Nat) (w w' : World) : Prop := w.heap.size ≤ w'.heap.size ∧ ∀ g, L ≤ g → g < w.heap.size → w'.heap[g]? = w.heap[g]?
theorem KeptFrom.refl (L : Nat) (w : World) : KeptFrom L w w := ⟨Nat.le_refl _, fun _ _ _ => rfl⟩
theorem ActsIn.keep {w w' : World} {L bl bk : Nat} {l : List ActIt} (h : ActsIn w L bl bk l) (hk : KeptFrom L w w') : ActsIn w' L bl bk l := by
  obtain ⟨v, h1, h2⟩ := h.box
  obtain ⟨mb, h3, h4, h5⟩ := h.kinds
  refine ⟨⟨v, (hk.2 _ h.low.1 h1.lt).trans h1, ownsRow_same h2 fun g hg => hk.2 g (h2.lt g hg).1 (h2.lt g hg).2⟩, fun a ha => ?_, ⟨mb, (hk.2 _ h.low.2 h3.lt).trans h3, h4.same (hk.2 _ h5 h4.lt), h5⟩, h.low⟩
  obtain ⟨h6, h7⟩ := h.bytes a ha
  exact ⟨h6, ownsRow_same h7 fun g hg => hk.2 g (h7.lt g hg).1 (h7.lt g hg).2⟩

/-- how the main function of acts stands ahead of a round: what is done, and what there is yet -/
structure MainSt (X : Job) (F0 : Flow) (w0 : World) (L : Nat) (R : PF × Int) (rest : List ActIt) (F : Flow) (w : World) : Prop where
  job : JobOf w X F
  went : Went X F0 F w0 w
  kept : KeptFrom L w0 w
  off : ∀ g, L ≤ g → g < w0.heap.size → g ∉ X.foot F
  ends : F.pl.acts X.K.fl rest = R
  fits : F.pl.FitsAll X.K.fl rest
theorem MainSt.step {X : Job} {F0 F F' : Flow} {w0 w w' : World} {L : Nat} {R : PF × Int} {a : ActIt} {rest : List ActIt} (h : MainSt X F0 w0 L R (a :: rest) F w) (hJ : JobOf w' X F') (hW : Went X F F' w w') (hp : F'.pl = (F.pl.act X.K.fl a.k a.n a.bs).1) (hn : (F.pl.act X.K.fl a.k a.n a.bs).2 < 0) : MainSt X F0 w0 L R rest F' w' := by
  have hend := h.ends
  rw [PF.acts, if_neg (by omega)] at hend
  refine ⟨hJ, h.went.trans hW, ⟨Nat.le_trans h.kept.1 hW.turns.size, fun g h1 h2 => ?_⟩, fun g h1 h2 => ?_, by rw [hp]; exact hend, by rw [hp]; exact h.fits.2⟩
  · exact (hW.away (Nat.lt_of_lt_of_le h2 h.kept.1) (h.off g h1 h2)).1.trans (h.kept.2 g h1 h2)
  · exact (hW.away (Nat.lt_of_lt_of_le h2 h.kept.1) (h.off g h1 h2)).2
theorem MainSt.below {X : Job} {F0 F : Flow} {w0 w w' : World} {L : Nat} {R : PF × Int} {rest : List ActIt} (h : MainSt X F0 w0 L R rest F w) (hb : Below w.heap.size w w') : MainSt X F0 w0 L R rest F w' :=
  ⟨h.job.below hb, h.went.trans (.of_below X F hb), ⟨Nat.le_trans h.kept.1 hb.size, fun g h1 h2 => (hb.block g (Nat.lt_of_lt_of_le h2 h.kept.1)).trans (h.kept.2 g h1 h2)⟩, h.off, h.ends, h.fits⟩

theorem actZero (w : World) : (zeroValue 112).run Tryz.prog w = .ok (.agg #[.nilFunc]) w := by kernel_rfl

set_option maxRecDepth 100000 in
set_option maxHeartbeats 2000000 in
theorem acts_main (w : World) (X : Job) (F : Flow) (h : JobOf w X F) (L bl bk : Nat) (l : List ActIt) (hl : ActsIn w L bl bk l) (hoff : ∀ g, L ≤ g → g < w.heap.size → g ∉ X.foot F) (hfit : F.pl.FitsAll X.K.fl l) (hk : ∀ a ∈ l, -9223372036854775808 ≤ a.k ∧ a.k ≤ 9223372036854775807) (hlen : l.length ≤ 2097152) :
    Calls Tryz.prog 38 #[.pointer (some ⟨X.p, 0, none⟩), .pointer (some ⟨bl, 0, none⟩), .pointer (some ⟨bk, 0, none⟩)] w fun e w' => e = .returned (.int .i64 (F.pl.acts X.K.fl l).2) ∧ ∃ F', F'.pl = (F.pl.acts X.K.fl l).1 ∧ JobOf w' X F' ∧ Went X F F' w w' := by
  obtain ⟨R, hR⟩ : ∃ R, F.pl.acts X.K.fl l = R := ⟨_, rfl⟩
  rw [hR]
  have H0 : Hid (MainSt X F w L R (l.drop 0) F w) := Lib.hid ⟨h, Went.refl _ _ _, KeptFrom.refl _ _, hoff, hR, hfit⟩
  have HA := Lib.hid hl
  have HK := Lib.hid hk
  obtain ⟨v, hb0, hrow⟩ := hl.box
  obtain ⟨n, hn⟩ : ∃ n, l.length = n := ⟨_, rfl⟩
  rw [hn] at hlen
  obtain ⟨A, cp, hv, _⟩ := own_slice hrow
  rw [hn] at hv
  subst hv
  have c0 : w.cell? ⟨bl, 0, none⟩ = some (.slice A n cp) := hb0.cell 0
  have HN := Lib.hid hn
  have HROW := Lib.hid hrow
  clear hb0 hrow hl hk hR h hoff hfit hn
  go_enter Tryz.func38, Tryz.ntmps38
  go_wp2_with fail
  go_loopw [12] (fun iv wr => ∃ (i : Nat) (F1 : Flow), i ≤ n ∧ iv = .int .i64 (i : Int) ∧ Hid (MainSt X F w L R (l.drop i) F1 wr)) (fun iv _ => n - (intOf iv).toNat)
  case atStart => exact ⟨0, F, Nat.zero_le _, rfl, H0⟩
  case round =>
    obtain ⟨i, F1, hi, rfl, HS⟩ := hrel
    by_cases hlt : i < n
    · obtain ⟨a, ha⟩ : ∃ a, l[i]? = some a := ⟨_, List.getElem?_eq_getElem (by rw [HN.out]; exact hlt)⟩
      have hdrop : l.drop i = a :: l.drop (i + 1) := by
        rw [List.drop_eq_getElem_cons (by rw [HN.out]; exact hlt)]
        rw [List.getElem?_eq_getElem (by rw [HN.out]; exact hlt)] at ha
        rw [Option.some.inj ha]
      have hmem : a ∈ l := List.mem_of_getElem? ha
      have HAW := HA.out.keep HS.out.kept
      have hke := HK.out a hmem
      have hbytes := HAW.bytes a hmem
      obtain ⟨mb, hbk, hmap, _⟩ := HAW.kinds
      have hS := HS.out
      rw [hdrop] at hS
      obtain ⟨g, hA, hra⟩ : ∃ g, A = some ⟨g, 0, none⟩ ∧ wr.rangeAt g (i * 3) (actC a) := by
        have hr : wr.ownsRow L 41 3 (.slice A n cp) l.length (actsC l) := ownsRow_same HROW.out fun g hg => HS.out.kept.2 g (HROW.out.lt g hg).1 (HROW.out.lt g hg).2
        rcases hr.2 with ⟨_, h0⟩ | ⟨g, cap, cur, e, _, hgb, _, _, _, hcur⟩
        · rw [HN.out] at h0; omega
        · simp only [Value.slice.injEq] at e
          refine ⟨g, e.1, fun j v hv => ?_⟩
          have hj : j < 3 := (List.getElem?_eq_some_iff.1 hv).1
          have h1 := (actsC_at ha j hj).trans hv
          rw [← hcur, List.getElem?_take] at h1
          split at h1
          · rw [Array.getElem?_toList] at h1
            exact (cell_of_row wr g (i * 3 + j) cur 41 (0, 0) hgb).trans h1
          · cases h1
      subst hA
      obtain ⟨k, m, A', c', bs⟩ := a
      obtain ⟨q, hq⟩ : ∃ q, bs.length = q := ⟨_, rfl⟩
      have hrd : Reads wr wr.heap.size 1 A' bs.length (bytesC bs) := by
        obtain ⟨_, _, e, _, _, h⟩ := own_slice hbytes.2
        cases e
        exact h
      have hao : ∀ ad, A' = some ad → ad.block ∉ X.foot F1 := fun ad e => by
        have h1 := HA.out.bytes _ hmem
        have h2 := h1.2.lt ad.block (by rw [e]; rfl)
        exact HS.out.off _ h2.1 h2.2
      have hkc : wr.cell? ⟨bk, 0, none⟩ = some (.map (some mb)) := hbk.cell 0
      have hcc := hbytes.1
      have hlk := kindF_of k
      obtain ⟨W, hW⟩ : ∃ W, wr.alloc (.cells #[.int .i64 k, .int .i64 m, .slice A' q c'] 41) = W := ⟨_, rfl⟩
      unfold actC at hra
      simp only at hra hcc hke
      rw [hq] at hra hcc
      have hone : (#[.int .i64 k, .int .i64 m, .slice A' q c'] : Array Value).all (·.oneCell') = true := by simp [Value.oneCell']
      have HRD := Lib.hid hrd
      have HAO := Lib.hid hao
      have HQ := Lib.hid hq
      have HMAP := Lib.hid hmap
      have HS2 := Lib.hid hS
      clear hrd hao hq hmap hS hdrop hmem HAW hbytes hbk hW
      cases hkd : kindOf k with
      | none =>
        rw [hkd] at hlk
        go_wp2_with (first
          | (refine wpList_load_mid rfl _ _ rfl g (i * 3) rfl [.int .i64 k, .int .i64 m, .slice A' q c'] _ hra Tryz.underlying41 rfl (by kernel_rfl) ?_)
          | (refine wpList_store_blk rfl 41 (.tmp 6) (.tmp 15) rfl wr.heap.size 41 #[.int .i64 0, .int .i64 0, .slice none 0 0] #[.int .i64 k, .int .i64 m, .slice A' q c'] rfl rfl (Blk.new wr _ _) rfl (by kernel_rfl) hone ?_; intro w2 b2 g2
             have hb2 : Below wr.heap.size wr w2 := (below_one wr _).grown g2 (by simp) (fun j hj => by cases hj; exact Nat.le_refl _)
             have k0 : w2.cell? ⟨wr.heap.size, 0, none⟩ = some (.int .i64 k) := b2.cell 0
             have lk := b2.lt
             have hkc2 : w2.cell? ⟨bk, 0, none⟩ = some (.map (some mb)) := (hb2.cell (World.block_lt_of_cell? wr _ hkc)).trans hkc
             have hmap2 := HMAP.out.same (hb2.block _ HMAP.out.lt))
          | (at_lookup; refine wpList_look_of _ rfl _ _ 107 rfl 3 112 intKeys Tryz.underlying107 (.agg #[.nilFunc]) (actZero _) mb 6 kindF rfl hmap2 _ (kindL k) rfl (keyOf_int_mk Tryz.underlying3 (WalkArith.wf_i64 (by omega))) ?_; rw [hlk]; simp only [Option.map_none, Option.getD_none, Option.isSome_none])
          | (refine wpList_store_blk rfl 112 (.tmp 7) (.tmp 21) rfl w2.heap.size 112 #[.nilFunc] #[.nilFunc] rfl rfl (Blk.new w2 _ _) rfl (by kernel_rfl) (by simp [Value.oneCell']) ?_; intro w3 b3 g3
             have hb3 : Below w2.heap.size w2 w3 := (below_one w2 _).grown g3 (by simp) (fun j hj => by cases hj; exact Nat.le_refl _)
             have hbw : Below wr.heap.size wr w3 := below_step hb2 hb3 (Nat.le_refl _)))
        have hrr := PF.act_none (fl := X.K.fl) (s := F1.pl) (n := m) (bs := bs) hkd
        go_roundw
        case rel => exact ⟨i + 1, F1, by omega, by go_num, Lib.hid ((HS2.out.step HS2.out.job (Went.refl _ _ _) (by simp only [hrr]) (by simp only [hrr]; decide)).below hbw)⟩
        case measure => simp [intOf]; omega
      | some id =>
        rw [hkd] at hlk
        obtain ⟨hdo, hen⟩ := does_kind hkd
        have hcall := fun W hb => hdo W X F1 m A' c' bs (HS2.out.job.below hb) ((HRD.out.below hb).more hb.size) HAO.out (by rw [HQ.out]; exact hcc) HS2.out.fits.1
        rw [HQ.out] at hcall
        obtain ⟨Z, hZ⟩ : ∃ Z, F1.pl.act X.K.fl k m bs = Z := ⟨_, rfl⟩
        rw [hZ] at hcall
        have HCALL := Lib.hid hcall
        have HZ := Lib.hid hZ
        clear hcall hZ hdo
        by_cases hz : 0 ≤ Z.2
        · skip
          go_wp2_with (first
            | (refine wpList_load_mid rfl _ _ rfl g (i * 3) rfl [.int .i64 k, .int .i64 m, .slice A' q c'] _ hra Tryz.underlying41 rfl (by kernel_rfl) ?_)
            | (refine wpList_store_blk rfl 41 (.tmp 6) (.tmp 15) rfl wr.heap.size 41 #[.int .i64 0, .int .i64 0, .slice none 0 0] #[.int .i64 k, .int .i64 m, .slice A' q c'] rfl rfl (Blk.new wr _ _) rfl (by kernel_rfl) hone ?_; intro w2 b2 g2
               have hb2 : Below wr.heap.size wr w2 := (below_one wr _).grown g2 (by simp) (fun j hj => by cases hj; exact Nat.le_refl _)
               have k0 : w2.cell? ⟨wr.heap.size, 0, none⟩ = some (.int .i64 k) := b2.cell 0
               have lk := b2.lt
               have hkc2 : w2.cell? ⟨bk, 0, none⟩ = some (.map (some mb)) := (hb2.cell (World.block_lt_of_cell? wr _ hkc)).trans hkc
               have hmap2 := HMAP.out.same (hb2.block _ HMAP.out.lt))
            | (at_lookup; refine wpList_look_of _ rfl _ _ 107 rfl 3 112 intKeys Tryz.underlying107 (.agg #[.nilFunc]) (actZero _) mb 6 kindF rfl hmap2 _ (kindL k) rfl (keyOf_int_mk Tryz.underlying3 (WalkArith.wf_i64 (by omega))) ?_; rw [hlk]; simp only [Option.map_some, Option.getD_some, Option.isSome_some, kindV])
            | (refine wpList_store_blk rfl 112 (.tmp 7) (.tmp 21) rfl w2.heap.size 112 #[.nilFunc] #[.func (.func id) #[] #[]] rfl rfl (Blk.new w2 _ _) rfl (by kernel_rfl) (by simp [Value.oneCell']) ?_; intro w3 b3 g3
               have hb3 : Below w2.heap.size w2 w3 := (below_one w2 _).grown g3 (by simp) (fun j hj => by cases hj; exact Nat.le_refl _)
               have hbw : Below wr.heap.size wr w3 := below_step hb2 hb3 (Nat.le_refl _)
               have f0 : w3.cell? ⟨w2.heap.size, 0, none⟩ = some (.func (.func id) #[] #[]) := b3.cell 0
               have lf := b3.lt
               have b23 : Blk w3 wr.heap.size 41 #[.int .i64 k, .int .i64 m, .slice A' q c'] := Blk.on b2 hb3)
            | (refine wpList_load_row rfl 41 (.tmp 6) rfl wr.heap.size rfl 41 #[.int .i64 k, .int .i64 m, .slice A' q c'] (0, 0) _ b23 Tryz.underlying41 rfl (by kernel_rfl) ?_)
            | (refine (HCALL.out w3 hbw).mono ?_; rintro e w4 ⟨rfl, F2, hF2, hJ4, hW4⟩))
          go_returns
          have he := HS2.out.ends
          rw [PF.acts] at he
          simp only at he
          rw [HZ.out, if_pos hz] at he
          rw [← he]
          exact ⟨rfl, F2, hF2, hJ4, (HS2.out.below hbw).went.trans hW4⟩
        · skip
          go_wp2_with (first
            | (refine wpList_load_mid rfl _ _ rfl g (i * 3) rfl [.int .i64 k, .int .i64 m, .slice A' q c'] _ hra Tryz.underlying41 rfl (by kernel_rfl) ?_)
            | (refine wpList_store_blk rfl 41 (.tmp 6) (.tmp 15) rfl wr.heap.size 41 #[.int .i64 0, .int .i64 0, .slice none 0 0] #[.int .i64 k, .int .i64 m, .slice A' q c'] rfl rfl (Blk.new wr _ _) rfl (by kernel_rfl) hone ?_; intro w2 b2 g2
               have hb2 : Below wr.heap.size wr w2 := (below_one wr _).grown g2 (by simp) (fun j hj => by cases hj; exact Nat.le_refl _)
               have k0 : w2.cell? ⟨wr.heap.size, 0, none⟩ = some (.int .i64 k) := b2.cell 0
               have lk := b2.lt
               have hkc2 : w2.cell? ⟨bk, 0, none⟩ = some (.map (some mb)) := (hb2.cell (World.block_lt_of_cell? wr _ hkc)).trans hkc
               have hmap2 := HMAP.out.same (hb2.block _ HMAP.out.lt))
            | (at_lookup; refine wpList_look_of _ rfl _ _ 107 rfl 3 112 intKeys Tryz.underlying107 (.agg #[.nilFunc]) (actZero _) mb 6 kindF rfl hmap2 _ (kindL k) rfl (keyOf_int_mk Tryz.underlying3 (WalkArith.wf_i64 (by omega))) ?_; rw [hlk]; simp only [Option.map_some, Option.getD_some, Option.isSome_some, kindV])
            | (refine wpList_store_blk rfl 112 (.tmp 7) (.tmp 21) rfl w2.heap.size 112 #[.nilFunc] #[.func (.func id) #[] #[]] rfl rfl (Blk.new w2 _ _) rfl (by kernel_rfl) (by simp [Value.oneCell']) ?_; intro w3 b3 g3
               have hb3 : Below w2.heap.size w2 w3 := (below_one w2 _).grown g3 (by simp) (fun j hj => by cases hj; exact Nat.le_refl _)
               have hbw : Below wr.heap.size wr w3 := below_step hb2 hb3 (Nat.le_refl _)
               have f0 : w3.cell? ⟨w2.heap.size, 0, none⟩ = some (.func (.func id) #[] #[]) := b3.cell 0
               have lf := b3.lt
               have b23 : Blk w3 wr.heap.size 41 #[.int .i64 k, .int .i64 m, .slice A' q c'] := Blk.on b2 hb3)
            | (refine wpList_load_row rfl 41 (.tmp 6) rfl wr.heap.size rfl 41 #[.int .i64 k, .int .i64 m, .slice A' q c'] (0, 0) _ b23 Tryz.underlying41 rfl (by kernel_rfl) ?_)
            | (refine (HCALL.out w3 hbw).mono ?_; rintro e w4 ⟨rfl, F2, hF2, hJ4, hW4⟩))
          go_roundw
          case rel => exact ⟨i + 1, F2, by omega, by go_num, Lib.hid ((HS2.out.below hbw).step hJ4 hW4 (by rw [hF2]; simp only [HZ.out]) (by simp only [HZ.out]; omega))⟩
          case measure => simp [intOf]; omega
    · obtain rfl : i = n := by omega
      have hS := HS.out
      have he := hS.ends
      rw [List.drop_eq_nil_of_le (by rw [HN.out]; exact Nat.le_refl _)] at he
      go_wp2_with fail
      go_returns
      rw [← he]
      exact ⟨rfl, F1, rfl, hS.job, hS.went⟩

end Go.Proofs.YtlncmknikjloeaaGreatDoor
end

section
namespace Go.Proofs.YtlncmknikjloeaaGreatDoor
open Go.RowKit Go.Maps

theorem Tryz.infoAct : (Tryz.prog.info? 41).map (fun i => (i.zero, i.size, i.bytes)) = some (some (.agg #[.int .i64 0, .int .i64 0, .slice none 0 0]), 3, 40) := by kernel_rfl
theorem actsC_oneCell (l : List ActIt) : ∀ u ∈ actsC l, u.oneCell' = true := by
  intro u hu
  obtain ⟨a, _, hq⟩ := List.mem_flatMap.1 hu
  simp only [actC, List.mem_cons, List.not_mem_nil, or_false] at hq
  rcases hq with rfl | rfl | rfl <;> rfl

set_option maxHeartbeats 400000 in
theorem cloneA_any (A : Option Addr) (n cap : Nat) (l : List ActIt) (w : World) (B : Nat) (hn : n = l.length) (hr : Reads w B 3 A n (actsC l)) (hB : B ≤ w.heap.size) (hl : n ≤ 2097152) :
    Calls Tryz.prog 34 #[.slice A n cap] w fun e w' => ∃ v, e = .returned v ∧ w'.ownsRow w.heap.size 41 3 v n (actsC l) ∧ Below w.heap.size w w' := by
  have heq := fun (W : World) => Lib.run_eql_slice_nil (P := Tryz.prog) W 42 41 A n cap 0 0 Tryz.underlying42
  have hR := Lib.hid hr
  have hN := Lib.hid hn
  clear hr hn
  cases A with
  | none =>
    go_enter Tryz.func34, Tryz.ntmps34
    go_wp2
    go_returns
    have h0 : n = 0 := by
      rcases Nat.eq_zero_or_pos n with h | h
      · exact h
      · obtain ⟨ad, h, _⟩ := hR.out.2 h
        cases h
    have hnil : l = [] := List.eq_nil_of_length_eq_zero (hN.out.symm.trans h0)
    subst hnil h0
    exact ⟨_, rfl, World.ownsRow_nil _ _ _ _, Below.refl _ _⟩
  | some ad =>
    obtain ⟨iS, hiS, hS0, hS1, hS2⟩ := info_parts Tryz.infoAct
    have HI := Lib.hid hiS
    have H0 := Lib.hid hS0
    have H1 := Lib.hid hS1
    have H2 := Lib.hid hS2
    clear hiS hS0 hS1 hS2
    go_enter Tryz.func34, Tryz.ntmps34
    go_wp2_with (at_builtin; refine wpList_append_any _ rfl _ _ 42 rfl w.heap.size 41 iS (.agg #[.int .i64 0, .int .i64 0, .slice none 0 0]) 3 40 Tryz.underlying42 HI.out H0.out H1.out H2.out rfl (by decide) (.slice (some ⟨w.heap.size, 0, none⟩) 0 0) 0 [] rfl (World.ownsRow_made w #[] 0 (Nat.le_refl _) (by decide) rfl) w.heap.size (some ad) n cap (actsC l) rfl ((hR.out.more hB).alloc (Nat.le_refl _) _) (actsC_oneCell l) (by simp only [maxLen]; omega) (by omega) (by simp) ?_; intro v1 w1 hown1 hg1 hat1)
    go_returns
    refine ⟨v1, rfl, by simpa using hown1, ((Below.refl _ _).alloc (Nat.le_refl _) _).grown hg1 (by simp) (fun k hk => ?_)⟩
    simp [Value.ownBlock] at hk
    omega

set_option maxHeartbeats 400000 in
theorem cloneU_any (w : World) (A : Option Addr) (c : Nat) (bs : List UInt8) (h : Bytes w w.heap.size (.slice A bs.length c) bs) (hl : bs.length ≤ 140737488355328) :
    Calls Tryz.prog 35 #[.slice A bs.length c] w fun e w' => ∃ v, e = .returned v ∧ w'.ownsRow w.heap.size 5 1 v bs.length (bytesC bs) ∧ Below w.heap.size w w' := by
  obtain ⟨A', cap', e, h2, h3, h4, h5⟩ := h
  cases e
  obtain ⟨n, hn⟩ : ∃ n, bs.length = n := ⟨_, rfl⟩
  rw [hn] at h2 h5 hl ⊢
  have hR := Lib.hid h5
  have hN := Lib.hid hn
  cases A with
  | none =>
    have hc := h4 rfl
    subst hc
    obtain rfl : n = 0 := by omega
    refine (cloneU_nil w).mono ?_
    rintro e w' ⟨rfl, rfl⟩
    have hnil : bs = [] := List.eq_nil_of_length_eq_zero hN.out
    subst hnil
    exact ⟨_, rfl, World.ownsRow_nil _ _ _ _, Below.refl _ _⟩
  | some ad =>
    have heq := fun (W : World) => Lib.run_eql_slice_nil (P := Tryz.prog) W 39 5 (some ad) n c 0 0 Tryz.underlying39
    obtain ⟨iB, hiB, hB0, hB1, hB2⟩ := info_parts Tryz.infoByte
    have HI := Lib.hid hiB
    have H0 := Lib.hid hB0
    have H1 := Lib.hid hB1
    have H2 := Lib.hid hB2
    clear hiB hB0 hB1 hB2 h5 hn
    go_enter Tryz.func35, Tryz.ntmps35
    go_wp2_with (at_builtin; refine wpList_append_any _ rfl _ _ 39 rfl w.heap.size 5 iB (.int .u8 0) 1 1 Tryz.underlying39 HI.out H0.out H1.out H2.out rfl (by decide) (.slice (some ⟨w.heap.size, 0, none⟩) 0 0) 0 [] rfl (World.ownsRow_made w #[] 0 (Nat.le_refl _) (by decide) rfl) w.heap.size (some ad) n c (bytesC bs) rfl (hR.out.alloc (Nat.le_refl _) _) (bytesC_oneCell bs) (by simp only [maxLen]; omega) (by omega) (by simp) ?_; intro v1 w1 hown1 hg1 hat1)
    go_returns
    refine ⟨v1, rfl, by simpa using hown1, ((Below.refl _ _).alloc (Nat.le_refl _) _).grown hg1 (by simp) (fun k hk => ?_)⟩
    simp [Value.ownBlock] at hk
    omega

/-- an act without its place in memory -/
def ActIt.strip (a : ActIt) : Int × Int × List UInt8 := (a.k, a.n, a.bs)
theorem PF.acts_strip (fl : List (Int × Int)) : ∀ (l l' : List ActIt) (s : PF), l.map ActIt.strip = l'.map ActIt.strip → s.acts fl l = s.acts fl l' ∧ (s.FitsAll fl l → s.FitsAll fl l')
  | [], [], _, _ => ⟨rfl, id⟩
  | [], b :: l', _, h => by simp at h
  | a :: l, [], _, h => by simp at h
  | a :: l, b :: l', s, h => by
    simp only [List.map_cons, List.cons.injEq, ActIt.strip, Prod.mk.injEq] at h
    obtain ⟨⟨h1, h2, h3⟩, h4⟩ := h
    have ih := fun s' => PF.acts_strip fl l l' s' h4
    rw [PF.acts, PF.acts, h1, h2, h3]
    refine ⟨by rw [(ih _).1], ?_⟩
    unfold PF.FitsAll
    rw [h1, h2, h3]
    exact fun h => ⟨h.1, (ih _).2 h.2⟩

end Go.Proofs.YtlncmknikjloeaaGreatDoor
end

section
namespace Go.Proofs.YtlncmknikjloeaaGreatDoor
open Go.RowKit Go.Maps

/-- how Acts stands ahead of a round: the first i acts have bytes of their own -/
structure RowSt (w : World) (L bl : Nat) (A1 : Option Addr) (c1 : Nat) (l : List ActIt) (i : Nat) (l1 : List ActIt) (W : World) : Prop where
  below : Below L w W
  box : Blk W bl 42 #[.slice A1 l.length c1]
  own : W.ownsRow L 41 3 (.slice A1 l.length c1) l.length (actsC l1)
  same : l1.map ActIt.strip = l.map ActIt.strip
  done : ∀ j a, j < i → l1[j]? = some a → a.bs.length ≤ a.c ∧ W.ownsRow L 5 1 (.slice a.A a.bs.length a.c) a.bs.length (bytesC a.bs)
  todo : ∀ j, i ≤ j → l1[j]? = l[j]?

theorem actC_set (l : List ActIt) (i : Nat) (a b : ActIt) (h : l[i]? = some a) (hk : b.k = a.k) (hn : b.n = a.n) : (actsC l).set (i * 3 + 2) (.slice b.A b.bs.length b.c) = actsC (l.set i b) := by
  induction l generalizing i with
  | nil => simp at h
  | cons x l ih =>
    have e : ∀ (y : ActIt) (l : List ActIt), actsC (y :: l) = .int .i64 y.k :: .int .i64 y.n :: .slice y.A y.bs.length y.c :: actsC l := fun _ _ => rfl
    cases i with
    | zero =>
      obtain rfl : x = a := by simpa using h
      simp [e, hk, hn]
    | succ i =>
      have := ih i (by simpa using h)
      rw [e, show (i + 1) * 3 + 2 = i * 3 + 2 + 1 + 1 + 1 by omega]
      simp [e, this]

theorem RowSt.next {w : World} {L bl g c1 : Nat} {l : List ActIt} {i : Nat} {l1 : List ActIt} {W W1 : World} (h : RowSt w L bl (some ⟨g, 0, none⟩) c1 l i l1 W) (hL : L ≤ W.heap.size) (hb : Below W.heap.size W W1) {a : ActIt} (ha : l1[i]? = some a) {A : Option Addr} {c : Nat}
    (hown : W1.ownsRow W.heap.size 5 1 (.slice A a.bs.length c) a.bs.length (bytesC a.bs)) : RowSt w L bl (some ⟨g, 0, none⟩) c1 l (i + 1) (l1.set i { a with A := A, c := c }) (W1.setCell ⟨g, i * 3 + 2, none⟩ (.slice A a.bs.length c)) := by
  have hi : i < l1.length := (List.getElem?_eq_some_iff.1 ha).1
  have h1 : W1.ownsRow L 41 3 (.slice (some ⟨g, 0, none⟩) l.length c1) l.length (actsC l1) := own_on h.own hb
  have h2 := h1.stored (i * 3 + 2) (.slice A a.bs.length c)
  have hgL : L ≤ g := (h.own.lt g rfl).1
  have hgb : g ≠ bl := fun e => own_blk_ne h.own h.box (by decide) (by rw [e]; rfl)
  refine ⟨?_, ?_, ?_, ?_, ?_, ?_⟩
  · exact (h.below.trans (hb.mono hL)).setCell hgL _
  · exact (Blk.on h.box hb).far (Ne.symm hgb) _
  · have e := actC_set l1 i a { a with A := A, c := c } ha rfl rfl
    rw [← e]
    exact h2.1
  · rw [← h.same]
    apply List.ext_getElem?
    intro j
    simp only [List.getElem?_map, List.getElem?_set]
    by_cases e : i = j
    · subst e
      rw [if_pos rfl, if_pos hi, ha]
      rfl
    · rw [if_neg e]
  · intro j b hj hb2
    simp only [List.getElem?_set] at hb2
    by_cases e : i = j
    · subst e
      rw [if_pos rfl, if_pos hi] at hb2
      cases hb2
      obtain ⟨_, _, e2, hcc, _⟩ := own_slice hown
      cases e2
      refine ⟨hcc, ?_⟩
      exact ownsRow_same (Joins.ownsRow_le hown hL) fun q hq => Below.heap_setCell _ _ _ _ (fun e3 => by
        have h3 := (hown.lt q hq).1
        have h4 := (h.own.lt g rfl).2
        simp only at e3
        omega)
    · rw [if_neg e] at hb2
      obtain ⟨h3, h4⟩ := h.done j b (by omega) hb2
      refine ⟨h3, ownsRow_same (own_on h4 hb) fun q hq => Below.heap_setCell _ _ _ _ (fun e3 => ?_)⟩
      simp only at e3
      subst e3
      exact own_ne_own h4 h.own (by decide) hq rfl
  · intro j hj
    rw [List.getElem?_set_ne (by omega)]
    exact h.todo j (by omega)

set_option maxRecDepth 100000 in
set_option maxHeartbeats 2000000 in
theorem acts_new (w : World) (p : Nat) (A : Option Addr) (c : Nat) (l : List ActIt) (hr : Reads w w.heap.size 3 A l.length (actsC l)) (hlen : l.length ≤ 2097152) (hB : ∀ a ∈ l, Bytes w w.heap.size (.slice a.A a.bs.length a.c) a.bs ∧ a.bs.length ≤ 140737488355328) (Q : Nat → World → Prop)
    (hgo : ∀ W bl bk l', Below w.heap.size w W → l'.map ActIt.strip = l.map ActIt.strip → ActsIn W w.heap.size bl bk l' → Calls Tryz.prog 37 #[.pointer (some ⟨p, 0, none⟩), .func (.func 38) #[] #[.pointer (some ⟨bl, 0, none⟩), .pointer (some ⟨bk, 0, none⟩)]] W fun e w' => ∃ m, e = .returned (.pointer (some ⟨m, 0, none⟩)) ∧ Q m w') :
    Calls Tryz.prog 12 #[.pointer (some ⟨p, 0, none⟩), .slice A l.length c] w fun e w' => ∃ m, e = .returned (.pointer (some ⟨m, 0, none⟩)) ∧ Q m w' := by
  have hmf : ∀ (fn : Fn) (first cap : Array Value) (w : World), (Instr.makeFunc fn first cap).run Tryz.prog w = .ok (.func fn first cap) w := fun _ _ _ _ => rfl
  obtain ⟨n, hn⟩ : ∃ n, l.length = n := ⟨_, rfl⟩
  obtain ⟨L, hL⟩ : ∃ L, w.heap.size = L := ⟨_, rfl⟩
  have bW0 : Below w.heap.size w (w.alloc (.cells #[.slice A n c] 42)) := below_one w _
  have kb0 := Blk.new w 42 #[.slice A n c]
  have hcl := cloneA_any A n c l (w.alloc (.cells #[.slice A n c] 42)) w.heap.size hn.symm (by rw [← hn] at bW0 ⊢; exact hr.below bW0) bW0.size (by omega)
  obtain ⟨W0, hW0⟩ : ∃ W0, w.alloc (.cells #[.slice A n c] 42) = W0 := ⟨_, rfl⟩
  have hs0 : L < W0.heap.size := by rw [← hW0, ← hL]; exact kb0.lt
  rw [hW0] at bW0 kb0 hcl
  have HN := Lib.hid hn
  have HL := Lib.hid hL
  have HB := Lib.hid hB
  have HGO := Lib.hid hgo
  have c0 := kb0.cell 0
  rw [hn] at hlen ⊢
  rw [hL] at bW0 kb0 c0
  clear hr hB hgo hn
  go_enter Tryz.func12, Tryz.ntmps12
  go_wp2_with (go_at_call 34; refine hcl.mono ?_; rintro e w1 ⟨v1, rfl, hown1, hb1⟩; obtain ⟨A1, c1, rfl, hcp1, _⟩ := own_slice hown1; have kb1 : Blk w1 L 42 #[.slice A n c] := Blk.on kb0 hb1; have k10 := kb1.cell 0; have k1f := kb1.frozen 0; have lk1 := kb1.lt)
  obtain ⟨W1, hW1⟩ : ∃ W1, w1.setCell ⟨L, 0, none⟩ (.slice A1 n c1) = W1 := ⟨_, rfl⟩
  have b01 : Below L w w1 := bW0.trans (hb1.mono (Nat.le_of_lt hs0))
  have hown1' : w1.ownsRow L 41 3 (.slice A1 n c1) n (actsC l) := Joins.ownsRow_le hown1 (Nat.le_of_lt hs0)
  have hS0 : RowSt w L L A1 c1 l 0 l W1 := by
    rw [← hW1]
    refine ⟨b01.setCell (Nat.le_refl _) _, ?_, ?_, rfl, fun j a hj _ => absurd hj (Nat.not_lt_zero _), fun _ _ => rfl⟩
    · rw [HN.out]; exact kb1.set_ 0 _
    · rw [HN.out]; exact ownsRow_setCell_other hown1' (fun e => by have := (hown1.lt _ e).1; simp only at this; omega) _
  have HS0 := Lib.hid hS0
  have hLW : L ≤ W1.heap.size := by rw [← hW1, World.size_setCell]; omega
  rw [hW1]
  clear hW1 b01 hown1' hS0 kb1 k10 k1f lk1 hown1 hb1 hcl kb0 bW0 c0
  go_loopw [11] (fun iv wr => ∃ (i : Nat) (l1 : List ActIt), i ≤ n ∧ iv = .int .i64 (i : Int) ∧ L ≤ wr.heap.size ∧ Hid (RowSt w L L A1 c1 l i l1 wr)) (fun iv _ => n - (intOf iv).toNat)
  case atStart => exact ⟨0, l, Nat.zero_le _, rfl, hLW, HS0⟩
  case round =>
    obtain ⟨i, l1, hi, rfl, hLr, HS⟩ := hrel
    by_cases hlt : i < n
    · obtain ⟨a, ha⟩ : ∃ a, l[i]? = some a := ⟨_, List.getElem?_eq_getElem (by rw [HN.out]; exact hlt)⟩
      have ha1 : l1[i]? = some a := (HS.out.todo i (Nat.le_refl _)).trans ha
      obtain ⟨g, hA⟩ : ∃ g, A1 = some ⟨g, 0, none⟩ := by
        rcases HS.out.own.2 with ⟨_, h0⟩ | ⟨g, cap, cur, e, _⟩
        · rw [HN.out] at h0; omega
        · simp only [Value.slice.injEq] at e
          exact ⟨g, e.1⟩
      subst hA
      have hbox := HS.out.box
      have hown := HS.out.own
      rw [HN.out] at hbox hown
      have hgb : g ≠ L := fun e => own_blk_ne hown hbox (by decide) (by rw [e]; rfl)
      have hgl := (hown.lt g rfl).2
      have m0 : wr.cell? ⟨L, 0, none⟩ = some (.slice (some ⟨g, 0, none⟩) n c1) := hbox.cell 0
      have m2 : wr.cell? ⟨g, i * 3 + 2, none⟩ = some (.slice a.A a.bs.length a.c) := by
        rw [hown.cellAt (i * 3 + 2) (by omega)]
        exact (actsC_at ha1 2 (by decide)).trans rfl
      obtain ⟨q, hq⟩ : ∃ q, a.bs.length = q := ⟨_, rfl⟩
      obtain ⟨aA, haA⟩ : ∃ x, a.A = x := ⟨_, rfl⟩
      obtain ⟨ac, hac⟩ : ∃ x, a.c = x := ⟨_, rfl⟩
      have hby := HB.out a (List.mem_of_getElem? ha)
      have hclo := cloneU_any wr.drew a.A a.c a.bs ((hby.1.below (by rw [HL.out]; exact HS.out.below.trans (below_drew _ 1))).more (by rw [HL.out]; exact hLr)) hby.2
      rw [hq, haA, hac] at hclo
      rw [hq, haA, hac] at m2
      have mL : L < wr.heap.size := hbox.lt
      have HQ := Lib.hid hq
      have HA1 := Lib.hid ha1
      clear hbox hown hq haA hac hby ha ha1
      have hi0 : (0 : Int) ≤ (i : Int) := by omega
      have hi1 : (i : Int) < (n : Int) := by omega
      have mf : wr.frozen? ⟨g, i * 3 + 2, none⟩ = false := HS.out.own.frozenAt _
      go_wp2_with fail
      go_region_with (go_at_call 35; refine hclo.mono ?_; rintro e w4 ⟨v, rfl, hown4, hb4⟩
                      obtain ⟨A4, c4, rfl, _⟩ := own_slice hown4
                      have hb5 : Below wr.heap.size wr w4 := (below_drew wr 1).trans hb4
                      have n0 : w4.cell? ⟨L, 0, none⟩ = some (.slice (some ⟨g, 0, none⟩) n c1) := (hb5.cell (p := ⟨L, 0, none⟩) mL).trans m0
                      have n2 : w4.cell? ⟨g, i * 3 + 2, none⟩ = some (.slice aA q ac) := (hb5.cell (p := ⟨g, i * 3 + 2, none⟩) hgl).trans m2
                      have n3 : w4.frozen? ⟨g, i * 3 + 2, none⟩ = false := (hb5.frozen (p := ⟨g, i * 3 + 2, none⟩) hgl).trans mf
                      have n4 : g < w4.heap.size := Nat.lt_of_lt_of_le hgl hb5.size)
      all_goals
        have hnx := HS.out.next hLr hb5 HA1.out (A := A4) (c := c4) (by rw [HQ.out]; exact hown4)
        rw [HQ.out] at hnx
        have HNX := Lib.hid hnx
        clear hnx
        go_wp2_with fail
        go_roundw
        case rel => exact ⟨i + 1, _, by omega, by go_num, by rw [World.size_setCell]; exact Nat.le_trans hLr hb5.size, HNX⟩
        case measure => simp [intOf]; omega
    · obtain rfl : i = n := by omega
      have hmap := acts_map wr
      obtain ⟨mb, hmb⟩ : ∃ mb, wr.heap.size = mb := ⟨_, rfl⟩
      have HMB := Lib.hid hmb
      have hfin : ∀ W2, Below wr.heap.size wr W2 → MapOf W2 Tryz.prog 3 wr.heap.size 6 kindF → ∀ W3, Below W2.heap.size W2 W3 → Blk W3 W2.heap.size 107 #[.map (some wr.heap.size)] → Calls Tryz.prog 37 #[.pointer (some ⟨p, 0, none⟩), .func (.func 38) #[] #[.pointer (some ⟨L, 0, none⟩), .pointer (some ⟨W2.heap.size, 0, none⟩)]] W3 fun e w' => ∃ m, e = .returned (.pointer (some ⟨m, 0, none⟩)) ∧ Q m w' := by
        intro W2 h2 hm2 W3 h3 hk3
        have h23 : Below wr.heap.size wr W3 := below_step h2 h3 (Nat.le_refl _)
        refine HGO.out W3 L W2.heap.size l1 ?_ HS.out.same ?_
        · rw [HL.out]; exact HS.out.below.trans (h23.mono hLr)
        · rw [HL.out]
          have hll : l1.length = l.length := by have := congrArg List.length HS.out.same; simpa using this
          refine ⟨⟨_, Blk.on HS.out.box h23, by rw [hll]; exact own_on HS.out.own h23⟩, fun a ha => ?_, ⟨_, hk3, hm2.same (h3.block _ hm2.lt), hLr⟩, Nat.le_refl _, Nat.le_trans hLr h2.size⟩
          obtain ⟨j, hj⟩ := List.getElem?_of_mem ha
          have hjl : j < l1.length := (List.getElem?_eq_some_iff.1 hj).1
          obtain ⟨h4, h5⟩ := HS.out.done j a (by rw [HN.out] at hll; omega) hj
          exact ⟨h4, own_on h5 h23⟩
      have HF := Lib.hid hfin
      clear hfin
      rw [hmb] at hmap
      go_wp2_with (first
        | (go_at_call 36; refine hmap.mono ?_; rintro e w2 ⟨rfl, hm2, hb2⟩)
        | (go_at_call 37; refine (HF.out w2 (by rw [HMB.out]; exact hb2) (by rw [HMB.out]; exact hm2) _ (below_one w2 _) (by rw [HMB.out]; exact Blk.new w2 _ _)).mono ?_; rintro e w3 ⟨m, rfl, hQ3⟩))
      go_returns
      exact ⟨m, rfl, hQ3⟩

end Go.Proofs.YtlncmknikjloeaaGreatDoor
end
