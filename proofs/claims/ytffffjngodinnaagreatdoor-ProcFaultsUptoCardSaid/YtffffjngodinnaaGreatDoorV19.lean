/-
  Parts of the proof: What Hold, Drop and Lim of a process do to a job; The map of the kinds of acts, and what each of them does to a job; What an act does to a job.
-/
import Derived.Test.YtffffjngodinnaaGreatDoorV18
import Derived.Shelf.Abstract

section
namespace Go.Proofs.YtffffjngodinnaaGreatDoor
open Go.RowKit Go.Maps

/-- a flow that holds so much -/
def Flow.holds (F : Flow) (h m : Int) : Flow := { F with held := h, peak := m }
theorem JobOf.holds {w w' : World} {X : Job} {F : Flow} (h : JobOf w X F) (hd m : Int) (ht : Turns [X.p] w w') (hb : Blk w' X.p 85 (procCells (X.J (F.holds hd m)))) : JobOf w' X (F.holds hd m) ∧ Went X F (F.holds hd m) w w' := by
  have hbk : ∀ {t : TypeId} {cs : Array Value} {g : Nat}, Blk w g t cs → t ≠ 85 → w'.heap[g]? = w.heap[g]? := fun hg h1 => ht.block _ hg.lt (by rw [List.mem_singleton]; exact Blk.ne_ hg h.proc.blk h1)
  have hrow : ∀ {n : Nat} {v : Value} {xs : List Value}, OffRow w 0 5 v n xs → OffRow w' 0 5 v n xs := fun hv => hv.same fun g hg => ht.block g (hv.lt hg).2 (by rw [List.mem_singleton]; exact fun e => hv.blk_ne h.proc.blk (by decide) (e ▸ hg))
  refine ⟨?_, ht.more (by simp [Job.foot, PS.foot]), fun g hg => .inl hg⟩
  exact {
    proc := ⟨hb, ownsRow_same h.proc.args fun g hg => ht.block g (h.proc.args.lt g hg).2 (by rw [List.mem_singleton]; rintro rfl; exact own_blk_ne h.proc.args h.proc.blk (by decide) hg),
      ownsRow_same h.proc.env fun g hg => ht.block g (h.proc.env.lt g hg).2 (by rw [List.mem_singleton]; rintro rfl; exact own_blk_ne h.proc.env h.proc.blk (by decide) hg),
      ownsRow_same h.proc.log fun g hg => ht.block g (h.proc.log.lt g hg).2 (by rw [List.mem_singleton]; rintro rfl; exact own_blk_ne h.proc.log h.proc.blk (by decide) hg)⟩
    kern := h.kern.turns ht fun g hg hm => h.kern.off h.proc.blk (by decide) (by decide) ((List.mem_singleton.1 hm) ▸ hg)
    table := (hbk h.table (by decide)).trans h.table
    may := h.may, top := h.top, at_ := h.at_, log := h.log, sinks := h.sinks, thing := h.thing
    src := (hbk h.src (by decide)).trans h.src
    inp := hrow h.inp
    sink := fun b => (hbk (h.sink b) (by decide)).trans (h.sink b)
    row := fun b => hrow (h.row b)
    rows := h.rows
    inrow := h.inrow }

theorem JobOf.setHolds {w : World} {X : Job} {F : Flow} (h : JobOf w X F) (a b : Int) : JobOf (((w.setCell ⟨X.p, 8, none⟩ (.int .i64 a)).setCell ⟨X.p, 9, none⟩ (.int .i64 b)).drew) X (F.holds a b) ∧ Went X F (F.holds a b) w (((w.setCell ⟨X.p, 8, none⟩ (.int .i64 a)).setCell ⟨X.p, 9, none⟩ (.int .i64 b)).drew) := by
  have b1 : Blk ((w.setCell ⟨X.p, 8, none⟩ (.int .i64 a)).setCell ⟨X.p, 9, none⟩ (.int .i64 b)) X.p 85 _ := (h.proc.blk.set_ 8 (.int .i64 a)).set_ 9 (.int .i64 b)
  refine h.holds a b ((((Turns.refl [X.p] w).setCell ⟨X.p, 8, none⟩ _ (fun _ => List.mem_singleton.2 rfl)).setCell ⟨X.p, 9, none⟩ _ (fun _ => List.mem_singleton.2 rfl)).drew) ?_
  rw [show procCells (X.J (F.holds a b)) = ((procCells (X.J F)).setIfInBounds 8 (.int .i64 a)).setIfInBounds 9 (.int .i64 b) by simp [procCells, Job.J, Flow.holds]]
  exact b1
theorem JobOf.setHeld {w : World} {X : Job} {F : Flow} (h : JobOf w X F) (a : Int) : JobOf ((w.setCell ⟨X.p, 8, none⟩ (.int .i64 a)).drew) X (F.holds a F.peak) ∧ Went X F (F.holds a F.peak) w ((w.setCell ⟨X.p, 8, none⟩ (.int .i64 a)).drew) := by
  have b1 : Blk (w.setCell ⟨X.p, 8, none⟩ (.int .i64 a)) X.p 85 _ := h.proc.blk.set_ 8 (.int .i64 a)
  refine h.holds a F.peak (((Turns.refl [X.p] w).setCell ⟨X.p, 8, none⟩ _ (fun _ => List.mem_singleton.2 rfl)).drew) ?_
  rw [show procCells (X.J (F.holds a F.peak)) = (procCells (X.J F)).setIfInBounds 8 (.int .i64 a) by simp [procCells, Job.J, Flow.holds]]
  exact b1

set_option maxRecDepth 100000 in
set_option maxHeartbeats 1000000 in
theorem jobHold (w : World) (X : Job) (F : Flow) (h : JobOf w X F) (n k : Nat) (hk : F.held = (k : Int)) (hb : k + n < 4611686018427387904) (m : Int) (hm : max F.peak ((k + n : Nat) : Int) = m) :
    Calls Tryz.prog 74 #[.pointer (some ⟨X.p, 0, none⟩), .int .i64 (n : Int)] w fun e w' => e = .returned (.tuple #[]) ∧ JobOf w' X (F.holds ((k + n : Nat) : Int) m) ∧ Went X F (F.holds ((k + n : Nat) : Int) m) w w' := by
  have hB := h.proc.blk
  have c8 : w.cell? ⟨X.p, 8, none⟩ = some (.int .i64 (k : Int)) := by rw [hB.cell 8, ← hk]; rfl
  have c9 : w.cell? ⟨X.p, 9, none⟩ = some (.int .i64 F.peak) := by rw [hB.cell 9]; rfl
  have f8 : w.frozen? ⟨X.p, 8, none⟩ = false := hB.frozen 8
  have f9 : w.frozen? ⟨X.p, 9, none⟩ = false := hB.frozen 9
  have lp := hB.lt
  have hx : max (0 : Int) (n : Int) = (n : Int) := by omega
  have hw : wrap64 ((k : Int) + (n : Int)) = ((k + n : Nat) : Int) := by rw [w64 _ (by omega)]; omega
  have fin : ∀ a b : Int, a = (k : Int) + (n : Int) → b = m → JobOf (((w.setCell ⟨X.p, 8, none⟩ (.int .i64 a)).setCell ⟨X.p, 9, none⟩ (.int .i64 b)).drew) X (F.holds ((k : Int) + (n : Int)) m) ∧ Went X F (F.holds ((k : Int) + (n : Int)) m) w (((w.setCell ⟨X.p, 8, none⟩ (.int .i64 a)).setCell ⟨X.p, 9, none⟩ (.int .i64 b)).drew) := by
    rintro a b rfl rfl
    exact h.setHolds _ _
  rw [Int.natCast_add] at hm
  go_enter Tryz.func74, Tryz.ntmps74
  go_wp2_with fail
  all_goals go_region
  all_goals go_wp2_with fail
  all_goals
    go_end0
    exact ⟨rfl, fin _ _ (by omega) (by omega)⟩

set_option maxRecDepth 100000 in
set_option maxHeartbeats 1000000 in
theorem jobDrop (w : World) (X : Job) (F : Flow) (h : JobOf w X F) (n : Nat) (hk : F.held = (n : Int)) (hb : n < 4611686018427387904) :
    Calls Tryz.prog 76 #[.pointer (some ⟨X.p, 0, none⟩), .int .i64 (n : Int)] w fun e w' => e = .returned (.tuple #[]) ∧ JobOf w' X (F.holds 0 F.peak) ∧ Went X F (F.holds 0 F.peak) w w' := by
  have hB := h.proc.blk
  have c8 : w.cell? ⟨X.p, 8, none⟩ = some (.int .i64 (n : Int)) := by rw [hB.cell 8, ← hk]; rfl
  have f8 : w.frozen? ⟨X.p, 8, none⟩ = false := hB.frozen 8
  have lp := hB.lt
  have h0 : n = 0 → JobOf w X (F.holds 0 F.peak) ∧ Went X F (F.holds 0 F.peak) w w := fun hn => by
    have : F.holds 0 F.peak = F := by
      cases F
      simp only [Flow.holds] at hk ⊢
      subst hk
      simp [hn]
    rw [this]
    exact ⟨h, Went.refl _ _ _⟩
  have hs := h.setHeld 0
  go_enter Tryz.func76, Tryz.ntmps76
  go_wp2_with fail
  · go_region
    go_wp2_with fail
    go_end0
    exact ⟨rfl, hs⟩
  · go_end0
    exact ⟨rfl, h0 (by omega)⟩

end Go.Proofs.YtffffjngodinnaaGreatDoor
end

section
namespace Go.Proofs.YtffffjngodinnaaGreatDoor
open Go.RowKit Go.Maps

section
variable {P : Program} (w : World) {ops : Array Oper} {rest : List Oper} {o : Oper} {a : Act} {Q : Exit → Act → World → Prop}
/-- an entry of a map's literal -/
theorem wpList_insert_of (hg : o.guard = none) (m x v : Operand) (t : TypeId) (hop : o.op = Op.insert t m x v) (k e : TypeId) (K : Keyed P k) (ht : P.underlying t = some (.map k e)) (b n : Nat) (f : Lit → Option Value)
    (hm : a.eval m = .map (some b)) (h : MapOf w P k b n f) (hn : n < maxLen) (key val : Value) (kl : Lit) (hx : a.eval x = key) (hv : a.eval v = val) (hkey : keyOf P k key = some kl) (hkl : WideAt.IsKeyLit kl)
    (hK : ∀ w', MapOf w' P k b (n + 1) (upd f kl (some val)) → w.grownBy w' (some b) → wpList P ops Q rest (a.put o.dst undef) w') : wpList P ops Q (o :: rest) a w := by
  refine wpList_plain hg fun K' hK' => ?_
  obtain ⟨w', hrun, r1, r2⟩ := h.store K ht hn (val := val) hkey hkl
  unfold Oper.wp
  simp [execOp, hop, hm, hx, hv, hrun, Result.andThen]
  exact hK' _ _ (hK w' r1 r2)
end

/-- what stands for a kind -/
def kindV (id : FuncId) : Value := .agg #[.func (.func id) #[] #[]]
def kindL (n : Int) : Lit := .int .i64 n
noncomputable def kindF : Lit → Option Value :=
  upd (upd (upd (upd (upd (upd (fun _ => none) (kindL 1) (some (kindV 69))) (kindL 2) (some (kindV 70))) (kindL 3) (some (kindV 72)))
    (kindL 4) (some (kindV 73))) (kindL 5) (some (kindV 75))) (kindL 6) (some (kindV 77))
/-- the function of a kind -/
def kindOf (n : Int) : Option FuncId := if n = 1 then some 69 else if n = 2 then some 70 else if n = 3 then some 72 else if n = 4 then some 73 else if n = 5 then some 75 else if n = 6 then some 77 else none
theorem kindL_ne {a b : Int} (h : a ≠ b) : kindL a ≠ kindL b := fun e => h (by unfold kindL at e; injection e)
theorem kindF_of (n : Int) : kindF (kindL n) = (kindOf n).map kindV := by
  unfold kindF kindOf
  by_cases h1 : n = 1
  · subst h1; simp [upd, kindL]
  by_cases h2 : n = 2
  · subst h2; simp [upd, kindL]
  by_cases h3 : n = 3
  · subst h3; simp [upd, kindL]
  by_cases h4 : n = 4
  · subst h4; simp [upd, kindL]
  by_cases h5 : n = 5
  · subst h5; simp [upd, kindL]
  by_cases h6 : n = 6
  · subst h6; simp [upd, kindL]
  rw [upd_other _ _ (kindL_ne h6), upd_other _ _ (kindL_ne h5), upd_other _ _ (kindL_ne h4), upd_other _ _ (kindL_ne h3), upd_other _ _ (kindL_ne h2), upd_other _ _ (kindL_ne h1)]
  simp [h1, h2, h3, h4, h5, h6]

set_option maxRecDepth 100000 in
set_option maxHeartbeats 2000000 in
theorem acts_map (w : World) : Calls Tryz.prog 38 #[] w fun e w' => e = .returned (.map (some w.heap.size)) ∧ MapOf w' Tryz.prog 3 w.heap.size 6 kindF ∧ Below w.heap.size w w' := by
  have hmm := @run_makeMap Tryz.prog
  obtain ⟨b, hb0⟩ : ∃ b, w.heap.size = b := ⟨_, rfl⟩
  obtain ⟨W, hW⟩ : ∃ W, w.alloc (.map #[] 0) = W := ⟨_, rfl⟩
  have hm : MapOf W Tryz.prog 3 b 0 (fun _ => none) := by rw [← hW, ← hb0]; exact MapOf.made w Tryz.prog 3
  have hb : Below b w W := by rw [← hW, ← hb0]; exact (Below.refl _ _).alloc (Nat.le_refl _) _
  have hbs : b ≤ W.heap.size := by rw [← hb0]; exact hb.size
  go_enter Tryz.func38, Tryz.ntmps38
  have hcls : ∀ W', MapOf W' Tryz.prog 3 b 6 kindF → MapOf W' Tryz.prog 3 b 6 kindF := fun _ h => h
  unfold kindF kindV kindL at hcls
  go_wp2_with (
    refine wpList_insert_of _ rfl _ _ _ 95 rfl 3 100 intKeys Tryz.underlying95 b _ _ rfl hm (by unfold maxLen; omega) _ _ _ rfl rfl (keyOf_int_mk Tryz.underlying3 (WalkArith.wf_i64 (by omega))) trivial ?_
    intro w2 hm2 hg2
    replace hb := hb.grown hg2 hbs (fun j hj => (by cases hj; exact Nat.le_refl _))
    replace hbs := Nat.le_trans hbs hg2.size
    replace hm := hm2
    clear hm2 hg2)
  go_returns
  exact ⟨by rw [hb0]; rfl, by rw [hb0]; exact hcls _ hm, by rw [hb0]; exact hb⟩

set_option maxRecDepth 100000 in
set_option maxHeartbeats 1000000 in
theorem jobHoldI (w : World) (X : Job) (F : Flow) (h : JobOf w X F) (n : Int) (hn : -9223372036854775808 ≤ n ∧ n ≤ 9223372036854775807) (k : Nat) (hk : F.held = (k : Int)) (hb : (k : Int) + max 0 n < 4611686018427387904) :
    Calls Tryz.prog 74 #[.pointer (some ⟨X.p, 0, none⟩), .int .i64 n] w fun e w' => e = .returned (.tuple #[]) ∧ JobOf w' X (F.holds ((k : Int) + max 0 n) (max F.peak ((k : Int) + max 0 n))) ∧ Went X F (F.holds ((k : Int) + max 0 n) (max F.peak ((k : Int) + max 0 n))) w w' := by
  have hB := h.proc.blk
  have c8 : w.cell? ⟨X.p, 8, none⟩ = some (.int .i64 (k : Int)) := by rw [hB.cell 8, ← hk]; rfl
  have c9 : w.cell? ⟨X.p, 9, none⟩ = some (.int .i64 F.peak) := by rw [hB.cell 9]; rfl
  have f8 : w.frozen? ⟨X.p, 8, none⟩ = false := hB.frozen 8
  have f9 : w.frozen? ⟨X.p, 9, none⟩ = false := hB.frozen 9
  have lp := hB.lt
  obtain ⟨t, ht⟩ : ∃ t : Int, (k : Int) + max 0 n = t := ⟨_, rfl⟩
  obtain ⟨m, hm⟩ : ∃ m : Int, max F.peak t = m := ⟨_, rfl⟩
  rw [ht, hm]
  have fin : ∀ a b : Int, a = t → b = m → JobOf (((w.setCell ⟨X.p, 8, none⟩ (.int .i64 a)).setCell ⟨X.p, 9, none⟩ (.int .i64 b)).drew) X (F.holds t m) ∧ Went X F (F.holds t m) w (((w.setCell ⟨X.p, 8, none⟩ (.int .i64 a)).setCell ⟨X.p, 9, none⟩ (.int .i64 b)).drew) := by
    rintro a b rfl rfl
    exact h.setHolds _ _
  by_cases hle : n ≤ 0
  · have hx : max (0 : Int) n = 0 := by omega
    have HT := Lib.hid (show t = (k : Int) by omega)
    have HM := Lib.hid hm
    clear ht hm
    go_enter Tryz.func74, Tryz.ntmps74
    go_wp2_with fail
    all_goals go_region
    all_goals go_wp2_with fail
    all_goals
      go_end0
      have h1 := HT.out
      have h2 := HM.out
      refine ⟨rfl, fin _ _ ?_ ?_⟩ <;> omega
  · have hx : max (0 : Int) n = n := by omega
    have HT := Lib.hid (show t = (k : Int) + n by omega)
    have HM := Lib.hid hm
    have hw : wrap64 ((k : Int) + n) = (k : Int) + n := w64 _ (by omega)
    clear ht hm
    go_enter Tryz.func74, Tryz.ntmps74
    go_wp2_with fail
    all_goals go_region
    all_goals go_wp2_with fail
    all_goals
      go_end0
      have h1 := HT.out
      have h2 := HM.out
      refine ⟨rfl, fin _ _ ?_ ?_⟩ <;> omega

/-- what is held behind a Drop -/
def dropped (k n : Int) : Int := if 0 < n then k - min n k else k
set_option maxRecDepth 100000 in
set_option maxHeartbeats 1000000 in
theorem jobDropI (w : World) (X : Job) (F : Flow) (h : JobOf w X F) (n : Int) (hn : -9223372036854775808 ≤ n ∧ n ≤ 9223372036854775807) (k : Nat) (hk : F.held = (k : Int)) (hb : k < 4611686018427387904) :
    Calls Tryz.prog 76 #[.pointer (some ⟨X.p, 0, none⟩), .int .i64 n] w fun e w' => e = .returned (.tuple #[]) ∧ JobOf w' X (F.holds (dropped k n) F.peak) ∧ Went X F (F.holds (dropped k n) F.peak) w w' := by
  have hB := h.proc.blk
  have c8 : w.cell? ⟨X.p, 8, none⟩ = some (.int .i64 (k : Int)) := by rw [hB.cell 8, ← hk]; rfl
  have f8 : w.frozen? ⟨X.p, 8, none⟩ = false := hB.frozen 8
  have lp := hB.lt
  obtain ⟨t, ht⟩ : ∃ t, dropped k n = t := ⟨_, rfl⟩
  rw [ht]
  have fin : ∀ a : Int, a = t → JobOf ((w.setCell ⟨X.p, 8, none⟩ (.int .i64 a)).drew) X (F.holds t F.peak) ∧ Went X F (F.holds t F.peak) w ((w.setCell ⟨X.p, 8, none⟩ (.int .i64 a)).drew) := by
    rintro a rfl
    exact h.setHeld _
  by_cases hle : 0 < n
  · have HT := Lib.hid (show t = (k : Int) - min n k by rw [← ht, dropped, if_pos hle])
    have hw : wrap64 ((k : Int) - n) = (k : Int) - n := w64 _ (by omega)
    clear ht
    go_enter Tryz.func76, Tryz.ntmps76
    go_wp2_with fail
    go_region
    all_goals go_wp2_with fail
    all_goals
      go_end0
      have h1 := HT.out
      refine ⟨rfl, fin _ ?_⟩
      omega
  · have htk : t = (k : Int) := by rw [← ht, dropped, if_neg hle]
    have h0 : JobOf w X (F.holds t F.peak) ∧ Went X F (F.holds t F.peak) w w := by
      have : F.holds t F.peak = F := by
        cases F
        simp only [Flow.holds] at hk ⊢
        rw [htk, hk]
      rw [this]
      exact ⟨h, Went.refl _ _ _⟩
    clear ht htk
    go_enter Tryz.func76, Tryz.ntmps76
    go_wp2_with fail
    go_end0
    exact ⟨rfl, h0⟩

end Go.Proofs.YtffffjngodinnaaGreatDoor
end

section
namespace Go.Proofs.YtffffjngodinnaaGreatDoor
open Go.RowKit Go.Maps Go.Shelf

theorem i64_and255 (n : Int) : bits .and .i64 n 255 = n % 256 := by
  have h511 : (BitVec.ofInt 64 255).toNat = 2 ^ 8 - 1 := by decide
  have key : (BitVec.ofInt 64 n &&& BitVec.ofInt 64 255).toNat = (n % ((2 ^ 64 : Nat) : Int)).toNat % 2 ^ 8 := by
    rw [BitVec.toNat_and, BitVec.toNat_ofInt, h511, Nat.and_two_pow_sub_one_eq_mod]
  show IntKind.i64.wrap ((BitVec.ofInt 64 n &&& BitVec.ofInt 64 255).toNat : Nat) = n % 256
  rw [key, IntWalk.i64_in _ (by omega)]
  omega

namespace PF
/-- an act -/
def act (fl : List (Int × Int)) (s : PF) (k n : Int) (bs : List UInt8) : PF × Int :=
  if k = 1 then s.copies fl (max 1 n).toNat
  else if k = 2 then all fl (s.left fl + bs.length + 1) s true bs
  else if k = 3 then all fl (s.left fl + bs.length + 1) s false bs
  else if k = 4 then (s.holds (s.held + max 0 n) (max s.peak (s.held + max 0 n)), -1)
  else if k = 5 then (s.holds (dropped s.held n) s.peak, -1)
  else if k = 6 then (s, n % 256)
  else (s, -1)
/-- what an act asks of the numbers -/
structure Fits (fl : List (Int × Int)) (s : PF) (k n : Int) (bs : List UInt8) : Prop where
  num : -9223372036854775808 ≤ n ∧ n ≤ 9223372036854775807
  steps : s.steps + s.left fl + s.inb.length + bs.length + 2 < 4611686018427387904
  said : ∀ b, (s.said b).length + s.inb.length + bs.length ≤ 140737488355000
  held : ∃ h : Nat, s.held = (h : Int) ∧ (h : Int) < 4611686018427387904 ∧ (k = 4 → (h : Int) + max 0 n < 4611686018427387904)
end PF

/-- a function that does acts of a kind -/
def ActDoes (id : FuncId) (k : Int) : Prop := ∀ (w : World) (X : Job) (F : Flow) (n : Int) (A : Option Addr) (c : Nat) (bs : List UInt8), JobOf w X F → Reads w w.heap.size 1 A bs.length (bytesC bs) → (∀ ad, A = some ad → ad.block ∉ X.foot F) → bs.length ≤ c → F.pl.Fits X.K.fl k n bs →
  Calls Tryz.prog id #[.pointer (some ⟨X.p, 0, none⟩), .agg #[.int .i64 k, .int .i64 n, .slice A bs.length c]] w fun e w' => e = .returned (.int .i64 (F.pl.act X.K.fl k n bs).2) ∧ ∃ F', F'.pl = (F.pl.act X.K.fl k n bs).1 ∧ JobOf w' X F' ∧ Went X F F' w w'

theorem does_copy : ActDoes 69 1 := by
  intro w X F n A c bs h hb hA hc hf
  have h1 := hf.steps
  have h2 := hf.said true
  have hq := copies_any w X F h 1 n (.slice A bs.length c) hf.num (by show F.pl.steps + _ + F.pl.inb.length + 2 < _; omega) (by show (F.pl.said true).length + F.pl.inb.length ≤ _; omega)
  exact hq

set_option maxRecDepth 100000 in
set_option maxHeartbeats 1000000 in
theorem does_out : ActDoes 70 2 := by
  intro w X F n A c bs h hb hA hc hf
  have h1 := hf.steps
  have h2 := hf.said true
  have bW := below_one w (.cells #[.int .i64 2, .int .i64 n, .slice A bs.length c] 34)
  have hq := all_any _ X F (h.below bW) true A c bs ((hb.below bW).more bW.size) hA hc (by show F.pl.steps + F.pl.left X.K.fl + bs.length < _; omega) (by show (F.pl.said true).length + bs.length ≤ _; omega) (F.pl.left X.K.fl + bs.length + 1) (Nat.lt_succ_self _) _ rfl
  have hR : F.pl.act X.K.fl 2 n bs = PF.all X.K.fl (F.pl.left X.K.fl + bs.length + 1) F.pl true bs := by simp [PF.act]
  rw [hR]
  obtain ⟨m, hm⟩ : ∃ m, bs.length = m := ⟨_, rfl⟩
  obtain ⟨Z, hZ⟩ : ∃ Z, PF.all X.K.fl (F.pl.left X.K.fl + bs.length + 1) F.pl true bs = Z := ⟨_, rfl⟩
  rw [hZ] at hq ⊢
  rw [hm] at hq ⊢ bW
  have HB := Lib.hid bW
  have kb := (Blk.new w 34 #[.int .i64 2, .int .i64 n, .slice A m c]).cell 2
  clear h hb hA hc hf h1 h2 bW hR hm hZ
  go_enter Tryz.func70, Tryz.ntmps70
  go_wp2_with (go_at_call 71; refine hq.mono ?_; rintro e w1 ⟨rfl, F1, hF1, hJ1, hW1⟩)
  go_returns
  exact ⟨rfl, F1, hF1, hJ1, (Went.of_below X F HB.out).trans hW1⟩

set_option maxRecDepth 100000 in
set_option maxHeartbeats 1000000 in
theorem does_err : ActDoes 72 3 := by
  intro w X F n A c bs h hb hA hc hf
  have h1 := hf.steps
  have h2 := hf.said false
  have bW := below_one w (.cells #[.int .i64 3, .int .i64 n, .slice A bs.length c] 34)
  have hq := all_any _ X F (h.below bW) false A c bs ((hb.below bW).more bW.size) hA hc (by show F.pl.steps + F.pl.left X.K.fl + bs.length < _; omega) (by show (F.pl.said false).length + bs.length ≤ _; omega) (F.pl.left X.K.fl + bs.length + 1) (Nat.lt_succ_self _) _ rfl
  have hR : F.pl.act X.K.fl 3 n bs = PF.all X.K.fl (F.pl.left X.K.fl + bs.length + 1) F.pl false bs := by simp [PF.act]
  rw [hR]
  obtain ⟨m, hm⟩ : ∃ m, bs.length = m := ⟨_, rfl⟩
  obtain ⟨Z, hZ⟩ : ∃ Z, PF.all X.K.fl (F.pl.left X.K.fl + bs.length + 1) F.pl false bs = Z := ⟨_, rfl⟩
  rw [hZ] at hq ⊢
  rw [hm] at hq ⊢ bW
  have HB := Lib.hid bW
  have kb := (Blk.new w 34 #[.int .i64 3, .int .i64 n, .slice A m c]).cell 2
  clear h hb hA hc hf h1 h2 bW hR hm hZ
  go_enter Tryz.func72, Tryz.ntmps72
  go_wp2_with (go_at_call 71; refine hq.mono ?_; rintro e w1 ⟨rfl, F1, hF1, hJ1, hW1⟩)
  go_returns
  exact ⟨rfl, F1, hF1, hJ1, (Went.of_below X F HB.out).trans hW1⟩

set_option maxRecDepth 100000 in
set_option maxHeartbeats 1000000 in
theorem does_hold : ActDoes 73 4 := by
  intro w X F n A c bs h hb hA hc hf
  obtain ⟨k, hk, hk62, hkb⟩ := hf.held
  have bW := below_one w (.cells #[.int .i64 4, .int .i64 n, .slice A bs.length c] 34)
  have hq := jobHoldI _ X F (h.below bW) n hf.num k hk (hkb rfl)
  obtain ⟨F1, hF1⟩ : ∃ F1, F.holds ((k : Int) + max 0 n) (max F.peak ((k : Int) + max 0 n)) = F1 := ⟨_, rfl⟩
  have hR : F.pl.act X.K.fl 4 n bs = (F1.pl, -1) := by
    rw [← hF1]
    unfold PF.act
    rw [if_neg (by decide), if_neg (by decide), if_neg (by decide), if_pos rfl, hk]
    rfl
  rw [hR]
  rw [hF1] at hq
  have HB := Lib.hid bW
  have kb := (Blk.new w 34 #[.int .i64 4, .int .i64 n, .slice A bs.length c]).cell 1
  clear h hb hA hc hf bW hR hF1 hk hkb hk62
  go_enter Tryz.func73, Tryz.ntmps73
  go_wp2_with (go_at_call 74; refine hq.mono ?_; rintro e w1 ⟨rfl, hJ1, hW1⟩)
  go_returns
  exact ⟨rfl, F1, rfl, hJ1, (Went.of_below X F HB.out).trans hW1⟩

set_option maxRecDepth 100000 in
set_option maxHeartbeats 1000000 in
theorem does_drop : ActDoes 75 5 := by
  intro w X F n A c bs h hb hA hc hf
  obtain ⟨k, hk, hk62, hkb⟩ := hf.held
  have bW := below_one w (.cells #[.int .i64 5, .int .i64 n, .slice A bs.length c] 34)
  have hq := jobDropI _ X F (h.below bW) n hf.num k hk (by omega)
  obtain ⟨F1, hF1⟩ : ∃ F1, F.holds (dropped k n) F.peak = F1 := ⟨_, rfl⟩
  have hR : F.pl.act X.K.fl 5 n bs = (F1.pl, -1) := by
    rw [← hF1]
    unfold PF.act
    rw [if_neg (by decide), if_neg (by decide), if_neg (by decide), if_neg (by decide), if_pos rfl, hk]
    rfl
  rw [hR]
  rw [hF1] at hq
  have HB := Lib.hid bW
  have kb := (Blk.new w 34 #[.int .i64 5, .int .i64 n, .slice A bs.length c]).cell 1
  clear h hb hA hc hf bW hR hF1 hk hkb hk62
  go_enter Tryz.func75, Tryz.ntmps75
  go_wp2_with (go_at_call 76; refine hq.mono ?_; rintro e w1 ⟨rfl, hJ1, hW1⟩)
  go_returns
  exact ⟨rfl, F1, rfl, hJ1, (Went.of_below X F HB.out).trans hW1⟩

set_option maxRecDepth 100000 in
set_option maxHeartbeats 1000000 in
theorem does_end : ActDoes 77 6 := by
  intro w X F n A c bs h hb hA hc hf
  have bW := below_one w (.cells #[.int .i64 6, .int .i64 n, .slice A bs.length c] 34)
  have hJ := h.below bW
  have hR : F.pl.act X.K.fl 6 n bs = (F.pl, n % 256) := by simp [PF.act]
  rw [hR]
  have HB := Lib.hid bW
  have HJ := Lib.hid hJ
  have ha := i64_and255 n
  have kb := (Blk.new w 34 #[.int .i64 6, .int .i64 n, .slice A bs.length c]).cell 1
  clear h hb hA hc hf bW hR hJ
  go_enter Tryz.func77, Tryz.ntmps77
  go_wp2_with fail
  go_returns
  exact ⟨rfl, F, rfl, HJ.out, Went.of_below X F HB.out⟩

theorem does_kind {k : Int} {id : FuncId} (h : kindOf k = some id) : ActDoes id k ∧ ∀ args W, (callFunc id args).run Tryz.prog W = .ok (.enter id args) W := by
  unfold kindOf at h
  split at h
  · subst k; cases h; exact ⟨does_copy, enters_of Tryz.func69 (by kernel_rfl) rfl⟩
  split at h
  · subst k; cases h; exact ⟨does_out, enters_of Tryz.func70 (by kernel_rfl) rfl⟩
  split at h
  · subst k; cases h; exact ⟨does_err, enters_of Tryz.func72 (by kernel_rfl) rfl⟩
  split at h
  · subst k; cases h; exact ⟨does_hold, enters_of Tryz.func73 (by kernel_rfl) rfl⟩
  split at h
  · subst k; cases h; exact ⟨does_drop, enters_of Tryz.func75 (by kernel_rfl) rfl⟩
  split at h
  · subst k; cases h; exact ⟨does_end, enters_of Tryz.func77 (by kernel_rfl) rfl⟩
  cases h
theorem PF.act_none {fl : List (Int × Int)} {s : PF} {k n : Int} {bs : List UInt8} (h : kindOf k = none) : s.act fl k n bs = (s, -1) := by
  unfold kindOf at h
  unfold PF.act
  repeat' split at h
  all_goals first | (cases h; done) | (simp [*])

end Go.Proofs.YtffffjngodinnaaGreatDoor
end
