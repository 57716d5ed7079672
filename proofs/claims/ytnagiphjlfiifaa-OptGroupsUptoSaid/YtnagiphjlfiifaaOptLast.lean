/-
  Walks over opt.Last: a range over slices.Backward, whose body may return.
-/
import Derived.Test.YtnagiphjlfiifaaOptHas
import Derived.RangeFuncNested
import Derived.RangeFuncBound
import Derived.RangeFuncCalls
import Derived.RangeFuncLeaves
import Derived.Shelf.Abstract
import Derived.Shelf.RegionOpen
import Derived.OwnWalkIn
import Derived.TacticsInMore
import Derived.LoopNIn
import Derived.LoopIn
namespace Go.Proofs.Ytnagiphjlfiifaa
open Go.RowKit Go.Shelf
attribute [local go_sem] Oper.semAt_some

/-- what comes in the j-th round -/
def backAt (l : List Pl.Opt) (j : Nat) : Nat × Pl.Opt := (l.length - 1 - j, l.getD (l.length - 1 - j) (0, ⟨#[]⟩))
/-- what has come when k rounds are over -/
def backTo (l : List Pl.Opt) (k : Nat) : List (Nat × Pl.Opt) := (List.range k).map (backAt l)
theorem getD_at {l : List Pl.Opt} {i : Nat} (h : i < l.length) (d : Pl.Opt) : l.getD i d = l[i] := by simp [List.getD, List.getElem?_eq_getElem h]
theorem backTo_succ (l : List Pl.Opt) (k : Nat) : backTo l (k + 1) = backTo l k ++ [backAt l k] := by simp [backTo, List.range_succ]
theorem backTo_length (l : List Pl.Opt) (k : Nat) : (backTo l k).length = k := by simp [backTo]
/-- the values of one round: the index, the option -/
def encOpt (x : Nat × Pl.Opt) : Array Value := #[.int .i64 (x.1 : Int), .agg #[.int .u8 x.2.1.toNat, .string x.2.2]]

theorem Boxed_below {W W' : World} {B b : Nat} {t : TypeId} {v : Value} (h : Boxed W b t v) (hb : Below B W W') (hlt : b < B) : Boxed W' b t v := (hb.block b hlt).trans h

theorem lastOpt_none {l : List Pl.Opt} {c : UInt8} : ∀ k, k ≤ l.length → (∀ p ∈ backTo l k, p.2.1 ≠ c) → lastOpt l c = lastOpt (l.take (l.length - k)) c := by
  intro k
  induction k with
  | zero => intro _ _; simp
  | succ k ih =>
    intro hk hall
    rw [backTo_succ] at hall
    rw [ih (by omega) (fun p hp => hall p (List.mem_append_left _ hp))]
    have e : l.length - k = (l.length - (k + 1)) + 1 := by omega
    have hlt : l.length - (k + 1) < l.length := by omega
    rw [e, lastOpt_take l c _ hlt]
    have h := hall (backAt l k) (by simp)
    have e2 : l.length - 1 - k = l.length - (k + 1) := by omega
    simp only [backAt, e2, getD_at hlt] at h
    rw [beq_eq_false_iff_ne.2 h]
    rfl
theorem lastOpt_some {l : List Pl.Opt} {c : UInt8} {k : Nat} (hk : k < l.length) (hall : ∀ p ∈ backTo l k, p.2.1 ≠ c) (h : (backAt l k).2.1 = c) : lastOpt l c = some (backAt l k).2.2 := by
  rw [lastOpt_none k (by omega) hall]
  have e : l.length - k = (l.length - (k + 1)) + 1 := by omega
  have hlt : l.length - (k + 1) < l.length := by omega
  have e2 : l.length - 1 - k = l.length - (k + 1) := by omega
  simp only [backAt, e2, getD_at hlt] at h ⊢
  rw [e, lastOpt_take l c _ hlt, beq_iff_eq.2 h]
  rfl

set_option maxRecDepth 100000 in
set_option maxHeartbeats 2000000 in
/-- slices.Backward's closure, for every loop body that keeps what lay below n₀ -/
theorem back1_in (F : Fence) (n : Nat) (h7 : F.fn 20) (hro : F.round = none) (hn : 1 ≤ n) (lp Bs n₀ : Nat) (A : Option Addr) (cap : Nat) (l : List Pl.Opt) (hl : l.length ≤ 2097152) (hBs0 : Bs < n₀)
    (J Jx : List (Nat × Pl.Opt) → World → Prop)
    (hY : ∀ pre x W, J pre W → pre.length < l.length → YieldAt F (n - 1) Try.prog lp (encOpt x) W fun e W' =>
      (e = .returned (.bool true) ∧ J (pre ++ [x]) W' ∧ Below n₀ W W') ∨ (e = .returned (.bool false) ∧ Jx (pre ++ [x]) W'))
    (W : World) (hBs : W.cell? ⟨Bs, 0, none⟩ = some (.slice A l.length cap)) (hr : Reads W n₀ 2 A l.length (optCells l)) (h0 : J [] W) :
    CallsIn F n Try.prog 20 #[.func (.yield lp) #[] #[], .pointer (some ⟨Bs, 0, none⟩)] W fun e W' => (∃ v, e = .returned v) ∧
      ((∃ ys, ys = backTo l l.length ∧ J ys W') ∨ (∃ pre, (∃ k, k ≤ l.length ∧ pre = backTo l k) ∧ Jx pre W')) := by
  have hR := Lib.hid hr
  have hC := Lib.hid hBs
  clear hr
  refine callsIn_of_wp Try.func20 rfl h7 ?_ hro
  simp only [Try.ntmps20, List.size_toArray, List.length_cons, List.length_nil, Nat.reduceAdd, Nat.reduceSub, Array.replicate_succ, Array.replicate_zero, List.push_toArray, List.append_toArray, List.nil_append, List.cons_append]
  gi_wp2
  gi_loopw [3] (fun i wr => ∃ k : Nat, k ≤ l.length ∧ i = .int .i64 ((l.length : Int) - 1 - k) ∧ J (backTo l k) wr ∧ Below n₀ W wr)
    (fun i _ => (intOf i + 1).toNat)
  case atStart => exact ⟨0, Nat.zero_le _, by simp, h0, Below.refl _ _⟩
  case round =>
    obtain ⟨k, hk, rfl, hJs, hnx⟩ := hrel
    by_cases hlt : k < l.length
    · have hi : l.length - 1 - k < l.length := by omega
      obtain ⟨ad, rfl, _, hc1, hc2⟩ := reads_opt (hR.out.below hnx) hi
      have hbox := (hnx.cell (p := ⟨Bs, 0, none⟩) hBs0).trans hC.out
      obtain ⟨fn, tmps, assign, body, hy, hRr⟩ := hY _ (backAt l k) wr hJs (by rw [backTo_length]; exact hlt)
      have e1 : ((l.length : Int) - 1 - k) = ((l.length - 1 - k : Nat) : Int) := by omega
      simp only [encOpt, backAt, getD_at hi] at hy
      rw [e1]
      clear e1
      gi_wp2
      refine hRr.mono ?_
      rintro e W3 (⟨rfl, hJ3, hk3⟩ | ⟨rfl, hJx3⟩)
      · gi_wp2
        go_roundw
        case rel => exact ⟨k + 1, by omega, congrArg (Value.int .i64) (by omega), by rw [backTo_succ]; exact hJ3, hnx.trans hk3⟩
        case measure => simp [intOf]
      · gi_wp2
        refine bodyPost_ret (results_none rfl _ _ _) rfl ?_
        exact ⟨⟨_, rfl⟩, .inr ⟨_, ⟨k + 1, by omega, (backTo_succ _ _).symm⟩, hJx3⟩⟩
    · obtain rfl : k = l.length := by omega
      gi_wp2
      go_end0
      exact ⟨⟨_, rfl⟩, .inl ⟨_, rfl, hJs⟩⟩

theorem back_stops (F : Fence) (n : Nat) (h7 : F.fn 20) (hro : F.round = none) (hn : 1 ≤ n) (Bs n₀ : Nat) (A : Option Addr) (cap : Nat) (l : List Pl.Opt) (hl : l.length ≤ 2097152) (hBs0 : Bs < n₀) (w : World) (hn₀ : n₀ ≤ w.heap.size)
    (hc : w.cell? ⟨Bs, 0, none⟩ = some (.slice A l.length cap)) (hr : Reads w n₀ 2 A l.length (optCells l)) :
    SeqStopsK F n Try.prog 20 #[.pointer (some ⟨Bs, 0, none⟩)] encOpt (Below n₀) (fun ys => ys = backTo l l.length)
      (fun pre => ∃ k, k ≤ l.length ∧ pre = backTo l k) l.length w := fun lp J Jx W hW _ _ hY h0 =>
  back1_in F n h7 hro hn lp Bs n₀ A cap l hl hBs0 J Jx hY W (((hW.mono hn₀).cell (p := ⟨Bs, 0, none⟩) hBs0).trans hc) (hr.below (hW.mono hn₀)) h0

set_option maxHeartbeats 1000000 in
theorem back_in (F : Fence) (n : Nat) (h5 : F.fn 18) (hro : F.round = none) (a : Option Addr) (len cap : Nat) (w : World) :
    CallsIn F n Try.prog 18 #[.slice a len cap] w fun e w' => e = .returned (.func (.func 20) #[] #[.pointer (some ⟨w.heap.size, 0, none⟩)]) ∧ w' = w.alloc (.cells #[.slice a len cap] 24) := by
  refine callsIn_of_wp Try.func18 rfl h5 ?_ hro
  simp only [Try.ntmps18, List.size_toArray, List.length_cons, List.length_nil, Nat.reduceAdd, Nat.reduceSub, Array.replicate_succ, Array.replicate_zero, List.push_toArray, List.append_toArray, List.nil_append, List.cons_append]
  gi_wp2
  go_ret
  exact ⟨rfl, rfl⟩

set_option maxRecDepth 100000 in
set_option maxHeartbeats 4000000 in
theorem last_in (F : Fence) (n : Nat) (h3 : F.fn 11) (h5 : F.fn 18) (h7 : F.fn 20) (hro : F.round = none) (hn : 3 ≤ n)
    (A : Option Addr) (cap : Nat) (l : List Pl.Opt) (c : UInt8) (w : World) (hl : l.length ≤ 2097152) (hr : Reads w w.heap.size 2 A l.length (optCells l)) :
    CallsIn F n Try.prog 11 #[.slice A l.length cap, .int .u8 c.toNat] w fun e W' => e = .returned (lastPair (lastOpt l c)) ∧ Below w.heap.size w W' := by
  have h1 : 1 ≤ n := by omega
  refine callsIn_of_wp_marks Try.func11 rfl h3 ?_ hro
  simp only [Try.ntmps11, List.size_toArray, List.length_cons, List.length_nil, Nat.reduceAdd, Nat.reduceSub, Array.replicate_succ, Array.replicate_zero, List.push_toArray, List.append_toArray, List.nil_append, List.cons_append]
  gi_wp2_with (gi_at_call 18; refine (back_in F (n - 1) h5 hro _ _ _ _).mono ?_; rintro e w' ⟨rfl, rfl⟩)
  have bL := (((Boxed.new w 5 (.int .u8 c.toNat)).alloc (.cells #[.string ⟨#[]⟩] 9)).alloc (.cells #[.bool false] 4)).alloc (.cells #[.slice A l.length cap] 24)
  have b1 := ((Boxed.new (w.alloc (.cells #[.int .u8 c.toNat] 5)) 9 (.string ⟨#[]⟩)).alloc (.cells #[.bool false] 4)).alloc (.cells #[.slice A l.length cap] 24)
  have b2 := (Boxed.new ((w.alloc (.cells #[.int .u8 c.toNat] 5)).alloc (.cells #[.string ⟨#[]⟩] 9)) 4 (.bool false)).alloc (.cells #[.slice A l.length cap] 24)
  have bS := Boxed.new (((w.alloc (.cells #[.int .u8 c.toNat] 5)).alloc (.cells #[.string ⟨#[]⟩] 9)).alloc (.cells #[.bool false] 4)) 24 (.slice A l.length cap)
  simp only [World.size_alloc] at b1 b2 bS
  have hB0 : Below w.heap.size w ((((w.alloc (.cells #[.int .u8 c.toNat] 5)).alloc (.cells #[.string ⟨#[]⟩] 9)).alloc (.cells #[.bool false] 4)).alloc (.cells #[.slice A l.length cap] 24)) :=
    ((((Below.refl _ w).alloc (Nat.le_refl _) _).alloc (by simp) _).alloc (by simp; omega) _).alloc (by simp; omega) _
  have hsz : ((((w.alloc (.cells #[.int .u8 c.toNat] 5)).alloc (.cells #[.string ⟨#[]⟩] 9)).alloc (.cells #[.bool false] 4)).alloc (.cells #[.slice A l.length cap] 24)).heap.size = w.heap.size + 1 + 1 + 1 + 1 := by simp
  obtain ⟨W0, hW0⟩ : ∃ W0, (((w.alloc (.cells #[.int .u8 c.toNat] 5)).alloc (.cells #[.string ⟨#[]⟩] 9)).alloc (.cells #[.bool false] 4)).alloc (.cells #[.slice A l.length cap] 24) = W0 := ⟨_, rfl⟩
  rw [hW0] at bL b1 b2 bS hB0 hsz ⊢
  clear hW0
  have hr0 : Reads W0 W0.heap.size 2 A l.length (optCells l) := (hr.below hB0).more hB0.size
  clear hr
  refine wpIn_rangeFunc_ownH hro h1 (gf := 20) (lb := #[.pointer (some ⟨w.heap.size + 1 + 1 + 1, 0, none⟩)]) rfl h7 (enters_of Try.func20 (by kernel_rfl) rfl)
    (back_stops F (n - 1) h7 hro (by omega) (w.heap.size + 1 + 1 + 1) W0.heap.size A cap l hl (by omega) W0 (Nat.le_refl _) bS.cell hr0) belowK_t (belowK_b (Nat.le_refl _)) (Below.refl _ _) (fun _ => rfl)
    (fun pre W => (∀ p ∈ pre, p.2.1 ≠ c) ∧ Below W0.heap.size W0 W)
    (fun k pre W => (k = .ret ∧ ∃ ini last, pre = ini ++ [last] ∧ (∀ p ∈ ini, p.2.1 ≠ c) ∧ last.2.1 = c ∧ Boxed W (w.heap.size + 1) 9 (.string last.2.2) ∧ Boxed W (w.heap.size + 1 + 1) 4 (.bool true)) ∧ Below w.heap.size w W)
    (OwnFrom.and (ownFrom_pure _ _) (ownFrom_below (Nat.le_refl _) (Nat.le_refl _)))
    (fun k => OwnFrom.and (fun s X Y row hs hg hr => by
      obtain ⟨hk, ini, last, e1, e2, e3, e4, e5⟩ := hs
      exact ⟨hk, ini, last, e1, e2, e3, boxed_own _ _ (fun (_ : Unit) => Value.string last.2.2) () X Y row e4 hg (fun r e => (hr r e).2), boxed_own _ _ (fun (_ : Unit) => Value.bool true) () X Y row e5 hg (fun r e => (hr r e).2)⟩) (ownFrom_below (Nat.le_refl _) (by omega)))
    ⟨by simp, Below.refl _ _⟩
    (fun x a' W => ∃ Bx, W0.heap.size ≤ Bx ∧ Blk W Bx 35 #[.int .u8 x.2.1.toNat, .string x.2.2] ∧ a' = { tmps := #[.slice A l.length cap, .int .u8 c.toNat, undef, .pointer (some ⟨w.heap.size, 0, none⟩), .pointer (some ⟨w.heap.size + 1, 0, none⟩), .pointer (some ⟨w.heap.size + 1 + 1, 0, none⟩), undef, .pointer (some ⟨Bx, 0, none⟩),
      .slice A l.length cap, .func (.func 20) #[] #[.pointer (some ⟨w.heap.size + 1 + 1 + 1, 0, none⟩)], .int .i64 (x.1 : Int), .agg #[.int .u8 x.2.1.toNat, .string x.2.2], undef, undef, undef, undef, undef, undef], defers := [] })
    (fun x a' _ X Y row hs hg hr => by
      obtain ⟨Bx, h1, h2, h3⟩ := hs
      exact ⟨Bx, h1, h2.grown hg (fun e => by obtain ⟨_, o, ho, hc⟩ := hr Bx e.symm; rw [show X.heap[Bx]? = _ from h2] at ho; cases ho; cases hc), h3⟩)
    ?assign ?body ?done ?stop
  case assign =>
    rintro lp pre x W K ⟨hp, hB1⟩ hK
    simp only [encOpt]
    gi_wp2
    exact hK _ _ ((KeepsOthers.alloc _ _).from _) ((Below.refl _ W).alloc hB1.size _) ⟨hp, hB1.alloc hB1.size _⟩ ⟨W.heap.size, hB1.size, Blk.new W _ _, rfl⟩
  case body =>
    rintro lp pre x a' W hlp _ ⟨hp, hB1⟩ ⟨Bx, hBx, bX, rfl⟩ hlt
    have hs1 := hB1.size
    have cX0 : W.cell? ⟨Bx, 0, none⟩ = some (.int .u8 x.2.1.toNat) := bX.cell 0
    have cX1 : W.cell? ⟨Bx, 1, none⟩ = some (.string x.2.2) := bX.cell 1
    have bL1 := Boxed_below bL hB1 (by omega)
    have b11 := Boxed_below b1 hB1 (by omega)
    have b21 := Boxed_below b2 hB1 (by omega)
    have cL := bL1.cell
    by_cases hx : x.2.1 = c
    · have bx : ((x.2.1.toNat : Int) == (c.toNat : Int)) = true := (Pl.u8_beq _ _).trans (beq_iff_eq.2 hx)
      have hx' := Lib.hid hx
      have c1 := b11.cell
      have f1 := b11.frozen
      have c2 := b21.cell
      have f2 := b21.frozen
      clear hx hsz
      gi_wp2
      have hBw : Below w.heap.size w W := hB0.trans (hB1.mono hB0.size)
      exact ⟨(KeepsFrom.trans ((KeepsOthers.setCell _ _ _).from _) ((KeepsOthers.setCell _ _ _).from _)), ⟨rfl, pre, x, rfl, hp, hx'.out, (b11.set _).other (by omega) _, (b21.other (by omega) _).set _⟩,
        (hBw.setCell (p := ⟨w.heap.size + 1, 0, none⟩) (by simp) _).setCell (p := ⟨w.heap.size + 1 + 1, 0, none⟩) (by simp; omega) _⟩
    · have bx : ((x.2.1.toNat : Int) == (c.toNat : Int)) = false := (Pl.u8_beq _ _).trans (beq_eq_false_iff_ne.2 hx)
      have hx' := Lib.hid hx
      clear hx hsz
      gi_wp2
      exact ⟨KeepsFrom.refl _ _, Below.refl _ _, fun p hp' => (List.mem_append.1 hp').elim (hp p) (fun e => by simp at e; subst e; exact hx'.out), hB1⟩
  case done =>
    rintro D ys W hD rfl ⟨hp, hB1⟩ hK
    have b11 := Boxed_below b1 hB1 (by omega)
    have b21 := Boxed_below b2 hB1 (by omega)
    have c1 := b11.cell
    have f1 := b11.frozen
    have c2 := b21.cell
    have f2 := b21.frozen
    have hfin := Lib.hid (lastOpt_none l.length (Nat.le_refl _) hp)
    have hBw : Below w.heap.size w W := hB0.trans (hB1.mono hB0.size)
    have hDw : w.heap.size ≤ D := Nat.le_trans hB0.size hD
    clear hsz
    gi_wp2
    have h1' := (b11.set (.string ⟨#[]⟩)).other (B' := w.heap.size + 1 + 1) (by omega) (.bool false)
    have h2' := (b21.other (B' := w.heap.size + 1) (by omega) (.string ⟨#[]⟩)).set (.bool false)
    have hK' := (KeepsOthers.trans (KeepsOthers.setCell W ⟨w.heap.size + 1, 0, none⟩ (.string ⟨#[]⟩)) (KeepsOthers.setCell _ ⟨w.heap.size + 1 + 1, 0, none⟩ (.bool false))).same D _ hK rfl
    refine ⟨by simp, .inl ⟨_, _, rfl, run_takeDeferred hK', ?_⟩⟩
    have r1 := cell_kept h1'.cell (grownBy_putObj' _ D (.deferred none)) (fun r e => by cases e; exact ⟨_, hK', rfl⟩)
    have r2 := cell_kept h2'.cell (grownBy_putObj' _ D (.deferred none)) (fun r e => by cases e; exact ⟨_, hK', rfl⟩)
    refine ⟨.tuple #[.string ⟨#[]⟩, .bool false], ?_, by rw [hfin.out]; simp [lastOpt, lastPair], ((hBw.setCell (p := ⟨w.heap.size + 1, 0, none⟩) (by simp) _).setCell (p := ⟨w.heap.size + 1 + 1, 0, none⟩) (by simp; omega) _).trans (belowK_b (w := w) (Nat.le_refl _) _ D _ _ hDw hK' rfl rfl)⟩
    simp [results, Try.f11, go_sem, r1, r2]
  case stop =>
    rintro D k pre W hD ⟨k', hk', rfl⟩ ⟨⟨rfl, ini, last, e1, e2, e3, e4, e5⟩, hB1⟩ hK
    have hDw : w.heap.size ≤ D := Nat.le_trans hB0.size hD
    gi_wp2
    refine ⟨by simp, .inl ⟨_, _, rfl, run_takeDeferred hK, ?_⟩⟩
    have r1 := cell_kept e4.cell (grownBy_putObj' _ D (.deferred none)) (fun r e => by cases e; exact ⟨_, hK, rfl⟩)
    have r2 := cell_kept e5.cell (grownBy_putObj' _ D (.deferred none)) (fun r e => by cases e; exact ⟨_, hK, rfl⟩)
    obtain ⟨k, rfl⟩ : ∃ k, k' = k + 1 := by
      cases k' with
      | zero => simp [backTo] at e1
      | succ k => exact ⟨k, rfl⟩
    rw [backTo_succ] at e1
    obtain ⟨rfl, e6⟩ := List.append_inj' e1 rfl
    obtain rfl : backAt l k = last := by simpa using e6
    have hfin := lastOpt_some (by omega) e2 e3
    refine ⟨.tuple #[.string (backAt l k).2.2, .bool true], ?_, by rw [hfin]; rfl, hB1.trans (belowK_b (w := w) (Nat.le_refl _) _ D _ _ hDw hK rfl rfl)⟩
    simp [results, Try.f11, go_sem, r1, r2]

theorem last_any (A : Option Addr) (cap : Nat) (l : List Pl.Opt) (c : UInt8) (w : World) (hl : l.length ≤ 2097152) (hr : Reads w w.heap.size 2 A l.length (optCells l)) :
    Calls Try.prog 11 #[.slice A l.length cap, .int .u8 c.toNat] w fun e W' => e = .returned (lastPair (lastOpt l c)) ∧ Below w.heap.size w W' :=
  callsIn_wide.1 (last_in Fence.wide 3 trivial trivial trivial rfl (by omega) A cap l c w hl hr)
end Go.Proofs.Ytnagiphjlfiifaa
