/-
  A walk over text.parts: the pieces of bytes between those for which a question is answered yes, one by one.
-/
import Derived.Test.YtnagiphjlfiifaaDoorRows
import Derived.Test.YtnagiphjlfiifaaDoorWords
import Derived.Test.YtnagiphjlfiifaaDoorEach
import Derived.WalkKit
import Derived.WalkSpells
import Derived.WalkLawsBesides
import Derived.Lib.Hide
import Derived.Handy
import Derived.Deep.LoopGhost
import Derived.BigQuiet
import Derived.Deep.QuietTactic
import Derived.RangeFuncBound
import Derived.RangeFuncCalls
import Derived.RangeFuncLeaves
import Derived.Shelf.Abstract
import Derived.Shelf.RegionOpen
import Derived.OwnWalkIn
import Derived.TacticsInMore
import Derived.Sort.LoopGhostIn
namespace Go.Proofs.YtnagiphjlfiifaaDoor
open Go.RowKit

def bytesC (bs : List UInt8) : List Value := bs.map fun b => .int .u8 b.toNat
theorem bytesC_length (bs : List UInt8) : (bytesC bs).length = bs.length := by simp [bytesC]
theorem bytesC_take (bs : List UInt8) (n : Nat) : bytesC (bs.take n) = (bytesC bs).take n := by simp [bytesC]
theorem bytesC_drop (bs : List UInt8) (n : Nat) : bytesC (bs.drop n) = (bytesC bs).drop n := by simp [bytesC]

namespace Pl
/-- where the first one is for which p says yes -/
def first (p : UInt8 → Bool) (bs : List UInt8) : Option Nat := bs.findIdx? p
def firstInt (p : UInt8 → Bool) (bs : List UInt8) : Int := match first p bs with | none => -1 | some n => n
theorem first_lt {p : UInt8 → Bool} {bs : List UInt8} {n : Nat} (h : first p bs = some n) : n < bs.length := (List.findIdx?_eq_some_iff_getElem.1 h).1
/-- the pieces between -/
def pieces (p : UInt8 → Bool) (bs : List UInt8) : List (List UInt8) :=
  if bs = [] then [] else match h : first p bs with
    | none => [bs]
    | some n => bs.take n :: pieces p (bs.drop (n + 1))
  termination_by bs.length
  decreasing_by
    have := first_lt h
    rw [List.length_drop]; omega
theorem pieces_nil (p : UInt8 → Bool) : pieces p [] = [] := by rw [pieces]; simp
theorem pieces_last {p : UInt8 → Bool} {bs : List UInt8} (hne : bs ≠ []) (h : first p bs = none) : pieces p bs = [bs] := by
  rw [pieces, if_neg hne]
  split
  · rfl
  · rename_i n hn; rw [h] at hn; cases hn
theorem pieces_cut {p : UInt8 → Bool} {bs : List UInt8} {n : Nat} (hne : bs ≠ []) (h : first p bs = some n) : pieces p bs = bs.take n :: pieces p (bs.drop (n + 1)) := by
  rw [pieces, if_neg hne]
  split
  · rename_i hn; rw [h] at hn; cases hn
  · rename_i m hn; rw [h] at hn; cases hn; rfl
end Pl

/-- a piece that the iterator yields: the slice, and what it reads as -/
def Piece (W : World) (B : Nat) (x : Value × List UInt8) : Prop := ∃ ad cap, x.1 = .slice (some ad) x.2.length cap ∧ x.2.length ≤ cap ∧ Reads W B 1 (some ad) x.2.length (bytesC x.2)
def encPiece (x : Value × List UInt8) : Array Value := #[x.1]

/-- what parts asks of bytes.IndexFunc -/
def Finds (p : UInt8 → Bool) (Bc : Nat) (cutv : Value) (m N : Nat) (wB : World) : Prop := ∀ (A : Option Addr) (cap : Nat) (bs : List UInt8) (W : World), Below N wB W → 0 < bs.length → bs.length ≤ m → bs.length ≤ cap → Boxed W Bc 43 cutv → Reads W W.heap.size 1 A bs.length (bytesC bs) →
  Calls Tryd.prog 34 #[.slice A bs.length cap, .func (.func 35) #[] #[.pointer (some ⟨Bc, 0, none⟩)]] W fun e W' => e = .returned (.int .i64 (Pl.firstInt p bs)) ∧ Below W.heap.size W W'

theorem take_reads {w : World} {B n k : Nat} {A : Option Addr} {xs : List Value} (h : Reads w B 1 A n xs) (hk : k ≤ n) : Reads w B 1 A k (xs.take k) := by
  refine ⟨by rw [List.length_take, h.1]; omega, fun h0 => ?_⟩
  obtain ⟨ad, hA, hb, hc⟩ := h.2 (by omega)
  refine ⟨ad, hA, hb, fun j u hu => hc j u ?_⟩
  rw [List.getElem?_take] at hu
  split at hu
  · exact hu
  · cases hu

/-- what a round must keep: whatever lies below N, and the iterator's two variables -/
def KeepsIter (N Bb Bc : Nat) (W W' : World) : Prop := Below N W W' ∧ W'.heap[Bb]? = W.heap[Bb]? ∧ W'.heap[Bc]? = W.heap[Bc]?
theorem KeepsIter.trans {N Bb Bc : Nat} {X Y Z : World} (h : KeepsIter N Bb Bc X Y) (k : KeepsIter N Bb Bc Y Z) : KeepsIter N Bb Bc X Z := ⟨h.1.trans k.1, k.2.1.trans h.2.1, k.2.2.trans h.2.2⟩
theorem KeepsIter.putObj {N Bb Bc B : Nat} (hN : N ≤ B) (hb : Bb < B) (hc : Bc < B) (W : World) (l : Nat) (o o' : Obj) (hl : B ≤ l) (h : W.heap[l]? = some o) (_ : o.isCells = false) (_ : o.isWalk = false) : KeepsIter N Bb Bc W (W.putObj l o') :=
  ⟨(Below.refl N W).grown (grownBy_putObj' W l o') (by have := (Array.getElem?_eq_some_iff.1 h).1; omega) (fun k e => by cases e; omega), World.putObj_heap_other (by omega), World.putObj_heap_other (by omega)⟩

set_option maxHeartbeats 1000000 in
theorem parts1_turns (p : UInt8 → Bool) (Bb Bc N : Nat) (cutv : Value) (m : Nat) (hm : m ≤ 2097152) (wB : World) (hF : Finds p Bc cutv m N wB) (A : Option Addr) (cap : Nat) (bs : List UInt8) (w : World) (hbs : bs.length ≤ m) (hcap : bs.length ≤ cap) (hNb : N ≤ Bb) (hne : Bb ≠ Bc) (hwB : Below N wB w)
    (hb : Boxed w Bb 25 (.slice A bs.length cap)) (hc : Boxed w Bc 43 cutv) (hr : Reads w N 1 A bs.length (bytesC bs)) :
    SeqTurns Fence.wide 4 Tryd.prog 33 #[.pointer (some ⟨Bb, 0, none⟩), .pointer (some ⟨Bc, 0, none⟩)] encPiece (KeepsIter N Bb Bc) (· = Bb) (fun pre x => Piece w N x ∧ x.2.length ≤ m ∧ pre.length < m) (fun xs => xs.map (·.2) = Pl.pieces p bs) w := by
  intro lp J W hW hJ hY h0
  obtain ⟨iS, hiS, hS0, hS1, hS2⟩ := info_parts (show (Tryd.prog.info? 5).map (fun i => (i.zero, i.size, i.bytes)) = some (some (.int .u8 0), 1, 1) by kernel_rfl)
  have hcut := Lib.hid (fun (A : Option Addr) (len cap k : Nat) (hk : k ≤ len) (W : World) => run_cut (P := Tryd.prog) 25 5 iS 1 Tryd.underlying25 hiS hS1 A len cap .i64 k k rfl hk W)
  clear hiS hS0 hS1 hS2
  have hb' : Boxed W Bb 25 (.slice A bs.length cap) := (hW.block Bb hb.lt).trans hb
  have hc' : Boxed W Bc 43 cutv := (hW.block Bc hc.lt).trans hc
  have hbl := hb.lt
  have hw1 : Fence.wide.fn 34 := trivial
  have hJ' := Lib.hid hJ
  have hY' := Lib.hid hY
  clear hJ hY
  refine callsIn_of_wp Tryd.func33 rfl trivial ?_ rfl
  simp only [Tryd.ntmps33, List.size_toArray, List.length_cons, List.length_nil, Nat.reduceAdd, Nat.reduceSub, Array.replicate_succ, Array.replicate_zero, List.push_toArray, List.append_toArray, List.nil_append, List.cons_append]
  gi_wp2
  gi_loopg [4] bs.length (fun g _ wr => ∃ (A' : Option Addr) (cap' : Nat) (rest : List UInt8) (dn : List (Value × List UInt8)), g = rest.length ∧ dn.length + rest.length ≤ m ∧ rest.length ≤ cap' ∧ Boxed wr Bb 25 (.slice A' rest.length cap') ∧ Boxed wr Bc 43 cutv ∧
    Reads w N 1 A' rest.length (bytesC rest) ∧ Below N w wr ∧ J dn wr ∧ Hid (dn.map (·.2) ++ Pl.pieces p rest = Pl.pieces p bs))
  case atStart => exact ⟨A, cap, bs, [], rfl, by simpa using hbs, hcap, hb', hc', hr, hW.mono (by omega), h0, Lib.hid (by simp)⟩
  case round =>
    obtain ⟨A', cap', rest, dn, rfl, hrm, hcap', hB, hC, hR, hbw, hJd, hres⟩ := hrel
    have hcB := hB.cell
    have hfB := hB.frozen
    by_cases h0r : rest.length = 0
    · have hnil : rest = [] := List.eq_nil_of_length_eq_zero h0r
      gi_wp2
      go_end0
      have hr' := hres.out
      rw [hnil, Pl.pieces_nil, List.append_nil] at hr'
      exact ⟨⟨_, rfl⟩, dn, hr', hJd⟩
    · have hne0 : rest ≠ [] := fun e => h0r (by rw [e]; rfl)
      have hpos : 0 < rest.length := by omega
      have hBl := hB.lt
      have hwr := hbw.size
      obtain ⟨ad, rfl, _, _⟩ := hR.2 hpos
      cases hf : Pl.first p rest with
      | none =>
        have hres' := Lib.hid (show (dn ++ [(Value.slice (some ad) rest.length cap', rest)]).map (·.2) = Pl.pieces p bs by rw [← hres.out, Pl.pieces_last hne0 hf]; simp)
        have hF' := hF (some ad) cap' rest wr (hwB.trans hbw) hpos (by omega) hcap' hC ((hR.below hbw).more (by omega))
        rw [show Pl.firstInt p rest = -1 by simp [Pl.firstInt, hf]] at hF'
        gi_wp2_with (gi_at_call 34; refine (callsIn_wide.2 hF').mono ?_; rintro e w2 ⟨rfl, hb2⟩; have hcB2 := (hb2.cell (p := ⟨Bb, 0, none⟩) hBl).trans hcB; obtain ⟨fn, tmps, assign, body, hy, hRr⟩ := hY'.out dn (.slice (some ad) rest.length cap', rest) w2 ⟨⟨ad, cap', rfl, hcap', hR⟩, by show rest.length ≤ m; omega, by omega⟩ (hJ'.out _ _ _ none hJd (only_of_below hb2 none) (fun r e => by cases e)); simp only [encPiece] at hy)
        refine hRr.mono ?_
        rintro e W3 ⟨rfl, hJ3, hk3⟩
        gi_wp2
        refine bodyPost_ret (results_none rfl _ _ _) rfl ?_
        exact ⟨⟨_, rfl⟩, _, hres'.out, hJ3⟩
      | some k =>
        have hk : k < rest.length := Pl.first_lt hf
        have hF' := hF (some ad) cap' rest wr (hwB.trans hbw) hpos (by omega) hcap' hC ((hR.below hbw).more (by omega))
        rw [show Pl.firstInt p rest = k by simp [Pl.firstInt, hf]] at hF'
        have hsl : ∀ W, (Instr.slice 25 (.slice (some ad) rest.length cap') (some (.int .i64 ((k : Int) + 1))) none none).run Tryd.prog W = .ok (.slice (cutA (some ad) cap' (k + 1) 1) (rest.length - (k + 1)) (cap' - (k + 1))) W := fun W => by
          have h := hcut.out (some ad) rest.length cap' (k + 1) (by omega) W
          rwa [Int.natCast_add, Int.natCast_one] at h
        have hres' := Lib.hid (show (dn ++ [(Value.slice (some ad) k cap', rest.take k)]).map (·.2) ++ Pl.pieces p (rest.drop (k + 1)) = Pl.pieces p bs by rw [← hres.out, Pl.pieces_cut hne0 hf]; simp)
        have hlk : (rest.take k).length = k := by rw [List.length_take]; omega
        have hP : Piece w N (.slice (some ad) k cap', rest.take k) := ⟨ad, cap', by rw [hlk], by rw [hlk]; omega, by rw [hlk, bytesC_take]; exact take_reads hR (by omega)⟩
        gi_wp2_with (gi_at_call 34; refine (callsIn_wide.2 hF').mono ?_; rintro e w2 ⟨rfl, hb2⟩; have hcB2 := (hb2.cell (p := ⟨Bb, 0, none⟩) hBl).trans hcB; have hBw2 := (hb2.block Bb hBl).trans hB; obtain ⟨fn, tmps, assign, body, hy, hRr⟩ := hY'.out dn (.slice (some ad) k cap', rest.take k) w2 ⟨hP, by show (rest.take k).length ≤ m; omega, by omega⟩ (hJ'.out _ _ _ none hJd (only_of_below hb2 none) (fun r e => by cases e)); simp only [encPiece] at hy)
        refine hRr.mono ?_
        rintro e W3 ⟨rfl, hJ3, hk3⟩
        have hB3 : Boxed W3 Bb 25 (.slice (some ad) rest.length cap') := hk3.2.1.trans hBw2
        have hC3 : Boxed W3 Bc 43 cutv := hk3.2.2.trans ((hb2.block Bc hC.lt).trans hC)
        have hcB3 := hB3.cell
        have hfB3 := hB3.frozen
        have hw1 : IntKind.i64.wrap ((k : Int) + 1) = (k : Int) + 1 := IntWalk.i64_in _ (by omega)
        have hbw3 : Below N w W3 := (hbw.trans (hb2.mono (by omega))).trans hk3.1
        have hlr : (rest.drop (k + 1)).length = rest.length - (k + 1) := List.length_drop
        gi_wp2
        go_roundg (rest.drop (k + 1)).length
        case measure => rw [hlr]; omega
        case rel =>
          have hR2 := hR.cutA (k := k + 1) (cap := cap') (by omega) hcap'
          rw [Nat.mul_one, ← bytesC_drop] at hR2
          exact ⟨cutA (some ad) cap' (k + 1) 1, cap' - (k + 1), rest.drop (k + 1), _, rfl, by rw [hlr, List.length_append, List.length_singleton]; omega, by omega, by rw [hlr]; exact hB3.set _, hC3.other (fun e => hne e.symm) _, by rw [hlr]; exact hR2, hbw3.setCell hNb _,
            hJ'.out _ _ _ (some Bb) hJ3 (grownBy_setCell' W3 Bb _) (fun r e => by cases e; rfl), hres'⟩

end Go.Proofs.YtnagiphjlfiifaaDoor
