/-
  Parts that the claims share: Walks over proc.Go and names.Start of a job that runs to its end at once; Walks over strconv.FormatInt at the bases eight and sixteen, text.Digits, and the reference's Digits; What the listed tables give; strconv.FormatInt at the three bases, and text.Digits; Walks over strconv.ParseInt at the bases eight and ten, where every byte is a digit of the base; Walks over text.based, Number and Octal; Which formats printf's laws reach, and what is told of arguments: plain; A walk over how printf makes a text wide; A walk over strconv.FormatUint at base 10; Walks over how printf tells a number; DERIVE.
-/
import Derived.Test.YtobapajmplfeiaaGreatDoorQ05
import Derived.Test.YtobapajmplfeiaaGreatDoorQ08
import Derived.Laws.BitsAllLaws
import Derived.Test.YtobapajmplfeiaaGreatDoorQ02
import Derived.WalkSmall
import Derived.Lib.IfaceNeq
import Derived.Test.YtobapajmplfeiaaGreatDoorQ03
import Derived.Lib.Repeat
import Derived.Lib.ItoaMem
import Derived.Lib.AppendIntMem
import Derived.Shelf.Strings.SlTrimAscii
import Derived.Test.YtobapajmplfeiaaGreatDoorProg

section
namespace Go.Proofs.YtobapajmplfeiaaGreatDoor
open Go.RowKit Go.Maps

theorem cell_same {w w' : World} {a : Addr} (h : w'.heap[a.block]? = w.heap[a.block]?) : w'.cell? a = w.cell? a := by unfold World.cell?; rw [h]

set_option maxRecDepth 100000 in
set_option maxHeartbeats 1000000 in
theorem goTop (w : World) (X : Job) (F : Flow) (hX : JobOf w X F) (id : FuncId) (caps : Array Value) :
    Calls Tryz.prog 52 #[.pointer (some ⟨X.p, 0, none⟩), .func (.func id) #[] caps] w fun e w' => ∃ m, e = .returned (.pointer (some ⟨m, 0, none⟩)) ∧ MachAt w' m X.p (.func (.func id) #[] caps) false 0 ∧ w.heap.size ≤ m ∧ Below w.heap.size w w' := by
  have hb := hX.proc.blk
  obtain ⟨W, hW⟩ : ∃ W, w.alloc (.cells #[.pointer (some ⟨X.p, 0, none⟩), .func (.func id) #[] caps, .bool false, .int .i64 0] 85) = W := ⟨_, rfl⟩
  have c13 : W.cell? ⟨X.p, 13, none⟩ = some (.bool true) := by
    rw [← hW, (hb.alloc _).cell 13]
    simp [procCells, Job.J, hX.top]
  have hm : MachAt W w.heap.size X.p (.func (.func id) #[] caps) false 0 := by rw [← hW]; exact Blk.new w _ _
  have hbl : Below w.heap.size w W := by rw [← hW]; exact below_one w _
  go_enter Tryz.func52, Tryz.ntmps52
  go_wp2_with fail
  go_returns
  exact ⟨_, rfl, hm, Nat.le_refl _, hbl⟩

set_option maxHeartbeats 1000000 in
theorem pathTop (w : World) (most : Int) (id : FuncId) :
    Calls Tryz.prog 46 #[.int .i64 most, .func (.func id) #[] #[]] w fun e w' => ∃ b1 b2, e = .returned (.func (.func 76) #[] #[.pointer (some ⟨b1, 0, none⟩), .pointer (some ⟨b2, 0, none⟩)]) ∧ Holds2 b1 b2 most id w' ∧ w.heap.size ≤ b1 ∧ w.heap.size ≤ b2 ∧ Below w.heap.size w w' := by
  have hmf : ∀ (fn : Fn) (first cap : Array Value) (w : World), (Instr.makeFunc fn first cap).run Tryz.prog w = .ok (.func fn first cap) w := fun _ _ _ _ => rfl
  go_enter Tryz.func46, Tryz.ntmps46
  go_wp2_with fail
  go_returns
  refine ⟨_, _, rfl, ⟨by simp; omega, by simp, ?_, by simp⟩, Nat.le_refl _, Nat.le_succ _, below_box (below_one w _) (Nat.le_refl _) _⟩
  simp

/-- what a job came to -/
def Came (out err : List UInt8) (st : Int) : Int → Flow → Prop := fun n F' => n = st ∧ F'.said true = out ∧ F'.said false = err
theorem mainDoes_of {w : World} {X : Job} {inb : List UInt8} {sv : Value} {id : FuncId} {caps : Array Value} {Ok : World → Prop} {args : List ByteArray} {out err : List UInt8} {st : Int}
    (hm : MainSays id caps Ok args out err st) (ha : X.B.args = args) (hok : ∀ W, Turns [X.p] w W → Ok W) : MainDoes w X (Flow.first inb sv) id caps (Came out err st) := by
  intro W hT hJ
  refine (hm W X _ (hok W hT) hJ ha rfl rfl).mono ?_
  rintro e w' ⟨rfl, F', hJ', hG, h1, h2⟩
  exact ⟨st, F', rfl, hJ', hG, rfl, h1, h2⟩
theorem Holds2.turns {b1 b2 : Nat} {most : Int} {id : FuncId} {w w' : World} {p : Nat} (h : Holds2 b1 b2 most id w) (hT : Turns [p] w w') (h1 : p ≠ b1) (h2 : p ≠ b2) : Holds2 b1 b2 most id w' := by
  obtain ⟨k1, k2, k3, k4⟩ := h
  have := hT.size
  refine ⟨by omega, by omega, ?_, ?_⟩
  · rw [← k3]; exact cell_same (a := ⟨b1, 0, none⟩) (hT.block b1 k1 (by simpa using fun e => h1 e.symm))
  · rw [← k4]; exact cell_same (a := ⟨b2, 0, none⟩) (hT.block b2 k2 (by simpa using fun e => h2 e.symm))

def tagEcho : ByteArray := ⟨#[101, 99, 104, 111]⟩
set_option maxRecDepth 100000 in
set_option maxHeartbeats 1000000 in
theorem startEcho (w : World) (rest : List ByteArray) (inb : List UInt8) (buf line run : Int) (hl : rest.length < 2097152) (out err : List UInt8) (st : Int) (hm : MainSays 45 #[] (fun _ => True) (tagEcho :: rest) out err st) :
    StartDoes w (tagEcho :: rest) inb buf line run 27 (Came out err st) := by
  intro W X sv hb hJ ha _ _ _ hfoot
  have hargs := procArgs1 W X _ hJ tagEcho rest ha rest.length rfl hl
  unfold tagEcho at hargs
  have HM := Lib.hid hm
  have HA := Lib.hid ha
  clear hm ha hfoot
  go_enter Tryz.func27, Tryz.ntmps27
  go_wp2_with (first
    | (go_at_call 44; refine hargs.mono ?_; rintro e w1 ⟨g, cap, o, rfl, hcap, hg, hg1, hb1, hJ1, hc0, hcs, hcut⟩)
    | (go_at_call 52; refine (goTop _ X _ hJ1 _ _).mono ?_; rintro e w2 ⟨m, rfl, hM, hm, hb2⟩))
  go_returns
  refine ⟨m, _, _, rfl, hM, Nat.le_trans hb1.size hm, hb1.trans (hb2.mono hb1.size), enters_of Tryz.func45 (by kernel_rfl) rfl, mainDoes_of HM.out HA.out (fun _ _ => trivial)⟩

def tagTrue : ByteArray := ⟨#[116, 114, 117, 101]⟩
set_option maxRecDepth 100000 in
set_option maxHeartbeats 1000000 in
theorem startTrue (w : World) (rest : List ByteArray) (inb : List UInt8) (buf line run : Int) (hl : rest.length < 2097152) (out err : List UInt8) (st : Int) (hm : MainSays 49 #[] (fun _ => True) (tagTrue :: rest) out err st) :
    StartDoes w (tagTrue :: rest) inb buf line run 27 (Came out err st) := by
  intro W X sv hb hJ ha _ _ _ hfoot
  have hargs := procArgs1 W X _ hJ tagTrue rest ha rest.length rfl hl
  unfold tagTrue at hargs
  have HM := Lib.hid hm
  have HA := Lib.hid ha
  clear hm ha hfoot
  go_enter Tryz.func27, Tryz.ntmps27
  go_wp2_with (first
    | (go_at_call 44; refine hargs.mono ?_; rintro e w1 ⟨g, cap, o, rfl, hcap, hg, hg1, hb1, hJ1, hc0, hcs, hcut⟩)
    | (go_at_call 52; refine (goTop _ X _ hJ1 _ _).mono ?_; rintro e w2 ⟨m, rfl, hM, hm, hb2⟩))
  go_returns
  refine ⟨m, _, _, rfl, hM, Nat.le_trans hb1.size hm, hb1.trans (hb2.mono hb1.size), enters_of Tryz.func49 (by kernel_rfl) rfl, mainDoes_of HM.out HA.out (fun _ _ => trivial)⟩

def tagFalse : ByteArray := ⟨#[102, 97, 108, 115, 101]⟩
set_option maxRecDepth 100000 in
set_option maxHeartbeats 1000000 in
theorem startFalse (w : World) (rest : List ByteArray) (inb : List UInt8) (buf line run : Int) (hl : rest.length < 2097152) (out err : List UInt8) (st : Int) (hm : MainSays 50 #[] (fun _ => True) (tagFalse :: rest) out err st) :
    StartDoes w (tagFalse :: rest) inb buf line run 27 (Came out err st) := by
  intro W X sv hb hJ ha _ _ _ hfoot
  have hargs := procArgs1 W X _ hJ tagFalse rest ha rest.length rfl hl
  unfold tagFalse at hargs
  have HM := Lib.hid hm
  have HA := Lib.hid ha
  clear hm ha hfoot
  go_enter Tryz.func27, Tryz.ntmps27
  go_wp2_with (first
    | (go_at_call 44; refine hargs.mono ?_; rintro e w1 ⟨g, cap, o, rfl, hcap, hg, hg1, hb1, hJ1, hc0, hcs, hcut⟩)
    | (go_at_call 52; refine (goTop _ X _ hJ1 _ _).mono ?_; rintro e w2 ⟨m, rfl, hM, hm, hb2⟩))
  go_returns
  refine ⟨m, _, _, rfl, hM, Nat.le_trans hb1.size hm, hb1.trans (hb2.mono hb1.size), enters_of Tryz.func50 (by kernel_rfl) rfl, mainDoes_of HM.out HA.out (fun _ _ => trivial)⟩

def tagPrintf : ByteArray := ⟨#[112, 114, 105, 110, 116, 102]⟩
set_option maxRecDepth 100000 in
set_option maxHeartbeats 1000000 in
theorem startPrintf (w : World) (rest : List ByteArray) (inb : List UInt8) (buf line run : Int) (hl : rest.length < 2097152) (out err : List UInt8) (st : Int) (hm : MainSays 51 #[] (fun _ => True) (tagPrintf :: rest) out err st) :
    StartDoes w (tagPrintf :: rest) inb buf line run 27 (Came out err st) := by
  intro W X sv hb hJ ha _ _ _ hfoot
  have hargs := procArgs1 W X _ hJ tagPrintf rest ha rest.length rfl hl
  unfold tagPrintf at hargs
  have HM := Lib.hid hm
  have HA := Lib.hid ha
  clear hm ha hfoot
  go_enter Tryz.func27, Tryz.ntmps27
  go_wp2_with (first
    | (go_at_call 44; refine hargs.mono ?_; rintro e w1 ⟨g, cap, o, rfl, hcap, hg, hg1, hb1, hJ1, hc0, hcs, hcut⟩)
    | (go_at_call 52; refine (goTop _ X _ hJ1 _ _).mono ?_; rintro e w2 ⟨m, rfl, hM, hm, hb2⟩))
  go_returns
  refine ⟨m, _, _, rfl, hM, Nat.le_trans hb1.size hm, hb1.trans (hb2.mono hb1.size), enters_of Tryz.func51 (by kernel_rfl) rfl, mainDoes_of HM.out HA.out (fun _ _ => trivial)⟩

def tagBase : ByteArray := ⟨#[98, 97, 115, 101, 110, 97, 109, 101]⟩
set_option maxRecDepth 100000 in
set_option maxHeartbeats 1000000 in
theorem startBase (w : World) (rest : List ByteArray) (inb : List UInt8) (buf line run : Int) (hl : rest.length < 2097152) (out err : List UInt8) (st : Int)
    (hm : ∀ b1 b2, MainSays 76 #[.pointer (some ⟨b1, 0, none⟩), .pointer (some ⟨b2, 0, none⟩)] (Holds2 b1 b2 2 47) (tagBase :: rest) out err st) :
    StartDoes w (tagBase :: rest) inb buf line run 27 (Came out err st) := by
  intro W X sv hb hJ ha _ _ _ hfoot
  have hargs := procArgs1 W X _ hJ tagBase rest ha rest.length rfl hl
  unfold tagBase at hargs
  have HM := Lib.hid hm
  have HA := Lib.hid ha
  have hpl := hJ.proc.blk.lt
  clear hm ha hfoot
  go_enter Tryz.func27, Tryz.ntmps27
  go_wp2_with (first
    | (go_at_call 44; refine hargs.mono ?_; rintro e w1 ⟨g, cap, o, rfl, hcap, hg, hg1, hb1, hJ1, hc0, hcs, hcut⟩)
    | (go_at_call 46; refine (pathTop _ 2 47).mono ?_; rintro e w3 ⟨b1, b2, rfl, hH, hB1, hB2, hb3⟩; have hJ3 := hJ1.below hb3)
    | (go_at_call 52; refine (goTop _ X _ hJ3 _ _).mono ?_; rintro e w2 ⟨m, rfl, hM, hm, hb2⟩))
  go_returns
  have hb13 := hb1.trans (hb3.mono hb1.size)
  have hs1 := hb1.size
  refine ⟨m, _, _, rfl, hM, Nat.le_trans hb13.size hm, hb13.trans (hb2.mono hb13.size), enters_of Tryz.func76 (by kernel_rfl) rfl, mainDoes_of (HM.out b1 b2) HA.out (fun W' hT => (hH.below hb2).turns hT (by omega) (by omega))⟩

def tagDir : ByteArray := ⟨#[100, 105, 114, 110, 97, 109, 101]⟩
set_option maxRecDepth 100000 in
set_option maxHeartbeats 1000000 in
theorem startDir (w : World) (rest : List ByteArray) (inb : List UInt8) (buf line run : Int) (hl : rest.length < 2097152) (out err : List UInt8) (st : Int)
    (hm : ∀ b1 b2, MainSays 76 #[.pointer (some ⟨b1, 0, none⟩), .pointer (some ⟨b2, 0, none⟩)] (Holds2 b1 b2 1 48) (tagDir :: rest) out err st) :
    StartDoes w (tagDir :: rest) inb buf line run 27 (Came out err st) := by
  intro W X sv hb hJ ha _ _ _ hfoot
  have hargs := procArgs1 W X _ hJ tagDir rest ha rest.length rfl hl
  unfold tagDir at hargs
  have HM := Lib.hid hm
  have HA := Lib.hid ha
  have hpl := hJ.proc.blk.lt
  clear hm ha hfoot
  go_enter Tryz.func27, Tryz.ntmps27
  go_wp2_with (first
    | (go_at_call 44; refine hargs.mono ?_; rintro e w1 ⟨g, cap, o, rfl, hcap, hg, hg1, hb1, hJ1, hc0, hcs, hcut⟩)
    | (go_at_call 46; refine (pathTop _ 1 48).mono ?_; rintro e w3 ⟨b1, b2, rfl, hH, hB1, hB2, hb3⟩; have hJ3 := hJ1.below hb3)
    | (go_at_call 52; refine (goTop _ X _ hJ3 _ _).mono ?_; rintro e w2 ⟨m, rfl, hM, hm, hb2⟩))
  go_returns
  have hb13 := hb1.trans (hb3.mono hb1.size)
  have hs1 := hb1.size
  refine ⟨m, _, _, rfl, hM, Nat.le_trans hb13.size hm, hb13.trans (hb2.mono hb13.size), enters_of Tryz.func76 (by kernel_rfl) rfl, mainDoes_of (HM.out b1 b2) HA.out (fun W' hT => (hH.below hb2).turns hT (by omega) (by omega))⟩

end Go.Proofs.YtobapajmplfeiaaGreatDoor
end

section
namespace Go.Proofs.YtobapajmplfeiaaGreatDoor
open Go.RowKit

/-- an array of 65 bytes: the last ones are l -/
def digArr (l : List UInt8) : Array Value := (bytesC (List.replicate (65 - l.length) 0 ++ l)).toArray
theorem zeros_digArr : Tryz.zeroCells184 = digArr [] := by kernel_rfl
theorem digArr_get (l : List UInt8) (h : l.length < 65) : (digArr l)[64 - l.length]? = some (.int .u8 0) := by
  unfold digArr bytesC
  rw [List.getElem?_toArray, List.getElem?_map, List.getElem?_append_left (by simp; omega), List.getElem?_replicate, if_pos (by omega)]
  rfl
theorem digArr_set (l : List UInt8) (c : UInt8) (_h : l.length < 65) : (digArr l).setIfInBounds (64 - l.length) (.int .u8 c.toNat) = digArr (c :: l) := by
  unfold digArr bytesC
  have e1 : List.replicate (65 - l.length) (0 : UInt8) = List.replicate (64 - l.length) 0 ++ [0] := by
    rw [show 65 - l.length = (64 - l.length) + 1 by omega, List.replicate_succ']
  have e2 : 65 - (c :: l).length = 64 - l.length := by simp
  rw [List.setIfInBounds_toArray, e1, e2]
  simp
theorem digArr_reads (w : World) (t : TypeId) (l : List UInt8) (_h : l.length ≤ 65) : Reads (w.alloc (.cells (digArr l) t)) (w.heap.size + 1) 1 (some ⟨w.heap.size, 65 - l.length, none⟩) l.length (bytesC l) := by
  refine ⟨by simp [bytesC], fun _ => ⟨_, rfl, by simp, fun j u hu => ?_⟩⟩
  have e : (⟨w.heap.size, 65 - l.length, none⟩ : Addr).add j = ⟨w.heap.size, 65 - l.length + j, none⟩ := by unfold Addr.add; split <;> simp_all
  rw [e, (Blk.new w _ _).cell]
  unfold digArr bytesC at *
  rw [List.getElem?_toArray, List.getElem?_map, List.getElem?_append_right (by simp), ← List.getElem?_map]
  simpa using hu
namespace Pl
/-- a digit's sign -/
def sign (d : Nat) : UInt8 := if d < 10 then UInt8.ofNat (48 + d) else UInt8.ofNat (87 + d)
/-- a number's digits to a base -/
def digs (b : Nat) (n : Nat) : List UInt8 :=
  if _h : 2 ≤ b ∧ b ≤ n then digs b (n / b) ++ [sign (n % b)] else [sign n]
  termination_by n
  decreasing_by exact Nat.div_lt_self (by omega) (by omega)
theorem digs_small {b n : Nat} (h : n < b) : digs b n = [sign n] := by rw [digs, dif_neg (by omega)]
theorem digs_step {b n : Nat} (hb : 2 ≤ b) (h : b ≤ n) : digs b n = digs b (n / b) ++ [sign (n % b)] := by rw [digs, dif_pos ⟨hb, h⟩]
/-- how many digits there have been -/
theorem room {b l v : Nat} (hb : 8 ≤ b) (hv : b ≤ v) (h : v * b ^ l < 18446744073709551616) : l ≤ 20 := by
  rcases Nat.lt_or_ge l 21 with h1 | h1
  · omega
  · have h2 : 8 ^ 21 ≤ b ^ l := Nat.le_trans (Nat.pow_le_pow_left hb 21) (Nat.pow_le_pow_right (by omega) h1)
    have h3 : 8 * 8 ^ 21 ≤ v * b ^ l := Nat.mul_le_mul (by omega) h2
    have h4 : (8 : Nat) * 8 ^ 21 = 73786976294838206464 := by decide
    omega
theorem step_room {b l v : Nat} (h : v * b ^ l < 18446744073709551616) : v / b * b ^ (l + 1) < 18446744073709551616 := by
  refine Nat.lt_of_le_of_lt ?_ h
  rw [Nat.pow_succ, Nat.mul_comm (b ^ l) b, ← Nat.mul_assoc]
  exact Nat.mul_le_mul_right _ (Nat.div_mul_le_self v b)
/-- a whole number's text to a base -/
def text (b : Nat) (n : Int) : List UInt8 := (if n < 0 then [45] else []) ++ digs b n.natAbs
end Pl

def signsB : ByteArray := ⟨#[48, 49, 50, 51, 52, 53, 54, 55, 56, 57, 97, 98, 99, 100, 101, 102, 103, 104, 105, 106, 107, 108, 109, 110, 111, 112, 113, 114, 115, 116, 117, 118, 119, 120, 121, 122]⟩
theorem signsB_get (k : Nat) (hk : k < 36) : signsB[k]'(show k < 36 from hk) = Pl.sign k := by
  have h : (List.range 36).all (fun k => decide (signsB.data[k]? = some (Pl.sign k))) = true := by decide
  have h1 := of_decide_eq_true (List.all_eq_true.1 h k (List.mem_range.2 hk))
  obtain ⟨_, h2⟩ := Array.getElem?_eq_some_iff.1 h1
  exact h2
theorem signsB_at {i : Int} {k : Nat} (hi : i = (k : Int)) (hk : k < 36) (h : i.toNat < signsB.size) : signsB[i.toNat]'h = Pl.sign k := by
  subst hi
  exact signsB_get k hk
theorem run_sliceAt_arr {P : Program} {t e : TypeId} {n : Nat} {i : TypeInfo} (ht : P.underlying t = some (.array n e)) (hi : P.info? e = some i) (hs : i.size = 1) (g l : Nat) (x : Int) (hx : x = (l : Int)) (hl : l < n) (W : World) :
    (Instr.sliceAt t (.pointer (some ⟨g, 0, none⟩)) (some (.int .i64 x)) none none).run P W = .ok (.slice (some ⟨g, l, none⟩) (n - l) (n - l)) W := by
  subst hx
  have hee : P.elem t = e := by simp only [Program.elem, ht]
  have hen : P.arrayLen t = n := by simp only [Program.arrayLen, ht]
  have he : P.underlying t = some (.array (P.arrayLen t) (P.elem t)) := by rw [hee, hen]; exact ht
  rw [run_sliceAt_array_l W t ⟨g, 0, none⟩ he .i64 l (by omega) (by rw [hen]; omega)]
  simp only [hee, hen, sizeOf, typeInfo, Sem.run_bind, Sem.run_pure]
  simp [hi, hs, slicedAt, go_sem, show ¬ n = l by omega]
theorem arr_step (l : List UInt8) (i : Nat) (c d : UInt8) (hi : 65 - l.length = i) (hl : l.length < 65) (hc : c = d) : (digArr l).setIfInBounds (i - 1) (.int .u8 c.toNat) = digArr (d :: l) := by
  subst hc
  rw [← digArr_set l c hl, show i - 1 = 64 - l.length by omega]

set_option maxHeartbeats 1000000 in
theorem tz8 (w : World) (h : w.cell? ⟨5, 7, none⟩ = some (.int .u8 3)) : Calls Tryz.prog 92 #[.int .u64 8] w fun e w' => e = .returned (.int .i64 3) ∧ w' = w := by
  have h1 : bits BinOp.and IntKind.u64 8 (IntKind.u64.wrap (-8)) = 8 := by decide
  go_enter Tryz.func92, Tryz.ntmps92
  go_wp2
  go_ret
  exact ⟨rfl, rfl⟩
set_option maxHeartbeats 1000000 in
theorem pow8 (w : World)  : Calls Tryz.prog 91 #[.int .i64 8] w fun e w' => e = .returned (.bool true) ∧ w' = w := by
  have h1 : bits BinOp.and IntKind.i64 8 7 = 0 := by decide
  go_enter Tryz.func91, Tryz.ntmps91
  go_wp2
  go_ret
  exact ⟨rfl, rfl⟩
theorem and7 (v : Nat) (h : v < 18446744073709551616) : bits BinOp.and IntKind.u64 v 7 = ((v % 8 : Nat) : Int) := by
  have := u64_and_nat v 7 h (by omega)
  rw [show (v &&& 7) = v % 8 from Nat.and_two_pow_sub_one_eq_mod v 3] at this
  exact this

set_option maxRecDepth 100000 in
set_option maxHeartbeats 2000000 in
theorem bits8p (u : Nat) (hu : u < 18446744073709551616) (w : World) (h : w.cell? ⟨5, 7, none⟩ = some (.int .u8 3)) :
    Calls Tryz.prog 56 #[.slice none 0 0, .int .u64 u, .int .i64 8, .bool false, .bool false] w fun e w' => e = .returned (.tuple #[.slice none 0 0, .string ⟨(Pl.digs 8 u).toArray⟩]) ∧ Below w.heap.size w w' := by
  have hlt : 5 < w.heap.size := World.block_lt_of_cell? w _ h
  have htz := fun o => tz8 (w.alloc o) ((World.cell?_alloc_lt w o _ hlt).trans h)
  clear h
  obtain ⟨iB, hiB, hB0, hB1, hB2⟩ := info_parts Tryz.infoByte
  clear hB0 hB2
  go_enter Tryz.func56, Tryz.ntmps56
  go_wp2_with (first | (go_at_call 91; refine (pow8 _).mono ?_; rintro e w' ⟨rfl, rfl⟩) | (go_at_call 92; refine (htz _).mono ?_; rintro e w' ⟨rfl, rfl⟩))
  rw [zeros_digArr]
  clear htz
  go_loopw [1, 13] (fun x i wr => ∃ (l : List UInt8) (v : Nat), l.length ≤ 21 ∧ v < 18446744073709551616 ∧ Hid (v * 8 ^ l.length < 18446744073709551616) ∧ Hid (Pl.digs 8 u = Pl.digs 8 v ++ l) ∧ x = .int .u64 v ∧ i = .int .i64 ((65 - l.length : Nat) : Int) ∧ wr = w.alloc (.cells (digArr l) 184)) (fun x _ _ => (intOf x).toNat)
  case atStart => exact ⟨[], u, by simp, hu, Lib.hid (by simpa using hu), Lib.hid (by simp), rfl, rfl, rfl⟩
  case round =>
    obtain ⟨l, v, hl, hv, hr, hd, rfl, hi, rfl⟩ := hrel
    obtain ⟨i, hi'⟩ : ∃ i : Nat, 65 - l.length = i := ⟨_, rfl⟩
    rw [hi'] at hi
    subst hi
    have hi1 : 44 ≤ i := by omega
    have hi2 : i ≤ 65 := by omega
    have hget : (digArr l)[i - 1]? = some (.int .u8 0) := by rw [← digArr_get l (by omega), show i - 1 = 64 - l.length by omega]
    have HI := Lib.hid hi'
    clear hi'
    by_cases h8 : 8 ≤ v
    · have hand := and7 v hv
      have hvm : v % 8 < 8 := Nat.mod_lt _ (by omega)
      have hl20 := Pl.room (by omega) h8 hr.out
      go_wp2
      go_roundw
      case rel =>
        refine ⟨Pl.sign (v % 8) :: l, v / 8, by simp; omega, by omega, Lib.hid (by simpa using Pl.step_room hr.out), Lib.hid (by rw [hd.out, Pl.digs_step (by omega) h8, List.append_assoc]; rfl), by go_num, ?_, ?_⟩
        · have := HI.out
          rw [show 65 - (Pl.sign (v % 8) :: l).length = i - 1 by simp; omega]
          go_num
        · exact congrArg (fun c => w.alloc (.cells c 184)) (arr_step l i _ _ HI.out (by omega) (signsB_at (k := v % 8) (by first | rfl | exact hand) (by omega) _))
      case measure => simp [intOf]; omega
    · have hvs : v < 8 := by omega
      have hd2 : Pl.digs 8 u = Pl.sign v :: l := by rw [hd.out, Pl.digs_small hvs]; rfl
      have hsl := run_sliceAt_arr (P := Tryz.prog) Tryz.underlying184 hiB hB1 w.heap.size (i - 1) ((i : Int) - 1) (by omega) (by omega)
      have hln : 65 - (i - 1) = l.length + 1 := by have := HI.out; omega
      rw [hln] at hsl
      have harr := arr_step l i (signsB[v]'(show v < 36 by omega)) (Pl.sign v) HI.out (by omega) (signsB_get v (by omega))
      unfold signsB at harr
      have hcs : (convert 27 9 (.slice (some ⟨w.heap.size, i - 1, none⟩) (l.length + 1) (l.length + 1))).run Tryz.prog (w.alloc (.cells (digArr (Pl.sign v :: l)) 184)) = .ok (.string ⟨(Pl.sign v :: l).toArray⟩) (w.alloc (.cells (digArr (Pl.sign v :: l)) 184)) := by
        have h1 := convert_string (P := Tryz.prog) (src := 27) (dst := 9) (e := 5) Tryz.underlying27 Tryz.underlying5 Tryz.underlying9 (cap := l.length + 1) (digArr_reads w 184 (Pl.sign v :: l) (by simp; omega))
        have h2 : 65 - (Pl.sign v :: l).length = i - 1 := by have := HI.out; simp; omega
        rw [h2] at h1
        exact h1
      have HD := Lib.hid hd2
      clear hd2 hd hln
      go_wp2
      go_ret2
      exact ⟨by rw [HD.out]; rfl, (Below.refl _ _).alloc (Nat.le_refl _) _⟩
set_option maxRecDepth 100000 in
set_option maxHeartbeats 2000000 in
theorem bits8n (u : Nat) (hu : u < 18446744073709551616) (U : Nat) (hU : U + u = 18446744073709551616) (w : World) (h : w.cell? ⟨5, 7, none⟩ = some (.int .u8 3)) :
    Calls Tryz.prog 56 #[.slice none 0 0, .int .u64 U, .int .i64 8, .bool true, .bool false] w fun e w' => e = .returned (.tuple #[.slice none 0 0, .string ⟨(45 :: Pl.digs 8 u).toArray⟩]) ∧ Below w.heap.size w w' := by
  have hlt : 5 < w.heap.size := World.block_lt_of_cell? w _ h
  have htz := fun o => tz8 (w.alloc o) ((World.cell?_alloc_lt w o _ hlt).trans h)
  clear h
  obtain ⟨iB, hiB, hB0, hB1, hB2⟩ := info_parts Tryz.infoByte
  clear hB0 hB2
  have hneg : IntKind.u64.wrap (-(U : Int)) = (u : Int) := by
    have h1 : IntKind.u64.wrap (-(U : Int)) = (-(U : Int)) % 18446744073709551616 := rfl
    omega
  go_enter Tryz.func56, Tryz.ntmps56
  go_wp2_with (first | (go_at_call 91; refine (pow8 _).mono ?_; rintro e w' ⟨rfl, rfl⟩) | (go_at_call 92; refine (htz _).mono ?_; rintro e w' ⟨rfl, rfl⟩))
  rw [zeros_digArr]
  clear htz hneg hU
  go_loopw [1, 13] (fun x i wr => ∃ (l : List UInt8) (v : Nat), l.length ≤ 21 ∧ v < 18446744073709551616 ∧ Hid (v * 8 ^ l.length < 18446744073709551616) ∧ Hid (Pl.digs 8 u = Pl.digs 8 v ++ l) ∧ x = .int .u64 v ∧ i = .int .i64 ((65 - l.length : Nat) : Int) ∧ wr = w.alloc (.cells (digArr l) 184)) (fun x _ _ => (intOf x).toNat)
  case atStart => exact ⟨[], u, by simp, hu, Lib.hid (by simpa using hu), Lib.hid (by simp), rfl, rfl, rfl⟩
  case round =>
    obtain ⟨l, v, hl, hv, hr, hd, rfl, hi, rfl⟩ := hrel
    obtain ⟨i, hi'⟩ : ∃ i : Nat, 65 - l.length = i := ⟨_, rfl⟩
    rw [hi'] at hi
    subst hi
    have hi1 : 44 ≤ i := by omega
    have hi2 : i ≤ 65 := by omega
    have hget : (digArr l)[i - 1]? = some (.int .u8 0) := by rw [← digArr_get l (by omega), show i - 1 = 64 - l.length by omega]
    have HI := Lib.hid hi'
    clear hi'
    by_cases h8 : 8 ≤ v
    · have hand := and7 v hv
      have hvm : v % 8 < 8 := Nat.mod_lt _ (by omega)
      have hl20 := Pl.room (by omega) h8 hr.out
      go_wp2
      go_roundw
      case rel =>
        refine ⟨Pl.sign (v % 8) :: l, v / 8, by simp; omega, by omega, Lib.hid (by simpa using Pl.step_room hr.out), Lib.hid (by rw [hd.out, Pl.digs_step (by omega) h8, List.append_assoc]; rfl), by go_num, ?_, ?_⟩
        · have := HI.out
          rw [show 65 - (Pl.sign (v % 8) :: l).length = i - 1 by simp; omega]
          go_num
        · exact congrArg (fun c => w.alloc (.cells c 184)) (arr_step l i _ _ HI.out (by omega) (signsB_at (k := v % 8) (by first | rfl | exact hand) (by omega) _))
      case measure => simp [intOf]; omega
    · have hvs : v < 8 := by omega
      have hd2 : Pl.digs 8 u = Pl.sign v :: l := by rw [hd.out, Pl.digs_small hvs]; rfl
      have hsl := run_sliceAt_arr (P := Tryz.prog) Tryz.underlying184 hiB hB1 w.heap.size (i - 1 - 1) ((i : Int) - 1 - 1) (by omega) (by omega)
      have hln : 65 - (i - 1 - 1) = l.length + 1 + 1 := by have := HI.out; omega
      rw [hln] at hsl
      have harr := arr_step l i (signsB[v]'(show v < 36 by omega)) (Pl.sign v) HI.out (by omega) (signsB_get v (by omega))
      have harr2 : (digArr (Pl.sign v :: l)).setIfInBounds (i - 1 - 1) (.int .u8 45) = digArr (45 :: Pl.sign v :: l) := arr_step (Pl.sign v :: l) (i - 1) 45 45 (by have := HI.out; simp; omega) (by simp; omega) rfl
      have hget2 : (digArr (Pl.sign v :: l))[i - 1 - 1]? = some (.int .u8 0) := by
        rw [← digArr_get (Pl.sign v :: l) (by simp; omega), show i - 1 - 1 = 64 - (Pl.sign v :: l).length by have := HI.out; simp; omega]
      unfold signsB at harr
      have hcs : (convert 27 9 (.slice (some ⟨w.heap.size, i - 1 - 1, none⟩) (l.length + 1 + 1) (l.length + 1 + 1))).run Tryz.prog (w.alloc (.cells (digArr (45 :: Pl.sign v :: l)) 184)) = .ok (.string ⟨(45 :: Pl.sign v :: l).toArray⟩) (w.alloc (.cells (digArr (45 :: Pl.sign v :: l)) 184)) := by
        have h1 := convert_string (P := Tryz.prog) (src := 27) (dst := 9) (e := 5) Tryz.underlying27 Tryz.underlying5 Tryz.underlying9 (cap := l.length + 1 + 1) (digArr_reads w 184 (45 :: Pl.sign v :: l) (by simp; omega))
        have h2 : 65 - (45 :: Pl.sign v :: l).length = i - 1 - 1 := by have := HI.out; simp; omega
        rw [h2] at h1
        exact h1
      have HD := Lib.hid hd2
      clear hd2 hd hln
      go_wp2
      go_ret2
      exact ⟨by rw [HD.out]; rfl, (Below.refl _ _).alloc (Nat.le_refl _) _⟩
set_option maxHeartbeats 1000000 in
theorem tz16 (w : World) (h : w.cell? ⟨5, 15, none⟩ = some (.int .u8 4)) : Calls Tryz.prog 92 #[.int .u64 16] w fun e w' => e = .returned (.int .i64 4) ∧ w' = w := by
  have h1 : bits BinOp.and IntKind.u64 16 (IntKind.u64.wrap (-16)) = 16 := by decide
  go_enter Tryz.func92, Tryz.ntmps92
  go_wp2
  go_ret
  exact ⟨rfl, rfl⟩
set_option maxHeartbeats 1000000 in
theorem pow16 (w : World)  : Calls Tryz.prog 91 #[.int .i64 16] w fun e w' => e = .returned (.bool true) ∧ w' = w := by
  have h1 : bits BinOp.and IntKind.i64 16 15 = 0 := by decide
  go_enter Tryz.func91, Tryz.ntmps91
  go_wp2
  go_ret
  exact ⟨rfl, rfl⟩
theorem and15 (v : Nat) (h : v < 18446744073709551616) : bits BinOp.and IntKind.u64 v 15 = ((v % 16 : Nat) : Int) := by
  have := u64_and_nat v 15 h (by omega)
  rw [show (v &&& 15) = v % 16 from Nat.and_two_pow_sub_one_eq_mod v 4] at this
  exact this

set_option maxRecDepth 100000 in
set_option maxHeartbeats 2000000 in
theorem bits16p (u : Nat) (hu : u < 18446744073709551616) (w : World) (h : w.cell? ⟨5, 15, none⟩ = some (.int .u8 4)) :
    Calls Tryz.prog 56 #[.slice none 0 0, .int .u64 u, .int .i64 16, .bool false, .bool false] w fun e w' => e = .returned (.tuple #[.slice none 0 0, .string ⟨(Pl.digs 16 u).toArray⟩]) ∧ Below w.heap.size w w' := by
  have hlt : 5 < w.heap.size := World.block_lt_of_cell? w _ h
  have htz := fun o => tz16 (w.alloc o) ((World.cell?_alloc_lt w o _ hlt).trans h)
  clear h
  obtain ⟨iB, hiB, hB0, hB1, hB2⟩ := info_parts Tryz.infoByte
  clear hB0 hB2
  go_enter Tryz.func56, Tryz.ntmps56
  go_wp2_with (first | (go_at_call 91; refine (pow16 _).mono ?_; rintro e w' ⟨rfl, rfl⟩) | (go_at_call 92; refine (htz _).mono ?_; rintro e w' ⟨rfl, rfl⟩))
  rw [zeros_digArr]
  clear htz
  go_loopw [1, 13] (fun x i wr => ∃ (l : List UInt8) (v : Nat), l.length ≤ 21 ∧ v < 18446744073709551616 ∧ Hid (v * 16 ^ l.length < 18446744073709551616) ∧ Hid (Pl.digs 16 u = Pl.digs 16 v ++ l) ∧ x = .int .u64 v ∧ i = .int .i64 ((65 - l.length : Nat) : Int) ∧ wr = w.alloc (.cells (digArr l) 184)) (fun x _ _ => (intOf x).toNat)
  case atStart => exact ⟨[], u, by simp, hu, Lib.hid (by simpa using hu), Lib.hid (by simp), rfl, rfl, rfl⟩
  case round =>
    obtain ⟨l, v, hl, hv, hr, hd, rfl, hi, rfl⟩ := hrel
    obtain ⟨i, hi'⟩ : ∃ i : Nat, 65 - l.length = i := ⟨_, rfl⟩
    rw [hi'] at hi
    subst hi
    have hi1 : 44 ≤ i := by omega
    have hi2 : i ≤ 65 := by omega
    have hget : (digArr l)[i - 1]? = some (.int .u8 0) := by rw [← digArr_get l (by omega), show i - 1 = 64 - l.length by omega]
    have HI := Lib.hid hi'
    clear hi'
    by_cases h8 : 16 ≤ v
    · have hand := and15 v hv
      have hvm : v % 16 < 16 := Nat.mod_lt _ (by omega)
      have hl20 := Pl.room (by omega) h8 hr.out
      go_wp2
      go_roundw
      case rel =>
        refine ⟨Pl.sign (v % 16) :: l, v / 16, by simp; omega, by omega, Lib.hid (by simpa using Pl.step_room hr.out), Lib.hid (by rw [hd.out, Pl.digs_step (by omega) h8, List.append_assoc]; rfl), by go_num, ?_, ?_⟩
        · have := HI.out
          rw [show 65 - (Pl.sign (v % 16) :: l).length = i - 1 by simp; omega]
          go_num
        · exact congrArg (fun c => w.alloc (.cells c 184)) (arr_step l i _ _ HI.out (by omega) (signsB_at (k := v % 16) (by first | rfl | exact hand) (by omega) _))
      case measure => simp [intOf]; omega
    · have hvs : v < 16 := by omega
      have hd2 : Pl.digs 16 u = Pl.sign v :: l := by rw [hd.out, Pl.digs_small hvs]; rfl
      have hsl := run_sliceAt_arr (P := Tryz.prog) Tryz.underlying184 hiB hB1 w.heap.size (i - 1) ((i : Int) - 1) (by omega) (by omega)
      have hln : 65 - (i - 1) = l.length + 1 := by have := HI.out; omega
      rw [hln] at hsl
      have harr := arr_step l i (signsB[v]'(show v < 36 by omega)) (Pl.sign v) HI.out (by omega) (signsB_get v (by omega))
      unfold signsB at harr
      have hcs : (convert 27 9 (.slice (some ⟨w.heap.size, i - 1, none⟩) (l.length + 1) (l.length + 1))).run Tryz.prog (w.alloc (.cells (digArr (Pl.sign v :: l)) 184)) = .ok (.string ⟨(Pl.sign v :: l).toArray⟩) (w.alloc (.cells (digArr (Pl.sign v :: l)) 184)) := by
        have h1 := convert_string (P := Tryz.prog) (src := 27) (dst := 9) (e := 5) Tryz.underlying27 Tryz.underlying5 Tryz.underlying9 (cap := l.length + 1) (digArr_reads w 184 (Pl.sign v :: l) (by simp; omega))
        have h2 : 65 - (Pl.sign v :: l).length = i - 1 := by have := HI.out; simp; omega
        rw [h2] at h1
        exact h1
      have HD := Lib.hid hd2
      clear hd2 hd hln
      go_wp2
      go_ret2
      exact ⟨by rw [HD.out]; rfl, (Below.refl _ _).alloc (Nat.le_refl _) _⟩
set_option maxRecDepth 100000 in
set_option maxHeartbeats 2000000 in
theorem bits16n (u : Nat) (hu : u < 18446744073709551616) (U : Nat) (hU : U + u = 18446744073709551616) (w : World) (h : w.cell? ⟨5, 15, none⟩ = some (.int .u8 4)) :
    Calls Tryz.prog 56 #[.slice none 0 0, .int .u64 U, .int .i64 16, .bool true, .bool false] w fun e w' => e = .returned (.tuple #[.slice none 0 0, .string ⟨(45 :: Pl.digs 16 u).toArray⟩]) ∧ Below w.heap.size w w' := by
  have hlt : 5 < w.heap.size := World.block_lt_of_cell? w _ h
  have htz := fun o => tz16 (w.alloc o) ((World.cell?_alloc_lt w o _ hlt).trans h)
  clear h
  obtain ⟨iB, hiB, hB0, hB1, hB2⟩ := info_parts Tryz.infoByte
  clear hB0 hB2
  have hneg : IntKind.u64.wrap (-(U : Int)) = (u : Int) := by
    have h1 : IntKind.u64.wrap (-(U : Int)) = (-(U : Int)) % 18446744073709551616 := rfl
    omega
  go_enter Tryz.func56, Tryz.ntmps56
  go_wp2_with (first | (go_at_call 91; refine (pow16 _).mono ?_; rintro e w' ⟨rfl, rfl⟩) | (go_at_call 92; refine (htz _).mono ?_; rintro e w' ⟨rfl, rfl⟩))
  rw [zeros_digArr]
  clear htz hneg hU
  go_loopw [1, 13] (fun x i wr => ∃ (l : List UInt8) (v : Nat), l.length ≤ 21 ∧ v < 18446744073709551616 ∧ Hid (v * 16 ^ l.length < 18446744073709551616) ∧ Hid (Pl.digs 16 u = Pl.digs 16 v ++ l) ∧ x = .int .u64 v ∧ i = .int .i64 ((65 - l.length : Nat) : Int) ∧ wr = w.alloc (.cells (digArr l) 184)) (fun x _ _ => (intOf x).toNat)
  case atStart => exact ⟨[], u, by simp, hu, Lib.hid (by simpa using hu), Lib.hid (by simp), rfl, rfl, rfl⟩
  case round =>
    obtain ⟨l, v, hl, hv, hr, hd, rfl, hi, rfl⟩ := hrel
    obtain ⟨i, hi'⟩ : ∃ i : Nat, 65 - l.length = i := ⟨_, rfl⟩
    rw [hi'] at hi
    subst hi
    have hi1 : 44 ≤ i := by omega
    have hi2 : i ≤ 65 := by omega
    have hget : (digArr l)[i - 1]? = some (.int .u8 0) := by rw [← digArr_get l (by omega), show i - 1 = 64 - l.length by omega]
    have HI := Lib.hid hi'
    clear hi'
    by_cases h8 : 16 ≤ v
    · have hand := and15 v hv
      have hvm : v % 16 < 16 := Nat.mod_lt _ (by omega)
      have hl20 := Pl.room (by omega) h8 hr.out
      go_wp2
      go_roundw
      case rel =>
        refine ⟨Pl.sign (v % 16) :: l, v / 16, by simp; omega, by omega, Lib.hid (by simpa using Pl.step_room hr.out), Lib.hid (by rw [hd.out, Pl.digs_step (by omega) h8, List.append_assoc]; rfl), by go_num, ?_, ?_⟩
        · have := HI.out
          rw [show 65 - (Pl.sign (v % 16) :: l).length = i - 1 by simp; omega]
          go_num
        · exact congrArg (fun c => w.alloc (.cells c 184)) (arr_step l i _ _ HI.out (by omega) (signsB_at (k := v % 16) (by first | rfl | exact hand) (by omega) _))
      case measure => simp [intOf]; omega
    · have hvs : v < 16 := by omega
      have hd2 : Pl.digs 16 u = Pl.sign v :: l := by rw [hd.out, Pl.digs_small hvs]; rfl
      have hsl := run_sliceAt_arr (P := Tryz.prog) Tryz.underlying184 hiB hB1 w.heap.size (i - 1 - 1) ((i : Int) - 1 - 1) (by omega) (by omega)
      have hln : 65 - (i - 1 - 1) = l.length + 1 + 1 := by have := HI.out; omega
      rw [hln] at hsl
      have harr := arr_step l i (signsB[v]'(show v < 36 by omega)) (Pl.sign v) HI.out (by omega) (signsB_get v (by omega))
      have harr2 : (digArr (Pl.sign v :: l)).setIfInBounds (i - 1 - 1) (.int .u8 45) = digArr (45 :: Pl.sign v :: l) := arr_step (Pl.sign v :: l) (i - 1) 45 45 (by have := HI.out; simp; omega) (by simp; omega) rfl
      have hget2 : (digArr (Pl.sign v :: l))[i - 1 - 1]? = some (.int .u8 0) := by
        rw [← digArr_get (Pl.sign v :: l) (by simp; omega), show i - 1 - 1 = 64 - (Pl.sign v :: l).length by have := HI.out; simp; omega]
      unfold signsB at harr
      have hcs : (convert 27 9 (.slice (some ⟨w.heap.size, i - 1 - 1, none⟩) (l.length + 1 + 1) (l.length + 1 + 1))).run Tryz.prog (w.alloc (.cells (digArr (45 :: Pl.sign v :: l)) 184)) = .ok (.string ⟨(45 :: Pl.sign v :: l).toArray⟩) (w.alloc (.cells (digArr (45 :: Pl.sign v :: l)) 184)) := by
        have h1 := convert_string (P := Tryz.prog) (src := 27) (dst := 9) (e := 5) Tryz.underlying27 Tryz.underlying5 Tryz.underlying9 (cap := l.length + 1 + 1) (digArr_reads w 184 (45 :: Pl.sign v :: l) (by simp; omega))
        have h2 : 65 - (45 :: Pl.sign v :: l).length = i - 1 - 1 := by have := HI.out; simp; omega
        rw [h2] at h1
        exact h1
      have HD := Lib.hid hd2
      clear hd2 hd hln
      go_wp2
      go_ret2
      exact ⟨by rw [HD.out]; rfl, (Below.refl _ _).alloc (Nat.le_refl _) _⟩

end Go.Proofs.YtobapajmplfeiaaGreatDoor
end

section
namespace Go.Proofs.YtobapajmplfeiaaGreatDoor
open Go.RowKit

/-- what the tables hold -/
structure Tabs (w : World) : Prop where
  tz8 : w.cell? ⟨5, 7, none⟩ = some (.int .u8 3)
  tz16 : w.cell? ⟨5, 15, none⟩ = some (.int .u8 4)
  pow : Lib.TabIs Tryz.prog w "internal/strconv.uint64pow10" .u64 Lib.pow10Tab
  errS : ∃ tp p, w.cell? ⟨6, 0, none⟩ = some (.iface tp p)
  errR : ∃ tp p, w.cell? ⟨7, 0, none⟩ = some (.iface tp p)

theorem cell_lt {w : World} {a : Addr} {v : Value} (h : w.cell? a = some v) : a.block < w.heap.size := World.block_lt_of_cell? w _ h
theorem Tabs.below {w w' : World} (h : Tabs w) (hb : Below w.heap.size w w') : Tabs w' where
  tz8 := (hb.cell (cell_lt h.tz8)).trans h.tz8
  tz16 := (hb.cell (cell_lt h.tz16)).trans h.tz16
  pow := var?_below (g := 1) hb (by kernel_rfl) (by have : 5 < w.heap.size := cell_lt h.tz8; omega) h.pow
  errS := by obtain ⟨tp, p, h1⟩ := h.errS; exact ⟨tp, p, (hb.cell (cell_lt h1)).trans h1⟩
  errR := by obtain ⟨tp, p, h1⟩ := h.errR; exact ⟨tp, p, (hb.cell (cell_lt h1)).trans h1⟩

theorem below_growN (w : World) (k : Nat) (os : Array Obj) : Below w.heap.size w (Sort.grow (w.drewN k) os) :=
  ⟨rfl, rfl, rfl, by simp [Sort.grow], fun j hj => by
    show (w.heap ++ os)[j]? = w.heap[j]?
    rw [Array.getElem?_append_left hj]⟩

namespace Pl
theorem digs_ten : ∀ (n : Nat), Lib.decDigits n = digs 10 n := by
  intro n
  induction n using Nat.strongRecOn with
  | _ n ih =>
    rw [Lib.decDigits]
    split
    · rename_i h
      rw [digs_small h]
      simp [sign, h]
    · rename_i h
      rw [digs_step (by omega) (by omega), ih (n / 10) (by omega)]
      simp [sign, Nat.mod_lt n (show 0 < 10 by omega)]
theorem itoa_text (n : Int) : Lib.itoa n = text 10 n := by
  unfold Lib.itoa text
  by_cases h : n < 0
  · rw [if_pos h, if_pos h, digs_ten]; rfl
  · rw [if_neg h, if_neg h, digs_ten, show n.toNat = n.natAbs by omega]; rfl
end Pl

/-- FormatInt at a base -/
def Fmt (b : Nat) : Prop := ∀ (n : Int) (w : World), -9223372036854775808 ≤ n → n ≤ 9223372036854775807 → Tabs w →
  Calls Tryz.prog 19 #[.int .i64 n, .int .i64 b] w fun e w' => e = .returned (.string ⟨(Pl.text b n).toArray⟩) ∧ Below w.heap.size w w'

theorem fmt10 : Fmt 10 := fun n w h0 h1 ht => (Tryz.strconv_FormatInt_10 n h0 h1 w ht.pow).mono fun e w' ⟨he, k, os, hw⟩ => ⟨by rw [he, Pl.itoa_text], hw ▸ below_growN w k os⟩

set_option maxHeartbeats 1000000 in
theorem fmti8 (n : Int) (w : World) (h0 : -9223372036854775808 ≤ n) (h1 : n ≤ 9223372036854775807) (ht : Tabs w) :
    Calls Tryz.prog 28 #[.int .i64 n, .int .i64 8] w fun e w' => e = .returned (.string ⟨(Pl.text 8 n).toArray⟩) ∧ Below w.heap.size w w' := by
  have hz := ht.tz8
  clear ht
  by_cases hn : 0 ≤ n
  · obtain ⟨m, rfl⟩ := Int.eq_ofNat_of_zero_le hn
    have hc := bits8p m (by omega) w hz
    have ht : Pl.digs 8 m = Pl.text 8 m := by unfold Pl.text; rw [if_neg (by omega)]; rfl
    rw [ht] at hc
    clear hz ht hn
    go_enter Tryz.func28, Tryz.ntmps28
    go_wp2_with (go_at_call 56; refine hc.mono ?_; rintro e w' ⟨rfl, hbe⟩)
    go_ret
    exact ⟨rfl, hbe⟩
  · obtain ⟨U, hU⟩ : ∃ U : Nat, (U : Int) = 18446744073709551616 + n := ⟨(18446744073709551616 + n).toNat, by omega⟩
    have hc := bits8n n.natAbs (by omega) U (by omega) w hz
    have ht : 45 :: Pl.digs 8 n.natAbs = Pl.text 8 n := by unfold Pl.text; rw [if_pos (by omega)]; rfl
    rw [ht] at hc
    have hneg : n < 0 := by omega
    have hw : IntKind.u64.wrap n = (U : Int) := by
      have h1 : IntKind.u64.wrap n = n % 18446744073709551616 := rfl
      omega
    clear hz ht hn hU
    go_enter Tryz.func28, Tryz.ntmps28
    go_wp2_with (go_at_call 56; refine hc.mono ?_; rintro e w' ⟨rfl, hbe⟩)
    go_ret
    exact ⟨rfl, hbe⟩
theorem fmt8 : Fmt 8 := by
  intro n w h0 h1 ht
  have hc := fmti8 n w h0 h1 ht
  clear ht
  show Calls Tryz.prog 19 #[.int .i64 n, .int .i64 8] w _
  go_enter Tryz.func19, Tryz.ntmps19
  go_wp2_with (go_at_call 28; refine hc.mono ?_; rintro e w' ⟨rfl, hbe⟩)
  go_ret
  exact ⟨rfl, hbe⟩

set_option maxHeartbeats 1000000 in
theorem fmti16 (n : Int) (w : World) (h0 : -9223372036854775808 ≤ n) (h1 : n ≤ 9223372036854775807) (ht : Tabs w) :
    Calls Tryz.prog 28 #[.int .i64 n, .int .i64 16] w fun e w' => e = .returned (.string ⟨(Pl.text 16 n).toArray⟩) ∧ Below w.heap.size w w' := by
  have hz := ht.tz16
  clear ht
  by_cases hn : 0 ≤ n
  · obtain ⟨m, rfl⟩ := Int.eq_ofNat_of_zero_le hn
    have hc := bits16p m (by omega) w hz
    have ht : Pl.digs 16 m = Pl.text 16 m := by unfold Pl.text; rw [if_neg (by omega)]; rfl
    rw [ht] at hc
    clear hz ht hn
    go_enter Tryz.func28, Tryz.ntmps28
    go_wp2_with (go_at_call 56; refine hc.mono ?_; rintro e w' ⟨rfl, hbe⟩)
    go_ret
    exact ⟨rfl, hbe⟩
  · obtain ⟨U, hU⟩ : ∃ U : Nat, (U : Int) = 18446744073709551616 + n := ⟨(18446744073709551616 + n).toNat, by omega⟩
    have hc := bits16n n.natAbs (by omega) U (by omega) w hz
    have ht : 45 :: Pl.digs 16 n.natAbs = Pl.text 16 n := by unfold Pl.text; rw [if_pos (by omega)]; rfl
    rw [ht] at hc
    have hneg : n < 0 := by omega
    have hw : IntKind.u64.wrap n = (U : Int) := by
      have h1 : IntKind.u64.wrap n = n % 18446744073709551616 := rfl
      omega
    clear hz ht hn hU
    go_enter Tryz.func28, Tryz.ntmps28
    go_wp2_with (go_at_call 56; refine hc.mono ?_; rintro e w' ⟨rfl, hbe⟩)
    go_ret
    exact ⟨rfl, hbe⟩
theorem fmt16 : Fmt 16 := by
  intro n w h0 h1 ht
  have hc := fmti16 n w h0 h1 ht
  clear ht
  show Calls Tryz.prog 19 #[.int .i64 n, .int .i64 16] w _
  go_enter Tryz.func19, Tryz.ntmps19
  go_wp2_with (go_at_call 28; refine hc.mono ?_; rintro e w' ⟨rfl, hbe⟩)
  go_ret
  exact ⟨rfl, hbe⟩

/-- the text of a number to a base -/
def textOf (b n : Int) : ByteArray := if b = 8 ∨ b = 10 ∨ b = 16 then ⟨(Pl.text b.toNat n).toArray⟩ else ⟨#[]⟩

set_option maxHeartbeats 1000000 in
theorem digits_any (n b : Int) (w : World) (h0 : -9223372036854775808 ≤ n) (h1 : n ≤ 9223372036854775807) (ht : Tabs w) :
    Calls Tryz.prog 12 #[.int .i64 n, .int .i64 b] w fun e w' => e = .returned (.string (textOf b n)) ∧ Below w.heap.size w w' := by
  by_cases hb : b = 8 ∨ b = 10 ∨ b = 16
  · rcases hb with rfl | rfl | rfl
    · have hc : Calls Tryz.prog 19 #[.int .i64 n, .int .i64 8] w fun e w' => e = .returned (.string (textOf 8 n)) ∧ Below w.heap.size w w' := fmt8 n w h0 h1 ht
      clear ht
      go_enter Tryz.func12, Tryz.ntmps12
      go_wp2_with (go_at_call 19; refine hc.mono ?_; rintro e w' ⟨rfl, hbe⟩)
      go_ret
      exact ⟨rfl, hbe⟩
    · have hc : Calls Tryz.prog 19 #[.int .i64 n, .int .i64 10] w fun e w' => e = .returned (.string (textOf 10 n)) ∧ Below w.heap.size w w' := fmt10 n w h0 h1 ht
      clear ht
      go_enter Tryz.func12, Tryz.ntmps12
      go_wp2_with (go_at_call 19; refine hc.mono ?_; rintro e w' ⟨rfl, hbe⟩)
      go_ret
      exact ⟨rfl, hbe⟩
    · have hc : Calls Tryz.prog 19 #[.int .i64 n, .int .i64 16] w fun e w' => e = .returned (.string (textOf 16 n)) ∧ Below w.heap.size w w' := fmt16 n w h0 h1 ht
      clear ht
      go_enter Tryz.func12, Tryz.ntmps12
      go_wp2_with (go_at_call 19; refine hc.mono ?_; rintro e w' ⟨rfl, hbe⟩)
      go_ret
      exact ⟨rfl, hbe⟩
  · have h8 : (b == 8) = false := by rw [beq_eq_false_iff_ne]; omega
    have h10 : (b == 10) = false := by rw [beq_eq_false_iff_ne]; omega
    have h16 : (b == 16) = false := by rw [beq_eq_false_iff_ne]; omega
    have g8 : (b != 8) = true := by rw [bne, h8]; rfl
    have g10 : (b != 10) = true := by rw [bne, h10]; rfl
    have g16 : (b != 16) = true := by rw [bne, h16]; rfl
    have he : textOf b n = ⟨#[]⟩ := by unfold textOf; rw [if_neg hb]
    rw [he]
    clear ht he hb
    go_enter Tryz.func12, Tryz.ntmps12
    go_wp2
    go_ret
    exact ⟨rfl, Below.refl _ _⟩

end Go.Proofs.YtobapajmplfeiaaGreatDoor
end

section
namespace Go.Proofs.YtobapajmplfeiaaGreatDoor
open Go.RowKit

namespace Pl
/-- what digits say to a base -/
def val (b : Nat) (l : List UInt8) : Nat := l.foldl (fun n c => n * b + (c.toNat - 48)) 0
def isDig (b : Nat) (c : UInt8) : Bool := decide (48 ≤ c.toNat ∧ c.toNat < 48 + b)
theorem val_snoc (b : Nat) (l : List UInt8) (c : UInt8) : val b (l ++ [c]) = val b l * b + (c.toNat - 48) := by simp [val]
theorem val_take {b : Nat} {l : List UInt8} {k : Nat} {c : UInt8} (h : l[k]? = some c) : val b (l.take (k + 1)) = val b (l.take k) * b + (c.toNat - 48) := by
  rw [List.take_add_one, h, Option.toList_some, val_snoc]
theorem foldl_le (b : Nat) (hb : 1 ≤ b) : ∀ (l : List UInt8) (n : Nat), n ≤ l.foldl (fun n c => n * b + (c.toNat - 48)) n
  | [], n => Nat.le_refl n
  | c :: l, n => by
    rw [List.foldl_cons]
    refine Nat.le_trans ?_ (foldl_le b hb l _)
    have := Nat.mul_le_mul_left n hb
    omega
theorem val_mono (b : Nat) (hb : 1 ≤ b) (l : List UInt8) (k : Nat) : val b (l.take k) ≤ val b l := by
  have h : val b l = (l.drop k).foldl (fun n c => n * b + (c.toNat - 48)) (val b (l.take k)) := by
    unfold val
    rw [← List.foldl_append, List.take_append_drop]
  rw [h]
  exact foldl_le b hb _ _
end Pl

/-- what ParseUint answers: a value, or the greatest one and an error -/
def uintRes (v : Nat) : Value := if v < 18446744073709551616 then .tuple #[.int .u64 v, .nilIface] else .tuple #[.int .u64 18446744073709551615, .iface 289 (.int .i64 1)]
/-- what ParseInt answers -/
def intRes (v : Nat) : Value := if v ≤ 9223372036854775807 then .tuple #[.int .i64 v, .nilIface] else .tuple #[.int .i64 9223372036854775807, .iface 289 (.int .i64 1)]
theorem intRes_of {v : Nat} (h : v ≤ 9223372036854775807) : intRes v = .tuple #[.int .i64 v, .nilIface] := if_pos h
theorem intRes_over {v : Nat} (h : 9223372036854775808 ≤ v) : intRes v = .tuple #[.int .i64 9223372036854775807, .iface 289 (.int .i64 1)] := if_neg (by omega)
theorem Tryz.compErr : (Tryz.prog.info? 289).map (·.comparable) = some true := by kernel_rfl
theorem uintRes_of {v : Nat} (h : v < 18446744073709551616) : uintRes v = .tuple #[.int .u64 v, .nilIface] := if_pos h
theorem uintRes_over {v : Nat} (h : 18446744073709551616 ≤ v) : uintRes v = .tuple #[.int .u64 18446744073709551615, .iface 289 (.int .i64 1)] := if_neg (by omega)

set_option maxRecDepth 100000 in
set_option maxHeartbeats 2000000 in
theorem puint8 (s : ByteArray) (w : World) (hs : s.size ≤ 140737488351232) (hpos : 0 < s.size) (hdig : ∀ c ∈ s.data.toList, Pl.isDig 8 c = true) :
    Calls Tryz.prog 187 #[.string s, .int .i64 8, .int .i64 64] w fun e w' => e = .returned (uintRes (Pl.val 8 s.data.toList)) ∧ Below w.heap.size w w' := by
  have hconv := fun W => Lib.run_convert_string_bytes (P := Tryz.prog) W 9 27 5 s Tryz.underlying9 Tryz.underlying27 Tryz.underlying5
  have hne : s.toList.isEmpty = false := by
    rw [ByteArray.toList_eq, List.isEmpty_eq_false_iff]
    intro e
    have : s.data.toList.length = s.size := Array.length_toList
    rw [e, List.length_nil] at this
    omega
  have hD := Lib.hid hdig
  clear hdig
  obtain ⟨R, hR'⟩ : ∃ R, uintRes (Pl.val 8 s.data.toList) = R := ⟨_, rfl⟩
  rw [hR']
  have hR := Lib.hid hR'
  clear hR'
  have hw1 : IntKind.u64.wrap 18446744073709551616 = 0 := by decide
  have hw2 : IntKind.u64.wrap (-1) = 18446744073709551615 := by decide
  go_enter Tryz.func187, Tryz.ntmps187
  go_wp2
  clear hconv hne hw1 hw2
  go_loop [12, 13, 101] (fun us n i => ∃ (k : Nat) (v : Int), k ≤ s.size ∧ 0 ≤ v ∧ v ≤ 18446744073709551615 ∧ Hid (v = (Pl.val 8 (s.data.toList.take k) : Nat)) ∧ us = .bool false ∧ n = .int .u64 v ∧ i = .int .i64 k) (fun _ _ i => s.size - (intOf i).toNat)
  case atStart => exact ⟨0, 0, by omega, by omega, by omega, Lib.hid (by simp [Pl.val]), rfl, rfl, rfl⟩
  case round =>
    obtain ⟨k, v, hk, hv0, hv, hval, rfl, rfl, rfl⟩ := hrel
    by_cases hlt : k < s.size
    · have hlt' : k < s.data.toList.length := by simpa using hlt
      obtain ⟨c, hc⟩ : ∃ c, s.data.toList[k]? = some c := ⟨_, List.getElem?_eq_getElem hlt'⟩
      have hdc : Pl.isDig 8 c = true := hD.out c (List.mem_of_getElem? hc)
      have hcr := of_decide_eq_true hdc
      obtain ⟨d, hd⟩ : ∃ d : Int, (c.toNat : Int) = d + 48 := ⟨(c.toNat : Int) - 48, by omega⟩
      have hd0 : 0 ≤ d := by omega
      have hdb : d < 8 := by omega
      have hcell : (Lib.bytesWorld w 5 s).cell? ⟨w.heap.size, k, none⟩ = some (.int .u8 (d + 48)) := by
        rw [Lib.bytesWorld_cell w _ s k hlt, List.getD_eq_getElem?_getD, hc, Option.getD_some, hd]
      have hstep : v * 8 + d = (Pl.val 8 (s.data.toList.take (k + 1)) : Nat) := by
        rw [Pl.val_take hc, Int.natCast_add, Int.natCast_mul, ← hval.out]
        omega
      have hmono := Pl.val_mono 8 (by omega) s.data.toList (k + 1)
      have hu : (d + 48 == 95) = false := by rw [beq_eq_false_iff_ne]; omega
      have HS := Lib.hid hstep
      clear hc hdc hcr hd hlt'
      by_cases hcut : 2305843009213693952 ≤ v
      · have HR : Hid (R = .tuple #[.int .u64 18446744073709551615, .iface 289 (.int .i64 1)]) := Lib.hid (by rw [← hR.out, uintRes_over (by omega)])
        clear hmono hR hstep
        go_wp2
        go_ret2
        exact ⟨congrArg Ending.returned HR.out.symm, below_bytesWorld w _ s⟩
      · have hcut' : v < 2305843009213693952 := by omega
        clear hcut
        by_cases hov : v * 8 + d ≤ 18446744073709551615
        · clear hmono hv hstep
          go_wp2
          go_round
          case rel => exact ⟨k + 1, v * 8 + d, by omega, by omega, by omega, HS, rfl, rfl, by go_num⟩
          case measure => simp [intOf]; omega
        · have HR : Hid (R = .tuple #[.int .u64 18446744073709551615, .iface 289 (.int .i64 1)]) := Lib.hid (by rw [← hR.out, uintRes_over (by omega)])
          obtain ⟨x, hx⟩ : ∃ x : Int, v * 8 + d = x + 18446744073709551616 := ⟨v * 8 + d - 18446744073709551616, by omega⟩
          have hwr : IntKind.u64.wrap (v * 8 + d) = x := by
            have h1 : IntKind.u64.wrap (v * 8 + d) = (v * 8 + d) % 18446744073709551616 := rfl
            omega
          have hxv : x < v * 8 := by omega
          clear hmono hR hx hov hv hstep
          go_wp2
          go_ret2
          exact ⟨congrArg Ending.returned HR.out.symm, below_bytesWorld w _ s⟩
    · have hk' : k = s.size := by omega
      have hval2 : v = (Pl.val 8 s.data.toList : Nat) := by
        have h2 : s.data.toList.take k = s.data.toList := List.take_of_length_le (by simp; omega)
        rw [hval.out, h2]
      have HR : Hid (R = .tuple #[.int .u64 v, .nilIface]) := Lib.hid (by
        rw [← hR.out, uintRes_of (by omega), hval2])
      clear hk' hR hval2
      go_wp2
      go_ret2
      exact ⟨congrArg Ending.returned HR.out.symm, below_bytesWorld w _ s⟩

set_option maxRecDepth 100000 in
set_option maxHeartbeats 2000000 in
theorem pint8 (s : ByteArray) (w : World) (hs : s.size ≤ 140737488351232) (hpos : 0 < s.size) (hdig : ∀ c ∈ s.data.toList, Pl.isDig 8 c = true) :
    Calls Tryz.prog 159 #[.string s, .int .i64 8, .int .i64 64] w fun e w' => e = .returned (intRes (Pl.val 8 s.data.toList)) ∧ Below w.heap.size w w' := by
  have hne : s.toList.isEmpty = false := by
    rw [ByteArray.toList_eq, List.isEmpty_eq_false_iff]
    intro e
    have : s.data.toList.length = s.size := Array.length_toList
    rw [e, List.length_nil] at this
    omega
  have hq1 : ∀ W, (binOp .neq 171 (.iface 289 (.int .i64 1)) (.iface 289 (.int .i64 1))).run Tryz.prog W = .ok (.bool false) W := fun W => Lib.run_neq_iface_int W 1 1 Tryz.underlying171 Tryz.compErr Tryz.underlying289
  obtain ⟨c, hc⟩ : ∃ c, c = s[0]'hpos := ⟨_, rfl⟩
  have hcd : Pl.isDig 8 c = true := hdig c (by rw [hc]; exact Array.getElem_mem_toList hpos)
  have hcr := of_decide_eq_true hcd
  have h43 : ((c.toNat : Int) == 43) = false := by rw [beq_eq_false_iff_ne]; omega
  have h45 : ((c.toNat : Int) == 45) = false := by rw [beq_eq_false_iff_ne]; omega
  have hcall := puint8 s w hs hpos hdig
  obtain ⟨V, hV⟩ : ∃ V : Int, V = (Pl.val 8 s.data.toList : Nat) := ⟨_, rfl⟩
  obtain ⟨R, hR'⟩ : ∃ R, intRes (Pl.val 8 s.data.toList) = R := ⟨_, rfl⟩
  rw [hR']
  have hV0 : 0 ≤ V := by omega
  rw [hc] at h43 h45
  clear hdig hcd hcr hc
  by_cases h1 : V ≤ 9223372036854775807
  · have hu : uintRes (Pl.val 8 s.data.toList) = .tuple #[.int .u64 V, .nilIface] := by rw [uintRes_of (by omega), hV]
    have HR : Hid (R = .tuple #[.int .i64 V, .nilIface]) := Lib.hid (by rw [← hR', intRes_of (by omega), hV])
    rw [hu] at hcall
    clear hu hR' hV
    go_enter Tryz.func159, Tryz.ntmps159
    go_wp2_with (go_at_call 187; refine hcall.mono ?_; rintro e w' ⟨rfl, hb⟩)
    go_ret2
    exact ⟨congrArg Ending.returned HR.out.symm, hb⟩
  · have HR : Hid (R = .tuple #[.int .i64 9223372036854775807, .iface 289 (.int .i64 1)]) := Lib.hid (by rw [← hR', intRes_over (by omega)])
    by_cases h2 : V < 18446744073709551616
    · have hu : uintRes (Pl.val 8 s.data.toList) = .tuple #[.int .u64 V, .nilIface] := by rw [uintRes_of (by omega), hV]
      have h3 : 9223372036854775808 ≤ V := by omega
      rw [hu] at hcall
      clear hu hR' hV h1
      go_enter Tryz.func159, Tryz.ntmps159
      go_wp2_with (go_at_call 187; refine hcall.mono ?_; rintro e w' ⟨rfl, hb⟩)
      go_ret2
      exact ⟨congrArg Ending.returned HR.out.symm, hb⟩
    · have hu : uintRes (Pl.val 8 s.data.toList) = .tuple #[.int .u64 18446744073709551615, .iface 289 (.int .i64 1)] := uintRes_over (by omega)
      rw [hu] at hcall
      clear hu hR' hV h1 h2
      go_enter Tryz.func159, Tryz.ntmps159
      go_wp2_with (go_at_call 187; refine hcall.mono ?_; rintro e w' ⟨rfl, hb⟩)
      go_ret2
      exact ⟨congrArg Ending.returned HR.out.symm, hb⟩

theorem pub8_ok (s : ByteArray) (w : World) (hs : s.size ≤ 140737488351232) (hpos : 0 < s.size) (hdig : ∀ c ∈ s.data.toList, Pl.isDig 8 c = true) (hv : Pl.val 8 s.data.toList ≤ 9223372036854775807) :
    Calls Tryz.prog 122 #[.string s, .int .i64 8, .int .i64 64] w fun e w' => e = .returned (.tuple #[.int .i64 (Pl.val 8 s.data.toList : Nat), .nilIface]) ∧ Below w.heap.size w w' := by
  have hcall := pint8 s w hs hpos hdig
  rw [intRes_of hv] at hcall
  obtain ⟨V, hV⟩ : ∃ V : Int, (Pl.val 8 s.data.toList : Nat) = V := ⟨_, rfl⟩
  rw [hV] at hcall ⊢
  clear hv hdig hV
  go_enter Tryz.func122, Tryz.ntmps122
  go_wp2_with (go_at_call 159; refine hcall.mono ?_; rintro e w' ⟨rfl, hb⟩)
  go_ret2
  exact ⟨rfl, hb⟩

set_option maxHeartbeats 1000000 in
theorem pub8_over (s : ByteArray) (w : World) (hs : s.size ≤ 140737488351232) (hpos : 0 < s.size) (hdig : ∀ c ∈ s.data.toList, Pl.isDig 8 c = true) (hv : 9223372036854775808 ≤ Pl.val 8 s.data.toList) (ht : Tabs w) :
    Calls Tryz.prog 122 #[.string s, .int .i64 8, .int .i64 64] w fun e w' => ∃ N, e = .returned (.tuple #[.int .i64 9223372036854775807, .iface 292 (.pointer (some ⟨N, 0, none⟩))]) ∧ Below w.heap.size w w' := by
  have hcall := pint8 s w hs hpos hdig
  rw [intRes_over hv] at hcall
  have hT : ∀ w', Below w.heap.size w w' → Calls Tryz.prog 160 #[.string ⟨#[80, 97, 114, 115, 101, 73, 110, 116]⟩, .string s, .int .i64 8, .int .i64 64, .iface 289 (.int .i64 1)] w' fun e w2 => ∃ N, e = .returned (.iface 292 (.pointer (some ⟨N, 0, none⟩))) ∧ Below w'.heap.size w' w2 := fun w' hb => by
    obtain ⟨tp, p, hp⟩ := (ht.below hb).errR
    exact (Tryz.strconv_toError_range ⟨#[80, 97, 114, 115, 101, 73, 110, 116]⟩ s 8 64 _ w' (by omega) hp (.inr ⟨tp, p, rfl⟩)).mono fun e w2 ⟨N, h1, _, _, h4⟩ => ⟨N, h1, h4⟩
  clear hv hdig ht
  go_enter Tryz.func122, Tryz.ntmps122
  go_wp2_with (first | (go_at_call 159; refine hcall.mono ?_; rintro e w' ⟨rfl, hb⟩) | (go_at_call 160; refine (hT _ (by assumption)).mono ?_; rintro e w2 ⟨N, rfl, hb2⟩))
  go_ret2
  exact ⟨N, rfl, hb.trans (hb2.mono hb.size)⟩

theorem pint8_empty (w : World) : Calls Tryz.prog 159 #[.string ⟨#[]⟩, .int .i64 8, .int .i64 64] w fun e w' => e = .returned (.tuple #[.int .i64 0, .iface 289 (.int .i64 2)]) ∧ w' = w := by
  go_enter Tryz.func159, Tryz.ntmps159
  go_wp2
  go_ret2
  exact ⟨rfl, rfl⟩
set_option maxHeartbeats 1000000 in
theorem pub8_empty (w : World) (ht : Tabs w) :
    Calls Tryz.prog 122 #[.string ⟨#[]⟩, .int .i64 8, .int .i64 64] w fun e w' => ∃ N, e = .returned (.tuple #[.int .i64 0, .iface 292 (.pointer (some ⟨N, 0, none⟩))]) ∧ Below w.heap.size w w' := by
  have hT : Calls Tryz.prog 160 #[.string ⟨#[80, 97, 114, 115, 101, 73, 110, 116]⟩, .string ⟨#[]⟩, .int .i64 8, .int .i64 64, .iface 289 (.int .i64 2)] w fun e w2 => ∃ N, e = .returned (.iface 292 (.pointer (some ⟨N, 0, none⟩))) ∧ Below w.heap.size w w2 := by
    obtain ⟨tp, p, hp⟩ := ht.errS
    exact (Tryz.strconv_toError_syntax ⟨#[80, 97, 114, 115, 101, 73, 110, 116]⟩ ⟨#[]⟩ 8 64 _ w (by decide) hp (.inr ⟨tp, p, rfl⟩)).mono fun e w2 ⟨N, h1, _, _, h4⟩ => ⟨N, h1, h4⟩
  clear ht
  go_enter Tryz.func122, Tryz.ntmps122
  go_wp2_with (first | (go_at_call 159; refine (pint8_empty _).mono ?_; rintro e w' ⟨rfl, rfl⟩) | (go_at_call 160; refine hT.mono ?_; rintro e w2 ⟨N, rfl, hb2⟩))
  go_ret2
  exact ⟨N, rfl, hb2⟩

set_option maxRecDepth 100000 in
set_option maxHeartbeats 2000000 in
theorem puint10 (s : ByteArray) (w : World) (hs : s.size ≤ 140737488351232) (hpos : 0 < s.size) (hdig : ∀ c ∈ s.data.toList, Pl.isDig 10 c = true) :
    Calls Tryz.prog 187 #[.string s, .int .i64 10, .int .i64 64] w fun e w' => e = .returned (uintRes (Pl.val 10 s.data.toList)) ∧ Below w.heap.size w w' := by
  have hconv := fun W => Lib.run_convert_string_bytes (P := Tryz.prog) W 9 27 5 s Tryz.underlying9 Tryz.underlying27 Tryz.underlying5
  have hne : s.toList.isEmpty = false := by
    rw [ByteArray.toList_eq, List.isEmpty_eq_false_iff]
    intro e
    have : s.data.toList.length = s.size := Array.length_toList
    rw [e, List.length_nil] at this
    omega
  have hD := Lib.hid hdig
  clear hdig
  obtain ⟨R, hR'⟩ : ∃ R, uintRes (Pl.val 10 s.data.toList) = R := ⟨_, rfl⟩
  rw [hR']
  have hR := Lib.hid hR'
  clear hR'
  have hw1 : IntKind.u64.wrap 18446744073709551616 = 0 := by decide
  have hw2 : IntKind.u64.wrap (-1) = 18446744073709551615 := by decide
  go_enter Tryz.func187, Tryz.ntmps187
  go_wp2
  clear hconv hne hw1 hw2
  go_loop [12, 13, 101] (fun us n i => ∃ (k : Nat) (v : Int), k ≤ s.size ∧ 0 ≤ v ∧ v ≤ 18446744073709551615 ∧ Hid (v = (Pl.val 10 (s.data.toList.take k) : Nat)) ∧ us = .bool false ∧ n = .int .u64 v ∧ i = .int .i64 k) (fun _ _ i => s.size - (intOf i).toNat)
  case atStart => exact ⟨0, 0, by omega, by omega, by omega, Lib.hid (by simp [Pl.val]), rfl, rfl, rfl⟩
  case round =>
    obtain ⟨k, v, hk, hv0, hv, hval, rfl, rfl, rfl⟩ := hrel
    by_cases hlt : k < s.size
    · have hlt' : k < s.data.toList.length := by simpa using hlt
      obtain ⟨c, hc⟩ : ∃ c, s.data.toList[k]? = some c := ⟨_, List.getElem?_eq_getElem hlt'⟩
      have hdc : Pl.isDig 10 c = true := hD.out c (List.mem_of_getElem? hc)
      have hcr := of_decide_eq_true hdc
      obtain ⟨d, hd⟩ : ∃ d : Int, (c.toNat : Int) = d + 48 := ⟨(c.toNat : Int) - 48, by omega⟩
      have hd0 : 0 ≤ d := by omega
      have hdb : d < 10 := by omega
      have hcell : (Lib.bytesWorld w 5 s).cell? ⟨w.heap.size, k, none⟩ = some (.int .u8 (d + 48)) := by
        rw [Lib.bytesWorld_cell w _ s k hlt, List.getD_eq_getElem?_getD, hc, Option.getD_some, hd]
      have hstep : v * 10 + d = (Pl.val 10 (s.data.toList.take (k + 1)) : Nat) := by
        rw [Pl.val_take hc, Int.natCast_add, Int.natCast_mul, ← hval.out]
        omega
      have hmono := Pl.val_mono 10 (by omega) s.data.toList (k + 1)
      have hu : (d + 48 == 95) = false := by rw [beq_eq_false_iff_ne]; omega
      have HS := Lib.hid hstep
      clear hc hdc hcr hd hlt'
      by_cases hcut : 1844674407370955162 ≤ v
      · have HR : Hid (R = .tuple #[.int .u64 18446744073709551615, .iface 289 (.int .i64 1)]) := Lib.hid (by rw [← hR.out, uintRes_over (by omega)])
        clear hmono hR hstep
        go_wp2
        go_ret2
        exact ⟨congrArg Ending.returned HR.out.symm, below_bytesWorld w _ s⟩
      · have hcut' : v < 1844674407370955162 := by omega
        clear hcut
        by_cases hov : v * 10 + d ≤ 18446744073709551615
        · clear hmono hv hstep
          go_wp2
          go_round
          case rel => exact ⟨k + 1, v * 10 + d, by omega, by omega, by omega, HS, rfl, rfl, by go_num⟩
          case measure => simp [intOf]; omega
        · have HR : Hid (R = .tuple #[.int .u64 18446744073709551615, .iface 289 (.int .i64 1)]) := Lib.hid (by rw [← hR.out, uintRes_over (by omega)])
          obtain ⟨x, hx⟩ : ∃ x : Int, v * 10 + d = x + 18446744073709551616 := ⟨v * 10 + d - 18446744073709551616, by omega⟩
          have hwr : IntKind.u64.wrap (v * 10 + d) = x := by
            have h1 : IntKind.u64.wrap (v * 10 + d) = (v * 10 + d) % 18446744073709551616 := rfl
            omega
          have hxv : x < v * 10 := by omega
          clear hmono hR hx hov hv hstep
          go_wp2
          go_ret2
          exact ⟨congrArg Ending.returned HR.out.symm, below_bytesWorld w _ s⟩
    · have hk' : k = s.size := by omega
      have hval2 : v = (Pl.val 10 s.data.toList : Nat) := by
        have h2 : s.data.toList.take k = s.data.toList := List.take_of_length_le (by simp; omega)
        rw [hval.out, h2]
      have HR : Hid (R = .tuple #[.int .u64 v, .nilIface]) := Lib.hid (by
        rw [← hR.out, uintRes_of (by omega), hval2])
      clear hk' hR hval2
      go_wp2
      go_ret2
      exact ⟨congrArg Ending.returned HR.out.symm, below_bytesWorld w _ s⟩

set_option maxRecDepth 100000 in
set_option maxHeartbeats 2000000 in
theorem pint10 (s : ByteArray) (w : World) (hs : s.size ≤ 140737488351232) (hpos : 0 < s.size) (hdig : ∀ c ∈ s.data.toList, Pl.isDig 10 c = true) :
    Calls Tryz.prog 159 #[.string s, .int .i64 10, .int .i64 64] w fun e w' => e = .returned (intRes (Pl.val 10 s.data.toList)) ∧ Below w.heap.size w w' := by
  have hne : s.toList.isEmpty = false := by
    rw [ByteArray.toList_eq, List.isEmpty_eq_false_iff]
    intro e
    have : s.data.toList.length = s.size := Array.length_toList
    rw [e, List.length_nil] at this
    omega
  have hq1 : ∀ W, (binOp .neq 171 (.iface 289 (.int .i64 1)) (.iface 289 (.int .i64 1))).run Tryz.prog W = .ok (.bool false) W := fun W => Lib.run_neq_iface_int W 1 1 Tryz.underlying171 Tryz.compErr Tryz.underlying289
  obtain ⟨c, hc⟩ : ∃ c, c = s[0]'hpos := ⟨_, rfl⟩
  have hcd : Pl.isDig 10 c = true := hdig c (by rw [hc]; exact Array.getElem_mem_toList hpos)
  have hcr := of_decide_eq_true hcd
  have h43 : ((c.toNat : Int) == 43) = false := by rw [beq_eq_false_iff_ne]; omega
  have h45 : ((c.toNat : Int) == 45) = false := by rw [beq_eq_false_iff_ne]; omega
  have hcall := puint10 s w hs hpos hdig
  obtain ⟨V, hV⟩ : ∃ V : Int, V = (Pl.val 10 s.data.toList : Nat) := ⟨_, rfl⟩
  obtain ⟨R, hR'⟩ : ∃ R, intRes (Pl.val 10 s.data.toList) = R := ⟨_, rfl⟩
  rw [hR']
  have hV0 : 0 ≤ V := by omega
  rw [hc] at h43 h45
  clear hdig hcd hcr hc
  by_cases h1 : V ≤ 9223372036854775807
  · have hu : uintRes (Pl.val 10 s.data.toList) = .tuple #[.int .u64 V, .nilIface] := by rw [uintRes_of (by omega), hV]
    have HR : Hid (R = .tuple #[.int .i64 V, .nilIface]) := Lib.hid (by rw [← hR', intRes_of (by omega), hV])
    rw [hu] at hcall
    clear hu hR' hV
    go_enter Tryz.func159, Tryz.ntmps159
    go_wp2_with (go_at_call 187; refine hcall.mono ?_; rintro e w' ⟨rfl, hb⟩)
    go_ret2
    exact ⟨congrArg Ending.returned HR.out.symm, hb⟩
  · have HR : Hid (R = .tuple #[.int .i64 9223372036854775807, .iface 289 (.int .i64 1)]) := Lib.hid (by rw [← hR', intRes_over (by omega)])
    by_cases h2 : V < 18446744073709551616
    · have hu : uintRes (Pl.val 10 s.data.toList) = .tuple #[.int .u64 V, .nilIface] := by rw [uintRes_of (by omega), hV]
      have h3 : 9223372036854775808 ≤ V := by omega
      rw [hu] at hcall
      clear hu hR' hV h1
      go_enter Tryz.func159, Tryz.ntmps159
      go_wp2_with (go_at_call 187; refine hcall.mono ?_; rintro e w' ⟨rfl, hb⟩)
      go_ret2
      exact ⟨congrArg Ending.returned HR.out.symm, hb⟩
    · have hu : uintRes (Pl.val 10 s.data.toList) = .tuple #[.int .u64 18446744073709551615, .iface 289 (.int .i64 1)] := uintRes_over (by omega)
      rw [hu] at hcall
      clear hu hR' hV h1 h2
      go_enter Tryz.func159, Tryz.ntmps159
      go_wp2_with (go_at_call 187; refine hcall.mono ?_; rintro e w' ⟨rfl, hb⟩)
      go_ret2
      exact ⟨congrArg Ending.returned HR.out.symm, hb⟩

theorem pub10_ok (s : ByteArray) (w : World) (hs : s.size ≤ 140737488351232) (hpos : 0 < s.size) (hdig : ∀ c ∈ s.data.toList, Pl.isDig 10 c = true) (hv : Pl.val 10 s.data.toList ≤ 9223372036854775807) :
    Calls Tryz.prog 122 #[.string s, .int .i64 10, .int .i64 64] w fun e w' => e = .returned (.tuple #[.int .i64 (Pl.val 10 s.data.toList : Nat), .nilIface]) ∧ Below w.heap.size w w' := by
  have hcall := pint10 s w hs hpos hdig
  rw [intRes_of hv] at hcall
  obtain ⟨V, hV⟩ : ∃ V : Int, (Pl.val 10 s.data.toList : Nat) = V := ⟨_, rfl⟩
  rw [hV] at hcall ⊢
  clear hv hdig hV
  go_enter Tryz.func122, Tryz.ntmps122
  go_wp2_with (go_at_call 159; refine hcall.mono ?_; rintro e w' ⟨rfl, hb⟩)
  go_ret2
  exact ⟨rfl, hb⟩

set_option maxHeartbeats 1000000 in
theorem pub10_over (s : ByteArray) (w : World) (hs : s.size ≤ 140737488351232) (hpos : 0 < s.size) (hdig : ∀ c ∈ s.data.toList, Pl.isDig 10 c = true) (hv : 9223372036854775808 ≤ Pl.val 10 s.data.toList) (ht : Tabs w) :
    Calls Tryz.prog 122 #[.string s, .int .i64 10, .int .i64 64] w fun e w' => ∃ N, e = .returned (.tuple #[.int .i64 9223372036854775807, .iface 292 (.pointer (some ⟨N, 0, none⟩))]) ∧ Below w.heap.size w w' := by
  have hcall := pint10 s w hs hpos hdig
  rw [intRes_over hv] at hcall
  have hT : ∀ w', Below w.heap.size w w' → Calls Tryz.prog 160 #[.string ⟨#[80, 97, 114, 115, 101, 73, 110, 116]⟩, .string s, .int .i64 10, .int .i64 64, .iface 289 (.int .i64 1)] w' fun e w2 => ∃ N, e = .returned (.iface 292 (.pointer (some ⟨N, 0, none⟩))) ∧ Below w'.heap.size w' w2 := fun w' hb => by
    obtain ⟨tp, p, hp⟩ := (ht.below hb).errR
    exact (Tryz.strconv_toError_range ⟨#[80, 97, 114, 115, 101, 73, 110, 116]⟩ s 10 64 _ w' (by omega) hp (.inr ⟨tp, p, rfl⟩)).mono fun e w2 ⟨N, h1, _, _, h4⟩ => ⟨N, h1, h4⟩
  clear hv hdig ht
  go_enter Tryz.func122, Tryz.ntmps122
  go_wp2_with (first | (go_at_call 159; refine hcall.mono ?_; rintro e w' ⟨rfl, hb⟩) | (go_at_call 160; refine (hT _ (by assumption)).mono ?_; rintro e w2 ⟨N, rfl, hb2⟩))
  go_ret2
  exact ⟨N, rfl, hb.trans (hb2.mono hb.size)⟩

theorem pint10_empty (w : World) : Calls Tryz.prog 159 #[.string ⟨#[]⟩, .int .i64 10, .int .i64 64] w fun e w' => e = .returned (.tuple #[.int .i64 0, .iface 289 (.int .i64 2)]) ∧ w' = w := by
  go_enter Tryz.func159, Tryz.ntmps159
  go_wp2
  go_ret2
  exact ⟨rfl, rfl⟩
set_option maxHeartbeats 1000000 in
theorem pub10_empty (w : World) (ht : Tabs w) :
    Calls Tryz.prog 122 #[.string ⟨#[]⟩, .int .i64 10, .int .i64 64] w fun e w' => ∃ N, e = .returned (.tuple #[.int .i64 0, .iface 292 (.pointer (some ⟨N, 0, none⟩))]) ∧ Below w.heap.size w w' := by
  have hT : Calls Tryz.prog 160 #[.string ⟨#[80, 97, 114, 115, 101, 73, 110, 116]⟩, .string ⟨#[]⟩, .int .i64 10, .int .i64 64, .iface 289 (.int .i64 2)] w fun e w2 => ∃ N, e = .returned (.iface 292 (.pointer (some ⟨N, 0, none⟩))) ∧ Below w.heap.size w w2 := by
    obtain ⟨tp, p, hp⟩ := ht.errS
    exact (Tryz.strconv_toError_syntax ⟨#[80, 97, 114, 115, 101, 73, 110, 116]⟩ ⟨#[]⟩ 10 64 _ w (by decide) hp (.inr ⟨tp, p, rfl⟩)).mono fun e w2 ⟨N, h1, _, _, h4⟩ => ⟨N, h1, h4⟩
  clear ht
  go_enter Tryz.func122, Tryz.ntmps122
  go_wp2_with (first | (go_at_call 159; refine (pint10_empty _).mono ?_; rintro e w' ⟨rfl, rfl⟩) | (go_at_call 160; refine hT.mono ?_; rintro e w2 ⟨N, rfl, hb2⟩))
  go_ret2
  exact ⟨N, rfl, hb2⟩

end Go.Proofs.YtobapajmplfeiaaGreatDoor
end

section
namespace Go.Proofs.YtobapajmplfeiaaGreatDoor
open Go.RowKit

namespace Pl
def allDig (b : Nat) (l : List UInt8) : Bool := l.all (isDig b)
/-- is it a number to the base, and at most so great? -/
def okNum (b : Nat) (most : Int) (l : List UInt8) : Bool := !l.isEmpty && allDig b l && decide ((val b l : Int) ≤ most)
end Pl
/-- what reading a number answers -/
def numRes (b : Nat) (most : Int) (l : List UInt8) : Value := if Pl.okNum b most l = true then .tuple #[.int .i64 (Pl.val b l : Nat), .bool true] else .tuple #[.int .i64 0, .bool false]
theorem numRes_yes {b : Nat} {most : Int} {l : List UInt8} (hne : l ≠ []) (hd : Pl.allDig b l = true) (hm : (Pl.val b l : Int) ≤ most) : numRes b most l = .tuple #[.int .i64 (Pl.val b l : Nat), .bool true] := by
  unfold numRes Pl.okNum
  rw [if_pos]
  simp [hd, hm, hne]
theorem numRes_no {b : Nat} {most : Int} {l : List UInt8} (h : l = [] ∨ Pl.allDig b l = false ∨ most < (Pl.val b l : Int)) : numRes b most l = .tuple #[.int .i64 0, .bool false] := by
  unfold numRes Pl.okNum
  rw [if_neg]
  rcases h with h | h | h
  · simp [h]
  · simp [h]
  · simp; intro _ _; omega

set_option maxRecDepth 100000 in
set_option maxHeartbeats 2000000 in
theorem based10_bad (s : ByteArray) (most : Int) (w : World) (hs : s.size ≤ 140737488351232) (hbad : Pl.allDig 10 s.data.toList = false) :
    Calls Tryz.prog 209 #[.string s, .int .i64 most, .int .i64 10] w fun e w' => e = .returned (.tuple #[.int .i64 0, .bool false]) ∧ Below w.heap.size w w' := by
  have hconv := fun W => Lib.run_convert_string_bytes (P := Tryz.prog) W 9 27 5 s Tryz.underlying9 Tryz.underlying27 Tryz.underlying5
  have hB := Lib.hid hbad
  clear hbad
  go_enter Tryz.func209, Tryz.ntmps209
  go_wp2
  clear hconv
  go_loop [9, 15] (fun _ i => ∃ k : Nat, k ≤ s.size ∧ Hid (∀ c ∈ s.data.toList.take k, Pl.isDig 10 c = true) ∧ i = .int .i64 k) (fun _ i => s.size - (intOf i).toNat)
  case atStart => exact ⟨0, by omega, Lib.hid (by simp), rfl⟩
  case round =>
    obtain ⟨k, hk, hpre, rfl⟩ := hrel
    by_cases hlt : k < s.size
    · have hlt' : k < s.data.toList.length := by simpa using hlt
      obtain ⟨c, hc⟩ : ∃ c, s.data.toList[k]? = some c := ⟨_, List.getElem?_eq_getElem hlt'⟩
      have hcell : (Lib.bytesWorld w 5 s).cell? ⟨w.heap.size, k, none⟩ = some (.int .u8 c.toNat) := by
        rw [Lib.bytesWorld_cell w _ s k hlt, List.getD_eq_getElem?_getD, hc, Option.getD_some]
      by_cases hlo : c.toNat < 48
      · have hlo' : (c.toNat : Int) < 48 := by omega
        clear hc hpre hlt'
        go_wp2
        go_ret2
        exact ⟨rfl, below_bytesWorld w _ s⟩
      · obtain ⟨d, hd⟩ : ∃ d : Int, (c.toNat : Int) = d + 48 := ⟨(c.toNat : Int) - 48, by omega⟩
        have hd0 : 0 ≤ d := by omega
        have hd1 : d < 208 := by have := c.toNat_lt; omega
        rw [hd] at hcell
        by_cases hhi : d < 10
        · have hcd : Pl.isDig 10 c = true := decide_eq_true (by omega)
          have hnext : Hid (∀ c ∈ s.data.toList.take (k + 1), Pl.isDig 10 c = true) := Lib.hid (by
            rw [List.take_add_one, hc]
            intro x hx
            rcases List.mem_append.1 hx with h | h
            · exact hpre.out x h
            · simp at h; rw [h]; exact hcd)
          clear hc hpre hlt' hd hcd hlo
          go_wp2
          go_round
          case rel => exact ⟨k + 1, by omega, hnext, by go_num⟩
          case measure => simp [intOf]; omega
        · have hhi' : 10 ≤ d := by omega
          clear hc hpre hlt' hd hlo hhi
          go_wp2
          go_ret2
          exact ⟨rfl, below_bytesWorld w _ s⟩
    · exfalso
      have h1 := hB.out
      have h2 : s.data.toList.take k = s.data.toList := List.take_of_length_le (by simp; omega)
      have h3 := hpre.out
      rw [h2] at h3
      have h4 : Pl.allDig 10 s.data.toList = true := List.all_eq_true.2 h3
      rw [h4] at h1
      cases h1

set_option maxRecDepth 100000 in
set_option maxHeartbeats 2000000 in
theorem based10_all (s : ByteArray) (most : Int) (w : World) (hs : s.size ≤ 140737488351232) (hmm : most ≤ 9223372036854775807) (hall : Pl.allDig 10 s.data.toList = true) (ht : Tabs w) :
    Calls Tryz.prog 209 #[.string s, .int .i64 most, .int .i64 10] w fun e w' => e = .returned (numRes 10 most s.data.toList) ∧ Below w.heap.size w w' := by
  have hconv := fun W => Lib.run_convert_string_bytes (P := Tryz.prog) W 9 27 5 s Tryz.underlying9 Tryz.underlying27 Tryz.underlying5
  have hdig : ∀ c ∈ s.data.toList, Pl.isDig 10 c = true := List.all_eq_true.1 hall
  have hD := Lib.hid hdig
  have hA := Lib.hid hall
  have hT := Lib.hid (ht.below (below_bytesWorld w 5 s))
  have hbw := below_bytesWorld w 5 s
  have hsz := hbw.size
  clear hdig hall ht
  obtain ⟨R, hR'⟩ : ∃ R, numRes 10 most s.data.toList = R := ⟨_, rfl⟩
  rw [hR']
  have hR := Lib.hid hR'
  clear hR'
  go_enter Tryz.func209, Tryz.ntmps209
  go_wp2
  clear hconv
  go_loop [9, 15] (fun _ i => ∃ k : Nat, k ≤ s.size ∧ i = .int .i64 k) (fun _ i => s.size - (intOf i).toNat)
  case atStart => exact ⟨0, by omega, rfl⟩
  case round =>
    obtain ⟨k, hk, rfl⟩ := hrel
    by_cases hlt : k < s.size
    · have hlt' : k < s.data.toList.length := by simpa using hlt
      obtain ⟨c, hc⟩ : ∃ c, s.data.toList[k]? = some c := ⟨_, List.getElem?_eq_getElem hlt'⟩
      have hcd : Pl.isDig 10 c = true := hD.out c (List.mem_of_getElem? hc)
      have hcr := of_decide_eq_true hcd
      obtain ⟨d, hd⟩ : ∃ d : Int, (c.toNat : Int) = d + 48 := ⟨(c.toNat : Int) - 48, by omega⟩
      have hd0 : 0 ≤ d := by omega
      have hdb : d < 10 := by omega
      have hcell : (Lib.bytesWorld w 5 s).cell? ⟨w.heap.size, k, none⟩ = some (.int .u8 (d + 48)) := by
        rw [Lib.bytesWorld_cell w _ s k hlt, List.getD_eq_getElem?_getD, hc, Option.getD_some, hd]
      clear hc hlt' hd hcd hcr
      go_wp2
      go_round
      case rel => exact ⟨k + 1, by omega, by go_num⟩
      case measure => simp [intOf]; omega
    · clear hk
      by_cases h0 : s.size = 0
      · have hs0 : s = ⟨#[]⟩ := by cases s with | mk d => congr 1; exact Array.eq_empty_of_size_eq_zero h0
        have HR : Hid (R = .tuple #[.int .i64 0, .bool false]) := Lib.hid (by rw [← hR.out]; exact numRes_no (.inl (by rw [hs0])))
        subst hs0
        have hcall := pub10_empty _ hT.out
        clear h0 hR
        go_wp2_with (go_at_call 122; refine hcall.mono ?_; rintro e w2 ⟨N, rfl, hb⟩)
        go_ret2
        exact ⟨congrArg Ending.returned HR.out.symm, hbw.trans (hb.mono hsz)⟩
      · have hpos : 0 < s.size := by omega
        have hne : s.data.toList ≠ [] := fun e => by
          have : s.data.toList.length = s.size := Array.length_toList
          rw [e, List.length_nil] at this
          omega
        by_cases hv : Pl.val 10 s.data.toList ≤ 9223372036854775807
        · have hcall := pub10_ok s (Lib.bytesWorld w 5 s) hs hpos hD.out hv
          obtain ⟨V, hV⟩ : ∃ V : Int, (Pl.val 10 s.data.toList : Nat) = V := ⟨_, rfl⟩
          rw [hV] at hcall
          have hV0 : 0 ≤ V := by omega
          have hV1 : V ≤ 9223372036854775807 := by omega
          by_cases hm : V ≤ most
          · have HR : Hid (R = .tuple #[.int .i64 V, .bool true]) := Lib.hid (by rw [← hR.out, numRes_yes hne hA.out (by omega), hV])
            clear hR hV hv h0 hne
            go_wp2_with (go_at_call 122; refine hcall.mono ?_; rintro e w2 ⟨rfl, hb⟩)
            go_ret2
            exact ⟨congrArg Ending.returned HR.out.symm, hbw.trans (hb.mono hsz)⟩
          · have HR : Hid (R = .tuple #[.int .i64 0, .bool false]) := Lib.hid (by rw [← hR.out]; exact numRes_no (.inr (.inr (by omega))))
            have hm' : most < V := by omega
            clear hR hV hv h0 hne hm
            go_wp2_with (go_at_call 122; refine hcall.mono ?_; rintro e w2 ⟨rfl, hb⟩)
            go_ret2
            exact ⟨congrArg Ending.returned HR.out.symm, hbw.trans (hb.mono hsz)⟩
        · have hcall := pub10_over s (Lib.bytesWorld w 5 s) hs hpos hD.out (by omega) hT.out
          have HR : Hid (R = .tuple #[.int .i64 0, .bool false]) := Lib.hid (by rw [← hR.out]; exact numRes_no (.inr (.inr (by omega))))
          clear hR hv h0 hne
          go_wp2_with (go_at_call 122; refine hcall.mono ?_; rintro e w2 ⟨N, rfl, hb⟩)
          go_ret2
          exact ⟨congrArg Ending.returned HR.out.symm, hbw.trans (hb.mono hsz)⟩

theorem based10_any (s : ByteArray) (most : Int) (w : World) (hs : s.size ≤ 140737488351232) (hmm : most ≤ 9223372036854775807) (ht : Tabs w) :
    Calls Tryz.prog 209 #[.string s, .int .i64 most, .int .i64 10] w fun e w' => e = .returned (numRes 10 most s.data.toList) ∧ Below w.heap.size w w' := by
  cases hall : Pl.allDig 10 s.data.toList with
  | true => exact based10_all s most w hs hmm hall ht
  | false => rw [numRes_no (.inr (.inl hall))]; exact based10_bad s most w hs hall

theorem text10_any (s : ByteArray) (most : Int) (w : World) (hs : s.size ≤ 140737488351232) (hmm : most ≤ 9223372036854775807) (ht : Tabs w) :
    Calls Tryz.prog 184 #[.string s, .int .i64 most] w fun e w' => e = .returned (numRes 10 most s.data.toList) ∧ Below w.heap.size w w' := by
  have hcall := based10_any s most w hs hmm ht
  clear ht
  unfold numRes at hcall ⊢
  split at hcall
  · rename_i h
    rw [if_pos h]
    clear h
    go_enter Tryz.func184, Tryz.ntmps184
    go_wp2_with (go_at_call 209; refine hcall.mono ?_; rintro e w2 ⟨rfl, hb⟩)
    go_ret2
    exact ⟨rfl, hb⟩
  · rename_i h
    rw [if_neg h]
    clear h
    go_enter Tryz.func184, Tryz.ntmps184
    go_wp2_with (go_at_call 209; refine hcall.mono ?_; rintro e w2 ⟨rfl, hb⟩)
    go_ret2
    exact ⟨rfl, hb⟩

end Go.Proofs.YtobapajmplfeiaaGreatDoor
end

section
namespace Go.Proofs.YtobapajmplfeiaaGreatDoor

namespace Pl
/-- one of a format: bytes (letter 0) or a conversion, of those that the laws reach -/
structure Piece where
  b : List UInt8
  letter : UInt8
  minus : Bool
  zero : Bool
  sharp : Bool
  width : Nat
def Piece.wideL (p : Piece) (s : List UInt8) : List UInt8 := if p.minus then s ++ List.replicate (p.width - s.length) 32 else List.replicate (p.width - s.length) 32 ++ s
end Pl
namespace Pl
/-- a flag of those that the laws reach: minus, zero, sharp -/
def isFl (c : UInt8) : Bool := c == 45 || c == 48 || c == 35
structure Fl where
  mn : Bool
  ze : Bool
  sh : Bool
def Fl.put (f : Fl) (c : UInt8) : Fl := ⟨f.mn || c == 45, f.ze || c == 48, f.sh || c == 35⟩
def Fl.none : Fl := ⟨false, false, false⟩
/-- a conversion's letter, of those that the laws reach -/
def isLet (c : UInt8) : Bool := c == 100 || c == 105 || c == 111 || c == 120 || c == 115
def bytesP (c : UInt8) : Piece := ⟨[c], 0, false, false, false, 0⟩
def convP (F D : List UInt8) (c : UInt8) : Piece := ⟨[], c, (F.foldl Fl.put Fl.none).mn, (F.foldl Fl.put Fl.none).ze, (F.foldl Fl.put Fl.none).sh, val 10 D⟩
/-- flags, a width (no zero ahead), a letter -/
structure Conv (F D : List UInt8) (c : UInt8) : Prop where
  fl : ∀ x ∈ F, isFl x = true
  dg : ∀ x ∈ D, isDig 10 x = true
  d0 : D.head? ≠ some 48
  wd : val 10 D ≤ 1000
  le : isLet c = true
inductive Fmt : List UInt8 → List Piece → Prop
  | nil : Fmt [] []
  | byte (c : UInt8) (s : List UInt8) (ps : List Piece) : c ≠ 92 → c ≠ 37 → Fmt s ps → Fmt (c :: s) (bytesP c :: ps)
  | nl (s : List UInt8) (ps : List Piece) : Fmt s ps → Fmt (92 :: 110 :: s) (bytesP 10 :: ps)
  | conv (F D : List UInt8) (c : UInt8) (s : List UInt8) (ps : List Piece) : Conv F D c → Fmt s ps → Fmt (37 :: (F ++ (D ++ c :: s))) (convP F D c :: ps)
theorem Fmt.len {s : List UInt8} {ps : List Piece} (h : Fmt s ps) : ps.length ≤ s.length := by
  induction h with
  | nil => simp
  | byte c s ps _ _ _ ih => simp; omega
  | nl s ps _ ih => simp; omega
  | conv F D c s ps _ _ ih => simp; omega

end Pl
end Go.Proofs.YtobapajmplfeiaaGreatDoor
end

section
namespace Go.Proofs.YtobapajmplfeiaaGreatDoor
open Go.RowKit Go.Maps

def pieceCells (p : Pl.Piece) : Array Value := #[.string (strB p.b), .int .u8 p.letter.toNat, .bool p.minus, .bool false, .bool false, .bool p.zero, .bool p.sharp, .int .i64 (p.width : Int), .int .i64 (-1)]
theorem repeatOne (c : UInt8) (n : Nat) (hn : n ≤ 140737488350000) (w : World) : Calls Tryz.prog 121 #[.string ⟨#[c]⟩, .int .i64 (n : Int)] w fun e w' => e = .returned (.string (strB (List.replicate n c))) ∧ Below w.heap.size w w' := by
  refine (Tryz.strings_Repeat ⟨#[c]⟩ n w (by omega) (by show 1 * n ≤ _; omega)).mono ?_
  rintro e w' ⟨rfl, hb⟩
  refine ⟨?_, hb⟩
  have : Lib.repeatL [c] n = List.replicate n c := by
    induction n with
    | zero => rfl
    | succ n ih => rw [Lib.repeatL, ih (by omega), List.replicate_succ]; rfl
  show Ending.returned (.string ⟨(Lib.repeatL [c] n).toArray⟩) = _
  rw [this]
  rfl
theorem strB_append (a b : List UInt8) : strB a ++ strB b = strB (a ++ b) := by
  apply ByteArray.ext
  simp [strB]
theorem max0 (a b : Nat) : (if (0 : Int) < (a : Int) - b then (a : Int) - b else 0) = ((a - b : Nat) : Int) := by split <;> omega

set_option maxRecDepth 100000 in
set_option maxHeartbeats 1000000 in
theorem wide_any (p : Pl.Piece) (s : List UInt8) (w : World) (hw : p.width ≤ 1000) (hs : s.length ≤ 140737488350000) :
    Calls Tryz.prog 82 #[.agg (pieceCells p), .string (strB s)] w fun e w' => e = .returned (.string (strB (p.wideL s))) ∧ Below w.heap.size w w' := by
  obtain ⟨g, hg⟩ : ∃ g, w.heap.size = g := ⟨_, rfl⟩
  unfold pieceCells
  obtain ⟨mn, hm⟩ : ∃ mn, p.minus = mn := ⟨_, rfl⟩
  rw [hm]
  obtain ⟨Z, hZ⟩ : ∃ Z, w.alloc (.cells #[.string (strB p.b), .int .u8 p.letter.toNat, .bool mn, .bool false, .bool false, .bool p.zero, .bool p.sharp, .int .i64 (p.width : Int), .int .i64 (-1)] 169) = Z := ⟨_, rfl⟩
  have bZ : Below w.heap.size w Z := by rw [← hZ]; exact below_one w _
  have kJ : Blk Z g 169 #[.string (strB p.b), .int .u8 p.letter.toNat, .bool mn, .bool false, .bool false, .bool p.zero, .bool p.sharp, .int .i64 (p.width : Int), .int .i64 (-1)] := by rw [← hZ, ← hg]; exact Blk.new w _ _
  have z0 : Z.cell? ⟨g, 0, none⟩ = some (.string (strB p.b)) := kJ.cell 0
  have z1 : Z.cell? ⟨g, 1, none⟩ = some (.int .u8 p.letter.toNat) := kJ.cell 1
  have z2 : Z.cell? ⟨g, 2, none⟩ = some (.bool mn) := kJ.cell 2
  have z3 : Z.cell? ⟨g, 3, none⟩ = some (.bool false) := kJ.cell 3
  have z4 : Z.cell? ⟨g, 4, none⟩ = some (.bool false) := kJ.cell 4
  have z5 : Z.cell? ⟨g, 5, none⟩ = some (.bool p.zero) := kJ.cell 5
  have z6 : Z.cell? ⟨g, 6, none⟩ = some (.bool p.sharp) := kJ.cell 6
  have z7 : Z.cell? ⟨g, 7, none⟩ = some (.int .i64 (p.width : Int)) := kJ.cell 7
  have z8 : Z.cell? ⟨g, 8, none⟩ = some (.int .i64 (-1)) := kJ.cell 8
  obtain ⟨n, hn⟩ : ∃ n, p.width - s.length = n := ⟨_, rfl⟩
  have hn1 : n ≤ 1000 := by omega
  have hrep := fun W => repeatOne 32 n (by omega) W
  have hsz : (strB s).size = s.length := strB_size s
  have hgz : (strB (List.replicate n (32 : UInt8))).size = n := by rw [strB_size]; simp
  have hd : p.wideL s = if p.minus then s ++ List.replicate n 32 else List.replicate n 32 ++ s := by rw [← hn]; rfl
  have HZB := Lib.hid bZ
  have HKJ := Lib.hid kJ
  clear bZ kJ
  have ha1 := strB_append s (List.replicate n 32)
  have ha2 := strB_append (List.replicate n 32) s
  obtain ⟨G, hG⟩ : ∃ G, List.replicate n (32 : UInt8) = G := ⟨_, rfl⟩
  rw [hG] at hrep hgz hd ha1 ha2
  clear hG
  rw [hm] at hd
  have HD := Lib.hid hd
  have hgZ : g < Z.heap.size := HKJ.out.lt
  have HG := Lib.hid hg
  have hx : max (0 : Int) ((p.width : Int) - s.length) = (n : Int) := by omega
  clear hd hm hn
  cases mn
  all_goals
    go_enter Tryz.func82, Tryz.ntmps82
    go_wp2_with (go_at_call 121; refine (hrep _).mono ?_; rintro e w1 ⟨rfl, hb1⟩; have x2 := (hb1.cell (p := ⟨g, 2, none⟩) hgZ).trans z2)
    go_returns
    exact ⟨by rw [HD.out]; rfl, HZB.out.trans (hb1.mono HZB.out.size)⟩

end Go.Proofs.YtobapajmplfeiaaGreatDoor
end

section
namespace Go.Proofs.YtobapajmplfeiaaGreatDoor
open Go.RowKit Go.Sort

theorem digs10_eq (n : Nat) : (⟨(Lib.decDigits n).toArray⟩ : ByteArray) = ⟨(Pl.digs 10 n).toArray⟩ := by rw [Pl.digs_ten]

set_option maxRecDepth 100000 in
set_option maxHeartbeats 2000000 in
theorem fuint10 (u : Nat) (hu64 : u < 18446744073709551616) (w : World) (ht : Tabs w) :
    Calls Tryz.prog 162 #[.int .u64 u, .int .i64 10] w fun e w' => e = .returned (.string ⟨(Pl.digs 10 u).toArray⟩) ∧ Below w.heap.size w w' := by
  by_cases h100 : u < 100
  · have hs := fun W => Tryz.internal_strconv_small u h100 W
    rw [← digs10_eq]
    clear ht
    go_enter Tryz.func162, Tryz.ntmps162
    go_wp2_with (go_at_call 53; refine (hs _).mono ?_; rintro e w1 ⟨rfl, rfl⟩)
    go_ret
    exact ⟨rfl, Below.refl _ _⟩
  · have hu1 : 1 ≤ u := by omega
    have hnd20 : Lib.nDigits u ≤ 20 := by have := Lib.numDigits_eq u hu1 hu64; split at this <;> omega
    have hal : Tryz.prog.arrayLen 92 = 24 := by kernel_rfl
    have hsl : ∀ W, (Instr.sliceAt 92 (.pointer (some ⟨w.heap.size, 0, none⟩)) none (some (.int .i64 (Lib.nDigits u : Int))) none).run Tryz.prog W = .ok (.slice (some ⟨w.heap.size, 0, none⟩) (Lib.nDigits u) 24) W := fun W => by
      rw [run_sliceAt_array_h W 92 ⟨w.heap.size, 0, none⟩ (by kernel_rfl) .i64 (Lib.nDigits u : Int) (by omega) (by rw [hal]; omega)]
      go_simp
    have hH0 := Lib.holds_zero0 w 92 (Lib.nDigits u) (by omega)
    have hfmt := Tryz.internal_strconv_formatBase10 w.heap.size 0 24 u (Array.replicate (Lib.nDigits u) 0) (w.alloc (.cells Lib.zeros24 92)) hH0 (by rw [Array.size_replicate]; exact Lib.lt_pow_nDigits u) hu64 (by rw [Array.size_replicate]; omega)
    rw [Array.size_replicate] at hfmt
    have HH0 := Lib.hid hH0
    have htab := ht.pow
    clear hH0 hal ht
    rw [← digs10_eq]
    go_enter Tryz.func162, Tryz.ntmps162
    go_wp2_with (go_at_call 54; refine (Tryz.internal_strconv_numDigits u hu1 hu64 _ (Lib.tabIs_alloc htab _)).mono ?_; rintro e w' ⟨rfl, rfl⟩)
    go_at_call 55
    refine hfmt.mono ?_
    rintro e w' ⟨rfl, k, v', dk, rfl, hF⟩
    have hcv : (convert 27 9 (.slice (some ⟨w.heap.size, 0, none⟩) (Lib.nDigits u) 24)).run Tryz.prog ((putRow (fun (b : UInt8) => Value.int .u8 (b.toNat : Int)) (w.alloc (.cells Lib.zeros24 92)) w.heap.size 0 dk).drewN k) = .ok (.string ⟨(Lib.decDigits u).toArray⟩) ((putRow (fun (b : UInt8) => Value.int .u8 (b.toNat : Int)) (w.alloc (.cells Lib.zeros24 92)) w.heap.size 0 dk).drewN k) := by
      have h := run_convert_bytes_back (P := Tryz.prog) ((putRow (fun (b : UInt8) => Value.int .u8 (b.toNat : Int)) (w.alloc (.cells Lib.zeros24 92)) w.heap.size 0 dk).drewN k) 27 9 5 ⟨w.heap.size, 0, none⟩ 24 (Lib.decDigits u) Tryz.underlying27 Tryz.underlying5 Tryz.underlying9 (fun j hj => by
        rw [Lib.row_is_numeral hF j hj, Lib.add_plain, World.cell?_drewN]
        exact cell?_putRow (fun (b : UInt8) => Value.int .u8 (b.toNat : Int)) _ w.heap.size 0 _ dk HH0.out (by rw [hF.size, Array.size_replicate]) j (by rw [hF.size]; rw [Lib.decDigits_length] at hj; exact hj))
      rw [Lib.decDigits_length] at h
      exact h
    go_wp2
    go_ret
    obtain ⟨os, eo⟩ := Lib.fin_at w (.cells Lib.zeros24 92) dk k 0
    exact ⟨rfl, by rw [eo]; exact below_growN w k os⟩

/-- FormatUint at a base -/
def FmtU (b : Nat) : Prop := ∀ (u : Nat) (w : World), u < 18446744073709551616 → Tabs w →
  Calls Tryz.prog 124 #[.int .u64 u, .int .i64 b] w fun e w' => e = .returned (.string ⟨(Pl.digs b u).toArray⟩) ∧ Below w.heap.size w w'
set_option maxHeartbeats 1000000 in
theorem fuint8 (u : Nat) (hu : u < 18446744073709551616) (w : World) (ht : Tabs w) :
    Calls Tryz.prog 162 #[.int .u64 u, .int .i64 8] w fun e w' => e = .returned (.string ⟨(Pl.digs 8 u).toArray⟩) ∧ Below w.heap.size w w' := by
  have hc := bits8p u hu w ht.tz8
  clear ht
  go_enter Tryz.func162, Tryz.ntmps162
  go_wp2_with (go_at_call 56; refine hc.mono ?_; rintro e w' ⟨rfl, hbe⟩)
  go_ret
  exact ⟨rfl, hbe⟩
set_option maxHeartbeats 1000000 in
theorem fuint16 (u : Nat) (hu : u < 18446744073709551616) (w : World) (ht : Tabs w) :
    Calls Tryz.prog 162 #[.int .u64 u, .int .i64 16] w fun e w' => e = .returned (.string ⟨(Pl.digs 16 u).toArray⟩) ∧ Below w.heap.size w w' := by
  have hc := bits16p u hu w ht.tz16
  clear ht
  go_enter Tryz.func162, Tryz.ntmps162
  go_wp2_with (go_at_call 56; refine hc.mono ?_; rintro e w' ⟨rfl, hbe⟩)
  go_ret
  exact ⟨rfl, hbe⟩
theorem fmtu8 : FmtU 8 := by
  intro u w hu ht
  have hc := fuint8 u hu w ht
  clear ht
  show Calls Tryz.prog 124 #[.int .u64 u, .int .i64 8] w _
  go_enter Tryz.func124, Tryz.ntmps124
  go_wp2_with (go_at_call 162; refine hc.mono ?_; rintro e w' ⟨rfl, hbe⟩)
  go_ret
  exact ⟨rfl, hbe⟩
theorem fmtu10 : FmtU 10 := by
  intro u w hu ht
  have hc := fuint10 u hu w ht
  clear ht
  show Calls Tryz.prog 124 #[.int .u64 u, .int .i64 10] w _
  go_enter Tryz.func124, Tryz.ntmps124
  go_wp2_with (go_at_call 162; refine hc.mono ?_; rintro e w' ⟨rfl, hbe⟩)
  go_ret
  exact ⟨rfl, hbe⟩
theorem fmtu16 : FmtU 16 := by
  intro u w hu ht
  have hc := fuint16 u hu w ht
  clear ht
  show Calls Tryz.prog 124 #[.int .u64 u, .int .i64 16] w _
  go_enter Tryz.func124, Tryz.ntmps124
  go_wp2_with (go_at_call 162; refine hc.mono ?_; rintro e w' ⟨rfl, hbe⟩)
  go_ret
  exact ⟨rfl, hbe⟩

end Go.Proofs.YtobapajmplfeiaaGreatDoor
end

section
namespace Go.Proofs.YtobapajmplfeiaaGreatDoor
open Go.RowKit Go.Maps

namespace Pl
def baseOf (c : UInt8) : Nat := if c = 111 then 8 else if c = 120 then 16 else 10
def Piece.sharpL (p : Piece) (n : Nat) : List UInt8 := if p.sharp = true ∧ p.letter = 111 ∧ Lib.hasPrefix (digs (baseOf p.letter) n) [48] = false then 48 :: digs (baseOf p.letter) n else digs (baseOf p.letter) n
def Piece.zeroL (p : Piece) (s : List UInt8) : List UInt8 := if p.zero = true ∧ p.minus = false then List.replicate (p.width - s.length) 48 ++ s else s
def Piece.toldL (p : Piece) (n : Nat) : List UInt8 := p.wideL (p.zeroL (p.sharpL n))
theorem digs_pos (b n : Nat) : 1 ≤ (digs b n).length := by
  rw [digs]; split <;> simp
theorem digs_len (b : Nat) (hb : 2 ≤ b) : ∀ (k n : Nat), n < b ^ (k + 1) → (digs b n).length ≤ k + 1 := by
  intro k
  induction k with
  | zero => intro n hn; rw [digs_small (by simpa using hn)]; simp
  | succ k ih =>
    intro n hn
    by_cases h : n < b
    · rw [digs_small h]; simp
    · rw [digs_step hb (by omega), List.length_append, List.length_singleton]
      have := ih (n / b) (Nat.div_lt_of_lt_mul (by rw [Nat.pow_succ, Nat.mul_comm] at hn; exact hn))
      omega
theorem digs_64 (b n : Nat) (hb : 2 ≤ b) (hn : n < 18446744073709551616) : (digs b n).length ≤ 64 := digs_len b hb 63 n (Nat.lt_of_lt_of_le hn (by
  have : 2 ^ 64 ≤ b ^ 64 := Nat.pow_le_pow_left hb 64
  omega))
end Pl
/-- a piece in a block of its own -/
structure PieceAt (g : Nat) (p : Pl.Piece) (W : World) : Prop where
  lt : g < W.heap.size
  c0 : W.cell? ⟨g, 0, none⟩ = some (.string (strB p.b))
  c1 : W.cell? ⟨g, 1, none⟩ = some (.int .u8 p.letter.toNat)
  c2 : W.cell? ⟨g, 2, none⟩ = some (.bool p.minus)
  c3 : W.cell? ⟨g, 3, none⟩ = some (.bool false)
  c4 : W.cell? ⟨g, 4, none⟩ = some (.bool false)
  c5 : W.cell? ⟨g, 5, none⟩ = some (.bool p.zero)
  c6 : W.cell? ⟨g, 6, none⟩ = some (.bool p.sharp)
  c7 : W.cell? ⟨g, 7, none⟩ = some (.int .i64 (p.width : Int))
  c8 : W.cell? ⟨g, 8, none⟩ = some (.int .i64 (-1))
theorem PieceAt.of {g : Nat} {p : Pl.Piece} {W : World} {t : TypeId} (h : Blk W g t (pieceCells p)) : PieceAt g p W := ⟨h.lt, h.cell 0, h.cell 1, h.cell 2, h.cell 3, h.cell 4, h.cell 5, h.cell 6, h.cell 7, h.cell 8⟩
theorem PieceAt.below {g : Nat} {p : Pl.Piece} {W W' : World} (h : PieceAt g p W) (hb : Below W.heap.size W W') : PieceAt g p W' := by
  have k : ∀ j v, W.cell? ⟨g, j, none⟩ = some v → W'.cell? ⟨g, j, none⟩ = some v := fun j v e => (hb.cell (p := ⟨g, j, none⟩) h.lt).trans e
  have := hb.size
  exact ⟨by have := h.lt; omega, k 0 _ h.c0, k 1 _ h.c1, k 2 _ h.c2, k 3 _ h.c3, k 4 _ h.c4, k 5 _ h.c5, k 6 _ h.c6, k 7 _ h.c7, k 8 _ h.c8⟩
theorem strB_nil_append (s : List UInt8) : strB [] ++ strB s = strB s := strB_append [] s
theorem strB_append_nil (s : List UInt8) : strB s ++ strB [] = strB s := by rw [strB_append, List.append_nil]
theorem wideAgg (b s : List UInt8) (c : UInt8) (mn ze sh : Bool) (wd : Nat) (W : World) (hw : wd ≤ 1000) (hs : s.length ≤ 140737488350000) :
    Calls Tryz.prog 82 #[.agg #[.string (strB b), .int .u8 c.toNat, .bool mn, .bool false, .bool false, .bool ze, .bool sh, .int .i64 (wd : Int), .int .i64 (-1)], .string (strB s)] W fun e w' => e = .returned (.string (strB ((Pl.Piece.mk b c mn ze sh wd).wideL s))) ∧ Below W.heap.size W w' :=
  wide_any (Pl.Piece.mk b c mn ze sh wd) s W hw hs

end Go.Proofs.YtobapajmplfeiaaGreatDoor
end

section
namespace Go.Proofs
open Go.Shelf
def Tryz.ltrim161_ren : Go.Shelf.Ren := ⟨fun | 161 => 183 | 231 => 206 | 227 => 21 | 233 => 207 | 235 => 208 | 228 => 29 | 197 => 58 | 151 => 31 | 260 => 93 | 152 => 59 | 137 => 94 | 119 => 95 | 224 => 96 | 225 => 97 | 217 => 128 | 266 => 163 | n => n, fun | 9 => 9 | 4 => 4 | 3 => 3 | 5 => 5 | 117 => 49 | 116 => 48 | 0 => 0 | 124 => 52 | 105 => 56 | 21 => 21 | 119 => 222 | 46 => 186 | 139 => 225 | 138 => 224 | n => n, fun | 3 => 2 | 4 => 3 | n => n⟩
theorem Tryz.ltrim161 : Go.Proofs.Lays.n161 Tryz.prog Tryz.ltrim161_ren := {
  mixed := by kernel_rfl
  f119 := Tryz.func95.trans (congrArg some (by kernel_rfl))
  f137 := Tryz.func94.trans (congrArg some (by kernel_rfl))
  f151 := Tryz.func31.trans (congrArg some (by kernel_rfl))
  f152 := Tryz.func59.trans (congrArg some (by kernel_rfl))
  f161 := Tryz.func183.trans (congrArg some (by kernel_rfl))
  f197 := Tryz.func58.trans (congrArg some (by kernel_rfl))
  f217 := Tryz.func128.trans (congrArg some (by kernel_rfl))
  f224 := Tryz.func96.trans (congrArg some (by kernel_rfl))
  f225 := Tryz.func97.trans (congrArg some (by kernel_rfl))
  f227 := Tryz.func21.trans (congrArg some (by kernel_rfl))
  f228 := Tryz.func29.trans (congrArg some (by kernel_rfl))
  f231 := Tryz.func206.trans (congrArg some (by kernel_rfl))
  f233 := Tryz.func207.trans (congrArg some (by kernel_rfl))
  f235 := Tryz.func208.trans (congrArg some (by kernel_rfl))
  f260 := Tryz.func93.trans (congrArg some (by kernel_rfl))
  f266 := Tryz.func163.trans (congrArg some (by kernel_rfl))
  t0 := Tryz.underlying0
  a0 := Tryz.isAgg0
  z0 := Tryz.sizeOf0
  v0 := Tryz.zeroValue0
  t3 := Tryz.underlying3
  a3 := Tryz.isAgg3
  z3 := Tryz.sizeOf3
  v3 := Tryz.zeroValue3
  t4 := Tryz.underlying4
  a4 := Tryz.isAgg4
  z4 := Tryz.sizeOf4
  v4 := Tryz.zeroValue4
  t5 := Tryz.underlying5
  a5 := Tryz.isAgg5
  z5 := Tryz.sizeOf5
  v5 := Tryz.zeroValue5
  t9 := Tryz.underlying9
  a9 := Tryz.isAgg9
  z9 := Tryz.sizeOf9
  v9 := Tryz.zeroValue9
  t21 := Tryz.underlying21
  a21 := Tryz.isAgg21
  z21 := Tryz.sizeOf21
  v21 := Tryz.zeroValue21
  t46 := Tryz.underlying186
  a46 := Tryz.isAgg186
  z46 := Tryz.sizeOf186
  v46 := Tryz.zeroValue186
  t105 := Tryz.underlying56
  a105 := Tryz.isAgg56
  z105 := Tryz.sizeOf56
  v105 := Tryz.zeroValue56
  t116 := Tryz.underlying48
  a116 := Tryz.isAgg48
  z116 := Tryz.sizeOf48
  t117 := Tryz.underlying49
  a117 := Tryz.isAgg49
  z117 := Tryz.sizeOf49
  v117 := Tryz.zeroValue49
  t119 := Tryz.underlying222
  a119 := Tryz.isAgg222
  z119 := Tryz.sizeOf222
  t124 := Tryz.underlying52
  a124 := Tryz.isAgg52
  z124 := Tryz.sizeOf52
  v124 := Tryz.zeroValue52
  t138 := Tryz.underlying224
  a138 := Tryz.isAgg224
  z138 := Tryz.sizeOf224
  v138 := Tryz.zeroValue224
  t139 := Tryz.underlying225
  a139 := Tryz.isAgg225
  z139 := Tryz.sizeOf225
  v139 := Tryz.zeroValue225
  g3 := by kernel_rfl
  g4 := by kernel_rfl }
open Go.RowKit Go.Lib in
theorem Tryz.strings_TrimLeft_set (s cutset : ByteArray) (w : World) (hcs : cutset.size < 4294967281) (hascii : ∀ (j : Nat) b, cutset.data.toList[j]? = some b → b.toNat < 128) :
    Calls Tryz.prog 183 #[.string s, .string cutset] w fun e w' => e = .returned (.string ⟨(Lib.trimLeftS s.data.toList cutset.data.toList).toArray⟩) ∧ Below w.heap.size w w' := Any.strings_TrimLeft_laid Tryz.ltrim161 (by kernel_rfl) s cutset w hcs hascii
end Go.Proofs
end
