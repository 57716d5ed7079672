/-
  Parts that the claims share: What the law's tr comes to: for each pattern of flags that the laws ask; How tr's arguments are parted, for the patterns that the laws ask; What the law's own examples come to; Bytes coded by three octal digits each stand for themselves: plain; The law's distinct: so many bytes of a text, each once: plain; What was squeezed is squeezed no more: plain; What tr comes to at coded sets: the runs of the two laws.
-/
import Derived.Test.YtlhiadnolckoeaaGreatDoorR12
import Derived.Test.YtlhiadnolckoeaaGreatDoorR14
import Derived.Test.YtlhiadnolckoeaaGreatDoorR11

section
namespace Go.Proofs.YtlhiadnolckoeaaGreatDoor
open Go.RowKit Go.Maps

/-- a run of tr that comes to this -/
def TrIs (args : List ByteArray) (n : Nat) (inb : List UInt8) (m : Nat) (buf line run : Int) (out : List UInt8) (w : World) : Prop :=
  ∀ (ad : Addr) (c : Nat) (IA : Option Addr) (ic : Nat), Reads w w.heap.size 1 (some ad) n (strsC args) → Bytes w w.heap.size (.slice IA m ic) inb →
    Calls Tryz.prog 11 #[.slice IA m ic, .slice (some ad) n c, .agg #[.int .i64 buf, .int .i64 line, .int .i64 run]] w fun e w' => ∃ ov ev sp pk, e = .returned (.tuple #[resV ov ev 0 sp pk, .bool true]) ∧
      w'.ownsRow w.heap.size 5 1 ov out.length (bytesC out) ∧ w'.ownsRow w.heap.size 5 1 ev 0 [] ∧ Below w.heap.size w w'
theorem TrIs.go {args : List ByteArray} {n : Nat} {inb : List UInt8} {m : Nat} {buf line run : Int} {out : List UInt8} {w : World} (h : TrIs args n inb m buf line run out w) (ad : Addr) (c : Nat) (IA : Option Addr) (ic : Nat) (hr : Reads w w.heap.size 1 (some ad) n (strsC args)) (hi : Bytes w w.heap.size (.slice IA m ic) inb) :
    Calls Tryz.prog 11 #[.slice IA m ic, .slice (some ad) n c, .agg #[.int .i64 buf, .int .i64 line, .int .i64 run]] w fun e w' => ∃ ov ev sp pk, e = .returned (.tuple #[resV ov ev 0 sp pk, .bool true]) ∧
      w'.ownsRow w.heap.size 5 1 ov out.length (bytesC out) ∧ w'.ownsRow w.heap.size 5 1 ev 0 [] ∧ Below w.heap.size w w' := h ad c IA ic hr hi

theorem trIs_of (w : World) (args : List ByteArray) (n : Nat) (hn : args.length = n) (h1 : 1 ≤ n) (hn2 : n ≤ 1000000) (inb : List UInt8) (m : Nat) (him : inb.length = m) (hil : m ≤ 140737488355000) (buf line run : Int) (hlm : LimOk buf line run) (T : Pl.Tab)
    (hread : ∀ V A cap, Below w.heap.size w V → Reads V V.heap.size 1 A n (strsC args) → n ≤ cap → Calls Tryz.prog 115 #[.slice A n cap] V fun e w' => ∃ t, e = .returned (.tuple #[.pointer (some ⟨t, 0, none⟩), .bool true]) ∧ TabAt w' t T ∧ V.heap.size ≤ t ∧ Below V.heap.size V w') :
    TrIs args n inb m buf line run (T.tell inb) w := by
  intro ad c IA ic hr hi
  have hol : (T.tell inb).length ≤ 140737488355328 := by have := Pl.tell_len T inb; omega
  refine (lawTr w ad c n args hr hn h1 hn2 IA ic inb m him hi (by omega) buf line run hlm (T.tell inb) [] 0 hol (by simp) (fun W hW => startTr W args inb buf line run (by omega) _ _ 0 ?_)).mono ?_
  · exact mainTr W tagTr args n hn (by omega) T inb buf hlm.h1 (by have := hlm.h4; omega) (by omega) (fun V A cap hV hR hc => hread V A cap (hW.trans (hV.mono hW.size)) hR hc)
  · rintro e w' ⟨ov, ev, sp, pk, rfl, h2, h3, h4⟩
    exact ⟨ov, ev, sp, pk, rfl, h2, h3, h4⟩

section
variable (w : World) (args : List ByteArray) (n : Nat) (hn : args.length = n) (h1 : 1 ≤ n) (hsm : Small args) (inb : List UInt8) (m : Nat) (him : inb.length = m) (hil : m ≤ 140737488355000) (buf line run : Int) (hlm : LimOk buf line run) (L : List Pl.Opt) (j : Nat) (s1 s2 : List UInt8) (hT : Tabs w)
include hn h1 hsm him hil hlm hT
theorem tr_2ff (ha : Asked args L j false false false) (hargs : args.drop j = [strB s1, strB s2]) (l1 : s1.length ≤ 1048576) (g1 : (Pl.setL s1).bad = false) (r1 : (Pl.setL s1).rest = -1) (l2 : s2.length ≤ 1048576) (g2 : (Pl.setL s2).bad = false) (r2 : RestOk (Pl.setL s2)) (hne : Pl.oneOf false (Pl.setL s1).out ≠ [] → Pl.filledL (Pl.setL s2) (Pl.oneOf false (Pl.setL s1).out).length ≠ []) :
    TrIs args n inb m buf line run (Pl.Tab.tell ⟨Pl.oneOf false (Pl.setL s1).out, Pl.filledL (Pl.setL s2) (Pl.oneOf false (Pl.setL s1).out).length, false, true, false⟩ inb) w :=
  trIs_of w args n hn h1 (by have := hsm.1; omega) inb m him hil buf line run hlm _ (fun V A cap hV hR hc => read_2ff V A cap n args L j s1 s2 (hT.below hV) hR hn hc ha hargs hsm l1 g1 r1 l2 g2 r2 hne)
theorem tr_1df (ha : Asked args L j true false false) (hargs : args.drop j = [strB s1]) (l1 : s1.length ≤ 1048576) (g1 : (Pl.setL s1).bad = false) (r1 : (Pl.setL s1).rest = -1) :
    TrIs args n inb m buf line run (Pl.Tab.tell ⟨Pl.oneOf false (Pl.setL s1).out, Pl.oneOf false (Pl.setL s1).out, true, false, false⟩ inb) w :=
  trIs_of w args n hn h1 (by have := hsm.1; omega) inb m him hil buf line run hlm _ (fun V A cap hV hR hc => read_1df V A cap n args L j s1 (hT.below hV) hR hn hc ha hargs hsm l1 g1 r1)
theorem tr_1sf (ha : Asked args L j false true false) (hargs : args.drop j = [strB s1]) (l1 : s1.length ≤ 1048576) (g1 : (Pl.setL s1).bad = false) (r1 : (Pl.setL s1).rest = -1) :
    TrIs args n inb m buf line run (Pl.Tab.tell ⟨Pl.oneOf false (Pl.setL s1).out, Pl.oneOf false (Pl.setL s1).out, false, false, true⟩ inb) w :=
  trIs_of w args n hn h1 (by have := hsm.1; omega) inb m him hil buf line run hlm _ (fun V A cap hV hR hc => read_1sf V A cap n args L j s1 (hT.below hV) hR hn hc ha hargs hsm l1 g1 r1)
theorem tr_1dt (ha : Asked args L j true false true) (hargs : args.drop j = [strB s1]) (l1 : s1.length ≤ 1048576) (g1 : (Pl.setL s1).bad = false) (r1 : (Pl.setL s1).rest = -1) :
    TrIs args n inb m buf line run (Pl.Tab.tell ⟨Pl.oneOf true (Pl.setL s1).out, Pl.oneOf true (Pl.setL s1).out, true, false, false⟩ inb) w :=
  trIs_of w args n hn h1 (by have := hsm.1; omega) inb m him hil buf line run hlm _ (fun V A cap hV hR hc => read_1dt V A cap n args L j s1 (hT.below hV) hR hn hc ha hargs hsm l1 g1 r1)
theorem tr_2tt (ha : Asked args L j false true true) (hargs : args.drop j = [strB s1, strB s2]) (l1 : s1.length ≤ 1048576) (g1 : (Pl.setL s1).bad = false) (r1 : (Pl.setL s1).rest = -1) (l2 : s2.length ≤ 1048576) (g2 : (Pl.setL s2).bad = false) (r2 : RestOk (Pl.setL s2)) (hne : Pl.oneOf true (Pl.setL s1).out ≠ [] → Pl.filledL (Pl.setL s2) (Pl.oneOf true (Pl.setL s1).out).length ≠ []) :
    TrIs args n inb m buf line run (Pl.Tab.tell ⟨Pl.oneOf true (Pl.setL s1).out, Pl.filledL (Pl.setL s2) (Pl.oneOf true (Pl.setL s1).out).length, false, true, true⟩ inb) w :=
  trIs_of w args n hn h1 (by have := hsm.1; omega) inb m him hil buf line run hlm _ (fun V A cap hV hR hc => read_2tt V A cap n args L j s1 s2 (hT.below hV) hR hn hc ha hargs hsm l1 g1 r1 l2 g2 r2 hne)
end

end Go.Proofs.YtlhiadnolckoeaaGreatDoor
end

section
namespace Go.Proofs.YtlhiadnolckoeaaGreatDoor

/-- an argument that is no option -/
def IsOp (a : ByteArray) : Prop := a.data.toList ≠ [45, 45] ∧ (a.size < 2 ∨ a.data.toList.head? ≠ some 45)
theorem isOp_of {s : List UInt8} (h : s.head? ≠ some 45) : IsOp (strB s) := by
  refine ⟨fun e => h ?_, .inr h⟩
  rw [strB_data] at e
  rw [e]
  rfl
theorem outer_op (kd : UInt8 → Int) (args : List ByteArray) (i : Nat) (a : ByteArray) (h : args[i]? = some a) (ha : IsOp a) : Pl.outer kd args i = some ([], i) := by
  rw [Pl.outer]
  simp only [h, if_neg ha.1, if_pos ha.2]
theorem outer_flag (kd : UInt8 → Int) (f a : ByteArray) (rest : List ByteArray) (fl : List UInt8) (L : List Pl.Opt) (hf : f.data.toList = 45 :: fl) (h1 : fl ≠ []) (h2 : fl ≠ [45]) (hin : Pl.inner kd (f :: a :: rest) fl 1 = some (L, 1)) (ha : IsOp a) : Pl.outer kd (f :: a :: rest) 0 = some (L, 1) := by
  have hs : ¬ (f.size < 2 ∨ f.data.toList.head? ≠ some 45) := by
    rintro (h | h)
    · have : f.size = fl.length + 1 := by
        show f.data.size = _
        rw [← Array.length_toList, hf, List.length_cons]
      have : 0 < fl.length := List.length_pos_iff.2 h1
      omega
    · rw [hf] at h; exact h rfl
  have hd : f.data.toList ≠ [45, 45] := by rw [hf]; simpa using h2
  rw [Pl.outer]
  simp only [List.getElem?_cons_zero]
  rw [if_neg hd, if_neg hs, hf, List.drop_succ_cons, List.drop_zero, Nat.zero_add, hin]
  simp only [outer_op kd (f :: a :: rest) 1 a rfl ha]
  simp

theorem asked_ops (a : ByteArray) (rest : List ByteArray) (ha : IsOp a) : Asked (a :: rest) [] 0 false false false := ⟨outer_op _ _ 0 a rfl ha, rfl, rfl, rfl, rfl, by simp⟩
theorem asked_d (a : ByteArray) (rest : List ByteArray) (ha : IsOp a) : Asked (strB [45, 100] :: a :: rest) [(100, ⟨#[]⟩)] 1 true false false := ⟨outer_flag _ _ a rest [100] _ rfl (by simp) (by simp) (by simp [Pl.inner, Pl.kind, Pl.kindFrom]) ha, by decide, by decide, by decide, by decide, by simp⟩
theorem asked_s (a : ByteArray) (rest : List ByteArray) (ha : IsOp a) : Asked (strB [45, 115] :: a :: rest) [(115, ⟨#[]⟩)] 1 false true false := ⟨outer_flag _ _ a rest [115] _ rfl (by simp) (by simp) (by simp [Pl.inner, Pl.kind, Pl.kindFrom]) ha, by decide, by decide, by decide, by decide, by simp⟩
theorem asked_cd (a : ByteArray) (rest : List ByteArray) (ha : IsOp a) : Asked (strB [45, 99, 100] :: a :: rest) [(99, ⟨#[]⟩), (100, ⟨#[]⟩)] 1 true false true := ⟨outer_flag _ _ a rest [99, 100] _ rfl (by simp) (by simp) (by simp [Pl.inner, Pl.kind, Pl.kindFrom]) ha, by decide, by decide, by decide, by decide, by simp⟩
theorem asked_cs (a : ByteArray) (rest : List ByteArray) (ha : IsOp a) : Asked (strB [45, 99, 115] :: a :: rest) [(99, ⟨#[]⟩), (115, ⟨#[]⟩)] 1 false true true := ⟨outer_flag _ _ a rest [99, 115] _ rfl (by simp) (by simp) (by simp [Pl.inner, Pl.kind, Pl.kindFrom]) ha, by decide, by decide, by decide, by decide, by simp⟩
theorem small_of {args : List ByteArray} {n k : Nat} (hn : args.length = n) (hn2 : n ≤ 3) (h : ∀ a ∈ args, a.size ≤ k) (hk : k ≤ 2000) : Small args := by
  refine ⟨by omega, ?_, fun a ha => by have := h a ha; omega⟩
  have : ∀ l : List ByteArray, (∀ a ∈ l, a.size ≤ k) → Pl.total l ≤ l.length * k := by
    intro l
    induction l with
    | nil => intro _; simp [Pl.total]
    | cons a l ih =>
      intro hl
      have h1 := ih (fun b hb => hl b (List.mem_cons_of_mem _ hb))
      have h2 := hl a (List.mem_cons_self ..)
      simp only [Pl.total, List.map_cons, List.sum_cons, List.length_cons] at h1 ⊢
      rw [Nat.add_mul]
      omega
  have h1 := this args h
  have h2 : args.length * k ≤ 3 * 2000 := Nat.mul_le_mul (by omega) hk
  omega

end Go.Proofs.YtlhiadnolckoeaaGreatDoor
end

section
namespace Go.Proofs.YtlhiadnolckoeaaGreatDoor
open Go.RowKit Go.Maps

theorem setFrom_at {s t : List UInt8} {x y : Pl.TS} (h : s ≠ []) (hs : Pl.stepS s x = (t, y)) : Pl.setFrom s x = Pl.setFrom t y := by rw [Pl.setFrom_step h, hs]
theorem setFrom_end {s : List UInt8} {x y : Pl.TS} (h : s ≠ []) (hs : Pl.stepS s x = ([], y)) : Pl.setFrom s x = y := by rw [Pl.setFrom_step h, hs, Pl.setFrom_nil]
theorem setAx : Pl.setL [97, 45, 99, 91, 120, 42, 50, 93, 92, 110] = ⟨[97, 98, 99, 120, 120, 10], -1, false⟩ :=
  (setFrom_at (t := [91, 120, 42, 50, 93, 92, 110]) (y := ⟨[97, 98, 99], -1, false⟩) (by simp) (by kernel_rfl)).trans
  ((setFrom_at (t := [92, 110]) (y := ⟨[97, 98, 99, 120, 120], -1, false⟩) (by simp) (by kernel_rfl)).trans (setFrom_end (by simp) (by kernel_rfl)))
theorem setAC : Pl.setL [97, 45, 99] = ⟨[97, 98, 99], -1, false⟩ := setFrom_end (by simp) (by kernel_rfl)
theorem setUC : Pl.setL [65, 45, 67] = ⟨[65, 66, 67], -1, false⟩ := setFrom_end (by simp) (by kernel_rfl)
theorem setDigit : Pl.setL [91, 58, 100, 105, 103, 105, 116, 58, 93] = ⟨[48, 49, 50, 51, 52, 53, 54, 55, 56, 57], -1, false⟩ := setFrom_end (by simp) (by kernel_rfl)
theorem setA : Pl.setL [97] = ⟨[97], -1, false⟩ := setFrom_end (by simp) (by kernel_rfl)
def lowers : List UInt8 := [97, 98, 99, 100, 101, 102, 103, 104, 105, 106, 107, 108, 109, 110, 111, 112, 113, 114, 115, 116, 117, 118, 119, 120, 121, 122]
theorem setAZ : Pl.setL [97, 45, 122] = ⟨lowers, -1, false⟩ := setFrom_end (by simp) (by kernel_rfl)
theorem setNl : Pl.setL [91, 92, 110, 42, 93] = ⟨[10], 0, false⟩ := setFrom_end (by simp) (by kernel_rfl)

def argA : List ByteArray := [⟨#[97, 45, 99]⟩, ⟨#[65, 45, 67]⟩]
def argB : List ByteArray := [⟨#[45, 100]⟩, ⟨#[91, 58, 100, 105, 103, 105, 116, 58, 93]⟩]
def argC : List ByteArray := [⟨#[45, 115]⟩, ⟨#[97]⟩]
def argD : List ByteArray := [⟨#[45, 99, 115]⟩, ⟨#[97, 45, 122]⟩, ⟨#[91, 92, 110, 42, 93]⟩]
theorem lim399 : LimOk 3 9 9 := by constructor <;> decide

theorem runA (w : World) (hT : Tabs w) : TrIs argA 2 [97, 98, 99, 100] 4 3 9 9 [65, 66, 67, 100] w := by
  have h := tr_2ff w argA 2 rfl (by omega) (small_of (n := 2) (k := 2000) rfl (by omega) (by decide) (by omega)) [97, 98, 99, 100] 4 rfl (by omega) 3 9 9 lim399 [] 0 [97, 45, 99] [65, 45, 67] hT (asked_ops _ _ (isOp_of (s := [97, 45, 99]) (by decide))) rfl (by decide) (by rw [setAC]) (by rw [setAC]) (by decide) (by rw [setUC]) (by rw [setUC]; exact .inl rfl) (by rw [setAC, setUC]; decide)
  rw [setAC, setUC] at h
  rwa [show Pl.Tab.tell ⟨Pl.oneOf false [97, 98, 99], Pl.filledL ⟨[65, 66, 67], -1, false⟩ (Pl.oneOf false [97, 98, 99]).length, false, true, false⟩ [97, 98, 99, 100] = [65, 66, 67, 100] by decide +kernel] at h
theorem runB (w : World) (hT : Tabs w) : TrIs argB 2 [97, 49, 98, 50] 4 3 9 9 [97, 98] w := by
  have h := tr_1df w argB 2 rfl (by omega) (small_of (n := 2) (k := 2000) rfl (by omega) (by decide) (by omega)) [97, 49, 98, 50] 4 rfl (by omega) 3 9 9 lim399 _ 1 [91, 58, 100, 105, 103, 105, 116, 58, 93] hT (asked_d _ _ (isOp_of (s := [91, 58, 100, 105, 103, 105, 116, 58, 93]) (by decide))) rfl (by decide) (by rw [setDigit]) (by rw [setDigit])
  rw [setDigit] at h
  rwa [show Pl.Tab.tell ⟨Pl.oneOf false [48, 49, 50, 51, 52, 53, 54, 55, 56, 57], Pl.oneOf false [48, 49, 50, 51, 52, 53, 54, 55, 56, 57], true, false, false⟩ [97, 49, 98, 50] = [97, 98] by decide +kernel] at h
theorem runC (w : World) (hT : Tabs w) : TrIs argC 2 [97, 97, 98, 97, 97] 5 3 9 9 [97, 98, 97] w := by
  have h := tr_1sf w argC 2 rfl (by omega) (small_of (n := 2) (k := 2000) rfl (by omega) (by decide) (by omega)) [97, 97, 98, 97, 97] 5 rfl (by omega) 3 9 9 lim399 _ 1 [97] hT (asked_s _ _ (isOp_of (s := [97]) (by decide))) rfl (by decide) (by rw [setA]) (by rw [setA])
  rw [setA] at h
  rwa [show Pl.Tab.tell ⟨Pl.oneOf false [97], Pl.oneOf false [97], false, false, true⟩ [97, 97, 98, 97, 97] = [97, 98, 97] by decide +kernel] at h
theorem runD (w : World) (hT : Tabs w) : TrIs argD 3 [97, 98, 32, 32, 99, 49] 6 3 9 9 [97, 98, 10, 99, 10] w := by
  have h := tr_2tt w argD 3 rfl (by omega) (small_of (n := 3) (k := 2000) rfl (by omega) (by decide) (by omega)) [97, 98, 32, 32, 99, 49] 6 rfl (by omega) 3 9 9 lim399 _ 1 [97, 45, 122] [91, 92, 110, 42, 93] hT (asked_cs _ _ (isOp_of (s := [97, 45, 122]) (by decide))) rfl (by decide) (by rw [setAZ]) (by rw [setAZ]) (by decide) (by rw [setNl]) (by rw [setNl]; exact .inr ⟨0, rfl, by decide⟩) (by rw [setAZ, setNl]; intro _; decide +kernel)
  rw [setAZ, setNl] at h
  rwa [show Pl.Tab.tell ⟨Pl.oneOf true lowers, Pl.filledL ⟨[10], 0, false⟩ (Pl.oneOf true lowers).length, false, true, true⟩ [97, 98, 32, 32, 99, 49] = [97, 98, 10, 99, 10] by decide +kernel] at h

end Go.Proofs.YtlhiadnolckoeaaGreatDoor
end

section
namespace Go.Proofs.YtlhiadnolckoeaaGreatDoor

namespace Pl
/-- a byte behind a backslash, in octal digits -/
def codeB (b : UInt8) : List UInt8 := [92, UInt8.ofNat (48 + b.toNat / 64), UInt8.ofNat (48 + b.toNat / 8 % 8), UInt8.ofNat (48 + b.toNat % 8)]
def codedL (l : List UInt8) : List UInt8 := l.flatMap codeB
theorem octD {n : Nat} (h : n < 8) : isDig 8 (UInt8.ofNat (48 + n)) = true ∧ (UInt8.ofNat (48 + n)).toNat - 48 = n := by
  have h1 : (List.range 8).all (fun k => isDig 8 (UInt8.ofNat (48 + k)) && ((UInt8.ofNat (48 + k)).toNat - 48 == k)) = true := by decide
  have h2 := List.all_eq_true.1 h1 n (List.mem_range.2 h)
  simpa using h2
theorem codedL_head (l : List UInt8) : (codedL l)[0]? = none ∨ (codedL l)[0]? = some 92 := by
  cases l with
  | nil => exact .inl rfl
  | cons b l => exact .inr rfl
theorem step_coded (b : UInt8) (l : List UInt8) (x : TS) : stepS (codeB b ++ codedL l) x = (codedL l, { x with out := x.out ++ [b] }) := by
  have hb := b.toNat_lt
  obtain ⟨p1, q1⟩ := octD (show b.toNat / 64 < 8 by omega)
  obtain ⟨p2, q2⟩ := octD (show b.toNat / 8 % 8 < 8 by omega)
  obtain ⟨p3, q3⟩ := octD (show b.toNat % 8 < 8 by omega)
  obtain ⟨d1, e1⟩ : ∃ d, UInt8.ofNat (48 + b.toNat / 64) = d := ⟨_, rfl⟩
  obtain ⟨d2, e2⟩ : ∃ d, UInt8.ofNat (48 + b.toNat / 8 % 8) = d := ⟨_, rfl⟩
  obtain ⟨d3, e3⟩ : ∃ d, UInt8.ofNat (48 + b.toNat % 8) = d := ⟨_, rfl⟩
  have hs : codeB b ++ codedL l = 92 :: d1 :: d2 :: d3 :: codedL l := by unfold codeB; rw [e1, e2, e3]; rfl
  rw [e1] at p1 q1
  rw [e2] at p2 q2
  rw [e3] at p3 q3
  rw [hs]
  have ho : octs (d1 :: d2 :: d3 :: codedL l) = [d1, d2, d3] := by simp [octs, p1, p2, p3]
  have hn : signN (92 :: d1 :: d2 :: d3 :: codedL l) = 4 := by rw [signN_cons, ho]; simp
  have hv : val 8 [d1, d2, d3] = b.toNat := by
    show ((0 * 8 + (d1.toNat - 48)) * 8 + (d2.toNat - 48)) * 8 + (d3.toNat - 48) = b.toNat
    rw [q1, q2, q3]
    omega
  have hc : signC (92 :: d1 :: d2 :: d3 :: codedL l) = b := by
    have : signC (92 :: d1 :: d2 :: d3 :: codedL l) = if (92 : UInt8) ≠ 92 ∨ d1 :: d2 :: d3 :: codedL l = [] then 92 else if octs (d1 :: d2 :: d3 :: codedL l) ≠ [] then UInt8.ofNat (val 8 (octs (d1 :: d2 :: d3 :: codedL l))) else (escB d1).getD d1 := rfl
    rw [this, ho, hv]
    simp
  have h1 : classS (92 :: d1 :: d2 :: d3 :: codedL l) x = none := by unfold classS; rw [if_neg]; rw [hasPrefix2]; simp
  have h2 : equalS (92 :: d1 :: d2 :: d3 :: codedL l) x = none := by unfold equalS; rw [if_neg]; rw [hasPrefix2]; simp
  have h3 : timesS (92 :: d1 :: d2 :: d3 :: codedL l) x = none := by unfold timesS; rw [if_neg]; rw [hasPrefix1]; simp
  have h4 : plainS (92 :: d1 :: d2 :: d3 :: codedL l) x = (codedL l, { x with out := x.out ++ [b] }) := by
    unfold plainS
    rw [hn, hc]
    have hd : List.drop 4 (92 :: d1 :: d2 :: d3 :: codedL l) = codedL l := rfl
    rw [hd, if_neg]
    rw [hasPrefix1]
    rcases codedL_head l with h | h <;> simp [h]
  unfold stepS
  rw [h1, h2, h3, h4]
  rfl
theorem setFrom_coded (l : List UInt8) : ∀ x : TS, setFrom (codedL l) x = { x with out := x.out ++ l } := by
  induction l with
  | nil => intro x; rw [show codedL [] = [] from rfl, setFrom_nil]; simp
  | cons b l ih =>
    intro x
    have e : codedL (b :: l) = codeB b ++ codedL l := rfl
    rw [e, setFrom_step (by simp [codeB]), step_coded, ih]
    simp
theorem setL_coded (l : List UInt8) : setL (codedL l) = ⟨l, -1, false⟩ := by
  unfold setL
  rw [setFrom_coded]
  simp
end Pl

end Go.Proofs.YtlhiadnolckoeaaGreatDoor
end

section
namespace Go.Proofs.YtlhiadnolckoeaaGreatDoor

namespace Pl
def distStep (many : Nat) (out : List UInt8) (c : UInt8) : List UInt8 := if out.length < many ∧ c ∉ out then out ++ [c] else out
def distinctL (l : List UInt8) (many : Nat) : List UInt8 := l.foldl (distStep many) []
theorem dist_nodup (many : Nat) (l : List UInt8) : ∀ out : List UInt8, out.Nodup → (l.foldl (distStep many) out).Nodup := by
  induction l with
  | nil => exact fun out h => h
  | cons c l ih =>
    intro out h
    refine ih _ ?_
    unfold distStep
    split
    · rename_i hc
      rw [List.nodup_append]
      refine ⟨h, by simp, fun a ha b hb => ?_⟩
      rw [List.mem_singleton.1 hb]
      exact fun e => hc.2 (e ▸ ha)
    · exact h
theorem distinct_nodup (l : List UInt8) (many : Nat) : (distinctL l many).Nodup := dist_nodup many l [] List.nodup_nil
theorem dist_len (many : Nat) (l : List UInt8) : ∀ out : List UInt8, out.length ≤ many → (l.foldl (distStep many) out).length ≤ many := by
  induction l with
  | nil => exact fun out h => h
  | cons c l ih =>
    intro out h
    refine ih _ ?_
    unfold distStep
    split
    · rename_i hc
      simp
      omega
    · exact h
theorem distinct_len (l : List UInt8) (many : Nat) : (distinctL l many).length ≤ many := dist_len many l [] (Nat.zero_le _)
theorem dist_same (many : Nat) (l : List UInt8) : ∀ out : List UInt8, (out ++ l).Nodup → out.length + l.length ≤ many → l.foldl (distStep many) out = out ++ l := by
  induction l with
  | nil => intro out _ _; simp
  | cons c l ih =>
    intro out h hl
    simp only [List.length_cons] at hl
    have hc : c ∉ out := by
      intro hm
      rw [List.nodup_append] at h
      exact h.2.2 c hm c (by simp) rfl
    rw [List.foldl_cons, show distStep many out c = out ++ [c] from if_pos ⟨by omega, hc⟩]
    rw [ih (out ++ [c]) (by simpa using h) (by simp; omega)]
    simp
/-- whether a byte is new to bytes that stand once each -/
theorem distinct_snoc (x : List UInt8) (c : UInt8) (many : Nat) (hx : x.Nodup) (hm : x.length < many) : (distinctL (x ++ [c]) many).length = x.length ↔ c ∈ x := by
  unfold distinctL
  rw [List.foldl_append, dist_same many x [] (by simpa using hx) (by simp; omega)]
  simp only [List.nil_append, List.foldl_cons, List.foldl_nil, distStep]
  by_cases hc : c ∈ x
  · simp [hc]
  · simp [hc, hm]
end Pl

end Go.Proofs.YtlhiadnolckoeaaGreatDoor
end

section
namespace Go.Proofs.YtlhiadnolckoeaaGreatDoor

namespace Pl
/-- no byte of these behind itself -/
def Calmed (S : UInt8 → Bool) : Int → List UInt8 → Prop
  | _, [] => True
  | p, c :: l => ¬ (S c = true ∧ p = (c.toNat : Int)) ∧ Calmed S (c.toNat : Int) l
def lastOf : Int → List UInt8 → Int
  | p, [] => p
  | _, c :: l => lastOf (c.toNat : Int) l
theorem squeeze_step (T : Tab) (hd : T.del = false) (hw : T.want2 = false) (acc : List UInt8) (p : Int) (c : UInt8) :
    T.step (acc, p) c = if T.squ c = true ∧ p = (c.toNat : Int) then (acc, p) else (acc ++ [c], (c.toNat : Int)) := by
  simp [Tab.step, Tab.gone, Tab.to, hd, hw]
theorem squeeze_calms (T : Tab) (hd : T.del = false) (hw : T.want2 = false) (l : List UInt8) : ∀ (acc : List UInt8) (p : Int), ∃ r, l.foldl T.step (acc, p) = (acc ++ r, lastOf p r) ∧ Calmed T.squ p r := by
  induction l with
  | nil => exact fun acc p => ⟨[], by simp [lastOf], trivial⟩
  | cons c l ih =>
    intro acc p
    rw [List.foldl_cons, squeeze_step T hd hw]
    by_cases h : T.squ c = true ∧ p = (c.toNat : Int)
    · rw [if_pos h]
      exact ih acc p
    · rw [if_neg h]
      obtain ⟨r, h1, h2⟩ := ih (acc ++ [c]) (c.toNat : Int)
      exact ⟨c :: r, by rw [h1]; simp [lastOf], h, h2⟩
theorem calmed_stays (T : Tab) (hd : T.del = false) (hw : T.want2 = false) (r : List UInt8) : ∀ (acc : List UInt8) (p : Int), Calmed T.squ p r → r.foldl T.step (acc, p) = (acc ++ r, lastOf p r) := by
  induction r with
  | nil => intro acc p _; simp [lastOf]
  | cons c r ih =>
    intro acc p h
    rw [List.foldl_cons, squeeze_step T hd hw, if_neg h.1, ih _ _ h.2]
    simp [lastOf]
theorem squeeze_again (T : Tab) (hd : T.del = false) (hw : T.want2 = false) (l : List UInt8) : T.tell (T.tell l) = T.tell l := by
  obtain ⟨r, h1, h2⟩ := squeeze_calms T hd hw l [] (-1)
  have e : T.tell l = r := by unfold Tab.tell; rw [h1]; rfl
  rw [e]
  unfold Tab.tell
  rw [calmed_stays T hd hw r [] (-1) h2]
  rfl
/-- what a set leaves out and what all but it leaves out are the bytes, as many of each -/
theorem count_parts (S : UInt8 → Bool) (l : List UInt8) (c : UInt8) : (l.filter (fun x => !S x)).count c + (l.filter S).count c = l.count c := by
  induction l with
  | nil => rfl
  | cons x l ih =>
    cases h : S x with
    | true =>
      rw [List.filter_cons_of_neg (by simp [h]), List.filter_cons_of_pos h, List.count_cons, List.count_cons, ← ih]
      omega
    | false =>
      rw [List.filter_cons_of_pos (by simp [h]), List.filter_cons_of_neg (by simp [h]), List.count_cons, List.count_cons, ← ih]
      omega
end Pl

end Go.Proofs.YtlhiadnolckoeaaGreatDoor
end

section
namespace Go.Proofs.YtlhiadnolckoeaaGreatDoor
open Go.RowKit Go.Maps

theorem codedL_len (l : List UInt8) : (Pl.codedL l).length = 4 * l.length := by
  induction l with
  | nil => rfl
  | cons b l ih =>
    have e : Pl.codedL (b :: l) = Pl.codeB b ++ Pl.codedL l := rfl
    rw [e, List.length_append, ih, List.length_cons]
    simp [Pl.codeB]
    omega
theorem codedL_op (l : List UInt8) : (Pl.codedL l).head? ≠ some 45 := by
  cases l with
  | nil => simp [Pl.codedL]
  | cons b l => simp [Pl.codedL, Pl.codeB]
section
variable (w : World) (hT : Tabs w) (D : List UInt8) (hD : D.length ≤ 256) (S : ByteArray) (hS : strB (Pl.codedL D) = S) (inb : List UInt8) (m : Nat) (him : inb.length = m) (hil : m ≤ 140737488355000) (buf line run : Int) (hlm : LimOk buf line run)
include hT hD hS him hil hlm
theorem saidDel : TrIs [⟨#[45, 100]⟩, S] 2 inb m buf line run (inb.filter (fun c => !D.contains c)) w := by
  subst hS
  have hl := codedL_len D
  have hsz : (strB (Pl.codedL D)).size ≤ 2000 := by rw [strB_size]; omega
  have h := tr_1df w [⟨#[45, 100]⟩, strB (Pl.codedL D)] 2 rfl (by omega) (small_of (n := 2) (k := 2000) rfl (by omega) (by intro a ha; simp only [List.mem_cons, List.not_mem_nil, or_false] at ha; rcases ha with rfl | rfl; decide; exact hsz) (by omega)) inb m him hil buf line run hlm _ 1 (Pl.codedL D) hT (asked_d _ _ (isOp_of (codedL_op D))) rfl (by omega) (by rw [Pl.setL_coded]) (by rw [Pl.setL_coded])
  rw [Pl.setL_coded] at h
  rwa [Pl.tell_del _ rfl rfl] at h
theorem saidKeep : TrIs [⟨#[45, 99, 100]⟩, S] 2 inb m buf line run (inb.filter (fun c => D.contains c)) w := by
  subst hS
  have hl := codedL_len D
  have hsz : (strB (Pl.codedL D)).size ≤ 2000 := by rw [strB_size]; omega
  have h := tr_1dt w [⟨#[45, 99, 100]⟩, strB (Pl.codedL D)] 2 rfl (by omega) (small_of (n := 2) (k := 2000) rfl (by omega) (by intro a ha; simp only [List.mem_cons, List.not_mem_nil, or_false] at ha; rcases ha with rfl | rfl; decide; exact hsz) (by omega)) inb m him hil buf line run hlm _ 1 (Pl.codedL D) hT (asked_cd _ _ (isOp_of (codedL_op D))) rfl (by omega) (by rw [Pl.setL_coded]) (by rw [Pl.setL_coded])
  rw [Pl.setL_coded, Pl.tell_del _ rfl rfl] at h
  have e : ∀ c : UInt8, (!(Pl.oneOf true D).contains c) = D.contains c := by
    intro c
    have hall : c ∈ Pl.allB := by
      have h1 : (List.range 256).all (fun n => Pl.allB.contains (UInt8.ofNat n)) = true := by decide +kernel
      have h2 := List.all_eq_true.1 h1 c.toNat (List.mem_range.2 c.toNat_lt)
      rw [UInt8.ofNat_toNat] at h2
      simpa using h2
    simp only [Pl.oneOf, if_true, Pl.othersL]
    by_cases hc : c ∈ D
    · simp [hc]
    · simp [hc, hall]
  simp only [e] at h
  exact h
theorem saidSq : TrIs [⟨#[45, 115]⟩, S] 2 inb m buf line run (Pl.Tab.tell ⟨D, D, false, false, true⟩ inb) w := by
  subst hS
  have hl := codedL_len D
  have hsz : (strB (Pl.codedL D)).size ≤ 2000 := by rw [strB_size]; omega
  have h := tr_1sf w [⟨#[45, 115]⟩, strB (Pl.codedL D)] 2 rfl (by omega) (small_of (n := 2) (k := 2000) rfl (by omega) (by intro a ha; simp only [List.mem_cons, List.not_mem_nil, or_false] at ha; rcases ha with rfl | rfl; decide; exact hsz) (by omega)) inb m him hil buf line run hlm _ 1 (Pl.codedL D) hT (asked_s _ _ (isOp_of (codedL_op D))) rfl (by omega) (by rw [Pl.setL_coded]) (by rw [Pl.setL_coded])
  rw [Pl.setL_coded] at h
  exact h
theorem saidMap (E : List UInt8) (hE : E.length = D.length) (U : ByteArray) (hU : strB (Pl.codedL E) = U) : TrIs [S, U] 2 inb m buf line run (Pl.Tab.tell ⟨D, E, false, true, false⟩ inb) w := by
  subst hS hU
  have hl := codedL_len D
  have hl2 := codedL_len E
  have hsz : (strB (Pl.codedL D)).size ≤ 2000 := by rw [strB_size]; omega
  have hsz2 : (strB (Pl.codedL E)).size ≤ 2000 := by rw [strB_size]; omega
  have h := tr_2ff w [strB (Pl.codedL D), strB (Pl.codedL E)] 2 rfl (by omega) (small_of (n := 2) (k := 2000) rfl (by omega) (by intro a ha; simp only [List.mem_cons, List.not_mem_nil, or_false] at ha; rcases ha with rfl | rfl; exact hsz; exact hsz2) (by omega)) inb m him hil buf line run hlm [] 0 (Pl.codedL D) (Pl.codedL E) hT (asked_ops _ _ (isOp_of (codedL_op D))) rfl (by omega) (by rw [Pl.setL_coded]) (by rw [Pl.setL_coded]) (by omega) (by rw [Pl.setL_coded]) (by rw [Pl.setL_coded]; exact .inl rfl) (by
    rw [Pl.setL_coded, Pl.setL_coded]
    intro h1 h2
    have : E = [] := h2
    rw [this] at hE
    exact h1 (List.eq_nil_of_length_eq_zero hE.symm))
  rw [Pl.setL_coded, Pl.setL_coded] at h
  exact h
end

end Go.Proofs.YtlhiadnolckoeaaGreatDoor
end
