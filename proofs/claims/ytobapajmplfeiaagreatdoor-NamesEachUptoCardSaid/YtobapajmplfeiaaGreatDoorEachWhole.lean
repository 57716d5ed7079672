/-
  A format that takes one argument is gone through for each of them, and echo tells them with blanks between: the law NamesEach returns true; the card ties the listed variables.
  Conditions: what is read holds together at most 1048576 values and letters.
-/
import Derived.Test.YtobapajmplfeiaaGreatDoorRows
import Derived.WalkKit
import Derived.ProofKit
import Derived.OpenShut
import Derived.JoinedCond
import Derived.Carry
import Derived.SliceStrings
import Derived.Test.YtobapajmplfeiaaGreatDoorQ10
import Derived.Test.YtobapajmplfeiaaGreatDoorQ12
import Derived.Test.YtobapajmplfeiaaGreatDoorQ09
import Derived.Lib.LaidU8T
import Derived.Lib.LaidTab
import Derived.Stop.LaidErr
import Derived.LaidMore
import Derived.Lay
import Derived.Deep.DeepHandedRow
import Derived.Test.YtobapajmplfeiaaGreatDoorCards
import Derived.Test.YtobapajmplfeiaaGreatDoorTie

section
namespace Go.Proofs.YtobapajmplfeiaaGreatDoor
open Go.ChangeShapes Go.WideShapes Go.ChangeAt Go.RowKit
open Go.ChangeMaps (open_string shut_string)

theorem Tryz.own : ownKnob Tryz.prog.godebug = none := by kernel_rfl
theorem Tryz.laidOut : laidOutB Tryz.prog = true := by kernel_rfl

theorem trodAll_below {H : Type} {enc : TypeId × Value → H} {P : Program} (hl : laidOutB P = true) {W W' : World} (hb : Below W.heap.size W W') :
    ∀ (ts : List TypeId) (vs : List Value) (ds : List (DataW H)) (ps : List MemPlace), (∀ t ∈ ts, P.readableRec t = true ∧ t < P.types.size) →
      DataW.TrodAll enc P W 0 (fun _ => true) true ts vs ds ps → (∀ x ∈ ps, x.block < W.heap.size) → DataW.TrodAll enc P W' 0 (fun b => decide (b < W.heap.size)) true ts vs ds ps := by
  intro ts
  induction ts with
  | nil => intro vs ds ps _ h _; obtain ⟨rfl, rfl, rfl⟩ := trodAll_nil h; exact trodAll_mk0
  | cons t ts ih =>
    intro vs ds ps ht h hlt
    obtain ⟨v, vs', d, ds', p, q, rfl, rfl, rfl, h0, hr⟩ := trodAll_cons h
    exact trodAll_cons_mk (Below.trod hl (ht t (by simp)).1 (ht t (by simp)).2 h0 hb (fun x hx => hlt x (by simp [hx]))) (ih vs' ds' q (fun u hu => ht u (by simp [hu])) hr (fun x hx => hlt x (by simp [hx])))

theorem post_true {H : Type} {enc : TypeId × Value → H} {P : Program} {f : Func} {s : ChangeSpec} {tb : TypeId} {W W' : World} {args : Array Value} {ds : List (DataW H)} {before : List MemPlace} (hl : laidOutB P = true)
    (hW : DataW.Whole enc P f.params.toList s.vars false W args.toList ds [] before) (hv : s.vars = []) (hres : (s.fn H (ds ++ [])).results = [.lit (.bool true)]) (hargs : (s.fn H (ds ++ [])).args = ds) (hvars : (s.fn H (ds ++ [])).vars = [])
    (hf : f.resultTypes.toList = [tb]) (hn : f.resultTypes.size = 1) (hb : P.underlying tb = some .bool) (ht : ∀ t ∈ f.params.toList, P.readableRec t = true ∧ t < P.types.size) (hbe : Below W.heap.size W W') :
    s.post enc P f false true false false W args (.bool true) W' := by
  have hlt : ∀ x ∈ before, x.block < W.heap.size := fun x hx => hW.lt x hx
  have hW' := hW
  obtain ⟨p, q, hA, hV, rfl, _, _⟩ := hW
  rw [hv] at hV
  obtain ⟨_, rfl⟩ := trodVars_none hV
  refine ⟨ds, [], p ++ [], [] ++ [], p, [], hW', ?_, ?_, ?_, hbe.frame _, fun h => by cases h⟩
  · rw [hres, hf, hn]
    exact trodAll_mk1 (shut_bool hb true)
  · rw [hargs]
    exact trodAll_below hl hbe _ _ _ _ ht hA (fun x hx => hlt x (by simp [hx]))
  · rw [hvars, hv]; rfl

/-! ### what the bound gives -/
theorem bulk_one {H : Type} (d : DataW H) : 1 ≤ Rows.uptoBulk d := by
  cases d with
  | lit l => cases l <;> simp [Rows.uptoBulk]
  | nil => simp [Rows.uptoBulk]
  | ptr d => simp [Rows.uptoBulk]
  | slice elems spare => simp [Rows.uptoBulk]
  | agg parts => simp [Rows.uptoBulk]
  | iface t d => simp [Rows.uptoBulk]
  | map entries => simp [Rows.uptoBulk]
  | held h => simp [Rows.uptoBulk]
theorem bulk_bound {H : Type} {l : List (DataW H)} (hk : Rows.uptoSmall H l = true) : Rows.uptoBulkAll l ≤ 1048576 := of_decide_eq_true hk
theorem bulk_string {H : Type} (s : ByteArray) : Rows.uptoBulk (DataW.lit (H := H) (.string s.data.toList)) = s.size + 1 := by
  simp only [Rows.uptoBulk]
  rw [Array.length_toList]; rfl
theorem bulk_strs {H : Type} (l : List ByteArray) : Rows.uptoBulkAll (strs (H := H) l) = (l.map (·.size)).sum + l.length := by
  induction l with
  | nil => simp [strs, Rows.uptoBulkAll]
  | cons s l ih =>
    have h : Rows.uptoBulkAll (strs (H := H) (s :: l)) = Rows.uptoBulk (DataW.lit (H := H) (.string s.data.toList)) + Rows.uptoBulkAll (strs (H := H) l) := by simp [strs, Rows.uptoBulkAll]
    rw [h, ih, bulk_string, List.map_cons, List.sum_cons, List.length_cons]
    omega
end Go.Proofs.YtobapajmplfeiaaGreatDoor
end

section
namespace Go.Proofs.YtobapajmplfeiaaGreatDoor

namespace Pl
def fmtE : List UInt8 := [60, 37, 115, 62, 92, 110]
def psE : List Piece := [bytesP 60, convP [] [] 115, bytesP 62, bytesP 10]
theorem fmtE_is : Fmt fmtE psE := .byte 60 _ _ (by decide) (by decide) (.conv [] [] 115 _ _ ⟨by decide, by decide, by decide, by decide, by decide⟩ (.byte 62 _ _ (by decide) (by decide) (.nl _ _ .nil)))
theorem psE_eq : psE = [⟨[60], 0, false, false, false, 0⟩, ⟨[], 115, false, false, false, 0⟩, ⟨[62], 0, false, false, false, 0⟩, ⟨[10], 0, false, false, false, 0⟩] := rfl
def numE (_ : List UInt8) : Nat × Bool := (0, true)
def noneE (_ : List UInt8) : Bool := false
def oneE (a : List UInt8) : List UInt8 := 60 :: (a ++ [62, 10])
def wantE (l : List (List UInt8)) : List UInt8 := if l = [] then [60, 62, 10] else l.flatMap oneE
theorem passE (A : List (List UInt8)) (a bs : List UInt8) (says : List (List UInt8)) (b : Bool) : pass numE psE ⟨a :: A, bs, says, b⟩ = ⟨A, bs ++ oneE a, says, true⟩ := by
  simp [pass, psE_eq, step, St.arg, Piece.wideL, oneE]
theorem passE0 (bs : List UInt8) (says : List (List UInt8)) (b : Bool) : pass numE psE ⟨[], bs, says, b⟩ = ⟨[], bs ++ [60, 62, 10], says, true⟩ := by
  simp [pass, psE_eq, step, St.arg, Piece.wideL]
theorem goodE (S : St) : good numE noneE psE S = true := by simp [good, psE_eq]
theorem endsE1 (l : List (List UInt8)) : ∀ (a bs : List UInt8) (b : Bool), Ends numE noneE psE ⟨a :: l, bs, [], b⟩ ⟨[], bs ++ (a :: l).flatMap oneE, [], true⟩ := by
  induction l with
  | nil =>
    intro a bs b
    have h := Ends.last (num := numE) (Q := noneE) (l := psE) ⟨[a], bs, [], b⟩ (goodE _) (by rw [passE]; rfl)
    rw [passE] at h
    simpa using h
  | cons c l ih =>
    intro a bs b
    refine .more _ _ (goodE _) (by rw [passE]; rfl) ?_
    rw [passE]
    have h := ih c (bs ++ oneE a) true
    rw [List.append_assoc] at h
    exact h
theorem endsE (l : List (List UInt8)) : Ends numE noneE psE ⟨l, [], [], false⟩ ⟨[], wantE l, [], true⟩ := by
  cases l with
  | nil =>
    have h := Ends.last (num := numE) (Q := noneE) (l := psE) ⟨[], [], [], false⟩ (goodE _) (by rw [passE0]; rfl)
    rw [passE0] at h
    exact h
  | cons a l => exact endsE1 l a [] false
theorem wantE_ne (l : List (List UInt8)) : wantE l ≠ [] := by
  unfold wantE
  split
  · simp
  · rename_i h
    cases l with
    | nil => exact absurd rfl h
    | cons a l => simp [oneE]
theorem flatE_len (l : List (List UInt8)) : (l.flatMap oneE).length = (l.map List.length).sum + 3 * l.length := by
  induction l with
  | nil => rfl
  | cons a l ih => simp only [List.flatMap_cons, List.length_append, ih, List.map_cons, List.sum_cons, List.length_cons, oneE, List.length_nil]; omega
theorem wantE_len (l : List (List UInt8)) : (wantE l).length ≤ (l.map List.length).sum + 3 * l.length + 3 := by
  unfold wantE
  split
  · simp
  · rw [flatE_len]; omega
end Pl

end Go.Proofs.YtobapajmplfeiaaGreatDoor
end

section
namespace Go.Proofs.YtobapajmplfeiaaGreatDoor
open Go.RowKit Go.Maps

theorem ownsNew (w : World) (base : Nat) (hb : base ≤ w.heap.size) (l : List ByteArray) (n : Nat) (hn : l.length = n) (hm : n ≤ maxLen) (cells : Array Value) (hc : cells.toList = strsC l) :
    (w.alloc (.cells cells 9)).ownsRow base 9 1 (.slice (some ⟨w.heap.size, 0, none⟩) n n) n (strsC l) := by
  refine ⟨by simp [strsC, hn], .inr ⟨w.heap.size, n, cells, rfl, hb, Blk.new w _ _, Nat.le_refl _, hm, ?_, ?_⟩⟩
  · rw [← Array.length_toList, hc]; simp [strsC, hn]
  · rw [hc, Nat.mul_one]; exact List.take_of_length_le (by simp [strsC, hn])
theorem strsC_append (a b : List ByteArray) : strsC (a ++ b) = strsC a ++ strsC b := by simp [strsC]
theorem strsC_one (l : List ByteArray) : ∀ u ∈ strsC l, u.oneCell' = true := by
  intro u hu
  simp only [strsC, List.mem_map] at hu
  obtain ⟨x, _, rfl⟩ := hu
  rfl
theorem mem_le_sum {l : List (List UInt8)} {a : List UInt8} (h : a ∈ l) : a.length ≤ (l.map List.length).sum := by
  induction l with
  | nil => cases h
  | cons b l ih =>
    simp only [List.map_cons, List.sum_cons]
    rcases List.mem_cons.1 h with rfl | h
    · omega
    · have := ih h; omega
theorem join_snoc (l : List (List UInt8)) (a : List UInt8) : Lib.join (l ++ [a]) [32] = (if l = [] then [] else Lib.join l [32] ++ [32]) ++ a := by
  cases l with
  | nil => simp [Lib.join_one]
  | cons x r =>
    rw [if_neg (by simp), List.cons_append, Lib.join_cons, Lib.join_cons]
    simp [Lib.joinTail]
theorem join_len (l : List (List UInt8)) : (Lib.join l [32]).length ≤ (l.map List.length).sum + l.length := by
  cases l with
  | nil => simp [Lib.join_nil]
  | cons x r =>
    rw [Lib.join_cons, List.length_append, Lib.joinTail_length]
    have : Lib.lens r = (r.map List.length).sum := by
      induction r with
      | nil => rfl
      | cons y r ih => simp [Lib.lens] at *
    simp
    omega
theorem echoL_strB (l : List (List UInt8)) : echoL (l.map strB) = Lib.join l [32] := by
  unfold echoL
  rw [List.map_map]
  congr 1
  exact List.map_id l
theorem doesE (V : World) : Does51 V Pl.numE Pl.noneE Pl.psE where
  value := by intro a ha; cases ha
  zero := by intro a ha; cases ha
  told := by intro p _ _ _ a ha; cases ha
  wide := by
    intro p hp
    rw [Pl.psE_eq] at hp
    simp only [List.mem_cons, List.not_mem_nil, or_false] at hp
    rcases hp with rfl | rfl | rfl | rfl <;> decide
  b := by
    intro p hp h0
    rw [Pl.psE_eq] at hp
    simp only [List.mem_cons, List.not_mem_nil, or_false] at hp
    rcases hp with rfl | rfl | rfl | rfl
    · exact absurd rfl h0
    · exact ⟨rfl, rfl⟩
    · exact absurd rfl h0
    · exact absurd rfl h0
theorem runEachP (w : World) (hT : Tabs w) (l : List (List UInt8)) (n : Nat) (hn : l.length = n) (h100 : n ≤ 100) (hs : (l.map List.length).sum ≤ 1048576) : RunIs (tagPrintf :: strB Pl.fmtE :: l.map strB) (2 + n) (Pl.wantE l) [] 0 w := by
  intro A c hr
  have hwl := Pl.wantE_len l
  refine lawRun w A c (2 + n) _ hr (by simp [hn]; omega) (by omega) (by omega) _ _ 0 (by omega) (by simp) (fun V hV => ?_)
  have hm := mainPrintf V (hT.below hV) tagPrintf (by decide) Pl.fmtE (by decide) (by decide) l Pl.psE Pl.fmtE_is (by decide) Pl.numE Pl.noneE (doesE V) _ (Pl.endsE l) (Pl.wantE_ne l) (by simp only []; omega) (by simp [errs]) (by simp) (by omega) (fun a ha => by have := mem_le_sum ha; omega)
  exact startPrintf' V _ [] 3 9 9 (by simp; omega) _ _ _ hm
theorem runEachE (w : World) (l : List (List UInt8)) (n : Nat) (hn : l.length = n) (h100 : n ≤ 100) (hs : (l.map List.length).sum ≤ 1048576) : RunIs (tagEcho :: l.map strB) (1 + n) (Lib.join l [32] ++ [10]) [] 0 w := by
  intro A c hr
  have hwl := join_len l
  have hm := mainEcho tagEcho (l.map strB) (by simp; omega) (by rw [echoL_strB]; omega)
  rw [echoL_strB] at hm
  exact lawRun w A c (1 + n) (tagEcho :: l.map strB) hr (by simp [hn]; omega) (by omega) (by omega) _ _ 0 (by simp; omega) (by simp) (fun V _ => startEcho V _ [] 3 9 9 (by simp; omega) _ _ _ hm)

end Go.Proofs.YtobapajmplfeiaaGreatDoor
end

section
namespace Go.Proofs.YtobapajmplfeiaaGreatDoor
open Go.RowKit Go.Maps

theorem append_args {ops : Array Oper} {rest : List Oper} {o : Oper} {a : Act} {Q : Exit → Act → World → Prop} (hgd : o.guard = none) (s x : Operand)
    (ho : o.op = .call { callee := .builtin .append, args := #[s, x], argTypes := #[26, 26] })
    (w : World) (l : List ByteArray) (n : Nat) (hn : l.length = n) (hn10 : n ≤ 10) (cells : Array Value) (hc : cells.toList = strsC l) (A : Option Addr) (c m : Nat) (args : List ByteArray) (h100 : m ≤ 1000)
    (hs : a.eval s = .slice (some ⟨w.heap.size, 0, none⟩) n n) (hx : a.eval x = .slice A m c) (hr : Reads w w.heap.size 1 A m (strsC args))
    (h : ∀ A' c' w', Reads w' w'.heap.size 1 A' (n + m) (strsC (l ++ args)) → Below w.heap.size w w' → wpList Tryz.prog ops Q rest (a.put o.dst (.slice A' (n + m) c')) w') :
    wpList Tryz.prog ops Q (o :: rest) a (w.alloc (.cells cells 9)) := by
  obtain ⟨iS, hiS, hS0, hS1, hS2⟩ := info_parts Tryz.infoStrC
  refine wpList_append_any _ hgd s x 26 ho w.heap.size 9 iS (.string ⟨#[]⟩) 1 16 Tryz.underlying26 hiS hS0 hS1 hS2 rfl (by decide) _ n (strsC l) hs (ownsNew w w.heap.size (Nat.le_refl _) l n hn (by simp only [maxLen]; omega) cells hc) w.heap.size A m c (strsC args) hx (hr.alloc (Nat.le_refl _) _) (strsC_one args) (by simp only [maxLen]; omega) (by omega) (by simp) ?_
  intro v' w' hown hg hat
  obtain ⟨A', c', rfl, _, _, hR⟩ := own_slice hown
  rw [← strsC_append] at hR
  exact h A' c' w' hR (((Below.refl _ _).alloc (Nat.le_refl _) _).grown hg (by simp) (fun k hk => by simp [Value.ownBlock] at hk; omega))

theorem flatE_take (l : List (List UInt8)) (k : Nat) (a : List UInt8) (h : l[k]? = some a) : (l.take (k + 1)).flatMap Pl.oneE = (l.take k).flatMap Pl.oneE ++ [60] ++ a ++ [62, 10] := by
  rw [List.take_add_one, h, Option.toList_some, List.flatMap_append]
  simp [Pl.oneE]
theorem sum_take (l : List (List UInt8)) (k : Nat) : ((l.take k).map List.length).sum ≤ (l.map List.length).sum := by
  conv => rhs; rw [← List.take_append_drop k l]
  rw [List.map_append, List.sum_append]
  omega

set_option maxRecDepth 100000 in
set_option maxHeartbeats 4000000 in
theorem namesEach_any (W : World) (hT : Tabs W) (A : Option Addr) (c : Nat) (l : List (List UInt8)) (n : Nat) (hn : l.length = n) (hr : Reads W W.heap.size 1 A n (strsC (l.map strB))) (hs : (l.map List.length).sum ≤ 1048576) :
    Calls Tryz.prog 4 #[.slice A n c] W fun e w' => e = .returned (.bool true) ∧ Below W.heap.size W w' := by
  have haw := awake_any W hT
  by_cases h100 : n ≤ 100
  · have HT := Lib.hid hT
    have HR := Lib.hid hr
    have HN := Lib.hid hn
    have HS := Lib.hid hs
    obtain ⟨SW, hSW⟩ : ∃ S, strB (Pl.wantE l) = S := ⟨_, rfl⟩
    obtain ⟨SE, hSE⟩ : ∃ S, strB (Lib.join l [32] ++ [10]) = S := ⟨_, rfl⟩
    obtain ⟨nW, hnW⟩ : ∃ n, (Pl.wantE l).length = n := ⟨_, rfl⟩
    obtain ⟨nE, hnE⟩ : ∃ n, (Lib.join l [32] ++ [10]).length = n := ⟨_, rfl⟩
    have HSW := Lib.hid hSW
    have HSE := Lib.hid hSE
    have HNW := Lib.hid hnW
    have HNE := Lib.hid hnE
    clear hT hr hn hs hSW hSE hnW hnE
    go_enter Tryz.func4, Tryz.ntmps4
    go_wp2_with (first
      | (go_at_call 6; refine haw.mono ?_; rintro e w1 ⟨rfl, hb1⟩
         have HR1 := Lib.hid ((HR.out.below hb1).more hb1.size))
      | (at_builtin; refine append_args rfl _ _ rfl w1 [tagPrintf, strB Pl.fmtE] 2 rfl (by decide) _ rfl A c n (l.map strB) (by omega) rfl rfl HR1.out ?_; intro A2 c2 w2 hR2 hb2
         have hb02 : Below W.heap.size W w2 := hb1.trans (hb2.mono hb1.size)
         have HT2 := Lib.hid (HT.out.below hb02)
         have HR2 := Lib.hid hR2
         clear hR2)
      | (go_at_call 11; have hq := (runEachP w2 HT2.out l n HN.out h100 HS.out).go A2 c2 HR2.out; with_reducible refine hq.mono ?_; rintro e w3 ⟨ov3, ev3, sp3, pk3, rfl, ho3, he3, hb3⟩; unfold resV)
      | (refine wpList_store_res rfl (.tmp 4) (.tmp 17) rfl hb02 ho3 he3 hb3 rfl rfl ?_; rintro w4 ⟨A4, c4, E4, d4, R4⟩ b4
         have HR4 := Lib.hid ((HR.out.below b4).more b4.size))
      | (at_builtin; refine append_args rfl _ _ rfl w4 [tagEcho] 1 rfl (by decide) _ rfl A c n (l.map strB) (by omega) rfl rfl HR4.out ?_; intro A5 c5 w5 hR5 hb5
         have b5 : Below W.heap.size W w5 := b4.trans (hb5.mono b4.size)
         have HR5 := Lib.hid hR5
         clear hR5)
      | (go_at_call 11; have hq := (runEachE w5 l n HN.out h100 HS.out).go A5 c5 HR5.out; with_reducible refine hq.mono ?_; rintro e w6 ⟨ov6, ev6, sp6, pk6, rfl, ho6, he6, hb6⟩; unfold resV)
      | (refine wpList_store_res rfl (.tmp 5) (.tmp 21) rfl hb5 ho6 he6 hb6 rfl rfl ?_; rintro w7 ⟨A7, c7, E7, d7, R7⟩ b47
         have b7 := b4.trans (b47.mono b4.size)
         have R4' := Lib.hid (R4.below b47)
         have R7' := Lib.hid R7
         clear R4 R7
         have HR7 := Lib.hid ((HR.out.below b7).more b7.size)))
    go_loopw [6, 7, 8] (fun wv lv iv wr => ∃ (k : Nat) (X Y : List UInt8), k ≤ n ∧ Hid (X = (l.take k).flatMap Pl.oneE) ∧ Hid (Y = Lib.join (l.take k) [32]) ∧ wv = .string (strB X) ∧ lv = .string (strB Y) ∧ iv = .int .i64 (k : Int) ∧ wr = w7) (fun _ _ iv _ => n - mInt iv)
    case atStart => exact ⟨0, [], [], Nat.zero_le _, Lib.hid rfl, Lib.hid rfl, rfl, rfl, rfl, rfl⟩
    case round =>
      obtain ⟨k, X, Y, hk, HX, HY, rfl, rfl, rfl, rfl⟩ := hrel
      have hXl : X.length ≤ 1100000 := by
        have h1 := Pl.flatE_len (l.take k)
        have h2 := sum_take l k
        have h3 := HS.out
        have h4 : (l.take k).length ≤ k := by simp; omega
        rw [HX.out]
        omega
      have hYl : Y.length ≤ 1100000 := by
        have h1 := join_len (l.take k)
        have h2 := sum_take l k
        have h3 := HS.out
        have h4 : (l.take k).length ≤ k := by simp; omega
        rw [HY.out]
        omega
      obtain ⟨x, hx⟩ : ∃ x, X.length = x := ⟨_, rfl⟩
      obtain ⟨y, hy⟩ : ∃ y, Y.length = y := ⟨_, rfl⟩
      rw [hx] at hXl
      rw [hy] at hYl
      have s1 : (strB X).size = x := by rw [strB_size, hx]
      have s2 : (strB Y).size = y := by rw [strB_size, hy]
      by_cases hlt : k < n
      · obtain ⟨ad, u, rfl, hadB, hu, hc⟩ := HR7.out.at_ (k := k) hlt
        obtain ⟨a, ha⟩ : ∃ a, l[k]? = some a := ⟨_, List.getElem?_eq_getElem (by rw [HN.out]; exact hlt)⟩
        obtain rfl : u = .string (strB a) := by
          simp only [strsC, List.getElem?_map, ha, Option.map_some] at hu
          exact (Option.some.inj hu).symm
        have hal : a.length ≤ 1048576 := Nat.le_trans (mem_le_sum (List.mem_of_getElem? ha)) HS.out
        have HX2 : Hid (X ++ [60] ++ a ++ [62, 10] = (l.take (k + 1)).flatMap Pl.oneE) := Lib.hid (by rw [flatE_take l k a ha, HX.out])
        have htk : l.take (k + 1) = l.take k ++ [a] := by rw [List.take_add_one, ha]; rfl
        have HY2 : Hid ((if k = 0 then Y ++ a else Y ++ [32] ++ a) = Lib.join (l.take (k + 1)) [32]) := Lib.hid (by
          rw [htk, join_snoc, HY.out]
          by_cases h0 : k = 0
          · subst h0
            simp [Lib.join_nil]
          · have h1 : l.take k ≠ [] := by
              intro e
              have h2 := congrArg List.length e
              simp at h2
              rcases h2 with h2 | h2
              · exact h0 h2
              · rw [h2] at ha; simp at ha
            rw [if_neg h0, if_neg h1])
        obtain ⟨m, hm⟩ : ∃ m, a.length = m := ⟨_, rfl⟩
        rw [hm] at hal
        have a1 : strB X ++ ⟨#[60]⟩ = strB (X ++ [60]) := strB_append X [60]
        have a2 := strB_append (X ++ [60]) a
        have a3 : strB (X ++ [60] ++ a) ++ ⟨#[62, 10]⟩ = strB (X ++ [60] ++ a ++ [62, 10]) := strB_append (X ++ [60] ++ a) [62, 10]
        have a4 : strB Y ++ ⟨#[32]⟩ = strB (Y ++ [32]) := strB_append Y [32]
        have a5 := strB_append (Y ++ [32]) a
        have a6 := strB_append Y a
        have s3 : (strB (X ++ [60])).size = x + 1 := by rw [strB_size, List.length_append, hx]; rfl
        have s4 : (strB a).size = m := by rw [strB_size, hm]
        have s5 : (strB (X ++ [60] ++ a)).size = x + 1 + m := by rw [strB_size, List.length_append, List.length_append, hx, hm]; rfl
        have s6 : (strB (Y ++ [32])).size = y + 1 := by rw [strB_size, List.length_append, hy]; rfl
        obtain ⟨X1, hX1⟩ : ∃ Z, X ++ [60] = Z := ⟨_, rfl⟩
        obtain ⟨X2, hX2⟩ : ∃ Z, X1 ++ a = Z := ⟨_, rfl⟩
        obtain ⟨X3, hX3⟩ : ∃ Z, X2 ++ [62, 10] = Z := ⟨_, rfl⟩
        obtain ⟨Y1, hY1⟩ : ∃ Z, Y ++ [32] = Z := ⟨_, rfl⟩
        obtain ⟨Y2, hY2⟩ : ∃ Z, Y1 ++ a = Z := ⟨_, rfl⟩
        obtain ⟨Y3, hY3⟩ : ∃ Z, Y ++ a = Z := ⟨_, rfl⟩
        have HWK : Hid (wrap64 ((k : Int) + 1) = ((k + 1 : Nat) : Int)) := Lib.hid (Eq.trans (w64 _ ⟨by omega, by omega⟩) (by omega))
        simp only [hX1, hX2, hX3] at HX2 a1 a2 a3 s3 s5
        simp only [hY1, hY2, hY3] at HY2 a4 a5 a6 s6
        clear ha htk hm hu hx hy hX1 hX2 hX3 hY1 hY2 hY3
        by_cases h0 : k = 0
        · subst h0
          have hc0 : wr.cell? ad = some (.string (strB a)) := hc
          go_wp2_with fail
          exact ⟨⟨1, _, _, by omega, HX2, HY2, rfl, rfl, rfl, trivial⟩, by simp only [mInt]; omega⟩
        · have hk0 : (0 : Int) < (k : Int) := by omega
          go_wp2_with fail
          exact ⟨⟨k + 1, X3, Y2, by omega, HX2, Lib.hid (by have h := HY2.out; rwa [if_neg h0] at h), rfl, rfl, by first | rw [HWK.out] | rfl, trivial⟩, by simp only [mInt]; first | (rw [HWK.out]; omega) | omega⟩
      · have hkn : k = n := by omega
        subst hkn
        have hfull : l.take k = l := List.take_of_length_le (by rw [HN.out]; exact Nat.le_refl _)
        have a4 : strB Y ++ ⟨#[10]⟩ = strB (Y ++ [10]) := strB_append Y [10]
        have hYE : Y ++ [10] = Lib.join l [32] ++ [10] := by rw [HY.out, hfull]
        rw [hYE, HSE.out] at a4
        have x1 : wr.cell? ⟨w3.heap.size, 0, none⟩ = some (.slice A4 nW c4) := by have h := R4'.out.c0; rwa [HNW.out] at h
        have x2 : wr.cell? ⟨w6.heap.size, 0, none⟩ = some (.slice A7 nE c7) := by have h := R7'.out.c0; rwa [HNE.out] at h
        have y1 : (convert 27 9 (.slice A4 nW c4)).run Tryz.prog wr = .ok (.string SW) wr := convOut HSW.out HNW.out R4'.out.out
        have y2 : (convert 27 9 (.slice A7 nE c7)).run Tryz.prog wr = .ok (.string SE) wr := convOut HSE.out HNE.out R7'.out.out
        have hXS : X = l.flatMap Pl.oneE := by rw [HX.out, hfull]
        by_cases h0 : k = 0
        · subst h0
          have hl : l = [] := List.eq_nil_of_length_eq_zero HN.out
          have hW : SW = ⟨#[60, 62, 10]⟩ := by rw [← HSW.out, hl]; rfl
          subst hW
          clear hx hy hfull hYE hXS
          go_wp2_with fail
          go_returns
          exact ⟨rfl, b7⟩
        · have hl : l ≠ [] := by
            intro e
            have h := HN.out
            rw [e] at h
            exact h0 h.symm
          have hW : strB X = SW := by rw [← HSW.out, hXS, Pl.wantE, if_neg hl]
          have hk0 : ((k : Int) == 0) = false := by rw [beq_eq_false_iff_ne]; omega
          rw [hW] at s1 ⊢
          clear hx hy hfull hYE hXS hW
          go_wp2_with fail
          go_returns
          exact ⟨rfl, b7⟩
  · have hgt : (100 : Int) < (n : Int) := by omega
    go_enter Tryz.func4, Tryz.ntmps4
    go_wp2_with (go_at_call 6; refine haw.mono ?_; rintro e w1 ⟨rfl, hb1⟩)
    go_returns
    exact ⟨rfl, hb1⟩

end Go.Proofs.YtobapajmplfeiaaGreatDoor
end

section
namespace Go.Proofs.YtobapajmplfeiaaGreatDoor
open Go.RowKit Go.ChangeShapes Go.WideShapes Go.ChangeAt Go.Shelf

/-- a listed array of integers -/
theorem tab_reads {W : World} {n : String} {k : IntKind} {zs : List Int} {g : Nat} {t e : TypeId} {m : Nat} (h : Lib.VarReads Tryz.prog W n (Lib.tabData k zs))
    (hg : Tryz.prog.globalNamed n = some g) (hty : (Tryz.prog.globals[g]?).map (·.type) = some t) (ht : Tryz.prog.underlying t = some (.array m e)) (he : Tryz.prog.underlying e = some (.int k)) (hce : Tryz.prog.cellsOf e = 1) (hct : Tryz.prog.cellsOf t = m) : Lib.TabIs Tryz.prog W n k zs := by
  obtain ⟨g', t', cs, fuel, p, hg', ht', hv, hd⟩ := h
  obtain rfl := Option.some.inj (hg.symm.trans hg')
  obtain rfl := Option.some.inj (hty.symm.trans ht')
  unfold Lib.TabIs
  rw [hv, ← Lib.cells_of_tab ht he hce hct hd]
def bruijnZ : List Int := [0, 1, 56, 2, 57, 49, 28, 3, 61, 58, 42, 50, 38, 29, 17, 4, 62, 47, 59, 36, 45, 43, 51, 22, 53, 39, 33, 30, 24, 18, 12, 5, 63, 55, 48, 27, 60, 41, 37, 16, 46, 35, 44, 21, 52, 32, 23, 11, 54, 26, 40, 15, 34, 20, 31, 10, 25, 14, 19, 9, 13, 8, 7, 6]

theorem Tryz.star : "*" ++ "errors.errorString" = "*errors.errorString" := by decide
theorem Tryz.rowErr (u : TypeId) (h : Tryz.prog.typeName? 3 u = some "*errors.errorString") : u = 317 :=
  typeName_ptr_named (nm := "errors.errorString") (by rw [Tryz.star]; kernel_rfl) (by kernel_rfl) (by decide) u (by rw [Tryz.star]; exact h)

theorem sentinel_cell {W : World} {n : String} {text : List UInt8} {r : List (String × DataW Unit)} {g : Nat} (h : laidMet Tryz.prog ((n, .iface "*errors.errorString" (.ptr (.agg [.lit (.string text)]))) :: r) W)
    (hg : Tryz.prog.globalNamed n = some g) (ht : (Tryz.prog.globals[g]?).map (·.type) = some 171) : ∃ tp p, W.cell? ⟨g, 0, none⟩ = some (.iface tp p) := by
  obtain ⟨a, s, hv, _, _, _⟩ := laid_sentinel h hg ht Tryz.underlying171 Tryz.rowErr Tryz.underlying317 Tryz.underlying319 rfl rfl Tryz.underlying9 (by kernel_rfl) (by kernel_rfl)
  have := World.var?_cell hg hv 0
  exact ⟨_, _, this⟩

theorem tabs_of {l : List (String × DataW Unit)} {W : World} (hl : l = Rows.namesPartsRow.laid) (h : laidMetH Tryz.prog l W) : Tabs W := by
  subst hl
  have h' : laidMet Tryz.prog Rows.namesPartsRow.laid W := h
  have m1 : ("math/bits.deBruijn64tab", Rows.laid_math_bits_deBruijn64tab) ∈ Rows.namesPartsRow.laid := by simp [Rows.namesPartsRow]
  have m2 : ("internal/strconv.uint64pow10", Rows.laid_internal_strconv_uint64pow10) ∈ Rows.namesPartsRow.laid := by simp [Rows.namesPartsRow]
  have hb : Lib.TabIs Tryz.prog W "math/bits.deBruijn64tab" .u8 bruijnZ := tab_reads (g := 5) (t := 266) (Lib.laidMet.reads h' m1) (by kernel_rfl) (by kernel_rfl) Tryz.underlying266 Tryz.underlying5 (by kernel_rfl) (by kernel_rfl)
  have hp : Lib.TabIs Tryz.prog W "internal/strconv.uint64pow10" .u64 Lib.pow10Tab := tab_reads (g := 1) (t := 182) (Lib.laidMet.reads h' m2) (by kernel_rfl) (by kernel_rfl) Tryz.underlying182 Tryz.underlying93 (by kernel_rfl) (by kernel_rfl)
  exact ⟨hb.cell (g := 5) (by kernel_rfl) 7 (by decide), hb.cell (g := 5) (by kernel_rfl) 15 (by decide), hp, sentinel_cell h'.tail.tail.tail.tail.tail (by kernel_rfl) (by kernel_rfl), sentinel_cell h'.tail.tail.tail.tail (by kernel_rfl) (by kernel_rfl)⟩

/-- the witness -/
theorem witness_row_shaped {H : Type} {enc : TypeId × Value → H} {C : Checked} {os : Os} {f : FuncId} {fn : Func} {s : OpenSpec} {conds : List PathCond} {apart : Bool} {laid : List (String × DataW Unit)} (w0 : World) (args : Array Value) (hos : w0.os = os)
    (hsh : (w0.forCall (fun _ _ => 0) ⟨#[], args, []⟩).Shaped C.prog)
    (hok : Input.okWideB C.prog (w0.forCall (fun _ _ => 0) ⟨#[], args, []⟩) f ⟨#[], args, []⟩ = true)
    (hrow : s.preRow enc C.prog fn conds apart laid (w0.forCall (fun _ _ => 0) ⟨#[], args, []⟩).memory args) :
    ∃ (w : World) (tape : Tape) (i : Input), w.os = os ∧ (w.forCall tape i).Shaped C.prog ∧ i.vars = [] ∧ Input.okWide C.prog (w.forCall tape i) .any w.heap.size f i ∧
      s.preRow enc C.prog fn conds apart laid (w.forCall tape i).memory i.args ∧ ({} : Assume).holds C.prog (lone (Frame.enter C.prog f i.args .normal) [] (w.forCall tape i)) :=
  ⟨w0, fun _ _ => 0, ⟨#[], args, []⟩, hos, hsh, (Input.okWide_of_okWideB (base := 0) hok).1, (Input.okWide_of_okWideB hok).2, hrow, by
    simp only [Assume.holds]
    exact ⟨by simp, by simp, fun _ => Modest.zero, by simp, by simp⟩⟩

end Go.Proofs.YtobapajmplfeiaaGreatDoor
end

section
namespace Go.Proofs.YtobapajmplfeiaaGreatDoor.namesEach
open Go.ChangeShapes Go.WideShapes Go.ChangeAt Go.RowKit
open Go.ChangeMaps (open_string shut_string)

theorem cellsStr : Tryz.prog.cellsOf 9 = 1 := by kernel_rfl
theorem paramsOk : ∀ t ∈ Tryz.f4.params.toList, Tryz.prog.readableRec t = true ∧ t < Tryz.prog.types.size := by
  intro t ht
  rw [Tryz.params4] at ht
  simp at ht
  subst ht
  exact ⟨by kernel_rfl, of_decide_eq_true (by kernel_rfl)⟩

set_option maxRecDepth 100000 in
theorem contract (H : Type) (enc : TypeId × Value → H) (W : World) (base : Nat) (args : Array Value) (ds gs : List (DataW H)) (before : List MemPlace)
    (hval : ∀ (j : Nat) t v, Tryz.f4.params[j]? = some t → args[j]? = some v → Value.okWide Tryz.prog W .any base t v)
    (hW : DataW.Whole enc Tryz.prog Tryz.f4.params.toList Rows.namesEachSpec.vars false W args.toList ds gs before)
    (hk : Rows.uptoSmall H (ds ++ gs) = true) (hL : laidMetH Tryz.prog Rows.namesEachUptoRow.laid W) :
    Calls Tryz.prog 4 args W fun e W' => ∃ v, e = .returned v ∧ Rows.namesEachSpec.post enc Tryz.prog Tryz.f4 false true false false W args v W' := by
  have hW' := hW
  obtain ⟨p, q, hA0, hV, rfl, hfz, hnd⟩ := hW
  have hA : DataW.TrodAll enc Tryz.prog W 0 (fun _ => true) true Tryz.f4.params.toList args.toList ds p := hA0
  rw [Tryz.params4] at hA hval
  obtain ⟨v0, vs0, d0, ds0, p0, q0, hargs, rfl, rfl, h0, r0⟩ := trodAll_cons hA
  obtain ⟨rfl, rfl, rfl⟩ := trodAll_nil r0
  obtain rfl : args = #[v0] := by cases args; simp_all
  obtain ⟨rfl, rfl⟩ := trodVars_none hV
  obtain ⟨a0, len, cap, rfl⟩ := okWide_slice Tryz.underlying26 (hval 0 26 v0 rfl rfl)
  have hT := tabs_of (show Rows.namesEachUptoRow.laid = Rows.namesPartsRow.laid from rfl) hL
  have fin : ∀ (e : Ending) (W1 : World), e = .returned (.bool true) ∧ Below W.heap.size W W1 → ∃ v, e = .returned v ∧ Rows.namesEachSpec.post enc Tryz.prog Tryz.f4 false true false false W #[.slice a0 len cap] v W1 :=
    fun e W1 ⟨he, hb⟩ => ⟨_, he, post_true Tryz.laidOut hW' rfl rfl rfl rfl rfl rfl Tryz.underlying4 paramsOk hb⟩
  have hbulk := bulk_bound hk
  simp only [List.append_nil, Rows.uptoBulkAll] at hbulk
  obtain ⟨fuel, hf⟩ := h0
  clear hA0 hW' hk hA
  rcases open_strings Tryz.underlying26 Tryz.underlying9 cellsStr hf with ⟨hcs, hx⟩ | ⟨a, len', cap', ss, hcs, _, hl, hm, hz, hx, hcell, hws⟩
  · simp [Value.cells] at hcs
    obtain ⟨rfl, rfl, rfl⟩ := hcs
    exact (namesEach_any W hT none 0 [] 0 rfl Reads.none_ (by simp)).mono fin
  · simp [Value.cells] at hcs
    obtain ⟨rfl, rfl, rfl⟩ := hcs
    simp only [Prod.mk.injEq] at hx
    obtain ⟨rfl, rfl⟩ := hx
    simp only [if_true] at hz
    simp only [Rows.uptoBulk, bulk_strs, List.length_take, List.length_drop] at hbulk
    have hlen : (ss.take len).length = len := by rw [List.length_take]; omega
    have hmap : ((ss.take len).map (fun s => s.data.toList)).map strB = ss.take len := by rw [List.map_map]; exact List.map_id _
    have hr : Reads W W.heap.size 1 (some a) len (strsC (((ss.take len).map (fun s => s.data.toList)).map strB)) := by
      rw [hmap]
      refine ⟨by simp only [strsC, List.length_map, hlen, Nat.mul_one], fun hn => ⟨a, rfl, ?_, fun j u hu => ?_⟩⟩
      · have h := World.block_lt_of_cell? W _ (hcell 0 (by omega))
        rwa [block_of_add] at h
      · simp only [strsC, List.getElem?_map] at hu
        obtain ⟨t, ht, rfl⟩ := Option.map_eq_some_iff.1 hu
        have hj : j < len := by
          have := (List.getElem?_eq_some_iff.1 ht).1
          omega
        rw [hcell j (by omega), List.getD_eq_getElem?_getD]
        rw [List.getElem?_take, if_pos hj] at ht
        rw [ht]; rfl
    have hsum : ((((ss.take len).map (fun s => s.data.toList))).map List.length).sum ≤ 1048576 := by
      have e : (((ss.take len).map (fun s => s.data.toList))).map List.length = (ss.take len).map (·.size) := by
        rw [List.map_map]
        exact List.map_congr_left (fun s _ => Array.length_toList)
      rw [e]
      omega
    exact (namesEach_any W hT (some a) cap _ len (by rw [List.length_map, hlen]) hr hsum).mono fin

def witArgs : Array Value := #[.slice none 0 0]
theorem reads (os : Os) {H : Type} (enc : TypeId × Value → H) : ∃ places, DataW.whole enc Tryz.prog ((World.laidAll Tryz.prog os Rows.namesEachUptoRow.laid).forCall (fun _ _ => 0) ⟨#[], witArgs, []⟩).memory Tryz.f4.params.toList Rows.namesEachSpec.vars false witArgs.toList 8 = some ([.nil], [], places) :=
  ⟨[], by kernel_rfl⟩

set_option maxRecDepth 100000 in
theorem lifted (os : Os) (started : os.Started) (H : Type) (enc : TypeId × Value → H) (F : Stop.Interp) :
    ReturnsInHanded {} Tryz.checked os 4 .any ((Rows.OpenSpec.upto Rows.namesEachSpec).preRow enc Tryz.prog Tryz.f4 Rows.namesEachUptoRow.domain false Rows.namesEachUptoRow.laid) (((Rows.OpenSpec.upto Rows.namesEachSpec).at F).post enc Tryz.prog Tryz.f4 false true false false) := by
  obtain ⟨places, hx⟩ := reads os enc
  refine returnsInHanded_of_row (C := Tryz.checked) (s := Rows.OpenSpec.upto Rows.namesEachSpec) Tryz.own started (by kernel_rfl) Tryz.func4
    (witness_row_shaped (enc := enc) (C := Tryz.checked) (World.laidAll Tryz.prog os Rows.namesEachUptoRow.laid) witArgs (World.laidAll_os _ _ _) (World.shaped_of_ZipB (by kernel_rfl) (by kernel_rfl)) (by kernel_rfl)
      (OpenSpec.preRow_of_cond 8 hx (by kernel_rfl) (fun k hk => by cases hk; kernel_rfl) (by kernel_rfl) (by rw [MakeChecks.laidMetH_plain _ _ _ (by kernel_rfl)]; exact laidMet_laidAll _ (by kernel_rfl) (by kernel_rfl)))) ?_
  intro W base args ds gs before hval hW _ hk _ hL _ _
  exact contract H enc W base args ds gs before hval hW (hk _ rfl) hL

theorem said : Rows.NamesEachUptoSaid :=
  OpenClaim.holds_of_cond 4 Tryz.f4 rfl rfl rfl rfl rfl rfl rfl ⟨rfl, rfl, rfl, rfl, rfl⟩ rfl rfl rfl rfl rfl (by kernel_rfl) Tryz.func4 (by kernel_rfl)
    (of_decide_eq_true (by kernel_rfl)) (by unfold Func.isWrapper; first | (rw [if_pos (by decide +kernel)]; kernel_rfl) | (rw [if_neg (by decide +kernel)]; exact ⟨rfl, rfl⟩))
    (fun os started H enc _ F => by rw [OpenClaim.pre_eq_preRow]; exact lifted os started H enc F)

/-- no parameter wants a stand-in; the program's own looks are on -/
theorem plain (f : FuncId) (fn : Func) (hf : Tryz.pinned.checked.prog.funcNamed "toolchest/toolchestlaw19.NamesEach" = some f) (hfn : Tryz.pinned.checked.prog.funcs[f]? = some fn) :
    true = Tryz.pinned.checked.prog.looks [] ∧ ∀ (j : Nat) t, fn.params[j]? = some t → Tryz.pinned.checked.prog.wantsStandIn t = false := by
  obtain rfl : f = 4 := Option.some.inj ((show Tryz.prog.funcNamed "toolchest/toolchestlaw19.NamesEach" = some 4 by kernel_rfl).symm.trans hf) |>.symm
  obtain rfl : fn = Tryz.f4 := (Option.some.inj (Tryz.func4.symm.trans hfn)).symm
  refine ⟨by kernel_rfl, fun j t ht => ?_⟩
  have hm : t ∈ Tryz.f4.params.toList := by simpa using Array.mem_of_getElem? ht
  have hall : (Tryz.f4.params.toList.all fun u => !Tryz.prog.wantsStandIn u) = true := by kernel_rfl
  exact (show Tryz.prog.wantsStandIn t = false by simpa using List.all_eq_true.1 hall t hm)

theorem proved : Rows.NamesEachUptoCardSaid :=
  Claim7.holds_tied_plain_at .later [] _ _ _ _ said (fun _ h => by cases h) (by kernel_rfl) (fun _ h => by cases h) namesEachUpto_row_tie rfl ⟨rfl, rfl⟩ (by kernel_rfl) rfl plain (by kernel_rfl)
#print axioms proved
end Go.Proofs.YtobapajmplfeiaaGreatDoor.namesEach
end
