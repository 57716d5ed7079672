/-
  What %x, %o and %d tell of a whole number is read by %d as that number, and a width makes it as wide: the law NamesNumbers returns true, for every input; the card ties the listed variables.
  Conditions: none beyond the row's own.
-/
import Derived.Test.YtobapajmplfeiaaGreatDoorRows
import Derived.WalkKit
import Derived.ProofKit
import Derived.OpenShut
import Derived.JoinedCond
import Derived.Carry
import Derived.SliceStrings
import Derived.Test.YtobapajmplfeiaaGreatDoorQ09
import Derived.Test.YtobapajmplfeiaaGreatDoorQ10
import Derived.Test.YtobapajmplfeiaaGreatDoorQ11
import Derived.Test.YtobapajmplfeiaaGreatDoorQ12
import Derived.Deep.RegionHeld3
import Derived.Lib.LaidU8T
import Derived.Lib.LaidTab
import Derived.Stop.LaidErr
import Derived.LaidMore
import Derived.Lay
import Derived.Deep.DeepHandedRow
import Derived.Test.YtobapajmplfeiaaGreatDoorCards
import Derived.Test.YtobapajmplfeiaaGreatDoorTie
import Derived.SizedLaws

section
namespace Go.Proofs.YtobapajmplfeiaaGreatDoor
open Go.ChangeShapes Go.WideShapes Go.ChangeAt Go.RowKit
open Go.ChangeMaps (open_string shut_string)

theorem Tryz.own : ownKnob Tryz.prog.godebug = none := by kernel_rfl
theorem Tryz.laidOut : laidOutB Tryz.prog = true := by kernel_rfl

theorem trodAll_below {H : Type} {enc : TypeId × Value → H} {P : Program} (hl : laidOutB P = true) {W W' : World} (hb : Below W.heap.size W W') :
    ∀ (ts : List TypeId) (vs : List Value) (ds : List (DataW H)) (ps : List MemPlace), (∀ t ∈ ts, P.readableRec t = true ∧ t < P.types.size) →
      DataW.TrodAll enc P W 0 (fun _ => true) true ts vs ds ps → (∀ x ∈ ps, x.block < W.heap.size) → DataW.TrodAll enc P W' 0 (fun b => decide (b < W.heap.size)) true ts vs ds ps := by
  intro ts
  induction ts with
  | nil => intro vs ds ps _ h _; obtain ⟨rfl, rfl, rfl⟩ := trodAll_nil h; exact trodAll_mk0
  | cons t ts ih =>
    intro vs ds ps ht h hlt
    obtain ⟨v, vs', d, ds', p, q, rfl, rfl, rfl, h0, hr⟩ := trodAll_cons h
    exact trodAll_cons_mk (Below.trod hl (ht t (by simp)).1 (ht t (by simp)).2 h0 hb (fun x hx => hlt x (by simp [hx]))) (ih vs' ds' q (fun u hu => ht u (by simp [hu])) hr (fun x hx => hlt x (by simp [hx])))

theorem post_true {H : Type} {enc : TypeId × Value → H} {P : Program} {f : Func} {s : ChangeSpec} {tb : TypeId} {W W' : World} {args : Array Value} {ds : List (DataW H)} {before : List MemPlace} (hl : laidOutB P = true)
    (hW : DataW.Whole enc P f.params.toList s.vars false W args.toList ds [] before) (hv : s.vars = []) (hres : (s.fn H (ds ++ [])).results = [.lit (.bool true)]) (hargs : (s.fn H (ds ++ [])).args = ds) (hvars : (s.fn H (ds ++ [])).vars = [])
    (hf : f.resultTypes.toList = [tb]) (hn : f.resultTypes.size = 1) (hb : P.underlying tb = some .bool) (ht : ∀ t ∈ f.params.toList, P.readableRec t = true ∧ t < P.types.size) (hbe : Below W.heap.size W W') :
    s.post enc P f false true false false W args (.bool true) W' := by
  have hlt : ∀ x ∈ before, x.block < W.heap.size := fun x hx => hW.lt x hx
  have hW' := hW
  obtain ⟨p, q, hA, hV, rfl, _, _⟩ := hW
  rw [hv] at hV
  obtain ⟨_, rfl⟩ := trodVars_none hV
  refine ⟨ds, [], p ++ [], [] ++ [], p, [], hW', ?_, ?_, ?_, hbe.frame _, fun h => by cases h⟩
  · rw [hres, hf, hn]
    exact trodAll_mk1 (shut_bool hb true)
  · rw [hargs]
    exact trodAll_below hl hbe _ _ _ _ ht hA (fun x hx => hlt x (by simp [hx]))
  · rw [hvars, hv]; rfl

/-! ### what the bound gives -/
theorem bulk_one {H : Type} (d : DataW H) : 1 ≤ Rows.uptoBulk d := by
  cases d with
  | lit l => cases l <;> simp [Rows.uptoBulk]
  | nil => simp [Rows.uptoBulk]
  | ptr d => simp [Rows.uptoBulk]
  | slice elems spare => simp [Rows.uptoBulk]
  | agg parts => simp [Rows.uptoBulk]
  | iface t d => simp [Rows.uptoBulk]
  | map entries => simp [Rows.uptoBulk]
  | held h => simp [Rows.uptoBulk]
theorem bulk_bound {H : Type} {l : List (DataW H)} (hk : Rows.uptoSmall H l = true) : Rows.uptoBulkAll l ≤ 1048576 := of_decide_eq_true hk
theorem bulk_string {H : Type} (s : ByteArray) : Rows.uptoBulk (DataW.lit (H := H) (.string s.data.toList)) = s.size + 1 := by
  simp only [Rows.uptoBulk]
  rw [Array.length_toList]; rfl
theorem bulk_strs {H : Type} (l : List ByteArray) : Rows.uptoBulkAll (strs (H := H) l) = (l.map (·.size)).sum + l.length := by
  induction l with
  | nil => simp [strs, Rows.uptoBulkAll]
  | cons s l ih =>
    have h : Rows.uptoBulkAll (strs (H := H) (s :: l)) = Rows.uptoBulk (DataW.lit (H := H) (.string s.data.toList)) + Rows.uptoBulkAll (strs (H := H) l) := by simp [strs, Rows.uptoBulkAll]
    rw [h, ih, bulk_string, List.map_cons, List.sum_cons, List.length_cons]
    omega
end Go.Proofs.YtobapajmplfeiaaGreatDoor
end

section
namespace Go.Proofs.YtobapajmplfeiaaGreatDoor
open Go.RowKit

namespace Pl
def hexOf (c : UInt8) : Nat := if c.toNat < 58 then c.toNat - 48 else c.toNat - 87
def isHex (c : UInt8) : Bool := decide ((48 ≤ c.toNat ∧ c.toNat < 58) ∨ (97 ≤ c.toNat ∧ c.toNat < 103))
/-- what digits to the base sixteen say -/
def hval (l : List UInt8) : Nat := l.foldl (fun n c => n * 16 + hexOf c) 0
theorem hval_snoc (l : List UInt8) (c : UInt8) : hval (l ++ [c]) = hval l * 16 + hexOf c := by simp [hval]
theorem hval_take {l : List UInt8} {k : Nat} {c : UInt8} (h : l[k]? = some c) : hval (l.take (k + 1)) = hval (l.take k) * 16 + hexOf c := by
  rw [List.take_add_one, h, Option.toList_some, hval_snoc]
theorem hfoldl_le : ∀ (l : List UInt8) (n : Nat), n ≤ l.foldl (fun n c => n * 16 + hexOf c) n
  | [], n => Nat.le_refl n
  | c :: l, n => by
    rw [List.foldl_cons]
    refine Nat.le_trans ?_ (hfoldl_le l _)
    omega
theorem hval_mono (l : List UInt8) (k : Nat) : hval (l.take k) ≤ hval l := by
  have h : hval l = (l.drop k).foldl (fun n c => n * 16 + hexOf c) (hval (l.take k)) := by
    unfold hval
    rw [← List.foldl_append, List.take_append_drop]
  rw [h]
  exact hfoldl_le _ _
end Pl

theorem lowHex (x : Int) (hx : 97 ≤ x ∧ x < 103) (w : World) : Calls Tryz.prog 210 #[.int .u8 x] w fun e w' => e = .returned (.int .u8 x) ∧ w' = w := by
  have h : x = 97 ∨ x = 98 ∨ x = 99 ∨ x = 100 ∨ x = 101 ∨ x = 102 := by omega
  rcases h with rfl | rfl | rfl | rfl | rfl | rfl
  all_goals
    go_enter Tryz.func210, Tryz.ntmps210
    go_wp2
    go_returns
    exact ⟨rfl, rfl⟩

set_option maxRecDepth 100000 in
set_option maxHeartbeats 2000000 in
theorem puint16 (s : ByteArray) (w : World) (hs : s.size ≤ 140737488351232) (hpos : 0 < s.size) (hdig : ∀ c ∈ s.data.toList, Pl.isHex c = true) (hmax : Pl.hval s.data.toList ≤ 9223372036854775807) :
    Calls Tryz.prog 187 #[.string s, .int .i64 16, .int .i64 64] w fun e w' => e = .returned (.tuple #[.int .u64 (Pl.hval s.data.toList : Nat), .nilIface]) ∧ Below w.heap.size w w' := by
  have hconv := fun W => Lib.run_convert_string_bytes (P := Tryz.prog) W 9 27 5 s Tryz.underlying9 Tryz.underlying27 Tryz.underlying5
  have hne : s.toList.isEmpty = false := by
    rw [ByteArray.toList_eq, List.isEmpty_eq_false_iff]
    intro e
    have : s.data.toList.length = s.size := Array.length_toList
    rw [e, List.length_nil] at this
    omega
  have hD := Lib.hid hdig
  have hM := Lib.hid hmax
  clear hdig hmax
  obtain ⟨R, hR'⟩ : ∃ R : Int, (Pl.hval s.data.toList : Nat) = R := ⟨_, rfl⟩
  rw [hR']
  have hR := Lib.hid hR'
  clear hR'
  have hw1 : IntKind.u64.wrap 18446744073709551616 = 0 := by decide
  have hw2 : IntKind.u64.wrap (-1) = 18446744073709551615 := by decide
  go_enter Tryz.func187, Tryz.ntmps187
  go_wp2
  clear hconv hne hw1 hw2
  go_loop [12, 13, 101] (fun us n i => ∃ (k : Nat) (v : Int), k ≤ s.size ∧ 0 ≤ v ∧ v ≤ 9223372036854775807 ∧ Hid (v = (Pl.hval (s.data.toList.take k) : Nat)) ∧ us = .bool false ∧ n = .int .u64 v ∧ i = .int .i64 k) (fun _ _ i => s.size - (intOf i).toNat)
  case atStart => exact ⟨0, 0, by omega, by omega, by omega, Lib.hid (by simp [Pl.hval]), rfl, rfl, rfl⟩
  case round =>
    obtain ⟨k, v, hk, hv0, hv, hval, rfl, rfl, rfl⟩ := hrel
    by_cases hlt : k < s.size
    · have hlt' : k < s.data.toList.length := by simpa using hlt
      obtain ⟨c, hc⟩ : ∃ c, s.data.toList[k]? = some c := ⟨_, List.getElem?_eq_getElem hlt'⟩
      have hdc : Pl.isHex c = true := hD.out c (List.mem_of_getElem? hc)
      have hcr := of_decide_eq_true hdc
      have hmono := Pl.hval_mono s.data.toList (k + 1)
      have hmx := hM.out
      obtain ⟨d, hd⟩ : ∃ d : Int, (Pl.hexOf c : Int) = d := ⟨_, rfl⟩
      have hstep : v * 16 + d = (Pl.hval (s.data.toList.take (k + 1)) : Nat) := by
        rw [Pl.hval_take hc, Int.natCast_add, Int.natCast_mul, ← hval.out, hd]
        rfl
      have hle : v * 16 + d ≤ 9223372036854775807 := by omega
      by_cases h58 : c.toNat < 58
      · have hdd : d = (c.toNat : Int) - 48 := by rw [← hd]; unfold Pl.hexOf; rw [if_pos h58]; omega
        have hd0 : 0 ≤ d := by omega
        have hdb : d < 10 := by omega
        have hcell : (Lib.bytesWorld w 5 s).cell? ⟨w.heap.size, k, none⟩ = some (.int .u8 (d + 48)) := by
          rw [Lib.bytesWorld_cell w _ s k hlt, List.getD_eq_getElem?_getD, hc, Option.getD_some]
          congr 2
          omega
        have hu : (d + 48 == 95) = false := by rw [beq_eq_false_iff_ne]; omega
        have HS := Lib.hid hstep
        clear hc hdc hcr hd hlt' hstep hmono hmx hdd h58
        go_wp2
        go_round
        case rel => exact ⟨k + 1, v * 16 + d, by omega, by omega, by omega, HS, rfl, rfl, by go_num⟩
        case measure => simp [intOf]; omega
      · have hdd : d = (c.toNat : Int) - 87 := by rw [← hd]; unfold Pl.hexOf; rw [if_neg h58]; omega
        obtain ⟨x, hx⟩ : ∃ x : Int, d + 87 = x := ⟨_, rfl⟩
        have hx1 : 97 ≤ x := by omega
        have hx2 : x < 103 := by omega
        have hcell : (Lib.bytesWorld w 5 s).cell? ⟨w.heap.size, k, none⟩ = some (.int .u8 x) := by
          rw [Lib.bytesWorld_cell w _ s k hlt, List.getD_eq_getElem?_getD, hc, Option.getD_some]
          congr 2
          omega
        have hu : (x == 95) = false := by rw [beq_eq_false_iff_ne]; omega
        obtain rfl : d = x - 87 := by omega
        have HS := Lib.hid hstep
        have hlow := fun W => lowHex x ⟨hx1, hx2⟩ W
        clear hc hdc hcr hd hlt' hstep hmono hmx hdd h58 hx
        go_wp2_with (go_at_call 210; refine (hlow _).mono ?_; rintro e w1 ⟨rfl, rfl⟩)
        go_round
        case rel => exact ⟨k + 1, v * 16 + (x - 87), by omega, by omega, by omega, HS, rfl, by go_num, by go_num⟩
        case measure => simp [intOf]; omega
    · have hval2 : R = v := by
        have h2 : s.data.toList.take k = s.data.toList := List.take_of_length_le (by simp; omega)
        rw [hval.out, h2, hR.out]
      subst hval2
      go_wp2
      go_ret2
      exact ⟨rfl, below_bytesWorld w _ s⟩

set_option maxRecDepth 100000 in
set_option maxHeartbeats 2000000 in
theorem pub16_ok (s : ByteArray) (w : World) (hs : s.size ≤ 140737488351232) (hpos : 0 < s.size) (hdig : ∀ c ∈ s.data.toList, Pl.isHex c = true) (hmax : Pl.hval s.data.toList ≤ 9223372036854775807) :
    Calls Tryz.prog 122 #[.string s, .int .i64 16, .int .i64 64] w fun e w' => e = .returned (.tuple #[.int .i64 (Pl.hval s.data.toList : Nat), .nilIface]) ∧ Below w.heap.size w w' := by
  have hne : s.toList.isEmpty = false := by
    rw [ByteArray.toList_eq, List.isEmpty_eq_false_iff]
    intro e
    have : s.data.toList.length = s.size := Array.length_toList
    rw [e, List.length_nil] at this
    omega
  obtain ⟨c, hc⟩ : ∃ c, c = s[0]'hpos := ⟨_, rfl⟩
  have hcd : Pl.isHex c = true := hdig c (by rw [hc]; exact Array.getElem_mem_toList hpos)
  have hcr := of_decide_eq_true hcd
  have h43 : ((c.toNat : Int) == 43) = false := by rw [beq_eq_false_iff_ne]; omega
  have h45 : ((c.toNat : Int) == 45) = false := by rw [beq_eq_false_iff_ne]; omega
  have hcall := puint16 s w hs hpos hdig hmax
  obtain ⟨V, hV⟩ : ∃ V : Int, (Pl.hval s.data.toList : Nat) = V := ⟨_, rfl⟩
  have hV0 : 0 ≤ V := by omega
  have hV1 : V ≤ 9223372036854775807 := by omega
  rw [hV] at hcall
  rw [hc] at h43 h45
  have hin : Calls Tryz.prog 159 #[.string s, .int .i64 16, .int .i64 64] w fun e w' => e = .returned (.tuple #[.int .i64 V, .nilIface]) ∧ Below w.heap.size w w' := by
    clear hdig hmax hcd hcr hc hV
    go_enter Tryz.func159, Tryz.ntmps159
    go_wp2_with (go_at_call 187; refine hcall.mono ?_; rintro e w' ⟨rfl, hb⟩)
    go_ret2
    exact ⟨rfl, hb⟩
  rw [hV]
  clear hdig hmax hcd hcr hc hV hcall h43 h45
  go_enter Tryz.func122, Tryz.ntmps122
  go_wp2_with (go_at_call 159; refine hin.mono ?_; rintro e w' ⟨rfl, hb⟩)
  go_ret2
  exact ⟨rfl, hb⟩

namespace Pl
theorem sign_hex {d : Nat} (h : d < 16) : isHex (sign d) = true ∧ hexOf (sign d) = d := by
  have h1 : (List.range 16).all (fun k => isHex (sign k) && (hexOf (sign k) == k)) = true := by decide
  have h2 := List.all_eq_true.1 h1 d (List.mem_range.2 h)
  simpa using h2
theorem hval_digs : ∀ n, hval (digs 16 n) = n := by
  intro n
  induction n using Nat.strongRecOn with
  | _ n ih =>
    by_cases h : n < 16
    · rw [digs_small h]
      simp [hval, (sign_hex h).2]
    · rw [digs_step (by omega) (by omega), hval_snoc, ih (n / 16) (by omega), (sign_hex (Nat.mod_lt n (by omega))).2]
      omega
theorem isHex_digs : ∀ n, ∀ c ∈ digs 16 n, isHex c = true := by
  intro n
  induction n using Nat.strongRecOn with
  | _ n ih =>
    by_cases h : n < 16
    · rw [digs_small h]
      intro c hc
      rw [List.mem_singleton.1 hc]
      exact (sign_hex h).1
    · rw [digs_step (by omega) (by omega)]
      intro c hc
      rcases List.mem_append.1 hc with hc | hc
      · exact ih (n / 16) (by omega) c hc
      · rw [List.mem_singleton.1 hc]
        exact (sign_hex (Nat.mod_lt n (by omega))).1
theorem sign_dig {b d : Nat} (hb : b ≤ 10) (h : d < b) : isDig b (sign d) = true ∧ (sign d).toNat - 48 = d := by
  have h1 : (List.range 10).all (fun k => decide ((sign k).toNat = 48 + k)) = true := by decide
  have h2 := of_decide_eq_true (List.all_eq_true.1 h1 d (List.mem_range.2 (by omega)))
  refine ⟨decide_eq_true ?_, by omega⟩
  omega
theorem val_digsN {b : Nat} (h2 : 2 ≤ b) (h10 : b ≤ 10) : ∀ n, val b (digs b n) = n := by
  intro n
  induction n using Nat.strongRecOn with
  | _ n ih =>
    by_cases h : n < b
    · rw [digs_small h]
      simp [val, (sign_dig h10 h).2]
    · rw [digs_step h2 (by omega), val_snoc, ih (n / b) (Nat.div_lt_self (by omega) (by omega)), (sign_dig h10 (Nat.mod_lt n (by omega))).2]
      exact Nat.div_add_mod' n b
theorem isDig_digsN {b : Nat} (h2 : 2 ≤ b) (h10 : b ≤ 10) : ∀ n, ∀ c ∈ digs b n, isDig b c = true := by
  intro n
  induction n using Nat.strongRecOn with
  | _ n ih =>
    by_cases h : n < b
    · rw [digs_small h]
      intro c hc
      rw [List.mem_singleton.1 hc]
      exact (sign_dig h10 h).1
    · rw [digs_step h2 (by omega)]
      intro c hc
      rcases List.mem_append.1 hc with hc | hc
      · exact ih (n / b) (Nat.div_lt_self (by omega) (by omega)) c hc
      · rw [List.mem_singleton.1 hc]
        exact (sign_dig h10 (Nat.mod_lt n (by omega))).1
/-- no zero stands ahead of a number that is more than 0 -/
theorem digs_head {b : Nat} (h2 : 2 ≤ b) (h16 : b ≤ 16) : ∀ n, 0 < n → (digs b n).head? ≠ some 48 := by
  intro n
  induction n using Nat.strongRecOn with
  | _ n ih =>
    intro hn
    by_cases h : n < b
    · rw [digs_small h]
      have h1 : (List.range 16).all (fun k => k == 0 || sign k != 48) = true := by decide
      have h2 := List.all_eq_true.1 h1 n (List.mem_range.2 (by omega))
      intro e
      have e' : sign n = 48 := by simpa using e
      simp [e'] at h2
      omega
    · rw [digs_step h2 (by omega)]
      have := ih (n / b) (Nat.div_lt_self (by omega) (by omega)) (Nat.div_pos (by omega) (by omega))
      cases hd : digs b (n / b) with
      | nil =>
        rw [digs] at hd
        split at hd <;> simp at hd
      | cons a l => rw [hd] at this; simpa using this
end Pl

end Go.Proofs.YtobapajmplfeiaaGreatDoor
end

section
namespace Go.Proofs.YtobapajmplfeiaaGreatDoor
open Go.RowKit Go.Maps

theorem strB_tail2 (a b : UInt8) (s : List UInt8) (n : Nat) (hn : n = s.length + 1 + 1) : (strB (a :: b :: s)).extract 2 n = strB s := by
  subst hn
  rw [show strB (a :: b :: s) = ⟨(a :: b :: s).toArray⟩ from rfl, Lib.extract_mk]
  simp [strB]

set_option maxRecDepth 100000 in
set_option maxHeartbeats 2000000 in
theorem valueHex (d : UInt8) (D : List UInt8) (hD : ∀ c ∈ d :: D, Pl.isHex c = true) (hv : Pl.hval (d :: D) ≤ 9223372036854775807) (hl : D.length ≤ 1000000) (w : World) :
    Calls Tryz.prog 84 #[.string (strB (48 :: 120 :: d :: D))] w fun e w' => e = .returned (.tuple #[.int .i64 (Pl.hval (d :: D) : Nat), .bool true]) ∧ Below w.heap.size w w' := by
  have hp := fun W => pub16_ok (strB (d :: D)) W (by rw [strB_size]; simp; omega) (by rw [strB_size]; simp) (by rw [strB_data]; exact hD) (by rw [strB_data]; exact hv)
  rw [strB_data] at hp
  obtain ⟨V, hV⟩ : ∃ V : Nat, Pl.hval (d :: D) = V := ⟨_, rfl⟩
  rw [hV] at hp ⊢
  have hd := of_decide_eq_true (hD d (by simp))
  have hn : ∀ n : Nat, d.toNat ≠ n → ((d.toNat : Int) == n) = false := fun n hn => beq_eq_false_iff_ne.2 (by omega)
  have b45 : ((d.toNat : Int) == 45) = false := hn 45 (by omega)
  have b43 : ((d.toNat : Int) == 43) = false := hn 43 (by omega)
  have hne := strB_ne d D
  have hh := strB_head d D
  have hsz := strB_cons_size d D
  have hne2 := strB_ne 48 (120 :: d :: D)
  have hh2 := strB_head 48 (120 :: d :: D)
  have hsz2 : (strB (48 :: 120 :: d :: D)).size = D.length + 1 + 1 + 1 := by rw [strB_cons_size]; simp
  have htl := strB_tail2 48 120 (d :: D) (D.length + 1 + 1 + 1) (by simp)
  have hx := fun W => Tryz.strings_HasPrefix (strB (48 :: 120 :: d :: D)) ⟨#[48, 120]⟩ W
  rw [show Lib.hasPrefix (strB (48 :: 120 :: d :: D)).data.toList (⟨#[48, 120]⟩ : ByteArray).data.toList = true by
    show Lib.hasPrefix (48 :: 120 :: d :: D) [48, 120] = true
    simp [Lib.hasPrefix, List.isPrefixOf]] at hx
  have hnil : (⟨#[]⟩ : ByteArray) ++ strB (d :: D) = strB (d :: D) := strB_append [] (d :: D)
  obtain ⟨T, hT⟩ : ∃ S, strB (48 :: 120 :: d :: D) = S := ⟨_, rfl⟩
  obtain ⟨S, hS⟩ : ∃ S, strB (d :: D) = S := ⟨_, rfl⟩
  simp only [hS, hT] at hp hne hh hsz hnil hx hne2 hh2 hsz2 htl ⊢
  clear hD hv hV
  go_enter Tryz.func84, Tryz.ntmps84
  go_wp2_with (first
    | (go_at_call 118; refine (hx _).mono ?_; rintro e w1 ⟨rfl, rfl⟩)
    | (go_at_call 122; refine (hp _).mono ?_; rintro e w1 ⟨rfl, hb1⟩))
  go_quiet (fail)
  go_wp2_with (go_at_call 122; refine (hp _).mono ?_; rintro e w1 ⟨rfl, hb1⟩)
  go_returns
  exact ⟨rfl, (below_drewN (Below.refl _ _) _).trans hb1⟩

set_option maxRecDepth 100000 in
set_option maxHeartbeats 2000000 in
theorem valueOct (d : UInt8) (D : List UInt8) (hD : ∀ c ∈ d :: D, Pl.isDig 8 c = true) (hv : Pl.val 8 (d :: D) ≤ 9223372036854775807) (hl : D.length ≤ 1000000) (w : World) :
    Calls Tryz.prog 84 #[.string (strB (48 :: d :: D))] w fun e w' => e = .returned (.tuple #[.int .i64 (Pl.val 8 (d :: D) : Nat), .bool true]) ∧ Below w.heap.size w w' := by
  have hp := fun W => pub8_ok (strB (d :: D)) W (by rw [strB_size]; simp; omega) (by rw [strB_size]; simp) (by rw [strB_data]; exact hD) (by rw [strB_data]; exact hv)
  rw [strB_data] at hp
  obtain ⟨V, hV⟩ : ∃ V : Nat, Pl.val 8 (d :: D) = V := ⟨_, rfl⟩
  rw [hV] at hp ⊢
  have hd := of_decide_eq_true (hD d (by simp))
  have hn : ∀ n : Nat, d.toNat ≠ n → ((d.toNat : Int) == n) = false := fun n hn => beq_eq_false_iff_ne.2 (by omega)
  have b45 : ((d.toNat : Int) == 45) = false := hn 45 (by omega)
  have b43 : ((d.toNat : Int) == 43) = false := hn 43 (by omega)
  have hne := strB_ne d D
  have hh := strB_head d D
  have hsz := strB_cons_size d D
  have hne2 := strB_ne 48 (d :: D)
  have hh2 := strB_head 48 (d :: D)
  have hsz2 : (strB (48 :: d :: D)).size = D.length + 1 + 1 := by rw [strB_cons_size]; simp
  have htl := strB_tail 48 (d :: D) (D.length + 1 + 1) (by simp)
  have hpx : ∀ c2 : UInt8, c2 = 120 ∨ c2 = 88 → Lib.hasPrefix (strB (48 :: d :: D)).data.toList (⟨#[48, c2]⟩ : ByteArray).data.toList = false := by
    intro c2 hc2
    show Lib.hasPrefix (48 :: d :: D) [48, c2] = false
    have h48 : (c2 == d) = false := beq_eq_false_iff_ne.2 (fun e => by
      rw [← e] at hd
      rcases hc2 with rfl | rfl
      · exact absurd hd.2 (by decide)
      · exact absurd hd.2 (by decide))
    simp [Lib.hasPrefix, List.isPrefixOf, h48]
  have hx := fun W => Tryz.strings_HasPrefix (strB (48 :: d :: D)) ⟨#[48, 120]⟩ W
  have hX := fun W => Tryz.strings_HasPrefix (strB (48 :: d :: D)) ⟨#[48, 88]⟩ W
  rw [hpx 120 (.inl rfl)] at hx
  rw [hpx 88 (.inr rfl)] at hX
  have hnil : (⟨#[]⟩ : ByteArray) ++ strB (d :: D) = strB (d :: D) := strB_append [] (d :: D)
  obtain ⟨T, hT⟩ : ∃ S, strB (48 :: d :: D) = S := ⟨_, rfl⟩
  obtain ⟨S, hS⟩ : ∃ S, strB (d :: D) = S := ⟨_, rfl⟩
  obtain ⟨m, hm⟩ : ∃ m, D.length = m := ⟨_, rfl⟩
  simp only [hS, hT, hm] at hp hne hh hsz hnil hx hX hne2 hh2 hsz2 htl ⊢
  clear hD hv hV hpx
  by_cases h0 : m = 0
  · subst h0
    go_enter Tryz.func84, Tryz.ntmps84
    go_wp2_with fail
    go_quiet (fail)
    go_wp2_with (go_at_call 122; refine (hp _).mono ?_; rintro e w1 ⟨rfl, hb1⟩)
    go_returns
    exact ⟨rfl, (below_drewN (Below.refl _ _) _).trans hb1⟩
  · go_enter Tryz.func84, Tryz.ntmps84
    go_wp2_with (first
      | (go_at_call 118; refine (hx _).mono ?_; rintro e w1 ⟨rfl, rfl⟩)
      | (go_at_call 118; refine (hX _).mono ?_; rintro e w1 ⟨rfl, rfl⟩)
      | (go_at_call 118; refine (hX _).mono ?_; rintro e w1 ⟨rfl, rfl⟩))
    go_quiet (fail)
    go_wp2_with (go_at_call 122; refine (hp _).mono ?_; rintro e w1 ⟨rfl, hb1⟩)
    go_returns
    exact ⟨rfl, (below_drewN (Below.refl _ _) _).trans hb1⟩

end Go.Proofs.YtobapajmplfeiaaGreatDoor
end

section
namespace Go.Proofs.YtobapajmplfeiaaGreatDoor
open Go.RowKit Go.Maps

set_option maxRecDepth 100000 in
set_option maxHeartbeats 2000000 in
theorem told_i0f (pb : List UInt8) (mn ze : Bool) (wd : Nat) (hw : wd ≤ 1000) (w : World) :
    Calls Tryz.prog 86 #[.agg #[.string (strB pb), .int .u8 105, .bool mn, .bool false, .bool false, .bool ze, .bool false, .int .i64 (wd : Int), .int .i64 (-1)], .int .i64 0] w fun e w' => e = .returned (.string (strB ((Pl.Piece.mk pb 105 mn ze false wd).toldL 0))) ∧ Below w.heap.size w w' := by
  obtain ⟨g, hg⟩ : ∃ g, w.heap.size = g := ⟨_, rfl⟩
  obtain ⟨Z, hZ⟩ : ∃ Z, w.alloc (.cells #[.string (strB pb), .int .u8 105, .bool mn, .bool false, .bool false, .bool ze, .bool false, .int .i64 (wd : Int), .int .i64 (-1)] 169) = Z := ⟨_, rfl⟩
  have bZ : Below w.heap.size w Z := by rw [← hZ]; exact below_one w _
  have kZ : PieceAt g (Pl.Piece.mk pb 105 mn ze false wd) Z := PieceAt.of (t := 169) (by rw [← hZ, ← hg]; exact Blk.new w _ _)
  obtain ⟨hgZ, z0, z1, z2, z3, z4, z5, z6, z7, z8⟩ := kZ
  have hd : (Pl.Piece.mk pb 105 mn ze false wd).sharpL 0 = [48] := by
    have h0 : Pl.digs 10 0 = [48] := by rw [Pl.digs_small (by omega)]; rfl
    unfold Pl.Piece.sharpL
    rw [show Pl.baseOf (Pl.Piece.mk pb 105 mn ze false wd).letter = 10 from rfl]
    simp only [h0]
    rfl
  obtain ⟨S, hS⟩ : ∃ S : List UInt8, [48] = S := ⟨_, rfl⟩
  have hSl : S.length = 1 := by rw [← hS]; rfl
  have hrep1 := fun W => repeatOne 48 1 (by omega) W
  have hrep1' : ∀ W, Calls Tryz.prog 121 #[.string ⟨#[48]⟩, .int .i64 1] W fun e w' => e = .returned (.string (strB S)) ∧ Below W.heap.size W w' := by rw [← hS]; exact hrep1
  have hap : strB S ++ ⟨#[]⟩ = strB S := strB_append_nil S
  have hpx := fun W => Tryz.strings_HasPrefix (strB S) ⟨#[48]⟩ W
  have hpv : Lib.hasPrefix (strB S).data.toList [48] = true := by rw [← hS]; rfl
  have hmx1 : max (0 : Int) 1 = 1 := by decide
  have hSs : (strB S).size = S.length := strB_size S
  obtain ⟨k, hk⟩ : ∃ k, wd - S.length = k := ⟨_, rfl⟩
  have hrep2 := fun W => repeatOne 48 k (by omega) W
  have hmx2 : max (0 : Int) ((wd : Int) - 1) = (k : Int) := by omega
  have hk1 : k ≤ 1000 := by omega
  obtain ⟨R, hR⟩ : ∃ R, List.replicate k (48 : UInt8) = R := ⟨_, rfl⟩
  have hRs : (strB R).size = k := by rw [strB_size, ← hR]; simp
  have hRl : R.length = k := by rw [← hR]; simp
  rw [hR] at hrep2
  have hap2 := strB_append R S
  have hzl : (Pl.Piece.mk pb 105 mn ze false wd).zeroL S = if ze = true ∧ mn = false then R ++ S else S := by rw [← hR, ← hk]; rfl
  have hto : (Pl.Piece.mk pb 105 mn ze false wd).toldL 0 = (Pl.Piece.mk pb 105 mn ze false wd).wideL ((Pl.Piece.mk pb 105 mn ze false wd).zeroL S) := by unfold Pl.Piece.toldL; rw [hd, hS]
  have hn0 : (strB []).size = 0 := rfl
  have hn1 : (⟨#[]⟩ : ByteArray).size = 0 := rfl
  have hnil : ∀ T : List UInt8, (⟨#[]⟩ : ByteArray) ++ strB T = strB T := strB_nil_append
  have hRSs : (strB (R ++ S)).size = k + S.length := by rw [strB_size, List.length_append, hRl]
  have HTO := Lib.hid hto
  have HZL := Lib.hid hzl
  have HZB := Lib.hid bZ
  clear hto hzl bZ hR hk hd hrep1 hS
  cases mn <;> cases ze
  all_goals
    go_enter Tryz.func86, Tryz.ntmps86
    go_wp2_with (first
      | (go_at_call 121; have hq := hg2; have hq := hrep2 w2; with_reducible refine hq.mono ?_; rintro e w3 ⟨rfl, hb3⟩; obtain ⟨hg3, d0, d1, d2, d3, d4, d5, d6, d7, d8⟩ := (PieceAt.mk hg2 b0 b1 b2 b3 b4 b5 b6 b7 b8 : PieceAt g (Pl.Piece.mk pb 105 _ _ false wd) w2).below hb3)
      | (go_at_call 121; have hq := hrep1' Z; with_reducible refine hq.mono ?_; rintro e w2 ⟨rfl, hb2⟩; obtain ⟨hg2, b0, b1, b2, b3, b4, b5, b6, b7, b8⟩ := (PieceAt.mk hgZ z0 z1 z2 z3 z4 z5 z6 z7 z8 : PieceAt g (Pl.Piece.mk pb 105 _ _ false wd) Z).below hb2)
      | (go_at_call 82; refine (wideAgg pb _ 105 _ _ false wd _ hw (by first | omega | (rw [List.length_append]; omega))).mono ?_; rintro e w4 ⟨rfl, hb4⟩))
    go_returns
    refine ⟨by rw [HTO.out, HZL.out]; rfl, ?_⟩
    first
      | exact HZB.out.trans ((hb2.trans ((hb3.trans (hb4.mono hb3.size)).mono hb2.size)).mono HZB.out.size)
      | exact HZB.out.trans ((hb2.trans (hb4.mono hb2.size)).mono HZB.out.size)

end Go.Proofs.YtobapajmplfeiaaGreatDoor
end

section
namespace Go.Proofs.YtobapajmplfeiaaGreatDoor
open Go.RowKit Go.Maps

set_option maxRecDepth 100000 in
set_option maxHeartbeats 2000000 in
theorem told_i1f (pb : List UInt8) (mn ze : Bool) (wd : Nat) (hw : wd ≤ 1000) (n : Nat) (hn : 1 ≤ n) (hn2 : n ≤ 9223372036854775807) (w : World) (ht : Tabs w) :
    Calls Tryz.prog 86 #[.agg #[.string (strB pb), .int .u8 105, .bool mn, .bool false, .bool false, .bool ze, .bool false, .int .i64 (wd : Int), .int .i64 (-1)], .int .i64 n] w fun e w' => e = .returned (.string (strB ((Pl.Piece.mk pb 105 mn ze false wd).toldL n))) ∧ Below w.heap.size w w' := by
  obtain ⟨g, hg⟩ : ∃ g, w.heap.size = g := ⟨_, rfl⟩
  obtain ⟨Z, hZ⟩ : ∃ Z, w.alloc (.cells #[.string (strB pb), .int .u8 105, .bool mn, .bool false, .bool false, .bool ze, .bool false, .int .i64 (wd : Int), .int .i64 (-1)] 169) = Z := ⟨_, rfl⟩
  have bZ : Below w.heap.size w Z := by rw [← hZ]; exact below_one w _
  have kZ : PieceAt g (Pl.Piece.mk pb 105 mn ze false wd) Z := PieceAt.of (t := 169) (by rw [← hZ, ← hg]; exact Blk.new w _ _)
  obtain ⟨hgZ, z0, z1, z2, z3, z4, z5, z6, z7, z8⟩ := kZ
  obtain ⟨D, hD⟩ : ∃ D, Pl.digs 10 n = D := ⟨_, rfl⟩
  have hf : ∀ W, Tabs W → Calls Tryz.prog 124 #[.int .u64 (n : Int), .int .i64 10] W fun e w' => e = .returned (.string (strB D)) ∧ Below W.heap.size W w' := fun W hT => by rw [← hD]; exact fmtu10 n W (by omega) hT
  have hD1 := Pl.digs_pos 10 n
  have hD2 := Pl.digs_64 10 n (by omega) (by omega)
  rw [hD] at hD1 hD2
  obtain ⟨S, hd⟩ : ∃ S, (Pl.Piece.mk pb 105 mn ze false wd).sharpL n = S := ⟨_, rfl⟩
  have hrep1 := fun W => repeatOne 48 0 (by omega) W
  have hrep1' : ∀ W, Calls Tryz.prog 121 #[.string ⟨#[48]⟩, .int .i64 0] W fun e w' => e = .returned (.string (strB [])) ∧ Below W.heap.size W w' := hrep1
  have hap := strB_nil_append D
  have hDs : (strB D).size = D.length := strB_size D
  have hmx : max (0 : Int) (1 - (D.length : Int)) = 0 := by omega
  have hpx := fun W => Tryz.strings_HasPrefix (strB D) ⟨#[48]⟩ W
  have hpos : (n : Int) > 0 := by omega
  have hneg : decide ((n : Int) < 0) = false := decide_eq_false (by omega)
  have hS : S = D := by
    rw [← hd]
    unfold Pl.Piece.sharpL
    rw [show Pl.baseOf (Pl.Piece.mk pb 105 mn ze false wd).letter = 10 from rfl]
    simp only [hD]
    simp
  have hSl : S.length ≤ 65 := by rw [hS]; (omega)
  have hSs : (strB S).size = S.length := strB_size S
  obtain ⟨k, hk⟩ : ∃ k, wd - S.length = k := ⟨_, rfl⟩
  have hrep2 := fun W => repeatOne 48 k (by omega) W
  have hmx2 : max (0 : Int) ((wd : Int) - S.length) = (k : Int) := by omega
  have hk1 : k ≤ 1000 := by omega
  obtain ⟨R, hR⟩ : ∃ R, List.replicate k (48 : UInt8) = R := ⟨_, rfl⟩
  have hRs : (strB R).size = k := by rw [strB_size, ← hR]; simp
  have hRl : R.length = k := by rw [← hR]; simp
  rw [hR] at hrep2
  have hap2 := strB_append R S
  have hzl : (Pl.Piece.mk pb 105 mn ze false wd).zeroL S = if ze = true ∧ mn = false then R ++ S else S := by rw [← hR, ← hk]; rfl
  have hto : (Pl.Piece.mk pb 105 mn ze false wd).toldL n = (Pl.Piece.mk pb 105 mn ze false wd).wideL ((Pl.Piece.mk pb 105 mn ze false wd).zeroL S) := by unfold Pl.Piece.toldL; rw [hd]
  have hn0 : (strB []).size = 0 := rfl
  have hn1 : (⟨#[]⟩ : ByteArray).size = 0 := rfl
  have hnil : ∀ T : List UInt8, (⟨#[]⟩ : ByteArray) ++ strB T = strB T := strB_nil_append
  have hRSs : (strB (R ++ S)).size = k + S.length := by rw [strB_size, List.length_append, hRl]
  have HTO := Lib.hid hto
  have HZL := Lib.hid hzl
  have HZB := Lib.hid bZ
  have htZ := Tabs.below ht bZ
  clear hto hzl bZ hR hk hd hrep1
  subst hS
  cases mn <;> cases ze
  all_goals
    go_enter Tryz.func86, Tryz.ntmps86
    go_wp2_with (first
      | (go_at_call 124; refine (hf Z htZ).mono ?_; rintro e w1 ⟨rfl, hb1⟩; obtain ⟨hg1, a0, a1, a2, a3, a4, a5, a6, a7, a8⟩ := (PieceAt.mk hgZ z0 z1 z2 z3 z4 z5 z6 z7 z8 : PieceAt g (Pl.Piece.mk pb 105 _ _ false wd) Z).below hb1)
      | (go_at_call 121; have hq := hg2; have hq := hrep2 w2; with_reducible refine hq.mono ?_; rintro e w3 ⟨rfl, hb3⟩; obtain ⟨hg3, d0, d1, d2, d3, d4, d5, d6, d7, d8⟩ := (PieceAt.mk hg2 b0 b1 b2 b3 b4 b5 b6 b7 b8 : PieceAt g (Pl.Piece.mk pb 105 _ _ false wd) w2).below hb3)
      | (go_at_call 121; have hq := hrep1' w1; with_reducible refine hq.mono ?_; rintro e w2 ⟨rfl, hb2⟩; obtain ⟨hg2, b0, b1, b2, b3, b4, b5, b6, b7, b8⟩ := (PieceAt.mk hg1 a0 a1 a2 a3 a4 a5 a6 a7 a8 : PieceAt g (Pl.Piece.mk pb 105 _ _ false wd) w1).below hb2)
      | (go_at_call 82; refine (wideAgg pb _ 105 _ _ false wd _ hw (by first | omega | (rw [List.length_append]; omega))).mono ?_; rintro e w4 ⟨rfl, hb4⟩))
    go_returns
    refine ⟨by rw [HTO.out, HZL.out]; rfl, ?_⟩
    first
      | exact HZB.out.trans ((hb1.trans ((hb2.trans ((hb3.trans (hb4.mono hb3.size)).mono hb2.size)).mono hb1.size)).mono HZB.out.size)
      | exact HZB.out.trans ((hb1.trans ((hb2.trans (hb4.mono hb2.size)).mono hb1.size)).mono HZB.out.size)

end Go.Proofs.YtobapajmplfeiaaGreatDoor
end

section
namespace Go.Proofs.YtobapajmplfeiaaGreatDoor
open Go.RowKit Go.Maps

set_option maxRecDepth 100000 in
set_option maxHeartbeats 2000000 in
theorem told_o0t (pb : List UInt8) (mn ze : Bool) (wd : Nat) (hw : wd ≤ 1000) (w : World) :
    Calls Tryz.prog 86 #[.agg #[.string (strB pb), .int .u8 111, .bool mn, .bool false, .bool false, .bool ze, .bool true, .int .i64 (wd : Int), .int .i64 (-1)], .int .i64 0] w fun e w' => e = .returned (.string (strB ((Pl.Piece.mk pb 111 mn ze true wd).toldL 0))) ∧ Below w.heap.size w w' := by
  obtain ⟨g, hg⟩ : ∃ g, w.heap.size = g := ⟨_, rfl⟩
  obtain ⟨Z, hZ⟩ : ∃ Z, w.alloc (.cells #[.string (strB pb), .int .u8 111, .bool mn, .bool false, .bool false, .bool ze, .bool true, .int .i64 (wd : Int), .int .i64 (-1)] 169) = Z := ⟨_, rfl⟩
  have bZ : Below w.heap.size w Z := by rw [← hZ]; exact below_one w _
  have kZ : PieceAt g (Pl.Piece.mk pb 111 mn ze true wd) Z := PieceAt.of (t := 169) (by rw [← hZ, ← hg]; exact Blk.new w _ _)
  obtain ⟨hgZ, z0, z1, z2, z3, z4, z5, z6, z7, z8⟩ := kZ
  have hd : (Pl.Piece.mk pb 111 mn ze true wd).sharpL 0 = [48] := by
    have h0 : Pl.digs 8 0 = [48] := by rw [Pl.digs_small (by omega)]; rfl
    unfold Pl.Piece.sharpL
    rw [show Pl.baseOf (Pl.Piece.mk pb 111 mn ze true wd).letter = 8 from rfl]
    simp only [h0]
    rfl
  obtain ⟨S, hS⟩ : ∃ S : List UInt8, [48] = S := ⟨_, rfl⟩
  have hSl : S.length = 1 := by rw [← hS]; rfl
  have hrep1 := fun W => repeatOne 48 1 (by omega) W
  have hrep1' : ∀ W, Calls Tryz.prog 121 #[.string ⟨#[48]⟩, .int .i64 1] W fun e w' => e = .returned (.string (strB S)) ∧ Below W.heap.size W w' := by rw [← hS]; exact hrep1
  have hap : strB S ++ ⟨#[]⟩ = strB S := strB_append_nil S
  have hpx := fun W => Tryz.strings_HasPrefix (strB S) ⟨#[48]⟩ W
  have hpv : Lib.hasPrefix (strB S).data.toList [48] = true := by rw [← hS]; rfl
  have hmx1 : max (0 : Int) 1 = 1 := by decide
  have hSs : (strB S).size = S.length := strB_size S
  obtain ⟨k, hk⟩ : ∃ k, wd - S.length = k := ⟨_, rfl⟩
  have hrep2 := fun W => repeatOne 48 k (by omega) W
  have hmx2 : max (0 : Int) ((wd : Int) - 1) = (k : Int) := by omega
  have hk1 : k ≤ 1000 := by omega
  obtain ⟨R, hR⟩ : ∃ R, List.replicate k (48 : UInt8) = R := ⟨_, rfl⟩
  have hRs : (strB R).size = k := by rw [strB_size, ← hR]; simp
  have hRl : R.length = k := by rw [← hR]; simp
  rw [hR] at hrep2
  have hap2 := strB_append R S
  have hzl : (Pl.Piece.mk pb 111 mn ze true wd).zeroL S = if ze = true ∧ mn = false then R ++ S else S := by rw [← hR, ← hk]; rfl
  have hto : (Pl.Piece.mk pb 111 mn ze true wd).toldL 0 = (Pl.Piece.mk pb 111 mn ze true wd).wideL ((Pl.Piece.mk pb 111 mn ze true wd).zeroL S) := by unfold Pl.Piece.toldL; rw [hd, hS]
  have hn0 : (strB []).size = 0 := rfl
  have hn1 : (⟨#[]⟩ : ByteArray).size = 0 := rfl
  have hnil : ∀ T : List UInt8, (⟨#[]⟩ : ByteArray) ++ strB T = strB T := strB_nil_append
  have hRSs : (strB (R ++ S)).size = k + S.length := by rw [strB_size, List.length_append, hRl]
  have HTO := Lib.hid hto
  have HZL := Lib.hid hzl
  have HZB := Lib.hid bZ
  clear hto hzl bZ hR hk hd hrep1 hS
  cases mn <;> cases ze
  all_goals
    go_enter Tryz.func86, Tryz.ntmps86
    go_wp2_with (first
      | (go_at_call 121; have hq := hg2; have hq := hrep2 w2; with_reducible refine hq.mono ?_; rintro e w3 ⟨rfl, hb3⟩; obtain ⟨hg3, d0, d1, d2, d3, d4, d5, d6, d7, d8⟩ := (PieceAt.mk hg2 b0 b1 b2 b3 b4 b5 b6 b7 b8 : PieceAt g (Pl.Piece.mk pb 111 _ _ true wd) w2).below hb3)
      | (go_at_call 121; have hq := hrep1' Z; with_reducible refine hq.mono ?_; rintro e w2 ⟨rfl, hb2⟩; obtain ⟨hg2, b0, b1, b2, b3, b4, b5, b6, b7, b8⟩ := (PieceAt.mk hgZ z0 z1 z2 z3 z4 z5 z6 z7 z8 : PieceAt g (Pl.Piece.mk pb 111 _ _ true wd) Z).below hb2)
      | (go_at_call 118; refine (hpx w2).mono ?_; rintro e w9 ⟨rfl, hw9⟩; obtain rfl := hw9.symm)
      | (go_at_call 82; refine (wideAgg pb _ 111 _ _ true wd _ hw (by first | omega | (rw [List.length_append]; omega))).mono ?_; rintro e w4 ⟨rfl, hb4⟩))
    go_returns
    refine ⟨by rw [HTO.out, HZL.out]; rfl, ?_⟩
    first
      | exact HZB.out.trans ((hb2.trans ((hb3.trans (hb4.mono hb3.size)).mono hb2.size)).mono HZB.out.size)
      | exact HZB.out.trans ((hb2.trans (hb4.mono hb2.size)).mono HZB.out.size)

end Go.Proofs.YtobapajmplfeiaaGreatDoor
end

section
namespace Go.Proofs.YtobapajmplfeiaaGreatDoor
open Go.RowKit Go.Maps

set_option maxRecDepth 100000 in
set_option maxHeartbeats 2000000 in
theorem told_o1t (pb : List UInt8) (mn ze : Bool) (wd : Nat) (hw : wd ≤ 1000) (n : Nat) (hn : 1 ≤ n) (hn2 : n ≤ 9223372036854775807) (w : World) (ht : Tabs w) :
    Calls Tryz.prog 86 #[.agg #[.string (strB pb), .int .u8 111, .bool mn, .bool false, .bool false, .bool ze, .bool true, .int .i64 (wd : Int), .int .i64 (-1)], .int .i64 n] w fun e w' => e = .returned (.string (strB ((Pl.Piece.mk pb 111 mn ze true wd).toldL n))) ∧ Below w.heap.size w w' := by
  obtain ⟨g, hg⟩ : ∃ g, w.heap.size = g := ⟨_, rfl⟩
  obtain ⟨Z, hZ⟩ : ∃ Z, w.alloc (.cells #[.string (strB pb), .int .u8 111, .bool mn, .bool false, .bool false, .bool ze, .bool true, .int .i64 (wd : Int), .int .i64 (-1)] 169) = Z := ⟨_, rfl⟩
  have bZ : Below w.heap.size w Z := by rw [← hZ]; exact below_one w _
  have kZ : PieceAt g (Pl.Piece.mk pb 111 mn ze true wd) Z := PieceAt.of (t := 169) (by rw [← hZ, ← hg]; exact Blk.new w _ _)
  obtain ⟨hgZ, z0, z1, z2, z3, z4, z5, z6, z7, z8⟩ := kZ
  obtain ⟨D, hD⟩ : ∃ D, Pl.digs 8 n = D := ⟨_, rfl⟩
  have hf : ∀ W, Tabs W → Calls Tryz.prog 124 #[.int .u64 (n : Int), .int .i64 8] W fun e w' => e = .returned (.string (strB D)) ∧ Below W.heap.size W w' := fun W hT => by rw [← hD]; exact fmtu8 n W (by omega) hT
  have hD1 := Pl.digs_pos 8 n
  have hD2 := Pl.digs_64 8 n (by omega) (by omega)
  rw [hD] at hD1 hD2
  obtain ⟨S, hd⟩ : ∃ S, (Pl.Piece.mk pb 111 mn ze true wd).sharpL n = S := ⟨_, rfl⟩
  have hrep1 := fun W => repeatOne 48 0 (by omega) W
  have hrep1' : ∀ W, Calls Tryz.prog 121 #[.string ⟨#[48]⟩, .int .i64 0] W fun e w' => e = .returned (.string (strB [])) ∧ Below W.heap.size W w' := hrep1
  have hap := strB_nil_append D
  have hDs : (strB D).size = D.length := strB_size D
  have hmx : max (0 : Int) (1 - (D.length : Int)) = 0 := by omega
  have hpx := fun W => Tryz.strings_HasPrefix (strB D) ⟨#[48]⟩ W
  have hpos : (n : Int) > 0 := by omega
  have hneg : decide ((n : Int) < 0) = false := decide_eq_false (by omega)
  obtain ⟨px, hpv⟩ : ∃ px, Lib.hasPrefix (strB D).data.toList [48] = px := ⟨_, rfl⟩
  have hS : S = if px = false then 48 :: D else D := by
    rw [← hd]
    unfold Pl.Piece.sharpL
    rw [strB_data] at hpv
    rw [show Pl.baseOf (Pl.Piece.mk pb 111 mn ze true wd).letter = 8 from rfl]
    simp only [hD, hpv]
    simp
  have hpx2 : ∀ W, Calls Tryz.prog 118 #[.string (strB D), .string ⟨#[48]⟩] W fun e w' => e = .returned (.bool px) ∧ w' = W := by rw [← hpv]; exact hpx
  have hcons : ⟨#[48]⟩ ++ strB D = strB (48 :: D) := strB_append [48] D
  clear hpx hpv
  have hSl : S.length ≤ 65 := by rw [hS]; (split <;> (try simp) <;> omega)
  have hSs : (strB S).size = S.length := strB_size S
  obtain ⟨k, hk⟩ : ∃ k, wd - S.length = k := ⟨_, rfl⟩
  have hrep2 := fun W => repeatOne 48 k (by omega) W
  have hmx2 : max (0 : Int) ((wd : Int) - S.length) = (k : Int) := by omega
  have hk1 : k ≤ 1000 := by omega
  obtain ⟨R, hR⟩ : ∃ R, List.replicate k (48 : UInt8) = R := ⟨_, rfl⟩
  have hRs : (strB R).size = k := by rw [strB_size, ← hR]; simp
  have hRl : R.length = k := by rw [← hR]; simp
  rw [hR] at hrep2
  have hap2 := strB_append R S
  have hzl : (Pl.Piece.mk pb 111 mn ze true wd).zeroL S = if ze = true ∧ mn = false then R ++ S else S := by rw [← hR, ← hk]; rfl
  have hto : (Pl.Piece.mk pb 111 mn ze true wd).toldL n = (Pl.Piece.mk pb 111 mn ze true wd).wideL ((Pl.Piece.mk pb 111 mn ze true wd).zeroL S) := by unfold Pl.Piece.toldL; rw [hd]
  have hn0 : (strB []).size = 0 := rfl
  have hn1 : (⟨#[]⟩ : ByteArray).size = 0 := rfl
  have hnil : ∀ T : List UInt8, (⟨#[]⟩ : ByteArray) ++ strB T = strB T := strB_nil_append
  have hRSs : (strB (R ++ S)).size = k + S.length := by rw [strB_size, List.length_append, hRl]
  have HTO := Lib.hid hto
  have HZL := Lib.hid hzl
  have HZB := Lib.hid bZ
  have htZ := Tabs.below ht bZ
  clear hto hzl bZ hR hk hd hrep1
  cases mn <;> cases ze
  all_goals
    cases px
    all_goals
      simp only [reduceCtorEq, if_true, if_false] at hS
      first
        | (have hcons2 : ⟨#[48]⟩ ++ strB D = strB S := by rw [hS]; exact hcons
           clear hcons hS)
        | (clear hcons; subst hS)
      go_enter Tryz.func86, Tryz.ntmps86
      go_wp2_with (first
        | (go_at_call 124; refine (hf Z htZ).mono ?_; rintro e w1 ⟨rfl, hb1⟩; obtain ⟨hg1, a0, a1, a2, a3, a4, a5, a6, a7, a8⟩ := (PieceAt.mk hgZ z0 z1 z2 z3 z4 z5 z6 z7 z8 : PieceAt g (Pl.Piece.mk pb 111 _ _ true wd) Z).below hb1)
        | (go_at_call 121; have hq := hg2; have hq := hrep2 w2; with_reducible refine hq.mono ?_; rintro e w3 ⟨rfl, hb3⟩; obtain ⟨hg3, d0, d1, d2, d3, d4, d5, d6, d7, d8⟩ := (PieceAt.mk hg2 b0 b1 b2 b3 b4 b5 b6 b7 b8 : PieceAt g (Pl.Piece.mk pb 111 _ _ true wd) w2).below hb3)
        | (go_at_call 121; have hq := hrep1' w1; with_reducible refine hq.mono ?_; rintro e w2 ⟨rfl, hb2⟩; obtain ⟨hg2, b0, b1, b2, b3, b4, b5, b6, b7, b8⟩ := (PieceAt.mk hg1 a0 a1 a2 a3 a4 a5 a6 a7 a8 : PieceAt g (Pl.Piece.mk pb 111 _ _ true wd) w1).below hb2)
        | (go_at_call 118; refine (hpx2 w2).mono ?_; rintro e w9 ⟨rfl, hw9⟩; obtain rfl := hw9.symm)
        | (go_at_call 82; refine (wideAgg pb _ 111 _ _ true wd _ hw (by first | omega | (rw [List.length_append]; omega))).mono ?_; rintro e w4 ⟨rfl, hb4⟩))
      go_returns
      refine ⟨by rw [HTO.out, HZL.out]; rfl, ?_⟩
      first
        | exact HZB.out.trans ((hb1.trans ((hb2.trans ((hb3.trans (hb4.mono hb3.size)).mono hb2.size)).mono hb1.size)).mono HZB.out.size)
        | exact HZB.out.trans ((hb1.trans ((hb2.trans (hb4.mono hb2.size)).mono hb1.size)).mono HZB.out.size)

end Go.Proofs.YtobapajmplfeiaaGreatDoor
end

section
namespace Go.Proofs.YtobapajmplfeiaaGreatDoor
open Go.RowKit Go.Maps

namespace Pl
def numV (v : Nat) (_ : List UInt8) : Nat × Bool := (v, true)
def isA (a x : List UInt8) : Bool := x == a
theorem endsOne (p : Piece) (a : List UInt8) (v : Nat) (h0 : p.letter ≠ 0) (h1 : p.letter ≠ 115) : Ends (numV v) (isA a) [p] ⟨[a], [], [], false⟩ ⟨[], p.toldL v, [], true⟩ := by
  have e : pass (numV v) [p] ⟨[a], [], [], false⟩ = ⟨[], p.toldL v, [], true⟩ := by simp [pass, step, h0, h1, numV]
  have h : Ends (numV v) (isA a) [p] ⟨[a], [], [], false⟩ (pass (numV v) [p] ⟨[a], [], [], false⟩) := by
    refine .last _ ?_ ?_
    · simp [good, St.arg, isA]
    · rw [e]; rfl
  rwa [e] at h
def ps3 (w : List UInt8) : List Piece := [convP [] w 100, bytesP 44, convP [45] w 100, bytesP 44, convP [48] w 100]
def fmt3 (w : List UInt8) : List UInt8 := 37 :: (w ++ (100 :: 44 :: 37 :: 45 :: (w ++ (100 :: 44 :: 37 :: 48 :: (w ++ [100])))))
theorem fmt3_is (w : List UInt8) (hd : ∀ x ∈ w, isDig 10 x = true) (h0 : w.head? ≠ some 48) (hw : val 10 w ≤ 1000) : Fmt (fmt3 w) (ps3 w) :=
  .conv [] w 100 _ _ ⟨by simp, hd, h0, hw, by decide⟩ (.byte 44 _ _ (by decide) (by decide) (.conv [45] w 100 _ _ ⟨by decide, hd, h0, hw, by decide⟩ (.byte 44 _ _ (by decide) (by decide) (.conv [48] w 100 [] [] ⟨by decide, hd, h0, hw, by decide⟩ .nil))))
theorem ps3_eq (w : List UInt8) : ps3 w = [⟨[], 100, false, false, false, val 10 w⟩, ⟨[44], 0, false, false, false, 0⟩, ⟨[], 100, true, false, false, val 10 w⟩, ⟨[44], 0, false, false, false, 0⟩, ⟨[], 100, false, true, false, val 10 w⟩] := rfl
theorem told_right (v W : Nat) : (Piece.mk [] 100 false false false W).toldL v = List.replicate (W - (digs 10 v).length) 32 ++ digs 10 v := by
  simp [Piece.toldL, Piece.zeroL, Piece.sharpL, Piece.wideL, baseOf]
theorem told_left (v W : Nat) : (Piece.mk [] 100 true false false W).toldL v = digs 10 v ++ List.replicate (W - (digs 10 v).length) 32 := by
  simp [Piece.toldL, Piece.zeroL, Piece.sharpL, Piece.wideL, baseOf]
theorem told_zero (v W : Nat) : (Piece.mk [] 100 false true false W).toldL v = List.replicate (W - (digs 10 v).length) 48 ++ digs 10 v := by
  simp only [Piece.toldL, Piece.zeroL, Piece.sharpL, Piece.wideL, baseOf]
  have h : W - (W - (digs 10 v).length + (digs 10 v).length) = 0 := by omega
  simp [h]
def out3 (v W : Nat) : List UInt8 := (List.replicate (W - (digs 10 v).length) 32 ++ digs 10 v) ++ 44 :: ((digs 10 v ++ List.replicate (W - (digs 10 v).length) 32) ++ 44 :: (List.replicate (W - (digs 10 v).length) 48 ++ digs 10 v))
theorem endsThree (w a : List UInt8) (v : Nat) : Ends (numV v) (isA a) (ps3 w) ⟨[a, a, a], [], [], false⟩ ⟨[], out3 v (val 10 w), [], true⟩ := by
  have e : pass (numV v) (ps3 w) ⟨[a, a, a], [], [], false⟩ = ⟨[], out3 v (val 10 w), [], true⟩ := by
    simp [pass, ps3_eq, step, numV, told_right, told_left, told_zero, out3]
  have h : Ends (numV v) (isA a) (ps3 w) ⟨[a, a, a], [], [], false⟩ (pass (numV v) (ps3 w) ⟨[a, a, a], [], [], false⟩) := by
    refine .last _ ?_ ?_
    · simp [good, ps3_eq, step, St.arg, isA, numV]
    · rw [e]; rfl
  rwa [e] at h
theorem digs_ne0 (b n : Nat) : digs b n ≠ [] := by
  intro e
  have := digs_pos b n
  rw [e] at this
  simp at this
theorem out3_len (v W : Nat) (hv : v < 18446744073709551616) (hW : W ≤ 1000) : (out3 v W).length ≤ 4000 := by
  have := digs_64 10 v (by omega) hv
  simp [out3]
  omega
theorem out3_ne (v W : Nat) : out3 v W ≠ [] := by simp [out3]
end Pl

theorem doesV (w0 : World) (a : List UInt8) (v : Nat) (ps : List Pl.Piece) (hval : ∀ W, Below w0.heap.size w0 W → Calls Tryz.prog 84 #[.string (strB a)] W fun e w' => e = .returned (.tuple #[.int .i64 v, .bool true]) ∧ Below W.heap.size W w')
    (htold : ∀ p ∈ ps, p.letter ≠ 0 → p.letter ≠ 115 → ∀ W, Below w0.heap.size w0 W → Calls Tryz.prog 86 #[.agg (pieceC p), .int .i64 v] W fun e w' => e = .returned (.string (strB (p.toldL v))) ∧ Below W.heap.size W w')
    (hw : ∀ p ∈ ps, p.width ≤ 1000) (hb : ∀ p ∈ ps, p.letter ≠ 0 → p.b = [] ∧ Pl.isLet p.letter = true) : Does51 w0 (Pl.numV v) (Pl.isA a) ps where
  value := by
    intro x hx W hW
    obtain rfl : x = a := by simpa [Pl.isA] using hx
    exact hval W hW
  zero := by intro x hx; cases hx
  told := fun p hp h0 h1 _ _ W hW => htold p hp h0 h1 W hW
  wide := hw
  b := hb

theorem runOne (w : World) (hT : Tabs w) (fmt : List UInt8) (p : Pl.Piece) (hF : Pl.Fmt fmt [p]) (hdd : fmt ≠ [45, 45]) (hfl : fmt.length ≤ 2000) (a : List UInt8) (hal : a.length ≤ 1000) (v : Nat) (h0 : p.letter ≠ 0) (h1 : p.letter ≠ 115) (hw : p.width ≤ 1000) (hb : p.b = [] ∧ Pl.isLet p.letter = true)
    (hval : ∀ W, Tabs W → Calls Tryz.prog 84 #[.string (strB a)] W fun e w' => e = .returned (.tuple #[.int .i64 v, .bool true]) ∧ Below W.heap.size W w')
    (htold : ∀ W, Tabs W → Calls Tryz.prog 86 #[.agg (pieceC p), .int .i64 v] W fun e w' => e = .returned (.string (strB (p.toldL v))) ∧ Below W.heap.size W w')
    (out : List UInt8) (ho : p.toldL v = out) (hne : out ≠ []) (hol : out.length ≤ 4000) : RunIs [tagPrintf, strB fmt, strB a] 3 out [] 0 w := by
  intro A c hr
  refine lawRun w A c 3 [tagPrintf, strB fmt, strB a] hr rfl (by omega) (by omega) _ _ 0 (by omega) (by simp) (fun V hV => ?_)
  have hTV : Tabs V := hT.below hV
  have hE := Pl.endsOne p a v h0 h1
  rw [ho] at hE
  have hm := mainPrintf V hTV tagPrintf (by decide) fmt hdd (by omega) [a] [p] hF (by simp) (Pl.numV v) (Pl.isA a)
    (doesV V a v [p] (fun W hW => hval W (hTV.below hW)) (fun q hq _ _ W hW => by rw [List.mem_singleton.1 hq]; exact htold W (hTV.below hW)) (fun q hq => by rw [List.mem_singleton.1 hq]; exact hw) (fun q hq _ => by rw [List.mem_singleton.1 hq]; exact hb))
    _ hE hne (by simp only []; omega) (by simp [errs]) (by simp) (by simp) (fun x hx => by rw [List.mem_singleton.1 hx]; omega)
  exact startPrintf' V _ [] 3 9 9 (by simp) _ _ _ hm

theorem runThree (w : World) (hT : Tabs w) (wd a : List UInt8) (hd : ∀ x ∈ wd, Pl.isDig 10 x = true) (hd0 : wd.head? ≠ some 48) (hwv : Pl.val 10 wd ≤ 1000) (hwl : wd.length ≤ 100) (hal : a.length ≤ 1000) (v : Nat) (hv : v ≤ 9223372036854775807)
    (hval : ∀ W, Tabs W → Calls Tryz.prog 84 #[.string (strB a)] W fun e w' => e = .returned (.tuple #[.int .i64 v, .bool true]) ∧ Below W.heap.size W w')
    : RunIs [tagPrintf, strB (Pl.fmt3 wd), strB a, strB a, strB a] 5 (Pl.out3 v (Pl.val 10 wd)) [] 0 w := by
  intro A c hr
  have hol := Pl.out3_len v (Pl.val 10 wd) (by omega) hwv
  refine lawRun w A c 5 [tagPrintf, strB (Pl.fmt3 wd), strB a, strB a, strB a] hr rfl (by omega) (by omega) _ _ 0 (by omega) (by simp) (fun V hV => ?_)
  have hTV : Tabs V := hT.below hV
  have hD : Does51 V (Pl.numV v) (Pl.isA a) (Pl.ps3 wd) := by
    refine doesV V a v _ (fun W hW => hval W (hTV.below hW)) (fun q hq h0 h1 W hW => ?_) (fun q hq => ?_) (fun q hq h0 => ?_)
    · rw [Pl.ps3_eq] at hq
      have hTW : Tabs W := hTV.below hW
      simp only [List.mem_cons, List.not_mem_nil, or_false] at hq
      have tl : ∀ mn ze, Calls Tryz.prog 86 #[.agg (pieceC ⟨[], 100, mn, ze, false, Pl.val 10 wd⟩), .int .i64 v] W fun e w' => e = .returned (.string (strB ((Pl.Piece.mk [] 100 mn ze false (Pl.val 10 wd)).toldL v))) ∧ Below W.heap.size W w' := by
        intro mn ze
        by_cases hv0 : v = 0
        · subst hv0
          exact told_d0f [] mn ze _ hwv W
        · exact told_d1f [] mn ze _ hwv v (by omega) hv W hTW
      rcases hq with rfl | rfl | rfl | rfl | rfl
      · exact tl false false
      · exact absurd rfl h0
      · exact tl true false
      · exact absurd rfl h0
      · exact tl false true
    · rw [Pl.ps3_eq] at hq
      simp only [List.mem_cons, List.not_mem_nil, or_false] at hq
      rcases hq with rfl | rfl | rfl | rfl | rfl
      · exact hwv
      · exact Nat.zero_le _
      · exact hwv
      · exact Nat.zero_le _
      · exact hwv
    · rw [Pl.ps3_eq] at hq
      simp only [List.mem_cons, List.not_mem_nil, or_false] at hq
      rcases hq with rfl | rfl | rfl | rfl | rfl
      · exact ⟨rfl, rfl⟩
      · exact absurd rfl h0
      · exact ⟨rfl, rfl⟩
      · exact absurd rfl h0
      · exact ⟨rfl, rfl⟩
  have hm := mainPrintf V hTV tagPrintf (by decide) (Pl.fmt3 wd) (by intro e; simp [Pl.fmt3] at e) (by simp [Pl.fmt3]; omega) [a, a, a] (Pl.ps3 wd) (Pl.fmt3_is wd hd hd0 hwv) (by simp [Pl.ps3]) (Pl.numV v) (Pl.isA a) hD
    _ (Pl.endsThree wd a v) (Pl.out3_ne _ _) (by simp only []; omega) (by simp [errs]) (by simp) (by simp) (fun x hx => by simp at hx; subst hx; omega)
  exact startPrintf' V _ [] 3 9 9 (by simp) _ _ _ hm

/-- the four runs of one number -/
theorem runHexOf (w : World) (hT : Tabs w) (n : Nat) (hn : n ≤ 9223372036854775807) (hval : ∀ W, Tabs W → Calls Tryz.prog 84 #[.string (strB (Pl.digs 10 n))] W fun e w' => e = .returned (.tuple #[.int .i64 n, .bool true]) ∧ Below W.heap.size W w') : RunIs [tagPrintf, strB [37, 120], strB (Pl.digs 10 n)] 3 (Pl.digs 16 n) [] 0 w := by
  have h1 := Pl.digs_64 10 n (by omega) (by omega)
  have h2 := Pl.digs_64 16 n (by omega) (by omega)
  refine runOne w hT [37, 120] ⟨[], 120, false, false, false, 0⟩ (.conv [] [] 120 [] [] ⟨by simp, by simp, by simp, by decide, by decide⟩ .nil) (by simp) (by simp) _ (by omega) n (by decide) (by decide) (by simp) ⟨rfl, rfl⟩ hval (fun W hW => ?_) _ ?_ (Pl.digs_ne0 _ _) (by omega)
  · by_cases h0 : n = 0
    · subst h0
      exact told_x0f [] false false 0 (by omega) W
    · exact told_x1f [] false false 0 (by omega) n (by omega) hn W hW
  · simp [Pl.Piece.toldL, Pl.Piece.zeroL, Pl.Piece.sharpL, Pl.Piece.wideL, Pl.baseOf]
/-- what %#o tells -/
def octL (n : Nat) : List UInt8 := if n = 0 then [48] else 48 :: Pl.digs 8 n
theorem runOctOf (w : World) (hT : Tabs w) (n : Nat) (hn : n ≤ 9223372036854775807) (hval : ∀ W, Tabs W → Calls Tryz.prog 84 #[.string (strB (Pl.digs 10 n))] W fun e w' => e = .returned (.tuple #[.int .i64 n, .bool true]) ∧ Below W.heap.size W w') : RunIs [tagPrintf, strB [37, 35, 111], strB (Pl.digs 10 n)] 3 (octL n) [] 0 w := by
  have h1 := Pl.digs_64 10 n (by omega) (by omega)
  have h2 := Pl.digs_64 8 n (by omega) (by omega)
  refine runOne w hT [37, 35, 111] ⟨[], 111, false, false, true, 0⟩ (.conv [35] [] 111 [] [] ⟨by decide, by simp, by simp, by decide, by decide⟩ .nil) (by simp) (by simp) _ (by omega) n (by decide) (by decide) (by simp) ⟨rfl, rfl⟩ hval (fun W hW => ?_) _ ?_ ?_ ?_
  · by_cases h0 : n = 0
    · subst h0
      exact told_o0t [] false false 0 (by omega) W
    · exact told_o1t [] false false 0 (by omega) n (by omega) hn W hW
  · unfold octL
    by_cases h0 : n = 0
    · subst h0
      have : Pl.digs 8 0 = [48] := by rw [Pl.digs_small (by decide)]; rfl
      simp [Pl.Piece.toldL, Pl.Piece.zeroL, Pl.Piece.sharpL, Pl.Piece.wideL, Pl.baseOf, this, Lib.hasPrefix]
    · have hh := Pl.digs_head (b := 8) (by omega) (by omega) n (by omega)
      have : Lib.hasPrefix (Pl.digs 8 n) [48] = false := by
        cases hd : Pl.digs 8 n with
        | nil => rfl
        | cons a l =>
          rw [hd] at hh
          have : (48 == a) = false := beq_eq_false_iff_ne.2 (fun e => hh (by rw [e]; rfl))
          simp [Lib.hasPrefix, List.isPrefixOf, this]
      simp [Pl.Piece.toldL, Pl.Piece.zeroL, Pl.Piece.sharpL, Pl.Piece.wideL, Pl.baseOf, this, h0]
  · unfold octL; split <;> simp
  · unfold octL; split
    · simp
    · simp; omega
theorem runDecOf (w : World) (hT : Tabs w) (a : List UInt8) (hal : a.length ≤ 1000) (n : Nat) (hn : n ≤ 9223372036854775807) (hval : ∀ W, Tabs W → Calls Tryz.prog 84 #[.string (strB a)] W fun e w' => e = .returned (.tuple #[.int .i64 n, .bool true]) ∧ Below W.heap.size W w') : RunIs [tagPrintf, strB [37, 100], strB a] 3 (Pl.digs 10 n) [] 0 w := by
  have h2 := Pl.digs_64 10 n (by omega) (by omega)
  refine runOne w hT [37, 100] ⟨[], 100, false, false, false, 0⟩ (.conv [] [] 100 [] [] ⟨by simp, by simp, by simp, by decide, by decide⟩ .nil) (by simp) (by simp) _ hal n (by decide) (by decide) (by simp) ⟨rfl, rfl⟩ hval (fun W hW => ?_) _ ?_ (Pl.digs_ne0 _ _) (by omega)
  · by_cases h0 : n = 0
    · subst h0
      exact told_d0f [] false false 0 (by omega) W
    · exact told_d1f [] false false 0 (by omega) n (by omega) hn W hW
  · simp [Pl.Piece.toldL, Pl.Piece.zeroL, Pl.Piece.sharpL, Pl.Piece.wideL, Pl.baseOf]
theorem runIntOf (w : World) (hT : Tabs w) (a : List UInt8) (hal : a.length ≤ 1000) (n : Nat) (hn : n ≤ 9223372036854775807) (hval : ∀ W, Tabs W → Calls Tryz.prog 84 #[.string (strB a)] W fun e w' => e = .returned (.tuple #[.int .i64 n, .bool true]) ∧ Below W.heap.size W w') : RunIs [tagPrintf, strB [37, 105], strB a] 3 (Pl.digs 10 n) [] 0 w := by
  have h2 := Pl.digs_64 10 n (by omega) (by omega)
  refine runOne w hT [37, 105] ⟨[], 105, false, false, false, 0⟩ (.conv [] [] 105 [] [] ⟨by simp, by simp, by simp, by decide, by decide⟩ .nil) (by simp) (by simp) _ hal n (by decide) (by decide) (by simp) ⟨rfl, rfl⟩ hval (fun W hW => ?_) _ ?_ (Pl.digs_ne0 _ _) (by omega)
  · by_cases h0 : n = 0
    · subst h0
      exact told_i0f [] false false 0 (by omega) W
    · exact told_i1f [] false false 0 (by omega) n (by omega) hn W hW
  · simp [Pl.Piece.toldL, Pl.Piece.zeroL, Pl.Piece.sharpL, Pl.Piece.wideL, Pl.baseOf]

/-- values of what the runs tell -/
theorem valOfDec (n : Nat) (hn : n ≤ 9223372036854775807) (W : World) : Calls Tryz.prog 84 #[.string (strB (Pl.digs 10 n))] W fun e w' => e = .returned (.tuple #[.int .i64 n, .bool true]) ∧ Below W.heap.size W w' := by
  have hd := Pl.isDig_digsN (b := 10) (by omega) (by omega) n
  have hv := Pl.val_digsN (b := 10) (by omega) (by omega) n
  have h64 := Pl.digs_64 10 n (by omega) (by omega)
  have hh : (Pl.digs 10 n).head? ≠ some 48 ∨ (Pl.digs 10 n).length = 1 := by
    by_cases h : n = 0
    · subst h
      right
      rw [Pl.digs_small (by decide)]
      rfl
    · exact .inl (Pl.digs_head (by omega) (by omega) n (by omega))
  cases hl : Pl.digs 10 n with
  | nil => exact absurd hl (Pl.digs_ne0 _ _)
  | cons d D =>
    rw [hl] at hd hv h64 hh
    have := valueDec d D hd (by
      rcases hh with h | h
      · exact .inl (fun e => h (by rw [e]; rfl))
      · exact .inr (List.eq_nil_of_length_eq_zero (by simpa using h))) (by omega) (by simp at h64; omega) W
    rw [hv] at this
    exact this
theorem valOfHex (n : Nat) (hn : n ≤ 9223372036854775807) (W : World) : Calls Tryz.prog 84 #[.string (strB (48 :: 120 :: Pl.digs 16 n))] W fun e w' => e = .returned (.tuple #[.int .i64 n, .bool true]) ∧ Below W.heap.size W w' := by
  have hd := Pl.isHex_digs n
  have hv := Pl.hval_digs n
  have h64 := Pl.digs_64 16 n (by omega) (by omega)
  cases hl : Pl.digs 16 n with
  | nil => exact absurd hl (Pl.digs_ne0 _ _)
  | cons d D =>
    rw [hl] at hd hv h64
    have := valueHex d D hd (by omega) (by simp at h64; omega) W
    rw [hv] at this
    exact this
theorem valOfOct (n : Nat) (hn : n ≤ 9223372036854775807) (W : World) : Calls Tryz.prog 84 #[.string (strB (octL n))] W fun e w' => e = .returned (.tuple #[.int .i64 n, .bool true]) ∧ Below W.heap.size W w' := by
  unfold octL
  by_cases h0 : n = 0
  · subst h0
    have := valOfDec 0 (by omega) W
    rwa [show Pl.digs 10 0 = [48] by rw [Pl.digs_small (by decide)]; rfl] at this
  · rw [if_neg h0]
    have hd := Pl.isDig_digsN (b := 8) (by omega) (by omega) n
    have hv := Pl.val_digsN (b := 8) (by omega) (by omega) n
    have h64 := Pl.digs_64 8 n (by omega) (by omega)
    cases hl : Pl.digs 8 n with
    | nil => exact absurd hl (Pl.digs_ne0 _ _)
    | cons d D =>
      rw [hl] at hd hv h64
      have := valueOct d D hd (by omega) (by simp at h64; omega) W
      rw [hv] at this
      exact this

end Go.Proofs.YtobapajmplfeiaaGreatDoor
end

section
namespace Go.Proofs.YtobapajmplfeiaaGreatDoor
open Go.RowKit Go.Maps

theorem textOf_nat (b N : Nat) (hb : b = 8 ∨ b = 10 ∨ b = 16) : textOf (b : Int) (N : Int) = strB (Pl.digs b N) := by
  unfold textOf
  rw [if_pos (by omega)]
  have h : ¬ ((N : Int) < 0) := by omega
  simp [Pl.text, h, strB]
/-- what the law still asks of the four results -/
structure Four (W : World) (g4 g8 g10 g13 : Nat) (A4 : Option Addr) (nX c4 : Nat) (SX : ByteArray) (A8 : Option Addr) (c8 : Nat) (A10 : Option Addr) (c10 nD : Nat) (SD : ByteArray) (A13 : Option Addr) (n3 c13 : Nat) (S3 : ByteArray) : Prop where
  x4 : W.cell? ⟨g4, 0, none⟩ = some (.slice A4 nX c4)
  x8 : W.cell? ⟨g8, 0, none⟩ = some (.slice A8 nD c8)
  x10 : W.cell? ⟨g10, 0, none⟩ = some (.slice A10 nD c10)
  x13 : W.cell? ⟨g13, 0, none⟩ = some (.slice A13 n3 c13)
  y4 : (convert 27 9 (.slice A4 nX c4)).run Tryz.prog W = .ok (.string SX) W
  y8 : (convert 27 9 (.slice A8 nD c8)).run Tryz.prog W = .ok (.string SD) W
  y10 : (convert 27 9 (.slice A10 nD c10)).run Tryz.prog W = .ok (.string SD) W
  y13 : (convert 27 9 (.slice A13 n3 c13)).run Tryz.prog W = .ok (.string S3) W
theorem Four.of {w13 W : World} (hb : Below w13.heap.size w13 W) {g4 g8 g10 g13 : Nat} {A4 : Option Addr} {nX c4 : Nat} {SX : ByteArray} {A8 : Option Addr} {c8 : Nat} {A10 : Option Addr} {c10 nD : Nat} {SD : ByteArray} {A13 : Option Addr} {n3 c13 : Nat} {S3 : ByteArray} {LX LD L3 : List UInt8} {E4 E8 E10 E13 : Option Addr} {d4 d8 d10 d13 : Nat}
    (h4 : ResAt w13 g4 A4 c4 E4 d4 LX [] 0) (h8 : ResAt w13 g8 A8 c8 E8 d8 LD [] 0) (h10 : ResAt w13 g10 A10 c10 E10 d10 LD [] 0) (h13 : ResAt w13 g13 A13 c13 E13 d13 L3 [] 0) (hX : strB LX = SX) (nXe : LX.length = nX) (hD : strB LD = SD) (nDe : LD.length = nD) (h3 : strB L3 = S3) (n3e : L3.length = n3) :
    Four W g4 g8 g10 g13 A4 nX c4 SX A8 c8 A10 c10 nD SD A13 n3 c13 S3 := by
  have k4 := h4.below hb
  have k8 := h8.below hb
  have k10 := h10.below hb
  have k13 := h13.below hb
  refine ⟨?_, ?_, ?_, ?_, convOut hX nXe k4.out, convOut hD nDe k8.out, convOut hD nDe k10.out, convOut h3 n3e k13.out⟩
  · have h := k4.c0; rwa [nXe] at h
  · have h := k8.c0; rwa [nDe] at h
  · have h := k10.c0; rwa [nDe] at h
  · have h := k13.c0; rwa [n3e] at h

set_option maxRecDepth 100000 in
set_option maxHeartbeats 6000000 in
theorem namesNumbers_main (W : World) (hT : Tabs W) (N Wd : Nat) (hN : N ≤ 9223372036854775807) (hw1 : 1 ≤ Wd) (hw2 : Wd ≤ 1000) :
    Calls Tryz.prog 5 #[.int .i64 (N : Int), .int .i64 (Wd : Int)] W fun e w' => e = .returned (.bool true) ∧ Below W.heap.size W w' := by
  have haw := awake_any W hT
  have hd10 : ∀ W, Tabs W → Calls Tryz.prog 12 #[.int .i64 (N : Int), .int .i64 10] W fun e w' => e = .returned (.string (strB (Pl.digs 10 N))) ∧ Below W.heap.size W w' := fun W h => by
    have := digits_any (N : Int) 10 W (by omega) (by omega) h
    rwa [show textOf 10 (N : Int) = strB (Pl.digs 10 N) from textOf_nat 10 N (by omega)] at this
  have hd16 : ∀ W, Tabs W → Calls Tryz.prog 12 #[.int .i64 (N : Int), .int .i64 16] W fun e w' => e = .returned (.string (strB (Pl.digs 16 N))) ∧ Below W.heap.size W w' := fun W h => by
    have := digits_any (N : Int) 16 W (by omega) (by omega) h
    rwa [show textOf 16 (N : Int) = strB (Pl.digs 16 N) from textOf_nat 16 N (by omega)] at this
  have hdW : ∀ W, Tabs W → Calls Tryz.prog 12 #[.int .i64 (Wd : Int), .int .i64 10] W fun e w' => e = .returned (.string (strB (Pl.digs 10 Wd))) ∧ Below W.heap.size W w' := fun W h => by
    have := digits_any (Wd : Int) 10 W (by omega) (by omega) h
    rwa [show textOf 10 (Wd : Int) = strB (Pl.digs 10 Wd) from textOf_nat 10 Wd (by omega)] at this
  have l10 := Pl.digs_64 10 N (by omega) (by omega)
  have l16 := Pl.digs_64 16 N (by omega) (by omega)
  have lW := Pl.digs_64 10 Wd (by omega) (by omega)
  have lO : (octL N).length ≤ 65 := by
    have := Pl.digs_64 8 N (by omega) (by omega)
    unfold octL
    split
    · simp
    · simp; omega
  have hvD := fun W (_ : Tabs W) => valOfDec N hN W
  have hRX := fun W hT => runHexOf W hT N hN hvD
  have hRO := fun W hT => runOctOf W hT N hN hvD
  have hRA := fun W hT => runDecOf W hT (48 :: 120 :: Pl.digs 16 N) (by simp; omega) N hN (fun W _ => valOfHex N hN W)
  have hRB := fun W hT => runIntOf W hT (octL N) (by omega) N hN (fun W _ => valOfOct N hN W)
  have hRC := fun W hT => runThree W hT (Pl.digs 10 Wd) (Pl.digs 10 N) (Pl.isDig_digsN (by omega) (by omega) Wd) (Pl.digs_head (by omega) (by omega) Wd (by omega)) (by rw [Pl.val_digsN (by omega) (by omega)]; exact hw2) (by omega) (by omega) N hN hvD
  rw [Pl.val_digsN (by omega) (by omega)] at hRC
  obtain ⟨D, hD⟩ : ∃ D, Pl.digs 10 N = D := ⟨_, rfl⟩
  have hO3 : Pl.out3 N Wd = (List.replicate (Wd - D.length) 32 ++ D) ++ 44 :: ((D ++ List.replicate (Wd - D.length) 32) ++ 44 :: (List.replicate (Wd - D.length) 48 ++ D)) := by rw [← hD]; rfl
  obtain ⟨O3, hO3e⟩ : ∃ l, Pl.out3 N Wd = l := ⟨_, rfl⟩
  have l3 : O3.length ≤ 4000 := by rw [← hO3e]; exact Pl.out3_len N Wd (by omega) hw2
  obtain ⟨LX, hLX⟩ : ∃ D, Pl.digs 16 N = D := ⟨_, rfl⟩
  obtain ⟨LW, hLW⟩ : ∃ D, Pl.digs 10 Wd = D := ⟨_, rfl⟩
  obtain ⟨LO, hLO⟩ : ∃ D, octL N = D := ⟨_, rfl⟩
  simp only [hD] at hd10 hRX hRO hRA hRB hRC l10
  simp only [hLX] at hd16 hRX hRA l16
  simp only [hLW] at hdW hRC lW
  simp only [hLO] at hRO hRB lO
  rw [hO3e] at hO3
  simp only [hO3e] at hRC
  -- names for the strings
  have a1 : (⟨#[37]⟩ : ByteArray) ++ strB LW = strB (37 :: LW) := strB_append [37] LW
  have a2 : strB (37 :: LW) ++ ⟨#[100, 44, 37, 45]⟩ = strB (37 :: LW ++ [100, 44, 37, 45]) := strB_append _ [100, 44, 37, 45]
  have a3 := strB_append (37 :: LW ++ [100, 44, 37, 45]) LW
  have a4 : strB (37 :: LW ++ [100, 44, 37, 45] ++ LW) ++ ⟨#[100, 44, 37, 48]⟩ = strB (37 :: LW ++ [100, 44, 37, 45] ++ LW ++ [100, 44, 37, 48]) := strB_append _ [100, 44, 37, 48]
  have a5 := strB_append (37 :: LW ++ [100, 44, 37, 45] ++ LW ++ [100, 44, 37, 48]) LW
  have a6 : strB (37 :: LW ++ [100, 44, 37, 45] ++ LW ++ [100, 44, 37, 48] ++ LW) ++ ⟨#[100]⟩ = strB (Pl.fmt3 LW) := by
    rw [show (⟨#[100]⟩ : ByteArray) = strB [100] from rfl, strB_append]
    congr 1
    simp [Pl.fmt3]
  have ax : (⟨#[48, 120]⟩ : ByteArray) ++ strB LX = strB (48 :: 120 :: LX) := strB_append [48, 120] LX
  have z1 : (strB (37 :: LW)).size = LW.length + 1 := by rw [strB_size]; simp
  have z2 : (strB (37 :: LW ++ [100, 44, 37, 45])).size = LW.length + 5 := by rw [strB_size]; simp
  have z3 : (strB (37 :: LW ++ [100, 44, 37, 45] ++ LW)).size = LW.length + LW.length + 5 := by rw [strB_size]; simp; omega
  have z4 : (strB (37 :: LW ++ [100, 44, 37, 45] ++ LW ++ [100, 44, 37, 48])).size = LW.length + LW.length + 9 := by rw [strB_size]; simp; omega
  have z5 : (strB (37 :: LW ++ [100, 44, 37, 45] ++ LW ++ [100, 44, 37, 48] ++ LW)).size = LW.length + LW.length + LW.length + 9 := by rw [strB_size]; simp; omega
  have zW : (strB LW).size = LW.length := strB_size LW
  have zX : (strB LX).size = LX.length := strB_size LX
  obtain ⟨P1, hP1⟩ : ∃ P, strB (37 :: LW) = P := ⟨_, rfl⟩
  obtain ⟨P2, hP2⟩ : ∃ P, strB (37 :: LW ++ [100, 44, 37, 45]) = P := ⟨_, rfl⟩
  obtain ⟨P3, hP3⟩ : ∃ P, strB (37 :: LW ++ [100, 44, 37, 45] ++ LW) = P := ⟨_, rfl⟩
  obtain ⟨P4, hP4⟩ : ∃ P, strB (37 :: LW ++ [100, 44, 37, 45] ++ LW ++ [100, 44, 37, 48]) = P := ⟨_, rfl⟩
  obtain ⟨P5, hP5⟩ : ∃ P, strB (37 :: LW ++ [100, 44, 37, 45] ++ LW ++ [100, 44, 37, 48] ++ LW) = P := ⟨_, rfl⟩
  obtain ⟨P6, hP6⟩ : ∃ P, strB (Pl.fmt3 LW) = P := ⟨_, rfl⟩
  obtain ⟨SW, hSW⟩ : ∃ P, strB LW = P := ⟨_, rfl⟩
  obtain ⟨SD, hSD⟩ : ∃ P, strB D = P := ⟨_, rfl⟩
  obtain ⟨SX, hSX⟩ : ∃ P, strB LX = P := ⟨_, rfl⟩
  obtain ⟨S0X, hS0X⟩ : ∃ P, strB (48 :: 120 :: LX) = P := ⟨_, rfl⟩
  obtain ⟨SO, hSO⟩ : ∃ P, strB LO = P := ⟨_, rfl⟩
  obtain ⟨S3, hS3⟩ : ∃ P, strB O3 = P := ⟨_, rfl⟩
  simp only [hP1, hP2, hP3, hP4, hP5, hP6, hSW, hSX, hS0X] at a1 a2 a3 a4 a5 a6 ax z1 z2 z3 z4 z5 zW zX
  simp only [hSD] at hd10 hRX hRO hRC
  simp only [hSX] at hd16
  simp only [hS0X] at hRA
  simp only [hSW] at hdW
  simp only [hSO] at hRB
  simp only [hP6] at hRC
  have HSD := Lib.hid hSD
  have HSX := Lib.hid hSX
  have HSO := Lib.hid hSO
  have HS3 := Lib.hid hS3
  have HO3 := Lib.hid hO3
  obtain ⟨nX, hnX⟩ : ∃ n, LX.length = n := ⟨_, rfl⟩
  obtain ⟨nO, hnO⟩ : ∃ n, LO.length = n := ⟨_, rfl⟩
  obtain ⟨nW, hnW⟩ : ∃ n, LW.length = n := ⟨_, rfl⟩
  obtain ⟨nD, hnD⟩ : ∃ n, D.length = n := ⟨_, rfl⟩
  obtain ⟨n3, hn3⟩ : ∃ n, O3.length = n := ⟨_, rfl⟩
  rw [hnX] at zX l16
  rw [hnW] at z1 z2 z3 z4 z5 zW lW
  rw [hnO] at lO
  rw [hnD] at l10
  rw [hn3] at l3
  have HNX := Lib.hid hnX
  have HNO := Lib.hid hnO
  have HND := Lib.hid hnD
  have HN3 := Lib.hid hn3
  have zD : SD.size = nD := by rw [← hSD, strB_size, hnD]
  have HT := Lib.hid hT
  clear hT hvD hO3e hD hLX hLW hLO hP1 hP2 hP3 hP4 hP5 hP6 hSW hSD hSX hS0X hSO hS3 hO3 hnX hnO hnW hnD hn3
  go_enter Tryz.func5, Tryz.ntmps5
  go_wp2_with (first
    | (refine wpList_store_res rfl (.tmp 12) (.tmp 62) rfl (below_one w11 _) ho12 he12 hb12 rfl rfl ?_; rintro w13 ⟨A13, c13, E13, d13, R13⟩ hb13; have b13 := b11.trans (hb13.mono b11.size)
       have bw4 : Below w4.heap.size w4 w13 := hb6.trans ((hb8.trans ((hb10.trans ((hb11.trans (hb13.mono hb11.size)).mono hb10.size)).mono hb8.size)).mono hb6.size)
       have bw8 : Below w8.heap.size w8 w13 := hb10.trans ((hb11.trans (hb13.mono hb11.size)).mono hb10.size)
       have bw10 : Below w10.heap.size w10 w13 := hb11.trans (hb13.mono hb11.size)
       have HR4 := Lib.hid (R4.below bw4)
       have HR8 := Lib.hid (R8.below bw8)
       have HR10 := Lib.hid (R10.below bw10)
       have HR13 := Lib.hid R13
       clear R4 R8 R10 R13 R6 R4a R6a x1 x2 y1 y2 bw4 bw8 bw10)
    | (go_at_call 11; have hq := (hRC (w11.alloc (.cells #[.string ⟨#[112, 114, 105, 110, 116, 102]⟩, .string P6, .string SD, .string SD, .string SD] 9)) (HT.out.below (b11.trans ((below_one w11 (.cells #[.string ⟨#[112, 114, 105, 110, 116, 102]⟩, .string P6, .string SD, .string SD, .string SD] 9)).mono b11.size)))).go _ 5 (readsNew w11 [tagPrintf, P6, SD, SD, SD] 5 rfl #[.string ⟨#[112, 114, 105, 110, 116, 102]⟩, .string P6, .string SD, .string SD, .string SD] rfl); with_reducible refine hq.mono ?_; rintro e w12 ⟨ov12, ev12, sp12, pk12, rfl, ho12, he12, hb12⟩; unfold resV)
    | (go_at_call 12; have hq := hdW w10 (HT.out.below b10); with_reducible refine hq.mono ?_; rintro e w11 ⟨rfl, hb11⟩; have b11 := b10.trans (hb11.mono b10.size))
    | (refine wpList_store_res rfl (.tmp 10) (.tmp 46) rfl (below_one w8 _) ho9 he9 hb9 rfl rfl ?_; rintro w10 ⟨A10, c10, E10, d10, R10⟩ hb10; have b10 := b8.trans (hb10.mono b8.size))
    | (go_at_call 11; have hq := (hRB (w8.alloc (.cells #[.string ⟨#[112, 114, 105, 110, 116, 102]⟩, .string ⟨#[37, 105]⟩, .string SO] 9)) (HT.out.below (b8.trans ((below_one w8 (.cells #[.string ⟨#[112, 114, 105, 110, 116, 102]⟩, .string ⟨#[37, 105]⟩, .string SO] 9)).mono b8.size)))).go _ 3 (readsNew w8 [tagPrintf, strB [37, 105], SO] 3 rfl #[.string ⟨#[112, 114, 105, 110, 116, 102]⟩, .string ⟨#[37, 105]⟩, .string SO] rfl); with_reducible refine hq.mono ?_; rintro e w9 ⟨ov9, ev9, sp9, pk9, rfl, ho9, he9, hb9⟩; unfold resV)
    | (refine wpList_store_res rfl (.tmp 9) (.tmp 41) rfl (below_one w6 _) ho7 he7 hb7 rfl rfl ?_; rintro w8 ⟨A8, c8, E8, d8, R8⟩ hb8; have b8 := b6.trans (hb8.mono b6.size)
       have R6a := R6.below hb8
       have x2 : w8.cell? ⟨w5.heap.size, 0, none⟩ = some (.slice A6 nO c6) := by have h := R6a.c0; rwa [HNO.out] at h
       have y2 : (convert 27 9 (.slice A6 nO c6)).run Tryz.prog w8 = .ok (.string SO) w8 := convOut HSO.out HNO.out R6a.out)
    | (go_at_call 11; have hq := (hRA (w6.alloc (.cells #[.string ⟨#[112, 114, 105, 110, 116, 102]⟩, .string ⟨#[37, 100]⟩, .string S0X] 9)) (HT.out.below (b6.trans ((below_one w6 (.cells #[.string ⟨#[112, 114, 105, 110, 116, 102]⟩, .string ⟨#[37, 100]⟩, .string S0X] 9)).mono b6.size)))).go _ 3 (readsNew w6 [tagPrintf, strB [37, 100], S0X] 3 rfl #[.string ⟨#[112, 114, 105, 110, 116, 102]⟩, .string ⟨#[37, 100]⟩, .string S0X] rfl); with_reducible refine hq.mono ?_; rintro e w7 ⟨ov7, ev7, sp7, pk7, rfl, ho7, he7, hb7⟩; unfold resV)
    | (refine wpList_store_res rfl (.tmp 8) (.tmp 35) rfl (below_one w4 _) ho5 he5 hb5 rfl rfl ?_; rintro w6 ⟨A6, c6, E6, d6, R6⟩ hb6; have b6 := b4.trans (hb6.mono b4.size)
       have R4a := R4.below hb6
       have x1 : w6.cell? ⟨w3.heap.size, 0, none⟩ = some (.slice A4 nX c4) := by have h := R4a.c0; rwa [HNX.out] at h
       have y1 : (convert 27 9 (.slice A4 nX c4)).run Tryz.prog w6 = .ok (.string SX) w6 := convOut HSX.out HNX.out R4a.out)
    | (go_at_call 11; have hq := (hRO (w4.alloc (.cells #[.string ⟨#[112, 114, 105, 110, 116, 102]⟩, .string ⟨#[37, 35, 111]⟩, .string SD] 9)) (HT.out.below (b4.trans ((below_one w4 (.cells #[.string ⟨#[112, 114, 105, 110, 116, 102]⟩, .string ⟨#[37, 35, 111]⟩, .string SD] 9)).mono b4.size)))).go _ 3 (readsNew w4 [tagPrintf, strB [37, 35, 111], SD] 3 rfl #[.string ⟨#[112, 114, 105, 110, 116, 102]⟩, .string ⟨#[37, 35, 111]⟩, .string SD] rfl); with_reducible refine hq.mono ?_; rintro e w5 ⟨ov5, ev5, sp5, pk5, rfl, ho5, he5, hb5⟩; unfold resV)
    | (refine wpList_store_res rfl (.tmp 7) (.tmp 32) rfl (below_one w2 _) ho3 he3 hb3 rfl rfl ?_; rintro w4 ⟨A4, c4, E4, d4, R4⟩ hb4; have b4 := b2.trans (hb4.mono b2.size))
    | (go_at_call 11; have hq := (hRX (w2.alloc (.cells #[.string ⟨#[112, 114, 105, 110, 116, 102]⟩, .string ⟨#[37, 120]⟩, .string SD] 9)) (HT.out.below (b2.trans ((below_one w2 (.cells #[.string ⟨#[112, 114, 105, 110, 116, 102]⟩, .string ⟨#[37, 120]⟩, .string SD] 9)).mono b2.size)))).go _ 3 (readsNew w2 [tagPrintf, strB [37, 120], SD] 3 rfl #[.string ⟨#[112, 114, 105, 110, 116, 102]⟩, .string ⟨#[37, 120]⟩, .string SD] rfl); with_reducible refine hq.mono ?_; rintro e w3 ⟨ov3, ev3, sp3, pk3, rfl, ho3, he3, hb3⟩; unfold resV)
    | (go_at_call 12; have hq := hd10 w1 (HT.out.below b1); with_reducible refine hq.mono ?_; rintro e w2 ⟨rfl, hb2⟩; have b2 := b1.trans (hb2.mono b1.size))
    | (go_at_call 6; refine haw.mono ?_; rintro e w1 ⟨rfl, b1⟩))
  go_loopw [13, 14, 15] (fun wv lv zv wr => ∃ (j : Nat) (X Y Z : List UInt8), Hid (X = List.replicate j 32 ++ D) ∧ Hid (Y = D ++ List.replicate j 32) ∧ Hid (Z = List.replicate j 48 ++ D) ∧ (j = 0 ∨ j + nD ≤ Wd) ∧ wv = .string (strB X) ∧ lv = .string (strB Y) ∧ zv = .string (strB Z) ∧ wr = w13) (fun wv _ _ _ => 2000 - sLen wv)
  case atStart => exact ⟨0, D, D, D, Lib.hid (by simp), Lib.hid (by simp), Lib.hid (by simp), .inl rfl, by rw [HSD.out], by rw [HSD.out], by rw [HSD.out], rfl⟩
  case round =>
    obtain ⟨j, X, Y, Z, HX, HY, HZ, hj, rfl, rfl, rfl, rfl⟩ := hrel
    have eX : X.length = j + nD := by rw [HX.out, List.length_append, List.length_replicate, HND.out]
    have eY : Y.length = j + nD := by rw [HY.out, List.length_append, List.length_replicate, HND.out]; omega
    have eZ : Z.length = j + nD := by rw [HZ.out, List.length_append, List.length_replicate, HND.out]
    have sX : (strB X).size = j + nD := by rw [strB_size, eX]
    have sY : (strB Y).size = j + nD := by rw [strB_size, eY]
    have sZ : (strB Z).size = j + nD := by rw [strB_size, eZ]
    by_cases hlt : j + nD < Wd
    · have q1 : (⟨#[32]⟩ : ByteArray) ++ strB X = strB (32 :: X) := strB_append [32] X
      have q2 : strB Y ++ ⟨#[32]⟩ = strB (Y ++ [32]) := strB_append Y [32]
      have q3 : (⟨#[48]⟩ : ByteArray) ++ strB Z = strB (48 :: Z) := strB_append [48] Z
      have HX2 : Hid (32 :: X = List.replicate (j + 1) 32 ++ D) := Lib.hid (by rw [HX.out, List.replicate_succ]; rfl)
      have HY2 : Hid (Y ++ [32] = D ++ List.replicate (j + 1) 32) := Lib.hid (by rw [HY.out, List.replicate_succ', List.append_assoc])
      have HZ2 : Hid (48 :: Z = List.replicate (j + 1) 48 ++ D) := Lib.hid (by rw [HZ.out, List.replicate_succ]; rfl)
      have hm : 2000 - sLen (.string (strB (32 :: X))) < 2000 - sLen (.string (strB X)) := by
        simp only [sLen, strB_cons_size, sX, eX]
        omega
      have HM := Lib.hid hm
      clear eX eY eZ hm
      go_wp2_with fail
      exact ⟨⟨j + 1, 32 :: X, Y ++ [32], 48 :: Z, HX2, HY2, HZ2, .inr (by omega), rfl, rfl, rfl, trivial⟩, HM.out⟩
    · have hjw : j = Wd - nD := by omega
      have t1 : strB X ++ ⟨#[44]⟩ = strB (X ++ [44]) := strB_append X [44]
      have t2 := strB_append (X ++ [44]) Y
      have t3 : strB (X ++ [44] ++ Y) ++ ⟨#[44]⟩ = strB (X ++ [44] ++ Y ++ [44]) := strB_append _ [44]
      have t4 : strB (X ++ [44] ++ Y ++ [44]) ++ strB Z = S3 := by
        rw [strB_append, ← HS3.out, HO3.out, HND.out, ← hjw, HX.out, HY.out, HZ.out]
        congr 1
        simp
      have u1 : (strB (X ++ [44])).size = j + nD + 1 := by rw [strB_size, List.length_append, eX]; rfl
      have u2 : (strB (X ++ [44] ++ Y)).size = j + nD + 1 + (j + nD) := by rw [strB_size, List.length_append, List.length_append, eX, eY]; rfl
      have u3 : (strB (X ++ [44] ++ Y ++ [44])).size = j + nD + 1 + (j + nD) + 1 := by rw [strB_size, List.length_append, List.length_append, List.length_append, eX, eY]; rfl
      obtain ⟨X1, hX1⟩ : ∃ l, X ++ [44] = l := ⟨_, rfl⟩
      obtain ⟨X2, hX2⟩ : ∃ l, X1 ++ Y = l := ⟨_, rfl⟩
      obtain ⟨X3, hX3⟩ : ∃ l, X2 ++ [44] = l := ⟨_, rfl⟩
      simp only [hX1, hX2, hX3] at t1 t2 t3 t4 u1 u2 u3
      have HF : Hid (∀ W, Below wr.heap.size wr W → Four W w3.heap.size w7.heap.size w9.heap.size w12.heap.size A4 nX c4 SX A8 c8 A10 c10 nD SD A13 n3 c13 S3) := Lib.hid (fun W hb => Four.of hb HR4.out HR8.out HR10.out HR13.out HSX.out HNX.out HSD.out HND.out HS3.out HN3.out)
      have hbd : Below wr.heap.size wr wr.drew := below_drewN' (Below.refl _ _)
      obtain ⟨v4, v8, v10, v13, y4, y8, y10, y13⟩ := HF.out wr.drew hbd
      have HTD : Hid (∀ V, Below wr.heap.size wr V → Tabs V) := Lib.hid (fun V hV => HT.out.below (b13.trans (hV.mono b13.size)))
      have HB13 := Lib.hid b13
      have bnd : j + nD ≤ 2000 := by omega
      obtain ⟨m0, hm0⟩ : ∃ m, j + nD = m := ⟨_, rfl⟩
      obtain ⟨m1, hm1⟩ : ∃ m, j + nD + 1 = m := ⟨_, rfl⟩
      obtain ⟨m2, hm2⟩ : ∃ m, j + nD + 1 + (j + nD) = m := ⟨_, rfl⟩
      obtain ⟨m3, hm3⟩ : ∃ m, j + nD + 1 + (j + nD) + 1 = m := ⟨_, rfl⟩
      rw [hm1] at u1
      rw [hm2] at u2
      rw [hm3] at u3
      rw [hm0] at sX sY sZ hlt
      have n1 : ¬ 9223372036854775807 < m0 + 1 := by omega
      have n2 : ¬ 9223372036854775807 < m1 + m0 := by omega
      have n3' : ¬ 9223372036854775807 < m2 + 1 := by omega
      have n4 : ¬ 9223372036854775807 < m3 + m0 := by omega
      clear hm0 hm1 hm2 hm3 bnd eX eY eZ hX1 hX2 hX3 hjw hj haw hd10 hdW hRX hRO hRA hRB hRC b13 b1 b2 b4 b6 b8 b10 b11 hb2 hb3 hb4 hb5 hb6 hb7 hb8 hb9 hb10 hb11 hb12 hb13 ho3 he3 ho5 he5 ho7 he7 ho9 he9 ho12 he12
      go_wp2_with fail
      go_region_held3 (fun V => V.cell? ⟨w3.heap.size, 0, none⟩ = some (.slice A4 nX c4) ∧ V.cell? ⟨w7.heap.size, 0, none⟩ = some (.slice A8 nD c8) ∧ V.cell? ⟨w9.heap.size, 0, none⟩ = some (.slice A10 nD c10) ∧ V.cell? ⟨w12.heap.size, 0, none⟩ = some (.slice A13 n3 c13) ∧
          (convert 27 9 (.slice A4 nX c4)).run Tryz.prog V = .ok (.string SX) V ∧ (convert 27 9 (.slice A8 nD c8)).run Tryz.prog V = .ok (.string SD) V ∧ (convert 27 9 (.slice A10 nD c10)).run Tryz.prog V = .ok (.string SD) V ∧ (convert 27 9 (.slice A13 n3 c13)).run Tryz.prog V = .ok (.string S3) V ∧ Below wr.heap.size wr V)
        (first | (go_split_ands; refine ⟨?_, ?_, ?_, ?_, ?_, ?_, ?_, ?_, ?_⟩ <;> assumption) | (refine ⟨?_, ?_, ?_, ?_, ?_, ?_, ?_, ?_, ?_⟩ <;> assumption))
        (first | (go_at_call 12; refine (hd16 _ (by go_split_ands; exact HTD.out _ (by assumption))).mono ?_; rintro e w14 ⟨rfl, hb14⟩; have B14 : Below wr.heap.size wr w14 := (by go_split_ands; refine below_step ?_ hb14 (Nat.le_refl _); assumption); obtain ⟨k4, k8, k10, k13, m4, m8, m10, m13⟩ := HF.out w14 B14))
      all_goals go_wp2_with fail
      all_goals go_returns
      all_goals exact ⟨rfl, HB13.out.trans (B14.mono HB13.out.size)⟩

theorem namesNumbers_any (W : World) (hT : Tabs W) (n wd : Int) (hn0 : -9223372036854775808 ≤ n) (hn1 : n ≤ 9223372036854775807) (hw0 : -9223372036854775808 ≤ wd) (hw1 : wd ≤ 9223372036854775807) :
    Calls Tryz.prog 5 #[.int .i64 n, .int .i64 wd] W fun e w' => e = .returned (.bool true) ∧ Below W.heap.size W w' := by
  have haw := awake_any W hT
  by_cases h1 : n < 0
  · clear hT
    go_enter Tryz.func5, Tryz.ntmps5
    go_wp2_with (go_at_call 6; refine haw.mono ?_; rintro e w1 ⟨rfl, b1⟩)
    go_returns
    exact ⟨rfl, b1⟩
  by_cases h2 : wd < 1
  · have h1' : 0 ≤ n := by omega
    clear hT h1
    go_enter Tryz.func5, Tryz.ntmps5
    go_wp2_with (go_at_call 6; refine haw.mono ?_; rintro e w1 ⟨rfl, b1⟩)
    go_returns
    exact ⟨rfl, b1⟩
  by_cases h3 : 1000 < wd
  · have h1' : 0 ≤ n := by omega
    have h2' : 1 ≤ wd := by omega
    clear hT h1 h2
    go_enter Tryz.func5, Tryz.ntmps5
    go_wp2_with (go_at_call 6; refine haw.mono ?_; rintro e w1 ⟨rfl, b1⟩)
    go_returns
    exact ⟨rfl, b1⟩
  obtain ⟨N, rfl⟩ : ∃ N : Nat, n = N := ⟨n.toNat, by omega⟩
  obtain ⟨M, rfl⟩ : ∃ M : Nat, wd = M := ⟨wd.toNat, by omega⟩
  exact namesNumbers_main W hT N M (by omega) (by omega) (by omega)

end Go.Proofs.YtobapajmplfeiaaGreatDoor
end

section
namespace Go.Proofs.YtobapajmplfeiaaGreatDoor
open Go.RowKit Go.ChangeShapes Go.WideShapes Go.ChangeAt Go.Shelf

/-- a listed array of integers -/
theorem tab_reads {W : World} {n : String} {k : IntKind} {zs : List Int} {g : Nat} {t e : TypeId} {m : Nat} (h : Lib.VarReads Tryz.prog W n (Lib.tabData k zs))
    (hg : Tryz.prog.globalNamed n = some g) (hty : (Tryz.prog.globals[g]?).map (·.type) = some t) (ht : Tryz.prog.underlying t = some (.array m e)) (he : Tryz.prog.underlying e = some (.int k)) (hce : Tryz.prog.cellsOf e = 1) (hct : Tryz.prog.cellsOf t = m) : Lib.TabIs Tryz.prog W n k zs := by
  obtain ⟨g', t', cs, fuel, p, hg', ht', hv, hd⟩ := h
  obtain rfl := Option.some.inj (hg.symm.trans hg')
  obtain rfl := Option.some.inj (hty.symm.trans ht')
  unfold Lib.TabIs
  rw [hv, ← Lib.cells_of_tab ht he hce hct hd]
def bruijnZ : List Int := [0, 1, 56, 2, 57, 49, 28, 3, 61, 58, 42, 50, 38, 29, 17, 4, 62, 47, 59, 36, 45, 43, 51, 22, 53, 39, 33, 30, 24, 18, 12, 5, 63, 55, 48, 27, 60, 41, 37, 16, 46, 35, 44, 21, 52, 32, 23, 11, 54, 26, 40, 15, 34, 20, 31, 10, 25, 14, 19, 9, 13, 8, 7, 6]

theorem Tryz.star : "*" ++ "errors.errorString" = "*errors.errorString" := by decide
theorem Tryz.rowErr (u : TypeId) (h : Tryz.prog.typeName? 3 u = some "*errors.errorString") : u = 317 :=
  typeName_ptr_named (nm := "errors.errorString") (by rw [Tryz.star]; kernel_rfl) (by kernel_rfl) (by decide) u (by rw [Tryz.star]; exact h)

theorem sentinel_cell {W : World} {n : String} {text : List UInt8} {r : List (String × DataW Unit)} {g : Nat} (h : laidMet Tryz.prog ((n, .iface "*errors.errorString" (.ptr (.agg [.lit (.string text)]))) :: r) W)
    (hg : Tryz.prog.globalNamed n = some g) (ht : (Tryz.prog.globals[g]?).map (·.type) = some 171) : ∃ tp p, W.cell? ⟨g, 0, none⟩ = some (.iface tp p) := by
  obtain ⟨a, s, hv, _, _, _⟩ := laid_sentinel h hg ht Tryz.underlying171 Tryz.rowErr Tryz.underlying317 Tryz.underlying319 rfl rfl Tryz.underlying9 (by kernel_rfl) (by kernel_rfl)
  have := World.var?_cell hg hv 0
  exact ⟨_, _, this⟩

theorem tabs_of {l : List (String × DataW Unit)} {W : World} (hl : l = Rows.namesPartsRow.laid) (h : laidMetH Tryz.prog l W) : Tabs W := by
  subst hl
  have h' : laidMet Tryz.prog Rows.namesPartsRow.laid W := h
  have m1 : ("math/bits.deBruijn64tab", Rows.laid_math_bits_deBruijn64tab) ∈ Rows.namesPartsRow.laid := by simp [Rows.namesPartsRow]
  have m2 : ("internal/strconv.uint64pow10", Rows.laid_internal_strconv_uint64pow10) ∈ Rows.namesPartsRow.laid := by simp [Rows.namesPartsRow]
  have hb : Lib.TabIs Tryz.prog W "math/bits.deBruijn64tab" .u8 bruijnZ := tab_reads (g := 5) (t := 266) (Lib.laidMet.reads h' m1) (by kernel_rfl) (by kernel_rfl) Tryz.underlying266 Tryz.underlying5 (by kernel_rfl) (by kernel_rfl)
  have hp : Lib.TabIs Tryz.prog W "internal/strconv.uint64pow10" .u64 Lib.pow10Tab := tab_reads (g := 1) (t := 182) (Lib.laidMet.reads h' m2) (by kernel_rfl) (by kernel_rfl) Tryz.underlying182 Tryz.underlying93 (by kernel_rfl) (by kernel_rfl)
  exact ⟨hb.cell (g := 5) (by kernel_rfl) 7 (by decide), hb.cell (g := 5) (by kernel_rfl) 15 (by decide), hp, sentinel_cell h'.tail.tail.tail.tail.tail (by kernel_rfl) (by kernel_rfl), sentinel_cell h'.tail.tail.tail.tail (by kernel_rfl) (by kernel_rfl)⟩

/-- the witness -/
theorem witness_row_shaped {H : Type} {enc : TypeId × Value → H} {C : Checked} {os : Os} {f : FuncId} {fn : Func} {s : OpenSpec} {conds : List PathCond} {apart : Bool} {laid : List (String × DataW Unit)} (w0 : World) (args : Array Value) (hos : w0.os = os)
    (hsh : (w0.forCall (fun _ _ => 0) ⟨#[], args, []⟩).Shaped C.prog)
    (hok : Input.okWideB C.prog (w0.forCall (fun _ _ => 0) ⟨#[], args, []⟩) f ⟨#[], args, []⟩ = true)
    (hrow : s.preRow enc C.prog fn conds apart laid (w0.forCall (fun _ _ => 0) ⟨#[], args, []⟩).memory args) :
    ∃ (w : World) (tape : Tape) (i : Input), w.os = os ∧ (w.forCall tape i).Shaped C.prog ∧ i.vars = [] ∧ Input.okWide C.prog (w.forCall tape i) .any w.heap.size f i ∧
      s.preRow enc C.prog fn conds apart laid (w.forCall tape i).memory i.args ∧ ({} : Assume).holds C.prog (lone (Frame.enter C.prog f i.args .normal) [] (w.forCall tape i)) :=
  ⟨w0, fun _ _ => 0, ⟨#[], args, []⟩, hos, hsh, (Input.okWide_of_okWideB (base := 0) hok).1, (Input.okWide_of_okWideB hok).2, hrow, by
    simp only [Assume.holds]
    exact ⟨by simp, by simp, fun _ => Modest.zero, by simp, by simp⟩⟩

end Go.Proofs.YtobapajmplfeiaaGreatDoor
end

section
namespace Go.Proofs.YtobapajmplfeiaaGreatDoor.namesNumbers
open Go.ChangeShapes Go.WideShapes Go.ChangeAt Go.RowKit
open Go.ChangeMaps (open_string shut_string)

theorem paramsOk : ∀ t ∈ Tryz.f5.params.toList, Tryz.prog.readableRec t = true ∧ t < Tryz.prog.types.size := by
  intro t ht
  rw [Tryz.params5] at ht
  simp at ht
  subst ht
  exact ⟨by kernel_rfl, of_decide_eq_true (by kernel_rfl)⟩

set_option maxRecDepth 100000 in
theorem contract (H : Type) (enc : TypeId × Value → H) (W : World) (base : Nat) (args : Array Value) (ds gs : List (DataW H)) (before : List MemPlace)
    (hval : ∀ (j : Nat) t v, Tryz.f5.params[j]? = some t → args[j]? = some v → Value.okWide Tryz.prog W .any base t v)
    (hW : DataW.Whole enc Tryz.prog Tryz.f5.params.toList Rows.namesNumbersSpec.vars false W args.toList ds gs before)
    (hsz : (DataW.weightsEach Tryz.prog (Tryz.f5.params.toList ++ []) (ds ++ gs)).all (· ≤ reachBytes) = true) (hL : laidMetH Tryz.prog Rows.namesNumbersRow.laid W) :
    Calls Tryz.prog 5 args W fun e W' => ∃ v, e = .returned v ∧ Rows.namesNumbersSpec.post enc Tryz.prog Tryz.f5 false true false false W args v W' := by
  have hW' := hW
  obtain ⟨p, q, hA0, hV, rfl, hfz, hnd⟩ := hW
  have hA : DataW.TrodAll enc Tryz.prog W 0 (fun _ => true) true Tryz.f5.params.toList args.toList ds p := hA0
  rw [Tryz.params5] at hA hval hsz
  obtain ⟨v0, vs0, d0, ds0, p0, q0, hargs, rfl, rfl, h0, r0⟩ := trodAll_cons hA
  obtain ⟨v1, vs1, d1, ds1, p1, q1, rfl, rfl, rfl, h1, r1⟩ := trodAll_cons r0
  obtain ⟨rfl, rfl, rfl⟩ := trodAll_nil r1
  obtain rfl : args = #[v0, v1] := by cases args; simp_all
  obtain ⟨rfl, rfl⟩ := trodVars_none hV
  obtain ⟨n, rfl, rfl, rfl, wn⟩ := open_int Tryz.underlying3 (hval 0 3 v0 rfl rfl) h0
  obtain ⟨d, rfl, rfl, rfl, wd⟩ := open_int Tryz.underlying3 (hval 1 3 v1 rfl rfl) h1
  have bn := Go.bounds_i64 wn
  have bd := Go.bounds_i64 wd
  exact (namesNumbers_any W (tabs_of (show Rows.namesNumbersRow.laid = Rows.namesPartsRow.laid from rfl) hL) n d bn.1 bn.2 bd.1 bd.2).mono fun e W1 ⟨he, hb⟩ => ⟨_, he, post_true Tryz.laidOut hW' rfl rfl rfl rfl rfl rfl Tryz.underlying4 paramsOk hb⟩

def witArgs : Array Value := #[.int .i64 0, .int .i64 0]
theorem reads (os : Os) {H : Type} (enc : TypeId × Value → H) : ∃ places, DataW.whole enc Tryz.prog ((World.laidAll Tryz.prog os Rows.namesNumbersRow.laid).forCall (fun _ _ => 0) ⟨#[], witArgs, []⟩).memory Tryz.f5.params.toList Rows.namesNumbersSpec.vars false witArgs.toList 8 = some ([.lit (.int .i64 0), .lit (.int .i64 0)], [], places) :=
  ⟨[], by kernel_rfl⟩

set_option maxRecDepth 100000 in
theorem lifted (os : Os) (started : os.Started) (H : Type) (enc : TypeId × Value → H) (F : Stop.Interp) :
    ReturnsInHanded {} Tryz.checked os 5 .any ((OpenSpec.ofChange Rows.namesNumbersSpec).preRow enc Tryz.prog Tryz.f5 Rows.namesNumbersRow.domain false Rows.namesNumbersRow.laid) (((OpenSpec.ofChange Rows.namesNumbersSpec).at F).post enc Tryz.prog Tryz.f5 false true false false) := by
  obtain ⟨places, hx⟩ := reads os enc
  refine returnsInHanded_of_row (C := Tryz.checked) (s := OpenSpec.ofChange Rows.namesNumbersSpec) Tryz.own started (by kernel_rfl) Tryz.func5
    (witness_row_shaped (enc := enc) (C := Tryz.checked) (World.laidAll Tryz.prog os Rows.namesNumbersRow.laid) witArgs (World.laidAll_os _ _ _) (World.shaped_of_ZipB (by kernel_rfl) (by kernel_rfl)) (by kernel_rfl)
      (OpenSpec.preRow_of_cond 8 hx (by kernel_rfl) (fun k hk => by cases hk) (by kernel_rfl) (by rw [MakeChecks.laidMetH_plain _ _ _ (by kernel_rfl)]; exact laidMet_laidAll _ (by kernel_rfl) (by kernel_rfl)))) ?_
  intro W base args ds gs before hval hW _ _ hsz hL _ _
  exact contract H enc W base args ds gs before hval hW hsz hL

theorem said : Rows.NamesNumbersSaid :=
  OpenClaim.holds_of_cond 5 Tryz.f5 rfl rfl rfl rfl rfl rfl rfl ⟨rfl, rfl, rfl, rfl, rfl⟩ rfl rfl rfl rfl rfl (by kernel_rfl) Tryz.func5 (by kernel_rfl)
    (of_decide_eq_true (by kernel_rfl)) (by unfold Func.isWrapper; first | (rw [if_pos (by decide +kernel)]; kernel_rfl) | (rw [if_neg (by decide +kernel)]; exact ⟨rfl, rfl⟩))
    (fun os started H enc _ F => by rw [OpenClaim.pre_eq_preRow]; exact lifted os started H enc F)

/-- no parameter wants a stand-in; the program's own looks are on -/
theorem plain (f : FuncId) (fn : Func) (hf : Tryz.pinned.checked.prog.funcNamed "toolchest/toolchestlaw19.NamesNumbers" = some f) (hfn : Tryz.pinned.checked.prog.funcs[f]? = some fn) :
    true = Tryz.pinned.checked.prog.looks [] ∧ ∀ (j : Nat) t, fn.params[j]? = some t → Tryz.pinned.checked.prog.wantsStandIn t = false := by
  obtain rfl : f = 5 := Option.some.inj ((show Tryz.prog.funcNamed "toolchest/toolchestlaw19.NamesNumbers" = some 5 by kernel_rfl).symm.trans hf) |>.symm
  obtain rfl : fn = Tryz.f5 := (Option.some.inj (Tryz.func5.symm.trans hfn)).symm
  refine ⟨by kernel_rfl, fun j t ht => ?_⟩
  have hm : t ∈ Tryz.f5.params.toList := by simpa using Array.mem_of_getElem? ht
  have hall : (Tryz.f5.params.toList.all fun u => !Tryz.prog.wantsStandIn u) = true := by kernel_rfl
  exact (show Tryz.prog.wantsStandIn t = false by simpa using List.all_eq_true.1 hall t hm)

theorem proved : Rows.NamesNumbersCardSaid :=
  Claim7.holds_tied_plain_at .later [] _ _ _ _ said (fun _ h => by cases h) (by kernel_rfl) (fun _ h => by cases h) namesNumbers_row_tie rfl ⟨rfl, rfl⟩ (by kernel_rfl) rfl plain (by kernel_rfl)
#print axioms proved
end Go.Proofs.YtobapajmplfeiaaGreatDoor.namesNumbers
end
