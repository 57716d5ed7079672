/-
  Walks over strconv.FormatInt at the bases eight and sixteen, text.Digits, and the reference's Digits.
-/
import Derived.Test.YtnagiphjlfiifaaDoorTextWord
import Derived.Laws.BitsAllLaws
namespace Go.Proofs.YtnagiphjlfiifaaDoor
open Go.RowKit

/-- an array of 65 bytes: the last ones are l -/
def digArr (l : List UInt8) : Array Value := (bytesC (List.replicate (65 - l.length) 0 ++ l)).toArray
theorem zeros_digArr : Tryd.zeroCells71 = digArr [] := by kernel_rfl
theorem digArr_get (l : List UInt8) (h : l.length < 65) : (digArr l)[64 - l.length]? = some (.int .u8 0) := by
  unfold digArr bytesC
  rw [List.getElem?_toArray, List.getElem?_map, List.getElem?_append_left (by simp; omega), List.getElem?_replicate, if_pos (by omega)]
  rfl
theorem digArr_set (l : List UInt8) (c : UInt8) (_h : l.length < 65) : (digArr l).setIfInBounds (64 - l.length) (.int .u8 c.toNat) = digArr (c :: l) := by
  unfold digArr bytesC
  have e1 : List.replicate (65 - l.length) (0 : UInt8) = List.replicate (64 - l.length) 0 ++ [0] := by
    rw [show 65 - l.length = (64 - l.length) + 1 by omega, List.replicate_succ']
  have e2 : 65 - (c :: l).length = 64 - l.length := by simp
  rw [List.setIfInBounds_toArray, e1, e2]
  simp
theorem digArr_reads (w : World) (t : TypeId) (l : List UInt8) (_h : l.length ≤ 65) : Reads (w.alloc (.cells (digArr l) t)) (w.heap.size + 1) 1 (some ⟨w.heap.size, 65 - l.length, none⟩) l.length (bytesC l) := by
  refine ⟨by simp [bytesC], fun _ => ⟨_, rfl, by simp, fun j u hu => ?_⟩⟩
  have e : (⟨w.heap.size, 65 - l.length, none⟩ : Addr).add j = ⟨w.heap.size, 65 - l.length + j, none⟩ := by unfold Addr.add; split <;> simp_all
  rw [e, (Blk.new w _ _).cell]
  unfold digArr bytesC at *
  rw [List.getElem?_toArray, List.getElem?_map, List.getElem?_append_right (by simp), ← List.getElem?_map]
  simpa using hu
namespace Pl
/-- a digit's sign -/
def sign (d : Nat) : UInt8 := if d < 10 then UInt8.ofNat (48 + d) else UInt8.ofNat (87 + d)
/-- a number's digits to a base -/
def digs (b : Nat) (n : Nat) : List UInt8 :=
  if _h : 2 ≤ b ∧ b ≤ n then digs b (n / b) ++ [sign (n % b)] else [sign n]
  termination_by n
  decreasing_by exact Nat.div_lt_self (by omega) (by omega)
theorem digs_small {b n : Nat} (h : n < b) : digs b n = [sign n] := by rw [digs, dif_neg (by omega)]
theorem digs_step {b n : Nat} (hb : 2 ≤ b) (h : b ≤ n) : digs b n = digs b (n / b) ++ [sign (n % b)] := by rw [digs, dif_pos ⟨hb, h⟩]
/-- how many digits there have been -/
theorem room {b l v : Nat} (hb : 8 ≤ b) (hv : b ≤ v) (h : v * b ^ l < 18446744073709551616) : l ≤ 20 := by
  rcases Nat.lt_or_ge l 21 with h1 | h1
  · omega
  · have h2 : 8 ^ 21 ≤ b ^ l := Nat.le_trans (Nat.pow_le_pow_left hb 21) (Nat.pow_le_pow_right (by omega) h1)
    have h3 : 8 * 8 ^ 21 ≤ v * b ^ l := Nat.mul_le_mul (by omega) h2
    have h4 : (8 : Nat) * 8 ^ 21 = 73786976294838206464 := by decide
    omega
theorem step_room {b l v : Nat} (h : v * b ^ l < 18446744073709551616) : v / b * b ^ (l + 1) < 18446744073709551616 := by
  refine Nat.lt_of_le_of_lt ?_ h
  rw [Nat.pow_succ, Nat.mul_comm (b ^ l) b, ← Nat.mul_assoc]
  exact Nat.mul_le_mul_right _ (Nat.div_mul_le_self v b)
/-- a whole number's text to a base -/
def text (b : Nat) (n : Int) : List UInt8 := (if n < 0 then [45] else []) ++ digs b n.natAbs
end Pl

def signsB : ByteArray := ⟨#[48, 49, 50, 51, 52, 53, 54, 55, 56, 57, 97, 98, 99, 100, 101, 102, 103, 104, 105, 106, 107, 108, 109, 110, 111, 112, 113, 114, 115, 116, 117, 118, 119, 120, 121, 122]⟩
theorem signsB_get (k : Nat) (hk : k < 36) : signsB[k]'(show k < 36 from hk) = Pl.sign k := by
  have h : (List.range 36).all (fun k => decide (signsB.data[k]? = some (Pl.sign k))) = true := by decide
  have h1 := of_decide_eq_true (List.all_eq_true.1 h k (List.mem_range.2 hk))
  obtain ⟨_, h2⟩ := Array.getElem?_eq_some_iff.1 h1
  exact h2
theorem signsB_at {i : Int} {k : Nat} (hi : i = (k : Int)) (hk : k < 36) (h : i.toNat < signsB.size) : signsB[i.toNat]'h = Pl.sign k := by
  subst hi
  exact signsB_get k hk
theorem run_sliceAt_arr {P : Program} {t e : TypeId} {n : Nat} {i : TypeInfo} (ht : P.underlying t = some (.array n e)) (hi : P.info? e = some i) (hs : i.size = 1) (g l : Nat) (x : Int) (hx : x = (l : Int)) (hl : l < n) (W : World) :
    (Instr.sliceAt t (.pointer (some ⟨g, 0, none⟩)) (some (.int .i64 x)) none none).run P W = .ok (.slice (some ⟨g, l, none⟩) (n - l) (n - l)) W := by
  subst hx
  have hee : P.elem t = e := by simp only [Program.elem, ht]
  have hen : P.arrayLen t = n := by simp only [Program.arrayLen, ht]
  have he : P.underlying t = some (.array (P.arrayLen t) (P.elem t)) := by rw [hee, hen]; exact ht
  rw [run_sliceAt_array_l W t ⟨g, 0, none⟩ he .i64 l (by omega) (by rw [hen]; omega)]
  simp only [hee, hen, sizeOf, typeInfo, Sem.run_bind, Sem.run_pure]
  simp [hi, hs, slicedAt, go_sem, show ¬ n = l by omega]
theorem arr_step (l : List UInt8) (i : Nat) (c d : UInt8) (hi : 65 - l.length = i) (hl : l.length < 65) (hc : c = d) : (digArr l).setIfInBounds (i - 1) (.int .u8 c.toNat) = digArr (d :: l) := by
  subst hc
  rw [← digArr_set l c hl, show i - 1 = 64 - l.length by omega]

set_option maxHeartbeats 1000000 in
theorem tz8 (w : World) (h : w.cell? ⟨5, 7, none⟩ = some (.int .u8 3)) : Calls Tryd.prog 52 #[.int .u64 8] w fun e w' => e = .returned (.int .i64 3) ∧ w' = w := by
  have h1 : bits BinOp.and IntKind.u64 8 (IntKind.u64.wrap (-8)) = 8 := by decide
  go_enter Tryd.func52, Tryd.ntmps52
  go_wp2
  go_ret
  exact ⟨rfl, rfl⟩
set_option maxHeartbeats 1000000 in
theorem pow8 (w : World)  : Calls Tryd.prog 51 #[.int .i64 8] w fun e w' => e = .returned (.bool true) ∧ w' = w := by
  have h1 : bits BinOp.and IntKind.i64 8 7 = 0 := by decide
  go_enter Tryd.func51, Tryd.ntmps51
  go_wp2
  go_ret
  exact ⟨rfl, rfl⟩
theorem and7 (v : Nat) (h : v < 18446744073709551616) : bits BinOp.and IntKind.u64 v 7 = ((v % 8 : Nat) : Int) := by
  have := u64_and_nat v 7 h (by omega)
  rw [show (v &&& 7) = v % 8 from Nat.and_two_pow_sub_one_eq_mod v 3] at this
  exact this

set_option maxRecDepth 100000 in
set_option maxHeartbeats 2000000 in
theorem bits8p (u : Nat) (hu : u < 18446744073709551616) (w : World) (h : w.cell? ⟨5, 7, none⟩ = some (.int .u8 3)) :
    Calls Tryd.prog 41 #[.slice none 0 0, .int .u64 u, .int .i64 8, .bool false, .bool false] w fun e w' => e = .returned (.tuple #[.slice none 0 0, .string ⟨(Pl.digs 8 u).toArray⟩]) ∧ Below w.heap.size w w' := by
  have hlt : 5 < w.heap.size := World.block_lt_of_cell? w _ h
  have htz := fun o => tz8 (w.alloc o) ((World.cell?_alloc_lt w o _ hlt).trans h)
  clear h
  obtain ⟨iB, hiB, hB0, hB1, hB2⟩ := info_parts Tryd.infoByte
  clear hB0 hB2
  go_enter Tryd.func41, Tryd.ntmps41
  go_wp2_with (first | (go_at_call 51; refine (pow8 _).mono ?_; rintro e w' ⟨rfl, rfl⟩) | (go_at_call 52; refine (htz _).mono ?_; rintro e w' ⟨rfl, rfl⟩))
  rw [zeros_digArr]
  clear htz
  go_loopw [1, 13] (fun x i wr => ∃ (l : List UInt8) (v : Nat), l.length ≤ 21 ∧ v < 18446744073709551616 ∧ Hid (v * 8 ^ l.length < 18446744073709551616) ∧ Hid (Pl.digs 8 u = Pl.digs 8 v ++ l) ∧ x = .int .u64 v ∧ i = .int .i64 ((65 - l.length : Nat) : Int) ∧ wr = w.alloc (.cells (digArr l) 71)) (fun x _ _ => (intOf x).toNat)
  case atStart => exact ⟨[], u, by simp, hu, Lib.hid (by simpa using hu), Lib.hid (by simp), rfl, rfl, rfl⟩
  case round =>
    obtain ⟨l, v, hl, hv, hr, hd, rfl, hi, rfl⟩ := hrel
    obtain ⟨i, hi'⟩ : ∃ i : Nat, 65 - l.length = i := ⟨_, rfl⟩
    rw [hi'] at hi
    subst hi
    have hi1 : 44 ≤ i := by omega
    have hi2 : i ≤ 65 := by omega
    have hget : (digArr l)[i - 1]? = some (.int .u8 0) := by rw [← digArr_get l (by omega), show i - 1 = 64 - l.length by omega]
    have HI := Lib.hid hi'
    clear hi'
    by_cases h8 : 8 ≤ v
    · have hand := and7 v hv
      have hvm : v % 8 < 8 := Nat.mod_lt _ (by omega)
      have hl20 := Pl.room (by omega) h8 hr.out
      go_wp2
      go_roundw
      case rel =>
        refine ⟨Pl.sign (v % 8) :: l, v / 8, by simp; omega, by omega, Lib.hid (by simpa using Pl.step_room hr.out), Lib.hid (by rw [hd.out, Pl.digs_step (by omega) h8, List.append_assoc]; rfl), by go_num, ?_, ?_⟩
        · have := HI.out
          rw [show 65 - (Pl.sign (v % 8) :: l).length = i - 1 by simp; omega]
          go_num
        · exact congrArg (fun c => w.alloc (.cells c 71)) (arr_step l i _ _ HI.out (by omega) (signsB_at (k := v % 8) (by first | rfl | exact hand) (by omega) _))
      case measure => simp [intOf]; omega
    · have hvs : v < 8 := by omega
      have hd2 : Pl.digs 8 u = Pl.sign v :: l := by rw [hd.out, Pl.digs_small hvs]; rfl
      have hsl := run_sliceAt_arr (P := Tryd.prog) Tryd.underlying71 hiB hB1 w.heap.size (i - 1) ((i : Int) - 1) (by omega) (by omega)
      have hln : 65 - (i - 1) = l.length + 1 := by have := HI.out; omega
      rw [hln] at hsl
      have harr := arr_step l i (signsB[v]'(show v < 36 by omega)) (Pl.sign v) HI.out (by omega) (signsB_get v (by omega))
      unfold signsB at harr
      have hcs : (convert 25 9 (.slice (some ⟨w.heap.size, i - 1, none⟩) (l.length + 1) (l.length + 1))).run Tryd.prog (w.alloc (.cells (digArr (Pl.sign v :: l)) 71)) = .ok (.string ⟨(Pl.sign v :: l).toArray⟩) (w.alloc (.cells (digArr (Pl.sign v :: l)) 71)) := by
        have h1 := convert_string (P := Tryd.prog) (src := 25) (dst := 9) (e := 5) Tryd.underlying25 Tryd.underlying5 Tryd.underlying9 (cap := l.length + 1) (digArr_reads w 71 (Pl.sign v :: l) (by simp; omega))
        have h2 : 65 - (Pl.sign v :: l).length = i - 1 := by have := HI.out; simp; omega
        rw [h2] at h1
        exact h1
      have HD := Lib.hid hd2
      clear hd2 hd hln
      go_wp2
      go_ret2
      exact ⟨by rw [HD.out]; rfl, (Below.refl _ _).alloc (Nat.le_refl _) _⟩
set_option maxRecDepth 100000 in
set_option maxHeartbeats 2000000 in
theorem bits8n (u : Nat) (hu : u < 18446744073709551616) (U : Nat) (hU : U + u = 18446744073709551616) (w : World) (h : w.cell? ⟨5, 7, none⟩ = some (.int .u8 3)) :
    Calls Tryd.prog 41 #[.slice none 0 0, .int .u64 U, .int .i64 8, .bool true, .bool false] w fun e w' => e = .returned (.tuple #[.slice none 0 0, .string ⟨(45 :: Pl.digs 8 u).toArray⟩]) ∧ Below w.heap.size w w' := by
  have hlt : 5 < w.heap.size := World.block_lt_of_cell? w _ h
  have htz := fun o => tz8 (w.alloc o) ((World.cell?_alloc_lt w o _ hlt).trans h)
  clear h
  obtain ⟨iB, hiB, hB0, hB1, hB2⟩ := info_parts Tryd.infoByte
  clear hB0 hB2
  have hneg : IntKind.u64.wrap (-(U : Int)) = (u : Int) := by
    have h1 : IntKind.u64.wrap (-(U : Int)) = (-(U : Int)) % 18446744073709551616 := rfl
    omega
  go_enter Tryd.func41, Tryd.ntmps41
  go_wp2_with (first | (go_at_call 51; refine (pow8 _).mono ?_; rintro e w' ⟨rfl, rfl⟩) | (go_at_call 52; refine (htz _).mono ?_; rintro e w' ⟨rfl, rfl⟩))
  rw [zeros_digArr]
  clear htz hneg hU
  go_loopw [1, 13] (fun x i wr => ∃ (l : List UInt8) (v : Nat), l.length ≤ 21 ∧ v < 18446744073709551616 ∧ Hid (v * 8 ^ l.length < 18446744073709551616) ∧ Hid (Pl.digs 8 u = Pl.digs 8 v ++ l) ∧ x = .int .u64 v ∧ i = .int .i64 ((65 - l.length : Nat) : Int) ∧ wr = w.alloc (.cells (digArr l) 71)) (fun x _ _ => (intOf x).toNat)
  case atStart => exact ⟨[], u, by simp, hu, Lib.hid (by simpa using hu), Lib.hid (by simp), rfl, rfl, rfl⟩
  case round =>
    obtain ⟨l, v, hl, hv, hr, hd, rfl, hi, rfl⟩ := hrel
    obtain ⟨i, hi'⟩ : ∃ i : Nat, 65 - l.length = i := ⟨_, rfl⟩
    rw [hi'] at hi
    subst hi
    have hi1 : 44 ≤ i := by omega
    have hi2 : i ≤ 65 := by omega
    have hget : (digArr l)[i - 1]? = some (.int .u8 0) := by rw [← digArr_get l (by omega), show i - 1 = 64 - l.length by omega]
    have HI := Lib.hid hi'
    clear hi'
    by_cases h8 : 8 ≤ v
    · have hand := and7 v hv
      have hvm : v % 8 < 8 := Nat.mod_lt _ (by omega)
      have hl20 := Pl.room (by omega) h8 hr.out
      go_wp2
      go_roundw
      case rel =>
        refine ⟨Pl.sign (v % 8) :: l, v / 8, by simp; omega, by omega, Lib.hid (by simpa using Pl.step_room hr.out), Lib.hid (by rw [hd.out, Pl.digs_step (by omega) h8, List.append_assoc]; rfl), by go_num, ?_, ?_⟩
        · have := HI.out
          rw [show 65 - (Pl.sign (v % 8) :: l).length = i - 1 by simp; omega]
          go_num
        · exact congrArg (fun c => w.alloc (.cells c 71)) (arr_step l i _ _ HI.out (by omega) (signsB_at (k := v % 8) (by first | rfl | exact hand) (by omega) _))
      case measure => simp [intOf]; omega
    · have hvs : v < 8 := by omega
      have hd2 : Pl.digs 8 u = Pl.sign v :: l := by rw [hd.out, Pl.digs_small hvs]; rfl
      have hsl := run_sliceAt_arr (P := Tryd.prog) Tryd.underlying71 hiB hB1 w.heap.size (i - 1 - 1) ((i : Int) - 1 - 1) (by omega) (by omega)
      have hln : 65 - (i - 1 - 1) = l.length + 1 + 1 := by have := HI.out; omega
      rw [hln] at hsl
      have harr := arr_step l i (signsB[v]'(show v < 36 by omega)) (Pl.sign v) HI.out (by omega) (signsB_get v (by omega))
      have harr2 : (digArr (Pl.sign v :: l)).setIfInBounds (i - 1 - 1) (.int .u8 45) = digArr (45 :: Pl.sign v :: l) := arr_step (Pl.sign v :: l) (i - 1) 45 45 (by have := HI.out; simp; omega) (by simp; omega) rfl
      have hget2 : (digArr (Pl.sign v :: l))[i - 1 - 1]? = some (.int .u8 0) := by
        rw [← digArr_get (Pl.sign v :: l) (by simp; omega), show i - 1 - 1 = 64 - (Pl.sign v :: l).length by have := HI.out; simp; omega]
      unfold signsB at harr
      have hcs : (convert 25 9 (.slice (some ⟨w.heap.size, i - 1 - 1, none⟩) (l.length + 1 + 1) (l.length + 1 + 1))).run Tryd.prog (w.alloc (.cells (digArr (45 :: Pl.sign v :: l)) 71)) = .ok (.string ⟨(45 :: Pl.sign v :: l).toArray⟩) (w.alloc (.cells (digArr (45 :: Pl.sign v :: l)) 71)) := by
        have h1 := convert_string (P := Tryd.prog) (src := 25) (dst := 9) (e := 5) Tryd.underlying25 Tryd.underlying5 Tryd.underlying9 (cap := l.length + 1 + 1) (digArr_reads w 71 (45 :: Pl.sign v :: l) (by simp; omega))
        have h2 : 65 - (45 :: Pl.sign v :: l).length = i - 1 - 1 := by have := HI.out; simp; omega
        rw [h2] at h1
        exact h1
      have HD := Lib.hid hd2
      clear hd2 hd hln
      go_wp2
      go_ret2
      exact ⟨by rw [HD.out]; rfl, (Below.refl _ _).alloc (Nat.le_refl _) _⟩
set_option maxHeartbeats 1000000 in
theorem tz16 (w : World) (h : w.cell? ⟨5, 15, none⟩ = some (.int .u8 4)) : Calls Tryd.prog 52 #[.int .u64 16] w fun e w' => e = .returned (.int .i64 4) ∧ w' = w := by
  have h1 : bits BinOp.and IntKind.u64 16 (IntKind.u64.wrap (-16)) = 16 := by decide
  go_enter Tryd.func52, Tryd.ntmps52
  go_wp2
  go_ret
  exact ⟨rfl, rfl⟩
set_option maxHeartbeats 1000000 in
theorem pow16 (w : World)  : Calls Tryd.prog 51 #[.int .i64 16] w fun e w' => e = .returned (.bool true) ∧ w' = w := by
  have h1 : bits BinOp.and IntKind.i64 16 15 = 0 := by decide
  go_enter Tryd.func51, Tryd.ntmps51
  go_wp2
  go_ret
  exact ⟨rfl, rfl⟩
theorem and15 (v : Nat) (h : v < 18446744073709551616) : bits BinOp.and IntKind.u64 v 15 = ((v % 16 : Nat) : Int) := by
  have := u64_and_nat v 15 h (by omega)
  rw [show (v &&& 15) = v % 16 from Nat.and_two_pow_sub_one_eq_mod v 4] at this
  exact this

set_option maxRecDepth 100000 in
set_option maxHeartbeats 2000000 in
theorem bits16p (u : Nat) (hu : u < 18446744073709551616) (w : World) (h : w.cell? ⟨5, 15, none⟩ = some (.int .u8 4)) :
    Calls Tryd.prog 41 #[.slice none 0 0, .int .u64 u, .int .i64 16, .bool false, .bool false] w fun e w' => e = .returned (.tuple #[.slice none 0 0, .string ⟨(Pl.digs 16 u).toArray⟩]) ∧ Below w.heap.size w w' := by
  have hlt : 5 < w.heap.size := World.block_lt_of_cell? w _ h
  have htz := fun o => tz16 (w.alloc o) ((World.cell?_alloc_lt w o _ hlt).trans h)
  clear h
  obtain ⟨iB, hiB, hB0, hB1, hB2⟩ := info_parts Tryd.infoByte
  clear hB0 hB2
  go_enter Tryd.func41, Tryd.ntmps41
  go_wp2_with (first | (go_at_call 51; refine (pow16 _).mono ?_; rintro e w' ⟨rfl, rfl⟩) | (go_at_call 52; refine (htz _).mono ?_; rintro e w' ⟨rfl, rfl⟩))
  rw [zeros_digArr]
  clear htz
  go_loopw [1, 13] (fun x i wr => ∃ (l : List UInt8) (v : Nat), l.length ≤ 21 ∧ v < 18446744073709551616 ∧ Hid (v * 16 ^ l.length < 18446744073709551616) ∧ Hid (Pl.digs 16 u = Pl.digs 16 v ++ l) ∧ x = .int .u64 v ∧ i = .int .i64 ((65 - l.length : Nat) : Int) ∧ wr = w.alloc (.cells (digArr l) 71)) (fun x _ _ => (intOf x).toNat)
  case atStart => exact ⟨[], u, by simp, hu, Lib.hid (by simpa using hu), Lib.hid (by simp), rfl, rfl, rfl⟩
  case round =>
    obtain ⟨l, v, hl, hv, hr, hd, rfl, hi, rfl⟩ := hrel
    obtain ⟨i, hi'⟩ : ∃ i : Nat, 65 - l.length = i := ⟨_, rfl⟩
    rw [hi'] at hi
    subst hi
    have hi1 : 44 ≤ i := by omega
    have hi2 : i ≤ 65 := by omega
    have hget : (digArr l)[i - 1]? = some (.int .u8 0) := by rw [← digArr_get l (by omega), show i - 1 = 64 - l.length by omega]
    have HI := Lib.hid hi'
    clear hi'
    by_cases h8 : 16 ≤ v
    · have hand := and15 v hv
      have hvm : v % 16 < 16 := Nat.mod_lt _ (by omega)
      have hl20 := Pl.room (by omega) h8 hr.out
      go_wp2
      go_roundw
      case rel =>
        refine ⟨Pl.sign (v % 16) :: l, v / 16, by simp; omega, by omega, Lib.hid (by simpa using Pl.step_room hr.out), Lib.hid (by rw [hd.out, Pl.digs_step (by omega) h8, List.append_assoc]; rfl), by go_num, ?_, ?_⟩
        · have := HI.out
          rw [show 65 - (Pl.sign (v % 16) :: l).length = i - 1 by simp; omega]
          go_num
        · exact congrArg (fun c => w.alloc (.cells c 71)) (arr_step l i _ _ HI.out (by omega) (signsB_at (k := v % 16) (by first | rfl | exact hand) (by omega) _))
      case measure => simp [intOf]; omega
    · have hvs : v < 16 := by omega
      have hd2 : Pl.digs 16 u = Pl.sign v :: l := by rw [hd.out, Pl.digs_small hvs]; rfl
      have hsl := run_sliceAt_arr (P := Tryd.prog) Tryd.underlying71 hiB hB1 w.heap.size (i - 1) ((i : Int) - 1) (by omega) (by omega)
      have hln : 65 - (i - 1) = l.length + 1 := by have := HI.out; omega
      rw [hln] at hsl
      have harr := arr_step l i (signsB[v]'(show v < 36 by omega)) (Pl.sign v) HI.out (by omega) (signsB_get v (by omega))
      unfold signsB at harr
      have hcs : (convert 25 9 (.slice (some ⟨w.heap.size, i - 1, none⟩) (l.length + 1) (l.length + 1))).run Tryd.prog (w.alloc (.cells (digArr (Pl.sign v :: l)) 71)) = .ok (.string ⟨(Pl.sign v :: l).toArray⟩) (w.alloc (.cells (digArr (Pl.sign v :: l)) 71)) := by
        have h1 := convert_string (P := Tryd.prog) (src := 25) (dst := 9) (e := 5) Tryd.underlying25 Tryd.underlying5 Tryd.underlying9 (cap := l.length + 1) (digArr_reads w 71 (Pl.sign v :: l) (by simp; omega))
        have h2 : 65 - (Pl.sign v :: l).length = i - 1 := by have := HI.out; simp; omega
        rw [h2] at h1
        exact h1
      have HD := Lib.hid hd2
      clear hd2 hd hln
      go_wp2
      go_ret2
      exact ⟨by rw [HD.out]; rfl, (Below.refl _ _).alloc (Nat.le_refl _) _⟩
set_option maxRecDepth 100000 in
set_option maxHeartbeats 2000000 in
theorem bits16n (u : Nat) (hu : u < 18446744073709551616) (U : Nat) (hU : U + u = 18446744073709551616) (w : World) (h : w.cell? ⟨5, 15, none⟩ = some (.int .u8 4)) :
    Calls Tryd.prog 41 #[.slice none 0 0, .int .u64 U, .int .i64 16, .bool true, .bool false] w fun e w' => e = .returned (.tuple #[.slice none 0 0, .string ⟨(45 :: Pl.digs 16 u).toArray⟩]) ∧ Below w.heap.size w w' := by
  have hlt : 5 < w.heap.size := World.block_lt_of_cell? w _ h
  have htz := fun o => tz16 (w.alloc o) ((World.cell?_alloc_lt w o _ hlt).trans h)
  clear h
  obtain ⟨iB, hiB, hB0, hB1, hB2⟩ := info_parts Tryd.infoByte
  clear hB0 hB2
  have hneg : IntKind.u64.wrap (-(U : Int)) = (u : Int) := by
    have h1 : IntKind.u64.wrap (-(U : Int)) = (-(U : Int)) % 18446744073709551616 := rfl
    omega
  go_enter Tryd.func41, Tryd.ntmps41
  go_wp2_with (first | (go_at_call 51; refine (pow16 _).mono ?_; rintro e w' ⟨rfl, rfl⟩) | (go_at_call 52; refine (htz _).mono ?_; rintro e w' ⟨rfl, rfl⟩))
  rw [zeros_digArr]
  clear htz hneg hU
  go_loopw [1, 13] (fun x i wr => ∃ (l : List UInt8) (v : Nat), l.length ≤ 21 ∧ v < 18446744073709551616 ∧ Hid (v * 16 ^ l.length < 18446744073709551616) ∧ Hid (Pl.digs 16 u = Pl.digs 16 v ++ l) ∧ x = .int .u64 v ∧ i = .int .i64 ((65 - l.length : Nat) : Int) ∧ wr = w.alloc (.cells (digArr l) 71)) (fun x _ _ => (intOf x).toNat)
  case atStart => exact ⟨[], u, by simp, hu, Lib.hid (by simpa using hu), Lib.hid (by simp), rfl, rfl, rfl⟩
  case round =>
    obtain ⟨l, v, hl, hv, hr, hd, rfl, hi, rfl⟩ := hrel
    obtain ⟨i, hi'⟩ : ∃ i : Nat, 65 - l.length = i := ⟨_, rfl⟩
    rw [hi'] at hi
    subst hi
    have hi1 : 44 ≤ i := by omega
    have hi2 : i ≤ 65 := by omega
    have hget : (digArr l)[i - 1]? = some (.int .u8 0) := by rw [← digArr_get l (by omega), show i - 1 = 64 - l.length by omega]
    have HI := Lib.hid hi'
    clear hi'
    by_cases h8 : 16 ≤ v
    · have hand := and15 v hv
      have hvm : v % 16 < 16 := Nat.mod_lt _ (by omega)
      have hl20 := Pl.room (by omega) h8 hr.out
      go_wp2
      go_roundw
      case rel =>
        refine ⟨Pl.sign (v % 16) :: l, v / 16, by simp; omega, by omega, Lib.hid (by simpa using Pl.step_room hr.out), Lib.hid (by rw [hd.out, Pl.digs_step (by omega) h8, List.append_assoc]; rfl), by go_num, ?_, ?_⟩
        · have := HI.out
          rw [show 65 - (Pl.sign (v % 16) :: l).length = i - 1 by simp; omega]
          go_num
        · exact congrArg (fun c => w.alloc (.cells c 71)) (arr_step l i _ _ HI.out (by omega) (signsB_at (k := v % 16) (by first | rfl | exact hand) (by omega) _))
      case measure => simp [intOf]; omega
    · have hvs : v < 16 := by omega
      have hd2 : Pl.digs 16 u = Pl.sign v :: l := by rw [hd.out, Pl.digs_small hvs]; rfl
      have hsl := run_sliceAt_arr (P := Tryd.prog) Tryd.underlying71 hiB hB1 w.heap.size (i - 1 - 1) ((i : Int) - 1 - 1) (by omega) (by omega)
      have hln : 65 - (i - 1 - 1) = l.length + 1 + 1 := by have := HI.out; omega
      rw [hln] at hsl
      have harr := arr_step l i (signsB[v]'(show v < 36 by omega)) (Pl.sign v) HI.out (by omega) (signsB_get v (by omega))
      have harr2 : (digArr (Pl.sign v :: l)).setIfInBounds (i - 1 - 1) (.int .u8 45) = digArr (45 :: Pl.sign v :: l) := arr_step (Pl.sign v :: l) (i - 1) 45 45 (by have := HI.out; simp; omega) (by simp; omega) rfl
      have hget2 : (digArr (Pl.sign v :: l))[i - 1 - 1]? = some (.int .u8 0) := by
        rw [← digArr_get (Pl.sign v :: l) (by simp; omega), show i - 1 - 1 = 64 - (Pl.sign v :: l).length by have := HI.out; simp; omega]
      unfold signsB at harr
      have hcs : (convert 25 9 (.slice (some ⟨w.heap.size, i - 1 - 1, none⟩) (l.length + 1 + 1) (l.length + 1 + 1))).run Tryd.prog (w.alloc (.cells (digArr (45 :: Pl.sign v :: l)) 71)) = .ok (.string ⟨(45 :: Pl.sign v :: l).toArray⟩) (w.alloc (.cells (digArr (45 :: Pl.sign v :: l)) 71)) := by
        have h1 := convert_string (P := Tryd.prog) (src := 25) (dst := 9) (e := 5) Tryd.underlying25 Tryd.underlying5 Tryd.underlying9 (cap := l.length + 1 + 1) (digArr_reads w 71 (45 :: Pl.sign v :: l) (by simp; omega))
        have h2 : 65 - (45 :: Pl.sign v :: l).length = i - 1 - 1 := by have := HI.out; simp; omega
        rw [h2] at h1
        exact h1
      have HD := Lib.hid hd2
      clear hd2 hd hln
      go_wp2
      go_ret2
      exact ⟨by rw [HD.out]; rfl, (Below.refl _ _).alloc (Nat.le_refl _) _⟩

end Go.Proofs.YtnagiphjlfiifaaDoor
