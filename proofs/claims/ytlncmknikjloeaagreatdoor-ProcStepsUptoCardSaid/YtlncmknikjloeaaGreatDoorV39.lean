/-
  Parts of the proof: Walks over what a process tells of itself.
-/
import Derived.Test.YtlncmknikjloeaaGreatDoorV08
import Derived.Test.YtlncmknikjloeaaGreatDoorV11
import Derived.Test.YtlncmknikjloeaaGreatDoorV26
import Derived.Lib.Strings

section
namespace Go.Proofs.YtlncmknikjloeaaGreatDoor
open Go.RowKit Go.Maps

set_option maxHeartbeats 1000000 in
theorem procTable (w : World) (p : Nat) (J : PS) (hp : ProcOf w p J) : Calls Tryz.prog 10 #[.pointer (some ⟨p, 0, none⟩)] w fun e w' => e = .returned (.pointer (some ⟨J.tb, 0, none⟩)) ∧ w' = w := by
  have c1 : w.cell? ⟨p, 1, none⟩ = some (.pointer (some ⟨J.tb, 0, none⟩)) := by rw [hp.blk.cell 1]; rfl
  have hl := hp.blk.lt
  clear hp
  go_enter Tryz.func10, Tryz.ntmps10
  go_wp2_with fail
  go_returns
  exact ⟨rfl, rfl⟩
set_option maxHeartbeats 1000000 in
theorem procKern (w : World) (p : Nat) (J : PS) (hp : ProcOf w p J) : Calls Tryz.prog 27 #[.pointer (some ⟨p, 0, none⟩)] w fun e w' => e = .returned (.pointer (some ⟨J.k, 0, none⟩)) ∧ w' = w := by
  have c1 : w.cell? ⟨p, 0, none⟩ = some (.pointer (some ⟨J.k, 0, none⟩)) := by rw [hp.blk.cell 0]; rfl
  have hl := hp.blk.lt
  clear hp
  go_enter Tryz.func27, Tryz.ntmps27
  go_wp2_with fail
  go_returns
  exact ⟨rfl, rfl⟩
set_option maxHeartbeats 1000000 in
theorem procCwd (w : World) (p : Nat) (J : PS) (hp : ProcOf w p J) : Calls Tryz.prog 25 #[.pointer (some ⟨p, 0, none⟩)] w fun e w' => e = .returned (.string J.cwd) ∧ w' = w := by
  have c1 : w.cell? ⟨p, 4, none⟩ = some (.string J.cwd) := by rw [hp.blk.cell 4]; rfl
  have hl := hp.blk.lt
  clear hp
  go_enter Tryz.func25, Tryz.ntmps25
  go_wp2_with fail
  go_returns
  exact ⟨rfl, rfl⟩
set_option maxRecDepth 100000 in
set_option maxHeartbeats 1000000 in
theorem procLim (w : World) (p : Nat) (J : PS) (hp : ProcOf w p J) : Calls Tryz.prog 26 #[.pointer (some ⟨p, 0, none⟩)] w fun e w' => e = .returned (.agg #[.int .i64 J.buf, .int .i64 J.line, .int .i64 J.run]) ∧ Below w.heap.size w w' := by
  have hB := hp.blk
  have c5 : w.cell? ⟨p, 5, none⟩ = some (.int .i64 J.buf) := by rw [hB.cell 5]; rfl
  have c6 : w.cell? ⟨p, 6, none⟩ = some (.int .i64 J.line) := by rw [hB.cell 6]; rfl
  have c7 : w.cell? ⟨p, 7, none⟩ = some (.int .i64 J.run) := by rw [hB.cell 7]; rfl
  have lp := hB.lt
  clear hp hB
  go_enter Tryz.func26, Tryz.ntmps26
  go_wp2_with fail
  go_returns
  exact ⟨rfl, (Below.refl _ w).alloc (Nat.le_refl _) _⟩
set_option maxHeartbeats 1000000 in
theorem procArgs (w : World) (p : Nat) (J : PS) (hp : ProcOf w p J) (hl : J.args.length ≤ 2097152) : Calls Tryz.prog 23 #[.pointer (some ⟨p, 0, none⟩)] w fun e w' => ∃ v, e = .returned v ∧ w'.ownsRow w.heap.size 9 1 v J.args.length (strsC J.args) ∧ Below w.heap.size w w' := by
  obtain ⟨A, c, hv, _, _, hr⟩ := own_slice hp.args
  have c2 : w.cell? ⟨p, 2, none⟩ = some (.slice A J.args.length c) := by rw [hp.blk.cell 2, ← hv]; rfl
  have hq := cloneS_any A J.args.length c J.args w w.heap.size rfl hr (Nat.le_refl _) hl
  have hl2 := hp.blk.lt
  clear hp hr
  go_enter Tryz.func23, Tryz.ntmps23
  go_wp2_with (go_at_call 31; refine hq.mono ?_; rintro e w1 ⟨v, rfl, ho, hb⟩)
  go_returns
  exact ⟨v, rfl, ho, hb⟩
set_option maxHeartbeats 1000000 in
theorem procEnv (w : World) (p : Nat) (J : PS) (hp : ProcOf w p J) (hl : J.env.length ≤ 2097152) : Calls Tryz.prog 24 #[.pointer (some ⟨p, 0, none⟩)] w fun e w' => ∃ v, e = .returned v ∧ w'.ownsRow w.heap.size 9 1 v J.env.length (strsC J.env) ∧ Below w.heap.size w w' := by
  obtain ⟨A, c, hv, _, _, hr⟩ := own_slice hp.env
  have c2 : w.cell? ⟨p, 3, none⟩ = some (.slice A J.env.length c) := by rw [hp.blk.cell 3, ← hv]; rfl
  have hq := cloneS_any A J.env.length c J.env w w.heap.size rfl hr (Nat.le_refl _) hl
  have hl2 := hp.blk.lt
  clear hp hr
  go_enter Tryz.func24, Tryz.ntmps24
  go_wp2_with (go_at_call 31; refine hq.mono ?_; rintro e w1 ⟨v, rfl, ho, hb⟩)
  go_returns
  exact ⟨v, rfl, ho, hb⟩

/-- what Get tells of a list -/
def getOf (p : List UInt8) : List ByteArray → ByteArray × Bool
  | [] => (⟨#[]⟩, false)
  | x :: l => if Lib.hasPrefix x.data.toList p then (⟨(Lib.trimPrefix x.data.toList p).toArray⟩, true) else getOf p l

set_option maxRecDepth 100000 in
set_option maxHeartbeats 2000000 in
theorem procGet (w : World) (p : Nat) (J : PS) (hp : ProcOf w p J) (hl : J.env.length ≤ 2097152) (name : ByteArray) (hn : name.size ≤ 2097152) :
    Calls Tryz.prog 20 #[.pointer (some ⟨p, 0, none⟩), .string name] w fun e w' => e = .returned (.tuple #[.string (getOf (name.data.toList ++ [61]) J.env).1, .bool (getOf (name.data.toList ++ [61]) J.env).2]) ∧ w' = w := by
  obtain ⟨A, c, hv, _, _, hr⟩ := own_slice hp.env
  obtain ⟨n, hnn⟩ : ∃ n, J.env.length = n := ⟨_, rfl⟩
  obtain ⟨P, hP⟩ : ∃ P, (name.data.toList ++ [61]) = P := ⟨_, rfl⟩
  obtain ⟨N, hN⟩ : ∃ N, name ++ (⟨#[61]⟩ : ByteArray) = N := ⟨_, rfl⟩
  have hNP : N.data.toList = P := by rw [← hN, ← hP]; simp
  rw [hP]
  rw [hnn] at hv hr
  have c2 : w.cell? ⟨p, 3, none⟩ = some (.slice A n c) := by rw [hp.blk.cell 3, ← hv]; rfl
  have hl2 := hp.blk.lt
  have hn3 : n ≤ 2097152 := by omega
  have hcut := fun x W => Tryz.strings_CutPrefix x N W
  rw [hNP] at hcut
  obtain ⟨R, hR⟩ : ∃ R, getOf P J.env = R := ⟨_, rfl⟩
  rw [hR]
  have HR := Lib.hid hR
  have HRD := Lib.hid hr
  have HNN := Lib.hid hnn
  clear hp hr hP hNP hR hnn
  go_enter Tryz.func20, Tryz.ntmps20
  go_wp2_with fail
  go_loopw [15] (fun iv wr => ∃ i : Nat, i ≤ n ∧ iv = .int .i64 (i : Int) ∧ wr = w ∧ getOf P (J.env.drop i) = R) (fun iv _ => n - (intOf iv).toNat)
  case atStart => exact ⟨0, Nat.zero_le _, rfl, rfl, HR.out⟩
  case round =>
    obtain ⟨i, hi, rfl, rfl, hrest⟩ := hrel
    have HREST := Lib.hid hrest
    clear hrest
    by_cases hlt : i < n
    · obtain ⟨ad, u, rfl, _, hu, hcell⟩ := HRD.out.at_ hlt
      simp only [strsC, List.getElem?_map, Option.map_eq_some_iff] at hu
      obtain ⟨x, hx, rfl⟩ := hu
      have hdrop : J.env.drop i = x :: J.env.drop (i + 1) := by
        rw [List.drop_eq_getElem_cons (by rw [HNN.out]; exact hlt)]
        rw [List.getElem?_eq_getElem (by rw [HNN.out]; exact hlt)] at hx
        rw [Option.some.inj hx]
      have hc := hcut x
      cases hpx : Lib.hasPrefix x.data.toList P with
      | true =>
        have he := HREST.out
        rw [hdrop, getOf, if_pos hpx] at he
        rw [hpx] at hc
        have HE := Lib.hid he
        clear hdrop he
        go_wp2_with (go_at_call 42; refine (hc _).mono ?_; rintro e w1 ⟨rfl, rfl⟩)
        go_returns
        rw [← HE.out]
        exact ⟨rfl, rfl⟩
      | false =>
        have he := HREST.out
        rw [hdrop, getOf, if_neg (by rw [hpx]; decide)] at he
        rw [hpx] at hc
        have HE := Lib.hid he
        clear hdrop he
        go_wp2_with (go_at_call 42; refine (hc _).mono ?_; rintro e w1 ⟨rfl, rfl⟩)
        go_roundw
        case rel => exact ⟨i + 1, by omega, by go_num, trivial, HE.out⟩
        case measure => simp [intOf]; omega
    · obtain rfl : i = n := by omega
      have he := HREST.out
      rw [List.drop_eq_nil_of_le (by rw [HNN.out]; exact Nat.le_refl _)] at he
      have HE := Lib.hid he
      clear he
      go_wp2_with fail
      go_returns
      rw [← HE.out]
      exact ⟨rfl, rfl⟩

end Go.Proofs.YtlncmknikjloeaaGreatDoor
end
