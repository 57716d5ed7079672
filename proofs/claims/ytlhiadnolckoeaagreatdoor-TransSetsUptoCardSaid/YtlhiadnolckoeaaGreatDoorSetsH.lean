/-
  The loops of the reference's class, each a theorem of its own over the frame written out (printed by wip/tools/refcls2.py).
-/
import Derived.Test.YtlhiadnolckoeaaGreatDoorR11
import Derived.Test.YtlhiadnolckoeaaGreatDoorSetsB
import Derived.Test.YtlhiadnolckoeaaGreatDoorR13
import Derived.Test.YtlhiadnolckoeaaGreatDoorSetsL

section
namespace Go.Proofs.YtlhiadnolckoeaaGreatDoor
open Go.RowKit Go.Maps

set_option maxHeartbeats 400000 in
theorem refBetween (c a b : Int) (w : World) : Calls Tryz.prog 71 #[.int .u8 c, .int .u8 a, .int .u8 b] w fun e w' => e = .returned (.bool (decide (a ≤ c) && decide (c ≤ b))) ∧ w = w' := by
  by_cases h1 : a ≤ c
  · by_cases h2 : c ≤ b
    · rw [show (decide (a ≤ c) && decide (c ≤ b)) = true by simp [h1, h2]]
      go_enter Tryz.func71, Tryz.ntmps71
      go_wp2
      go_returns
      exact ⟨rfl, rfl⟩
    · rw [show (decide (a ≤ c) && decide (c ≤ b)) = false by simp [h2]]
      go_enter Tryz.func71, Tryz.ntmps71
      go_wp2
      go_returns
      exact ⟨rfl, rfl⟩
  · rw [show (decide (a ≤ c) && decide (c ≤ b)) = false by simp [h1]]
    go_enter Tryz.func71, Tryz.ntmps71
    go_wp2
    go_returns
    exact ⟨rfl, rfl⟩
/-- the reference's Class at a name -/
def RefCls (nm : ByteArray) (f : UInt8 → Bool) : Prop := ∀ (c : UInt8) (w : World), Calls Tryz.prog 35 #[.string nm, .int .u8 (c.toNat : Int)] w fun e w' => e = .returned (.bool (f c)) ∧ w = w'
theorem u8_is {c : UInt8} {z : Int} (hz : (c.toNat : Int) = z) (n : UInt8) : (c == n) = decide (z = (n.toNat : Int)) := by
  subst hz
  rw [Bool.eq_iff_iff, beq_iff_eq, decide_eq_true_eq, Int.natCast_inj]
  exact UInt8.toNat_inj.symm

set_option linter.unusedSimpArgs false in
set_option maxRecDepth 100000 in
set_option maxHeartbeats 2000000 in
theorem ref_alpha : RefCls ⟨#[97, 108, 112, 104, 97]⟩ Pl.alphaB := by
  intro c w
  obtain ⟨z, hz⟩ : ∃ z : Int, (c.toNat : Int) = z := ⟨_, rfl⟩
  have hz0 : 0 ≤ z := by omega
  have hz1 : z < 256 := by have := c.toNat_lt; omega
  have bU := fun W => refBetween z 65 90 W
  have bL := fun W => refBetween z 97 122 W
  have bD := fun W => refBetween z 48 57 W
  obtain ⟨U, hU⟩ : ∃ U, (decide (65 ≤ z) && decide (z ≤ 90)) = U := ⟨_, rfl⟩
  obtain ⟨L, hL⟩ : ∃ L, (decide (97 ≤ z) && decide (z ≤ 122)) = L := ⟨_, rfl⟩
  obtain ⟨D, hD⟩ : ∃ D, (decide (48 ≤ z) && decide (z ≤ 57)) = D := ⟨_, rfl⟩
  rw [hU] at bU
  rw [hL] at bL
  rw [hD] at bD
  have HU := Lib.hid hU
  have HL := Lib.hid hL
  have HD := Lib.hid hD
  have HZ := Lib.hid hz
  obtain ⟨R, hR⟩ : ∃ R, Pl.alphaB c = R := ⟨_, rfl⟩
  rw [hR]
  have HR := Lib.hid hR
  clear hR
  rw [hz]
  clear hU hL hD hz
  go_enter Tryz.func35, Tryz.ntmps35
  go_wp2_with (first
    | (go_at_call 71; with_reducible refine (bU _).mono ?_; rintro e w1 ⟨rfl, rfl⟩)
    | (go_at_call 71; with_reducible refine (bL _).mono ?_; rintro e w1 ⟨rfl, rfl⟩)
    | (go_at_call 71; with_reducible refine (bD _).mono ?_; rintro e w1 ⟨rfl, rfl⟩))
  all_goals
    go_returns
    refine ⟨congrArg (fun b => Ending.returned (.bool b)) ?_, rfl⟩
    have hu := HU.out
    have hl := HL.out
    have hd := HD.out
    have hz := HZ.out
    have hR := HR.out
    clear HU HL HD HZ HR bU bL bD
    rw [← hR, Bool.eq_iff_iff]
    subst hu hl hd
    clear hR
    simp [Pl.alphaB, Pl.digitB, Pl.alnumB, Pl.upperB, Pl.lowerB, Pl.blankB, Pl.spaceB, Pl.cntrlB, Pl.printB, Pl.graphB, Pl.punctB, Pl.xdigitB, Pl.between, ← UInt8.toNat_inj] at *
    omega

set_option linter.unusedSimpArgs false in
set_option maxRecDepth 100000 in
set_option maxHeartbeats 2000000 in
theorem ref_digit : RefCls ⟨#[100, 105, 103, 105, 116]⟩ Pl.digitB := by
  intro c w
  obtain ⟨z, hz⟩ : ∃ z : Int, (c.toNat : Int) = z := ⟨_, rfl⟩
  have hz0 : 0 ≤ z := by omega
  have hz1 : z < 256 := by have := c.toNat_lt; omega
  have bU := fun W => refBetween z 65 90 W
  have bL := fun W => refBetween z 97 122 W
  have bD := fun W => refBetween z 48 57 W
  obtain ⟨U, hU⟩ : ∃ U, (decide (65 ≤ z) && decide (z ≤ 90)) = U := ⟨_, rfl⟩
  obtain ⟨L, hL⟩ : ∃ L, (decide (97 ≤ z) && decide (z ≤ 122)) = L := ⟨_, rfl⟩
  obtain ⟨D, hD⟩ : ∃ D, (decide (48 ≤ z) && decide (z ≤ 57)) = D := ⟨_, rfl⟩
  rw [hU] at bU
  rw [hL] at bL
  rw [hD] at bD
  have HU := Lib.hid hU
  have HL := Lib.hid hL
  have HD := Lib.hid hD
  have HZ := Lib.hid hz
  obtain ⟨R, hR⟩ : ∃ R, Pl.digitB c = R := ⟨_, rfl⟩
  rw [hR]
  have HR := Lib.hid hR
  clear hR
  rw [hz]
  clear hU hL hD hz
  go_enter Tryz.func35, Tryz.ntmps35
  go_wp2_with (first
    | (go_at_call 71; with_reducible refine (bU _).mono ?_; rintro e w1 ⟨rfl, rfl⟩)
    | (go_at_call 71; with_reducible refine (bL _).mono ?_; rintro e w1 ⟨rfl, rfl⟩)
    | (go_at_call 71; with_reducible refine (bD _).mono ?_; rintro e w1 ⟨rfl, rfl⟩))
  all_goals
    go_returns
    refine ⟨congrArg (fun b => Ending.returned (.bool b)) ?_, rfl⟩
    have hu := HU.out
    have hl := HL.out
    have hd := HD.out
    have hz := HZ.out
    have hR := HR.out
    clear HU HL HD HZ HR bU bL bD
    rw [← hR, Bool.eq_iff_iff]
    subst hu hl hd
    clear hR
    simp [Pl.alphaB, Pl.digitB, Pl.alnumB, Pl.upperB, Pl.lowerB, Pl.blankB, Pl.spaceB, Pl.cntrlB, Pl.printB, Pl.graphB, Pl.punctB, Pl.xdigitB, Pl.between, ← UInt8.toNat_inj] at *
    omega

set_option linter.unusedSimpArgs false in
set_option maxRecDepth 100000 in
set_option maxHeartbeats 2000000 in
theorem ref_alnum : RefCls ⟨#[97, 108, 110, 117, 109]⟩ Pl.alnumB := by
  intro c w
  obtain ⟨z, hz⟩ : ∃ z : Int, (c.toNat : Int) = z := ⟨_, rfl⟩
  have hz0 : 0 ≤ z := by omega
  have hz1 : z < 256 := by have := c.toNat_lt; omega
  have bU := fun W => refBetween z 65 90 W
  have bL := fun W => refBetween z 97 122 W
  have bD := fun W => refBetween z 48 57 W
  obtain ⟨U, hU⟩ : ∃ U, (decide (65 ≤ z) && decide (z ≤ 90)) = U := ⟨_, rfl⟩
  obtain ⟨L, hL⟩ : ∃ L, (decide (97 ≤ z) && decide (z ≤ 122)) = L := ⟨_, rfl⟩
  obtain ⟨D, hD⟩ : ∃ D, (decide (48 ≤ z) && decide (z ≤ 57)) = D := ⟨_, rfl⟩
  rw [hU] at bU
  rw [hL] at bL
  rw [hD] at bD
  have HU := Lib.hid hU
  have HL := Lib.hid hL
  have HD := Lib.hid hD
  have HZ := Lib.hid hz
  obtain ⟨R, hR⟩ : ∃ R, Pl.alnumB c = R := ⟨_, rfl⟩
  rw [hR]
  have HR := Lib.hid hR
  clear hR
  rw [hz]
  clear hU hL hD hz
  go_enter Tryz.func35, Tryz.ntmps35
  go_wp2_with (first
    | (go_at_call 71; with_reducible refine (bU _).mono ?_; rintro e w1 ⟨rfl, rfl⟩)
    | (go_at_call 71; with_reducible refine (bL _).mono ?_; rintro e w1 ⟨rfl, rfl⟩)
    | (go_at_call 71; with_reducible refine (bD _).mono ?_; rintro e w1 ⟨rfl, rfl⟩))
  all_goals
    go_returns
    refine ⟨congrArg (fun b => Ending.returned (.bool b)) ?_, rfl⟩
    have hu := HU.out
    have hl := HL.out
    have hd := HD.out
    have hz := HZ.out
    have hR := HR.out
    clear HU HL HD HZ HR bU bL bD
    rw [← hR, Bool.eq_iff_iff]
    subst hu hl hd
    clear hR
    simp [Pl.alphaB, Pl.digitB, Pl.alnumB, Pl.upperB, Pl.lowerB, Pl.blankB, Pl.spaceB, Pl.cntrlB, Pl.printB, Pl.graphB, Pl.punctB, Pl.xdigitB, Pl.between, ← UInt8.toNat_inj] at *
    omega

set_option linter.unusedSimpArgs false in
set_option maxRecDepth 100000 in
set_option maxHeartbeats 2000000 in
theorem ref_upper : RefCls ⟨#[117, 112, 112, 101, 114]⟩ Pl.upperB := by
  intro c w
  obtain ⟨z, hz⟩ : ∃ z : Int, (c.toNat : Int) = z := ⟨_, rfl⟩
  have hz0 : 0 ≤ z := by omega
  have hz1 : z < 256 := by have := c.toNat_lt; omega
  have bU := fun W => refBetween z 65 90 W
  have bL := fun W => refBetween z 97 122 W
  have bD := fun W => refBetween z 48 57 W
  obtain ⟨U, hU⟩ : ∃ U, (decide (65 ≤ z) && decide (z ≤ 90)) = U := ⟨_, rfl⟩
  obtain ⟨L, hL⟩ : ∃ L, (decide (97 ≤ z) && decide (z ≤ 122)) = L := ⟨_, rfl⟩
  obtain ⟨D, hD⟩ : ∃ D, (decide (48 ≤ z) && decide (z ≤ 57)) = D := ⟨_, rfl⟩
  rw [hU] at bU
  rw [hL] at bL
  rw [hD] at bD
  have HU := Lib.hid hU
  have HL := Lib.hid hL
  have HD := Lib.hid hD
  have HZ := Lib.hid hz
  obtain ⟨R, hR⟩ : ∃ R, Pl.upperB c = R := ⟨_, rfl⟩
  rw [hR]
  have HR := Lib.hid hR
  clear hR
  rw [hz]
  clear hU hL hD hz
  go_enter Tryz.func35, Tryz.ntmps35
  go_wp2_with (first
    | (go_at_call 71; with_reducible refine (bU _).mono ?_; rintro e w1 ⟨rfl, rfl⟩)
    | (go_at_call 71; with_reducible refine (bL _).mono ?_; rintro e w1 ⟨rfl, rfl⟩)
    | (go_at_call 71; with_reducible refine (bD _).mono ?_; rintro e w1 ⟨rfl, rfl⟩))
  all_goals
    go_returns
    refine ⟨congrArg (fun b => Ending.returned (.bool b)) ?_, rfl⟩
    have hu := HU.out
    have hl := HL.out
    have hd := HD.out
    have hz := HZ.out
    have hR := HR.out
    clear HU HL HD HZ HR bU bL bD
    rw [← hR, Bool.eq_iff_iff]
    subst hu hl hd
    clear hR
    simp [Pl.alphaB, Pl.digitB, Pl.alnumB, Pl.upperB, Pl.lowerB, Pl.blankB, Pl.spaceB, Pl.cntrlB, Pl.printB, Pl.graphB, Pl.punctB, Pl.xdigitB, Pl.between, ← UInt8.toNat_inj] at *
    omega

set_option linter.unusedSimpArgs false in
set_option maxRecDepth 100000 in
set_option maxHeartbeats 2000000 in
theorem ref_lower : RefCls ⟨#[108, 111, 119, 101, 114]⟩ Pl.lowerB := by
  intro c w
  obtain ⟨z, hz⟩ : ∃ z : Int, (c.toNat : Int) = z := ⟨_, rfl⟩
  have hz0 : 0 ≤ z := by omega
  have hz1 : z < 256 := by have := c.toNat_lt; omega
  have bU := fun W => refBetween z 65 90 W
  have bL := fun W => refBetween z 97 122 W
  have bD := fun W => refBetween z 48 57 W
  obtain ⟨U, hU⟩ : ∃ U, (decide (65 ≤ z) && decide (z ≤ 90)) = U := ⟨_, rfl⟩
  obtain ⟨L, hL⟩ : ∃ L, (decide (97 ≤ z) && decide (z ≤ 122)) = L := ⟨_, rfl⟩
  obtain ⟨D, hD⟩ : ∃ D, (decide (48 ≤ z) && decide (z ≤ 57)) = D := ⟨_, rfl⟩
  rw [hU] at bU
  rw [hL] at bL
  rw [hD] at bD
  have HU := Lib.hid hU
  have HL := Lib.hid hL
  have HD := Lib.hid hD
  have HZ := Lib.hid hz
  obtain ⟨R, hR⟩ : ∃ R, Pl.lowerB c = R := ⟨_, rfl⟩
  rw [hR]
  have HR := Lib.hid hR
  clear hR
  rw [hz]
  clear hU hL hD hz
  go_enter Tryz.func35, Tryz.ntmps35
  go_wp2_with (first
    | (go_at_call 71; with_reducible refine (bU _).mono ?_; rintro e w1 ⟨rfl, rfl⟩)
    | (go_at_call 71; with_reducible refine (bL _).mono ?_; rintro e w1 ⟨rfl, rfl⟩)
    | (go_at_call 71; with_reducible refine (bD _).mono ?_; rintro e w1 ⟨rfl, rfl⟩))
  all_goals
    go_returns
    refine ⟨congrArg (fun b => Ending.returned (.bool b)) ?_, rfl⟩
    have hu := HU.out
    have hl := HL.out
    have hd := HD.out
    have hz := HZ.out
    have hR := HR.out
    clear HU HL HD HZ HR bU bL bD
    rw [← hR, Bool.eq_iff_iff]
    subst hu hl hd
    clear hR
    simp [Pl.alphaB, Pl.digitB, Pl.alnumB, Pl.upperB, Pl.lowerB, Pl.blankB, Pl.spaceB, Pl.cntrlB, Pl.printB, Pl.graphB, Pl.punctB, Pl.xdigitB, Pl.between, ← UInt8.toNat_inj] at *
    omega

set_option linter.unusedSimpArgs false in
set_option maxRecDepth 100000 in
set_option maxHeartbeats 2000000 in
theorem ref_blank : RefCls ⟨#[98, 108, 97, 110, 107]⟩ Pl.blankB := by
  intro c w
  obtain ⟨z, hz⟩ : ∃ z : Int, (c.toNat : Int) = z := ⟨_, rfl⟩
  have hz0 : 0 ≤ z := by omega
  have hz1 : z < 256 := by have := c.toNat_lt; omega
  have bU := fun W => refBetween z 65 90 W
  have bL := fun W => refBetween z 97 122 W
  have bD := fun W => refBetween z 48 57 W
  obtain ⟨U, hU⟩ : ∃ U, (decide (65 ≤ z) && decide (z ≤ 90)) = U := ⟨_, rfl⟩
  obtain ⟨L, hL⟩ : ∃ L, (decide (97 ≤ z) && decide (z ≤ 122)) = L := ⟨_, rfl⟩
  obtain ⟨D, hD⟩ : ∃ D, (decide (48 ≤ z) && decide (z ≤ 57)) = D := ⟨_, rfl⟩
  rw [hU] at bU
  rw [hL] at bL
  rw [hD] at bD
  have HU := Lib.hid hU
  have HL := Lib.hid hL
  have HD := Lib.hid hD
  have HZ := Lib.hid hz
  obtain ⟨R, hR⟩ : ∃ R, Pl.blankB c = R := ⟨_, rfl⟩
  rw [hR]
  have HR := Lib.hid hR
  clear hR
  rw [hz]
  clear hU hL hD hz
  go_enter Tryz.func35, Tryz.ntmps35
  go_wp2_with (first
    | (go_at_call 71; with_reducible refine (bU _).mono ?_; rintro e w1 ⟨rfl, rfl⟩)
    | (go_at_call 71; with_reducible refine (bL _).mono ?_; rintro e w1 ⟨rfl, rfl⟩)
    | (go_at_call 71; with_reducible refine (bD _).mono ?_; rintro e w1 ⟨rfl, rfl⟩))
  all_goals
    go_returns
    refine ⟨congrArg (fun b => Ending.returned (.bool b)) ?_, rfl⟩
    have hu := HU.out
    have hl := HL.out
    have hd := HD.out
    have hz := HZ.out
    have hR := HR.out
    clear HU HL HD HZ HR bU bL bD
    rw [← hR, Bool.eq_iff_iff]
    subst hu hl hd
    clear hR
    simp [Pl.alphaB, Pl.digitB, Pl.alnumB, Pl.upperB, Pl.lowerB, Pl.blankB, Pl.spaceB, Pl.cntrlB, Pl.printB, Pl.graphB, Pl.punctB, Pl.xdigitB, Pl.between, ← UInt8.toNat_inj] at *
    omega

set_option linter.unusedSimpArgs false in
set_option maxRecDepth 100000 in
set_option maxHeartbeats 2000000 in
theorem ref_space : RefCls ⟨#[115, 112, 97, 99, 101]⟩ Pl.spaceB := by
  intro c w
  obtain ⟨z, hz⟩ : ∃ z : Int, (c.toNat : Int) = z := ⟨_, rfl⟩
  have hz0 : 0 ≤ z := by omega
  have hz1 : z < 256 := by have := c.toNat_lt; omega
  have bU := fun W => refBetween z 65 90 W
  have bL := fun W => refBetween z 97 122 W
  have bD := fun W => refBetween z 48 57 W
  obtain ⟨U, hU⟩ : ∃ U, (decide (65 ≤ z) && decide (z ≤ 90)) = U := ⟨_, rfl⟩
  obtain ⟨L, hL⟩ : ∃ L, (decide (97 ≤ z) && decide (z ≤ 122)) = L := ⟨_, rfl⟩
  obtain ⟨D, hD⟩ : ∃ D, (decide (48 ≤ z) && decide (z ≤ 57)) = D := ⟨_, rfl⟩
  rw [hU] at bU
  rw [hL] at bL
  rw [hD] at bD
  have HU := Lib.hid hU
  have HL := Lib.hid hL
  have HD := Lib.hid hD
  have HZ := Lib.hid hz
  obtain ⟨R, hR⟩ : ∃ R, Pl.spaceB c = R := ⟨_, rfl⟩
  rw [hR]
  have HR := Lib.hid hR
  clear hR
  rw [hz]
  clear hU hL hD hz
  go_enter Tryz.func35, Tryz.ntmps35
  go_wp2_with (first
    | (go_at_call 71; with_reducible refine (bU _).mono ?_; rintro e w1 ⟨rfl, rfl⟩)
    | (go_at_call 71; with_reducible refine (bL _).mono ?_; rintro e w1 ⟨rfl, rfl⟩)
    | (go_at_call 71; with_reducible refine (bD _).mono ?_; rintro e w1 ⟨rfl, rfl⟩))
  all_goals
    go_returns
    refine ⟨congrArg (fun b => Ending.returned (.bool b)) ?_, rfl⟩
    have hu := HU.out
    have hl := HL.out
    have hd := HD.out
    have hz := HZ.out
    have hR := HR.out
    clear HU HL HD HZ HR bU bL bD
    rw [← hR, Bool.eq_iff_iff]
    subst hu hl hd
    clear hR
    simp [Pl.alphaB, Pl.digitB, Pl.alnumB, Pl.upperB, Pl.lowerB, Pl.blankB, Pl.spaceB, Pl.cntrlB, Pl.printB, Pl.graphB, Pl.punctB, Pl.xdigitB, Pl.between, ← UInt8.toNat_inj] at *
    omega

set_option linter.unusedSimpArgs false in
set_option maxRecDepth 100000 in
set_option maxHeartbeats 2000000 in
theorem ref_cntrl : RefCls ⟨#[99, 110, 116, 114, 108]⟩ Pl.cntrlB := by
  intro c w
  obtain ⟨z, hz⟩ : ∃ z : Int, (c.toNat : Int) = z := ⟨_, rfl⟩
  have hz0 : 0 ≤ z := by omega
  have hz1 : z < 256 := by have := c.toNat_lt; omega
  have bU := fun W => refBetween z 65 90 W
  have bL := fun W => refBetween z 97 122 W
  have bD := fun W => refBetween z 48 57 W
  obtain ⟨U, hU⟩ : ∃ U, (decide (65 ≤ z) && decide (z ≤ 90)) = U := ⟨_, rfl⟩
  obtain ⟨L, hL⟩ : ∃ L, (decide (97 ≤ z) && decide (z ≤ 122)) = L := ⟨_, rfl⟩
  obtain ⟨D, hD⟩ : ∃ D, (decide (48 ≤ z) && decide (z ≤ 57)) = D := ⟨_, rfl⟩
  rw [hU] at bU
  rw [hL] at bL
  rw [hD] at bD
  have HU := Lib.hid hU
  have HL := Lib.hid hL
  have HD := Lib.hid hD
  have HZ := Lib.hid hz
  obtain ⟨R, hR⟩ : ∃ R, Pl.cntrlB c = R := ⟨_, rfl⟩
  rw [hR]
  have HR := Lib.hid hR
  clear hR
  rw [hz]
  clear hU hL hD hz
  go_enter Tryz.func35, Tryz.ntmps35
  go_wp2_with (first
    | (go_at_call 71; with_reducible refine (bU _).mono ?_; rintro e w1 ⟨rfl, rfl⟩)
    | (go_at_call 71; with_reducible refine (bL _).mono ?_; rintro e w1 ⟨rfl, rfl⟩)
    | (go_at_call 71; with_reducible refine (bD _).mono ?_; rintro e w1 ⟨rfl, rfl⟩))
  all_goals
    go_returns
    refine ⟨congrArg (fun b => Ending.returned (.bool b)) ?_, rfl⟩
    have hu := HU.out
    have hl := HL.out
    have hd := HD.out
    have hz := HZ.out
    have hR := HR.out
    clear HU HL HD HZ HR bU bL bD
    rw [← hR, Bool.eq_iff_iff]
    subst hu hl hd
    clear hR
    simp [Pl.alphaB, Pl.digitB, Pl.alnumB, Pl.upperB, Pl.lowerB, Pl.blankB, Pl.spaceB, Pl.cntrlB, Pl.printB, Pl.graphB, Pl.punctB, Pl.xdigitB, Pl.between, ← UInt8.toNat_inj] at *
    omega

set_option linter.unusedSimpArgs false in
set_option maxRecDepth 100000 in
set_option maxHeartbeats 2000000 in
theorem ref_print : RefCls ⟨#[112, 114, 105, 110, 116]⟩ Pl.printB := by
  intro c w
  obtain ⟨z, hz⟩ : ∃ z : Int, (c.toNat : Int) = z := ⟨_, rfl⟩
  have hz0 : 0 ≤ z := by omega
  have hz1 : z < 256 := by have := c.toNat_lt; omega
  have bU := fun W => refBetween z 65 90 W
  have bL := fun W => refBetween z 97 122 W
  have bD := fun W => refBetween z 48 57 W
  obtain ⟨U, hU⟩ : ∃ U, (decide (65 ≤ z) && decide (z ≤ 90)) = U := ⟨_, rfl⟩
  obtain ⟨L, hL⟩ : ∃ L, (decide (97 ≤ z) && decide (z ≤ 122)) = L := ⟨_, rfl⟩
  obtain ⟨D, hD⟩ : ∃ D, (decide (48 ≤ z) && decide (z ≤ 57)) = D := ⟨_, rfl⟩
  rw [hU] at bU
  rw [hL] at bL
  rw [hD] at bD
  have HU := Lib.hid hU
  have HL := Lib.hid hL
  have HD := Lib.hid hD
  have HZ := Lib.hid hz
  obtain ⟨R, hR⟩ : ∃ R, Pl.printB c = R := ⟨_, rfl⟩
  rw [hR]
  have HR := Lib.hid hR
  clear hR
  rw [hz]
  clear hU hL hD hz
  go_enter Tryz.func35, Tryz.ntmps35
  go_wp2_with (first
    | (go_at_call 71; with_reducible refine (bU _).mono ?_; rintro e w1 ⟨rfl, rfl⟩)
    | (go_at_call 71; with_reducible refine (bL _).mono ?_; rintro e w1 ⟨rfl, rfl⟩)
    | (go_at_call 71; with_reducible refine (bD _).mono ?_; rintro e w1 ⟨rfl, rfl⟩))
  all_goals
    go_returns
    refine ⟨congrArg (fun b => Ending.returned (.bool b)) ?_, rfl⟩
    have hu := HU.out
    have hl := HL.out
    have hd := HD.out
    have hz := HZ.out
    have hR := HR.out
    clear HU HL HD HZ HR bU bL bD
    rw [← hR, Bool.eq_iff_iff]
    subst hu hl hd
    clear hR
    simp [Pl.alphaB, Pl.digitB, Pl.alnumB, Pl.upperB, Pl.lowerB, Pl.blankB, Pl.spaceB, Pl.cntrlB, Pl.printB, Pl.graphB, Pl.punctB, Pl.xdigitB, Pl.between, ← UInt8.toNat_inj] at *
    omega

set_option linter.unusedSimpArgs false in
set_option maxRecDepth 100000 in
set_option maxHeartbeats 2000000 in
theorem ref_graph : RefCls ⟨#[103, 114, 97, 112, 104]⟩ Pl.graphB := by
  intro c w
  obtain ⟨z, hz⟩ : ∃ z : Int, (c.toNat : Int) = z := ⟨_, rfl⟩
  have hz0 : 0 ≤ z := by omega
  have hz1 : z < 256 := by have := c.toNat_lt; omega
  have bU := fun W => refBetween z 65 90 W
  have bL := fun W => refBetween z 97 122 W
  have bD := fun W => refBetween z 48 57 W
  obtain ⟨U, hU⟩ : ∃ U, (decide (65 ≤ z) && decide (z ≤ 90)) = U := ⟨_, rfl⟩
  obtain ⟨L, hL⟩ : ∃ L, (decide (97 ≤ z) && decide (z ≤ 122)) = L := ⟨_, rfl⟩
  obtain ⟨D, hD⟩ : ∃ D, (decide (48 ≤ z) && decide (z ≤ 57)) = D := ⟨_, rfl⟩
  rw [hU] at bU
  rw [hL] at bL
  rw [hD] at bD
  have HU := Lib.hid hU
  have HL := Lib.hid hL
  have HD := Lib.hid hD
  have HZ := Lib.hid hz
  obtain ⟨R, hR⟩ : ∃ R, Pl.graphB c = R := ⟨_, rfl⟩
  rw [hR]
  have HR := Lib.hid hR
  clear hR
  rw [hz]
  clear hU hL hD hz
  go_enter Tryz.func35, Tryz.ntmps35
  go_wp2_with (first
    | (go_at_call 71; with_reducible refine (bU _).mono ?_; rintro e w1 ⟨rfl, rfl⟩)
    | (go_at_call 71; with_reducible refine (bL _).mono ?_; rintro e w1 ⟨rfl, rfl⟩)
    | (go_at_call 71; with_reducible refine (bD _).mono ?_; rintro e w1 ⟨rfl, rfl⟩))
  all_goals
    go_returns
    refine ⟨congrArg (fun b => Ending.returned (.bool b)) ?_, rfl⟩
    have hu := HU.out
    have hl := HL.out
    have hd := HD.out
    have hz := HZ.out
    have hR := HR.out
    clear HU HL HD HZ HR bU bL bD
    rw [← hR, Bool.eq_iff_iff]
    subst hu hl hd
    clear hR
    simp [Pl.alphaB, Pl.digitB, Pl.alnumB, Pl.upperB, Pl.lowerB, Pl.blankB, Pl.spaceB, Pl.cntrlB, Pl.printB, Pl.graphB, Pl.punctB, Pl.xdigitB, Pl.between, ← UInt8.toNat_inj] at *
    omega

set_option linter.unusedSimpArgs false in
set_option maxRecDepth 100000 in
set_option maxHeartbeats 2000000 in
theorem ref_punct : RefCls ⟨#[112, 117, 110, 99, 116]⟩ Pl.punctB := by
  intro c w
  obtain ⟨z, hz⟩ : ∃ z : Int, (c.toNat : Int) = z := ⟨_, rfl⟩
  have hz0 : 0 ≤ z := by omega
  have hz1 : z < 256 := by have := c.toNat_lt; omega
  have bU := fun W => refBetween z 65 90 W
  have bL := fun W => refBetween z 97 122 W
  have bD := fun W => refBetween z 48 57 W
  obtain ⟨U, hU⟩ : ∃ U, (decide (65 ≤ z) && decide (z ≤ 90)) = U := ⟨_, rfl⟩
  obtain ⟨L, hL⟩ : ∃ L, (decide (97 ≤ z) && decide (z ≤ 122)) = L := ⟨_, rfl⟩
  obtain ⟨D, hD⟩ : ∃ D, (decide (48 ≤ z) && decide (z ≤ 57)) = D := ⟨_, rfl⟩
  rw [hU] at bU
  rw [hL] at bL
  rw [hD] at bD
  have HU := Lib.hid hU
  have HL := Lib.hid hL
  have HD := Lib.hid hD
  have HZ := Lib.hid hz
  obtain ⟨R, hR⟩ : ∃ R, Pl.punctB c = R := ⟨_, rfl⟩
  rw [hR]
  have HR := Lib.hid hR
  clear hR
  rw [hz]
  clear hU hL hD hz
  go_enter Tryz.func35, Tryz.ntmps35
  go_wp2_with (first
    | (go_at_call 71; with_reducible refine (bU _).mono ?_; rintro e w1 ⟨rfl, rfl⟩)
    | (go_at_call 71; with_reducible refine (bL _).mono ?_; rintro e w1 ⟨rfl, rfl⟩)
    | (go_at_call 71; with_reducible refine (bD _).mono ?_; rintro e w1 ⟨rfl, rfl⟩))
  all_goals
    go_returns
    refine ⟨congrArg (fun b => Ending.returned (.bool b)) ?_, rfl⟩
    have hu := HU.out
    have hl := HL.out
    have hd := HD.out
    have hz := HZ.out
    have hR := HR.out
    clear HU HL HD HZ HR bU bL bD
    rw [← hR, Bool.eq_iff_iff]
    subst hu hl hd
    clear hR
    simp [Pl.alphaB, Pl.digitB, Pl.alnumB, Pl.upperB, Pl.lowerB, Pl.blankB, Pl.spaceB, Pl.cntrlB, Pl.printB, Pl.graphB, Pl.punctB, Pl.xdigitB, Pl.between, ← UInt8.toNat_inj] at *
    omega

set_option linter.unusedSimpArgs false in
set_option maxRecDepth 100000 in
set_option maxHeartbeats 2000000 in
theorem ref_xdigit : RefCls ⟨#[120, 100, 105, 103, 105, 116]⟩ Pl.xdigitB := by
  intro c w
  obtain ⟨z, hz⟩ : ∃ z : Int, (c.toNat : Int) = z := ⟨_, rfl⟩
  have hz0 : 0 ≤ z := by omega
  have hz1 : z < 256 := by have := c.toNat_lt; omega
  have bU := fun W => refBetween z 65 90 W
  have bL := fun W => refBetween z 97 122 W
  have bD := fun W => refBetween z 48 57 W
  obtain ⟨U, hU⟩ : ∃ U, (decide (65 ≤ z) && decide (z ≤ 90)) = U := ⟨_, rfl⟩
  obtain ⟨L, hL⟩ : ∃ L, (decide (97 ≤ z) && decide (z ≤ 122)) = L := ⟨_, rfl⟩
  obtain ⟨D, hD⟩ : ∃ D, (decide (48 ≤ z) && decide (z ≤ 57)) = D := ⟨_, rfl⟩
  rw [hU] at bU
  rw [hL] at bL
  rw [hD] at bD
  have HU := Lib.hid hU
  have HL := Lib.hid hL
  have HD := Lib.hid hD
  have HZ := Lib.hid hz
  obtain ⟨R, hR⟩ : ∃ R, Pl.xdigitB c = R := ⟨_, rfl⟩
  rw [hR]
  have HR := Lib.hid hR
  clear hR
  rw [hz]
  clear hU hL hD hz
  go_enter Tryz.func35, Tryz.ntmps35
  go_wp2_with (first
    | (go_at_call 71; with_reducible refine (bU _).mono ?_; rintro e w1 ⟨rfl, rfl⟩)
    | (go_at_call 71; with_reducible refine (bL _).mono ?_; rintro e w1 ⟨rfl, rfl⟩)
    | (go_at_call 71; with_reducible refine (bD _).mono ?_; rintro e w1 ⟨rfl, rfl⟩))
  all_goals
    go_returns
    refine ⟨congrArg (fun b => Ending.returned (.bool b)) ?_, rfl⟩
    have hu := HU.out
    have hl := HL.out
    have hd := HD.out
    have hz := HZ.out
    have hR := HR.out
    clear HU HL HD HZ HR bU bL bD
    rw [← hR, Bool.eq_iff_iff]
    subst hu hl hd
    clear hR
    simp [Pl.alphaB, Pl.digitB, Pl.alnumB, Pl.upperB, Pl.lowerB, Pl.blankB, Pl.spaceB, Pl.cntrlB, Pl.printB, Pl.graphB, Pl.punctB, Pl.xdigitB, Pl.between, ← UInt8.toNat_inj] at *
    omega

set_option maxRecDepth 100000 in
set_option maxHeartbeats 2000000 in
theorem ref_none (l : List UInt8) (h0 : l ≠ [97, 108, 112, 104, 97]) (h1 : l ≠ [100, 105, 103, 105, 116]) (h2 : l ≠ [97, 108, 110, 117, 109]) (h3 : l ≠ [117, 112, 112, 101, 114]) (h4 : l ≠ [108, 111, 119, 101, 114]) (h5 : l ≠ [98, 108, 97, 110, 107]) (h6 : l ≠ [115, 112, 97, 99, 101]) (h7 : l ≠ [99, 110, 116, 114, 108]) (h8 : l ≠ [112, 114, 105, 110, 116]) (h9 : l ≠ [103, 114, 97, 112, 104]) (h10 : l ≠ [112, 117, 110, 99, 116]) (h11 : l ≠ [120, 100, 105, 103, 105, 116]) : RefCls (strB l) (fun _ => false) := by
  intro c w
  obtain ⟨z, hz⟩ : ∃ z : Int, (c.toNat : Int) = z := ⟨_, rfl⟩
  have hz0 : 0 ≤ z := by omega
  have hz1 : z < 256 := by have := c.toNat_lt; omega
  have bU := fun W => refBetween z 65 90 W
  have bL := fun W => refBetween z 97 122 W
  have bD := fun W => refBetween z 48 57 W
  obtain ⟨U, hU⟩ : ∃ U, (decide (65 ≤ z) && decide (z ≤ 90)) = U := ⟨_, rfl⟩
  obtain ⟨L, hL⟩ : ∃ L, (decide (97 ≤ z) && decide (z ≤ 122)) = L := ⟨_, rfl⟩
  obtain ⟨D, hD⟩ : ∃ D, (decide (48 ≤ z) && decide (z ≤ 57)) = D := ⟨_, rfl⟩
  rw [hU] at bU
  rw [hL] at bL
  rw [hD] at bD
  rw [hz]
  clear hU hL hD hz
  have g0 : ((strB l).toList == [97, 108, 112, 104, 97]) = false := by rw [strB_toList]; exact beq_eq_false_iff_ne.2 h0
  have g1 : ((strB l).toList == [100, 105, 103, 105, 116]) = false := by rw [strB_toList]; exact beq_eq_false_iff_ne.2 h1
  have g2 : ((strB l).toList == [97, 108, 110, 117, 109]) = false := by rw [strB_toList]; exact beq_eq_false_iff_ne.2 h2
  have g3 : ((strB l).toList == [117, 112, 112, 101, 114]) = false := by rw [strB_toList]; exact beq_eq_false_iff_ne.2 h3
  have g4 : ((strB l).toList == [108, 111, 119, 101, 114]) = false := by rw [strB_toList]; exact beq_eq_false_iff_ne.2 h4
  have g5 : ((strB l).toList == [98, 108, 97, 110, 107]) = false := by rw [strB_toList]; exact beq_eq_false_iff_ne.2 h5
  have g6 : ((strB l).toList == [115, 112, 97, 99, 101]) = false := by rw [strB_toList]; exact beq_eq_false_iff_ne.2 h6
  have g7 : ((strB l).toList == [99, 110, 116, 114, 108]) = false := by rw [strB_toList]; exact beq_eq_false_iff_ne.2 h7
  have g8 : ((strB l).toList == [112, 114, 105, 110, 116]) = false := by rw [strB_toList]; exact beq_eq_false_iff_ne.2 h8
  have g9 : ((strB l).toList == [103, 114, 97, 112, 104]) = false := by rw [strB_toList]; exact beq_eq_false_iff_ne.2 h9
  have g10 : ((strB l).toList == [112, 117, 110, 99, 116]) = false := by rw [strB_toList]; exact beq_eq_false_iff_ne.2 h10
  have g11 : ((strB l).toList == [120, 100, 105, 103, 105, 116]) = false := by rw [strB_toList]; exact beq_eq_false_iff_ne.2 h11
  clear h0 h1 h2 h3 h4 h5 h6 h7 h8 h9 h10 h11
  obtain ⟨nm, hnm⟩ : ∃ nm, strB l = nm := ⟨_, rfl⟩
  simp only [hnm] at g0 g1 g2 g3 g4 g5 g6 g7 g8 g9 g10 g11 ⊢
  clear hnm
  go_enter Tryz.func35, Tryz.ntmps35
  go_wp2_with (first
    | (go_at_call 71; with_reducible refine (bU _).mono ?_; rintro e w1 ⟨rfl, rfl⟩)
    | (go_at_call 71; with_reducible refine (bL _).mono ?_; rintro e w1 ⟨rfl, rfl⟩)
    | (go_at_call 71; with_reducible refine (bD _).mono ?_; rintro e w1 ⟨rfl, rfl⟩))
  all_goals
    go_returns
    exact ⟨rfl, rfl⟩

end Go.Proofs.YtlhiadnolckoeaaGreatDoor
end

section
namespace Go.Proofs.YtlhiadnolckoeaaGreatDoor
open Go.RowKit Go.Maps

def clsNames : List (List UInt8) := [[97, 108, 112, 104, 97], [100, 105, 103, 105, 116], [97, 108, 110, 117, 109], [117, 112, 112, 101, 114], [108, 111, 119, 101, 114], [98, 108, 97, 110, 107], [115, 112, 97, 99, 101], [99, 110, 116, 114, 108], [112, 114, 105, 110, 116], [103, 114, 97, 112, 104], [112, 117, 110, 99, 116], [120, 100, 105, 103, 105, 116]]
def clsRow : Array Value := #[.string ⟨#[97, 108, 112, 104, 97]⟩, .string ⟨#[100, 105, 103, 105, 116]⟩, .string ⟨#[97, 108, 110, 117, 109]⟩, .string ⟨#[117, 112, 112, 101, 114]⟩, .string ⟨#[108, 111, 119, 101, 114]⟩, .string ⟨#[98, 108, 97, 110, 107]⟩, .string ⟨#[115, 112, 97, 99, 101]⟩, .string ⟨#[99, 110, 116, 114, 108]⟩, .string ⟨#[112, 114, 105, 110, 116]⟩, .string ⟨#[103, 114, 97, 112, 104]⟩, .string ⟨#[112, 117, 110, 99, 116]⟩, .string ⟨#[120, 100, 105, 103, 105, 116]⟩]
theorem clsRow_is : clsRow = (clsNames.map fun n => Value.string (strB n)).toArray := rfl
theorem clsRow_at {i : Nat} {n : List UInt8} (h : clsNames[i]? = some n) : clsRow[i]? = some (.string (strB n)) := by
  rw [clsRow_is]
  simp [h]
theorem classOf_some (l : List UInt8) : (Pl.classOf l).isSome = true ↔ l ∈ clsNames := by
  rw [Pl.classOf_eq]
  unfold clsNames
  simp only [List.mem_cons, List.not_mem_nil, or_false]
  by_cases e0 : l = [97, 108, 112, 104, 97]
  · rw [if_pos e0, e0]
    decide
  rw [if_neg e0]
  by_cases e1 : l = [100, 105, 103, 105, 116]
  · rw [if_pos e1, e1]
    decide
  rw [if_neg e1]
  by_cases e2 : l = [97, 108, 110, 117, 109]
  · rw [if_pos e2, e2]
    decide
  rw [if_neg e2]
  by_cases e3 : l = [117, 112, 112, 101, 114]
  · rw [if_pos e3, e3]
    decide
  rw [if_neg e3]
  by_cases e4 : l = [108, 111, 119, 101, 114]
  · rw [if_pos e4, e4]
    decide
  rw [if_neg e4]
  by_cases e5 : l = [103, 114, 97, 112, 104]
  · rw [if_pos e5, e5]
    decide
  rw [if_neg e5]
  by_cases e6 : l = [98, 108, 97, 110, 107]
  · rw [if_pos e6, e6]
    decide
  rw [if_neg e6]
  by_cases e7 : l = [115, 112, 97, 99, 101]
  · rw [if_pos e7, e7]
    decide
  rw [if_neg e7]
  by_cases e8 : l = [99, 110, 116, 114, 108]
  · rw [if_pos e8, e8]
    decide
  rw [if_neg e8]
  by_cases e9 : l = [112, 114, 105, 110, 116]
  · rw [if_pos e9, e9]
    decide
  rw [if_neg e9]
  by_cases e10 : l = [112, 117, 110, 99, 116]
  · rw [if_pos e10, e10]
    decide
  rw [if_neg e10]
  by_cases e11 : l = [120, 100, 105, 103, 105, 116]
  · rw [if_pos e11, e11]
    decide
  rw [if_neg e11]
  simp [e0, e1, e2, e3, e4, e5, e6, e7, e8, e9, e10, e11]

set_option maxRecDepth 100000 in
set_option maxHeartbeats 4000000 in
theorem refClasses_any (l : List UInt8) (w : World) : Calls Tryz.prog 34 #[.string (strB l)] w fun e w' => e = .returned (.bool (Pl.classOf l).isSome) ∧ Below w.heap.size w w' := by
  obtain ⟨R, hR⟩ : ∃ R, (Pl.classOf l).isSome = R := ⟨_, rfl⟩
  have hRl : R = true ↔ l ∈ clsNames := by rw [← hR]; exact classOf_some l
  rw [hR]
  have HR := Lib.hid hRl
  obtain ⟨S, hS⟩ : ∃ S, strB l = S := ⟨_, rfl⟩
  have HSL : Hid (S.toList = l) := Lib.hid (by rw [← hS]; exact strB_toList l)
  rw [hS]
  obtain ⟨q, hq⟩ : ∃ q, w.heap.size = q := ⟨_, rfl⟩
  obtain ⟨W, hW⟩ : ∃ W, w.alloc (.cells clsRow 111) = W := ⟨_, rfl⟩
  have hb : Blk W q 111 clsRow := by rw [← hW, ← hq]; exact Blk.new w _ _
  have hbe : Below q w W := by rw [← hW, ← hq]; exact below_one w _
  have HB := Lib.hid hb
  have HBE := Lib.hid hbe
  unfold clsRow at hW
  rw [hq]
  clear hR hRl hS hb hbe
  go_enter Tryz.func34, Tryz.ntmps34
  go_wp2_with fail
  go_loopw [4] (fun iv wr => ∃ i : Nat, i ≤ 12 ∧ iv = .int .i64 i ∧ Hid (∀ j, j < i → clsNames[j]? ≠ some l) ∧ Hid (wr = W)) (fun iv _ => 12 - (intOf iv).toNat)
  case atStart => exact ⟨0, by omega, rfl, Lib.hid (fun j hj => by omega), Lib.hid rfl⟩
  case round =>
    obtain ⟨i, hi, rfl, hn, hw⟩ := hrel
    obtain rfl := hw.out
    clear hw
    have ql := HB.out.lt
    by_cases hlt : i < 12
    · obtain ⟨n, hni⟩ : ∃ n, clsNames[i]? = some n := ⟨_, List.getElem?_eq_getElem (show i < clsNames.length from hlt)⟩
      have m1 : wr.cell? ⟨q, i, none⟩ = some (.string (strB n)) := (HB.out.cell _).trans (clsRow_at hni)
      obtain ⟨T, hT⟩ : ∃ T, strB n = T := ⟨_, rfl⟩
      have hTl : T.toList = n := by rw [← hT]; exact strB_toList n
      rw [hT] at m1
      by_cases he : n = l
      · have hTS : (T.toList == S.toList) = true := by rw [hTl, HSL.out, he]; simp
        obtain rfl : R = true := HR.out.2 (List.mem_of_getElem? (he ▸ hni))
        clear hn hni hT hTl
        go_wp2_with fail
        go_returns
        exact ⟨rfl, HBE.out⟩
      · have hTS : (T.toList == S.toList) = false := by rw [hTl, HSL.out]; simpa using he
        have HN := Lib.hid (show ∀ j, j < i + 1 → clsNames[j]? ≠ some l from fun j hj => by
          rcases Nat.lt_or_ge j i with h | h
          · exact hn.out j h
          · obtain rfl : j = i := by omega
            rw [hni]
            exact fun e => he (Option.some.inj e))
        clear hn hni hT hTl
        go_wp2_with fail
        exact ⟨⟨i + 1, by omega, by go_num, HN, Lib.hid trivial⟩, by simp [intOf]; omega⟩
    · obtain rfl : i = 12 := by omega
      have hRf : R = false := by
        cases R with
        | false => rfl
        | true =>
          obtain ⟨j, hj, e⟩ := List.mem_iff_getElem.1 (HR.out.1 rfl)
          exact absurd (by rw [List.getElem?_eq_getElem hj, e]) (hn.out j hj)
      subst hRf
      go_wp2_with fail
      go_returns
      exact ⟨rfl, HBE.out⟩

end Go.Proofs.YtlhiadnolckoeaaGreatDoor
end

section
namespace Go.Proofs.YtlhiadnolckoeaaGreatDoor
open Go.RowKit Go.Maps

theorem filter_none : Pl.allB.filter (fun _ => false) = [] := List.filter_eq_nil_iff.2 fun _ _ => by simp
theorem StAt.moved {w1 : World} {B g a : Nat} {S : ByteArray} {x : Pl.TS} (h : StAt w1 B g S a x) (b : Nat) : StAt (w1.setCell ⟨g, 1, none⟩ (.int .i64 b)) B g S b x := by
  obtain ⟨hg0, v, h2, hown⟩ := h
  exact ⟨hg0, v, h2.set_ 1 _, ownsRow_setCell_other hown (own_blk_ne hown h2 (by decide)) _⟩
theorem StAt.badly {w1 : World} {B g a : Nat} {S : ByteArray} {x : Pl.TS} (h : StAt w1 B g S a x) : StAt (w1.setCell ⟨g, 4, none⟩ (.bool true)) B g S a { x with bad := true } := by
  obtain ⟨hg0, v, h2, hown⟩ := h
  exact ⟨hg0, v, h2.set_ 4 _, ownsRow_setCell_other hown (own_blk_ne hown h2 (by decide)) _⟩
theorem StAt.facts {w1 : World} {B g a : Nat} {S : ByteArray} {x : Pl.TS} (h : StAt w1 B g S a x) (i : Nat) : w1.cell? ⟨g, 1, none⟩ = some (.int .i64 a) ∧ w1.cell? ⟨g, 4, none⟩ = some (.bool x.bad) ∧ w1.frozen? ⟨g, i, none⟩ = false ∧ g < w1.heap.size := by
  obtain ⟨_, v, h2, _⟩ := h
  exact ⟨h2.cell 1, h2.cell 4, h2.frozen i, h2.lt⟩

noncomputable def classOut : Code := (Tryz.f18.body.bind (fun c => (loopsOf c)[0]?)).getD .skip
noncomputable def classIn : Code := ((loopsOf classOut)[0]?).getD .skip

set_option maxRecDepth 100000 in
set_option maxHeartbeats 4000000 in
theorem class_l2 (W w : World) (B g : Nat) (S : ByteArray) (a : Nat) (x : Pl.TS) (hst : StAt w B g S a x) (hW : BX B g W w) (hBw : B ≤ w.heap.size) (nm : ByteArray) (f : UInt8 → Bool) (hcl : RefCls nm f) (ho : x.out.length + 65536 ≤ 140737488355328)
    {c1 c2 c3 c5 c7 c8 c9 c10 c11 c12 c13 c14 c15 c16 c17 c18 c19 c20 c21 c22 c23 c24 c25 c26 c27 c28 c29 c30 c31 c32 c33 c34 c35 c36 c37 c38 c39 c40 c41 c42 c43 c44 c45 c46 c47 c48 c49 c50 c51 c52 c53 c54 c55 c56 c57 c58 c59 c60 c61 c62 c63 c64 c65 c66 c67 c68 c69 c70 c71 c72 c73 c74 c75 c76 c77 c78 c79 c80 c81 c82 c83 c84 c85 c86 c87 c88 c89 c90 c91 c92 c93 c94 c95 c96 c97 c98 c99 c100 c101 c102 c103 c104 c105 c106 c107 c108 c109 c110 c111 c112 c113 c114 c115 c116 c117 c118 : Value} {Q0 : Exit → Act → World → Prop}
    (hexit : ∀ (u7 u94 u95 u96 u97 u98 u99 u100 u101 u102 u103 u104 u105 u106 u107 u108 u109 u110 u111 u112 u113 : Value) (w1 : World), StAt w1 B g S a { x with out := x.out ++ Pl.allB.filter f } → BX B g W w1 → Q0 (.exit 2) ⟨#[.pointer (some ⟨g, 0, none⟩), c1, c2, c3, .string nm, c5, .int .i64 ((256 : Nat) : Int), u7, c8, c9, c10, c11, c12, c13, c14, c15, c16, c17, c18, c19, c20, c21, c22, c23, c24, c25, c26, c27, c28, c29, c30, c31, c32, c33, c34, c35, c36, c37, c38, c39, c40, c41, c42, c43, c44, c45, c46, c47, c48, c49, c50, c51, c52, c53, c54, c55, c56, c57, c58, c59, c60, c61, c62, c63, c64, c65, c66, c67, c68, c69, c70, c71, c72, c73, c74, c75, c76, c77, c78, c79, c80, c81, c82, c83, c84, c85, c86, c87, c88, c89, c90, c91, c92, c93, u94, u95, u96, u97, u98, u99, u100, u101, u102, u103, u104, u105, u106, u107, u108, u109, u110, u111, u112, u113, c114, c115, c116, c117, c118], []⟩ w1) :
    Code.wp Tryz.prog (Code.loop classIn) Q0 ⟨#[.pointer (some ⟨g, 0, none⟩), c1, c2, c3, .string nm, c5, .int .i64 0, c7, c8, c9, c10, c11, c12, c13, c14, c15, c16, c17, c18, c19, c20, c21, c22, c23, c24, c25, c26, c27, c28, c29, c30, c31, c32, c33, c34, c35, c36, c37, c38, c39, c40, c41, c42, c43, c44, c45, c46, c47, c48, c49, c50, c51, c52, c53, c54, c55, c56, c57, c58, c59, c60, c61, c62, c63, c64, c65, c66, c67, c68, c69, c70, c71, c72, c73, c74, c75, c76, c77, c78, c79, c80, c81, c82, c83, c84, c85, c86, c87, c88, c89, c90, c91, c92, c93, c94, c95, c96, c97, c98, c99, c100, c101, c102, c103, c104, c105, c106, c107, c108, c109, c110, c111, c112, c113, c114, c115, c116, c117, c118], []⟩ w := by
  dsimp only at hexit ⊢
  have HX := Lib.hid hexit
  have HS0 := Lib.hid hst
  have HW := Lib.hid hW
  clear hexit hst hW
  conv => arg 2; arg 1; whnf
  go_loopw [6] (fun iv wr => ∃ j : Nat, j ≤ 256 ∧ iv = .int .i64 j ∧ Hid (StAt wr B g S a { x with out := x.out ++ (Pl.allB.take j).filter f }) ∧ Hid (BX B g W wr) ∧ B ≤ wr.heap.size) (fun iv _ => 256 - (intOf iv).toNat)
  case atStart => exact ⟨0, by omega, rfl, Lib.hid (by simpa using HS0.out), HW, hBw⟩
  case round =>
    obtain ⟨j, hj, rfl, hst, hbx, hBr⟩ := hrel
    by_cases hlt : j < 256
    · have h8j : ((UInt8.ofNat j).toNat : Int) = (j : Int) := by rw [UInt8.toNat_ofNat']; omega
      have hcl' : ∀ W, Calls Tryz.prog 35 #[.string nm, .int .u8 (j : Int)] W fun e w' => e = .returned (.bool (f (UInt8.ofNat j))) ∧ W = w' := fun W => h8j ▸ hcl (UInt8.ofNat j) W
      have hpl := Pl.allB_part j f
      obtain ⟨hBg, v, hblk, hown⟩ := hst.out
      obtain ⟨A, cp, rfl, _⟩ := own_slice hown
      have r2 : wr.cell? ⟨g, 2, none⟩ = some (.slice A (x.out ++ (Pl.allB.take j).filter f).length cp) := hblk.cell 2
      obtain ⟨m, hm⟩ : ∃ m, (x.out ++ (Pl.allB.take j).filter f).length = m := ⟨_, rfl⟩
      have hml : m + 1 ≤ 140737488355328 := by rw [← hm, List.length_append]; omega
      simp only at hblk hown
      rw [hm] at hown r2 hblk
      have rl := hblk.lt
      have HM := Lib.hid hm
      have HBLK := Lib.hid hblk
      have HOWN := Lib.hid hown
      clear hblk hown hm hpl
      cases hfj : f (UInt8.ofNat j) with
      | true =>
        rw [hfj] at hcl'
        have HP := Lib.hid (Pl.allB_yes hlt hfj)
        clear hfj hst
        go_wp2_with (first
          | (at_builtin; refine wpList_pushI rfl _ _ rfl wr B (.slice A m cp) m (x.out ++ (Pl.allB.take j).filter f) (UInt8.ofNat j) _ h8j rfl HOWN.out HM.out.symm rfl hBr hml ?_; intro A2 c2 w2 hown2 hg2 hat2
             have b2 := Blk.grown (HBLK.out.alloc _) hg2 (own_blk_ne HOWN.out HBLK.out (by decide)).symm
             have r22 := b2.cell 2
             have f2 := b2.frozen 2
             have l2 := b2.lt)
          | (go_at_call 35; with_reducible refine (hcl' _).mono ?_; rintro e w1 ⟨rfl, rfl⟩))
        refine ⟨⟨j + 1, by omega, by go_num, ?_, ?_, ?_⟩, by simp [intOf]; omega⟩
        · refine Lib.hid ⟨hBg, _, b2.set_ 2 _, ?_⟩
          simp only
          rw [HP.out, ← List.append_assoc]
          have hl : (x.out ++ (Pl.allB.take j).filter f ++ [UInt8.ofNat j]).length = m + 1 := by rw [List.length_append, HM.out]; rfl
          rw [hl]
          exact ownsRow_setCell_other hown2 (own_blk_ne hown2 b2 (by decide)) _
        · exact Lib.hid ((hbx.out.then (((Below.refl B wr).alloc hBr _).grown hg2 (Nat.le_trans hBr (by simp)) (fun j hj => (HOWN.out.lt j hj).1))).setG 2 _)
        · have := (((Below.refl B wr).alloc hBr (.cells #[.int .u8 (j : Int)] 5)).grown hg2 (Nat.le_trans hBr (by simp)) (fun j hj => (HOWN.out.lt j hj).1)).size
          exact Nat.le_trans hBr (by simpa [World.setCell] using this)
      | false =>
        rw [hfj] at hcl'
        have HP := Lib.hid (Pl.allB_no hlt hfj)
        clear hfj
        go_wp2_with (first
          | (go_at_call 35; with_reducible refine (hcl' _).mono ?_; rintro e w1 ⟨rfl, rfl⟩))
        exact ⟨⟨j + 1, by omega, by go_num, Lib.hid (by rw [HP.out]; exact hst.out), hbx, hBr⟩, by simp [intOf]; omega⟩
    · obtain rfl : j = 256 := by omega
      have HST : Hid (StAt wr B g S a { x with out := x.out ++ Pl.allB.filter f }) := Lib.hid (by have := hst.out; rwa [Pl.allB_all] at this)
      go_wp2_with fail
      exact HX.out _ _ _ _ _ _ _ _ _ _ _ _ _ _ _ _ _ _ _ _ _ wr HST.out hbx.out

set_option maxRecDepth 100000 in
set_option maxHeartbeats 4000000 in
theorem class_l1_miss (w : World) (B g : Nat) (S : ByteArray) (a : Nat) (x : Pl.TS) (h : StAt w B g S a x) (hs : S.size ≤ 1048576) (f p : Nat) (hf : a + 2 = f) (hfp : f ≤ p) (hps : p ≤ S.size) (hno : ∀ (k : Nat) (hk : k + 1 < S.size), f ≤ k → k < p → (S[k]'(Nat.lt_of_succ_lt hk) == 58 && S[k + 1]'hk == 93) = false) (hend : p + 1 = S.size ∨ (p = S.size ∧ f = p))
    {c1 c2 c4 c5 c6 c7 c8 c9 c10 c11 c12 c13 c14 c15 c16 c17 c18 c19 c20 c21 c22 c23 c24 c25 c26 c27 c28 c29 c30 c31 c32 c33 c34 c35 c36 c37 c38 c39 c40 c41 c42 c43 c44 c45 c46 c47 c48 c49 c50 c51 c52 c53 c54 c55 c56 c57 c58 c59 c60 c61 c62 c63 c64 c65 c66 c67 c68 c69 c70 c71 c72 c73 c74 c75 c76 c77 c78 c79 c80 c81 c82 c83 c84 c85 c86 c87 c88 c89 c90 c91 c92 c93 c94 c95 c96 c97 c98 c99 c100 c101 c102 c103 c104 c105 c106 c107 c108 c109 c110 c111 c112 c113 c114 c115 c116 c117 c118 : Value} {Q0 : Exit → Act → World → Prop}
    (hexit : ∀ (u2 u4 u5 u6 u7 u49 u50 u51 u52 u53 u54 u55 u56 u57 u58 u59 u60 u61 u62 u63 u64 u65 u66 u67 u68 u69 u70 u71 u72 u73 u74 u75 u76 u77 u78 u79 u80 u81 u82 u83 u84 u85 u86 u87 u88 u89 u90 u91 u92 u93 u94 u95 u96 u97 u98 u99 u100 u101 u102 u103 u104 u105 u106 u107 u108 u109 u110 u111 u112 u113 u114 u115 u116 u117 u118 : Value), Q0 (.exit 0) ⟨#[.pointer (some ⟨g, 0, none⟩), c1, u2, .int .i64 p, u4, u5, u6, u7, c8, c9, c10, c11, c12, c13, c14, c15, c16, c17, c18, c19, c20, c21, c22, c23, c24, c25, c26, c27, c28, c29, c30, c31, c32, c33, c34, c35, c36, c37, c38, c39, c40, c41, c42, c43, c44, c45, c46, c47, c48, u49, u50, u51, u52, u53, u54, u55, u56, u57, u58, u59, u60, u61, u62, u63, u64, u65, u66, u67, u68, u69, u70, u71, u72, u73, u74, u75, u76, u77, u78, u79, u80, u81, u82, u83, u84, u85, u86, u87, u88, u89, u90, u91, u92, u93, u94, u95, u96, u97, u98, u99, u100, u101, u102, u103, u104, u105, u106, u107, u108, u109, u110, u111, u112, u113, u114, u115, u116, u117, u118], []⟩ w) :
    Code.wp Tryz.prog (Code.loop classOut) Q0 ⟨#[.pointer (some ⟨g, 0, none⟩), c1, c2, .int .i64 f, c4, c5, c6, c7, c8, c9, c10, c11, c12, c13, c14, c15, c16, c17, c18, c19, c20, c21, c22, c23, c24, c25, c26, c27, c28, c29, c30, c31, c32, c33, c34, c35, c36, c37, c38, c39, c40, c41, c42, c43, c44, c45, c46, c47, c48, c49, c50, c51, c52, c53, c54, c55, c56, c57, c58, c59, c60, c61, c62, c63, c64, c65, c66, c67, c68, c69, c70, c71, c72, c73, c74, c75, c76, c77, c78, c79, c80, c81, c82, c83, c84, c85, c86, c87, c88, c89, c90, c91, c92, c93, c94, c95, c96, c97, c98, c99, c100, c101, c102, c103, c104, c105, c106, c107, c108, c109, c110, c111, c112, c113, c114, c115, c116, c117, c118], []⟩ w := by
  dsimp only at hexit ⊢
  have HX := Lib.hid hexit
  have HH := Lib.hid h
  obtain ⟨hBg, v, hblk, hown⟩ := h
  have q0 : w.cell? ⟨g, 0, none⟩ = some (.string S) := hblk.cell 0
  have q1 : w.cell? ⟨g, 1, none⟩ = some (.int .i64 a) := hblk.cell 1
  have ql := hblk.lt
  have HNO := Lib.hid hno
  have hfI : (a : Int) + 2 = f := by omega
  clear hexit hno hblk hown
  conv => arg 2; arg 1; whnf
  go_loopw [3] (fun kv wr => ∃ k : Nat, f ≤ k ∧ k ≤ p ∧ kv = .int .i64 k ∧ Hid (wr = w)) (fun kv _ => S.size + 1 - (intOf kv).toNat)
  case atStart => exact ⟨f, by omega, hfp, rfl, Lib.hid rfl⟩
  case round =>
    obtain ⟨k, hfk, hk, rfl, hw⟩ := hrel
    obtain rfl := hw.out
    clear hw
    by_cases hlt : k < p
    · have hk1 : k + 1 < S.size := by omega
      have hki : (k : Int) + 1 < S.size := by omega
      obtain ⟨z0, hz0⟩ : ∃ z : Int, ((S[k]'(Nat.lt_of_succ_lt hk1)).toNat : Int) = z := ⟨_, rfl⟩
      obtain ⟨z1, hz1⟩ : ∃ z : Int, ((S[k + 1]'hk1).toNat : Int) = z := ⟨_, rfl⟩
      have hn := HNO.out k hk1 hfk hlt
      have e0 : (z0 == 58) = (S[k]'(Nat.lt_of_succ_lt hk1) == 58) := by have := u8_ne hz0 (p := 58) (n := 58) rfl; simpa [bne] using this
      have e1 : (z1 == 93) = (S[k + 1]'hk1 == 93) := by have := u8_ne hz1 (p := 93) (n := 93) rfl; simpa [bne] using this
      cases hc : S[k]'(Nat.lt_of_succ_lt hk1) == 58 with
      | false =>
        rw [hc] at e0
        clear hn e1 hz1 hc
        go_wp2_with fail
        exact ⟨⟨k + 1, by omega, by omega, by go_num, Lib.hid trivial⟩, by simp [intOf]; omega⟩
      | true =>
        rw [hc, Bool.true_and] at hn
        rw [hc] at e0
        rw [hn] at e1
        clear hn hc
        go_wp2_with fail
        exact ⟨⟨k + 1, by omega, by omega, by go_num, Lib.hid trivial⟩, by simp [intOf]; omega⟩
    · obtain rfl : k = p := by omega
      have hpI2 : (S.size : Int) ≤ (k : Int) + 1 := by omega
      go_wp2_with fail
      exact HX.out _ _ _ _ _ _ _ _ _ _ _ _ _ _ _ _ _ _ _ _ _ _ _ _ _ _ _ _ _ _ _ _ _ _ _ _ _ _ _ _ _ _ _ _ _ _ _ _ _ _ _ _ _ _ _ _ _ _ _ _ _ _ _ _ _ _ _ _ _ _ _ _ _ _ _

set_option maxRecDepth 100000 in
set_option maxHeartbeats 4000000 in
theorem class_l1_known (w : World) (B g : Nat) (S : ByteArray) (a : Nat) (x : Pl.TS) (h : StAt w B g S a x) (hBw : B ≤ w.heap.size) (hs : S.size ≤ 1048576) (f p : Nat) (hf : a + 2 = f) (hfp : f ≤ p) (hps : p ≤ S.size) (hno : ∀ (k : Nat) (hk : k + 1 < S.size), f ≤ k → k < p → (S[k]'(Nat.lt_of_succ_lt hk) == 58 && S[k + 1]'hk == 93) = false) (hp1 : p + 1 < S.size) (h58 : (S[p]'(Nat.lt_of_succ_lt hp1) == 58) = true) (h93 : (S[p + 1]'hp1 == 93) = true) (b : Nat) (hb : p + 2 = b) (nm : ByteArray) (hnm : S.extract f p = nm) (hcs : ∀ W, Calls Tryz.prog 34 #[.string nm] W fun e w' => e = .returned (.bool true) ∧ Below W.heap.size W w') (fc : UInt8 → Bool) (hcl : RefCls nm fc) (ho : x.out.length + 65536 ≤ 140737488355328)
    {c1 c2 c4 c5 c6 c7 c8 c9 c10 c11 c12 c13 c14 c15 c16 c17 c18 c19 c20 c21 c22 c23 c24 c25 c26 c27 c28 c29 c30 c31 c32 c33 c34 c35 c36 c37 c38 c39 c40 c41 c42 c43 c44 c45 c46 c47 c48 c49 c50 c51 c52 c53 c54 c55 c56 c57 c58 c59 c60 c61 c62 c63 c64 c65 c66 c67 c68 c69 c70 c71 c72 c73 c74 c75 c76 c77 c78 c79 c80 c81 c82 c83 c84 c85 c86 c87 c88 c89 c90 c91 c92 c93 c94 c95 c96 c97 c98 c99 c100 c101 c102 c103 c104 c105 c106 c107 c108 c109 c110 c111 c112 c113 c114 c115 c116 c117 c118 : Value} {Q0 : Exit → Act → World → Prop}
    (hret : ∀ (u4 u5 u6 u7 u49 u50 u51 u52 u53 u54 u55 u56 u57 u58 u59 u60 u61 u62 u63 u64 u65 u66 u67 u68 u69 u70 u71 u72 u73 u74 u75 u76 u77 u78 u79 u80 u81 u82 u83 u84 u85 u86 u87 u88 u89 u90 u91 u92 u93 u94 u95 u96 u97 u98 u99 u100 u101 u102 u103 u104 u105 u106 u107 u108 u109 u110 u111 u112 u113 u114 u115 u116 u117 u118 u3 : Value) (w1 : World), StAt w1 B g S b { x with out := x.out ++ Pl.allB.filter fc } → BX B g w w1 → Q0 .ret ⟨#[.pointer (some ⟨g, 0, none⟩), c1, .bool true, u3, u4, u5, u6, u7, c8, c9, c10, c11, c12, c13, c14, c15, c16, c17, c18, c19, c20, c21, c22, c23, c24, c25, c26, c27, c28, c29, c30, c31, c32, c33, c34, c35, c36, c37, c38, c39, c40, c41, c42, c43, c44, c45, c46, c47, c48, u49, u50, u51, u52, u53, u54, u55, u56, u57, u58, u59, u60, u61, u62, u63, u64, u65, u66, u67, u68, u69, u70, u71, u72, u73, u74, u75, u76, u77, u78, u79, u80, u81, u82, u83, u84, u85, u86, u87, u88, u89, u90, u91, u92, u93, u94, u95, u96, u97, u98, u99, u100, u101, u102, u103, u104, u105, u106, u107, u108, u109, u110, u111, u112, u113, u114, u115, u116, u117, u118], []⟩ w1) :
    Code.wp Tryz.prog (Code.loop classOut) Q0 ⟨#[.pointer (some ⟨g, 0, none⟩), c1, c2, .int .i64 f, c4, c5, c6, c7, c8, c9, c10, c11, c12, c13, c14, c15, c16, c17, c18, c19, c20, c21, c22, c23, c24, c25, c26, c27, c28, c29, c30, c31, c32, c33, c34, c35, c36, c37, c38, c39, c40, c41, c42, c43, c44, c45, c46, c47, c48, c49, c50, c51, c52, c53, c54, c55, c56, c57, c58, c59, c60, c61, c62, c63, c64, c65, c66, c67, c68, c69, c70, c71, c72, c73, c74, c75, c76, c77, c78, c79, c80, c81, c82, c83, c84, c85, c86, c87, c88, c89, c90, c91, c92, c93, c94, c95, c96, c97, c98, c99, c100, c101, c102, c103, c104, c105, c106, c107, c108, c109, c110, c111, c112, c113, c114, c115, c116, c117, c118], []⟩ w := by
  dsimp only at hret ⊢
  have HX := Lib.hid hret
  have HH := Lib.hid h
  obtain ⟨hBg, v, hblk, hown⟩ := h
  have q0 : w.cell? ⟨g, 0, none⟩ = some (.string S) := hblk.cell 0
  have q1 : w.cell? ⟨g, 1, none⟩ = some (.int .i64 a) := hblk.cell 1
  have ql := hblk.lt
  have HNO := Lib.hid hno
  have hfI : (a : Int) + 2 = f := by omega
  have hpI : (p : Int) + 1 < S.size := by omega
  have hfpI : (f : Int) ≤ (p : Int) := by omega
  have hpsI : (p : Int) ≤ S.size := by omega
  have hbI : (p : Int) + 2 = b := by omega
  have wa2 : IntKind.i64.wrap ((a : Int) + 2) = (a : Int) + 2 := IntWalk.i64_in _ (by omega)
  have HCS := Lib.hid hcs
  have HCL := Lib.hid hcl
  clear hret hno hblk hown hcs hcl
  conv => arg 2; arg 1; whnf
  go_loopw [3] (fun kv wr => ∃ k : Nat, f ≤ k ∧ k ≤ p ∧ kv = .int .i64 k ∧ Hid (wr = w)) (fun kv _ => S.size + 1 - (intOf kv).toNat)
  case atStart => exact ⟨f, by omega, hfp, rfl, Lib.hid rfl⟩
  case round =>
    obtain ⟨k, hfk, hk, rfl, hw⟩ := hrel
    obtain rfl := hw.out
    clear hw
    by_cases hlt : k < p
    · have hk1 : k + 1 < S.size := by omega
      have hki : (k : Int) + 1 < S.size := by omega
      obtain ⟨z0, hz0⟩ : ∃ z : Int, ((S[k]'(Nat.lt_of_succ_lt hk1)).toNat : Int) = z := ⟨_, rfl⟩
      obtain ⟨z1, hz1⟩ : ∃ z : Int, ((S[k + 1]'hk1).toNat : Int) = z := ⟨_, rfl⟩
      have hn := HNO.out k hk1 hfk hlt
      have e0 : (z0 == 58) = (S[k]'(Nat.lt_of_succ_lt hk1) == 58) := by have := u8_ne hz0 (p := 58) (n := 58) rfl; simpa [bne] using this
      have e1 : (z1 == 93) = (S[k + 1]'hk1 == 93) := by have := u8_ne hz1 (p := 93) (n := 93) rfl; simpa [bne] using this
      cases hc : S[k]'(Nat.lt_of_succ_lt hk1) == 58 with
      | false =>
        rw [hc] at e0
        clear hn e1 hz1 hc
        go_wp2_with fail
        exact ⟨⟨k + 1, by omega, by omega, by go_num, Lib.hid trivial⟩, by simp [intOf]; omega⟩
      | true =>
        rw [hc, Bool.true_and] at hn
        rw [hc] at e0
        rw [hn] at e1
        clear hn hc
        go_wp2_with fail
        exact ⟨⟨k + 1, by omega, by omega, by go_num, Lib.hid trivial⟩, by simp [intOf]; omega⟩
    · obtain rfl : k = p := by omega
      obtain ⟨z0, hz0⟩ : ∃ z : Int, ((S[k]'(Nat.lt_of_succ_lt hp1)).toNat : Int) = z := ⟨_, rfl⟩
      obtain ⟨z1, hz1⟩ : ∃ z : Int, ((S[k + 1]'hp1).toNat : Int) = z := ⟨_, rfl⟩
      have e0 : (z0 == 58) = true := by have := u8_ne hz0 (p := 58) (n := 58) rfl; rw [h58] at this; simpa [bne] using this
      have e1 : (z1 == 93) = true := by have := u8_ne hz1 (p := 93) (n := 93) rfl; rw [h93] at this; simpa [bne] using this
      clear h58 h93
      go_wp2_with fail
      go_quiet (fail)
      go_wp2_with (first
        | (go_at_call 34; (refine (HCS.out _).mono ?_); rintro e w2 ⟨rfl, hb2⟩
           have hbw : Below wr.heap.size wr w2 := (below_drew wr _).trans hb2
           have HS2 := Lib.hid (HH.out.below hbw)
           have hB2 : B ≤ w2.heap.size := Nat.le_trans hBw hbw.size
           obtain ⟨t1, t4, tf, tl⟩ := HS2.out.facts 4))
      refine class_l2 wr w2 B g S a x HS2.out (bx (hbw.mono hBw)) hB2 nm fc HCL.out ho ?_
      intro u7 u94 u95 u96 u97 u98 u99 u100 u101 u102 u103 u104 u105 u106 u107 u108 u109 u110 u111 u112 u113 w3 hs3 hx3
      obtain ⟨v1, v4, vf, vl⟩ := hs3.facts 1
      have HS3 := Lib.hid (hs3.moved b)
      have HX3 := Lib.hid hx3
      clear hs3 hx3
      go_wp2_with fail
      exact HX.out _ _ _ _ _ _ _ _ _ _ _ _ _ _ _ _ _ _ _ _ _ _ _ _ _ _ _ _ _ _ _ _ _ _ _ _ _ _ _ _ _ _ _ _ _ _ _ _ _ _ _ _ _ _ _ _ _ _ _ _ _ _ _ _ _ _ _ _ _ _ _ _ _ _ _ _ HS3.out (HX3.out.setG 1 _)

set_option maxRecDepth 100000 in
set_option maxHeartbeats 4000000 in
theorem class_l1_unknown (w : World) (B g : Nat) (S : ByteArray) (a : Nat) (x : Pl.TS) (h : StAt w B g S a x) (hBw : B ≤ w.heap.size) (hs : S.size ≤ 1048576) (f p : Nat) (hf : a + 2 = f) (hfp : f ≤ p) (hps : p ≤ S.size) (hno : ∀ (k : Nat) (hk : k + 1 < S.size), f ≤ k → k < p → (S[k]'(Nat.lt_of_succ_lt hk) == 58 && S[k + 1]'hk == 93) = false) (hp1 : p + 1 < S.size) (h58 : (S[p]'(Nat.lt_of_succ_lt hp1) == 58) = true) (h93 : (S[p + 1]'hp1 == 93) = true) (b : Nat) (hb : p + 2 = b) (nm : ByteArray) (hnm : S.extract f p = nm) (hcs : ∀ W, Calls Tryz.prog 34 #[.string nm] W fun e w' => e = .returned (.bool false) ∧ Below W.heap.size W w') (hcl : RefCls nm fun _ => false) (ho : x.out.length + 65536 ≤ 140737488355328)
    {c1 c2 c4 c5 c6 c7 c8 c9 c10 c11 c12 c13 c14 c15 c16 c17 c18 c19 c20 c21 c22 c23 c24 c25 c26 c27 c28 c29 c30 c31 c32 c33 c34 c35 c36 c37 c38 c39 c40 c41 c42 c43 c44 c45 c46 c47 c48 c49 c50 c51 c52 c53 c54 c55 c56 c57 c58 c59 c60 c61 c62 c63 c64 c65 c66 c67 c68 c69 c70 c71 c72 c73 c74 c75 c76 c77 c78 c79 c80 c81 c82 c83 c84 c85 c86 c87 c88 c89 c90 c91 c92 c93 c94 c95 c96 c97 c98 c99 c100 c101 c102 c103 c104 c105 c106 c107 c108 c109 c110 c111 c112 c113 c114 c115 c116 c117 c118 : Value} {Q0 : Exit → Act → World → Prop}
    (hret : ∀ (u4 u5 u6 u7 u49 u50 u51 u52 u53 u54 u55 u56 u57 u58 u59 u60 u61 u62 u63 u64 u65 u66 u67 u68 u69 u70 u71 u72 u73 u74 u75 u76 u77 u78 u79 u80 u81 u82 u83 u84 u85 u86 u87 u88 u89 u90 u91 u92 u93 u94 u95 u96 u97 u98 u99 u100 u101 u102 u103 u104 u105 u106 u107 u108 u109 u110 u111 u112 u113 u114 u115 u116 u117 u118 u3 : Value) (w1 : World), StAt w1 B g S b { x with bad := true } → BX B g w w1 → Q0 .ret ⟨#[.pointer (some ⟨g, 0, none⟩), c1, .bool true, u3, u4, u5, u6, u7, c8, c9, c10, c11, c12, c13, c14, c15, c16, c17, c18, c19, c20, c21, c22, c23, c24, c25, c26, c27, c28, c29, c30, c31, c32, c33, c34, c35, c36, c37, c38, c39, c40, c41, c42, c43, c44, c45, c46, c47, c48, u49, u50, u51, u52, u53, u54, u55, u56, u57, u58, u59, u60, u61, u62, u63, u64, u65, u66, u67, u68, u69, u70, u71, u72, u73, u74, u75, u76, u77, u78, u79, u80, u81, u82, u83, u84, u85, u86, u87, u88, u89, u90, u91, u92, u93, u94, u95, u96, u97, u98, u99, u100, u101, u102, u103, u104, u105, u106, u107, u108, u109, u110, u111, u112, u113, u114, u115, u116, u117, u118], []⟩ w1) :
    Code.wp Tryz.prog (Code.loop classOut) Q0 ⟨#[.pointer (some ⟨g, 0, none⟩), c1, c2, .int .i64 f, c4, c5, c6, c7, c8, c9, c10, c11, c12, c13, c14, c15, c16, c17, c18, c19, c20, c21, c22, c23, c24, c25, c26, c27, c28, c29, c30, c31, c32, c33, c34, c35, c36, c37, c38, c39, c40, c41, c42, c43, c44, c45, c46, c47, c48, c49, c50, c51, c52, c53, c54, c55, c56, c57, c58, c59, c60, c61, c62, c63, c64, c65, c66, c67, c68, c69, c70, c71, c72, c73, c74, c75, c76, c77, c78, c79, c80, c81, c82, c83, c84, c85, c86, c87, c88, c89, c90, c91, c92, c93, c94, c95, c96, c97, c98, c99, c100, c101, c102, c103, c104, c105, c106, c107, c108, c109, c110, c111, c112, c113, c114, c115, c116, c117, c118], []⟩ w := by
  dsimp only at hret ⊢
  have HX := Lib.hid hret
  have HH := Lib.hid h
  obtain ⟨hBg, v, hblk, hown⟩ := h
  have q0 : w.cell? ⟨g, 0, none⟩ = some (.string S) := hblk.cell 0
  have q1 : w.cell? ⟨g, 1, none⟩ = some (.int .i64 a) := hblk.cell 1
  have ql := hblk.lt
  have HNO := Lib.hid hno
  have hfI : (a : Int) + 2 = f := by omega
  have hpI : (p : Int) + 1 < S.size := by omega
  have hfpI : (f : Int) ≤ (p : Int) := by omega
  have hpsI : (p : Int) ≤ S.size := by omega
  have hbI : (p : Int) + 2 = b := by omega
  have wa2 : IntKind.i64.wrap ((a : Int) + 2) = (a : Int) + 2 := IntWalk.i64_in _ (by omega)
  have HCS := Lib.hid hcs
  have HCL := Lib.hid hcl
  clear hret hno hblk hown hcs hcl
  conv => arg 2; arg 1; whnf
  go_loopw [3] (fun kv wr => ∃ k : Nat, f ≤ k ∧ k ≤ p ∧ kv = .int .i64 k ∧ Hid (wr = w)) (fun kv _ => S.size + 1 - (intOf kv).toNat)
  case atStart => exact ⟨f, by omega, hfp, rfl, Lib.hid rfl⟩
  case round =>
    obtain ⟨k, hfk, hk, rfl, hw⟩ := hrel
    obtain rfl := hw.out
    clear hw
    by_cases hlt : k < p
    · have hk1 : k + 1 < S.size := by omega
      have hki : (k : Int) + 1 < S.size := by omega
      obtain ⟨z0, hz0⟩ : ∃ z : Int, ((S[k]'(Nat.lt_of_succ_lt hk1)).toNat : Int) = z := ⟨_, rfl⟩
      obtain ⟨z1, hz1⟩ : ∃ z : Int, ((S[k + 1]'hk1).toNat : Int) = z := ⟨_, rfl⟩
      have hn := HNO.out k hk1 hfk hlt
      have e0 : (z0 == 58) = (S[k]'(Nat.lt_of_succ_lt hk1) == 58) := by have := u8_ne hz0 (p := 58) (n := 58) rfl; simpa [bne] using this
      have e1 : (z1 == 93) = (S[k + 1]'hk1 == 93) := by have := u8_ne hz1 (p := 93) (n := 93) rfl; simpa [bne] using this
      cases hc : S[k]'(Nat.lt_of_succ_lt hk1) == 58 with
      | false =>
        rw [hc] at e0
        clear hn e1 hz1 hc
        go_wp2_with fail
        exact ⟨⟨k + 1, by omega, by omega, by go_num, Lib.hid trivial⟩, by simp [intOf]; omega⟩
      | true =>
        rw [hc, Bool.true_and] at hn
        rw [hc] at e0
        rw [hn] at e1
        clear hn hc
        go_wp2_with fail
        exact ⟨⟨k + 1, by omega, by omega, by go_num, Lib.hid trivial⟩, by simp [intOf]; omega⟩
    · obtain rfl : k = p := by omega
      obtain ⟨z0, hz0⟩ : ∃ z : Int, ((S[k]'(Nat.lt_of_succ_lt hp1)).toNat : Int) = z := ⟨_, rfl⟩
      obtain ⟨z1, hz1⟩ : ∃ z : Int, ((S[k + 1]'hp1).toNat : Int) = z := ⟨_, rfl⟩
      have e0 : (z0 == 58) = true := by have := u8_ne hz0 (p := 58) (n := 58) rfl; rw [h58] at this; simpa [bne] using this
      have e1 : (z1 == 93) = true := by have := u8_ne hz1 (p := 93) (n := 93) rfl; rw [h93] at this; simpa [bne] using this
      clear h58 h93
      go_wp2_with fail
      go_quiet (fail)
      go_wp2_with (first
        | (go_at_call 34; (refine (HCS.out _).mono ?_); rintro e w2 ⟨rfl, hb2⟩
           have hbw : Below wr.heap.size wr w2 := (below_drew wr _).trans hb2
           have HS2 := Lib.hid (HH.out.below hbw)
           have hB2 : B ≤ w2.heap.size := Nat.le_trans hBw hbw.size
           obtain ⟨t1, t4, tf, tl⟩ := HS2.out.facts 4))
      refine class_l2 wr _ B g S a _ HS2.out.badly ((bx (hbw.mono hBw)).setG 4 _) (by simpa [World.setCell] using hB2) nm _ HCL.out ho ?_
      intro u7 u94 u95 u96 u97 u98 u99 u100 u101 u102 u103 u104 u105 u106 u107 u108 u109 u110 u111 u112 u113 w3 hs3 hx3
      obtain ⟨v1, v4, vf, vl⟩ := hs3.facts 1
      have HS3 := Lib.hid (hs3.moved b)
      have HX3 := Lib.hid hx3
      clear hs3 hx3
      go_wp2_with fail
      exact HX.out _ _ _ _ _ _ _ _ _ _ _ _ _ _ _ _ _ _ _ _ _ _ _ _ _ _ _ _ _ _ _ _ _ _ _ _ _ _ _ _ _ _ _ _ _ _ _ _ _ _ _ _ _ _ _ _ _ _ _ _ _ _ _ _ _ _ _ _ _ _ _ _ _ _ _ _ (by have := HS3.out; simpa [filter_none] using this) (HX3.out.setG 1 _)

end Go.Proofs.YtlhiadnolckoeaaGreatDoor
end
