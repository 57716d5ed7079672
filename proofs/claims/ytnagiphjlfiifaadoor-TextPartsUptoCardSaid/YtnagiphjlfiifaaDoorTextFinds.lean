/-
  Walks over the questions that Lines and Fields ask, and over bytes.IndexFunc.
-/
import Derived.Test.YtnagiphjlfiifaaDoorShelf7
import Derived.Test.YtnagiphjlfiifaaDoorTextFields
namespace Go.Proofs
theorem shelf7_pred {P : Program} {g : Nat} {lb : Array Value} {p : Nat → Bool} {w : World} (h : ∀ (W : World) (x : Nat), x ≤ 1114111 → Go.RowKit.Below w.heap.size w W → Calls P g (#[.int .i32 (x : Int)] ++ lb) W fun e w' => e = .returned (.bool (p x)) ∧ Go.RowKit.Below W.heap.size W w') : PredGrows P g lb p w := h
end Go.Proofs
namespace Go.Proofs.YtnagiphjlfiifaaDoor
namespace Pl
theorem u8_eq (a b : UInt8) : ((a.toNat : Int) == (b.toNat : Int)) = (a == b) := by
  by_cases h : a = b
  · subst h; simp
  · rw [beq_eq_false_iff_ne.2 h]
    exact beq_eq_false_iff_ne.2 fun e => h (UInt8.toNat_inj.1 (by omega))
end Pl
open Go.RowKit

/-- what is asked of a byte -/
def Asks (fv : Nat) (p : UInt8 → Bool) : Prop := ∀ (b : UInt8) (W : World), Calls Tryd.prog fv #[.int .u8 b.toNat] W fun e w' => e = .returned (.bool (p b)) ∧ w' = W

theorem lines1_any : Asks 27 (fun b => b == 10) := by
  intro b W
  have h := Pl.u8_eq b 10
  go_enter Tryd.func27, Tryd.ntmps27
  go_wp2
  go_returns
  exact ⟨by rw [← h]; rfl, rfl⟩

theorem fields1_any : Asks 29 (fun b => b == 32 || b == 9) := by
  intro b W
  have h1 := Pl.u8_eq b 32
  have h2 := Pl.u8_eq b 9
  go_enter Tryd.func29, Tryd.ntmps29
  by_cases hb : b = 32
  · have hx : ((b.toNat : Int) == 32) = true := by rw [hb]; decide
    go_wp2
    go_returns
    exact ⟨by rw [hb]; rfl, rfl⟩
  · have hx : ((b.toNat : Int) == 32) = false := (show ((b.toNat : Int) == 32) = _ from h1).trans (beq_eq_false_iff_ne.2 hb)
    go_wp2
    go_returns
    exact ⟨by rw [beq_eq_false_iff_ne.2 hb, Bool.false_or, ← h2]; rfl, rfl⟩

/-- the question that parts asks of a rune -/
def askRune (p : UInt8 → Bool) (x : Nat) : Bool := decide (x < 128) && p (UInt8.ofNat x)

set_option maxRecDepth 100000 in
theorem parts11_any (fv : Nat) (p : UInt8 → Bool) (h : Asks fv p) (eg : ∀ args w, (callFunc fv args).run Tryd.prog w = .ok (.enter fv args) w) (Bc : Nat) (W : World) (x : Nat) (hx : x ≤ 1114111) (hc : W.cell? ⟨Bc, 0, none⟩ = some (.func (.func fv) #[] #[])) :
    Calls Tryd.prog 35 #[.int .i32 x, .pointer (some ⟨Bc, 0, none⟩)] W fun e w' => e = .returned (.bool (askRune p x)) ∧ w' = W := by
  go_enter Tryd.func35, Tryd.ntmps35
  by_cases h1 : x < 128
  · have hu : (UInt8.ofNat x).toNat = x := by rw [UInt8.toNat_ofNat']; omega
    have hq := h (UInt8.ofNat x) W
    rw [hu] at hq
    have hw : IntKind.u8.wrap (x : Int) = (x : Int) := IntWalk.u8_in _ ⟨by omega, by omega⟩
    go_wp2_with (refine hq.mono ?_; rintro e w' ⟨rfl, rfl⟩)
    go_returns
    exact ⟨by simp [askRune, h1], rfl⟩
  · go_wp2
    go_returns
    exact ⟨by simp [askRune, h1], rfl⟩

end Go.Proofs.YtnagiphjlfiifaaDoor
