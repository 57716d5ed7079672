/-
  text.Lines and text.Fields, at any bytes: the pieces, each in memory of its own.
-/
import Derived.Test.YtnagiphjlfiifaaDoorTextIndex
namespace Go.Proofs.YtnagiphjlfiifaaDoor
open Go.RowKit

def isLine (b : UInt8) : Bool := b == 10
def isBlank (b : UInt8) : Bool := b == 32 || b == 9
theorem hi_ne {b c : UInt8} (h : 128 ≤ b.toNat) (hc : c.toNat < 128) : (b == c) = false := beq_eq_false_iff_ne.2 fun e => by subst e; omega
theorem isLine_hi (b : UInt8) (h : 128 ≤ b.toNat) : isLine b = false := hi_ne h (by decide)
theorem isBlank_hi (b : UInt8) (h : 128 ≤ b.toNat) : isBlank b = false := by
  unfold isBlank
  rw [hi_ne h (by decide), hi_ne h (by decide)]
  rfl

theorem lines_any (A : Option Addr) (cap : Nat) (bs : List UInt8) (w : World) (hb : bs.length ≤ 2097152) (hcap : bs.length ≤ cap) (hr : Reads w w.heap.size 1 A bs.length (bytesC bs)) (hT : Lib.Utf8Tabs (Tryd.lays7n55_ren.g 2) (Tryd.lays7n55_ren.g 3) w) :
    Calls Tryd.prog 18 #[.slice A bs.length cap] w fun e W' => ∃ v, e = .returned v ∧ RowsOf W' w.heap.size v (Pl.pieces isLine bs) ∧ Below w.heap.size w W' :=
  callsIn_wide.1 (lines_in isLine 2097152 (Nat.le_refl _) A cap bs w hb hcap hr (finds_any isLine isLine_hi _ lines1_any (enters_of Tryd.func27 (by kernel_rfl) rfl) _ _ (Nat.le_refl _) w hT))

theorem fields_any (A : Option Addr) (cap : Nat) (bs : List UInt8) (w : World) (hb : bs.length ≤ 2097152) (hcap : bs.length ≤ cap) (hr : Reads w w.heap.size 1 A bs.length (bytesC bs)) (hT : Lib.Utf8Tabs (Tryd.lays7n55_ren.g 2) (Tryd.lays7n55_ren.g 3) w) :
    Calls Tryd.prog 21 #[.slice A bs.length cap] w fun e W' => ∃ v, e = .returned v ∧ RowsOf W' w.heap.size v (Pl.full (Pl.pieces isBlank bs)) ∧ Below w.heap.size w W' :=
  callsIn_wide.1 (fields_in isBlank 2097152 (Nat.le_refl _) A cap bs w hb hcap hr (finds_any isBlank isBlank_hi _ fields1_any (enters_of Tryd.func29 (by kernel_rfl) rfl) _ _ (Nat.le_refl _) w hT))

theorem own_form {w : World} {base : Nat} {e : TypeId} {size n : Nat} {v : Value} {xs : List Value} (h : w.ownsRow base e size v n xs) (hn : 0 < n) :
    ∃ g cap, v = .slice (some ⟨g, 0, none⟩) n cap ∧ base ≤ g ∧ g < w.heap.size ∧ (∀ j u, xs[j]? = some u → w.cell? ⟨g, j, none⟩ = some u) := by
  obtain ⟨g, cap, hv, hb, hlt⟩ := h.form hn
  refine ⟨g, cap, hv, hb, hlt, fun j u hu => ?_⟩
  have hc := h.cells (g := g) (by rw [hv]; rfl) j u hu
  have e : (⟨g, 0, none⟩ : Addr).add j = ⟨g, j, none⟩ := by unfold Addr.add; split <;> simp_all
  rwa [e] at hc
/-- where bytes lie that are read -/
theorem bytes_at {W : World} {B : Nat} {A : Option Addr} {l : List UInt8} (h : Reads W B 1 A l.length (bytesC l)) (hpos : 0 < l.length) :
    ∃ b off, A = some ⟨b, off, none⟩ ∧ b < B ∧ ∀ (i : Nat) (c : UInt8), l[i]? = some c → W.cell? ⟨b, off + i, none⟩ = some (.int .u8 c.toNat) := by
  obtain ⟨⟨b, off, spot⟩, rfl, hb, hc⟩ := h.2 hpos
  have h0 : (bytesC l)[0]? = some (.int .u8 (l[0].toNat)) := by simp [bytesC, List.getElem?_eq_getElem hpos]
  obtain rfl : spot = none := World.cell?_spot (hc 0 _ h0)
  refine ⟨b, off, rfl, hb, fun i c hi => ?_⟩
  have e : (⟨b, off, none⟩ : Addr).add i = ⟨b, off + i, none⟩ := by unfold Addr.add; split <;> simp_all
  rw [← e]
  exact hc i _ (by simp [bytesC, hi])

end Go.Proofs.YtnagiphjlfiifaaDoor
