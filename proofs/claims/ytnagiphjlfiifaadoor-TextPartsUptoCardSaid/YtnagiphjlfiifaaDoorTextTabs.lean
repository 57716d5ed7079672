/-
  What the rows list gives what the walks ask: the tables, the sentinels, the words.
-/
import Derived.Test.YtnagiphjlfiifaaDoorTextFormat
import Derived.Lib.LaidU8T
import Derived.Lib.LaidTab
import Derived.Stop.LaidErr
import Derived.LaidMore
import Derived.Lay
import Derived.Deep.DeepHandedRow
namespace Go.Proofs.YtnagiphjlfiifaaDoor
open Go.RowKit Go.ChangeShapes Go.WideShapes Go.ChangeAt Go.Shelf

def u8ren : Ren := ⟨fun n => n, fun | 5 => 5 | 119 => 89 | 138 => 91 | 139 => 92 | n => n, fun | 3 => 6 | 4 => 7 | n => n⟩
theorem u8types : U8Types Tryd.prog u8ren where
  t5 := Tryd.underlying5
  t119 := Tryd.underlying89
  t138 := Tryd.underlying91
  t139 := Tryd.underlying92
theorem u8extra : U8Extra Tryd.prog u8ren where
  n3 := by kernel_rfl
  n4 := by kernel_rfl
  y3 := by kernel_rfl
  y4 := by kernel_rfl
  c5 := by kernel_rfl
  c119 := by kernel_rfl
  c138 := by kernel_rfl
set_option maxRecDepth 100000 in
theorem firstData_eq : Rows.laid_unicode_utf8_first = Lib.firstData := by kernel_rfl
set_option maxRecDepth 100000 in
theorem acceptData_eq : Rows.laid_unicode_utf8_acceptRanges = Lib.acceptData := by kernel_rfl

/-- a listed array of integers -/
theorem tab_reads {W : World} {n : String} {k : IntKind} {zs : List Int} {g : Nat} {t e : TypeId} {m : Nat} (h : Lib.VarReads Tryd.prog W n (Lib.tabData k zs))
    (hg : Tryd.prog.globalNamed n = some g) (hty : (Tryd.prog.globals[g]?).map (·.type) = some t) (ht : Tryd.prog.underlying t = some (.array m e)) (he : Tryd.prog.underlying e = some (.int k)) (hce : Tryd.prog.cellsOf e = 1) (hct : Tryd.prog.cellsOf t = m) : Lib.TabIs Tryd.prog W n k zs := by
  obtain ⟨g', t', cs, fuel, p, hg', ht', hv, hd⟩ := h
  obtain rfl := Option.some.inj (hg.symm.trans hg')
  obtain rfl := Option.some.inj (hty.symm.trans ht')
  unfold Lib.TabIs
  rw [hv, ← Lib.cells_of_tab ht he hce hct hd]
def bruijnZ : List Int := [0, 1, 56, 2, 57, 49, 28, 3, 61, 58, 42, 50, 38, 29, 17, 4, 62, 47, 59, 36, 45, 43, 51, 22, 53, 39, 33, 30, 24, 18, 12, 5, 63, 55, 48, 27, 60, 41, 37, 16, 46, 35, 44, 21, 52, 32, 23, 11, 54, 26, 40, 15, 34, 20, 31, 10, 25, 14, 19, 9, 13, 8, 7, 6]

theorem Tryd.star : "*" ++ "errors.errorString" = "*errors.errorString" := by decide
theorem Tryd.rowErr (u : TypeId) (h : Tryd.prog.typeName? 3 u = some "*errors.errorString") : u = 84 :=
  typeName_ptr_named (nm := "errors.errorString") (by rw [Tryd.star]; kernel_rfl) (by kernel_rfl) (by decide) u (by rw [Tryd.star]; exact h)

theorem sentinel_cell {W : World} {n : String} {text : List UInt8} {r : List (String × DataW Unit)} {g : Nat} (h : laidMet Tryd.prog ((n, .iface "*errors.errorString" (.ptr (.agg [.lit (.string text)]))) :: r) W)
    (hg : Tryd.prog.globalNamed n = some g) (ht : (Tryd.prog.globals[g]?).map (·.type) = some 46) : ∃ tp p, W.cell? ⟨g, 0, none⟩ = some (.iface tp p) := by
  obtain ⟨a, s, hv, _, _, _⟩ := laid_sentinel h hg ht Tryd.underlying46 Tryd.rowErr Tryd.underlying84 Tryd.underlying86 rfl rfl Tryd.underlying9 (by kernel_rfl) (by kernel_rfl)
  have := World.var?_cell hg hv 0
  exact ⟨_, _, this⟩

theorem tabs_mk {W : World} {l : List (String × DataW Unit)} (h : laidMet Tryd.prog l W)
    (m1 : ("math/bits.deBruijn64tab", Rows.laid_math_bits_deBruijn64tab) ∈ l) (m2 : ("internal/strconv.uint64pow10", Rows.laid_internal_strconv_uint64pow10) ∈ l) (m3 : ("unicode/utf8.acceptRanges", Rows.laid_unicode_utf8_acceptRanges) ∈ l) (m4 : ("unicode/utf8.first", Rows.laid_unicode_utf8_first) ∈ l)
    (hS : ∃ tp p, W.cell? ⟨2, 0, none⟩ = some (.iface tp p)) (hR : ∃ tp p, W.cell? ⟨3, 0, none⟩ = some (.iface tp p)) : Tabs W := by
  have hb : Lib.TabIs Tryd.prog W "math/bits.deBruijn64tab" .u8 bruijnZ := tab_reads (g := 5) (t := 88) (Lib.laidMet.reads h m1) (by kernel_rfl) (by kernel_rfl) Tryd.underlying88 Tryd.underlying5 (by kernel_rfl) (by kernel_rfl)
  have hp : Lib.TabIs Tryd.prog W "internal/strconv.uint64pow10" .u64 Lib.pow10Tab := tab_reads (g := 1) (t := 69) (Lib.laidMet.reads h m2) (by kernel_rfl) (by kernel_rfl) Tryd.underlying69 Tryd.underlying54 (by kernel_rfl) (by kernel_rfl)
  have h3 := Lib.laidMet.reads h m3
  have h4 := Lib.laidMet.reads h m4
  rw [acceptData_eq] at h3
  rw [firstData_eq] at h4
  exact ⟨hb.cell (g := 5) (by kernel_rfl) 7 (by decide), hb.cell (g := 5) (by kernel_rfl) 15 (by decide), hp, utf8Tabs_of_readsT u8types u8extra h4 h3, hS, hR⟩

theorem tabs_of {W : World} (h : laidMetH Tryd.prog Rows.textNumbersRow.laid W) : Tabs W := by
  have h' : laidMet Tryd.prog Rows.textNumbersRow.laid W := h
  refine tabs_mk h' (by simp [Rows.textNumbersRow]) (by simp [Rows.textNumbersRow]) (by simp [Rows.textNumbersRow]) (by simp [Rows.textNumbersRow]) ?_ ?_
  · exact sentinel_cell h'.tail.tail.tail.tail.tail (by kernel_rfl) (by kernel_rfl)
  · exact sentinel_cell h'.tail.tail.tail.tail (by kernel_rfl) (by kernel_rfl)

/-- the witness -/
theorem witness_row_shaped {H : Type} {enc : TypeId × Value → H} {C : Checked} {os : Os} {f : FuncId} {fn : Func} {s : OpenSpec} {conds : List PathCond} {apart : Bool} {laid : List (String × DataW Unit)} (w0 : World) (args : Array Value) (hos : w0.os = os)
    (hsh : (w0.forCall (fun _ _ => 0) ⟨#[], args, []⟩).Shaped C.prog)
    (hok : Input.okWideB C.prog (w0.forCall (fun _ _ => 0) ⟨#[], args, []⟩) f ⟨#[], args, []⟩ = true)
    (hrow : s.preRow enc C.prog fn conds apart laid (w0.forCall (fun _ _ => 0) ⟨#[], args, []⟩).memory args) :
    ∃ (w : World) (tape : Tape) (i : Input), w.os = os ∧ (w.forCall tape i).Shaped C.prog ∧ i.vars = [] ∧ Input.okWide C.prog (w.forCall tape i) .any w.heap.size f i ∧
      s.preRow enc C.prog fn conds apart laid (w.forCall tape i).memory i.args ∧ ({} : Assume).holds C.prog (lone (Frame.enter C.prog f i.args .normal) [] (w.forCall tape i)) :=
  ⟨w0, fun _ _ => 0, ⟨#[], args, []⟩, hos, hsh, (Input.okWide_of_okWideB (base := 0) hok).1, (Input.okWide_of_okWideB hok).2, hrow, by
    simp only [Assume.holds]
    exact ⟨by simp, by simp, fun _ => Modest.zero, by simp, by simp⟩⟩

end Go.Proofs.YtnagiphjlfiifaaDoor
