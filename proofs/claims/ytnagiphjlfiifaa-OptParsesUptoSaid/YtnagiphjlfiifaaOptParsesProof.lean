/-
  Any arguments are parted, by any spec, as the document says, and asked for letters: the law OptParses returns true.
  Conditions: what is read holds together at most 1048576 values and letters.
-/
import Derived.Test.YtnagiphjlfiifaaLaw
import Derived.Test.YtnagiphjlfiifaaOptParses
namespace Go.Proofs.Ytnagiphjlfiifaa.optParses
open Go.ChangeShapes Go.WideShapes Go.ChangeAt Go.RowKit
open Go.ChangeMaps (open_string shut_string)

theorem cellsStr : Try.prog.cellsOf 9 = 1 := by kernel_rfl
theorem paramsOk : ∀ t ∈ Try.f3.params.toList, Try.prog.readableRec t = true ∧ t < Try.prog.types.size := by
  intro t ht
  rw [Try.params3] at ht
  simp at ht
  rcases ht with rfl | rfl | rfl
  · exact ⟨by kernel_rfl, of_decide_eq_true (by kernel_rfl)⟩
  · exact ⟨by kernel_rfl, of_decide_eq_true (by kernel_rfl)⟩
  · exact ⟨by kernel_rfl, of_decide_eq_true (by kernel_rfl)⟩

theorem u8_of_wf {x : Int} (h : (Lit.int .u8 x).wf = true) : ∃ c : UInt8, x = (c.toNat : Int) := by
  have h1 := Go.bounds_u8 h
  refine ⟨UInt8.ofNat x.toNat, ?_⟩
  rw [UInt8.toNat_ofNat']
  omega

theorem contract (H : Type) (enc : TypeId × Value → H) (W : World) (base : Nat) (args : Array Value) (ds gs : List (DataW H)) (before : List MemPlace)
    (hval : ∀ (j : Nat) t v, Try.f3.params[j]? = some t → args[j]? = some v → Value.okWide Try.prog W .any base t v)
    (hW : DataW.Whole enc Try.prog Try.f3.params.toList Rows.optParsesSpec.vars false W args.toList ds gs before) (hk : Rows.uptoSmall H (ds ++ gs) = true) :
    Calls Try.prog 3 args W fun e W' => ∃ v, e = .returned v ∧ Rows.optParsesSpec.post enc Try.prog Try.f3 false true false false W args v W' := by
  have hW' := hW
  obtain ⟨p, q, hA0, hV, rfl, hfz, hnd⟩ := hW
  have hA : DataW.TrodAll enc Try.prog W 0 (fun _ => true) true Try.f3.params.toList args.toList ds p := hA0
  rw [Try.params3] at hA hval
  obtain ⟨v0, vs0, d0, ds0, p0, q0, hargs, rfl, rfl, h0, r0⟩ := trodAll_cons hA
  obtain ⟨v1, vs1, d1, ds1, p1, q1, rfl, rfl, rfl, h1, r1⟩ := trodAll_cons r0
  obtain ⟨v2, vs2, d2, ds2, p2, q2, rfl, rfl, rfl, h2, r2⟩ := trodAll_cons r1
  obtain ⟨rfl, rfl, rfl⟩ := trodAll_nil r2
  obtain rfl : args = #[v0, v1, v2] := by cases args; simp_all
  obtain ⟨rfl, rfl⟩ := trodVars_none hV
  obtain ⟨s, rfl, rfl, rfl, hmax⟩ := open_string Try.underlying9 (hval 1 9 v1 rfl rfl) h1
  obtain ⟨x, rfl, rfl, rfl, wx⟩ := open_int Try.underlying5 (hval 2 5 v2 rfl rfl) h2
  obtain ⟨c, rfl⟩ := u8_of_wf wx
  obtain ⟨a0, len, cap, rfl⟩ := okWide_slice Try.underlying22 (hval 0 22 v0 rfl rfl)
  have fin : ∀ (e : Ending) (W1 : World), e = .returned (.bool true) ∧ Below W.heap.size W W1 → ∃ v, e = .returned v ∧ Rows.optParsesSpec.post enc Try.prog Try.f3 false true false false W #[.slice a0 len cap, .string s, .int .u8 c.toNat] v W1 :=
    fun e W1 ⟨he, hb⟩ => ⟨_, he, post_true Try.laidOut hW' rfl rfl rfl rfl rfl rfl Try.underlying4 paramsOk hb⟩
  have hbulk := bulk_bound hk
  simp only [List.append_nil, Rows.uptoBulkAll, bulk_string] at hbulk
  obtain ⟨fuel, hf⟩ := h0
  clear hA0 hW' hk hA
  rcases open_strings Try.underlying22 Try.underlying9 cellsStr hf with ⟨hcs, hx⟩ | ⟨a, len', cap', ss, hcs, _, hl, hm, hz, hx, hcell, hws⟩
  · simp [Value.cells] at hcs
    obtain ⟨rfl, rfl, rfl⟩ := hcs
    exact (optParses_any none 0 [] s c W (by omega) (by simp) Reads.none_ (by simp [Pl.total]) (by simp)).mono fin
  · simp [Value.cells] at hcs
    obtain ⟨rfl, rfl, rfl⟩ := hcs
    simp only [Prod.mk.injEq] at hx
    obtain ⟨rfl, rfl⟩ := hx
    simp only [if_true] at hz
    simp only [Rows.uptoBulk, bulk_strs, List.length_take, List.length_drop] at hbulk
    have hlen : (ss.take len).length = len := by rw [List.length_take]; omega
    have hr : Reads W W.heap.size 1 (some a) (ss.take len).length (Go.Proofs.Ytnagiphjlfiifaa.strs (ss.take len)) := by
      refine ⟨by simp [Go.Proofs.Ytnagiphjlfiifaa.strs], fun hn => ⟨a, rfl, ?_, fun j u hu => ?_⟩⟩
      · have h := World.block_lt_of_cell? W _ (hcell 0 (by omega))
        rwa [block_of_add] at h
      · obtain ⟨t, ht, rfl⟩ := strs_at hu
        have hj : j < len := by
          have := (List.getElem?_eq_some_iff.1 ht).1
          omega
        rw [hcell j (by omega), List.getD_eq_getElem?_getD]
        rw [List.getElem?_take, if_pos hj] at ht
        rw [ht]; rfl
    have := optParses_any (some a) cap (ss.take len) s c W (by omega) (by omega) hr (by unfold Pl.total; omega) (by omega)
    rw [hlen] at this
    exact this.mono fin

set_option maxRecDepth 100000 in
theorem lifted (os : Os) (started : os.Started) (H : Type) (enc : TypeId × Value → H) (F : Stop.Interp) :
    ReturnsInHanded {} Try.checked os 3 .any ((Rows.OpenSpec.upto Rows.optParsesSpec).pre6 enc Try.prog Try.f3 Rows.optParsesUptoRow.domain false) (((Rows.OpenSpec.upto Rows.optParsesSpec).at F).post enc Try.prog Try.f3 false true false false) := by
  refine returnsInHanded_of_cond (C := Try.checked) (s := Rows.OpenSpec.upto Rows.optParsesSpec) (k := Rows.uptoSmall) rfl Try.own started (by kernel_rfl) Try.func3
    (OpenSpec.witness (enc := enc) (C := Try.checked) (s := Rows.OpenSpec.upto Rows.optParsesSpec) (k := Rows.uptoSmall) rfl false ⟨#[], #[.slice none 0 0, .string .empty, .int .u8 0], []⟩ 8 (by kernel_rfl) (by kernel_rfl) (by kernel_rfl)
      (x := ([.nil, .lit (.string []), .lit (.int .u8 0)], [], [])) (by kernel_rfl) rfl (by kernel_rfl)) ?_
  intro W base args ds gs before hval hW _ hk _
  exact contract H enc W base args ds gs before hval hW hk

theorem proved : Rows.OptParsesUptoSaid :=
  OpenClaim.holds_of_cond 3 Try.f3 rfl rfl rfl rfl rfl rfl rfl ⟨rfl, rfl, rfl, rfl, rfl⟩ rfl rfl rfl rfl rfl (by kernel_rfl) Try.func3 (by kernel_rfl)
    (of_decide_eq_true (by kernel_rfl)) (by unfold Func.isWrapper; first | (rw [if_pos (by decide +kernel)]; kernel_rfl) | (rw [if_neg (by decide +kernel)]; exact ⟨rfl, rfl⟩))
    (fun os started H enc _ F => lifted os started H enc F)
#print axioms proved
end Go.Proofs.Ytnagiphjlfiifaa.optParses
