/-
  Options one by one and in one group are parted alike: the law OptGroups returns true.
  Conditions: what is read holds together at most 1048576 values and letters.
-/
import Derived.Test.YtnagiphjlfiifaaLaw
import Derived.Test.YtnagiphjlfiifaaOptGroups
namespace Go.Proofs.Ytnagiphjlfiifaa.optGroups
open Go.ChangeShapes Go.WideShapes Go.ChangeAt Go.RowKit
open Go.ChangeMaps (open_string shut_string)

theorem cellsStr : Try.prog.cellsOf 9 = 1 := by kernel_rfl
theorem paramsOk : ∀ t ∈ Try.f4.params.toList, Try.prog.readableRec t = true ∧ t < Try.prog.types.size := by
  intro t ht
  rw [Try.params4] at ht
  simp at ht
  rcases ht with rfl | rfl
  · exact ⟨by kernel_rfl, of_decide_eq_true (by kernel_rfl)⟩
  · exact ⟨by kernel_rfl, of_decide_eq_true (by kernel_rfl)⟩

/-- a slice of strings that is read: what the walk takes of it -/
theorem read_strs {H : Type} {enc : TypeId × Value → H} {W : World} {fuel : Nat} {cs : List Value} {d : DataW H} {ps : List MemPlace} {a0 : Option Addr} {len cap : Nat}
    (h : DataW.trod enc Try.prog W 0 (fun _ => true) true fuel 22 cs = some (d, ps)) (hc : cs = [.slice a0 len cap]) :
    ∃ l : List ByteArray, l.length = len ∧ Reads W W.heap.size 1 a0 l.length (Go.Proofs.Ytnagiphjlfiifaa.strs l) ∧ Pl.total l + l.length ≤ Rows.uptoBulk d := by
  subst hc
  rcases open_strings Try.underlying22 Try.underlying9 cellsStr h with ⟨hcs, hx⟩ | ⟨a, len', cap', ss, hcs, _, hl, hm, hz, hx, hcell, hws⟩
  · simp at hcs
    obtain ⟨rfl, rfl, rfl⟩ := hcs
    exact ⟨[], rfl, Reads.none_, by simp [Pl.total]⟩
  · simp at hcs
    obtain ⟨rfl, rfl, rfl⟩ := hcs
    simp only [Prod.mk.injEq] at hx
    obtain ⟨rfl, rfl⟩ := hx
    simp only [if_true] at hz
    have hlen : (ss.take len).length = len := by rw [List.length_take]; omega
    refine ⟨ss.take len, hlen, ⟨by simp [Go.Proofs.Ytnagiphjlfiifaa.strs], fun hn => ⟨a, rfl, ?_, fun j u hu => ?_⟩⟩, ?_⟩
    · have h := World.block_lt_of_cell? W _ (hcell 0 (by omega))
      rwa [block_of_add] at h
    · obtain ⟨t, ht, rfl⟩ := strs_at hu
      have hj : j < len := by
        have := (List.getElem?_eq_some_iff.1 ht).1
        omega
      rw [hcell j (by omega), List.getD_eq_getElem?_getD]
      rw [List.getElem?_take, if_pos hj] at ht
      rw [ht]; rfl
    · simp only [Rows.uptoBulk, bulk_strs]
      unfold Pl.total
      omega

theorem contract (H : Type) (enc : TypeId × Value → H) (W : World) (base : Nat) (args : Array Value) (ds gs : List (DataW H)) (before : List MemPlace)
    (hval : ∀ (j : Nat) t v, Try.f4.params[j]? = some t → args[j]? = some v → Value.okWide Try.prog W .any base t v)
    (hW : DataW.Whole enc Try.prog Try.f4.params.toList Rows.optGroupsSpec.vars false W args.toList ds gs before) (hk : Rows.uptoSmall H (ds ++ gs) = true) :
    Calls Try.prog 4 args W fun e W' => ∃ v, e = .returned v ∧ Rows.optGroupsSpec.post enc Try.prog Try.f4 false true false false W args v W' := by
  have hW' := hW
  obtain ⟨p, q, hA0, hV, rfl, hfz, hnd⟩ := hW
  have hA : DataW.TrodAll enc Try.prog W 0 (fun _ => true) true Try.f4.params.toList args.toList ds p := hA0
  rw [Try.params4] at hA hval
  obtain ⟨v0, vs0, d0, ds0, p0, q0, hargs, rfl, rfl, h0, r0⟩ := trodAll_cons hA
  obtain ⟨v1, vs1, d1, ds1, p1, q1, rfl, rfl, rfl, h1, r1⟩ := trodAll_cons r0
  obtain ⟨v2, vs2, d2, ds2, p2, q2, rfl, rfl, rfl, h2, r2⟩ := trodAll_cons r1
  obtain ⟨rfl, rfl, rfl⟩ := trodAll_nil r2
  obtain rfl : args = #[v0, v1, v2] := by cases args; simp_all
  obtain ⟨rfl, rfl⟩ := trodVars_none hV
  obtain ⟨s, rfl, rfl, rfl, hmax⟩ := open_string Try.underlying9 (hval 0 9 v0 rfl rfl) h0
  obtain ⟨a1, len1, cap1, rfl⟩ := okWide_slice Try.underlying22 (hval 1 22 v1 rfl rfl)
  obtain ⟨a2, len2, cap2, rfl⟩ := okWide_slice Try.underlying22 (hval 2 22 v2 rfl rfl)
  have fin : ∀ (e : Ending) (W1 : World), e = .returned (.bool true) ∧ Below W.heap.size W W1 → ∃ v, e = .returned v ∧ Rows.optGroupsSpec.post enc Try.prog Try.f4 false true false false W #[.string s, .slice a1 len1 cap1, .slice a2 len2 cap2] v W1 :=
    fun e W1 ⟨he, hb⟩ => ⟨_, he, post_true Try.laidOut hW' rfl rfl rfl rfl rfl rfl Try.underlying4 paramsOk hb⟩
  have hbulk := bulk_bound hk
  simp only [List.append_nil, Rows.uptoBulkAll, bulk_string] at hbulk
  obtain ⟨fuel1, hf1⟩ := h1
  obtain ⟨fuel2, hf2⟩ := h2
  clear hA0 hW' hk hA
  obtain ⟨l1, hl1, hr1, hb1⟩ := read_strs (a0 := a1) (len := len1) (cap := cap1) hf1 (by simp [Value.cells])
  obtain ⟨l2, hl2, hr2, hb2⟩ := read_strs (a0 := a2) (len := len2) (cap := cap2) hf2 (by simp [Value.cells])
  subst hl1 hl2
  exact (optGroups_any s a1 a2 cap1 cap2 l1 l2 W hr1 hr2 (by omega) (by omega) (by omega) (by omega)).mono fin

set_option maxRecDepth 100000 in
theorem lifted (os : Os) (started : os.Started) (H : Type) (enc : TypeId × Value → H) (F : Stop.Interp) :
    ReturnsInHanded {} Try.checked os 4 .any ((Rows.OpenSpec.upto Rows.optGroupsSpec).pre6 enc Try.prog Try.f4 Rows.optGroupsUptoRow.domain false) (((Rows.OpenSpec.upto Rows.optGroupsSpec).at F).post enc Try.prog Try.f4 false true false false) := by
  refine returnsInHanded_of_cond (C := Try.checked) (s := Rows.OpenSpec.upto Rows.optGroupsSpec) (k := Rows.uptoSmall) rfl Try.own started (by kernel_rfl) Try.func4
    (OpenSpec.witness (enc := enc) (C := Try.checked) (s := Rows.OpenSpec.upto Rows.optGroupsSpec) (k := Rows.uptoSmall) rfl false ⟨#[], #[.string .empty, .slice none 0 0, .slice none 0 0], []⟩ 8 (by kernel_rfl) (by kernel_rfl) (by kernel_rfl)
      (x := ([.lit (.string []), .nil, .nil], [], [])) (by kernel_rfl) rfl (by kernel_rfl)) ?_
  intro W base args ds gs before hval hW _ hk _
  exact contract H enc W base args ds gs before hval hW hk

theorem proved : Rows.OptGroupsUptoSaid :=
  OpenClaim.holds_of_cond 4 Try.f4 rfl rfl rfl rfl rfl rfl rfl ⟨rfl, rfl, rfl, rfl, rfl⟩ rfl rfl rfl rfl rfl (by kernel_rfl) Try.func4 (by kernel_rfl)
    (of_decide_eq_true (by kernel_rfl)) (by unfold Func.isWrapper; first | (rw [if_pos (by decide +kernel)]; kernel_rfl) | (rw [if_neg (by decide +kernel)]; exact ⟨rfl, rfl⟩))
    (fun os started H enc _ F => lifted os started H enc F)
#print axioms proved
end Go.Proofs.Ytnagiphjlfiifaa.optGroups
