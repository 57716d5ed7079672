/-
  What is said of errors is as the document says: the law TextWords returns true, for every input; the card ties the listed variables.
  Conditions: none beyond the row's own.
-/
import Derived.Test.YtnagiphjlfiifaaDoorCards
import Derived.Test.YtnagiphjlfiifaaDoorTie
import Derived.Test.YtnagiphjlfiifaaDoorLaw
import Derived.Test.YtnagiphjlfiifaaDoorTextWordsWalk
import Derived.Test.YtnagiphjlfiifaaDoorTextTabs
import Derived.SizedLaws
namespace Go.Proofs.YtnagiphjlfiifaaDoor.textWords
open Go.ChangeShapes Go.WideShapes Go.ChangeAt Go.RowKit
open Go.ChangeMaps (open_string shut_string)

theorem paramsOk : ∀ t ∈ Tryd.f3.params.toList, Tryd.prog.readableRec t = true ∧ t < Tryd.prog.types.size := by
  intro t ht
  rw [Tryd.params3] at ht
  simp at ht
  rcases ht with rfl | rfl
  · exact ⟨by kernel_rfl, of_decide_eq_true (by kernel_rfl)⟩
  · exact ⟨by kernel_rfl, of_decide_eq_true (by kernel_rfl)⟩

theorem words_reads {W : World} (h : Lib.VarReads Tryd.prog W "toolchest/toolchestref01.words" Rows.laid_toolchest_toolchestref01_words) : WordTab W := by
  obtain ⟨g, t, cs, fuel, p, hg, hty, hv, hd⟩ := h
  obtain rfl := Option.some.inj ((show Tryd.prog.globalNamed "toolchest/toolchestref01.words" = some 0 by kernel_rfl).symm.trans hg)
  obtain rfl := Option.some.inj ((show (Tryd.prog.globals[0]?).map (·.type) = some 37 by kernel_rfl).symm.trans hty)
  have hl : (Rows.laid_toolchest_toolchestref01_words : DataW Unit) = .agg (wordsL.map fun l => .lit (.string l)) := rfl
  rw [hl] at hd
  intro k hk
  obtain ⟨fuel', d, q, hdi, he⟩ := Lib.array_elem Tryd.underlying37 hd k hk
  rw [show Tryd.prog.cellsOf 9 = 1 by kernel_rfl] at he
  obtain ⟨s', h1, h2, _⟩ := DataW.trod_string Tryd.underlying9 he
  have hcell := World.var?_cell hg hv k
  have hck : cs[k]? = some (.string s') := by
    have := congrArg (·[0]?) h1
    simpa using this
  rw [hcell, hck]
  have hw := wordCell k hk
  have hd2 : d = .lit (.string s'.data.toList) := congrArg Prod.fst h2
  rw [hd2] at hdi
  simp only [wordCells, List.getElem?_toArray, List.getElem?_map, Option.map_eq_some_iff] at hw hdi
  obtain ⟨l, hl1, hl2⟩ := hw
  obtain ⟨l', hl3, hl4⟩ := hdi
  rw [hl1] at hl3
  cases hl3
  rw [← hl2]
  simp only [DataW.lit.injEq, Lit.string.injEq] at hl4
  cases s'
  simp_all

theorem tabs_words {W : World} (h : laidMetH Tryd.prog Rows.textWordsRow.laid W) : Tabs W ∧ WordTab W := by
  have h' : laidMet Tryd.prog Rows.textWordsRow.laid W := h
  refine ⟨tabs_mk h' (by simp [Rows.textWordsRow]) (by simp [Rows.textWordsRow]) (by simp [Rows.textWordsRow]) (by simp [Rows.textWordsRow]) ?_ ?_, words_reads (Lib.laidMet.reads h' (by simp [Rows.textWordsRow]))⟩
  · exact sentinel_cell h'.tail.tail.tail.tail.tail.tail (by kernel_rfl) (by kernel_rfl)
  · exact sentinel_cell h'.tail.tail.tail.tail.tail (by kernel_rfl) (by kernel_rfl)

theorem contract (H : Type) (enc : TypeId × Value → H) (W : World) (base : Nat) (args : Array Value) (ds gs : List (DataW H)) (before : List MemPlace)
    (hval : ∀ (j : Nat) t v, Tryd.f3.params[j]? = some t → args[j]? = some v → Value.okWide Tryd.prog W .any base t v)
    (hW : DataW.Whole enc Tryd.prog Tryd.f3.params.toList Rows.textWordsSpec.vars false W args.toList ds gs before)
    (hsz : (DataW.weightsEach Tryd.prog (Tryd.f3.params.toList ++ []) (ds ++ gs)).all (· ≤ reachBytes) = true) (hL : laidMetH Tryd.prog Rows.textWordsRow.laid W) :
    Calls Tryd.prog 3 args W fun e W' => ∃ v, e = .returned v ∧ Rows.textWordsSpec.post enc Tryd.prog Tryd.f3 false true false false W args v W' := by
  have hW' := hW
  obtain ⟨p, q, hA0, hV, rfl, hfz, hnd⟩ := hW
  have hA : DataW.TrodAll enc Tryd.prog W 0 (fun _ => true) true Tryd.f3.params.toList args.toList ds p := hA0
  rw [Tryd.params3] at hA hval hsz
  obtain ⟨v0, vs0, d0, ds0, p0, q0, hargs, rfl, rfl, h0, r0⟩ := trodAll_cons hA
  obtain ⟨v1, vs1, d1, ds1, p1, q1, rfl, rfl, rfl, h1, r1⟩ := trodAll_cons r0
  obtain ⟨v2, vs2, d2, ds2, p2, q2, rfl, rfl, rfl, h2, r2⟩ := trodAll_cons r1
  obtain ⟨rfl, rfl, rfl⟩ := trodAll_nil r2
  obtain rfl : args = #[v0, v1, v2] := by cases args; simp_all
  obtain ⟨rfl, rfl⟩ := trodVars_none hV
  obtain ⟨s, rfl, rfl, rfl, hmax⟩ := open_string Tryd.underlying9 (hval 0 9 v0 rfl rfl) h0
  obtain ⟨s1, rfl, rfl, rfl, hmax1⟩ := open_string Tryd.underlying9 (hval 1 9 v1 rfl rfl) h1
  obtain ⟨e, rfl, rfl, rfl, we⟩ := open_int Tryd.underlying22 (hval 2 22 v2 rfl rfl) h2
  have hrb : reachBytes = 140737488351232 := rfl
  have hs : s.size ≤ 140737488351232 := by
    have := sized_string (P := Tryd.prog) hsz (j := 0) (t := 9) (bytes := s.data.toList) rfl rfl
    simpa [hrb] using this
  have hs1 : s1.size ≤ 140737488351232 := by
    have := sized_string (P := Tryd.prog) hsz (j := 1) (t := 9) (bytes := s1.data.toList) rfl rfl
    simpa [hrb] using this
  have hT := tabs_words hL
  exact (textWords_any s s1 e W hs hs1 hT.1 hT.2).mono fun e W1 ⟨he, hb⟩ => ⟨_, he, post_true Tryd.laidOut hW' rfl rfl rfl rfl rfl rfl Tryd.underlying4 paramsOk hb⟩

def witArgs : Array Value := #[.string ⟨#[]⟩, .string ⟨#[]⟩, .int .i64 0]
theorem reads (os : Os) {H : Type} (enc : TypeId × Value → H) : ∃ places, DataW.whole enc Tryd.prog ((World.laidAll Tryd.prog os Rows.textWordsRow.laid).forCall (fun _ _ => 0) ⟨#[], witArgs, []⟩).memory Tryd.f3.params.toList Rows.textWordsSpec.vars false witArgs.toList 8 = some ([.lit (.string []), .lit (.string []), .lit (.int .i64 0)], [], places) :=
  ⟨[], by kernel_rfl⟩

set_option maxRecDepth 100000 in
theorem lifted (os : Os) (started : os.Started) (H : Type) (enc : TypeId × Value → H) (F : Stop.Interp) :
    ReturnsInHanded {} Tryd.checked os 3 .any ((OpenSpec.ofChange Rows.textWordsSpec).preRow enc Tryd.prog Tryd.f3 Rows.textWordsRow.domain false Rows.textWordsRow.laid) (((OpenSpec.ofChange Rows.textWordsSpec).at F).post enc Tryd.prog Tryd.f3 false true false false) := by
  obtain ⟨places, hx⟩ := reads os enc
  refine returnsInHanded_of_row (C := Tryd.checked) (s := OpenSpec.ofChange Rows.textWordsSpec) Tryd.own started (by kernel_rfl) Tryd.func3
    (witness_row_shaped (enc := enc) (C := Tryd.checked) (World.laidAll Tryd.prog os Rows.textWordsRow.laid) witArgs (World.laidAll_os _ _ _) (World.shaped_of_ZipB (by kernel_rfl) (by kernel_rfl)) (by kernel_rfl)
      (OpenSpec.preRow_of_cond 8 hx (by kernel_rfl) (fun k hk => by cases hk) (by kernel_rfl) (by rw [MakeChecks.laidMetH_plain _ _ _ (by kernel_rfl)]; exact laidMet_laidAll _ (by kernel_rfl) (by kernel_rfl)))) ?_
  intro W base args ds gs before hval hW _ _ hsz hL _ _
  exact contract H enc W base args ds gs before hval hW hsz hL

theorem said : Rows.TextWordsSaid :=
  OpenClaim.holds_of_cond 3 Tryd.f3 rfl rfl rfl rfl rfl rfl rfl ⟨rfl, rfl, rfl, rfl, rfl⟩ rfl rfl rfl rfl rfl (by kernel_rfl) Tryd.func3 (by kernel_rfl)
    (of_decide_eq_true (by kernel_rfl)) (by unfold Func.isWrapper; first | (rw [if_pos (by decide +kernel)]; kernel_rfl) | (rw [if_neg (by decide +kernel)]; exact ⟨rfl, rfl⟩))
    (fun os started H enc _ F => by rw [OpenClaim.pre_eq_preRow]; exact lifted os started H enc F)

/-- no parameter wants a stand-in; the program's own looks are on -/
theorem plain (f : FuncId) (fn : Func) (hf : Tryd.pinned.checked.prog.funcNamed "toolchest/toolchestlaw01.TextWords" = some f) (hfn : Tryd.pinned.checked.prog.funcs[f]? = some fn) :
    true = Tryd.pinned.checked.prog.looks [] ∧ ∀ (j : Nat) t, fn.params[j]? = some t → Tryd.pinned.checked.prog.wantsStandIn t = false := by
  obtain rfl : f = 3 := Option.some.inj ((show Tryd.prog.funcNamed "toolchest/toolchestlaw01.TextWords" = some 3 by kernel_rfl).symm.trans hf) |>.symm
  obtain rfl : fn = Tryd.f3 := (Option.some.inj (Tryd.func3.symm.trans hfn)).symm
  refine ⟨by kernel_rfl, fun j t ht => ?_⟩
  have hm : t ∈ Tryd.f3.params.toList := by simpa using Array.mem_of_getElem? ht
  have hall : (Tryd.f3.params.toList.all fun u => !Tryd.prog.wantsStandIn u) = true := by kernel_rfl
  exact (show Tryd.prog.wantsStandIn t = false by simpa using List.all_eq_true.1 hall t hm)

theorem proved : Rows.TextWordsCardSaid :=
  Claim7.holds_tied_plain_at .later [] _ _ _ _ said (fun _ h => by cases h) (by kernel_rfl) (fun _ h => by cases h) textWords_row_tie rfl ⟨rfl, rfl⟩ (by kernel_rfl) rfl plain (by kernel_rfl)
#print axioms proved
end Go.Proofs.YtnagiphjlfiifaaDoor.textWords
