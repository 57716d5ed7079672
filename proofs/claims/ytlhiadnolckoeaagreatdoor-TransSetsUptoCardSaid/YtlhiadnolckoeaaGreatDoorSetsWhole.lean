/-
  Strings are read, or refused, as the document says: the law TransSets returns true; the card ties the listed variables.
  Conditions: what is read holds together at most 1048576 values and letters.
-/
import Derived.Test.YtlhiadnolckoeaaGreatDoorRows
import Derived.WalkKit
import Derived.ProofKit
import Derived.OpenShut
import Derived.JoinedCond
import Derived.Carry
import Derived.SliceStrings
import Derived.Test.YtlhiadnolckoeaaGreatDoorR10
import Derived.Lib.LaidU8T
import Derived.Lib.LaidTab
import Derived.Stop.LaidErr
import Derived.LaidMore
import Derived.Lay
import Derived.Deep.DeepHandedRow
import Derived.Shelf.Vars
import Derived.ChangeSlices
import Derived.SizedLaws
import Derived.Lib.SmallJoins
import Derived.Test.YtlhiadnolckoeaaGreatDoorCards
import Derived.Test.YtlhiadnolckoeaaGreatDoorTie
import Derived.Test.YtlhiadnolckoeaaGreatDoorSetsJ

section
namespace Go.Proofs.YtlhiadnolckoeaaGreatDoor
open Go.ChangeShapes Go.WideShapes Go.ChangeAt Go.RowKit
open Go.ChangeMaps (open_string shut_string)

theorem Tryz.own : ownKnob Tryz.prog.godebug = none := by kernel_rfl
theorem Tryz.laidOut : laidOutB Tryz.prog = true := by kernel_rfl

theorem trodAll_below {H : Type} {enc : TypeId × Value → H} {P : Program} (hl : laidOutB P = true) {W W' : World} (hb : Below W.heap.size W W') :
    ∀ (ts : List TypeId) (vs : List Value) (ds : List (DataW H)) (ps : List MemPlace), (∀ t ∈ ts, P.readableRec t = true ∧ t < P.types.size) →
      DataW.TrodAll enc P W 0 (fun _ => true) true ts vs ds ps → (∀ x ∈ ps, x.block < W.heap.size) → DataW.TrodAll enc P W' 0 (fun b => decide (b < W.heap.size)) true ts vs ds ps := by
  intro ts
  induction ts with
  | nil => intro vs ds ps _ h _; obtain ⟨rfl, rfl, rfl⟩ := trodAll_nil h; exact trodAll_mk0
  | cons t ts ih =>
    intro vs ds ps ht h hlt
    obtain ⟨v, vs', d, ds', p, q, rfl, rfl, rfl, h0, hr⟩ := trodAll_cons h
    exact trodAll_cons_mk (Below.trod hl (ht t (by simp)).1 (ht t (by simp)).2 h0 hb (fun x hx => hlt x (by simp [hx]))) (ih vs' ds' q (fun u hu => ht u (by simp [hu])) hr (fun x hx => hlt x (by simp [hx])))

theorem post_true {H : Type} {enc : TypeId × Value → H} {P : Program} {f : Func} {s : ChangeSpec} {tb : TypeId} {W W' : World} {args : Array Value} {ds : List (DataW H)} {before : List MemPlace} (hl : laidOutB P = true)
    (hW : DataW.Whole enc P f.params.toList s.vars false W args.toList ds [] before) (hv : s.vars = []) (hres : (s.fn H (ds ++ [])).results = [.lit (.bool true)]) (hargs : (s.fn H (ds ++ [])).args = ds) (hvars : (s.fn H (ds ++ [])).vars = [])
    (hf : f.resultTypes.toList = [tb]) (hn : f.resultTypes.size = 1) (hb : P.underlying tb = some .bool) (ht : ∀ t ∈ f.params.toList, P.readableRec t = true ∧ t < P.types.size) (hbe : Below W.heap.size W W') :
    s.post enc P f false true false false W args (.bool true) W' := by
  have hlt : ∀ x ∈ before, x.block < W.heap.size := fun x hx => hW.lt x hx
  have hW' := hW
  obtain ⟨p, q, hA, hV, rfl, _, _⟩ := hW
  rw [hv] at hV
  obtain ⟨_, rfl⟩ := trodVars_none hV
  refine ⟨ds, [], p ++ [], [] ++ [], p, [], hW', ?_, ?_, ?_, hbe.frame _, fun h => by cases h⟩
  · rw [hres, hf, hn]
    exact trodAll_mk1 (shut_bool hb true)
  · rw [hargs]
    exact trodAll_below hl hbe _ _ _ _ ht hA (fun x hx => hlt x (by simp [hx]))
  · rw [hvars, hv]; rfl

/-! ### what the bound gives -/
theorem bulk_one {H : Type} (d : DataW H) : 1 ≤ Rows.uptoBulk d := by
  cases d with
  | lit l => cases l <;> simp [Rows.uptoBulk]
  | nil => simp [Rows.uptoBulk]
  | ptr d => simp [Rows.uptoBulk]
  | slice elems spare => simp [Rows.uptoBulk]
  | agg parts => simp [Rows.uptoBulk]
  | iface t d => simp [Rows.uptoBulk]
  | map entries => simp [Rows.uptoBulk]
  | held h => simp [Rows.uptoBulk]
theorem bulk_bound {H : Type} {l : List (DataW H)} (hk : Rows.uptoSmall H l = true) : Rows.uptoBulkAll l ≤ 1048576 := of_decide_eq_true hk
theorem bulk_string {H : Type} (s : ByteArray) : Rows.uptoBulk (DataW.lit (H := H) (.string s.data.toList)) = s.size + 1 := by
  simp only [Rows.uptoBulk]
  rw [Array.length_toList]; rfl
end Go.Proofs.YtlhiadnolckoeaaGreatDoor
end

section
namespace Go.Proofs.YtlhiadnolckoeaaGreatDoor
open Go.RowKit Go.ChangeShapes Go.WideShapes Go.ChangeAt Go.Shelf

/-- a listed array of integers -/
theorem tab_reads {W : World} {n : String} {k : IntKind} {zs : List Int} {g : Nat} {t e : TypeId} {m : Nat} (h : Lib.VarReads Tryz.prog W n (Lib.tabData k zs))
    (hg : Tryz.prog.globalNamed n = some g) (hty : (Tryz.prog.globals[g]?).map (·.type) = some t) (ht : Tryz.prog.underlying t = some (.array m e)) (he : Tryz.prog.underlying e = some (.int k)) (hce : Tryz.prog.cellsOf e = 1) (hct : Tryz.prog.cellsOf t = m) : Lib.TabIs Tryz.prog W n k zs := by
  obtain ⟨g', t', cs, fuel, p, hg', ht', hv, hd⟩ := h
  obtain rfl := Option.some.inj (hg.symm.trans hg')
  obtain rfl := Option.some.inj (hty.symm.trans ht')
  unfold Lib.TabIs
  rw [hv, ← Lib.cells_of_tab ht he hce hct hd]
def bruijnZ : List Int := [0, 1, 56, 2, 57, 49, 28, 3, 61, 58, 42, 50, 38, 29, 17, 4, 62, 47, 59, 36, 45, 43, 51, 22, 53, 39, 33, 30, 24, 18, 12, 5, 63, 55, 48, 27, 60, 41, 37, 16, 46, 35, 44, 21, 52, 32, 23, 11, 54, 26, 40, 15, 34, 20, 31, 10, 25, 14, 19, 9, 13, 8, 7, 6]

theorem Tryz.star : "*" ++ "errors.errorString" = "*errors.errorString" := by decide
theorem Tryz.rowErr (u : TypeId) (h : Tryz.prog.typeName? 3 u = some "*errors.errorString") : u = 330 :=
  typeName_ptr_named (nm := "errors.errorString") (by rw [Tryz.star]; kernel_rfl) (by kernel_rfl) (by decide) u (by rw [Tryz.star]; exact h)

theorem sentinel_cell {W : World} {n : String} {text : List UInt8} {r : List (String × DataW Unit)} {g : Nat} (h : laidMet Tryz.prog ((n, .iface "*errors.errorString" (.ptr (.agg [.lit (.string text)]))) :: r) W)
    (hg : Tryz.prog.globalNamed n = some g) (ht : (Tryz.prog.globals[g]?).map (·.type) = some 153) : ∃ tp p, W.cell? ⟨g, 0, none⟩ = some (.iface tp p) := by
  obtain ⟨a, s, hv, _, _, _⟩ := laid_sentinel h hg ht Tryz.underlying153 Tryz.rowErr Tryz.underlying330 Tryz.underlying332 rfl rfl Tryz.underlying9 (by kernel_rfl) (by kernel_rfl)
  have := World.var?_cell hg hv 0
  exact ⟨_, _, this⟩

theorem tabs_of {l : List (String × DataW Unit)} {W : World} (hl : l = Rows.transApartRow.laid) (h : laidMetH Tryz.prog l W) (hsh : W.ShapedOpen Tryz.prog) : Tabs W := by
  subst hl
  have h' : laidMet Tryz.prog Rows.transApartRow.laid W := h
  have m1 : ("math/bits.deBruijn64tab", Rows.laid_math_bits_deBruijn64tab) ∈ Rows.transApartRow.laid := by simp [Rows.transApartRow]
  have m2 : ("internal/strconv.uint64pow10", Rows.laid_internal_strconv_uint64pow10) ∈ Rows.transApartRow.laid := by simp [Rows.transApartRow]
  have hb : Lib.TabIs Tryz.prog W "math/bits.deBruijn64tab" .u8 bruijnZ := tab_reads (g := 7) (t := 370) (Lib.laidMet.reads h' m1) (by kernel_rfl) (by kernel_rfl) Tryz.underlying370 Tryz.underlying5 (by kernel_rfl) (by kernel_rfl)
  have hp : Lib.TabIs Tryz.prog W "internal/strconv.uint64pow10" .u64 Lib.pow10Tab := tab_reads (g := 5) (t := 364) (Lib.laidMet.reads h' m2) (by kernel_rfl) (by kernel_rfl) Tryz.underlying364 Tryz.underlying258 (by kernel_rfl) (by kernel_rfl)
  exact ⟨hb.cell (g := 7) (by kernel_rfl) 7 (by decide), hb.cell (g := 7) (by kernel_rfl) 15 (by decide), hp, sentinel_cell h'.tail.tail.tail.tail.tail (by kernel_rfl) (by kernel_rfl), sentinel_cell h'.tail.tail.tail.tail (by kernel_rfl) (by kernel_rfl),
    cell_of_shapedOpen_int (g := 0) (t := 3) hsh (of_decide_eq_true (by kernel_rfl)) (show _ = some (#[.int .i64 0], 3) by kernel_rfl) rfl (by kernel_rfl) (by kernel_rfl) Tryz.underlying3⟩

theorem cellsByte : Tryz.prog.cellsOf 5 = 1 := by kernel_rfl
theorem bytesOfByte : Tryz.prog.bytesOf 5 = 1 := by kernel_rfl
set_option maxRecDepth 100000 in
/-- a slice of bytes that came in -/
theorem arg_bytes {H : Type} {enc : TypeId × Value → H} {W : World} {base b0 : Nat} {v : Value} {d : DataW H} {p : List MemPlace} {ts : List TypeId} {ds : List (DataW H)} {j : Nat} {r : Reach} (hv : Value.okWide Tryz.prog W r b0 23 v) (h : DataW.Trod enc Tryz.prog W base (fun _ => true) true 23 v d p)
    (hz : (DataW.weightsEach Tryz.prog ts ds).all (· ≤ reachBytes) = true) (hts : ts[j]? = some 23) (hds : ds[j]? = some d) :
    ∃ (l : List UInt8) (A : Option Addr) (c : Nat), v = .slice A l.length c ∧ l.length ≤ 140737488351232 ∧ Bytes W W.heap.size (.slice A l.length c) l ∧ Reads W W.heap.size 1 A l.length (bytesC l) := by
  obtain ⟨a0, len, cap, rfl⟩ := okWide_slice Tryz.underlying23 hv
  obtain ⟨fuel, hf⟩ := h
  rcases open_ints Tryz.underlying23 Tryz.underlying5 cellsByte hf with ⟨hcs, hx⟩ | ⟨a, len', cap', zs, hcs, _, hl, hm, hzl, hx, hcell, hws⟩
  · simp [Value.cells] at hcs
    obtain ⟨rfl, rfl, rfl⟩ := hcs
    exact ⟨[], none, 0, rfl, by simp, Bytes.nil W _, Reads.none_⟩
  · simp [Value.cells] at hcs
    obtain ⟨rfl, rfl, rfl⟩ := hcs
    simp only [Prod.mk.injEq] at hx
    obtain ⟨rfl, rfl⟩ := hx
    simp only [if_true] at hzl
    have hlen : (zs.take len).length = len := by rw [List.length_take]; omega
    have hw := sized_slice hz hts hds Tryz.underlying23
    have hr1 : reachBytes = 140737488351232 := rfl
    rw [bytesOfByte, hr1, Nat.mul_one] at hw
    have hw2 : len ≤ 140737488351232 := by
      simp only [lits, List.length_map] at hw
      omega
    have hln : ((zs.take len).map fun z => UInt8.ofNat z.toNat).length = len := by rw [List.length_map]; exact hlen
    have hr : Reads W W.heap.size 1 (some a) len (bytesC ((zs.take len).map fun z => UInt8.ofNat z.toNat)) := by
      refine ⟨by simp only [bytesC, List.length_map, hlen, Nat.mul_one], fun hn => ⟨a, rfl, ?_, fun i u hu => ?_⟩⟩
      · have h := World.block_lt_of_cell? W _ (hcell 0 (by omega))
        rwa [block_of_add] at h
      · simp only [bytesC, List.map_map, List.getElem?_map, Option.map_eq_some_iff, Function.comp_apply] at hu
        obtain ⟨z, hz1, rfl⟩ := hu
        have hj : i < (zs.take len).length := (List.getElem?_eq_some_iff.1 hz1).1
        rw [hlen] at hj
        rw [List.getElem?_take, if_pos hj] at hz1
        have hzm : z ∈ zs := List.mem_of_getElem? hz1
        have hb := Go.bounds_u8 (hws z hzm)
        rw [hcell i (by omega), List.getD_eq_getElem?_getD, hz1, Option.getD_some, UInt8.toNat_ofNat']
        congr 2
        omega
    refine ⟨(zs.take len).map fun z => UInt8.ofNat z.toNat, some a, cap, by rw [hln], by rw [hln]; exact hw2, ?_, by rw [hln]; exact hr⟩
    rw [hln]
    exact ⟨some a, cap, by rw [hln], by rw [hln]; exact hl, hm, fun e => (by simp at e), by rw [hln]; exact hr⟩
set_option maxRecDepth 100000 in
/-- limits that came in -/
theorem arg_lim {H : Type} {enc : TypeId × Value → H} {W : World} {base b0 : Nat} {v : Value} {d : DataW H} {p : List MemPlace} {r : Reach} (hv : Value.okWide Tryz.prog W r b0 28 v) (h : DataW.Trod enc Tryz.prog W base (fun _ => true) true 28 v d p) :
    ∃ buf line run, v = .agg #[.int .i64 buf, .int .i64 line, .int .i64 run] := by
  obtain ⟨v0, v1, v2, y0, y1, y2, n, rfl, _, _, h0, h1, h2⟩ := Joins.open_agg3 Tryz.underlying28 (by kernel_rfl) (by kernel_rfl) hv h
  obtain ⟨z0, e0, _⟩ := DataW.trod_int Tryz.underlying3 h0
  obtain ⟨z1, e1, _⟩ := DataW.trod_int Tryz.underlying3 h1
  obtain ⟨z2, e2, _⟩ := DataW.trod_int Tryz.underlying3 h2
  obtain rfl := List.singleton_inj.1 e0
  obtain rfl := List.singleton_inj.1 e1
  obtain rfl := List.singleton_inj.1 e2
  exact ⟨z0, z1, z2, rfl⟩

/-- the witness -/
theorem witness_row_shaped {H : Type} {enc : TypeId × Value → H} {C : Checked} {os : Os} {f : FuncId} {fn : Func} {s : OpenSpec} {conds : List PathCond} {apart : Bool} {laid : List (String × DataW Unit)} (w0 : World) (args : Array Value) (hos : w0.os = os)
    (hsh : (w0.forCall (fun _ _ => 0) ⟨#[], args, []⟩).Shaped C.prog)
    (hok : Input.okWideB C.prog (w0.forCall (fun _ _ => 0) ⟨#[], args, []⟩) f ⟨#[], args, []⟩ = true)
    (hrow : s.preRow enc C.prog fn conds apart laid (w0.forCall (fun _ _ => 0) ⟨#[], args, []⟩).memory args) :
    ∃ (w : World) (tape : Tape) (i : Input), w.os = os ∧ (w.forCall tape i).Shaped C.prog ∧ i.vars = [] ∧ Input.okWide C.prog (w.forCall tape i) .any w.heap.size f i ∧
      s.preRow enc C.prog fn conds apart laid (w.forCall tape i).memory i.args ∧ ({} : Assume).holds C.prog (lone (Frame.enter C.prog f i.args .normal) [] (w.forCall tape i)) :=
  ⟨w0, fun _ _ => 0, ⟨#[], args, []⟩, hos, hsh, (Input.okWide_of_okWideB (base := 0) hok).1, (Input.okWide_of_okWideB hok).2, hrow, by
    simp only [Assume.holds]
    exact ⟨by simp, by simp, fun _ => Modest.zero, by simp, by simp⟩⟩

end Go.Proofs.YtlhiadnolckoeaaGreatDoor
end

section
namespace Go.Proofs.YtlhiadnolckoeaaGreatDoor.transSets
open Go.ChangeShapes Go.WideShapes Go.ChangeAt Go.RowKit
open Go.ChangeMaps (open_string shut_string)

theorem paramsOk : ∀ t ∈ Tryz.f3.params.toList, Tryz.prog.readableRec t = true ∧ t < Tryz.prog.types.size := by
  intro t ht
  rw [Tryz.params3] at ht
  simp at ht
  subst ht
  exact ⟨by kernel_rfl, of_decide_eq_true (by kernel_rfl)⟩

set_option maxRecDepth 100000 in
theorem contract (H : Type) (enc : TypeId × Value → H) (W : World) (base : Nat) (args : Array Value) (ds gs : List (DataW H)) (before : List MemPlace)
    (hval : ∀ (j : Nat) t v, Tryz.f3.params[j]? = some t → args[j]? = some v → Value.okWide Tryz.prog W .any base t v)
    (hW : DataW.Whole enc Tryz.prog Tryz.f3.params.toList Rows.transSetsSpec.vars false W args.toList ds gs before)
    (hk : Rows.uptoSmall H (ds ++ gs) = true) (hL : laidMetH Tryz.prog Rows.transSetsUptoRow.laid W) (hsh : W.ShapedOpen Tryz.prog) :
    Calls Tryz.prog 3 args W fun e W' => ∃ v, e = .returned v ∧ Rows.transSetsSpec.post enc Tryz.prog Tryz.f3 false true false false W args v W' := by
  have hW' := hW
  obtain ⟨p, q, hA0, hV, rfl, hfz, hnd⟩ := hW
  have hA : DataW.TrodAll enc Tryz.prog W 0 (fun _ => true) true Tryz.f3.params.toList args.toList ds p := hA0
  rw [Tryz.params3] at hA hval
  obtain ⟨v0, vs0, d0, ds0, p0, q0, hargs, rfl, rfl, h0, r0⟩ := trodAll_cons hA
  obtain ⟨rfl, rfl, rfl⟩ := trodAll_nil r0
  obtain rfl : args = #[v0] := by cases args; simp_all
  obtain ⟨rfl, rfl⟩ := trodVars_none hV
  obtain ⟨S, rfl, rfl, rfl, hmax⟩ := open_string Tryz.underlying9 (hval 0 9 v0 rfl rfl) h0
  have hT := tabs_of (show Rows.transSetsUptoRow.laid = Rows.transApartRow.laid from rfl) hL hsh
  have hbulk := bulk_bound hk
  simp only [List.append_nil, Rows.uptoBulkAll, bulk_string] at hbulk
  exact (sets_any W hT S (by omega)).mono fun e W1 ⟨he, hb⟩ => ⟨_, he, post_true Tryz.laidOut hW' rfl rfl rfl rfl rfl rfl Tryz.underlying4 paramsOk hb⟩

def witArgs : Array Value := #[.string ⟨#[]⟩]
theorem reads (os : Os) {H : Type} (enc : TypeId × Value → H) : ∃ places, DataW.whole enc Tryz.prog ((World.laidAll Tryz.prog os Rows.transSetsUptoRow.laid).forCall (fun _ _ => 0) ⟨#[], witArgs, []⟩).memory Tryz.f3.params.toList Rows.transSetsSpec.vars false witArgs.toList 8 = some ([.lit (.string [])], [], places) :=
  ⟨[], by kernel_rfl⟩

set_option maxRecDepth 100000 in
theorem lifted (os : Os) (started : os.Started) (H : Type) (enc : TypeId × Value → H) (F : Stop.Interp) :
    ReturnsInHanded {} Tryz.checked os 3 .any ((Rows.OpenSpec.upto Rows.transSetsSpec).preRow enc Tryz.prog Tryz.f3 Rows.transSetsUptoRow.domain false Rows.transSetsUptoRow.laid) (((Rows.OpenSpec.upto Rows.transSetsSpec).at F).post enc Tryz.prog Tryz.f3 false true false false) := by
  obtain ⟨places, hx⟩ := reads os enc
  refine returnsInHanded_of_row (C := Tryz.checked) (s := Rows.OpenSpec.upto Rows.transSetsSpec) Tryz.own started (by kernel_rfl) Tryz.func3
    (witness_row_shaped (enc := enc) (C := Tryz.checked) (World.laidAll Tryz.prog os Rows.transSetsUptoRow.laid) witArgs (World.laidAll_os _ _ _) (World.shaped_of_ZipB (by kernel_rfl) (by kernel_rfl)) (by kernel_rfl)
      (OpenSpec.preRow_of_cond 8 hx (by kernel_rfl) (fun k hk => by cases hk; kernel_rfl) (by kernel_rfl) (by rw [MakeChecks.laidMetH_plain _ _ _ (by kernel_rfl)]; exact laidMet_laidAll _ (by kernel_rfl) (by kernel_rfl)))) ?_
  intro W base args ds gs before hval hW _ hk _ hL hsh _
  exact contract H enc W base args ds gs before hval hW (hk _ rfl) hL hsh

theorem said : Rows.TransSetsUptoSaid :=
  OpenClaim.holds_of_cond 3 Tryz.f3 rfl rfl rfl rfl rfl rfl rfl ⟨rfl, rfl, rfl, rfl, rfl⟩ rfl rfl rfl rfl rfl (by kernel_rfl) Tryz.func3 (by kernel_rfl)
    (of_decide_eq_true (by kernel_rfl)) (by unfold Func.isWrapper; first | (rw [if_pos (by decide +kernel)]; kernel_rfl) | (rw [if_neg (by decide +kernel)]; exact ⟨rfl, rfl⟩))
    (fun os started H enc _ F => by rw [OpenClaim.pre_eq_preRow]; exact lifted os started H enc F)

/-- no parameter wants a stand-in; the program's own looks are on -/
theorem plain (f : FuncId) (fn : Func) (hf : Tryz.pinned.checked.prog.funcNamed "toolchest/toolchestlaw10.TransSets" = some f) (hfn : Tryz.pinned.checked.prog.funcs[f]? = some fn) :
    true = Tryz.pinned.checked.prog.looks [] ∧ ∀ (j : Nat) t, fn.params[j]? = some t → Tryz.pinned.checked.prog.wantsStandIn t = false := by
  obtain rfl : f = 3 := Option.some.inj ((show Tryz.prog.funcNamed "toolchest/toolchestlaw10.TransSets" = some 3 by kernel_rfl).symm.trans hf) |>.symm
  obtain rfl : fn = Tryz.f3 := (Option.some.inj (Tryz.func3.symm.trans hfn)).symm
  refine ⟨by kernel_rfl, fun j t ht => ?_⟩
  have hm : t ∈ Tryz.f3.params.toList := by simpa using Array.mem_of_getElem? ht
  have hall : (Tryz.f3.params.toList.all fun u => !Tryz.prog.wantsStandIn u) = true := by kernel_rfl
  exact (show Tryz.prog.wantsStandIn t = false by simpa using List.all_eq_true.1 hall t hm)

theorem proved : Rows.TransSetsUptoCardSaid :=
  Claim7.holds_tied_plain_at .later [] _ _ _ _ said (fun _ h => by cases h) (by kernel_rfl) (fun _ h => by cases h) transSetsUpto_row_tie rfl ⟨rfl, rfl⟩ (by kernel_rfl) rfl plain (by kernel_rfl)
#print axioms proved
end Go.Proofs.YtlhiadnolckoeaaGreatDoor.transSets
end
