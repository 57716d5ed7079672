/-
  
-/
import Derived.Test.YtffffjngodinnaaGreatDoorV50
import Derived.Test.YtffffjngodinnaaGreatDoorCards
import Derived.Test.YtffffjngodinnaaGreatDoorTie
import Derived.Stop.LaidErr
import Derived.LaidMore
import Derived.Lay
import Derived.Deep.DeepHandedRow
section
namespace Go.Proofs.YtffffjngodinnaaGreatDoor
set_option maxRecDepth 100000
open Go.RowKit Go.Maps Go.Shelf
set_option maxHeartbeats 8000000 in
theorem acts_walk (w : World) (jc : Array Value) (LA : Option Addr) (lc ln : Nat) (l : List ActIt)
 (jsz : (Tryz.prog.info? 30).map (·.size) = some jc.size)
 (hln : l.length = ln) (hlm : ln <= maxLen) (hlr : Reads w w.heap.size 3 LA ln (actsC l))
 (hgood : (∀ a ∈ l, stopH a = false) -> ∃ is no ne nn lo le st D sp pk us, RunsTo w jc (.slice LA ln lc) is no ne nn lo le st D sp pk us /\ RefTo w jc (.slice LA ln lc) is no ne nn lo le st D sp pk us) :
 Calls Tryz.prog 3 #[.agg jc, .slice LA ln lc] w fun e w' => e = .returned (.bool true) /\ Below w.heap.size w w' := by
 obtain ⟨g, hg⟩ : ∃ g, w.heap.size = g := ⟨_, rfl⟩
 obtain ⟨Z, hZ⟩ : ∃ Z, w.alloc (.cells jc 30) = Z := ⟨_, rfl⟩
 have bZ : Below g w Z := by rw [<- hZ, <- hg]; exact below_one w _
 have jb : Blk Z g 30 jc := by rw [<- hZ, <- hg]; exact Blk.new w _ _
 have HG := Lib.hid hgood
 have HLN := Lib.hid hln
 have HLM := Lib.hid hlm
 have HLR := Lib.hid hlr
 have BZ := Lib.hid bZ
 have JB := Lib.hid jb
 rw [hg] at hlr ⊢
 clear hgood hln hlm hlr bZ jb
 have lg : g < Z.heap.size := JB.out.lt
 go_enter Tryz.func3, Tryz.ntmps3
 go_wp2_with (go_at_call 5; refine (awake_any _).mono ?_; rintro e w2 ⟨rfl, hb1⟩)
 have hb02 : Below g w w2 := BZ.out.trans (hb1.mono (Nat.le_of_lt lg))
 have b2 := Blk.on JB.out hb1
 have g2 : g < w2.heap.size := b2.lt
 have B2 := Lib.hid b2
 have HB02 := Lib.hid hb02
 clear hb1 b2 hb02
 go_loopw [6] (fun iv wr => ∃ (i : Nat), i <= ln /\ iv = .int .i64 (i : Int) /\ wr = w2 /\ Hid (∀ a ∈ l.take i, stopH a = false)) (fun iv _ => ln - (intOf iv).toNat)
 case atStart => exact ⟨0, Nat.zero_le _, rfl, rfl, Lib.hid (by simp)⟩
 case round =>
  obtain ⟨i, hi, rfl, rfl, HA⟩ := hrel
  by_cases hlt : i < ln
  · obtain ⟨a, ha⟩ : ∃ a, l[i]? = some a := ⟨_, List.getElem?_eq_getElem (by rw [HLN.out]; exact hlt)⟩
    have htake : l.take (i + 1) = l.take i ++ [a] := by rw [List.take_add_one, ha]; rfl
    obtain ⟨gb, off, hLA, hgb, hc⟩ := reads_flat (HLR.out.below (by rw [hg]; exact HB02.out)) (by intro e; have := HLR.out.1; rw [e] at this; simp at this; omega)
    have c0 : wr.cell? ⟨gb, off + i * 3, none⟩ = some (.int .i64 a.k) := hc _ _ (actsC_at ha 0 (by decide))
    have c1 : wr.cell? ⟨gb, off + i * 3 + 1, none⟩ = some (.int .i64 a.n) := hc _ _ (actsC_at ha 1 (by decide))
    have hgl : gb < wr.heap.size := by have := HB02.out.size; omega
    have hi0 : (0 : Int) <= (i : Int) := by omega
    have hi1 : (i : Int) < (ln : Int) := by omega
    have hw1 : wrap64 ((i : Int) + 1) = ((i + 1 : Nat) : Int) := by have := HLM.out; unfold maxLen at this; rw [w64 _ (by omega)]; omega
    have HW1 := Lib.hid hw1
    subst hLA
    have hnext : stopH a = false -> ∀ b ∈ l.take (i + 1), stopH b = false := by
     intro h b hb
     rw [htake, List.mem_append] at hb
     rcases hb with hb | hb
     · exact HA.out b hb
     · rw [List.mem_singleton] at hb; rw [hb]; exact h
    have HNX := Lib.hid hnext
    clear hc ha htake hw1 hnext
    obtain ⟨k, n, Aa, ca, bs⟩ := a
    dsimp only at c0 c1
    by_cases h4 : k = 4
    · have e3 : decide (k = 4) = true := decide_eq_true h4
      have e4 : (k == 4) = true := by simpa using h4
      by_cases h5 : 1099511627776 < n
      · have e5 : decide (1099511627776 < n) = true := decide_eq_true h5
        have e6 : decide (n > 1099511627776) = true := decide_eq_true h5
        clear h4
        go_wp2_with fail
        go_returns
        exact ⟨rfl, HB02.out⟩
      · have e5 : decide (1099511627776 < n) = false := decide_eq_false h5
        have e6 : decide (n > 1099511627776) = false := decide_eq_false h5
        have hns := HNX.out (by unfold stopH; dsimp only; rw [e3, e5]; rfl)
        have HNS := Lib.hid hns
        clear h4 hns
        go_wp2_with fail
        rw [HW1.out]
        refine ⟨⟨i + 1, by omega, rfl, trivial, HNS⟩, ?_⟩
        simp only [intOf]
        omega
    · have e3 : decide (k = 4) = false := decide_eq_false h4
      have e4 : (k == 4) = false := by simpa using h4
      have hns := HNX.out (by unfold stopH; dsimp only; rw [e3]; rfl)
      have HNS := Lib.hid hns
      clear h4 hns
      go_wp2_with fail
      rw [HW1.out]
      refine ⟨⟨i + 1, by omega, rfl, trivial, HNS⟩, ?_⟩
      simp only [intOf]
      omega
  · obtain rfl : i = ln := by omega
    obtain ⟨is, no, ne, nn, lo, le, st, D, sp, pk, us, hR1, hR2⟩ := HG.out (by have := HA.out; rwa [List.take_of_length_le (by rw [HLN.out]; exact Nat.le_refl _)] at this)
    have HR1 := Lib.hid hR1
    have HR2 := Lib.hid hR2
    have jb := B2.out
    clear hR1 hR2
    go_upto_region 8 with (first
     | (refine wpList_store_blk rfl 36 (.tmp 7) (.tmp 38) rfl w3.heap.size 36 #[.slice none 0 0, .slice none 0 0, .int .i64 0, .slice none 0 0, .int .i64 0, .int .i64 0, .int .i64 0] #[.slice Ao no co, .slice Ae ne ce, .int .i64 st, .slice An nn cn, .int .i64 sp, .int .i64 pk, .int .i64 us] rfl rfl (Blk.new w3 _ _) rfl (by kernel_rfl) (by kernel_rfl) ?_
        intro w4 q4 gr4
        have bb4 : Below w3.heap.size w3 w4 := (below_one w3 _).grown gr4 (by simp) (fun k hk => by cases hk; exact Nat.le_refl _))
     | (refine wpList_load_row rfl 30 (.tmp 2) rfl g rfl 30 jc (0, 0) _ jb Tryz.underlying30 rfl jsz ?_)
     | (go_at_call 6; refine (HR1.out wr (by rw [hg]; exact HB02.out)).mono ?_; rintro e w3 ⟨Ao, co, Ae, ce, An, cn, Ns, rfl, hT1, hD1, bb3⟩))
    have jbV := Blk.on (Blk.on jb bb3) bb4
    have hb04 : Below g w w4 := HB02.out.trans (below_step bb3 bb4 (Nat.le_refl _) |>.mono (Nat.le_of_lt g2))
    have HTV := Lib.hid (hT1.keep fun b _ hb => bb4.block b hb).tells
    have Q4V := Lib.hid q4
    have HB0V := Lib.hid hb04
    have HD1 := Lib.hid hD1
    have hj4 : g < w4.heap.size := jbV.lt
    obtain ⟨r1, hr1⟩ : ∃ r1, w3.heap.size = r1 := ⟨_, rfl⟩
    rw [hr1] at Q4V ⊢
    clear hT1 hb04 bb3 bb4 gr4 q4 jb hD1 hr1
    go_upto_region 9 with (first
     | (refine wpList_store_blk rfl 36 (.tmp 9) (.tmp 44) rfl w5.heap.size 36 #[.slice none 0 0, .slice none 0 0, .int .i64 0, .slice none 0 0, .int .i64 0, .int .i64 0, .int .i64 0] #[.slice Bo no do_, .slice Be ne de, .int .i64 st, .slice Bn nn dn, .int .i64 sp, .int .i64 pk, .int .i64 us] rfl rfl (Blk.new w5 _ _) rfl (by kernel_rfl) (by kernel_rfl) ?_
        intro w6 q6 gr6
        have bb6 : Below w5.heap.size w5 w6 := (below_one w5 _).grown gr6 (by simp) (fun k hk => by cases hk; exact Nat.le_refl _))
     | (refine wpList_load_row rfl 30 (.tmp 2) rfl g rfl 30 jc (0, 0) _ jbV Tryz.underlying30 rfl jsz ?_)
     | (go_at_call 7; refine (HR2.out w4 (by rw [hg]; exact HB0V.out)).mono ?_; rintro e w5 ⟨Bo, do_, Be, de, Bn, dn, Ms, rfl, hT2, hD2, bb5⟩))
    have hb56 : Below w4.heap.size w4 w6 := below_step bb5 bb6 (Nat.le_refl _)
    have t1 := HTV.out.below hb56
    have t2 := hT2.below bb6
    have q1 := Blk.on Q4V.out hb56
    have hal := alike_true w6 Ao Bo Ae Be An Bn no co do_ ne ce de nn cn dn st sp sp pk pk us us lo le Ns Ms t1 t2 (HD1.out.trans hD2.symm)
    have HAL := Lib.hid hal
    have HB06 := Lib.hid (HB0V.out.trans (hb56.mono (by have := HB0V.out.size; omega)))
    obtain ⟨r2, hr2⟩ : ∃ r2, w5.heap.size = r2 := ⟨_, rfl⟩
    rw [hr2] at q6 ⊢
    have lr1 := q1.lt
    have lr2 := q6.lt
    have rsz : ∀ a b c d e f g : Value, (Tryz.prog.info? 36).map (·.size) = some (#[a, b, c, d, e, f, g] : Array Value).size := fun a b c d e f g => by kernel_rfl
    have hus : (us == us) = true := beq_self_eq_true us
    have hss : (sp == sp) = true := beq_self_eq_true sp
    have hpp : (pk == pk) = true := beq_self_eq_true pk
    clear hT2 hD2 bb5 bb6 gr6 hb56 t1 t2 hal jbV
    go_upto_region 10 with (first
     | (refine wpList_load_row rfl 36 (.tmp 7) rfl r1 rfl 36 #[.slice Ao no co, .slice Ae ne ce, .int .i64 st, .slice An nn cn, .int .i64 sp, .int .i64 pk, .int .i64 us] (0, 0) _ q1 Tryz.underlying36 rfl (rsz _ _ _ _ _ _ _) ?_)
     | (refine wpList_load_row rfl 36 (.tmp 9) rfl r2 rfl 36 #[.slice Bo no do_, .slice Be ne de, .int .i64 st, .slice Bn nn dn, .int .i64 sp, .int .i64 pk, .int .i64 us] (0, 0) _ q6 Tryz.underlying36 rfl (rsz _ _ _ _ _ _ _) ?_)
     | (go_at_call 8; refine HAL.out.mono ?_; rintro e w7 ⟨rfl, bb7⟩
        have p1 := Blk.on q1 bb7
        have p2 := Blk.on q6 bb7
        have lp2 := p2.lt
        have lp1 := p1.lt
        have m4 : w7.cell? ⟨r1, 4, none⟩ = some (.int .i64 sp) := p1.cell 4
        have m5 : w7.cell? ⟨r1, 5, none⟩ = some (.int .i64 pk) := p1.cell 5
        have m6 : w7.cell? ⟨r1, 6, none⟩ = some (.int .i64 us) := p1.cell 6
        have n4 : w7.cell? ⟨r2, 4, none⟩ = some (.int .i64 sp) := p2.cell 4
        have n5 : w7.cell? ⟨r2, 5, none⟩ = some (.int .i64 pk) := p2.cell 5
        have n6 : w7.cell? ⟨r2, 6, none⟩ = some (.int .i64 us) := p2.cell 6))
    cases is
    all_goals
     go_wp2_with fail
     go_returns
     exact ⟨rfl, HB06.out.trans (bb7.mono (by have := HB06.out.size; omega))⟩
section
variable {w : World} {A : Option Addr} {c n : Nat} {EA : Option Addr} {ec en : Nat} {cwd : ByteArray} {IA : Option Addr} {ic m : Nat} {NA : Option Addr} {nc nn : Nat} {buf line run : Int} {FA : Option Addr} {fc fn : Nat} {now : Int} {PA : Option Addr} {pc pn : Nat} {args env : List ByteArray} {inb : List UInt8} {Ls : List NodeIt} {fl : List (Int × Int)} {pks : List Int} {LA : Option Addr} {lc ln : Nat} {l : List ActIt}
theorem acts_any (h : JobIn w A n EA en cwd IA ic m NA nn FA fc fn PA pn args env inb Ls fl pks) (ha : ActsGiven w LA ln l) :
 Calls Tryz.prog 3 #[.agg #[.slice A n c, .slice EA en ec, .string cwd, .slice IA m ic, .slice NA nn nc, .int .i64 buf, .int .i64 line, .int .i64 run, .slice FA fn fc, .int .i64 now, .slice PA pn pc], .slice LA ln lc] w fun e w' => e = .returned (.bool true) /\ Below w.heap.size w w' := by
 have hlm := ha.most
 refine acts_walk w _ LA lc ln l (by kernel_rfl) ha.len (by unfold maxLen; omega) ha.row ?_
 intro hl
 cases hM : Abs.mayT (Abs.LS.init.run (Ls.map NodeIt.nd)) (limBad n buf line run now) cwd.data.toList with
 | none => exact ⟨false, 0, 0, 0, [], [], 0, [], 0, 0, 0, runs_no h hM, refRun_no h hM⟩
 | some s =>
   obtain ⟨S, hS⟩ : ∃ S, PF.acts fl (Flow.first inb (.slice none 0 0)).pl l = S := ⟨_, rfl⟩
   obtain ⟨S, st⟩ := S
   exact ⟨true, _, _, _, _, _, _, _, _, _, _, runs_yes h ha hl s hM S st hS, refRun_yes h ha hl s hM S st hS⟩
end
end Go.Proofs.YtffffjngodinnaaGreatDoor
end
section
namespace Go.Proofs.YtffffjngodinnaaGreatDoor.procActs
set_option maxRecDepth 100000
open Go.ChangeShapes Go.WideShapes Go.ChangeAt Go.RowKit
open Go.ChangeMaps (open_string shut_string)
theorem witness_row_shaped {H : Type} {enc : TypeId × Value -> H} {C : Checked} {os : Os} {f : FuncId} {fn : Func} {s : OpenSpec} {conds : List PathCond} {apart : Bool} {laid : List (String × DataW Unit)} (w0 : World) (args : Array Value) (hos : w0.os = os)
 (hsh : (w0.forCall (fun _ _ => 0) ⟨#[], args, []⟩).Shaped C.prog)
 (hok : Input.okWideB C.prog (w0.forCall (fun _ _ => 0) ⟨#[], args, []⟩) f ⟨#[], args, []⟩ = true)
 (hrow : s.preRow enc C.prog fn conds apart laid (w0.forCall (fun _ _ => 0) ⟨#[], args, []⟩).memory args) :
 ∃ (w : World) (tape : Tape) (i : Input), w.os = os /\ (w.forCall tape i).Shaped C.prog /\ i.vars = [] /\ Input.okWide C.prog (w.forCall tape i) .any w.heap.size f i /\
  s.preRow enc C.prog fn conds apart laid (w.forCall tape i).memory i.args /\ ({} : Assume).holds C.prog (lone (Frame.enter C.prog f i.args .normal) [] (w.forCall tape i)) :=
 ⟨w0, fun _ _ => 0, ⟨#[], args, []⟩, hos, hsh, (Input.okWide_of_okWideB (base := 0) hok).1, (Input.okWide_of_okWideB hok).2, hrow, by
  simp only [Assume.holds]
  exact ⟨by simp, by simp, fun _ => Modest.zero, by simp, by simp⟩⟩
theorem paramsOk : ∀ t ∈ Tryz.f3.params.toList, Tryz.prog.readableRec t = true /\ t < Tryz.prog.types.size := by
 intro t ht
 rw [Tryz.params3] at ht
 simp at ht
 rcases ht with rfl | rfl <;> exact ⟨by kernel_rfl, of_decide_eq_true (by kernel_rfl)⟩
theorem contract (H : Type) (enc : TypeId × Value -> H) (W : World) (base : Nat) (args : Array Value) (ds gs : List (DataW H)) (before : List MemPlace)
 (hval : ∀ (j : Nat) t v, Tryz.f3.params[j]? = some t -> args[j]? = some v -> Value.okWide Tryz.prog W .any base t v)
 (hW : DataW.Whole enc Tryz.prog Tryz.f3.params.toList Rows.procActsSpec.vars false W args.toList ds gs before)
 (hk : Rows.uptoSmall H (ds ++ gs) = true) :
 Calls Tryz.prog 3 args W fun e W' => ∃ v, e = .returned v /\ Rows.procActsSpec.post enc Tryz.prog Tryz.f3 false true false false W args v W' := by
 have hW' := hW
 obtain ⟨p, q, hA0, hV, rfl, hfz, hnd⟩ := hW
 have hA : DataW.TrodAll enc Tryz.prog W 0 (fun _ => true) true Tryz.f3.params.toList args.toList ds p := hA0
 rw [Tryz.params3] at hA hval
 obtain ⟨v0, vs0, d0, ds0, p0, q0, hargs, rfl, rfl, h0, r0⟩ := trodAll_cons hA
 obtain ⟨v1, vs1, d1, ds1, p1, q1, rfl, rfl, rfl, h1, r1⟩ := trodAll_cons r0
 obtain ⟨rfl, rfl, rfl⟩ := trodAll_nil r1
 obtain rfl : args = #[v0, v1] := by cases args; simp_all
 obtain ⟨rfl, rfl⟩ := trodVars_none hV
 obtain ⟨jcs, rfl, hjs⟩ := okWide_struct Tryz.underlying30 (hval 0 30 v0 rfl rfl)
 obtain ⟨a1, len1, cap1, rfl⟩ := okWide_slice Tryz.underlying31 (hval 1 31 v1 rfl rfl)
 have fin : ∀ (e : Ending) (W1 : World), e = .returned (.bool true) /\ Below W.heap.size W W1 -> ∃ v, e = .returned v /\ Rows.procActsSpec.post enc Tryz.prog Tryz.f3 false true false false W #[.agg jcs, .slice a1 len1 cap1] v W1 :=
  fun e W1 ⟨he, hb⟩ => ⟨_, he, post_true Tryz.laidOut hW' rfl rfl rfl rfl rfl rfl Tryz.underlying4 paramsOk hb⟩
 have hbulk := bulk_bound hk
 simp only [List.append_nil, Rows.uptoBulkAll] at hbulk
 obtain ⟨fuel, hf⟩ := h0
 obtain ⟨fuel2, hf2⟩ := h1
 obtain ⟨A, n, c, EA, en, ec, cwd, IA, m, ic, NA, nn, nc, buf, line, run, FA, fn, fc, now, PA, pn, pc, argl, env, inb, Ls, fl, pks, hcs, hJ⟩ := read_job hf (by dsimp only; omega)
 obtain ⟨LA, ln, lc, l, hls, hL⟩ := read_acts hf2 (by dsimp only; omega)
 simp only [Value.cells, List.cons.injEq, and_true, Value.slice.injEq] at hls
 obtain ⟨rfl, rfl, rfl⟩ := hls
 have hcs' : jcs.toList = [.slice A n c, .slice EA en ec, .string cwd, .slice IA m ic, .slice NA nn nc, .int .i64 buf, .int .i64 line, .int .i64 run, .slice FA fn fc, .int .i64 now, .slice PA pn pc] := hcs
 obtain rfl : jcs = #[.slice A n c, .slice EA en ec, .string cwd, .slice IA m ic, .slice NA nn nc, .int .i64 buf, .int .i64 line, .int .i64 run, .slice FA fn fc, .int .i64 now, .slice PA pn pc] := Array.ext' hcs'
 exact (acts_any hJ hL).mono fin
def witArgs : Array Value := #[.agg #[.slice none 0 0, .slice none 0 0, .string ⟨#[]⟩, .slice none 0 0, .slice none 0 0, .int .i64 0, .int .i64 0, .int .i64 0, .slice none 0 0, .int .i64 0, .slice none 0 0], .slice none 0 0]
theorem reads (os : Os) {H : Type} (enc : TypeId × Value -> H) : ∃ places, DataW.whole enc Tryz.prog ((World.laidAll Tryz.prog os Rows.procActsUptoRow.laid).forCall (fun _ _ => 0) ⟨#[], witArgs, []⟩).memory Tryz.f3.params.toList Rows.procActsSpec.vars false witArgs.toList 8 = some ([.agg [.nil, .nil, .lit (.string []), .nil, .nil, .agg [.lit (.int .i64 0), .lit (.int .i64 0), .lit (.int .i64 0)], .nil, .lit (.int .i64 0), .nil], .nil], [], places) :=
 ⟨[], by kernel_rfl⟩
theorem lifted (os : Os) (started : os.Started) (H : Type) (enc : TypeId × Value -> H) (F : Stop.Interp) :
 ReturnsInHanded {} Tryz.checked os 3 .any ((Rows.OpenSpec.upto Rows.procActsSpec).preRow enc Tryz.prog Tryz.f3 Rows.procActsUptoRow.domain false Rows.procActsUptoRow.laid) (((Rows.OpenSpec.upto Rows.procActsSpec).at F).post enc Tryz.prog Tryz.f3 false true false false) := by
 obtain ⟨places, hx⟩ := reads os enc
 refine returnsInHanded_of_row (C := Tryz.checked) (s := Rows.OpenSpec.upto Rows.procActsSpec) Tryz.own started (by kernel_rfl) Tryz.func3
  (witness_row_shaped (enc := enc) (C := Tryz.checked) (World.laidAll Tryz.prog os Rows.procActsUptoRow.laid) witArgs (World.laidAll_os _ _ _) (World.shaped_of_ZipB (by kernel_rfl) (by kernel_rfl)) (by kernel_rfl)
   (OpenSpec.preRow_of_cond 8 hx (by kernel_rfl) (fun k hk => by cases hk; kernel_rfl) (by kernel_rfl) (by rw [MakeChecks.laidMetH_plain _ _ _ (by kernel_rfl)]; exact laidMet_laidAll _ (by kernel_rfl) (by kernel_rfl)))) ?_
 intro W base args ds gs before hval hW _ hk _ _ _ _
 exact contract H enc W base args ds gs before hval hW (hk _ rfl)
theorem said : Rows.ProcActsUptoSaid :=
 OpenClaim.holds_of_cond 3 Tryz.f3 rfl rfl rfl rfl rfl rfl rfl ⟨rfl, rfl, rfl, rfl, rfl⟩ rfl rfl rfl rfl rfl (by kernel_rfl) Tryz.func3 (by kernel_rfl)
  (of_decide_eq_true (by kernel_rfl)) (by unfold Func.isWrapper; first | (rw [if_pos (by decide +kernel)]; kernel_rfl) | (rw [if_neg (by decide +kernel)]; exact ⟨rfl, rfl⟩))
  (fun os started H enc _ F => by rw [OpenClaim.pre_eq_preRow]; exact lifted os started H enc F)
theorem plain (f : FuncId) (fn : Func) (hf : Tryz.pinned.checked.prog.funcNamed "toolchest/toolchestlaw04.ProcActs" = some f) (hfn : Tryz.pinned.checked.prog.funcs[f]? = some fn) :
 true = Tryz.pinned.checked.prog.looks [] /\ ∀ (j : Nat) t, fn.params[j]? = some t -> Tryz.pinned.checked.prog.wantsStandIn t = false := by
 obtain rfl : f = 3 := Option.some.inj ((show Tryz.prog.funcNamed "toolchest/toolchestlaw04.ProcActs" = some 3 by kernel_rfl).symm.trans hf) |>.symm
 obtain rfl : fn = Tryz.f3 := (Option.some.inj (Tryz.func3.symm.trans hfn)).symm
 refine ⟨by kernel_rfl, fun j t ht => ?_⟩
 have hm : t ∈ Tryz.f3.params.toList := by simpa using Array.mem_of_getElem? ht
 have hall : (Tryz.f3.params.toList.all fun u => !Tryz.prog.wantsStandIn u) = true := by kernel_rfl
 exact (show Tryz.prog.wantsStandIn t = false by simpa using List.all_eq_true.1 hall t hm)
theorem proved : Rows.ProcActsUptoCardSaid :=
 Claim7.holds_tied_plain_at .later [] _ _ _ _ said (fun _ h => by cases h) (by kernel_rfl) (fun _ h => by cases h) procActsUpto_row_tie rfl ⟨rfl, rfl⟩ (by kernel_rfl) rfl plain (by kernel_rfl)
#print axioms proved
end Go.Proofs.YtffffjngodinnaaGreatDoor.procActs
end
