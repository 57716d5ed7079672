/-
  Parts of the proof: Walks over Fds and Free of a table of sources and sinks; Strings of bytes that are read: conversions, and tests of two such strings.
-/
import Derived.Test.YtlncmknikjloeaaGreatDoorV06
import Derived.Test.YtlncmknikjloeaaGreatDoorV07
import Derived.Deep.MidRow
import Derived.LoopN
import Derived.Test.YtlncmknikjloeaaGreatDoorV04
import Derived.Laws.IdiomStrings
import Derived.Lib.Strings
import Derived.Lib.ConvBytes

section
namespace Go.Proofs.YtlncmknikjloeaaGreatDoor
open Go.RowKit Go.Maps

theorem Tryz.infoInt : (Tryz.prog.info? 3).map (fun i => (i.zero, i.size, i.bytes)) = some (some (.int .i64 0), 1, 8) := by kernel_rfl
def intsC (l : List Nat) : List Value := l.map fun n : Nat => .int .i64 (n : Int)
theorem intsC_oneCell (l : List Nat) : ∀ u ∈ intsC l, u.oneCell' = true := by
  intro u hu
  obtain ⟨s, _, rfl⟩ := List.mem_map.1 hu
  rfl
def isNilV : Value → Bool
  | .nilIface => true
  | _ => false
/-- the descriptors below n that have something -/
def fdsOf (D : Nat → Value) (n : Nat) : List Nat := (List.range n).filter fun i => !isNilV (D i)
theorem fdsOf_succ (D : Nat → Value) (n : Nat) : fdsOf D (n + 1) = fdsOf D n ++ if isNilV (D n) then [] else [n] := by
  unfold fdsOf
  rw [List.range_succ, List.filter_append]
  cases h : isNilV (D n) <;> simp [h]
theorem fdsOf_le (D : Nat → Value) (n : Nat) : (fdsOf D n).length ≤ n := by
  have := List.length_filter_le (fun i => !isNilV (D i)) (List.range n)
  simpa [fdsOf] using this
theorem intsC_length (l : List Nat) : (intsC l).length = l.length := by simp [intsC]
/-- a row of one new cell -/
theorem row_one (w : World) (t : TypeId) (v : Value) : Reads (w.alloc (.cells #[v] t)) (w.heap.size + 1) 1 (some ⟨w.heap.size, 0, none⟩) 1 [v] := by
  refine ⟨rfl, fun _ => ⟨_, rfl, Nat.lt_succ_self _, fun j u hu => ?_⟩⟩
  have hj : j = 0 := by have := (List.getElem?_eq_some_iff.1 hu).1; simp at this; exact this
  subst hj
  have h0 := (Blk.new w t #[v]).cell 0
  simpa [Addr.add] using (h0.trans hu)

theorem Tryz.infoThing : (Tryz.prog.info? 95).map (fun i => (i.zero, i.size, i.bytes)) = some (some .nilIface, 1, 16) := by kernel_rfl
theorem idx16 (cs : List Value) (j : Nat) (v : Value) (hj : j < 16) (e : cs[j]? = some v) (W : World) : (Instr.index 97 (.agg cs.toArray) (.int .i64 (j : Int))).run Tryz.prog W = .ok v W := by
  obtain ⟨iT, hiT, hT0, hT1, hT2⟩ := info_parts Tryz.infoThing
  have hu : (underlying 97).run Tryz.prog W = .ok (.array 16 95) W := run_underlying Tryz.underlying97 W
  have h0 : (0 : Int) ≤ (j : Int) ∧ (j : Int) < 16 := by omega
  simp [Instr.index, asIntOf, hu, part, sizeOf, typeInfo, hiT, hT1, h0, hj, e]

set_option maxRecDepth 100000 in
set_option maxHeartbeats 2000000 in
theorem kFds (w : World) (b k : Nat) (D : Nat → Value) (h : TableOf w b k D) (hD : ∀ i, i < 16 → D i = .nilIface ∨ ∃ t x, D i = .iface t x) :
    Calls Tryz.prog 15 #[.pointer (some ⟨b, 0, none⟩)] w fun e w' => ∃ v, e = .returned v ∧ w'.ownsRow w.heap.size 3 1 v (fdsOf D 16).length (intsC (fdsOf D 16)) ∧ Below w.heap.size w w' := by
  have hra : w.rangeAt b 1 ((List.range 16).map D) := by
    intro j v hv
    have hj : j < 16 := by have := (List.getElem?_eq_some_iff.1 hv).1; simpa using this
    rw [Nat.add_comm, h.fd j hj]
    simpa [hj] using hv
  obtain ⟨cs, hcs⟩ : ∃ cs, (List.range 16).map D = cs := ⟨_, rfl⟩
  rw [hcs] at hra
  have hlen : cs.length = 16 := by rw [← hcs]; simp
  have hat : ∀ j, j < 16 → cs[j]? = some (D j) := by intro j hj; rw [← hcs]; simp [hj]
  have HLEN := Lib.hid hlen
  have HAT := Lib.hid hat
  have HD := Lib.hid hD
  clear hcs hlen hat hD
  obtain ⟨iI, hiI, hI0, hI1, hI2⟩ := info_parts Tryz.infoInt
  have HI := Lib.hid hiI
  have H0 := Lib.hid hI0
  have H1 := Lib.hid hI1
  have H2 := Lib.hid hI2
  clear hiI hI0 hI1 hI2
  go_enter Tryz.func15, Tryz.ntmps15
  go_wp2_with (first | (refine wpList_load_mid rfl _ _ rfl b 1 rfl cs _ hra Tryz.underlying97 rfl (by rw [HLEN.out]; kernel_rfl) ?_) | fail)
  go_loopw [3, 10] (fun o i W => ∃ (j : Nat), j ≤ 16 ∧ i = .int .i64 (j : Int) ∧ W.ownsRow w.heap.size 3 1 o (fdsOf D j).length (intsC (fdsOf D j)) ∧ Below w.heap.size w W) (fun _ i _ => 16 - (intOf i).toNat)
  case atStart => exact ⟨0, Nat.zero_le _, rfl, World.ownsRow_nil _ _ _ _, Below.refl _ _⟩
  case round =>
    obtain ⟨j, hj, rfl, hown, hbel⟩ := hrel
    have HB := Lib.hid hbel
    have HO := Lib.hid hown
    clear hbel hown
    obtain ⟨A, cp, rfl, _⟩ := own_slice HO.out
    by_cases hlt : j < 16
    · have e0 := HAT.out j hlt
      have hfs := fdsOf_succ D j
      have hfl := fdsOf_le D j
      rcases HD.out j hlt with hn | ⟨t, x, hn⟩
      · rw [hn] at e0
        have hix := idx16 cs j _ hlt e0
        rw [hn] at hfs
        simp only [isNilV, if_true, List.append_nil] at hfs
        have HFS := Lib.hid hfs
        clear hfs hfl hn
        go_wp2_with fail
        go_roundw
        case rel => exact ⟨j + 1, by omega, by go_num, by rw [HFS.out]; exact HO.out, HB.out⟩
        case measure => simp [intOf]; omega
      · rw [hn] at e0
        have hix := idx16 cs j _ hlt e0
        rw [hn] at hfs
        simp only [isNilV, Bool.false_eq_true, if_false] at hfs
        have HFS := Lib.hid hfs
        have HFL := Lib.hid hfl
        clear hfs hfl hn
        go_wp2_with (at_builtin; refine wpList_append_any _ rfl _ _ 46 rfl w.heap.size 3 iI (.int .i64 0) 1 8 Tryz.underlying46 HI.out H0.out H1.out H2.out rfl (by decide) (.slice A (fdsOf D j).length cp) (fdsOf D j).length (intsC (fdsOf D j)) rfl ((HO.out).alloc _) (wr.heap.size + 1) (some ⟨wr.heap.size, 0, none⟩) 1 1 [.int .i64 (j : Int)] rfl (row_one wr 3 _) (by simp [Value.oneCell']) (by have := HFL.out; simp only [maxLen]; omega) (by have := HFL.out; omega) (by have := HB.out.size; simp; omega) ?_; intro v1 w1 hown1 hg1 hat1)
        go_roundw
        case rel =>
          refine ⟨j + 1, by omega, by go_num, ?_, HB.out.alloc HB.out.size _ |>.grown hg1 (by have := HB.out.size; simp; omega) (fun r hr => (HO.out.lt r hr).1)⟩
          rw [HFS.out, List.length_append]
          simpa [intsC] using hown1
        case measure => simp [intOf]; omega
    · have he : j = 16 := by omega
      subst he
      go_wp2_with fail
      go_returns
      exact ⟨_, rfl, HO.out, HB.out⟩

/-- of a table of sources and sinks -/
def Plain (D : Nat → Value) : Prop := ∀ i, i < 16 → D i = .nilIface ∨ (∃ s, D i = sourceV s) ∨ ∃ s, D i = sinkV s
theorem Plain.iface {D : Nat → Value} (h : Plain D) : ∀ i, i < 16 → D i = .nilIface ∨ ∃ t x, D i = .iface t x := by
  intro i hi
  rcases h i hi with h | ⟨s, h⟩ | ⟨s, h⟩
  · exact .inl h
  · exact .inr ⟨_, _, h⟩
  · exact .inr ⟨_, _, h⟩
theorem TableOf.congr {w : World} {b k : Nat} {D D' : Nat → Value} (h : TableOf w b k D) (hD : ∀ i, i < 16 → D i = D' i) : TableOf w b k D' := by
  unfold TableOf at h ⊢
  have e : tableCells k D = tableCells k D' := by
    unfold tableCells
    congr 2
    exact List.map_congr_left fun i hi => hD i (List.mem_range.1 hi)
  rwa [e] at h

set_option maxRecDepth 100000 in
set_option maxHeartbeats 2000000 in
theorem kFree (w : World) (b k : Nat) (D : Nat → Value) (h : TableOf w b k D) (hD : Plain D) :
    Calls Tryz.prog 57 #[.pointer (some ⟨b, 0, none⟩)] w fun e w' => e = .returned (.tuple #[]) ∧ TableOf w' b k (fun _ => .nilIface) ∧ Turns [b] w w' := by
  have hfd := kFds w b k D h hD.iface
  obtain ⟨fl, hfl⟩ : ∃ fl, fdsOf D 16 = fl := ⟨_, rfl⟩
  rw [hfl] at hfd
  have hmem : ∀ i, i ∈ fl → i < 16 ∧ isNilV (D i) = false := by
    intro i hi
    rw [← hfl] at hi
    have := List.mem_filter.1 hi
    exact ⟨List.mem_range.1 this.1, by simpa using this.2⟩
  have hall : ∀ i, i < 16 → i ∉ fl → D i = .nilIface := by
    intro i hi hn
    rcases hD i hi with e | ⟨s, e⟩ | ⟨s, e⟩
    · exact e
    all_goals
      exfalso
      apply hn
      rw [← hfl]
      exact List.mem_filter.2 ⟨List.mem_range.2 hi, by rw [e]; rfl⟩
  have hnd : fl.Nodup := by rw [← hfl]; exact List.Pairwise.filter _ List.nodup_range
  have hlen : fl.length ≤ 16 := by rw [← hfl]; exact fdsOf_le D 16
  have hlt := Blk.lt h
  have HM := Lib.hid hmem
  have HA := Lib.hid hall
  have HN := Lib.hid hnd
  have HL := Lib.hid hlen
  have HT := Lib.hid h
  have HD := Lib.hid hD
  clear hfl hmem hall hnd hlen h hD
  go_enter Tryz.func57, Tryz.ntmps57
  go_wp2_with (go_at_call 15; refine hfd.mono ?_; rintro e w1 ⟨v, rfl, hown, hbel⟩; obtain ⟨A, cp, rfl, hcp⟩ := own_slice hown)
  have HO := Lib.hid hown
  have HB := Lib.hid hbel
  clear hown hbel
  go_loopw [7] (fun i W => ∃ (j : Nat), j ≤ fl.length ∧ i = .int .i64 (j : Int) ∧ TableOf W b k (fun i => if i ∈ fl.take j then .nilIface else D i) ∧ Turns [b] w1 W) (fun i _ => fl.length - (intOf i).toNat)
  case atStart => exact ⟨0, Nat.zero_le _, rfl, TableOf.congr (D := D) (Blk.on HT.out HB.out) (fun i _ => by simp), Turns.refl _ _⟩
  case round =>
    obtain ⟨j, hj, rfl, hT, hTu⟩ := hrel
    have hbA : ∀ ad, A = some ad → ad.block ∉ [b] := by
      intro ad hA hm
      rw [List.mem_singleton] at hm
      rcases HO.out.2 with ⟨e, _⟩ | ⟨g, cap, cur, e, hg, _⟩
      · simp only [Value.slice.injEq] at e; rw [hA] at e; exact absurd e.1 (by simp)
      · simp only [Value.slice.injEq] at e; rw [hA] at e; have := e.1; cases this; simp at hm; omega
    have hR := hcp.2.2.turns hTu (Nat.le_refl _) hbA
    have hj16 : j ≤ 16 := Nat.le_trans hj HL.out
    by_cases hlt2 : j < fl.length
    · obtain ⟨ad, u, rfl, _, hu, hcell⟩ := hR.at_ hlt2
      obtain ⟨i0, hi0⟩ : ∃ i0, fl[j]? = some i0 := ⟨_, List.getElem?_eq_getElem hlt2⟩
      have hui : u = .int .i64 (i0 : Int) := by
        rw [intsC, List.getElem?_map, hi0] at hu
        simpa using hu.symm
      subst hui
      have hmi := HM.out i0 (List.mem_of_getElem? hi0)
      have hnt : i0 ∉ fl.take j := by
        intro hm
        obtain ⟨q, hq⟩ := List.getElem?_of_mem hm
        rw [List.getElem?_take] at hq
        split at hq
        · have := (List.getElem?_inj (i := q) (j := j) (by omega) HN.out).1 (by rw [hq, hi0])
          omega
        · cases hq
      have hset : Calls Tryz.prog 33 #[.pointer (some ⟨b, 0, none⟩), .int .i64 (i0 : Int), .nilIface] wr fun e w' => e = .returned (.tuple #[]) ∧ w' = wr.setCell ⟨b, i0 + 1, none⟩ .nilIface := by
        rcases HD.out i0 hmi.1 with e | ⟨s, e⟩ | ⟨s, e⟩
        · rw [e] at hmi; exact absurd hmi.2 (by simp [isNilV])
        · exact setNil wr b k _ hT i0 hmi.1 _ _ (by simp only [if_neg hnt]; rw [e]; rfl) _ (leftSource _ k s)
        · exact setNil wr b k _ hT i0 hmi.1 _ _ (by simp only [if_neg hnt]; rw [e]; rfl) _ (leftSink _ k s)
      have hT2 : TableOf (wr.setCell ⟨b, i0 + 1, none⟩ .nilIface) b k (fun i => if i ∈ fl.take (j + 1) then .nilIface else D i) := by
        refine (hT.set i0 hmi.1 .nilIface).congr fun i hi => ?_
        rw [List.take_add_one, hi0]
        by_cases e : i = i0
        · simp [e]
        · simp [e]
      have HT2 := Lib.hid hT2
      have HTU := Lib.hid hTu
      have HSET := Lib.hid hset
      clear hT2 hTu hset hT hnt hmi hu hi0 hbA hR
      go_wp2_with (go_at_call 33; refine HSET.out.mono ?_; rintro e w2 ⟨rfl, rfl⟩)
      go_roundw
      case rel => exact ⟨j + 1, by omega, by go_num, HT2.out, HTU.out.setCell _ _ (fun _ => List.mem_singleton.2 rfl)⟩
      case measure => simp [intOf]; omega
    · have he : j = fl.length := by omega
      subst he
      have HT2 := Lib.hid hT
      have HTU := Lib.hid hTu
      clear hT hTu hR
      go_wp2_with fail
      go_returns
      refine ⟨rfl, HT2.out.congr fun i hi => ?_, ((Turns.of_below HB.out).more (by simp)).trans HTU.out⟩
      rw [List.take_length]
      by_cases e : i ∈ fl
      · simp [e]
      · simp [e, HA.out i hi e]

end Go.Proofs.YtlncmknikjloeaaGreatDoor
end

section
namespace Go.Proofs.YtlncmknikjloeaaGreatDoor
open Go.RowKit

/-- a string of these bytes -/
def strB (l : List UInt8) : ByteArray := ⟨l.toArray⟩
theorem strB_toList (l : List UInt8) : (strB l).toList = l := by rw [ByteArray.toList_eq]; rfl
theorem strB_size (l : List UInt8) : (strB l).size = l.length := by simp [strB, ByteArray.size]
theorem strB_eq (a b : List UInt8) : ((strB a).toList == (strB b).toList) = decide (a = b) := by
  rw [strB_toList, strB_toList, Bool.eq_iff_iff, beq_iff_eq, decide_eq_true_eq]
theorem strB_inj {a b : List UInt8} (h : strB a = strB b) : a = b := by rw [← strB_toList a, h, strB_toList]

/-- the bytes that a slice reads as, as a string -/
theorem convert_string {P : Program} {src dst e : TypeId} (hs : P.underlying src = some (.slice e)) (he : P.underlying e = some (.int .u8)) (hd : P.underlying dst = some .string) {W : World} {B cap : Nat} {A : Option Addr} {l : List UInt8} (hr : Reads W B 1 A l.length (bytesC l)) :
    (convert src dst (.slice A l.length cap)).run P W = .ok (.string ⟨l.toArray⟩) W := by
  rcases A with _ | ad
  · have h0 : l = [] := by
      rcases l with _ | ⟨c, l⟩
      · rfl
      · obtain ⟨ad, h, _⟩ := hr.2 (by simp); cases h
    subst h0
    exact run_convert_bytes_nil W src e hs he 0 cap dst hd
  · refine run_convert_bytes_back W src dst e ad cap l hs he hd fun j hj => ?_
    obtain ⟨ad', h, _, hc⟩ := hr.2 (by omega)
    cases h
    exact hc j _ (by simp [bytesC, List.getElem?_eq_getElem hj])


theorem convOut {W : World} {B cap n : Nat} {A : Option Addr} {l : List UInt8} {S : ByteArray} (hS : strB l = S) (hn : l.length = n) (hr : Reads W B 1 A l.length (bytesC l)) : (convert 39 9 (.slice A n cap)).run Tryz.prog W = .ok (.string S) W := by
  subst hS hn
  exact convert_string Tryz.underlying39 Tryz.underlying5 Tryz.underlying9 hr

end Go.Proofs.YtlncmknikjloeaaGreatDoor
end
