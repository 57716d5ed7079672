/-
  Parts of the proof: Walks over tree.place, depth, may; A walk over tree.may; Walks over tree.put, sweep, take; The plain tree of a tree in memory that has one entry more.
-/
import Derived.Test.YtffffjngodinnaaGreatDoorV30
import Derived.Test.YtffffjngodinnaaGreatDoorV12
import Derived.LaidEqlPtr
import Derived.Lib.Builder
import Derived.Test.YtffffjngodinnaaGreatDoorV09
import Derived.Test.YtffffjngodinnaaGreatDoorV04
import Derived.Test.YtffffjngodinnaaGreatDoorV26

section
namespace Go.Proofs.YtffffjngodinnaaGreatDoor
open Go.RowKit Go.Maps

/-- what place answers -/
def placeV (β : Nat → Nat) : Except Nat (Option (Nat × Abs.Name)) → Value
  | .error e => .tuple #[.pointer none, .string ⟨#[]⟩, .int .i64 (e : Int)]
  | .ok none => .tuple #[.pointer none, .string ⟨#[]⟩, .int .i64 0]
  | .ok (some (d, n)) => .tuple #[.pointer (some ⟨β d, 0, none⟩), .string ⟨n.toArray⟩, .int .i64 0]

theorem infoStrTop : True := trivial
/-- the last of a row of strings, and the row without it -/
theorem last_row {w : World} {base : Nat} {v : Value} {l : List ByteArray} (h : w.ownsRow base 9 1 v l.length (l.map .string)) (hl : l ≠ []) :
    ∃ g cap, v = .slice (some ⟨g, 0, none⟩) l.length cap ∧ l.length ≤ cap ∧ base ≤ g ∧ g < w.heap.size ∧ w.cell? ⟨g, l.length - 1, none⟩ = some (.string (l.getLast hl)) ∧
      ∀ (j : Nat) x, l.dropLast[j]? = some x → w.cell? ⟨g, 0 + j, none⟩ = some (.string x) := by
  have hpos : 0 < l.length := List.length_pos_iff.2 hl
  rcases h.2 with ⟨_, e⟩ | ⟨g, cap, cur, rfl, hb, hg, hn, _⟩
  · omega
  · have hlt := (Array.getElem?_eq_some_iff.1 hg).1
    have hc : ∀ j x, l[j]? = some x → w.cell? ⟨g, j, none⟩ = some (.string x) := by
      intro j x hx
      have ea : (⟨g, 0, none⟩ : Addr).add j = ⟨g, j, none⟩ := by unfold Addr.add; split <;> simp_all
      rw [← ea]
      exact h.cells (g := g) rfl j (.string x) (by simp [hx])
    refine ⟨g, cap, rfl, hn, hb, hlt, ?_, fun j x hx => ?_⟩
    · refine hc _ _ ?_
      rw [List.getLast_eq_getElem, ← List.getElem?_eq_getElem]
    · rw [Nat.zero_add]
      refine hc j x ?_
      have hj := (List.getElem?_eq_some_iff.1 hx).1
      rw [List.length_dropLast] at hj
      rw [List.getElem?_dropLast, if_pos hj] at hx
      exact hx

set_option maxRecDepth 100000 in
set_option maxHeartbeats 4000000 in
theorem place_any (w : World) (t : Nat) (S : TS) (T : Abs.T) (β : Nat → Nat) (h : TreeIs w t S T β) (cwd path : ByteArray) (hc : cwd.size < 1073741824) (hp : path.size < 1073741824) :
    Calls Tryz.prog 153 #[.pointer (some ⟨t, 0, none⟩), .string cwd, .string path] w fun e w' => e = .returned (placeV β (T.place cwd.data.toList path.data.toList)) ∧ Below w.heap.size w w' := by
  have hf := from_any w t S T β h cwd path hc hp
  obtain ⟨r, hr⟩ : ∃ r, T.start cwd.data.toList path.data.toList = r := ⟨_, rfl⟩
  rw [hr] at hf
  obtain ⟨q, hq⟩ : ∃ q, T.place cwd.data.toList path.data.toList = q := ⟨_, rfl⟩
  rw [hq]
  unfold Abs.T.place at hq
  rw [hr] at hq
  have hparts := fun W => callsIn_wide.1 (parts_in Fence.wide 3 trivial rfl path W)
  have hcol := fun W => collect_any (W.alloc (.cells #[.string path] 9)) W.heap.size path hp (Boxed.new W 9 (.string path))
  cases r with
  | error e =>
    have he := Abs.T.start_ne0 hr
    have he1 : ((e : Int) != 0) = true := by simpa using he
    simp only at hq
    subst hq
    clear hr he
    unfold leadsV at hf
    unfold placeV
    go_enter Tryz.func153, Tryz.ntmps153
    go_wp2_with (go_at_call 125; refine hf.mono ?_; rintro e w' ⟨rfl, hb⟩)
    go_ret3
    exact ⟨rfl, hb⟩
  | ok i =>
    obtain ⟨x, hx, hxd⟩ := Abs.isDir_of (h.wf.start_dir hr)
    unfold leadsV ptrV at hf
    simp only at hf hq
    have hpl : (Abs.parts path.data.toList).getLast? = (partsB path).getLast?.map (·.data.toList) := by rw [← plainL_parts]; simp [plainL]
    by_cases hl : partsB path = []
    · rw [hpl, hl] at hq
      simp only [List.getLast?_nil, Option.map_none] at hq
      subst hq
      unfold placeV
      rw [hl] at hcol
      clear hr hpl hl
      go_enter Tryz.func153, Tryz.ntmps153
      go_wp2_with (first
        | (go_at_call 125; refine hf.mono ?_; rintro e w' ⟨rfl, hb⟩)
        | (go_at_call 155; refine (hparts _).mono ?_; rintro e w2 ⟨rfl, rfl⟩)
        | (go_at_call 158; refine (hcol _).mono ?_; rintro e w3 ⟨v, rfl, ho, hb3⟩; obtain ⟨A, c, rfl, _, _, _⟩ := own_slice ho))
      go_ret3
      exact ⟨rfl, ((hb.alloc hb.size _).trans (hb3.mono (by have := hb.size; simp; omega)))⟩
    · obtain ⟨last, hlast⟩ : ∃ y, (partsB path).getLast hl = y := ⟨_, rfl⟩
      rw [hpl, List.getLast?_eq_some_getLast hl, hlast] at hq
      simp only [Option.map_some] at hq
      obtain ⟨m, hm⟩ : ∃ m, (partsB path).length = m + 1 := ⟨(partsB path).length - 1, by have := List.length_pos_iff.2 hl; omega⟩
      have hpn : m < 2147483648 := by
        have h1 : (partsB path).length ≤ (segsB path).length := by rw [partsB_segs]; exact List.length_filter_le _ _
        have := segsB_len path
        omega
      obtain ⟨r2, hr2⟩ : ∃ r, T.leads i (Abs.parts path.data.toList).dropLast = r := ⟨_, rfl⟩
      rw [hr2] at hq
      have hjl := Abs.join_parts_le path.data.toList
      have hjp := Abs.parts_join (Abs.parts path.data.toList).dropLast (fun p hp => Abs.parts_ok _ p (List.dropLast_subset _ hp))
      obtain ⟨js, hjs⟩ : ∃ js : ByteArray, (⟨(Lib.join (Abs.parts path.data.toList).dropLast [47]).toArray⟩ : ByteArray) = js := ⟨_, rfl⟩
      have hjs1 : js.data.toList = Lib.join (Abs.parts path.data.toList).dropLast [47] := by rw [← hjs]
      have hjs2 : js.size < 1073741824 := by rw [← hjs]; show (Lib.join _ _).length < _; have : path.data.toList.length = path.size := rfl; omega
      have hld := fun W (hb : Below w.heap.size w W) => leads_any W t S T β (h.below hb) i ⟨x, hx⟩ js hjs2
      rw [hjs1, hjp, hr2] at hld
      have hjoin : ∀ (W : World) (g cap : Nat), g < W.heap.size → m ≤ cap → (∀ (j : Nat) x, (partsB path).dropLast[j]? = some x → W.cell? ⟨g, 0 + j, none⟩ = some (.string x)) →
          Calls Tryz.prog 177 #[.slice (some ⟨g, 0, none⟩) m cap, .string ⟨#[47]⟩] W fun e w' => e = .returned (.string js) ∧ Below W.heap.size W w' := by
        intro W g cap hg hcap hcells
        have hml : (partsB path).dropLast.length = m := by rw [List.length_dropLast, hm]; omega
        have hmp : (partsB path).dropLast.map (·.data.toList) = (Abs.parts path.data.toList).dropLast := by rw [← plainL_parts, plainL, List.map_dropLast]
        have h1 := Tryz.strings_Join g 0 cap (partsB path).dropLast ⟨#[47]⟩ W hcells hg (by omega) (by omega) (by rw [hmp]; have : path.data.toList.length = path.size := rfl; show (Lib.join _ [47]).length ≤ _; omega)
        rw [hml, hmp] at h1
        rw [← hjs]
        exact h1
      have hrow := fun (W : World) v (ho : W.ownsRow w.heap.size 9 1 v (partsB path).length ((partsB path).map .string)) => last_row ho hl
      rw [hm, hlast, Nat.add_sub_cancel] at hrow
      obtain ⟨iB, hiB, hB0, hB1, hB2⟩ := info_parts Tryz.infoStr
      have hfr := fun (A : Option Addr) (len cap : Nat) (hh : m ≤ cap) W => run_front (P := Tryz.prog) 22 9 iB Tryz.underlying22 hiB A len cap m hh W
      clear hiB hB0 hB1 hB2
      have HF := Lib.hid hfr
      have HR := Lib.hid hrow
      have HJ := Lib.hid hjoin
      have HL := Lib.hid hld
      have HX := Lib.hid hx
      have hm2 : (((m : Nat) : Int) + 1 == 0) = false := beq_eq_false_iff_ne.2 (by omega)
      rw [hm] at hcol
      clear hfr hrow hjoin hld hx hr hpl hlast hl hm hjl hjp hjs hjs1 hjs2
      cases r2 with
      | error e =>
        have he := Abs.T.leads_ne0 hr2
        have he1 : ((e : Int) != 0) = true := by simpa using he
        simp only at hq
        subst hq
        unfold placeV
        clear hr2 he
        go_enter Tryz.func153, Tryz.ntmps153
        go_wp2_with (first
          | (go_at_call 125; refine hf.mono ?_; rintro e w' ⟨rfl, hb⟩)
          | (go_at_call 155; refine (hparts _).mono ?_; rintro e w2 ⟨rfl, rfl⟩)
          | (go_at_call 158; refine (hcol _).mono ?_; rintro e w3 ⟨v, rfl, ho, hb3⟩; obtain ⟨g, cap, rfl, hcap, hg1, hg2, hlc, hjc⟩ := HR.out w3 v (Joins.ownsRow_le ho (by have := hb.size; simp; omega)); have HF2 := HF.out (some ⟨g, 0, none⟩) (m + 1) cap (by omega))
          | (go_at_call 177; refine (HJ.out _ g cap hg2 (by omega) hjc).mono ?_; rintro e w4 ⟨rfl, hb4⟩; have hb04 : Below w.heap.size w w4 := ((hb.alloc hb.size _).trans (hb3.mono (by have := hb.size; simp; omega))).trans (hb4.mono (by have := hb.size; have := hb3.size; simp at this; omega)))
          | (go_at_call 126; refine (HL.out _ hb04).mono ?_; rintro e w5 ⟨rfl, hb5⟩; unfold leadsV))
        go_ret3
        exact ⟨rfl, hb04.trans (hb5.mono hb04.size)⟩
      | ok d =>
        obtain ⟨z, hz⟩ := h.wf.leads_live _ _ ⟨x, HX.out⟩ hr2
        obtain ⟨y, hy, by0, _, _, _, hyd, _, _, _, _⟩ := h.at_ hz
        have k3 : w.cell? ⟨β d, 3, none⟩ = some (.bool z.dir) := by rw [by0.cell 3, ← hyd]; rfl
        have lb := by0.lt
        have hdz : T.isDir d = z.dir := by simp [Abs.T.isDir, hz]
        simp only [hdz] at hq
        have hnd := fun w2 => named_any last w2
        clear hr2 hz hy by0 hyd hdz
        cases hd : z.dir with
        | false =>
          rw [hd] at k3 hq
          simp only [if_true] at hq
          subst hq
          unfold placeV
          go_enter Tryz.func153, Tryz.ntmps153
          go_wp2_with (first
            | (go_at_call 125; refine hf.mono ?_; rintro e w' ⟨rfl, hb⟩)
            | (go_at_call 155; refine (hparts _).mono ?_; rintro e w2 ⟨rfl, rfl⟩)
            | (go_at_call 158; refine (hcol _).mono ?_; rintro e w3 ⟨v, rfl, ho, hb3⟩; obtain ⟨g, cap, rfl, hcap, hg1, hg2, hlc, hjc⟩ := HR.out w3 v (Joins.ownsRow_le ho (by have := hb.size; simp; omega)); have HF2 := HF.out (some ⟨g, 0, none⟩) (m + 1) cap (by omega))
            | (go_at_call 177; refine (HJ.out _ g cap hg2 (by omega) hjc).mono ?_; rintro e w4 ⟨rfl, hb4⟩; have hb04 : Below w.heap.size w w4 := ((hb.alloc hb.size _).trans (hb3.mono (by have := hb.size; simp; omega))).trans (hb4.mono (by have := hb.size; have := hb3.size; simp at this; omega)))
            | (go_at_call 126; refine (HL.out _ hb04).mono ?_; rintro e w5 ⟨rfl, hb5⟩; unfold leadsV ptrV; have k35 := (hb5.cell (p := ⟨β d, 3, none⟩) (Nat.lt_of_lt_of_le lb hb04.size)).trans ((hb04.cell (p := ⟨β d, 3, none⟩) lb).trans k3))
            | (go_at_call 122; refine (hnd _).mono ?_; rintro e w6 ⟨rfl, hb6⟩))
          go_ret3
          exact ⟨rfl, hb04.trans (hb5.mono hb04.size)⟩
        | true =>
          rw [hd] at k3 hq
          simp only [Bool.true_eq_false, if_false] at hq
          by_cases h1 : last.data.toList = Abs.dot
          · rw [if_pos (.inl h1)] at hq
            subst hq
            unfold placeV
            have h1' : (last.toList == [46]) = true := beq_iff_eq.2 (by rw [Lib.toList_data]; exact h1)
            clear h1
            go_enter Tryz.func153, Tryz.ntmps153
            go_wp2_with (first
              | (go_at_call 125; refine hf.mono ?_; rintro e w' ⟨rfl, hb⟩)
              | (go_at_call 155; refine (hparts _).mono ?_; rintro e w2 ⟨rfl, rfl⟩)
              | (go_at_call 158; refine (hcol _).mono ?_; rintro e w3 ⟨v, rfl, ho, hb3⟩; obtain ⟨g, cap, rfl, hcap, hg1, hg2, hlc, hjc⟩ := HR.out w3 v (Joins.ownsRow_le ho (by have := hb.size; simp; omega)); have HF2 := HF.out (some ⟨g, 0, none⟩) (m + 1) cap (by omega))
              | (go_at_call 177; refine (HJ.out _ g cap hg2 (by omega) hjc).mono ?_; rintro e w4 ⟨rfl, hb4⟩; have hb04 : Below w.heap.size w w4 := ((hb.alloc hb.size _).trans (hb3.mono (by have := hb.size; simp; omega))).trans (hb4.mono (by have := hb.size; have := hb3.size; simp at this; omega)))
              | (go_at_call 126; refine (HL.out _ hb04).mono ?_; rintro e w5 ⟨rfl, hb5⟩; unfold leadsV ptrV; have k35 := (hb5.cell (p := ⟨β d, 3, none⟩) (Nat.lt_of_lt_of_le lb hb04.size)).trans ((hb04.cell (p := ⟨β d, 3, none⟩) lb).trans k3))
              | (go_at_call 122; refine (hnd _).mono ?_; rintro e w6 ⟨rfl, hb6⟩))
            go_ret3
            exact ⟨rfl, hb04.trans (hb5.mono hb04.size)⟩
          have h1' : (last.toList == [46]) = false := beq_eq_false_iff_ne.2 (by rw [Lib.toList_data]; exact h1)
          by_cases h2 : last.data.toList = Abs.dotdot
          · rw [if_pos (.inr h2)] at hq
            subst hq
            unfold placeV
            have h2' : (last.toList == [46, 46]) = true := beq_iff_eq.2 (by rw [Lib.toList_data]; exact h2)
            clear h1 h2
            go_enter Tryz.func153, Tryz.ntmps153
            go_wp2_with (first
              | (go_at_call 125; refine hf.mono ?_; rintro e w' ⟨rfl, hb⟩)
              | (go_at_call 155; refine (hparts _).mono ?_; rintro e w2 ⟨rfl, rfl⟩)
              | (go_at_call 158; refine (hcol _).mono ?_; rintro e w3 ⟨v, rfl, ho, hb3⟩; obtain ⟨g, cap, rfl, hcap, hg1, hg2, hlc, hjc⟩ := HR.out w3 v (Joins.ownsRow_le ho (by have := hb.size; simp; omega)); have HF2 := HF.out (some ⟨g, 0, none⟩) (m + 1) cap (by omega))
              | (go_at_call 177; refine (HJ.out _ g cap hg2 (by omega) hjc).mono ?_; rintro e w4 ⟨rfl, hb4⟩; have hb04 : Below w.heap.size w w4 := ((hb.alloc hb.size _).trans (hb3.mono (by have := hb.size; simp; omega))).trans (hb4.mono (by have := hb.size; have := hb3.size; simp at this; omega)))
              | (go_at_call 126; refine (HL.out _ hb04).mono ?_; rintro e w5 ⟨rfl, hb5⟩; unfold leadsV ptrV; have k35 := (hb5.cell (p := ⟨β d, 3, none⟩) (Nat.lt_of_lt_of_le lb hb04.size)).trans ((hb04.cell (p := ⟨β d, 3, none⟩) lb).trans k3))
              | (go_at_call 122; refine (hnd _).mono ?_; rintro e w6 ⟨rfl, hb6⟩))
            go_ret3
            exact ⟨rfl, hb04.trans (hb5.mono hb04.size)⟩
          have h2' : (last.toList == [46, 46]) = false := beq_eq_false_iff_ne.2 (by rw [Lib.toList_data]; exact h2)
          rw [if_neg (not_or.2 ⟨h1, h2⟩)] at hq
          cases hn : Abs.named last.data.toList with
          | false =>
            rw [hn] at hnd hq
            simp only [if_true] at hq
            subst hq
            unfold placeV
            clear h1 h2
            go_enter Tryz.func153, Tryz.ntmps153
            go_wp2_with (first
              | (go_at_call 125; refine hf.mono ?_; rintro e w' ⟨rfl, hb⟩)
              | (go_at_call 155; refine (hparts _).mono ?_; rintro e w2 ⟨rfl, rfl⟩)
              | (go_at_call 158; refine (hcol _).mono ?_; rintro e w3 ⟨v, rfl, ho, hb3⟩; obtain ⟨g, cap, rfl, hcap, hg1, hg2, hlc, hjc⟩ := HR.out w3 v (Joins.ownsRow_le ho (by have := hb.size; simp; omega)); have HF2 := HF.out (some ⟨g, 0, none⟩) (m + 1) cap (by omega))
              | (go_at_call 177; refine (HJ.out _ g cap hg2 (by omega) hjc).mono ?_; rintro e w4 ⟨rfl, hb4⟩; have hb04 : Below w.heap.size w w4 := ((hb.alloc hb.size _).trans (hb3.mono (by have := hb.size; simp; omega))).trans (hb4.mono (by have := hb.size; have := hb3.size; simp at this; omega)))
              | (go_at_call 126; refine (HL.out _ hb04).mono ?_; rintro e w5 ⟨rfl, hb5⟩; unfold leadsV ptrV; have k35 := (hb5.cell (p := ⟨β d, 3, none⟩) (Nat.lt_of_lt_of_le lb hb04.size)).trans ((hb04.cell (p := ⟨β d, 3, none⟩) lb).trans k3))
              | (go_at_call 122; refine (hnd _).mono ?_; rintro e w6 ⟨rfl, hb6⟩))
            go_ret3
            exact ⟨rfl, (hb04.trans (hb5.mono hb04.size)).trans (hb6.mono (Nat.le_trans hb04.size hb5.size))⟩
          | true =>
            rw [hn] at hnd hq
            simp only [Bool.true_eq_false, if_false] at hq
            subst hq
            unfold placeV
            clear h1 h2
            go_enter Tryz.func153, Tryz.ntmps153
            go_wp2_with (first
              | (go_at_call 125; refine hf.mono ?_; rintro e w' ⟨rfl, hb⟩)
              | (go_at_call 155; refine (hparts _).mono ?_; rintro e w2 ⟨rfl, rfl⟩)
              | (go_at_call 158; refine (hcol _).mono ?_; rintro e w3 ⟨v, rfl, ho, hb3⟩; obtain ⟨g, cap, rfl, hcap, hg1, hg2, hlc, hjc⟩ := HR.out w3 v (Joins.ownsRow_le ho (by have := hb.size; simp; omega)); have HF2 := HF.out (some ⟨g, 0, none⟩) (m + 1) cap (by omega))
              | (go_at_call 177; refine (HJ.out _ g cap hg2 (by omega) hjc).mono ?_; rintro e w4 ⟨rfl, hb4⟩; have hb04 : Below w.heap.size w w4 := ((hb.alloc hb.size _).trans (hb3.mono (by have := hb.size; simp; omega))).trans (hb4.mono (by have := hb.size; have := hb3.size; simp at this; omega)))
              | (go_at_call 126; refine (HL.out _ hb04).mono ?_; rintro e w5 ⟨rfl, hb5⟩; unfold leadsV ptrV; have k35 := (hb5.cell (p := ⟨β d, 3, none⟩) (Nat.lt_of_lt_of_le lb hb04.size)).trans ((hb04.cell (p := ⟨β d, 3, none⟩) lb).trans k3))
              | (go_at_call 122; refine (hnd _).mono ?_; rintro e w6 ⟨rfl, hb6⟩))
            go_ret3
            exact ⟨rfl, (hb04.trans (hb5.mono hb04.size)).trans (hb6.mono (Nat.le_trans hb04.size hb5.size))⟩

theorem depthN_eq {T : Abs.T} {dp : Nat → Nat} (h1 : dp 1 = 0) (hdp : ∀ i x, T.get i = some x → x.dir = true → i ≠ 1 → dp i = dp x.up + 1 ∧ dp i ≤ 10) (hup : ∀ i x, T.get i = some x → x.dir = true → ∃ y, T.get x.up = some y ∧ y.dir = true) :
    ∀ n i, (∃ x, T.get i = some x ∧ x.dir = true) → dp i < n → T.depthN n i = dp i := by
  intro n
  induction n with
  | zero => intro i _ h; omega
  | succ n ih =>
    rintro i ⟨x, hx, hd⟩ hlt
    unfold Abs.T.depthN
    by_cases hi : i = 1
    · subst hi; rw [if_pos rfl, h1]
    · rw [if_neg hi, hx]
      have h2 := (hdp i x hx hd hi).1
      simp only
      rw [ih x.up (hup i x hx hd) (by omega), h2]
      omega

theorem Tryz.infoItem : ∃ j, Tryz.prog.info? 179 = some j ∧ j.size ≠ 0 := by
  have h : (Tryz.prog.info? 179).map (·.size) = some 9 := by kernel_rfl
  cases hj : Tryz.prog.info? 179 with
  | none => rw [hj] at h; cases h
  | some j => rw [hj] at h; exact ⟨j, rfl, by simp at h; omega⟩
theorem neq_item_same (w : World) (a : Addr) : (binOp .neq 166 (.pointer (some a)) (.pointer (some a))).run Tryz.prog w = .ok (.bool false) w := by
  obtain ⟨j, hj, _⟩ := Tryz.infoItem
  exact Lib.run_neq_ptr_same w a Tryz.underlying166 hj
theorem eq_item (w : World) {a b : Nat} {ca cb : Array Value} (ha : Blk w a 179 ca) (hb : Blk w b 179 cb) : (Op.equal 166 (.pointer (some ⟨a, 0, none⟩)) (.pointer (some ⟨b, 0, none⟩))).run Tryz.prog w = .ok (decide (a = b)) w := by
  obtain ⟨j, hj, hz⟩ := Tryz.infoItem
  have h : ∀ d : Nat, (Op.equalIn (d + 1) 166 (.pointer (some ⟨a, 0, none⟩)) (.pointer (some ⟨b, 0, none⟩))).run Tryz.prog w = .ok (decide (a = b)) w := fun d => by
    by_cases e : a = b
    · subst e
      simp [Op.equalIn, run_underlying Tryz.underlying166, sizeOf, typeInfo, hj, run_sameAddr_same]
    · have hne : (⟨a, 0, none⟩ : Addr) ≠ ⟨b, 0, none⟩ := fun h => e (by injection h)
      simp [Op.equalIn, run_underlying Tryz.underlying166, sizeOf, typeInfo, hj, hz, run_sameAddr_other w hne ha hb, e]
  simp only [Op.equal, Op.maxDepth, h 9999]
theorem neq_item (w : World) {a b : Nat} {ca cb : Array Value} (ha : Blk w a 179 ca) (hb : Blk w b 179 cb) (hne : a ≠ b) : (binOp .neq 166 (.pointer (some ⟨a, 0, none⟩)) (.pointer (some ⟨b, 0, none⟩))).run Tryz.prog w = .ok (.bool true) w := by
  have h := eq_item w ha hb
  rw [decide_eq_false hne] at h
  simp [binOp, h]
theorem eql_item (w : World) {a b : Nat} {ca cb : Array Value} (ha : Blk w a 179 ca) (hb : Blk w b 179 cb) : (binOp .eql 166 (.pointer (some ⟨a, 0, none⟩)) (.pointer (some ⟨b, 0, none⟩))).run Tryz.prog w = .ok (.bool (decide (a = b))) w := by
  have h := eq_item w ha hb
  simp [binOp, h]

set_option maxRecDepth 100000 in
set_option maxHeartbeats 2000000 in
theorem depth_any (w : World) (t : Nat) (S : TS) (T : Abs.T) (β : Nat → Nat) (h : TreeIs w t S T β) (d : Nat) (hd : T.isDir d = true) :
    Calls Tryz.prog 154 #[.pointer (some ⟨t, 0, none⟩), .pointer (some ⟨β d, 0, none⟩)] w fun e w' => e = .returned (.int .i64 (T.depth d : Int)) ∧ w' = w := by
  obtain ⟨dp, h1, hdp⟩ := h.wf.rank
  have hdir := Abs.isDir_of hd
  have hdd : dp d ≤ 10 := by
    obtain ⟨x, hx, hxd⟩ := hdir
    by_cases e : d = 1
    · subst e; omega
    · exact (hdp d x hx hxd e).2
  have hfin : T.depth d = dp d := depthN_eq h1 hdp h.wf.up 11 d hdir (by omega)
  rw [hfin]
  have c0 : w.cell? ⟨t, 0, none⟩ = some (.pointer (some ⟨β 1, 0, none⟩)) := by rw [h.mem.blk.cell 0, ← h.rep.root]; rfl
  go_enter Tryz.func154, Tryz.ntmps154
  go_wp2
  go_loop [1, 5] (fun x n => ∃ j k : Nat, x = .pointer (some ⟨β j, 0, none⟩) ∧ n = .int .i64 k ∧ k ≤ 10 ∧ dp j + k = dp d ∧ ∃ z, T.get j = some z ∧ z.dir = true) (fun _ n => (11 - intOf n).toNat)
  case atStart => exact ⟨d, 0, rfl, rfl, by omega, by omega, hdir⟩
  case round =>
    obtain ⟨j, k, rfl, rfl, hk, hjk, z, hz, hzd⟩ := hrel
    obtain ⟨y, hy, by0, _, _, _, hyd, _, hdr, _, _⟩ := h.at_ hz
    obtain ⟨xr, hxr, _⟩ := h.wf.root
    by_cases hj : j = 1
    · subst hj
      have hq := neq_item_same w ⟨β 1, 0, none⟩
      have hk1 : k = dp d := by omega
      go_wp2
      go_ret
      exact ⟨rfl, rfl⟩
    · have hne : β j ≠ β 1 := fun e => hj (h.rep.inj _ _ _ _ hz hxr e)
      have k6 : w.cell? ⟨β j, 6, none⟩ = some (.pointer (some ⟨β z.up, 0, none⟩)) := by rw [by0.cell 6, ← (hdr hzd).2]; simp [itemCells, hyd, hzd]
      have hd2 := hdp j z hz hzd hj
      have hu2 := h.wf.up j z hz hzd
      obtain ⟨yr, _, byr, _⟩ := h.at_ hxr
      have hq := neq_item w by0 byr hne
      go_wp2
      exact ⟨⟨z.up, k + 1, rfl, by go_num, by omega, by omega, hu2⟩, by simp [intOf]; omega⟩

end Go.Proofs.YtffffjngodinnaaGreatDoor
end

section
namespace Go.Proofs.YtffffjngodinnaaGreatDoor
open Go.RowKit Go.Maps

/-- what may answers -/
def MayIs (β : Nat → Nat) : Except Nat (Nat × Abs.Name) → Ending → Prop
  | .error e, r => ∃ dv nv, r = .returned (.tuple #[dv, nv, .int .i64 (e : Int)])
  | .ok (d, n), r => r = .returned (.tuple #[.pointer (some ⟨β d, 0, none⟩), .string ⟨n.toArray⟩, .int .i64 0])

theorem place_ok {T : Abs.T} {cwd path : List UInt8} {d : Nat} {n : Abs.Name} (h : T.place cwd path = .ok (some (d, n))) : T.isDir d = true ∧ Abs.named n = true := by
  unfold Abs.T.place at h
  split at h
  · cases h
  · split at h
    · cases h
    · split at h
      · cases h
      · split at h
        · cases h
        · rename_i hd
          split at h
          · cases h
          · split at h
            · cases h
            · rename_i hn
              simp only [Except.ok.injEq, Option.some.injEq, Prod.mk.injEq] at h
              obtain ⟨rfl, rfl⟩ := h
              exact ⟨by simpa using hd, by simpa using hn⟩

set_option maxRecDepth 100000 in
set_option maxHeartbeats 4000000 in
theorem may_any (w : World) (t : Nat) (S : TS) (T : Abs.T) (β : Nat → Nat) (h : TreeIs w t S T β) (cwd path : ByteArray) (hc : cwd.size < 1073741824) (hp : path.size < 1073741824) (dir : Bool) :
    Calls Tryz.prog 123 #[.pointer (some ⟨t, 0, none⟩), .string cwd, .string path, .bool dir] w fun e w' => MayIs β (T.may cwd.data.toList path.data.toList dir) e ∧ Below w.heap.size w w' := by
  have hf := place_any w t S T β h cwd path hc hp
  obtain ⟨r, hr⟩ : ∃ r, T.place cwd.data.toList path.data.toList = r := ⟨_, rfl⟩
  rw [hr] at hf
  obtain ⟨q, hq⟩ : ∃ q, T.may cwd.data.toList path.data.toList dir = q := ⟨_, rfl⟩
  rw [hq]
  unfold Abs.T.may at hq
  rw [hr] at hq
  match r, hr with
  | .error e, hr =>
    have he := Abs.T.place_ne0 hr
    have he1 : ((e : Int) != 0) = true := by simpa using he
    simp only at hq
    subst hq
    clear hr he
    unfold placeV at hf
    simp only at hf
    go_enter Tryz.func123, Tryz.ntmps123
    go_wp2_with (go_at_call 153; refine hf.mono ?_; rintro e w' ⟨rfl, hb⟩)
    go_ret3
    exact ⟨⟨_, _, rfl⟩, hb⟩
  | .ok none, hr =>
    simp only at hq
    subst hq
    clear hr
    unfold placeV at hf
    simp only at hf
    go_enter Tryz.func123, Tryz.ntmps123
    go_wp2_with (go_at_call 153; refine hf.mono ?_; rintro e w' ⟨rfl, hb⟩)
    go_ret3
    exact ⟨⟨_, _, rfl⟩, hb⟩
  | .ok (some (d, n)), hr =>
    obtain ⟨hd, hn⟩ := place_ok hr
    obtain ⟨x, hx, hxd⟩ := Abs.isDir_of hd
    simp only [hx] at hq
    unfold placeV at hf
    simp only at hf
    obtain ⟨ns, hns⟩ : ∃ ns : ByteArray, (⟨n.toArray⟩ : ByteArray) = ns := ⟨_, rfl⟩
    have hnl : ns.data.toList = n := by rw [← hns]
    have hsz : ns.size ≤ 32 := named_size (by rw [hnl]; exact hn)
    have hne : ns.toList.isEmpty = false := by
      rw [Lib.toList_data, hnl]
      cases n with
      | nil => simp [Abs.named] at hn
      | cons _ _ => rfl
    obtain ⟨y, hy, by0, _, _, _, hyd, _, hdir, _, _⟩ := h.at_ hx
    rw [hxd] at hyd
    obtain ⟨hnf, _⟩ := hdir hxd
    have k5 : w.cell? ⟨β d, 5, none⟩ = some (.map (some y.nb)) := by rw [by0.cell 5]; simp [itemCells, hyd]
    have c3 : w.cell? ⟨t, 3, none⟩ = some (.int .i64 (T.many : Int)) := by rw [h.mem.blk.cell 3, ← h.rep.many]; rfl
    have lb := by0.lt
    have lt' := h.mem.blk.lt
    have hm := ((h.mem.item _ _ hy).2.2 hyd).1
    have hL := fun w2 (hb : Below w.heap.size w w2) => MapOf.look1 (hm.same (w' := w2) (hb.block _ hm.lt)) stringKeys Tryz.underlying177 (show (zeroValue 166).run Tryz.prog w2 = .ok (.pointer none) w2 from by kernel_rfl) (key := .string ns) (kl := .string ns.data.toList) (keyOf_str ns (by unfold maxLen; omega))
    have hnsf : namesF y.nf (.string ns.data.toList) = ((Abs.lk x.names n).map β).map ptrV := by show (y.nf _).map ptrV = _; rw [hnf, hnl]
    rw [hnsf] at hL
    have hdp := fun w2 (hb : Below w.heap.size w w2) => depth_any w2 t S T β (h.below hb) d hd
    have hsf := fun w2 => Tryz.strings_HasSuffix path ⟨#[47]⟩ w2 (by omega)
    rw [slash_suffix] at hsf
    rw [hns] at hf
    obtain ⟨sl, hsl⟩ : ∃ sl, Abs.slash path.data.toList = sl := ⟨_, rfl⟩
    obtain ⟨dp, hdpe⟩ : ∃ dp, T.depth d = dp := ⟨_, rfl⟩
    obtain ⟨mn, hmn⟩ : ∃ mn, T.many = mn := ⟨_, rfl⟩
    rw [hsl] at hsf
    rw [hdpe] at hdp
    rw [hmn] at c3
    rw [hsl, hdpe, hmn] at hq
    have HL := Lib.hid hL
    have HD := Lib.hid hdp
    have HX := Lib.hid hns
    clear hL hdp hns hr hsl hdpe hmn hx hy by0 hyd hdir hnf hnsf hm hd hnl hxd
    cases hlk : Abs.lk x.names n with
    | some j =>
      rw [hlk] at HL hq
      simp only [Option.isSome_some, if_true] at hq
      subst hq
      go_enter Tryz.func123, Tryz.ntmps123
      go_wp2_with (go_at_call 153; refine hf.mono ?_; rintro e w' ⟨rfl, hb⟩; have hl2 := HL.out w' hb; simp only [Option.map_some, Option.getD_some, ptrV] at hl2; have k52 := (hb.cell (p := ⟨β d, 5, none⟩) lb).trans k5)
      go_ret3
      exact ⟨⟨_, _, rfl⟩, hb⟩
    | none =>
      rw [hlk] at HL hq
      simp only [Option.isSome_none, Bool.false_eq_true, if_false] at hq
      cases hs : (sl && !dir) with
      | true =>
        rw [hs] at hq
        simp only [if_true] at hq
        subst hq
        simp only [Bool.and_eq_true, Bool.not_eq_true'] at hs
        obtain ⟨rfl, rfl⟩ := hs
        go_enter Tryz.func123, Tryz.ntmps123
        go_wp2_with (first
          | (go_at_call 153; refine hf.mono ?_; rintro e w' ⟨rfl, hb⟩; have hl2 := HL.out w' hb; simp only [Option.map_none, Option.getD_none] at hl2; have k52 := (hb.cell (p := ⟨β d, 5, none⟩) lb).trans k5; have c32 := (hb.cell (p := ⟨t, 3, none⟩) lt').trans c3)
          | (go_at_call 127; refine (hsf _).mono ?_; rintro e w3 ⟨rfl, rfl⟩)
          | (go_at_call 154; refine (HD.out _ hb).mono ?_; rintro e w4 ⟨rfl, rfl⟩))
        go_ret3
        exact ⟨⟨_, _, rfl⟩, hb⟩
      | false =>
        rw [hs] at hq
        simp only [Bool.false_eq_true, if_false] at hq
        by_cases hdp10 : 10 ≤ dp
        · rw [if_pos hdp10] at hq
          subst hq
          rcases (show sl = false ∨ (sl = true ∧ dir = true) by cases sl <;> cases dir <;> simp_all) with rfl | ⟨rfl, rfl⟩
          all_goals
            go_enter Tryz.func123, Tryz.ntmps123
            go_wp2_with (first
              | (go_at_call 153; refine hf.mono ?_; rintro e w' ⟨rfl, hb⟩; have hl2 := HL.out w' hb; simp only [Option.map_none, Option.getD_none] at hl2; have k52 := (hb.cell (p := ⟨β d, 5, none⟩) lb).trans k5; have c32 := (hb.cell (p := ⟨t, 3, none⟩) lt').trans c3)
              | (go_at_call 127; refine (hsf _).mono ?_; rintro e w3 ⟨rfl, rfl⟩)
              | (go_at_call 154; refine (HD.out _ hb).mono ?_; rintro e w4 ⟨rfl, rfl⟩))
            go_ret3
            exact ⟨⟨_, _, rfl⟩, hb⟩
        · rw [if_neg hdp10] at hq
          by_cases hm2 : 200 ≤ mn
          · rw [if_pos hm2] at hq
            subst hq
            rcases (show sl = false ∨ (sl = true ∧ dir = true) by cases sl <;> cases dir <;> simp_all) with rfl | ⟨rfl, rfl⟩
            all_goals
              go_enter Tryz.func123, Tryz.ntmps123
              go_wp2_with (first
                | (go_at_call 153; refine hf.mono ?_; rintro e w' ⟨rfl, hb⟩; have hl2 := HL.out w' hb; simp only [Option.map_none, Option.getD_none] at hl2; have k52 := (hb.cell (p := ⟨β d, 5, none⟩) lb).trans k5; have c32 := (hb.cell (p := ⟨t, 3, none⟩) lt').trans c3)
                | (go_at_call 127; refine (hsf _).mono ?_; rintro e w3 ⟨rfl, rfl⟩)
                | (go_at_call 154; refine (HD.out _ hb).mono ?_; rintro e w4 ⟨rfl, rfl⟩))
              go_ret3
              exact ⟨⟨_, _, rfl⟩, hb⟩
          · rw [if_neg hm2] at hq
            subst hq
            rcases (show sl = false ∨ (sl = true ∧ dir = true) by cases sl <;> cases dir <;> simp_all) with rfl | ⟨rfl, rfl⟩
            all_goals
              go_enter Tryz.func123, Tryz.ntmps123
              go_wp2_with (first
                | (go_at_call 153; refine hf.mono ?_; rintro e w' ⟨rfl, hb⟩; have hl2 := HL.out w' hb; simp only [Option.map_none, Option.getD_none] at hl2; have k52 := (hb.cell (p := ⟨β d, 5, none⟩) lb).trans k5; have c32 := (hb.cell (p := ⟨t, 3, none⟩) lt').trans c3)
                | (go_at_call 127; refine (hsf _).mono ?_; rintro e w3 ⟨rfl, rfl⟩)
                | (go_at_call 154; refine (HD.out _ hb).mono ?_; rintro e w4 ⟨rfl, rfl⟩))
              go_ret3
              exact ⟨by show _ = _; rw [HX.out]; rfl, hb⟩

end Go.Proofs.YtffffjngodinnaaGreatDoor
end

section
namespace Go.Proofs.YtffffjngodinnaaGreatDoor
open Go.RowKit Go.Maps

/-- names with one entry turned -/
def updN (nf : List UInt8 → Option Nat) (n : List UInt8) (v : Option Nat) : List UInt8 → Option Nat := fun m => if m = n then v else nf m
theorem namesF_upd (nf : List UInt8 → Option Nat) (n : List UInt8) (v : Option Nat) : namesF (updN nf n v) = upd (namesF nf) (.string n) (v.map ptrV) := by
  funext l
  cases l with
  | string s =>
    by_cases hs : s = n
    · subst hs
      rw [upd_same]
      show ((updN nf s v) s).map ptrV = _
      simp [updN]
    · rw [upd_other _ _ (fun e => hs (by injection e))]
      show ((updN nf n v) s).map ptrV = (nf s).map ptrV
      simp [updN, hs]
  | _ => exact (upd_other _ _ (fun e => by cases e)).symm
/-- the tree with one entry more -/
def TS.putE (S : TS) (bd : Nat) (yd : Item) (n : List UInt8) (bx : Nat) (yx : Item) : TS :=
  { (S.put bd { yd with nn := yd.nn + 1, nf := updN yd.nf n (some bx) }).put bx { yx with links := yx.links + 1, up := if yx.dir then bd else yx.up } with many := S.many + 1 }

theorem TS.put_put (S : TS) (b : Nat) (y y' : Item) (m : Int) : TS.put { S.put b y with next := S.next, many := m } b y' = { S.put b y' with many := m } := by
  unfold TS.put
  congr 1
  funext c
  by_cases hc : c = b <;> simp [hc]
theorem strLit (n : List UInt8) : WideAt.IsKeyLit (.string n) := trivial

set_option maxRecDepth 100000 in
set_option maxHeartbeats 2000000 in
theorem put_raw (w : World) (t : Nat) (S : TS) (h : TreeOf w t S) (bd bx : Nat) (yd yx : Item) (hd : S.items bd = some yd) (hdd : yd.dir = true) (hx : S.items bx = some yx) (hne : bd ≠ bx) (ns : ByteArray) (hs : ns.size ≤ 32) (hnn : yd.nn < 2305843009213693952) (hl : Calm yx.links) (hm : Calm S.many) :
    Calls Tryz.prog 124 #[.pointer (some ⟨t, 0, none⟩), .pointer (some ⟨bd, 0, none⟩), .string ns, .pointer (some ⟨bx, 0, none⟩)] w fun e w' => e = .returned (.tuple #[]) ∧ TreeOf w' t (S.putE bd yd ns.data.toList bx yx) ∧ TurnsP (S.foot t) w w' := by
  obtain ⟨d1, d2, d3⟩ := h.item bd yd hd
  obtain ⟨x1, x2, x3⟩ := h.item bx yx hx
  obtain ⟨m1, m2⟩ := d3 hdd
  have k5 : w.cell? ⟨bd, 5, none⟩ = some (.map (some yd.nb)) := by rw [d1.cell 5]; simp [itemCells, hdd]
  have wl := hl.wrap_up
  have wm := hm.wrap_up
  have htx : t ≠ bx := Blk.ne_ h.blk x1 (by decide)
  have hF : ∀ w1, MapOf w1 Tryz.prog 9 yd.nb (yd.nn + 1) (upd (namesF yd.nf) (.string ns.data.toList) (some (ptrV bx))) → w.grownBy w1 (some yd.nb) → TreeOf w1 t (S.put bd { yd with nn := yd.nn + 1, nf := updN yd.nf ns.data.toList (some bx) }) := by
    intro w1 hm1 hg1
    refine h.setNames hd hdd hg1 (yd.nn + 1) _ ?_
    rw [namesF_upd]
    exact hm1
  have HF := Lib.hid hF
  clear hF
  go_enter Tryz.func124, Tryz.ntmps124
  cases hxd : yx.dir with
  | true =>
    go_wp2_with (at_mapUpdate; refine wpList_store_of _ rfl _ _ _ 177 rfl 9 166 stringKeys Tryz.underlying177 yd.nb yd.nn (namesF yd.nf) rfl m1 (by unfold maxLen; omega) _ _ (.string ns.data.toList) rfl rfl (keyOf_str ns (by unfold maxLen; omega)) (strLit _) ?_; intro w1 hm1 hg1; have hT1 := HF.out w1 hm1 hg1; have b1 := (hT1.item bx yx (by rw [TS.put_other _ _ (Ne.symm hne)]; exact hx)).1; have q3 : w1.cell? ⟨bx, 3, none⟩ = some (.bool true) := (by rw [b1.cell 3, ← hxd]; rfl); have q7 : w1.cell? ⟨bx, 7, none⟩ = some (.int .i64 yx.links) := b1.cell 7; have f7 := b1.frozen 7; have q6 : w1.cell? ⟨bx, 6, none⟩ = some (.pointer (some ⟨yx.up, 0, none⟩)) := (by rw [b1.cell 6]; simp [itemCells, hxd]); have f6 := b1.frozen 6; have r3 : w1.cell? ⟨t, 3, none⟩ = some (.int .i64 S.many) := hT1.blk.cell 3; have g3 := hT1.blk.frozen 3; have lx := b1.lt; have lt1 := hT1.blk.lt)
    go_returns
    have hT1 := HF.out w1 hm1 hg1
    have hx1 : (S.put bd { yd with nn := yd.nn + 1, nf := updN yd.nf ns.data.toList (some bx) }).items bx = some yx := by rw [TS.put_other _ _ (Ne.symm hne)]; exact hx
    have hT2 := hT1.setItem (y' := { yx with links := yx.links + 1 }) hx1 (grown_setCell w1 ⟨bx, 7, none⟩ (.int .i64 (yx.links + 1))) (b1.set_ 7 _) rfl rfl rfl rfl rfl rfl
    have hT3 := hT2.setTree (grown_setCell _ ⟨t, 3, none⟩ (.int .i64 (S.many + 1))) S.next (S.many + 1) (hT2.blk.set_ 3 _)
    have fnb : S.foot t yd.nb := .inr (.inr ⟨bd, yd, hd, .inr (.inl ⟨hdd, rfl⟩)⟩)
    have fbx : S.foot t bx := .inr (.inr ⟨bx, yx, hx, .inl rfl⟩)
    have hP := (((TurnsP.refl (S.foot t) w).grown hg1 (fun k e _ => by cases e; exact fnb)).setCell ⟨bx, 7, none⟩ (.int .i64 (yx.links + 1)) (fun _ => fbx)).setCell ⟨t, 3, none⟩ (.int .i64 (S.many + 1)) (fun _ => .inl rfl)
    have bx3 := (hT3.item bx { yx with links := yx.links + 1 } (TS.put_same _ _ _)).1
    have hT4 := hT3.setItem (y' := { yx with links := yx.links + 1, up := bd }) (TS.put_same _ _ _) (grown_setCell _ ⟨bx, 6, none⟩ (.pointer (some ⟨bd, 0, none⟩))) (by have := bx3.set_ 6 (.pointer (some ⟨bd, 0, none⟩)); simpa [itemCells, hxd] using this) rfl rfl rfl rfl rfl rfl
    refine ⟨rfl, ?_, hP.setCell _ _ (fun _ => fbx)⟩
    have e : S.putE bd yd ns.data.toList bx yx = TS.put { (S.put bd { yd with nn := yd.nn + 1, nf := updN yd.nf ns.data.toList (some bx) }).put bx { yx with links := yx.links + 1 } with next := S.next, many := S.many + 1 } bx { yx with links := yx.links + 1, up := bd } := by
      unfold TS.putE
      rw [if_pos hxd]
      exact (TS.put_put _ _ _ _ _).symm
    rw [e]
    exact hT4
  | false =>
    go_wp2_with (at_mapUpdate; refine wpList_store_of _ rfl _ _ _ 177 rfl 9 166 stringKeys Tryz.underlying177 yd.nb yd.nn (namesF yd.nf) rfl m1 (by unfold maxLen; omega) _ _ (.string ns.data.toList) rfl rfl (keyOf_str ns (by unfold maxLen; omega)) (strLit _) ?_; intro w1 hm1 hg1; have hT1 := HF.out w1 hm1 hg1; have b1 := (hT1.item bx yx (by rw [TS.put_other _ _ (Ne.symm hne)]; exact hx)).1; have q3 : w1.cell? ⟨bx, 3, none⟩ = some (.bool false) := (by rw [b1.cell 3, ← hxd]; rfl); have q7 : w1.cell? ⟨bx, 7, none⟩ = some (.int .i64 yx.links) := b1.cell 7; have f7 := b1.frozen 7; have r3 : w1.cell? ⟨t, 3, none⟩ = some (.int .i64 S.many) := hT1.blk.cell 3; have g3 := hT1.blk.frozen 3; have lx := b1.lt; have lt1 := hT1.blk.lt)
    go_returns
    have hT1 := HF.out w1 hm1 hg1
    have hx1 : (S.put bd { yd with nn := yd.nn + 1, nf := updN yd.nf ns.data.toList (some bx) }).items bx = some yx := by rw [TS.put_other _ _ (Ne.symm hne)]; exact hx
    have hT2 := hT1.setItem (y' := { yx with links := yx.links + 1 }) hx1 (grown_setCell w1 ⟨bx, 7, none⟩ (.int .i64 (yx.links + 1))) (b1.set_ 7 _) rfl rfl rfl rfl rfl rfl
    have hT3 := hT2.setTree (grown_setCell _ ⟨t, 3, none⟩ (.int .i64 (S.many + 1))) S.next (S.many + 1) (hT2.blk.set_ 3 _)
    have fnb : S.foot t yd.nb := .inr (.inr ⟨bd, yd, hd, .inr (.inl ⟨hdd, rfl⟩)⟩)
    have fbx : S.foot t bx := .inr (.inr ⟨bx, yx, hx, .inl rfl⟩)
    have hP := (((TurnsP.refl (S.foot t) w).grown hg1 (fun k e _ => by cases e; exact fnb)).setCell ⟨bx, 7, none⟩ (.int .i64 (yx.links + 1)) (fun _ => fbx)).setCell ⟨t, 3, none⟩ (.int .i64 (S.many + 1)) (fun _ => .inl rfl)
    refine ⟨rfl, ?_, hP⟩
    have e : S.putE bd yd ns.data.toList bx yx = { (S.put bd { yd with nn := yd.nn + 1, nf := updN yd.nf ns.data.toList (some bx) }).put bx { yx with links := yx.links + 1 } with next := S.next, many := S.many + 1 } := by
      unfold TS.putE
      rw [if_neg (by rw [hxd]; decide)]
      rfl
    rw [e]
    exact hT3

end Go.Proofs.YtffffjngodinnaaGreatDoor
end

section
namespace Go.Proofs.YtffffjngodinnaaGreatDoor
open Go.RowKit Go.Maps

def updF (f : Nat → Option Nat) (n : Nat) (v : Option Nat) : Nat → Option Nat := fun m => if m = n then v else f m
def updB (β : Nat → Nat) (n b : Nat) : Nat → Nat := fun m => if m = n then b else β m

theorem rep_made {S S4 : TS} {T : Abs.T} {β : Nat → Nat} (h : Rep S T β) (hwf : T.WF) {b : Nat} (hb : ∀ i x, T.get i = some x → β i ≠ b) {d : Nat} {n : Abs.Name} {y x : Abs.Ent} (hy : T.get d = some y) (hyd : y.dir = true) (hlk : Abs.lk y.names n = none)
    (hxn : x.names = []) (hxh : x.held = 0) (hxd : x.data = []) (hxu : x.dir = true → x.up = d) {yd yx : Item} {m : Nat} (hdi : S.items (β d) = some yd)
    (e0 : yx.ino = T.next) (e1 : yx.mode = x.mode) (e2 : yx.tick = x.tick) (e3 : yx.dir = x.dir) (e4 : yx.data = []) (e5 : yx.links = 0) (e6 : yx.held = 0) (e7 : ∀ n, yx.nf n = none)
    (r0 : S4.root = S.root) (r1 : S4.next = S.next + 1) (r2 : S4.many = S.many + 1)
    (r3 : ∀ c, S4.items c = if c = b then some { yx with links := yx.links + 1, up := if yx.dir then β d else yx.up } else if c = β d then some { yd with nn := m, nf := updN yd.nf n (some b) } else S.items c)
    (r4 : ∀ i, S4.files i = if x.dir then S.files i else updF S.files T.next (some b) i) : Rep S4 (T.made d n x) (updB β T.next b) := by
  have hg := fun i => hwf.made_get (n := n) (x := x) (i := i) hy
  have hlinks := fun i => hwf.made_links (n := n) (x := x) (i := i) hy hxn
  have hold : ∀ {i z}, T.get i = some z → i ≠ T.next := fun {i z} hz => by have := (hwf.lt i z hz).2; omega
  have hβ : ∀ {i z}, T.get i = some z → updB β T.next b i = β i := fun {i z} hz => if_neg (hold hz)
  have hβn : updB β T.next b T.next = b := if_pos rfl
  have hback : ∀ {i z'}, (T.made d n x).get i = some z' → (i = T.next ∧ z' = x) ∨ (i = d ∧ z' = { y with names := Abs.ins n T.next y.names }) ∨ (i ≠ d ∧ T.get i = some z') := by
    intro i z' hz
    rw [hg] at hz
    by_cases e1 : i = T.next
    · rw [if_pos e1] at hz; cases hz; exact .inl ⟨e1, rfl⟩
    · rw [if_neg e1] at hz
      by_cases e2 : i = d
      · rw [if_pos e2] at hz; cases hz; exact .inr (.inl ⟨e2, rfl⟩)
      · rw [if_neg e2] at hz; exact .inr (.inr ⟨e2, hz⟩)
  obtain ⟨xr, hxr, _⟩ := hwf.root
  refine ⟨?_, ?_, ?_, ?_, ?_, ?_⟩
  · rw [r0, hβ hxr]; exact h.root
  · rw [r1, h.next]; rfl
  · rw [r2, h.many, hwf.made_many hy hxn]; omega
  · intro i j zi zj hi hj he
    have hlive : ∀ {k z}, (T.made d n x).get k = some z → k ≠ T.next → ∃ z, T.get k = some z := by
      intro k z hk hne
      rcases hback hk with ⟨e, _⟩ | ⟨rfl, _⟩ | ⟨_, hk⟩
      · exact absurd e hne
      · exact ⟨y, hy⟩
      · exact ⟨z, hk⟩
    by_cases hi1 : i = T.next
    · by_cases hj1 : j = T.next
      · rw [hi1, hj1]
      · obtain ⟨z, hz⟩ := hlive hj hj1
        rw [hi1, hβn, hβ hz] at he
        exact absurd he.symm (hb _ _ hz)
    · obtain ⟨z, hz⟩ := hlive hi hi1
      by_cases hj1 : j = T.next
      · rw [hj1, hβn, hβ hz] at he
        exact absurd he (hb _ _ hz)
      · obtain ⟨z2, hz2⟩ := hlive hj hj1
        rw [hβ hz, hβ hz2] at he
        exact h.inj _ _ _ _ hz hz2 he
  · intro i z' hz
    rcases hback hz with ⟨rfl, rfl⟩ | ⟨rfl, rfl⟩ | ⟨hid, hz⟩
    · rw [hβn, r3, if_pos rfl, hlinks, if_pos rfl, hwf.links_none hwf.next_none]
      refine ⟨_, rfl, e0, e1, e2, e3, by rw [hxd]; exact e4, fun hd => ⟨fun n => ?_, ?_⟩, ?_, ?_⟩
      · show yx.nf n = _
        rw [e7, hxn]; rfl
      · show (if yx.dir = true then β d else yx.up) = _
        rw [e3, if_pos hd, hxu hd, hβ hy]
      · show yx.links + 1 = _
        rw [e5]; rfl
      · show yx.held = _
        rw [e6, hxh]; rfl
    · obtain ⟨w0, hw0, h1, h2, h3, h4, h5, h6, h7, h8⟩ := h.item _ _ hy
      rw [hdi] at hw0
      cases hw0
      rw [hβ hy, r3, if_neg (hb _ _ hy), if_pos rfl, hlinks, if_neg (hold hy)]
      refine ⟨_, rfl, h1, h2, h3, h4, h5, fun hd => ⟨fun k => ?_, ?_⟩, h7, h8⟩
      · show updN yd.nf n (some b) k = _
        simp only
        rw [Abs.lk_ins hlk]
        unfold updN
        by_cases hk : k = n
        · rw [if_pos hk, if_pos hk, Option.map_some, hβn]
        · rw [if_neg hk, if_neg hk, (h6 hyd).1 k]
          cases hl : Abs.lk y.names k with
          | none => rfl
          | some j =>
            obtain ⟨_, zj, hzj⟩ := hwf.live _ _ _ _ hy hl
            rw [Option.map_some, Option.map_some, hβ hzj]
      · show yd.up = updB β T.next b y.up
        obtain ⟨zu, hzu, _⟩ := hwf.up _ _ hy hyd
        rw [hβ hzu]
        exact (h6 hyd).2
    · obtain ⟨w0, hw0, h1, h2, h3, h4, h5, h6, h7, h8⟩ := h.item _ _ hz
      rw [hβ hz, r3, if_neg (hb _ _ hz), if_neg (fun e => hid (h.inj _ _ _ _ hz hy e)), hlinks, if_neg (hold hz)]
      refine ⟨w0, hw0, h1, h2, h3, h4, h5, fun hd => ⟨fun k => ?_, ?_⟩, h7, h8⟩
      · rw [(h6 hd).1 k]
        cases hl : Abs.lk z'.names k with
        | none => rfl
        | some j =>
          obtain ⟨_, zj, hzj⟩ := hwf.live _ _ _ _ hz hl
          rw [Option.map_some, Option.map_some, hβ hzj]
      · obtain ⟨zu, hzu, _⟩ := hwf.up _ _ hz hd
        rw [hβ hzu]
        exact (h6 hd).2
  · intro i
    rw [r4, hg]
    by_cases e1 : i = T.next
    · subst e1
      rw [if_pos rfl, hβn]
      simp only
      cases hd : x.dir with
      | true =>
        simp only [if_true]
        rw [h.files, hwf.next_none]
      | false => simp [updF]
    · rw [if_neg e1]
      have hf : (if x.dir = true then S.files i else updF S.files T.next (some b) i) = S.files i := by
        split
        · rfl
        · exact if_neg e1
      rw [hf, h.files]
      by_cases e2 : i = d
      · subst e2
        rw [if_pos rfl, hy]
        simp [hyd]
      · rw [if_neg e2]
        cases hz : T.get i with
        | none => rfl
        | some z => simp only; rw [hβ hz]

end Go.Proofs.YtffffjngodinnaaGreatDoor
end
