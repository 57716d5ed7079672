/-
  A walk over same: two lists of the same pieces; the first one is written full.
-/
import Derived.Test.YtnagiphjlfiifaaDoorTextRefFields
import Derived.Deep.RegionWith
import Derived.Deep.DrawnRows
import Derived.BigRegion
namespace Go.Proofs.YtnagiphjlfiifaaDoor
open Go.RowKit
attribute [local go_sem ↓] Go.wp_at_zero Go.wp_at_succ

/-- the same rows, whatever they say now -/
def Filled (W : World) (base : Nat) (v : Value) (vs : List Value) (ns : List Nat) : Prop :=
  W.ownsRow base 25 1 v ns.length vs ∧ ∀ (i n : Nat), ns[i]? = some n → ∃ vi l, vs[i]? = some vi ∧ l.length = n ∧ W.ownsRow base 5 1 vi n (bytesC l)

theorem bytesC_set (l : List UInt8) (j : Nat) (c : UInt8) : bytesC (l.set j c) = (bytesC l).set j (.int .u8 c.toNat) := by simp [bytesC, List.map_set]

theorem grownBy_setCell_at (W : World) (g j : Nat) (v : Value) : W.grownBy (W.setCell ⟨g, j, none⟩ v) (some g) :=
  ⟨rfl, rfl, rfl, by simp [World.setCell], fun k _ hne => Below.heap_setCell _ _ _ _ (fun e => hne (congrArg some e))⟩
theorem Filled.at_ {W : World} {base : Nat} {ga k ca : Nat} {vs : List Value} {ns : List Nat} {q m : Nat} {Ai : Option Addr} {ai : Nat} (h : Filled W base (.slice (some ⟨ga, 0, none⟩) k ca) vs ns) (hq : ns[q]? = some m) (hv : vs[q]? = some (.slice Ai m ai)) (hm : 0 < m) :
    ∃ (gi : Nat) (cur : Array Value) (l : List UInt8), Ai = some ⟨gi, 0, none⟩ ∧ base ≤ gi ∧ W.heap[gi]? = some (.cells cur 5 (0, 0)) ∧ l.length = m ∧ (∀ (r : Nat) (c : UInt8), l[r]? = some c → W.cell? ⟨gi, r, none⟩ = some (.int .u8 c.toNat)) ∧ W.cell? ⟨ga, q, none⟩ = some (.slice Ai m ai) := by
  obtain ⟨vi, l, h1, h2, h3⟩ := h.2 q m hq
  rw [hv] at h1
  cases h1
  have hlt : q < ns.length := (List.getElem?_eq_some_iff.1 hq).1
  obtain ⟨g2, c2, e2, hb2, hl2, hc2⟩ := own_form h.1 (by omega)
  simp only [Value.slice.injEq, Option.some.injEq, Addr.mk.injEq, and_true] at e2
  obtain ⟨rfl, _, rfl⟩ := e2
  rcases h3.2 with ⟨hn, h0⟩ | ⟨gi, cap, cur, hv', hb', hh', hn, hc, hs, ht⟩
  · omega
  · simp only [Value.slice.injEq] at hv'
    obtain ⟨rfl, _, rfl⟩ := hv'
    refine ⟨gi, cur, l, rfl, hb', hh', h2, fun r c hr => ?_, hc2 q _ hv⟩
    have hrm : r < m := by rw [← h2]; exact (List.getElem?_eq_some_iff.1 hr).1
    rw [(show Blk W gi 5 cur from hh').cell r, ← Array.getElem?_toList]
    have h4 : (bytesC l)[r]? = some (.int .u8 c.toNat) := by simp [bytesC, hr]
    rw [← ht, List.getElem?_take, if_pos (by omega)] at h4
    exact h4

theorem Filled.store {W : World} {base : Nat} {v : Value} {vs : List Value} {ns : List Nat} {g j : Nat} {cur : Array Value} (c : UInt8) (h : Filled W base v vs ns) (hg : W.heap[g]? = some (.cells cur 5 (0, 0))) :
    Filled (W.setCell ⟨g, j, none⟩ (.int .u8 c.toNat)) base v vs ns := by
  have hset := grownBy_setCell_at W g j (.int .u8 c.toNat)
  refine ⟨?_, fun i n hi => ?_⟩
  · refine h.1.kept hset ?_
    rcases h.1.2 with ⟨rfl, _⟩ | ⟨g', cap', cur', rfl, _, hh', _⟩
    · exact .inl rfl
    · refine .inr fun he => ?_
      have he' : g' = g := by simpa [Value.ownBlock] using he
      subst he'
      rw [hg] at hh'
      injection hh' with hh'
      injection hh' with _ ht
      revert ht
      decide
  · obtain ⟨vi, l, h1, h2, h3⟩ := h.2 i n hi
    rcases h3.2 with ⟨rfl, hn0⟩ | ⟨g', cap', cur', rfl, hb', hh', hn, hc, hs, ht⟩
    · exact ⟨_, l, h1, h2, h3.1, .inl ⟨rfl, hn0⟩⟩
    · by_cases hgg : g' = g
      · subst hgg
        refine ⟨_, l.set j c, h1, by simpa using h2, by rw [bytesC_set]; simpa using h3.1, .inr ⟨g', cap', cur'.setIfInBounds j (.int .u8 c.toNat), rfl, hb', ?_, hn, hc, by simpa using hs, ?_⟩⟩
        · exact Blk.set_ (show Blk W g' 5 cur' from hh') j _
        · rw [bytesC_set, ← ht]
          simp [List.take_set]
      · refine ⟨_, l, h1, h2, h3.1, .inr ⟨g', cap', cur', rfl, hb', ?_, hn, hc, hs, ht⟩⟩
        exact Blk.far (show Blk W g' 5 cur' from hh') hgg _
theorem Filled.drew {W : World} {base : Nat} {v : Value} {vs : List Value} {ns : List Nat} (h : Filled W base v vs ns) : Filled W.drew base v vs ns := h

set_option maxRecDepth 100000 in
set_option maxHeartbeats 4000000 in
theorem same_any (base base' : Nat) (ls : List (List UInt8)) (va vb : Value) (w : World) (ha : RowsOf w base va ls) (hb : RowsRead w base' w vb ls) (hll : ls.length ≤ 2097153) (hle : ∀ l ∈ ls, l.length ≤ 2097153) :
    Calls Tryd.prog 19 #[va, vb] w fun e W' => e = .returned (.bool true) ∧ Below base w W' := by
  obtain ⟨vsa, howna, hrowa⟩ := ha
  obtain ⟨vsb, hownb, hrowb⟩ := hb
  obtain ⟨Aa, ca, rfl, hca, hRa⟩ := own_slice howna
  obtain ⟨Ab, cb, rfl, hcb, hRb⟩ := own_slice hownb
  have HOA := Lib.hid howna
  have HOB := Lib.hid hownb
  have HRA := Lib.hid hrowa
  have HRB := Lib.hid hrowb
  have HLE := Lib.hid hle
  clear howna hownb hrowa hrowb hRa hRb hle
  obtain ⟨n, hn⟩ : ∃ n, ls.length = n := ⟨_, rfl⟩
  rw [hn] at hca hcb hll ⊢
  have HN := Lib.hid hn
  clear hn
  go_enter Tryd.func19, Tryd.ntmps19
  go_wp2
  go_loopw [5, 6] (fun ok i wr => ∃ k d : Nat, k ≤ n ∧ ok = .bool true ∧ i = .int .i64 k ∧ wr = w.drewN d) (fun _ i _ => n - (intOf i).toNat)
  case atStart => exact ⟨0, 0, Nat.zero_le _, rfl, rfl, rfl⟩
  case round =>
    obtain ⟨k, d, hk, rfl, rfl, rfl⟩ := hrel
    by_cases hlt : k < n
    · obtain ⟨l, hl⟩ : ∃ l, ls[k]? = some l := ⟨_, List.getElem?_eq_getElem (by rw [HN.out]; exact hlt)⟩
      obtain ⟨ga, cga, hgva, hgba, hgla, hgca⟩ := own_form HOA.out (show 0 < ls.length by rw [HN.out]; omega)
      obtain ⟨gb, cgb, hgvb, hgbb, hglb, hgcb⟩ := own_form HOB.out (show 0 < ls.length by rw [HN.out]; omega)
      obtain ⟨via, hvia, howni⟩ := HRA.out k l hl
      obtain ⟨Bi, bi, hvib, hRib⟩ := HRB.out k l hl
      obtain ⟨Ai, ai, rfl, hai, hRia⟩ := own_slice howni
      rw [HN.out] at hgva hgvb
      simp only [Value.slice.injEq] at hgva hgvb
      obtain ⟨rfl, _, rfl⟩ := hgva
      obtain ⟨rfl, _, rfl⟩ := hgvb
      have k1 : w.cell? ⟨ga, k, none⟩ = some (.slice Ai l.length ai) := hgca k _ hvia
      have k2 : w.cell? ⟨gb, k, none⟩ = some (.slice Bi l.length bi) := hgcb k _ hvib
      have s1 : ∀ d, (convert 25 9 (.slice Ai l.length ai)).run Tryd.prog (w.drewN d) = .ok (.string ⟨l.toArray⟩) (w.drewN d) := fun d => convert_string (P := Tryd.prog) Tryd.underlying25 Tryd.underlying5 Tryd.underlying9 (hRia.drewN d)
      have s2 : ∀ d, (convert 25 9 (.slice Bi l.length bi)).run Tryd.prog (w.drewN d) = .ok (.string ⟨l.toArray⟩) (w.drewN d) := fun d => convert_string (P := Tryd.prog) Tryd.underlying25 Tryd.underlying5 Tryd.underlying9 (hRib.drewN d)
      have b0 : (0 : Int) ≤ (k : Int) := by omega
      have b1 : (k : Int) < (n : Int) := by omega
      clear hgca hgcb hvia hvib howni hRia hRib hl
      go_wp2
      have t1 : (convert 25 9 (.slice Ai l.length ai)).run Tryd.prog (w.drewN d).drew = .ok (.string ⟨l.toArray⟩) (w.drewN d).drew := s1 (d + 1)
      have t2 : (convert 25 9 (.slice Bi l.length bi)).run Tryd.prog (w.drewN d).drew = .ok (.string ⟨l.toArray⟩) (w.drewN d).drew := s2 (d + 1)
      go_region_with fail
      all_goals
        go_wp2
        go_roundw
        case rel => exact ⟨k + 1, d + 1, by omega, rfl, by go_num, rfl⟩
        case measure => simp [intOf]; omega
    · obtain rfl : k = n := by omega
      have HF : Hid (Filled (w.drewN d) base (.slice Aa k ca) vsa (ls.map (·.length))) := Lib.hid ⟨by
        have h1 := HOA.out
        rw [HN.out] at h1
        rw [List.length_map, HN.out]
        exact h1, fun i m hi => by
        simp only [List.getElem?_map, Option.map_eq_some_iff] at hi
        obtain ⟨l, hl, rfl⟩ := hi
        obtain ⟨vi, h1, h2⟩ := HRA.out i l hl
        exact ⟨vi, l, h1, rfl, h2⟩⟩
      have hBd : Below base w (w.drewN d) := below_drewN (Below.refl _ _) d
      obtain ⟨W0, hW0⟩ : ∃ W0, w.drewN d = W0 := ⟨_, rfl⟩
      rw [hW0] at HF hBd ⊢
      clear hW0 hlt hk
      go_wp2
      go_loopw [7, 8] (fun i _ wr => ∃ q : Nat, q ≤ k ∧ i = .int .i64 q ∧ Hid (Filled wr base (.slice Aa k ca) vsa (ls.map (·.length))) ∧ Below base w wr) (fun i _ _ => k - (intOf i).toNat)
      case atStart => exact ⟨0, Nat.zero_le _, rfl, HF, hBd⟩
      case round =>
        obtain ⟨q, hq, rfl, hfl, hbw⟩ := hrel
        by_cases hqk : q < k
        · obtain ⟨l, hl⟩ : ∃ l, ls[q]? = some l := ⟨_, List.getElem?_eq_getElem (by rw [HN.out]; exact hqk)⟩
          have hlm : l.length ≤ 2097153 := HLE.out l (List.mem_of_getElem? hl)
          obtain ⟨m, hm⟩ : ∃ m, l.length = m := ⟨_, rfl⟩
          have hms : (ls.map (·.length))[q]? = some m := by rw [List.getElem?_map, hl, ← hm]; rfl
          rw [hm] at hlm
          have HMS := Lib.hid hms
          obtain ⟨vi, lx, hvi, _, howni⟩ := hfl.out.2 q m hms
          obtain ⟨ga, cga, hgva, hgba, hgla, hgca⟩ := own_form hfl.out.1 (show 0 < (ls.map (·.length)).length by rw [List.length_map, HN.out]; omega)
          obtain ⟨Ai, ai, rfl, hai, _⟩ := own_slice howni
          rw [List.length_map, HN.out] at hgva
          simp only [Value.slice.injEq] at hgva
          obtain ⟨rfl, _, rfl⟩ := hgva
          have k1 : wr.cell? ⟨ga, q, none⟩ = some (.slice Ai m ai) := hgca q _ hvi
          have HVI := Lib.hid hvi
          clear hgca hms howni hl hm hvi hgla
          go_wp2
          obtain ⟨wo, rfl⟩ : ∃ wo : World, wo = wr := ⟨_, rfl⟩
          go_loopw [8] (fun j wq => ∃ r : Nat, r ≤ m ∧ j = .int .i64 r ∧ Hid (Filled wq base (.slice (some ⟨ga, 0, none⟩) k ca) vsa (ls.map (·.length))) ∧ Hid (wq.cell? ⟨ga, q, none⟩ = some (.slice Ai m ai)) ∧ Below base w wq) (fun j _ => m - (intOf j).toNat)
          case atStart => exact ⟨0, Nat.zero_le _, rfl, hfl, Lib.hid k1, hbw⟩
          case round =>
            obtain ⟨r, hr, rfl, hfr, hkr, hbr⟩ := hrel
            clear k1 hfl hbw
            have k1 := hkr.out
            by_cases hrm : r < m
            · obtain ⟨gi, cur, l2, rfl, hgib, hgih, hl2, hgic, _⟩ := Filled.at_ hfr.out HMS.out HVI.out (by omega)
              obtain ⟨c, hc⟩ : ∃ c, l2[r]? = some c := ⟨_, List.getElem?_eq_getElem (by omega)⟩
              have k2 := hgic r c hc
              have k3 : ∀ i, wr.frozen? ⟨gi, i, none⟩ = false := fun i => (show Blk wr gi 5 cur from hgih).frozen i
              have k4 := k3 r
              have HG := Lib.hid hgih
              have b0 : (0 : Int) ≤ (r : Int) := by omega
              have b1 : (r : Int) < (m : Int) := by omega
              have b2 : (0 : Int) ≤ (q : Int) := by omega
              have b3 : (q : Int) < (k : Int) := by omega
              clear hgih hgic hc k3
              go_wp2
              go_region
              go_wp2
              go_roundw
              case rel =>
                have hval : ((c.toNat : Int) + 1) % 256 = ((UInt8.ofNat ((c.toNat + 1) % 256)).toNat : Int) := by
                  rw [UInt8.toNat_ofNat']
                  omega
                have hnew : Filled (wr.setCell ⟨gi, r, none⟩ (.int .u8 (((c.toNat : Int) + 1) % 256))).drew base (.slice (some ⟨ga, 0, none⟩) k ca) vsa (ls.map (·.length)) := by
                  rw [hval]
                  exact (Filled.store (UInt8.ofNat ((c.toNat + 1) % 256)) hfr.out HG.out).drew
                obtain ⟨_, _, _, _, _, _, _, _, hkn⟩ := Filled.at_ hnew HMS.out HVI.out (by omega)
                exact ⟨r + 1, by omega, by go_num, Lib.hid hnew, Lib.hid hkn, below_drewN (hbr.setCell (p := ⟨gi, r, none⟩) hgib _) 1⟩
              case measure => simp [intOf]; omega
            · go_wp2
              go_roundw
              case rel => exact ⟨q + 1, by omega, by go_num, hfr, hbr⟩
              case measure => simp [intOf]; omega
        · go_wp2
          go_returns
          exact ⟨rfl, hbw⟩

end Go.Proofs.YtnagiphjlfiifaaDoor
