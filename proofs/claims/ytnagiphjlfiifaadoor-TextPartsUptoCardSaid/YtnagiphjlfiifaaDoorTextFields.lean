/-
  A walk over text.Fields: the pieces that hold something, each in memory of its own.
-/
import Derived.Test.YtnagiphjlfiifaaDoorTextLines
namespace Go.Proofs.YtnagiphjlfiifaaDoor
open Go.RowKit
attribute [local go_sem] Oper.semAt_some
attribute [local go_sem ↓ high] appendHere_eq

namespace Pl
/-- the pieces that hold something -/
def full (ls : List (List UInt8)) : List (List UInt8) := ls.filter fun l => decide (0 < l.length)
theorem full_length (ls : List (List UInt8)) : (full ls).length ≤ ls.length := List.length_filter_le _ _
theorem full_snoc (ls : List (List UInt8)) {x : List UInt8} (h : 0 < x.length) : full ls ++ [x] = full (ls ++ [x]) := by simp [full, h]
theorem full_same (ls : List (List UInt8)) {x : List UInt8} (h : ¬ 0 < x.length) : full ls = full (ls ++ [x]) := by simp [full, h]
end Pl

set_option maxRecDepth 100000 in
set_option maxHeartbeats 2000000 in
theorem fields_in (p : UInt8 → Bool) (m : Nat) (hm : m ≤ 2097152) (A : Option Addr) (cap : Nat) (bs : List UInt8) (w : World) (hbs : bs.length ≤ m) (hcap : bs.length ≤ cap) (hr : Reads w w.heap.size 1 A bs.length (bytesC bs))
    (hF : Finds p (w.heap.size + 1 + 1) (.func (.func 29) #[] #[]) m w.heap.size w) :
    CallsIn Fence.wide 5 Tryd.prog 21 #[.slice A bs.length cap] w fun e W' => ∃ v, e = .returned v ∧ RowsOf W' w.heap.size v (Pl.full (Pl.pieces p bs)) ∧ Below w.heap.size w W' := by
  have hw26 : Fence.wide.fn 26 := trivial
  have hw28 : Fence.wide.fn 28 := trivial
  refine callsIn_of_wp_marks Tryd.func21 rfl trivial ?_ rfl
  simp only [Tryd.ntmps21, List.size_toArray, List.length_cons, List.length_nil, Nat.reduceAdd, Nat.reduceSub, Array.replicate_succ, Array.replicate_zero, List.push_toArray, List.append_toArray, List.nil_append, List.cons_append]
  gi_wp2_with (gi_at_call 26; refine (parts_in _ _ _ _ _ _).mono ?_; rintro e w' ⟨rfl, rfl⟩)
  have b0 := ((Boxed.new w 32 (.slice none 0 0)).alloc (.cells #[.slice A bs.length cap] 25)).alloc (.cells #[.func (.func 29) #[] #[]] 43)
  have b1 := (Boxed.new (w.alloc (.cells #[.slice none 0 0] 32)) 25 (.slice A bs.length cap)).alloc (.cells #[.func (.func 29) #[] #[]] 43)
  have b2 := Boxed.new ((w.alloc (.cells #[.slice none 0 0] 32)).alloc (.cells #[.slice A bs.length cap] 25)) 43 (.func (.func 29) #[] #[])
  simp only [World.size_alloc] at b1 b2
  have hB0 : Below w.heap.size w (((w.alloc (.cells #[.slice none 0 0] 32)).alloc (.cells #[.slice A bs.length cap] 25)).alloc (.cells #[.func (.func 29) #[] #[]] 43)) :=
    (((Below.refl _ w).alloc (Nat.le_refl _) _).alloc (by simp) _).alloc (by simp; omega) _
  have hsz : (((w.alloc (.cells #[.slice none 0 0] 32)).alloc (.cells #[.slice A bs.length cap] 25)).alloc (.cells #[.func (.func 29) #[] #[]] 43)).heap.size = w.heap.size + 1 + 1 + 1 := by simp
  obtain ⟨W0, hW0⟩ : ∃ W0, ((w.alloc (.cells #[.slice none 0 0] 32)).alloc (.cells #[.slice A bs.length cap] 25)).alloc (.cells #[.func (.func 29) #[] #[]] 43) = W0 := ⟨_, rfl⟩
  rw [hW0] at b0 b1 b2 hB0 hsz ⊢
  clear hW0
  refine wpIn_rangeFunc_each rfl (by omega) (gf := 33) (lb := #[.pointer (some ⟨w.heap.size + 1, 0, none⟩), .pointer (some ⟨w.heap.size + 1 + 1, 0, none⟩)]) rfl trivial (enters_of Tryd.func33 (by kernel_rfl) rfl)
    (parts1_turns p (w.heap.size + 1) (w.heap.size + 1 + 1) w.heap.size _ m hm w hF A cap bs W0 hbs hcap (by omega) (by omega) hB0 b1 b2 (hr.below hB0))
    KeepsIter.trans (KeepsIter.putObj (by omega) (by omega) (by omega)) (Below.refl _ _) (fun _ => rfl) (by rintro r rfl; omega)
    (fun pre W => (∃ v, Boxed W w.heap.size 32 v ∧ RowsOf W W0.heap.size v (Pl.full (pre.map (·.2))) ∧ pre.length ≤ m) ∧ Below w.heap.size W0 W)
    ?own ?start
    (fun x => { tmps := #[.slice A bs.length cap, undef, .slice none 0 0, .pointer (some ⟨w.heap.size, 0, none⟩), x.1, .slice A bs.length cap, .func (.func 33) #[] #[.pointer (some ⟨w.heap.size + 1, 0, none⟩), .pointer (some ⟨w.heap.size + 1 + 1, 0, none⟩)], x.1, undef, undef, undef, undef, undef, undef, undef, undef, undef], defers := [] })
    ?assign ?body ?done
  case own =>
    rintro s X Y row ⟨⟨v, hv, ⟨vs, hvs, hl⟩, hn⟩, hb⟩ hg hr
    have hr' : ∀ r, row = some r → (∃ o : Obj, X.heap[r]? = some o ∧ o.isCells = false) ∨ r < W0.heap.size := fun r e => by
      rcases hr r e with ⟨_, h⟩ | h
      · exact .inl h
      · exact .inr (by omega)
    refine ⟨⟨v, hv.kept hg (fun e => ?_), ⟨vs, own_by hvs hg hr', fun i l hi => ?_⟩, hn⟩, hb.grown hg (by have := hb.size; omega) (fun r e => ?_)⟩
    · rcases hr _ e.symm with ⟨h, _⟩ | h <;> omega
    · obtain ⟨vi, h1, h2⟩ := hl i l hi
      exact ⟨vi, h1, own_by h2 hg hr'⟩
    · rcases hr r e with ⟨h, _⟩ | h <;> omega
  case start => exact ⟨⟨_, b0, ⟨[], World.ownsRow_nil _ _ _ _, fun i l hi => by simp [Pl.full] at hi⟩, by simp⟩, Below.refl _ _⟩
  case assign =>
    intro lp x W K hK
    simp only [encPiece]
    gi_wp2
    exact hK
  case body =>
    rintro lp pre ⟨xv, xs⟩ W hlp ⟨⟨ad, capx, hx, hcx, hrx⟩, hxm, hpm⟩ ⟨⟨v, hv, ⟨vs, hvs, hls⟩, hn⟩, hb⟩
    simp only at hx hcx hrx hxm
    subst hx
    have hkl := Pl.full_length (pre.map (·.2))
    rw [List.length_map] at hkl
    have hmx : Tryd.prog.follows .mixedOrders = true := by kernel_rfl
    obtain ⟨iR, hiR, hR0, hR1, hR2⟩ := info_parts Tryd.infoBytes
    have HI := Lib.hid hiR
    have H0 := Lib.hid hR0
    have H1 := Lib.hid hR1
    have H2 := Lib.hid hR2
    clear hiR hR0 hR1 hR2
    have hbs0 := hb.size
    have hrd : Reads W.drew W.drew.heap.size 1 (some ad) xs.length (bytesC xs) := ((hrx.below hb).more (show w.heap.size ≤ W.heap.size by omega)).drew
    by_cases h0 : 0 < xs.length
    · have hcB := hv.cell
      have hfB := hv.frozen
      have hBl := hv.lt
      gi_wp2
      have hBz : w.heap.size < W.heap.size := hBl
      gi_region_with_o (gi_at_call 28; refine (CallsIn.inRound lp (callsIn_wide.2 (cloneB_any ad capx xs _ hrd (by omega)))).mono ?_; rintro e w1 ⟨vi, rfl, hown1, hb1⟩; obtain ⟨Ai, ci, rfl, _, _⟩ := own_slice hown1; obtain ⟨v', w2, hrun, hown2, hst⟩ := lines_append w.heap.size W0.heap.size W w1 v (Pl.full (pre.map (·.2))).length vs Ai xs.length ci (by omega) hv hvs hb1 (by omega); obtain ⟨g', cap', rfl⟩ := ownsRow_succ hown2; obtain ⟨hc1, hc1a, hc2, hf2, hfin⟩ := hst)
      all_goals gi_wp2
      all_goals (
        obtain ⟨hv2, hs2, hg2⟩ := hfin
        have hr := lines_round w.heap.size (w.heap.size + 1) (w.heap.size + 1 + 1) w.heap.size W0.heap.size W w1 w2 v (.slice (some ⟨g', 0, none⟩) ((Pl.full (pre.map (·.2))).length + 1) cap') (Pl.full (pre.map (·.2))) xs vs Ai ci (by omega) (by omega) (by omega) (by omega) (by omega) (by omega) (by omega) hv hvs hls hb1 hown1 hown2 hv2 hg2
        obtain ⟨r1, r2, r3, r4⟩ := hr
        exact ⟨r1, r2, ⟨_, r3, by rw [List.map_append]; exact (Pl.full_snoc (pre.map (·.2)) h0) ▸ r4, by rw [List.length_append, List.length_singleton]; omega⟩, hb.trans r2.1⟩)
    · gi_wp2
      exact ⟨KeepsFrom.refl _ _, ⟨Below.refl _ _, rfl, rfl⟩, ⟨v, hv, by rw [List.map_append]; exact (Pl.full_same (pre.map (·.2)) h0) ▸ ⟨vs, hvs, hls⟩, by rw [List.length_append, List.length_singleton]; omega⟩, hb⟩
  case done =>
    rintro D xs W hD hS ⟨⟨v, hv, hrows, _⟩, hb⟩ hK
    have hcB := hv.cell
    gi_wp2
    refine ⟨by simp, .inl ⟨_, _, rfl, run_takeDeferred hK, ?_⟩⟩
    exact ⟨_, results_tmp rfl _ _ _, v, rfl, by rw [← hS]; exact hrows.putObj (.deferred none) hK rfl (by omega), (hB0.trans hb).trans (belowK_b (w := w) (Nat.le_refl _) _ D _ _ (by omega) hK rfl rfl)⟩

end Go.Proofs.YtnagiphjlfiifaaDoor
