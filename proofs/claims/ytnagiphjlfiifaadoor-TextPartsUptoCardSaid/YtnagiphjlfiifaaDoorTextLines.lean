/-
  Walks over text.parts, text.Lines and text.Fields: the pieces, each in memory of its own.
-/
import Derived.Test.YtnagiphjlfiifaaDoorTextClone
import Derived.RangeFuncBox
import Derived.Stop.RegionWithIn
namespace Go.Proofs.YtnagiphjlfiifaaDoor
open Go.RowKit

theorem parts_in (n : Nat) (a : Option Addr) (len cap : Nat) (fv : Nat) (w : World) :
    CallsIn Fence.wide n Tryd.prog 26 #[.slice a len cap, .func (.func fv) #[] #[]] w fun e w' => e = .returned (.func (.func 33) #[] #[.pointer (some ⟨w.heap.size, 0, none⟩), .pointer (some ⟨w.heap.size + 1, 0, none⟩)]) ∧
      w' = (w.alloc (.cells #[.slice a len cap] 25)).alloc (.cells #[.func (.func fv) #[] #[]] 43) := by
  refine callsIn_of_wp Tryd.func26 rfl trivial ?_ rfl
  simp only [Tryd.ntmps26, List.size_toArray, List.length_cons, List.length_nil, Nat.reduceAdd, Nat.reduceSub, Array.replicate_succ, Array.replicate_zero, List.push_toArray, List.append_toArray, List.nil_append, List.cons_append]
  gi_wp2
  go_ret
  exact ⟨rfl, rfl⟩

/-- append, behind a name that the walk does not open: its equation is laid as a hypothesis -/
def appendHere (ats : Array TypeId) (ty : TypeId) (cs : Array Bool) (args : Array Value) : Sem Next := builtin .append ats ty cs args
theorem appendHere_eq (ats : Array TypeId) (ty : TypeId) (cs : Array Bool) (args : Array Value) : builtin .append ats ty cs args = appendHere ats ty cs args := rfl
theorem run_appendHere {P : Program} {ats : Array TypeId} {ty : TypeId} {cs : Array Bool} {args : Array Value} {v : Value} {w w' : World} (h : (Builtin.append_ ats ty args).run P w = .ok v w') : (appendHere ats ty cs args).run P w = .ok (.value v) w' := by
  simp [appendHere, builtin, h, Result.andThen]
attribute [local go_sem] Oper.semAt_some
attribute [local go_sem ↓ high] appendHere_eq

theorem own_slice {w : World} {base : Nat} {e : TypeId} {size n : Nat} {v : Value} {xs : List Value} (h : w.ownsRow base e size v n xs) :
    ∃ A cap, v = .slice A n cap ∧ n ≤ cap ∧ Reads w w.heap.size size A n xs := by
  rcases h.2 with ⟨rfl, rfl⟩ | ⟨g, cap, cur, rfl, _, _, hn, _⟩
  · exact ⟨none, 0, rfl, Nat.le_refl _, Reads.of_own h⟩
  · exact ⟨_, cap, rfl, hn, Reads.of_own h⟩

/-- what a slice owns it owns behind a turn of a block that is no cells or lies below -/
theorem own_by {w w' : World} {row : Option Nat} {base n size : Nat} {e : TypeId} {v : Value} {xs : List Value} (h : w.ownsRow base e size v n xs) (hg : w.grownBy w' row) (hr : ∀ r, row = some r → (∃ o : Obj, w.heap[r]? = some o ∧ o.isCells = false) ∨ r < base) : w'.ownsRow base e size v n xs := by
  refine h.kept hg ?_
  rcases h.2 with ⟨rfl, _⟩ | ⟨g, cap, cur, rfl, hb, hgb, _⟩
  · exact .inl rfl
  · refine .inr fun e' => ?_
    rcases hr g (by simpa [Value.ownBlock] using e'.symm) with ⟨o, ho, hc⟩ | hlt
    · rw [hgb] at ho; cases ho; cases hc
    · omega
theorem own_below {w w' : World} {base base' : Nat} {e : TypeId} {size n : Nat} {v : Value} {xs : List Value} (h : w.ownsRow base e size v n xs) (hb : Below w.heap.size w w') (hB : base' ≤ base) : w'.ownsRow base' e size v n xs := by
  refine ⟨h.1, h.2.imp id ?_⟩
  rintro ⟨g, cap, cur, rfl, h1, h2, h3⟩
  exact ⟨g, cap, cur, rfl, by omega, (hb.block g (Array.getElem?_eq_some_iff.1 h2).1).trans h2, h3⟩

theorem Tryd.infoBytes : (Tryd.prog.info? 25).map (fun i => (i.zero, i.size, i.bytes)) = some (some (.slice none 0 0), 1, 24) := by kernel_rfl
theorem row_new (w : World) (v : Value) : Reads (w.alloc (.cells #[v] 25)) (w.heap.size + 1) 1 (some ⟨w.heap.size, 0, none⟩) 1 [v] := by
  refine ⟨rfl, fun _ => ⟨_, rfl, by simp, fun j u hu => ?_⟩⟩
  have e : (⟨w.heap.size, 0, none⟩ : Addr).add j = ⟨w.heap.size, j, none⟩ := by unfold Addr.add; split <;> simp_all
  rw [e, (Blk.new w _ _).cell j]
  simpa using hu

/-- a list of pieces in memory of its own -/
def RowsOf (w : World) (base : Nat) (v : Value) (ls : List (List UInt8)) : Prop := ∃ vs : List Value, w.ownsRow base 25 1 v ls.length vs ∧ ∀ (i : Nat) (l : List UInt8), ls[i]? = some l → ∃ vi, vs[i]? = some vi ∧ w.ownsRow base 5 1 vi l.length (bytesC l)

/-- 'out = append(out, piece)': the append's own equation, and what the walk owes behind it -/
theorem lines_append (Bo B0 : Nat) (W w1 : World) (v : Value) (k : Nat) (vs : List Value) (Ai : Option Addr) (li ci : Nat) (hB0 : B0 ≤ W.heap.size) (hv : Boxed W Bo 32 v) (hvs : W.ownsRow B0 25 1 v k vs)
    (hb1 : Below W.drew.heap.size W.drew w1) (hk : k ≤ 2097152) :
    ∃ v' w2, (appendHere #[32, 32] 32 #[false, false] #[v, .slice (some ⟨w1.heap.size, 0, none⟩) 1 1]).run Tryd.prog (w1.alloc (.cells #[.slice Ai li ci] 25)) = .ok (.value v') w2 ∧
      w2.ownsRow B0 25 1 v' (k + 1) (vs ++ [.slice Ai li ci]) ∧ w1.cell? ⟨Bo, 0, none⟩ = some v ∧ (∀ o, (w1.alloc o).cell? ⟨Bo, 0, none⟩ = some v) ∧ w2.cell? ⟨Bo, 0, none⟩ = some v ∧ w2.frozen? ⟨Bo, 0, none⟩ = false ∧
      (Boxed w2 Bo 32 v ∧ w1.heap.size ≤ w2.heap.size ∧ (w1.alloc (.cells #[.slice Ai li ci] 25)).grownBy w2 v.ownBlock) := by
  obtain ⟨iR, hiR, hR0, hR1, hR2⟩ := info_parts Tryd.infoBytes
  have hs1 : W.heap.size ≤ w1.heap.size := hb1.size
  have hv1 : Boxed w1 Bo 32 v := (hb1.block Bo hv.lt).trans hv
  have hvs1 : w1.ownsRow B0 25 1 v k vs := own_below (w := W.drew) hvs.drew hb1 (Nat.le_refl _)
  obtain ⟨v', w2, hrun, hown, hg, _⟩ := run_append_any (P := Tryd.prog) (w1.alloc (.cells #[.slice Ai li ci] 25)) B0 32 32 25 iR (.slice none 0 0) 1 24 Tryd.underlying32 hiR hR0 hR1 hR2 rfl (by decide)
    v k vs (hvs1.alloc _) (w1.heap.size + 1) (some ⟨w1.heap.size, 0, none⟩) 1 1 [.slice Ai li ci] (row_new w1 _) (by simp [Value.oneCell']) (by simp only [maxLen]; omega) (by omega) (by simp; omega)
  have hv2 : Boxed w2 Bo 32 v := (hv1.alloc _).kept hg (hv1.not_row (by decide) hvs1)
  exact ⟨v', w2, run_appendHere hrun, hown, hv1.cell, fun o => (hv1.alloc o).cell, hv2.cell, hv2.frozen, hv2, by have := hg.size; simp at this; omega, hg⟩

theorem RowsOf.putObj {W : World} {base base' : Nat} {v : Value} {ls : List (List UInt8)} (h : RowsOf W base v ls) {l : Nat} {o : Obj} (o' : Obj) (hl : W.heap[l]? = some o) (ho : o.isCells = false) (hB : base' ≤ base) : RowsOf (W.putObj l o') base' v ls := by
  obtain ⟨vs, h1, h2⟩ := h
  have less : ∀ {e n u ys}, W.ownsRow base e 1 u n ys → W.ownsRow base' e 1 u n ys := fun h => own_below h (Below.refl _ _) hB
  refine ⟨vs, ownsRow_putObj (less h1) o' hl ho, fun i l' hi => ?_⟩
  obtain ⟨vi, h3, h4⟩ := h2 i l' hi
  exact ⟨vi, h3, ownsRow_putObj (less h4) o' hl ho⟩

/-- two rows of different element types never share a block -/
theorem grown_other {w w' : World} {base base' n n' size size' : Nat} {e e' : TypeId} {v v' : Value} {xs xs' : List Value} (h : w.ownsRow base e size v n xs) (h' : w.ownsRow base' e' size' v' n' xs') (hne : e ≠ e') (hg : w.grownBy w' v.ownBlock) : w'.ownsRow base' e' size' v' n' xs' := by
  refine h'.kept hg ?_
  rcases h'.2 with ⟨rfl, _⟩ | ⟨g', cap', cur', rfl, _, hh', _⟩
  · exact .inl rfl
  · refine .inr fun he => ?_
    rcases h.2 with ⟨rfl, _⟩ | ⟨g, cap, cur, rfl, _, hh, _⟩
    · simp [Value.ownBlock] at he
    · have he' : g' = g := by simpa [Value.ownBlock] using he
      subst he'
      rw [hh] at hh'
      injection hh' with hh'
      injection hh' with _ ht
      exact hne ht

/-- behind a round of Lines or Fields that has appended a piece -/
theorem lines_round (N Bb Bc Bo B0 : Nat) (W w1 w2 : World) (v v' : Value) (ls : List (List UInt8)) (xs : List UInt8) (vs : List Value) (Ai : Option Addr) (ci : Nat) (hN : N ≤ Bo) (hbo : Bo < B0) (hbb : Bb < B0) (hbc : Bc < B0) (hne1 : Bb ≠ Bo) (hne2 : Bc ≠ Bo)
    (hB0 : B0 ≤ W.heap.size) (hv : Boxed W Bo 32 v) (hvs : W.ownsRow B0 25 1 v ls.length vs)
    (hls : ∀ (i : Nat) (l : List UInt8), ls[i]? = some l → ∃ vi, vs[i]? = some vi ∧ W.ownsRow B0 5 1 vi l.length (bytesC l))
    (hb1 : Below W.drew.heap.size W.drew w1) (hown1 : w1.ownsRow W.drew.heap.size 5 1 (.slice Ai xs.length ci) xs.length (bytesC xs)) (hown2 : w2.ownsRow B0 25 1 v' (ls.length + 1) (vs ++ [.slice Ai xs.length ci]))
    (hv2 : Boxed w2 Bo 32 v) (hg : (w1.alloc (.cells #[.slice Ai xs.length ci] 25)).grownBy w2 v.ownBlock) :
    KeepsFrom B0 W (w2.setCell ⟨Bo, 0, none⟩ v') ∧ KeepsIter N Bb Bc W (w2.setCell ⟨Bo, 0, none⟩ v') ∧ Boxed (w2.setCell ⟨Bo, 0, none⟩ v') Bo 32 v' ∧ RowsOf (w2.setCell ⟨Bo, 0, none⟩ v') B0 v' (ls ++ [xs]) := by
  have hs1 : W.heap.size ≤ w1.heap.size := hb1.size
  have hvs1 : w1.ownsRow B0 25 1 v ls.length vs := own_below (w := W.drew) hvs.drew hb1 (Nat.le_refl _)
  have hvsa := hvs1.alloc (.cells #[.slice Ai xs.length ci] 25)
  have hvl : vs.length = ls.length := by have := hvs.1; omega
  have hrow : ∀ r, (some Bo : Option Nat) = some r → (∃ o : Obj, w2.heap[r]? = some o ∧ o.isCells = false) ∨ r < B0 := fun r e => by cases e; exact .inr hbo
  have hset := grownBy_setCell' w2 Bo v'
  have hblk : ∀ k, k < B0 → k ≠ Bo → (w2.setCell ⟨Bo, 0, none⟩ v').heap[k]? = W.heap[k]? := fun k hk hne => by
    have h1 : w1.heap[k]? = W.heap[k]? := hb1.block k (Nat.lt_of_lt_of_le hk hB0)
    have h2 : (w1.alloc (.cells #[.slice Ai xs.length ci] 25)).heap[k]? = w1.heap[k]? := Below.heap_alloc _ _ _ (by omega)
    have h3 : w2.heap[k]? = _ := hg.block k (by simp; omega) (fun e => by have := (hvsa.lt k e.symm).1; omega)
    exact (Below.heap_setCell _ _ _ _ hne).trans (h3.trans (h2.trans h1))
  have hB1 : Below N W w1 := (below_drewN (Below.refl N W) 1).trans (hb1.mono (show N ≤ W.heap.size by omega))
  refine ⟨KeepsOthers.from ?_ _, ⟨?_, hblk Bb hbb hne1, hblk Bc hbc hne2⟩, hv2.set v', vs ++ [.slice Ai xs.length ci], ?_, fun i l hi => ?_⟩
  · refine KeepsOthers.trans (KeepsOthers.drew W) (KeepsOthers.trans (KeepsOthers.of_grownBy (only_of_below hb1 none) (fun j o e => by cases e)) (KeepsOthers.trans (KeepsOthers.alloc _ _) (KeepsOthers.trans (KeepsOthers.of_grownBy hg fun j o ej hj => ?_) (KeepsOthers.setCell _ _ _))))
    rcases hvsa.2 with ⟨rfl, _⟩ | ⟨g, cap, cur, rfl, _, hgb, _⟩
    · simp [Value.ownBlock] at ej
    · obtain rfl : g = j := by simpa [Value.ownBlock] using ej
      rw [hgb] at hj; cases hj; rfl
  · exact ((hB1.alloc (by omega) _).grown hg (by simp; omega) (fun k hk => by have := (hvsa.lt k hk).1; omega)).setCell (p := ⟨Bo, 0, none⟩) hN v'
  · rw [List.length_append, List.length_singleton]
    exact own_by hown2 hset hrow
  · rcases Nat.lt_or_ge i ls.length with hlt | hge
    · rw [List.getElem?_append_left hlt] at hi
      obtain ⟨vi, h1, h2⟩ := hls i l hi
      refine ⟨vi, by rw [List.getElem?_append_left (by omega)]; exact h1, own_by (grown_other hvsa ((own_below (w := W.drew) h2.drew hb1 (Nat.le_refl _)).alloc _) (by decide) hg) hset hrow⟩
    · rw [List.getElem?_append_right hge] at hi
      obtain h0 : i - ls.length = 0 := by
        have := (List.getElem?_eq_some_iff.1 hi).1
        simp at this; omega
      rw [h0] at hi
      obtain rfl : xs = l := by simpa using hi
      refine ⟨.slice Ai xs.length ci, by rw [List.getElem?_append_right (by omega), hvl, h0]; rfl, own_by (grown_other hvsa ((own_below hown1 (Below.refl _ _) (show B0 ≤ W.drew.heap.size from hB0)).alloc _) (by decide) hg) hset hrow⟩

set_option maxRecDepth 100000 in
set_option maxHeartbeats 2000000 in
theorem lines_in (p : UInt8 → Bool) (m : Nat) (hm : m ≤ 2097152) (A : Option Addr) (cap : Nat) (bs : List UInt8) (w : World) (hbs : bs.length ≤ m) (hcap : bs.length ≤ cap) (hr : Reads w w.heap.size 1 A bs.length (bytesC bs))
    (hF : Finds p (w.heap.size + 1 + 1) (.func (.func 27) #[] #[]) m w.heap.size w) :
    CallsIn Fence.wide 5 Tryd.prog 18 #[.slice A bs.length cap] w fun e W' => ∃ v, e = .returned v ∧ RowsOf W' w.heap.size v (Pl.pieces p bs) ∧ Below w.heap.size w W' := by
  have hw26 : Fence.wide.fn 26 := trivial
  have hw28 : Fence.wide.fn 28 := trivial
  refine callsIn_of_wp_marks Tryd.func18 rfl trivial ?_ rfl
  simp only [Tryd.ntmps18, List.size_toArray, List.length_cons, List.length_nil, Nat.reduceAdd, Nat.reduceSub, Array.replicate_succ, Array.replicate_zero, List.push_toArray, List.append_toArray, List.nil_append, List.cons_append]
  gi_wp2_with (gi_at_call 26; refine (parts_in _ _ _ _ _ _).mono ?_; rintro e w' ⟨rfl, rfl⟩)
  have b0 := ((Boxed.new w 32 (.slice none 0 0)).alloc (.cells #[.slice A bs.length cap] 25)).alloc (.cells #[.func (.func 27) #[] #[]] 43)
  have b1 := (Boxed.new (w.alloc (.cells #[.slice none 0 0] 32)) 25 (.slice A bs.length cap)).alloc (.cells #[.func (.func 27) #[] #[]] 43)
  have b2 := Boxed.new ((w.alloc (.cells #[.slice none 0 0] 32)).alloc (.cells #[.slice A bs.length cap] 25)) 43 (.func (.func 27) #[] #[])
  simp only [World.size_alloc] at b1 b2
  have hB0 : Below w.heap.size w (((w.alloc (.cells #[.slice none 0 0] 32)).alloc (.cells #[.slice A bs.length cap] 25)).alloc (.cells #[.func (.func 27) #[] #[]] 43)) :=
    (((Below.refl _ w).alloc (Nat.le_refl _) _).alloc (by simp) _).alloc (by simp; omega) _
  have hsz : (((w.alloc (.cells #[.slice none 0 0] 32)).alloc (.cells #[.slice A bs.length cap] 25)).alloc (.cells #[.func (.func 27) #[] #[]] 43)).heap.size = w.heap.size + 1 + 1 + 1 := by simp
  obtain ⟨W0, hW0⟩ : ∃ W0, ((w.alloc (.cells #[.slice none 0 0] 32)).alloc (.cells #[.slice A bs.length cap] 25)).alloc (.cells #[.func (.func 27) #[] #[]] 43) = W0 := ⟨_, rfl⟩
  rw [hW0] at b0 b1 b2 hB0 hsz ⊢
  clear hW0
  refine wpIn_rangeFunc_each rfl (by omega) (gf := 33) (lb := #[.pointer (some ⟨w.heap.size + 1, 0, none⟩), .pointer (some ⟨w.heap.size + 1 + 1, 0, none⟩)]) rfl trivial (enters_of Tryd.func33 (by kernel_rfl) rfl)
    (parts1_turns p (w.heap.size + 1) (w.heap.size + 1 + 1) w.heap.size _ m hm w hF A cap bs W0 hbs hcap (by omega) (by omega) hB0 b1 b2 (hr.below hB0))
    KeepsIter.trans (KeepsIter.putObj (by omega) (by omega) (by omega)) (Below.refl _ _) (fun _ => rfl) (by rintro r rfl; omega)
    (fun pre W => (∃ v, Boxed W w.heap.size 32 v ∧ RowsOf W W0.heap.size v (pre.map (·.2)) ∧ pre.length ≤ m) ∧ Below w.heap.size W0 W)
    ?own ?start
    (fun x => { tmps := #[.slice A bs.length cap, undef, .slice none 0 0, .pointer (some ⟨w.heap.size, 0, none⟩), x.1, .slice A bs.length cap, .func (.func 33) #[] #[.pointer (some ⟨w.heap.size + 1, 0, none⟩), .pointer (some ⟨w.heap.size + 1 + 1, 0, none⟩)], x.1, undef, undef, undef, undef, undef, undef], defers := [] })
    ?assign ?body ?done
  case own =>
    rintro s X Y row ⟨⟨v, hv, ⟨vs, hvs, hl⟩, hn⟩, hb⟩ hg hr
    have hr' : ∀ r, row = some r → (∃ o : Obj, X.heap[r]? = some o ∧ o.isCells = false) ∨ r < W0.heap.size := fun r e => by
      rcases hr r e with ⟨_, h⟩ | h
      · exact .inl h
      · exact .inr (by omega)
    refine ⟨⟨v, hv.kept hg (fun e => ?_), ⟨vs, own_by hvs hg hr', fun i l hi => ?_⟩, hn⟩, hb.grown hg (by have := hb.size; omega) (fun r e => ?_)⟩
    · rcases hr _ e.symm with ⟨h, _⟩ | h <;> omega
    · obtain ⟨vi, h1, h2⟩ := hl i l hi
      exact ⟨vi, h1, own_by h2 hg hr'⟩
    · rcases hr r e with ⟨h, _⟩ | h <;> omega
  case start => exact ⟨⟨_, b0, ⟨[], World.ownsRow_nil _ _ _ _, fun i l hi => by simp at hi⟩, by simp⟩, Below.refl _ _⟩
  case assign =>
    intro lp x W K hK
    simp only [encPiece]
    gi_wp2
    exact hK
  case body =>
    rintro lp pre ⟨xv, xs⟩ W hlp ⟨⟨ad, capx, hx, hcx, hrx⟩, hxm, hpm⟩ ⟨⟨v, hv, ⟨vs, hvs, hls⟩, hn⟩, hb⟩
    simp only at hx hcx hrx hxm
    rw [List.length_map] at hvs
    subst hx
    have hmx : Tryd.prog.follows .mixedOrders = true := by kernel_rfl
    obtain ⟨iR, hiR, hR0, hR1, hR2⟩ := info_parts Tryd.infoBytes
    have HI := Lib.hid hiR
    have H0 := Lib.hid hR0
    have H1 := Lib.hid hR1
    have H2 := Lib.hid hR2
    clear hiR hR0 hR1 hR2
    have hbs0 := hb.size
    have hrd : Reads W.drew W.drew.heap.size 1 (some ad) xs.length (bytesC xs) := ((hrx.below hb).more (show w.heap.size ≤ W.heap.size by omega)).drew
    have hcB := hv.cell
    have hfB := hv.frozen
    have hBl := hv.lt
    gi_wp2
    have hBz : w.heap.size < W.heap.size := hBl
    gi_region_with_o (gi_at_call 28; refine (CallsIn.inRound lp (callsIn_wide.2 (cloneB_any ad capx xs _ hrd (by omega)))).mono ?_; rintro e w1 ⟨vi, rfl, hown1, hb1⟩; obtain ⟨Ai, ci, rfl, _, _⟩ := own_slice hown1; obtain ⟨v', w2, hrun, hown2, hst⟩ := lines_append w.heap.size W0.heap.size W w1 v pre.length vs Ai xs.length ci (by omega) hv hvs hb1 (by omega); obtain ⟨g', cap', rfl⟩ := ownsRow_succ hown2; obtain ⟨hc1, hc1a, hc2, hf2, hfin⟩ := hst)
    all_goals gi_wp2
    all_goals (
      obtain ⟨hv2, hs2, hg2⟩ := hfin
      have hr := lines_round w.heap.size (w.heap.size + 1) (w.heap.size + 1 + 1) w.heap.size W0.heap.size W w1 w2 v (.slice (some ⟨g', 0, none⟩) (pre.length + 1) cap') (pre.map (·.2)) xs vs Ai ci (by omega) (by omega) (by omega) (by omega) (by omega) (by omega) (by omega) hv (by rw [List.length_map]; exact hvs) hls hb1 hown1 (by rw [List.length_map]; exact hown2) hv2 hg2
      obtain ⟨r1, r2, r3, r4⟩ := hr
      exact ⟨r1, r2, ⟨_, r3, by rw [List.map_append]; exact r4, by rw [List.length_append, List.length_singleton]; omega⟩, hb.trans r2.1⟩)
  case done =>
    rintro D xs W hD hS ⟨⟨v, hv, hrows, _⟩, hb⟩ hK
    have hcB := hv.cell
    gi_wp2
    refine ⟨by simp, .inl ⟨_, _, rfl, run_takeDeferred hK, ?_⟩⟩
    exact ⟨_, results_tmp rfl _ _ _, v, rfl, by rw [← hS]; exact hrows.putObj (.deferred none) hK rfl (by omega), (hB0.trans hb).trans (belowK_b (w := w) (Nat.le_refl _) _ D _ _ (by omega) hK rfl rfl)⟩

end Go.Proofs.YtnagiphjlfiifaaDoor
