/-
  Parts of the proof.
-/
import Derived.Test.YtffffjngodinnaaGreatDoorV05
namespace Go.Proofs.YtffffjngodinnaaGreatDoor
section
open Go.RowKit
theorem below_step {B : Nat} {a b c : World} (h : Below B a b) (h' : Below b.heap.size b c) (hB : B <= a.heap.size) : Below B a c := h.trans (h'.mono (Nat.le_trans hB h.size))
theorem below_box {B : Nat} {a b : World} (h : Below B a b) (hB : B <= a.heap.size) (o : Obj) : Below B a (b.alloc o) := h.alloc (Nat.le_trans hB h.size) o
theorem Blk.on {w w' : World} {g : Nat} {t : TypeId} {cs : Array Value} (h : Blk w g t cs) (hb : Below w.heap.size w w') : Blk w' g t cs := h.below hb h.lt
theorem own_on {w w' : World} {base n size : Nat} {e : TypeId} {v : Value} {xs : List Value} (h : w.ownsRow base e size v n xs) (hb : Below w.heap.size w w') : w'.ownsRow base e size v n xs := ownsRow_same h fun g hg => hb.block g (h.lt g hg).2
theorem Blk.newNext (w : World) (o : Obj) (t : TypeId) (cs : Array Value) : Blk ((w.alloc o).alloc (.cells cs t)) (w.heap.size + 1) t cs := by have := Blk.new (w.alloc o) t cs; rwa [World.size_alloc] at this
theorem below_one (w : World) (o : Obj) : Below w.heap.size w (w.alloc o) := (Below.refl _ w).alloc (Nat.le_refl _) o
end
section
set_option maxRecDepth 100000
open Go.RowKit Go.Maps
theorem Tryz.infoFault : (Tryz.prog.info? 44).map (fun i => (i.zero, i.size, i.bytes)) = some (some (.agg #[.int .i64 0, .int .i64 0]), 2, 16) := by kernel_rfl
theorem faultV_oneCell (l : List (Int × Int)) : ∀ u ∈ faultV l, u.oneCell' = true := by
 intro u hu
 unfold faultV at hu
 obtain ⟨q, _, hq⟩ := List.mem_flatMap.1 hu
 simp only [List.mem_cons, List.not_mem_nil, or_false] at hq
 rcases hq with rfl | rfl <;> rfl
def Faults (w : World) (v : Value) (l : List (Int × Int)) : Prop := ∃ A cap, v = .slice A l.length cap /\ l.length <= cap /\ cap <= maxLen /\ (A = none -> cap = 0) /\ Reads w w.heap.size 2 A l.length (faultV l)
set_option maxHeartbeats 1000000 in
theorem cloneF_any (ad : Addr) (cap : Nat) (l : List (Int × Int)) (w : World) (hr : Reads w w.heap.size 2 (some ad) l.length (faultV l)) (hl : l.length <= 8796093022208) :
 Calls Tryz.prog 57 #[.slice (some ad) l.length cap] w fun e w' => ∃ v, e = .returned v /\ w'.ownsRow w.heap.size 44 2 v l.length (faultV l) /\ Below w.heap.size w w' := by
 have heq := fun (W : World) => Lib.run_eql_slice_nil (P := Tryz.prog) W 27 44 (some ad) l.length cap 0 0 Tryz.underlying27
 obtain ⟨iB, hiB, hB0, hB1, hB2⟩ := info_parts Tryz.infoFault
 have HI := Lib.hid hiB
 have H0 := Lib.hid hB0
 have H1 := Lib.hid hB1
 have H2 := Lib.hid hB2
 clear hiB hB0 hB1 hB2
 have hR := Lib.hid hr
 clear hr
 go_enter Tryz.func57, Tryz.ntmps57
 go_wp2_with (at_builtin; refine wpList_append_any _ rfl _ _ 27 rfl w.heap.size 44 iB (.agg #[.int .i64 0, .int .i64 0]) 2 16 Tryz.underlying27 HI.out H0.out H1.out H2.out rfl (by decide) (.slice (some ⟨w.heap.size, 0, none⟩) 0 0) 0 [] rfl (World.ownsRow_made w #[] 0 (Nat.le_refl _) (by decide) rfl) w.heap.size (some ad) l.length cap (faultV l) rfl (hR.out.alloc (Nat.le_refl _) _) (faultV_oneCell l) (by simp only [maxLen]; omega) (by omega) (by simp) ?_; intro v2 w2 hown2 hg2 hat2)
 go_returns
 exact ⟨_, rfl, by simpa using hown2, ((Below.refl _ w).alloc (Nat.le_refl _) _).grown hg2 (by simp) (fun k hk => by simp [Value.ownBlock] at hk; omega)⟩
theorem cloneF_nil (w : World) : Calls Tryz.prog 57 #[.slice none 0 0] w fun e w' => e = .returned (.slice none 0 0) /\ w' = w := by
 have heq := fun (W : World) => Lib.run_eql_slice_nil (P := Tryz.prog) W 27 44 none 0 0 0 0 Tryz.underlying27
 go_enter Tryz.func57, Tryz.ntmps57
 go_wp2
 go_returns
 exact ⟨rfl, rfl⟩
theorem cloneF (w : World) (v : Value) (l : List (Int × Int)) (h : Faults w v l) (hl : l.length <= 8796093022208) :
 Calls Tryz.prog 57 #[v] w fun e w' => ∃ u, e = .returned u /\ w'.ownsRow w.heap.size 44 2 u l.length (faultV l) /\ Below w.heap.size w w' := by
 obtain ⟨A, cap, rfl, h2, h3, h4, h5⟩ := h
 cases A with
 | none =>
   have hc := h4 rfl
   have hb : l = [] := List.eq_nil_of_length_eq_zero (by omega)
   subst hb hc
   refine (cloneF_nil w).mono ?_
   rintro e w' ⟨rfl, rfl⟩
   exact ⟨_, rfl, ⟨rfl, .inl ⟨rfl, rfl⟩⟩, Below.refl _ _⟩
 | some ad => exact cloneF_any ad cap l w h5 hl
set_option maxHeartbeats 1000000 in
theorem kNew (w : World) (t : Nat) (v : Value) (l : List (Int × Int)) (h : Faults w v l) (hl : l.length <= 8796093022208) (now : Int) :
 Calls Tryz.prog 26 #[.pointer (some ⟨t, 0, none⟩), v, .int .i64 now] w fun e w' => ∃ k u tb, e = .returned (.pointer (some ⟨k, 0, none⟩)) /\ w.heap.size <= k /\ w.heap.size <= tb /\ (∀ g, u.ownBlock = some g -> w.heap.size <= g) /\
  KernOf w' k { t := t, now := now, fv := u, fl := l, used := 0, last := 0, tb := tb, tn := 0, tf := fun _ => none } /\ Below w.heap.size w w' := by
 have hcl := cloneF w v l h hl
 have hmm := @run_makeMap Tryz.prog
 go_enter Tryz.func26, Tryz.ntmps26
 go_wp2_with (go_at_call 57; refine hcl.mono ?_; rintro e w1 ⟨u, rfl, hown, hbel⟩; obtain ⟨A, c, rfl, hc1, hc2, hrd⟩ := own_slice hown)
 go_returns
 have e1 : (w1.alloc (.map #[] 0)).heap.size = w1.heap.size + 1 := by simp
 have hs := hbel.size
 refine ⟨w1.heap.size + 1, .slice A l.length c, w1.heap.size, rfl, by omega, hs, fun g hg => (hown.lt g hg).1, ⟨?_, ?_, ?_, Nat.zero_le _⟩, (hbel.alloc hs _).alloc (by rw [e1]; omega) _⟩
 · have := Blk.new (w1.alloc (.map #[] 0)) 142 #[.pointer (some ⟨t, 0, none⟩), .int .i64 now, .slice A l.length c, .int .i64 0, .int .i64 0, .map (some w1.heap.size)]
   rwa [e1] at this
 · exact (MapOf.made w1 Tryz.prog 3).same (Below.heap_alloc _ _ _ (by rw [e1]; omega))
 · exact Joins.ownsRow_le ((hown.alloc _).alloc _) (Nat.zero_le _)
set_option maxHeartbeats 1000000 in
theorem kUsed (w : World) (k : Nat) (K : KS) (h : KernOf w k K) : Calls Tryz.prog 35 #[.pointer (some ⟨k, 0, none⟩)] w fun e w' => e = .returned (.int .i64 (K.used : Int)) /\ w' = w := by
 have c3 : w.cell? ⟨k, 3, none⟩ = some (.int .i64 (K.used : Int)) := h.blk.cell 3
 go_enter Tryz.func35, Tryz.ntmps35
 go_wp2
 go_returns
 exact ⟨rfl, rfl⟩
end
end Go.Proofs.YtffffjngodinnaaGreatDoor
