/-
  Parts of the proof.
-/
import Derived.Test.YtffffjngodinnaaGreatDoorV03
import Derived.Test.YtffffjngodinnaaGreatDoorV01
import Derived.Lib.OwnKind
import Derived.Lib.SmallJoins
import Derived.WalkSpells
import Derived.WalkLawsBesides
import Derived.Lib.Hide
import Derived.Handy
import Derived.BigQuiet
namespace Go.Proofs.YtffffjngodinnaaGreatDoor
section
set_option maxRecDepth 100000
open Go.RowKit Go.Maps
structure KS where
 t : Nat
 now : Int
 fv : Value
 fl : List (Int × Int)
 used : Nat
 last : Nat
 tb : Nat
 tn : Nat
 tf : Lit -> Option Value
def faultV (l : List (Int × Int)) : List Value := l.flatMap fun p => [.int .i64 p.1, .int .i64 p.2]
abbrev numK (n : Nat) : Lit := .int .i64 (n : Int)
def kernCells (K : KS) : Array Value := #[.pointer (some ⟨K.t, 0, none⟩), .int .i64 K.now, K.fv, .int .i64 (K.used : Int), .int .i64 (K.last : Int), .map (some K.tb)]
structure KernOf (w : World) (k : Nat) (K : KS) : Prop where
 blk : Blk w k 142 (kernCells K)
 things : MapOf w Tryz.prog 3 K.tb K.tn K.tf
 row : w.ownsRow 0 44 2 K.fv K.fl.length (faultV K.fl)
 used : K.used <= K.fl.length
def KS.foot (K : KS) (k : Nat) : List Nat := [k, K.tb] ++ K.fv.ownBlock.toList
section
variable {w w' : World} {k g : Nat} {K : KS} {t : TypeId} {cs : Array Value}
theorem MapOf.blk_ne {P : Program} {q : TypeId} {b n : Nat} {f : Lit -> Option Value} (h : MapOf w P q b n f) (hg : Blk w g t cs) : b ≠ g := by
 obtain ⟨D, ⟨es, clock, h0, _⟩, _⟩ := h
 rintro rfl
 rw [show w.heap[b]? = _ from hg] at h0
 cases h0
theorem MapOf.own_ne {P : Program} {q e : TypeId} {b n base size m : Nat} {f : Lit -> Option Value} {v : Value} {xs : List Value} (h : MapOf w P q b n f) (hg : w.ownsRow base e size v m xs) : v.ownBlock ≠ some b := by
 intro hv
 obtain ⟨c, fz, h1⟩ := Lib.ownsRow_kind hg b hv
 obtain ⟨D, ⟨es, clock, h0, _⟩, _⟩ := h
 rw [h1] at h0
 cases h0
theorem KernOf.tb_ne (h : KernOf w k K) : K.tb ≠ k := h.things.blk_ne h.blk
theorem KernOf.fv_ne (h : KernOf w k K) : K.fv.ownBlock ≠ some k := own_blk_ne h.row h.blk (by decide)
theorem KernOf.fv_tb (h : KernOf w k K) : K.fv.ownBlock ≠ some K.tb := h.things.own_ne h.row
theorem KernOf.same (h : KernOf w k K) (hb : ∀ b ∈ K.foot k, w'.heap[b]? = w.heap[b]?) : KernOf w' k K := by
 refine ⟨(hb k (by simp [KS.foot])).trans h.blk, h.things.same (hb _ (by simp [KS.foot])), ?_, h.used⟩
 refine ⟨h.row.1, h.row.2.imp id ?_⟩
 rintro ⟨g, cap, cur, e, h1, h2, h3⟩
 exact ⟨g, cap, cur, e, h1, (hb g (by simp [KS.foot, e, Value.ownBlock])).trans h2, h3⟩
theorem KernOf.foot_lt (h : KernOf w k K) : ∀ b ∈ K.foot k, b < w.heap.size := by
 intro b hb
 simp only [KS.foot, List.mem_append, List.mem_cons, Option.mem_toList, List.not_mem_nil, or_false] at hb
 rcases hb with (rfl | rfl) | hb
 · exact h.blk.lt
 · exact h.things.lt
 · exact (h.row.lt b hb).2
theorem KernOf.turns {S : List Nat} (h : KernOf w k K) (ht : Turns S w w') (hS : ∀ b ∈ K.foot k, b ∉ S) : KernOf w' k K := h.same fun b hb => ht.block b (h.foot_lt b hb) (hS b hb)
theorem KernOf.off (h : KernOf w k K) (hg : Blk w g t cs) (h1 : t ≠ 142) (h2 : t ≠ 44) : g ∉ K.foot k := by
 simp only [KS.foot, List.mem_append, List.mem_cons, Option.mem_toList, List.not_mem_nil, or_false, not_or]
 exact ⟨⟨Blk.ne_ hg h.blk h1, fun e => h.things.blk_ne hg e.symm⟩, fun e => own_blk_ne h.row hg h2.symm e⟩
end
theorem w64 (n : Int) (h : -9223372036854775808 <= n /\ n <= 9223372036854775807) : wrap64 n = n := (IntWalk.i64_left n).symm.trans (IntWalk.i64_in n h)
theorem ownsRow_same {w w' : World} {base n size : Nat} {e : TypeId} {v : Value} {xs : List Value} (h : w.ownsRow base e size v n xs) (hb : ∀ g, v.ownBlock = some g -> w'.heap[g]? = w.heap[g]?) : w'.ownsRow base e size v n xs := by
 refine ⟨h.1, h.2.imp id ?_⟩
 rintro ⟨g, cap, cur, e, h1, h2, h3⟩
 exact ⟨g, cap, cur, e, h1, (hb g (by simp [e, Value.ownBlock])).trans h2, h3⟩
theorem intKeys : Keyed Tryz.prog 3 := int_keyed Tryz.underlying3
theorem addAtomic (w : World) (a : Addr) (n : Nat) (hc : w.cell? a = some (.int .i64 (n : Int))) (hz : w.frozen? a = false) (hn : n < 4611686018427387904) :
 (callFunc 129 #[.pointer (some a), .int .i64 1]).run Tryz.prog w = .ok (.value (.int .i64 ((n + 1 : Nat) : Int))) (w.setCell a (.int .i64 ((n + 1 : Nat) : Int))) :=
 run_call_add (P := Tryz.prog) Tryz.func129 (by kernel_rfl) (by kernel_rfl) (by kernel_rfl) .i64 (by kernel_rfl) hc hz (by
  simp [go_sem]
  exact IntWalk.i64_in _ (by omega))
set_option maxHeartbeats 1000000 in
theorem kAdd (w : World) (k : Nat) (K : KS) (x : Value) (h : KernOf w k K) (h1 : K.last < 4611686018427387904) (h2 : K.tn < 4611686018427387904) :
 Calls Tryz.prog 61 #[.pointer (some ⟨k, 0, none⟩), x] w fun e w' => e = .returned (.int .i64 ((K.last + 1 : Nat) : Int)) /\
  KernOf w' k { K with last := K.last + 1, tn := K.tn + 1, tf := upd K.tf (numK (K.last + 1)) (some x) } /\ Turns [k, K.tb] w w' := by
 have hb := h.blk
 have c4 : w.cell? ⟨k, 4, none⟩ = some (.int .i64 (K.last : Int)) := hb.cell 4
 have f4 : w.frozen? ⟨k, 4, none⟩ = false := hb.frozen 4
 have c5 : w.cell? ⟨k, 5, none⟩ = some (.map (some K.tb)) := hb.cell 5
 have hadd := addAtomic w ⟨k, 4, none⟩ K.last c4 f4 h1
 obtain ⟨n1, hn1⟩ : ∃ n1, K.last + 1 = n1 := ⟨_, rfl⟩
 rw [hn1] at hadd ⊢
 have hmk : MapOf (w.setCell ⟨k, 4, none⟩ (.int .i64 (n1 : Int))) Tryz.prog 3 K.tb K.tn K.tf := h.things.same (Below.heap_setCell _ _ _ _ h.tb_ne)
 go_enter Tryz.func61, Tryz.ntmps61
 go_wp2_with (first | (at_mapUpdate; refine wpList_store_of _ rfl _ _ _ 135 rfl 3 146 intKeys Tryz.underlying135 K.tb K.tn K.tf rfl hmk (by unfold maxLen; omega) _ _ (numK n1) rfl rfl (keyOf_int_mk Tryz.underlying3 (WalkArith.wf_i64 (by omega))) trivial ?_; intro w1 hown1 hgrow1) | go_in)
 go_returns
 refine ⟨rfl, ⟨?_, hown1, ?_, h.used⟩, ?_⟩
 · exact (hb.set_ 4 _).grown hgrow1 (by simpa using h.tb_ne.symm)
 · exact (ownsRow_setCell_other h.row h.fv_ne _).kept hgrow1 (.inr h.fv_tb)
 · exact ((Turns.refl _ w).setCell _ _ (by simp)).grown hgrow1 (by simp)
def KS.next (K : KS) : Int × Int := K.fl.getD K.used (0, 0)
def KS.took (K : KS) : KS := { K with used := if K.used = K.fl.length then K.used else K.used + 1 }
theorem own_slice {w : World} {base : Nat} {e : TypeId} {size n : Nat} {v : Value} {xs : List Value} (h : w.ownsRow base e size v n xs) :
 ∃ A cap, v = .slice A n cap /\ n <= cap /\ cap <= maxLen /\ Reads w w.heap.size size A n xs := by
 rcases h.2 with ⟨rfl, rfl⟩ | ⟨g, cap, cur, rfl, _, _, hn, hc, _⟩
 · exact ⟨none, 0, rfl, Nat.le_refl _, by unfold maxLen; omega, Reads.of_own h⟩
 · exact ⟨_, cap, rfl, hn, hc, Reads.of_own h⟩
theorem faultV_at {l : List (Int × Int)} {i : Nat} {q : Int × Int} (h : l[i]? = some q) : (faultV l)[i * 2]? = some (.int .i64 q.1) /\ (faultV l)[i * 2 + 1]? = some (.int .i64 q.2) := by
 induction l generalizing i with
 | nil => simp at h
 | cons p l ih =>
   cases i with
   | zero => obtain rfl : p = q := by simpa using h
             simp [faultV]
   | succ i =>
     have := ih (i := i) (by simpa using h)
     have e : faultV (p :: l) = .int .i64 p.1 :: .int .i64 p.2 :: faultV l := by simp [faultV]
     rw [e, show (i + 1) * 2 = i * 2 + 1 + 1 by omega]
     simpa using this
set_option maxHeartbeats 1000000 in
theorem kFault (w : World) (k : Nat) (K : KS) (h : KernOf w k K) :
 Calls Tryz.prog 167 #[.pointer (some ⟨k, 0, none⟩)] w fun e w' => e = .returned (.agg #[.int .i64 K.next.1, .int .i64 K.next.2]) /\
  KernOf w' k K.took /\ Turns [k] w w' := by
 have hb := h.blk
 have hlt : k < w.heap.size := hb.lt
 have c2 : w.cell? ⟨k, 2, none⟩ = some K.fv := hb.cell 2
 have c3 : w.cell? ⟨k, 3, none⟩ = some (.int .i64 (K.used : Int)) := hb.cell 3
 have f3 : w.frozen? ⟨k, 3, none⟩ = false := hb.frozen 3
 obtain ⟨A, cap, hfv, hcap, hmax, hrd⟩ := own_slice h.row
 obtain ⟨n, hn⟩ : ∃ n, K.fl.length = n := ⟨_, rfl⟩
 have hu := h.used
 rw [hn] at hfv hu hrd hcap
 rw [hfv] at c2
 have HN := Lib.hid hn
 have HV := Lib.hid hfv
 clear hfv
 by_cases hlast : K.used = n
 · rw [hlast] at c3
   clear hn
   go_enter Tryz.func167, Tryz.ntmps167
   go_wp2
   go_region
   go_wp2
   go_returns
   refine ⟨?_, ?_, ?_⟩
   · have : K.next = (0, 0) := by unfold KS.next; rw [hlast, <- HN.out]; simp
     rw [this]
   · have e : K.took = K := by unfold KS.took; rw [if_pos (by rw [hlast, HN.out])]
     rw [e]
     exact h.turns (S := []) (((Turns.refl _ w).alloc _).drew) (by simp)
   · exact ((Turns.refl _ w).alloc _).drew
 · have hun : K.used < n := by omega
   obtain ⟨ad, hA, hab, hcc⟩ := hrd.2 (by omega)
   subst hA
   obtain ⟨g, rfl, hgk⟩ : ∃ g, ad = ⟨g, 0, none⟩ /\ g ≠ k := by
    have h1 := h.row
    have h2 := h.fv_ne
    rw [HV.out, HN.out] at h1
    rw [HV.out] at h2
    rcases Joins.ownsRow_forms h1 with ⟨e, _⟩ | ⟨g, c, e⟩
    · cases e
    · simp only [Value.slice.injEq, Option.some.injEq] at e
      exact ⟨g, e.1, fun e' => h2 (by rw [e.1]; simp [Value.ownBlock, e'])⟩
   obtain ⟨x, y, hxy⟩ : ∃ x y, K.fl[K.used]? = some (x, y) := ⟨_, _, List.getElem?_eq_getElem (by omega)⟩
   have hat := faultV_at hxy
   have e1 : w.cell? ⟨g, K.used * 2, none⟩ = some (.int .i64 x) := by
    have := hcc _ _ hat.1
    rwa [show (⟨g, 0, none⟩ : Addr).add (K.used * 2) = ⟨g, K.used * 2, none⟩ by unfold Addr.add; split <;> simp_all] at this
   have e2 : w.cell? ⟨g, K.used * 2 + 1, none⟩ = some (.int .i64 y) := by simpa [Addr.add] using hcc _ _ hat.2
   clear hat hcc hrd
   clear hn
   have hw1 : wrap64 ((K.used : Int) + 1) = (K.used : Int) + 1 := w64 _ (by unfold maxLen at hmax; omega)
   have hw2 : wrap64 (K.used : Int) = (K.used : Int) := w64 _ (by unfold maxLen at hmax; omega)
   have hw3 : IntKind.i64.wrap (K.used : Int) = (K.used : Int) := IntWalk.i64_in _ (by unfold maxLen at hmax; omega)
   go_enter Tryz.func167, Tryz.ntmps167
   go_wp2
   go_region
   go_wp2
   go_region
   go_wp2
   go_returns
   have hT : Turns [k] w (((w.setCell ⟨k, 3, none⟩ (.int .i64 ((K.used : Int) + 1))).alloc (.cells #[.int .i64 x, .int .i64 y] 44)).drew.drew) := ((((Turns.refl _ w).setCell ⟨k, 3, none⟩ _ (by simp)).alloc _).drew).drew
   refine ⟨?_, ?_, hT⟩
   · have : K.next = (x, y) := by unfold KS.next; rw [List.getD_eq_getElem?_getD, hxy]; rfl
     rw [this]
   · have e : K.took = { K with used := K.used + 1 } := by unfold KS.took; rw [if_neg (by rw [HN.out]; exact hlast)]
     rw [e]
     refine ⟨(hb.set_ 3 _).alloc _, (h.things.same (hT.block _ h.things.lt (by simpa using h.tb_ne))), ?_, by simp only; rw [HN.out]; omega⟩
     exact ownsRow_same h.row fun b e => hT.block _ (h.row.lt b e).2 (by rintro hm; rw [List.mem_singleton] at hm; subst hm; exact h.fv_ne e)
def shortN (n : Int) (f : Int × Int) : Int := if f.1 = 1 then min n (max 1 f.2) else n
set_option maxHeartbeats 1000000 in
theorem kShort (w : World) (n : Int) (f : Int × Int) :
 Calls Tryz.prog 169 #[.int .i64 n, .agg #[.int .i64 f.1, .int .i64 f.2]] w fun e w' => e = .returned (.int .i64 (shortN n f)) /\ w' = w.alloc (.cells #[.int .i64 f.1, .int .i64 f.2] 44) := by
 obtain ⟨kind, m⟩ := f
 obtain ⟨r, hr⟩ : ∃ r, shortN n (kind, m) = r := ⟨_, rfl⟩
 rw [hr]
 have HR := Lib.hid hr
 clear hr
 go_enter Tryz.func169, Tryz.ntmps169
 go_wp2
 all_goals
  go_returns
  have hr := HR.out
  unfold shortN at hr
  refine ⟨?_, ?_⟩
  · subst hr
    simp_all <;> (try split) <;> omega
  · simp_all
def tableCells (k : Nat) (D : Nat -> Value) : Array Value := (Value.pointer (some ⟨k, 0, none⟩) :: (List.range 16).map D).toArray
def TableOf (w : World) (b k : Nat) (D : Nat -> Value) : Prop := Blk w b 150 (tableCells k D)
theorem TableOf.kern {w : World} {b k : Nat} {D : Nat -> Value} (h : TableOf w b k D) : w.cell? ⟨b, 0, none⟩ = some (.pointer (some ⟨k, 0, none⟩)) := Blk.cell h 0
theorem TableOf.fd {w : World} {b k : Nat} {D : Nat -> Value} (h : TableOf w b k D) (i : Nat) (hi : i < 16) : w.cell? ⟨b, i + 1, none⟩ = some (D i) := by
 rw [Blk.cell h]
 unfold tableCells
 simp [hi]
set_option maxHeartbeats 1000000 in
theorem kHas (w : World) (b k : Nat) (D : Nat -> Value) (h : TableOf w b k D) (fd : Int) :
 Calls Tryz.prog 166 #[.pointer (some ⟨b, 0, none⟩), .int .i64 fd] w fun e w' => e = .returned (if 0 <= fd /\ fd < 16 then D fd.toNat else .nilIface) /\ w' = w := by
 by_cases h0 : fd < 0
 · rw [if_neg (by omega)]
   go_enter Tryz.func166, Tryz.ntmps166
   go_wp2
   go_returns
   exact ⟨rfl, rfl⟩
 by_cases h1 : 16 <= fd
 · rw [if_neg (by omega)]
   go_enter Tryz.func166, Tryz.ntmps166
   go_wp2
   go_returns
   exact ⟨rfl, rfl⟩
 obtain ⟨i, rfl⟩ : ∃ i : Nat, fd = (i : Int) := ⟨fd.toNat, by omega⟩
 rw [if_pos (by omega)]
 have hc := h.fd i (by omega)
 have hc1 : w.cell? ⟨b, 1 + i, none⟩ = some (D i) := by rwa [Nat.add_comm]
 go_enter Tryz.func166, Tryz.ntmps166
 go_wp2
 go_returns
 exact ⟨rfl, rfl⟩
end
section
set_option maxRecDepth 100000
open Go.RowKit Go.Maps
def sourceV (p : Nat) : Value := .iface 157 (.pointer (some ⟨p, 0, none⟩))
def sinkV (p : Nat) : Value := .iface 160 (.pointer (some ⟨p, 0, none⟩))
def Calm (n : Int) : Prop := -4611686018427387904 < n /\ n < 4611686018427387904
theorem Calm.wrap_up {n : Int} (h : Calm n) : wrap64 (n + 1) = n + 1 := w64 _ (by unfold Calm at h; omega)
set_option maxHeartbeats 1000000 in
theorem takenSource (w : World) (k p : Nat) : Calls Tryz.prog 96 #[.pointer (some ⟨k, 0, none⟩), sourceV p] w fun e w' => e = .returned (.tuple #[]) /\ w' = w := by
 unfold sourceV
 go_enter Tryz.func96, Tryz.ntmps96
 go_wp2
 go_returns
 exact ⟨rfl, rfl⟩
set_option maxHeartbeats 1000000 in
theorem takenSink (w : World) (k p : Nat) : Calls Tryz.prog 96 #[.pointer (some ⟨k, 0, none⟩), sinkV p] w fun e w' => e = .returned (.tuple #[]) /\ w' = w := by
 unfold sinkV
 go_enter Tryz.func96, Tryz.ntmps96
 go_wp2
 go_returns
 exact ⟨rfl, rfl⟩
set_option maxHeartbeats 1000000 in
theorem leftSource (w : World) (k p : Nat) : Calls Tryz.prog 97 #[.pointer (some ⟨k, 0, none⟩), sourceV p] w fun e w' => e = .returned (.tuple #[]) /\ w' = w := by
 unfold sourceV
 go_enter Tryz.func97, Tryz.ntmps97
 go_wp2
 go_returns
 exact ⟨rfl, rfl⟩
set_option maxHeartbeats 1000000 in
theorem leftSink (w : World) (k p : Nat) : Calls Tryz.prog 97 #[.pointer (some ⟨k, 0, none⟩), sinkV p] w fun e w' => e = .returned (.tuple #[]) /\ w' = w := by
 unfold sinkV
 go_enter Tryz.func97, Tryz.ntmps97
 go_wp2
 go_returns
 exact ⟨rfl, rfl⟩
end
end Go.Proofs.YtffffjngodinnaaGreatDoor
