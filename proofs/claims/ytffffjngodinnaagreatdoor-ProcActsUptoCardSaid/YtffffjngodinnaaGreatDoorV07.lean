/-
  Parts of the proof.
-/
import Derived.Test.YtffffjngodinnaaGreatDoorV05
import Derived.StillTailTactics
import Derived.Deep.RegionLaw
import Derived.Deep.DrawnRows
namespace Go.Proofs.YtffffjngodinnaaGreatDoor
section
open Go.RowKit Go.Maps
theorem still_tail {P : Program} {id : Nat} {Q : Exit -> Act -> World -> Prop} {a : Act} {w : World} {l : List Oper} (n : Nat) (W : World) (hW : w.drew = W) (hm : P.follows .mixedOrders = true) (hB : Region.lexTailB .any l.toArray n = true)
 (h : wpStill P l.toArray W (fun a' => wpList P l.toArray Q (l.drop n) a' W) (l.take n) a) : (Code.region id l.toArray true).wp P Q a w := by
 subst hW
 exact wp_region_still_tail n hm hB h
theorem shortN_le {m : Int} {f : Int × Int} (h : 0 <= m) : 0 <= shortN m f /\ shortN m f <= m := by
 unfold shortN
 split <;> omega
theorem OffRow.front {w : World} {base n c k : Nat} {e : TypeId} {A : Option Addr} {xs : List Value} (h : OffRow w base e (.slice A n c) n xs) (hk : k <= n) : OffRow w base e (.slice A k c) k (xs.take k) := by
 refine ⟨by rw [List.length_take, h.1]; omega, ?_⟩
 rcases h.2 with ⟨hv, h0⟩ | ⟨g, off, cap, cur, hv, h1, h2, h3, h4, h5, h6⟩
 · simp only [Value.slice.injEq] at hv
   obtain ⟨rfl, rfl, rfl⟩ := hv
   exact .inl ⟨by rw [show k = 0 by omega], by omega⟩
 · simp only [Value.slice.injEq] at hv
   obtain ⟨rfl, _, rfl⟩ := hv
   exact .inr ⟨g, off, c, cur, rfl, h1, h2, by omega, h4, h5, by rw [<- h6, List.take_take, Nat.min_eq_left hk]⟩
theorem run_front {P : Program} (t e : TypeId) (i : TypeInfo) (ht : P.underlying t = some (.slice e)) (hi : P.info? e = some i) (A : Option Addr) (len cap n : Nat) (hn : n <= cap) (W : World) :
 (Instr.slice t (.slice A len cap) none (some (.int .i64 (n : Int))) none).run P W = .ok (.slice A n cap) W := by
 have hee : P.elem t = e := by simp only [Program.elem, ht]
 have he : P.underlying t = some (.slice (P.elem t)) := by rw [hee]; exact ht
 simp only [run_slice_h W t A len cap he .i64 (n : Int) (by omega) (by omega), hee, sizeOf, typeInfo, Sem.run_bind, Sem.run_pure]
 have h0 : A.map (·.add (0 * i.size)) = A := by
  cases A with
  | none => rfl
  | some a => simp [Addr.add]
 simp [hi, sliced, go_sem]
theorem bytes_of_front {W W' : World} {base n c : Nat} {A : Option Addr} {bs : List UInt8} {e : TypeId} (h : OffRow W base e (.slice A bs.length c) bs.length (bytesC bs)) (hW : ∀ g, g < W.heap.size -> W'.heap[g]? = W.heap[g]?) (hn : n <= bs.length) : Bytes W' W'.heap.size (.slice A n c) (bs.take n) := by
 have h1 := (h.front hn).same (w' := W') fun g hg => hW g ((h.front hn).lt hg).2
 rw [<- bytesC_take] at h1
 exact Bytes.of_off h1
theorem Reads.turns {w w' : World} {B size n : Nat} {A : Option Addr} {xs : List Value} {S : List Nat} (h : Reads w B size A n xs) (ht : Turns S w w') (hB : B <= w.heap.size) (hS : ∀ ad, A = some ad -> ad.block ∉ S) : Reads w' B size A n xs := by
 refine ⟨h.1, fun hn => ?_⟩
 obtain ⟨ad, h1, h2, h3⟩ := h.2 hn
 refine ⟨ad, h1, h2, fun j u hu => ?_⟩
 rw [<- h3 j u hu]
 exact ht.cell (by rw [block_of_add]; omega) (by rw [block_of_add]; exact hS ad h1)
theorem Reads.front {w : World} {B n k : Nat} {A : Option Addr} {xs : List Value} (h : Reads w B 1 A n xs) (hk : k <= n) : Reads w B 1 A k (xs.take k) := by
 refine ⟨by rw [List.length_take, h.1]; omega, fun hn => ?_⟩
 obtain ⟨ad, h1, h2, h3⟩ := h.2 (by omega)
 refine ⟨ad, h1, h2, fun j u hu => h3 j u ?_⟩
 rw [List.getElem?_take] at hu
 split at hu
 · exact hu
 · cases hu
theorem KernOf.off_own {w : World} {k base n g : Nat} {K : KS} {t : TypeId} {v : Value} {xs : List Value} (h : KernOf w k K) (ho : OffRow w base t v n xs) (h1 : t ≠ 142) (h2 : t ≠ 44) (hg : v.ownBlock = some g) : g ∉ K.foot k := by
 rcases ho.2 with ⟨rfl, _⟩ | ⟨g', off, cap, cur, rfl, _, hgb, _⟩
 · simp [Value.ownBlock] at hg
 · obtain rfl : g' = g := by simpa [Value.ownBlock] using hg
   exact h.off (show Blk w g' t cur from hgb) h1 h2
end
section
set_option maxRecDepth 100000
open Go.RowKit Go.Maps
abbrev SinkAt (w : World) (p : Nat) (v : Value) : Prop := Blk w p 161 #[v]
set_option maxHeartbeats 1000000 in
theorem kSink (w : World) (k : Nat) (K : KS) (h : KernOf w k K) (h1 : K.last < 4611686018427387904) (h2 : K.tn < 4611686018427387904) :
 Calls Tryz.prog 31 #[.pointer (some ⟨k, 0, none⟩)] w fun e w' => e = .returned (.int .i64 ((K.last + 1 : Nat) : Int)) /\
  SinkAt w' w.heap.size (.slice none 0 0) /\ KernOf w' k (K.adds (sinkV w.heap.size)) /\ Turns [k, K.tb] w w' := by
 go_enter Tryz.func31, Tryz.ntmps31
 go_wp2_with (go_at_call 61; refine (kAdd _ k K (sinkV w.heap.size) (h.alloc _) h1 h2).mono ?_; rintro e w2 ⟨rfl, hK2, hT2⟩)
 go_returns
 have hs : w.heap.size ∉ [k, K.tb] := by
  have := h.blk.lt
  have := h.things.lt
  simp only [List.mem_cons, List.not_mem_nil, or_false, not_or]
  omega
 exact ⟨rfl, (hT2.block _ (by simp) hs).trans (Blk.new w _ _), hK2, ((Turns.refl _ w).alloc _).trans hT2⟩
set_option maxHeartbeats 2000000 in
theorem landSink (w : World) (k p base : Nat) (v : Value) (xs : List UInt8) (hp : SinkAt w p v) (hv : OffRow w base 5 v xs.length (bytesC xs)) (hbase : base <= w.heap.size)
 (A : Option Addr) (c : Nat) (bs : List UInt8) (hb : Reads w w.heap.size 1 A bs.length (bytesC bs)) (hl : xs.length + bs.length <= 140737488355328) :
 Calls Tryz.prog 171 #[.pointer (some ⟨k, 0, none⟩), sinkV p, .slice A bs.length c] w fun e w' => e = .returned (.tuple #[]) /\ ∃ v', SinkAt w' p v' /\
  OffRow w' base 5 v' (xs.length + bs.length) (bytesC (xs ++ bs)) /\ Turns ([p] ++ v.ownBlock.toList) w w' /\ (v'.ownBlock = v.ownBlock \/ ∃ g, v'.ownBlock = some g /\ w.heap.size <= g) := by
 have hlt := hp.lt
 have c0 : w.cell? ⟨p, 0, none⟩ = some v := hp.cell 0
 have f0 : w.frozen? ⟨p, 0, none⟩ = false := hp.frozen 0
 have hvp := hv.blk_ne hp (by decide)
 obtain ⟨iB, hiB, hB0, hB1, hB2⟩ := info_parts Tryz.infoByte
 have HI := Lib.hid hiB
 have H0 := Lib.hid hB0
 have H1 := Lib.hid hB1
 have H2 := Lib.hid hB2
 clear hiB hB0 hB1 hB2
 have HV := Lib.hid hv
 have HB := Lib.hid hb
 clear hv hb
 unfold sinkV
 obtain ⟨A0, c0', hvf, hc0, _⟩ := HV.out.form
 subst hvf
 go_enter Tryz.func171, Tryz.ntmps171
 have HQ : ∀ w2, w.grownBy w2 (Value.slice A0 xs.length c0').ownBlock -> SinkAt w2 p (.slice A0 xs.length c0') := fun w2 hg => hp.grown hg (fun e => hvp e.symm)
 go_wp2_with (at_builtin; (refine wpList_append_off _ rfl _ _ 23 rfl base 5 iB (.int .u8 0) 1 Tryz.underlying23 HI.out H0.out H1.out H2.out rfl (.slice A0 xs.length c0') xs.length (bytesC xs) (by rfl) HV.out w.heap.size A bs.length c (bytesC bs) (by rfl) HB.out (bytesC_oneCell bs) (by simp only [maxLen]; omega) (by omega) hbase ?_; intro v1 w2 hown2 hg2 hat2; obtain ⟨A1, c1, rfl, hc1, _⟩ := hown2.form; have q2 := Blk.cell (HQ w2 hg2) 0; have f2 := Blk.frozen (HQ w2 hg2) 0; have l2 := Blk.lt (HQ w2 hg2)))
 all_goals
  go_returns
  refine ⟨rfl, _, (HQ w2 hg2).set_ 0 _, ?_, ?_, ?_⟩
  · rw [bytesC_append]
    exact hown2.same fun g hg => Below.heap_setCell _ _ _ _ (fun e => hown2.blk_ne (HQ w2 hg2) (by decide) (hg.trans (congrArg some e)))
  · exact ((Turns.refl _ w).grown hg2 (fun g hg _ => by rw [hg]; simp)).setCell _ _ (by simp)
  · exact hat2.imp id fun e => ⟨_, e, Nat.le_refl _⟩
def wErr (f : Int × Int) : Int := if f.1 = 2 then 9 else if f.1 = 4 then 7 else if f.1 = 3 then 6 else if f.1 = 5 then 8 else 0
set_option maxHeartbeats 2000000 in
theorem sinkErr (w : World) (b k : Nat) (K : KS) (D : Nat -> Value) (hK : KernOf w k K) (h : TableOf w b k D) (i : Nat) (hi : i < 16) (p : Nat) (hD : D i = sinkV p) (A : Option Addr) (m c : Nat) (hm : 0 < m) (hf : wErr K.next ≠ 0) :
 Calls Tryz.prog 147 #[.pointer (some ⟨b, 0, none⟩), .int .i64 (i : Int), .slice A m c] w fun e w' => e = .returned (.tuple #[.int .i64 0, .int .i64 (wErr K.next)]) /\ KernOf w' k K.took /\ Turns [k] w w' := by
 have hhas := kHas w b k D h (i : Int)
 rw [if_pos (by omega), Int.toNat_natCast, hD] at hhas
 unfold sinkV at hhas
 have hk := h.kern
 have hltb : b < w.heap.size := Blk.lt h
 have hfa := kFault w k K hK
 obtain ⟨f1, f2, hff⟩ : ∃ f1 f2, K.next = (f1, f2) := ⟨_, _, rfl⟩
 rw [hff] at hf hfa ⊢
 have hcase : f1 = 2 \/ f1 = 4 \/ f1 = 3 \/ f1 = 5 := by
  unfold wErr at hf
  simp only at hf
  split at hf
  · exact .inl (by assumption)
  · split at hf
    · exact .inr (.inl (by assumption))
    · split at hf
      · exact .inr (.inr (.inl (by assumption)))
      · split at hf
        · exact .inr (.inr (.inr (by assumption)))
        · exact absurd rfl hf
 clear hf
 rcases hcase with rfl | rfl | rfl | rfl
 all_goals
  simp only [wErr, if_true, if_false, Int.reduceEq]
  go_enter Tryz.func147, Tryz.ntmps147
  go_wp2_with (first | (go_at_call 166; refine hhas.mono ?_; rintro e w1 ⟨rfl, rfl⟩) | (go_at_call 167; refine hfa.mono ?_; rintro e w2 ⟨rfl, hK2, hT2⟩))
  go_returns
  exact ⟨rfl, hK2.alloc _, hT2.alloc _⟩
set_option maxHeartbeats 2000000 in
theorem sinkOk (w : World) (b k : Nat) (K : KS) (D : Nat -> Value) (hK : KernOf w k K) (h : TableOf w b k D) (i : Nat) (hi : i < 16) (p : Nat) (hD : D i = sinkV p) (xs : List UInt8) (v : Value) (hp : SinkAt w p v) (base : Nat) (hv : OffRow w base 5 v xs.length (bytesC xs)) (hbase : base <= w.heap.size)
 (A : Option Addr) (c : Nat) (bs : List UInt8) (hb : Reads w w.heap.size 1 A bs.length (bytesC bs)) (hAk : ∀ ad, A = some ad -> ad.block ≠ k) (hc : bs.length <= c) (hm : 0 < bs.length) (hl : xs.length + bs.length <= 140737488355000) (hf1 : wErr K.next = 0) (n : Nat) (hn : shortN bs.length K.next = (n : Int)) :
 Calls Tryz.prog 147 #[.pointer (some ⟨b, 0, none⟩), .int .i64 (i : Int), .slice A bs.length c] w fun e w' => e = .returned (.tuple #[.int .i64 (n : Int), .int .i64 0]) /\ KernOf w' k K.took /\
  (∃ v', SinkAt w' p v' /\ OffRow w' base 5 v' (xs.length + n) (bytesC (xs ++ bs.take n)) /\ (v'.ownBlock = v.ownBlock \/ ∃ g, v'.ownBlock = some g /\ w.heap.size <= g)) /\
  Turns ([k, p] ++ v.ownBlock.toList) w w' := by
 have hhas := kHas w b k D h (i : Int)
 rw [if_pos (by omega), Int.toNat_natCast, hD] at hhas
 unfold sinkV at hhas
 have hk := h.kern
 have hltb : b < w.heap.size := Blk.lt h
 obtain ⟨f1, f2, hff⟩ : ∃ f1 f2, K.next = (f1, f2) := ⟨_, _, rfl⟩
 rw [hff] at hn hf1
 have hfa := kFault w k K hK
 rw [hff] at hfa
 have hpf : p ∉ K.foot k := hK.off hp (by decide) (by decide)
 have hbk : b ≠ k := Blk.ne_ h hK.blk (by decide)
 obtain ⟨g2, g4, g3, g5⟩ : f1 ≠ 2 /\ f1 ≠ 4 /\ f1 ≠ 3 /\ f1 ≠ 5 := by
  unfold wErr at hf1
  simp only at hf1
  refine ⟨?_, ?_, ?_, ?_⟩ <;> (rintro rfl; simp at hf1)
 have e2 : (f1 == 2) = false := beq_eq_false_iff_ne.2 g2
 have e3 : (f1 == 3) = false := beq_eq_false_iff_ne.2 g3
 have e4 : (f1 == 4) = false := beq_eq_false_iff_ne.2 g4
 have e5 : (f1 == 5) = false := beq_eq_false_iff_ne.2 g5
 clear g2 g3 g4 g5 hf1
 have hsh := fun W => kShort W bs.length (f1, f2)
 rw [hn] at hsh
 have hnl : n <= bs.length := by
  have := (shortN_le (m := (bs.length : Int)) (f := (f1, f2)) (by omega)).2
  omega
 obtain ⟨iB, hiB, hB0, hB1, hB2⟩ := info_parts Tryz.infoByte
 have hfr := fun W => run_front (P := Tryz.prog) 23 5 iB Tryz.underlying23 hiB A bs.length c n (by omega) W
 clear hiB hB0 hB1 hB2
 have HN := Lib.hid hnl
 have HC := Lib.hid hc
 have HB := Lib.hid hb
 have HV := Lib.hid hv
 clear hnl hc hb hv
 go_enter Tryz.func147, Tryz.ntmps147
 go_wp2_with (first
  | (go_at_call 166; refine hhas.mono ?_; rintro e w1 ⟨rfl, rfl⟩)
  | (go_at_call 167; refine hfa.mono ?_; rintro e w2 ⟨rfl, hK2, hT2⟩; have tb2 : TableOf w2 b k D := (hT2.block b hltb (by rw [List.mem_singleton]; exact hbk)).trans h; have k2 := tb2.kern; have ltb2 := Blk.lt tb2)
  | (go_at_call 169; refine (hsh _).mono ?_; rintro e w3 ⟨rfl, rfl⟩))
 obtain ⟨X, hX⟩ : ∃ X : Obj, .cells #[.int .i64 f1, .int .i64 f2] 44 = X := ⟨_, rfl⟩
 rw [hX]
 obtain ⟨W, hW⟩ : ∃ W, ((w2.alloc X).alloc X).drew = W := ⟨_, rfl⟩
 have TW : Turns [k] w1 W := by rw [<- hW]; exact ((hT2.alloc _).alloc _).drew
 have KW : KernOf W k K.took := by rw [<- hW]; exact ((hK2.alloc _).alloc _).same fun _ _ => rfl
 have bW : TableOf W b k D := (TW.block b hltb (by rw [List.mem_singleton]; exact hbk)).trans h
 have q0 := bW.kern
 have pW : SinkAt W p v := (TW.block p hp.lt (by rw [List.mem_singleton]; intro e; exact hpf (by rw [e]; simp [KS.foot]))).trans hp
 have vW : OffRow W base 5 v xs.length (bytesC xs) := HV.out.same fun g hg => TW.block g (HV.out.lt hg).2 (by rw [List.mem_singleton]; rintro rfl; exact HV.out.blk_ne hK.blk (by decide) hg)
 have rW : Reads W W.heap.size 1 A (bs.take n).length (bytesC (bs.take n)) := by
  have h1 := ((HB.out.turns TW (Nat.le_refl _) (by intro ad hA; rw [List.mem_singleton]; exact hAk ad hA)).more TW.size).front HN.out
  rw [List.length_take, Nat.min_eq_left HN.out, bytesC_take]
  exact h1
 have hland := landSink W k p base _ xs pW vW (Nat.le_trans hbase TW.size) A c (bs.take n) rW (by rw [List.length_take]; have := HN.out; omega)
 rw [List.length_take, Nat.min_eq_left HN.out] at hland
 unfold sinkV at hland
 clear bW rW
 have VW := Lib.hid vW
 clear vW
 refine still_tail 8 W hW (by kernel_rfl) (by kernel_rfl) ?_
 simp only [List.take_succ_cons, List.take_zero, List.drop_succ_cons, List.drop_zero]
 repeat still_step
 refine wpStill_nil ?_
 go_wp2_with (go_at_call 171; refine hland.mono ?_; rintro e w4 ⟨rfl, v4, hp4, hv4, hT4, hn4⟩)
 go_returns
 refine ⟨rfl, KW.turns hT4 ?_, ⟨v4, hp4, hv4, hn4.imp id fun ⟨g, e, hg⟩ => ⟨g, e, Nat.le_trans TW.size hg⟩⟩, (TW.more (by simp)).trans (hT4.more (by intro g hg; simp only [List.mem_append, List.mem_cons, List.not_mem_nil, or_false] at hg ⊢; rcases hg with hg | hg <;> simp [hg]))⟩
 intro g hg hm
 simp only [List.mem_append, List.mem_cons, List.not_mem_nil, or_false, Option.mem_toList] at hm
 rcases hm with hm | hm
 · exact hpf (hm ▸ hg)
 · exact KW.off_own VW.out (by decide) (by decide) hm hg
end
end Go.Proofs.YtffffjngodinnaaGreatDoor
