/-
  Parts of the proof.
-/
import Derived.Test.YtffffjngodinnaaGreatDoorV15
namespace Go.Proofs.YtffffjngodinnaaGreatDoor
section
open Go.RowKit Go.Maps
theorem Tryz.infoAct : (Tryz.prog.info? 34).map (fun i => (i.zero, i.size, i.bytes)) = some (some (.agg #[.int .i64 0, .int .i64 0, .slice none 0 0]), 3, 40) := by kernel_rfl
theorem actsC_oneCell (l : List ActIt) : ∀ u ∈ actsC l, u.oneCell' = true := by
 intro u hu
 obtain ⟨a, _, hq⟩ := List.mem_flatMap.1 hu
 simp only [actC, List.mem_cons, List.not_mem_nil, or_false] at hq
 rcases hq with rfl | rfl | rfl <;> rfl
set_option maxHeartbeats 400000 in
theorem cloneA_any (A : Option Addr) (n cap : Nat) (l : List ActIt) (w : World) (B : Nat) (hn : n = l.length) (hr : Reads w B 3 A n (actsC l)) (hB : B <= w.heap.size) (hl : n <= 2097152) :
 Calls Tryz.prog 36 #[.slice A n cap] w fun e w' => ∃ v, e = .returned v /\ w'.ownsRow w.heap.size 34 3 v n (actsC l) /\ Below w.heap.size w w' := by
 have heq := fun (W : World) => Lib.run_eql_slice_nil (P := Tryz.prog) W 31 34 A n cap 0 0 Tryz.underlying31
 have hR := Lib.hid hr
 have hN := Lib.hid hn
 clear hr hn
 cases A with
 | none =>
   go_enter Tryz.func36, Tryz.ntmps36
   go_wp2
   go_returns
   have h0 : n = 0 := by
    rcases Nat.eq_zero_or_pos n with h | h
    · exact h
    · obtain ⟨ad, h, _⟩ := hR.out.2 h
      cases h
   have hnil : l = [] := List.eq_nil_of_length_eq_zero (hN.out.symm.trans h0)
   subst hnil h0
   exact ⟨_, rfl, World.ownsRow_nil _ _ _ _, Below.refl _ _⟩
 | some ad =>
   obtain ⟨iS, hiS, hS0, hS1, hS2⟩ := info_parts Tryz.infoAct
   have HI := Lib.hid hiS
   have H0 := Lib.hid hS0
   have H1 := Lib.hid hS1
   have H2 := Lib.hid hS2
   clear hiS hS0 hS1 hS2
   go_enter Tryz.func36, Tryz.ntmps36
   go_wp2_with (at_builtin; refine wpList_append_any _ rfl _ _ 31 rfl w.heap.size 34 iS (.agg #[.int .i64 0, .int .i64 0, .slice none 0 0]) 3 40 Tryz.underlying31 HI.out H0.out H1.out H2.out rfl (by decide) (.slice (some ⟨w.heap.size, 0, none⟩) 0 0) 0 [] rfl (World.ownsRow_made w #[] 0 (Nat.le_refl _) (by decide) rfl) w.heap.size (some ad) n cap (actsC l) rfl ((hR.out.more hB).alloc (Nat.le_refl _) _) (actsC_oneCell l) (by simp only [maxLen]; omega) (by omega) (by simp) ?_; intro v1 w1 hown1 hg1 hat1)
   go_returns
   refine ⟨v1, rfl, by simpa using hown1, ((Below.refl _ _).alloc (Nat.le_refl _) _).grown hg1 (by simp) (fun k hk => ?_)⟩
   simp [Value.ownBlock] at hk
   omega
set_option maxHeartbeats 400000 in
theorem cloneU_any (w : World) (A : Option Addr) (c : Nat) (bs : List UInt8) (h : Bytes w w.heap.size (.slice A bs.length c) bs) (hl : bs.length <= 140737488355328) :
 Calls Tryz.prog 37 #[.slice A bs.length c] w fun e w' => ∃ v, e = .returned v /\ w'.ownsRow w.heap.size 5 1 v bs.length (bytesC bs) /\ Below w.heap.size w w' := by
 obtain ⟨A', cap', e, h2, h3, h4, h5⟩ := h
 cases e
 obtain ⟨n, hn⟩ : ∃ n, bs.length = n := ⟨_, rfl⟩
 rw [hn] at h2 h5 hl ⊢
 have hR := Lib.hid h5
 have hN := Lib.hid hn
 cases A with
 | none =>
   have hc := h4 rfl
   subst hc
   obtain rfl : n = 0 := by omega
   refine (cloneU_nil w).mono ?_
   rintro e w' ⟨rfl, rfl⟩
   have hnil : bs = [] := List.eq_nil_of_length_eq_zero hN.out
   subst hnil
   exact ⟨_, rfl, World.ownsRow_nil _ _ _ _, Below.refl _ _⟩
 | some ad =>
   have heq := fun (W : World) => Lib.run_eql_slice_nil (P := Tryz.prog) W 23 5 (some ad) n c 0 0 Tryz.underlying23
   obtain ⟨iB, hiB, hB0, hB1, hB2⟩ := info_parts Tryz.infoByte
   have HI := Lib.hid hiB
   have H0 := Lib.hid hB0
   have H1 := Lib.hid hB1
   have H2 := Lib.hid hB2
   clear hiB hB0 hB1 hB2 h5 hn
   go_enter Tryz.func37, Tryz.ntmps37
   go_wp2_with (at_builtin; refine wpList_append_any _ rfl _ _ 23 rfl w.heap.size 5 iB (.int .u8 0) 1 1 Tryz.underlying23 HI.out H0.out H1.out H2.out rfl (by decide) (.slice (some ⟨w.heap.size, 0, none⟩) 0 0) 0 [] rfl (World.ownsRow_made w #[] 0 (Nat.le_refl _) (by decide) rfl) w.heap.size (some ad) n c (bytesC bs) rfl (hR.out.alloc (Nat.le_refl _) _) (bytesC_oneCell bs) (by simp only [maxLen]; omega) (by omega) (by simp) ?_; intro v1 w1 hown1 hg1 hat1)
   go_returns
   refine ⟨v1, rfl, by simpa using hown1, ((Below.refl _ _).alloc (Nat.le_refl _) _).grown hg1 (by simp) (fun k hk => ?_)⟩
   simp [Value.ownBlock] at hk
   omega
def ActIt.strip (a : ActIt) : Int × Int × List UInt8 := (a.k, a.n, a.bs)
theorem PF.acts_strip (fl : List (Int × Int)) : ∀ (l l' : List ActIt) (s : PF), l.map ActIt.strip = l'.map ActIt.strip -> s.acts fl l = s.acts fl l' /\ (s.FitsAll fl l -> s.FitsAll fl l')
 | [], [], _, _ => ⟨rfl, id⟩
 | [], b :: l', _, h => by simp at h
 | a :: l, [], _, h => by simp at h
 | a :: l, b :: l', s, h => by
   simp only [List.map_cons, List.cons.injEq, ActIt.strip, Prod.mk.injEq] at h
   obtain ⟨⟨h1, h2, h3⟩, h4⟩ := h
   have ih := fun s' => PF.acts_strip fl l l' s' h4
   rw [PF.acts, PF.acts, h1, h2, h3]
   refine ⟨by rw [(ih _).1], ?_⟩
   unfold PF.FitsAll
   rw [h1, h2, h3]
   exact fun h => ⟨h.1, (ih _).2 h.2⟩
end
section
namespace PF
variable {fl : List (Int × Int)}
structure Grew (fl : List (Int × Int)) (s s' : PF) (d e : Nat) : Prop where
 used : s.used <= fl.length -> s'.used <= fl.length
 steps : s.used <= fl.length -> s'.steps + s'.left fl + s'.inb.length <= s.steps + s.left fl + s.inb.length + d
 said : ∀ b, (s'.said b).length + s'.inb.length <= (s.said b).length + s.inb.length + e
theorem Grew.trans {s s' s'' : PF} {d e d' e' : Nat} (h : Grew fl s s' d e) (h' : Grew fl s' s'' d' e') : Grew fl s s'' (d + d') (e + e') :=
 ⟨fun hu => h'.used (h.used hu), fun hu => by have := h.steps hu; have := h'.steps (h.used hu); omega, fun b => by have := h.said b; have := h'.said b; omega⟩
theorem Grew.refl (s : PF) : Grew fl s s 0 0 := ⟨id, fun _ => Nat.le_refl _, fun _ => Nat.le_refl _⟩
theorem Grew.more {s s' : PF} {d e d' e' : Nat} (h : Grew fl s s' d e) (hd : d <= d') (he : e <= e') : Grew fl s s' d' e' :=
 ⟨h.used, fun hu => by have := h.steps hu; omega, fun b => by have := h.said b; omega⟩
theorem grew_failed {s : PF} (h : wErr (s.next fl) ≠ 0 \/ (s.next fl).1 = 2) : Grew fl s (s.failed fl) 0 0 := by
 refine ⟨fun hu => (took_le hu).1, fun hu => ?_, fun b => Nat.le_refl _⟩
 have ht := took_lt h hu
 show s.steps + 1 + (fl.length - s.took fl) + s.inb.length <= s.steps + (fl.length - s.used) + s.inb.length + 0
 omega
theorem grew_wrote {s : PF} (b : Bool) (bs : List UInt8) : Grew fl s (s.wrote fl b bs) 1 bs.length := by
 refine ⟨fun hu => (took_le hu).1, fun hu => ?_, fun b' => ?_⟩
 · have ht := took_le (fl := fl) hu
   show s.steps + 1 + (fl.length - s.took fl) + s.inb.length <= s.steps + (fl.length - s.used) + s.inb.length + 1
   omega
 · show (if b' = b then s.said b ++ bs else s.said b').length + s.inb.length <= _
   split
   · subst b'; rw [List.length_append]; omega
   · omega
theorem grew_all : ∀ (f : Nat) (s : PF) (b : Bool) (bs : List UInt8), Grew fl s (all fl f s b bs).1 bs.length bs.length /\ (all fl f s b bs).1.held = s.held
 | 0, s, b, bs => ⟨(Grew.refl s).more (Nat.zero_le _) (Nat.zero_le _), rfl⟩
 | f + 1, s, b, bs => by
   rw [all]
   split
   · exact ⟨(Grew.refl s).more (Nat.zero_le _) (Nat.zero_le _), rfl⟩
   · rename_i hne
     have hpos := List.length_pos_iff.2 hne
     split
     · rename_i h9
       have ih := grew_all f (s.failed fl) b bs
       exact ⟨((grew_failed (.inl (by rw [h9]; decide))).trans ih.1).more (by omega) (by omega), ih.2⟩
     · split
       · have hp := some_pos (fl := fl) (s := s) hpos
         have ih := grew_all f (s.wrote fl b (bs.take (s.some_ fl bs.length))) b (bs.drop (s.some_ fl bs.length))
         refine ⟨((grew_wrote b (bs.take (s.some_ fl bs.length))).trans ih.1).more ?_ ?_, ih.2⟩
         · rw [List.length_drop]; omega
         · rw [List.length_drop, List.length_take]; omega
       · rename_i h0
         exact ⟨(grew_failed (.inl h0)).more (Nat.zero_le _) (Nat.zero_le _), rfl⟩
theorem grew_copies : ∀ (f : Nat) (s : PF) (m : Nat), Grew fl s (copy2 fl (reads fl f s m)).1 1 0 /\ (copy2 fl (reads fl f s m)).1.held = s.held
 | 0, s, m => ⟨(Grew.refl s).more (by omega) (Nat.le_refl _), rfl⟩
 | f + 1, s, m => by
   rw [reads]
   split
   · rename_i h2
     have ih := grew_copies f (s.failed fl) m
     exact ⟨((grew_failed (.inr h2)).trans ih.1).more (by omega) (by omega), ih.2⟩
   · split
     · rename_i h4
       have hw : wErr (s.next fl) ≠ 0 := by unfold wErr; rw [if_neg (by rw [h4]; decide), if_pos h4]; decide
       exact ⟨(grew_failed (.inl hw)).more (by omega) (Nat.le_refl _), rfl⟩
     · obtain ⟨n, hn⟩ : ∃ n, s.some_ fl (min m s.inb.length) = n := ⟨_, rfl⟩
       have hnl := some_le (fl := fl) (s := s) (min m s.inb.length)
       rw [hn] at hnl ⊢
       have htl : (s.inb.take n).length = n := by rw [List.length_take]; omega
       have ih := grew_all (fl := fl) ((s.read fl n).left fl + (s.inb.take n).length + 1) (s.read fl n) true (s.inb.take n)
       rw [htl] at ih
       have hdl : (s.read fl n).inb.length = s.inb.length - n := List.length_drop
       show Grew fl s (all fl ((s.read fl n).left fl + (s.inb.take n).length + 1) (s.read fl n) true (s.inb.take n)).1 1 0 /\ (all fl ((s.read fl n).left fl + (s.inb.take n).length + 1) (s.read fl n) true (s.inb.take n)).1.held = s.held
       rw [htl]
       refine ⟨⟨fun hu => ih.1.used (took_le hu).1, fun hu => ?_, fun b => ?_⟩, ih.2⟩
       · have h1 := ih.1.steps (took_le (fl := fl) hu).1
         have h2 := took_le (fl := fl) hu
         have h3 : (s.read fl n).steps = s.steps + 1 := rfl
         have h4 : (s.read fl n).left fl <= s.left fl := by show fl.length - s.took fl <= fl.length - s.used; omega
         rw [hdl] at h1
         omega
       · have h1 := ih.1.said b
         have h2 : (s.read fl n).said b = s.said b := rfl
         rw [hdl, h2] at h1
         omega
theorem grew_act (s : PF) (k n : Int) (bs : List UInt8) : Grew fl s (s.act fl k n bs).1 (bs.length + 1) bs.length := by
 unfold act
 split
 · exact (grew_copies _ s _).1.more (by omega) (by omega)
 split
 · exact (grew_all _ s true bs).1.more (by omega) (by omega)
 split
 · exact (grew_all _ s false bs).1.more (by omega) (by omega)
 split
 · exact ⟨id, fun _ => by show s.steps + (fl.length - s.used) + s.inb.length <= s.steps + (fl.length - s.used) + s.inb.length + _; omega, fun b => by show (s.said b).length + s.inb.length <= _; omega⟩
 split
 · exact ⟨id, fun _ => by show s.steps + (fl.length - s.used) + s.inb.length <= s.steps + (fl.length - s.used) + s.inb.length + _; omega, fun b => by show (s.said b).length + s.inb.length <= _; omega⟩
 split
 · exact (Grew.refl s).more (by omega) (by omega)
 · exact (Grew.refl s).more (by omega) (by omega)
theorem held_act (s : PF) (k n : Int) (bs : List UInt8) (h : Nat) (hh : s.held = (h : Int)) : ∃ h' : Nat, (s.act fl k n bs).1.held = (h' : Int) /\ (h' : Int) <= h + (if k = 4 then max 0 n else 0) := by
 unfold act
 split
 · exact ⟨h, (grew_copies _ s _).2.trans hh, by split <;> omega⟩
 split
 · exact ⟨h, (grew_all _ s true bs).2.trans hh, by split <;> omega⟩
 split
 · exact ⟨h, (grew_all _ s false bs).2.trans hh, by split <;> omega⟩
 split
 · exact ⟨((h : Int) + max 0 n).toNat, by show s.held + max 0 n = _; rw [hh]; omega, by omega⟩
 split
 · refine ⟨(dropped h n).toNat, ?_, ?_⟩
   · show dropped s.held n = _
     rw [hh]
     unfold dropped
     split <;> omega
   · unfold dropped
     split <;> omega
 split
 · exact ⟨h, hh, by omega⟩
 · exact ⟨h, hh, by omega⟩
def bulk (l : List ActIt) : Nat := (l.map fun a => a.bs.length + 1).sum
def held_ (l : List ActIt) : Int := (l.map fun a => if a.k = 4 then max 0 a.n else 0).sum
theorem held_nonneg (l : List ActIt) : 0 <= held_ l := by
 induction l with
 | nil => exact Int.le_refl _
 | cons a l ih => simp only [held_, List.map_cons, List.sum_cons] at ih ⊢; split <;> omega
theorem fits_small : ∀ (l : List ActIt) (s : PF), s.used <= fl.length -> (∀ a ∈ l, -9223372036854775808 <= a.n /\ a.n <= 9223372036854775807) -> s.steps + s.left fl + s.inb.length + bulk l + 2 < 4611686018427387904 ->
 (∀ b, (s.said b).length + s.inb.length + bulk l <= 140737488355000) -> (∃ h : Nat, s.held = (h : Int) /\ (h : Int) + held_ l < 4611686018427387904) -> s.FitsAll fl l
 | [], _, _, _, _, _, _ => trivial
 | a :: l, s, hu, hn, hs, hd, ⟨h, hh, hhl⟩ => by
   have hb : bulk (a :: l) = a.bs.length + 1 + bulk l := by simp [bulk]
   have hc : held_ (a :: l) = (if a.k = 4 then max 0 a.n else 0) + held_ l := by simp [held_]
   have hp0 : 0 <= (if a.k = 4 then max 0 a.n else 0) := by split <;> omega
   have hp := held_nonneg l
   rw [hb] at hs
   rw [hc] at hhl
   have hg := grew_act (fl := fl) s a.k a.n a.bs
   obtain ⟨h', h1, h2⟩ := held_act (fl := fl) s a.k a.n a.bs h hh
   refine ⟨⟨hn a (by simp), by omega, fun b => by have := hd b; rw [hb] at this; omega, h, hh, by omega, fun e => by rw [if_pos e] at hhl; omega⟩, ?_⟩
   refine fits_small l _ (hg.used hu) (fun x hx => hn x (by simp [hx])) ?_ (fun b => ?_) ⟨h', h1, by omega⟩
   · have := hg.steps hu
     omega
   · have h3 := hg.said b
     have h4 := hd b
     rw [hb] at h4
     omega
end PF
end
section
open Go.RowKit Go.Maps
section
variable {w w' : World} {t : Nat} {S : TS} {T : Abs.T} {β : Nat -> Nat} {tb tr : TypeId} {B : Nat}
theorem Stay.mapOf {P : Program} {k : TypeId} {b n : Nat} {f : Lit -> Option Value} (h : Stay tb tr B w w') (hm : MapOf w P k b n f) : MapOf w' P k b n f := by
 obtain ⟨D, ⟨es, clock, h0, h1⟩, h2⟩ := hm
 exact ⟨D, ⟨es, clock, h.same _ _ h0 trivial, h1⟩, h2⟩
theorem Stay.offRow {base n : Nat} {e : TypeId} {v : Value} {xs : List Value} (h : Stay tb tr B w w') (h1 : e ≠ tb) (h2 : e ≠ tr) (hr : OffRow w base e v n xs) : OffRow w' base e v n xs := by
 refine hr.same fun g hg => ?_
 rcases hr.2 with ⟨e', _⟩ | ⟨g', off, cap, cur, e', _, hb, _⟩
 · rw [e'] at hg; simp [Value.ownBlock] at hg
 · obtain rfl : g' = g := by rw [e'] at hg; simpa [Value.ownBlock] using hg
   exact (h.same _ _ hb ⟨h1, h2⟩).trans hb.symm
theorem Stay.ownsRow {base size n : Nat} {e : TypeId} {v : Value} {xs : List Value} (h : Stay tb tr B w w') (h1 : e ≠ tb) (h2 : e ≠ tr) (hr : w.ownsRow base e size v n xs) : w'.ownsRow base e size v n xs := by
 refine ownsRow_same hr fun g hg => ?_
 obtain ⟨cur, hb⟩ : ∃ cur, Blk w g e cur := by
  rcases hr.2 with ⟨h0, _⟩ | ⟨g', cap, cur, hv, _, hb, _⟩
  · rw [h0] at hg; simp [Value.ownBlock] at hg
  · obtain rfl : g' = g := by rw [hv] at hg; simpa [Value.ownBlock] using hg
    exact ⟨cur, hb⟩
 exact (h.same _ _ hb ⟨h1, h2⟩).trans hb.symm
theorem TreeIs.stay (h : TreeIs w t S T β) (hs : Stay tb tr B w w') (h1 : 169 ≠ tb /\ 169 ≠ tr) (h2 : 179 ≠ tb /\ 179 ≠ tr) (h3 : 5 ≠ tb /\ 5 ≠ tr) : TreeIs w' t S T β := by
 refine ⟨⟨hs.blk h.mem.blk h1.1 h1.2, hs.mapOf h.mem.files, fun b x hx => ?_, h.mem.apart⟩, h.rep, h.wf⟩
 obtain ⟨k1, k2, k3⟩ := h.mem.item b x hx
 exact ⟨hs.blk k1 h2.1 h2.2, hs.offRow h3.1 h3.2 k2, fun hd => ⟨hs.mapOf (k3 hd).1, (k3 hd).2⟩⟩
end
end
end Go.Proofs.YtffffjngodinnaaGreatDoor
