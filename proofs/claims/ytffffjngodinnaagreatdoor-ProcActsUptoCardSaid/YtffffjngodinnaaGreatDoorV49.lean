/-
  Parts of the proof.
-/
import Derived.Test.YtffffjngodinnaaGreatDoorV43
import Derived.Test.YtffffjngodinnaaGreatDoorV48
import Derived.Test.YtffffjngodinnaaGreatDoorV45
import Derived.Test.YtffffjngodinnaaGreatDoorV40
namespace Go.Proofs.YtffffjngodinnaaGreatDoor
section
open Go.RowKit Go.Maps Go.Shelf
theorem refWalk_all (B t : Nat) (T : Abs.T) (bs : List Nat) (Bd : Nat) (hBd : Bd <= 1048576) (hf : T.Fine Bd) (hwf : T.WF) (dp : Nat -> Nat) (h1 : dp 1 = 0) (hdp : ∀ i x, T.get i = some x -> x.dir = true -> i ≠ 1 -> dp i = dp x.up + 1 /\ dp i <= 10) : ∀ (k i : Nat) (x : Abs.Ent) (p : List UInt8) (W : World), RTree W B t T bs -> T.get i = some x -> x.dir = true -> dp i + k = 12 -> p.length <= 33 * dp i -> (T.walkN k i p).length <= 1048576 ->
 Calls Tryz.prog 54 #[.pointer (some ⟨t, 0, none⟩), .pointer (some ⟨bAt T.ents bs i, 0, none⟩), .string (strB p)] W (WalkOk W T k i p) := by
 intro k
 induction k with
 | zero =>
   intro i x p W _ hx hd hk _ _
   exfalso
   by_cases e : i = 1
   · rw [e, h1] at hk; omega
   · have := (hdp i x hx hd e).2
     omega
 | succ k ih =>
   intro i x p W hW hx hd hk hp hm
   have hle : dp i <= 10 := by
    by_cases e : i = 1
    · rw [e, h1]; omega
    · exact (hdp i x hx hd e).2
   refine refWalk_step B t T bs Bd hBd hf k i p (by omega) x hx hm ?_ W hW
   rintro j y q W' hW' ⟨n, hl⟩ hy hyd hq hm'
   have hj1 := (hwf.live _ _ _ _ hx hl).1
   have hu := hf.kids _ _ _ _ _ hx hl hy hyd
   have h2 := (hdp j y hy hyd hj1).1
   rw [hu] at h2
   exact ih j y q W' hW' hy hyd (by omega) (by omega) hm'
theorem refDumpT (w : World) (B t : Nat) (s : Abs.LS) (k : Nat) (hs : s.Ok k 1048576) (bs : List Nat) (h : RTree w B t s.T bs) (hk : k <= 1048576) :
 Calls Tryz.prog 23 #[.pointer (some ⟨t, 0, none⟩)] w fun e w' => ∃ v Ns, e = .returned v /\ NodesOwn w' w.heap.size v Ns /\ Ns.map NodeIt.nd = s.T.dump /\ Below w.heap.size w w' := by
 obtain ⟨dp, hd1, hdp⟩ := hs.wf.rank
 obtain ⟨xr, hxr, hxd, _⟩ := hs.wf.root
 have hlen : (s.T.walkN 12 1 []).length <= 1048576 := by
  rw [Abs.T.walkN_len]
  have := hs.wf.wide_le hs.fine
  have := hs.many
  omega
 refine refDump w B t s.T bs h (fun W hW => ?_) (fun a ha b hb e => hs.wf.walk_det hs.fine ha hb e) (fun a ha => hs.wf.walk_live ha) hlen
 exact refWalk_all B t s.T bs 1048576 (Nat.le_refl _) hs.fine hs.wf dp hd1 hdp 12 1 xr [] W (h.below hW) hxr hxd (by omega) (by simp) hlen
end
section
set_option maxRecDepth 100000
open Go.RowKit Go.Maps Go.Shelf
section
variable {w W : World} {A : Option Addr} {c n : Nat} {EA : Option Addr} {ec en : Nat} {cwd : ByteArray} {IA : Option Addr} {ic m : Nat} {NA : Option Addr} {nc nn : Nat} {buf line run : Int} {FA : Option Addr} {fc fn : Nat} {now : Int} {PA : Option Addr} {pc pn : Nat} {args env : List ByteArray} {inb : List UInt8} {Ls : List NodeIt} {fl : List (Int × Int)} {pks : List Int} {LA : Option Addr} {lc ln : Nat} {l : List ActIt}
theorem JobIn.on (h : JobIn w A n EA en cwd IA ic m NA nn FA fc fn PA pn args env inb Ls fl pks) (hW : Below w.heap.size w W) : JobIn W A n EA en cwd IA ic m NA nn FA fc fn PA pn args env inb Ls fl pks :=
 { h with
   ar := (h.ar.below hW).more hW.size
   er := (h.er.below hW).more hW.size
   ir := (h.ir.below hW).more hW.size
   nr := (h.nr.below hW).more hW.size
   nodes := fun x hx => ((h.nodes x hx).below hW).more hW.size
   fr := h.fr.below hW
   pr := (h.pr.below hW).more hW.size }
theorem ActsGiven.on (h : ActsGiven w LA ln l) (hW : Below w.heap.size w W) : ActsGiven W LA ln l :=
 { h with
   row := (h.row.below hW).more hW.size
   bytes := fun a ha => ⟨((h.bytes a ha).1.below hW).more hW.size, (h.bytes a ha).2⟩ }
def RefTo (w : World) (jc : Array Value) (lv : Value) (is : Bool) (no ne nn : Nat) (lo le : List UInt8) (st : Int) (D : List Abs.Nd) (sp pk us : Int) : Prop :=
 ∀ W, Below w.heap.size w W -> Calls Tryz.prog 7 #[.agg jc, lv] W fun e w' => ∃ Ao co Ae ce An cn Ns, e = .returned (.tuple #[.agg #[.slice Ao no co, .slice Ae ne ce, .int .i64 st, .slice An nn cn, .int .i64 sp, .int .i64 pk, .int .i64 us], .bool is]) /\
  ResTells w' Ao no Ae ne An nn lo le Ns /\ Ns.map NodeIt.nd = D /\ Below W.heap.size W w'
set_option maxHeartbeats 4000000 in
theorem refRun_no (h : JobIn w A n EA en cwd IA ic m NA nn FA fc fn PA pn args env inb Ls fl pks) (hM : Abs.mayT (Abs.LS.init.run (Ls.map NodeIt.nd)) (limBad n buf line run now) cwd.data.toList = none) :
 RefTo w #[.slice A n c, .slice EA en ec, .string cwd, .slice IA m ic, .slice NA nn nc, .int .i64 buf, .int .i64 line, .int .i64 run, .slice FA fn fc, .int .i64 now, .slice PA pn pc] (.slice LA ln lc) false 0 0 0 [] [] 0 [] 0 0 0 := by
 intro W hW
 have hj := h.on hW
 clear h hW
 obtain ⟨g, hg⟩ : ∃ g, W.heap.size = g := ⟨_, rfl⟩
 obtain ⟨Z, hZ⟩ : ∃ Z, (W.alloc (.cells #[.slice A n c, .slice EA en ec, .string cwd, .slice IA m ic, .slice NA nn nc, .int .i64 buf, .int .i64 line, .int .i64 run, .slice FA fn fc, .int .i64 now, .slice PA pn pc] 30)).alloc (.cells #[.slice none 0 0, .slice none 0 0, .int .i64 0, .slice none 0 0, .int .i64 0, .int .i64 0, .int .i64 0] 36) = Z := ⟨_, rfl⟩
 have bZ : Below W.heap.size W Z := by rw [<- hZ]; exact below_box (below_one W _) (Nat.le_refl _) _
 have kJ : Blk Z g 30 #[.slice A n c, .slice EA en ec, .string cwd, .slice IA m ic, .slice NA nn nc, .int .i64 buf, .int .i64 line, .int .i64 run, .slice FA fn fc, .int .i64 now, .slice PA pn pc] := by rw [<- hZ, <- hg]; exact (Blk.new W _ _).alloc _
 have kR : Blk Z (g + 1) 36 #[.slice none 0 0, .slice none 0 0, .int .i64 0, .slice none 0 0, .int .i64 0, .int .i64 0, .int .i64 0] := by rw [<- hZ, <- hg]; exact Blk.newNext W _ _ _
 have hjz := hj.on bZ
 have hmay := refMayJ Z A n c (.slice EA en ec) cwd (.slice IA m ic) NA nn nc Ls buf line run (.slice FA fn fc) now (.slice PA pn pc) hjz.cm hjz.nn_ hjz.nm hjz.nr hjz.nodes
 rw [hM] at hmay
 unfold jobC at hmay
 have HMAY := Lib.hid hmay
 have hZs := kR.lt
 have lg := kJ.lt
 rw [hg] at bZ
 have HB := Lib.hid bZ
 have HKR := Lib.hid kR
 have KJ := Lib.hid kJ
 have jsz : (Tryz.prog.info? 30).map (·.size) = some (#[.slice A n c, .slice EA en ec, .string cwd, .slice IA m ic, .slice NA nn nc, .int .i64 buf, .int .i64 line, .int .i64 run, .slice FA fn fc, .int .i64 now, .slice PA pn pc] : Array Value).size := by kernel_rfl
 have JSZ := Lib.hid jsz
 rw [hg]
 clear bZ kJ kR hmay hj hjz hM jsz
 go_enter Tryz.func7, Tryz.ntmps7
 go_wp2_with (first
  | (refine wpList_load_row rfl 30 (.tmp 2) rfl g rfl 30 #[.slice A n c, .slice EA en ec, .string cwd, .slice IA m ic, .slice NA nn nc, .int .i64 buf, .int .i64 line, .int .i64 run, .slice FA fn fc, .int .i64 now, .slice PA pn pc] (0, 0) _ KJ.out Tryz.underlying30 rfl JSZ.out ?_)
  | (go_at_call 14; refine HMAY.out.mono ?_; rintro e w1 ⟨rfl, hb1⟩
     have HR1 := Lib.hid (Blk.on HKR.out hb1))
  | (refine wpList_store_blk rfl 36 (.tmp 4) (.tmp 18) rfl (g + 1) 36 #[.slice none 0 0, .slice none 0 0, .int .i64 0, .slice none 0 0, .int .i64 0, .int .i64 0, .int .i64 0] #[.slice none 0 0, .slice none 0 0, .int .i64 0, .slice none 0 0, .int .i64 0, .int .i64 0, .int .i64 0] rfl rfl HR1.out rfl (by kernel_rfl) (by kernel_rfl) ?_
     intro w2 b2 g2
     obtain ⟨q0, q1, q2, q3, q4, q5, q6⟩ := cells7 b2))
 refine bodyPost_ret (v := .tuple #[.agg #[.slice none 0 0, .slice none 0 0, .int .i64 0, .slice none 0 0, .int .i64 0, .int .i64 0, .int .i64 0], .bool false]) (by simp [results, Tryz.results7, go_sem, q0, q1, q2, q3, q4, q5, q6]) rfl ?_
 refine ⟨none, 0, none, 0, none, 0, [], rfl, ResTells.nil _, rfl, ?_⟩
 exact (HB.out.trans (hb1.mono (Nat.le_of_lt lg))).grown g2 (by have := hb1.size; omega) (fun k hk => by cases hk; omega)
end
end
section
open Go.RowKit Go.Maps Go.Shelf
namespace PF
variable {fl : List (Int × Int)}
theorem inb_all : ∀ (f : Nat) (s : PF) (b : Bool) (bs : List UInt8), (all fl f s b bs).1.inb = s.inb
 | 0, _, _, _ => rfl
 | f + 1, s, b, bs => by
   rw [all]
   split
   · rfl
   split
   · exact inb_all f (s.failed fl) b bs
   split
   · exact inb_all f (s.wrote fl b _) b _
   · rfl
theorem inb_copies : ∀ (f : Nat) (s : PF) (m : Nat), (copy2 fl (reads fl f s m)).1.inb.length <= s.inb.length
 | 0, _, _ => Nat.le_refl _
 | f + 1, s, m => by
   rw [reads]
   split
   · exact inb_copies f (s.failed fl) m
   split
   · exact Nat.le_refl _
   · unfold copy2
     dsimp only
     rw [inb_all]
     show (s.inb.drop _).length <= _
     rw [List.length_drop]
     omega
theorem inb_act (s : PF) (k n : Int) (bs : List UInt8) : (s.act fl k n bs).1.inb.length <= s.inb.length := by
 unfold act
 split
 · exact inb_copies _ s _
 split
 · rw [inb_all]; exact Nat.le_refl _
 split
 · rw [inb_all]; exact Nat.le_refl _
 split
 · exact Nat.le_refl _
 split
 · exact Nat.le_refl _
 split
 · exact Nat.le_refl _
 · exact Nat.le_refl _
end PF
structure RLoop (w0 : World) (M k q tp r x0 x1 x2 : Nat) (fl : List (Int × Int)) (now : Int) (l : List ActIt) (R : PF × Int) (i : Nat) (S : PF) (st : Int) (ov : Bool) (w : World) : Prop where
 run : RSt w M k q tp r x0 x1 x2 fl now S st ov
 below : Below M w0 w
 ends : (ov = true /\ (S, st) = R) \/ (ov = false /\ st = 0 /\ PF.acts fl S (l.drop i) = R)
 steps : S.steps + S.left fl + S.inb.length + PF.bulk (l.drop i) + 2 < 4611686018427387904
 said : ∀ b, (S.said b).length + S.inb.length + PF.bulk (l.drop i) <= 140737488355000
 inb : S.inb.length <= 1048576
 held : ∃ h : Nat, S.held = (h : Int) /\ (h : Int) + PF.held_ (l.drop i) < 4611686018427387904
section
variable {w0 w w' : World} {M k q tp r x0 x1 x2 : Nat} {fl : List (Int × Int)} {now : Int} {l : List ActIt} {R : PF × Int} {i : Nat} {S : PF} {st : Int} {ov : Bool}
theorem RLoop.drop (a : ActIt) (ha : l[i]? = some a) : l.drop i = a :: l.drop (i + 1) /\ PF.bulk (l.drop i) = a.bs.length + 1 + PF.bulk (l.drop (i + 1)) /\ PF.held_ (l.drop i) = (if a.k = 4 then max 0 a.n else 0) + PF.held_ (l.drop (i + 1)) := by
 obtain ⟨hi, he⟩ := List.getElem?_eq_some_iff.1 ha
 have hd : l.drop i = a :: l.drop (i + 1) := by rw [List.drop_eq_getElem_cons hi, he]
 rw [hd]
 exact ⟨rfl, by simp [PF.bulk], by simp [PF.held_]⟩
theorem RLoop.does (h : RLoop w0 M k q tp r x0 x1 x2 fl now l R i S st false w) (a : ActIt) (ha : l[i]? = some a) (hb : Still w M a.A a.bs.length a.c a.bs) (hn : -9223372036854775808 <= a.n /\ a.n <= 9223372036854775807) :
 Calls Tryz.prog 21 #[.pointer (some ⟨r, 0, none⟩), .agg #[.int .i64 a.k, .int .i64 a.n, .slice a.A a.bs.length a.c]] w fun e w' => e = .returned (.tuple #[]) /\ ∃ S' st' ov', RLoop w0 M k q tp r x0 x1 x2 fl now l R (i + 1) S' st' ov' w' := by
 obtain ⟨hd, hbk, hhd⟩ := RLoop.drop a ha
 obtain ⟨hh, hh1, hh2⟩ := h.held
 have hs := h.steps
 have hp := PF.held_nonneg (l.drop (i + 1))
 rw [hhd] at hh2
 have hst : st = 0 /\ PF.acts fl S (l.drop i) = R := by
  rcases h.ends with ⟨e, _⟩ | ⟨_, e1, e2⟩
  · cases e
  · exact ⟨e1, e2⟩
 obtain ⟨rfl, hR⟩ := hst
 refine (refDoes h.run a.k a.n a.A a.bs.length a.c a.bs hb hn (by omega) (fun b => by have := h.said b; omega) h.inb hh hh1 (by omega)).mono ?_
 rintro e w' ⟨rfl, hg, hr⟩
 have hgr := PF.grew_act (fl := fl) S a.k a.n a.bs
 have hin := PF.inb_act (fl := fl) S a.k a.n a.bs
 obtain ⟨h', h1, h2⟩ := PF.held_act (fl := fl) S a.k a.n a.bs hh hh1
 have hu : S.used <= fl.length := h.run.rk.used
 refine ⟨rfl, (S.act fl a.k a.n a.bs).1, endSt 0 (S.act fl a.k a.n a.bs).2, endOv (S.act fl a.k a.n a.bs).2, hr, h.below.trans hg.below, ?_, ?_, fun b => ?_, by have := h.inb; omega, h', h1, by omega⟩
 · rw [hd, PF.acts] at hR
   by_cases h0 : 0 <= (S.act fl a.k a.n a.bs).2
   · rw [if_pos h0] at hR
     refine .inl ⟨by unfold endOv; simpa using h0, ?_⟩
     rw [<- hR]
     unfold endSt
     rw [if_pos h0]
   · rw [if_neg h0] at hR
     refine .inr ⟨by unfold endOv; simpa using h0, ?_, hR⟩
     unfold endSt
     rw [if_neg h0]
 · have := hgr.steps hu
   omega
 · have h3 := hgr.said b
   have h4 := h.said b
   omega
end
end
end Go.Proofs.YtffffjngodinnaaGreatDoor
