/-
  Parts of the proof.
-/
import Derived.Test.YtffffjngodinnaaGreatDoorV20
import Derived.Test.YtffffjngodinnaaGreatDoorV27
section
namespace Go.Proofs.YtffffjngodinnaaGreatDoor
set_option maxRecDepth 100000
open Go.RowKit Go.Maps
theorem rep_linked {S S4 : TS} {T : Abs.T} {β : Nat -> Nat} (h : Rep S T β) (hwf : T.WF) {d j : Nat} {n : Abs.Name} {y z : Abs.Ent} (hy : T.get d = some y) (hyd : y.dir = true) (hlk : Abs.lk y.names n = none) (hz : T.get j = some z) (hzd : z.dir = false)
 {yd yj : Item} {m : Nat} (hdi : S.items (β d) = some yd) (hji : S.items (β j) = some yj) (r0 : S4.root = S.root) (r1 : S4.next = S.next) (r2 : S4.many = S.many + 1)
 (r3 : ∀ c, S4.items c = if c = β j then some { yj with links := yj.links + 1, up := if yj.dir then β d else yj.up } else if c = β d then some { yd with nn := m, nf := updN yd.nf n (some (β j)) } else S.items c)
 (r4 : ∀ i, S4.files i = S.files i) : Rep S4 (T.linked d n j) β := by
 have hdj : d ≠ j := by
  rintro rfl
  rw [hy] at hz
  cases hz
  rw [hyd] at hzd
  cases hzd
 have hbdj : β d ≠ β j := fun e => hdj (h.inj _ _ _ _ hy hz e)
 have hg := fun i => Abs.T.linked_get (t := T) (i := i) (n := n) (j := j) hy
 have hback : ∀ {i z'}, (T.linked d n j).get i = some z' -> (i = d /\ z' = { y with names := Abs.ins n j y.names }) \/ (i ≠ d /\ T.get i = some z') := by
  intro i z' hz
  rw [hg] at hz
  by_cases e2 : i = d
  · rw [if_pos e2] at hz; cases hz; exact .inl ⟨e2, rfl⟩
  · rw [if_neg e2] at hz; exact .inr ⟨e2, hz⟩
 have hlive : ∀ {i z'}, (T.linked d n j).get i = some z' -> ∃ z, T.get i = some z := by
  intro i z' hz
  rcases hback hz with ⟨rfl, _⟩ | ⟨_, hz⟩
  · exact ⟨y, hy⟩
  · exact ⟨z', hz⟩
 have hlinks := fun i => hwf.linked_links (n := n) (j := j) (i := i) hy
 refine ⟨?_, ?_, ?_, ?_, ?_, ?_⟩
 · rw [r0]; exact h.root
 · rw [r1, h.next]; rfl
 · rw [r2, h.many, hwf.linked_many hy]; omega
 · intro i k zi zk hi hk he
   obtain ⟨_, hi⟩ := hlive hi
   obtain ⟨_, hk⟩ := hlive hk
   exact h.inj _ _ _ _ hi hk he
 · intro i z' hz'
   rcases hback hz' with ⟨rfl, rfl⟩ | ⟨hid, hzi⟩
   · obtain ⟨w0, hw0, h1, h2, h3, h4, h5, h6, h7, h8⟩ := h.item _ _ hy
     rw [hdi] at hw0
     cases hw0
     rw [r3, if_neg hbdj, if_pos rfl, hlinks, if_neg hdj]
     refine ⟨_, rfl, h1, h2, h3, h4, h5, fun hd => ⟨fun k => ?_, ?_⟩, h7, h8⟩
     · show updN yd.nf n (some (β j)) k = _
       simp only
       rw [Abs.lk_ins hlk]
       unfold updN
       by_cases hk : k = n
       · rw [if_pos hk, if_pos hk]; rfl
       · rw [if_neg hk, if_neg hk, (h6 hyd).1 k]
     · exact (h6 hyd).2
   · by_cases hij : i = j
     · subst hij
       rw [hz] at hzi
       cases hzi
       obtain ⟨w0, hw0, h1, h2, h3, h4, h5, h6, h7, h8⟩ := h.item _ _ hz
       rw [hji] at hw0
       cases hw0
       rw [r3, if_pos rfl, hlinks, if_pos rfl]
       refine ⟨_, rfl, h1, h2, h3, h4, h5, fun hd => ?_, ?_, h8⟩
       · rw [hzd] at hd; cases hd
       · show yj.links + 1 = _
         rw [h7]; rfl
     · obtain ⟨w0, hw0, h1, h2, h3, h4, h5, h6, h7, h8⟩ := h.item _ _ hzi
       rw [r3, if_neg (fun e => hij (h.inj _ _ _ _ hzi hz e)), if_neg (fun e => hid (h.inj _ _ _ _ hzi hy e)), hlinks, if_neg hij]
       exact ⟨w0, hw0, h1, h2, h3, h4, h5, h6, h7, h8⟩
 · intro i
   rw [r4, h.files i, hg]
   by_cases e : i = d
   · subst e
     rw [if_pos rfl, hy]
   · rw [if_neg e]
set_option maxHeartbeats 4000000 in
theorem link_ok (w : World) (t : Nat) (S : TS) (T : Abs.T) (β : Nat -> Nat) (h : TreeIs w t S T β) (c : Nat) (hwi : S.within c) (hcb : c < 1152921504606846976) (cwd old path : ByteArray) (hc : cwd.size < 1073741824) (ho : old.size < 1073741824) (hp : path.size < 1073741824) (j d : Nat) (n : Abs.Name) (z : Abs.Ent)
 (hlo : T.look cwd.data.toList old.data.toList = .ok j) (hj : T.get j = some z) (hz : z.dir = false) (hm : T.may cwd.data.toList path.data.toList false = .ok (d, n)) (hlb : T.links j < 4611686018427387904) :
 Calls Tryz.prog 93 #[.pointer (some ⟨t, 0, none⟩), .string cwd, .string old, .string path] w fun r w' => r = .returned (.int .i64 0) /\ TWent w w' t S (c + 1) (T.linked d n j) := by
 have hl := look_any w t S T β h cwd old hc ho
 rw [hlo] at hl
 have hf : ∀ w1, Below w.heap.size w w1 -> Calls Tryz.prog 123 #[.pointer (some ⟨t, 0, none⟩), .string cwd, .string path, .bool false] w1 fun e w' => e = .returned (.tuple #[.pointer (some ⟨β d, 0, none⟩), .string ⟨n.toArray⟩, .int .i64 0]) /\ Below w1.heap.size w1 w' := fun w1 hb => by
  have := may_any w1 t S T β (h.below hb) cwd path hc hp false
  rw [hm] at this
  unfold MayIs at this
  exact this
 obtain ⟨x, hx, hxd, hn, hlk, hdep, hmany⟩ := may_ok hm
 obtain ⟨yd, hyd, bd, hin, hmo, hti, hdi, hda, hdr, hli, hhe⟩ := h.at_ hx
 obtain ⟨yj, hyj, bj, jin, jmo, jti, jdi, jda, jdr, jli, jhe⟩ := h.at_ hj
 rw [hxd] at hdi
 rw [hz] at jdi
 have hdj : d ≠ j := by
  rintro rfl
  rw [hx] at hj
  cases hj
  rw [hxd] at hz
  cases hz
 have hbdj : β d ≠ β j := fun e => hdj (h.rep.inj _ _ _ _ hx hj e)
 have hq : ∀ w1, Below w.heap.size w w1 -> w1.cell? ⟨β j, 3, none⟩ = some (.bool false) /\ β j < w1.heap.size := fun w1 hb => by
  have h1 := ((h.below hb).at_ hj)
  obtain ⟨y2, hy2, b2, _⟩ := h1
  rw [hyj] at hy2
  cases hy2
  exact ⟨by rw [b2.cell 3, <- jdi]; rfl, b2.lt⟩
 have hput := fun w1 (hb : Below w.heap.size w w1) => put_raw w1 t S (h.below hb).mem (β d) (β j) yd yj hyd hdi hyj hbdj ⟨n.toArray⟩ (named_size (by exact hn)) (by have := hwi.1 _ _ hyd; omega) (by unfold Calm; rw [jli]; omega) (by unfold Calm; rw [h.rep.many]; omega)
 have HF := Lib.hid hf
 have HQ := Lib.hid hq
 have HP := Lib.hid hput
 clear hf hq hput hlo hm
 unfold leadsV ptrV at hl
 go_enter Tryz.func93, Tryz.ntmps93
 go_wp2_with (first
  | (go_at_call 95; refine hl.mono ?_; rintro e w1 ⟨rfl, hb1⟩
     obtain ⟨q3, qlt⟩ := HQ.out w1 hb1)
  | (go_at_call 123; refine (HF.out w1 hb1).mono ?_; rintro e w2 ⟨rfl, hb2⟩
     have hb12 : Below w.heap.size w w2 := hb1.trans (hb2.mono hb1.size))
  | (go_at_call 124; refine (HP.out w2 hb12).mono ?_; rintro e w3 ⟨rfl, hT3, hP3⟩))
 go_returns
 have hE : ∀ c, (S.putE (β d) yd n (β j) yj).items c = if c = β j then some { yj with links := yj.links + 1, up := if yj.dir then β d else yj.up } else if c = β d then some { yd with nn := yd.nn + 1, nf := updN yd.nf n (some (β j)) } else S.items c := by
  intro c
  by_cases hc : c = β j
  · subst hc; rw [if_pos rfl]; exact TS.put_same _ _ _
  · rw [if_neg hc]
    refine (TS.put_other _ _ hc).trans ?_
    by_cases hcd : c = β d
    · subst hcd; rw [if_pos rfl]; exact TS.put_same _ _ _
    · rw [if_neg hcd]
      exact TS.put_other _ _ hcd
 refine ⟨rfl, S.putE (β d) yd n (β j) yj, β, ⟨hT3, ?_, h.wf.linked_wf hx hxd hlk hj hz⟩, ⟨fun c' y hy => ?_, Nat.le_succ_of_le hwi.2⟩, (TurnsP.of_below hb12).then hP3 (fun g hg => .inl hg), ?_⟩
 · exact rep_linked h.rep h.wf hx hxd hlk hj hz hyd hyj rfl rfl rfl hE (fun _ => rfl)
 · rw [hE] at hy
   split at hy
   · cases hy
     have := hwi.1 _ _ hyj
     show yj.nn <= c + 1
     omega
   · split at hy
     · cases hy; exact Nat.succ_le_succ (hwi.1 _ _ hyd)
     · exact Nat.le_succ_of_le (hwi.1 _ _ hy)
 · rintro g (rfl | e | ⟨i, y, hy, hg⟩)
   · exact .inl (.inl rfl)
   · exact .inl (.inr (.inl e))
   · rw [hE] at hy
     split at hy
     · rename_i hi
       cases hy
       exact .inl (.inr (.inr ⟨β j, yj, hyj, by rw [<- hi]; exact hg⟩))
     · split at hy
       · rename_i _ hi
         cases hy
         exact .inl (.inr (.inr ⟨β d, yd, hyd, by rw [<- hi]; exact hg⟩))
       · exact .inl (.inr (.inr ⟨i, y, hy, hg⟩))
def Abs.T.linkE (T : Abs.T) (cwd old path : List UInt8) : Option Nat := match T.look cwd old with
 | .error e => some e
 | .ok j => match T.get j with
   | none => some 99
   | some z => if z.dir then some 4 else match T.may cwd path false with
     | .error e => some e
     | .ok _ => none
set_option maxHeartbeats 4000000 in
theorem link_no (w : World) (t : Nat) (S : TS) (T : Abs.T) (β : Nat -> Nat) (h : TreeIs w t S T β) (cwd old path : ByteArray) (hc : cwd.size < 1073741824) (ho : old.size < 1073741824) (hp : path.size < 1073741824) (e : Nat) (he : T.linkE cwd.data.toList old.data.toList path.data.toList = some e) :
 Calls Tryz.prog 93 #[.pointer (some ⟨t, 0, none⟩), .string cwd, .string old, .string path] w fun r w' => r = .returned (.int .i64 (e : Int)) /\ e ≠ 0 /\ Below w.heap.size w w' := by
 have hl := look_any w t S T β h cwd old hc ho
 unfold Abs.T.linkE at he
 cases hlo : T.look cwd.data.toList old.data.toList with
 | error e1 =>
   rw [hlo] at he hl
   obtain rfl : e1 = e := by simpa using he
   have hne := Abs.T.look_ne0 hlo
   have hne1 : ((e1 : Int) != 0) = true := by simpa using hne
   clear hlo he
   unfold leadsV at hl
   go_enter Tryz.func93, Tryz.ntmps93
   go_wp2_with (go_at_call 95; refine hl.mono ?_; rintro e w1 ⟨rfl, hb1⟩)
   go_returns
   exact ⟨rfl, hne, hb1⟩
 | ok j =>
   rw [hlo] at he hl
   obtain ⟨z, hj⟩ := h.wf.look_live hlo
   simp only [hj] at he
   obtain ⟨yj, hyj, bj, jin, jmo, jti, jdi, jda, jdr, jli, jhe⟩ := h.at_ hj
   have hq : ∀ w1, Below w.heap.size w w1 -> w1.cell? ⟨β j, 3, none⟩ = some (.bool z.dir) /\ β j < w1.heap.size := fun w1 hb => by
    obtain ⟨y2, hy2, b2, _⟩ := (h.below hb).at_ hj
    rw [hyj] at hy2
    cases hy2
    exact ⟨by rw [b2.cell 3, <- jdi]; rfl, b2.lt⟩
   have HQ := Lib.hid hq
   clear hq hlo
   unfold leadsV ptrV at hl
   cases hz : z.dir with
   | true =>
     rw [hz] at he HQ
     obtain rfl : 4 = e := by simpa using he
     clear he
     go_enter Tryz.func93, Tryz.ntmps93
     go_wp2_with (go_at_call 95; refine hl.mono ?_; rintro e w1 ⟨rfl, hb1⟩; obtain ⟨q3, qlt⟩ := HQ.out w1 hb1)
     go_returns
     exact ⟨rfl, by decide, hb1⟩
   | false =>
     rw [hz] at he HQ
     cases hm : T.may cwd.data.toList path.data.toList false with
     | ok p => rw [hm] at he; simp at he
     | error e1 =>
       rw [hm] at he
       obtain rfl : e1 = e := by simpa using he
       have hne := may_ne0 hm
       have hne1 : ((e1 : Int) == 0) = false := by simpa using hne
       have hf : ∀ w1, Below w.heap.size w w1 -> Calls Tryz.prog 123 #[.pointer (some ⟨t, 0, none⟩), .string cwd, .string path, .bool false] w1 fun e w' => (∃ dv nv, e = .returned (.tuple #[dv, nv, .int .i64 (e1 : Int)])) /\ Below w1.heap.size w1 w' := fun w1 hb => by
        have := may_any w1 t S T β (h.below hb) cwd path hc hp false
        rw [hm] at this
        unfold MayIs at this
        exact this
       have HF := Lib.hid hf
       clear hf hm he
       go_enter Tryz.func93, Tryz.ntmps93
       go_wp2_with (first
        | (go_at_call 95; refine hl.mono ?_; rintro e w1 ⟨rfl, hb1⟩; obtain ⟨q3, qlt⟩ := HQ.out w1 hb1)
        | (go_at_call 123; refine (HF.out w1 hb1).mono ?_; rintro e w2 ⟨⟨dv, nv, rfl⟩, hb2⟩))
       go_returns
       exact ⟨rfl, hne, hb1.trans (hb2.mono hb1.size)⟩
end Go.Proofs.YtffffjngodinnaaGreatDoor
end
section
namespace Go.Proofs.YtffffjngodinnaaGreatDoor
open Go.RowKit Go.Maps
theorem rep_set {S : TS} {T : Abs.T} {β : Nat -> Nat} (h : Rep S T β) (hwf : T.WF) {i : Nat} {x : Abs.Ent} {f : Abs.Ent -> Abs.Ent} (hx : T.get i = some x) {y y' : Item} (hy : S.items (β i) = some y)
 (hd : (f x).dir = x.dir) (hn : (f x).names = x.names) (hu : (f x).up = x.up) (e0 : y'.ino = y.ino) (e1 : y'.mode = (f x).mode) (e2 : y'.tick = (f x).tick) (e3 : y'.dir = y.dir) (e4 : y'.data = (f x).data) (e5 : y'.nf = y.nf) (e6 : y'.up = y.up) (e7 : y'.links = y.links) (e8 : y'.held = ((f x).held : Int)) :
 Rep (S.put (β i) y') (T.set i f) β := by
 have hl := fun j => hwf.set_links (j := j) hx hn
 refine ⟨h.root, h.next, by rw [hwf.set_many hx hn]; exact h.many, ?_, ?_, ?_⟩
 · intro j k zj zk hj hk he
   have : ∀ {k z}, (T.set i f).get k = some z -> ∃ z, T.get k = some z := fun {k z} hz => by
    rcases Abs.T.set_back hx hz with ⟨rfl, _⟩ | ⟨_, hz⟩
    · exact ⟨x, hx⟩
    · exact ⟨z, hz⟩
   obtain ⟨_, hj⟩ := this hj
   obtain ⟨_, hk⟩ := this hk
   exact h.inj _ _ _ _ hj hk he
 · intro j z hz
   rcases Abs.T.set_back hx hz with ⟨rfl, rfl⟩ | ⟨hj, hz⟩
   · obtain ⟨w0, hw0, h1, h2, h3, h4, h5, h6, h7, h8⟩ := h.item _ _ hx
     rw [hy] at hw0; cases hw0
     refine ⟨y', TS.put_same _ _ _, e0.trans h1, e1, e2, by rw [e3, hd]; exact h4, e4, fun hdd => ?_, by rw [e7, hl]; exact h7, e8⟩
     rw [hd] at hdd
     exact ⟨fun n => by rw [e5, hn]; exact (h6 hdd).1 n, by rw [e6, hu]; exact (h6 hdd).2⟩
   · obtain ⟨w0, hw0, h1, h2, h3, h4, h5, h6, h7, h8⟩ := h.item _ _ hz
     exact ⟨w0, by rw [TS.put_other _ _ (fun e => hj (h.inj _ _ _ _ hz hx e))]; exact hw0, h1, h2, h3, h4, h5, h6, by rw [hl]; exact h7, h8⟩
 · intro j
   show S.files j = _
   rw [h.files j]
   by_cases e : j = i
   · subst e
     rw [Abs.T.get_set_same hx, hx]
     simp only [hd]
   · rw [Abs.T.get_set_other e]
theorem TS.put_within {S : TS} {b c : Nat} {y' : Item} (h : S.within c) (hy : y'.nn <= c) : (S.put b y').within c :=
 ⟨fun k y hk => by
  by_cases e : k = b
  · subst e; rw [TS.put_same] at hk; cases hk; exact hy
  · rw [TS.put_other _ _ e] at hk; exact h.1 _ _ hk, h.2⟩
theorem TS.put_foot {S : TS} {t b g : Nat} {y y' : Item} (hy : S.items b = some y) (e1 : y'.dir = y.dir) (e2 : y'.nb = y.nb) (h : (S.put b y').foot t g) : S.foot t g \/ y'.dv.ownBlock = some g := by
 rcases h with rfl | e | ⟨i, z, hz, hg⟩
 · exact .inl (.inl rfl)
 · exact .inl (.inr (.inl e))
 · by_cases e : i = b
   · subst e
     rw [TS.put_same] at hz; cases hz
     rcases hg with rfl | ⟨hd, he⟩ | hv
     · exact .inl (.inr (.inr ⟨_, y, hy, .inl rfl⟩))
     · exact .inl (.inr (.inr ⟨_, y, hy, .inr (.inl ⟨e1.symm.trans hd, he.trans e2⟩)⟩))
     · exact .inr hv
   · rw [TS.put_other _ _ e] at hz
     exact .inl (.inr (.inr ⟨i, z, hz, hg⟩))
end Go.Proofs.YtffffjngodinnaaGreatDoor
end
section
namespace Go.Proofs.YtffffjngodinnaaGreatDoor
open Go.RowKit Go.Maps
theorem TreeIs.filed {w w1 : World} {t : Nat} {S : TS} {T : Abs.T} {β : Nat -> Nat} (h : TreeIs w t S T β) {c : Nat} (hwi : S.within c) {i : Nat} {x : Abs.Ent} (hx : T.get i = some x) (hb : Below w.heap.size w w1) {v : Value} {bs : List UInt8} (hr : OffRow w1 w.heap.size 5 v bs.length (bytesC bs)) :
 ∃ S', TreeIs (w1.setCell ⟨β i, 4, none⟩ v) t S' (T.set i fun x => { x with data := bs }) β /\ S'.within c /\ TurnsP (S.foot t) w (w1.setCell ⟨β i, 4, none⟩ v) /\ ∀ g, S'.foot t g -> S.foot t g \/ w.heap.size <= g := by
 obtain ⟨y, hy, by0, hin, hmo, hti, hdi, hda, hdr, hli, hhe⟩ := h.at_ hx
 have by1 := Blk.on by0 hb
 have hfb : S.foot t (β i) := .inr (.inr ⟨β i, y, hy, .inl rfl⟩)
 have hP1 : TurnsP (fun g => g = β i \/ y.dv.ownBlock = some g) w (w1.setCell ⟨β i, 4, none⟩ v) := (TurnsP.of_below hb).setCell _ _ (fun _ => .inl rfl)
 have hT := h.mem.setData (y' := { y with dv := v, data := bs }) hy rfl rfl rfl rfl hP1 (by1.set_ 4 v) ((hr.mono (Nat.zero_le _)).same fun g hg => Below.heap_setCell _ _ _ _ (fun e => by
  have := (hr.lt hg).1
  have h2 := by0.lt
  have e' : g = β i := e
  omega)) (fun g hg => .inr (hr.lt hg).1)
 refine ⟨_, ⟨hT, ?_, h.wf.set_wf hx rfl rfl rfl⟩, TS.put_within hwi (show y.nn <= c from hwi.1 _ _ hy), hP1.more (fun g hg => ?_), fun g hg => ?_⟩
 · exact rep_set h.rep h.wf hx hy rfl rfl rfl rfl hmo hti rfl rfl rfl rfl rfl hhe
 · rcases hg with rfl | hg
   · exact hfb
   · exact .inr (.inr ⟨β i, y, hy, .inr (.inr hg)⟩)
 · rcases TS.put_foot (y' := { y with dv := v, data := bs }) hy rfl rfl hg with hg | hv
   · exact .inl hg
   · exact .inr (hr.lt hv).1
end Go.Proofs.YtffffjngodinnaaGreatDoor
end
section
namespace Go.Proofs.YtffffjngodinnaaGreatDoor.Abs
structure Nd where
 path : List UInt8
 dir : Bool
 mode : Int
 tick : Int
 ino : Int
 data : List UInt8
def Nd.bad (n : Nd) : Bool := !plain n.path || decide (n.mode < 0 \/ 511 < n.mode) || decide (n.ino < 0) || (n.dir && (decide (0 < n.data.length) || !decide (n.ino = 0)))
structure LS where
 T : T
 first : Int -> Option Nd
def LS.init : LS := ⟨emptyT, fun _ => none⟩
def LS.link (s : LS) (f n : Nd) : Option LS := match s.T.linkE [] f.path n.path with
 | some _ => none
 | none => match s.T.look [] f.path with
   | .error _ => none
   | .ok j => match s.T.may [] n.path false with
     | .error _ => none
     | .ok (d, m) => some { s with T := s.T.linked d m j }
def LS.make (s : LS) (n : Nd) : Option LS := match s.T.may [] n.path n.dir with
 | .error _ => none
 | .ok (d, m) => some {
  T := if n.dir then s.T.made d m { dir := true, mode := nine n.mode, tick := n.tick, up := d }
   else (s.T.made d m { dir := false, mode := nine n.mode, tick := n.tick }).set s.T.next fun x => { x with data := n.data },
  first := if 0 < n.ino then fun k => if k = n.ino then some n else s.first k else s.first }
def LS.step (s : LS) (n : Nd) : Option LS := if n.bad then none else match s.first n.ino with
 | some f => if f.mode = n.mode /\ f.tick = n.tick /\ f.data = n.data then s.link f n else none
 | none => s.make n
def LS.run : LS -> List Nd -> Option LS
 | s, [] => some s
 | s, n :: l => match s.step n with
   | none => none
   | some s' => s'.run l
structure T.Fine (t : T) (B : Nat) : Prop where
 kids : ∀ i x n j y, t.get i = some x -> lk x.names n = some j -> t.get j = some y -> y.dir = true -> y.up = i
 named : ∀ i x n j, t.get i = some x -> lk x.names n = some j -> Abs.named n = true
 data : ∀ i x, t.get i = some x -> x.data.length <= B
 one : ∀ i x, t.get i = some x -> x.dir = true -> t.links i <= 1
theorem emptyT_fine (B : Nat) : emptyT.Fine B := by
 refine ⟨?_, ?_, ?_, ?_⟩
 · intro i x n j y hx hl; obtain ⟨rfl, rfl⟩ := emptyT_get hx; simp [lk] at hl
 · intro i x n j hx hl; obtain ⟨rfl, rfl⟩ := emptyT_get hx; simp [lk] at hl
 · intro i x hx; obtain ⟨rfl, rfl⟩ := emptyT_get hx; simp
 · intro i x hx _; simp [emptyT, T.links]
section
variable {t : T} {d i j B : Nat} {n : Name} {x y z : Ent}
theorem T.Fine.made (hf : t.Fine B) (h : t.WF) (hy : t.get d = some y) (hn : lk y.names n = none) (hnm : Abs.named n = true) (hx : x.names = []) (hxu : x.dir = true -> x.up = d) (hxd : x.data.length <= B) : (t.made d n x).Fine B := by
 have hg := fun i => h.made_get (n := n) (x := x) (i := i) hy
 have hback : ∀ {i z'}, (t.made d n x).get i = some z' -> (i = t.next /\ z' = x) \/ (i ≠ t.next /\ ∃ z, t.get i = some z /\ z'.dir = z.dir /\ z'.up = z.up /\ z'.data = z.data /\ z'.names = if i = d then ins n t.next z.names else z.names) := by
  intro i z' hz
  rw [hg] at hz
  by_cases e1 : i = t.next
  · rw [if_pos e1] at hz; cases hz; exact .inl ⟨e1, rfl⟩
  · rw [if_neg e1] at hz
    by_cases e2 : i = d
    · subst e2
      rw [if_pos rfl] at hz; cases hz; exact .inr ⟨e1, y, hy, rfl, rfl, rfl, by rw [if_pos rfl]⟩
    · rw [if_neg e2] at hz; exact .inr ⟨e1, z', hz, rfl, rfl, rfl, by rw [if_neg e2]⟩
 have hlk : ∀ {i z' m k}, (t.made d n x).get i = some z' -> lk z'.names m = some k -> (m = n /\ i = d /\ k = t.next) \/ (k ≠ t.next /\ ∃ z, t.get i = some z /\ lk z.names m = some k) := by
  intro i z' m k hz hl
  rcases hback hz with ⟨_, rfl⟩ | ⟨_, z, hz0, _, _, _, e⟩
  · rw [hx] at hl; cases hl
  · have hold : ∀ {k}, lk z.names m = some k -> k ≠ t.next := by
     intro k hk e
     obtain ⟨_, w, hw⟩ := h.live _ _ _ _ hz0 hk
     have := (h.lt _ _ hw).2
     omega
    rw [e] at hl
    by_cases hid : i = d
    · subst hid
      rw [hy] at hz0; cases hz0
      rw [if_pos rfl, lk_ins hn] at hl
      by_cases hm : m = n
      · rw [if_pos hm] at hl; cases hl; exact .inl ⟨hm, rfl, rfl⟩
      · rw [if_neg hm] at hl; exact .inr ⟨hold hl, _, hy, hl⟩
    · rw [if_neg hid] at hl; exact .inr ⟨hold hl, _, hz0, hl⟩
 refine ⟨?_, ?_, ?_, ?_⟩
 · intro i z' m k w' hz hl hw hwd
   rcases hlk hz hl with ⟨_, rfl, rfl⟩ | ⟨hk, z, hz0, hl0⟩
   · rcases hback hw with ⟨_, rfl⟩ | ⟨hne, _⟩
     · exact hxu hwd
     · exact absurd rfl hne
   · rcases hback hw with ⟨e, _⟩ | ⟨_, w, hw0, e1, e2, _⟩
     · exact absurd e hk
     · rw [e2]; exact hf.kids _ _ _ _ _ hz0 hl0 hw0 (e1 ▸ hwd)
 · intro i z' m k hz hl
   rcases hlk hz hl with ⟨rfl, _⟩ | ⟨_, z, hz0, hl0⟩
   · exact hnm
   · exact hf.named _ _ _ _ hz0 hl0
 · intro i z' hz
   rcases hback hz with ⟨_, rfl⟩ | ⟨_, z, hz0, _, _, e, _⟩
   · exact hxd
   · rw [e]; exact hf.data _ _ hz0
 · intro i z' hz hzd
   rw [h.made_links hy hx]
   rcases hback hz with ⟨e, _⟩ | ⟨e, z, hz0, e1, _⟩
   · subst e
     rw [if_pos rfl, h.links_none h.next_none]
     exact Nat.le_refl _
   · rw [if_neg e]; exact hf.one _ _ hz0 (e1 ▸ hzd)
theorem T.Fine.linked (hf : t.Fine B) (h : t.WF) (hy : t.get d = some y) (hn : lk y.names n = none) (hnm : Abs.named n = true) (hj : t.get j = some z) (hz : z.dir = false) : (t.linked d n j).Fine B := by
 have hg := fun i => T.linked_get (t := t) (i := i) (n := n) (j := j) hy
 have hback : ∀ {i z'}, (t.linked d n j).get i = some z' -> ∃ z, t.get i = some z /\ z'.dir = z.dir /\ z'.up = z.up /\ z'.data = z.data /\ z'.names = if i = d then ins n j z.names else z.names := by
  intro i z' hz
  rw [hg] at hz
  by_cases e2 : i = d
  · subst e2
    rw [if_pos rfl] at hz; cases hz; exact ⟨y, hy, rfl, rfl, rfl, by rw [if_pos rfl]⟩
  · rw [if_neg e2] at hz; exact ⟨z', hz, rfl, rfl, rfl, by rw [if_neg e2]⟩
 have hlk : ∀ {i z' m k}, (t.linked d n j).get i = some z' -> lk z'.names m = some k -> (m = n /\ k = j) \/ ∃ z, t.get i = some z /\ lk z.names m = some k := by
  intro i z' m k hz hl
  obtain ⟨z, hz0, _, _, _, e⟩ := hback hz
  rw [e] at hl
  by_cases hid : i = d
  · subst hid
    rw [hy] at hz0; cases hz0
    rw [if_pos rfl, lk_ins hn] at hl
    by_cases hm : m = n
    · rw [if_pos hm] at hl; cases hl; exact .inl ⟨hm, rfl⟩
    · rw [if_neg hm] at hl; exact .inr ⟨_, hy, hl⟩
  · rw [if_neg hid] at hl; exact .inr ⟨_, hz0, hl⟩
 refine ⟨?_, ?_, ?_, ?_⟩
 · intro i z' m k w' hz' hl hw hwd
   obtain ⟨w, hw0, e1, e2, _⟩ := hback hw
   rcases hlk hz' hl with ⟨_, rfl⟩ | ⟨z0, hz0, hl0⟩
   · rw [hj] at hw0; cases hw0
     rw [e1, hz] at hwd; cases hwd
   · rw [e2]; exact hf.kids _ _ _ _ _ hz0 hl0 hw0 (e1 ▸ hwd)
 · intro i z' m k hz hl
   rcases hlk hz hl with ⟨rfl, _⟩ | ⟨z, hz0, hl0⟩
   · exact hnm
   · exact hf.named _ _ _ _ hz0 hl0
 · intro i z' hz
   obtain ⟨z, hz0, _, _, e, _⟩ := hback hz
   rw [e]; exact hf.data _ _ hz0
 · intro i z' hz' hzd
   obtain ⟨w, hw0, e1, _⟩ := hback hz'
   rw [h.linked_links hy]
   by_cases e : i = j
   · subst e
     rw [hj] at hw0; cases hw0
     rw [e1, hz] at hzd; cases hzd
   · rw [if_neg e]; exact hf.one _ _ hw0 (e1 ▸ hzd)
theorem T.Fine.filed (hf : t.Fine B) (h : t.WF) (hx : t.get i = some x) {b : List UInt8} (hb : b.length <= B) : (t.set i fun x => { x with data := b }).Fine B := by
 have hback : ∀ {k z'}, (t.set i fun x => { x with data := b }).get k = some z' -> ∃ z, t.get k = some z /\ z'.dir = z.dir /\ z'.up = z.up /\ z'.names = z.names /\ (z'.data = z.data \/ z'.data = b) := by
  intro k z' hz
  rcases T.set_back hx hz with ⟨rfl, rfl⟩ | ⟨_, hz⟩
  · exact ⟨x, hx, rfl, rfl, rfl, .inr rfl⟩
  · exact ⟨z', hz, rfl, rfl, rfl, .inl rfl⟩
 refine ⟨?_, ?_, ?_, ?_⟩
 · intro i z' m k w' hz' hl hw hwd
   obtain ⟨z, hz0, _, _, e, _⟩ := hback hz'
   obtain ⟨w, hw0, e1, e2, _⟩ := hback hw
   rw [e] at hl
   rw [e2]; exact hf.kids _ _ _ _ _ hz0 hl hw0 (e1 ▸ hwd)
 · intro i z' m k hz' hl
   obtain ⟨z, hz0, _, _, e, _⟩ := hback hz'
   rw [e] at hl
   exact hf.named _ _ _ _ hz0 hl
 · intro k z' hz'
   obtain ⟨z, hz0, _, _, _, e | e⟩ := hback hz'
   · rw [e]; exact hf.data _ _ hz0
   · rw [e]; exact hb
 · intro k z' hz' hzd
   obtain ⟨z, hz0, e1, _⟩ := hback hz'
   rw [h.set_links hx (by rfl)]
   exact hf.one _ _ hz0 (e1 ▸ hzd)
end
theorem T.links_le (t : T) (j : Nat) : t.links j <= t.many := by
 unfold T.links T.many
 generalize t.ents = l
 induction l with
 | nil => simp
 | cons p l ih =>
   simp only [List.map_cons, List.sum_cons]
   have := List.countP_le_length (p := fun q : Name × Nat => q.2 == j) (l := p.2.names)
   omega
structure LS.Ok (s : LS) (k B : Nat) : Prop where
 wf : s.T.WF
 fine : s.T.Fine B
 many : s.T.many = k
 next : s.T.next <= k + 2
 most : k <= 200
theorem LS.init_ok (B : Nat) : LS.init.Ok 0 B := ⟨emptyT_wf, emptyT_fine B, rfl, Nat.le_refl _, by omega⟩
section
variable {s s' : LS} {k B : Nat} {n f : Nd}
theorem LS.Ok.of_link (h : s.Ok k B) (hs : s.link f n = some s') : s'.first = s.first /\ s'.Ok (k + 1) B := by
 unfold LS.link at hs
 split at hs
 · cases hs
 · rename_i hE
   split at hs
   · cases hs
   · rename_i j hj
     split at hs
     · cases hs
     · rename_i d m hm
       cases hs
       obtain ⟨x, hx, hxd, hnm, hlk, hdep, hmany⟩ := may_ok hm
       obtain ⟨z, hz⟩ := h.wf.look_live hj
       have hzd : z.dir = false := by
        unfold T.linkE at hE
        rw [hj] at hE
        simp only [hz] at hE
        cases hd : z.dir with
        | false => rfl
        | true => rw [hd] at hE; simp at hE
       refine ⟨rfl, h.wf.linked_wf hx hxd hlk hz hzd, h.fine.linked h.wf hx hlk hnm hz hzd, ?_, ?_, ?_⟩
       · show (s.T.linked d m j).many = _
         rw [h.wf.linked_many hx, h.many]
       · show s.T.next <= _
         have := h.next; omega
       · have := h.many; omega
theorem LS.Ok.of_make (h : s.Ok k B) (hB : n.data.length <= B) (hs : s.make n = some s') : s'.Ok (k + 1) B := by
 unfold LS.make at hs
 split at hs
 · cases hs
 · rename_i d m hm
   cases hs
   obtain ⟨x, hx, hxd, hnm, hlk, hdep, hmany⟩ := may_ok hm
   have hn2 : s.T.next + 1 <= k + 1 + 2 := by have := h.next; omega
   have hk2 : k + 1 <= 200 := by have := h.many; omega
   cases hd : n.dir with
   | true =>
     refine ⟨?_, ?_, ?_, ?_, hk2⟩ <;> simp only [if_true]
     · exact h.wf.made_wf hx hxd hlk rfl (fun _ => rfl) hdep
     · exact h.fine.made h.wf hx hlk hnm rfl (fun _ => rfl) (Nat.zero_le _)
     · rw [h.wf.made_many hx rfl, h.many]
     · exact hn2
   | false =>
     have hw := h.wf.made_wf (n := m) (x := { dir := false, mode := nine n.mode, tick := n.tick }) hx hxd hlk rfl (fun e => by cases e) hdep
     have hf := h.fine.made (n := m) (x := { dir := false, mode := nine n.mode, tick := n.tick }) h.wf hx hlk hnm rfl (fun e => by cases e) (Nat.zero_le _)
     have hg : (s.T.made d m { dir := false, mode := nine n.mode, tick := n.tick }).get s.T.next = some { dir := false, mode := nine n.mode, tick := n.tick } := by rw [h.wf.made_get hx, if_pos rfl]
     refine ⟨?_, ?_, ?_, ?_, hk2⟩ <;> simp only [Bool.false_eq_true, if_false]
     · exact hw.set_wf hg rfl rfl rfl
     · exact hf.filed hw hg hB
     · rw [hw.set_many hg rfl, h.wf.made_many hx rfl, h.many]
     · exact hn2
theorem LS.Ok.of_step (h : s.Ok k B) (hB : n.data.length <= B) (hs : s.step n = some s') : s'.Ok (k + 1) B := by
 unfold LS.step at hs
 split at hs
 · cases hs
 · split at hs
   · split at hs
     · exact (h.of_link hs).2
     · cases hs
   · exact h.of_make hB hs
end
end Go.Proofs.YtffffjngodinnaaGreatDoor.Abs
end
section
namespace Go.Proofs.YtffffjngodinnaaGreatDoor.Abs
def T.walkN (t : T) : Nat -> Nat -> List UInt8 -> List (List UInt8 × Nat)
 | 0, _, _ => []
 | k + 1, i, p => match t.get i with
   | none => []
   | some x => x.names.flatMap fun q => (p ++ 47 :: q.1, q.2) :: t.walkN k q.2 (p ++ 47 :: q.1)
def T.wideN (t : T) : Nat -> Nat -> Nat
 | 0, _ => 0
 | k + 1, i => match t.get i with
   | none => 0
   | some x => (x.names.map fun q => 1 + t.wideN k q.2).sum
theorem T.walkN_len (t : T) : ∀ k i p, (t.walkN k i p).length = t.wideN k i := by
 intro k
 induction k with
 | zero => intro i p; rfl
 | succ k ih =>
   intro i p
   unfold T.walkN T.wideN
   cases t.get i with
   | none => rfl
   | some x =>
     simp only [List.length_flatMap, List.length_cons, ih]
     congr 1
     exact List.map_congr_left fun q _ => by omega
theorem sum_by {K : List Nat} (hK : K.Nodup) (f : Nat -> Nat) : ∀ l : List (Name × Nat), (∀ q ∈ l, q.2 ∈ K) -> (l.map fun q => f q.2).sum = (K.map fun j => l.countP (fun q => q.2 == j) * f j).sum
 | [], _ => by
   have : ∀ M : List Nat, (M.map fun j => ([] : List (Name × Nat)).countP (fun q => q.2 == j) * f j).sum = 0 := by
    intro M
    induction M with
    | nil => rfl
    | cons a M ih => rw [List.map_cons, List.sum_cons, ih, List.countP_nil, Nat.zero_mul]
   rw [this]; rfl
 | q :: l, hl => by
   have ih := sum_by hK f l (fun p hp => hl p (List.mem_cons_of_mem _ hp))
   have hone : ∀ K : List Nat, K.Nodup -> q.2 ∈ K -> (K.map fun j => (if q.2 == j then 1 else 0) * f j).sum = f q.2 := by
    intro K
    induction K with
    | nil => intro _ h; cases h
    | cons a K ih =>
      intro hn hm
      rw [List.nodup_cons] at hn
      rw [List.map_cons, List.sum_cons]
      by_cases e : q.2 = a
      · have h0 : (K.map fun j => (if q.2 == j then 1 else 0) * f j).sum = 0 := by
         have : ∀ M : List Nat, (∀ b ∈ M, q.2 ≠ b) -> (M.map fun j => (if q.2 == j then 1 else 0) * f j).sum = 0 := by
          intro M
          induction M with
          | nil => intro _; rfl
          | cons b M ihM =>
            intro hb
            rw [List.map_cons, List.sum_cons, ihM (fun c hc => hb c (List.mem_cons_of_mem _ hc))]
            simp [hb b (by simp)]
         refine this K fun b hb e2 => hn.1 ?_
         rw [<- e, e2]; exact hb
        rw [h0, e]; simp
      · rw [ih hn.2 ((List.mem_cons.1 hm).resolve_left e)]
        simp [e]
   rw [List.map_cons, List.sum_cons, ih, <- hone K hK (hl q (by simp))]
   have hadd : ∀ K : List Nat, (K.map fun j => (if q.2 == j then 1 else 0) * f j).sum + (K.map fun j => l.countP (fun q => q.2 == j) * f j).sum = (K.map fun j => (q :: l).countP (fun q => q.2 == j) * f j).sum := by
    intro K
    induction K with
    | nil => rfl
    | cons a K ih =>
      have e : (q :: l).countP (fun q => q.2 == a) * f a = l.countP (fun q => q.2 == a) * f a + (if q.2 == a then 1 else 0) * f a := by rw [List.countP_cons, Nat.add_mul]
      rw [List.map_cons, List.sum_cons, List.map_cons, List.sum_cons, List.map_cons, List.sum_cons, e, <- ih]
      omega
   exact hadd K
theorem sum_le_sum {α : Type} {f g : α -> Nat} : ∀ l : List α, (∀ a ∈ l, f a <= g a) -> (l.map f).sum <= (l.map g).sum
 | [], _ => Nat.le_refl _
 | a :: l, h => by
   rw [List.map_cons, List.sum_cons, List.map_cons, List.sum_cons]
   exact Nat.add_le_add (h a (by simp)) (sum_le_sum l fun b hb => h b (List.mem_cons_of_mem _ hb))
theorem sum_one {α : Type} : ∀ l : List α, (l.map fun _ => 1).sum = l.length
 | [] => rfl
 | a :: l => by rw [List.map_cons, List.sum_cons, sum_one l, List.length_cons]; omega
theorem sum_add {α : Type} {f g : α -> Nat} : ∀ l : List α, (l.map fun a => f a + g a).sum = (l.map f).sum + (l.map g).sum
 | [] => rfl
 | a :: l => by
   simp only [List.map_cons, List.sum_cons, sum_add l]
   omega
section
variable {t : T} {B : Nat}
theorem T.WF.sum_names (h : t.WF) (hf : t.Fine B) (f : Nat -> Nat) (h0 : ∀ j, t.isDir j = false -> f j = 0) : (t.ents.map fun p => (p.2.names.map fun q => f q.2).sum).sum <= (t.ents.map fun p => f p.1).sum := by
 have hK := h.nodup
 have hget : ∀ p ∈ t.ents, t.get p.1 = some p.2 := fun p hp => geti_of_mem h.nodup hp
 have hmem : ∀ p ∈ t.ents, ∀ q ∈ p.2.names, q.2 ∈ t.ents.map (·.1) := by
  intro p hp q hq
  obtain ⟨_, y, hy⟩ := h.live _ _ _ _ (hget p hp) (lk_of_mem (h.sorted _ _ (hget p hp)) hq)
  exact List.mem_map.2 ⟨_, geti_mem hy, rfl⟩
 have h1 : (t.ents.map fun p => (p.2.names.map fun q => f q.2).sum).sum = ((t.ents.map (·.1)).map fun j => t.links j * f j).sum := by
  have key : ∀ E : List (Nat × Ent), (∀ p ∈ E, ∀ q ∈ p.2.names, q.2 ∈ t.ents.map (·.1)) ->
   (E.map fun p => (p.2.names.map fun q => f q.2).sum).sum = ((t.ents.map (·.1)).map fun j => (E.map fun p => p.2.names.countP fun q => q.2 == j).sum * f j).sum := by
   intro E
   induction E with
   | nil => intro _; simp; generalize t.ents = M; induction M with
     | nil => rfl
     | cons a M ih => simpa using ih
   | cons p E ih =>
     intro hE
     rw [List.map_cons, List.sum_cons, ih (fun q hq => hE q (List.mem_cons_of_mem _ hq)), sum_by hK f _ (hE p (by simp)), <- sum_add]
     refine congrArg List.sum (List.map_congr_left fun j _ => ?_)
     rw [List.map_cons, List.sum_cons, Nat.add_mul]
  exact key t.ents hmem
 rw [h1, List.map_map]
 refine sum_le_sum _ fun p hp => ?_
 simp only [Function.comp]
 cases hd : t.isDir p.1 with
 | false => rw [h0 _ hd]; simp
 | true =>
   obtain ⟨x, hx, hxd⟩ := isDir_of hd
   have := hf.one _ _ hx hxd
   calc t.links p.1 * f p.1 <= 1 * f p.1 := Nat.mul_le_mul_right _ this
    _ = f p.1 := Nat.one_mul _
theorem T.WF.wide_le (h : t.WF) (hf : t.Fine B) : t.wideN 12 1 <= t.many := by
 obtain ⟨dp, hd1, hdp⟩ := h.rank
 have hget : ∀ p ∈ t.ents, t.get p.1 = some p.2 := fun p hp => geti_of_mem h.nodup hp
 have hfile : ∀ k j, t.isDir j = false -> t.wideN k j = 0 := by
  intro k j hj
  cases k with
  | zero => rfl
  | succ k =>
    unfold T.wideN
    cases hx : t.get j with
    | none => rfl
    | some x =>
      have hxd : x.dir = false := by simpa [T.isDir, hx] using hj
      simp [h.file _ _ hx hxd]
 obtain ⟨G, hG⟩ : ∃ G : Nat -> Nat -> Nat, G = fun d j => if t.isDir j = true /\ dp j = d then t.wideN (12 - d) j else 0 := ⟨_, rfl⟩
 obtain ⟨C, hC⟩ : ∃ C : Nat -> Nat × Ent -> Nat, C = fun d p => if p.2.dir = true /\ dp p.1 = d then p.2.names.length else 0 := ⟨_, rfl⟩
 have hstep : ∀ d, d < 12 -> (t.ents.map fun p => G d p.1).sum <= (t.ents.map fun p => C d p).sum + (t.ents.map fun p => G (d + 1) p.1).sum := by
  intro d hd
  refine Nat.le_trans ?_ (Nat.add_le_add_left (h.sum_names hf (G (d + 1)) (fun j hj => by rw [hG]; simp [hj])) _)
  rw [<- sum_add]
  refine sum_le_sum _ fun p hp => ?_
  have hx := hget p hp
  by_cases hc : p.2.dir = true /\ dp p.1 = d
  · have hG1 : G d p.1 = t.wideN (12 - d) p.1 := by rw [hG]; simp [T.isDir, hx, hc.1, hc.2]
    have hC1 : C d p = p.2.names.length := by rw [hC]; simp [hc.1, hc.2]
    rw [hG1, hC1, show 12 - d = (12 - (d + 1)) + 1 by omega]
    unfold T.wideN
    rw [hx]
    simp only
    rw [sum_add, sum_one]
    refine Nat.add_le_add_left (sum_le_sum _ fun q hq => ?_) _
    cases hj : t.isDir q.2 with
    | false => rw [hfile _ _ hj]; exact Nat.zero_le _
    | true =>
      obtain ⟨y, hy, hyd⟩ := isDir_of hj
      have hl := lk_of_mem (h.sorted _ _ hx) hq
      have hu := hf.kids _ _ _ _ _ hx hl hy hyd
      have h2 := (hdp _ _ hy hyd (h.live _ _ _ _ hx hl).1).1
      rw [hu, hc.2] at h2
      rw [hG]
      simp [hj, h2]
  · have hG1 : G d p.1 = 0 := by
     rw [hG]
     simp only
     rw [if_neg]
     rintro ⟨e1, e2⟩
     exact hc ⟨by simpa [T.isDir, hx] using e1, e2⟩
    rw [hG1]; exact Nat.zero_le _
 have hsum : ∀ n, n <= 12 -> (t.ents.map fun p => G 0 p.1).sum <= (t.ents.map fun p => ((List.range n).map fun d => C d p).sum).sum + (t.ents.map fun p => G n p.1).sum := by
  intro n
  induction n with
  | zero => intro _; simp
  | succ n ih =>
    intro hn
    refine Nat.le_trans (ih (by omega)) ?_
    have := hstep n (by omega)
    have h2 : (t.ents.map fun p => ((List.range (n + 1)).map fun d => C d p).sum).sum = (t.ents.map fun p => ((List.range n).map fun d => C d p).sum).sum + (t.ents.map fun p => C n p).sum := by
     rw [<- sum_add]
     refine congrArg List.sum (List.map_congr_left fun p _ => ?_)
     rw [List.range_succ, List.map_append, List.sum_append]
     simp
    omega
 have h12 : (t.ents.map fun p => G 12 p.1).sum = 0 := by
  generalize t.ents = E
  induction E with
  | nil => rfl
  | cons p E ih =>
    rw [List.map_cons, List.sum_cons, ih]
    rw [hG]
    simp [T.wideN]
 have hCle : ∀ p : Nat × Ent, ((List.range 12).map fun d => C d p).sum <= p.2.names.length := by
  intro p
  have key : ∀ n, ((List.range n).map fun d => C d p).sum <= if dp p.1 < n then p.2.names.length else 0 := by
   intro n
   induction n with
   | zero => simp
   | succ n ih =>
     rw [List.range_succ, List.map_append, List.sum_append]
     simp only [List.map_cons, List.map_nil, List.sum_cons, List.sum_nil, Nat.add_zero]
     have hCn : C n p <= if dp p.1 = n then p.2.names.length else 0 := by
      rw [hC]
      simp only
      split
      · rename_i e; rw [if_pos e.2]; exact Nat.le_refl _
      · exact Nat.zero_le _
     by_cases e1 : dp p.1 < n
     · rw [if_pos e1] at ih
       rw [if_neg (by omega)] at hCn
       rw [if_pos (by omega)]; omega
     · rw [if_neg e1] at ih
       by_cases e2 : dp p.1 = n
       · rw [if_pos e2] at hCn
         rw [if_pos (by omega)]; omega
       · rw [if_neg e2] at hCn
         omega
  refine Nat.le_trans (key 12) ?_
  split
  · exact Nat.le_refl _
  · exact Nat.zero_le _
 have h0 : t.wideN 12 1 <= (t.ents.map fun p => G 0 p.1).sum := by
  obtain ⟨x, hx, hxd, _⟩ := h.root
  have hm : (1, x) ∈ t.ents := geti_mem hx
  have hG0 : G 0 1 = t.wideN 12 1 := by rw [hG]; simp [h.root_dir, hd1]
  rw [<- hG0]
  have : ∀ E : List (Nat × Ent), (1, x) ∈ E -> G 0 1 <= (E.map fun p => G 0 p.1).sum := by
   intro E
   induction E with
   | nil => intro h; cases h
   | cons p E ih =>
     intro hm
     rw [List.map_cons, List.sum_cons]
     rcases List.mem_cons.1 hm with rfl | hm
     · exact Nat.le_add_right _ _
     · exact Nat.le_trans (ih hm) (Nat.le_add_left _ _)
  exact this _ hm
 refine Nat.le_trans h0 (Nat.le_trans (hsum 12 (Nat.le_refl _)) ?_)
 rw [h12, Nat.add_zero]
 exact sum_le_sum _ fun p _ => hCle p
end
theorem named_no {n : Name} (h : named n = true) : ∀ c ∈ n, c ≠ 47 := by
 intro c hc e
 unfold named at h
 simp only [Bool.and_eq_true, Bool.not_eq_true', List.any_eq_false, Bool.or_eq_true, beq_iff_eq, not_or] at h
 exact (h.2 c hc).1 e
theorem cut_at : ∀ {a b s r : List UInt8}, (∀ c ∈ a, c ≠ 47) -> (∀ c ∈ b, c ≠ 47) -> (s = [] \/ ∃ l, s = 47 :: l) -> (r = [] \/ ∃ l, r = 47 :: l) -> a ++ s = b ++ r -> a = b /\ s = r
 | [], [], _, _, _, _, _, _, e => ⟨rfl, e⟩
 | [], c :: b, s, r, _, hb, hs, _, e => by
   rcases hs with rfl | ⟨l, rfl⟩
   · cases e
   · simp only [List.nil_append, List.cons_append, List.cons.injEq] at e
     exact absurd e.1.symm (hb c (by simp))
 | c :: a, [], s, r, ha, _, _, hr, e => by
   rcases hr with rfl | ⟨l, rfl⟩
   · cases e
   · simp only [List.nil_append, List.cons_append, List.cons.injEq] at e
     exact absurd e.1 (ha c (by simp))
 | c :: a, d :: b, s, r, ha, hb, hs, hr, e => by
   simp only [List.cons_append, List.cons.injEq] at e
   obtain ⟨e1, e2⟩ := cut_at (fun c hc => ha c (List.mem_cons_of_mem _ hc)) (fun c hc => hb c (List.mem_cons_of_mem _ hc)) hs hr e.2
   exact ⟨by rw [e.1, e1], e2⟩
theorem T.walkN_mem {t : T} {k i : Nat} {p : List UInt8} {a : List UInt8 × Nat} (h : a ∈ t.walkN (k + 1) i p) : ∃ x q s, t.get i = some x /\ q ∈ x.names /\ a.1 = p ++ 47 :: (q.1 ++ s) /\ ((s = [] /\ a = (p ++ 47 :: q.1, q.2)) \/ ((∃ l, s = 47 :: l) /\ a ∈ t.walkN k q.2 (p ++ 47 :: q.1))) := by
 induction k generalizing i p a with
 | zero =>
   unfold T.walkN at h
   cases hx : t.get i with
   | none => rw [hx] at h; cases h
   | some x =>
     rw [hx] at h
     simp only [List.mem_flatMap, List.mem_cons] at h
     obtain ⟨q, hq, rfl | h⟩ := h
     · exact ⟨x, q, [], rfl, hq, by simp, .inl ⟨rfl, rfl⟩⟩
     · unfold T.walkN at h; cases h
 | succ k ih =>
   unfold T.walkN at h
   cases hx : t.get i with
   | none => rw [hx] at h; cases h
   | some x =>
     rw [hx] at h
     simp only [List.mem_flatMap, List.mem_cons] at h
     obtain ⟨q, hq, rfl | h⟩ := h
     · exact ⟨x, q, [], rfl, hq, by simp, .inl ⟨rfl, rfl⟩⟩
     · obtain ⟨_, q', s, _, _, e, _⟩ := ih h
       exact ⟨x, q, 47 :: (q'.1 ++ s), rfl, hq, by rw [e]; simp, .inr ⟨⟨_, rfl⟩, h⟩⟩
section
variable {t : T} {B : Nat}
theorem T.WF.walk_det (h : t.WF) (hf : t.Fine B) : ∀ {k i : Nat} {p : List UInt8} {a b : List UInt8 × Nat}, a ∈ t.walkN k i p -> b ∈ t.walkN k i p -> a.1 = b.1 -> a = b := by
 intro k
 induction k with
 | zero => intro i p a b ha; cases ha
 | succ k ih =>
   intro i p a b ha hb e
   obtain ⟨x, q, s, hx, hq, ea, ha⟩ := T.walkN_mem ha
   obtain ⟨x', q', s', hx', hq', eb, hb⟩ := T.walkN_mem hb
   rw [hx] at hx'
   cases hx'
   have hl := lk_of_mem (h.sorted _ _ hx) hq
   have hl' := lk_of_mem (h.sorted _ _ hx) hq'
   rw [ea, eb] at e
   have e' := List.append_cancel_left e
   simp only [List.cons.injEq, true_and] at e'
   obtain ⟨e1, e2⟩ := cut_at (named_no (hf.named _ _ _ _ hx hl)) (named_no (hf.named _ _ _ _ hx hl')) (ha.imp (·.1) (·.1)) (hb.imp (·.1) (·.1)) e'
   have hqq : q = q' := by
    rw [e1, hl'] at hl
    exact Prod.ext e1 (Option.some.inj hl).symm
   subst hqq
   subst e2
   rcases ha with ⟨rfl, rfl⟩ | ⟨⟨l, rfl⟩, ha⟩
   · rcases hb with ⟨_, rfl⟩ | ⟨⟨l, hl⟩, _⟩
     · rfl
     · cases hl
   · rcases hb with ⟨hl, _⟩ | ⟨_, hb⟩
     · cases hl
     · exact ih ha hb (by rw [ea, eb])
theorem T.WF.walk_live (h : t.WF) : ∀ {k i : Nat} {p : List UInt8} {a : List UInt8 × Nat}, a ∈ t.walkN k i p -> ∃ y, t.get a.2 = some y := by
 intro k
 induction k with
 | zero => intro i p a ha; cases ha
 | succ k ih =>
   intro i p a ha
   obtain ⟨x, q, s, hx, hq, _, ⟨_, rfl⟩ | ⟨_, ha⟩⟩ := T.walkN_mem ha
   · exact (h.live _ _ _ _ hx (lk_of_mem (h.sorted _ _ hx) hq)).2
   · exact ih ha
end
end Go.Proofs.YtffffjngodinnaaGreatDoor.Abs
end
section
namespace Go.Proofs.YtffffjngodinnaaGreatDoor
set_option maxRecDepth 100000
open Go.RowKit Go.Maps
def newCells (ino : Nat) (mode tick : Int) (nb : Nat) : Array Value := #[.int .i64 (ino : Int), .int .i64 mode, .int .i64 tick, .bool true, .slice none 0 0, .map (some nb), .pointer none, .int .i64 0, .int .i64 0]
def TS.putD (S : TS) (bd : Nat) (yd : Item) (n : List UInt8) (bx : Nat) (y : Item) : TS :=
 { (S.put bd { yd with nn := yd.nn + 1, nf := updN yd.nf n (some bx) }).put bx y with many := S.many + 1 }
set_option maxHeartbeats 2000000 in
theorem put_dir (w : World) (t : Nat) (S : TS) (h : TreeOf w t S) (bd bx nb ino : Nat) (mode tick : Int) (yd : Item) (hd : S.items bd = some yd) (hdd : yd.dir = true) (hbx : Blk w bx 179 (newCells ino mode tick nb)) (hnb : MapOf w Tryz.prog 9 nb 0 (fun _ => none)) (hbf : ¬ S.foot t bx) (hnf : ¬ S.foot t nb) (hbn : bx ≠ nb)
 (ns : ByteArray) (hs : ns.size <= 32) (hnn : yd.nn < 2305843009213693952) (hm : Calm S.many) :
 Calls Tryz.prog 124 #[.pointer (some ⟨t, 0, none⟩), .pointer (some ⟨bd, 0, none⟩), .string ns, .pointer (some ⟨bx, 0, none⟩)] w fun e w' => e = .returned (.tuple #[]) /\ TreeOf w' t (S.putD bd yd ns.data.toList bx { newDir ino mode tick nb bd with links := 1 }) /\ TurnsP (fun g => S.foot t g \/ g = bx) w w' := by
 obtain ⟨d1, d2, d3⟩ := h.item bd yd hd
 obtain ⟨m1, m2⟩ := d3 hdd
 have hne : bd ≠ bx := fun e => hbf (.inr (.inr ⟨bd, yd, hd, .inl e.symm⟩))
 have fnb : S.foot t yd.nb := .inr (.inr ⟨bd, yd, hd, .inr (.inl ⟨hdd, rfl⟩)⟩)
 have hxy : bx ≠ yd.nb := fun e => hbf (e ▸ fnb)
 have hny : nb ≠ yd.nb := fun e => hnf (e ▸ fnb)
 have k5 : w.cell? ⟨bd, 5, none⟩ = some (.map (some yd.nb)) := by rw [d1.cell 5]; simp [itemCells, hdd]
 have wm := hm.wrap_up
 have htx : t ≠ bx := fun e => hbf (.inl e.symm)
 have hF : ∀ w1, MapOf w1 Tryz.prog 9 yd.nb (yd.nn + 1) (upd (namesF yd.nf) (.string ns.data.toList) (some (ptrV bx))) -> w.grownBy w1 (some yd.nb) -> TreeOf w1 t (S.put bd { yd with nn := yd.nn + 1, nf := updN yd.nf ns.data.toList (some bx) }) /\ Blk w1 bx 179 (newCells ino mode tick nb) /\ MapOf w1 Tryz.prog 9 nb 0 (fun _ => none) := by
  intro w1 hm1 hg1
  refine ⟨h.setNames hd hdd hg1 (yd.nn + 1) _ ?_, (hg1.block bx hbx.lt (by simpa using hxy)).trans hbx, hnb.same (hg1.block nb hnb.lt (by simpa using hny))⟩
  rw [namesF_upd]
  exact hm1
 have HF := Lib.hid hF
 clear hF
 go_enter Tryz.func124, Tryz.ntmps124
 go_wp2_with (at_mapUpdate; refine wpList_store_of _ rfl _ _ _ 177 rfl 9 166 stringKeys Tryz.underlying177 yd.nb yd.nn (namesF yd.nf) rfl m1 (by unfold maxLen; omega) _ _ (.string ns.data.toList) rfl rfl (keyOf_str ns (by unfold maxLen; omega)) (strLit _) ?_; intro w1 hm1 hg1; obtain ⟨hT1, b1, hn1⟩ := HF.out w1 hm1 hg1; have q3 : w1.cell? ⟨bx, 3, none⟩ = some (.bool true) := b1.cell 3; have q7 : w1.cell? ⟨bx, 7, none⟩ = some (.int .i64 0) := b1.cell 7; have f7 := b1.frozen 7; have q6 : w1.cell? ⟨bx, 6, none⟩ = some (.pointer none) := b1.cell 6; have f6 := b1.frozen 6; have r3 : w1.cell? ⟨t, 3, none⟩ = some (.int .i64 S.many) := hT1.blk.cell 3; have g3 := hT1.blk.frozen 3; have lx := b1.lt; have lt1 := hT1.blk.lt)
 go_returns
 have hfoot : ∀ g, (S.put bd { yd with nn := yd.nn + 1, nf := updN yd.nf ns.data.toList (some bx) }).foot t g -> S.foot t g := by
  rintro g (rfl | e | ⟨i, y, hy, hg⟩)
  · exact .inl rfl
  · exact .inr (.inl e)
  · by_cases hi : i = bd
    · subst hi
      rw [TS.put_same] at hy
      cases hy
      exact .inr (.inr ⟨i, yd, hd, hg⟩)
    · rw [TS.put_other _ _ hi] at hy
      exact .inr (.inr ⟨i, y, hy, hg⟩)
 have hP0 : TurnsP (fun g => S.foot t g \/ g = bx) w w1 := (TurnsP.refl _ w).grown hg1 (fun k e _ => by cases e; exact .inl fnb)
 have hP := ((hP0.setCell ⟨bx, 7, none⟩ (.int .i64 1) (fun _ => .inr rfl)).setCell ⟨t, 3, none⟩ (.int .i64 (S.many + 1)) (fun _ => .inl (.inl rfl))).setCell ⟨bx, 6, none⟩ (.pointer (some ⟨bd, 0, none⟩)) (fun _ => .inr rfl)
 have hQ1 : TurnsP (fun g => g = bx) w1 (w1.setCell ⟨bx, 7, none⟩ (.int .i64 1)) := (TurnsP.refl _ w1).setCell _ _ (fun _ => rfl)
 have hT2 := hT1.off hQ1 (fun g hg e => hbf (e ▸ hfoot g hg))
 have hT3 := hT2.setTree (grown_setCell _ ⟨t, 3, none⟩ (.int .i64 (S.many + 1))) S.next (S.many + 1) (hT2.blk.set_ 3 _)
 have hT4 := hT3.off (F := fun g => g = bx) ((TurnsP.refl _ _).setCell ⟨bx, 6, none⟩ (.pointer (some ⟨bd, 0, none⟩)) (fun _ => rfl)) (fun g hg e => hbf (e ▸ hfoot g hg))
 have hb2 := b1.set_ 7 (.int .i64 1)
 have hb3 := (hb2.far (p := ⟨t, 3, none⟩) (Ne.symm htx) (.int .i64 (S.many + 1))).set_ 6 (.pointer (some ⟨bd, 0, none⟩))
 have hn3 : MapOf (((w1.setCell ⟨bx, 7, none⟩ (.int .i64 1)).setCell ⟨t, 3, none⟩ (.int .i64 (S.many + 1))).setCell ⟨bx, 6, none⟩ (.pointer (some ⟨bd, 0, none⟩))) Tryz.prog 9 nb 0 (fun _ => none) := by
  refine hn1.same ?_
  rw [Below.heap_setCell _ _ _ nb (by exact hbn.symm), Below.heap_setCell _ _ _ nb (by exact fun e => hnf (.inl e)), Below.heap_setCell _ _ _ nb (by exact hbn.symm)]
 refine ⟨rfl, ?_, hP⟩
 have := hT4.addItem (b := bx) (y := { newDir ino mode tick nb bd with links := 1 }) hb3 (OffRow.nil _ _ _) (fun _ => by rw [show ({ newDir ino mode tick nb bd with links := 1 } : Item).nf = fun _ => none from rfl, namesF_none]; exact hn3) (fun _ hft => hnf (hfoot _ hft)) (fun g e => by simp [newDir, Value.ownBlock] at e)
 exact this
set_option maxHeartbeats 4000000 in
theorem make_dir (w : World) (t : Nat) (S : TS) (T : Abs.T) (β : Nat -> Nat) (h : TreeIs w t S T β) (c : Nat) (hwi : S.within c) (hcb : c < 1152921504606846976) (hnx : T.next < 1152921504606846976) (cwd path : ByteArray) (hc : cwd.size < 1073741824) (hp : path.size < 1073741824) (mode now : Int) (d : Nat) (n : Abs.Name) (hm : T.may cwd.data.toList path.data.toList true = .ok (d, n)) :
 Calls Tryz.prog 94 #[.pointer (some ⟨t, 0, none⟩), .string cwd, .string path, .bool true, .int .i64 mode, .int .i64 now] w fun r w' => r = .returned (makeV (.ok T.next)) /\ TWent w w' t S (c + 1) (T.made d n { dir := true, mode := Abs.nine mode, tick := now, up := d }) := by
 have hf := may_any w t S T β h cwd path hc hp true
 rw [hm] at hf
 obtain ⟨x, hx, hxd, hn, hlk, hdep, hmany⟩ := may_ok hm
 unfold MayIs at hf
 simp only at hf
 obtain ⟨yd, hyd, bd, hin, hmo, hti, hdi, hda, hdr, hli, hhe⟩ := h.at_ hx
 rw [hxd] at hdi
 have hsn : S.next = T.next := h.rep.next
 have hT1 : ∀ w1, Below w.heap.size w w1 -> w1.cell? ⟨t, 2, none⟩ = some (.int .i64 (T.next : Int)) /\ w1.frozen? ⟨t, 2, none⟩ = false /\ t < w1.heap.size /\ w1.cell? ⟨t, 1, none⟩ = some (.map (some S.fb)) := by
  intro w1 hb
  have h1 := (h.below hb).mem.blk
  exact ⟨by rw [h1.cell 2, <- hsn]; rfl, h1.frozen 2, h1.lt, h1.cell 1⟩
 have HT := Lib.hid hT1
 clear hT1
 unfold makeV
 have hmm := @run_makeMap Tryz.prog
 go_enter Tryz.func94, Tryz.ntmps94
 go_wp2_with (go_at_call 123; refine hf.mono ?_; rintro e w1 ⟨rfl, hb⟩; obtain ⟨c2, f2, lt1, c1⟩ := HT.out w1 hb)
 clear hmm
 rw [i64_and511]
 obtain ⟨b, hbe⟩ : ∃ b, w1.heap.size = b := ⟨_, rfl⟩
 have hI1 := h.below hb
 have hTa := hI1.mem.setTree (grown_setCell w1 ⟨t, 2, none⟩ (.int .i64 ((T.next : Int) + 1))) (S.next + 1) S.many (by have := hI1.mem.blk.set_ 2 (.int .i64 ((T.next : Int) + 1)); rw [hsn]; exact this)
 obtain ⟨WA, hWA⟩ : ∃ WA, w1.setCell ⟨t, 2, none⟩ (.int .i64 ((T.next : Int) + 1)) = WA := ⟨_, rfl⟩
 have hsza : WA.heap.size = b := by rw [<- hWA]; simp [hbe]
 rw [hWA] at hTa ⊢
 have PA : TurnsP (S.foot t) w WA := by rw [<- hWA]; exact (TurnsP.of_below hb).setCell _ _ (fun _ => .inl rfl)
 rw [hbe]
 have hWe : WA.alloc (.cells #[.int .i64 (T.next : Int), .int .i64 (mode % 512), .int .i64 now, .bool true, .slice none 0 0, .map (some (b + 1)), .pointer none, .int .i64 0, .int .i64 0] 179) = WA.alloc (.cells (newCells T.next (Abs.nine mode) now (b + 1)) 179) := rfl
 rw [hWe]
 obtain ⟨WB, hWB⟩ : ∃ WB, WA.alloc (.cells (newCells T.next (Abs.nine mode) now (b + 1)) 179) = WB := ⟨_, rfl⟩
 have hszb : WB.heap.size = b + 1 := by rw [<- hWB]; simp [hsza]
 have kB : Blk WB b 179 (newCells T.next (Abs.nine mode) now (b + 1)) := by rw [<- hWB, <- hsza]; exact Blk.new WA _ _
 have PB : TurnsP (S.foot t) w WB := by rw [<- hWB]; exact PA.alloc _
 have hTb : TreeOf WB t { S with next := S.next + 1, many := S.many } := by rw [<- hWB]; exact hTa.below ((Below.refl _ _).alloc (Nat.le_refl _) _)
 rw [hWB]
 obtain ⟨W, hW⟩ : ∃ W, WB.alloc (.map #[] 0) = W := ⟨_, rfl⟩
 have hszw : W.heap.size = b + 1 + 1 := by rw [<- hW]; simp [hszb]
 have kW : Blk W b 179 (newCells T.next (Abs.nine mode) now (b + 1)) := by rw [<- hW]; exact kB.alloc _
 have mW : MapOf W Tryz.prog 9 (b + 1) 0 (fun _ => none) := by rw [<- hW, <- hszb]; exact MapOf.made WB Tryz.prog 9
 have P2 : TurnsP (S.foot t) w W := by rw [<- hW]; exact PB.alloc _
 have hTc : TreeOf W t { S with next := S.next + 1, many := S.many } := by rw [<- hW]; exact hTb.below ((Below.refl _ _).alloc (Nat.le_refl _) _)
 rw [hW]
 have hfl : ∀ g, S.foot t g -> g < w.heap.size := fun g hg => h.mem.foot_lt hg
 have hws := hb.size
 have q0 : W.cell? ⟨b, 0, none⟩ = some (.int .i64 (T.next : Int)) := kW.cell 0
 have hdb : β d ≠ b := fun e => by have := bd.lt; omega
 obtain ⟨S3, hS3⟩ : ∃ S3 : TS, { S with next := S.next + 1, many := S.many } = S3 := ⟨_, rfl⟩
 rw [hS3] at hTc
 have hd3 : S3.items (β d) = some yd := by rw [<- hS3]; exact hyd
 have hm3 : S3.many = (T.many : Int) := by rw [<- hS3]; exact h.rep.many
 have hfoot3 : ∀ g, S3.foot t g -> S.foot t g := by
  intro g hg
  rw [<- hS3] at hg
  exact hg
 have hput := put_dir W t S3 hTc (β d) b (b + 1) T.next (Abs.nine mode) now yd hd3 hdi kW mW (fun hg => by have := hfl _ (hfoot3 _ hg); omega) (fun hg => by have := hfl _ (hfoot3 _ hg); omega) (by omega) ⟨n.toArray⟩ (named_size (by exact hn)) (by have := hwi.1 _ _ hyd; omega) (by unfold Calm; rw [hm3]; omega)
 clear hTc hTa hTb kW kB mW hI1 hm3
 go_wp2_with (go_at_call 124; refine hput.mono ?_; rintro e w4 ⟨rfl, hT4, hP4⟩; have bi4 := (hT4.item b _ (TS.put_same _ _ _)).1; have q04 : w4.cell? ⟨b, 0, none⟩ = some (.int .i64 (T.next : Int)) := bi4.cell 0)
 go_ret2
 have hE : ∀ c, (S3.putD (β d) yd n b { newDir T.next (Abs.nine mode) now (b + 1) (β d) with links := 1 }).items c = if c = b then some { newDir T.next (Abs.nine mode) now (b + 1) 0 with links := (newDir T.next (Abs.nine mode) now (b + 1) 0).links + 1, up := if (newDir T.next (Abs.nine mode) now (b + 1) 0).dir then β d else (newDir T.next (Abs.nine mode) now (b + 1) 0).up } else if c = β d then some { yd with nn := yd.nn + 1, nf := updN yd.nf n (some b) } else S.items c := by
  intro c
  by_cases hc : c = b
  · subst hc; rw [if_pos rfl]; exact TS.put_same _ _ _
  · rw [if_neg hc]
    refine (TS.put_other _ _ hc).trans ?_
    by_cases hcd : c = β d
    · subst hcd; rw [if_pos rfl]; exact TS.put_same _ _ _
    · rw [if_neg hcd]
      refine (TS.put_other _ _ hcd).trans ?_
      rw [<- hS3]
 refine ⟨rfl, S3.putD (β d) yd n b { newDir T.next (Abs.nine mode) now (b + 1) (β d) with links := 1 }, updB β T.next b, ⟨hT4, ?_, ?_⟩, ?_, ?_, ?_⟩
 · refine rep_made h.rep h.wf (fun i z hz e => ?_) hx hxd hlk rfl rfl rfl (fun _ => rfl) (m := yd.nn + 1) hyd (yx := newDir T.next (Abs.nine mode) now (b + 1) 0) rfl rfl rfl rfl rfl rfl rfl (fun _ => rfl) ?_ ?_ ?_ hE (fun i => ?_)
   · obtain ⟨yz, _, bz, _⟩ := h.at_ hz
     have := bz.lt; omega
   · rw [<- hS3]; rfl
   · rw [<- hS3]; rfl
   · rw [<- hS3]; rfl
   · rw [<- hS3]; rfl
 · exact h.wf.made_wf hx hxd hlk rfl (fun _ => rfl) hdep
 · refine ⟨fun c y hy => ?_, ?_⟩
   · rw [hE] at hy
     split at hy
     · cases hy; exact Nat.zero_le _
     · split at hy
       · cases hy; exact Nat.succ_le_succ (hwi.1 _ _ hyd)
       · have := hwi.1 _ _ hy; omega
   · show S3.fn <= _
     rw [<- hS3]
     exact Nat.le_succ_of_le hwi.2
 · refine P2.then hP4 ?_
   rintro g (hg | rfl)
   · exact .inl (hfoot3 g hg)
   · exact .inr (by omega)
 · rintro g (rfl | e | ⟨i, y, hy, hg⟩)
   · exact .inl (.inl rfl)
   · refine .inl (.inr (.inl (e.trans ?_)))
     show S3.fb = _
     rw [<- hS3]
   · rw [hE] at hy
     split at hy
     · rename_i hib
       cases hy
       rcases hg with rfl | ⟨hd, rfl⟩ | hv
       · exact .inr (by omega)
       · exact .inr (by show w.heap.size <= b + 1; omega)
       · simp [newDir, Value.ownBlock] at hv
     · split at hy
       · rename_i _ hid
         cases hy
         exact .inl (.inr (.inr ⟨β d, yd, hyd, by rw [<- hid]; exact hg⟩))
       · exact .inl (.inr (.inr ⟨i, y, hy, hg⟩))
end Go.Proofs.YtffffjngodinnaaGreatDoor
end
