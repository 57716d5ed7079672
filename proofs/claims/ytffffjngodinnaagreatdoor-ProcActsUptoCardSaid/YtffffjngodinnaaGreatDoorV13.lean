/-
  Parts of the proof.
-/
import Derived.Test.YtffffjngodinnaaGreatDoorV11
import Derived.Deep.LoopGhost
import Derived.Test.YtffffjngodinnaaGreatDoorV12
namespace Go.Proofs.YtffffjngodinnaaGreatDoor
section
open Go.RowKit Go.Maps
structure PF where
 steps : Nat
 held : Int
 peak : Int
 inb : List UInt8
 said : Bool -> List UInt8
 used : Nat
def Flow.pl (F : Flow) : PF := { steps := F.steps, held := F.held, peak := F.peak, inb := F.inb, said := F.said, used := F.used }
namespace PF
def next (fl : List (Int × Int)) (s : PF) : Int × Int := fl.getD s.used (0, 0)
def took (fl : List (Int × Int)) (s : PF) : Nat := if s.used = fl.length then s.used else s.used + 1
def failed (fl : List (Int × Int)) (s : PF) : PF := { s with steps := s.steps + 1, used := s.took fl }
def some_ (fl : List (Int × Int)) (s : PF) (m : Nat) : Nat := (shortN (m : Int) (s.next fl)).toNat
def wrote (fl : List (Int × Int)) (s : PF) (b : Bool) (bs : List UInt8) : PF := { s with steps := s.steps + 1, said := fun b' => if b' = b then s.said b ++ bs else s.said b', used := s.took fl }
def read (fl : List (Int × Int)) (s : PF) (n : Nat) : PF := { s with steps := s.steps + 1, inb := s.inb.drop n, used := s.took fl }
def left (fl : List (Int × Int)) (s : PF) : Nat := fl.length - s.used
def all (fl : List (Int × Int)) : Nat -> PF -> Bool -> List UInt8 -> PF × Int
 | 0, s, _, _ => (s, -1)
 | f + 1, s, b, bs =>
   if bs = [] then (s, -1)
   else if wErr (s.next fl) = 9 then all fl f (s.failed fl) b bs
   else if wErr (s.next fl) = 0 then all fl f (s.wrote fl b (bs.take (s.some_ fl bs.length))) b (bs.drop (s.some_ fl bs.length))
   else (s.failed fl, 1)
def reads (fl : List (Int × Int)) : Nat -> PF -> Nat -> PF × Option (List UInt8)
 | 0, s, _ => (s, none)
 | f + 1, s, m =>
   if (s.next fl).1 = 2 then reads fl f (s.failed fl) m
   else if (s.next fl).1 = 4 then (s.failed fl, none)
   else (s.read fl (s.some_ fl (min m s.inb.length)), some (s.inb.take (s.some_ fl (min m s.inb.length))))
def holds (s : PF) (h m : Int) : PF := { s with held := h, peak := m }
section
variable {fl : List (Int × Int)} {s : PF}
theorem next_free (h : s.used = fl.length) : s.next fl = (0, 0) := by
 unfold next; rw [h]; simp
theorem wErr_zero : wErr (0, 0) = 0 := rfl
theorem took_lt (h : wErr (s.next fl) ≠ 0 \/ (s.next fl).1 = 2) (hu : s.used <= fl.length) : s.took fl = s.used + 1 /\ s.used < fl.length := by
 by_cases e : s.used = fl.length
 · rw [next_free e] at h
   rcases h with h | h
   · exact absurd wErr_zero h
   · exact absurd h (by decide)
 · exact ⟨if_neg e, by omega⟩
theorem took_le (hu : s.used <= fl.length) : s.took fl <= fl.length /\ s.used <= s.took fl := by
 unfold took; split <;> omega
theorem some_pos {m : Nat} (h : 0 < m) : 0 < s.some_ fl m /\ s.some_ fl m <= m := by
 unfold some_ shortN
 split <;> omega
theorem some_le (m : Nat) : s.some_ fl m <= m := by
 unfold some_ shortN
 split <;> omega
theorem some_eq (m : Nat) : shortN (m : Int) (s.next fl) = ((s.some_ fl m : Nat) : Int) := by
 unfold some_ shortN
 split <;> omega
end
end PF
section
variable {X : Job} {F : Flow}
theorem Flow.pl_next : (X.kF F).next = F.pl.next X.K.fl := rfl
theorem JobOf.used_le {w : World} (h : JobOf w X F) : F.pl.used <= X.K.fl.length := h.kern.used
end
end
section
set_option maxRecDepth 100000
open Go.RowKit Go.Maps
structure AllSt (X : Job) (F0 : Flow) (w0 : World) (b : Bool) (R : PF × Int) (A : Option Addr) (c : Nat) (bs : List UInt8) (F : Flow) (w : World) : Prop where
 job : JobOf w X F
 went : Went X F0 F w0 w
 reads : Reads w w.heap.size 1 A bs.length (bytesC bs)
 off : ∀ ad, A = some ad -> ad.block ∉ X.foot F
 cap : bs.length <= c
 ends : ∃ f, F.pl.left X.K.fl + bs.length < f /\ PF.all X.K.fl f F.pl b bs = R
 steps : F.steps + F.pl.left X.K.fl + bs.length < 4611686018427387904
 said : (F.said b).length + bs.length <= 140737488355000
section
variable {X : Job} {F0 F : Flow} {w0 w w' : World} {b : Bool} {R : PF × Int} {A : Option Addr} {c : Nat} {bs : List UInt8}
theorem cutA_block {A : Option Addr} {cap l : Nat} {ad : Addr} (h : cutA A cap l 1 = some ad) : ∃ a0, A = some a0 /\ a0.block = ad.block := by
 unfold cutA at h
 split at h
 · exact ⟨ad, h, rfl⟩
 · cases A with
   | none => cases h
   | some a0 =>
     refine ⟨a0, rfl, ?_⟩
     simp only [Option.map_some, Option.some.injEq] at h
     rw [<- h]
     unfold Addr.add
     split <;> rfl
theorem AllSt.ended (h : AllSt X F0 w0 b R A c [] F w) : R = (F.pl, -1) := by
 obtain ⟨f, hf, hR⟩ := h.ends
 cases f with
 | zero => omega
 | succ f => rw [<- hR]; simp [PF.all]
theorem AllSt.intr (h : AllSt X F0 w0 b R A c bs F w) (hne : bs ≠ []) (he : wErr (F.pl.next X.K.fl) = 9) (hJ : JobOf w' X (F.failed X)) (hW : Went X F (F.failed X) w w') :
 AllSt X F0 w0 b R A c bs (F.failed X) w' /\ (F.failed X).pl.left X.K.fl < F.pl.left X.K.fl := by
 have ht := PF.took_lt (fl := X.K.fl) (s := F.pl) (.inl (by rw [he]; decide)) h.job.used_le
 have hl : (F.failed X).pl.left X.K.fl = F.pl.left X.K.fl - 1 /\ 0 < F.pl.left X.K.fl := by
  have e : (F.failed X).pl.used = F.pl.used + 1 := ht.1
  unfold PF.left
  rw [e]
  omega
 have hr : Reads w' w'.heap.size 1 A bs.length (bytesC bs) := (h.reads.turns hW.turns (Nat.le_refl _) h.off).more hW.turns.size
 refine ⟨⟨hJ, h.went.trans hW, ?_, ?_, h.cap, ?_, ?_, ?_⟩, by omega⟩
 · exact hr
 · intro ad h1
   have h3 := h.off ad h1
   intro hm
   rcases hW.news _ hm with h4 | h4
   · exact h3 h4
   · rcases Nat.eq_zero_or_pos bs.length with h0 | h0
     · exact hne (List.eq_nil_of_length_eq_zero h0)
     · obtain ⟨a1, h5, h6, _⟩ := h.reads.2 h0
       rw [h1] at h5
       cases h5
       omega
 · obtain ⟨f, hf, hR⟩ := h.ends
   cases f with
   | zero => omega
   | succ f =>
     refine ⟨f, by omega, ?_⟩
     rw [<- hR, PF.all, if_neg hne, if_pos he]
     rfl
 · have e : (F.failed X).steps = F.steps + 1 := rfl
   have := h.steps
   rw [e]
   omega
 · exact h.said
theorem AllSt.some_ (h : AllSt X F0 w0 b R A c bs F w) (hne : bs ≠ []) (he : wErr (F.pl.next X.K.fl) = 0) {n : Nat} (hn : n = F.pl.some_ X.K.fl bs.length) {v : Value} (hJ : JobOf w' X (F.wrote X b (bs.take n) v)) (hW : Went X F (F.wrote X b (bs.take n) v) w w') :
 AllSt X F0 w0 b R (cutA A c n 1) (c - n) (bs.drop n) (F.wrote X b (bs.take n) v) w' /\ (F.wrote X b (bs.take n) v).pl.left X.K.fl + (bs.drop n).length < F.pl.left X.K.fl + bs.length := by
 have hbp : 0 < bs.length := List.length_pos_iff.2 hne
 have hp := PF.some_pos (fl := X.K.fl) (s := F.pl) hbp
 rw [<- hn] at hp
 have hl : (F.wrote X b (bs.take n) v).pl.left X.K.fl <= F.pl.left X.K.fl := by
  have := PF.took_le (fl := X.K.fl) (s := F.pl) h.job.used_le
  show X.K.fl.length - F.pl.took X.K.fl <= X.K.fl.length - F.pl.used
  omega
 have hr : Reads w' w'.heap.size 1 A bs.length (bytesC bs) := (h.reads.turns hW.turns (Nat.le_refl _) h.off).more hW.turns.size
 have hdl : (bs.drop n).length = bs.length - n := List.length_drop
 refine ⟨⟨hJ, h.went.trans hW, ?_, ?_, by have := h.cap; omega, ?_, ?_, ?_⟩, by omega⟩
 · have := hr.cutA (k := n) (cap := c) hp.2 h.cap
   rw [hdl, bytesC_drop]
   simpa using this
 · intro ad hA
   obtain ⟨a0, h1, h2⟩ := cutA_block hA
   have h3 := h.off a0 h1
   rw [h2] at h3
   intro hm
   rcases hW.news _ hm with h4 | h4
   · exact h3 h4
   · obtain ⟨a1, h5, h6, _⟩ := h.reads.2 hbp
     rw [h1] at h5
     cases h5
     omega
 · obtain ⟨f, hf, hR⟩ := h.ends
   cases f with
   | zero => omega
   | succ f =>
     refine ⟨f, by omega, ?_⟩
     rw [<- hR, PF.all, if_neg hne, if_neg (by rw [he]; decide), if_pos he, <- hn]
     rfl
 · have e : (F.wrote X b (bs.take n) v).steps = F.steps + 1 := rfl
   have := h.steps
   rw [e]
   omega
 · have e : (F.wrote X b (bs.take n) v).said b = F.said b ++ bs.take n := if_pos rfl
   have := h.said
   rw [e, List.length_append, List.length_take, hdl]
   omega
theorem AllSt.fails (h : AllSt X F0 w0 b R A c bs F w) (hne : bs ≠ []) (he : wErr (F.pl.next X.K.fl) ≠ 0) (he9 : wErr (F.pl.next X.K.fl) ≠ 9) : R = ((F.failed X).pl, 1) := by
 obtain ⟨f, hf, hR⟩ := h.ends
 cases f with
 | zero => omega
 | succ f => rw [<- hR, PF.all, if_neg hne, if_neg he9, if_neg he]; rfl
end
set_option maxHeartbeats 2000000 in
theorem all_any (w : World) (X : Job) (F : Flow) (h : JobOf w X F) (b : Bool) (A : Option Addr) (c : Nat) (bs : List UInt8) (hb : Reads w w.heap.size 1 A bs.length (bytesC bs)) (hA : ∀ ad, A = some ad -> ad.block ∉ X.foot F) (hc : bs.length <= c)
 (hst : F.steps + F.pl.left X.K.fl + bs.length < 4611686018427387904) (hl : (F.said b).length + bs.length <= 140737488355000) (f : Nat) (hf : F.pl.left X.K.fl + bs.length < f) (R : PF × Int) (hR : PF.all X.K.fl f F.pl b bs = R) :
 Calls Tryz.prog 71 #[.pointer (some ⟨X.p, 0, none⟩), .int .i64 (fdOf b : Nat), .slice A bs.length c] w fun e w' => e = .returned (.int .i64 R.2) /\ ∃ F', F'.pl = R.1 /\ JobOf w' X F' /\ Went X F F' w w' := by
 obtain ⟨iB, hiB, hB0, hB1, hB2⟩ := info_parts Tryz.infoByte
 have hcut := Lib.hid (fun (A : Option Addr) (len cap n : Nat) (hn : n <= len) (W : World) => run_cut (P := Tryz.prog) 23 5 iB 1 Tryz.underlying23 hiB hB1 A len cap .i64 (n : Int) n rfl hn W)
 have H0 : Hid (AllSt X F w b R A c bs F w) := Lib.hid ⟨h, Went.refl _ _ _, hb, hA, hc, ⟨f, hf, hR⟩, hst, hl⟩
 obtain ⟨m, hm⟩ : ∃ m, bs.length = m := ⟨_, rfl⟩
 obtain ⟨g0, hg0⟩ : ∃ g, F.pl.left X.K.fl + m = g := ⟨_, rfl⟩
 have HM := Lib.hid hm
 have HG := Lib.hid hg0
 rw [hm]
 clear hiB hB0 hB1 hB2 h hb hA hc hst hl hf hR hm hg0
 go_enter Tryz.func71, Tryz.ntmps71
 go_wp2_with fail
 go_loopg [2] g0 (fun k v wr => ∃ (A' : Option Addr) (c' : Nat) (bs' : List UInt8) (F' : Flow), k = F'.pl.left X.K.fl + bs'.length /\ v = .slice A' bs'.length c' /\ Hid (AllSt X F w b R A' c' bs' F' wr))
 case atStart => exact ⟨A, c, bs, F, by rw [HM.out, HG.out], by rw [HM.out], H0⟩
 case round =>
  obtain ⟨A', c', bs', F', rfl, rfl, HS⟩ := hrel
  by_cases hnil : bs' = []
  · subst hnil
    have hR := HS.out.ended
    go_wp2_with fail
    go_returns
    rw [hR]
    exact ⟨rfl, F', rfl, HS.out.job, HS.out.went⟩
  · have hpos := List.length_pos_iff.2 hnil
    have hsz := HS.out.steps
    have hsl := HS.out.said
    obtain ⟨m', hm'⟩ : ∃ m', bs'.length = m' := ⟨_, rfl⟩
    have HM' := Lib.hid hm'
    by_cases h0 : wErr (F'.pl.next X.K.fl) = 0
    · obtain ⟨n, hn⟩ : ∃ n, F'.pl.some_ X.K.fl bs'.length = n := ⟨_, rfl⟩
      have hnl := PF.some_pos (fl := X.K.fl) (s := F'.pl) hpos
      rw [hn] at hnl
      have hwr := jobWrite wr X F' HS.out.job (by omega) b A' c' bs' HS.out.reads HS.out.off HS.out.cap hpos hsl h0 n (by rw [<- hn]; exact PF.some_eq (fl := X.K.fl) (s := F'.pl) bs'.length)
      have hnx := fun v w' => HS.out.some_ hnil h0 hn.symm (v := v) (w' := w')
      rw [hm'] at hwr hnl hpos
      have hcc := hcut.out A' m' c' n hnl.2
      have HNX := Lib.hid hnx
      have hm0 : ¬ (m' : Int) <= 0 := by omega
      rw [hm']
      clear hnx hsz hsl hn hm' h0
      go_wp2_with (go_at_call 107; refine hwr.mono ?_; rintro e w1 ⟨rfl, v, hJ1, hW1⟩)
      obtain ⟨h1, h2⟩ := HNX.out v w1 hJ1 hW1
      go_roundg ((F'.wrote X b (bs'.take n) v).pl.left X.K.fl + (bs'.drop n).length)
      case rel => exact ⟨_, _, bs'.drop n, _, rfl, by rw [List.length_drop, HM'.out], Lib.hid h1⟩
      case measure => have := HM'.out; omega
    · by_cases h9 : wErr (F'.pl.next X.K.fl) = 9
      · have hwr := jobFail wr X F' HS.out.job (by omega) b A' bs'.length c' hpos h0
        rw [Flow.pl_next, h9] at hwr
        have hnx := fun w' => HS.out.intr hnil h9 (w' := w')
        rw [hm'] at hwr hpos
        have HNX := Lib.hid hnx
        have hm0 : ¬ (m' : Int) <= 0 := by omega
        rw [hm']
        clear hnx hsz hsl hm' h0 h9
        go_wp2_with (go_at_call 107; refine hwr.mono ?_; rintro e w1 ⟨rfl, hJ1, hW1⟩)
        obtain ⟨h1, h2⟩ := HNX.out w1 hJ1 hW1
        go_roundg ((F'.failed X).pl.left X.K.fl + bs'.length)
        case rel => exact ⟨_, _, bs', _, rfl, by rw [HM'.out], Lib.hid h1⟩
        case measure => omega
      · have hwr := jobFail wr X F' HS.out.job (by omega) b A' bs'.length c' hpos h0
        rw [Flow.pl_next] at hwr
        have hR := HS.out.fails hnil h0 h9
        obtain ⟨er, her⟩ : ∃ er, wErr (F'.pl.next X.K.fl) = er := ⟨_, rfl⟩
        rw [her] at hwr h0 h9
        rw [hm'] at hwr hpos
        have e0 : (er != 0) = true := bne_iff_ne.2 h0
        have e9 : (er != 9) = true := bne_iff_ne.2 h9
        have hm0 : ¬ (m' : Int) <= 0 := by omega
        rw [hm']
        clear hsz hsl hm' h0 h9 her
        go_wp2_with (go_at_call 107; refine hwr.mono ?_; rintro e w1 ⟨rfl, hJ1, hW1⟩)
        go_returns
        rw [hR]
        exact ⟨rfl, F'.failed X, rfl, hJ1, HS.out.went.trans hW1⟩
end
section
set_option maxRecDepth 100000
open Go.RowKit Go.Maps
set_option maxHeartbeats 2000000 in
theorem readSourceIntr (w : World) (b k : Nat) (K : KS) (D : Nat -> Value) (hK : KernOf w k K) (h : TableOf w b k D) (i : Nat) (hi : i < 16) (p : Nat) (hD : D i = sourceV p) (v : Value) (hp : Blk w p 159 #[v]) (most : Int) (hm : 1 <= most) (hf : K.next.1 = 2) :
 Calls Tryz.prog 145 #[.pointer (some ⟨b, 0, none⟩), .int .i64 (i : Int), .int .i64 most] w fun e w' => e = .returned (.tuple #[.slice none 0 0, .int .i64 9]) /\ KernOf w' k K.took /\ Turns [k] w w' := by
 have hhas := kHas w b k D h (i : Int)
 rw [if_pos (by omega), Int.toNat_natCast, hD] at hhas
 have hk := h.kern
 unfold sourceV at hhas
 have hfa := fun W hW => kFault W k K hW
 rw [hf] at hfa
 go_enter Tryz.func145, Tryz.ntmps145
 go_wp2_with (first
  | (go_at_call 166; refine hhas.mono ?_; rintro e w1 ⟨rfl, rfl⟩)
  | (go_at_call 167; refine (hfa _ hK).mono ?_; rintro e w2 ⟨rfl, hK2, hT2⟩))
 go_returns
 exact ⟨rfl, hK2.alloc _, hT2.alloc _⟩
set_option maxHeartbeats 2000000 in
theorem readSource (w : World) (b k : Nat) (K : KS) (D : Nat -> Value) (hK : KernOf w k K) (h : TableOf w b k D) (i : Nat) (hi : i < 16) (p : Nat) (hD : D i = sourceV p) (base : Nat) (A : Option Addr) (c : Nat) (bs : List UInt8) (hp : Blk w p 159 #[.slice A bs.length c])
 (hr : OffRow w base 5 (.slice A bs.length c) bs.length (bytesC bs)) (most : Int) (hm : 1 <= most) (hm2 : most <= 9223372036854775807) (hf : K.next.1 ≠ 2) (hf4 : K.next.1 ≠ 4) (hl : bs.length <= 140737488355328) (n : Nat) (hn : shortN (min most bs.length) K.next = (n : Int)) :
 Calls Tryz.prog 145 #[.pointer (some ⟨b, 0, none⟩), .int .i64 (i : Int), .int .i64 most] w fun e w' => ∃ u, e = .returned (.tuple #[u, .int .i64 0]) /\ w'.ownsRow w.heap.size 5 1 u n (bytesC (bs.take n)) /\
  KernOf w' k K.took /\ Blk w' p 159 #[.slice (cutA A c n 1) (bs.length - n) (c - n)] /\ Turns [k, p] w w' := by
 have hhas := kHas w b k D h (i : Int)
 rw [if_pos (by omega), Int.toNat_natCast, hD] at hhas
 have hk := h.kern
 unfold sourceV at hhas
 obtain ⟨f1, f2, hff⟩ : ∃ f1 f2, K.next = (f1, f2) := ⟨_, _, rfl⟩
 rw [hff] at hn
 have hfa := fun W hW => kFault W k K hW
 rw [hff] at hfa hf hf4
 have hpf : p ∉ K.foot k := hK.off hp (by decide) (by decide)
 have hsh := fun W => kShort W (min most bs.length) (f1, f2)
 rw [hn] at hsh
 have hnl : n <= bs.length := by
  have := (shortN_le (m := min most bs.length) (f := (f1, f2)) (by omega)).2
  omega
 have hc : bs.length <= c := by
  obtain ⟨A', c', e, hc, _⟩ := hr.form
  simp only [Value.slice.injEq] at e
  omega
 obtain ⟨iB, hiB, hB0, hB1, hB2⟩ := info_parts Tryz.infoByte
 have hfr := fun W => run_front (P := Tryz.prog) 23 5 iB Tryz.underlying23 hiB A bs.length c n (by omega) W
 have hct := fun W => run_cut (P := Tryz.prog) 23 5 iB 1 Tryz.underlying23 hiB hB1 A bs.length c .i64 (n : Int) n rfl hnl W
 clear hiB hB0 hB1 hB2
 obtain ⟨m, hm3⟩ : ∃ m, min most (bs.length : Int) = m := ⟨_, rfl⟩
 rw [hm3] at hn hsh
 rcases Int.lt_or_le (bs.length : Int) most with hml | hml
 · rw [Int.min_eq_right (Int.le_of_lt hml)] at hm3
   subst hm3
   have HC := Lib.hid hc
   have HN := Lib.hid hnl
   clear hc hnl
   go_enter Tryz.func145, Tryz.ntmps145
   go_wp2_with (first
    | (go_at_call 166; refine hhas.mono ?_; rintro e w1 ⟨rfl, rfl⟩)
    | (go_at_call 167; refine (hfa _ hK).mono ?_; rintro e w2 ⟨rfl, hK2, hT2⟩; have hp2 := (hT2.block p hp.lt (by intro hx; apply hpf; rw [List.mem_singleton.1 hx]; simp [KS.foot])).trans hp; have cp2 : w2.cell? ⟨p, 0, none⟩ = some (.slice A bs.length c) := Blk.cell hp2 0; have fp2 : w2.frozen? ⟨p, 0, none⟩ = false := Blk.frozen hp2 0; have lp2 : p < w2.heap.size := Blk.lt hp2))
   obtain ⟨W, hW⟩ : ∃ W, (w2.alloc (.cells #[.int .i64 f1, .int .i64 f2] 44)).drew = W := ⟨_, rfl⟩
   have q0 : W.cell? ⟨p, 0, none⟩ = some (.slice A bs.length c) := by rw [<- hW]; exact (World.cell?_alloc_lt w2 _ _ lp2).trans cp2
   have q1 : W.cell? ⟨w2.heap.size, 0, none⟩ = some (.int .i64 f1) := by rw [<- hW]; exact (Blk.new w2 _ _).cell 0
   have q2 : W.cell? ⟨w2.heap.size, 1, none⟩ = some (.int .i64 f2) := by rw [<- hW]; exact (Blk.new w2 _ _).cell 1
   have lpW : p < W.heap.size := by rw [<- hW]; show p < (w2.alloc _).heap.size; simp; omega
   have TW : Turns [k] w1 W := by rw [<- hW]; exact (hT2.alloc _).drew
   have KW : KernOf W k K.took := by rw [<- hW]; exact (hK2.alloc _).same fun _ _ => rfl
   have hOW : OffRow W base 5 (.slice A bs.length c) bs.length (bytesC bs) := by
    refine hr.same fun g hg => TW.block g (hr.lt hg).2 ?_
    rw [List.mem_singleton]
    rintro rfl
    exact hr.blk_ne hK.blk (by decide) hg
   obtain ⟨X, hX⟩ : ∃ X : Obj, .cells #[.int .i64 f1, .int .i64 f2] 44 = X := ⟨_, rfl⟩
   rw [hX] at hsh
   have HBY := Lib.hid (bytes_of_front hOW (fun g hg => Below.heap_alloc W X g hg) HN.out)
   have HLT : Hid ((bs.take n).length <= 140737488355328) := Lib.hid (by rw [List.length_take]; omega)
   have hpX : p < (W.alloc X).heap.size := by simp; omega
   have bW : Blk W p 159 #[.slice A bs.length c] := by rw [<- hW]; exact (Below.heap_alloc w2 _ p lp2).trans hp2
   have HQ4 : ∀ w4, Below (W.alloc X).heap.size (W.alloc X) w4 -> w4.cell? ⟨p, 0, none⟩ = some (.slice A bs.length c) := fun w4 hb => Blk.cell ((bW.alloc X).below hb hpX) 0
   have HF4 : ∀ w4, Below (W.alloc X).heap.size (W.alloc X) w4 -> w4.frozen? ⟨p, 0, none⟩ = false := fun w4 hb => Blk.frozen ((bW.alloc X).below hb hpX) 0
   have HL4 : ∀ w4, Below (W.alloc X).heap.size (W.alloc X) w4 -> p < w4.heap.size := fun w4 hb => Nat.lt_of_lt_of_le hpX hb.size
   refine still_tail 7 W hW (by kernel_rfl) (by kernel_rfl) ?_
   simp only [List.take_succ_cons, List.take_zero, List.drop_succ_cons, List.drop_zero]
   repeat still_step
   refine wpStill_nil ?_
   go_wp2_with (first
    | (go_at_call 169; refine (hsh _).mono ?_; rintro e w3 ⟨rfl, rfl⟩)
    | (go_at_call 62; refine (cloneB _ _ (bs.take n) HBY.out HLT.out).mono ?_; rintro e w4 ⟨u, rfl, hown, hbel⟩; have q4 := HQ4 w4 hbel; have f4 := HF4 w4 hbel; have l4 := HL4 w4 hbel))
   go_returns
   have T4 : Turns [k] w1 w4 := (TW.alloc X).then (Turns.of_below hbel) (by simp)
   have K4 : KernOf w4 k K.took := ((KW.alloc X).below hbel)
   refine ⟨u, rfl, ?_, K4.same (fun g hg => Below.heap_setCell w4 _ _ g (fun e => hpf ((show g = p from e) ▸ hg))), (((bW.alloc X).below hbel hpX).set_ 0 _), (T4.more (by simp)).setCell _ _ (by simp)⟩
   have h1 := Joins.ownsRow_le hown (show w1.heap.size <= (W.alloc X).heap.size by have := TW.size; simp; omega)
   rw [List.length_take, Nat.min_eq_left HN.out] at h1
   exact ownsRow_setCell_other h1 (fun e => by have := (hown.lt p e).1; omega) _
 · rw [Int.min_eq_left hml] at hm3
   subst hm3
   have HC := Lib.hid hc
   have HN := Lib.hid hnl
   clear hc hnl
   go_enter Tryz.func145, Tryz.ntmps145
   go_wp2_with (first
    | (go_at_call 166; refine hhas.mono ?_; rintro e w1 ⟨rfl, rfl⟩)
    | (go_at_call 167; refine (hfa _ hK).mono ?_; rintro e w2 ⟨rfl, hK2, hT2⟩; have hp2 := (hT2.block p hp.lt (by intro hx; apply hpf; rw [List.mem_singleton.1 hx]; simp [KS.foot])).trans hp; have cp2 : w2.cell? ⟨p, 0, none⟩ = some (.slice A bs.length c) := Blk.cell hp2 0; have fp2 : w2.frozen? ⟨p, 0, none⟩ = false := Blk.frozen hp2 0; have lp2 : p < w2.heap.size := Blk.lt hp2))
   obtain ⟨W, hW⟩ : ∃ W, (w2.alloc (.cells #[.int .i64 f1, .int .i64 f2] 44)).drew = W := ⟨_, rfl⟩
   have q0 : W.cell? ⟨p, 0, none⟩ = some (.slice A bs.length c) := by rw [<- hW]; exact (World.cell?_alloc_lt w2 _ _ lp2).trans cp2
   have q1 : W.cell? ⟨w2.heap.size, 0, none⟩ = some (.int .i64 f1) := by rw [<- hW]; exact (Blk.new w2 _ _).cell 0
   have q2 : W.cell? ⟨w2.heap.size, 1, none⟩ = some (.int .i64 f2) := by rw [<- hW]; exact (Blk.new w2 _ _).cell 1
   have lpW : p < W.heap.size := by rw [<- hW]; show p < (w2.alloc _).heap.size; simp; omega
   have TW : Turns [k] w1 W := by rw [<- hW]; exact (hT2.alloc _).drew
   have KW : KernOf W k K.took := by rw [<- hW]; exact (hK2.alloc _).same fun _ _ => rfl
   have hOW : OffRow W base 5 (.slice A bs.length c) bs.length (bytesC bs) := by
    refine hr.same fun g hg => TW.block g (hr.lt hg).2 ?_
    rw [List.mem_singleton]
    rintro rfl
    exact hr.blk_ne hK.blk (by decide) hg
   obtain ⟨X, hX⟩ : ∃ X : Obj, .cells #[.int .i64 f1, .int .i64 f2] 44 = X := ⟨_, rfl⟩
   rw [hX] at hsh
   have HBY := Lib.hid (bytes_of_front hOW (fun g hg => Below.heap_alloc W X g hg) HN.out)
   have HLT : Hid ((bs.take n).length <= 140737488355328) := Lib.hid (by rw [List.length_take]; omega)
   have hpX : p < (W.alloc X).heap.size := by simp; omega
   have bW : Blk W p 159 #[.slice A bs.length c] := by rw [<- hW]; exact (Below.heap_alloc w2 _ p lp2).trans hp2
   have HQ4 : ∀ w4, Below (W.alloc X).heap.size (W.alloc X) w4 -> w4.cell? ⟨p, 0, none⟩ = some (.slice A bs.length c) := fun w4 hb => Blk.cell ((bW.alloc X).below hb hpX) 0
   have HF4 : ∀ w4, Below (W.alloc X).heap.size (W.alloc X) w4 -> w4.frozen? ⟨p, 0, none⟩ = false := fun w4 hb => Blk.frozen ((bW.alloc X).below hb hpX) 0
   have HL4 : ∀ w4, Below (W.alloc X).heap.size (W.alloc X) w4 -> p < w4.heap.size := fun w4 hb => Nat.lt_of_lt_of_le hpX hb.size
   refine still_tail 7 W hW (by kernel_rfl) (by kernel_rfl) ?_
   simp only [List.take_succ_cons, List.take_zero, List.drop_succ_cons, List.drop_zero]
   repeat still_step
   refine wpStill_nil ?_
   go_wp2_with (first
    | (go_at_call 169; refine (hsh _).mono ?_; rintro e w3 ⟨rfl, rfl⟩)
    | (go_at_call 62; refine (cloneB _ _ (bs.take n) HBY.out HLT.out).mono ?_; rintro e w4 ⟨u, rfl, hown, hbel⟩; have q4 := HQ4 w4 hbel; have f4 := HF4 w4 hbel; have l4 := HL4 w4 hbel))
   go_returns
   have T4 : Turns [k] w1 w4 := (TW.alloc X).then (Turns.of_below hbel) (by simp)
   have K4 : KernOf w4 k K.took := ((KW.alloc X).below hbel)
   refine ⟨u, rfl, ?_, K4.same (fun g hg => Below.heap_setCell w4 _ _ g (fun e => hpf ((show g = p from e) ▸ hg))), (((bW.alloc X).below hbel hpX).set_ 0 _), (T4.more (by simp)).setCell _ _ (by simp)⟩
   have h1 := Joins.ownsRow_le hown (show w1.heap.size <= (W.alloc X).heap.size by have := TW.size; simp; omega)
   rw [List.length_take, Nat.min_eq_left HN.out] at h1
   exact ownsRow_setCell_other h1 (fun e => by have := (hown.lt p e).1; omega) _
end
section
open Go.RowKit Go.Maps
end
section
open Go.RowKit Go.Maps
theorem cloneU_nil (w : World) : Calls Tryz.prog 37 #[.slice none 0 0] w fun e w' => e = .returned (.slice none 0 0) /\ w' = w := by
 have heq := fun (W : World) => Lib.run_eql_slice_nil (P := Tryz.prog) W 23 5 none 0 0 0 0 Tryz.underlying23
 go_enter Tryz.func37, Tryz.ntmps37
 go_wp2
 go_returns
 exact ⟨rfl, rfl⟩
end
section
open Go.RowKit Go.Maps
theorem own_ne_own {w : World} {B B' n n' size size' g : Nat} {e e' : TypeId} {v v' : Value} {xs xs' : List Value} (h : w.ownsRow B e size v n xs) (h' : w.ownsRow B' e' size' v' n' xs') (he : e ≠ e') (hv : v.ownBlock = some g) : v'.ownBlock ≠ some g := by
 intro hv'
 obtain ⟨c, fz, h1⟩ := Lib.ownsRow_kind h g hv
 obtain ⟨c', fz', h2⟩ := Lib.ownsRow_kind h' g hv'
 rw [h1] at h2
 injection h2 with h2
 injection h2 with _ h3
 exact he h3
end
section
set_option maxRecDepth 100000
open Go.RowKit Go.Maps
noncomputable def dumpReg (k : Nat) : Code := (Tryz.f34.body.bind (fun c => (regsOf c).find? (isReg k))).getD .skip
def nodeZ : Array Value := #[.string ⟨#[]⟩, .bool false, .int .i64 0, .int .i64 0, .int .i64 0, .slice none 0 0]
theorem dump_stored {q R n : Nat} {w V w3 : World} {bs : List UInt8} {s : ByteArray} {dir : Bool} {mode tick : Int} {u : Value} (hb : Below q w V) (hqV : q <= V.heap.size) (hz : Blk V R 111 nodeZ) (hR : q <= R) (ho : w3.ownsRow V.heap.size 5 1 u n (bytesC bs)) (hb3 : Below V.heap.size V w3) :
 ∃ A cap w5, u = .slice A n cap /\ (storeHere 111 (.pointer (some ⟨R, 0, none⟩)) (.agg #[.string s, .bool dir, .int .i64 mode, .int .i64 tick, .int .i64 0, .slice A n cap])).run Tryz.prog w3 = .ok () w5 /\ Below q w w3 /\ Below q w w5 /\ Blk w5 R 111 #[.string s, .bool dir, .int .i64 mode, .int .i64 tick, .int .i64 0, .slice A n cap] /\ w5.ownsRow q 5 1 (.slice A n cap) n (bytesC bs) := by
 have b3 : Below q w w3 := hb.trans (hb3.mono hqV)
 obtain ⟨A, cap, rfl, _⟩ := own_slice ho
 have z3 := Blk.on hz hb3
 obtain ⟨w5, h1, h2, h3⟩ := run_storeHere (P := Tryz.prog) 111 #[.string s, .bool dir, .int .i64 mode, .int .i64 tick, .int .i64 0, .slice A n cap] z3 (by rfl) (by kernel_rfl) (by kernel_rfl)
 have hRV := hz.lt
 have ho5 := ownsRow_same ho fun j hj => h3.block j (ho.lt j hj).2 (by intro e; cases e; have := (ho.lt _ hj).1; omega)
 exact ⟨A, cap, w5, rfl, h1, b3, b3.grown h3 (Nat.le_trans hqV hb3.size) (fun j hj => by cases hj; exact hR), h2, Joins.ownsRow_le ho5 hqV⟩
theorem dump_stored_last {q n : Nat} {w V w3 : World} {bs : List UInt8} {s : ByteArray} {dir : Bool} {mode tick : Int} {u : Value} (hb : Below q w V) (hqV : q <= V.heap.size) (ho : w3.ownsRow V.heap.size 5 1 u n (bytesC bs)) (hb3 : Below V.heap.size V w3) :
 ∃ A cap w5, u = .slice A n cap /\ (storeHere 111 (.pointer (some ⟨w3.heap.size, 0, none⟩)) (.agg #[.string s, .bool dir, .int .i64 mode, .int .i64 tick, .int .i64 0, .slice A n cap])).run Tryz.prog (w3.alloc (.cells #[.string ⟨#[]⟩, .bool false, .int .i64 0, .int .i64 0, .int .i64 0, .slice none 0 0] 111)) = .ok () w5 /\ Below q w w3 /\ Below q w (w3.alloc (.cells #[.string ⟨#[]⟩, .bool false, .int .i64 0, .int .i64 0, .int .i64 0, .slice none 0 0] 111)) /\ Below q w w5 /\ q <= w3.heap.size /\ Blk w5 w3.heap.size 111 #[.string s, .bool dir, .int .i64 mode, .int .i64 tick, .int .i64 0, .slice A n cap] /\ w5.ownsRow q 5 1 (.slice A n cap) n (bytesC bs) := by
 have b3 : Below q w w3 := hb.trans (hb3.mono hqV)
 have hq3 := Nat.le_trans hqV hb3.size
 obtain ⟨A, cap, rfl, _⟩ := own_slice ho
 have b4 : Below q w (w3.alloc (.cells #[.string ⟨#[]⟩, .bool false, .int .i64 0, .int .i64 0, .int .i64 0, .slice none 0 0] 111)) := b3.alloc hq3 _
 obtain ⟨w5, h1, h2, h3⟩ := run_storeHere (P := Tryz.prog) (w := w3.alloc (.cells #[.string ⟨#[]⟩, .bool false, .int .i64 0, .int .i64 0, .int .i64 0, .slice none 0 0] 111)) (g := w3.heap.size) 111 #[.string s, .bool dir, .int .i64 mode, .int .i64 tick, .int .i64 0, .slice A n cap] (Blk.new w3 111 #[.string ⟨#[]⟩, .bool false, .int .i64 0, .int .i64 0, .int .i64 0, .slice none 0 0]) (by rfl) (by kernel_rfl) (by kernel_rfl)
 have h5 : Below w3.heap.size w3 w5 := (below_one w3 _).grown h3 (by simp) (fun j hj => by cases hj; exact Nat.le_refl _)
 exact ⟨A, cap, w5, rfl, h1, b3, b4, b4.grown h3 (Nat.le_trans hq3 (by simp)) (fun j hj => by cases hj; exact hq3), hq3, h2, Joins.ownsRow_le (own_on ho h5) hqV⟩
section
attribute [local go_sem ↓ high] storeHere_eq
set_option maxHeartbeats 4000000 in
theorem dump_r13 (w : World) (g9 b : Nat) (s : ByteArray) (dir : Bool) (mode tick : Int) (dv : Value) (bs : List UInt8) (n : Nat) (hn : bs.length = n) (x0 x5 x6 x7 x8 y1 : Value) (h9 : Blk w g9 172 #[.string s, y1]) (hb : Blk w b 179 #[x0, .int .i64 mode, .int .i64 tick, .bool dir, dv, x5, x6, x7, x8]) (hd : Bytes w w.heap.size dv bs) (hl : bs.length <= 1073741824)
 {e0 e1 e2 e3 e4 e5 e6 e7 e8 e11 e12 e13 e14 e15 e16 e17 e18 e19 e20 e21 e22 e23 e24 e25 e26 e27 e28 e29 e30 e31 e32 e33 e34 e35 e36 e37 e38 e39 e40 e41 e42 e43 e44 e45 e46 e47 e48 e49 e50 e51 e52 e53 e54 e55 e56 e57 e58 e59 e60 e61 e62 e63 e64 e65 e66 e67 e68 e69 e70 e71 e72 e73 e74 e75 e76 e77 e78 e79 : Value} {ds : List Deferred} {Q0 : Exit -> Act -> World -> Prop}
 (hexit : ∀ (u37 u38 u39 u40 u41 u42 u43 u44 u45 u46 u47 u48 u49 u50 u51 u52 u53 u54 u55 u56 : Value) (w1 : World) (R : Nat) (A : Option Addr) (cap : Nat), Below w.heap.size w w1 -> w.heap.size <= R -> Blk w1 R 111 #[.string s, .bool dir, .int .i64 mode, .int .i64 tick, .int .i64 0, .slice A n cap] -> w1.ownsRow w.heap.size 5 1 (.slice A n cap) n (bytesC bs) -> Q0 .normal ⟨#[e0, e1, e2, e3, e4, e5, e6, e7, e8, .pointer (some ⟨g9, 0, none⟩), .pointer (some ⟨b, 0, none⟩), .pointer (some ⟨R, 0, none⟩), e12, e13, e14, e15, e16, e17, e18, e19, e20, e21, e22, e23, e24, e25, e26, e27, e28, e29, e30, e31, e32, e33, e34, e35, e36, u37, u38, u39, u40, u41, u42, u43, u44, u45, u46, u47, u48, u49, u50, u51, u52, u53, u54, u55, u56, e57, e58, e59, e60, e61, e62, e63, e64, e65, e66, e67, e68, e69, e70, e71, e72, e73, e74, e75, e76, e77, e78, e79], ds⟩ w1) :
 Code.wp Tryz.prog (dumpReg 13) Q0 ⟨#[e0, e1, e2, e3, e4, e5, e6, e7, e8, .pointer (some ⟨g9, 0, none⟩), .pointer (some ⟨b, 0, none⟩), e11, e12, e13, e14, e15, e16, e17, e18, e19, e20, e21, e22, e23, e24, e25, e26, e27, e28, e29, e30, e31, e32, e33, e34, e35, e36, e37, e38, e39, e40, e41, e42, e43, e44, e45, e46, e47, e48, e49, e50, e51, e52, e53, e54, e55, e56, e57, e58, e59, e60, e61, e62, e63, e64, e65, e66, e67, e68, e69, e70, e71, e72, e73, e74, e75, e76, e77, e78, e79], ds⟩ w := by
 dsimp only at hexit ⊢
 have hcl : ∀ V, Below w.heap.size w V -> Calls Tryz.prog 62 #[dv] V fun e w' => ∃ u, e = .returned u /\ w'.ownsRow V.heap.size 5 1 u n (bytesC bs) /\ Below V.heap.size V w' := fun V hV => by
  have h := cloneB V dv bs ((hd.below hV).more hV.size) (by omega)
  rwa [hn] at h
 obtain ⟨DA, dc, rfl, _⟩ := hd
 rw [hn] at hb hcl
 have hS : ∀ W, Below w.heap.size w W -> W.cell? ⟨g9, 0, none⟩ = some (.string s) /\ W.cell? ⟨b, 3, none⟩ = some (.bool dir) /\ W.cell? ⟨b, 1, none⟩ = some (.int .i64 mode) /\ W.cell? ⟨b, 2, none⟩ = some (.int .i64 tick) /\ W.cell? ⟨b, 4, none⟩ = some (.slice DA n dc) := fun W hW =>
  ⟨(Blk.on h9 hW).cell 0, (Blk.on hb hW).cell 3, (Blk.on hb hW).cell 1, (Blk.on hb hW).cell 2, (Blk.on hb hW).cell 4⟩
 have HX := Lib.hid hexit
 have HC := Lib.hid hcl
 have HS := Lib.hid hS
 have b0 : Below w.heap.size w w.drew := below_drew w 1
 have b0a : Below w.heap.size w (w.alloc (.cells #[.string ⟨#[]⟩, .bool false, .int .i64 0, .int .i64 0, .int .i64 0, .slice none 0 0] 111)).drew := (below_one w _).trans (below_drew _ 1)
 have hw0 : Below w.heap.size w w := Below.refl _ _
 have HZ := Lib.hid (show Blk (w.alloc (.cells #[.string ⟨#[]⟩, .bool false, .int .i64 0, .int .i64 0, .int .i64 0, .slice none 0 0] 111)).drew w.heap.size 111 nodeZ from (Blk.new w _ _).drewN 1)
 obtain ⟨k0, k3, k1, k2, k4⟩ := hS w hw0
 have lb := hb.lt
 have l9 := h9.lt
 clear hexit hcl hS h9 hb hn hl
 conv => arg 2; whnf
 go_region_held3 (fun W => W.cell? ⟨g9, 0, none⟩ = some (.string s) /\ W.cell? ⟨b, 3, none⟩ = some (.bool dir) /\ W.cell? ⟨b, 1, none⟩ = some (.int .i64 mode) /\ W.cell? ⟨b, 2, none⟩ = some (.int .i64 tick) /\ W.cell? ⟨b, 4, none⟩ = some (.slice DA n dc))
  (exact HS.out _ (by assumption))
  (first
  | (go_at_call 62; have hq := HC.out w.drew b0; (with_reducible refine hq.mono ?_); clear hq; rintro e w3 ⟨u, rfl, ho, hb3⟩
     obtain ⟨A, cap, w5, rfl, hst5, b3, b4, b5, hR, k5, o5⟩ := dump_stored_last (s := s) (dir := dir) (mode := mode) (tick := tick) b0 (Nat.le_refl _) ho hb3)
  | (go_at_call 62; have hq := HC.out (w.alloc (.cells #[.string ⟨#[]⟩, .bool false, .int .i64 0, .int .i64 0, .int .i64 0, .slice none 0 0] 111)).drew b0a; (with_reducible refine hq.mono ?_); clear hq; rintro e w3 ⟨u, rfl, ho, hb3⟩
     obtain ⟨A, cap, w5, rfl, hst5, b3, b5, k5, o5⟩ := dump_stored (s := s) (dir := dir) (mode := mode) (tick := tick) b0a b0a.size HZ.out (Nat.le_refl _) ho hb3
     have hR := Nat.le_refl w.heap.size))
 all_goals exact HX.out _ _ _ _ _ _ _ _ _ _ _ _ _ _ _ _ _ _ _ _ w5 _ A cap b5 hR k5 o5
end
end
section
open Go.RowKit
def Lies (tb tr : TypeId) (B k : Nat) : Obj -> Prop
 | .cells _ t _ => t ≠ tb /\ t ≠ tr
 | .loop _ => B <= k
 | _ => True
structure Stay (tb tr : TypeId) (B : Nat) (W W' : World) : Prop where
 size : W.heap.size <= W'.heap.size
 same : ∀ (k : Nat) (o : Obj), W.heap[k]? = some o -> Lies tb tr B k o -> W'.heap[k]? = some o
section
variable {tb tr : TypeId} {B B' : Nat} {W W' W'' : World}
theorem Stay.refl (W : World) : Stay tb tr B W W := ⟨Nat.le_refl _, fun _ _ h _ => h⟩
theorem Stay.trans (h : Stay tb tr B W W') (k : Stay tb tr B W' W'') : Stay tb tr B W W'' := ⟨Nat.le_trans h.size k.size, fun i o hi ho => k.same i o (h.same i o hi ho) ho⟩
theorem Stay.more (h : Stay tb tr B W W') (hB : B <= B') : Stay tb tr B' W W' := ⟨h.size, fun i o hi ho => h.same i o hi (by cases o <;> first | exact ho | exact Nat.le_trans hB ho)⟩
theorem Stay.of_below {n : Nat} (h : Below n W W') (hn : W.heap.size <= n) : Stay tb tr B W W' := ⟨h.size, fun k _ hk _ => (h.block k (Nat.lt_of_lt_of_le (Array.getElem?_eq_some_iff.1 hk).1 hn)).trans hk⟩
theorem Stay.grown {row : Option Nat} (hg : W.grownBy W' row) (hr : ∀ r, row = some r -> ∀ o, W.heap[r]? = some o -> ¬ Lies tb tr B r o) : Stay tb tr B W W' :=
 ⟨hg.size, fun k o hk ho => (hg.block k (Array.getElem?_eq_some_iff.1 hk).1 (fun e => hr k e.symm o hk ho)).trans hk⟩
theorem Stay.loop {l : Nat} {r : Loop} (h : W.heap[l]? = some (.loop r)) (o' : Obj) (hl : l < B) : Stay tb tr B W (W.putObj l o') :=
 Stay.grown (grownBy_putObj' W l o') (fun q e _ ho hL => by cases e; rw [h] at ho; cases ho; exact absurd hL (Nat.not_le.2 hl))
theorem Stay.blk (h : Stay tb tr B W W') {b : Nat} {t : TypeId} {cs : Array Value} (hb : Blk W b t cs) (h1 : t ≠ tb) (h2 : t ≠ tr) : Blk W' b t cs := h.same _ _ hb ⟨h1, h2⟩
end
def SeqDeep {α : Type} (tb tr : TypeId) (F : Fence) (n : Nat) (P : Program) (g : Nat) (lb : Array Value) (encs : α -> Array Value) (xs : List α) (w : World) : Prop :=
 ∀ (l : Nat) (J : List α -> World -> Prop) (W : World), Below w.heap.size w W ->
  (∀ s X Y row, J s X -> X.grownBy Y row -> (∀ r, row = some r -> W.heap.size <= r /\ ∃ o : Obj, X.heap[r]? = some o /\ o.isCells = false) -> J s Y) ->
  (∀ pre x W1 m, pre ++ [x] <+: xs -> J pre W1 -> YieldAt F m P l (encs x) W1 fun e W' => e = .returned (.bool true) /\ J (pre ++ [x]) W' /\ Stay tb tr W.heap.size W1 W') ->
  J [] W ->
  CallsIn F n P g (#[.func (.yield l) #[] #[]] ++ lb) W fun e W' => (∃ v, e = .returned v) /\ J xs W'
def DeepOwn {β : Type} (B : Nat) (I : β -> World -> Prop) : Prop :=
 ∀ s W W' row, I s W -> W.grownBy W' row -> (∀ r, row = some r -> B <= r /\ ∃ o : Obj, W.heap[r]? = some o /\ o.isCells = false) -> I s W'
theorem DeepOwn.putObj {β : Type} {B : Nat} {I : β -> World -> Prop} (h : DeepOwn B I) {s : β} {W : World} {l : Nat} {o : Obj} (o' : Obj) (hs : I s W) (hB : B <= l) (hl : W.heap[l]? = some o) (ho : o.isCells = false) : I s (W.putObj l o') :=
 h s W _ (some l) hs (grownBy_putObj' W l o') (fun r e => by cases e; exact ⟨hB, o, hl, ho⟩)
theorem DeepOwn.alloc {β : Type} {B : Nat} {I : β -> World -> Prop} (h : DeepOwn B I) {s : β} {W : World} (o : Obj) (hs : I s W) : I s (W.alloc o) :=
 h s W _ none hs (World.grownBy_alloc W o none) (fun r e => by cases e)
def deepPost {α : Type} (tb tr : TypeId) (B : Nat) (I : List α -> World -> Prop) (xs : List α) (W : World) : Exit -> Act -> World -> Prop
 | .normal, _, W' => Stay tb tr B W W' /\ I xs W'
 | _, _, _ => False
variable {F : Fence} {n : Nat} {P : Program}
theorem RoundIn.noDepth {F : Fence} (hd : F.depth = none) {m m' : Nat} {P : Program} {l : Nat} {f : FuncId} {tmps : Array Value} {assign body : Code} {w : World} {R : Ending -> World -> Prop}
 (h : RoundIn F m P l f tmps assign body w R) : RoundIn F m' P l f tmps assign body w R := ⟨h.1, fun c cs _ => h.2 c cs (fun d hd' => by rw [hd] at hd'; cases hd')⟩
set_option maxHeartbeats 1000000 in
theorem wpIn_rangeFunc_deep {α : Type} {tb tr : TypeId} {g : Operand} {ps : Array Tmp} {assign body : Code} {Q : Exit -> Act -> World -> Prop} {a : Act} {w : World}
 (hro : F.round = none) (hdep : F.depth = none) {gf : Nat} {lb : Array Value} (hg : a.eval g = .func (.func gf) #[] lb) (hFg : F.fn gf) (eg : ∀ args w, (callFunc gf args).run P w = .ok (.enter gf args) w)
 {encs : α -> Array Value} {xs : List α} {w0 : World} (hseq : SeqDeep tb tr F (n - 1) P gf lb encs xs w0)
 (hb0 : Below w0.heap.size w0 w) (hps : ∀ x, (encs x).size = ps.size)
 (I : List α -> World -> Prop) (hI : DeepOwn w.heap.size I) (h0 : I [] w) (a₁ : α -> Act)
 (hassign : ∀ (l : Nat) (x : α) (W : World) (K : Act -> World -> Prop), K (a₁ x) W ->
  assign.wpIn (F.inRound l) (n - 1 - 1) P (Exit.then K (fun _ _ _ => False)) { tmps := (ps.zip (encs x)).foldl (fun t (p, v) => t.setIfInBounds p v) a.tmps, defers := [] } W)
 (hbody : ∀ (l : Nat) (pre : List α) (x : α) (W : World), w.heap.size <= l -> pre ++ [x] <+: xs -> I pre W -> body.wpIn (F.inRound l) (n - 1 - 1) P (deepPost tb tr w.heap.size I (pre ++ [x]) W) (a₁ x) W)
 (hdone : ∀ (D : Nat) (W : World), w.heap.size <= D -> I xs W -> W.heap[D]? = some (.deferred (some [])) -> Q .normal { a with defers := { target := .collected D, args := #[] } :: a.defers } W) :
 (Code.rangeFunc g ps assign body).wpIn F n P Q a w := by
 refine wpIn_rangeFunc fun fn hfn => ?_
 rw [hro]
 obtain ⟨rec, hrec⟩ : ∃ rec : LoopState -> Option Code -> Loop, rec = fun st pe => { state := st, pending := pe, fn, tmps := a.tmps, params := ps, assign, body, defers := w.heap.size } := ⟨_, rfl⟩
 obtain ⟨W1, hW1⟩ : ∃ W1, (w.alloc (.deferred (some []))).alloc (.loop (rec .ready none)) = W1 := ⟨_, rfl⟩
 have hL : W1.heap[w.heap.size + 1]? = some (.loop (rec .ready none)) := by
  have h := World.alloc_heap_new (w.alloc (.deferred (some []))) (.loop (rec .ready none))
  rw [World.size_alloc, hW1] at h
  exact h
 have hD : W1.heap[w.heap.size]? = some (.deferred (some [])) := by
  rw [<- hW1]
  exact (Below.heap_alloc _ _ _ (by simp)).trans (World.alloc_heap_new w _)
 have hs1 : W1.heap.size = w.heap.size + 1 + 1 := by rw [<- hW1]; simp
 have hb1 : Below w0.heap.size w0 W1 := by
  rw [<- hW1]
  exact hb0.trans ((((Below.refl _ w).alloc (Nat.le_refl _) _).alloc (by simp) _).mono hb0.size)
 have hI1 : I [] W1 := by rw [<- hW1]; exact hI.alloc _ (hI.alloc _ h0)
 refine ⟨w.heap.size + 1, [{ target := .collected w.heap.size, args := #[] }], W1, { target := .fn (.func gf) lb, args := #[.func (.yield (w.heap.size + 1)) #[] #[]] }, W1, gf,
  #[.func (.yield (w.heap.size + 1)) #[] #[]] ++ lb, W1, ?_, ?_, ?_, ?_, fun h => (by rw [hdep] at h; cases h), ?_⟩
 · rw [<- hW1, hrec]; exact run_enterLoop_outer _ _ _ _ _
 · simp only [resolve, hg]
   simp [go_sem]
 · intro f' hf'
   simp [Target.leads] at hf'
   subst hf'
   exact hFg
 · simp [invoke, go_sem, eg]
 · have far : ∀ {X Y : World} {row : Option Nat} {k : Nat} {o : Obj}, k <= w.heap.size + 1 -> X.heap[k]? = some o -> X.grownBy Y row -> (∀ r, row = some r -> W1.heap.size <= r /\ ∃ o : Obj, X.heap[r]? = some o /\ o.isCells = false) -> Y.heap[k]? = some o := by
    intro X Y row k o hk hX hgr hr
    refine (hgr.block k (Array.getElem?_eq_some_iff.1 hX).1 fun e => ?_).trans hX
    have := (hr k e.symm).1
    omega
   refine (hseq (w.heap.size + 1)
    (fun pre W => I pre W /\ W.heap[w.heap.size + 1]? = some (.loop (rec .ready none)) /\ W.heap[w.heap.size]? = some (.deferred (some [])))
    W1 hb1
    (fun s X Y row hs hgr hr => ⟨hI s X Y row hs.1 hgr (fun r e => ⟨by have := (hr r e).1; omega, (hr r e).2⟩), far (by omega) hs.2.1 hgr hr, far (by omega) hs.2.2 hgr hr⟩)
    ?_ ⟨hI1, hL, hD⟩).mono ?_
   · rintro pre x W m hT ⟨hi, hl, hk⟩
     have hlt : w.heap.size + 1 < W.heap.size := (Array.getElem?_eq_some_iff.1 hl).1
     have hy := run_yield (P := P) (args := encs x) hl (by rw [hrec]; exact hps x)
     rw [hrec] at hy
     refine ⟨fn, _, assign, body, hy, RoundIn.noDepth hdep (m := n - 1 - 1) (roundIn_of_wpIn hfn (hassign _ x W _ ?_))⟩
     refine ⟨_, run_beginRound hl (by rw [hrec]), ?_⟩
     have hl2 : (W.putObj (w.heap.size + 1) (.loop { rec .ready none with state := .busy })).heap[w.heap.size + 1]? = some (.loop { rec .ready none with state := .busy }) := World.putObj_heap_same hlt
     have hk2 : (W.putObj (w.heap.size + 1) (.loop { rec .ready none with state := .busy })).heap[w.heap.size]? = some (.deferred (some [])) := (World.putObj_heap_other (by omega)).trans hk
     have hw2 : Stay tb tr W1.heap.size W (W.putObj (w.heap.size + 1) (.loop { rec .ready none with state := .busy })) := Stay.loop hl _ (by omega)
     refine wpIn_mono (hbody _ pre x _ (by omega) hT (hI.putObj _ hi (by omega) hl rfl)) ?_
     rintro e a3 W3 hp
     cases e with
     | normal =>
       obtain ⟨hk3, hi3⟩ := hp
       have hl3 := hk3.same _ _ hl2 (show w.heap.size <= _ by omega)
       have hd3 := hk3.same _ _ hk2 trivial
       have hr := run_endRound (P := P) none hl3
       rw [hrec] at hr hl3
       refine ⟨_, _, hr, rfl, ⟨hI.putObj _ hi3 (by omega) hl3 rfl, ?_, ?_⟩, (hw2.trans (hk3.more (by omega))).trans (Stay.loop hl3 _ (by omega))⟩
       · rw [hrec]; exact World.putObj_heap_same (Array.getElem?_eq_some_iff.1 hl3).1
       · exact (World.putObj_heap_other (by omega)).trans hd3
     | ret => exact hp.elim
     | exit id => exact hp.elim
     | goto t => exact hp.elim
     | panic ch => exact hp.elim
     | outgrown => exact hp.elim
   · rintro e W2 ⟨⟨v, rfl⟩, hi, hl, hk⟩
     have hr := run_endLoop (P := P) hl (by rw [hrec]; simp)
     rw [hrec] at hr
     exact ⟨none, _, hr, hdone _ _ (Nat.le_refl _) (hI.putObj _ hi (by omega) hl rfl) ((World.putObj_heap_other (by omega)).trans hk)⟩
end
section
open Go.RowKit Go.Maps
def PtrMap (w : World) (b : Nat) (L : List (Nat × Value)) : Prop :=
 ∃ es clock, w.heap[b]? = some (.map es clock) /\ es.toList.map (fun e => (e.key, e.val)) = L.map fun p => (ptrV p.1, p.2)
def lkP (L : List (Nat × Value)) (g : Nat) : Option Value := (L.find? fun p => p.1 == g).map (·.2)
theorem Tryz.infoItemP : (Tryz.prog.info? 179).map (·.size) = some 9 := by kernel_rfl
theorem equal_item_same (w : World) (g : Nat) : (Op.equal 166 (ptrV g) (ptrV g)).run Tryz.prog w = .ok true w := by
 obtain ⟨j, hj, hs⟩ := Option.map_eq_some_iff.1 Tryz.infoItemP
 have h : ∀ d : Nat, (Op.equalIn (d + 1) 166 (ptrV g) (ptrV g)).run Tryz.prog w = .ok true w := fun d => by
  simp [ptrV, Op.equalIn, run_underlying Tryz.underlying166, sizeOf, typeInfo, hj, run_sameAddr_same]
 simp only [Op.equal, Op.maxDepth, h 9999]
theorem equal_item_other {w : World} {g h : Nat} (hne : g ≠ h) {c c' : Array Value} {t t' : TypeId} (hg : Blk w g t c) (hh : Blk w h t' c') : (Op.equal 166 (ptrV g) (ptrV h)).run Tryz.prog w = .ok false w := by
 obtain ⟨j, hj, hs⟩ := Option.map_eq_some_iff.1 Tryz.infoItemP
 have hadr : (⟨g, 0, none⟩ : Addr) ≠ ⟨h, 0, none⟩ := fun e => hne (by injection e)
 have h : ∀ d : Nat, (Op.equalIn (d + 1) 166 (ptrV g) (ptrV h)).run Tryz.prog w = .ok false w := fun d => by
  simp [ptrV, Op.equalIn, run_underlying Tryz.underlying166, sizeOf, typeInfo, hj, hs, run_sameAddr_other w hadr hg hh]
 simp only [Op.equal, Op.maxDepth, h 9999]
theorem findAsking_ptr {w : World} {g : Nat} {c : Array Value} {t : TypeId} (hg : Blk w g t c) : ∀ (es : List MapEntry) (L : List (Nat × Value)) (i : Nat), es.map (fun e => (e.key, e.val)) = L.map (fun p => (ptrV p.1, p.2)) -> (∀ p ∈ L, ∃ c t, Blk w p.1 t c) ->
 (lkP L g = none /\ (Instr.findAsking 166 (ptrV g) es i).run Tryz.prog w = .ok none w) \/ ∃ j v, lkP L g = some v /\ (Instr.findAsking 166 (ptrV g) es i).run Tryz.prog w = .ok (some (j, v)) w
 | [], [], i, _, _ => .inl ⟨rfl, by simp [Instr.findAsking]⟩
 | [], p :: L, i, h, _ => by simp at h
 | e :: es, [], i, h, _ => by simp at h
 | e :: es, p :: L, i, h, hL => by
   simp only [List.map_cons, List.cons.injEq, Prod.mk.injEq] at h
   obtain ⟨⟨h1, h2⟩, h3⟩ := h
   by_cases hp : p.1 = g
   · refine .inr ⟨i, p.2, by simp [lkP, hp], ?_⟩
     simp [Instr.findAsking, h1, h2, hp, equal_item_same, Result.andThen]
   · obtain ⟨c', t', hb⟩ := hL p (by simp)
     have hne : g ≠ p.1 := fun e => hp e.symm
     have ih := findAsking_ptr hg es L (i + 1) h3 (fun q hq => hL q (List.mem_cons_of_mem _ hq))
     have hl : lkP (p :: L) g = lkP L g := by
      unfold lkP
      rw [List.find?_cons_of_neg (by simpa using hp)]
     rw [hl]
     have hrun : (Instr.findAsking 166 (ptrV g) (e :: es) i).run Tryz.prog w = (Instr.findAsking 166 (ptrV g) es (i + 1)).run Tryz.prog w := by
      simp [Instr.findAsking, h1, equal_item_other hne hg hb, Result.andThen]
     rw [hrun]
     exact ih
theorem findKey_ptr {w : World} {g : Nat} {c : Array Value} {t : TypeId} (hg : Blk w g t c) (es : List MapEntry) (L : List (Nat × Value)) (h : es.map (fun e => (e.key, e.val)) = L.map (fun p => (ptrV p.1, p.2))) (hL : ∀ p ∈ L, ∃ c t, Blk w p.1 t c) :
 (lkP L g = none /\ (Instr.findKey 166 (ptrV g) es).run Tryz.prog w = .ok none w) \/ ∃ j v, lkP L g = some v /\ (Instr.findKey 166 (ptrV g) es).run Tryz.prog w = .ok (some (j, v)) w := by
 have hk : (Instr.findKey 166 (ptrV g) es).run Tryz.prog w = (Instr.findAsking 166 (ptrV g) es 0).run Tryz.prog w := by
  cases es with
  | nil => simp [Instr.findKey, run_underlying Tryz.underlying166, Instr.findNow, Instr.findAsking, Result.andThen]
  | cons e es => simp [Instr.findKey, run_underlying Tryz.underlying166, Instr.findNow, Instr.sameNow, Result.andThen]
 rw [hk]
 exact findAsking_ptr hg es L 0 h hL
section
variable {w : World} {b g : Nat} {L : List (Nat × Value)} {c : Array Value} {t : TypeId}
theorem checkKey_ptr (em : Bool) (w : World) (g : Nat) : (Instr.checkKey em 10000 166 (ptrV g)).run Tryz.prog w = .ok () w := by
 unfold Instr.checkKey ptrV
 simp only [Sem.run_bind, run_underlying Tryz.underlying166, Result.andThen]
 rfl
theorem PtrMap.look (h : PtrMap w b L) (hg : Blk w g t c) (hL : ∀ p ∈ L, ∃ c t, Blk w p.1 t c) :
 (Instr.lookup 176 (.map (some b)) (ptrV g) false).run Tryz.prog w = .ok ((lkP L g).getD (.int .i64 0)) w := by
 obtain ⟨es, clock, hb, he⟩ := h
 have hz : (zeroValue 3).run Tryz.prog w = .ok (.int .i64 0) w := by kernel_rfl
 rcases findKey_ptr hg es.toList L he hL with ⟨h1, h2⟩ | ⟨j, v, h1, h2⟩
 · simp [Instr.lookup, run_underlying Tryz.underlying176, MapKept.run_getObj_map hb, checkKey_ptr, h2, hz, h1, Result.andThen]
 · simp [Instr.lookup, run_underlying Tryz.underlying176, MapKept.run_getObj_map hb, checkKey_ptr, h2, h1, Result.andThen]
theorem PtrMap.put (h : PtrMap w b L) (hg : Blk w g t c) (hL : ∀ p ∈ L, ∃ c t, Blk w p.1 t c) (hn : lkP L g = none) (v : Value) :
 ∃ w', (Instr.mapUpdate 176 (.map (some b)) (ptrV g) v).run Tryz.prog w = .ok () w' /\ PtrMap w' b (L ++ [(g, v)]) /\ w.grownBy w' (some b) := by
 obtain ⟨es, clock, hb, he⟩ := h
 have hlt : b < w.heap.size := (Array.getElem?_eq_some_iff.1 hb).1
 rcases findKey_ptr hg es.toList L he hL with ⟨h1, h2⟩ | ⟨j, v, h1, h2⟩
 · refine ⟨w.putObj b (.map (es.push { key := ptrV g, val := v, born := clock }) (clock + 1)), ?_, ⟨_, _, World.putObj_heap_same hlt, ?_⟩, grownBy_putObj' w b _⟩
   · simp [Instr.mapUpdate, run_underlying Tryz.underlying176, MapKept.run_getObj_map hb, checkKey_ptr, h2, Result.andThen, setObj, Sem.run, World.putObj, hb]
   · rw [Array.toList_push, List.map_append, he, List.map_append]
     rfl
 · rw [hn] at h1; cases h1
end
end
end Go.Proofs.YtffffjngodinnaaGreatDoor
