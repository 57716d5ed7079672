/-
  Parts of the proof: What acts do to a job, as plain functions: no program in sight but the meaning of a fault; A walk over all of proc: all bytes are written, whatever befalls the transfers.
-/
import Derived.Test.YtffffjngodinnaaGreatDoorV13
import Derived.Deep.LoopGhost
import Derived.LoopN

section
namespace Go.Proofs.YtffffjngodinnaaGreatDoor
open Go.RowKit Go.Maps

/-- what of a job's flow is no matter of memory -/
structure PF where
  steps : Nat
  held : Int
  peak : Int
  inb : List UInt8
  said : Bool → List UInt8
  used : Nat
def Flow.pl (F : Flow) : PF := { steps := F.steps, held := F.held, peak := F.peak, inb := F.inb, said := F.said, used := F.used }

namespace PF
/-- the next fault -/
def next (fl : List (Int × Int)) (s : PF) : Int × Int := fl.getD s.used (0, 0)
def took (fl : List (Int × Int)) (s : PF) : Nat := if s.used = fl.length then s.used else s.used + 1
/-- a transfer that failed -/
def failed (fl : List (Int × Int)) (s : PF) : PF := { s with steps := s.steps + 1, used := s.took fl }
/-- how many bytes of so many -/
def some_ (fl : List (Int × Int)) (s : PF) (m : Nat) : Nat := (shortN (m : Int) (s.next fl)).toNat
def wrote (fl : List (Int × Int)) (s : PF) (b : Bool) (bs : List UInt8) : PF := { s with steps := s.steps + 1, said := fun b' => if b' = b then s.said b ++ bs else s.said b', used := s.took fl }
def read (fl : List (Int × Int)) (s : PF) (n : Nat) : PF := { s with steps := s.steps + 1, inb := s.inb.drop n, used := s.took fl }
/-- how many transfers there may be yet -/
def left (fl : List (Int × Int)) (s : PF) : Nat := fl.length - s.used

/-- all bytes are written: -1, or 1 -/
def all (fl : List (Int × Int)) : Nat → PF → Bool → List UInt8 → PF × Int
  | 0, s, _, _ => (s, -1)
  | f + 1, s, b, bs =>
    if bs = [] then (s, -1)
    else if wErr (s.next fl) = 9 then all fl f (s.failed fl) b bs
    else if wErr (s.next fl) = 0 then all fl f (s.wrote fl b (bs.take (s.some_ fl bs.length))) b (bs.drop (s.some_ fl bs.length))
    else (s.failed fl, 1)
/-- bytes are read: none, when that fails -/
def reads (fl : List (Int × Int)) : Nat → PF → Nat → PF × Option (List UInt8)
  | 0, s, _ => (s, none)
  | f + 1, s, m =>
    if (s.next fl).1 = 2 then reads fl f (s.failed fl) m
    else if (s.next fl).1 = 4 then (s.failed fl, none)
    else (s.read fl (s.some_ fl (min m s.inb.length)), some (s.inb.take (s.some_ fl (min m s.inb.length))))
def holds (s : PF) (h m : Int) : PF := { s with held := h, peak := m }

section
variable {fl : List (Int × Int)} {s : PF}
theorem next_free (h : s.used = fl.length) : s.next fl = (0, 0) := by
  unfold next; rw [h]; simp
theorem wErr_zero : wErr (0, 0) = 0 := rfl
theorem took_lt (h : wErr (s.next fl) ≠ 0 ∨ (s.next fl).1 = 2) (hu : s.used ≤ fl.length) : s.took fl = s.used + 1 ∧ s.used < fl.length := by
  by_cases e : s.used = fl.length
  · rw [next_free e] at h
    rcases h with h | h
    · exact absurd wErr_zero h
    · exact absurd h (by decide)
  · exact ⟨if_neg e, by omega⟩
theorem took_le (hu : s.used ≤ fl.length) : s.took fl ≤ fl.length ∧ s.used ≤ s.took fl := by
  unfold took; split <;> omega
theorem some_pos {m : Nat} (h : 0 < m) : 0 < s.some_ fl m ∧ s.some_ fl m ≤ m := by
  unfold some_ shortN
  split <;> omega
theorem some_le (m : Nat) : s.some_ fl m ≤ m := by
  unfold some_ shortN
  split <;> omega
theorem some_eq (m : Nat) : shortN (m : Int) (s.next fl) = ((s.some_ fl m : Nat) : Int) := by
  unfold some_ shortN
  split <;> omega
end
end PF

section
variable {X : Job} {F : Flow}
theorem Flow.pl_next : (X.kF F).next = F.pl.next X.K.fl := rfl
theorem Flow.pl_took : F.took X = F.pl.took X.K.fl := rfl
theorem Flow.pl_failed : (F.failed X).pl = F.pl.failed X.K.fl := rfl
theorem Flow.pl_wrote (b : Bool) (bs : List UInt8) (v : Value) : (F.wrote X b bs v).pl = F.pl.wrote X.K.fl b bs := rfl
theorem JobOf.used_le {w : World} (h : JobOf w X F) : F.pl.used ≤ X.K.fl.length := h.kern.used
end

end Go.Proofs.YtffffjngodinnaaGreatDoor
end

section
namespace Go.Proofs.YtffffjngodinnaaGreatDoor
open Go.RowKit Go.Maps

/-- how all stands ahead of a round -/
structure AllSt (X : Job) (F0 : Flow) (w0 : World) (b : Bool) (R : PF × Int) (A : Option Addr) (c : Nat) (bs : List UInt8) (F : Flow) (w : World) : Prop where
  job : JobOf w X F
  went : Went X F0 F w0 w
  reads : Reads w w.heap.size 1 A bs.length (bytesC bs)
  off : ∀ ad, A = some ad → ad.block ∉ X.foot F
  cap : bs.length ≤ c
  ends : ∃ f, F.pl.left X.K.fl + bs.length < f ∧ PF.all X.K.fl f F.pl b bs = R
  steps : F.steps + F.pl.left X.K.fl + bs.length < 4611686018427387904
  said : (F.said b).length + bs.length ≤ 140737488355000

section
variable {X : Job} {F0 F : Flow} {w0 w w' : World} {b : Bool} {R : PF × Int} {A : Option Addr} {c : Nat} {bs : List UInt8}
theorem cutA_block {A : Option Addr} {cap l : Nat} {ad : Addr} (h : cutA A cap l 1 = some ad) : ∃ a0, A = some a0 ∧ a0.block = ad.block := by
  unfold cutA at h
  split at h
  · exact ⟨ad, h, rfl⟩
  · cases A with
    | none => cases h
    | some a0 =>
      refine ⟨a0, rfl, ?_⟩
      simp only [Option.map_some, Option.some.injEq] at h
      rw [← h]
      unfold Addr.add
      split <;> rfl
theorem AllSt.ended (h : AllSt X F0 w0 b R A c [] F w) : R = (F.pl, -1) := by
  obtain ⟨f, hf, hR⟩ := h.ends
  cases f with
  | zero => omega
  | succ f => rw [← hR]; simp [PF.all]
theorem AllSt.intr (h : AllSt X F0 w0 b R A c bs F w) (hne : bs ≠ []) (he : wErr (F.pl.next X.K.fl) = 9) (hJ : JobOf w' X (F.failed X)) (hW : Went X F (F.failed X) w w') :
    AllSt X F0 w0 b R A c bs (F.failed X) w' ∧ (F.failed X).pl.left X.K.fl < F.pl.left X.K.fl := by
  have ht := PF.took_lt (fl := X.K.fl) (s := F.pl) (.inl (by rw [he]; decide)) h.job.used_le
  have hl : (F.failed X).pl.left X.K.fl = F.pl.left X.K.fl - 1 ∧ 0 < F.pl.left X.K.fl := by
    have e : (F.failed X).pl.used = F.pl.used + 1 := ht.1
    unfold PF.left
    rw [e]
    omega
  have hr : Reads w' w'.heap.size 1 A bs.length (bytesC bs) := (h.reads.turns hW.turns (Nat.le_refl _) h.off).more hW.turns.size
  refine ⟨⟨hJ, h.went.trans hW, ?_, ?_, h.cap, ?_, ?_, ?_⟩, by omega⟩
  · exact hr
  · intro ad h1
    have h3 := h.off ad h1
    intro hm
    rcases hW.news _ hm with h4 | h4
    · exact h3 h4
    · rcases Nat.eq_zero_or_pos bs.length with h0 | h0
      · exact hne (List.eq_nil_of_length_eq_zero h0)
      · obtain ⟨a1, h5, h6, _⟩ := h.reads.2 h0
        rw [h1] at h5
        cases h5
        omega
  · obtain ⟨f, hf, hR⟩ := h.ends
    cases f with
    | zero => omega
    | succ f =>
      refine ⟨f, by omega, ?_⟩
      rw [← hR, PF.all, if_neg hne, if_pos he]
      rfl
  · have e : (F.failed X).steps = F.steps + 1 := rfl
    have := h.steps
    rw [e]
    omega
  · exact h.said
theorem AllSt.some_ (h : AllSt X F0 w0 b R A c bs F w) (hne : bs ≠ []) (he : wErr (F.pl.next X.K.fl) = 0) {n : Nat} (hn : n = F.pl.some_ X.K.fl bs.length) {v : Value} (hJ : JobOf w' X (F.wrote X b (bs.take n) v)) (hW : Went X F (F.wrote X b (bs.take n) v) w w') :
    AllSt X F0 w0 b R (cutA A c n 1) (c - n) (bs.drop n) (F.wrote X b (bs.take n) v) w' ∧ (F.wrote X b (bs.take n) v).pl.left X.K.fl + (bs.drop n).length < F.pl.left X.K.fl + bs.length := by
  have hbp : 0 < bs.length := List.length_pos_iff.2 hne
  have hp := PF.some_pos (fl := X.K.fl) (s := F.pl) hbp
  rw [← hn] at hp
  have hl : (F.wrote X b (bs.take n) v).pl.left X.K.fl ≤ F.pl.left X.K.fl := by
    have := PF.took_le (fl := X.K.fl) (s := F.pl) h.job.used_le
    show X.K.fl.length - F.pl.took X.K.fl ≤ X.K.fl.length - F.pl.used
    omega
  have hr : Reads w' w'.heap.size 1 A bs.length (bytesC bs) := (h.reads.turns hW.turns (Nat.le_refl _) h.off).more hW.turns.size
  have hdl : (bs.drop n).length = bs.length - n := List.length_drop
  refine ⟨⟨hJ, h.went.trans hW, ?_, ?_, by have := h.cap; omega, ?_, ?_, ?_⟩, by omega⟩
  · have := hr.cutA (k := n) (cap := c) hp.2 h.cap
    rw [hdl, bytesC_drop]
    simpa using this
  · intro ad hA
    obtain ⟨a0, h1, h2⟩ := cutA_block hA
    have h3 := h.off a0 h1
    rw [h2] at h3
    intro hm
    rcases hW.news _ hm with h4 | h4
    · exact h3 h4
    · obtain ⟨a1, h5, h6, _⟩ := h.reads.2 hbp
      rw [h1] at h5
      cases h5
      omega
  · obtain ⟨f, hf, hR⟩ := h.ends
    cases f with
    | zero => omega
    | succ f =>
      refine ⟨f, by omega, ?_⟩
      rw [← hR, PF.all, if_neg hne, if_neg (by rw [he]; decide), if_pos he, ← hn]
      rfl
  · have e : (F.wrote X b (bs.take n) v).steps = F.steps + 1 := rfl
    have := h.steps
    rw [e]
    omega
  · have e : (F.wrote X b (bs.take n) v).said b = F.said b ++ bs.take n := if_pos rfl
    have := h.said
    rw [e, List.length_append, List.length_take, hdl]
    omega
theorem AllSt.fails (h : AllSt X F0 w0 b R A c bs F w) (hne : bs ≠ []) (he : wErr (F.pl.next X.K.fl) ≠ 0) (he9 : wErr (F.pl.next X.K.fl) ≠ 9) : R = ((F.failed X).pl, 1) := by
  obtain ⟨f, hf, hR⟩ := h.ends
  cases f with
  | zero => omega
  | succ f => rw [← hR, PF.all, if_neg hne, if_neg he9, if_neg he]; rfl
end

set_option maxRecDepth 100000 in
set_option maxHeartbeats 2000000 in
theorem all_any (w : World) (X : Job) (F : Flow) (h : JobOf w X F) (b : Bool) (A : Option Addr) (c : Nat) (bs : List UInt8) (hb : Reads w w.heap.size 1 A bs.length (bytesC bs)) (hA : ∀ ad, A = some ad → ad.block ∉ X.foot F) (hc : bs.length ≤ c)
    (hst : F.steps + F.pl.left X.K.fl + bs.length < 4611686018427387904) (hl : (F.said b).length + bs.length ≤ 140737488355000) (f : Nat) (hf : F.pl.left X.K.fl + bs.length < f) (R : PF × Int) (hR : PF.all X.K.fl f F.pl b bs = R) :
    Calls Tryz.prog 71 #[.pointer (some ⟨X.p, 0, none⟩), .int .i64 (fdOf b : Nat), .slice A bs.length c] w fun e w' => e = .returned (.int .i64 R.2) ∧ ∃ F', F'.pl = R.1 ∧ JobOf w' X F' ∧ Went X F F' w w' := by
  obtain ⟨iB, hiB, hB0, hB1, hB2⟩ := info_parts Tryz.infoByte
  have hcut := Lib.hid (fun (A : Option Addr) (len cap n : Nat) (hn : n ≤ len) (W : World) => run_cut (P := Tryz.prog) 23 5 iB 1 Tryz.underlying23 hiB hB1 A len cap .i64 (n : Int) n rfl hn W)
  have H0 : Hid (AllSt X F w b R A c bs F w) := Lib.hid ⟨h, Went.refl _ _ _, hb, hA, hc, ⟨f, hf, hR⟩, hst, hl⟩
  obtain ⟨m, hm⟩ : ∃ m, bs.length = m := ⟨_, rfl⟩
  obtain ⟨g0, hg0⟩ : ∃ g, F.pl.left X.K.fl + m = g := ⟨_, rfl⟩
  have HM := Lib.hid hm
  have HG := Lib.hid hg0
  rw [hm]
  clear hiB hB0 hB1 hB2 h hb hA hc hst hl hf hR hm hg0
  go_enter Tryz.func71, Tryz.ntmps71
  go_wp2_with fail
  go_loopg [2] g0 (fun k v wr => ∃ (A' : Option Addr) (c' : Nat) (bs' : List UInt8) (F' : Flow), k = F'.pl.left X.K.fl + bs'.length ∧ v = .slice A' bs'.length c' ∧ Hid (AllSt X F w b R A' c' bs' F' wr))
  case atStart => exact ⟨A, c, bs, F, by rw [HM.out, HG.out], by rw [HM.out], H0⟩
  case round =>
    obtain ⟨A', c', bs', F', rfl, rfl, HS⟩ := hrel
    by_cases hnil : bs' = []
    · subst hnil
      have hR := HS.out.ended
      go_wp2_with fail
      go_returns
      rw [hR]
      exact ⟨rfl, F', rfl, HS.out.job, HS.out.went⟩
    · have hpos := List.length_pos_iff.2 hnil
      have hsz := HS.out.steps
      have hsl := HS.out.said
      obtain ⟨m', hm'⟩ : ∃ m', bs'.length = m' := ⟨_, rfl⟩
      have HM' := Lib.hid hm'
      by_cases h0 : wErr (F'.pl.next X.K.fl) = 0
      · obtain ⟨n, hn⟩ : ∃ n, F'.pl.some_ X.K.fl bs'.length = n := ⟨_, rfl⟩
        have hnl := PF.some_pos (fl := X.K.fl) (s := F'.pl) hpos
        rw [hn] at hnl
        have hwr := jobWrite wr X F' HS.out.job (by omega) b A' c' bs' HS.out.reads HS.out.off HS.out.cap hpos hsl h0 n (by rw [← hn]; exact PF.some_eq (fl := X.K.fl) (s := F'.pl) bs'.length)
        have hnx := fun v w' => HS.out.some_ hnil h0 hn.symm (v := v) (w' := w')
        rw [hm'] at hwr hnl hpos
        have hcc := hcut.out A' m' c' n hnl.2
        have HNX := Lib.hid hnx
        have hm0 : ¬ (m' : Int) ≤ 0 := by omega
        rw [hm']
        clear hnx hsz hsl hn hm' h0
        go_wp2_with (go_at_call 107; refine hwr.mono ?_; rintro e w1 ⟨rfl, v, hJ1, hW1⟩)
        obtain ⟨h1, h2⟩ := HNX.out v w1 hJ1 hW1
        go_roundg ((F'.wrote X b (bs'.take n) v).pl.left X.K.fl + (bs'.drop n).length)
        case rel => exact ⟨_, _, bs'.drop n, _, rfl, by rw [List.length_drop, HM'.out], Lib.hid h1⟩
        case measure => have := HM'.out; omega
      · by_cases h9 : wErr (F'.pl.next X.K.fl) = 9
        · have hwr := jobFail wr X F' HS.out.job (by omega) b A' bs'.length c' hpos h0
          rw [Flow.pl_next, h9] at hwr
          have hnx := fun w' => HS.out.intr hnil h9 (w' := w')
          rw [hm'] at hwr hpos
          have HNX := Lib.hid hnx
          have hm0 : ¬ (m' : Int) ≤ 0 := by omega
          rw [hm']
          clear hnx hsz hsl hm' h0 h9
          go_wp2_with (go_at_call 107; refine hwr.mono ?_; rintro e w1 ⟨rfl, hJ1, hW1⟩)
          obtain ⟨h1, h2⟩ := HNX.out w1 hJ1 hW1
          go_roundg ((F'.failed X).pl.left X.K.fl + bs'.length)
          case rel => exact ⟨_, _, bs', _, rfl, by rw [HM'.out], Lib.hid h1⟩
          case measure => omega
        · have hwr := jobFail wr X F' HS.out.job (by omega) b A' bs'.length c' hpos h0
          rw [Flow.pl_next] at hwr
          have hR := HS.out.fails hnil h0 h9
          obtain ⟨er, her⟩ : ∃ er, wErr (F'.pl.next X.K.fl) = er := ⟨_, rfl⟩
          rw [her] at hwr h0 h9
          rw [hm'] at hwr hpos
          have e0 : (er != 0) = true := bne_iff_ne.2 h0
          have e9 : (er != 9) = true := bne_iff_ne.2 h9
          have hm0 : ¬ (m' : Int) ≤ 0 := by omega
          rw [hm']
          clear hsz hsl hm' h0 h9 her
          go_wp2_with (go_at_call 107; refine hwr.mono ?_; rintro e w1 ⟨rfl, hJ1, hW1⟩)
          go_returns
          rw [hR]
          exact ⟨rfl, F'.failed X, rfl, hJ1, HS.out.went.trans hW1⟩

end Go.Proofs.YtffffjngodinnaaGreatDoor
end
