/-
  Parts of the proof.
-/
import Derived.Test.YtffffjngodinnaaGreatDoorV35
import Derived.Test.YtffffjngodinnaaGreatDoorV34
namespace Go.Proofs.YtffffjngodinnaaGreatDoor
section
set_option maxRecDepth 100000
open Go.RowKit Go.Maps Go.Shelf
set_option maxHeartbeats 2000000 in
theorem refDepth (w : World) (B t : Nat) (T : Abs.T) (bs : List Nat) (h : RTree w B t T bs) (i : Nat) (x : Abs.Ent) (hx : T.get i = some x) (hd : x.dir = true) :
 Calls Tryz.prog 110 #[.pointer (some ⟨t, 0, none⟩), .pointer (some ⟨bAt T.ents bs i, 0, none⟩)] w fun e w' => e = .returned (.int .i64 (T.depth i : Int)) /\ w' = w := by
 obtain ⟨dp, h1, hdp⟩ := h.wf.rank
 have hdi := h.wf.depth_dp h1 hdp hx hd
 rw [hdi]
 obtain ⟨D, hD⟩ : ∃ D, dp i = D := ⟨_, rfl⟩
 have hD10 : D <= 10 := by
  rw [<- hD]
  by_cases e : i = 1
  · rw [e, h1]; omega
  · exact (hdp i x hx hd e).2
 have HDP := Lib.hid (And.intro h1 hdp)
 have HH := Lib.hid h
 have H0 : Hid (∃ y, T.get i = some y /\ y.dir = true /\ 0 + dp i = D) := Lib.hid ⟨x, hx, hd, by omega⟩
 rw [hD]
 clear h h1 hdp hdi hx hd hD
 go_enter Tryz.func110, Tryz.ntmps110
 go_wp2
 go_loopw [1, 5] (fun dv nv wr => ∃ (j n : Nat), n <= D /\ dv = .pointer (some ⟨bAt T.ents bs j, 0, none⟩) /\ nv = .int .i64 (n : Int) /\ Hid (∃ y, T.get j = some y /\ y.dir = true /\ n + dp j = D) /\ wr = w) (fun _ nv _ => D - (intOf nv).toNat)
 case atStart => exact ⟨i, 0, Nat.zero_le _, rfl, rfl, H0, rfl⟩
 case round =>
  obtain ⟨j, n, hn, rfl, rfl, HA, rfl⟩ := hrel
  obtain ⟨y, hy, hyd, hsum⟩ := HA.out
  obtain ⟨up, dv, nv, hbk, hup, _⟩ := HH.out.at_ hy
  obtain ⟨b, hb⟩ : ∃ b, bAt T.ents bs j = b := ⟨_, rfl⟩
  rw [hb] at hbk ⊢
  rw [hup hyd] at hbk
  have k0 : wr.cell? ⟨b, 0, none⟩ = some (.int .i64 (j : Int)) := hbk.cell 0
  have k6 : wr.cell? ⟨b, 6, none⟩ = some (.int .i64 (y.up : Int)) := hbk.cell 6
  have lb := hbk.lt
  by_cases e : j = 1
  · subst e
    have hnD : n = D := by rw [<- hsum, HDP.out.1]; rfl
    subst hnD
    clear hsum hbk hup
    go_wp2
    go_returns
    exact ⟨rfl, rfl⟩
  · have hne : ((j : Int) != 1) = true := by simp; omega
    obtain ⟨z, hz, hzd⟩ := HH.out.wf.up j y hy hyd
    have hitem := refItem_at HH.out hz
    have hlt := (HDP.out.2 j y hy hyd e).1
    have hn1 : n + 1 + dp y.up = D := by omega
    have HNX : Hid (∃ y', T.get y.up = some y' /\ y'.dir = true /\ n + 1 + dp y.up = D) := Lib.hid ⟨z, hz, hzd, hn1⟩
    have hle : n + 1 <= D := by omega
    clear hsum hbk hup hlt hn1 e
    go_wp2_with (go_at_call 42; refine hitem.mono ?_; rintro e5 w5 ⟨rfl, h5⟩; obtain rfl : wr = w5 := h5.symm)
    refine ⟨⟨y.up, n + 1, hle, rfl, rfl, HNX, by trivial⟩, ?_⟩
    simp only [intOf]
    omega
def manyTo (l : List (Nat × Abs.Ent)) : Nat := (l.map fun p => p.2.names.length).sum
set_option maxHeartbeats 2000000 in
theorem refMany (w : World) (B t : Nat) (T : Abs.T) (bs : List Nat) (h : RTree w B t T bs) (hmx : T.many < 1152921504606846976) :
 Calls Tryz.prog 111 #[.pointer (some ⟨t, 0, none⟩)] w fun e w' => e = .returned (.int .i64 (T.many : Int)) /\ w' = w := by
 obtain ⟨lv, h1, h2⟩ := h.tree
 obtain ⟨A, c, rfl, _, _, hr⟩ := own_slice h2
 obtain ⟨n, hn⟩ : ∃ n, T.ents.length = n := ⟨_, rfl⟩
 have hmost := h.most
 rw [hn] at hr h1 hmost
 have k0 : w.cell? ⟨t, 0, none⟩ = some (.slice A n c) := h1.cell 0
 have lt := h1.lt
 obtain ⟨M, hM⟩ : ∃ M, T.many = M := ⟨_, rfl⟩
 rw [hM] at hmx ⊢
 have hM' : manyTo T.ents = M := hM
 have HM := Lib.hid hM'
 have HH := Lib.hid h
 have HN := Lib.hid hn
 have HR := Lib.hid hr
 clear h h1 h2 hr hn hM hM'
 go_enter Tryz.func111, Tryz.ntmps111
 go_wp2
 go_loopw [3, 4] (fun sv iv wr => ∃ (k s : Nat), k <= n /\ s <= M /\ iv = .int .i64 (k : Int) /\ sv = .int .i64 (s : Int) /\ Hid (s + manyTo (T.ents.drop k) = M) /\ wr = w) (fun _ iv _ => n - (intOf iv).toNat)
 case atStart => exact ⟨0, 0, Nat.zero_le _, Nat.zero_le _, rfl, rfl, Lib.hid (by rw [List.drop_zero, HM.out]; omega), rfl⟩
 case round =>
  obtain ⟨k, s, hk, hs, rfl, rfl, HA, rfl⟩ := hrel
  by_cases hlt : k < n
  · obtain ⟨⟨j, x⟩, hx⟩ : ∃ p, T.ents[k]? = some p := ⟨_, List.getElem?_eq_getElem (by rw [HN.out]; exact hlt)⟩
    obtain ⟨b, hb⟩ : ∃ b, bs[k]? = some b := ⟨_, List.getElem?_eq_getElem (by rw [HH.out.len, HN.out]; exact hlt)⟩
    have hd1 : T.ents.drop k = (j, x) :: T.ents.drop (k + 1) := by
     rw [List.drop_eq_getElem_cons (by rw [HN.out]; exact hlt)]
     rw [List.getElem?_eq_getElem (by rw [HN.out]; exact hlt)] at hx
     rw [Option.some.inj hx]
    obtain ⟨gb, off, hA, hgb, hc⟩ := reads_flat HR.out (by intro e; have := HR.out.1; rw [e] at this; simp at this; omega)
    have c0 : wr.cell? ⟨gb, off + k, none⟩ = some (.pointer (some ⟨b, 0, none⟩)) := hc _ _ (by simp [ptrsC, hb])
    obtain ⟨up, dv, nv, hbk, _, _, hnv⟩ := HH.out.item k b j x hb hx
    obtain ⟨An, cn, rfl, _⟩ := own_slice hnv
    obtain ⟨q, hq⟩ : ∃ q, x.names.length = q := ⟨_, rfl⟩
    rw [hq] at hbk
    have c5 : wr.cell? ⟨b, 5, none⟩ = some (.slice An q cn) := hbk.cell 5
    have lb := hbk.lt
    have hsum : s + q + manyTo (T.ents.drop (k + 1)) = M := by
     have := HA.out
     rw [hd1] at this
     unfold manyTo at this ⊢
     rw [List.map_cons, List.sum_cons, hq] at this
     omega
    have hle : s + q <= M := by omega
    have HNX := Lib.hid hsum
    have hi1 : (k : Int) < (n : Int) := by omega
    have hi0 : (0 : Int) <= (k : Int) := by omega
    subst hA
    clear hd1 hx hb hc hbk hnv hq hsum
    go_wp2
    refine ⟨⟨k + 1, s + q, by omega, hle, rfl, rfl, HNX, by trivial⟩, ?_⟩
    simp only [intOf]
    omega
  · obtain rfl : k = n := by omega
    have hf : s = M := by
     have := HA.out
     rw [List.drop_of_length_le (by rw [HN.out]; exact Nat.le_refl _)] at this
     unfold manyTo at this
     simpa using this
    subst hf
    go_wp2
    go_returns
    exact ⟨rfl, rfl⟩
def mayE (T : Abs.T) (bs : List Nat) : Except Nat (Nat × Abs.Name) -> Value
 | .error e => .tuple #[.pointer none, .string ⟨#[]⟩, .int .i64 (e : Int)]
 | .ok (d, n) => .tuple #[.pointer (some ⟨bAt T.ents bs d, 0, none⟩), .string (strB n), .int .i64 0]
def mayEnd (T : Abs.T) (path : List UInt8) (dir : Bool) : Except Nat (Option (Nat × Abs.Name)) -> Except Nat (Nat × Abs.Name)
 | .error e => .error e
 | .ok none => .error 2
 | .ok (some (d, n)) => match T.get d with
   | none => .error 99
   | some x => if (Abs.lk x.names n).isSome then .error 2 else if Abs.slash path && !dir then .error 3 else if 10 <= T.depth d then .error 14 else if 200 <= T.many then .error 12 else .ok (d, n)
theorem may_end (T : Abs.T) (cwd path : List UInt8) (dir : Bool) : T.may cwd path dir = mayEnd T path dir (T.place cwd path) := by
 unfold Abs.T.may
 cases T.place cwd path with
 | error e => rfl
 | ok o => cases o with | none => rfl | some q => rfl
theorem place_some {T : Abs.T} {cwd path : List UInt8} {d : Nat} {n : Abs.Name} (h : T.place cwd path = .ok (some (d, n))) : T.isDir d = true /\ Abs.named n = true := by
 unfold Abs.T.place at h
 split at h
 · cases h
 · split at h
   · cases h
   · split at h
     · cases h
     · split at h
       · cases h
       · rename_i h1
         split at h
         · cases h
         · split at h
           · cases h
           · rename_i h2
             cases h
             exact ⟨by simpa using h1, by simpa using h2⟩
set_option maxHeartbeats 8000000 in
theorem refMay_ (w : World) (B t : Nat) (T : Abs.T) (bs : List Nat) (h : RTree w B t T bs) (hmx : T.many < 1152921504606846976) (cwd path : List UInt8) (hc : cwd.length <= 2147483648) (hp : path.length <= 2147483648) (dir : Bool) :
 Calls Tryz.prog 83 #[.pointer (some ⟨t, 0, none⟩), .string (strB cwd), .string (strB path), .bool dir] w fun e w' => e = .returned (mayE T bs (T.may cwd path dir)) /\ Below w.heap.size w w' := by
 have hplace := refPlace w B t T bs h cwd path hc hp
 rw [may_end]
 obtain ⟨P, hP⟩ : ∃ P, T.place cwd path = P := ⟨_, rfl⟩
 rw [hP] at hplace ⊢
 go_enter Tryz.func83, Tryz.ntmps83
 cases P with
 | error e =>
   have he0 := Abs.T.place_ne0 hP
   have hne : ((e : Int) != 0) = true := by simpa using he0
   unfold placeE at hplace
   unfold mayEnd mayE
   clear h hP he0
   go_wp2_with (go_at_call 109; refine hplace.mono ?_; rintro e1 w1 ⟨rfl, hb1⟩)
   go_returns
   exact ⟨rfl, hb1⟩
 | ok o =>
   cases o with
   | none =>
     unfold placeE at hplace
     unfold mayEnd mayE
     clear h hP
     go_wp2_with (go_at_call 109; refine hplace.mono ?_; rintro e1 w1 ⟨rfl, hb1⟩)
     go_returns
     exact ⟨rfl, hb1⟩
   | some q =>
     obtain ⟨d, n⟩ := q
     obtain ⟨hdd, hnn⟩ := place_some hP
     obtain ⟨x, hx, hxd⟩ := Abs.isDir_of hdd
     have hn0 : ((strB n).toList == []) = false := by
      rw [strB_toList]
      cases n with
      | nil => cases hnn
      | cons a l => rfl
     unfold placeE at hplace
     dsimp only at hplace
     unfold mayEnd
     dsimp only
     rw [hx]
     dsimp only
     have hat := fun W (hW : Below w.heap.size w W) => refAt W B _ d x ((h.below hW).at_ hx) n
     have hdep := fun W (hW : Below w.heap.size w W) => refDepth W B t T bs (h.below hW) d x hx hxd
     have hman := fun W (hW : Below w.heap.size w W) => refMany W B t T bs (h.below hW) hmx
     have hslash := fun W => refSlash path (by omega) W
     obtain ⟨bd, hbd⟩ : ∃ bd, bAt T.ents bs d = bd := ⟨_, rfl⟩
     rw [hbd] at hplace hat hdep
     obtain ⟨sl, hsl⟩ : ∃ sl, Abs.slash path = sl := ⟨_, rfl⟩
     rw [hsl] at hslash ⊢
     obtain ⟨dep, hdp⟩ : ∃ dep, T.depth d = dep := ⟨_, rfl⟩
     rw [hdp] at hdep ⊢
     obtain ⟨mn, hmn⟩ : ∃ mn, T.many = mn := ⟨_, rfl⟩
     rw [hmn] at hman ⊢
     have HBD := Lib.hid hbd
     have HAT := Lib.hid hat
     have HDEP := Lib.hid hdep
     have HMAN := Lib.hid hman
     clear h hP hdd hnn hx hxd hat hdep hman hsl hdp hmn hmx hbd
     rcases hlk : Abs.lk x.names n with _ | j
     · have hat2 : ∀ W, Below w.heap.size w W -> Calls Tryz.prog 108 #[.pointer (some ⟨bd, 0, none⟩), .string (strB n)] W fun e w' => e = .returned (.int .i64 (-1)) /\ w' = W := fun W hW => (HAT.out W hW).mono fun e w' ⟨h1, h2⟩ => by
        rcases h2 with ⟨_, h⟩ | ⟨_, _, _, h, _⟩
        · exact ⟨h, h1⟩
        · rw [hlk] at h; cases h
       have HAT2 := Lib.hid hat2
       clear hat2 HAT hlk
       rw [if_neg (by simp)]
       by_cases hs : (sl && !dir) = true
       · obtain ⟨rfl, rfl⟩ : sl = true /\ dir = false := by simpa using hs
         simp only [Bool.not_false, Bool.and_self, if_true]
         unfold mayE
         clear hs
         go_wp2_with (first
          | (go_at_call 109; refine hplace.mono ?_; rintro e1 w1 ⟨rfl, hb1⟩)
          | (go_at_call 108; refine (HAT2.out _ hb1).mono ?_; rintro e2 w2 ⟨rfl, h2⟩; obtain rfl : w1 = w2 := h2.symm)
          | (go_at_call 81; refine (hslash _).mono ?_; rintro e4 w4 ⟨rfl, h4⟩; obtain rfl : w1 = w4 := h4.symm))
         go_returns
         exact ⟨rfl, hb1⟩
       · rw [if_neg hs]
         have hs' : (sl = false \/ dir = true) := by cases sl <;> cases dir <;> simp at hs ⊢
         clear hs
         by_cases h10 : 10 <= dep
         · rw [if_pos h10]
           have h10' : (10 : Int) <= (dep : Int) := by omega
           unfold mayE
           rcases hs' with rfl | rfl
           all_goals (try cases sl)
           all_goals go_wp2_with (first
            | (go_at_call 109; refine hplace.mono ?_; rintro e1 w1 ⟨rfl, hb1⟩)
            | (go_at_call 108; refine (HAT2.out _ hb1).mono ?_; rintro e2 w2 ⟨rfl, h2⟩; obtain rfl : w1 = w2 := h2.symm)
            | (go_at_call 81; refine (hslash _).mono ?_; rintro e4 w4 ⟨rfl, h4⟩; obtain rfl : w1 = w4 := h4.symm)
            | (go_at_call 110; refine (HDEP.out _ hb1).mono ?_; rintro e5 w5 ⟨rfl, h5⟩; obtain rfl : w1 = w5 := h5.symm))
           all_goals go_returns
           all_goals exact ⟨rfl, hb1⟩
         · rw [if_neg h10]
           have h10' : ¬ (10 : Int) <= (dep : Int) := by omega
           by_cases h20 : 200 <= mn
           · rw [if_pos h20]
             have h20' : (200 : Int) <= (mn : Int) := by omega
             unfold mayE
             rcases hs' with rfl | rfl
             all_goals (try cases sl)
             all_goals go_wp2_with (first
              | (go_at_call 109; refine hplace.mono ?_; rintro e1 w1 ⟨rfl, hb1⟩)
              | (go_at_call 108; refine (HAT2.out _ hb1).mono ?_; rintro e2 w2 ⟨rfl, h2⟩; obtain rfl : w1 = w2 := h2.symm)
              | (go_at_call 81; refine (hslash _).mono ?_; rintro e4 w4 ⟨rfl, h4⟩; obtain rfl : w1 = w4 := h4.symm)
              | (go_at_call 110; refine (HDEP.out _ hb1).mono ?_; rintro e5 w5 ⟨rfl, h5⟩; obtain rfl : w1 = w5 := h5.symm)
              | (go_at_call 111; refine (HMAN.out _ hb1).mono ?_; rintro e6 w6 ⟨rfl, h6⟩; obtain rfl : w1 = w6 := h6.symm))
             all_goals go_returns
             all_goals exact ⟨rfl, hb1⟩
           · rw [if_neg h20]
             have h20' : ¬ (200 : Int) <= (mn : Int) := by omega
             unfold mayE
             rcases hs' with rfl | rfl
             all_goals (try cases sl)
             all_goals go_wp2_with (first
              | (go_at_call 109; refine hplace.mono ?_; rintro e1 w1 ⟨rfl, hb1⟩)
              | (go_at_call 108; refine (HAT2.out _ hb1).mono ?_; rintro e2 w2 ⟨rfl, h2⟩; obtain rfl : w1 = w2 := h2.symm)
              | (go_at_call 81; refine (hslash _).mono ?_; rintro e4 w4 ⟨rfl, h4⟩; obtain rfl : w1 = w4 := h4.symm)
              | (go_at_call 110; refine (HDEP.out _ hb1).mono ?_; rintro e5 w5 ⟨rfl, h5⟩; obtain rfl : w1 = w5 := h5.symm)
              | (go_at_call 111; refine (HMAN.out _ hb1).mono ?_; rintro e6 w6 ⟨rfl, h6⟩; obtain rfl : w1 = w6 := h6.symm))
             all_goals go_returns
             all_goals exact ⟨by dsimp only; rw [HBD.out]; rfl, hb1⟩
     · have hat2 : ∀ W, Below w.heap.size w W -> Calls Tryz.prog 108 #[.pointer (some ⟨bd, 0, none⟩), .string (strB n)] W fun e w' => (∃ k : Nat, e = .returned (.int .i64 (k : Int))) /\ w' = W := fun W hW => (HAT.out W hW).mono fun e w' ⟨h1, h2⟩ => by
        rcases h2 with ⟨h, _⟩ | ⟨k, _, _, _, h⟩
        · rw [hlk] at h; cases h
        · exact ⟨⟨k, h⟩, h1⟩
       have HAT2 := Lib.hid hat2
       clear hat2 HAT hlk
       rw [if_pos (by simp)]
       unfold mayE
       go_wp2_with (first
        | (go_at_call 109; refine hplace.mono ?_; rintro e1 w1 ⟨rfl, hb1⟩)
        | (go_at_call 108; refine (HAT2.out _ hb1).mono ?_; rintro e2 w2 ⟨⟨k, rfl⟩, h2⟩; obtain rfl : w1 = w2 := h2.symm))
       go_returns
       exact ⟨rfl, hb1⟩
end
section
set_option maxRecDepth 100000
open Go.RowKit Go.Maps Go.Shelf
theorem Tryz.infoEntry : (Tryz.prog.info? 194).map (fun i => (i.zero, i.size, i.bytes)) = some (some (.agg #[.string ⟨#[]⟩, .int .i64 0]), 2, 24) := by kernel_rfl
theorem Turns.of_belowF {w w' : World} {F : List Nat} (h : Below w.heap.size w w') : Turns F w w' := ⟨h.os, h.tape, h.output, h.size, fun k hk _ => h.block k hk⟩
theorem namesE_snoc (l : List (Abs.Name × Nat)) (q : Abs.Name × Nat) : namesE l ++ [.string (strB q.1), .int .i64 (q.2 : Int)] = namesE (l ++ [q]) := by simp [namesE]
def PutsSt (l : List (Abs.Name × Nat)) (n : Abs.Name) (j k : Nat) (done : Bool) (out : List (Abs.Name × Nat)) : Prop :=
 out.length = (if done then k + 1 else k) /\ out ++ (if done then l.drop k else Abs.ins n j (l.drop k)) = Abs.ins n j l
set_option maxHeartbeats 8000000 in
theorem refPuts (w : World) (B b i : Nat) (x : Abs.Ent) (up : Int) (dv nv : Value) (hbk : Blk w b 106 (ritemC i x up dv nv)) (hnv : w.ownsRow B 194 2 nv x.names.length (namesE x.names)) (n : Abs.Name) (j : Nat) (hsmall : x.names.length <= 2097152) :
 Calls Tryz.prog 84 #[.pointer (some ⟨b, 0, none⟩), .string (strB n), .int .i64 (j : Int)] w fun e w' => e = .returned (.tuple #[]) /\ ∃ nv', Blk w' b 106 (ritemC i x up dv nv') /\ w'.ownsRow w.heap.size 194 2 nv' (Abs.ins n j x.names).length (namesE (Abs.ins n j x.names)) /\ Turns [b] w w' := by
 obtain ⟨iI, hiI, hI0, hI1, hI2⟩ := info_parts Tryz.infoEntry
 have HI := Lib.hid hiI
 have H0 := Lib.hid hI0
 have H1 := Lib.hid hI1
 have H2 := Lib.hid hI2
 clear hiI hI0 hI1 hI2
 obtain ⟨An, cn, rfl, _, _, hrn⟩ := own_slice hnv
 obtain ⟨L, hL⟩ : ∃ L, x.names = L := ⟨_, rfl⟩
 rw [hL] at hrn hsmall hbk ⊢
 obtain ⟨m, hm⟩ : ∃ m, L.length = m := ⟨_, rfl⟩
 rw [hm] at hrn hsmall hbk
 have HM := Lib.hid hm
 have HR := Lib.hid hrn
 have HB := Lib.hid hbk
 have lb0 := hbk.lt
 have k5 : w.cell? ⟨b, 5, none⟩ = some (.slice An m cn) := hbk.cell 5
 clear hm hrn hbk hnv hL
 go_enter Tryz.func84, Tryz.ntmps84
 go_wp2
 go_loopw [6, 7, 8] (fun o dv_ iv W => ∃ (k : Nat) (done : Bool) (out : List (Abs.Name × Nat)), k <= m /\ iv = .int .i64 (k : Int) /\ dv_ = .bool done /\ Hid (PutsSt L n j k done out) /\ Hid (W.ownsRow w.heap.size 194 2 o out.length (namesE out)) /\ Hid (Below w.heap.size w W)) (fun _ _ iv _ => m - (intOf iv).toNat)
 case atStart => exact ⟨0, false, [], Nat.zero_le _, rfl, rfl, Lib.hid ⟨rfl, by simp⟩, Lib.hid (World.ownsRow_nil _ _ _ _), Lib.hid (Below.refl _ _)⟩
 case round =>
  obtain ⟨k, done, out, hk, rfl, rfl, HS, HO, HW⟩ := hrel
  obtain ⟨A, cp, rfl, _⟩ := own_slice HO.out
  have hwr := HW.out.size
  have lb : b < wr.heap.size := by omega
  have k5r : wr.cell? ⟨b, 5, none⟩ = some (.slice An m cn) := (HW.out.cell (p := ⟨b, 5, none⟩) lb0).trans k5
  obtain ⟨no, hno⟩ : ∃ no, out.length = no := ⟨_, rfl⟩
  have HNO := Lib.hid hno
  have hol : no <= m + 1 := by have h1 := HS.out.1; rw [hno] at h1; split at h1 <;> omega
  rw [hno] at HO ⊢
  by_cases hlt : k < m
  · obtain ⟨⟨p, j2⟩, hx⟩ : ∃ p, L[k]? = some p := ⟨_, List.getElem?_eq_getElem (by rw [HM.out]; exact hlt)⟩
    have hd1 : L.drop k = (p, j2) :: L.drop (k + 1) := by
     rw [List.drop_eq_getElem_cons (by rw [HM.out]; exact hlt)]
     rw [List.getElem?_eq_getElem (by rw [HM.out]; exact hlt)] at hx
     rw [Option.some.inj hx]
    obtain ⟨gb, off, hA, hgb, hc⟩ := reads_flat (HR.out.below HW.out) (by intro e; have := HR.out.1; rw [e] at this; simp at this; omega)
    have hraw : ∀ W, Below w.heap.size w W -> W.rangeAt gb (off + k * 2) [.string (strB p), .int .i64 (j2 : Int)] := by
     intro W hW q u hu
     obtain ⟨g', o', e', _, hc'⟩ := reads_flat (HR.out.below hW) (by intro e; have := HR.out.1; rw [e] at this; simp at this; omega)
     rw [hA] at e'
     cases e'
     have h0 := hc' _ _ (namesE_at hx).1
     have h1 := hc' _ _ (namesE_at hx).2
     match q with
     | 0 => cases hu; exact h0
     | 1 => cases hu; rw [<- Nat.add_assoc] at h1; exact h1
     | q + 2 => cases hu
    have hra := hraw wr HW.out
    have HRW := Lib.hid hraw
    have c0 : wr.cell? ⟨gb, off + k * 2, none⟩ = some (.string (strB p)) := hc _ _ (namesE_at hx).1
    have hgl : gb < wr.heap.size := by omega
    have hi1 : (k : Int) < (m : Int) := by omega
    have hi0 : (0 : Int) <= (k : Int) := by omega
    have HD := Lib.hid hd1
    subst hA
    clear hd1 hx hc hno hraw
    have HRA := Lib.hid hra
    cases done with
    | true =>
      have hS : PutsSt L n j (k + 1) true (out ++ [(p, j2)]) := by
       obtain ⟨h1, h2⟩ := HS.out
       refine ⟨by simp at h1 ⊢; omega, ?_⟩
       simp only [if_true] at h2 ⊢
       rw [<- h2, HD.out]; simp
      have HSN := Lib.hid hS
      clear hS HS
      go_wp2_with (first
       | (refine wpList_load_mid rfl _ _ rfl gb (off + k * 2) rfl [.string (strB p), .int .i64 (j2 : Int)] _ hra Tryz.underlying194 rfl (by kernel_rfl) ?_)
       | (at_builtin; refine wpList_append_any _ rfl _ _ 104 rfl w.heap.size 194 iI (.agg #[.string ⟨#[]⟩, .int .i64 0]) 2 24 Tryz.underlying104 HI.out H0.out H1.out H2.out rfl (by decide) (.slice A no cp) (no) (namesE out) rfl (HO.out.alloc _) (wr.heap.size + 1) (some ⟨wr.heap.size, 0, none⟩) 1 1 [.string (strB p), .int .i64 (j2 : Int)] rfl (blk_reads (Blk.new wr 194 #[.string (strB p), .int .i64 (j2 : Int)]) rfl) (by simp [Value.oneCell']) (by simp only [maxLen]; omega) (by omega) (by simp; omega) ?_; intro v1 w1 hown1 hg1 hat1))
      refine ⟨⟨k + 1, true, _, by omega, rfl, rfl, HSN, Lib.hid ?_, Lib.hid (HW.out.alloc HW.out.size _ |>.grown hg1 (by simp; omega) (fun r hr => (HO.out.lt r hr).1))⟩, by simp only [intOf]; omega⟩
      rw [List.length_append, HNO.out, <- namesE_snoc]
      exact hown1
    | false =>
      cases hlt2 : Abs.nlt n p with
      | true =>
        have hx1 : Op.bytesLess (strB p).toList (strB n).toList = false := by
         rw [strB_toList, strB_toList, bytesLess_nlt]
         cases h : Abs.nlt p n with
         | false => rfl
         | true => have := Abs.nlt_trans hlt2 h; rw [Abs.nlt_irrefl] at this; cases this
        have hx2 : ((strB p).toList == (strB n).toList) = false := by
         rw [strB_eq]
         exact decide_eq_false fun e => by rw [e, Abs.nlt_irrefl] at hlt2; cases hlt2
        have hS : PutsSt L n j (k + 1) true (out ++ [(n, j)] ++ [(p, j2)]) := by
         obtain ⟨h1, h2⟩ := HS.out
         refine ⟨by simp at h1 ⊢; omega, ?_⟩
         simp only [if_true, Bool.false_eq_true, if_false] at h2 ⊢
         rw [<- h2, HD.out]
         simp [Abs.ins, hlt2]
        have HSN := Lib.hid hS
        clear hS HS hlt2
        go_wp2_with (first
         | (refine wpList_load_mid rfl _ _ rfl gb (off + k * 2) rfl [.string (strB p), .int .i64 (j2 : Int)] _ hra1 Tryz.underlying194 rfl (by kernel_rfl) ?_)
         | (at_builtin; refine wpList_append_any _ rfl _ _ 104 rfl w.heap.size 194 iI (.agg #[.string ⟨#[]⟩, .int .i64 0]) 2 24 Tryz.underlying104 HI.out H0.out H1.out H2.out rfl (by decide) (.slice A1 (no + 1) cp1) (no + 1) (namesE out ++ [.string (strB n), .int .i64 (j : Int)]) rfl (hown1.alloc _) (w1.heap.size + 1) (some ⟨w1.heap.size, 0, none⟩) 1 1 [.string (strB p), .int .i64 (j2 : Int)] rfl (blk_reads (Blk.new w1 194 #[.string (strB p), .int .i64 (j2 : Int)]) rfl) (by simp [Value.oneCell']) (by simp only [maxLen]; omega) (by omega) (by simp; omega) ?_; intro v2 w2 hown2 hg2 hat2)
         | (at_builtin; refine wpList_append_any _ rfl _ _ 104 rfl w.heap.size 194 iI (.agg #[.string ⟨#[]⟩, .int .i64 0]) 2 24 Tryz.underlying104 HI.out H0.out H1.out H2.out rfl (by decide) (.slice A no cp) (no) (namesE out) rfl (HO.out.alloc _) (wr.heap.size + 1) (some ⟨wr.heap.size, 0, none⟩) 1 1 [.string (strB n), .int .i64 (j : Int)] rfl (blk_reads (Blk.new wr 194 #[.string (strB n), .int .i64 (j : Int)]) rfl) (by simp [Value.oneCell']) (by simp only [maxLen]; omega) (by omega) (by simp; omega) ?_; intro v1 w1 hown1 hg1 hat1
            have HW1 := Lib.hid (HW.out.alloc HW.out.size _ |>.grown hg1 (by simp; omega) (fun r hr => (HO.out.lt r hr).1))
            have hw1s := HW1.out.size
            obtain ⟨A1, cp1, rfl, _⟩ := own_slice hown1
            obtain ⟨gb1, off1, hA1, hgb1, hc1⟩ := reads_flat (HR.out.below HW1.out) (by intro e; have := HR.out.1; rw [e] at this; simp at this; omega)
            cases hA1
            have k51 : w1.cell? ⟨b, 5, none⟩ = some (.slice (some ⟨gb, off, none⟩) m cn) := (HW1.out.cell (p := ⟨b, 5, none⟩) lb0).trans k5
            have lb1 : b < w1.heap.size := (by omega)
            have hgl1 : gb < w1.heap.size := (by omega)
            have hra1 := (HRW.out w1 HW1.out)))
        refine ⟨⟨k + 1, true, _, by omega, rfl, rfl, HSN, Lib.hid ?_, Lib.hid (HW1.out.alloc HW1.out.size _ |>.grown hg2 (by simp; omega) (fun r hr => (hown1.lt r hr).1))⟩, by simp only [intOf]; omega⟩
        rw [List.length_append, List.length_append, HNO.out, <- namesE_snoc, <- namesE_snoc]
        exact hown2
      | false =>
        have hx3 : (Op.bytesLess (strB p).toList (strB n).toList || ((strB p).toList == (strB n).toList)) = true := by
         rw [strB_eq, strB_toList, strB_toList, bytesLess_nlt]
         by_cases e : p = n
         · simp [e]
         · rw [Abs.nlt_total (fun h => e h.symm) hlt2]; rfl
        have hS : PutsSt L n j (k + 1) false (out ++ [(p, j2)]) := by
         obtain ⟨h1, h2⟩ := HS.out
         refine ⟨by simp at h1 ⊢; omega, ?_⟩
         simp only [Bool.false_eq_true, if_false] at h2 ⊢
         rw [<- h2, HD.out]
         simp [Abs.ins, hlt2]
        have HSN := Lib.hid hS
        clear hS HS hlt2
        go_wp2_with (first
        | (refine wpList_load_mid rfl _ _ rfl gb (off + k * 2) rfl [.string (strB p), .int .i64 (j2 : Int)] _ hra Tryz.underlying194 rfl (by kernel_rfl) ?_)
        | (at_builtin; refine wpList_append_any _ rfl _ _ 104 rfl w.heap.size 194 iI (.agg #[.string ⟨#[]⟩, .int .i64 0]) 2 24 Tryz.underlying104 HI.out H0.out H1.out H2.out rfl (by decide) (.slice A no cp) (no) (namesE out) rfl (HO.out.alloc _) (wr.heap.size + 1) (some ⟨wr.heap.size, 0, none⟩) 1 1 [.string (strB p), .int .i64 (j2 : Int)] rfl (blk_reads (Blk.new wr 194 #[.string (strB p), .int .i64 (j2 : Int)]) rfl) (by simp [Value.oneCell']) (by simp only [maxLen]; omega) (by omega) (by simp; omega) ?_; intro v1 w1 hown1 hg1 hat1))
        refine ⟨⟨k + 1, false, _, by omega, rfl, rfl, HSN, Lib.hid ?_, Lib.hid (HW.out.alloc HW.out.size _ |>.grown hg1 (by simp; omega) (fun r hr => (HO.out.lt r hr).1))⟩, by simp only [intOf]; omega⟩
        rw [List.length_append, HNO.out, <- namesE_snoc]
        exact hown1
  · obtain rfl : k = m := by omega
    have hf5 : wr.frozen? ⟨b, 5, none⟩ = false := (Blk.on HB.out HW.out).frozen 5
    have hbr := Blk.on HB.out HW.out
    have HBR := Lib.hid hbr
    clear hbr hno
    cases done with
    | true =>
      have hfin : out = Abs.ins n j L := by
       have h2 := HS.out.2
       rw [List.drop_of_length_le (by rw [HM.out]; exact Nat.le_refl _)] at h2
       simpa using h2
      have HF := Lib.hid hfin
      clear hfin HS
      go_wp2
      go_returns
      have hne : ∀ r, (Value.slice A no cp).ownBlock = some r -> r ≠ b := fun r hr => by have := (HO.out.lt r hr).1; omega
      refine ⟨rfl, .slice A no cp, ?_, ?_, ?_⟩
      · exact HBR.out.set_ 5 (.slice A no cp)
      · rw [<- HF.out, HNO.out]
        exact ownsRow_same HO.out fun r hr => Below.heap_setCell _ _ _ _ (hne r hr)
      · exact (Turns.of_belowF HW.out).setCell _ _ (fun _ => List.mem_singleton.2 rfl)
    | false =>
      have hfin : out ++ [(n, j)] = Abs.ins n j L := by
       have h2 := HS.out.2
       rw [List.drop_of_length_le (by rw [HM.out]; exact Nat.le_refl _)] at h2
       simpa [Abs.ins] using h2
      have HF := Lib.hid hfin
      clear hfin HS
      go_wp2_with (at_builtin; refine wpList_append_any _ rfl _ _ 104 rfl w.heap.size 194 iI (.agg #[.string ⟨#[]⟩, .int .i64 0]) 2 24 Tryz.underlying104 HI.out H0.out H1.out H2.out rfl (by decide) (.slice A no cp) (no) (namesE out) rfl (HO.out.alloc _) (wr.heap.size + 1) (some ⟨wr.heap.size, 0, none⟩) 1 1 [.string (strB n), .int .i64 (j : Int)] rfl (blk_reads (Blk.new wr 194 #[.string (strB n), .int .i64 (j : Int)]) rfl) (by simp [Value.oneCell']) (by simp only [maxLen]; omega) (by omega) (by simp; omega) ?_; intro v1 w1 hown1 hg1 hat1
                   have HW1 := Lib.hid (HW.out.alloc HW.out.size _ |>.grown hg1 (by simp; omega) (fun r hr => (HO.out.lt r hr).1))
                   have hw1s := HW1.out.size
                   have hf51 : w1.frozen? ⟨b, 5, none⟩ = false := (Blk.on HB.out HW1.out).frozen 5
                   have k51 : w1.cell? ⟨b, 5, none⟩ = some (.slice An k cn) := (HW1.out.cell (p := ⟨b, 5, none⟩) lb0).trans k5
                   have lb1 : b < w1.heap.size := (by omega)
                   obtain ⟨A1, cp1, rfl, _⟩ := own_slice hown1)
      have hw1 := HW1.out
      go_returns
      have hne : ∀ r, (Value.slice A1 (no + 1) cp1).ownBlock = some r -> r ≠ b := fun r hr => by have := (hown1.lt r hr).1; omega
      refine ⟨rfl, .slice A1 (no + 1) cp1, ?_, ?_, ?_⟩
      · exact (Blk.on HB.out HW1.out).set_ 5 (.slice A1 (no + 1) cp1)
      · rw [<- HF.out, List.length_append, HNO.out, <- namesE_snoc]
        exact ownsRow_same hown1 fun r hr => Below.heap_setCell _ _ _ _ (hne r hr)
      · exact (Turns.of_belowF HW1.out).setCell _ _ (fun _ => List.mem_singleton.2 rfl)
end
section
set_option maxRecDepth 100000
open Go.RowKit Go.Maps Go.Shelf
theorem RItem.turns {w w' : World} {B b i : Nat} {x : Abs.Ent} {F : List Nat} (h : RItem w B b i x) (hT : Turns F w w') (hF : ∀ g ∈ F, g ≠ b /\ ∃ ty cs fr, w.heap[g]? = some (.cells cs ty fr) /\ ty ≠ 5 /\ ty ≠ 194) : RItem w' B b i x := by
 obtain ⟨up, dv, nv, h1, h2, h3, h4⟩ := h
 have row : ∀ {e : TypeId} {size n : Nat} {v : Value} {xs : List Value}, w.ownsRow B e size v n xs -> (e = 5 \/ e = 194) -> w'.ownsRow B e size v n xs := fun hr he => ownsRow_same hr fun g hg => hT.block g (hr.lt g hg).2 fun hm => by
  obtain ⟨_, ty, cs, fr, hb, hne1, hne2⟩ := hF g hm
  rcases hr.2 with ⟨rfl, _⟩ | ⟨g', cap, cur, rfl, _, hb', _⟩
  · simp [Value.ownBlock] at hg
  · obtain rfl : g' = g := by simpa [Value.ownBlock] using hg
    have h9 := (show w.heap[g']? = _ from hb').symm.trans hb
    injection h9 with h9
    injection h9 with _ h9
    rcases he with rfl | rfl
    · exact hne1 h9.symm
    · exact hne2 h9.symm
 exact ⟨up, dv, nv, (hT.block _ h1.lt fun hm => (hF _ hm).1 rfl).trans h1, h2, row h3 (.inl rfl), row h4 (.inr rfl)⟩
theorem seti_at (l : List (Nat × Abs.Ent)) (d k : Nat) (f : Abs.Ent -> Abs.Ent) : (Abs.seti l d f)[k]? = (l[k]?).map fun p => if p.1 = d then (p.1, f p.2) else p := by
 unfold Abs.seti
 rw [List.getElem?_map]
theorem key_one {l : List (Nat × Abs.Ent)} (h : (l.map (·.1)).Nodup) {k k' i : Nat} {x y : Abs.Ent} (h1 : l[k]? = some (i, x)) (h2 : l[k']? = some (i, y)) : k = k' := by
 have e1 : (l.map (·.1))[k]? = some i := by rw [List.getElem?_map, h1]; rfl
 have e2 : (l.map (·.1))[k']? = some i := by rw [List.getElem?_map, h2]; rfl
 have hk := (List.getElem?_eq_some_iff.1 e1).1
 exact (List.getElem?_inj hk h).1 (e1.trans e2.symm)
theorem block_one {bs : List Nat} (h : bs.Nodup) {k k' b : Nat} (h1 : bs[k]? = some b) (h2 : bs[k']? = some b) : k = k' :=
 (List.getElem?_inj (List.getElem?_eq_some_iff.1 h1).1 h).1 (h1.trans h2.symm)
theorem le_sum_of {a : Nat} : ∀ {l : List Nat}, a ∈ l -> a <= l.sum
 | b :: l, h => by
   rw [List.sum_cons]
   rcases List.mem_cons.1 h with rfl | h
   · omega
   · have := le_sum_of h; omega
theorem names_many {T : Abs.T} {d : Nat} {y : Abs.Ent} (h : T.get d = some y) : y.names.length <= T.many :=
 le_sum_of (List.mem_map.2 ⟨(d, y), Abs.geti_mem h, rfl⟩)
structure RMem (w : World) (B t : Nat) (T : Abs.T) (bs : List Nat) : Prop where
 len : bs.length = T.ents.length
 tree : ∃ lv, Blk w t 185 #[lv, .int .i64 (T.next : Int)] /\ w.ownsRow B 107 1 lv T.ents.length (ptrsC bs)
 item : ∀ (k b i : Nat) (x : Abs.Ent), bs[k]? = some b -> T.ents[k]? = some (i, x) -> RItem w B b i x
 nodup : bs.Nodup
 low : B <= t /\ ∀ b ∈ bs, B <= b
 keys : (T.ents.map (·.1)).Nodup
 small : T.next < 1152921504606846976
 most : T.ents.length < 1152921504606846976
theorem RTree.mem {w : World} {B t : Nat} {T : Abs.T} {bs : List Nat} (h : RTree w B t T bs) : RMem w B t T bs := ⟨h.len, h.tree, h.item, h.nodup, h.low, h.wf.nodup, h.small, h.most⟩
theorem RMem.wf {w : World} {B t : Nat} {T : Abs.T} {bs : List Nat} (h : RMem w B t T bs) (hw : T.WF) : RTree w B t T bs := ⟨h.len, h.tree, h.item, h.nodup, h.low, hw, h.small, h.most⟩
theorem RMem.put {w w' : World} {B t : Nat} {T : Abs.T} {bs : List Nat} (h : RMem w B t T bs) (hB : B <= w.heap.size) {d : Nat} {y : Abs.Ent} (hy : T.get d = some y) {n : Abs.Name} {j : Nat} {up : Int} {dv nv nv' : Value} (hdv : w.ownsRow B 5 1 dv y.data.length (bytesC y.data)) (hup : y.dir = true -> up = (y.up : Int))
 (h0 : Blk w (bAt T.ents bs d) 106 (ritemC d y up dv nv)) (h1 : Blk w' (bAt T.ents bs d) 106 (ritemC d y up dv nv')) (h2 : w'.ownsRow w.heap.size 194 2 nv' (Abs.ins n j y.names).length (namesE (Abs.ins n j y.names))) (hT : Turns [bAt T.ents bs d] w w') : RMem w' B t (T.linked d n j) bs := by
 obtain ⟨kd, hkd, hbd⟩ := geti_at _ _ _ _ h.len hy
 obtain ⟨b, hb⟩ : ∃ b, bAt T.ents bs d = b := ⟨_, rfl⟩
 rw [hb] at h0 h1 hT hbd
 have hent : (T.linked d n j).ents = Abs.seti T.ents d fun y => { y with names := Abs.ins n j y.names } := rfl
 obtain ⟨lv, ht, hl⟩ := h.tree
 have hF : ∀ g ∈ [b], g = b := fun g hg => List.mem_singleton.1 hg
 refine ⟨by rw [hent]; simp [Abs.seti, h.len], ⟨lv, (hT.block _ (Blk.lt ht) (by rw [List.mem_singleton]; exact Blk.ne_ ht h0 (by decide))).trans ht, ?_⟩, ?_, h.nodup, h.low, by rw [hent, Abs.seti_keys]; exact h.keys, h.small, by rw [hent]; simpa [Abs.seti] using h.most⟩
 · rw [hent, show (Abs.seti T.ents d fun y => { y with names := Abs.ins n j y.names }).length = T.ents.length by simp [Abs.seti]]
   exact ownsRow_same hl fun g hg => hT.block g (hl.lt g hg).2 (by rw [List.mem_singleton]; rintro rfl; exact own_ne hl h0 (by decide) hg)
 · intro k b' i x hk hx
   rw [hent, seti_at, Option.map_eq_some_iff] at hx
   obtain ⟨⟨i0, x0⟩, hx0, hxe⟩ := hx
   by_cases e : i0 = d
   · subst e
     rw [if_pos rfl] at hxe
     cases hxe
     obtain rfl := key_one h.keys hx0 hkd
     rw [hkd] at hx0
     cases hx0
     obtain rfl : b' = b := Option.some.inj (hk.symm.trans hbd)
     exact ⟨up, dv, nv', h1, hup, ownsRow_same hdv fun g hg => hT.block g (hdv.lt g hg).2 (by rw [List.mem_singleton]; rintro rfl; exact own_ne hdv h0 (by decide) hg), Joins.ownsRow_le h2 hB⟩
   · rw [if_neg e] at hxe
     cases hxe
     refine (h.item k b' i x hk hx0).turns hT fun g hg => ?_
     obtain rfl := hF g hg
     refine ⟨fun e2 => ?_, _, _, _, h0, by decide, by decide⟩
     subst e2
     obtain rfl := block_one h.nodup hk hbd
     rw [hkd] at hx0
     cases hx0
     exact e rfl
set_option maxHeartbeats 8000000 in
theorem refLink (w : World) (B t : Nat) (T : Abs.T) (bs : List Nat) (h : RTree w B t T bs) (hB : B <= w.heap.size) (hmx : T.many <= 1048576) (old path : List UInt8) (ho : old.length <= 2147483648) (hp : path.length <= 2147483648) :
 Calls Tryz.prog 46 #[.pointer (some ⟨t, 0, none⟩), .string ⟨#[]⟩, .string (strB old), .string (strB path)] w fun e w' => Below B w w' /\ (∀ g cs, Blk w g 111 cs -> Blk w' g 111 cs) /\ ((∃ er : Nat, er ≠ 0 /\ e = .returned (.int .i64 (er : Int)) /\ (∀ j d n x, T.look [] old = .ok j -> T.get j = some x -> x.dir = false -> T.may [] path false ≠ .ok (d, n)) /\ RTree w' B t T bs) \/
  ∃ j d n x, T.look [] old = .ok j /\ T.get j = some x /\ x.dir = false /\ T.may [] path false = .ok (d, n) /\ e = .returned (.int .i64 0) /\ RTree w' B t (T.linked d n j) bs) := by
 have hfind := refFind w B t T bs h [] old (by decide) ho
 have hmay := fun W (hW : Below w.heap.size w W) => refMay_ W B t T bs (h.below hW) (by omega) [] path (by decide) hp false
 have hre : (strB [] : ByteArray) = ⟨#[]⟩ := rfl
 rw [hre] at hfind hmay
 have HH := Lib.hid h
 have HB := Lib.hid hB
 go_enter Tryz.func46, Tryz.ntmps46
 cases hlk : T.look [] old with
 | error e =>
   rw [hlk] at hfind
   have he0 := Abs.T.look_ne0 hlk
   have hne : ((e : Int) != 0) = true := by simpa using he0
   have HE := Lib.hid he0
   unfold leadsE at hfind
   clear h hmay he0 hB
   go_wp2_with (go_at_call 41; refine hfind.mono ?_; rintro e1 w1 ⟨rfl, hb1⟩)
   go_returns
   exact ⟨hb1.mono HB.out, fun g cs hg => Blk.on hg hb1, .inl ⟨e, HE.out, rfl, fun _ _ _ _ h => (by cases h), HH.out.below hb1⟩⟩
 | ok j =>
   rw [hlk] at hfind
   unfold leadsE at hfind
   dsimp only at hfind
   obtain ⟨x, hx⟩ := h.wf.look_live hlk
   obtain ⟨xd, hxd⟩ : ∃ xd, x.dir = xd := ⟨_, rfl⟩
   have HX := Lib.hid (And.intro hx hxd)
   have hitem := fun W (hW : Below w.heap.size w W) => refItem_at (h.below hW) hx
   have hk1 : ∀ W, Below w.heap.size w W -> W.cell? ⟨bAt T.ents bs j, 1, none⟩ = some (.bool xd) /\ bAt T.ents bs j < W.heap.size := fun W hW => by
    obtain ⟨up, dv, nv, hbk, _⟩ := (h.below hW).at_ hx
    exact ⟨by rw [<- hxd]; exact hbk.cell 1, hbk.lt⟩
   have HK := Lib.hid hk1
   clear hk1 hx hxd h hB
   cases xd with
   | true =>
     clear hmay
     go_wp2_with (first
      | (go_at_call 41; refine hfind.mono ?_; rintro e1 w1 ⟨rfl, hb1⟩; obtain ⟨k1, l1⟩ := HK.out _ hb1)
      | (go_at_call 42; refine (hitem _ hb1).mono ?_; rintro e2 w2 ⟨rfl, h2⟩; obtain rfl : w1 = w2 := h2.symm))
     go_returns
     exact ⟨hb1.mono HB.out, fun g cs hg => Blk.on hg hb1, .inl ⟨4, by decide, rfl, fun j' d n x' h1 h2 h3 => (by
      cases h1
      rw [HX.out.1] at h2
      cases h2
      rw [HX.out.2] at h3
      cases h3), HH.out.below hb1⟩⟩
   | false =>
     cases hm : T.may [] path false with
     | error e =>
       simp only [hm] at hmay
       have he0 : e ≠ 0 := by
        rw [may_end] at hm
        intro e0
        subst e0
        unfold mayEnd at hm
        split at hm
        · rename_i e' he; cases hm; exact Abs.T.place_ne0 he rfl
        · cases hm
        · split at hm
          · cases hm
          · repeat' split at hm
            all_goals cases hm
       have hne : ((e : Int) != 0) = true := by simpa using he0
       have HE := Lib.hid he0
       unfold mayE at hmay
       clear he0
       go_wp2_with (first
        | (go_at_call 41; refine hfind.mono ?_; rintro e1 w1 ⟨rfl, hb1⟩; obtain ⟨k1, l1⟩ := HK.out _ hb1)
        | (go_at_call 42; refine (hitem _ hb1).mono ?_; rintro e2 w2 ⟨rfl, h2⟩; obtain rfl : w1 = w2 := h2.symm)
        | (go_at_call 83; refine (hmay _ hb1).mono ?_; rintro e3 w3 ⟨rfl, hb3⟩))
       go_returns
       exact ⟨(below_thru hb1 hb3).mono HB.out, fun g cs hg => Blk.on hg (below_thru hb1 hb3), .inl ⟨e, HE.out, rfl, fun j' d n x' h1 h2 h3 h4 => (by cases h4), HH.out.below (below_thru hb1 hb3)⟩⟩
     | ok q =>
       obtain ⟨d, n⟩ := q
       simp only [hm] at hmay
       unfold mayE at hmay
       dsimp only at hmay
       obtain ⟨y, hy, hyd, hnm, hlkn, hdep, hmany⟩ := may_ok hm
       have hwf := HH.out.wf.linked_wf hy hyd hlkn HX.out.1 HX.out.2
       have hnl : y.names.length <= 1048576 := Nat.le_trans (names_many hy) hmx
       have hputs : ∀ W, Below w.heap.size w W -> Calls Tryz.prog 84 #[.pointer (some ⟨bAt T.ents bs d, 0, none⟩), .string (strB n), .int .i64 (j : Int)] W fun e w' => e = .returned (.tuple #[]) /\ RTree w' B t (T.linked d n j) bs /\ Below B W w' /\ ∀ g cs, Blk W g 111 cs -> Blk w' g 111 cs := fun W hW => by
        obtain ⟨up, dv, nv, hbk, hup, hdv, hnv⟩ := (HH.out.below hW).at_ hy
        refine (refPuts W B _ d y up dv nv hbk hnv n j (by omega)).mono ?_
        rintro e w' ⟨h1, nv', h2, h3, h4⟩
        have hBW := Nat.le_trans HB.out hW.size
        refine ⟨h1, ((HH.out.below hW).mem.put hBW hy hdv hup hbk h2 h3 h4).wf hwf, h4.below hBW ?_, fun g cs hg => (h4.block g hg.lt (by rw [List.mem_singleton]; exact Blk.ne_ hg hbk (by decide))).trans hg⟩
        intro g hg
        rw [List.mem_singleton] at hg
        obtain ⟨k, _, hk⟩ := geti_at _ _ _ _ HH.out.len hy
        rw [hg]
        exact HH.out.low.2 _ (List.mem_of_getElem? hk)
       have HP := Lib.hid hputs
       have HM := Lib.hid hm
       clear hputs hm hy hyd hnm hlkn hdep hmany hwf hnl hmx
       go_wp2_with (first
        | (go_at_call 41; refine hfind.mono ?_; rintro e1 w1 ⟨rfl, hb1⟩; obtain ⟨k1, l1⟩ := HK.out _ hb1)
        | (go_at_call 42; refine (hitem _ hb1).mono ?_; rintro e2 w2 ⟨rfl, h2⟩; obtain rfl : w1 = w2 := h2.symm)
        | (go_at_call 83; refine (hmay _ hb1).mono ?_; rintro e3 w3 ⟨rfl, hb3⟩; have hb13 := below_thru hb1 hb3)
        | (go_at_call 84; refine (HP.out _ hb13).mono ?_; rintro e4 w4 ⟨rfl, hR4, hb4, hkp4⟩))
       go_returns
       exact ⟨(hb13.mono HB.out).trans hb4, fun g cs hg => hkp4 g cs (Blk.on hg hb13), .inr ⟨j, d, n, x, rfl, HX.out.1, HX.out.2, rfl, rfl, hR4⟩⟩
end
section
set_option maxRecDepth 100000
open Go.RowKit Go.Maps Go.Shelf
set_option maxHeartbeats 1000000 in
theorem refNew (w : World) : Calls Tryz.prog 43 #[] w fun e w' => ∃ t bs, e = .returned (.pointer (some ⟨t, 0, none⟩)) /\ RTree w' w.heap.size t Abs.emptyT bs /\ Below w.heap.size w w' := by
 go_enter Tryz.func43, Tryz.ntmps43
 go_wp2
 go_returns
 have b1 := ((Blk.new w 106 #[.int .i64 1, .bool true, .int .i64 493, .int .i64 0, .slice none 0 0, .slice none 0 0, .int .i64 1, .int .i64 0]).alloc (.cells #[.pointer (some ⟨w.heap.size, 0, none⟩)] 107)).alloc (.cells #[.slice (some ⟨w.heap.size + 1, 0, none⟩) 1 1, .int .i64 2] 185)
 have hbl : Below w.heap.size w (((w.alloc (.cells #[.int .i64 1, .bool true, .int .i64 493, .int .i64 0, .slice none 0 0, .slice none 0 0, .int .i64 1, .int .i64 0] 106)).alloc (.cells #[.pointer (some ⟨w.heap.size, 0, none⟩)] 107)).alloc (.cells #[.slice (some ⟨w.heap.size + 1, 0, none⟩) 1 1, .int .i64 2] 185)) := (((Below.refl _ w).alloc (Nat.le_refl _) _).alloc (by simp) _).alloc (by simp; omega) _
 refine ⟨w.heap.size + 1 + 1, [w.heap.size], ?_, ⟨rfl, ⟨.slice (some ⟨w.heap.size + 1, 0, none⟩) 1 1, ?_, ?_⟩, ?_, by simp, ⟨by omega, by simp⟩, Abs.emptyT_wf, by decide, by decide⟩, hbl⟩
 · rfl
 · have := Blk.newNext (w.alloc (.cells #[.int .i64 1, .bool true, .int .i64 493, .int .i64 0, .slice none 0 0, .slice none 0 0, .int .i64 1, .int .i64 0] 106)) (.cells #[.pointer (some ⟨w.heap.size, 0, none⟩)] 107) 185 #[.slice (some ⟨w.heap.size + 1, 0, none⟩) 1 1, .int .i64 2]
   rw [World.size_alloc] at this
   exact this
 · have h1 : ((w.alloc (.cells #[.int .i64 1, .bool true, .int .i64 493, .int .i64 0, .slice none 0 0, .slice none 0 0, .int .i64 1, .int .i64 0] 106)).alloc (.cells #[.pointer (some ⟨w.heap.size, 0, none⟩)] 107)).ownsRow w.heap.size 107 1 (.slice (some ⟨w.heap.size + 1, 0, none⟩) 1 1) 1 [.pointer (some ⟨w.heap.size, 0, none⟩)] :=
    ⟨rfl, .inr ⟨w.heap.size + 1, 1, #[.pointer (some ⟨w.heap.size, 0, none⟩)], rfl, by omega, by have := heap_alloc_new (w.alloc (.cells #[.int .i64 1, .bool true, .int .i64 493, .int .i64 0, .slice none 0 0, .slice none 0 0, .int .i64 1, .int .i64 0] 106)) (.cells #[.pointer (some ⟨w.heap.size, 0, none⟩)] 107); rwa [World.size_alloc] at this, Nat.le_refl _, by unfold maxLen; omega, rfl, rfl⟩⟩
   exact h1.alloc _
 · intro k b i x hk hx
   match k with
   | 0 =>
     cases hk
     cases hx
     exact ⟨1, .slice none 0 0, .slice none 0 0, b1, fun _ => rfl, World.ownsRow_nil _ _ _ _, World.ownsRow_nil _ _ _ _⟩
   | k + 1 => simp at hk
theorem Tryz.infoItemP2 : (Tryz.prog.info? 107).map (fun i => (i.zero, i.size, i.bytes)) = some (some (.pointer none), 1, 8) := by kernel_rfl
theorem RMem.add {w w' : World} {B t : Nat} {T : Abs.T} {bs : List Nat} (h : RTree w B t T bs) {F : List Nat} (hT : Turns F w w') (hF : ∀ g ∈ F, g = t \/ ∃ cs fr, w.heap[g]? = some (.cells cs 107 fr)) {nb : Nat} {x : Abs.Ent} {lv' : Value}
 (ht : Blk w' t 185 #[lv', .int .i64 ((T.next + 1 : Nat) : Int)]) (hl : w'.ownsRow B 107 1 lv' (T.ents.length + 1) (ptrsC (bs ++ [nb]))) (hx : RItem w' B nb T.next x) (hnb : nb ∉ bs) (hBn : B <= nb) (hsm : T.next <= 2097152) :
 RMem w' B t { ents := T.ents ++ [(T.next, x)], next := T.next + 1 } (bs ++ [nb]) := by
 have hlen := h.len
 have hle : T.ents.length <= T.next := by
  have h1 : ∀ k ∈ T.ents.map (·.1), k < T.next := fun k hk => by
   obtain ⟨⟨i, y⟩, hy, rfl⟩ := List.mem_map.1 hk
   exact (h.wf.lt i y (Abs.geti_of_mem h.wf.nodup hy)).2
  have h2 := List.Nodup.length_le_of_subset h.wf.nodup (l₂ := List.range T.next) (fun k hk => List.mem_range.2 (h1 k hk))
  simpa using h2
 obtain ⟨lv, ht0, _⟩ := h.tree
 refine ⟨by simp [hlen], ⟨lv', ht, by simpa using hl⟩, ?_, ?_, ⟨h.low.1, ?_⟩, ?_, by show T.next + 1 < _; omega, by simp; omega⟩
 · intro k b i y hk hy
   by_cases hkl : k < bs.length
   · rw [List.getElem?_append_left hkl] at hk
     rw [List.getElem?_append_left (by omega)] at hy
     have hi := h.item k b i y hk hy
     refine hi.turns hT fun g hg => ?_
     obtain ⟨up, dv, nv, hbk, _⟩ := hi
     rcases hF g hg with rfl | ⟨cs, fr, hb⟩
     · exact ⟨(Blk.ne_ hbk ht0 (by decide)).symm, _, _, _, ht0, by decide, by decide⟩
     · refine ⟨fun e => ?_, _, cs, fr, hb, by decide, by decide⟩
       subst e
       have h9 := (show w.heap[g]? = _ from hbk).symm.trans hb
       injection h9 with h9
       injection h9 with _ h9
       exact absurd h9 (by decide)
   · have hke : k = bs.length := by
      have := (List.getElem?_eq_some_iff.1 hk).1
      simp at this
      omega
     subst hke
     rw [List.getElem?_append_right (Nat.le_refl _)] at hk
     rw [hlen, List.getElem?_append_right (Nat.le_refl _)] at hy
     simp at hk hy
     obtain ⟨rfl, rfl⟩ := hy
     subst hk
     exact hx
 · rw [List.nodup_append]
   exact ⟨h.nodup, by simp, fun a ha b hb => by rw [List.mem_singleton] at hb; rintro rfl; rw [hb] at ha; exact hnb ha⟩
 · intro b hb
   rcases List.mem_append.1 hb with hb | hb
   · exact h.low.2 b hb
   · rw [List.mem_singleton] at hb; omega
 · rw [List.map_append, List.nodup_append]
   refine ⟨h.wf.nodup, by simp, fun a ha b hb => ?_⟩
   simp at hb
   rintro rfl
   obtain ⟨⟨i, y⟩, hy, rfl⟩ := List.mem_map.1 ha
   have := (h.wf.lt i y (Abs.geti_of_mem h.wf.nodup hy)).2
   simp at hb
   omega
theorem bAt_append : ∀ (l m : List (Nat × Abs.Ent)) (bs cs : List Nat) (i : Nat) (x : Abs.Ent), bs.length = l.length -> Abs.geti l i = some x -> bAt (l ++ m) (bs ++ cs) i = bAt l bs i
 | [], _, _, _, _, _, _, h => by cases h
 | (j, y) :: l, m, b :: bs, cs, i, x, hl, h => by
   unfold Abs.geti at h
   show (if i = j then b else bAt (l ++ m) (bs ++ cs) i) = if i = j then b else bAt l bs i
   by_cases e : i = j
   · rw [if_pos e, if_pos e]
   · rw [if_neg e] at h
     rw [if_neg e, if_neg e]
     exact bAt_append l m bs cs i x (by simpa using hl) h
theorem linked_add {T : Abs.T} {d : Nat} {n : Abs.Name} {x : Abs.Ent} (h : d ≠ T.next) : ({ ents := T.ents ++ [(T.next, x)], next := T.next + 1 } : Abs.T).linked d n T.next = T.made d n x := by
 unfold Abs.T.linked Abs.T.made Abs.seti
 simp only [List.map_append, List.map_cons, List.map_nil]
 rw [if_neg (fun e => h e.symm)]
def MakePost (w : World) (B t : Nat) (T : Abs.T) (bs : List Nat) (x : Nat -> Abs.Ent) (R : Except Nat (Nat × Abs.Name)) (e : Ending) (w' : World) : Prop :=
 Below B w w' /\ match R with
 | .error _ => (∃ er : Nat, er ≠ 0 /\ e = .returned (.tuple #[.int .i64 0, .int .i64 (er : Int)])) /\ RTree w' B t T bs
 | .ok (d, n) => ∃ nb, e = .returned (.tuple #[.int .i64 (T.next : Int), .int .i64 0]) /\ RTree w' B t (T.made d n (x d)) (bs ++ [nb]) /\ ∀ g cs, Blk w g 111 cs -> Blk w' g 111 cs
def newEnt (dir : Bool) (mode now : Int) (d : Nat) : Abs.Ent := { dir := dir, mode := Abs.nine mode, tick := now, up := if dir then d else 0 }
set_option maxHeartbeats 8000000 in
theorem refMake (w : World) (B t : Nat) (T : Abs.T) (bs : List Nat) (h : RTree w B t T bs) (hB : B <= w.heap.size) (hmx : T.many <= 1048576) (hnx : T.next <= 2097152) (path : List UInt8) (hp : path.length <= 2147483648) (dir : Bool) (mode now : Int) (hmode : 0 <= mode /\ mode <= 511) :
 Calls Tryz.prog 47 #[.pointer (some ⟨t, 0, none⟩), .string ⟨#[]⟩, .string (strB path), .bool dir, .int .i64 mode, .int .i64 now] w (MakePost w B t T bs (newEnt dir mode now) (T.may [] path dir)) := by
 have hmay := refMay_ w B t T bs h (by omega) [] path (by decide) hp dir
 have hre : (strB [] : ByteArray) = ⟨#[]⟩ := rfl
 rw [hre] at hmay
 have HH := Lib.hid h
 have HB := Lib.hid hB
 go_enter Tryz.func47, Tryz.ntmps47
 obtain ⟨R, hm⟩ : ∃ R, T.may [] path dir = R := ⟨_, rfl⟩
 rw [hm] at hmay ⊢
 cases R with
 | error e =>
   have he0 : e ≠ 0 := may_ne0 hm
   have hne : ((e : Int) != 0) = true := by simpa using he0
   have HE := Lib.hid he0
   unfold mayE at hmay
   clear he0 h hB
   go_wp2_with (go_at_call 83; refine hmay.mono ?_; rintro e1 w1 ⟨rfl, hb1⟩)
   go_returns
   exact ⟨hb1.mono HB.out, ⟨e, HE.out, rfl⟩, HH.out.below hb1⟩
 | ok q =>
   obtain ⟨d, n⟩ := q
   unfold mayE at hmay
   dsimp only at hmay
   obtain ⟨y, hy, hyd, hnm, hlkn, hdep, hmany⟩ := may_ok hm
   have hnl : y.names.length <= 1048576 := Nat.le_trans (names_many hy) hmx
   obtain ⟨bd, hbd⟩ : ∃ bd, bAt T.ents bs d = bd := ⟨_, rfl⟩
   rw [hbd] at hmay
   obtain ⟨nx, hnx'⟩ : ∃ nx, T.next = nx := ⟨_, rfl⟩
   rw [hnx'] at hnx
   have hcells : ∀ W, Below w.heap.size w W -> W.cell? ⟨t, 1, none⟩ = some (.int .i64 (nx : Int)) /\ W.cell? ⟨bd, 0, none⟩ = some (.int .i64 (d : Int)) /\ t < W.heap.size /\ bd < W.heap.size /\ W.frozen? ⟨t, 1, none⟩ = false := fun W hW => by
    obtain ⟨lv, ht, _⟩ := (HH.out.below hW).tree
    obtain ⟨up, dv, nv, hbk, _⟩ := (HH.out.below hW).at_ hy
    rw [hbd] at hbk
    rw [hnx'] at ht
    exact ⟨ht.cell 1, hbk.cell 0, ht.lt, hbk.lt, ht.frozen 1⟩
   have HC := Lib.hid hcells
   have HNX := Lib.hid hnx'
   have HBD := Lib.hid hbd
   have HY := Lib.hid (And.intro hy (And.intro hyd (And.intro hlkn hdep)))
   clear hcells hnx' hbd hy hyd hlkn hdep hnm hmany h hB
   go_upto_region 4 with (go_at_call 83; refine hmay.mono ?_; rintro e1 w1 ⟨rfl, hb1⟩; obtain ⟨k1, k0, lt, lb, f1⟩ := HC.out _ hb1)
   go_region_held3 (fun W => W.cell? ⟨t, 1, none⟩ = some (.int .i64 (nx : Int)) /\ W.cell? ⟨bd, 0, none⟩ = some (.int .i64 (d : Int)))
    (first | (go_split_ands; refine ⟨?_, ?_⟩ <;> assumption) | go_keep)
    (first | (go_at_call 85; refine (refNine mode hmode _).mono ?_; rintro e2 w2 ⟨rfl, rfl⟩))
   obtain ⟨nb, hnb⟩ : ∃ nb, w1.heap.size = nb := ⟨_, rfl⟩
   have hnine : Abs.nine mode = Abs.nine mode := rfl
   obtain ⟨V, hV⟩ : ∃ V, (w1.alloc (.cells #[.int .i64 (nx : Int), .bool dir, .int .i64 (Abs.nine mode), .int .i64 now, .slice none 0 0, .slice none 0 0, .int .i64 (d : Int), .int .i64 0] 106)).drew = V := ⟨_, rfl⟩
   rw [hV, hnb]
   have hbV : Below w1.heap.size w1 V := by rw [<- hV]; exact below_drewN' (below_one w1 _)
   have hbV0 := below_thru hb1 hbV
   have hw1s : w.heap.size <= nb := by rw [<- hnb]; exact hb1.size
   have bN : Blk V nb 106 #[.int .i64 (nx : Int), .bool dir, .int .i64 (Abs.nine mode), .int .i64 now, .slice none 0 0, .slice none 0 0, .int .i64 (d : Int), .int .i64 0] := by rw [<- hV, <- hnb]; exact Blk.new w1 _ _
   have RV := HH.out.below hbV0
   obtain ⟨lv, ht, hl⟩ := RV.tree
   obtain ⟨Al, cl, rfl, _⟩ := own_slice hl
   rw [HNX.out] at ht
   obtain ⟨ne, hne⟩ : ∃ ne, T.ents.length = ne := ⟨_, rfl⟩
   rw [hne] at ht hl
   have u0 : V.cell? ⟨t, 0, none⟩ = some (.slice Al ne cl) := ht.cell 0
   have u1 : V.cell? ⟨t, 1, none⟩ = some (.int .i64 (nx : Int)) := ht.cell 1
   have fu0 : V.frozen? ⟨t, 0, none⟩ = false := ht.frozen 0
   have fu1 : V.frozen? ⟨t, 1, none⟩ = false := ht.frozen 1
   have lt2 := ht.lt
   have lnb := bN.lt
   have nc0 : V.cell? ⟨nb, 0, none⟩ = some (.int .i64 (nx : Int)) := bN.cell 0
   have htn : nb ≠ t := Blk.ne_ bN ht (by decide)
   obtain ⟨iI, hiI, hI0, hI1, hI2⟩ := info_parts Tryz.infoItemP2
   have HI := Lib.hid hiI
   have H0 := Lib.hid hI0
   have H1 := Lib.hid hI1
   have H2 := Lib.hid hI2
   have hnelt : ne <= 2097152 := by
    have h1 : T.ents.length <= T.next := by
     have h1 : ∀ k ∈ T.ents.map (·.1), k < T.next := fun k hk => by
      obtain ⟨⟨i, y⟩, hy, rfl⟩ := List.mem_map.1 hk
      exact (HH.out.wf.lt i y (Abs.geti_of_mem HH.out.wf.nodup hy)).2
     have h2 := List.Nodup.length_le_of_subset HH.out.wf.nodup (l₂ := List.range T.next) (fun k hk => List.mem_range.2 (h1 k hk))
     simpa using h2
    rw [HNX.out, hne] at h1
    omega
   have HV := Lib.hid (And.intro hbV0 (And.intro bN (And.intro ht hl)))
   have HNE := Lib.hid hne
   have hbw := HB.out
   have hVs : w.heap.size <= V.heap.size := hbV0.size
   clear hiI hI0 hI1 hI2 hV hbV hb1 RV bN ht hl hne k1 k0 f1 hmay
   go_upto_region 6 with fail
   obtain ⟨V1, hV1⟩ : ∃ V1, V.setCell ⟨t, 1, none⟩ (.int .i64 ((nx : Int) + 1)) = V1 := ⟨_, rfl⟩
   rw [hV1]
   have hV1s : V1.heap.size = V.heap.size := by rw [<- hV1, World.size_setCell]
   have hV1k : ∀ b, b ≠ t -> V1.heap[b]? = V.heap[b]? := fun b hb => by rw [<- hV1]; exact Below.heap_setCell _ _ _ _ hb
   have ht1 : Blk V1 t 185 #[.slice Al ne cl, .int .i64 ((nx : Int) + 1)] := by rw [<- hV1]; exact HV.out.2.2.1.set_ 1 (.int .i64 ((nx : Int) + 1))
   have hlt : (Value.slice Al ne cl).ownBlock ≠ some t := own_ne HV.out.2.2.2 HV.out.2.2.1 (by decide)
   have hl1 : V1.ownsRow B 107 1 (.slice Al ne cl) ne (ptrsC bs) := ownsRow_same HV.out.2.2.2 fun r hr => hV1k r fun e => hlt (e ▸ hr)
   have hT1 : Turns [t] V V1 := by rw [<- hV1]; exact (Turns.refl _ V).setCell _ _ (fun _ => List.mem_singleton.2 rfl)
   have u01 : V1.cell? ⟨t, 0, none⟩ = some (.slice Al ne cl) := ht1.cell 0
   have fu01 : V1.frozen? ⟨t, 0, none⟩ = false := ht1.frozen 0
   have lt3 := ht1.lt
   have HL1 := Lib.hid hl1
   have HT1 := Lib.hid (And.intro ht1 hT1)
   have hVB : B <= V1.heap.size := by omega
   have HV1S := Lib.hid hV1s
   clear hV1 hl1 ht1 hT1 u0 u1 fu0 fu1 nc0 hV1s
   go_upto_region 7 with (at_builtin; refine wpList_append_any _ rfl _ _ 183 rfl B 107 iI (.pointer none) 1 8 Tryz.underlying183 HI.out H0.out H1.out H2.out rfl (by decide) (.slice Al ne cl) ne (ptrsC bs) rfl (HL1.out.alloc _) (V1.heap.size + 1) (some ⟨V1.heap.size, 0, none⟩) 1 1 [.pointer (some ⟨nb, 0, none⟩)] rfl (row_one V1 107 _) (by simp [Value.oneCell']) (by simp only [maxLen]; omega) (by omega) (by simp; omega) ?_; intro v4 w4 hown4 hg4 hat4
                          obtain ⟨A4, c4, rfl, _⟩ := own_slice hown4
                          have b4 := (HT1.out.1.alloc (.cells #[.pointer (some ⟨nb, 0, none⟩)] 107)).grown hg4 (fun e => hlt e.symm)
                          have q4 := b4.cell 0
                          have g4 := b4.frozen 0
                          have l4 := b4.lt)
   obtain ⟨V2, hV2⟩ : ∃ V2, w4.setCell ⟨t, 0, none⟩ (.slice A4 (ne + 1) c4) = V2 := ⟨_, rfl⟩
   rw [hV2]
   have hTV : Turns ([t] ++ (Value.slice Al ne cl).ownBlock.toList) V V2 := by
    rw [<- hV2]
    exact ((HT1.out.2.more (by simp)).trans (((Turns.refl _ V1).alloc _).grown hg4 (fun g hg _ => by rw [hg]; simp))).setCell _ _ (fun _ => by simp)
   have hFF : ∀ g ∈ [t] ++ (Value.slice Al ne cl).ownBlock.toList, g = t \/ ∃ cs fr, V.heap[g]? = some (.cells cs 107 fr) := by
    intro g hg
    rcases List.mem_append.1 hg with hg | hg
    · exact .inl (List.mem_singleton.1 hg)
    · right
      rcases HV.out.2.2.2.2 with ⟨he, _⟩ | ⟨g', cap, cur, he, _, hb', _⟩
      · rw [he] at hg; simp [Value.ownBlock] at hg
      · rw [he] at hg
        obtain rfl : g = g' := by simpa [Value.ownBlock] using hg
        exact ⟨_, _, hb'⟩
   have hb2 : Blk V2 t 185 #[.slice A4 (ne + 1) c4, .int .i64 ((nx : Int) + 1)] := by rw [<- hV2]; exact b4.set_ 0 (.slice A4 (ne + 1) c4)
   have hl2 : V2.ownsRow B 107 1 (.slice A4 (ne + 1) c4) (ne + 1) (ptrsC (bs ++ [nb])) := by
    have h1 : ptrsC (bs ++ [nb]) = ptrsC bs ++ [.pointer (some ⟨nb, 0, none⟩)] := by simp [ptrsC]
    rw [h1, <- hV2]
    exact ownsRow_setCell_other hown4 (own_blk_ne hown4 b4 (by decide)) _
   have hnbb : V2.heap[nb]? = V.heap[nb]? := hTV.block nb lnb (by
    intro hm
    rcases hFF nb hm with e | ⟨cs, fr, hb'⟩
    · exact htn e
    · have h9 := (show V.heap[nb]? = _ from HV.out.2.1).symm.trans hb'
      injection h9 with h9
      injection h9 with _ h9
      exact absurd h9 (by decide))
   have hN2 : Blk V2 nb 106 #[.int .i64 (nx : Int), .bool dir, .int .i64 (Abs.nine mode), .int .i64 now, .slice none 0 0, .slice none 0 0, .int .i64 (d : Int), .int .i64 0] := hnbb.trans HV.out.2.1
   have hnin : nb ∉ bs := fun hm => by
    obtain ⟨k, hk⟩ := List.getElem?_of_mem hm
    have hke := (List.getElem?_eq_some_iff.1 hk).1
    rw [HH.out.len] at hke
    obtain ⟨up, dv, nv, hbk, _⟩ := HH.out.item k nb _ (T.ents[k].2) hk (List.getElem?_eq_getElem hke)
    have := hbk.lt
    omega
   have hBn : B <= nb := by omega
   have hitem2 : RItem V2 B nb T.next (newEnt dir mode now d) := by
    refine ⟨(d : Int), .slice none 0 0, .slice none 0 0, ?_, fun hd => ?_, World.ownsRow_nil _ _ _ _, World.ownsRow_nil _ _ _ _⟩
    · rw [HNX.out]; exact hN2
    · have hd' : dir = true := hd
      simp [newEnt, hd']
   have hmem : RMem V2 B t { ents := T.ents ++ [(T.next, newEnt dir mode now d)], next := T.next + 1 } (bs ++ [nb]) := RMem.add (HH.out.below HV.out.1) hTV hFF (by rw [HNX.out]; exact hb2) (by rw [HNE.out]; exact hl2) hitem2 hnin hBn (by rw [HNX.out]; exact hnx)
   have hyT : Abs.geti (T.ents ++ [(T.next, newEnt dir mode now d)]) d = some y := by rw [Abs.geti_append, show Abs.geti T.ents d = some y from HY.out.1]
   have hbA : bAt (T.ents ++ [(T.next, newEnt dir mode now d)]) (bs ++ [nb]) d = bd := by rw [bAt_append _ _ _ _ _ _ HH.out.len HY.out.1]; exact HBD.out
   obtain ⟨kd, hkd, hbkd⟩ := geti_at _ _ _ _ hmem.len hyT
   rw [hbA] at hbkd
   obtain ⟨up2, dv2, nv2, hbk2, hup2, hdv2, hnv2⟩ := hmem.item kd bd d y hbkd hkd
   have hdnx : d ≠ T.next := fun e => by have := (HH.out.wf.lt d y HY.out.1).2; omega
   have hnbd : nb ≠ bd := fun e => hnin (by
    obtain ⟨k, _, hk⟩ := geti_at _ _ _ _ HH.out.len HY.out.1
    rw [HBD.out] at hk
    rw [e]; exact List.mem_of_getElem? hk)
   have hwf := HH.out.wf.made_wf HY.out.1 HY.out.2.1 HY.out.2.2.1 (x := newEnt dir mode now d) rfl (fun hd => by have hd' : dir = true := hd; simp [newEnt, hd']) HY.out.2.2.2
   have hBV2 : B <= V2.heap.size := Nat.le_trans hVB (by rw [HV1S.out]; exact hTV.size)
   have hbelow2 : Below B w V2 := (HV.out.1.mono hbw).trans (hTV.below (by omega) (by
    intro g hg
    rcases List.mem_append.1 hg with hg | hg
    · rw [List.mem_singleton.1 hg]; exact HH.out.low.1
    · exact (HV.out.2.2.2.lt g (by simpa using hg)).1))
   have hputs : Calls Tryz.prog 84 #[.pointer (some ⟨bd, 0, none⟩), .string (strB n), .int .i64 (nx : Int)] V2 fun e w' => e = .returned (.tuple #[]) /\ RTree w' B t (T.made d n (newEnt dir mode now d)) (bs ++ [nb]) /\ w'.cell? ⟨nb, 0, none⟩ = some (.int .i64 (nx : Int)) /\ nb < w'.heap.size /\ Below B w w' /\ ∀ g cs, Blk w g 111 cs -> Blk w' g 111 cs := by
    refine (refPuts V2 B bd d y up2 dv2 nv2 hbk2 hnv2 n nx (by omega)).mono ?_
    rintro e w' ⟨h1, nv', h2, h3, h4⟩
    have hput := hmem.put (d := d) (y := y) (n := n) (j := T.next) hBV2 hyT hdv2 hup2 (by rw [hbA]; exact hbk2) (by rw [hbA]; exact h2) (by rw [HNX.out]; exact h3) (by rw [hbA]; exact h4)
    rw [linked_add hdnx] at hput
    have hN5 : Blk w' nb _ _ := (h4.block nb hN2.lt (by rw [List.mem_singleton]; exact hnbd)).trans hN2
    refine ⟨h1, hput.wf hwf, hN5.cell 0, hN5.lt, hbelow2.trans (h4.below hBV2 ?_), ?_⟩
    · intro g hg
      rw [List.mem_singleton.1 hg]
      exact hmem.low.2 bd (List.mem_of_getElem? hbkd)
    · intro g cs hg
      have g1 := Blk.on hg HV.out.1
      have g2 : Blk V2 g _ _ := (hTV.block g g1.lt (by
       intro hm
       rcases hFF g hm with e | ⟨cs', fr, hb'⟩
       · exact Blk.ne_ g1 HV.out.2.2.1 (by decide) e
       · have h9 := (show V.heap[g]? = _ from g1).symm.trans hb'
         injection h9 with h9
         injection h9 with _ h9
         exact absurd h9 (by decide))).trans g1
      exact (h4.block g g2.lt (by rw [List.mem_singleton]; exact Blk.ne_ g2 hbk2 (by decide))).trans g2
   have nc2 : V2.cell? ⟨nb, 0, none⟩ = some (.int .i64 (nx : Int)) := hN2.cell 0
   have ln2 := hN2.lt
   have HP := Lib.hid hputs
   have HM2 := Lib.hid hm
   clear hputs hV2 hTV hFF hb2 hl2 hnbb hN2 hitem2 hmem hyT hbA hkd hbkd hbk2 hup2 hdv2 hnv2 hwf hbelow2 b4 q4 g4 l4 hown4 hg4 hat4 u01 fu01 hm
   go_wp2_with (go_at_call 84; refine HP.out.mono ?_; rintro e5 w5 ⟨rfl, hR5, nc5, ln5, hb5, hkeep5⟩)
   go_returns
   exact ⟨hb5, nb, by rw [HNX.out]; rfl, hR5, hkeep5⟩
end
section
open Go.RowKit Go.Maps Go.Shelf
namespace Abs
def joinS (l : List Name) : List UInt8 := l.flatMap fun p => 47 :: p
theorem joinS_snoc (l : List Name) (p : Name) : joinS (l ++ [p]) = joinS l ++ [47] ++ p := by simp [joinS]
theorem joinS_len (l : List Name) : (joinS l).length = sumL l := by
 induction l with
 | nil => rfl
 | cons a l ih =>
   have e : joinS (a :: l) = 47 :: (a ++ joinS l) := by simp [joinS]
   have e2 : sumL (a :: l) = a.length + 1 + sumL l := by simp [sumL]
   rw [e, e2, List.length_cons, List.length_append, ih]
   omega
theorem join_segs (l : List UInt8) : joinS (segs l) = 47 :: l := by
 induction l with
 | nil => rfl
 | cons c l ih =>
   by_cases hc : c = 47
   · subst hc
     have e : segs (47 :: l) = [] :: segs l := by simp [segs]
     rw [e]
     show 47 :: ([] ++ joinS (segs l)) = _
     rw [ih]; rfl
   · obtain ⟨a, t, e⟩ := List.exists_cons_of_ne_nil (segs_ne l)
     rw [segs_cons hc e]
     rw [e] at ih
     have h1 : joinS ((c :: a) :: t) = 47 :: c :: (a ++ joinS t) := by simp [joinS]
     have h2 : joinS (a :: t) = 47 :: (a ++ joinS t) := by simp [joinS]
     rw [h2] at ih
     rw [h1]
     injection ih with _ ih
     rw [ih]
theorem segs_joinS : ∀ (l : List Name), (∀ p ∈ l, (47 : UInt8) ∉ p) -> segs (joinS l) = [] :: l
 | [], _ => rfl
 | p :: l, h => by
   have e : joinS (p :: l) = 47 :: (p ++ joinS l) := by simp [joinS]
   have ih := segs_joinS l fun q hq => h q (by simp [hq])
   have hp := h p (by simp)
   rw [e]
   have e2 : segs (47 :: (p ++ joinS l)) = [] :: segs (p ++ joinS l) := by simp [segs]
   rw [e2]
   congr 1
   cases l with
   | nil => rw [show joinS [] = [] from rfl, List.append_nil, segs_self hp]
   | cons q l =>
     have e3 : joinS (q :: l) = 47 :: (q ++ joinS l) := by simp [joinS]
     rw [e3] at ih ⊢
     rw [segs_app hp]
     have e4 : segs (47 :: (q ++ joinS l)) = [] :: segs (q ++ joinS l) := by simp [segs]
     rw [e4] at ih
     injection ih with _ ih
     rw [ih]
theorem named_47 {n : Name} (h : named n = true) : (47 : UInt8) ∉ n := fun hm => named_no h 47 hm rfl
theorem named_ne {n : Name} (h : named n = true) : n.isEmpty = false := by cases n with | nil => cases h | cons a l => rfl
theorem plain_parts (path : List UInt8) : plain path = ((parts path).all named && !(parts path).isEmpty && decide (joinS (parts path) = path)) := by
 rw [Bool.eq_iff_iff]
 simp only [Bool.and_eq_true, Bool.not_eq_true', decide_eq_true_eq]
 constructor
 · intro h
   unfold plain at h
   split at h
   · rename_i l
     have e2 : segs (47 :: l) = [] :: segs l := by simp [segs]
     have hp : parts (47 :: l) = segs l := by
      unfold parts
      rw [e2, List.filter_cons_of_neg (by simp)]
      exact List.filter_eq_self.2 fun a ha => by rw [named_ne (List.all_eq_true.1 h a ha)]; rfl
     rw [hp]
     refine ⟨⟨h, ?_⟩, join_segs l⟩
     cases hs : segs l with
     | nil => exact absurd hs (segs_ne l)
     | cons a t => rfl
   · cases h
 · rintro ⟨⟨h1, h2⟩, h3⟩
   have hno : ∀ p ∈ parts path, (47 : UInt8) ∉ p := fun p hp => named_47 (List.all_eq_true.1 h1 p hp)
   have hs := segs_joinS _ hno
   rw [h3] at hs
   unfold plain
   cases path with
   | nil => cases h2
   | cons c l =>
     have hc : c = 47 := by
      have h4 := h3
      cases hp : parts (c :: l) with
      | nil => rw [hp] at h2; cases h2
      | cons a t =>
        rw [hp] at h4
        have e : joinS (a :: t) = 47 :: (a ++ joinS t) := by simp [joinS]
        rw [e] at h4
        injection h4 with h4 _
        exact h4.symm
     subst hc
     have e2 : segs (47 :: l) = [] :: segs l := by simp [segs]
     rw [e2] at hs
     injection hs with _ hs
     show (segs l).all named = true
     rw [hs]
     exact h1
theorem joinS_take (path : List UInt8) (i : Nat) : (joinS ((parts path).take i)).length <= path.length + 1 := by
 rw [joinS_len, <- sumL_segs path]
 exact sumL_sub ((List.take_sublist _ _).trans List.filter_sublist)
end Abs
theorem strB_append (a b : List UInt8) : strB a ++ strB b = strB (a ++ b) := by
 apply ByteArray.ext
 apply Array.ext'
 simp [strB]
set_option maxRecDepth 100000 in
set_option maxHeartbeats 4000000 in
theorem refPlain (l : List UInt8) (hl : l.length <= 2147483648) (w : World) :
 Calls Tryz.prog 44 #[.string (strB l)] w fun e w' => e = .returned (.bool (Abs.plain l)) /\ Below w.heap.size w w' := by
 have hparts := refParts l hl w
 obtain ⟨R, hR⟩ : ∃ R, Abs.plain l = R := ⟨_, rfl⟩
 rw [hR]
 rw [Abs.plain_parts] at hR
 obtain ⟨ps, hps⟩ : ∃ ps, Abs.parts l = ps := ⟨_, rfl⟩
 have hsmall : ∀ p ∈ ps, p.length <= l.length := fun p hp => by rw [<- hps] at hp; exact parts_small hp
 have hmany := parts_many l
 have hjl : ∀ i, (Abs.joinS (ps.take i)).length <= l.length + 1 := fun i => by rw [<- hps]; exact Abs.joinS_take l i
 rw [hps] at hparts hmany hR
 obtain ⟨m, hm⟩ : ∃ m, ps.length = m := ⟨_, rfl⟩
 rw [hm] at hparts hmany
 have HR := Lib.hid hR
 have HM := Lib.hid hm
 have HS := Lib.hid hsmall
 have HJ := Lib.hid hjl
 clear hR hm hsmall hjl hps
 go_enter Tryz.func44, Tryz.ntmps44
 go_wp2_with (go_at_call 80; refine hparts.mono ?_; rintro e2 w2 ⟨v, rfl, hown, hb2⟩; obtain ⟨A, c, rfl, hlc, _, hrd⟩ := own_slice hown)
 have HB := Lib.hid hb2
 have HRD := Lib.hid hrd
 clear hparts hown hb2 hrd
 go_loopw [4, 5] (fun sv iv wr => ∃ (i : Nat), i <= m /\ iv = .int .i64 (i : Int) /\ sv = .string (strB (Abs.joinS (ps.take i))) /\ Hid ((ps.take i).all Abs.named = true) /\ wr = w2) (fun _ iv _ => m - (intOf iv).toNat)
 case atStart => exact ⟨0, Nat.zero_le _, rfl, rfl, Lib.hid rfl, rfl⟩
 case round =>
  obtain ⟨i, hi, rfl, rfl, HA, rfl⟩ := hrel
  obtain ⟨a, ha⟩ : ∃ a, Abs.joinS (ps.take i) = a := ⟨_, rfl⟩
  have hal : a.length <= l.length + 1 := by rw [<- ha]; exact HJ.out i
  have HAA := Lib.hid ha
  rw [ha]
  clear ha
  by_cases hlt : i < m
  · obtain ⟨p, hp⟩ : ∃ p, ps[i]? = some p := ⟨_, List.getElem?_eq_getElem (by rw [HM.out]; exact hlt)⟩
    have htk : ps.take (i + 1) = ps.take i ++ [p] := by rw [List.take_add_one, hp]; rfl
    have hpl := HS.out p (List.mem_of_getElem? hp)
    obtain ⟨gb, off, hA, hgb, hc⟩ := reads_flat HRD.out (by intro e; have := HRD.out.1; rw [e] at this; simp at this; omega)
    have c0 : wr.cell? ⟨gb, off + i, none⟩ = some (.string (strB p)) := hc _ _ (by simp [strsN, hp])
    have hi1 : (i : Int) < (m : Int) := by omega
    have hi0 : (0 : Int) <= (i : Int) := by omega
    have hnm := fun W => refNamed p (by omega) W
    have HT := Lib.hid htk
    subst hA
    clear hc hp htk
    obtain ⟨nm, hnmv⟩ : ∃ nm, Abs.named p = nm := ⟨_, rfl⟩
    rw [hnmv] at hnm
    cases nm with
    | false =>
      have hres : R = false := by
       rw [<- HR.out]
       have hmem : p ∈ ps := by have := HT.out ▸ (List.mem_append_right (ps.take i) (List.mem_singleton.2 rfl)); exact List.mem_of_mem_take (show p ∈ ps.take (i + 1) by rw [HT.out]; simp)
       have : ps.all Abs.named = false := by rw [List.all_eq_false]; exact ⟨p, hmem, by rw [hnmv]; decide⟩
       rw [this]; rfl
      have HRS := Lib.hid hres
      clear hnmv hres
      go_wp2_with (go_at_call 82; refine (hnm _).mono ?_; rintro e6 w6 ⟨rfl, h6⟩; obtain rfl : wr = w6 := h6.symm)
      go_returns
      exact ⟨by rw [HRS.out]; rfl, HB.out⟩
    | true =>
      have e1 : (strB a).size = a.length := strB_size a
      have e2 : (strB a ++ ({ data := #[47] } : ByteArray)).size = a.length + 1 := by rw [ByteArray.size_append, strB_size]; rfl
      have e3 : (strB p).size = p.length := strB_size p
      have hfin : strB a ++ ({ data := #[47] } : ByteArray) ++ strB p = strB (Abs.joinS (ps.take (i + 1))) := by
       rw [HT.out, Abs.joinS_snoc, HAA.out, <- strB_append, <- strB_append]; rfl
      have HF := Lib.hid hfin
      have HNX : Hid ((ps.take (i + 1)).all Abs.named = true) := Lib.hid (by rw [HT.out, List.all_append, HA.out]; simp [hnmv])
      clear hfin hnmv
      go_wp2_with (go_at_call 82; refine (hnm _).mono ?_; rintro e6 w6 ⟨rfl, h6⟩; obtain rfl : wr = w6 := h6.symm)
      refine ⟨⟨i + 1, by omega, rfl, by rw [HF.out], HNX, by trivial⟩, ?_⟩
      simp only [intOf]
      omega
  · obtain rfl : i = m := by omega
    have htk : ps.take i = ps := List.take_of_length_le (by rw [HM.out]; exact Nat.le_refl _)
    have hall := HA.out
    rw [htk] at hall
    have hja := HAA.out
    rw [htk] at hja
    have heq : ((strB a).toList == (strB l).toList) = decide (a = l) := strB_eq a l
    have hr2 : R = (!ps.isEmpty && decide (a = l)) := by rw [<- HR.out, hall, hja]; rfl
    obtain ⟨q, hq⟩ : ∃ q, decide (a = l) = q := ⟨_, rfl⟩
    rw [hq] at heq hr2
    have HR2 := Lib.hid hr2
    have HM2 := HM.out
    clear htk hall hja hr2 hq
    by_cases h0 : (0 : Int) < (i : Int)
    · have hne : ps.isEmpty = false := by cases ps with | nil => simp at HM2; omega | cons x y => rfl
      clear HM2
      cases q
      all_goals go_wp2_with fail
      all_goals go_returns
      all_goals exact ⟨by rw [HR2.out, hne]; rfl, HB.out⟩
    · have hne : ps.isEmpty = true := by cases ps with | nil => rfl | cons x y => simp at HM2; omega
      clear HM2
      go_wp2_with fail
      go_returns
      exact ⟨by rw [HR2.out, hne]; rfl, HB.out⟩
end
section
set_option maxRecDepth 100000
open Go.RowKit Go.Maps Go.Shelf
set_option maxHeartbeats 4000000 in
theorem refFirst (w : World) (B : Nat) (NA : Option Addr) (nc nn : Nat) (L : List NodeIt) (hL : L.length = nn) (hnn : nn <= 1048576) (hr : Reads w B 6 NA nn (nodesC L)) (hB : B <= w.heap.size) (k : Nat) (x : NodeIt) (hx : L[k]? = some x) :
 Calls Tryz.prog 45 #[.slice NA nn nc, .int .i64 (k : Int)] w fun e w' => Below w.heap.size w w' /\ ((e = .returned (.int .i64 (-1)) /\ (x.ino <= 0 \/ ∀ y ∈ L.take k, y.ino ≠ x.ino)) \/ ∃ (i : Nat) (y : NodeIt), i < k /\ L[i]? = some y /\ y.ino = x.ino /\ 0 < x.ino /\ (∀ z ∈ L.take i, z.ino ≠ x.ino) /\ e = .returned (.int .i64 (i : Int))) := by
 have hk : k < nn := by rw [<- hL]; exact (List.getElem?_eq_some_iff.1 hx).1
 have HL := Lib.hid hL
 have HR := Lib.hid hr
 have HX := Lib.hid hx
 have hk1 : (k : Int) < (nn : Int) := by omega
 have hk0 : (0 : Int) <= (k : Int) := by omega
 clear hL hr hx
 go_enter Tryz.func45, Tryz.ntmps45
 go_wp2
 go_loopw [5] (fun iv wr => ∃ (i : Nat), i <= k /\ iv = .int .i64 (i : Int) /\ Hid (∀ z ∈ L.take i, z.ino ≠ x.ino) /\ Hid (Below w.heap.size w wr)) (fun iv _ => k - (intOf iv).toNat)
 case atStart => exact ⟨0, Nat.zero_le _, rfl, Lib.hid (by simp), Lib.hid (Below.refl _ _)⟩
 case round =>
  obtain ⟨i, hi, rfl, HA, HW⟩ := hrel
  have hrw := HR.out.below (HW.out.mono hB)
  obtain ⟨gb, off, hN, hgb, hra⟩ := reads_node hrw HL.out HX.out
  have hgl : gb < wr.heap.size := Nat.lt_of_lt_of_le (Nat.lt_of_lt_of_le hgb hB) HW.out.size
  have cx : wr.cell? ⟨gb, off + k * 6 + 4, none⟩ = some (.int .i64 x.ino) := hra 4 _ rfl
  by_cases hlt : i < k
  · have hl1 : (i : Int) < (k : Int) := by omega
    have hln : (i : Int) < (nn : Int) := by omega
    have hi0 : (0 : Int) <= (i : Int) := by omega
    obtain ⟨y, hy⟩ : ∃ y, L[i]? = some y := ⟨_, List.getElem?_eq_getElem (by rw [HL.out]; omega)⟩
    obtain ⟨gb', off', hN', _, hra'⟩ := reads_node hrw HL.out hy
    rw [hN] at hN'
    cases hN'
    have cy : wr.cell? ⟨gb, off + i * 6 + 4, none⟩ = some (.int .i64 y.ino) := hra' 4 _ rfl
    have htk : L.take (i + 1) = L.take i ++ [y] := by rw [List.take_add_one, hy]; rfl
    have HY := Lib.hid (And.intro hy htk)
    obtain ⟨xi, hxi⟩ : ∃ xi, x.ino = xi := ⟨_, rfl⟩
    obtain ⟨yi, hyi⟩ : ∃ yi, y.ino = yi := ⟨_, rfl⟩
    rw [hxi] at cx
    rw [hyi] at cy
    have HXI := Lib.hid hxi
    have HYI := Lib.hid hyi
    subst hN
    clear hy htk hra hra' hrw hxi hyi
    by_cases h0 : 0 < xi
    · have hd0 : decide (0 < xi) = true := decide_eq_true h0
      by_cases he : yi = xi
      · have hde : decide (yi = xi) = true := decide_eq_true he
        have hbe : (yi == xi) = true := by simpa using he
        go_wp2_with fail
        go_quiet (fail)
        go_wp2_with fail
        go_returns
        exact ⟨below_drewN HW.out nq, .inr ⟨i, y, hlt, HY.out.1, by rw [HYI.out, HXI.out]; exact he, by rw [HXI.out]; exact h0, HA.out, rfl⟩⟩
      · have hde : decide (yi = xi) = false := decide_eq_false he
        have hbe : (yi == xi) = false := by simpa using he
        go_wp2_with fail
        go_quiet (fail)
        go_wp2_with fail
        refine ⟨⟨i + 1, by omega, rfl, Lib.hid ?_, Lib.hid (below_drewN HW.out nq)⟩, by simp only [intOf]; omega⟩
        intro z hz
        rw [HY.out.2, List.mem_append, List.mem_singleton] at hz
        rcases hz with hz | rfl
        · exact HA.out z hz
        · rw [HYI.out, HXI.out]; exact he
    · have hd0 : decide (0 < xi) = false := decide_eq_false h0
      go_wp2_with fail
      go_returns
      exact ⟨HW.out, .inl ⟨rfl, .inl (by rw [HXI.out]; omega)⟩⟩
  · obtain rfl : i = k := by omega
    subst hN
    go_wp2_with fail
    go_returns
    exact ⟨HW.out, .inl ⟨rfl, .inr HA.out⟩⟩
theorem strB_eta (p : ByteArray) : strB p.data.toList = p := by
 apply ByteArray.ext
 simp [strB]
def FirstOk (s : Abs.LS) (l : List Abs.Nd) : Prop := ∀ j : Int, s.first j = if 0 < j then l.find? (fun n => decide (n.ino = j)) else none
theorem FirstOk.init : FirstOk Abs.LS.init [] := fun j => by simp [Abs.LS.init]
theorem FirstOk.link {s s' : Abs.LS} {l : List Abs.Nd} {n f : Abs.Nd} (h : FirstOk s l) (hf : s.first n.ino = some f) (hs : s'.first = s.first) : FirstOk s' (l ++ [n]) := by
 intro j
 rw [hs, h j]
 by_cases hj : 0 < j
 · rw [if_pos hj, if_pos hj, List.find?_append]
   cases hfd : l.find? (fun n => decide (n.ino = j)) with
   | some g => rfl
   | none =>
     have hne : n.ino ≠ j := by
      intro e
      rw [e, h j, if_pos hj, hfd] at hf
      cases hf
     simp [hne]
 · rw [if_neg hj, if_neg hj]
theorem FirstOk.make {s s' : Abs.LS} {l : List Abs.Nd} {n : Abs.Nd} (h : FirstOk s l) (hf : s.first n.ino = none) (hs : s.make n = some s') : FirstOk s' (l ++ [n]) := by
 unfold Abs.LS.make at hs
 split at hs
 · cases hs
 · cases hs
   intro j
   show (if 0 < n.ino then fun k => if k = n.ino then some n else s.first k else s.first) j = _
   by_cases hj : 0 < j
   · rw [if_pos hj, List.find?_append]
     by_cases he : j = n.ino
     · subst he
       rw [if_pos hj, if_pos rfl]
       have := h n.ino
       rw [hf, if_pos hj] at this
       rw [<- this]
       simp
     · have e1 : (if 0 < n.ino then fun k => if k = n.ino then some n else s.first k else s.first) j = s.first j := by split <;> simp [he]
       rw [e1, h j, if_pos hj]
       have hne : ¬ n.ino = j := fun e => he e.symm
       simp [hne]
   · rw [if_neg hj]
     have hj0 := h j
     rw [if_neg hj] at hj0
     split
     · rename_i hn
       have : j ≠ n.ino := by omega
       simp [this, hj0]
     · exact hj0
theorem FirstOk.step {s s' : Abs.LS} {l : List Abs.Nd} {n : Abs.Nd} {k B : Nat} (h : FirstOk s l) (hok : s.Ok k B) (hs : s.step n = some s') : FirstOk s' (l ++ [n]) := by
 unfold Abs.LS.step at hs
 split at hs
 · cases hs
 · split at hs
   · rename_i f hf
     split at hs
     · exact h.link hf (hok.of_link hs).1
     · cases hs
   · rename_i hf
     exact h.make hf hs
end
end Go.Proofs.YtffffjngodinnaaGreatDoor
