/-
  Walks over the reference of layer 6: kind, Parse, Has, Last.
-/
import Derived.Test.YtnagiphjlfiifaaRows
import Derived.Test.YtnagiphjlfiifaaOptPlain
import Derived.Test.YtnagiphjlfiifaaWords
import Derived.WalkKit
import Derived.WalkSpells
import Derived.WalkLawsBesides
import Derived.Lib.Hide
import Derived.Handy
import Derived.Deep.LoopGhost
import Derived.BigQuiet
import Derived.Deep.QuietTactic
import Derived.Deep.DeepMust
import Derived.Lib.Strings
import Derived.Deep.RegionLaw
import Derived.BigRegion
import Derived.Deep.DrawnRows
namespace Go.Proofs.Ytnagiphjlfiifaa
open Go.RowKit
attribute [local go_sem ↓] Go.wp_at_zero Go.wp_at_succ

set_option maxHeartbeats 400000 in
/-- kind: what the spec says of a letter -/
theorem kind_any (s : ByteArray) (c : UInt8) (w : World) (hs : s.size ≤ 2000000) :
    Calls Try.prog 15 #[.string s, .int .u8 c.toNat] w fun e w' => e = .returned (.int .i64 (Pl.kind s.data.toList c)) ∧ w = w' := by
  by_cases h58 : c = 58
  · subst h58
    go_enter Try.func15, Try.ntmps15
    go_wp2
    go_returns
    exact ⟨rfl, rfl⟩
  by_cases h45 : c = 45
  · subst h45
    go_enter Try.func15, Try.ntmps15
    go_wp2
    go_returns
    exact ⟨rfl, rfl⟩
  have hk : Hid (Pl.kind s.data.toList c = Pl.kindFrom s.data.toList c) := by show _ = _; simp [Pl.kind, h58, h45]
  have b58 : ((c.toNat : Int) == 58) = false := (Pl.u8_beq c 58).trans (beq_eq_false_iff_ne.2 h58)
  have b45 : ((c.toNat : Int) == 45) = false := (Pl.u8_beq c 45).trans (beq_eq_false_iff_ne.2 h45)
  clear h58 h45
  go_enter Try.func15, Try.ntmps15
  go_wp2
  go_loop [5] (fun i => ∃ k : Nat, k ≤ s.size ∧ i = .int .i64 k ∧ Hid (Pl.kindFrom s.data.toList c = Pl.kindFrom (s.data.toList.drop k) c)) (fun i => s.size - (intOf i).toNat)
  case atStart => exact ⟨0, Nat.zero_le _, rfl, Lib.hid (by simp)⟩
  case round =>
    obtain ⟨k, hk1, rfl, hk2⟩ := hrel
    by_cases hlt : k < s.size
    · by_cases hx : s[k] = c
      · have bx : ((s[k].toNat : Int) == (c.toNat : Int)) = true := (Pl.u8_beq _ _).trans (beq_iff_eq.2 hx)
        have hx' := Lib.hid hx
        clear hx
        by_cases h1 : k + 1 < s.size
        · by_cases h2 : s[k + 1] = 58
          · have b2 : ((s[k + 1].toNat : Int) == 58) = true := (Pl.u8_beq _ 58).trans (beq_iff_eq.2 h2)
            have hm := Lib.hid (Pl.kindFrom_two s c k hlt hx'.out h1 h2)
            clear h2
            go_wp2
            go_returns
            exact ⟨by rw [hk.out, hk2.out, hm.out]; rfl, rfl⟩
          · have b2 : ((s[k + 1].toNat : Int) == 58) = false := (Pl.u8_beq _ 58).trans (beq_eq_false_iff_ne.2 h2)
            have hm := Lib.hid (Pl.kindFrom_one s c k hlt hx'.out h1 h2)
            clear h2
            go_wp2
            go_returns
            exact ⟨by rw [hk.out, hk2.out, hm.out]; rfl, rfl⟩
        · have hm := Lib.hid (Pl.kindFrom_last s c k hlt hx'.out h1)
          go_wp2
          go_returns
          exact ⟨by rw [hk.out, hk2.out, hm.out]; rfl, rfl⟩
      · have bx : ((s[k].toNat : Int) == (c.toNat : Int)) = false := (Pl.u8_beq _ _).trans (beq_eq_false_iff_ne.2 hx)
        have hm := Lib.hid (Pl.kindFrom_miss s c k hlt hx)
        clear hx
        go_wp2
        go_round
        case rel => exact ⟨k + 1, by omega, by go_num, hk2.trans hm⟩
        case measure => simp [intOf]; omega
    · go_wp2
      go_returns
      exact ⟨by rw [hk.out, hk2.out, Pl.kindFrom_end s c k hlt]; rfl, rfl⟩

/-- the cells of options -/
def optCells (l : List Pl.Opt) : List Value := l.flatMap fun o => [.int .u8 o.1.toNat, .string o.2]
theorem optCells_snoc (l : List Pl.Opt) (o : Pl.Opt) : optCells (l ++ [o]) = optCells l ++ [.int .u8 o.1.toNat, .string o.2] := by simp [optCells]
theorem optCells_length (l : List Pl.Opt) : (optCells l).length = l.length * 2 := by
  induction l with
  | nil => rfl
  | cons o l ih => simp [optCells] at ih ⊢; omega

/-- strings as values -/
def strs (l : List ByteArray) : List Value := l.map .string
theorem strs_at {l : List ByteArray} {k : Nat} {u : Value} (h : (strs l)[k]? = some u) : ∃ s, l[k]? = some s ∧ u = .string s := by
  unfold strs at h
  rw [List.getElem?_map] at h
  cases hl : l[k]? with
  | none => rw [hl] at h; cases h
  | some s => rw [hl] at h; exact ⟨s, rfl, by cases h; rfl⟩

/-- a slice cut at a place from its front -/
def cutAt (A : Option Addr) (n cap j : Nat) : Value := .slice (cutA A cap j 1) (n - j) (cap - j)
theorem Try.infoStr : (Try.prog.info? 9).map (fun i => (i.zero, i.size, i.bytes)) = some (some (.string ⟨#[]⟩), 1, 16) := by kernel_rfl
theorem Try.infoOpt : (Try.prog.info? 35).map (fun i => (i.zero, i.size, i.bytes)) = some (some (.agg #[.int .u8 0, .string ⟨#[]⟩]), 2, 24) := by kernel_rfl

theorem extract_drop (s : ByteArray) (k : Nat) : s.extract k s.size = ⟨(s.data.toList.drop k).toArray⟩ := by
  have h := Lib.extract_data s k s.size
  have e : ((s.data.toList.drop k).take (s.size - k)) = s.data.toList.drop k := List.take_of_length_le (by simp)
  rw [e] at h
  have h2 : (s.extract k s.size).data = (s.data.toList.drop k).toArray := by rw [← h]
  exact congrArg ByteArray.mk h2

/-- one option is appended: what it is made in lies one block ahead -/
theorem append_opt {ops : Array Oper} {rest : List Oper} {o : Oper} {a : Act} {Q : Exit → Act → World → Prop} (hgd : o.guard = none) (s x : Operand)
    (ho : o.op = .call { callee := .builtin .append, args := #[s, x], argTypes := #[24, 24] })
    (w wr : World) (v : Value) (acc : List Pl.Opt) (c : UInt8) (t : ByteArray) (hs : a.eval s = v) (hx : a.eval x = .slice (some ⟨wr.heap.size, 0, none⟩) 1 1)
    (hown : wr.ownsRow w.heap.size 35 2 v acc.length (optCells acc)) (hb : Below w.heap.size w wr) (hlen : acc.length < 2097152)
    (h : ∀ v' w', w'.ownsRow w.heap.size 35 2 v' (acc ++ [(c, t)]).length (optCells (acc ++ [(c, t)])) → Below w.heap.size w w' → wpList Try.prog ops Q rest (a.put o.dst v') w') :
    wpList Try.prog ops Q (o :: rest) a (wr.alloc (.cells #[.int .u8 c.toNat, .string t] 35)) := by
  obtain ⟨iO, hiO, hO0, hO1, hO2⟩ := info_parts Try.infoOpt
  have hbs := hb.size
  refine wpList_append_own _ hgd s x 24 ho w.heap.size 35 iO (.agg #[.int .u8 0, .string ⟨#[]⟩]) 2 24 Try.underlying24 hiO hO0 hO1 hO2 rfl (by decide)
    v acc.length (optCells acc) hs (hown.alloc _) ⟨wr.heap.size, 0, none⟩ 1 1 [.int .u8 c.toNat, .string t] hx rfl (cell_two_new _ _ _ _) (by simp [Value.oneCell']) (by simp only [maxLen]; omega) (by omega) (by simp; omega) ?_
  intro v' w' hown' hg _
  refine h v' w' (by rw [optCells_snoc, List.length_append]; exact hown') ((hb.alloc hbs _).grown hg (by simp; omega) fun k hk => (hown.lt k hk).1)

/-- the same as one step of a region that draws its order; the world is a letter -/
theorem step_append_opt {ops : Array Oper} {o : Oper} {a : Act} {K : Act → World → Prop} {Q : Exit → Act → World → Prop} {E : Prop} (hgd : o.guard = none) (s x : Operand)
    (ho : o.op = .call { callee := .builtin .append, args := #[s, x], argTypes := #[24, 24] })
    (w W : World) (v : Value) (acc : List Pl.Opt) (c : UInt8) (t : ByteArray) (ad : Addr) (hs : a.eval s = v) (hx : a.eval x = .slice (some ad) 1 1)
    (hc : ∀ j u, [Value.int .u8 c.toNat, .string t][j]? = some u → W.cell? (ad.add j) = some u)
    (hown : W.ownsRow w.heap.size 35 2 v acc.length (optCells acc)) (hb : Below w.heap.size w W) (hlen : acc.length < 2097152)
    (h : ∀ v' w', w'.ownsRow w.heap.size 35 2 v' (acc ++ [(c, t)]).length (optCells (acc ++ [(c, t)])) → Below w.heap.size w w' → K (a.put o.dst v') w') :
    if Region.wanted o (yielded ops a.tmps) = true then Oper.wp Try.prog o a W K Q else E := by
  obtain ⟨iO, hiO, hO0, hO1, hO2⟩ := info_parts Try.infoOpt
  have hbs := hb.size
  rw [if_pos (by simp [Region.wanted, hgd])]
  refine wp_append_own _ s x 24 ho w.heap.size 35 iO (.agg #[.int .u8 0, .string ⟨#[]⟩]) 2 24 Try.underlying24 hiO hO0 hO1 hO2 rfl (by decide)
    v acc.length (optCells acc) hs hown ad 1 1 [.int .u8 c.toNat, .string t] hx rfl hc (by simp [Value.oneCell']) (by simp only [maxLen]; omega) (by omega) hbs ?_
  intro v' w' hown' hg _
  exact h v' w' (by rw [optCells_snoc, List.length_append]; exact hown') (hb.grown hg hbs fun k hk => (hown.lt k hk).1)

/-- what a call of the reference's Parse leaves -/
def RefParsed (w : World) (A : Option Addr) (n cap : Nat) (r : Option (List Pl.Opt × Nat)) (e : Ending) (w' : World) : Prop :=
  Below w.heap.size w w' ∧ match r with
  | none => e = .returned (.tuple #[.slice none 0 0, .slice none 0 0, .int .i64 19])
  | some (l, j) => ∃ v, e = .returned (.tuple #[v, cutAt A n cap j, .int .i64 0]) ∧ w'.ownsRow w.heap.size 35 2 v l.length (optCells l)

set_option maxRecDepth 100000 in
set_option maxHeartbeats 400000 in
theorem refParse_any (A : Option Addr) (cap : Nat) (args : List ByteArray) (s : ByteArray) (w : World) (hs : s.size ≤ 2000000)
    (hr : Reads w w.heap.size 1 A args.length (strs args)) (ht : Pl.total args ≤ 2000000) (hl : args.length ≤ 2000000) (ha : ∀ (k : Nat) (a : ByteArray), args[k]? = some a → a.size ≤ 2000000) :
    Calls Try.prog 7 #[.slice A args.length cap, .string s] w (RefParsed w A args.length cap (Pl.outer (Pl.kind s.data.toList) args 0)) := by
  have hR := Lib.hid hr
  have Ha := Lib.hid ha
  clear hr ha
  obtain ⟨iS, hiS, hS0, hS1, hS2⟩ := info_parts Try.infoStr
  have hcut := Lib.hid (fun (k : Nat) (hk : k ≤ args.length) (x : Int) (hx : x = (k : Int)) (W : World) => run_cut (P := Try.prog) 22 9 iS 1 Try.underlying22 hiS hS1 A args.length cap .i64 x k hx hk W)
  clear hiS hS0 hS1 hS2
  obtain ⟨iO, hiO, hO0, hO1, hO2⟩ := info_parts Try.infoOpt
  have HiO := Lib.hid hiO
  have HO0 := Lib.hid hO0
  have HO1 := Lib.hid hO1
  have HO2 := Lib.hid hO2
  clear hiO hO0 hO1 hO2
  go_enter Try.func7, Try.ntmps7
  go_wp2_with fail
  go_loopg [7, 8] args.length (fun g v i wr => ∃ (k : Nat) (acc : List Pl.Opt), k ≤ args.length ∧ g = args.length - k ∧ i = .int .i64 k ∧ wr.ownsRow w.heap.size 35 2 v acc.length (optCells acc) ∧ Below w.heap.size w wr ∧
    acc.length + Pl.total (args.drop k) ≤ 2000000 ∧ Hid (Pl.outer (Pl.kind s.data.toList) args 0 = Pl.rest (Pl.kind s.data.toList) args acc k))
  case atStart => exact ⟨0, [], by omega, by omega, rfl, World.ownsRow_nil _ _ _ _, Below.refl _ _, by simpa using ht, (Pl.rest_nil _ _ _).symm⟩
  case round =>
    obtain ⟨k, acc, hk, rfl, rfl, hown, hb, hlen, hres⟩ := hrel
    by_cases hlt : k < args.length
    · obtain ⟨ad, u, rfl, hadB, hu, hc⟩ := (hR.out.below hb).at_ hlt
      obtain ⟨a, hak0, rfl⟩ := strs_at hu
      have hasz := Ha.out k a hak0
      have hak := Lib.hid hak0
      clear hu hak0
      by_cases h45 : a.data.toList = [45, 45]
      · have b45 : (a.toList == [45, 45]) = true := by rw [Lib.toList_data, h45]; rfl
        have hfin := Lib.hid (hres.out.trans (Pl.rest_stroke hak.out h45))
        clear h45
        have hsl := hcut.out (k + 1) (by omega) (↑k + 1) (by omega)
        go_wp2_with fail
        go_quiet (fail)
        go_wp2
        go_ret3
        exact ⟨below_drewN hb _, by rw [hfin.out]; exact ⟨_, rfl, hown⟩⟩
      have b45 : (a.toList == [45, 45]) = false := by rw [Lib.toList_data]; exact beq_eq_false_iff_ne.2 h45
      by_cases h2 : a.size < 2
      · have hfin := Lib.hid (hres.out.trans (Pl.rest_stop hak.out h45 (.inl h2)))
        have hsl := hcut.out k hk ↑k rfl
        clear h45
        go_wp2_with fail
        go_quiet (fail)
        go_wp2
        go_ret3
        exact ⟨below_drewN hb _, by rw [hfin.out]; exact ⟨_, rfl, hown⟩⟩
      have hd0 := Lib.hid (Pl.drop_at a 0 (by omega))
      by_cases h0 : a[0] = 45
      · have b0 : (((a[0]'(by omega)).toNat : Int) != 45) = false := by
          have := (Pl.u8_beq (a[0]'(by omega)) 45).trans (beq_iff_eq.2 h0)
          rw [bne, show (45 : Int) = ((45 : UInt8).toNat : Int) from rfl, this]; rfl
        have hfin := Lib.hid (hres.out.trans (Pl.rest_go hak.out h45 h2 (by have := hd0.out; simp only [List.drop_zero] at this; rw [this]; simp [h0])))
        have htot := Pl.total_drop hak.out
        clear h45 h0
        go_wp2_with fail
        obtain ⟨wo, rfl⟩ : ∃ wo : World, wo = wr := ⟨_, rfl⟩
        go_loopg [7, 8, 10] (a.size - 1) (fun g v i l wr => ∃ (kk j : Nat) (acc' : List Pl.Opt), 1 ≤ kk ∧ kk ≤ a.size ∧ g = a.size - kk ∧ l = .int .i64 kk ∧ k + 1 ≤ j ∧ j ≤ args.length ∧ i = .int .i64 j ∧
          wr.ownsRow w.heap.size 35 2 v acc'.length (optCells acc') ∧ Below w.heap.size w wr ∧ acc'.length + (a.size - kk) + Pl.total (args.drop j) ≤ 2000000 ∧
          Hid (Pl.outer (Pl.kind s.data.toList) args 0 = Pl.within (Pl.kind s.data.toList) args acc' (a.data.toList.drop kk) j))
        case atStart =>
          exact ⟨1, k + 1, acc, by omega, by omega, rfl, rfl, by omega, by omega, by go_num, hown, hb, by omega, hfin⟩
        case round =>
          obtain ⟨kk, j, acc', hk1, hk2, rfl, rfl, hj1, hj2, rfl, hown', hb', hlen', hres'⟩ := hrel
          by_cases hklt : kk < a.size
          · have hd := Lib.hid (Pl.drop_at a kk hklt)
            rcases Pl.kind_range s.data.toList a[kk] with h0 | h1 | h2'
            · have hK := Lib.hid (fun W => h0 ▸ kind_any s a[kk] W hs)
              have hfin' := Lib.hid (hres'.out.trans (by rw [hd.out, Pl.within_none h0]))
              clear h0
              go_wp2_with (go_at_call 15; refine (hK.out _).mono ?_; rintro e w' ⟨rfl, rfl⟩)
              go_ret3
              exact ⟨hb', by rw [hfin'.out]; rfl⟩
            · have hK := Lib.hid (fun W => h1 ▸ kind_any s a[kk] W hs)
              have hfin' := Lib.hid (hres'.out.trans (by rw [hd.out, Pl.within_alone h1]))
              clear h1
              go_wp2_with (first
                | (go_at_call 15; refine (hK.out _).mono ?_; rintro e w' ⟨rfl, rfl⟩)
                | (at_builtin; refine append_opt rfl _ _ rfl w wr u7 acc' a[kk] ⟨#[]⟩ rfl rfl hown' hb' (by omega) ?_; intro v1 w1 hown1 hb1))
              go_roundg (a.size - (kk + 1))
              case measure => omega
              case rel => exact ⟨kk + 1, j, _, by omega, by omega, rfl, by go_num, hj1, hj2, rfl, hown1, hb1, by simp; omega, hfin'⟩
            · have hK := Lib.hid (fun W => h2' ▸ kind_any s a[kk] W hs)
              by_cases hk3 : kk + 1 < a.size
              · have hd2 := Pl.drop_at a (kk + 1) hk3
                have hfin' := Lib.hid (hres'.out.trans (by rw [hd.out, Pl.within_here h2' (by rw [hd2]; simp), ← extract_drop]))
                clear h2' hd2
                go_wp2_with (go_at_call 15; refine (hK.out _).mono ?_; rintro e w' ⟨rfl, rfl⟩)
                have hw1 : IntKind.i64.wrap (↑kk + 1) = ↑kk + 1 := IntWalk.i64_in _ (by omega)
                have hw2 : (0 : Int) ≤ (kk : Int) + 1 := by omega
                have hw3 : ((kk : Int) + 1).toNat = kk + 1 := by omega
                have hw4 : ((kk : Int) + 1) ≤ (a.size : Int) := by omega
                go_region_law ((refine step_append_opt rfl _ _ rfl w _ u7 acc' a[kk] (a.extract (kk + 1) a.size) ⟨wr.heap.size, 0, none⟩ (by rfl) (by rfl) (by exact cell_two_new wr _ _ _) (by exact hown'.alloc _) (by exact (hb'.alloc hb'.size _).drew) (by omega) ?_; intro v1 w1 hown1 hb1))
                clear hw1 hw2 hw3 hw4
                go_wp2_with fail
                go_roundg (args.length - j)
                case measure => omega
                case rel => exact ⟨j, _, hj2, rfl, rfl, hown1, hb1, by simp; omega, hfin'⟩
              · have hnil : a.data.toList.drop (kk + 1) = [] := List.drop_eq_nil_of_le (by rw [Array.length_toList]; show a.size ≤ _; omega)
                by_cases hjl : j < args.length
                · obtain ⟨ad', u, he, _, hu, hcj⟩ := (hR.out.below hb').at_ hjl
                  cases he
                  obtain ⟨x, hxj0, rfl⟩ := strs_at hu
                  have hfin' := Lib.hid (hres'.out.trans (by rw [hd.out, hnil, Pl.within_next h2' hxj0, ← Pl.within_nil, ← hnil]))
                  have htj := Pl.total_drop hxj0
                  clear h2' hnil hu hxj0
                  go_wp2_with (go_at_call 15; refine (hK.out _).mono ?_; rintro e w' ⟨rfl, rfl⟩)
                  go_region_law ((refine step_append_opt rfl _ _ rfl w _ u7 acc' a[kk] x ⟨wr.heap.size, 0, none⟩ (by rfl) (by rfl) (by exact cell_two_new wr _ _ _) (by exact hown'.alloc _) (by exact (hb'.alloc hb'.size _).drew) (by omega) ?_; intro v1 w1 hown1 hb1))
                  all_goals
                    go_wp2_with fail
                    go_roundg (a.size - (kk + 1))
                    case measure => omega
                    case rel => exact ⟨kk + 1, j + 1, _, by omega, by omega, rfl, by go_num, by omega, by omega, by go_num, hown1, hb1, by simp; omega, hfin'⟩
                · have hfin' := Lib.hid (hres'.out.trans (by rw [hd.out, hnil, Pl.within_lacks h2' (List.getElem?_eq_none (by omega))]))
                  obtain rfl : j = args.length := by omega
                  clear h2' hnil hjl
                  go_wp2_with (go_at_call 15; refine (hK.out _).mono ?_; rintro e w' ⟨rfl, rfl⟩)
                  go_ret3
                  exact ⟨hb', by rw [hfin'.out]; rfl⟩
          · have hfin' := Lib.hid (hres'.out.trans (by rw [List.drop_eq_nil_of_le (by simp; omega), Pl.within_nil]))
            go_wp2_with fail
            go_roundg (args.length - j)
            case measure => omega
            case rel => exact ⟨j, acc', hj2, rfl, rfl, hown', hb', by omega, hfin'⟩
      · have b0 : (((a[0]'(by omega)).toNat : Int) != 45) = true := by
          have := (Pl.u8_beq (a[0]'(by omega)) 45).trans (beq_eq_false_iff_ne.2 h0)
          rw [bne, show (45 : Int) = ((45 : UInt8).toNat : Int) from rfl, this]; rfl
        have hfin := Lib.hid (hres.out.trans (Pl.rest_stop hak.out h45 (.inr (by have := hd0.out; simp only [List.drop_zero] at this; rw [this]; simp [h0]))))
        have hsl := hcut.out k hk ↑k rfl
        clear h45 h0
        go_wp2_with fail
        go_quiet (fail)
        go_wp2
        go_ret3
        exact ⟨below_drewN hb _, by rw [hfin.out]; exact ⟨_, rfl, hown⟩⟩
    · have hsl := hcut.out k hk ↑k rfl
      have hfin := Lib.hid (hres.out.trans (Pl.rest_end (List.getElem?_eq_none (by omega))))
      go_wp2_with fail
      go_quiet (fail)
      go_wp2
      go_ret3
      exact ⟨below_drewN hb _, by rw [hfin.out]; exact ⟨_, rfl, hown⟩⟩
end Go.Proofs.Ytnagiphjlfiifaa
