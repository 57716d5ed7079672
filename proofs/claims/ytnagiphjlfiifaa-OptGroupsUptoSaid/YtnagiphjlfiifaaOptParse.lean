/-
  A walk over opt.Parse.
-/
import Derived.Test.YtnagiphjlfiifaaOptClone
import Derived.Test.YtnagiphjlfiifaaOptLetters
namespace Go.Proofs.Ytnagiphjlfiifaa
open Go.RowKit Go.Maps
attribute [local go_sem ↓] Go.wp_at_zero Go.wp_at_succ

theorem ownsMap_below {H : Type} {P : Program} {k : TypeId} {R : Value → Option (DataW H × List MemPlace)} {w w' : World} {b n B : Nat} {D : DataW H} (h : w.ownsMap P k R b n D) (hb : Below B w w') (hlt : b < B) : w'.ownsMap P k R b n D := by
  obtain ⟨es, clock, h1, h2⟩ := h
  exact ⟨es, clock, (hb.block b hlt).trans h1, h2⟩

theorem kind_eq {D : DataW Unit} {f : UInt8 → Int} (h : KindsAre D f) {x : UInt8} {c v : Int} (hat : D.atKey (.int .u8 x.toNat) (.lit (.int .i64 0)) = .lit (.int .i64 c)) (hv : f x = v) : c = v := by
  have := (h.2 x).1.symm.trans hat
  rw [hv] at this
  injection this with this
  injection this with _ this
  exact this.symm

theorem ownsRow_below {w w' : World} {base base' : Nat} {e : TypeId} {size n : Nat} {v : Value} {xs : List Value} (h : w.ownsRow base e size v n xs) (hb : Below w.heap.size w w') (hB : base' ≤ base) : w'.ownsRow base' e size v n xs := by
  refine ⟨h.1, h.2.imp id ?_⟩
  rintro ⟨g, cap, cur, rfl, h1, h2, h3⟩
  exact ⟨g, cap, cur, rfl, by omega, (hb.block g (Array.getElem?_eq_some_iff.1 h2).1).trans h2, h3⟩

/-- what a call of Parse leaves -/
def Parsed (w : World) (args : List ByteArray) (r : Option (List Pl.Opt × Nat)) (e : Ending) (w' : World) : Prop :=
  Below w.heap.size w w' ∧ match r with
  | none => e = .returned (.tuple #[.slice none 0 0, .slice none 0 0, .int .i64 19])
  | some (l, j) => ∃ v v2, e = .returned (.tuple #[v, v2, .int .i64 0]) ∧ w'.ownsRow w.heap.size 35 2 v l.length (optCells l) ∧ w'.ownsRow w.heap.size 9 1 v2 (args.length - j) (strs (args.drop j))

theorem parsed_some {w wr w2 : World} {args : List ByteArray} {acc : List Pl.Opt} {j n base : Nat} {v v2 : Value} {r : Option (List Pl.Opt × Nat)} (hr : r = some (acc, j)) (hb0 : Below w.heap.size w wr) (hb2 : Below wr.heap.size wr w2) (hB : w.heap.size ≤ base)
    (hown : wr.ownsRow base 35 2 v acc.length (optCells acc)) (hn : n = args.length - j) (hown2 : w2.ownsRow wr.heap.size 9 1 v2 n (strs (args.drop j))) :
    Parsed w args r (.returned (.tuple #[v, v2, .int .i64 0])) w2 := by
  subst hr hn
  exact ⟨hb0.trans (hb2.mono hb0.size), v, v2, rfl, ownsRow_below hown hb2 hB, ownsRow_below hown2 (Below.refl _ _) hb0.size⟩

theorem strs_drop (l : List ByteArray) (k : Nat) : strs (l.drop k) = (strs l).drop k := by simp [strs]

set_option maxRecDepth 100000 in
set_option maxHeartbeats 400000 in
theorem parse_any (A : Option Addr) (cap : Nat) (args : List ByteArray) (s : ByteArray) (w : World) (hs : s.size ≤ 2000000) (hcap : args.length ≤ cap)
    (hr : Reads w w.heap.size 1 A args.length (strs args)) (ht : Pl.total args ≤ 2000000) (hl : args.length ≤ 2000000) (ha : ∀ (k : Nat) (a : ByteArray), args[k]? = some a → a.size ≤ 2000000) :
    Calls Try.prog 6 #[.slice A args.length cap, .string s] w (Parsed w args (Pl.outer (Pl.kind s.data.toList) args 0)) := by
  have hR := Lib.hid hr
  have Ha := Lib.hid ha
  clear hr ha
  obtain ⟨iS, hiS, hS0, hS1, hS2⟩ := info_parts Try.infoStr
  have hcut := Lib.hid (fun (A : Option Addr) (len cap : Nat) (hk : 1 ≤ len) (W : World) => run_cut (P := Try.prog) 22 9 iS 1 Try.underlying22 hiS hS1 A len cap .i64 1 1 rfl hk W)
  clear hiS hS0 hS1 hS2
  go_enter Try.func6, Try.ntmps6
  go_wp2_with fail
  go_step3
  go_wp2_with (go_at_call 13; refine (letters_any s _ hs).mono ?_; rintro e w1 ⟨rfl, ⟨nM, D, hmap, hK⟩, hb1⟩; have hKA := Lib.hid hK; clear hK)
  go_step3
  go_wp2_with fail
  have hs1 := hb1.size
  have hmlt := hmap.lt
  go_loopg [0, 8] args.length (fun g av v wr => ∃ (k : Nat) (A' : Option Addr) (cap' : Nat) (acc : List Pl.Opt), k ≤ args.length ∧ g = args.length - k ∧ av = .slice A' (args.length - k) cap' ∧ args.length - k ≤ cap' ∧
    Reads w w.heap.size 1 A' (args.length - k) (strs (args.drop k)) ∧ wr.ownsRow w1.heap.size 35 2 v acc.length (optCells acc) ∧ Below w1.heap.size w1 wr ∧
    acc.length + Pl.total (args.drop k) ≤ 2000000 ∧ Hid (Pl.outer (Pl.kind s.data.toList) args 0 = Pl.rest (Pl.kind s.data.toList) args acc k))
  case atStart =>
    exact ⟨0, A, cap, [], by omega, by omega, rfl, hcap, by simpa using hR.out, World.ownsRow_nil _ _ _ _, Below.refl _ _, by simpa using ht, (Pl.rest_nil _ _ _).symm⟩
  case round =>
    obtain ⟨k, A', cap', acc, hk, rfl, rfl, hcap', hr', hown, hb, hlen, hres⟩ := hrel
    have hR' := Lib.hid hr'
    clear hr'
    by_cases hlt : k < args.length
    · have hb0 := hb1.trans (hb.mono hs1)
      obtain ⟨ad, u, rfl, hadB, hu, hc⟩ := (hR'.out.below hb0).at_ (k := 0) (by omega)
      obtain ⟨a, ha0, rfl⟩ := strs_at hu
      have hak0 : args[k]? = some a := by simpa using ha0
      have hasz := Ha.out k a hak0
      have hak := Lib.hid hak0
      rw [show ad.add 0 = ad from rfl] at hc
      have hpos : 0 < args.length - k := by omega
      clear hu hak0 ha0
      by_cases h2 : a.size < 2
      · have h45 : a.data.toList ≠ [45, 45] := fun e => by
          have h := congrArg List.length e
          have h' : a.size = 2 := by simpa using h
          omega
        have hfin := Lib.hid (hres.out.trans (Pl.rest_stop hak.out h45 (.inl h2)))
        clear h45
        go_wp2_with (go_at_call 14; refine (clone_any (some ad) (args.length - k) cap' (args.drop (k)) _ w.heap.size (by simp) (hR'.out.below hb0) hb0.size (by omega)).mono ?_; rintro e w2 ⟨v2, rfl, hown2, hb2⟩)
        rw [Exit.noGoto_ret]
        go_ret3
        exact parsed_some hfin.out hb0 hb2 hs1 hown (by omega) hown2
      have hd0 := Lib.hid (Pl.drop_at a 0 (by omega))
      by_cases h0 : a[0] = 45
      · have b0 : (((a[0]'(by omega)).toNat : Int) != 45) = false := by
          have := (Pl.u8_beq (a[0]'(by omega)) 45).trans (beq_iff_eq.2 h0)
          rw [bne, show (45 : Int) = ((45 : UInt8).toNat : Int) from rfl, this]; rfl
        have hsl := hcut.out (some ad) (args.length - k) cap' (by omega)
        have hR1 := Lib.hid (show Reads w w.heap.size 1 (cutA (some ad) cap' 1 1) (args.length - k - 1) (strs (args.drop (k + 1))) by
          have h := hR'.out.cutA (k := 1) (cap := cap') (by omega) hcap'
          rw [Nat.mul_one, ← strs_drop, List.drop_drop] at h
          exact h)
        by_cases h45 : a.data.toList = [45, 45]
        · have b45 : (a.toList == [45, 45]) = true := by rw [Lib.toList_data, h45]; rfl
          have hfin := Lib.hid (hres.out.trans (Pl.rest_stroke hak.out h45))
          clear h45 h0
          go_wp2_with (go_at_call 14; refine (clone_any (cutA (some ad) cap' 1 1) (args.length - k - 1) (cap' - 1) (args.drop (k + 1)) _ w.heap.size (by simp; omega) (hR1.out.below hb0) hb0.size (by omega)).mono ?_; rintro e w2 ⟨v2, rfl, hown2, hb2⟩)
          rw [Exit.noGoto_ret]
          go_ret3
          exact parsed_some hfin.out hb0 hb2 hs1 hown (by omega) hown2
        · have b45 : (a.toList == [45, 45]) = false := by rw [Lib.toList_data]; exact beq_eq_false_iff_ne.2 h45
          have hfin := Lib.hid (hres.out.trans (Pl.rest_go hak.out h45 h2 (by have := hd0.out; simp only [List.drop_zero] at this; rw [this]; simp [h0])))
          have htot := Pl.total_drop hak.out
          clear h45 h0
          go_wp2_with fail
          obtain ⟨wo, rfl⟩ : ∃ wo : World, wo = wr := ⟨_, rfl⟩
          go_loopg [0, 8, 10] (a.size - 1) (fun g av v l wr => ∃ (kk j : Nat) (A2 : Option Addr) (cap2 : Nat) (acc' : List Pl.Opt), 1 ≤ kk ∧ kk ≤ a.size ∧ g = a.size - kk ∧ l = .int .i64 kk ∧ k + 1 ≤ j ∧ j ≤ args.length ∧
            av = .slice A2 (args.length - j) cap2 ∧ args.length - j ≤ cap2 ∧ Reads w w.heap.size 1 A2 (args.length - j) (strs (args.drop j)) ∧
            wr.ownsRow w1.heap.size 35 2 v acc'.length (optCells acc') ∧ Below w1.heap.size w1 wr ∧ acc'.length + (a.size - kk) + Pl.total (args.drop j) ≤ 2000000 ∧
            Hid (Pl.outer (Pl.kind s.data.toList) args 0 = Pl.within (Pl.kind s.data.toList) args acc' (a.data.toList.drop kk) j))
          case atStart =>
            exact ⟨1, k + 1, cutA (some ad) cap' 1 1, cap' - 1, acc, by omega, by omega, rfl, rfl, by omega, by omega, rfl, by omega, hR1.out, hown, hb, by omega, hfin⟩
          case round =>
            obtain ⟨kk, j, A2, cap2, acc', hk1, hk2, rfl, rfl, hj1, hj2, rfl, hcap2, hr2, hown', hb', hlen', hres'⟩ := hrel
            have hmap' := ownsMap_below hmap hb' hmlt
            have hR2 := Lib.hid hr2
            clear hr2 hsl
            by_cases hklt : kk < a.size
            · have hd := Lib.hid (Pl.drop_at a kk hklt)
              rcases Pl.kind_range s.data.toList a[kk] with h0 | h1 | h2'
              · have HV := Lib.hid h0
                have hfin' := Lib.hid (hres'.out.trans (by rw [hd.out, Pl.within_none h0]))
                clear h0
                go_wp2_with (at_lookup; refine wpList_lookup_own_int _ rfl _ _ 37 rfl 5 3 .i64 law5 Try.underlying37 Try.underlying3 (zeroInt _) w.heap.size nM D rfl hmap' _ _ rfl (keyOf_int_mk Try.underlying5 (u8_wf _)) ?_; intro c0 hat hwc; obtain rfl := kind_eq hKA.out hat HV.out; clear hat hwc)
                rw [Exit.noGoto_ret]
                go_ret3
                exact ⟨hb1.trans (hb'.mono hs1), by rw [hfin'.out]; rfl⟩
              · have HV := Lib.hid h1
                have hfin' := Lib.hid (hres'.out.trans (by rw [hd.out, Pl.within_alone h1]))
                clear h1
                go_wp2_with (first | (at_lookup; refine wpList_lookup_own_int _ rfl _ _ 37 rfl 5 3 .i64 law5 Try.underlying37 Try.underlying3 (zeroInt _) w.heap.size nM D rfl hmap' _ _ rfl (keyOf_int_mk Try.underlying5 (u8_wf _)) ?_; intro c0 hat hwc; obtain rfl := kind_eq hKA.out hat HV.out; clear hat hwc) | (at_builtin; refine append_opt rfl _ _ rfl w1 wr u8 acc' a[kk] ⟨#[]⟩ rfl rfl hown' hb' (by omega) ?_; intro v1 w2 hown2 hb2))
                go_roundg (a.size - (kk + 1))
                case measure => omega
                case rel => exact ⟨kk + 1, j, A2, cap2, _, by omega, by omega, rfl, by go_num, hj1, hj2, rfl, hcap2, hR2.out, hown2, hb2, by simp; omega, hfin'⟩
              · have HV := Lib.hid h2'
                by_cases hk3 : kk + 1 < a.size
                · have hd2 := Pl.drop_at a (kk + 1) hk3
                  have hfin' := Lib.hid (hres'.out.trans (by rw [hd.out, Pl.within_here h2' (by rw [hd2]; simp), ← extract_drop]))
                  clear h2' hd2
                  go_wp2_with (at_lookup; refine wpList_lookup_own_int _ rfl _ _ 37 rfl 5 3 .i64 law5 Try.underlying37 Try.underlying3 (zeroInt _) w.heap.size nM D rfl hmap' _ _ rfl (keyOf_int_mk Try.underlying5 (u8_wf _)) ?_; intro c0 hat hwc; obtain rfl := kind_eq hKA.out hat HV.out; clear hat hwc)
                  have hw1 : IntKind.i64.wrap (↑kk + 1) = ↑kk + 1 := IntWalk.i64_in _ (by omega)
                  have hw2 : (0 : Int) ≤ (kk : Int) + 1 := by omega
                  have hw3 : ((kk : Int) + 1).toNat = kk + 1 := by omega
                  have hw4 : ((kk : Int) + 1) ≤ (a.size : Int) := by omega
                  go_region_law ((refine step_append_opt rfl _ _ rfl w1 _ u8 acc' a[kk] (a.extract (kk + 1) a.size) ⟨wr.heap.size, 0, none⟩ (by rfl) (by rfl) (by exact cell_two_new wr _ _ _) (by exact hown'.alloc _) (by exact (hb'.alloc hb'.size _).drew) (by omega) ?_; intro v1 w2 hown2 hb2))
                  clear hw1 hw2 hw3 hw4
                  go_wp2_with fail
                  go_roundg (args.length - j)
                  case measure => omega
                  case rel => exact ⟨j, A2, cap2, _, hj2, rfl, rfl, hcap2, hR2.out, hown2, hb2, by simp; omega, hfin'⟩
                · have hnil : a.data.toList.drop (kk + 1) = [] := List.drop_eq_nil_of_le (by rw [Array.length_toList]; show a.size ≤ _; omega)
                  by_cases hjl : j < args.length
                  · obtain ⟨bd, u, rfl, _, hu, hcj⟩ := (hR2.out.below (hb1.trans (hb'.mono hs1))).at_ (k := 0) (by omega)
                    obtain ⟨x, hxj, rfl⟩ := strs_at hu
                    have hxj0 : args[j]? = some x := by simpa using hxj
                    have hfin' := Lib.hid (hres'.out.trans (by rw [hd.out, hnil, Pl.within_next h2' hxj0, ← Pl.within_nil, ← hnil]))
                    have htj := Pl.total_drop hxj0
                    have hz : (((args.length - j : Nat) : Int) == 0) = false := beq_eq_false_iff_ne.2 (by omega)
                    have hpj : 0 < args.length - j := by omega
                    rw [show bd.add 0 = bd from rfl] at hcj
                    have hsl2 := hcut.out (some bd) (args.length - j) cap2 (by omega)
                    have hR3 := Lib.hid (show Reads w w.heap.size 1 (cutA (some bd) cap2 1 1) (args.length - j - 1) (strs (args.drop (j + 1))) by
                      have h := hR2.out.cutA (k := 1) (cap := cap2) (by omega) hcap2
                      rw [Nat.mul_one, ← strs_drop, List.drop_drop] at h
                      exact h)
                    clear h2' hnil hu hxj hxj0
                    go_wp2_with (at_lookup; refine wpList_lookup_own_int _ rfl _ _ 37 rfl 5 3 .i64 law5 Try.underlying37 Try.underlying3 (zeroInt _) w.heap.size nM D rfl hmap' _ _ rfl (keyOf_int_mk Try.underlying5 (u8_wf _)) ?_; intro c0 hat hwc; obtain rfl := kind_eq hKA.out hat HV.out; clear hat hwc)
                    go_region_law ((refine step_append_opt rfl _ _ rfl w1 _ u8 acc' a[kk] x ⟨wr.heap.size, 0, none⟩ (by rfl) (by rfl) (by exact cell_two_new wr _ _ _) (by exact hown'.alloc _) (by exact (hb'.alloc hb'.size _).drew) (by omega) ?_; intro v1 w2 hown2 hb2))
                    all_goals
                      go_wp2_with fail
                      go_roundg (a.size - (kk + 1))
                      case measure => omega
                      case rel => exact ⟨kk + 1, j + 1, _, _, _, by omega, by omega, rfl, by go_num, by omega, by omega, rfl, by omega, hR3.out, hown2, hb2, by simp; omega, hfin'⟩
                  · have hfin' := Lib.hid (hres'.out.trans (by rw [hd.out, hnil, Pl.within_lacks h2' (List.getElem?_eq_none (by omega))]))
                    have hz : (((args.length - j : Nat) : Int) == 0) = true := beq_iff_eq.2 (by omega)
                    clear h2' hnil
                    go_wp2_with (at_lookup; refine wpList_lookup_own_int _ rfl _ _ 37 rfl 5 3 .i64 law5 Try.underlying37 Try.underlying3 (zeroInt _) w.heap.size nM D rfl hmap' _ _ rfl (keyOf_int_mk Try.underlying5 (u8_wf _)) ?_; intro c0 hat hwc; obtain rfl := kind_eq hKA.out hat HV.out; clear hat hwc)
                    rw [Exit.noGoto_ret]
                    go_ret3
                    exact ⟨hb1.trans (hb'.mono hs1), by rw [hfin'.out]; rfl⟩
            · have hfin' := Lib.hid (hres'.out.trans (by rw [List.drop_eq_nil_of_le (by simp; omega), Pl.within_nil]))
              go_wp2_with fail
              go_roundg (args.length - j)
              case measure => omega
              case rel => exact ⟨j, A2, cap2, acc', hj2, rfl, rfl, hcap2, hR2.out, hown', hb', by omega, hfin'⟩
      · have b0 : (((a[0]'(by omega)).toNat : Int) != 45) = true := by
          have := (Pl.u8_beq (a[0]'(by omega)) 45).trans (beq_eq_false_iff_ne.2 h0)
          rw [bne, show (45 : Int) = ((45 : UInt8).toNat : Int) from rfl, this]; rfl
        have h45 : a.data.toList ≠ [45, 45] := fun e => h0 (by
          have h := hd0.out
          rw [List.drop_zero, e] at h
          exact (List.cons.inj h).1.symm)
        have hfin := Lib.hid (hres.out.trans (Pl.rest_stop hak.out h45 (.inr (by have := hd0.out; simp only [List.drop_zero] at this; rw [this]; simp [h0]))))
        clear h45 h0
        go_wp2_with (go_at_call 14; refine (clone_any (some ad) (args.length - k) cap' (args.drop (k)) _ w.heap.size (by simp) (hR'.out.below hb0) hb0.size (by omega)).mono ?_; rintro e w2 ⟨v2, rfl, hown2, hb2⟩)
        rw [Exit.noGoto_ret]
        go_ret3
        exact parsed_some hfin.out hb0 hb2 hs1 hown (by omega) hown2
    · have hfin := Lib.hid (hres.out.trans (Pl.rest_end (List.getElem?_eq_none (by omega))))
      have hb0 := hb1.trans (hb.mono hs1)
      go_wp2_with (go_at_call 14; refine (clone_any A' (args.length - k) cap' (args.drop (k)) _ w.heap.size (by simp) (hR'.out.below hb0) hb0.size (by omega)).mono ?_; rintro e w2 ⟨v2, rfl, hown2, hb2⟩)
      rw [Exit.noGoto_ret]
      go_ret3
      exact parsed_some hfin.out hb0 hb2 hs1 hown (by omega) hown2
end Go.Proofs.Ytnagiphjlfiifaa
