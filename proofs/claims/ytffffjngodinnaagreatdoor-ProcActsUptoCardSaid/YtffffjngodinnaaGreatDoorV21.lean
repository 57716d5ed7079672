/-
  Parts of the proof.
-/
import Derived.Shelf.SlIter.Nil
import Derived.Shelf.SortM.Plain
import Derived.Shelf.SortM.SortNone
import Derived.Test.YtffffjngodinnaaGreatDoorV08
section
namespace Go.Proofs
open Go.Shelf
def Tryz.keys132_ren : Go.Shelf.Ren := ⟨fun | 7 => 132 | 10 => 160 | n => n, fun | 23 => 177 | 26 => 9 | 3 => 166 | 28 => 237 | 0 => 0 | 27 => 236 | 33 => 112 | 4 => 4 | n => n, fun | n => n⟩
theorem Tryz.keys132 : Go.Proofs.SlLaysZ.n7 Tryz.prog Tryz.keys132_ren := {
 mixed := by kernel_rfl
 f7 := ⟨Tryz.f132.name, by decide, Tryz.func132.trans (congrArg some (by kernel_rfl))⟩
 f10 := ⟨Tryz.f160.name, by decide, Tryz.func160.trans (congrArg some (by kernel_rfl))⟩
 t0 := Tryz.underlying0
 a0 := Tryz.isAgg0
 z0 := Tryz.sizeOf0
 v0 := Tryz.zeroValue0
 t4 := Tryz.underlying4
 a4 := Tryz.isAgg4
 z4 := Tryz.sizeOf4
 v4 := Tryz.zeroValue4
 t23 := Tryz.underlying177
 a23 := Tryz.isAgg177
 z23 := Tryz.sizeOf177
 v23 := Tryz.zeroValue177
 t26 := Tryz.underlying9
 a26 := Tryz.isAgg9
 z26 := Tryz.sizeOf9
 v26 := Tryz.zeroValue9
 t27 := Tryz.underlying236
 a27 := Tryz.isAgg236
 z27 := Tryz.sizeOf236
 v27 := Tryz.zeroValue236
 t28 := Tryz.underlying237
 a28 := Tryz.isAgg237
 z28 := Tryz.sizeOf237
 v28 := Tryz.zeroValue237
 t33 := Tryz.underlying112
 a33 := Tryz.isAgg112
 z33 := Tryz.sizeOf112
 v33 := Tryz.zeroValue112 }
def Tryz.sorted131_ren : Go.Shelf.Ren := ⟨fun | 6 => 131 | 8 => 158 | 9 => 159 | 11 => 179 | 13 => 104 | 12 => 180 | 23 => 141 | 24 => 142 | 14 => 194 | 15 => 195 | 16 => 196 | 17 => 197 | 18 => 198 | 19 => 199 | 20 => 200 | 21 => 201 | 22 => 202 | 25 => 212 | 26 => 162 | 27 => 163 | 28 => 213 | 29 => 214 | 30 => 105 | 31 => 219 | n => n, fun | 26 => 9 | 28 => 237 | 24 => 22 | 0 => 0 | 3 => 3 | 37 => 209 | 48 => 248 | 50 => 250 | 4 => 4 | 40 => 241 | 39 => 240 | 45 => 245 | 5 => 5 | 9 => 9 | 51 => 263 | 55 => 267 | 57 => 277 | 58 => 278 | 33 => 112 | n => n, fun | n => n⟩
theorem Tryz.sorted131 : Go.Proofs.SlLaysZ.n6 Tryz.prog Tryz.sorted131_ren := {
 mixed := by kernel_rfl
 f6 := ⟨Tryz.f131.name, by decide, Tryz.func131.trans (congrArg some (by kernel_rfl))⟩
 f8 := ⟨Tryz.f158.name, by decide, Tryz.func158.trans (congrArg some (by kernel_rfl))⟩
 f11 := ⟨Tryz.f179.name, by decide, Tryz.func179.trans (congrArg some (by kernel_rfl))⟩
 t0 := Tryz.underlying0
 a0 := Tryz.isAgg0
 z0 := Tryz.sizeOf0
 v0 := Tryz.zeroValue0
 t24 := Tryz.underlying22
 a24 := Tryz.isAgg22
 z24 := Tryz.sizeOf22
 v24 := Tryz.zeroValue22
 t26 := Tryz.underlying9
 a26 := Tryz.isAgg9
 z26 := Tryz.sizeOf9
 v26 := Tryz.zeroValue9
 t28 := Tryz.underlying237
 a28 := Tryz.isAgg237
 z28 := Tryz.sizeOf237
 v28 := Tryz.zeroValue237
 i26 := by kernel_rfl }
def Tryz.sort159_ren : Go.Shelf.Ren := ⟨fun | 6 => 159 | 8 => 104 | 9 => 180 | 19 => 141 | 20 => 142 | 21 => 194 | 22 => 195 | 23 => 196 | 24 => 197 | 25 => 198 | 26 => 199 | 27 => 200 | 28 => 201 | 29 => 202 | 36 => 212 | 31 => 162 | 32 => 163 | 37 => 213 | 38 => 214 | 39 => 105 | 41 => 219 | n => n, fun | 27 => 22 | 29 => 9 | 3 => 3 | 32 => 209 | 26 => 22 | 0 => 0 | 44 => 248 | 46 => 250 | 4 => 4 | 36 => 241 | 35 => 240 | 41 => 245 | 5 => 5 | 9 => 9 | 53 => 263 | 57 => 267 | 63 => 277 | 64 => 278 | n => n, fun | n => n⟩
theorem Tryz.sort159 : Go.Proofs.SlLaysM.n6 Tryz.prog Tryz.sort159_ren := {
 mixed := by kernel_rfl
 f6 := ⟨Tryz.f159.name, by decide, Tryz.func159.trans (congrArg some (by kernel_rfl))⟩
 f8 := Tryz.func104.trans (congrArg some (by kernel_rfl))
 f9 := ⟨Tryz.f180.name, by decide, Tryz.func180.trans (congrArg some (by kernel_rfl))⟩
 f19 := Tryz.func141.trans (congrArg some (by kernel_rfl))
 f20 := Tryz.func142.trans (congrArg some (by kernel_rfl))
 f21 := ⟨Tryz.f194.name, by decide, Tryz.func194.trans (congrArg some (by kernel_rfl))⟩
 f22 := ⟨Tryz.f195.name, by decide, Tryz.func195.trans (congrArg some (by kernel_rfl))⟩
 f23 := ⟨Tryz.f196.name, by decide, Tryz.func196.trans (congrArg some (by kernel_rfl))⟩
 f24 := ⟨Tryz.f197.name, by decide, Tryz.func197.trans (congrArg some (by kernel_rfl))⟩
 f25 := ⟨Tryz.f198.name, by decide, Tryz.func198.trans (congrArg some (by kernel_rfl))⟩
 f26 := ⟨Tryz.f199.name, by decide, Tryz.func199.trans (congrArg some (by kernel_rfl))⟩
 f27 := ⟨Tryz.f200.name, by decide, Tryz.func200.trans (congrArg some (by kernel_rfl))⟩
 f28 := ⟨Tryz.f201.name, by decide, Tryz.func201.trans (congrArg some (by kernel_rfl))⟩
 f29 := ⟨Tryz.f202.name, by decide, Tryz.func202.trans (congrArg some (by kernel_rfl))⟩
 f31 := Tryz.func162.trans (congrArg some (by kernel_rfl))
 f32 := Tryz.func163.trans (congrArg some (by kernel_rfl))
 f36 := ⟨Tryz.f212.name, by decide, Tryz.func212.trans (congrArg some (by kernel_rfl))⟩
 f37 := ⟨Tryz.f213.name, by decide, Tryz.func213.trans (congrArg some (by kernel_rfl))⟩
 f38 := ⟨Tryz.f214.name, by decide, Tryz.func214.trans (congrArg some (by kernel_rfl))⟩
 f39 := ⟨Tryz.f105.name, by decide, Tryz.func105.trans (congrArg some (by kernel_rfl))⟩
 f41 := ⟨Tryz.f219.name, by decide, Tryz.func219.trans (congrArg some (by kernel_rfl))⟩
 t0 := Tryz.underlying0
 a0 := Tryz.isAgg0
 z0 := Tryz.sizeOf0
 v0 := Tryz.zeroValue0
 t3 := Tryz.underlying3
 a3 := Tryz.isAgg3
 z3 := Tryz.sizeOf3
 v3 := Tryz.zeroValue3
 t4 := Tryz.underlying4
 a4 := Tryz.isAgg4
 z4 := Tryz.sizeOf4
 v4 := Tryz.zeroValue4
 t5 := Tryz.underlying5
 a5 := Tryz.isAgg5
 z5 := Tryz.sizeOf5
 v5 := Tryz.zeroValue5
 t9 := Tryz.underlying9
 a9 := Tryz.isAgg9
 z9 := Tryz.sizeOf9
 v9 := Tryz.zeroValue9
 t26 := Tryz.underlying22
 a26 := Tryz.isAgg22
 z26 := Tryz.sizeOf22
 v26 := Tryz.zeroValue22
 t27 := Tryz.underlying22
 a27 := Tryz.isAgg22
 z27 := Tryz.sizeOf22
 v27 := Tryz.zeroValue22
 t29 := Tryz.underlying9
 a29 := Tryz.isAgg9
 z29 := Tryz.sizeOf9
 v29 := Tryz.zeroValue9
 t32 := Tryz.underlying209
 a32 := Tryz.isAgg209
 z32 := Tryz.sizeOf209
 v32 := Tryz.zeroValue209
 t35 := Tryz.underlying240
 a35 := Tryz.isAgg240
 z35 := Tryz.sizeOf240
 v35 := Tryz.zeroValue240
 t36 := Tryz.underlying241
 a36 := Tryz.isAgg241
 z36 := Tryz.sizeOf241
 v36 := Tryz.zeroValue241
 t41 := Tryz.underlying245
 a41 := Tryz.isAgg245
 z41 := Tryz.sizeOf245
 v41 := Tryz.zeroValue245
 t44 := Tryz.underlying248
 a44 := Tryz.isAgg248
 z44 := Tryz.sizeOf248
 v44 := Tryz.zeroValue248
 t46 := Tryz.underlying250
 a46 := Tryz.isAgg250
 z46 := Tryz.sizeOf250
 v46 := Tryz.zeroValue250
 t53 := Tryz.underlying263
 a53 := Tryz.isAgg263
 z53 := Tryz.sizeOf263
 v53 := Tryz.zeroValue263
 t57 := Tryz.underlying267
 a57 := Tryz.isAgg267
 z57 := Tryz.sizeOf267
 v57 := Tryz.zeroValue267
 t63 := Tryz.underlying277
 a63 := Tryz.isAgg277
 z63 := Tryz.sizeOf277
 v63 := Tryz.zeroValue277
 t64 := Tryz.underlying278
 a64 := Tryz.isAgg278
 z64 := Tryz.sizeOf278
 v64 := Tryz.zeroValue278 }
end Go.Proofs
end
section
namespace Go.Proofs.YtffffjngodinnaaGreatDoor
set_option maxRecDepth 100000
open Go.RowKit Go.Maps Go.Sort Go.Shelf
theorem Tryz.sortsR (m : Nat) : AnyZ.SortsIn Tryz.prog Tryz.sorted131_ren Fence.wide m :=
 ⟨fun blk off cap ss W hH hblk hsz => callsIn_wide.2 (AnyM.slices_Sort_string Tryz.sort159 blk off cap ss W hH hblk hsz),
  fun p cap W => callsIn_wide.2 (AnyM.slices_Sort_string_none Tryz.sort159 p cap W)⟩
theorem keysR (mb : Option Nat) (W : World) : CallsIn Fence.wide 5 Tryz.prog 132 #[.map mb] W fun e w' => e = .returned (.func (.func 160) #[] #[.pointer (some ⟨W.heap.size, 0, none⟩)]) /\ w' = W.alloc (.cells #[.map mb] 177) :=
 AnyZ.keys_in Tryz.keys132 Fence.wide 5 trivial rfl mb W
set_option maxHeartbeats 1000000 in
theorem sortedR {H : Type} (b nn : Nat) (D0 : DataW H) (R : Value -> Option (DataW H × List MemPlace)) (w : World) (hown : w.ownsMap Tryz.prog 9 R b nn D0) (hmax : Maps.size D0 <= maxLen) (hbytes : Maps.size D0 * 16 <= 140737488355328) :
 CallsIn Fence.wide 5 Tryz.prog 131 #[.func (.func 160) #[] #[.pointer (some ⟨w.heap.size, 0, none⟩)]] (w.alloc (.cells #[.map (some b)] 177)) fun e w' => ∃ (v : Value) (ss : List (List UInt8)), e = .returned v /\ ss.Perm (strKeys D0) /\
  w'.ownsRow (w.alloc (.cells #[.map (some b)] 177)).heap.size 9 1 v ss.length ((ss.mergeSort (fun x y => decide (x <= y))).map encStr) /\ (v = .slice none 0 0 ↔ ss = []) /\ Below (w.alloc (.cells #[.map (some b)] 177)).heap.size (w.alloc (.cells #[.map (some b)] 177)) w' := by
 have hbl := hown.lt
 have hseq : SeqGives Fence.wide 2 Tryz.prog 160 #[.pointer (some ⟨w.heap.size, 0, none⟩)] encStr (fun ss => ss.Perm (strKeys D0)) (Maps.size D0) (w.alloc (.cells #[.map (some b)] 177)) :=
  AnyZ.keys_gives (ρ := Tryz.keys132_ren) { Tryz.keys132 with } Fence.wide _ trivial rfl (by omega) w.heap.size b nn D0 _ (by simp) (by simp) (by
   obtain ⟨es, clock, hb, Ft, hs, hD⟩ := hown
   exact ⟨es, clock, (Below.heap_alloc _ _ b hbl).trans hb, Ft, hs, hD⟩)
 exact AnyZ.sorted_in Tryz.sorted131 Fence.wide 5 trivial trivial trivial trivial rfl (by omega) (Tryz.sortsR _) (enters_of Tryz.func159 (by kernel_rfl) rfl) 160 #[.pointer (some ⟨w.heap.size, 0, none⟩)] trivial (enters_of Tryz.func160 (by kernel_rfl) rfl) _ _ hmax hbytes _ hseq
theorem MapOf.none_ {w : World} {k : TypeId} {b : Nat} {f : Lit -> Option Value} (h : MapOf w Tryz.prog k b 0 f) : w.ownsMap Tryz.prog k heldE b 0 (.map []) := by
 obtain ⟨D, ⟨es, clock, hb, Ft, hs, hD⟩, _⟩ := h
 have he : es = #[] := Array.eq_empty_of_size_eq_zero (by omega)
 subst he
 exact ⟨#[], clock, hb, Ft, Nat.le_refl _, rfl⟩
set_option maxHeartbeats 2000000 in
theorem sortedNone_wide (w : World) (x b : Nat) (f : Lit -> Option Value) (hc : w.cell? ⟨x, 5, none⟩ = some (.map (some b))) (hm : MapOf w Tryz.prog 9 b 0 f) :
 CallsIn Fence.wide 6 Tryz.prog 102 #[.pointer (some ⟨x, 0, none⟩)] w fun e w' => e = .returned (.slice none 0 0) /\ Below w.heap.size w w' := by
 have hfK : Fence.wide.fn 132 := trivial
 have hfS : Fence.wide.fn 131 := trivial
 have hown := hm.none_
 refine callsIn_of_wp Tryz.func102 rfl trivial ?_ rfl
 simp only [Tryz.ntmps102, List.size_toArray, List.length_cons, List.length_nil, Nat.reduceSub, Nat.reduceAdd, Array.replicate_succ, Array.replicate_zero, List.push_toArray, List.append_toArray, List.nil_append, List.cons_append]
 gi_wp2_with (first
  | (gi_at_call 132; refine (keysR _ _).mono ?_; rintro e w' ⟨rfl, rfl⟩)
  | (gi_at_call 131; refine (sortedR b 0 (.map []) heldE w hown (by decide) (by decide)).mono ?_; rintro e w' ⟨v, ss, rfl, hS, hrow, hnil, hb⟩))
 have hs0 : ss = [] := List.Perm.eq_nil hS
 have hv := hnil.2 hs0
 subst hv
 go_ret
 exact ⟨rfl, (below_one w _).trans (hb.mono (by simp))⟩
end Go.Proofs.YtffffjngodinnaaGreatDoor
end
section
namespace Go.Proofs.YtffffjngodinnaaGreatDoor
set_option maxRecDepth 100000
open Go.RowKit Go.Maps Go.Sort Go.Shelf
theorem nlt_lt : ∀ {a b : List UInt8}, Abs.nlt a b = true -> a < b
 | [], [], h => by cases h
 | [], _ :: _, _ => List.nil_lt_cons _ _
 | _ :: _, [], h => by cases h
 | a :: l, b :: m, h => by
   unfold Abs.nlt at h
   rw [List.cons_lt_cons_iff]
   split at h
   · rename_i h1; exact .inl h1
   · split at h
     · cases h
     · rename_i h1 h2
       exact .inr ⟨UInt8.le_antisymm (UInt8.not_lt.1 h2) (UInt8.not_lt.1 h1), nlt_lt h⟩
theorem lt_nlt : ∀ {a b : List UInt8}, a < b -> Abs.nlt a b = true
 | [], [], h => by simp at h
 | [], _ :: _, _ => rfl
 | _ :: _, [], h => by simp at h
 | a :: l, b :: m, h => by
   rw [List.cons_lt_cons_iff] at h
   unfold Abs.nlt
   rcases h with h | ⟨rfl, h⟩
   · rw [if_pos h]
   · rw [if_neg (UInt8.lt_irrefl a), if_neg (UInt8.lt_irrefl a)]
     exact lt_nlt h
theorem nlt_le {a b : List UInt8} (h : Abs.nlt a b = true) : a <= b := by
 show ¬ b < a
 intro h2
 have := Abs.nlt_trans h (lt_nlt h2)
 rw [Abs.nlt_irrefl] at this
 cases this
theorem le_total_b (a b : List UInt8) : (decide (a <= b) || decide (b <= a)) = true := by
 by_cases h : a = b
 · subst h
   simp
 · cases h1 : Abs.nlt a b with
   | true => simp [nlt_le h1]
   | false => simp [nlt_le (Abs.nlt_total h h1)]
theorem le_anti {a b : List UInt8} (h1 : a <= b) (h2 : b <= a) : a = b := by
 by_cases h : a = b
 · exact h
 · cases h3 : Abs.nlt a b with
   | true => exact absurd (nlt_lt h3) h2
   | false => exact absurd (nlt_lt (Abs.nlt_total h h3)) h1
theorem le_trans_b {a b c : List UInt8} (h1 : a <= b) (h2 : b <= c) : a <= c := by
 by_cases e1 : a = b
 · subst e1; exact h2
 by_cases e2 : b = c
 · subst e2; exact h1
 have l1 : Abs.nlt a b = true := by
  cases h3 : Abs.nlt a b with
  | true => rfl
  | false => exact absurd (nlt_lt (Abs.nlt_total e1 h3)) h1
 have l2 : Abs.nlt b c = true := by
  cases h3 : Abs.nlt b c with
  | true => rfl
  | false => exact absurd (nlt_lt (Abs.nlt_total e2 h3)) h2
 exact nlt_le (Abs.nlt_trans l1 l2)
theorem perm_rising {l m : List (List UInt8)} (hp : l.Perm m) (hl : l.Pairwise (· <= ·)) (hm : m.Pairwise (· <= ·)) : l = m := by
 induction l generalizing m with
 | nil => exact hp.nil_eq
 | cons a l ih =>
   cases m with
   | nil => exact absurd hp.symm.nil_eq (by simp)
   | cons b m =>
     rw [List.pairwise_cons] at hl hm
     have hab : a = b := by
      have h1 : a ∈ b :: m := hp.mem_iff.1 (by simp)
      have h2 : b ∈ a :: l := hp.mem_iff.2 (by simp)
      rcases List.mem_cons.1 h1 with rfl | h1
      · rfl
      · rcases List.mem_cons.1 h2 with rfl | h2
        · rfl
        · exact le_anti (hl.1 _ h2) (hm.1 _ h1)
     subst hab
     rw [ih (List.Perm.cons_inv hp) hl.2 hm.2]
theorem nodup_perm {l m : List (List UInt8)} (hl : l.Nodup) (hm : m.Nodup) (h : ∀ a, a ∈ l ↔ a ∈ m) : l.Perm m := by
 induction l generalizing m with
 | nil =>
   cases m with
   | nil => exact List.Perm.refl _
   | cons b m => exact absurd ((h b).2 (by simp)) (by simp)
 | cons a l ih =>
   rw [List.nodup_cons] at hl
   have ha : a ∈ m := (h a).1 (by simp)
   refine List.Perm.trans ?_ (List.perm_cons_erase ha).symm
   refine List.Perm.cons a (ih hl.2 (hm.erase a) fun b => ?_)
   rw [hm.mem_erase_iff]
   constructor
   · intro hb; exact ⟨fun e => hl.1 (e ▸ hb), (h b).1 (List.mem_cons_of_mem _ hb)⟩
   · rintro ⟨h1, h2⟩
     exact (List.mem_cons.1 ((h b).2 h2)).resolve_left h1
theorem keys_names {H : Type} {D : DataW H} {l : List (Abs.Name × Nat)} {nf : List UInt8 -> Option Nat} {β : Nat -> Nat} (hs : l.Pairwise (fun a b => Abs.nlt a.1 b.1 = true)) (hD : ∃ es, D = .map es /\ es.Pairwise (fun p q => p.1 ≠ q.1) /\ ∀ p ∈ es, WideAt.IsKeyLit p.1)
 (hf : ∀ kl, (namesF nf kl = none -> has D kl = false) /\ ∀ v, namesF nf kl = some v -> has D kl = true) (hnf : ∀ n, nf n = (Abs.lk l n).map β) {ss : List (List UInt8)} (hp : ss.Perm (strKeys D)) : ss.mergeSort (fun x y => decide (x <= y)) = l.map (·.1) := by
 obtain ⟨es, rfl, hpw, hk⟩ := hD
 have hstr : ∀ p ∈ es, ∃ s, p.1 = .string s /\ Abs.lk l s ≠ none := by
  intro p hp
  have hh : has (DataW.map es) p.1 = true := by
   rw [has_eq, List.any_eq_true]
   exact ⟨p, hp, WideAt.sameKey_self (hk p hp)⟩
  cases h1 : namesF nf p.1 with
  | none => rw [(hf p.1).1 h1] at hh; cases hh
  | some v =>
    unfold namesF at h1
    split at h1
    · rename_i s e
      refine ⟨s, e, fun e2 => ?_⟩
      rw [hnf, e2] at h1
      cases h1
    · cases h1
 have hkeys : ∀ a, a ∈ strKeys (DataW.map es) ↔ a ∈ l.map (·.1) := by
  intro a
  show a ∈ es.map (fun p => strOf p.1) ↔ _
  constructor
  · intro ha
    obtain ⟨p, hp, rfl⟩ := List.mem_map.1 ha
    obtain ⟨s, e, hne⟩ := hstr p hp
    rw [e]
    obtain ⟨j, hj⟩ := Option.ne_none_iff_exists'.1 hne
    exact List.mem_map.2 ⟨_, Abs.lk_mem hj, rfl⟩
  · intro ha
    obtain ⟨q, hq, rfl⟩ := List.mem_map.1 ha
    have hl := Abs.lk_of_mem (j := q.2) hs hq
    have hh := (hf (.string q.1)).2 (ptrV (β q.2)) (by show (nf q.1).map ptrV = _; rw [hnf, hl]; rfl)
    rw [has_eq, List.any_eq_true] at hh
    obtain ⟨p, hp, he⟩ := hh
    have := WideAt.sameKey_eq he
    exact List.mem_map.2 ⟨p, hp, by rw [this]; rfl⟩
 have hnd : (strKeys (DataW.map es)).Nodup := by
  show (es.map (fun p => strOf p.1)).Nodup
  rw [List.Nodup, List.pairwise_map]
  refine List.Pairwise.imp_of_mem ?_ hpw
  intro p q hp hq hne e
  obtain ⟨s, e1, _⟩ := hstr p hp
  obtain ⟨r, e2, _⟩ := hstr q hq
  rw [e1, e2] at e
  exact hne (by rw [e1, e2, show s = r from e])
 have hln : (l.map (·.1)).Nodup := by
  rw [List.Nodup, List.pairwise_map]
  refine hs.imp fun {a b} h e => ?_
  rw [e, Abs.nlt_irrefl] at h
  cases h
 have hperm : (ss.mergeSort (fun x y => decide (x <= y))).Perm (l.map (·.1)) := (List.mergeSort_perm _ _).trans (hp.trans (nodup_perm hnd hln hkeys))
 refine perm_rising hperm ?_ ?_
 · have := List.pairwise_mergeSort (le := fun x y : List UInt8 => decide (x <= y)) (fun a b c h1 h2 => by simp only [decide_eq_true_eq] at *; exact le_trans_b h1 h2) (fun a b => le_total_b a b) ss
   exact this.imp fun {a b} h => of_decide_eq_true h
 · rw [List.pairwise_map]
   exact hs.imp fun {a b} h => nlt_le h
theorem names_len {w : World} {t : Nat} {S : TS} {T : Abs.T} {β : Nat -> Nat} (h : TreeIs w t S T β) (hwi : ∀ b y, S.items b = some y -> y.nn <= 1048576) {i : Nat} {x : Abs.Ent} (hx : T.get i = some x) : x.names.length <= 1048576 := by
 obtain ⟨y, hy, _, _, _, _, hdi, _, hdr, _, _⟩ := h.at_ hx
 cases hd : x.dir with
 | false => rw [h.wf.file _ _ hx hd]; exact Nat.zero_le _
 | true =>
   obtain ⟨hnf, _⟩ := hdr hd
   obtain ⟨⟨D, hown, hfD⟩, _⟩ := (h.mem.item _ _ hy).2.2 (hdi.trans hd)
   have hk := keys_names (h.wf.sorted _ _ hx) (hown.entries (string_keyed Tryz.underlying9)) (fun kl => ⟨(hfD kl).1, fun v hv => ((hfD kl).2 v hv).1⟩) hnf (List.Perm.refl (strKeys D))
   have hl := congrArg List.length hk
   rw [List.length_mergeSort, List.length_map] at hl
   rw [<- hl]
   obtain ⟨es, clock, _, _, hs, rfl⟩ := hown
   have h1 := hwi _ _ hy
   show (List.map _ _).length <= _
   rw [List.length_map, (Go.WideShapes.sorted_perm _).length_eq, List.length_map, Array.length_toList]
   omega
def namesRow (x : Abs.Ent) : List Value := x.names.map fun q => .string ⟨q.1.toArray⟩
set_option maxHeartbeats 4000000 in
theorem sorted_wide (w : World) (t : Nat) (S : TS) (T : Abs.T) (β : Nat -> Nat) (h : TreeIs w t S T β) (hwi : ∀ b y, S.items b = some y -> y.nn <= 1048576) (i : Nat) (x : Abs.Ent) (hx : T.get i = some x) (k : Nat) :
 CallsIn Fence.wide k Tryz.prog 102 #[.pointer (some ⟨β i, 0, none⟩)] w fun e w' => ∃ v, e = .returned v /\ w'.ownsRow w.heap.size 9 1 v x.names.length (namesRow x) /\ Below w.heap.size w w' := by
 obtain ⟨y, hy, hb, _, _, _, hdi, _, hdr, _, _⟩ := h.at_ hx
 have hfK : Fence.wide.fn 132 := trivial
 have hfS : Fence.wide.fn 131 := trivial
 have hmain : ∀ m, w.cell? ⟨β i, 5, none⟩ = some (.map m) -> (CallsIn Fence.wide 5 Tryz.prog 131 #[.func (.func 160) #[] #[.pointer (some ⟨w.heap.size, 0, none⟩)]] (w.alloc (.cells #[.map m] 177)) fun e w' => ∃ v, e = .returned v /\
  w'.ownsRow (w.alloc (.cells #[.map m] 177)).heap.size 9 1 v x.names.length (namesRow x) /\ Below (w.alloc (.cells #[.map m] 177)).heap.size (w.alloc (.cells #[.map m] 177)) w') ->
  CallsIn Fence.wide k Tryz.prog 102 #[.pointer (some ⟨β i, 0, none⟩)] w fun e w' => ∃ v, e = .returned v /\ w'.ownsRow w.heap.size 9 1 v x.names.length (namesRow x) /\ Below w.heap.size w w' := by
  intro m c5 hso
  have hlb := hb.lt
  obtain ⟨nx, hnx⟩ : ∃ nx, namesRow x = nx := ⟨_, rfl⟩
  obtain ⟨nl, hnl⟩ : ∃ nl, x.names.length = nl := ⟨_, rfl⟩
  rw [hnx, hnl] at hso ⊢
  have hso' : Calls Tryz.prog 131 _ _ _ := callsIn_wide.1 hso
  have hke := fun W => callsIn_wide.1 (keysR m W)
  refine callsIn_wide.2 ?_
  clear hso hwi hdr h
  go_enter Tryz.func102, Tryz.ntmps102
  go_wp2_with (first
   | (go_at_call 132; refine (hke _).mono ?_; rintro e w' ⟨rfl, rfl⟩)
   | (go_at_call 131; refine hso'.mono ?_; rintro e w' ⟨v, rfl, hrow, hb2⟩))
  go_ret
  exact ⟨v, rfl, Joins.ownsRow_le hrow (by simp), (below_one w _).trans (hb2.mono (by simp))⟩
 cases hd : x.dir with
 | true =>
   obtain ⟨hnf, _⟩ := hdr hd
   have hyd : y.dir = true := hdi.trans hd
   obtain ⟨hm, _⟩ := (h.mem.item _ _ hy).2.2 hyd
   have c5 : w.cell? ⟨β i, 5, none⟩ = some (.map (some y.nb)) := by rw [hb.cell 5]; simp [itemCells, hyd]
   refine hmain _ c5 ?_
   obtain ⟨D, hown, hfD⟩ := hm
   have hsz : Maps.size D <= 1048576 := by
    obtain ⟨es, clock, _, _, hs, rfl⟩ := hown
    have h1 := hwi _ _ hy
    rw [size_eq, (Go.WideShapes.sorted_perm _).length_eq, List.length_map, Array.length_toList]
    omega
   refine (sortedR y.nb y.nn D heldE w hown (by unfold maxLen; omega) (by omega)).mono ?_
   rintro e w' ⟨v, ss, rfl, hp, hrow, _, hb2⟩
   refine ⟨v, rfl, ?_, hb2⟩
   have hk := keys_names (h.wf.sorted _ _ hx) (hown.entries (string_keyed Tryz.underlying9)) (fun kl => ⟨(hfD kl).1, fun v hv => ((hfD kl).2 v hv).1⟩) hnf hp
   rw [hk] at hrow
   have hlen : ss.length = x.names.length := by
    have := congrArg List.length hk
    simpa using this
   rw [hlen] at hrow
   have he : (x.names.map (·.1)).map encStr = namesRow x := by
    unfold namesRow
    rw [List.map_map]
    rfl
   rw [<- he]
   exact hrow
 | false =>
   have hyd : y.dir = false := hdi.trans hd
   have c5 : w.cell? ⟨β i, 5, none⟩ = some (.map none) := by rw [hb.cell 5]; simp [itemCells, hyd]
   have hnn := h.wf.file _ _ hx hd
   refine hmain _ c5 ?_
   have hseq : SeqGives Fence.wide 2 Tryz.prog 160 #[.pointer (some ⟨w.heap.size, 0, none⟩)] encStr (fun ss => ss = []) 0 (w.alloc (.cells #[.map none] 177)) :=
    AnyZ.keys_gives_nil (ρ := Tryz.keys132_ren) { Tryz.keys132 with } Fence.wide _ trivial rfl w.heap.size _ (by simp) (by simp)
   refine (AnyZ.sorted_in Tryz.sorted131 Fence.wide 5 trivial trivial trivial trivial rfl (by omega) (Tryz.sortsR _) (enters_of Tryz.func159 (by kernel_rfl) rfl) 160 #[.pointer (some ⟨w.heap.size, 0, none⟩)] trivial (enters_of Tryz.func160 (by kernel_rfl) rfl) _ _ (by unfold maxLen; omega) (by omega) _ hseq).mono ?_
   rintro e w' ⟨v, ss, rfl, hS, hrow, _, hb2⟩
   obtain rfl : ss = [] := hS
   refine ⟨v, rfl, ?_, hb2⟩
   unfold namesRow
   rw [hnn]
   have e0 : List.map encStr (([] : List (List UInt8)).mergeSort fun x y => decide (x <= y)) = [] := by simp
   rw [e0] at hrow
   exact hrow
end Go.Proofs.YtffffjngodinnaaGreatDoor
end
