/-
  Parts of the proof: DERIVED: THE SHELF's CONTRACTS AT THIS DUMP, IN PLAIN WORDS (tools/lay-plain.mjs out of 'TryzIter.lean', which tools/lay-shelf.mjs wrote): THE SAME DECLARATIONS UNDER THE SAME NAMES: 'import', 'namespace', 'open', 'def', 'theorem' AND NOTHING ELSE: no command of the shelf's: FOR A HAND-IN. Each laying: the table of numbers ('.._ren') and one theorem, a field a fact of the dump's own or the kernel's comparison; each contract: ONE APPLICATION; A walk over the sorted names of a directory without any.
-/
import Derived.Shelf.SlGeneric
import Derived.Shelf.SlIter.Nil
import Derived.Shelf.SortM.Plain
import Derived.Shelf.SortM.SortNone
import Derived.Ground.GgzProg
import Derived.Ground.SlgmProg
import Derived.Test.YtlncmknikjloeaaGreatDoorProg
import Derived.Test.YtlncmknikjloeaaGreatDoorV04
import Derived.Test.YtlncmknikjloeaaGreatDoorV07
import Derived.RangeFuncNested

section
namespace Go.Proofs
open Go.Shelf
def Tryz.keys107_ren : Go.Shelf.Ren := ⟨fun | 7 => 107 | 10 => 127 | n => n, fun | 23 => 74 | 26 => 9 | 3 => 73 | 28 => 198 | 0 => 0 | 27 => 197 | 33 => 172 | 4 => 4 | n => n, fun | n => n⟩
theorem Tryz.keys107 : Go.Proofs.SlLaysZ.n7 Tryz.prog Tryz.keys107_ren := {
  mixed := by kernel_rfl
  f7 := ⟨Tryz.f107.name, by decide, Tryz.func107.trans (congrArg some (by kernel_rfl))⟩
  f10 := ⟨Tryz.f127.name, by decide, Tryz.func127.trans (congrArg some (by kernel_rfl))⟩
  t0 := Tryz.underlying0
  a0 := Tryz.isAgg0
  z0 := Tryz.sizeOf0
  v0 := Tryz.zeroValue0
  t4 := Tryz.underlying4
  a4 := Tryz.isAgg4
  z4 := Tryz.sizeOf4
  v4 := Tryz.zeroValue4
  t23 := Tryz.underlying74
  a23 := Tryz.isAgg74
  z23 := Tryz.sizeOf74
  v23 := Tryz.zeroValue74
  t26 := Tryz.underlying9
  a26 := Tryz.isAgg9
  z26 := Tryz.sizeOf9
  v26 := Tryz.zeroValue9
  t27 := Tryz.underlying197
  a27 := Tryz.isAgg197
  z27 := Tryz.sizeOf197
  v27 := Tryz.zeroValue197
  t28 := Tryz.underlying198
  a28 := Tryz.isAgg198
  z28 := Tryz.sizeOf198
  v28 := Tryz.zeroValue198
  t33 := Tryz.underlying172
  a33 := Tryz.isAgg172
  z33 := Tryz.sizeOf172
  v33 := Tryz.zeroValue172 }
def Tryz.sorted106_ren : Go.Shelf.Ren := ⟨fun | 6 => 106 | 8 => 125 | 9 => 126 | 11 => 139 | 13 => 91 | 12 => 140 | 23 => 116 | 24 => 117 | 14 => 153 | 15 => 154 | 16 => 155 | 17 => 156 | 18 => 157 | 19 => 158 | 20 => 159 | 21 => 160 | 22 => 161 | 25 => 171 | 26 => 129 | 27 => 130 | 28 => 172 | 29 => 173 | 30 => 92 | 31 => 178 | n => n, fun | 26 => 9 | 28 => 198 | 24 => 23 | 0 => 0 | 3 => 3 | 37 => 182 | 48 => 209 | 50 => 211 | 4 => 4 | 40 => 202 | 39 => 201 | 45 => 206 | 5 => 5 | 9 => 9 | 51 => 219 | 55 => 223 | 57 => 229 | 58 => 230 | 33 => 172 | n => n, fun | n => n⟩
theorem Tryz.sorted106 : Go.Proofs.SlLaysZ.n6 Tryz.prog Tryz.sorted106_ren := {
  mixed := by kernel_rfl
  f6 := ⟨Tryz.f106.name, by decide, Tryz.func106.trans (congrArg some (by kernel_rfl))⟩
  f8 := ⟨Tryz.f125.name, by decide, Tryz.func125.trans (congrArg some (by kernel_rfl))⟩
  f11 := ⟨Tryz.f139.name, by decide, Tryz.func139.trans (congrArg some (by kernel_rfl))⟩
  t0 := Tryz.underlying0
  a0 := Tryz.isAgg0
  z0 := Tryz.sizeOf0
  v0 := Tryz.zeroValue0
  t24 := Tryz.underlying23
  a24 := Tryz.isAgg23
  z24 := Tryz.sizeOf23
  v24 := Tryz.zeroValue23
  t26 := Tryz.underlying9
  a26 := Tryz.isAgg9
  z26 := Tryz.sizeOf9
  v26 := Tryz.zeroValue9
  t28 := Tryz.underlying198
  a28 := Tryz.isAgg198
  z28 := Tryz.sizeOf198
  v28 := Tryz.zeroValue198
  i26 := by kernel_rfl }
def Tryz.sort126_ren : Go.Shelf.Ren := ⟨fun | 6 => 126 | 8 => 91 | 9 => 140 | 19 => 116 | 20 => 117 | 21 => 153 | 22 => 154 | 23 => 155 | 24 => 156 | 25 => 157 | 26 => 158 | 27 => 159 | 28 => 160 | 29 => 161 | 36 => 171 | 31 => 129 | 32 => 130 | 37 => 172 | 38 => 173 | 39 => 92 | 41 => 178 | n => n, fun | 27 => 23 | 29 => 9 | 3 => 3 | 32 => 182 | 26 => 23 | 0 => 0 | 44 => 209 | 46 => 211 | 4 => 4 | 36 => 202 | 35 => 201 | 41 => 206 | 5 => 5 | 9 => 9 | 53 => 219 | 57 => 223 | 63 => 229 | 64 => 230 | n => n, fun | n => n⟩
theorem Tryz.sort126 : Go.Proofs.SlLaysM.n6 Tryz.prog Tryz.sort126_ren := {
  mixed := by kernel_rfl
  f6 := ⟨Tryz.f126.name, by decide, Tryz.func126.trans (congrArg some (by kernel_rfl))⟩
  f8 := Tryz.func91.trans (congrArg some (by kernel_rfl))
  f9 := ⟨Tryz.f140.name, by decide, Tryz.func140.trans (congrArg some (by kernel_rfl))⟩
  f19 := Tryz.func116.trans (congrArg some (by kernel_rfl))
  f20 := Tryz.func117.trans (congrArg some (by kernel_rfl))
  f21 := ⟨Tryz.f153.name, by decide, Tryz.func153.trans (congrArg some (by kernel_rfl))⟩
  f22 := ⟨Tryz.f154.name, by decide, Tryz.func154.trans (congrArg some (by kernel_rfl))⟩
  f23 := ⟨Tryz.f155.name, by decide, Tryz.func155.trans (congrArg some (by kernel_rfl))⟩
  f24 := ⟨Tryz.f156.name, by decide, Tryz.func156.trans (congrArg some (by kernel_rfl))⟩
  f25 := ⟨Tryz.f157.name, by decide, Tryz.func157.trans (congrArg some (by kernel_rfl))⟩
  f26 := ⟨Tryz.f158.name, by decide, Tryz.func158.trans (congrArg some (by kernel_rfl))⟩
  f27 := ⟨Tryz.f159.name, by decide, Tryz.func159.trans (congrArg some (by kernel_rfl))⟩
  f28 := ⟨Tryz.f160.name, by decide, Tryz.func160.trans (congrArg some (by kernel_rfl))⟩
  f29 := ⟨Tryz.f161.name, by decide, Tryz.func161.trans (congrArg some (by kernel_rfl))⟩
  f31 := Tryz.func129.trans (congrArg some (by kernel_rfl))
  f32 := Tryz.func130.trans (congrArg some (by kernel_rfl))
  f36 := ⟨Tryz.f171.name, by decide, Tryz.func171.trans (congrArg some (by kernel_rfl))⟩
  f37 := ⟨Tryz.f172.name, by decide, Tryz.func172.trans (congrArg some (by kernel_rfl))⟩
  f38 := ⟨Tryz.f173.name, by decide, Tryz.func173.trans (congrArg some (by kernel_rfl))⟩
  f39 := ⟨Tryz.f92.name, by decide, Tryz.func92.trans (congrArg some (by kernel_rfl))⟩
  f41 := ⟨Tryz.f178.name, by decide, Tryz.func178.trans (congrArg some (by kernel_rfl))⟩
  t0 := Tryz.underlying0
  a0 := Tryz.isAgg0
  z0 := Tryz.sizeOf0
  v0 := Tryz.zeroValue0
  t3 := Tryz.underlying3
  a3 := Tryz.isAgg3
  z3 := Tryz.sizeOf3
  v3 := Tryz.zeroValue3
  t4 := Tryz.underlying4
  a4 := Tryz.isAgg4
  z4 := Tryz.sizeOf4
  v4 := Tryz.zeroValue4
  t5 := Tryz.underlying5
  a5 := Tryz.isAgg5
  z5 := Tryz.sizeOf5
  v5 := Tryz.zeroValue5
  t9 := Tryz.underlying9
  a9 := Tryz.isAgg9
  z9 := Tryz.sizeOf9
  v9 := Tryz.zeroValue9
  t26 := Tryz.underlying23
  a26 := Tryz.isAgg23
  z26 := Tryz.sizeOf23
  v26 := Tryz.zeroValue23
  t27 := Tryz.underlying23
  a27 := Tryz.isAgg23
  z27 := Tryz.sizeOf23
  v27 := Tryz.zeroValue23
  t29 := Tryz.underlying9
  a29 := Tryz.isAgg9
  z29 := Tryz.sizeOf9
  v29 := Tryz.zeroValue9
  t32 := Tryz.underlying182
  a32 := Tryz.isAgg182
  z32 := Tryz.sizeOf182
  v32 := Tryz.zeroValue182
  t35 := Tryz.underlying201
  a35 := Tryz.isAgg201
  z35 := Tryz.sizeOf201
  v35 := Tryz.zeroValue201
  t36 := Tryz.underlying202
  a36 := Tryz.isAgg202
  z36 := Tryz.sizeOf202
  v36 := Tryz.zeroValue202
  t41 := Tryz.underlying206
  a41 := Tryz.isAgg206
  z41 := Tryz.sizeOf206
  v41 := Tryz.zeroValue206
  t44 := Tryz.underlying209
  a44 := Tryz.isAgg209
  z44 := Tryz.sizeOf209
  v44 := Tryz.zeroValue209
  t46 := Tryz.underlying211
  a46 := Tryz.isAgg211
  z46 := Tryz.sizeOf211
  v46 := Tryz.zeroValue211
  t53 := Tryz.underlying219
  a53 := Tryz.isAgg219
  z53 := Tryz.sizeOf219
  v53 := Tryz.zeroValue219
  t57 := Tryz.underlying223
  a57 := Tryz.isAgg223
  z57 := Tryz.sizeOf223
  v57 := Tryz.zeroValue223
  t63 := Tryz.underlying229
  a63 := Tryz.isAgg229
  z63 := Tryz.sizeOf229
  v63 := Tryz.zeroValue229
  t64 := Tryz.underlying230
  a64 := Tryz.isAgg230
  z64 := Tryz.sizeOf230
  v64 := Tryz.zeroValue230 }
end Go.Proofs
end

section
namespace Go.Proofs.YtlncmknikjloeaaGreatDoor
open Go.RowKit Go.Maps Go.Sort Go.Shelf

theorem Tryz.sortsR (m : Nat) : AnyZ.SortsIn Tryz.prog Tryz.sorted106_ren Fence.wide m :=
  ⟨fun blk off cap ss W hH hblk hsz => callsIn_wide.2 (AnyM.slices_Sort_string Tryz.sort126 blk off cap ss W hH hblk hsz),
   fun p cap W => callsIn_wide.2 (AnyM.slices_Sort_string_none Tryz.sort126 p cap W)⟩
theorem keysR (mb : Option Nat) (W : World) : CallsIn Fence.wide 5 Tryz.prog 107 #[.map mb] W fun e w' => e = .returned (.func (.func 127) #[] #[.pointer (some ⟨W.heap.size, 0, none⟩)]) ∧ w' = W.alloc (.cells #[.map mb] 74) :=
  AnyZ.keys_in Tryz.keys107 Fence.wide 5 trivial rfl mb W

set_option maxHeartbeats 1000000 in
theorem sortedR {H : Type} (b nn : Nat) (D0 : DataW H) (R : Value → Option (DataW H × List MemPlace)) (w : World) (hown : w.ownsMap Tryz.prog 9 R b nn D0) (hmax : Maps.size D0 ≤ maxLen) (hbytes : Maps.size D0 * 16 ≤ 140737488355328) :
    CallsIn Fence.wide 5 Tryz.prog 106 #[.func (.func 127) #[] #[.pointer (some ⟨w.heap.size, 0, none⟩)]] (w.alloc (.cells #[.map (some b)] 74)) fun e w' => ∃ (v : Value) (ss : List (List UInt8)), e = .returned v ∧ ss.Perm (strKeys D0) ∧
      w'.ownsRow (w.alloc (.cells #[.map (some b)] 74)).heap.size 9 1 v ss.length ((ss.mergeSort (fun x y => decide (x ≤ y))).map encStr) ∧ (v = .slice none 0 0 ↔ ss = []) ∧ Below (w.alloc (.cells #[.map (some b)] 74)).heap.size (w.alloc (.cells #[.map (some b)] 74)) w' := by
  have hbl := hown.lt
  have hseq : SeqGives Fence.wide 2 Tryz.prog 127 #[.pointer (some ⟨w.heap.size, 0, none⟩)] encStr (fun ss => ss.Perm (strKeys D0)) (Maps.size D0) (w.alloc (.cells #[.map (some b)] 74)) :=
    AnyZ.keys_gives (ρ := Tryz.keys107_ren) { Tryz.keys107 with } Fence.wide _ trivial rfl (by omega) w.heap.size b nn D0 _ (by simp) (by simp) (by
      obtain ⟨es, clock, hb, Ft, hs, hD⟩ := hown
      exact ⟨es, clock, (Below.heap_alloc _ _ b hbl).trans hb, Ft, hs, hD⟩)
  exact AnyZ.sorted_in Tryz.sorted106 Fence.wide 5 trivial trivial trivial trivial rfl (by omega) (Tryz.sortsR _) (enters_of Tryz.func126 (by kernel_rfl) rfl) 127 #[.pointer (some ⟨w.heap.size, 0, none⟩)] trivial (enters_of Tryz.func127 (by kernel_rfl) rfl) _ _ hmax hbytes _ hseq

/-- a map of no entries -/
theorem MapOf.none_ {w : World} {k : TypeId} {b : Nat} {f : Lit → Option Value} (h : MapOf w Tryz.prog k b 0 f) : w.ownsMap Tryz.prog k heldE b 0 (.map []) := by
  obtain ⟨D, ⟨es, clock, hb, Ft, hs, hD⟩, _⟩ := h
  have he : es = #[] := Array.eq_empty_of_size_eq_zero (by omega)
  subst he
  exact ⟨#[], clock, hb, Ft, Nat.le_refl _, rfl⟩

set_option maxRecDepth 100000 in
set_option maxHeartbeats 2000000 in
theorem sortedNone_wide (w : World) (x b : Nat) (f : Lit → Option Value) (hc : w.cell? ⟨x, 5, none⟩ = some (.map (some b))) (hm : MapOf w Tryz.prog 9 b 0 f) :
    CallsIn Fence.wide 6 Tryz.prog 89 #[.pointer (some ⟨x, 0, none⟩)] w fun e w' => e = .returned (.slice none 0 0) ∧ Below w.heap.size w w' := by
  have hfK : Fence.wide.fn 107 := trivial
  have hfS : Fence.wide.fn 106 := trivial
  have hown := hm.none_
  refine callsIn_of_wp Tryz.func89 rfl trivial ?_ rfl
  simp only [Tryz.ntmps89, List.size_toArray, List.length_cons, List.length_nil, Nat.reduceSub, Nat.reduceAdd, Array.replicate_succ, Array.replicate_zero, List.push_toArray, List.append_toArray, List.nil_append, List.cons_append]
  gi_wp2_with (first
    | (gi_at_call 107; refine (keysR _ _).mono ?_; rintro e w' ⟨rfl, rfl⟩)
    | (gi_at_call 106; refine (sortedR b 0 (.map []) heldE w hown (by decide) (by decide)).mono ?_; rintro e w' ⟨v, ss, rfl, hS, hrow, hnil, hb⟩))
  have hs0 : ss = [] := List.Perm.eq_nil hS
  have hv := hnil.2 hs0
  subst hv
  go_ret
  exact ⟨rfl, (below_one w _).trans (hb.mono (by simp))⟩

end Go.Proofs.YtlncmknikjloeaaGreatDoor
end
