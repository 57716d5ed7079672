/-
  Parts of the proof.
-/
import Derived.Maps.OwnSet
import Derived.Test.YtffffjngodinnaaGreatDoorChecked
import Derived.WalkKit
namespace Go.Proofs.YtffffjngodinnaaGreatDoor
section
open Go.Maps Go.ChangeMaps
def heldE (v : Value) : Option (DataW Value × List MemPlace) := some (.held v, [])
def MapOf (w : World) (P : Program) (k : TypeId) (b n : Nat) (f : Lit -> Option Value) : Prop :=
 ∃ D : DataW Value, w.ownsMap P k heldE b n D /\ ∀ kl, (f kl = none -> has D kl = false) /\ ∀ v, f kl = some v -> has D kl = true /\ ∀ z, D.atKey kl z = .held v
section
variable {P : Program} {w w' : World} {k t e : TypeId} {b n : Nat} {f : Lit -> Option Value} {key val z : Value} {kl : Lit}
theorem MapOf.made (w : World) (P : Program) (k : TypeId) : MapOf (w.alloc (.map #[] 0)) P k w.heap.size 0 (fun _ => none) :=
 ⟨.map [], World.ownsMap_made w P k heldE, fun kl => ⟨fun _ => rfl, fun v h => by cases h⟩⟩
theorem MapOf.lt (h : MapOf w P k b n f) : b < w.heap.size := by obtain ⟨D, h1, _⟩ := h; exact h1.lt
theorem MapOf.same (h : MapOf w P k b n f) (hb : w'.heap[b]? = w.heap[b]?) : MapOf w' P k b n f := by
 obtain ⟨D, ⟨es, clock, h0, h1⟩, h2⟩ := h
 exact ⟨D, ⟨es, clock, hb.trans h0, h1⟩, h2⟩
theorem MapOf.mono {m : Nat} (h : MapOf w P k b n f) (hm : n <= m) : MapOf w P k b m f := by
 obtain ⟨D, h1, h2⟩ := h; exact ⟨D, h1.mono hm, h2⟩
theorem MapOf.look (h : MapOf w P k b n f) (K : Keyed P k) (ht : P.underlying t = some (.map k e)) (hz : (zeroValue e).run P w = .ok z w) (hkey : keyOf P k key = some kl) :
 (Instr.lookup t (.map (some b)) key true).run P w = .ok (.tuple #[(f kl).getD z, .bool (f kl).isSome]) w := by
 obtain ⟨D, h1, h2⟩ := h
 obtain ⟨v, ps, hrun, hv⟩ := h1.look_ok K ht hz (zd := .held z) (zp := []) rfl hkey
 rw [hrun]
 simp only [heldE, Option.some.injEq, Prod.mk.injEq] at hv
 cases hf : f kl with
 | none =>
   have h3 := (h2 kl).1 hf
   rw [atKey_of_not_has h3] at hv
   obtain ⟨h4, _⟩ := hv
   cases h4
   rw [h3]; rfl
 | some u =>
   obtain ⟨h3, h4⟩ := (h2 kl).2 u hf
   rw [h4] at hv
   obtain ⟨h5, _⟩ := hv
   cases h5
   rw [h3]; rfl
theorem MapOf.look1 (h : MapOf w P k b n f) (K : Keyed P k) (ht : P.underlying t = some (.map k e)) (hz : (zeroValue e).run P w = .ok z w) (hkey : keyOf P k key = some kl) :
 (Instr.lookup t (.map (some b)) key false).run P w = .ok ((f kl).getD z) w := by
 obtain ⟨D, h1, h2⟩ := h
 obtain ⟨v, ps, hrun, hv⟩ := h1.lookup K ht hz (zd := .held z) (zp := []) rfl hkey
 rw [hrun]
 simp only [heldE, Option.some.injEq, Prod.mk.injEq] at hv
 cases hf : f kl with
 | none =>
   rw [atKey_of_not_has ((h2 kl).1 hf)] at hv
   obtain ⟨h4, _⟩ := hv
   cases h4
   rfl
 | some u =>
   rw [((h2 kl).2 u hf).2] at hv
   obtain ⟨h5, _⟩ := hv
   cases h5
   rfl
open Classical in
noncomputable def upd (f : Lit -> Option Value) (kl : Lit) (v : Option Value) : Lit -> Option Value := fun x => if x = kl then v else f x
theorem upd_same (f : Lit -> Option Value) (kl : Lit) (v : Option Value) : upd f kl v kl = v := if_pos rfl
theorem upd_other (f : Lit -> Option Value) {kl x : Lit} (v : Option Value) (h : x ≠ kl) : upd f kl v x = f x := if_neg h
theorem MapOf.store (h : MapOf w P k b n f) (K : Keyed P k) (ht : P.underlying t = some (.map k e)) (hn : n < maxLen) (hkey : keyOf P k key = some kl) (hkl : WideAt.IsKeyLit kl) :
 ∃ w', (Instr.mapUpdate t (.map (some b)) key val).run P w = .ok () w' /\ MapOf w' P k b (n + 1) (upd f kl (some val)) /\ w.grownBy w' (some b) := by
 obtain ⟨D, h1, h2⟩ := h
 obtain ⟨w', hrun, h3, h4⟩ := h1.update K ht hn (val := val) (d := .held val) (ps := []) hkey rfl
 refine ⟨w', hrun, ⟨_, h3, fun x => ?_⟩, h4⟩
 by_cases hx : x = kl
 · subst hx
   rw [upd_same]
   refine ⟨fun e => (by cases e), fun v hv => ?_⟩
   cases hv
   exact ⟨has_put_same h1.isMap hkl _, fun z => atKey_put_same h1.isMap hkl _ z⟩
 · rw [upd_other f _ hx, has_put_other hx]
   refine ⟨(h2 x).1, fun v hv => ⟨((h2 x).2 v hv).1, fun z => ?_⟩⟩
   rw [atKey_put_other hx]
   exact ((h2 x).2 v hv).2 z
end
section
variable {P : Program} (w : World) {ops : Array Oper} {rest : List Oper} {o : Oper} {a : Act} {Q : Exit -> Act -> World -> Prop}
theorem wpList_look_of (hg : o.guard = none) (m x : Operand) (t : TypeId) (hop : o.op = Op.lookup t m x true) (k e : TypeId) (K : Keyed P k) (ht : P.underlying t = some (.map k e)) (z : Value) (hz : (zeroValue e).run P w = .ok z w) (b n : Nat) (f : Lit -> Option Value)
 (hm : a.eval m = .map (some b)) (h : MapOf w P k b n f) (key : Value) (kl : Lit) (hx : a.eval x = key) (hkey : keyOf P k key = some kl)
 (hK : wpList P ops Q rest (a.put o.dst (.tuple #[(f kl).getD z, .bool (f kl).isSome])) w) : wpList P ops Q (o :: rest) a w := by
 refine wpList_plain hg fun K' hK' => ?_
 have hrun := h.look K ht hz hkey
 unfold Oper.wp
 simp [execOp, hop, hm, hx, hrun, Result.andThen]
 exact hK' _ _ hK
theorem wpList_look1_of (hg : o.guard = none) (m x : Operand) (t : TypeId) (hop : o.op = Op.lookup t m x false) (k e : TypeId) (K : Keyed P k) (ht : P.underlying t = some (.map k e)) (z : Value) (hz : (zeroValue e).run P w = .ok z w) (b n : Nat) (f : Lit -> Option Value)
 (hm : a.eval m = .map (some b)) (h : MapOf w P k b n f) (key : Value) (kl : Lit) (hx : a.eval x = key) (hkey : keyOf P k key = some kl)
 (hK : wpList P ops Q rest (a.put o.dst ((f kl).getD z)) w) : wpList P ops Q (o :: rest) a w := by
 refine wpList_plain hg fun K' hK' => ?_
 have hrun := h.look1 K ht hz hkey
 unfold Oper.wp
 simp [execOp, hop, hm, hx, hrun, Result.andThen]
 exact hK' _ _ hK
theorem wpList_store_of (hg : o.guard = none) (m x v : Operand) (t : TypeId) (hop : o.op = Op.mapUpdate t m x v) (k e : TypeId) (K : Keyed P k) (ht : P.underlying t = some (.map k e)) (b n : Nat) (f : Lit -> Option Value)
 (hm : a.eval m = .map (some b)) (h : MapOf w P k b n f) (hn : n < maxLen) (key val : Value) (kl : Lit) (hx : a.eval x = key) (hv : a.eval v = val) (hkey : keyOf P k key = some kl) (hkl : WideAt.IsKeyLit kl)
 (hK : ∀ w', MapOf w' P k b (n + 1) (upd f kl (some val)) -> w.grownBy w' (some b) -> wpList P ops Q rest (a.put o.dst undef) w') : wpList P ops Q (o :: rest) a w := by
 refine wpList_plain hg fun K' hK' => ?_
 obtain ⟨w', hrun, r1, r2⟩ := h.store K ht hn (val := val) hkey hkl
 unfold Oper.wp
 simp [execOp, hop, hm, hx, hv, hrun, Result.andThen]
 exact hK' _ _ (hK w' r1 r2)
end
end
section
@[go_sem] theorem as_out_out (v : Value) (w : World) : (Instr.typeAssert (.iface 227 v) 146 227 true).run Tryz.prog w = .ok (.tuple #[v, .bool true]) w := by kernel_rfl
@[go_sem] theorem as_out_in (v : Value) (w : World) : (Instr.typeAssert (.iface 227 v) 146 230 true).run Tryz.prog w = .ok (.tuple #[.agg #[.pointer none], .bool false]) w := by kernel_rfl
@[go_sem] theorem as_out_file (v : Value) (w : World) : (Instr.typeAssert (.iface 227 v) 146 151 true).run Tryz.prog w = .ok (.tuple #[.pointer none, .bool false]) w := by kernel_rfl
@[go_sem] theorem as_out_sink (v : Value) (w : World) : (Instr.typeAssert (.iface 227 v) 146 160 true).run Tryz.prog w = .ok (.tuple #[.pointer none, .bool false]) w := by kernel_rfl
@[go_sem] theorem as_out_source (v : Value) (w : World) : (Instr.typeAssert (.iface 227 v) 146 157 true).run Tryz.prog w = .ok (.tuple #[.pointer none, .bool false]) w := by kernel_rfl
@[go_sem] theorem as_out_dir (v : Value) (w : World) : (Instr.typeAssert (.iface 227 v) 146 271 true).run Tryz.prog w = .ok (.tuple #[.agg #[], .bool false]) w := by kernel_rfl
@[go_sem] theorem as_in_out (v : Value) (w : World) : (Instr.typeAssert (.iface 230 v) 146 227 true).run Tryz.prog w = .ok (.tuple #[.agg #[.pointer none], .bool false]) w := by kernel_rfl
@[go_sem] theorem as_in_in (v : Value) (w : World) : (Instr.typeAssert (.iface 230 v) 146 230 true).run Tryz.prog w = .ok (.tuple #[v, .bool true]) w := by kernel_rfl
@[go_sem] theorem as_in_file (v : Value) (w : World) : (Instr.typeAssert (.iface 230 v) 146 151 true).run Tryz.prog w = .ok (.tuple #[.pointer none, .bool false]) w := by kernel_rfl
@[go_sem] theorem as_in_sink (v : Value) (w : World) : (Instr.typeAssert (.iface 230 v) 146 160 true).run Tryz.prog w = .ok (.tuple #[.pointer none, .bool false]) w := by kernel_rfl
@[go_sem] theorem as_in_source (v : Value) (w : World) : (Instr.typeAssert (.iface 230 v) 146 157 true).run Tryz.prog w = .ok (.tuple #[.pointer none, .bool false]) w := by kernel_rfl
@[go_sem] theorem as_in_dir (v : Value) (w : World) : (Instr.typeAssert (.iface 230 v) 146 271 true).run Tryz.prog w = .ok (.tuple #[.agg #[], .bool false]) w := by kernel_rfl
@[go_sem] theorem as_file_out (v : Value) (w : World) : (Instr.typeAssert (.iface 151 v) 146 227 true).run Tryz.prog w = .ok (.tuple #[.agg #[.pointer none], .bool false]) w := by kernel_rfl
@[go_sem] theorem as_file_in (v : Value) (w : World) : (Instr.typeAssert (.iface 151 v) 146 230 true).run Tryz.prog w = .ok (.tuple #[.agg #[.pointer none], .bool false]) w := by kernel_rfl
@[go_sem] theorem as_file_file (v : Value) (w : World) : (Instr.typeAssert (.iface 151 v) 146 151 true).run Tryz.prog w = .ok (.tuple #[v, .bool true]) w := by kernel_rfl
@[go_sem] theorem as_file_sink (v : Value) (w : World) : (Instr.typeAssert (.iface 151 v) 146 160 true).run Tryz.prog w = .ok (.tuple #[.pointer none, .bool false]) w := by kernel_rfl
@[go_sem] theorem as_file_source (v : Value) (w : World) : (Instr.typeAssert (.iface 151 v) 146 157 true).run Tryz.prog w = .ok (.tuple #[.pointer none, .bool false]) w := by kernel_rfl
@[go_sem] theorem as_file_dir (v : Value) (w : World) : (Instr.typeAssert (.iface 151 v) 146 271 true).run Tryz.prog w = .ok (.tuple #[.agg #[], .bool false]) w := by kernel_rfl
@[go_sem] theorem as_sink_out (v : Value) (w : World) : (Instr.typeAssert (.iface 160 v) 146 227 true).run Tryz.prog w = .ok (.tuple #[.agg #[.pointer none], .bool false]) w := by kernel_rfl
@[go_sem] theorem as_sink_in (v : Value) (w : World) : (Instr.typeAssert (.iface 160 v) 146 230 true).run Tryz.prog w = .ok (.tuple #[.agg #[.pointer none], .bool false]) w := by kernel_rfl
@[go_sem] theorem as_sink_file (v : Value) (w : World) : (Instr.typeAssert (.iface 160 v) 146 151 true).run Tryz.prog w = .ok (.tuple #[.pointer none, .bool false]) w := by kernel_rfl
@[go_sem] theorem as_sink_sink (v : Value) (w : World) : (Instr.typeAssert (.iface 160 v) 146 160 true).run Tryz.prog w = .ok (.tuple #[v, .bool true]) w := by kernel_rfl
@[go_sem] theorem as_sink_source (v : Value) (w : World) : (Instr.typeAssert (.iface 160 v) 146 157 true).run Tryz.prog w = .ok (.tuple #[.pointer none, .bool false]) w := by kernel_rfl
@[go_sem] theorem as_sink_dir (v : Value) (w : World) : (Instr.typeAssert (.iface 160 v) 146 271 true).run Tryz.prog w = .ok (.tuple #[.agg #[], .bool false]) w := by kernel_rfl
@[go_sem] theorem as_source_out (v : Value) (w : World) : (Instr.typeAssert (.iface 157 v) 146 227 true).run Tryz.prog w = .ok (.tuple #[.agg #[.pointer none], .bool false]) w := by kernel_rfl
@[go_sem] theorem as_source_in (v : Value) (w : World) : (Instr.typeAssert (.iface 157 v) 146 230 true).run Tryz.prog w = .ok (.tuple #[.agg #[.pointer none], .bool false]) w := by kernel_rfl
@[go_sem] theorem as_source_file (v : Value) (w : World) : (Instr.typeAssert (.iface 157 v) 146 151 true).run Tryz.prog w = .ok (.tuple #[.pointer none, .bool false]) w := by kernel_rfl
@[go_sem] theorem as_source_sink (v : Value) (w : World) : (Instr.typeAssert (.iface 157 v) 146 160 true).run Tryz.prog w = .ok (.tuple #[.pointer none, .bool false]) w := by kernel_rfl
@[go_sem] theorem as_source_source (v : Value) (w : World) : (Instr.typeAssert (.iface 157 v) 146 157 true).run Tryz.prog w = .ok (.tuple #[v, .bool true]) w := by kernel_rfl
@[go_sem] theorem as_source_dir (v : Value) (w : World) : (Instr.typeAssert (.iface 157 v) 146 271 true).run Tryz.prog w = .ok (.tuple #[.agg #[], .bool false]) w := by kernel_rfl
@[go_sem] theorem as_dir_out (v : Value) (w : World) : (Instr.typeAssert (.iface 271 v) 146 227 true).run Tryz.prog w = .ok (.tuple #[.agg #[.pointer none], .bool false]) w := by kernel_rfl
@[go_sem] theorem as_dir_in (v : Value) (w : World) : (Instr.typeAssert (.iface 271 v) 146 230 true).run Tryz.prog w = .ok (.tuple #[.agg #[.pointer none], .bool false]) w := by kernel_rfl
@[go_sem] theorem as_dir_file (v : Value) (w : World) : (Instr.typeAssert (.iface 271 v) 146 151 true).run Tryz.prog w = .ok (.tuple #[.pointer none, .bool false]) w := by kernel_rfl
@[go_sem] theorem as_dir_sink (v : Value) (w : World) : (Instr.typeAssert (.iface 271 v) 146 160 true).run Tryz.prog w = .ok (.tuple #[.pointer none, .bool false]) w := by kernel_rfl
@[go_sem] theorem as_dir_source (v : Value) (w : World) : (Instr.typeAssert (.iface 271 v) 146 157 true).run Tryz.prog w = .ok (.tuple #[.pointer none, .bool false]) w := by kernel_rfl
@[go_sem] theorem as_dir_dir (v : Value) (w : World) : (Instr.typeAssert (.iface 271 v) 146 271 true).run Tryz.prog w = .ok (.tuple #[v, .bool true]) w := by kernel_rfl
@[go_sem] theorem as_nil_out (w : World) : (Instr.typeAssert .nilIface 146 227 true).run Tryz.prog w = .ok (.tuple #[.agg #[.pointer none], .bool false]) w := by kernel_rfl
@[go_sem] theorem as_nil_in (w : World) : (Instr.typeAssert .nilIface 146 230 true).run Tryz.prog w = .ok (.tuple #[.agg #[.pointer none], .bool false]) w := by kernel_rfl
@[go_sem] theorem as_nil_file (w : World) : (Instr.typeAssert .nilIface 146 151 true).run Tryz.prog w = .ok (.tuple #[.pointer none, .bool false]) w := by kernel_rfl
@[go_sem] theorem as_nil_sink (w : World) : (Instr.typeAssert .nilIface 146 160 true).run Tryz.prog w = .ok (.tuple #[.pointer none, .bool false]) w := by kernel_rfl
@[go_sem] theorem as_nil_source (w : World) : (Instr.typeAssert .nilIface 146 157 true).run Tryz.prog w = .ok (.tuple #[.pointer none, .bool false]) w := by kernel_rfl
@[go_sem] theorem as_nil_dir (w : World) : (Instr.typeAssert .nilIface 146 271 true).run Tryz.prog w = .ok (.tuple #[.agg #[], .bool false]) w := by kernel_rfl
end
end Go.Proofs.YtffffjngodinnaaGreatDoor
