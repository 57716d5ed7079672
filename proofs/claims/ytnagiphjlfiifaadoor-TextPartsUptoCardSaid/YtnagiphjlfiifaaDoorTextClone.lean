/-
  A walk over bytes.Clone.
-/
import Derived.Test.YtnagiphjlfiifaaDoorTextParts
import Derived.Lib.SliceRun
namespace Go.Proofs.YtnagiphjlfiifaaDoor
open Go.RowKit

theorem Tryd.infoByte : (Tryd.prog.info? 5).map (fun i => (i.zero, i.size, i.bytes)) = some (some (.int .u8 0), 1, 1) := by kernel_rfl
theorem bytesC_oneCell (l : List UInt8) : ∀ u ∈ bytesC l, u.oneCell' = true := by
  intro u hu
  unfold bytesC at hu
  obtain ⟨b, _, rfl⟩ := List.mem_map.1 hu
  rfl

theorem cloneB_any (ad : Addr) (cap : Nat) (bs : List UInt8) (w : World) (hr : Reads w w.heap.size 1 (some ad) bs.length (bytesC bs)) (hl : bs.length ≤ 2097152) :
    Calls Tryd.prog 28 #[.slice (some ad) bs.length cap] w fun e w' => ∃ v, e = .returned v ∧ w'.ownsRow w.heap.size 5 1 v bs.length (bytesC bs) ∧ Below w.heap.size w w' := by
  have heq := fun (W : World) => Lib.run_eql_slice_nil (P := Tryd.prog) W 25 5 (some ad) bs.length cap 0 0 Tryd.underlying25
  obtain ⟨iB, hiB, hB0, hB1, hB2⟩ := info_parts Tryd.infoByte
  have HI := Lib.hid hiB
  have H0 := Lib.hid hB0
  have H1 := Lib.hid hB1
  have H2 := Lib.hid hB2
  clear hiB hB0 hB1 hB2
  have hR := Lib.hid hr
  clear hr
  go_enter Tryd.func28, Tryd.ntmps28
  go_wp2_with (at_builtin; refine wpList_append_any _ rfl _ _ 25 rfl w.heap.size 5 iB (.int .u8 0) 1 1 Tryd.underlying25 HI.out H0.out H1.out H2.out rfl (by decide) (.slice (some ⟨w.heap.size, 0, none⟩) 0 0) 0 [] rfl (World.ownsRow_made w #[] 0 (Nat.le_refl _) (by decide) rfl) w.heap.size (some ad) bs.length cap (bytesC bs) rfl (hR.out.alloc (Nat.le_refl _) _) (bytesC_oneCell bs) (by simp only [maxLen]; omega) (by omega) (by simp) ?_; intro v2 w2 hown2 hg2 hat2)
  go_returns
  exact ⟨_, rfl, by simpa using hown2, ((Below.refl _ w).alloc (Nat.le_refl _) _).grown hg2 (by simp) (fun k hk => by simp [Value.ownBlock] at hk; omega)⟩

end Go.Proofs.YtnagiphjlfiifaaDoor
