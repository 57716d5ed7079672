/-
  bytes.IndexFunc at the question that parts asks: the first byte for which it is so.
-/
import Derived.Test.YtnagiphjlfiifaaDoorTextDecode
namespace Go.Proofs.YtnagiphjlfiifaaDoor
open Go.RowKit

theorem finds_any (p : UInt8 → Bool) (hp : ∀ c : UInt8, 128 ≤ c.toNat → p c = false) (fv : Nat) (hA : Asks fv p) (eg : ∀ args w, (callFunc fv args).run Tryd.prog w = .ok (.enter fv args) w) (Bc m : Nat) (hm : m ≤ 2097152) (wB : World)
    (hT : Lib.Utf8Tabs (Tryd.lays7n55_ren.g 2) (Tryd.lays7n55_ren.g 3) wB) : Finds p Bc (.func (.func fv) #[] #[]) m wB.heap.size wB := by
  intro A cap bs W hb hpos hbm hcap hBc hr
  obtain ⟨⟨b, off, spot⟩, rfl, hbk, hc⟩ := hr.2 hpos
  have h0 : (bytesC bs)[0]? = some (.int .u8 (bs[0].toNat)) := by simp [bytesC, List.getElem?_eq_getElem hpos]
  obtain rfl : spot = none := World.cell?_spot (hc 0 _ h0)
  have hget : ∀ j, j < bs.length → (⟨bs.toArray⟩ : ByteArray).get! j = bs.getD j 0 := fun j hj => by simp [ByteArray.get!, List.getD, hj]
  have hB : BytesAt ⟨bs.toArray⟩ b off W := fun j hj => by
    have hj' : j < bs.length := hj
    have e : (⟨b, off, none⟩ : Addr).add j = ⟨b, off + j, none⟩ := by unfold Addr.add; split <;> simp_all
    rw [← e, hget j hj']
    exact hc j _ (by simp [bytesC, List.getD, List.getElem?_eq_getElem hj'])
  have hP : PredGrows Tryd.prog 35 #[.pointer (some ⟨Bc, 0, none⟩)] (askRune p) W := shelf7_pred fun W' x hx hb' =>
    (parts11_any fv p hA eg Bc W' x hx ((hb'.cell (p := ⟨Bc, 0, none⟩) hBc.lt).trans hBc.cell)).mono fun e w' ⟨he, hw⟩ => ⟨he, hw ▸ Below.refl _ _⟩
  have hI := Any7.bytes_indexFunc Tryd.lays7n55 35 #[.pointer (some ⟨Bc, 0, none⟩)] (enters_of Tryd.func35 (by kernel_rfl) rfl) (askRune p) true ⟨bs.toArray⟩ b off cap W hcap (by show bs.length ≤ _; omega) hB (Utf8Tabs_below hT hb) hP
  rw [Pl.idx_is p hp] at hI
  have hI' : Calls Tryd.prog 42 #[.slice (some ⟨b, off, none⟩) bs.length cap, .func (.func 35) #[] #[.pointer (some ⟨Bc, 0, none⟩)], .bool true] W fun e w' => e = .returned (.int .i64 (Pl.firstInt p bs)) ∧ Below W.heap.size W w' := hI
  clear hI hP hB hget h0 hc hr
  go_enter Tryd.func34, Tryd.ntmps34
  go_wp2_with (refine hI'.mono ?_; rintro e w' ⟨rfl, hb2⟩)
  go_returns
  exact ⟨rfl, hb2⟩

end Go.Proofs.YtnagiphjlfiifaaDoor
