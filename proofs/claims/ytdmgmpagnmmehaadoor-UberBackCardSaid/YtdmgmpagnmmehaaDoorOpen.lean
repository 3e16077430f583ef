/- How this program's arguments read: bytes, hashes, texts, acts. -/
import Derived.Test.YtdmgmpagnmmehaaDoorRow
import Derived.Test.YtdmgmpagnmmehaaDoorMem
import Derived.Deep.Slices
import Derived.SizedLaws
namespace Go.Proofs.YtdmgmpagnmmehaaDoor
open Go.ChangeShapes Go.WideShapes Go.ChangeAt Go.RowKit Go.Deep

theorem cells_u8 : Tryd.prog.cellsOf 5 = 1 := by kernel_rfl
theorem cells_bytes : Tryd.prog.cellsOf 28 = 1 := by kernel_rfl
theorem cells_string : Tryd.prog.cellsOf 9 = 1 := by kernel_rfl
theorem cells_int : Tryd.prog.cellsOf 3 = 1 := by kernel_rfl
theorem cells_u64 : Tryd.prog.cellsOf 42 = 1 := by kernel_rfl
theorem cells_hash : Tryd.prog.cellsOf 45 = 32 := by kernel_rfl
theorem bytes_u8 : Tryd.prog.bytesOf 5 = 1 := by kernel_rfl

/-- Every weight of what is read is within the reach. -/
def Light {H : Type} (t : TypeId) (d : DataW H) : Prop := ∀ n ∈ d.weights Tryd.prog t, n ≤ reachBytes

section
variable {H : Type} {enc : TypeId × Value → H} {W : World} {fuel : Nat} {cs : List Value} {x : DataW H × List MemPlace}

theorem open_u8 (h : DataW.trod enc Tryd.prog W 0 (fun _ => true) true fuel 5 cs = some x) : ∃ c : UInt8, cs = [Bv c] := by
  obtain ⟨n, rfl, _, hn⟩ := DataW.trod_int Tryd.underlying5 h
  have b := bounds_u8 hn
  refine ⟨UInt8.ofNat n.toNat, ?_⟩
  rw [Bv, UInt8.toNat_ofNat', Nat.mod_eq_of_lt (by omega), Int.toNat_of_nonneg b.1]

theorem open_bytes (h : DataW.trod enc Tryd.prog W 0 (fun _ => true) true fuel 28 cs = some x) (hl : Light 28 x.1) :
    ∃ (v : Value) (bs : List UInt8), cs = [v] ∧ Sl W 1 v bs.length (bs.map Bv) ∧ bs.length ≤ 140737488351232 := by
  rcases open_ints Tryd.underlying28 Tryd.underlying5 cells_u8 h with ⟨rfl, _⟩ | ⟨a, len, cap, zs, rfl, _, hlc, hm, hz, hx, hcell, hwf⟩
  · exact ⟨_, [], rfl, Sl.nil W 1, by simp⟩
  · simp only [if_true] at hz
    have hreach : len ≤ 140737488351232 := by
      have := hl ((zs.take len).length + (zs.drop len).length) (by
        rw [hx]; simp [DataW.weights, Tryd.underlying28, bytes_u8, lits])
      simp only [List.length_take, List.length_drop, reachBytes] at this
      omega
    refine ⟨_, (zs.take len).map (fun n => UInt8.ofNat n.toNat), rfl, ?_, by simp; omega⟩
    have hll : ((zs.take len).map (fun n => UInt8.ofNat n.toNat)).length = len := by simp; omega
    rw [hll]
    refine ⟨by simp [hz]; omega, some a, cap, rfl, hlc, fun h => (by cases h), fun i u hu => ?_⟩
    have hi : i < len := by have := (List.getElem?_eq_some_iff.1 hu).1; simp at this; omega
    have hzi : i < zs.length := by omega
    have hc := hcell i hzi
    have hsp : a.spot = none := by
      have h0 := hcell 0 (by omega)
      have e0 : a.add 0 = a := by simp [Addr.add]
      rw [e0] at h0
      unfold World.cell? at h0
      split at h0
      · split at h0
        · cases h0
        · rename_i hs; simpa using hs
      · cases h0
    obtain ⟨b, o, sp⟩ := a
    simp only at hsp
    subst hsp
    refine ⟨b, o, rfl, ?_⟩
    rw [Addr.add_lit] at hc
    rw [hc]
    have e : (((zs.take len).map (fun n => UInt8.ofNat n.toNat)).map Bv)[i]? = some (Bv (UInt8.ofNat zs[i].toNat)) := by simp [hi, hzi]
    rw [e] at hu
    rw [← hu]
    have hw := bounds_u8 (hwf zs[i] (List.getElem_mem hzi))
    congr 1
    simp only [List.getD, List.getElem?_eq_getElem hzi, Option.getD_some]
    rw [Bv, UInt8.toNat_ofNat', Nat.mod_eq_of_lt (by omega), Int.toNat_of_nonneg hw.1]

theorem open_hash (h : DataW.trod enc Tryd.prog W 0 (fun _ => true) true fuel 45 cs = some x) : ∃ hs : List UInt8, hs.length = 32 ∧ cs = hs.map Bv := by
  obtain ⟨xs, m, rfl, _, hl, hxl, hi⟩ := DataW.trod_array Tryd.underlying45 h
  rw [cells_hash] at hl
  have each : ∀ i, i < 32 → ∃ c : UInt8, cs[i]? = some (Bv c) := by
    intro i hi'
    have h1 := hi i hi'
    rw [cells_u8, List.getElem?_eq_getElem (by omega)] at h1
    obtain ⟨c, hc⟩ := open_u8 h1
    refine ⟨c, ?_⟩
    have : (List.take 1 (List.drop (i * 1) cs))[0]? = some (Bv c) := by rw [hc]; rfl
    simpa using this
  obtain ⟨f, hf⟩ := choose_lt each
  refine ⟨(List.range 32).map f, by simp, ?_⟩
  apply List.ext_getElem?
  intro i
  by_cases h32 : i < 32
  · rw [hf i h32]; simp [h32]
  · rw [List.getElem?_eq_none (by omega)]; simp [h32]
end

end Go.Proofs.YtdmgmpagnmmehaaDoor
