/- NodePuts holds: for every input the call returns true, and changes nothing that was there. No conditions. -/
import Derived.Test.YtdhlcofjpkbgaaaRow
import Derived.SizedLaws
import Derived.Test.YtdhlcofjpkbgaaaLaw09E
import Derived.Test.YtdhlcofjpkbgaaaOpenNode
namespace Go.Proofs.Ytdhlcofjpkbgaaa.nodePuts
open Go.ChangeShapes Go.WideShapes Go.ChangeAt Go.RowKit

set_option maxRecDepth 100000 in
theorem lifted (os : Os) (started : os.Started) (H : Type) (enc : TypeId × Value → H) :
    ReturnsInHanded {} Try.checked os 9 .any (Rows.nodePutsSpec.pre6 enc Try.prog Try.f9 Rows.nodePutsRow.domain false) (Rows.nodePutsSpec.post enc Try.prog Try.f9 false true false false) := by
  refine returnsInHanded_of_change_sized (C := Try.checked) own started (by kernel_rfl) Try.func9
    (ChangeSpec.witness6 (enc := enc) (C := Try.checked) false ⟨#[], #[.agg #[.bool false, .slice none 0 0, .slice none 0 0, .slice none 0 0], .agg #[.bool false, .slice none 0 0, .slice none 0 0, .slice none 0 0]], []⟩ 8 (by kernel_rfl) (by kernel_rfl) (by kernel_rfl) (by kernel_rfl)) ?_
  intro W base args ds gs before hval0 hW hcnd hsz0 _
  have hval : ∀ (j : Nat) t v, Try.f9.params[j]? = some t → args[j]? = some v → Value.okWide Try.prog W .any base t v := hval0
  have hW' := hW
  obtain ⟨p, q, hA0, hV, rfl, hfz, hnd⟩ := hW
  have hA : DataW.TrodAll enc Try.prog W 0 (fun _ => true) true Try.f9.params.toList args.toList ds p := hA0
  rw [Try.params9] at hA hval
  obtain ⟨v0, v1, d0, d1, p0, p1, rfl, rfl, rfl, h0, h1⟩ := trodAll_two hA
  obtain ⟨rfl, rfl⟩ := trodVars_none hV
  obtain ⟨arr0, rfl, hz0⟩ := okWide_struct Try.underlying55 (hval 0 55 v0 rfl rfl)
  obtain ⟨fuel0, hf0⟩ := h0
  have hl0 : Light 55 d0 := by
    intro n hn
    have := List.all_eq_true.1 hsz0 n (DataW.weights_mem_each (j := 0) (t := 55) (by rw [Try.params9]; rfl) rfl n hn)
    simpa using this
  obtain ⟨nd0, hnd0, hfit0⟩ := open_node hf0 hl0
  obtain ⟨arr1, rfl, hz1⟩ := okWide_struct Try.underlying55 (hval 1 55 v1 rfl rfl)
  obtain ⟨fuel1, hf1⟩ := h1
  have hl1 : Light 55 d1 := by
    intro n hn
    have := List.all_eq_true.1 hsz0 n (DataW.weights_mem_each (j := 1) (t := 55) (by rw [Try.params9]; rfl) rfl n hn)
    simpa using this
  obtain ⟨nd1, hnd1, hfit1⟩ := open_node hf1 hl1
  have hb : Calls Try.prog 9 #[.agg arr0, .agg arr1] W fun e w' => e = .returned (.bool true) ∧ Below W.heap.size W w' := by
    exact nodePuts_any arr0 arr1 nd0 nd1 W (by simpa [Value.cells] using hnd0) hfit0 (by simpa [Value.cells] using hnd1) hfit1
  refine hb.mono fun e W' ⟨he, hb⟩ => ?_
  subst he
  exact ⟨_, rfl, post_law (by decide +kernel) rfl rfl rfl hW' hb⟩

theorem proved : Rows.NodePutsSaid :=
  OpenClaim.holds_of_wide 9 Try.f9 rfl rfl rfl rfl rfl rfl rfl ⟨rfl, rfl, rfl, rfl, rfl⟩ rfl rfl rfl rfl rfl (by kernel_rfl) Try.func9 (by kernel_rfl)
    (of_decide_eq_true (by kernel_rfl)) (by unfold Func.isWrapper; first | (rw [if_pos (by decide +kernel)]; kernel_rfl) | (rw [if_neg (by decide +kernel)]; exact ⟨rfl, rfl⟩))
    (fun os started H enc _ => lifted os started H enc)

#print axioms proved
end Go.Proofs.Ytdhlcofjpkbgaaa.nodePuts
