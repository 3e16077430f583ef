/- CodecLays holds: for every list of acts the call returns true, and changes nothing that was there. No conditions. -/
import Derived.Test.YtdhlcofjpkbgaaaRow
import Derived.SizedLaws
import Derived.Test.YtdhlcofjpkbgaaaLaw07D
import Derived.Test.YtdhlcofjpkbgaaaOpenActs
namespace Go.Proofs.Ytdhlcofjpkbgaaa.codecLays
open Go.ChangeShapes Go.WideShapes Go.ChangeAt Go.RowKit

set_option maxRecDepth 100000 in
theorem lifted (os : Os) (started : os.Started) (H : Type) (enc : TypeId × Value → H) :
    ReturnsInHanded {} Try.checked os 4 .any (Rows.codecLaysSpec.pre6 enc Try.prog Try.f4 Rows.codecLaysRow.domain false) (Rows.codecLaysSpec.post enc Try.prog Try.f4 false true false false) := by
  refine returnsInHanded_of_change_sized (C := Try.checked) own started (by kernel_rfl) Try.func4
    (ChangeSpec.witness6 (enc := enc) (C := Try.checked) false ⟨#[], #[.slice none 0 0], []⟩ 8 (by kernel_rfl) (by kernel_rfl) (by kernel_rfl) (by kernel_rfl)) ?_
  intro W base args ds gs before hval0 hW hcnd hsz0 _
  have hval : ∀ (j : Nat) t v, Try.f4.params[j]? = some t → args[j]? = some v → Value.okWide Try.prog W .any base t v := hval0
  have hW' := hW
  obtain ⟨p, q, hA0, hV, rfl, hfz, hnd⟩ := hW
  have hA : DataW.TrodAll enc Try.prog W 0 (fun _ => true) true Try.f4.params.toList args.toList ds p := hA0
  rw [Try.params4] at hA hval
  obtain ⟨v0, d0, rfl, rfl, h0⟩ := trodAll_one hA
  obtain ⟨rfl, rfl⟩ := trodVars_none hV
  obtain ⟨a0, l0, c0, rfl⟩ := okWide_slice Try.underlying37 (hval 0 37 v0 rfl rfl)
  obtain ⟨fuel, hf⟩ := h0
  have hl : Light 37 d0 := by
    intro n hn
    have := List.all_eq_true.1 hsz0 n (DataW.weights_mem_each (j := 0) (t := 37) (by rw [Try.params4]; rfl) rfl n hn)
    simpa using this
  obtain ⟨v, acs, hv, hacs, hlen, hbd⟩ := open_acts hf hl
  obtain rfl : Value.slice a0 l0 c0 = v := by simpa [Value.cells] using hv
  have hb : Calls Try.prog 4 #[.slice a0 l0 c0] W fun e w' => e = .returned (.bool true) ∧ Below W.heap.size W w' := by
    cases hg : (decide (100 < (acs.length : Int)) || decide (9000 < wrap64 (cost acs))) with
    | true => exact codecLays_great _ acs W hacs hlen hbd hg
    | false => exact codecLays_any _ acs W hacs hlen hbd hg
  refine hb.mono fun e W' ⟨he, hb⟩ => ?_
  subst he
  exact ⟨_, rfl, post_law (by decide +kernel) rfl rfl rfl hW' hb⟩

theorem proved : Rows.CodecLaysSaid :=
  OpenClaim.holds_of_wide 4 Try.f4 rfl rfl rfl rfl rfl rfl rfl ⟨rfl, rfl, rfl, rfl, rfl⟩ rfl rfl rfl rfl rfl (by kernel_rfl) Try.func4 (by kernel_rfl)
    (of_decide_eq_true (by kernel_rfl)) (by unfold Func.isWrapper; first | (rw [if_pos (by decide +kernel)]; kernel_rfl) | (rw [if_neg (by decide +kernel)]; exact ⟨rfl, rfl⟩))
    (fun os started H enc _ => lifted os started H enc)

#print axioms proved
end Go.Proofs.Ytdhlcofjpkbgaaa.codecLays
