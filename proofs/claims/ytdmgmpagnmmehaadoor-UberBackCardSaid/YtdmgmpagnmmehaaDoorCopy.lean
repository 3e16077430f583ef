/- The walk's law at a copy of bytes into a row that is known whole. -/
import Derived.Test.YtdmgmpagnmmehaaDoorMem
import Derived.Test.YtdmgmpagnmmehaaDoorAgg
import Derived.Laws.CopyOwn
import Derived.Laws.ResultCell
namespace Go.Proofs.YtdmgmpagnmmehaaDoor
open Go.RowKit

theorem size_u8' : (Tryd.prog.info? 5).map (·.size) = some 1 := by kernel_rfl

/-- 'ys' laid over 'cur' from a place on. -/
def over {α : Type} (cur : List α) (off : Nat) (ys : List α) : List α := cur.take off ++ (ys ++ cur.drop (off + ys.length))
theorem over_length {α : Type} (cur : List α) (off : Nat) (ys : List α) (h : off + ys.length ≤ cur.length) : (over cur off ys).length = cur.length := by simp [over]; omega
theorem over_all {α : Type} (cur ys : List α) (h : ys.length = cur.length) : over cur 0 ys = ys := by simp [over, h]

theorem copy_u8 {w : World} {ops : Array Oper} {rest : List Oper} {o : Oper} {a : Act} {Q : Exit → Act → World → Prop} (hgd : o.guard = none) (d s : Operand)
    (ho : o.op = .call { callee := .builtin .copy, args := #[d, s], argTypes := #[28, 28] })
    {g off dLen dCap : Nat} {vs : Value} {cur : List UInt8} {t : TypeId} (hg : w.heap[g]? = some (.cells (cur.map Bv).toArray t (0, 0))) {n : Nat} {ys : List UInt8} (hsrc : Sl w 1 vs n (ys.map Bv))
    (hd : a.eval d = .slice (some ⟨g, off, none⟩) dLen dCap) (hs : a.eval s = vs) (hfit : off + min n dLen ≤ cur.length)
    (h : ∀ w', w'.heap[g]? = some (.cells ((over cur off (ys.take (min n dLen))).map Bv).toArray t (0, 0)) → Fr (fun k => k = g) w w' → wpList Tryd.prog ops Q rest (a.put o.dst (.int .i64 (min n dLen : Nat))) w') :
    wpList Tryd.prog ops Q (o :: rest) a w := by
  obtain ⟨hl, sp, sCap, rfl, hsc, hnil, hc⟩ := hsrc
  have hyl : ys.length = n := by simpa using hl
  by_cases h0 : min n dLen = 0
  · refine wpList_copy_nothing hgd d s _ _ ho 5 Tryd.underlying28 size_u8' _ _ dLen dCap n sCap hd hs (by simpa [Nat.min_def] using h0) ?_
    have := h w (by rw [h0]; simpa [over] using hg) (Fr.refl _ _)
    rw [h0] at this
    exact this
  · have hn0 : 0 < n := by omega
    obtain ⟨b, o', rfl, _⟩ := hc 0 (Bv (ys[0]'(by omega))) (by simp [show 0 < ys.length by omega])
    have hlt : (ys.take (min n dLen)).length = min n dLen := by rw [List.length_take]; omega
    refine wpList_copy_own hgd d s _ _ ho 5 Tryd.underlying28 size_u8' g off dLen dCap ⟨b, o', none⟩ n sCap hd hs _ t hg ((ys.take (min n dLen)).map Bv) (by rw [List.length_map, hlt]) ?_ (by simp only [List.length_map, hlt, List.size_toArray]; exact hfit) (Bv_oneCell _) ?_
    · intro j u hj
      rw [List.map_take, List.getElem?_take] at hj
      split at hj
      · obtain ⟨b2, o2, e, hc2⟩ := hc j u hj
        simp only [Option.some.injEq, Addr.mk.injEq, and_true] at e
        obtain ⟨rfl, rfl⟩ := e
        rw [Addr.add_lit]; exact hc2
      · cases hj
    · have e2 : (((cur.map Bv).toArray).toList.take off ++ ((ys.take (min n dLen)).map Bv ++ ((cur.map Bv).toArray).toList.drop (off + ((ys.take (min n dLen)).map Bv).length))).toArray = ((over cur off (ys.take (min n dLen))).map Bv).toArray := by
        simp [over]
      rw [e2]
      have e3 : goInt ((ys.take (min n dLen)).map Bv).length = .int .i64 (min n dLen : Nat) := by rw [List.length_map, hlt]; rfl
      rw [e3]
      exact h _ (setRow_heap w g _ _ t _ hg) ⟨rfl, rfl, rfl, by simp, fun k _ hk => setRow_other w g k _ hk⟩

#print axioms copy_u8
end Go.Proofs.YtdmgmpagnmmehaaDoor
