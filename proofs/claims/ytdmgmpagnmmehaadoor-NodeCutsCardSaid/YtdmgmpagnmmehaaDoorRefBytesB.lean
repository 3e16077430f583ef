/- Walk: the reference's bytes of a node. -/
import Derived.Test.YtdmgmpagnmmehaaDoorRefPtr
namespace Go.Proofs.YtdmgmpagnmmehaaDoor
open Go.RowKit

/-- Bytes that the call lays, in a row of its own. -/
def RowRel (w0 : World) (xs : List UInt8) (v : Value) (wr : World) : Prop := ∃ aa cc, v = .slice aa xs.length cc ∧ wr.ownsRow w0.heap.size 5 1 v xs.length (xs.map Bv) ∧ Below w0.heap.size w0 wr
theorem RowRel.below {w0 wr : World} {xs : List UInt8} {v : Value} (h : RowRel w0 xs v wr) : Below w0.heap.size w0 wr := by obtain ⟨_, _, _, _, hB⟩ := h; exact hB
theorem RowRel.own {w0 wr : World} {xs : List UInt8} {v : Value} (h : RowRel w0 xs v wr) : wr.ownsRow w0.heap.size 5 1 v xs.length (xs.map Bv) := by obtain ⟨_, _, _, ho, _⟩ := h; exact ho
theorem RowRel.step {w0 W w1 : World} {xs : List UInt8} {v : Value} (h : RowRel w0 xs v W) (hb : Below W.heap.size W w1) : RowRel w0 xs v w1 := by
  obtain ⟨aa, cc, e, ho, hB⟩ := h
  exact ⟨aa, cc, e, ho.fr (Fr.of_below (S := fun _ => False) hb) (fun _ _ => id), hB.trans (hb.mono hB.size)⟩
theorem RowRel.grow {w0 w1 w2 : World} {xs ys : List UInt8} {v : Value} {aa : Option Addr} {cc m : Nat} (h : RowRel w0 xs v w1) (ho : w2.ownsRow w0.heap.size 5 1 (.slice aa (xs.length + m) cc) (xs.length + m) ((xs ++ ys).map Bv)) (hm : m = ys.length)
    (hf : Fr (fun k => v.ownBlock = some k) w1 w2) : RowRel w0 (xs ++ ys) (.slice aa (xs.length + m) cc) w2 := by
  obtain ⟨_, _, _, ho1, hB⟩ := h
  subst hm
  refine ⟨aa, cc, by rw [List.length_append], by rw [List.length_append]; exact ho, hB.trans (hf.below hB.size (fun k hk => (ho1.lt k hk).1))⟩

theorem headB_leaf {n : Nd} (hl : n.leaf = true) (hk : n.keys.length ≤ 255) : ([.int .u8 1, .int .u8 (n.keys.length : Int)] : List Value) = (headB n).map Bv := by
  unfold headB
  rw [hl]
  simp [putB, List.range_succ, Bv, UInt8.toNat_ofNat', Nat.mod_eq_of_lt (show n.keys.length < 256 by omega)]
theorem headB_inner {n : Nd} (hl : n.leaf = false) (hk : n.keys.length ≤ 255) : ([.int .u8 2, .int .u8 (n.keys.length : Int)] : List Value) = (headB n).map Bv := by
  unfold headB
  rw [hl]
  simp [putB, List.range_succ, Bv, UInt8.toNat_ofNat', Nat.mod_eq_of_lt (show n.keys.length < 256 by omega)]

theorem kvTo_bound {n : Nd} (h : formB n = true) (hk : n.keys.length ≤ 255) (k : Nat) (hkk : k ≤ n.keys.length) : (headB n ++ kvTo n k).length ≤ 40000 := by
  have hf := formB_ok h
  rw [List.length_append, headB_length]
  cases hl : n.leaf with
  | true =>
    have hv := hf.vals hl
    rw [kvTo_length_leaf n hl k hkk (by omega)]
    have s1 := strsN_le 32 (n.keys.take k) (fun s hs => (hf.keyS s (List.mem_of_mem_take hs)).2)
    have s2 := strsN_le 96 (n.vals.take k) (fun s hs => hf.valS s (List.mem_of_mem_take hs))
    have t1 : (n.keys.take k).length = k := by rw [List.length_take]; omega
    have t2 : (n.vals.take k).length = k := by rw [List.length_take]; omega
    rw [t1] at s1
    rw [t2] at s2
    omega
  | false =>
    rw [kvTo_length_inner n hl k hkk]
    have s1 := strsN_le 32 (n.keys.take k) (fun s hs => (hf.keyS s (List.mem_of_mem_take hs)).2)
    have t1 : (n.keys.take k).length = k := by rw [List.length_take]; omega
    rw [t1] at s1
    omega

theorem formB_leafkids {n : Nd} (h : formB n = true) (hl : n.leaf = true) : n.kids = [] := by
  unfold formB at h
  rw [hl] at h
  simp only [if_true, Bool.and_eq_true, decide_eq_true_iff] at h
  exact List.eq_nil_of_length_eq_zero h.2.1.2

def BytesPost (n : Nd) (w : World) (e : Ending) (w' : World) : Prop :=
  ∃ aa cc, e = .returned (.slice aa (bytesN n).length cc) ∧ w'.ownsRow w.heap.size 5 1 (.slice aa (bytesN n).length cc) (bytesN n).length ((bytesN n).map Bv) ∧ Below w.heap.size w w'

end Go.Proofs.YtdmgmpagnmmehaaDoor

namespace Go.Proofs.YtdmgmpagnmmehaaDoor
open Go.RowKit

theorem formB_innerkids {n : Nd} (h : formB n = true) (hl : n.leaf = false) : n.kids.length = n.keys.length + 1 := by
  unfold formB at h
  rw [hl] at h
  simp only [Bool.false_eq_true, if_false, Bool.and_eq_true, decide_eq_true_iff] at h
  exact h.2.1.2

end Go.Proofs.YtdmgmpagnmmehaaDoor
