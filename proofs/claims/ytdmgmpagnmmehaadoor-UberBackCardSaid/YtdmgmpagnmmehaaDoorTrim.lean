/- Walks: bytes.Trim of noughts. -/
import Derived.Test.YtdmgmpagnmmehaaDoorCodecB
import Derived.Deep.RegionWith
namespace Go.Proofs.YtdmgmpagnmmehaaDoor
open Go.RowKit

theorem list_take_one_less {xs : List UInt8} {m : Nat} : (xs.take (m + 1)).take m = xs.take m := by rw [List.take_take]; congr 1; omega

def CutRight (w : World) (xs : List UInt8) (n : Nat) (e : Ending) (w' : World) : Prop :=
  w = w' ∧ ∃ v' m, e = .returned v' ∧ m ≤ n ∧ Sl w 1 v' m ((xs.take m).map Bv) ∧ (∀ j, m ≤ j → ∀ c, xs[j]? = some c → c = 0)
def CutLeft (w : World) (xs : List UInt8) (e : Ending) (w' : World) : Prop :=
  w = w' ∧ ∃ a L c, e = .returned (.slice a L c) ∧ (L = 0 ↔ ∀ y ∈ xs, y = 0)

set_option maxHeartbeats 400000 in
theorem trimRight_any (v : Value) (xs : List UInt8) (n : Nat) (w : World) (h : Sl w 1 v n (xs.map Bv)) (hr : n ≤ 140737488351232) :
    Calls Tryd.prog 83 #[v, .int .u8 0] w (CutRight w xs n) := by
  have hxl : xs.length = n := by simpa using h.1
  have HH := Lib.hid h
  have HXL := Lib.hid hxl
  clear h hxl
  go_enter Tryd.func83, Tryd.ntmps83
  go_wp2_with fail
  go_loop [0] (fun v => ∃ m, m ≤ n ∧ Sl w 1 v m ((xs.take m).map Bv) ∧ (∀ j, m ≤ j → ∀ c, xs[j]? = some c → c = 0) ∧ ∃ a cc, v = .slice a m cc) (fun v => match v with | .slice _ m _ => m | _ => 0)
  case atStart =>
    obtain ⟨a, c, rfl, _⟩ := HH.out.len
    refine ⟨n, Nat.le_refl _, ?_, fun j hj c hc => ?_, _, _, rfl⟩
    · rw [List.take_of_length_le (by have := HXL.out; omega)]; exact HH.out
    · have := (List.getElem?_eq_some_iff.1 hc).1; have := HXL.out; omega
  case round =>
    obtain ⟨m, hm, hsl, hz, a, cc, rfl⟩ := hrel
    have HZ := Lib.hid hz
    have HS := Lib.hid hsl
    clear hz hsl
    cases m with
    | zero =>
      go_wp2
      go_ret
      exact ⟨rfl, _, 0, rfl, hm, HS.out, HZ.out⟩
    | succ m =>
      have hlt : m < xs.length := by have := HXL.out; omega
      obtain ⟨b, o, rfl, hc⟩ : ∃ b o, a = some ⟨b, o, none⟩ ∧ w.cell? ⟨b, o + m, none⟩ = some (.int .u8 ((xs[m]'hlt).toNat : Int)) := by
        obtain ⟨_, a', cap', e, _, _, hcs⟩ := HS.out
        obtain ⟨b', o', rfl, h0⟩ := hcs m (Bv (xs[m]'hlt)) (by simp [hlt])
        simp only [Value.slice.injEq] at e
        exact ⟨b', o', e.1, h0⟩
      obtain ⟨A, C, q, hA⟩ := cut_u8_hi HS.out (hi := m) (by omega)
      rw [list_take_one_less] at hA
      have HA := Lib.hid hA
      have e1 : ((m + 1 : Nat) : Int) - 1 = (m : Int) := by omega
      clear hA
      by_cases h0 : xs[m]'hlt = 0
      · have hz2 : ∀ j, m ≤ j → ∀ c, xs[j]? = some c → c = 0 := by
          intro j hj c hc'
          rcases Nat.lt_or_ge m j with h | h
          · exact HZ.out j h c hc'
          · obtain rfl : j = m := by omega
            rw [List.getElem?_eq_getElem hlt] at hc'
            rw [← Option.some.inj hc', h0]
        have HZ2 := Lib.hid hz2
        rw [h0] at hc
        have hc' : w.cell? ⟨b, o + m, none⟩ = some (.int .u8 0) := hc
        clear hz2 h0 hc
        go_wp2
        go_round
        case rel => exact ⟨m, by omega, HA.out, HZ2.out, _, _, rfl⟩
        case measure => simp
      · have hne : (((xs[m]'hlt).toNat : Int) == 0) = false := by
          have : (xs[m]'hlt).toNat ≠ 0 := fun e => h0 (UInt8.toNat_inj.1 (by simpa using e))
          simp; omega
        clear h0
        go_wp2
        go_ret
        exact ⟨rfl, _, m + 1, rfl, hm, HS.out, HZ.out⟩

set_option maxHeartbeats 400000 in
theorem trimLeft_any (v : Value) (xs : List UInt8) (n : Nat) (w : World) (h : Sl w 1 v n (xs.map Bv)) (hr : n ≤ 140737488351232) :
    Calls Tryd.prog 82 #[v, .int .u8 0] w (CutLeft w xs) := by
  have hxl : xs.length = n := by simpa using h.1
  have HH := Lib.hid h
  have HXL := Lib.hid hxl
  clear h hxl
  go_enter Tryd.func82, Tryd.ntmps82
  go_wp2_with fail
  go_loop [0] (fun v => ∃ m, m ≤ n ∧ Sl w 1 v m ((xs.drop (n - m)).map Bv) ∧ (∀ j, j < n - m → ∀ c, xs[j]? = some c → c = 0) ∧ ∃ a cc, v = .slice a m cc) (fun v => match v with | .slice _ m _ => m | _ => 0)
  case atStart =>
    obtain ⟨a, c, rfl, _⟩ := HH.out.len
    exact ⟨n, Nat.le_refl _, by simpa using HH.out, fun j hj => by omega, _, _, rfl⟩
  case round =>
    obtain ⟨m, hm, hsl, hz, a, cc, rfl⟩ := hrel
    have HZ := Lib.hid hz
    have HS := Lib.hid hsl
    clear hz hsl
    cases m with
    | zero =>
      go_wp2
      go_ret
      refine ⟨rfl, _, 0, _, rfl, ⟨fun _ y hy => ?_, fun _ => rfl⟩⟩
      obtain ⟨j, hj⟩ := List.getElem?_of_mem hy
      exact HZ.out j (by have := (List.getElem?_eq_some_iff.1 hj).1; have := HXL.out; omega) y hj
    | succ m =>
      have hlt : n - (m + 1) < xs.length := by have := HXL.out; omega
      obtain ⟨c0, hc0⟩ : ∃ c0, c0 = xs[n - (m + 1)]'hlt := ⟨_, rfl⟩
      have hg : xs[n - (m + 1)]? = some c0 := by rw [hc0]; exact List.getElem?_eq_getElem hlt
      obtain ⟨b, o, rfl, hc⟩ : ∃ b o, a = some ⟨b, o, none⟩ ∧ w.cell? ⟨b, o, none⟩ = some (.int .u8 (c0.toNat : Int)) := by
        obtain ⟨_, a', cap', e, _, _, hcs⟩ := HS.out
        obtain ⟨b', o', rfl, h0⟩ := hcs 0 (Bv c0) (by simp [hg])
        simp only [Value.slice.injEq] at e
        exact ⟨b', o', e.1, h0⟩
      obtain ⟨A, C, q, hA⟩ := cut_u8_lo HS.out (lo := 1) (by omega)
      rw [List.drop_drop, show n - (m + 1) + 1 = n - m by omega, Nat.add_sub_cancel] at hA
      rw [Nat.add_sub_cancel] at q
      have q1 : ∀ w', (Instr.slice 28 (.slice (some ⟨b, o, none⟩) (m + 1) cc) (some (.int .i64 1)) none none).run Tryd.prog w' = .ok (.slice A m C) w' := q
      clear q
      have HA := Lib.hid hA
      have HG := Lib.hid hg
      clear hA hg hc0
      by_cases h0 : c0 = 0
      · subst h0
        have hc' : w.cell? ⟨b, o, none⟩ = some (.int .u8 0) := hc
        clear hc
        go_wp2
        go_round
        case rel =>
          refine ⟨m, by omega, HA.out, fun j hj c hcj => ?_, _, _, rfl⟩
          rcases Nat.lt_or_ge j (n - (m + 1)) with h | h
          · exact HZ.out j h c hcj
          · obtain rfl : j = n - (m + 1) := by omega
            rw [HG.out] at hcj
            exact (Option.some.inj hcj).symm
        case measure => simp
      · have hne : ((c0.toNat : Int) == 0) = false := by
          have : c0.toNat ≠ 0 := fun e => h0 (UInt8.toNat_inj.1 (by simpa using e))
          simp; omega
        have H0 := Lib.hid h0
        clear h0
        go_wp2
        go_ret
        exact ⟨rfl, _, m + 1, _, rfl, ⟨fun h => by omega, fun h => absurd (h c0 (List.mem_of_getElem? HG.out)) H0.out⟩⟩

/-- All that is trimmed of noughts on both sides is none just if all is noughts. -/
def Trimmed (w : World) (xs : List UInt8) (e : Ending) (w' : World) : Prop :=
  Below w.heap.size w w' ∧ w'.heap.size = w.heap.size ∧ ∃ a L c, e = .returned (.slice a L c) ∧ (L = 0 ↔ ∀ y ∈ xs, y = 0)

set_option maxRecDepth 100000 in
set_option maxHeartbeats 1000000 in
theorem trim_any (v : Value) (xs : List UInt8) (n : Nat) (w : World) (h : Sl w 1 v n (xs.map Bv)) (hr : n ≤ 140737488351232) :
    Calls Tryd.prog 67 #[v, .string ⟨#[0]⟩] w (Trimmed w xs) := by
  have hxl : xs.length = n := by simpa using h.1
  obtain ⟨a, cap, rfl, _⟩ := h.len
  cases n with
  | zero =>
    have hx : xs = [] := List.eq_nil_of_length_eq_zero hxl
    subst hx
    clear h hxl
    go_enter Tryd.func67, Tryd.ntmps67
    go_wp2
    go_ret
    exact ⟨Below.refl _ _, rfl, _, 0, _, rfl, by simp⟩
  | succ n =>
    have HH := Lib.hid h
    have b0 : (((n + 1 : Nat) : Int) == 0) = false := by simp; omega
    clear h hxl
    go_enter Tryd.func67, Tryd.ntmps67
    go_wp2_with fail
    go_region_with (first | (go_at_call 83; refine (trimRight_any (.slice a (n + 1) cap) xs (n + 1) w.drew HH.out hr).mono ?_; rintro e w1 ⟨rfl, v1, m, rfl, hm, hs1, hz1⟩; have H1 := Lib.hid hs1; have HZ1 := Lib.hid hz1; clear hs1 hz1) | (go_at_call 82; refine (trimLeft_any v1 (xs.take m) m w.drew H1.out (by omega)).mono ?_; rintro e w2 ⟨rfl, a2, L, c2, rfl, hL⟩; have HL := Lib.hid hL; clear hL))
    all_goals
      go_wp2
      go_ret
      refine ⟨(Below.refl _ _).drew, rfl, a2, L, c2, rfl, HL.out.trans ⟨fun h y hy => ?_, fun h y hy => h y (List.mem_of_mem_take hy)⟩⟩
      obtain ⟨j, hj⟩ := List.getElem?_of_mem hy
      rcases Nat.lt_or_ge j m with hjm | hjm
      · exact h y (List.mem_of_getElem? (by rw [List.getElem?_take, if_pos hjm]; exact hj))
      · exact HZ1.out j hjm y hj

end Go.Proofs.YtdmgmpagnmmehaaDoor
