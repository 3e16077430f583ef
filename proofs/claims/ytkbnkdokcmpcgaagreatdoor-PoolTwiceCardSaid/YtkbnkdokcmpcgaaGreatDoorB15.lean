/- Walks: mac.Derive; seal.Derive, Seal, Fits, Open. Walks: node's form, Size, Check. Walks: node's Size, Check. Walks: codec.Writer's Hash, Raw, Pad; the reference's Str and Put. -/
import Derived.Test.YtkbnkdokcmpcgaaGreatDoorB0
import Derived.Test.YtkbnkdokcmpcgaaGreatDoorB4
import Derived.Test.YtkbnkdokcmpcgaaGreatDoorB10
import Derived.Test.YtkbnkdokcmpcgaaGreatDoorB11
import Derived.Test.YtkbnkdokcmpcgaaGreatDoorB14
namespace Go.Proofs.YtkbnkdokcmpcgaaGreatDoor
open Go.RowKit

theorem sl_bytesWorld (w : World) (s : ByteArray) : Sl (Lib.bytesWorld w 5 s) 1 (.slice (some ⟨w.heap.size, 0, none⟩) s.size (grownCap w s.size 0 5)) s.data.toList.length (s.data.toList.map Bv) := by
  have hsz : s.data.toList.length = s.size := by simp
  refine ⟨by simp, some ⟨w.heap.size, 0, none⟩, _, by rw [hsz], by rw [hsz]; exact grownCap_ge _ _ _ _, fun h => (by cases h), fun i u hu => ⟨w.heap.size, 0, rfl, ?_⟩⟩
  rw [List.getElem?_map] at hu
  cases hq : s.data.toList[i]? with
  | none => rw [hq] at hu; cases hu
  | some x =>
    rw [hq] at hu
    obtain rfl := Option.some.inj hu
    have hi : i < s.size := by
      have := (List.getElem?_eq_some_iff.1 hq).1
      simpa using this
    rw [Nat.zero_add, Lib.bytesWorld_cell w _ s i hi, List.getD_eq_getElem?_getD, hq]; rfl

/-- '[]byte(s)' of a text. -/
theorem conv_str {ops : Array Oper} {rest : List Oper} {o : Oper} {a : Act} {w : World} {Q : Exit → Act → World → Prop} (hgd : o.guard = none) (x : Operand) (ho : o.op = .convert 9 26 x) {s : ByteArray} (hx : a.eval x = .string s)
    (hK : ∀ w' C, Sl w' 1 (.slice (some ⟨w.heap.size, 0, none⟩) s.size C) s.data.toList.length (s.data.toList.map Bv) → Below w.heap.size w w' → wpList Tryz.prog ops Q rest (a.put o.dst (.slice (some ⟨w.heap.size, 0, none⟩) s.size C)) w') : wpList Tryz.prog ops Q (o :: rest) a w := by
  refine wpList_plain hgd fun K hKK => ?_
  unfold Oper.wp execOp
  simp only [ho, hx, Sem.run_bind, Lib.run_convert_string_bytes (P := Tryz.prog) w 9 26 5 s Tryz.underlying9 Tryz.underlying26 Tryz.underlying5, Result.andThen_ok]
  exact hKK _ _ (hK _ _ (sl_bytesWorld w s) ⟨rfl, rfl, rfl, by rw [Lib.bytesWorld_size]; omega, fun j hj => Lib.bytesWorld_at_old _ _ s j hj⟩)

set_option maxRecDepth 100000 in
set_option maxHeartbeats 1000000 in
theorem derive1_any (vk : Value) (key : List UInt8) (s : ByteArray) (w : World) (hk : Sl w 1 vk key.length (key.map Bv)) (hr : key.length ≤ 140737488351232) (hs : s.size ≤ 100) :
    Calls Tryz.prog 65 #[vk, .string s] w fun e w' => e = .returned (.agg ((macN key s.data.toList).map Bv).toArray) ∧ Below w.heap.size w w' := by
  have HB1 := Lib.hid (show Below w.heap.size w (w.alloc (.cells ((zB 32).map Bv).toArray 33)) from (Below.refl _ w).alloc (Nat.le_refl _) _)
  have HZ1 := Lib.hid (heap_alloc_new w (.cells ((zB 32).map Bv).toArray 33))
  have HK := Lib.hid hk
  have hsl : s.data.toList.length = s.size := by simp
  have HSl := Lib.hid (show s.data.toList.length + 64 ≤ 140737488351232 by omega)
  clear hk hsl
  go_enter Tryz.func65, Tryz.ntmps65
  go_wp2_with (refine conv_str rfl (.tmp 6) rfl rfl ?_; intro w2 C hsl2 hb2)
  rw [World.size_alloc] at hsl2 hb2
  have hm := mac_any vk _ key s.data.toList w2 (HK.out.below (HB1.out.trans (hb2.mono (by simp)))) hsl2 hr HSl.out
  obtain ⟨hv, hhv⟩ : ∃ hv, hv = macN key s.data.toList := ⟨_, rfl⟩
  rw [← hhv] at hm
  have HHl := Lib.hid (show hv.length = 32 by rw [hhv]; exact macN_length _ _)
  have HHv := Lib.hid hhv
  have HM := Lib.hid hm
  have HZ2 := Lib.hid ((hb2.block _ (by simp)).trans HZ1.out)
  have HB2 := Lib.hid (HB1.out.trans (hb2.mono (by simp)))
  clear hm hhv hsl2 hb2 HK HB1 HZ1
  go_wp2_with fail
  refine HM.out.mono ?_
  rintro e w3 ⟨rfl, hb3⟩
  have HZ3 := Lib.hid ((hb3.block _ (lt_of_block HZ2.out)).trans HZ2.out)
  have HB3 := Lib.hid (HB2.out.trans (hb3.mono HB2.out.size))
  clear hb3 HM HZ2 HB2
  go_wp2_with (refine store_hash rfl (.tmp 4) (.tmp 8) rfl rfl rfl HZ3.out rfl HHl.out ?_; intro w5 hg5 hf5)
  exact bodyPost_ret (ret_hash1 rfl rfl hg5 HHl.out) rfl ⟨by rw [HHv.out], HB3.out.trans (hf5.below HB3.out.size (fun j hj => by omega))⟩

/-- What is sealed under, of a master key: 32 bytes that blocks are enciphered under, 32 that ubers are. -/
def keysOf (master : List UInt8) : List UInt8 := macN master [101, 110, 99] ++ macN master [109, 97, 99]
theorem keysOf_length (m : List UInt8) : (keysOf m).length = 64 := by simp [keysOf, macN_length]
theorem keysOf_take (m : List UInt8) : (keysOf m).take 32 = macN m [101, 110, 99] := by unfold keysOf; rw [List.take_left' (macN_length _ _)]
theorem info_keys : (Tryz.prog.info? 35).map (·.size) = some 64 := by kernel_rfl
theorem und_keys : Tryz.prog.underlying 35 = some (.struct (Tryz.prog.fieldsOf 35)) := by
  unfold Program.fieldsOf; rw [Tryz.underlying35]
theorem zero_keys (w : World) : (zeroValue 35).run Tryz.prog w = .ok (.agg ((zB 64).map Bv).toArray) w := by kernel_rfl
theorem places_keys (w : World) : (placesOf (Tryz.prog.fieldsOf 35)).run Tryz.prog w = .ok #[(0, 32), (32, 32)] w := by kernel_rfl
theorem build_keys {ops : Array Oper} {rest : List Oper} {o : Oper} {a : Act} {w : World} {Q : Exit → Act → World → Prop} (hgd : o.guard = none) (x y : Operand) (ho : o.op = .build 35 #[(0, x), (1, y)])
    {h1 h2 : List UInt8} (hx : a.eval x = .agg (h1.map Bv).toArray) (hy : a.eval y = .agg (h2.map Bv).toArray) (l1 : h1.length = 32) (l2 : h2.length = 32)
    (hK : wpList Tryz.prog ops Q rest (a.put o.dst (.agg ((h1 ++ h2).map Bv).toArray)) w) : wpList Tryz.prog ops Q (o :: rest) a w := by
  have e1 : (h1.map Bv).toArray.size = 32 := by simp [l1]
  have e2 : (h2.map Bv).toArray.size = 32 := by simp [l2]
  refine build_first hgd 35 _ ho [.agg (h1.map Bv).toArray, .agg (h2.map Bv).toArray] (by simp [hx, hy]) _ und_keys _ (zero_keys w) _ (places_keys w) ?_ ?_ ?_
  · simp only [List.map_cons, List.map_nil, Value.cells, e1, e2]; exact ⟨[], rfl⟩
  · simp only [List.map_cons, List.map_nil, Value.cells, e1, e2]; decide
  · simp only [List.map_cons, List.map_nil, Value.cells, e1, e2]
    rw [show (((zB 64).map Bv).toArray.toList.drop (sumL [32, 32])) = [] from rfl, List.append_nil]
    simpa [flatL, Value.cells] using hK

set_option maxRecDepth 100000 in
set_option maxHeartbeats 1000000 in
theorem derive_any (vk : Value) (key : List UInt8) (w : World) (hk : Sl w 1 vk key.length (key.map Bv)) (hr : key.length ≤ 140737488351232) :
    Calls Tryz.prog 20 #[vk] w fun e w' => e = .returned (.agg ((keysOf key).map Bv).toArray) ∧ Below w.heap.size w w' := by
  have HB1 := Lib.hid (show Below w.heap.size w (w.alloc (.cells ((zB 64).map Bv).toArray 35)) from (Below.refl _ w).alloc (Nat.le_refl _) _)
  have HZ1 := Lib.hid (heap_alloc_new w (.cells ((zB 64).map Bv).toArray 35))
  have hd1 := fun u hu => derive1_any vk key ⟨#[101, 110, 99]⟩ u hu hr (by decide)
  have hd2 := fun u hu => derive1_any vk key ⟨#[109, 97, 99]⟩ u hu hr (by decide)
  obtain ⟨h1, hh1⟩ : ∃ h, h = macN key [101, 110, 99] := ⟨_, rfl⟩
  obtain ⟨h2, hh2⟩ : ∃ h, h = macN key [109, 97, 99] := ⟨_, rfl⟩
  rw [show macN key (ByteArray.mk #[101, 110, 99]).data.toList = h1 from hh1.symm] at hd1
  rw [show macN key (ByteArray.mk #[109, 97, 99]).data.toList = h2 from hh2.symm] at hd2
  have L1 := Lib.hid (show h1.length = 32 by rw [hh1]; exact macN_length _ _)
  have L2 := Lib.hid (show h2.length = 32 by rw [hh2]; exact macN_length _ _)
  have HK := Lib.hid (show keysOf key = h1 ++ h2 by rw [hh1, hh2]; rfl)
  have HD1 := Lib.hid hd1
  have HD2 := Lib.hid hd2
  have HV := Lib.hid hk
  clear hd1 hd2 hh1 hh2 hk
  go_enter Tryz.func20, Tryz.ntmps20
  go_wp2_with fail
  refine (HD1.out _ (HV.out.below HB1.out)).mono ?_
  rintro e w2 ⟨rfl, hb2⟩
  have HB2 := Lib.hid (HB1.out.trans (hb2.mono (by simp)))
  have HZ2 := Lib.hid ((hb2.block _ (by simp)).trans HZ1.out)
  clear hb2 HB1 HZ1
  go_wp2_with fail
  refine (HD2.out _ (HV.out.below HB2.out)).mono ?_
  rintro e w3 ⟨rfl, hb3⟩
  have HB3 := Lib.hid (HB2.out.trans (hb3.mono HB2.out.size))
  have HZ3 := Lib.hid ((hb3.block _ (lt_of_block HZ2.out)).trans HZ2.out)
  have HL := Lib.hid (show (h1 ++ h2).length = 64 by rw [List.length_append, L1.out, L2.out])
  clear hb3 HB2 HZ2
  go_wp2_with (first | (refine build_keys rfl (.tmp 4) (.tmp 6) rfl rfl rfl L1.out L2.out ?_) | (refine wpList_store_row rfl _ (.tmp 2) (.tmp 7) rfl w.heap.size rfl ((h1 ++ h2).map Bv) rfl _ _ HZ3.out (by rw [List.length_map, HL.out]; rfl) (Bv_oneCell _) (by rw [info_keys, List.length_map, HL.out]) ?_; intro w8 hg8 hf8 _))
  exact bodyPost_ret (results_cell_row rfl _ _ _ _ _ _ _ rfl hg8 Tryz.underlying35 rfl (by rw [info_keys, List.size_toArray, List.length_map, HL.out])) rfl ⟨by rw [HK.out], HB3.out.trans (hf8.below HB3.out.size (fun j hj => by omega))⟩

theorem wpQuiet_eql_hash {ops : Array Oper} {C : World → Prop} {Q : Act → Prop} {rest : List Oper} {o : Oper} {a : Act} (hw : Region.wanted o (yielded ops a.tmps) = true) (x y : Operand) (yt : TypeId) (ho : o.op = .binOp .eql 33 x y yt)
    {xs ys : List UInt8} (hx : a.eval x = .agg (xs.map Bv).toArray) (hy : a.eval y = .agg (ys.map Bv).toArray) (h1 : xs.length = 32) (h2 : ys.length = 32)
    (h : wpQuiet Tryz.prog ops C Q rest (a.put o.dst (.bool (decide (xs = ys))))) : wpQuiet Tryz.prog ops C Q (o :: rest) a :=
  BigFrame.wpQuiet_want hw fun K hK => ⟨.bool (decide (xs = ys)), fun w' _ => by
    unfold Oper.quietAt execOp
    simp only [ho, hx, hy, Sem.run_bind, run_eqGuard_agg w' _ _ _ _ _ _ guard_hash, Result.andThen_ok, run_eql_hash xs ys h1 h2 w']
    exact ⟨rfl, rfl⟩, hK _ h⟩

theorem places_ptr (w : World) : (placesOf (Tryz.prog.fieldsOf 43)).run Tryz.prog w = .ok #[(0, 1), (1, 1), (2, 32)] w := by kernel_rfl
theorem zero_ptrV (w : World) : (zeroValue 43).run Tryz.prog w = .ok (.agg Pt.zero.arr) w := by kernel_rfl
theorem build_ptr {ops : Array Oper} {rest : List Oper} {o : Oper} {a : Act} {w : World} {Q : Exit → Act → World → Prop} (hgd : o.guard = none) (x y z : Operand) (ho : o.op = .build 43 #[(0, x), (1, y), (2, z)])
    {p : Pt} (hx : a.eval x = .int .u32 (p.addr : Int)) (hy : a.eval y = .int .u64 (p.birth : Int)) (hz : a.eval z = .agg (p.sum.map Bv).toArray) (hl : p.sum.length = 32)
    (hK : wpList Tryz.prog ops Q rest (a.put o.dst (.agg p.arr)) w) : wpList Tryz.prog ops Q (o :: rest) a w := by
  have e1 : (p.sum.map Bv).toArray.size = 32 := by simp [hl]
  refine build_first hgd 43 _ ho [.int .u32 (p.addr : Int), .int .u64 (p.birth : Int), .agg (p.sum.map Bv).toArray] (by simp [hx, hy, hz]) _ und_ptr _ (zero_ptrV w) _ (places_ptr w) ?_ ?_ ?_
  · simp only [List.map_cons, List.map_nil, Value.cells, e1]; exact ⟨[], rfl⟩
  · simp only [List.map_cons, List.map_nil, Value.cells, e1]; exact Nat.le_refl 34
  · simp only [List.map_cons, List.map_nil, Value.cells, e1]
    rw [show (Pt.zero.arr.toList.drop (sumL [(#[Value.int .u32 (p.addr : Int)] : Array Value).size, (#[Value.int .u64 (p.birth : Int)] : Array Value).size, 32])) = [] from rfl, List.append_nil]
    simpa [flatL, Value.cells, Pt.arr, Pt.cells] using hK

theorem ret_tct {P : Program} {fn : Func} {u p v : Tmp} {ty : TypeId} (h : fn.results = #[.tmp u, .cell p ty, .tmp v]) {tmps : Array Value} {w : World} {g : Nat} {cs : List Value} {d : TypeDesc} (hp : tmps.getD p undef = .pointer (some ⟨g, 0, none⟩))
    (hc : At w g 0 cs) (hu : P.underlying ty = some d) (hd : (match d with | .struct _ | .array _ _ => true | _ => false) = true) (hi : (P.info? ty).map (·.size) = some cs.length) :
    (results fn tmps).run P w = .ok (.tuple #[tmps.getD u undef, .agg cs.toArray, tmps.getD v undef]) w := by
  have hl := run_loadVar_at w g 0 ty cs d hc hu hd hi
  simp only [Array.getD_eq_getD_getElem?] at hp
  simp only [results, h]
  simp [Result.andThen, hp, asAddr, hl]

/-- A sealed block's pointer. -/
def sealP (ks : List UInt8) (birth addr : Nat) (b : List UInt8) : Pt := ⟨addr, birth, hashN (cryptB (ks.take 32) (nonceB birth addr) b)⟩
theorem sealP_wf (ks : List UInt8) (birth addr : Nat) (b : List UInt8) (h1 : birth < 18446744073709551616) (h2 : addr < 4294967296) : (sealP ks birth addr b).Wf := ⟨h2, h1, hashN_length _⟩

set_option maxRecDepth 100000 in
set_option maxHeartbeats 2000000 in
theorem seal_any (ks b : List UInt8) (birth addr : Nat) (v : Value) (w : World) (hk : ks.length = 64) (hb : b.length = 512) (hv : Sl w 1 v 512 (b.map Bv)) (h0 : 0 < birth) (h1 : birth < 18446744073709551616) (h2 : 2 ≤ addr) (h3 : addr < 4096) :
    Calls Tryz.prog 112 #[.agg (ks.map Bv).toArray, .int .u64 (birth : Int), .int .u32 (addr : Int), v] w fun e w' => ∃ aa cc, e = .returned (.tuple #[.slice aa 512 cc, .agg (sealP ks birth addr b).arr, .int .i64 0]) ∧
      Sl w' 1 (.slice aa 512 cc) 512 ((cryptB (ks.take 32) (nonceB birth addr) b).map Bv) ∧ (∀ k, (Value.slice aa 512 cc).ownBlock = some k → w.heap.size ≤ k) ∧ Below w.heap.size w w' := by
  have HKl := Lib.hid hk
  have HBl := Lib.hid hb
  have HA := Lib.hid (al2_0 w (.cells (ks.map Bv).toArray 35) (.cells Pt.zero.arr 43))
  have HP := Lib.hid (al2_1 w (.cells (ks.map Bv).toArray 35) (.cells Pt.zero.arr 43))
  have HB := Lib.hid (show Below w.heap.size w ((w.alloc (.cells (ks.map Bv).toArray 35)).alloc (.cells Pt.zero.arr 43)) from ((Below.refl _ w).alloc (Nat.le_refl _) _).alloc (by simp) _)
  obtain ⟨av, cv, rfl, _⟩ := hv.len
  have HV := Lib.hid (hv.below HB.out)
  have H1 := Lib.hid h1
  have hbb : birth ≠ 0 := by omega
  have c1 : ((birth : Int) == 0) = false := by simp; omega
  have c2 : decide ((addr : Int) < 2) = false := by simp; omega
  have c3 : decide ((4096 : Int) ≤ (addr : Int)) = false := by simp; omega
  clear hk hb hv h1
  go_enter Tryz.func112, Tryz.ntmps112
  go_wp2_with fail
  generalize hW : World.alloc _ _ = W
  have HAW := Lib.hid (show W.heap[w.heap.size]? = some (.cells (ks.map Bv).toArray 35 (0, 0)) by rw [← hW]; exact HA.out)
  have HPW := Lib.hid (show W.heap[w.heap.size + 1]? = some (.cells Pt.zero.arr 43 (0, 0)) by rw [← hW]; exact HP.out)
  have HBW := Lib.hid (show Below w.heap.size w W by rw [← hW]; exact HB.out)
  have HVW := Lib.hid (show Sl W 1 (.slice av 512 cv) 512 (b.map Bv) by rw [← hW]; exact HV.out)
  clear hW HA HP HB HV
  have hEl : (ks.take 32).length = 32 := by rw [List.length_take, HKl.out]; rfl
  have hpt := At_part8 HAW.out 0 32
  rw [List.drop_zero] at hpt
  have HSP := Lib.hid (show sealP ks birth addr b = ⟨addr, birth, hashN (cryptB (ks.take 32) (nonceB birth addr) b)⟩ from rfl)
  obtain ⟨en, hen⟩ : ∃ en, en = ks.take 32 := ⟨_, rfl⟩
  rw [← hen] at hEl hpt HSP
  have HEn := Lib.hid hen
  have HEl := Lib.hid hEl
  have HEat := Lib.hid (fun w' (hw : ∃ u : Wd W.heap.size W, w' = u.to) => (by obtain ⟨u, rfl⟩ := hw; exact u.at hpt : At w' w.heap.size 0 (en.map Bv)))
  have HMade := Lib.hid (fun (u : Wd W.heap.size W) => Calls.wd u (Nat.le_refl _) (made_nonce_any birth addr u.to))
  obtain ⟨nc, hnc⟩ : ∃ nc, nc = nonceB birth addr := ⟨_, rfl⟩
  rw [← hnc] at HMade HSP
  have HNc := Lib.hid hnc
  have HNl := Lib.hid (show nc.length = 12 by rw [hnc]; exact nonceB_length _ _)
  clear hEl hpt hen hnc
  refine wp_region_class_one 6 (C := fun w' => ∃ u : Wd W.heap.size W, w' = u.to) (by kernel_rfl) (by kernel_rfl) ⟨⟨{ W with drawn := W.drawn + 1 }, (Below.refl _ W).drew⟩, rfl⟩ rfl ?_
  simp only [List.take_succ_cons, List.take_zero, List.drop_succ_cons, List.drop_zero]
  repeat (first | (refine wpQuiet_load_at rfl 32 (.tmp 30) rfl w.heap.size 0 rfl _ _ HEat.out Tryz.underlying32 rfl (by rw [info_key]; simp [HEl.out]) ?_; simp only [Act.put, List.setIfInBounds_toArray, List.set_cons_succ, List.set_cons_zero]) | go_big_quiet_step (with_reducible exact HMade.out _))
  refine wpQuiet_nil ?_
  refine ⟨rfl, ?_⟩
  rintro w3 ⟨⟨_, hb3⟩, rfl⟩ KK hKK
  have HP3 := Lib.hid ((hb3.block _ (lt_of_block HPW.out)).trans HPW.out)
  have HB3 := Lib.hid (HBW.out.trans (hb3.mono HBW.out.size))
  have hcr := crypt_any en nc b (.slice av 512 cv) w3 HEl.out HNl.out (by rw [HBl.out]; decide) (by rw [HBl.out]; exact HVW.out.below hb3)
  rw [HBl.out] at hcr
  have HCr := Lib.hid hcr
  have HKK := Lib.hid hKK
  clear hcr hb3 HAW HPW HBW HVW HMade HEat hKK
  unfold Oper.wp execOp
  go_simp
  refine HCr.out.mono ?_
  rintro e w4 ⟨aa, cc, rfl, hown, hb4⟩
  have HGe := Lib.hid (show ∀ k, (Value.slice aa 512 cc).ownBlock = some k → w.heap.size ≤ k from fun k hk => Nat.le_trans HB3.out.size (hown.lt k hk).1)
  have HNo := Lib.hid (show ∀ a m c, Value.slice aa 512 cc = .slice (some a) m c → ¬ a.block = w.heap.size + 1 from fun a m c e => by
    have h1 := hown.lt a.block (by rw [e]; rfl)
    have h2 := lt_of_block HP3.out
    omega)
  have HS4 := Lib.hid (Sl.own hown)
  have HP4 := Lib.hid ((hb4.block _ (lt_of_block HP3.out)).trans HP3.out)
  have HB4 := Lib.hid (HB3.out.trans (hb4.mono HB3.out.size))
  obtain ⟨c, hc⟩ : ∃ c, c = cryptB en nc b := ⟨_, rfl⟩
  rw [← hc] at HS4 HSP
  have HCv := Lib.hid hc
  have HCl := Lib.hid (show c.length = 512 by rw [hc, cryptB_length _ _ _ HEl.out HNl.out, HBl.out])
  clear hown hb4 HP3 HB3 HCr hc
  refine HKK.out _ _ ?_
  clear HKK
  repeat (go_big_quiet_step (fail))
  refine wpQuiet_nil ?_
  rintro _ ⟨nq, rfl⟩
  obtain ⟨wq, hwq⟩ : ∃ wq, wq = w4.drewN nq := ⟨_, rfl⟩
  have HSq := Lib.hid (show Sl wq 1 (.slice aa 512 cc) 512 (c.map Bv) by rw [hwq]; exact HS4.out.below (belowDrewN (Below.refl _ _) _))
  have HPq := Lib.hid (show wq.heap[w.heap.size + 1]? = some (.cells Pt.zero.arr 43 (0, 0)) by rw [hwq]; exact HP4.out)
  have HBq := Lib.hid (show Below w.heap.size w wq by rw [hwq]; exact belowDrewN HB4.out _)
  rw [← hwq]
  clear HS4 HP4 HB4 hwq
  go_wp2_with fail
  have hsum := shaSum_any (.slice aa 512 cc) c wq (by rw [HCl.out]; exact HSq.out) (by rw [HCl.out]; decide)
  refine hsum.mono ?_
  clear hsum
  rintro e w5 ⟨rfl, hb5⟩
  have HS5 := Lib.hid (HSq.out.below hb5)
  have HP5 := Lib.hid ((hb5.block _ (lt_of_block HPq.out)).trans HPq.out)
  have HB5 := Lib.hid (HBq.out.trans (hb5.mono HBq.out.size))
  obtain ⟨p, hp⟩ : ∃ p, p = sealP ks birth addr b := ⟨_, rfl⟩
  rw [← hp] at HSP
  have HPv := Lib.hid hp
  have HPs := Lib.hid (show p.addr = addr ∧ p.birth = birth ∧ p.sum = hashN c by rw [HSP.out]; exact ⟨rfl, rfl, rfl⟩)
  have HPw := Lib.hid (show p.Wf by rw [hp]; exact sealP_wf ks birth addr b H1.out (by omega))
  clear hb5 HSq HPq HBq hp
  rw [← HPs.out.2.2]
  go_wp2_with (first | (refine build_ptr rfl (.tmp 44) (.tmp 45) (.tmp 47) rfl (p := p) (by rw [HPs.out.1]; rfl) (by rw [HPs.out.2.1]; rfl) rfl HPw.out.sum ?_) | (refine store_ptr rfl (.tmp 9) (.tmp 48) rfl rfl rfl HP5.out rfl HPw.out ?_; intro w6 hg6 hf6 _))
  refine bodyPost_ret (ret_tct rfl rfl (cs := p.cells) (At.of_row (by simpa [Pt.arr] using hg6)) Tryz.underlying43 rfl (by rw [info_ptr, HPw.out.len])) rfl ⟨aa, cc, by rw [← HPv.out]; rfl, ?_, HGe.out, ?_⟩
  · rw [← HEn.out, ← HNc.out, ← HCv.out]
    exact HS5.out.fr hf6 (fun a m c e => HNo.out a m c e)
  · exact HB5.out.trans (hf6.below HB5.out.size (fun j hj => by omega))

set_option maxRecDepth 100000 in
set_option maxHeartbeats 1000000 in
theorem fits_any (p : Pt) (xs : List UInt8) (v : Value) (w : World) (hp : p.Wf) (hx : xs.length = 512) (hv : Sl w 1 v 512 (xs.map Bv)) :
    Calls Tryz.prog 114 #[.agg p.arr, v] w fun e w' => e = .returned (.bool (decide (hashN xs = p.sum))) ∧ Below w.heap.size w w' := by
  obtain ⟨av, cv, rfl, _⟩ := hv.len
  have hb : Below w.heap.size w (w.alloc (.cells p.arr 43)) := (Below.refl _ w).alloc (Nat.le_refl _) _
  have hat := Pt.sumAt (At_box w p 43)
  have hv1 := hv.below hb
  obtain ⟨W, hW⟩ : ∃ W, W = w.alloc (.cells p.arr 43) := ⟨_, rfl⟩
  rw [← hW] at hb hat hv1
  have HB := Lib.hid hb
  have HAt := Lib.hid (fun w' (hw : ∃ u : Wd W.heap.size W, w' = u.to) => (by obtain ⟨u, rfl⟩ := hw; exact u.at hat : At w' w.heap.size (0 + 2) (p.sum.map Bv)))
  have HSum := Lib.hid (fun (u : Wd W.heap.size W) => Calls.wd u (Nat.le_refl _) (shaSum_any (.slice av 512 cv) xs u.to (by rw [hx]; exact hv1.below u.hb) (by rw [hx]; decide)))
  obtain ⟨hs, hhs⟩ : ∃ h, h = hashN xs := ⟨_, rfl⟩
  rw [← hhs] at HSum ⊢
  have HHl := Lib.hid (show hs.length = 32 by rw [hhs]; exact hashN_length _)
  have HW := Lib.hid hW
  have HPl := Lib.hid hp.sum
  have hsz : W.heap.size = w.heap.size + 1 := by rw [hW]; simp
  have HSz := Lib.hid hsz
  clear hb hat hv1 hv hx hp hhs hsz hW
  go_enter Tryz.func114, Tryz.ntmps114
  go_wp2_with fail
  rw [← HW.out]
  refine wp_region_wd W.heap.size (by kernel_rfl) (by kernel_rfl) ?_
  repeat (first | (refine wpQuiet_load_at rfl 33 (.tmp 11) rfl w.heap.size (0 + 2) rfl _ _ HAt.out Tryz.underlying33 rfl (by rw [info_hash']; simp [HPl.out]) ?_; simp only [Act.put, List.setIfInBounds_toArray, List.set_cons_succ, List.set_cons_zero]) | (refine wpQuiet_eql_hash rfl (.tmp 10) (.tmp 12) _ rfl rfl rfl HHl.out HPl.out ?_; simp only [Act.put, List.setIfInBounds_toArray, List.set_cons_succ, List.set_cons_zero]) | go_big_quiet_step (with_reducible exact HSum.out _))
  refine wpQuiet_nil ?_
  rintro w3 ⟨⟨_, hb3⟩, rfl⟩
  have HB3 := Lib.hid (HB.out.trans (hb3.mono (by rw [HSz.out]; omega)))
  clear hb3
  go_wp2
  go_ret
  exact ⟨rfl, HB3.out⟩

set_option maxRecDepth 100000 in
set_option maxHeartbeats 1000000 in
theorem open_no (ks xs : List UInt8) (p : Pt) (v : Value) (w : World) (hp : p.Wf) (hx : xs.length = 512) (hv : Sl w 1 v 512 (xs.map Bv)) (hs : hashN xs ≠ p.sum) :
    Calls Tryz.prog 69 #[.agg (ks.map Bv).toArray, .agg p.arr, v] w fun e w' => e = .returned (.tuple #[.slice none 0 0, .int .i64 5]) ∧ Below w.heap.size w w' := by
  obtain ⟨av, cv, rfl, _⟩ := hv.len
  have hb : Below w.heap.size w ((w.alloc (.cells (ks.map Bv).toArray 35)).alloc (.cells p.arr 43)) := ((Below.refl _ w).alloc (Nat.le_refl _) _).alloc (by simp) _
  have hat : At ((w.alloc (.cells (ks.map Bv).toArray 35)).alloc (.cells p.arr 43)) (w.heap.size + 1) 0 p.cells := by
    have h := At_box (w.alloc (.cells (ks.map Bv).toArray 35)) p 43
    rwa [World.size_alloc] at h
  have hf := fits_any p xs (.slice av 512 cv) _ hp hx (hv.below hb)
  rw [show decide (hashN xs = p.sum) = false by simp [hs]] at hf
  have HF := Lib.hid hf
  have HB := Lib.hid hb
  have HAt := Lib.hid hat
  have HP := Lib.hid hp
  clear hf hb hat hv hx hp hs
  go_enter Tryz.func69, Tryz.ntmps69
  go_wp2_with (refine load_ptr rfl (.tmp 4) rfl rfl HAt.out HP.out ?_)
  refine HF.out.mono ?_
  rintro e w3 ⟨rfl, hb3⟩
  have HB3 := Lib.hid (HB.out.trans (hb3.mono (by simp; omega)))
  clear hb3
  go_wp2
  go_ret2
  exact ⟨rfl, HB3.out⟩

set_option maxRecDepth 100000 in
set_option maxHeartbeats 1000000 in
theorem open_yes (ks xs : List UInt8) (p : Pt) (v : Value) (w : World) (hk : ks.length = 64) (hp : p.Wf) (hx : xs.length = 512) (hv : Sl w 1 v 512 (xs.map Bv)) (hs : hashN xs = p.sum) :
    Calls Tryz.prog 69 #[.agg (ks.map Bv).toArray, .agg p.arr, v] w fun e w' => ∃ aa cc, e = .returned (.tuple #[.slice aa 512 cc, .int .i64 0]) ∧
      Sl w' 1 (.slice aa 512 cc) 512 ((cryptB (ks.take 32) (nonceB p.birth p.addr) xs).map Bv) ∧ Below w.heap.size w w' := by
  obtain ⟨av, cv, rfl, _⟩ := hv.len
  have hb : Below w.heap.size w ((w.alloc (.cells (ks.map Bv).toArray 35)).alloc (.cells p.arr 43)) := ((Below.refl _ w).alloc (Nat.le_refl _) _).alloc (by simp) _
  have hat : At ((w.alloc (.cells (ks.map Bv).toArray 35)).alloc (.cells p.arr 43)) (w.heap.size + 1) 0 p.cells := by
    have h := At_box (w.alloc (.cells (ks.map Bv).toArray 35)) p 43
    rwa [World.size_alloc] at h
  have hka := al2_0 w (.cells (ks.map Bv).toArray 35) (.cells p.arr 43)
  have hvb := hv.below hb
  have hf := fits_any p xs (.slice av 512 cv) _ hp hx hvb
  rw [show decide (hashN xs = p.sum) = true by simp [hs]] at hf
  have HF := Lib.hid hf
  have HB := Lib.hid hb
  have HAt := Lib.hid hat
  have HKa := Lib.hid hka
  have HVb := Lib.hid hvb
  have HP := Lib.hid hp
  have HXl := Lib.hid hx
  have HKl := Lib.hid hk
  clear hf hb hat hka hvb hv hx hp hs hk
  go_enter Tryz.func69, Tryz.ntmps69
  go_wp2_with (refine load_ptr rfl (.tmp 4) rfl rfl HAt.out HP.out ?_)
  refine HF.out.mono ?_
  rintro e W ⟨rfl, hb3⟩
  have HBW := Lib.hid (HB.out.trans (hb3.mono (by simp; omega)))
  have HVW := Lib.hid (HVb.out.below hb3)
  have hkp := At_part8 ((hb3.block _ (lt_of_block HKa.out)).trans HKa.out) 0 32
  rw [List.drop_zero] at hkp
  have hpp : At W (w.heap.size + 1) 0 p.cells := fun i u hi => (hb3.cell (World.block_lt_of_cell? _ _ (HAt.out i u hi))).trans (HAt.out i u hi)
  have cA := hpp 0 (.int .u32 (p.addr : Int)) rfl
  have cB := hpp 1 (.int .u64 (p.birth : Int)) rfl
  have hEl : (ks.take 32).length = 32 := by rw [List.length_take, HKl.out]; rfl
  obtain ⟨en, hen⟩ : ∃ en, en = ks.take 32 := ⟨_, rfl⟩
  rw [← hen] at hEl hkp
  have HEn := Lib.hid hen
  have HEl := Lib.hid hEl
  have HEat := Lib.hid (fun w' (hw : ∃ u : Wd W.heap.size W, w' = u.to) => (by obtain ⟨u, rfl⟩ := hw; exact u.at hkp : At w' w.heap.size 0 (en.map Bv)))
  have uA := fun (u : Wd W.heap.size W) => u.cell' cA
  have uB := fun (u : Wd W.heap.size W) => u.cell' cB
  have HMade := Lib.hid (fun (u : Wd W.heap.size W) => Calls.wd u (Nat.le_refl _) (made_nonce_any p.birth p.addr u.to))
  obtain ⟨nc, hnc⟩ : ∃ nc, nc = nonceB p.birth p.addr := ⟨_, rfl⟩
  rw [← hnc] at HMade
  have HNc := Lib.hid hnc
  have HNl := Lib.hid (show nc.length = 12 by rw [hnc]; exact nonceB_length _ _)
  clear hEl hkp hen hnc hb3 HF HB HAt HKa HVb hpp cA cB
  go_wp2_with fail
  refine wp_region_class_one 8 (C := fun w' => ∃ u : Wd W.heap.size W, w' = u.to) (by kernel_rfl) (by kernel_rfl) ⟨⟨{ W with drawn := W.drawn + 1 }, (Below.refl _ W).drew⟩, rfl⟩ rfl ?_
  simp only [List.take_succ_cons, List.take_zero, List.drop_succ_cons, List.drop_zero]
  repeat (first | (refine wpQuiet_load_at rfl 32 (.tmp 17) rfl w.heap.size 0 rfl _ _ HEat.out Tryz.underlying32 rfl (by rw [info_key]; simp [HEl.out]) ?_; simp only [Act.put, List.setIfInBounds_toArray, List.set_cons_succ, List.set_cons_zero]) | go_big_quiet_step (with_reducible exact HMade.out _))
  refine wpQuiet_nil ?_
  refine ⟨rfl, ?_⟩
  rintro w3 ⟨⟨_, hb3⟩, rfl⟩ KK hKK
  have HB3 := Lib.hid (HBW.out.trans (hb3.mono HBW.out.size))
  have hcr := crypt_any en nc xs (.slice av 512 cv) w3 HEl.out HNl.out (by rw [HXl.out]; decide) (by rw [HXl.out]; exact HVW.out.below hb3)
  rw [HXl.out] at hcr
  have HCr := Lib.hid hcr
  have HKK := Lib.hid hKK
  clear hcr hb3 HBW HVW HMade HEat hKK uA uB
  unfold Oper.wp execOp
  go_simp
  refine HCr.out.mono ?_
  rintro e w4 ⟨aa, cc, rfl, hown, hb4⟩
  have HS4 := Lib.hid (Sl.own hown)
  have HB4 := Lib.hid (HB3.out.trans (hb4.mono HB3.out.size))
  clear hown hb4 HCr HB3
  refine HKK.out _ _ ?_
  clear HKK
  repeat (go_big_quiet_step (fail))
  refine wpQuiet_nil ?_
  rintro _ ⟨nq, rfl⟩
  go_wp2
  go_ret2
  exact ⟨aa, cc, rfl, by rw [← HEn.out, ← HNc.out]; exact HS4.out.below (belowDrewN (Below.refl _ _) _), belowDrewN HB4.out _⟩

end Go.Proofs.YtkbnkdokcmpcgaaGreatDoor
namespace Go.Proofs.YtkbnkdokcmpcgaaGreatDoor
open Go.RowKit

/-- Is all of a node as it must be, but its size? -/
def formB (n : Nd) : Bool :=
  keysB n.keys && (if n.leaf then decide (n.vals.length = n.keys.length) && decide (n.kids.length = 0) && !longB n.vals
    else decide (n.vals.length = 0) && decide (0 < n.keys.length) && decide (n.kids.length = n.keys.length + 1) && !badB n.kids)

theorem beq_nat (a b : Nat) : ((a : Int) == (b : Int)) = decide (a = b) := by rw [Bool.eq_iff_iff]; simp only [beq_iff_eq, decide_eq_true_iff]; omega
theorem beq_zero (a : Nat) : ((a : Int) == 0) = decide (a = 0) := beq_nat a 0
theorem beq_succ (a b : Nat) : ((a : Int) == (b : Int) + 1) = decide (a = b + 1) := by rw [Bool.eq_iff_iff]; simp only [beq_iff_eq, decide_eq_true_iff]; omega

/-- Bounds on a node that came in. -/
structure Nd.Fits (n : Nd) : Prop where
  keys : n.keys.length ≤ 140737488351232
  vals : n.vals.length ≤ 140737488351232
  kids : n.kids.length ≤ 4139337892682
  keyS : ∀ s ∈ n.keys, s.size ≤ 140737488351232
  valS : ∀ s ∈ n.vals, s.size ≤ 140737488351232

theorem NdIs.get {w : World} {arr : Array Value} {n : Nd} (h : NdIs w arr n) : ∃ ak ck av cv ap cp, arr = #[.bool n.leaf, .slice ak n.keys.length ck, .slice av n.vals.length cv, .slice ap n.kids.length cp] ∧
    StrsIn w (.slice ak n.keys.length ck) n.keys ∧ StrsIn w (.slice av n.vals.length cv) n.vals ∧ PtsIn w (.slice ap n.kids.length cp) n.kids := by
  obtain ⟨vk, vv, vp, h0, h1, h2, h3⟩ := h
  obtain ⟨ak, ck, rfl, _⟩ := h1.open
  obtain ⟨av, cv, rfl, _⟩ := h2.open
  obtain ⟨ap, cp, rfl, _⟩ := h3.open
  exact ⟨ak, ck, av, cv, ap, cp, h0, h1, h2, h3⟩

set_option maxHeartbeats 2000000 in
theorem form_any (arr : Array Value) (n : Nd) (w : World) (h : NdIs w arr n) (hf : n.Fits) :
    Calls Tryz.prog 123 #[.agg arr] w fun e w' => e = .returned (.bool (formB n)) ∧ Below w.heap.size w w' := by
  obtain ⟨ak, ck, av, cv, ap, cp, rfl, hk, hv, hp⟩ := h.get
  have hb0 : Below w.heap.size w (w.alloc (.cells #[.bool n.leaf, .slice ak n.keys.length ck, .slice av n.vals.length cv, .slice ap n.kids.length cp] 25)) := (Below.refl _ w).alloc (Nat.le_refl _) _
  have HK := Lib.hid (hk.below hb0)
  have HV := Lib.hid (hv.below hb0)
  have HP := Lib.hid (hp.below hb0)
  have HB := Lib.hid hb0
  have HF := Lib.hid hf
  have b1 := hf.keys
  have b2 := hf.vals
  have b3 := hf.kids
  clear h hk hv hp hb0 hf
  cases hkb : keysB n.keys with
  | false =>
    have HQ := Lib.hid (show formB n = false by unfold formB; rw [hkb]; rfl)
    have HKK := Lib.hid (fun v w h => keys_any v n.keys w h HF.out.keys)
    rw [hkb] at HKK
    clear hkb
    go_enter Tryz.func123, Tryz.ntmps123
    go_wp2_with fail
    refine (HKK.out _ _ HK.out).mono ?_
    rintro e w1 ⟨rfl, rfl⟩
    go_wp2
    go_ret
    exact ⟨by rw [HQ.out]; rfl, HB.out⟩
  | true =>
    have HKK := Lib.hid (fun v w h => keys_any v n.keys w h HF.out.keys)
    rw [hkb] at HKK
    cases hl : n.leaf with
    | true =>
      have hq : formB n = (decide (n.vals.length = n.keys.length) && decide (n.kids.length = 0) && !longB n.vals) := by unfold formB; rw [hkb, hl]; simp
      rw [hl] at HK HV HP HB
      clear hkb hl
      by_cases h1 : n.vals.length = n.keys.length
      · by_cases h2 : n.kids.length = 0
        · rw [decide_eq_true h1, decide_eq_true h2] at hq
          have HQ := Lib.hid hq
          have e1 : ((n.vals.length : Int) == (n.keys.length : Int)) = true := by rw [beq_nat]; first | exact decide_eq_true h1 | exact decide_eq_false h1
          have e2 : ((n.kids.length : Int) == 0) = true := by rw [beq_zero]; exact decide_eq_true h2
          clear h1 h2 hq
          go_enter Tryz.func123, Tryz.ntmps123
          go_wp2_with fail
          refine (HKK.out _ _ HK.out).mono ?_
          rintro e w1 ⟨rfl, rfl⟩
          go_wp2_with fail
          refine (containsLong_any _ _ _ HV.out HF.out.vals).mono ?_
          rintro e w1 ⟨rfl, rfl⟩
          go_wp2
          go_ret
          exact ⟨by rw [HQ.out]; rfl, HB.out⟩
        · rw [decide_eq_true h1, decide_eq_false h2] at hq
          have HQ := Lib.hid hq
          have e1 : ((n.vals.length : Int) == (n.keys.length : Int)) = true := by rw [beq_nat]; first | exact decide_eq_true h1 | exact decide_eq_false h1
          have e2 : ((n.kids.length : Int) == 0) = false := by rw [beq_zero]; exact decide_eq_false h2
          clear h1 h2 hq
          go_enter Tryz.func123, Tryz.ntmps123
          go_wp2_with fail
          refine (HKK.out _ _ HK.out).mono ?_
          rintro e w1 ⟨rfl, rfl⟩
          go_wp2
          go_ret
          exact ⟨by rw [HQ.out]; rfl, HB.out⟩
      · rw [decide_eq_false h1] at hq
        have HQ := Lib.hid hq
        have e1 : ((n.vals.length : Int) == (n.keys.length : Int)) = false := by rw [beq_nat]; first | exact decide_eq_true h1 | exact decide_eq_false h1
        clear h1 hq
        go_enter Tryz.func123, Tryz.ntmps123
        go_wp2_with fail
        refine (HKK.out _ _ HK.out).mono ?_
        rintro e w1 ⟨rfl, rfl⟩
        go_wp2
        go_ret
        exact ⟨by rw [HQ.out]; rfl, HB.out⟩
    | false =>
      have hq : formB n = (decide (n.vals.length = 0) && decide (0 < n.keys.length) && decide (n.kids.length = n.keys.length + 1) && !badB n.kids) := by unfold formB; rw [hkb, hl]; simp
      rw [hl] at HK HV HP HB
      clear hkb hl
      by_cases h1 : n.vals.length = 0
      · by_cases h2 : 0 < n.keys.length
        · by_cases h3 : n.kids.length = n.keys.length + 1
          · rw [decide_eq_true h1, decide_eq_true h2, decide_eq_true h3] at hq
            have HQ := Lib.hid hq
            have e1 : ((n.vals.length : Int) == 0) = true := by rw [beq_zero]; exact decide_eq_true h1
            have e2 : (0 : Int) < (n.keys.length : Int) := by omega
            have e3 : ((n.kids.length : Int) == (n.keys.length : Int) + 1) = true := by rw [beq_succ]; exact decide_eq_true h3
            clear h1 h2 h3 hq
            go_enter Tryz.func123, Tryz.ntmps123
            go_wp2_with fail
            refine (HKK.out _ _ HK.out).mono ?_
            rintro e w1 ⟨rfl, rfl⟩
            go_wp2_with fail
            refine (containsBad_any _ _ _ HP.out (by omega)).mono ?_
            rintro e w2 ⟨rfl, hb⟩
            have HB2 := Lib.hid (HB.out.trans (hb.mono HB.out.size))
            clear hb
            go_wp2
            go_ret
            exact ⟨by rw [HQ.out]; rfl, HB2.out⟩
          · rw [decide_eq_true h1, decide_eq_true h2, decide_eq_false h3] at hq
            have HQ := Lib.hid hq
            have e1 : ((n.vals.length : Int) == 0) = true := by rw [beq_zero]; exact decide_eq_true h1
            have e2 : (0 : Int) < (n.keys.length : Int) := by omega
            have e3 : ((n.kids.length : Int) == (n.keys.length : Int) + 1) = false := by rw [beq_succ]; exact decide_eq_false h3
            clear h1 h2 h3 hq
            go_enter Tryz.func123, Tryz.ntmps123
            go_wp2_with fail
            refine (HKK.out _ _ HK.out).mono ?_
            rintro e w1 ⟨rfl, rfl⟩
            go_wp2
            go_ret
            exact ⟨by rw [HQ.out]; rfl, HB.out⟩
        · rw [decide_eq_true h1, decide_eq_false h2] at hq
          have HQ := Lib.hid hq
          have e1 : ((n.vals.length : Int) == 0) = true := by rw [beq_zero]; exact decide_eq_true h1
          have e2 : ¬ (0 : Int) < (n.keys.length : Int) := by omega
          clear h1 h2 hq
          go_enter Tryz.func123, Tryz.ntmps123
          go_wp2_with fail
          refine (HKK.out _ _ HK.out).mono ?_
          rintro e w1 ⟨rfl, rfl⟩
          go_wp2
          go_ret
          exact ⟨by rw [HQ.out]; rfl, HB.out⟩
      · rw [decide_eq_false h1] at hq
        have HQ := Lib.hid hq
        have e1 : ((n.vals.length : Int) == 0) = false := by rw [beq_zero]; exact decide_eq_false h1
        clear h1 hq
        go_enter Tryz.func123, Tryz.ntmps123
        go_wp2_with fail
        refine (HKK.out _ _ HK.out).mono ?_
        rintro e w1 ⟨rfl, rfl⟩
        go_wp2
        go_ret
        exact ⟨by rw [HQ.out]; rfl, HB.out⟩

end Go.Proofs.YtkbnkdokcmpcgaaGreatDoor
namespace Go.Proofs.YtkbnkdokcmpcgaaGreatDoor
open Go.RowKit

def strsN (l : List ByteArray) : Nat := (l.map (fun s => 1 + s.size)).sum
theorem strsN_step (l : List ByteArray) (k : Nat) (h : k < l.length) : strsN (l.take (k + 1)) = strsN (l.take k) + (1 + l[k].size) := by
  unfold strsN
  rw [List.take_succ_eq_append_getElem h, List.map_append, List.sum_append]; simp
theorem strsN_le (m : Nat) : ∀ (l : List ByteArray), (∀ s ∈ l, s.size ≤ m) → strsN l ≤ (m + 1) * l.length
  | [], _ => by simp [strsN]
  | a :: l, h => by
    have h1 := strsN_le m l (fun s hs => h s (by simp [hs]))
    have h2 := h a (by simp)
    have e : strsN (a :: l) = (1 + a.size) + strsN l := by simp [strsN]
    rw [e, List.length_cons, Nat.mul_succ]; omega
def sizeN (n : Nd) : Nat := 2 + 44 * n.kids.length + strsN n.keys + strsN n.vals
def sizeV (n : Nd) : Int := if formB n then (sizeN n : Int) else 0
def sizeR (n : Nd) : Int := if formB n then 0 else 4
theorem sizeV_ok {n : Nd} (h : formB n = true) : sizeV n = (sizeN n : Int) := by unfold sizeV; rw [if_pos h]
theorem sizeR_ok {n : Nd} (h : formB n = true) : sizeR n = 0 := by unfold sizeR; rw [if_pos h]
theorem sizeV_bad {n : Nd} (h : formB n = false) : sizeV n = 0 := by unfold sizeV; rw [if_neg (by rw [h]; simp)]
theorem sizeR_bad {n : Nd} (h : formB n = false) : sizeR n = 4 := by unfold sizeR; rw [if_neg (by rw [h]; simp)]

theorem keysB_size {l : List ByteArray} (h : keysB l = true) : ∀ s ∈ l, s.size ≤ 32 := by
  intro s hs
  obtain ⟨i, hi, rfl⟩ := List.getElem_of_mem hs
  have h1 := List.all_eq_true.1 h i (by simpa using hi)
  unfold keyAt at h1
  rw [List.getElem?_eq_getElem hi] at h1
  simp only [Bool.and_eq_true, decide_eq_true_iff] at h1
  exact h1.1.2
theorem formB_keys {n : Nd} (h : formB n = true) : keysB n.keys = true := by
  unfold formB at h; simp only [Bool.and_eq_true] at h; exact h.1
theorem formB_vals {n : Nd} (h : formB n = true) : ∀ s ∈ n.vals, s.size ≤ 96 := by
  unfold formB at h
  simp only [Bool.and_eq_true] at h
  have h2 := h.2
  split at h2
  · simp only [Bool.and_eq_true, Bool.not_eq_true', decide_eq_true_iff] at h2
    intro s hs
    have := List.any_eq_false.1 h2.2 s hs
    simp at this; omega
  · simp only [Bool.and_eq_true, decide_eq_true_iff] at h2
    have : n.vals = [] := List.eq_nil_of_length_eq_zero h2.1.1.1
    rw [this]; simp

theorem size_strs : ∃ i, Tryz.prog.info? 22 = some i ∧ i.size = 1 := by
  have h1 : (Tryz.prog.info? 22).map (·.size) = some 1 := by kernel_rfl
  cases hq : Tryz.prog.info? 22 with
  | none => simp [hq] at h1
  | some i => exact ⟨i, rfl, by simpa [hq] using h1⟩
theorem index_two (cs : Array Value) (k : Nat) (x : Value) (h : cs[k]? = some x) (hk : k < 2) (w : World) : (Instr.index 223 (.agg cs) (.int .i64 (k : Int))).run Tryz.prog w = .ok x w := by
  obtain ⟨i, hi, hs⟩ := size_strs
  have hsz : (sizeOf 22).run Tryz.prog w = .ok 1 w := by simp [sizeOf, typeInfo, hi, hs]
  have hpart : (part 22 cs k).run Tryz.prog w = .ok x w := by
    simp [part, isAgg, run_underlying Tryz.underlying22, h]
  unfold Instr.index
  simp only [asIntOf, Sem.run_bind, Sem.run_pure, Result.andThen_ok, run_underlying Tryz.underlying223]
  rw [if_pos (by omega)]
  simp only [Sem.run_bind, hsz, Result.andThen_ok, Nat.mul_one, Int.toNat_natCast, hpart]

set_option maxRecDepth 100000 in
set_option maxHeartbeats 2000000 in
theorem size_any (arr : Array Value) (n : Nd) (w : World) (h : NdIs w arr n) (hf : n.Fits) :
    Calls Tryz.prog 76 #[.agg arr] w fun e w' => e = .returned (.tuple #[.int .i64 (sizeV n), .int .i64 (sizeR n)]) ∧ Below w.heap.size w w' := by
  have HN := Lib.hid h
  obtain ⟨ak, ck, av, cv, ap, cp, rfl, hk, hv, hp⟩ := h.get
  have hb0 : Below w.heap.size w (w.alloc (.cells #[.bool n.leaf, .slice ak n.keys.length ck, .slice av n.vals.length cv, .slice ap n.kids.length cp] 25)) := (Below.refl _ w).alloc (Nat.le_refl _) _
  have HK := Lib.hid hk
  have HV := Lib.hid hv
  have HB := Lib.hid hb0
  have HF := Lib.hid hf
  have b1 := hf.keys
  have b2 := hf.vals
  have b3 := hf.kids
  have HFm := Lib.hid (fun w h => form_any #[.bool n.leaf, .slice ak n.keys.length ck, .slice av n.vals.length cv, .slice ap n.kids.length cp] n w h HF.out)
  have HN0 := Lib.hid (HN.out.below hb0)
  clear h hk hv hp hb0 hf
  cases hfb : formB n with
  | false =>
    have HQ := Lib.hid (And.intro (sizeV_bad hfb) (sizeR_bad hfb))
    rw [hfb] at HFm
    clear hfb
    go_enter Tryz.func76, Tryz.ntmps76
    go_wp2_with fail
    refine (HFm.out _ HN0.out).mono ?_
    rintro e w1 ⟨rfl, hb⟩
    have HB1 := Lib.hid (HB.out.trans (hb.mono HB.out.size))
    clear hb
    go_wp2
    go_ret2
    exact ⟨by rw [HQ.out.1, HQ.out.2]; rfl, HB1.out⟩
  | true =>
    have HQ := Lib.hid (And.intro (sizeV_ok hfb) (sizeR_ok hfb))
    have hks := keysB_size (formB_keys hfb)
    have hvs := formB_vals hfb
    have hkn := strsN_le 32 n.keys hks
    have hvn := strsN_le 96 n.vals hvs
    rw [hfb] at HFm
    have HKS := Lib.hid hks
    have HVS := Lib.hid hvs
    clear hfb hks hvs
    have hkt : ∀ j, strsN (n.keys.take j) ≤ 33 * 140737488351232 := fun j => by
      have h1 := strsN_le 32 (n.keys.take j) (fun s hs => HKS.out s (List.mem_of_mem_take hs))
      have h2 : (n.keys.take j).length ≤ n.keys.length := by simp [List.length_take]; omega
      omega
    have hvt : ∀ j, strsN (n.vals.take j) ≤ 97 * 140737488351232 := fun j => by
      have h1 := strsN_le 96 (n.vals.take j) (fun s hs => HVS.out s (List.mem_of_mem_take hs))
      have h2 : (n.vals.take j).length ≤ n.vals.length := by simp [List.length_take]; omega
      omega
    have HKT := Lib.hid hkt
    have HVT := Lib.hid hvt
    obtain ⟨A0, hA0⟩ : ∃ A0 : Nat, A0 = 2 + 44 * n.kids.length := ⟨_, rfl⟩
    have hA0' : (2 : Int) + 44 * (n.kids.length : Int) = (A0 : Int) := by omega
    have hA0b : A0 ≤ 200000000000000 := by omega
    obtain ⟨A1, hA1⟩ : ∃ A1 : Nat, A1 = A0 + strsN n.keys := ⟨_, rfl⟩
    have hA1b : A1 ≤ 10000000000000000 := by omega
    have HA0 := Lib.hid hA0
    have HA1 := Lib.hid hA1
    have q0 : ∀ w, (Instr.index 223 (.agg #[.slice ak n.keys.length ck, .slice av n.vals.length cv]) (.int .i64 0)).run Tryz.prog w = .ok (.slice ak n.keys.length ck) w := fun w => index_two _ 0 _ rfl (by decide) w
    have q1 : ∀ w, (Instr.index 223 (.agg #[.slice ak n.keys.length ck, .slice av n.vals.length cv]) (.int .i64 1)).run Tryz.prog w = .ok (.slice av n.vals.length cv) w := fun w => index_two _ 1 _ rfl (by decide) w
    clear hkt hvt hkn hvn hA0 hA1
    go_enter Tryz.func76, Tryz.ntmps76
    go_wp2_with fail
    refine (HFm.out _ HN0.out).mono ?_
    rintro e w1 ⟨rfl, hb⟩
    have hg : w1.heap[w.heap.size]? = some (.cells #[.bool n.leaf, .slice ak n.keys.length ck, .slice av n.vals.length cv, .slice ap n.kids.length cp] 25 (0, 0)) := (hb.block _ (by simp)).trans (heap_alloc_new _ _)
    have c1 : w1.cell? ⟨w.heap.size, 1, none⟩ = some (.slice ak n.keys.length ck) := cell_of_row w1 _ 1 _ _ _ hg
    have c2 : w1.cell? ⟨w.heap.size, 2, none⟩ = some (.slice av n.vals.length cv) := cell_of_row w1 _ 2 _ _ _ hg
    have c3 : w1.cell? ⟨w.heap.size, 3, none⟩ = some (.slice ap n.kids.length cp) := cell_of_row w1 _ 3 _ _ _ hg
    have HB1 := Lib.hid (HB.out.trans (hb.mono HB.out.size))
    have HK1 := Lib.hid (HK.out.below HB1.out)
    have HV1 := Lib.hid (HV.out.below HB1.out)
    clear hb hg
    go_wp2_with fail
    go_loop [4, 22] (fun z i => (i = .int .i64 0 ∧ z = .int .i64 (A0 : Int)) ∨ (i = .int .i64 1 ∧ z = .int .i64 (A1 : Int)) ∨ (i = .int .i64 2 ∧ z = .int .i64 (sizeN n : Int))) (fun _ i => 2 - (intOf i).toNat)
    case atStart => exact Or.inl ⟨rfl, by rw [← hA0']⟩
    case round =>
      rcases hrel with ⟨rfl, rfl⟩ | ⟨rfl, rfl⟩ | ⟨rfl, rfl⟩
      · obtain ⟨a', c', e', hel⟩ := HK1.out.open
        simp only [Value.slice.injEq, true_and] at e'
        obtain ⟨rfl, rfl⟩ := e'
        have HE := Lib.hid hel
        clear hel
        go_wp2_with fail
        go_loop [4, 27] (fun z i => ∃ j : Nat, j ≤ n.keys.length ∧ i = .int .i64 j ∧ z = .int .i64 ((A0 + strsN (n.keys.take j) : Nat) : Int)) (fun _ i => n.keys.length - (intOf i).toNat)
        case atStart => exact ⟨0, Nat.zero_le _, rfl, by simp [strsN]⟩
        case round =>
          obtain ⟨j, hj, rfl, rfl⟩ := hrel
          rcases Nat.lt_or_ge j n.keys.length with hlt | hge
          · obtain ⟨b, o, rfl, hc⟩ := HE.out j hlt
            have hst := strsN_step n.keys j hlt
            have h1 := HKT.out j
            have h2 := HKS.out _ (List.getElem_mem hlt)
            obtain ⟨x, hx⟩ : ∃ x, x = n.keys[j]'hlt := ⟨_, rfl⟩
            rw [← hx] at hc hst h2
            obtain ⟨T, hT⟩ : ∃ T, T = strsN (n.keys.take j) := ⟨_, rfl⟩
            rw [← hT] at hst h1 ⊢
            have HST := Lib.hid hst
            have ew : wrap64 (1 + (x.size : Int)) = 1 + (x.size : Int) := by unfold wrap64; omega
            clear hx hT hst
            go_wp2
            go_round
            case rel => exact ⟨j + 1, by omega, by go_num, by rw [HST.out]; go_num⟩
            case measure => simp [intOf]; omega
          · obtain rfl : j = n.keys.length := by omega
            have e0 : A0 + strsN (n.keys.take n.keys.length) = A1 := by rw [List.take_length, HA1.out]
            rw [e0]
            clear e0
            go_wp2
            go_round
            case rel => exact Or.inr (Or.inl ⟨rfl, rfl⟩)
            case measure => simp [intOf]
      · obtain ⟨a', c', e', hel⟩ := HV1.out.open
        simp only [Value.slice.injEq, true_and] at e'
        obtain ⟨rfl, rfl⟩ := e'
        have HE := Lib.hid hel
        clear hel
        go_wp2_with fail
        go_loop [4, 27] (fun z i => ∃ j : Nat, j ≤ n.vals.length ∧ i = .int .i64 j ∧ z = .int .i64 ((A1 + strsN (n.vals.take j) : Nat) : Int)) (fun _ i => n.vals.length - (intOf i).toNat)
        case atStart => exact ⟨0, Nat.zero_le _, rfl, by simp [strsN]⟩
        case round =>
          obtain ⟨j, hj, rfl, rfl⟩ := hrel
          rcases Nat.lt_or_ge j n.vals.length with hlt | hge
          · obtain ⟨b, o, rfl, hc⟩ := HE.out j hlt
            have hst := strsN_step n.vals j hlt
            have h1 := HVT.out j
            have h2 := HVS.out _ (List.getElem_mem hlt)
            obtain ⟨x, hx⟩ : ∃ x, x = n.vals[j]'hlt := ⟨_, rfl⟩
            rw [← hx] at hc hst h2
            obtain ⟨T, hT⟩ : ∃ T, T = strsN (n.vals.take j) := ⟨_, rfl⟩
            rw [← hT] at hst h1 ⊢
            have HST := Lib.hid hst
            have ew : wrap64 (1 + (x.size : Int)) = 1 + (x.size : Int) := by unfold wrap64; omega
            clear hx hT hst
            go_wp2
            go_round
            case rel => exact ⟨j + 1, by omega, by go_num, by rw [HST.out]; go_num⟩
            case measure => simp [intOf]; omega
          · obtain rfl : j = n.vals.length := by omega
            have e0 : A1 + strsN (n.vals.take n.vals.length) = sizeN n := by rw [List.take_length, HA1.out, HA0.out]; rfl
            rw [e0]
            clear e0
            go_wp2
            go_round
            case rel => exact Or.inr (Or.inr ⟨rfl, rfl⟩)
            case measure => simp [intOf]
      · go_wp2
        go_ret2
        exact ⟨by rw [HQ.out.1, HQ.out.2]; rfl, HB1.out⟩

end Go.Proofs.YtkbnkdokcmpcgaaGreatDoor
namespace Go.Proofs.YtkbnkdokcmpcgaaGreatDoor
open Go.RowKit

/-- append of noughts onto own bytes. -/
theorem append_zeros_u8 {w : World} {ops : Array Oper} {rest : List Oper} {o : Oper} {a : Act} {Q : Exit → Act → World → Prop} (hgd : o.guard = none) (s x : Operand)
    (ho : o.op = .call { callee := .builtin .append, args := #[s, x], argTypes := #[26, 3] })
    {base : Nat} {v : Value} {n : Nat} {xs : List UInt8} (hown : w.ownsRow base 5 1 v n (xs.map Bv)) {k : Nat}
    (hs : a.eval s = v) (hxe : a.eval x = .int .i64 (k : Int)) (hr : n + k ≤ 140737488355328) (hbase : base ≤ w.heap.size)
    (h : ∀ v' w', w'.ownsRow base 5 1 v' (n + k) ((xs ++ List.replicate k 0).map Bv) → Fr (fun k => v.ownBlock = some k) w w' → (v'.ownBlock = v.ownBlock ∨ v'.ownBlock = some w.heap.size) →
      wpList Tryz.prog ops Q rest (a.put o.dst v') w') : wpList Tryz.prog ops Q (o :: rest) a w := by
  obtain ⟨i0, hi, hz0, hz1, hz2⟩ := info_parts info_u8
  obtain ⟨v', w', hr', h2, hg, h3⟩ := run_append_zeros_own (P := Tryz.prog) w base 26 3 o.type 5 i0 (.int .u8 0) .i64 .i64 Tryz.underlying26 Tryz.underlying3 hi hz0 hz1 hz2 rfl rfl v n _ hown k hr hbase
  refine Lib.wpList_append_run w hgd s x _ _ ho v _ hs hxe v' w' hr' ?_
  have e : xs.map Bv ++ List.replicate k (.int .u8 0) = (xs ++ List.replicate k 0).map Bv := by rw [List.map_append, List.map_replicate]; rfl
  rw [e] at h2
  exact h v' w' h2 ((Fr.refl _ w).grown hg (fun k hk => Or.inl hk)) h3

/-- A boxed array of bytes, as the slice of all of it. -/
theorem Sl_box (w : World) (h : List UInt8) (t : TypeId) : Sl (w.alloc (.cells (h.map Bv).toArray t)) 1 (.slice (some ⟨w.heap.size, 0, none⟩) h.length h.length) h.length (h.map Bv) := by
  refine ⟨by simp, _, _, rfl, Nat.le_refl _, fun h => (by cases h), fun i u hu => ⟨_, 0, rfl, ?_⟩⟩
  rw [Nat.zero_add, cell_of_row _ w.heap.size i _ t (0, 0) (heap_alloc_new _ _)]
  simpa using hu

set_option maxHeartbeats 400000 in
theorem wHash_ok (b base : Nat) (row : Option Nat) (os h : List UInt8) (w : World) (hw : Wr w base b row os) (hbase : base ≤ w.heap.size) (hh : h.length = 32) (hr : os.length + 32 ≤ 140737488351232) :
    Calls Tryz.prog 139 #[.pointer (some ⟨b, 0, none⟩), .agg (h.map Bv).toArray] w fun e w' => e = .returned (.int .i64 0) ∧ Laid w w' base b row (os ++ h) := by
  have hS := Sl_box w h 33
  rw [hh] at hS
  obtain ⟨cs, hcs⟩ : ∃ cs, cs = (h.map Bv).toArray := ⟨_, rfl⟩
  rw [← hcs] at hS ⊢
  have HS := Lib.hid hS
  have HW := Lib.hid (hw.fr ((Fr.refl (fun _ => False) w).alloc (.cells cs 33)) id (fun _ _ => id))
  have HH := Lib.hid hh
  clear hcs hS hw hh
  go_enter Tryz.func139, Tryz.ntmps139
  go_wp2_with fail
  refine (add_ok b base row os h _ _ HW.out (by simp; omega) (by rw [HH.out]; exact HS.out) (by rw [HH.out]; omega)).mono ?_
  rintro e w2 ⟨rfl, hl⟩
  have HL := Lib.hid hl
  clear hl
  go_wp2
  go_ret
  obtain ⟨row', a1, a2, a3⟩ := HL.out
  exact ⟨rfl, row', a1, ((Fr.refl _ w).alloc _).trans a2, fun k hk => (a3 k hk).imp id (fun h => by simp at h; omega)⟩

set_option maxHeartbeats 400000 in
theorem wPad_ok (b base n : Nat) (row : Option Nat) (os : List UInt8) (w : World) (hw : Wr w base b row os) (hbase : base ≤ w.heap.size) (h1 : n ≤ 65536) (h2 : os.length ≤ n) :
    Calls Tryz.prog 106 #[.pointer (some ⟨b, 0, none⟩), .int .i64 (n : Int)] w fun e w' => e = .returned (.int .i64 0) ∧ Laid w w' base b row (os ++ List.replicate (n - os.length) 0) := by
  have HW := Lib.hid hw
  obtain ⟨v0, hb, ho, rfl⟩ := hw
  have c0 := cell_of_one hb
  obtain ⟨a, cap, rfl, _⟩ := (Sl.own ho).len
  have b1 : decide ((65536 : Int) < (n : Int)) = false := by simp; omega
  have b2 : ¬ (n : Int) < (os.length : Int) := by omega
  have es : (n : Int) - (os.length : Int) = ((n - os.length : Nat) : Int) := by omega
  clear hb ho
  go_enter Tryz.func106, Tryz.ntmps106
  go_wp2_with (at_make; refine make_u8 rfl (.tmp 25) (.tmp 25) rfl (n - os.length) rfl rfl (by omega) ?_)
  intro w1 hown hb
  have hw1 := Lib.hid (HW.out.fr (Fr.of_below (S := fun _ => False) hb) id (fun _ _ => id))
  have HB := Lib.hid hb
  have hs := hb.size
  have HS := Lib.hid (Sl.own hown)
  clear hown hb es
  go_wp2_with fail
  refine (add_ok b base _ os (List.replicate (n - os.length) 0) _ w1 hw1.out (by omega) (by simpa using HS.out) (by simp; omega)).mono ?_
  rintro e w2 ⟨rfl, hl⟩
  have HL := Lib.hid hl
  clear hl
  go_wp2
  go_ret
  obtain ⟨row', a1, a2, a3⟩ := HL.out
  exact ⟨rfl, row', a1, (Fr.of_below HB.out).trans a2, fun k hk => (a3 k hk).imp id (fun h => by omega)⟩

set_option maxHeartbeats 400000 in
theorem wPad_err (b base : Nat) (n : Int) (row : Option Nat) (os : List UInt8) (w : World) (hw : Wr w base b row os) (h : 65536 < n ∨ n < os.length) :
    Calls Tryz.prog 106 #[.pointer (some ⟨b, 0, none⟩), .int .i64 n] w fun e w' => e = .returned (.int .i64 2) ∧ w = w' := by
  obtain ⟨v0, hb, ho, rfl⟩ := hw
  have c0 := cell_of_one hb
  obtain ⟨a, cap, rfl, _⟩ := (Sl.own ho).len
  clear hb ho
  by_cases h1 : 65536 < n
  · clear h
    go_enter Tryz.func106, Tryz.ntmps106
    go_wp2
    go_ret
    exact ⟨rfl, rfl⟩
  · have h2 : n < os.length := h.resolve_left h1
    clear h
    go_enter Tryz.func106, Tryz.ntmps106
    go_wp2
    go_ret
    exact ⟨rfl, rfl⟩

set_option maxHeartbeats 400000 in
theorem refStr_any (s : ByteArray) (w : World) (h8 : s.size ≤ 255) :
    Calls Tryz.prog 194 #[.string s] w fun e w' => ∃ v, e = .returned v ∧ Sl w' 1 v (strB s).length ((strB s).map Bv) ∧ Below w.heap.size w w' := by
  have hown := World.ownsRow_lit (e := 5) (size := 1) (base := w.heap.size) w #[.int .u8 (s.size : Int)] 1 (Nat.le_refl _) (by decide) rfl
  have ev : ([.int .u8 (s.size : Int)] : List Value) = [UInt8.ofNat s.size].map Bv := by simp [Bv, UInt8.toNat_ofNat', Nat.mod_eq_of_lt (show s.size < 256 by omega)]
  have hown' : (w.alloc (.cells #[.int .u8 (s.size : Int)] 5)).ownsRow w.heap.size 5 1 (.slice (some ⟨w.heap.size, 0, none⟩) 1 1) 1 ([UInt8.ofNat s.size].map Bv) := by rw [← ev]; exact hown
  have HO := Lib.hid hown'
  clear hown hown' ev
  go_enter Tryz.func194, Tryz.ntmps194
  go_wp2_with (at_builtin; refine append_str rfl (.tmp 6) (.tmp 7) rfl HO.out rfl rfl (by omega) (by simp) ?_)
  intro v' w1 hown hf
  have hb1 : Below w.heap.size w w1 := ((Below.refl _ _).alloc (Nat.le_refl _) _).trans (hf.below (by simp) (fun k h => by simp [Value.ownBlock] at h; omega))
  have HB := Lib.hid hb1
  have hS : Sl w1 1 v' (strB s).length ((strB s).map Bv) := by
    rw [strB_length, Nat.add_comm]
    exact Sl.own hown
  have HS := Lib.hid hS
  clear hS hown hf hb1
  go_wp2
  go_ret
  exact ⟨_, rfl, HS.out, HB.out⟩

set_option maxHeartbeats 400000 in
theorem refPut_arg (x size : Int) (w : World) (h : size < 0 ∨ 8 < size) :
    Calls Tryz.prog 217 #[.int .u64 x, .int .i64 size] w fun e w' => e = .returned (.tuple #[.slice none 0 0, .int .i64 2]) ∧ w = w' := by
  rcases h with h | h
  · go_enter Tryz.func217, Tryz.ntmps217
    go_wp2
    go_ret2
    exact ⟨rfl, rfl⟩
  · have h0 : ¬ size < 0 := by omega
    go_enter Tryz.func217, Tryz.ntmps217
    go_wp2
    go_ret2
    exact ⟨rfl, rfl⟩

/-- The bytes laid from the last one on, k of them yet to be laid. -/
def putDown (x n k : Nat) : List UInt8 := (List.range n).map fun j => if j < k then 0 else UInt8.ofNat (x / 256 ^ (n - 1 - j))
theorem putDown_all (x n : Nat) : putDown x n n = List.replicate n 0 := by
  apply List.ext_getElem? ; intro j; by_cases h : j < n <;> simp [putDown, h]
theorem putDown_zero (x n : Nat) : putDown x n 0 = putB x n := by
  apply List.ext_getElem? ; intro j; by_cases h : j < n <;> simp [putDown, putB, h]
theorem putDown_succ (x n k : Nat) (h : k < n) : (putDown x n (k + 1)).set k (UInt8.ofNat (x / 256 ^ (n - 1 - k))) = putDown x n k := by
  apply List.ext_getElem?
  intro j
  rw [List.getElem?_set]
  by_cases hj : k = j
  · subst hj
    simp [putDown, h]
  · by_cases h1 : j < k
    · by_cases h2 : j < n <;> simp [putDown, hj, h1, h2, show j < k + 1 by omega]
    · by_cases h2 : j < n <;> simp [putDown, hj, h1, h2, show ¬ j < k + 1 by omega]

set_option maxRecDepth 100000 in
set_option maxHeartbeats 400000 in
theorem refPut_all (x n : Nat) (w : World) (h8 : n ≤ 8) (hx : x < 18446744073709551616) :
    Calls Tryz.prog 217 #[.int .u64 (x : Int), .int .i64 (n : Int)] w fun e w' => Below w.heap.size w w' ∧
      ((0 < x / 256 ^ n ∧ e = .returned (.tuple #[.slice none 0 0, .int .i64 2])) ∨ (x / 256 ^ n = 0 ∧ ∃ aa cc, e = .returned (.tuple #[.slice aa n cc, .int .i64 0]) ∧ w'.ownsRow w.heap.size 5 1 (.slice aa n cc) n ((putB x n).map Bv))) := by
  have b1 : decide ((n : Int) < 0) = false := by simp
  have b2 : decide ((8 : Int) < (n : Int)) = false := by simp; omega
  have HX := Lib.hid hx
  clear hx
  go_enter Tryz.func217, Tryz.ntmps217
  go_wp2_with (at_make; refine make_u8 rfl (.tmp 14) (.tmp 14) rfl n rfl rfl (by omega) ?_)
  intro w1 hown hb
  have HO := Lib.hid hown
  have HB := Lib.hid hb
  clear hown hb
  go_wp2_with fail
  go_loopw [0, 7] (fun y i wr => ∃ k : Nat, k ≤ n ∧ i = .int .i64 ((k : Int) - 1) ∧ y = .int .u64 ((x / 256 ^ (n - k) : Nat) : Int) ∧ wr.ownsRow w.heap.size 5 1 (.slice (some ⟨w.heap.size, 0, none⟩) n n) n ((putDown x n k).map Bv) ∧ Below w.heap.size w wr) (fun _ i _ => (intOf i + 1).toNat)
  case atStart => exact ⟨n, Nat.le_refl _, rfl, by simp, by rw [putDown_all]; simpa using HO.out, HB.out⟩
  case round =>
    obtain ⟨k, hk, rfl, rfl, hown, hb⟩ := hrel
    have HO := Lib.hid hown
    have HB := Lib.hid hb
    clear hb
    cases k with
    | zero =>
      clear hown
      obtain ⟨y, hy⟩ : ∃ y, y = x / 256 ^ n := ⟨_, rfl⟩
      rw [Nat.sub_zero, ← hy]
      have HY := Lib.hid hy
      clear hy
      rw [putDown_zero] at HO
      rcases Nat.eq_zero_or_pos y with h0 | h0
      · subst h0
        go_wp2
        go_ret2
        exact ⟨HB.out, Or.inr ⟨HY.out.symm, _, _, rfl, HO.out⟩⟩
      · go_wp2
        go_ret2
        exact ⟨HB.out, Or.inl ⟨HY.out ▸ h0, rfl⟩⟩
    | succ j =>
      have hc : ∃ u, wr.cell? ⟨w.heap.size, j, none⟩ = some (Bv u) := ⟨_, by rw [hown.cellAt j (by omega)]; simp [putDown, show j < n by omega]; rfl⟩
      obtain ⟨u, hc⟩ := hc
      have hf := hown.frozenAt j
      have e1 : ((j + 1 : Nat) : Int) - 1 = (j : Int) := by omega
      rw [e1]
      clear hown e1
      obtain ⟨y, hy⟩ : ∃ y, y = x / 256 ^ (n - (j + 1)) := ⟨_, rfl⟩
      rw [← hy]
      have hy2 : ((y : Int) / 256) = ((x / 256 ^ (n - j) : Nat) : Int) := by
        rw [hy, show n - j = (n - (j + 1)) + 1 by omega, Nat.pow_succ, ← Nat.div_div_eq_div_mul]; simp
      have hy3 : Value.int .u8 ((y : Int) % 256) = Bv (UInt8.ofNat (x / 256 ^ (n - 1 - j))) := by
        rw [hy, show n - (j + 1) = n - 1 - j by omega]
        simp only [Bv, UInt8.toNat_ofNat']; rfl
      have hyw : IntKind.u64.wrap ((y : Int) / 256) = (y : Int) / 256 := by
        have h1 : y ≤ x := by rw [hy]; exact Nat.div_le_self _ _
        have h2 := HX.out
        rw [IntKind.wrap_u64]; omega
      have HW := Lib.hid hyw
      clear hyw
      have HY2 := Lib.hid hy2
      have HY3 := Lib.hid hy3
      clear hy hy2 hy3
      go_wp2
      go_roundw
      case rel =>
        refine ⟨j, by omega, by go_num, by first | rw [HW.out, HY2.out] | rw [HY2.out], ?_, HB.out.setCell (Nat.le_refl _) _⟩
        have h2 := (HO.out.stored j (.int .u8 ((y : Int) % 256))).1
        rw [HY3.out, ← List.map_set, putDown_succ x n j (by omega)] at h2
        rw [HY3.out]
        exact h2
      case measure => simp [intOf]

end Go.Proofs.YtkbnkdokcmpcgaaGreatDoor
