/- What the document's example of layer 13 asks of hash and cipher: one key, one sealed leaf, two hashes, reckoned by the kernel over forced twins. Nothing of the program. Printed by tools/genaesk.py. Walk: banyanlaw13.alive: the document's example. A pool over its device, with what else must stand: what each act leaves. And heavy. -/
import Derived.Test.YtkbnkdokcmpcgaaGreatDoorB7
import Derived.Test.YtkbnkdokcmpcgaaGreatDoorB21
namespace Go.Proofs.YtkbnkdokcmpcgaaGreatDoor

/-- A number first, then what is made of it. -/
def seqN {α : Type} (n : Nat) (k : Nat → α) : α := match n with | 0 => k 0 | m + 1 => k (m + 1)
theorem seqN_eq {α : Type} (n : Nat) (k : Nat → α) : seqN n k = k n := by cases n <;> rfl
def seqL {α : Type} : List Nat → (List Nat → α) → α
  | [], k => k []
  | x :: xs, k => seqN x fun y => seqL xs fun ys => k (y :: ys)
theorem seqL_eq {α : Type} : ∀ (l : List Nat) (k : List Nat → α), seqL l k = k l
  | [], _ => rfl
  | x :: xs, k => by unfold seqL; rw [seqN_eq, seqL_eq xs]
def seqU {α : Type} : List UInt8 → (List UInt8 → α) → α
  | [], k => k []
  | x :: xs, k => seqN x.toNat fun y => seqU xs fun ys => k (UInt8.ofNat y :: ys)
theorem seqU_eq {α : Type} : ∀ (l : List UInt8) (k : List UInt8 → α), seqU l k = k l
  | [], _ => rfl
  | x :: xs, k => by unfold seqU; rw [seqN_eq, seqU_eq xs, UInt8.ofNat_toNat]

def kLit : List Nat := [1116352408, 1899447441, 3049323471, 3921009573, 961987163, 1508970993, 2453635748, 2870763221, 3624381080, 310598401, 607225278, 1426881987, 1925078388, 2162078206, 2614888103, 3248222580, 3835390401, 4022224774, 264347078, 604807628, 770255983, 1249150122, 1555081692, 1996064986, 2554220882, 2821834349, 2952996808, 3210313671, 3336571891, 3584528711, 113926993, 338241895, 666307205, 773529912, 1294757372, 1396182291, 1695183700, 1986661051, 2177026350, 2456956037, 2730485921, 2820302411, 3259730800, 3345764771, 3516065817, 3600352804, 4094571909, 275423344, 430227734, 506948616, 659060556, 883997877, 958139571, 1322822218, 1537002063, 1747873779, 1955562222, 2024104815, 2227730452, 2361852424, 2428436474, 2756734187, 3204031479, 3329325298]
def sLit : St := ⟨1779033703, 3144134277, 1013904242, 2773480762, 1359893119, 2600822924, 528734635, 1541459225⟩
theorem kInit_lit : kInit = kLit := by decide +kernel
theorem hInit_lit : hInit = sLit.list := by decide +kernel
theorem sInit_lit : sInit = sLit := by unfold sInit; rw [hInit_lit]; rfl

/-- The next number, those ahead in falling order. -/
def wNextR (r : List Nat) : Nat := (r.getD 15 0 + r.getD 6 0 + smallN (r.getD 14 0) 7 18 3 + smallN (r.getD 1 0) 17 19 10) % 4294967296
def schedF : Nat → List Nat → List Nat
  | 0, r => r
  | n + 1, r => seqN (wNextR r) fun x => schedF n (x :: r)
theorem getD_rev (l : List Nat) (j : Nat) (h : j < l.length) : l.reverse.getD j 0 = l.getD (l.length - 1 - j) 0 := by
  simp only [List.getD_eq_getElem?_getD]
  rw [List.getElem?_reverse h]
theorem schedF_eq (b : List UInt8) : ∀ n k, 16 ≤ k → schedF n (spreadL b k).reverse = (spreadL b (k + n)).reverse
  | 0, _, _ => rfl
  | n + 1, k, h => by
    unfold schedF
    rw [seqN_eq]
    have hl := spreadL_length b k
    have e : wNextR (spreadL b k).reverse :: (spreadL b k).reverse = (spreadL b (k + 1)).reverse := by
      conv => rhs; unfold spreadL
      rw [List.reverse_append, if_neg (by omega)]
      show _ = wNext (spreadL b k) k :: _
      congr 1
      unfold wNextR wNext
      rw [getD_rev _ 15 (by omega), getD_rev _ 6 (by omega), getD_rev _ 14 (by omega), getD_rev _ 1 (by omega), hl,
        show k - 1 - 15 = k - 16 by omega, show k - 1 - 6 = k - 7 by omega, show k - 1 - 14 = k - 15 by omega, show k - 1 - 1 = k - 2 by omega]
    rw [e, schedF_eq b n (k + 1) (by omega), show k + 1 + n = k + (n + 1) by omega]

def seqSt {α : Type} (s : St) (k : St → α) : α :=
  seqN s.a fun a => seqN s.b fun b => seqN s.c fun c => seqN s.d fun d => seqN s.e fun e => seqN s.f fun f => seqN s.g fun g => seqN s.h fun h => k ⟨a, b, c, d, e, f, g, h⟩
theorem seqSt_eq {α : Type} (s : St) (k : St → α) : seqSt s k = k s := by unfold seqSt; simp only [seqN_eq]
def roundsF : List Nat → List Nat → St → St
  | k :: ks, w :: ws, s => seqSt (roundN s k w) (roundsF ks ws)
  | _, _, s => s
theorem roundsN_cons (s : St) (k w : Nat) (ks ws : List Nat) : ∀ n, roundsN s (k :: ks) (w :: ws) (n + 1) = roundsN (roundN s k w) ks ws n
  | 0 => rfl
  | n + 1 => by
    show roundN (roundsN s (k :: ks) (w :: ws) (n + 1)) _ _ = roundN (roundsN (roundN s k w) ks ws n) _ _
    rw [roundsN_cons s k w ks ws n]; rfl
theorem roundsF_eq : ∀ (ks ws : List Nat) (s : St), ks.length = ws.length → roundsF ks ws s = roundsN s ks ws ks.length
  | [], _, _, _ => rfl
  | k :: ks, [], _, h => by simp at h
  | k :: ks, w :: ws, s, h => by
    unfold roundsF
    rw [seqSt_eq, roundsF_eq ks ws _ (by simpa using h)]
    exact (roundsN_cons s k w ks ws ks.length).symm
def words16 (b : List UInt8) : List Nat := (List.range 16).map fun k => getB ((b.drop (4 * k)).take 4)
theorem words16_eq (b : List UInt8) : words16 b = spreadL b 16 := rfl
def takeF (s : St) (b : List UInt8) : St :=
  seqL (words16 b).reverse fun r => addSt (roundsF kLit (schedF 48 r).reverse s) s
theorem takeF_eq (s : St) (b : List UInt8) : takeF s b = takeN s b := by
  unfold takeF takeN
  rw [seqL_eq, words16_eq, schedF_eq b 48 16 (Nat.le_refl _), List.reverse_reverse, roundsF_eq _ _ _ (by rw [spreadL_length]; rfl), kInit_lit]
  rfl
def blocksF : Nat → List UInt8 → St → St
  | 0, _, s => s
  | n + 1, l, s => seqSt (takeF s (l.take 64)) (blocksF n (l.drop 64))
theorem blocksN_first (s : St) (b : List UInt8) : ∀ n, blocksN s b (n + 1) = blocksN (takeN s (b.take 64)) (b.drop 64) n
  | 0 => rfl
  | n + 1 => by
    show takeN (blocksN s b (n + 1)) _ = takeN (blocksN (takeN s (b.take 64)) (b.drop 64) n) _
    rw [blocksN_first s b n, List.drop_drop, show 64 + 64 * n = 64 * (n + 1) by omega]
theorem blocksF_eq : ∀ n l s, blocksF n l s = blocksN s l n
  | 0, _, _ => rfl
  | n + 1, l, s => by unfold blocksF; rw [seqSt_eq, takeF_eq, blocksF_eq n, blocksN_first]
def hashF (xs : List UInt8) : List UInt8 := outB (blocksF ((endOf xs xs.length).length / 64) (endOf xs xs.length) sLit)
theorem hashF_eq (xs : List UInt8) : hashF xs = hashN xs := by unfold hashF hashN; rw [blocksF_eq, sInit_lit]

/-- The table as one number. -/
def boxN : Nat := 2869618975290639062594974519597816386035077209210385677284518162336985023502962151465775969507961862820568736543004676439868535775640188584098917533413284844376797297285941524888791401501466624530423689326528054213168201056672989590893583853414110162539122864583953358348775951166211353578440977400428507475679327181038682772945817200201960445064847785221508011893952350688324234443749897213621340677040612747745615276448919507935121141307752692835344166708617454322778699219895865633266409040561742768581056182730443599545881830075941537620590442514083341749674612746994879540562701631131184186066652929592955206755
def boxF (b : UInt8) : UInt8 := UInt8.ofNat (boxN >>> (8 * b.toNat))
theorem boxF_all : ∀ i, i < 256 → boxF (UInt8.ofNat i) = boxB (UInt8.ofNat i) := by decide +kernel
theorem boxF_eq (b : UInt8) : boxF b = boxB b := by
  have := boxF_all b.toNat b.toNat_lt
  rwa [UInt8.ofNat_toNat] at this
def subF (b : List UInt8) : List UInt8 := (List.range 16).map fun i => boxF (gB b ((i + 4 * (i % 4)) % 16))
theorem subF_eq (b : List UInt8) : subF b = subB b := by unfold subF subB; simp only [boxF_eq]
def roundR (ks b : List UInt8) (n : Nat) : List UInt8 := sumB (if n < 14 then mixB (subB b) else subB b) (rkeyAt ks n)
def roundF (ks b : List UInt8) (n : Nat) : List UInt8 := seqU (subF b) fun x => sumB (if n < 14 then mixB x else x) (rkeyAt ks n)
theorem roundF_eq (ks b : List UInt8) (n : Nat) : roundF ks b n = roundR ks b n := by unfold roundF roundR; rw [seqU_eq, subF_eq]
def sealF (ks : List UInt8) : List Nat → List UInt8 → List UInt8
  | [], b => b
  | n :: l, b => seqU (roundF ks b n) (sealF ks l)
theorem sealF_eq (ks b : List UInt8) : sealF ks [1, 2, 3, 4, 5, 6, 7, 8, 9, 10, 11, 12, 13, 14] (sealTo ks b 0) = sealTo ks b 14 := by
  simp only [sealF, seqU_eq, roundF_eq]; rfl

def encL : List UInt8 := [239, 103, 197, 4, 136, 224, 69, 71, 137, 182, 5, 211, 46, 216, 125, 114, 15, 117, 18, 80, 174, 69, 50, 100, 30, 120, 48, 187, 240, 238, 238, 40]
def leafL : List UInt8 := [1, 0] ++ List.replicate 510 0
def keysL : List UInt8 := [239, 103, 197, 4, 136, 224, 69, 71, 137, 182, 5, 211, 46, 216, 125, 114, 15, 117, 18, 80, 174, 69, 50, 100, 30, 120, 48, 187, 240, 238, 238, 40, 198, 79, 241, 136, 78, 175, 180, 207, 199, 25, 177, 28, 233, 193, 204, 110, 17, 13, 89, 207, 191, 72, 107, 171, 161, 48, 91, 16, 81, 222, 181, 56, 217, 154, 246, 89, 151, 53, 66, 150, 80, 44, 243, 138, 185, 237, 63, 228, 71, 88, 44, 166, 248, 16, 71, 13, 89, 32, 28, 29, 8, 254, 169, 37, 102, 73, 201, 105, 241, 124, 139, 255, 161, 80, 120, 117, 24, 189, 71, 145, 234, 34, 140, 39, 18, 50, 203, 42, 75, 18, 215, 55, 67, 236, 126, 18, 160, 186, 0, 115, 81, 198, 139, 140, 240, 150, 243, 249, 232, 43, 180, 104, 113, 211, 1, 98, 99, 225, 202, 72, 40, 243, 29, 127, 107, 31, 99, 109, 112, 65, 60, 12, 33, 135, 183, 128, 209, 17, 68, 121, 57, 58, 240, 17, 99, 83, 141, 224, 0, 178, 71, 168, 40, 65, 90, 215, 67, 94, 57, 186, 8, 83, 200, 22, 41, 212, 127, 150, 248, 197, 59, 239, 193, 255, 203, 254, 27, 69, 146, 91, 27, 247, 213, 243, 51, 182, 143, 36, 112, 232, 182, 158, 211, 29, 195, 71, 250, 201, 188, 209, 2, 12, 135, 62, 195, 243, 76, 192]
def sealedL : List UInt8 := [146, 104, 67, 96, 151, 163, 121, 24, 3, 208, 8, 207, 15, 14, 32, 209, 79, 74, 177, 63, 204, 93, 31, 149, 234, 193, 6, 234, 36, 237, 74, 148, 128, 25, 38, 183, 79, 175, 133, 5, 229, 31, 9, 52, 125, 171, 237, 11, 163, 175, 39, 222, 243, 145, 77, 69, 42, 158, 138, 149, 80, 112, 139, 176, 215, 30, 65, 111, 77, 192, 116, 17, 211, 234, 235, 160, 224, 18, 186, 165, 106, 9, 217, 8, 28, 243, 156, 82, 38, 8, 4, 198, 61, 187, 10, 20, 30, 11, 88, 92, 26, 164, 222, 73, 142, 212, 203, 236, 19, 67, 190, 171, 253, 108, 145, 243, 3, 138, 8, 147, 245, 193, 14, 155, 189, 149, 192, 101, 216, 230, 168, 213, 138, 80, 216, 169, 133, 214, 200, 132, 63, 64, 48, 89, 104, 91, 213, 47, 56, 208, 73, 146, 16, 226, 164, 223, 149, 205, 8, 151, 39, 235, 80, 234, 136, 193, 201, 37, 243, 251, 163, 229, 173, 238, 206, 55, 194, 175, 94, 241, 4, 224, 239, 140, 100, 27, 199, 166, 226, 171, 243, 86, 98, 65, 97, 192, 253, 102, 61, 29, 5, 22, 146, 183, 99, 224, 7, 99, 110, 43, 15, 235, 160, 74, 113, 152, 162, 106, 76, 191, 111, 161, 154, 189, 218, 102, 8, 188, 131, 66, 254, 113, 42, 60, 34, 163, 68, 36, 86, 40, 149, 59, 110, 42, 146, 30, 137, 169, 202, 240, 114, 15, 6, 225, 247, 186, 62, 59, 235, 104, 114, 76, 200, 13, 151, 151, 123, 55, 111, 95, 138, 234, 166, 174, 74, 30, 33, 57, 8, 101, 67, 68, 122, 207, 105, 91, 38, 199, 64, 7, 90, 55, 249, 161, 69, 34, 49, 102, 153, 124, 96, 159, 48, 156, 203, 19, 178, 188, 41, 66, 159, 7, 60, 90, 75, 241, 106, 200, 218, 243, 212, 227, 129, 100, 248, 199, 31, 189, 98, 185, 54, 24, 247, 207, 147, 250, 48, 26, 233, 148, 208, 195, 186, 233, 200, 173, 33, 224, 81, 178, 148, 0, 163, 36, 186, 65, 15, 207, 168, 152, 15, 225, 247, 146, 51, 54, 8, 210, 128, 199, 128, 121, 69, 1, 40, 230, 102, 28, 33, 130, 97, 228, 222, 247, 127, 73, 87, 46, 183, 214, 176, 174, 134, 142, 229, 8, 167, 34, 165, 123, 189, 168, 34, 50, 153, 196, 173, 160, 159, 244, 182, 232, 213, 237, 79, 65, 96, 79, 112, 200, 198, 154, 58, 53, 81, 76, 27, 22, 67, 136, 22, 100, 92, 30, 238, 14, 106, 187, 112, 132, 15, 239, 62, 13, 38, 122, 236, 111, 216, 198, 236, 158, 111, 152, 56, 221, 137, 98, 219, 178, 109, 117, 26, 69, 92, 181, 112, 123, 18, 156, 248, 211, 59, 28, 13, 143, 78, 37, 67, 45, 55, 72, 160, 204, 152, 181, 224, 155, 208, 172, 181, 48, 167, 97, 31, 70, 157, 139, 193, 142, 254, 186, 36, 71, 161, 185, 40, 166, 47, 247, 239, 227]
def turnedL : List UInt8 := [146, 104, 67, 96, 151, 163, 121, 24, 3, 209, 8, 207, 15, 14, 32, 209, 79, 74, 177, 63, 204, 93, 31, 149, 234, 193, 6, 234, 36, 237, 74, 148, 128, 25, 38, 183, 79, 175, 133, 5, 229, 31, 9, 52, 125, 171, 237, 11, 163, 175, 39, 222, 243, 145, 77, 69, 42, 158, 138, 149, 80, 112, 139, 176, 215, 30, 65, 111, 77, 192, 116, 17, 211, 234, 235, 160, 224, 18, 186, 165, 106, 9, 217, 8, 28, 243, 156, 82, 38, 8, 4, 198, 61, 187, 10, 20, 30, 11, 88, 92, 26, 164, 222, 73, 142, 212, 203, 236, 19, 67, 190, 171, 253, 108, 145, 243, 3, 138, 8, 147, 245, 193, 14, 155, 189, 149, 192, 101, 216, 230, 168, 213, 138, 80, 216, 169, 133, 214, 200, 132, 63, 64, 48, 89, 104, 91, 213, 47, 56, 208, 73, 146, 16, 226, 164, 223, 149, 205, 8, 151, 39, 235, 80, 234, 136, 193, 201, 37, 243, 251, 163, 229, 173, 238, 206, 55, 194, 175, 94, 241, 4, 224, 239, 140, 100, 27, 199, 166, 226, 171, 243, 86, 98, 65, 97, 192, 253, 102, 61, 29, 5, 22, 146, 183, 99, 224, 7, 99, 110, 43, 15, 235, 160, 74, 113, 152, 162, 106, 76, 191, 111, 161, 154, 189, 218, 102, 8, 188, 131, 66, 254, 113, 42, 60, 34, 163, 68, 36, 86, 40, 149, 59, 110, 42, 146, 30, 137, 169, 202, 240, 114, 15, 6, 225, 247, 186, 62, 59, 235, 104, 114, 76, 200, 13, 151, 151, 123, 55, 111, 95, 138, 234, 166, 174, 74, 30, 33, 57, 8, 101, 67, 68, 122, 207, 105, 91, 38, 199, 64, 7, 90, 55, 249, 161, 69, 34, 49, 102, 153, 124, 96, 159, 48, 156, 203, 19, 178, 188, 41, 66, 159, 7, 60, 90, 75, 241, 106, 200, 218, 243, 212, 227, 129, 100, 248, 199, 31, 189, 98, 185, 54, 24, 247, 207, 147, 250, 48, 26, 233, 148, 208, 195, 186, 233, 200, 173, 33, 224, 81, 178, 148, 0, 163, 36, 186, 65, 15, 207, 168, 152, 15, 225, 247, 146, 51, 54, 8, 210, 128, 199, 128, 121, 69, 1, 40, 230, 102, 28, 33, 130, 97, 228, 222, 247, 127, 73, 87, 46, 183, 214, 176, 174, 134, 142, 229, 8, 167, 34, 165, 123, 189, 168, 34, 50, 153, 196, 173, 160, 159, 244, 182, 232, 213, 237, 79, 65, 96, 79, 112, 200, 198, 154, 58, 53, 81, 76, 27, 22, 67, 136, 22, 100, 92, 30, 238, 14, 106, 187, 112, 132, 15, 239, 62, 13, 38, 122, 236, 111, 216, 198, 236, 158, 111, 152, 56, 221, 137, 98, 219, 178, 109, 117, 26, 69, 92, 181, 112, 123, 18, 156, 248, 211, 59, 28, 13, 143, 78, 37, 67, 45, 55, 72, 160, 204, 152, 181, 224, 155, 208, 172, 181, 48, 167, 97, 31, 70, 157, 139, 193, 142, 254, 186, 36, 71, 161, 185, 40, 166, 47, 247, 239, 227]
def sum1L : List UInt8 := [225, 33, 179, 191, 124, 11, 201, 28, 232, 236, 21, 147, 222, 187, 244, 90, 250, 226, 111, 119, 146, 202, 33, 244, 204, 10, 29, 19, 131, 14, 253, 206]
def sum2L : List UInt8 := [49, 249, 0, 14, 251, 93, 111, 65, 146, 146, 99, 205, 14, 254, 235, 23, 22, 242, 74, 205, 37, 37, 255, 69, 43, 129, 80, 146, 188, 122, 212, 182]
theorem enc_key : macN [109, 97, 115, 116, 101, 114] [101, 110, 99] = encL := by
  unfold macN
  rw [← hashF_eq, ← hashF_eq]
  decide +kernel
def nextF (k l : List UInt8) (i : Nat) : List UInt8 := seqU (nextW k l i) fun w => l ++ w
def wordsF (k : List UInt8) : Nat → List UInt8 → Nat → List UInt8
  | 0, l, _ => l
  | n + 1, l, i => seqU (nextW k l i) fun w => wordsF k n (l ++ w) (i + 1)
theorem wordsF_eq (k : List UInt8) : ∀ n i, wordsF k n (wordsB k i) i = wordsB k (i + n)
  | 0, _ => rfl
  | n + 1, i => by
    unfold wordsF
    rw [seqU_eq]
    show wordsF k n (wordsB k (i + 1)) (i + 1) = _
    rw [wordsF_eq k n (i + 1), show i + 1 + n = i + (n + 1) by omega]
theorem keys_lit : rkeysB encL = keysL := by
  have h := wordsF_eq encL 60 0
  rw [show rkeysB encL = wordsB encL (0 + 60) from rfl, ← h]
  decide +kernel
def blockF (n : List UInt8) (i : Nat) : List UInt8 := sealF keysL [1, 2, 3, 4, 5, 6, 7, 8, 9, 10, 11, 12, 13, 14] (sealTo keysL (n ++ putB i 4) 0)
theorem blockF_eq (n : List UInt8) (i : Nat) : blockF n i = blockB encL n i := by
  unfold blockF blockB aesB; rw [sealF_eq, keys_lit]
def streamF (n : List UInt8) : Nat → List UInt8
  | 0 => []
  | i + 1 => streamF n i ++ blockF n i
theorem streamF_eq (n : List UInt8) : ∀ i, streamF n i = streamTo encL n i
  | 0 => rfl
  | i + 1 => by unfold streamF streamTo; rw [streamF_eq n i, blockF_eq]
theorem sealed_lit : cryptB encL (nonceB 1 2) leafL = sealedL := by
  unfold cryptB
  rw [← streamF_eq]
  decide +kernel
theorem sum1_lit : hashN sealedL = sum1L := by rw [← hashF_eq]; decide +kernel
theorem sum2_lit : hashN turnedL = sum2L := by rw [← hashF_eq]; decide +kernel
theorem sums_differ : sum2L ≠ sum1L := by decide +kernel
/-- The sealed leaf with a bit turned: another hash. -/
theorem turned_lit : sealedL.set 9 (gB sealedL 9 ^^^ 1) = turnedL := by decide +kernel
theorem leaf_turned : hashN ((cryptB encL (nonceB 1 2) leafL).set 9 (gB (cryptB encL (nonceB 1 2) leafL) 9 ^^^ 1)) ≠ hashN (cryptB encL (nonceB 1 2) leafL) := by
  rw [sealed_lit, turned_lit, sum1_lit, sum2_lit]; exact sums_differ

end Go.Proofs.YtkbnkdokcmpcgaaGreatDoor
namespace Go.Proofs.YtkbnkdokcmpcgaaGreatDoor
open Go.RowKit

/-- What is laid is told. -/
theorem nodeB_get {n : Nd} (hf : formB n = true) (hs : sizeN n ≤ 512) (hk : n.keys.length ≤ 255) (hw : ∀ p ∈ n.kids, p.Wf) : getE (nodeB n) = 0 ∧ getN (nodeB n) = n := by
  have h := told_of_bytes n (List.replicate (512 - sizeN n) 0) hf hk hw
  have hl : (nodeB n).length = 512 := nodeB_length hf hw hs
  have hok : getOk (nodeB n) = true := (getOk_iff _ hl).2 ⟨by rw [show toldN (nodeB n) = n from h.1]; exact checkE_split.2 ⟨hf, hs⟩, by rw [show toldN (nodeB n) = n from h.1]; rfl⟩
  have hg := get_ok hl hok
  exact ⟨hg.1, by rw [hg.2]; exact h.1⟩
theorem RdPost.get {w w' : World} {ks : List UInt8} {d : Dv} {p : Pt} {e : Ending} (h : RdPost w ks d p e w') (h1 : d.down = false) (h2 : hashN (d.cur p.addr) = p.sum) : GetPost (openB ks d p) w e w' := by
  unfold RdPost at h; rwa [if_neg (by rw [h1]; simp), if_pos h2] at h
theorem RdPost.sum {w w' : World} {ks : List UInt8} {d : Dv} {p : Pt} {e : Ending} (h : RdPost w ks d p e w') (h1 : d.down = false) (h2 : hashN (d.cur p.addr) ≠ p.sum) : e = .returned (.tuple #[.agg zeroArr, .int .i64 5]) ∧ Below w.heap.size w w' := by
  unfold RdPost at h; rwa [if_neg (by rw [h1]; simp), if_neg h2] at h

set_option maxRecDepth 100000 in
set_option maxHeartbeats 2000000 in
/-- No pool. -/
theorem poRead_nil (p : Pt) (w : World) : Calls Tryz.prog 22 #[.pointer none, .agg p.arr] w fun e w' => e = .returned (.tuple #[.agg zeroArr, .int .i64 1]) ∧ Below w.heap.size w w' := by
  have HN := Lib.hid (al2_1 w (.cells p.arr 43) (.cells zeroArr 25))
  have HB := Lib.hid (show Below w.heap.size w ((w.alloc (.cells p.arr 43)).alloc (.cells zeroArr 25)) from ((Below.refl _ w).alloc (Nat.le_refl _) _).alloc (by simp) _)
  go_enter Tryz.func22, Tryz.ntmps22
  go_wp2_with (refine store_nd rfl (.tmp 4) (.tmp 12) rfl rfl (arr := zeroArr) rfl HN.out rfl rfl (zero_is w).one ?_; intro we hge hfe hse; have HGe := Lib.hid hge; have HFe := Lib.hid hfe; clear hge hfe hse)
  refine bodyPost_ret (ret_nd rfl rfl HGe.out rfl) rfl ?_
  exact ⟨rfl, HB.out.trans (HFe.out.below HB.out.size (fun k hk => by omega))⟩

def leafN : Nd := ⟨true, [], [], []⟩
def leafArr : Array Value := #[.bool true, .slice none 0 0, .slice none 0 0, .slice none 0 0]
theorem leaf_is (w : World) : NdIs w leafArr leafN := ⟨_, _, _, rfl, Sl.nil _ _, Sl.nil _ _, ⟨Sl.nil _ _, by simp [leafN]⟩⟩
theorem leaf_fits : leafN.Fits := ⟨by decide, by decide, by decide, by simp [leafN], by simp [leafN]⟩
theorem leaf_form : formB leafN = true := by decide
theorem leaf_size : sizeN leafN ≤ 512 := by decide
theorem leaf_bytes : nodeB leafN = leafL := by decide +kernel
theorem MK_enc : MK.take 32 = encL := by unfold MK; rw [keysOf_take]; exact enc_key
theorem step_up {d : Dv} (h : d.left = -1) : d.step.down = d.down ∧ d.step.left = -1 := by unfold Dv.step; simp [h]
theorem new_up (size : Nat) : (Dv.new size).down = false ∧ (Dv.new size).left = -1 := ⟨rfl, rfl⟩

set_option maxRecDepth 100000 in
set_option maxHeartbeats 8000000 in
theorem alive13 (w : World) (hT : Tz w) : Calls Tryz.prog 15 #[] w fun e w' => e = .returned (.bool true) ∧ Below w.heap.size w w' := by
  have HTz := Lib.hid hT
  clear hT
  go_enter Tryz.func15, Tryz.ntmps15
  go_wp2_with fail
  refine (made_ok 16 w (by decide) (by decide)).mono ?_
  rintro e w1 ⟨P, D, S, W, lo, F, rfl, hp1, hd1, hF, hPF, hb1⟩
  obtain ⟨ks, hks⟩ : ∃ ks, ks = MK := ⟨_, rfl⟩
  rw [← hks] at hp1 ⊢
  have HKs := Lib.hid hks
  have HKl := Lib.hid (show ks.length = 64 by rw [hks]; exact MK_length)
  have HP1 := Lib.hid hp1
  have HD1 := Lib.hid hd1
  have HF := Lib.hid hF
  have HPF := Lib.hid hPF
  have HB1 := Lib.hid hb1
  have HN1 := Lib.hid (heap_alloc_new w1 (.cells ((zB 64).map Bv).toArray 35))
  clear hks hp1 hd1 hF hPF hb1
  go_wp2_with (refine wpList_store_row rfl _ (.tmp 3) (.tmp 20) rfl w1.heap.size rfl (ks.map Bv) rfl _ _ HN1.out (by rw [List.length_map, HKl.out]; rfl) (Bv_oneCell _) (by rw [info_keys, List.length_map, HKl.out]) ?_; intro w2 hg hf hs; have HGw2 := Lib.hid hg; have HBw2 := Lib.hid (show Below w1.heap.size w1 w2 from ((Below.refl _ w1).alloc (Nat.le_refl _) _).trans (hf.below (by simp) (fun j hj => by omega))); clear hg hf hs)
  have HP2 := Lib.hid (HP1.out.below HBw2.out)
  have HD2 := Lib.hid (HD1.out.below HBw2.out)
  have HB2 := Lib.hid (HB1.out.trans (HBw2.out.mono HB1.out.size))
  clear HP1 HD1 HB1 HGw2 HBw2 HN1
  refine (poBegin_ok P D S W 16 0 1 ks noneT w2 HP2.out (by decide) (by decide)).mono ?_
  rintro e w3 ⟨rfl, hp3, hf3⟩
  have HP3 := Lib.hid hp3
  have HD3 := Lib.hid (HD2.out.fr hf3 (fun k hk e => (HPF.out k (Or.inl e)).2 hk))
  have HB3 := Lib.hid (HB2.out.trans (hf3.below HB2.out.size (fun k hk => (HPF.out k (Or.inl hk)).1)))
  clear hp3 hf3 HP2 HD2 HB2
  go_wp2_with fail
  have hput := poWrite_ok P D S W 1 lo ks noneT F (Dv.new 16) leafArr leafN w3 HP3.out HD3.out (fun k hk => (HPF.out k hk).2) (leaf_is w3) (HTz.out.below HB3.out) (by decide) leaf_fits leaf_form leaf_size 2 (by decide) rfl (step_up rfl).1 (by decide)
  refine hput.mono ?_
  clear hput
  rintro e w4 ⟨F0, rfl, hp4, hd4, hF4, hf4⟩
  obtain ⟨c, hc⟩ : ∃ c, c = cryptB (ks.take 32) (nonceB 1 2) (nodeB leafN) := ⟨_, rfl⟩
  obtain ⟨p, hp⟩ : ∃ p, p = sealP ks 1 2 (nodeB leafN) := ⟨_, rfl⟩
  have HPv := Lib.hid (show p.addr = 2 ∧ p.birth = 1 ∧ p.sum = hashN c by rw [hp, hc]; exact ⟨rfl, rfl, rfl⟩)
  have HPw := Lib.hid (show p.Wf by rw [hp]; exact sealP_wf _ _ _ _ (by decide) (by decide))
  rw [← hp]
  rw [← hc] at hd4
  obtain ⟨F', hds, hFs, -⟩ := hd4.small
  have HLF := Lib.hid (show ∀ k, F' k → k < w4.heap.size from fun k hk => (hFs k hk).2)
  have HCv := Lib.hid hc
  have HP4 := Lib.hid hp4
  have HD4 := Lib.hid hds
  have HF4 := Lib.hid (show ∀ k, F' k → w.heap.size ≤ k from fun k hk => (hF4 k (hFs k hk).1).elim (HF.out k) (fun h => Nat.le_trans HB3.out.size h))
  have HB4 := Lib.hid (HB3.out.trans (hf4.below HB3.out.size (by
    rintro k (h | h | h)
    · exact HF.out k h
    · exact (HPF.out k (Or.inr (Or.inl h))).1
    · exact (HPF.out k (Or.inr (Or.inr h))).1)))
  have HPF4 := Lib.hid (show ∀ k, PlF P S W k → ¬ F' k from fun k hk hF' => (hF4 k (hFs k hF').1).elim (HPF.out k hk).2 (fun h => by have := HP3.out.lt k hk; omega))
  have HN4 := Lib.hid (heap_alloc_new w4 (.cells Pt.zero.arr 43))
  clear hp hc hp4 hd4 hds hFs hF4 hf4 HP3 HD3 HB3
  go_wp2_with (first | (refine store_ptr rfl (.tmp 5) (.tmp 33) rfl rfl rfl HN4.out Pt.zero_wf.size HPw.out ?_; intro w5 hg hf hs; have HG5 := Lib.hid hg; have HBw5 := Lib.hid (show Below w4.heap.size w4 w5 from ((Below.refl _ w4).alloc (Nat.le_refl _) _).trans (hf.below (by simp) (fun j hj => by omega))); clear hg hf hs) | (refine load_ptr rfl (.tmp 5) rfl rfl (At.of_row (show w5.heap[w4.heap.size]? = some (.cells p.cells.toArray 43 (0, 0)) from HG5.out)) HPw.out ?_))
  obtain ⟨d1, hd1⟩ : ∃ d, d = (Dv.new 16).step.wrote 2 c := ⟨_, rfl⟩
  rw [← hd1] at HD4
  have hs1 : d1.size = 16 := by rw [hd1]; rfl
  have HPP := Lib.hid (show PlAt w4 P D S W d1.size ks (updT noneT 2 true) 1 by rw [hs1]; exact HP4.out)
  have H1 := Lib.hid (show d1.size = 16 ∧ d1.down = false ∧ d1.left = -1 ∧ d1.waits.length = 1 ∧ d1.cur 2 = c by
    refine ⟨hs1, ?_, ?_, ?_, ?_⟩
    · rw [hd1]; exact (step_up (d := Dv.new 16) rfl).1
    · rw [hd1]; exact (step_up (d := Dv.new 16) rfl).2
    · rw [hd1]; rfl
    · rw [hd1, Dv.cur_wrote, if_pos rfl])
  have HB5 := Lib.hid (HB4.out.trans (HBw5.out.mono HB4.out.size))
  have HP5 := Lib.hid (HPP.out.below HBw5.out)
  have HD5 := Lib.hid (HD4.out.below HBw5.out)
  have hpe : ptrE p d1.size = 0 := by
    rw [H1.out.1]
    refine ptrE_ok ?_
    unfold ptrOk
    rw [if_neg (by rw [HPv.out.1]; decide), HPv.out.1, HPv.out.2.1]; decide
  have hrd := poRead_any P D S W 1 lo ks (updT noneT 2 true) F' d1 p w5 HP5.out HD5.out HPw.out (by rw [HPv.out.1]; decide) hpe (by rw [H1.out.2.2.2.1]; decide)
  have hcur : hashN (d1.cur p.addr) = p.sum := by rw [HPv.out.1, H1.out.2.2.2.2, HPv.out.2.2]
  have hop : openB ks d1 p = nodeB leafN := by
    unfold openB
    rw [HPv.out.1, HPv.out.2.1, H1.out.2.2.2.2, HCv.out, cryptB_twice _ _ _ (by rw [List.length_take, HKl.out]; rfl) (nonceB_length _ _)]
  have HPe := Lib.hid hpe
  clear hd1 hs1 HPP hpe HP4 HD4 HB4 HN4
  refine hrd.mono ?_
  clear hrd
  rintro e w6 hpost
  obtain ⟨arr, rfl, hnd, hb6⟩ := hpost.get H1.out.2.1 hcur
  rw [hop, (nodeB_get leaf_form leaf_size (by decide) (by simp [leafN])).2] at hnd
  rw [hop, (nodeB_get leaf_form leaf_size (by decide) (by simp [leafN])).1]
  obtain ⟨ak, ck, av, cv, ap, cp, rfl, -, -, -⟩ := hnd.get
  have HB6 := Lib.hid (HB5.out.trans (hb6.mono HB5.out.size))
  have HP6 := Lib.hid (HP5.out.below hb6)
  have HD6 := Lib.hid (HD5.out.below hb6)
  have HG6 := Lib.hid ((hb6.block _ (lt_of_block HG5.out)).trans HG5.out)
  have HN6 := Lib.hid (heap_alloc_new w6 (.cells zeroArr 25))
  have HOne := Lib.hid hnd.one
  clear hnd hb6 hcur hop HB5 HP5 HD5 HG5 HBw5 hpost
  go_wp2_with (first | (refine store_nd rfl (.tmp 7) (.tmp 39) rfl rfl rfl HN6.out rfl rfl HOne.out ?_; intro w7 hg hf hs; have HG7 := Lib.hid hg; have HBw7 := Lib.hid (show Below w6.heap.size w6 w7 from ((Below.refl _ w6).alloc (Nat.le_refl _) _).trans (hf.below (by simp) (fun j hj => by omega))); clear hg hf hs) | (refine load_ptr rfl (.tmp 5) rfl rfl (At.of_row (show w5.heap[w4.heap.size]? = some (.cells p.cells.toArray 43 (0, 0)) from HG5.out)) HPw.out ?_))
  have HB7 := Lib.hid (HB6.out.trans (HBw7.out.mono HB6.out.size))
  have HP7 := Lib.hid (HP6.out.below HBw7.out)
  have HD7 := Lib.hid (HD6.out.below HBw7.out)
  have HGP7 := Lib.hid ((HBw7.out.block _ (lt_of_block HG6.out)).trans HG6.out)
  clear HB6 HP6 HD6 HG6 HN6 HBw7
  have hrd := dvRead_ok D 2 lo F' d1 w7 HD7.out (by rw [H1.out.1]; decide) H1.out.2.1 (by rw [H1.out.2.2.2.1]; decide)
  refine hrd.mono ?_
  clear hrd
  rintro e w8 ⟨rfl, hr8, hb8⟩
  rw [H1.out.2.2.2.2] at hr8
  have HB8 := Lib.hid (HB7.out.trans (hb8.mono HB7.out.size))
  have HP8 := Lib.hid (HP7.out.below hb8)
  have HD8 := Lib.hid (HD7.out.below hb8)
  have HG8 := Lib.hid ((hb8.block _ (lt_of_block HGP7.out)).trans HGP7.out)
  have HN8 := Lib.hid ((hb8.block _ (lt_of_block HG7.out)).trans HG7.out)
  have HR8 := Lib.hid hr8
  have HLt := Lib.hid (show w4.heap.size < w7.heap.size ∧ w6.heap.size < w7.heap.size from ⟨lt_of_block HGP7.out, lt_of_block HG7.out⟩)
  have a0 : w8.cell? ⟨w4.heap.size, 0, none⟩ = some (.int .u32 2) := by
    rw [cell_of_row _ _ 0 _ _ _ HG8.out]; show some (Value.int .u32 (p.addr : Int)) = _; rw [HPv.out.1]; rfl
  have a1 : w8.cell? ⟨w4.heap.size, 1, none⟩ = some (.int .u64 1) := by
    rw [cell_of_row _ _ 1 _ _ _ HG8.out]; show some (Value.int .u64 (p.birth : Int)) = _; rw [HPv.out.2.1]; rfl
  have a2 : w8.cell? ⟨w6.heap.size, 0, none⟩ = some (.bool true) := (cell_of_row _ _ 0 _ _ _ HN8.out).trans rfl
  have hcl : c.length = 512 := by rw [HCv.out, cryptB_length _ _ _ (by rw [List.length_take, HKl.out]; rfl) (nonceB_length _ _)]; exact nodeB_length leaf_form (by simp [leafN]) leaf_size
  obtain ⟨x, hx⟩ : ∃ x, x = gB c 9 := ⟨_, rfl⟩
  have a3 : w8.cell? ⟨w7.heap.size, 9, none⟩ = some (.int .u8 (x.toNat : Int)) := by
    rw [cell_of_row _ _ 9 _ _ _ hr8, List.getElem?_toArray, List.getElem?_map, gB_get c 9 (by omega), ← hx]; rfl
  have f3 : w8.frozen? ⟨w7.heap.size, 9, none⟩ = false := by simp [World.frozen?, hr8]
  obtain ⟨y, hy⟩ : ∃ y, y = x ^^^ 1 := ⟨_, rfl⟩
  have HV := Lib.hid (show bits .xor .u8 (x.toNat : Int) 1 = (y.toNat : Int) by have := bx x 1; rw [← hy] at this; exact this)
  have HXY := Lib.hid (show y = gB c 9 ^^^ 1 by rw [hy, hx])
  have HCl := Lib.hid hcl
  have HGW := Lib.hid HB7.out.size
  have HF7 := Lib.hid (show ∀ k, F' k → k < w7.heap.size from fun k hk => by have := HLF.out k hk; have := HLt.out; omega)
  have HL7 := Lib.hid HP7.out.lt
  clear hr8 hb8 HB7 HP7 HD7 HGP7 HG7 hx hy hcl
  go_wp2_with fail
  rw [HV.out]
  obtain ⟨g8, hg8⟩ : ∃ g, g = w7.heap.size := ⟨_, rfl⟩
  have hr9 := heap_setCell_same w8 g8 9 _ _ (.int .u8 (y.toNat : Int)) (by rw [hg8]; exact HR8.out)
  obtain ⟨w9, hw9⟩ : ∃ w9, w9 = w8.setCell ⟨g8, 9, none⟩ (.int .u8 (y.toNat : Int)) := ⟨_, rfl⟩
  have hf9 : Fr (fun k => k = g8) w8 w9 := by rw [hw9]; exact (Fr.refl (fun k => k = g8) w8).set g8 9 rfl _
  rw [← hw9] at hr9
  obtain ⟨c2, hc2⟩ : ∃ c2, c2 = c.set 9 y := ⟨_, rfl⟩
  have hrow9 : w9.heap[g8]? = some (.cells (c2.map Bv).toArray 156 (0, 0)) := by
    rw [hr9, hc2, List.map_set, List.setIfInBounds_toArray]; rfl
  have hl2 : c2.length = 512 := by rw [hc2, List.length_set]; exact HCl.out
  have hs9 : Sl w9 1 (.slice (some ⟨g8, 0, none⟩) 512 512) 512 (c2.map Bv) := by
    refine ⟨by simp [hl2], some ⟨g8, 0, none⟩, 512, rfl, Nat.le_refl _, (fun h => by cases h), ?_⟩
    intro i u hi
    refine ⟨g8, 0, rfl, ?_⟩
    rw [Nat.zero_add]
    exact (cell_of_row w9 _ _ _ _ _ hrow9).trans (by simpa using hi)
  have hg8w : w.heap.size ≤ g8 := by rw [hg8]; exact HGW.out
  have hnf : ∀ k, F' k → k ≠ g8 := fun k hk e => by have := HF7.out k hk; omega
  have hnp : ∀ k, PlF P S W k → k ≠ g8 := fun k hk e => by have := HL7.out k hk; omega
  have HC2 := Lib.hid (show c2 = c.set 9 (gB c 9 ^^^ 1) by rw [hc2, HXY.out])
  have HP9 := Lib.hid (HP8.out.fr hf9 hnp)
  have HD9 := Lib.hid (HD8.out.fr hf9 hnf)
  have HB9 := Lib.hid (HB8.out.trans (hf9.below HB8.out.size (fun k e => by omega)))
  have HG9 := Lib.hid ((hf9.block _ (lt_of_block HG8.out) (by have := HLt.out; omega)).trans HG8.out)
  have hwr := dvWrite_ok D 2 lo F' d1 c2 (.slice (some ⟨g8, 0, none⟩) 512 512) w9 HD9.out (by rw [H1.out.1]; decide) hl2 hs9 (fun q m c' e hF => by
    injection e with e1 e2 e3
    injection e1 with e4
    rw [← e4] at hF
    exact hnf _ hF rfl) H1.out.2.1 (by rw [(step_up H1.out.2.2.1).1]; exact H1.out.2.1) (by rw [H1.out.2.2.2.1]; decide)
  rw [← hg8, ← hw9]
  clear hr9 hw9 hf9 hrow9 hs9 hg8 hc2 a0 a1 a2 a3 f3 HR8 HP8 HD8 HB8 HG8 HN8 HV HXY
  refine hwr.mono ?_
  clear hwr
  rintro e w10 ⟨F2, rfl, hd10, hf10, hF10⟩
  obtain ⟨d2, hd2⟩ : ∃ d, d = d1.step.wrote 2 c2 := ⟨_, rfl⟩
  rw [← hd2] at hd10
  have H2 := Lib.hid (show d2.size = 16 ∧ d2.down = false ∧ d2.waits.length = 2 ∧ d2.cur 2 = c2 by
    refine ⟨?_, ?_, ?_, ?_⟩
    · rw [hd2]; exact H1.out.1
    · rw [hd2]; exact (step_up H1.out.2.2.1).1.trans H1.out.2.1
    · rw [hd2]; show (d1.waits ++ [_]).length = 2; rw [List.length_append, H1.out.2.2.2.1]; rfl
    · rw [hd2, Dv.cur_wrote, if_pos rfl])
  have HD10 := Lib.hid hd10
  have HP10 := Lib.hid (show PlAt w10 P D S W d2.size ks (updT noneT 2 true) 1 by
    rw [H2.out.1, ← H1.out.1]; exact HP9.out.fr hf10 (fun k hk => HPF4.out k hk))
  have HB10 := Lib.hid (HB9.out.trans (hf10.below HB9.out.size (fun k hk => HF4.out k hk)))
  have HG10 := Lib.hid ((hf10.block _ (lt_of_block HG9.out) (fun h => by have := HLF.out _ h; omega)).trans HG9.out)
  clear hd10 hf10 hF10 hd2 HD9 HP9 HB9 HG9
  go_wp2_with (refine load_ptr rfl (.tmp 5) rfl rfl (At.of_row (show w10.heap[w4.heap.size]? = some (.cells p.cells.toArray 43 (0, 0)) from HG10.out)) HPw.out ?_)
  have hrd := poRead_any P D S W 1 lo ks (updT noneT 2 true) F2 d2 p w10 HP10.out HD10.out HPw.out (by rw [HPv.out.1]; decide) (by rw [H2.out.1, ← H1.out.1]; exact HPe.out) (by rw [H2.out.2.2.1]; decide)
  have hno : hashN (d2.cur p.addr) ≠ p.sum := by
    rw [HPv.out.1, H2.out.2.2.2, HPv.out.2.2, HC2.out, HCv.out, HKs.out, MK_enc, leaf_bytes]
    exact leaf_turned
  refine hrd.mono ?_
  clear hrd
  rintro e w11 hpost
  obtain ⟨rfl, hb11⟩ := hpost.sum H2.out.2.1 hno
  have HB11 := Lib.hid (HB10.out.trans (hb11.mono HB10.out.size))
  have HP11 := Lib.hid (HP10.out.below hb11)
  have HG11 := Lib.hid ((hb11.block _ (lt_of_block HG10.out)).trans HG10.out)
  have HN11 := Lib.hid (heap_alloc_new w11 (.cells zeroArr 25))
  clear hb11 hno HB10 HP10 HG10 HD10 hpost
  go_wp2_with (first | (refine store_nd rfl (.tmp 11) (.tmp 84) rfl rfl (arr := zeroArr) rfl HN11.out rfl rfl (zero_is w).one ?_; intro w12 hg hf hs; have HB12 := Lib.hid (show Below w11.heap.size w11 w12 from ((Below.refl _ w11).alloc (Nat.le_refl _) _).trans (hf.below (by simp) (fun j hj => by omega))); have HG12 := Lib.hid ((HB12.out.block _ (lt_of_block HG11.out)).trans HG11.out); clear hg hf hs) | (refine load_ptr rfl (.tmp 5) rfl rfl (At.of_row (show w12.heap[w4.heap.size]? = some (.cells p.cells.toArray 43 (0, 0)) from HG12.out)) HPw.out ?_))
  have HP12 := Lib.hid (HP11.out.below HB12.out)
  have HBB := Lib.hid (HB11.out.trans (HB12.out.mono HB11.out.size))
  clear HP11 HB11 HB12 HG11 HN11
  refine (poRead_nil p w12).mono ?_
  rintro e w13 ⟨rfl, hb13⟩
  have HP13 := Lib.hid (HP12.out.below hb13)
  have HB13 := Lib.hid (HBB.out.trans (hb13.mono HBB.out.size))
  have HN13 := Lib.hid (heap_alloc_new w13 (.cells zeroArr 25))
  clear hb13 HP12 HBB HG12
  go_wp2_with (refine store_nd rfl (.tmp 14) (.tmp 90) rfl rfl (arr := zeroArr) rfl HN13.out rfl rfl (zero_is w).one ?_; intro w14 hg hf hs; have HB14 := Lib.hid (show Below w13.heap.size w13 w14 from ((Below.refl _ w13).alloc (Nat.le_refl _) _).trans (hf.below (by simp) (fun j hj => by omega))); clear hg hf hs)
  have hlf := poLeft_any P D S W d2.size 1 ks (updT noneT 2 true) w14 (HP13.out.below HB14.out)
  rw [H2.out.1, show ((16 : Nat) : Int) - 2 - (cntT (updT noneT 2 true) 16 : Int) = 13 by decide] at hlf
  have HB15 := Lib.hid (HB13.out.trans (HB14.out.mono HB13.out.size))
  clear HP13 HB13 HB14 HN13
  refine hlf.mono ?_
  clear hlf
  rintro e w15 ⟨rfl, n15, rfl⟩
  go_wp2
  go_ret
  exact ⟨rfl, belowDrewN HB15.out _⟩

end Go.Proofs.YtkbnkdokcmpcgaaGreatDoor
namespace Go.Proofs.YtkbnkdokcmpcgaaGreatDoor
open Go.RowKit

/-- A pool and its device, all above B; what L names stands aside. -/
def PS (B : Nat) (w : World) (P D S W lo : Nat) (ks : List UInt8) (t : Nat → Bool) (birth : Nat) (d : Dv) (L : List (Nat × Obj)) : Prop :=
  ∃ F, PlAt w P D S W d.size ks t birth ∧ DvIn w lo D F d ∧ (∀ k, F k → B ≤ k ∧ k < w.heap.size) ∧ (∀ k, PlF P S W k → B ≤ k ∧ ¬ F k) ∧ ∀ b o, (b, o) ∈ L → w.heap[b]? = some o ∧ ¬ F b ∧ ¬ PlF P S W b

section
variable {B P D S W lo birth : Nat} {w w' : World} {ks : List UInt8} {t : Nat → Bool} {d : Dv} {L : List (Nat × Obj)}
theorem PS.below (h : PS B w P D S W lo ks t birth d L) (hb : Below w.heap.size w w') : PS B w' P D S W lo ks t birth d L := by
  obtain ⟨F, h1, h2, h3, h4, h5⟩ := h
  exact ⟨F, h1.below hb, h2.below hb, fun k hk => ⟨(h3 k hk).1, Nat.lt_of_lt_of_le (h3 k hk).2 hb.size⟩, h4, fun b o hm => ⟨(hb.block b (lt_of_block (h5 b o hm).1)).trans (h5 b o hm).1, (h5 b o hm).2⟩⟩
theorem PS.add (h : PS B w P D S W lo ks t birth d L) (hb : Below w.heap.size w w') {g : Nat} {o : Obj} (hg : w'.heap[g]? = some o) (hw : w.heap.size ≤ g) : PS B w' P D S W lo ks t birth d ((g, o) :: L) := by
  have hlt := (show PlAt w P D S W d.size ks t birth from h.choose_spec.1).lt
  obtain ⟨F, h1, h2, h3, h4, h5⟩ := h
  refine ⟨F, h1.below hb, h2.below hb, fun k hk => ⟨(h3 k hk).1, Nat.lt_of_lt_of_le (h3 k hk).2 hb.size⟩, h4, fun b o' hm => ?_⟩
  rcases List.mem_cons.1 hm with e | hm
  · injection e with e1 e2
    subst e1 e2
    exact ⟨hg, fun hF => by have := (h3 _ hF).2; omega, fun hp => by have := hlt _ hp; omega⟩
  · exact ⟨(hb.block b (lt_of_block (h5 b o' hm).1)).trans (h5 b o' hm).1, (h5 b o' hm).2⟩
theorem PS.row (h : PS B w P D S W lo ks t birth d L) {g : Nat} {o : Obj} (hm : (g, o) ∈ L) : w.heap[g]? = some o := by
  obtain ⟨F, _, _, _, _, h5⟩ := h; exact (h5 g o hm).1
theorem PS.pl (h : PS B w P D S W lo ks t birth d L) : PlAt w P D S W d.size ks t birth := by obtain ⟨F, h1, _⟩ := h; exact h1
theorem PS.dv (h : PS B w P D S W lo ks t birth d L) : ∃ F, DvIn w lo D F d := by obtain ⟨F, _, h2, _⟩ := h; exact ⟨F, h2⟩
theorem PS.wf (h : PS B w P D S W lo ks t birth d L) : d.Wf := by obtain ⟨F, _, ⟨L, T, wv, h2, _⟩, _⟩ := h; exact h2.wf
end

theorem made_ps (size : Nat) (w : World) (h1 : 16 ≤ size) (h2 : size ≤ 4096) :
    Calls Tryz.prog 17 #[.int .i64 (size : Int)] w fun e w' => ∃ P D S W lo, e = .returned (.tuple #[.pointer (some ⟨P, 0, none⟩), .pointer (some ⟨D, 0, none⟩), .agg (MK.map Bv).toArray, .bool true]) ∧
      (∀ B, B ≤ w.heap.size → PS B w' P D S W lo MK noneT 0 (Dv.new size) []) ∧ Below w.heap.size w w' := by
  refine (made_ok size w h1 h2).mono ?_
  rintro e w' ⟨P, D, S, W, lo, F, rfl, hp, hd, hF, hPF, hb⟩
  obtain ⟨Fs, hds, hFs, -⟩ := hd.small
  refine ⟨P, D, S, W, lo, rfl, fun B hB => ⟨Fs, hp, hds, fun k hk => ⟨Nat.le_trans hB (hF k (hFs k hk).1), (hFs k hk).2⟩, fun k hk => ⟨Nat.le_trans hB (hPF k hk).1, fun h => (hPF k hk).2 (hFs k h).1⟩, fun b o hm => by simp at hm⟩, hb⟩

section
variable (B P D S W lo birth : Nat) (ks : List UInt8) (t : Nat → Bool) (d : Dv) (L : List (Nat × Obj)) (w : World)
theorem begin_ps (b : Nat) (h : PS B w P D S W lo ks t birth d L) (hB : B ≤ w.heap.size) (h0 : 0 < b) (hb : b < 18446744073709551616) :
    Calls Tryz.prog 18 #[.pointer (some ⟨P, 0, none⟩), .int .u64 (b : Int)] w fun e w' => e = .returned (.int .i64 0) ∧ PS B w' P D S W lo ks t b d L ∧ Below B w w' := by
  obtain ⟨F, h1, h2, h3, h4, h5⟩ := h
  refine (poBegin_ok P D S W d.size birth b ks t w h1 h0 hb).mono ?_
  rintro e w' ⟨rfl, hp, hf⟩
  exact ⟨rfl, ⟨F, hp, h2.fr hf (fun k hk e => (h4 k (Or.inl e)).2 hk), fun k hk => ⟨(h3 k hk).1, Nat.lt_of_lt_of_le (h3 k hk).2 hf.size⟩, h4, fun b o hm => ⟨(hf.block b (lt_of_block (h5 b o hm).1) (fun e => (h5 b o hm).2.2 (Or.inl e))).trans (h5 b o hm).1, (h5 b o hm).2⟩⟩, hf.below hB (fun k e => (h4 k (Or.inl e)).1)⟩

/-- What is left where F and the pool's blocks alone are written to. -/
theorem PS.after {w' : World} {F F' : Nat → Prop} {t' : Nat → Bool} {d' : Dv} (hB : B ≤ w.heap.size) (h1 : PlAt w P D S W d.size ks t birth) (h3 : ∀ k, F k → B ≤ k ∧ k < w.heap.size) (h4 : ∀ k, PlF P S W k → B ≤ k ∧ ¬ F k)
    (h5 : ∀ b o, (b, o) ∈ L → w.heap[b]? = some o ∧ ¬ F b ∧ ¬ PlF P S W b) (hs : d'.size = d.size) (hp : PlAt w' P D S W d.size ks t' birth) (hd : DvIn w' lo D F' d') (hF : ∀ k, F' k → F k ∨ w.heap.size ≤ k) (hf : Fr (fun k => F k ∨ k = S ∨ k = W) w w') :
    PS B w' P D S W lo ks t' birth d' L ∧ Below B w w' := by
  obtain ⟨Fs, hds, hFs, -⟩ := hd.small
  have hnot : ∀ b o, (b, o) ∈ L → ¬ (F b ∨ b = S ∨ b = W) := fun b o hm => by
    rintro (e | e | e)
    · exact (h5 b o hm).2.1 e
    · exact (h5 b o hm).2.2 (Or.inr (Or.inl e))
    · exact (h5 b o hm).2.2 (Or.inr (Or.inr e))
  refine ⟨⟨Fs, by rw [hs]; exact hp, hds, fun k hk => ⟨?_, (hFs k hk).2⟩, fun k hk => ⟨(h4 k hk).1, fun hF' => ?_⟩, fun b o hm => ⟨(hf.block b (lt_of_block (h5 b o hm).1) (hnot b o hm)).trans (h5 b o hm).1, fun hF' => ?_, (h5 b o hm).2.2⟩⟩, hf.below hB ?_⟩
  · rcases hF k (hFs k hk).1 with e | e
    · exact (h3 k e).1
    · omega
  · rcases hF k (hFs k hF').1 with e | e
    · exact (h4 k hk).2 e
    · have := h1.lt k hk; omega
  · rcases hF b (hFs b hF').1 with e | e
    · exact (h5 b o hm).2.1 e
    · have := lt_of_block (h5 b o hm).1; omega
  · rintro k (e | e | e)
    · exact (h3 k e).1
    · exact (h4 k (Or.inr (Or.inl e))).1
    · exact (h4 k (Or.inr (Or.inr e))).1

variable (arr : Array Value) (n : Nd)
theorem write_ps_bad (h : PS B w P D S W lo ks t birth d L) (hn : NdIs w arr n) (h0 : 0 < birth) (hf : n.Fits) (hc : checkE n ≠ 0) :
    Calls Tryz.prog 19 #[.pointer (some ⟨P, 0, none⟩), .agg arr] w fun e w' => e = .returned (.tuple #[.agg Pt.zero.arr, .int .i64 (checkE n)]) ∧ PS B w' P D S W lo ks t birth d L ∧ Below w.heap.size w w' := by
  refine (poWrite_bad P D S W d.size birth ks t arr n w h.pl hn h0 hf hc).mono ?_
  rintro e w' ⟨rfl, hf'⟩
  have hb : Below w.heap.size w w' := hf'.below (Nat.le_refl _) (fun k e => e.elim)
  exact ⟨rfl, h.below hb, hb⟩
theorem write_ps_full (h : PS B w P D S W lo ks t birth d L) (hn : NdIs w arr n) (hT : Tz w) (h0 : 0 < birth) (hf : n.Fits) (hfo : formB n = true) (hsz : sizeN n ≤ 512) (hl : lowT t d.size = none) :
    Calls Tryz.prog 19 #[.pointer (some ⟨P, 0, none⟩), .agg arr] w fun e w' => e = .returned (.tuple #[.agg Pt.zero.arr, .int .i64 6]) ∧ PS B w' P D S W lo ks t birth d L ∧ Below w.heap.size w w' := by
  refine (poWrite_full P D S W birth ks t d arr n w h.pl hn hT h0 hf hfo hsz hl).mono ?_
  rintro e w' ⟨rfl, hf'⟩
  have hb : Below w.heap.size w w' := hf'.below (Nat.le_refl _) (fun k e => e.elim)
  exact ⟨rfl, h.below hb, hb⟩
theorem write_ps_ok (h : PS B w P D S W lo ks t birth d L) (hB : B ≤ w.heap.size) (hn : NdIs w arr n) (hT : Tz w) (h0 : 0 < birth) (hf : n.Fits) (hfo : formB n = true) (hsz : sizeN n ≤ 512) (a : Nat) (hl : lowT t d.size = some a)
    (hdn : d.down = false) (hst : d.step.down = false) (hw : d.waits.length ≤ 1000000) :
    Calls Tryz.prog 19 #[.pointer (some ⟨P, 0, none⟩), .agg arr] w fun e w' => e = .returned (.tuple #[.agg (sealP ks birth a (nodeB n)).arr, .int .i64 0]) ∧
      PS B w' P D S W lo ks (updT t a true) birth (d.step.wrote a (cryptB (ks.take 32) (nonceB birth a) (nodeB n))) L ∧ Below B w w' := by
  obtain ⟨F, h1, h2, h3, h4, h5⟩ := h
  refine (poWrite_ok P D S W birth lo ks t F d arr n w h1 h2 (fun k hk => (h4 k hk).2) hn hT h0 hf hfo hsz a hl hdn hst hw).mono ?_
  rintro e w' ⟨F', rfl, hp, hd, hF, hfr⟩
  exact ⟨rfl, PS.after B P D S W lo birth ks t d L w hB h1 h3 h4 h5 rfl hp hd hF hfr⟩
theorem write_ps_down (h : PS B w P D S W lo ks t birth d L) (hB : B ≤ w.heap.size) (hn : NdIs w arr n) (hT : Tz w) (h0 : 0 < birth) (hf : n.Fits) (hfo : formB n = true) (hsz : sizeN n ≤ 512) (a : Nat) (hl : lowT t d.size = some a)
    (hno : d.down = true ∨ d.step.down = true) :
    Calls Tryz.prog 19 #[.pointer (some ⟨P, 0, none⟩), .agg arr] w fun e w' => e = .returned (.tuple #[.agg Pt.zero.arr, .int .i64 7]) ∧ PS B w' P D S W lo ks t birth d.miss L ∧ Below B w w' := by
  obtain ⟨F, h1, h2, h3, h4, h5⟩ := h
  refine (poWrite_down P D S W birth lo ks t F d arr n w h1 h2 (fun k hk => (h4 k hk).2) hn hT h0 hf hfo hsz a hl hno).mono ?_
  rintro e w' ⟨rfl, hp, hd, hfr⟩
  exact ⟨rfl, PS.after B P D S W lo birth ks t d L w hB h1 h3 h4 h5 d.miss_size hp hd (fun k hk => Or.inl hk) hfr⟩
theorem read_ps (p : Pt) (h : PS B w P D S W lo ks t birth d L) (hp : p.Wf) (h0 : p.addr ≠ 0) (h1 : ptrE p d.size = 0) (hn : d.waits.length ≤ 1000000) :
    Calls Tryz.prog 22 #[.pointer (some ⟨P, 0, none⟩), .agg p.arr] w fun e w' => RdPost w ks d p e w' := by
  obtain ⟨F, hd⟩ := h.dv
  exact poRead_any P D S W birth lo ks t F d p w h.pl hd hp h0 h1 hn
end

end Go.Proofs.YtkbnkdokcmpcgaaGreatDoor
