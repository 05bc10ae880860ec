/- vault.Vault: what an ideal one is in memory; Ideal, Count. -/
import Derived.Test.YtembfelckbmgiaaDoorVault
import Derived.Test.YtembfelckbmgiaaDoorVMap
import Derived.Test.YtembfelckbmgiaaDoorBld
namespace Go.Proofs.YtembfelckbmgiaaDoor
open Go.RowKit Big
set_option linter.unusedVariables false
/-- An ideal vault at p: its key, its names in order, what was used, its table. -/
def VaultAt (w : World) (p : Nat) (K : List UInt8) (bn bu bt : Nat) (ns : List (List UInt8)) (us ts : List MapEntry) : Prop :=
  (K.length = 32 ∧ p < w.heap.size ∧ p ≠ bn ∧ p ≠ bu ∧ p ≠ bt ∧ bn ≠ bu ∧ bn ≠ bt ∧ bu ≠ bt) ∧ w.rangeAt p 0 (.bool true :: (nvs .u8 (K.map UInt8.toNat) ++ [.map (some bn), .map (some bu), .map (some bt)])) ∧
  MapAt w bn (nameL 0 ns) ∧ MapAt w bu us ∧ MapAt w bt ts
theorem VaultAt.only {S : Nat → Prop} {w w' : World} {p bn bu bt : Nat} {K : List UInt8} {ns : List (List UInt8)} {us ts : List MapEntry} (h : VaultAt w p K bn bu bt ns us ts) (ho : Only S w w') (h0 : ¬ S p) (h1 : ¬ S bn) (h2 : ¬ S bu) (h3 : ¬ S bt) : VaultAt w' p K bn bu bt ns us ts :=
  ⟨⟨h.1.1, Nat.lt_of_lt_of_le h.1.2.1 ho.size, h.1.2.2⟩, rangeAt_only h.2.1 ho h0, h.2.2.1.only ho h1, h.2.2.2.1.only ho h2, h.2.2.2.2.only ho h3⟩
theorem VaultAt.keep {w w' : World} {p bn bu bt : Nat} {K : List UInt8} {ns : List (List UInt8)} {us ts : List MapEntry} (h : VaultAt w p K bn bu bt ns us ts) (hb : Below w.heap.size w w') : VaultAt w' p K bn bu bt ns us ts :=
  h.only (Only.of_below (S := fun _ => False) hb) (fun h => h) (fun h => h) (fun h => h) (fun h => h)
theorem VaultAt.c0 {w : World} {p bn bu bt : Nat} {K : List UInt8} {ns : List (List UInt8)} {us ts : List MapEntry} (h : VaultAt w p K bn bu bt ns us ts) : w.cell? ⟨p, 0, none⟩ = some (.bool true) := h.2.1 0 _ rfl
theorem VaultAt.cm {w : World} {p bn bu bt : Nat} {K : List UInt8} {ns : List (List UInt8)} {us ts : List MapEntry} (h : VaultAt w p K bn bu bt ns us ts) :
    w.cell? ⟨p, 33, none⟩ = some (.map (some bn)) ∧ w.cell? ⟨p, 34, none⟩ = some (.map (some bu)) ∧ w.cell? ⟨p, 35, none⟩ = some (.map (some bt)) := by
  have hl : (nvs .u8 (K.map UInt8.toNat)).length = 32 := by rw [nvs_len, List.length_map, h.1.1]
  have hj : ∀ j, (.bool true :: (nvs .u8 (K.map UInt8.toNat) ++ [Value.map (some bn), .map (some bu), .map (some bt)]))[33 + j]? = ([Value.map (some bn), .map (some bu), .map (some bt)])[j]? := fun j => by
    rw [show 33 + j = (32 + j) + 1 by omega, List.getElem?_cons_succ, List.getElem?_append_right (by omega), hl]
    congr 1; omega
  refine ⟨?_, ?_, ?_⟩
  · have := h.2.1 33 _ (hj 0); rwa [Nat.zero_add] at this
  · have := h.2.1 34 _ (hj 1); rwa [Nat.zero_add] at this
  · have := h.2.1 35 _ (hj 2); rwa [Nat.zero_add] at this
theorem VaultAt.key {w : World} {p bn bu bt : Nat} {K : List UInt8} {ns : List (List UInt8)} {us ts : List MapEntry} (h : VaultAt w p K bn bu bt ns us ts) : w.rangeAt p 1 (nvs .u8 (K.map UInt8.toNat)) := fun j v hv => by
  have hj : j < (nvs .u8 (K.map UInt8.toNat)).length := (List.getElem?_eq_some_iff.1 hv).1
  have := h.2.1 (j + 1) v (by rw [List.getElem?_cons_succ, List.getElem?_append_left hj]; exact hv)
  rwa [show 0 + (j + 1) = 1 + j by omega] at this
theorem setL_at (X Y : List Value) (u m : Value) (k : Nat) (hk : k = X.length) : setL (X ++ u :: Y) k [m] = X ++ m :: Y := by
  subst hk
  unfold setL
  rw [List.take_left' rfl, List.drop_append]
  simp
/-- The types of the vault's maps. -/
theorem tNames : Tryd.prog.underlying 58 = some (.map 9 3) := Tryd.underlying58
theorem bdT_V (ps : Array (Nat × Value)) : Instr.build 62 ps = bdT 62 ps := rfl
def zV : List Value := .bool false :: (nvs .u8 (zN 32) ++ [.map none, .map none, .map none])
theorem bd_V (K : List UInt8) (hK : K.length = 32) (b1 b2 b3 : Nat) (w : World) :
    (bdT 62 #[(0, .bool true), (1, .agg (K.map bv).toArray), (2, .map (some b1)), (3, .map (some b2)), (4, .map (some b3))]).run Tryd.prog w = .ok (.agg (.bool true :: (nvs .u8 (K.map UInt8.toNat) ++ [.map (some b1), .map (some b2), .map (some b3)])).toArray) w := by
  refine run_bdT ?_ w
  have hl : (nvs .u8 (K.map UInt8.toNat)).length = 32 := by rw [nvs_len, List.length_map, hK]
  rw [← nvs_bytes]
  rw [built_of (zs := zV) (places := [(0, 1), (1, 32), (33, 1), (34, 1), (35, 1)]) (by kernel_rfl) Tryd.underlying62 (by kernel_rfl)]
  have hz : zV.length = 36 := by kernel_rfl
  rw [fill_step (off := 0) (cs := [.bool true]) rfl rfl (by rw [hz]; decide)]
  rw [fill_step (off := 1) (cs := nvs .u8 (K.map UInt8.toNat)) (by rw [hl]; rfl) rfl (by rw [setL_len _ _ _ (by rw [hz]; decide), hz, hl]; decide)]
  have e1 : setL (setL zV 0 [.bool true]) 1 (nvs .u8 (K.map UInt8.toNat)) = .bool true :: (nvs .u8 (K.map UInt8.toNat) ++ [.map none, .map none, .map none]) := by
    unfold setL
    rw [hl]
    rfl
  rw [e1]
  generalize nvs .u8 (K.map UInt8.toNat) = X at *
  rw [fill_step (off := 33) (cs := [.map (some b1)]) rfl rfl (by simp [hl])]
  rw [show (Value.bool true :: (X ++ [.map none, .map none, .map none])) = (Value.bool true :: X) ++ Value.map none :: [.map none, .map none] from rfl, setL_at _ _ _ _ _ (by simp [hl])]
  rw [fill_step (off := 34) (cs := [.map (some b2)]) rfl rfl (by simp [hl])]
  rw [show ((Value.bool true :: X) ++ Value.map (some b1) :: [.map none, .map none]) = (Value.bool true :: X ++ [Value.map (some b1)]) ++ Value.map none :: [.map none] by simp, setL_at _ _ _ _ _ (by simp [hl])]
  rw [fill_step (off := 35) (cs := [.map (some b3)]) rfl rfl (by simp [hl])]
  rw [show ((Value.bool true :: X ++ [Value.map (some b1)]) ++ Value.map (some b2) :: [.map none]) = (Value.bool true :: X ++ [Value.map (some b1), .map (some b2)]) ++ Value.map none :: [] by simp, setL_at _ _ _ _ _ (by simp [hl])]
  simp [Instr.fill]
theorem vault_made (w0 : World) (K : List UInt8) (hK : K.length = 32) (T : TypeId) :
    VaultAt ((((w0.alloc (.map #[] 0)).alloc (.map #[] 0)).alloc (.map #[] 0)).alloc (.cells (.bool true :: (nvs .u8 (K.map UInt8.toNat) ++ [.map (some w0.heap.size), .map (some (w0.heap.size + 1)), .map (some (w0.heap.size + 1 + 1))])).toArray T))
      (w0.heap.size + 1 + 1 + 1) K w0.heap.size (w0.heap.size + 1) (w0.heap.size + 1 + 1) [] [] [] := by
  have m1 := MapAt.made w0
  have m2 := MapAt.made (w0.alloc (.map #[] 0))
  have m3 := MapAt.made ((w0.alloc (.map #[] 0)).alloc (.map #[] 0))
  have hr := rangeAt_new (((w0.alloc (.map #[] 0)).alloc (.map #[] 0)).alloc (.map #[] 0)) (.bool true :: (nvs .u8 (K.map UInt8.toNat) ++ [.map (some w0.heap.size), .map (some (w0.heap.size + 1)), .map (some (w0.heap.size + 1 + 1))])) T
  have k1 : ∀ (W : World) o, Below W.heap.size W (W.alloc o) := fun W o => (Below.refl _ _).alloc (Nat.le_refl _) _
  have M1 := ((m1.keep (k1 _ (.map #[] 0))).keep (k1 _ (.map #[] 0))).keep (k1 _ (.cells (.bool true :: (nvs .u8 (K.map UInt8.toNat) ++ [.map (some w0.heap.size), .map (some (w0.heap.size + 1)), .map (some (w0.heap.size + 1 + 1))])).toArray T))
  have M2 := (m2.keep (k1 _ (.map #[] 0))).keep (k1 _ (.cells (.bool true :: (nvs .u8 (K.map UInt8.toNat) ++ [.map (some w0.heap.size), .map (some (w0.heap.size + 1)), .map (some (w0.heap.size + 1 + 1))])).toArray T))
  have M3 := m3.keep (k1 _ (.cells (.bool true :: (nvs .u8 (K.map UInt8.toNat) ++ [.map (some w0.heap.size), .map (some (w0.heap.size + 1)), .map (some (w0.heap.size + 1 + 1))])).toArray T))
  simp only [World.size_alloc] at M1 M2 M3 hr
  refine ⟨⟨hK, by simp only [World.size_alloc]; omega, by omega, by omega, by omega, by omega, by omega, by omega⟩, hr, M1, M2, M3⟩
attribute [local go_sem ↓] ldT_32 bdT_V
set_option maxRecDepth 100000 in
set_option maxHeartbeats 1000000 in
theorem vault_any (K : List UInt8) (w : World) (hK : K.length = 32) :
    Calls Tryd.prog 10 #[.bool true, .agg (K.map bv).toArray] w fun e w' => ∃ p bn bu bt, e = .returned (.pointer (some ⟨p, 0, none⟩)) ∧ VaultAt w' p K bn bu bt [] [] [] ∧ (w.heap.size ≤ p ∧ w.heap.size ≤ bn ∧ w.heap.size ≤ bu ∧ w.heap.size ≤ bt) ∧ Below w.heap.size w w' := by
  obtain ⟨w0, hw0, hA0, hB0, hs0⟩ : ∃ w0, w0 = w.alloc (.cells (K.map bv).toArray 25) ∧ AN .u8 w0 w.heap.size (K.map UInt8.toNat) ∧ Below w.heap.size w w0 ∧ w0.heap.size = w.heap.size + 1 :=
    ⟨_, rfl, box_bytes w K _, (Below.refl _ _).alloc (Nat.le_refl _) _, by simp⟩
  have hld := big32.ld hA0 (by rw [List.length_map, hK, zN_len])
  rw [nvs_bytes, hw0] at hld
  have hmm := fun t w => run_makeMap (P := Tryd.prog) t w
  have hbd := fun b1 b2 b3 w => bd_V K hK b1 b2 b3 w
  go_enter Tryd.func10, Tryd.ntmps10
  go_wp2_with fail
  go_ret
  have hv := vault_made (w.alloc (.cells (K.map bv).toArray 25)) K hK 62
  rw [World.size_alloc] at hv
  exact ⟨_, _, _, _, rfl, hv, ⟨by omega, by omega, by omega, by omega⟩, (((((Below.refl _ _).alloc (Nat.le_refl _) _).alloc (by simp) _).alloc (by simp; omega) _).alloc (by simp; omega) _).alloc (by simp; omega) _⟩
set_option maxRecDepth 100000 in
set_option maxHeartbeats 1000000 in
theorem ideal_any (K : List UInt8) (w : World) (hK : K.length = 32) :
    Calls Tryd.prog 4 #[.agg (K.map bv).toArray] w fun e w' => ∃ p bn bu bt, e = .returned (.pointer (some ⟨p, 0, none⟩)) ∧ VaultAt w' p K bn bu bt [] [] [] ∧ (w.heap.size ≤ p ∧ w.heap.size ≤ bn ∧ w.heap.size ≤ bu ∧ w.heap.size ≤ bt) ∧ Below w.heap.size w w' := by
  obtain ⟨w0, hw0, hA0, hB0, hs0⟩ : ∃ w0, w0 = w.alloc (.cells (K.map bv).toArray 25) ∧ AN .u8 w0 w.heap.size (K.map UInt8.toNat) ∧ Below w.heap.size w w0 ∧ w0.heap.size = w.heap.size + 1 :=
    ⟨_, rfl, box_bytes w K _, (Below.refl _ _).alloc (Nat.le_refl _) _, by simp⟩
  have hld := big32.ld hA0 (by rw [List.length_map, hK, zN_len])
  rw [nvs_bytes] at hld
  have hvt := vault_any K w0 hK
  rw [hw0] at hld hvt
  rw [← hw0] at hvt
  go_enter Tryd.func4, Tryd.ntmps4
  go_wp2_with fail
  rw [← hw0]
  refine hvt.mono ?_
  rintro e w1 ⟨p, bn, bu, bt, rfl, hV, hle, hB1⟩
  have HF := Lib.hid (And.intro hV (And.intro hle (hB0.trans (hB1.mono hB0.size))))
  clear hV hle hB1 hvt hld
  go_wp2_with fail
  go_ret
  obtain ⟨h1, h2, h3⟩ := HF.out
  exact ⟨_, _, _, _, rfl, h1, ⟨by omega, by omega, by omega, by omega⟩, h3⟩
set_option maxRecDepth 100000 in
theorem count_any (w : World) {p bn bu bt : Nat} {K : List UInt8} {ns : List (List UInt8)} {us ts : List MapEntry} (h : VaultAt w p K bn bu bt ns us ts) :
    Calls Tryd.prog 9 #[.pointer (some ⟨p, 0, none⟩)] w fun e w' => e = .returned (.int .i64 (us.length : Int)) ∧ w = w' := by
  have c1 := h.cm.2.1
  have hlen := fun ty => run_len_map (P := Tryd.prog) Tryd.underlying59 h.2.2.2.1 ty
  go_enter Tryd.func9, Tryd.ntmps9
  go_wp2_with fail
  go_ret
  exact ⟨rfl, rfl⟩
end Go.Proofs.YtembfelckbmgiaaDoor
