/- hkdf.Expand of 32 bytes, caskettop.cut, stands: the walks. -/
import Derived.Test.YtdmbhgejemdafaaDoorHmac
import Derived.Lib.SlBytesConst
namespace Go.Proofs.YtdmbhgejemdafaaDoor
open Go.RowKit Big
set_option linter.unusedVariables false
attribute [local go_sem ↓] apB_eq
set_option maxRecDepth 100000 in
set_option maxHeartbeats 1000000 in
theorem cut_any (v : Value) (l : List UInt8) (m : Int) (w : World) (hb : Bsl w v l) (hm : 0 ≤ m) (hm2 : m ≤ 1000000) :
    Calls Tryd.prog 5 #[v, .int .i64 m] w fun e w' => ∃ v', e = .returned v' ∧ OB w' w.heap.size v' (l.take m.toNat) ∧ Below w.heap.size w w' := by
  obtain ⟨ao, cap, rfl⟩ := hb.val'
  obtain ⟨hcap1, hcap2⟩ := hb.len.2
  obtain ⟨k, hk⟩ : ∃ k, k = min l.length m.toNat := ⟨_, rfl⟩
  have hmin : (if m < (l.length : Int) then m else (l.length : Int)) = (k : Int) := by split <;> omega
  have hkl : k ≤ l.length := by omega
  have htk : l.take m.toNat = l.take k := by
    by_cases h : m.toNat ≤ l.length
    · rw [show k = m.toNat by omega]
    · rw [List.take_of_length_le (by omega), List.take_of_length_le (by omega)]
  rw [htk]
  have hbt := hb.take hkl
  have hkc : (k : Int) ≤ cap := by omega
  have hklen : (l.take k).length ≤ 1000000 := by rw [List.length_take]; omega
  have hbel : Below w.heap.size w (w.alloc (.cells #[] 5)) := (Below.refl _ _).alloc (Nat.le_refl _) _
  have hown : OB (w.alloc (.cells #[] 5)) w.heap.size (.slice (some ⟨w.heap.size, 0, none⟩) 0 0) [] := World.ownsRow_made w #[] 0 (Nat.le_refl _) (by decide) rfl
  obtain ⟨v3, w3, hap, ho3, hB3, _, _⟩ := apB_made _ w.heap.size 22 _ _ _ _ hown (hbt.keep hbel) (by simp; omega) (by simp)
  rw [List.nil_append] at ho3
  have HO := Lib.hid (And.intro ho3 (hbel.trans hB3))
  clear ho3 hB3 hown hbel hbt htk hk hklen
  go_enter Tryd.func5, Tryd.ntmps5
  go_wp2_with fail
  go_ret
  exact ⟨_, rfl, HO.out⟩
attribute [local go_sem ↓] alT_32 ldT_32 stT_32
set_option maxRecDepth 100000 in
set_option maxHeartbeats 1000000 in
theorem stands_any (w : World) (hk : ShaAt w) : Calls Tryd.prog 6 #[] w fun e w' => e = .returned (.bool true) ∧ Below w.heap.size w w' := by
  have kc := fun (w : World) (C : Array Value) (n c : Nat) => Lib.run_convert_bytes_const (P := Tryd.prog) w 22 5 C n c Tryd.underlying22 Tryd.underlying5
  have hb1 := Bsl.lit w [97, 98, 99] #[.int .u8 97, .int .u8 98, .int .u8 99] (3, 4) 3 rfl (by simp) (by omega)
  have hB1 : Below w.heap.size w (w.alloc (.cells #[.int .u8 97, .int .u8 98, .int .u8 99] 5 (3, 4))) := (Below.refl _ _).alloc (Nat.le_refl _) _
  rw [show ([97, 98, 99] : List UInt8).length = 3 from rfl] at hb1
  have hpv := (PartV.nil _).cons hb1
  have hpt := PartsAt.made 22 hpv.1 hpv.2 (n := 1) rfl (by omega)
  have hB2 := hB1.alloc (by simp) (.cells #[Value.slice (some ⟨w.heap.size, 0, none⟩) 3 3] 22)
  have hss := ssum_any _ _ _ hpt (by unfold sumL; decide) (hk.keep hB2)
  obtain ⟨R, hR⟩ : ∃ R, R = sha [97, 98, 99] := ⟨_, rfl⟩
  rw [show [[97, 98, 99]].flatten = ([97, 98, 99] : List UInt8) from rfl, ← hR] at hss
  have hRl : R.length = 32 := by rw [hR]; exact sha_len _
  have habc := sha_abc
  rw [← hR] at habc
  have HR := Lib.hid hRl
  clear hR hRl hpt hb1 hB1 hpv
  rw [World.size_alloc] at hss
  go_enter Tryd.func6, Tryd.ntmps6
  go_wp2_with fail
  refine hss.mono ?_
  rintro e w3 ⟨rfl, hB3⟩
  have hB3 := hB2.trans (hB3.mono hB2.size)
  obtain ⟨wa, w4, hal4, hst4, hA4, hB4, hs4⟩ := big32.made w3 (R.map UInt8.toNat) (by rw [List.length_map, HR.out, zN_len])
  have hB4 := hB3.trans (hB4.mono hB3.size)
  rw [nvs_bytes] at hst4
  have c0 := hA4.cell (j := 0) (by rw [List.length_map, HR.out]; omega)
  have c1 := hA4.cell (j := 1) (by rw [List.length_map, HR.out]; omega)
  have c31 := hA4.cell (j := 31) (by rw [List.length_map, HR.out]; omega)
  have hg : ∀ j, j < 32 → (R.map UInt8.toNat).getD j 0 = (R.getD j 0).toNat := fun j hj => by
    have := HR.out
    simp [List.getD, show j < R.length by omega]
  rw [hg 0 (by omega), habc.1] at c0
  rw [hg 1 (by omega), habc.2.1] at c1
  rw [hg 31 (by omega), habc.2.2] at c31
  rw [show (((0xba : UInt8).toNat : Nat) : Int) = 186 from rfl] at c0
  rw [show (((0x78 : UInt8).toNat : Nat) : Int) = 120 from rfl] at c1
  rw [show (((0xad : UInt8).toNat : Nat) : Int) = 173 from rfl] at c31
  have HB := Lib.hid hB4
  clear hg habc hss hB3 hB2 hA4 hB4
  go_wp2_with fail
  go_ret
  exact ⟨rfl, HB.out⟩
/-- The bytes that come out of a key for a use: 32. -/
def expandL (key use : List UInt8) : List UInt8 := hmacL key (use ++ [1])
theorem expandL_len (key use : List UInt8) : (expandL key use).length = 32 := sha_len _
theorem src_lit (w : World) (us : List Value) (t : TypeId) (h1 : ∀ u ∈ us, u.oneCell' = true) {n : Nat} (hn : n = us.length) : Src (w.alloc (.cells us.toArray t)) 1 (.slice (some ⟨w.heap.size, 0, none⟩) n n) (us.map one1) := by
  subst hn
  refine ⟨one1_even us, by rw [one1_flat]; exact h1, .inr ⟨⟨w.heap.size, 0, none⟩, us.length, by rw [List.length_map], fun j u hu => ?_⟩⟩
  rw [one1_flat] at hu
  rw [Addr.add_mid, Nat.zero_add, World.cell?_alloc_new]
  simpa using hu
attribute [local go_sem ↓] alT_32 ldT_32 stT_32
set_option maxRecDepth 100000 in
set_option maxHeartbeats 1000000 in
theorem expand_any (kv uv : Value) (key use : List UInt8) (w : World) (hb : Bsl w kv key) (hu : Bsl w uv use) (hl : key.length ≤ 64) (hul : use.length ≤ 1000) (hk : ShaAt w) :
    Calls Tryd.prog 4 #[kv, uv, .int .i64 32] w fun e w' => ∃ v, e = .returned (.tuple #[v, .int .i64 0]) ∧ Bsl w' v (expandL key use) ∧ Below w.heap.size w w' := by
  obtain ⟨R, hR⟩ : ∃ R, R = expandL key use := ⟨_, rfl⟩
  rw [← hR]
  have hRl : R.length = 32 := by rw [hR]; exact expandL_len _ _
  have HR := Lib.hid (And.intro hR hRl)
  clear hR hRl
  obtain ⟨ku, kc, hkv⟩ := hb.val'
  obtain ⟨uu, uc, huv⟩ := hu.val'
  have hb1 := Bsl.lit w [1] #[.int .u8 1] (0, 0) 1 rfl (by simp) (by omega)
  have hB1 : Below w.heap.size w (w.alloc (.cells #[.int .u8 1] 5)) := (Below.refl _ _).alloc (Nat.le_refl _) _
  rw [show ([1] : List UInt8).length = 1 from rfl] at hb1
  have hnil : Bsl (w.alloc (.cells #[.int .u8 1] 5)) (.slice none 0 0) [] := (OB.nil _ 0).bsl
  have hpv := (((PartV.nil _).cons hb1).cons (hu.keep hB1)).cons hnil
  have hsr := src_lit (w.alloc (.cells #[.int .u8 1] 5)) _ 22 hpv.one (n := 3) rfl
  have hB2 := (Below.refl (w.alloc (.cells #[.int .u8 1] 5)).heap.size (w.alloc (.cells #[.int .u8 1] 5))).alloc (Nat.le_refl _) (.cells [Value.slice none 0 0, uv, .slice (some ⟨w.heap.size, 0, none⟩) 1 1].toArray 22)
  have hpv2 := hpv.keep hB2
  have hb2 := (hb.keep hB1).keep hB2
  have hk2 := (hk.keep hB1).keep hB2
  have hB02 := hB1.trans (hB2.mono hB1.size)
  have hsu := hsum_any kv _ key _ _ _ hb2 hl hsr hpv2 (by simp) (by unfold sumL; simp; omega) hk2
  rw [show [[], use, [1]].flatten = use ++ [1] by simp, show hmacL key (use ++ [1]) = expandL key use from rfl, ← HR.out.1, World.size_alloc] at hsu
  subst hkv
  subst huv
  clear hsr hpv hpv2 hb2 hk2 hnil hb1 hB1 hB2 hb hu
  go_enter Tryd.func4, Tryd.ntmps4
  go_wp2_with fail
  refine wp_loop_rounds 2 ?_
  rw [rounds_succ]
  go_wp2_with fail
  refine hsu.mono ?_
  rintro e w3 ⟨rfl, hB3⟩
  have hB3 := hB02.trans (hB3.mono hB02.size)
  obtain ⟨wa, w4, hal4, hst4, hA4, hB4, hs4⟩ := big32.made w3 (R.map UInt8.toNat) (by rw [List.length_map, HR.out.2, zN_len])
  have hB4 := hB3.trans (hB4.mono hB3.size)
  rw [nvs_bytes] at hst4
  have hbl := hA4.bsl (n := 32) (cap := 32) HR.out.2.symm (Nat.le_refl _) (by omega)
  obtain ⟨v5, w5, hap, ho5, hB5, _, _⟩ := apB_made w4 w.heap.size 22 (.slice none 0 0) _ [] R (OB.nil _ _) hbl (by simp; rw [HR.out.2]; omega) hB4.size
  rw [List.nil_append] at ho5
  have hB5 := hB4.trans hB5
  obtain ⟨g, cap, hvv, hgb, hgs, hgc, hgm⟩ := ho5.shape (by intro e; have := HR.out.2; rw [e] at this; simp at this)
  subst hvv
  rw [HR.out.2] at hap ho5 hgc
  have hbf := ho5.part (m := 32) (c2 := 32) (by rw [HR.out.2]; exact Nat.le_refl _) (Nat.le_refl _) hgc
  rw [List.take_of_length_le (by rw [HR.out.2]; exact Nat.le_refl _)] at hbf
  have HB := Lib.hid (And.intro hbf hB5)
  clear hbf hB5 ho5 hbl hA4 hB4 hB3 hB02 hs4 hsu
  generalize w3.heap.size = p at *
  have hci : (32 : Int) ≤ cap := by omega
  go_wp2_with fail
  rw [rounds_succ]
  go_wp2_with fail
  go_ret2
  exact ⟨_, rfl, HB.out⟩
end Go.Proofs.YtdmbhgejemdafaaDoor
