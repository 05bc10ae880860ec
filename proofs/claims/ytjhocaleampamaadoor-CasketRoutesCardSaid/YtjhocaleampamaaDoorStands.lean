/- caskettop.cut, stands: the walks. -/
import Derived.Test.YtjhocaleampamaaDoorShaD
import Derived.Test.YtjhocaleampamaaDoorOps
import Derived.Lib.SlBytesConst
namespace Go.Proofs.YtjhocaleampamaaDoor
open Go.RowKit Big
set_option linter.unusedVariables false
theorem sha_len (l : List UInt8) : (sha l).length = 32 := by
  have h : ∀ n b h, h.length = 8 → (shaBlocks n b h).length = 8 := by
    intro n
    induction n with
    | zero => intro b h hh; exact hh
    | succ n ih =>
      intro b h hh
      rw [shaBlocks]
      refine ih _ _ ?_
      unfold shaMix
      rw [List.length_zipWith, hh, shaRounds_len _ _ _ hh]; rfl
  unfold sha
  rw [be4_flat_len, h _ _ _ rfl]
/-- v is a slice that holds the values us, each a slice of the bytes ls. -/
def PartV (w : World) (us : List Value) (ls : List (List UInt8)) : Prop := us.length = ls.length ∧ ∀ j, j < ls.length → Bsl w (us.getD j undef) (ls.getD j [])
theorem PartV.keep {w w' : World} {us : List Value} {ls : List (List UInt8)} (h : PartV w us ls) (hb : Below w.heap.size w w') : PartV w' us ls := ⟨h.1, fun j hj => (h.2 j hj).keep hb⟩
theorem PartV.one {w : World} {us : List Value} {ls : List (List UInt8)} (h : PartV w us ls) : ∀ u ∈ us, u.oneCell' = true := by
  intro u hu
  obtain ⟨j, hj, rfl⟩ := List.getElem_of_mem hu
  obtain ⟨ao, cap, e, _⟩ := h.2 j (by rw [← h.1]; exact hj)
  simp only [List.getD, List.getElem?_eq_getElem hj, Option.getD_some] at e
  rw [e]; rfl
theorem PartV.cons {w : World} {u : Value} {l : List UInt8} {us : List Value} {ls : List (List UInt8)} (h : PartV w us ls) (hb : Bsl w u l) : PartV w (u :: us) (l :: ls) := by
  refine ⟨by simp [h.1], fun j hj => ?_⟩
  cases j with
  | zero => simpa using hb
  | succ j => simpa using h.2 j (by simpa using hj)
theorem PartV.nil (w : World) : PartV w [] [] := ⟨rfl, fun j hj => by simp at hj⟩
attribute [local go_sem ↓] apB_eq
attribute [local go_sem ↓] alT_32 ldT_32 stT_32
set_option maxRecDepth 100000 in
set_option maxHeartbeats 1000000 in
theorem stands_any (w : World) (hk : ShaAt w) : Calls Tryd.prog 6 #[] w fun e w' => e = .returned (.bool true) ∧ Below w.heap.size w w' := by
  have kc := fun (w : World) (C : Array Value) (n c : Nat) => Lib.run_convert_bytes_const (P := Tryd.prog) w 39 5 C n c Tryd.underlying39 Tryd.underlying5
  have hb1 := Bsl.lit w [97, 98, 99] #[.int .u8 97, .int .u8 98, .int .u8 99] (3, 4) 3 rfl (by simp) (by omega)
  have hB1 : Below w.heap.size w (w.alloc (.cells #[.int .u8 97, .int .u8 98, .int .u8 99] 5 (3, 4))) := (Below.refl _ _).alloc (Nat.le_refl _) _
  rw [show ([97, 98, 99] : List UInt8).length = 3 from rfl] at hb1
  have hpv := (PartV.nil _).cons hb1
  have hpt := PartsAt.made 39 hpv.1 hpv.2 (n := 1) rfl (by omega)
  have hB2 := hB1.alloc (by simp) (.cells #[Value.slice (some ⟨w.heap.size, 0, none⟩) 3 3] 39)
  have hss := ssum_any _ _ _ hpt (by unfold sumL; decide) (hk.keep hB2)
  obtain ⟨R, hR⟩ : ∃ R, R = sha [97, 98, 99] := ⟨_, rfl⟩
  rw [show [[97, 98, 99]].flatten = ([97, 98, 99] : List UInt8) from rfl, ← hR] at hss
  have hRl : R.length = 32 := by rw [hR]; exact sha_len _
  have habc := sha_abc
  rw [← hR] at habc
  have HR := Lib.hid hRl
  clear hR hRl hpt hb1 hB1 hpv
  rw [World.size_alloc] at hss
  go_enter Tryd.func6, Tryd.ntmps6
  go_wp2_with fail
  refine hss.mono ?_
  rintro e w3 ⟨rfl, hB3⟩
  have hB3 := hB2.trans (hB3.mono hB2.size)
  obtain ⟨wa, w4, hal4, hst4, hA4, hB4, hs4⟩ := big32.made w3 (R.map UInt8.toNat) (by rw [List.length_map, HR.out, zN_len])
  have hB4 := hB3.trans (hB4.mono hB3.size)
  rw [nvs_bytes] at hst4
  have c0 := hA4.cell (j := 0) (by rw [List.length_map, HR.out]; omega)
  have c1 := hA4.cell (j := 1) (by rw [List.length_map, HR.out]; omega)
  have c31 := hA4.cell (j := 31) (by rw [List.length_map, HR.out]; omega)
  have hg : ∀ j, j < 32 → (R.map UInt8.toNat).getD j 0 = (R.getD j 0).toNat := fun j hj => by
    have := HR.out
    simp [List.getD, show j < R.length by omega]
  rw [hg 0 (by omega), habc.1] at c0
  rw [hg 1 (by omega), habc.2.1] at c1
  rw [hg 31 (by omega), habc.2.2] at c31
  rw [show (((0xba : UInt8).toNat : Nat) : Int) = 186 from rfl] at c0
  rw [show (((0x78 : UInt8).toNat : Nat) : Int) = 120 from rfl] at c1
  rw [show (((0xad : UInt8).toNat : Nat) : Int) = 173 from rfl] at c31
  have HB := Lib.hid hB4
  clear hg habc hss hB3 hB2 hA4 hB4
  go_wp2_with fail
  go_ret
  exact ⟨rfl, HB.out⟩
end Go.Proofs.YtjhocaleampamaaDoor
