/- hmac: the walks. -/
import Derived.Test.YtdmbhgejemdafaaDoorShaD
import Derived.Test.YtdmbhgejemdafaaDoorBMix
import Derived.Test.YtdmbhgejemdafaaDoorRowSrc
import Derived.Test.YtdmbhgejemdafaaDoorChaC
import Derived.Deep.RegionWith
import Derived.BigRegion
import Derived.Test.YtdmbhgejemdafaaDoorRegE
namespace Go.Proofs.YtdmbhgejemdafaaDoor
open Go.RowKit Big
set_option linter.unusedVariables false
attribute [local go_sem ↓] apZ_eq
/-- A key's block, mixed with a byte. -/
def padL (key : List UInt8) (c : UInt8) : List UInt8 := mixL (key ++ List.replicate (64 - key.length) 0) (List.replicate 64 c)
theorem padL_len (key : List UInt8) (c : UInt8) (h : key.length ≤ 64) : (padL key c).length = 64 := by
  unfold padL mixL
  rw [List.length_zipWith, List.length_append, List.length_replicate, List.length_replicate]; omega
set_option maxRecDepth 100000 in
set_option maxHeartbeats 1000000 in
theorem hpad_any (v : Value) (key : List UInt8) (c : UInt8) (w : World) (hb : Bsl w v key) (hl : key.length ≤ 64) :
    Calls Tryd.prog 27 #[v, .int .u8 c.toNat] w fun e w' => ∃ v', e = .returned v' ∧ OB w' w.heap.size v' (padL key c) ∧ Below w.heap.size w w' := by
  obtain ⟨ao, cap, rfl⟩ := hb.val'
  have hl1 : ¬ ((64 : Int) < key.length) := by omega
  have hl2 : (key.length : Int) ≤ 64 := by omega
  have hcn := fun w h => sclone_any (.slice ao key.length cap) key w h (by omega)
  go_enter Tryd.func27, Tryd.ntmps27
  go_wp2_with fail
  refine (hcn _ hb).mono ?_
  rintro e w1 ⟨v1, rfl, ho1, hB1⟩
  clear hcn
  have hs1 := hB1.size
  obtain ⟨v2, w2, hap, ho2, hB2, _, hs2⟩ := apZ_made w1 w.heap.size 22 v1 key (64 - key.length) ho1 (by omega) hs1
  have hB2 := hB1.trans hB2
  have hcast : ((64 - key.length : Nat) : Int) = 64 - (key.length : Int) := by omega
  rw [hcast] at hap
  have hcb := c.toNat_lt
  have hone := Bsl.lit w2 [c] #[.int .u8 (c.toNat : Int)] (0, 0) 1 rfl (by simp) (by omega)
  have ho2' := ho2.keep ((Below.refl w2.heap.size w2).alloc (Nat.le_refl _) (.cells #[.int .u8 (c.toNat : Int)] 5))
  have hB2' := hB2.alloc hB2.size (.cells #[.int .u8 (c.toNat : Int)] 5)
  have hrp := repeat_any _ c _ hone
  rw [List.length_singleton] at hrp
  have hwl : (key ++ List.replicate (64 - key.length) 0 : List UInt8).length = 64 := by simp; omega
  have HP := Lib.hid (show padL key c = mixL (key ++ List.replicate (64 - key.length) 0) (List.replicate 64 c) from rfl)
  clear hcast ho1 hB1 hone hB2 ho2
  go_wp2_with fail
  refine hrp.mono ?_
  rintro e w3 ⟨v3, rfl, hb3, hB3⟩
  have ho3 := ho2'.keep hB3
  have hB3 := hB2'.trans (hB3.mono hB2'.size)
  clear hrp ho2' hB2'
  go_wp2_with fail
  refine (bmix_any v2 v3 _ _ w3 ho3.bsl hb3 (by omega)).mono ?_
  rintro e w4 ⟨v4, rfl, ho4, hB4⟩
  rw [← HP.out] at ho4
  have ho4 := ho4.mono hB3.size
  have hB4 := hB3.trans (hB4.mono hB3.size)
  go_wp2_with fail
  go_ret
  exact ⟨_, rfl, ho4, hB4⟩
def hmacL (key : List UInt8) (l : List UInt8) : List UInt8 := sha (padL key 0x5c ++ sha (padL key 0x36 ++ l))
theorem sha_len (l : List UInt8) : (sha l).length = 32 := by
  have h : ∀ n b h, h.length = 8 → (shaBlocks n b h).length = 8 := by
    intro n
    induction n with
    | zero => intro b h hh; exact hh
    | succ n ih =>
      intro b h hh
      rw [shaBlocks]
      refine ih _ _ ?_
      unfold shaMix
      rw [List.length_zipWith, hh, shaRounds_len _ _ _ hh]; rfl
  unfold sha
  rw [be4_flat_len, h _ _ _ rfl]
def apP (ty : TypeId) (vs : Array Value) : Sem Value := Builtin.append_ #[60, 60] ty vs
theorem apP_eq (ty : TypeId) (vs : Array Value) : Builtin.append_ #[60, 60] ty vs = apP ty vs := rfl
def one1 (u : Value) : List Value := [u]
theorem one1_flat (us : List Value) : (us.map one1).flatten = us := by
  induction us with
  | nil => rfl
  | cons u us ih => rw [List.map_cons, List.flatten_cons, ih]; rfl
theorem one1_even (us : List Value) : Even 1 (us.map one1) := by
  intro r hr; obtain ⟨_, _, rfl⟩ := List.mem_map.1 hr; rfl
/-- v is a slice that holds the values us, each a slice of the bytes ls. -/
def PartV (w : World) (us : List Value) (ls : List (List UInt8)) : Prop := us.length = ls.length ∧ ∀ j, j < ls.length → Bsl w (us.getD j undef) (ls.getD j [])
theorem PartV.keep {w w' : World} {us : List Value} {ls : List (List UInt8)} (h : PartV w us ls) (hb : Below w.heap.size w w') : PartV w' us ls := ⟨h.1, fun j hj => (h.2 j hj).keep hb⟩
theorem PartV.one {w : World} {us : List Value} {ls : List (List UInt8)} (h : PartV w us ls) : ∀ u ∈ us, u.oneCell' = true := by
  intro u hu
  obtain ⟨j, hj, rfl⟩ := List.getElem_of_mem hu
  obtain ⟨ao, cap, e, _⟩ := h.2 j (by rw [← h.1]; exact hj)
  simp only [List.getD, List.getElem?_eq_getElem hj, Option.getD_some] at e
  rw [e]; rfl
theorem PartV.cons {w : World} {u : Value} {l : List UInt8} {us : List Value} {ls : List (List UInt8)} (h : PartV w us ls) (hb : Bsl w u l) : PartV w (u :: us) (l :: ls) := by
  refine ⟨by simp [h.1], fun j hj => ?_⟩
  cases j with
  | zero => simpa using hb
  | succ j => simpa using h.2 j (by simpa using hj)
theorem PartV.nil (w : World) : PartV w [] [] := ⟨rfl, fun j hj => by simp at hj⟩
/-- An owned row of slices. -/
theorem parts_of_rw {w : World} {base : Nat} {v : Value} {us : List Value} {ls : List (List UInt8)} (h : RW w base 22 1 v (us.map one1)) (hp : PartV w us ls) : PartsAt w v ls := by
  obtain ⟨ao, cap, rfl, h1, h2, h3⟩ := h.val
  rw [List.length_map, hp.1] at *
  refine ⟨ao, cap, rfl, h1, h2, fun hne => ?_⟩
  obtain ⟨g, c, e, _⟩ := h.shape (by intro e; have := hp.1; rw [List.map_eq_nil_iff] at e; rw [e] at this; simp at this; exact hne (List.eq_nil_of_length_eq_zero this.symm))
  have hao : ao = some ⟨g, 0, none⟩ := by
    have e2 := e
    simp only [Value.slice.injEq] at e2
    exact e2.1
  subst hao
  refine ⟨g, 0, rfl, fun j hj => ⟨us.getD j undef, ?_, hp.2 j hj⟩⟩
  have hr := h.range (by rw [List.length_map, hp.1]) (i := j) (by rw [List.length_map, hp.1]; exact hj)
  have := hr 0 (us.getD j undef) (by simp [one1, List.getD, hp.1, hj])
  rw [Nat.mul_one, Nat.add_zero] at this
  rw [Nat.zero_add]; exact this
theorem Tryd.slice_parts : ∃ i z, Tryd.prog.info? 22 = some i ∧ i.zero = some z ∧ z.cells.size = 1 ∧ i.size = 1 ∧ i.bytes ≤ 1000 := by
  have h : (Tryd.prog.info? 22).map (fun i => (i.zero, i.size, decide (i.bytes ≤ 1000))) = some (some (.slice none 0 0), 1, true) := by kernel_rfl
  cases hi : Tryd.prog.info? 22 with
  | none => rw [hi] at h; cases h
  | some i =>
    rw [hi] at h
    simp only [Option.map_some, Option.some.injEq, Prod.mk.injEq, decide_eq_true_eq] at h
    obtain ⟨h1, h2, h3⟩ := h
    exact ⟨i, _, rfl, h1, rfl, h2, h3⟩
/-- A fresh slice of one slice, and others behind it. -/
theorem apP_made (w : World) (ty : TypeId) (u v2 : Value) (us : List Value) (hu : u.oneCell' = true) (h1 : ∀ x ∈ us, x.oneCell' = true) (hs : Src w 1 v2 (us.map one1)) (hn : us.length ≤ 1000) :
    ∃ v' w', (apP ty #[.slice (some ⟨w.heap.size, 0, none⟩) 1 1, v2]).run Tryd.prog (w.alloc (.cells #[u] 22)) = .ok v' w' ∧ RW w' w.heap.size 22 1 v' ((u :: us).map one1) ∧ Below w.heap.size w w' := by
  obtain ⟨i, z, hi, hz, hzs, hsz, hby⟩ := Tryd.slice_parts
  have hB : Below w.heap.size w (w.alloc (.cells #[u] 22)) := (Below.refl _ _).alloc (Nat.le_refl _) _
  have hrw : RW (w.alloc (.cells #[u] 22)) w.heap.size 22 1 (.slice (some ⟨w.heap.size, 0, none⟩) 1 1) [one1 u] := by
    refine ⟨?_, by intro r hr; rw [List.mem_singleton] at hr; rw [hr]; rfl⟩
    exact ⟨rfl, .inr ⟨w.heap.size, 1, #[u], rfl, Nat.le_refl _, heap_alloc_new w _, Nat.le_refl _, by decide, rfl, rfl⟩⟩
  obtain ⟨v', w', hr, hrw', hg, _⟩ := run_appsv i z Tryd.underlying60 hi hz hsz hby hzs (by omega) ty hrw (hs.keep hB) (by simp; omega) (by simp)
  refine ⟨v', w', hr, hrw', ?_⟩
  exact hB.grown hg (by simp) (fun k hk => by simp [Value.ownBlock] at hk; omega)
attribute [local go_sem ↓] alT_32 ldT_32 stT_32 apP_eq
set_option maxRecDepth 100000 in
set_option maxHeartbeats 1000000 in
theorem hsum_any (kv v2 : Value) (key : List UInt8) (us : List Value) (ls : List (List UInt8)) (w : World) (hb : Bsl w kv key) (hl : key.length ≤ 64) (hs : Src w 1 v2 (us.map one1)) (hp : PartV w us ls) (hn : us.length ≤ 1000) (hll : sumL ls ≤ 90000) (hk : ShaAt w) :
    Calls Tryd.prog 13 #[kv, v2] w fun e w' => e = .returned (.agg ((hmacL key ls.flatten).map bv).toArray) ∧ Below w.heap.size w w' := by
  obtain ⟨w1, hal1, hA1, hB1, hs1⟩ := big32.made0 w
  obtain ⟨R, hR⟩ : ∃ R, R = hmacL key ls.flatten := ⟨_, rfl⟩
  rw [← hR]
  have HR := Lib.hid hR
  have hRl : R.length = 32 := by rw [hR]; exact sha_len _
  have HRL := Lib.hid hRl
  clear hR hRl
  have hp1 := hpad_any kv key 0x36 w1 (hb.keep hB1) hl
  rw [show (((0x36 : UInt8).toNat : Nat) : Int) = 54 from rfl] at hp1
  go_enter Tryd.func13, Tryd.ntmps13
  go_wp2_with fail
  refine hp1.mono ?_
  rintro e w2 ⟨u, rfl, hou, hB2⟩
  have hA2 := hA1.keep hB2
  have hb2 := (hb.keep hB1).keep hB2
  have hs2 := (hs.keep hB1).keep hB2
  have hpv2 := (hp.keep hB1).keep hB2
  have hk2 := (hk.keep hB1).keep hB2
  have hB2 := hB1.trans (hB2.mono hB1.size)
  obtain ⟨ao, cap, hue⟩ := hou.val'
  obtain ⟨v3, w3, hap, hrw3, hB3⟩ := apP_made w2 60 u v2 us (by rw [hue]; rfl) hp.one hs2 hn
  have hA3 := hA2.keep hB3
  have hb3 := hb2.keep hB3
  have hk3 := hk2.keep hB3
  have hpt := parts_of_rw hrw3 ((hpv2.keep hB3).cons (hou.keep hB3).bsl)
  have hB3 := hB2.trans (hB3.mono hB2.size)
  have hpl := padL_len key 0x36 hl
  have hsm : sumL (padL key 0x36 :: ls) ≤ 100000 := by unfold sumL at hll ⊢; rw [List.flatten_cons, List.length_append, hpl]; omega
  have hss := ssum_any v3 _ w3 hpt hsm hk3
  have HD := Lib.hid (show (padL key 0x36 :: ls).flatten = padL key 0x36 ++ ls.flatten from rfl)
  rw [HD.out] at hss
  obtain ⟨D, hD⟩ : ∃ D, D = sha (padL key 0x36 ++ ls.flatten) := ⟨_, rfl⟩
  rw [← hD] at hss
  have hDl : D.length = 32 := by rw [hD]; exact sha_len _
  have HDE := Lib.hid (And.intro hD hDl)
  clear hD hDl hp1 hal1 hpt hsm hrw3 hou hA1 hA2 hb2 hs2 hpv2 hk2 hB1 hB2 hs1 hpl
  subst hue
  go_wp2_with fail
  refine hss.mono ?_
  rintro e w4 ⟨rfl, hB4⟩
  have hA4 := hA3.keep hB4
  have hb4 := hb3.keep hB4
  have hk4 := hk3.keep hB4
  have hB4 := hB3.trans (hB4.mono hB3.size)
  obtain ⟨wa, w5, hal5, hst5, hA5, hB5, hs5⟩ := big32.made w4 (D.map UInt8.toNat) (by rw [List.length_map, HDE.out.2, zN_len])
  rw [nvs_bytes] at hst5
  have hA04 := hA4
  have hA4 := hA4.keep hB5
  have hb5 := hb4.keep hB5
  have hk5 := hk4.keep hB5
  have hB05 := hB4.trans (hB5.mono hB4.size)
  have hpw : w.heap.size < w4.heap.size := hA04.lt
  generalize hp4 : w4.heap.size = p at *
  clear hss hA3 hb3 hk3 hB3 hb4 hk4 hB4 hs5 hap
  go_wp2_with fail
  clear hal5 hst5
  have hp6 := hpad_any kv key 0x5c w5.drew (show Bsl w5.drew _ _ from hb5) hl
  rw [show (((0x5c : UInt8).toNat : Nat) : Int) = 92 from rfl] at hp6
  refine wp_region_E 5 (fun _ => True) (by kernel_rfl) ?_
  have hS0 : True := trivial
  refine wpAnyE_take (i := 0) (v := ?v_a0) rfl (by kernel_rfl) (by kernel_rfl) (by kernel_rfl) (by kernel_rfl) (by kernel_rfl) (fun _ _ _ h => h) (Or.inl ⟨by kernel_rfl, ?y_a0⟩) (by assumption) ?r_a0
  case y_a0 => intro wE hSw; clear hSw; go_simp; try with_reducible rfl
  case' r_a0 => ((try simp only [Act.put]); (try simp only [List.setIfInBounds_toArray]); (try simp only [List.set_cons_zero, List.set_cons_succ]))
  refine wpAnyE_take (i := 2) (v := ?v_a2) rfl (by kernel_rfl) (by kernel_rfl) (by kernel_rfl) (by kernel_rfl) (by kernel_rfl) (fun _ _ _ h => h) (Or.inl ⟨by kernel_rfl, ?y_a2⟩) (by assumption) ?r_a2
  case y_a2 => intro wE hSw; clear hSw; go_simp; try with_reducible rfl
  case' r_a2 => ((try simp only [Act.put]); (try simp only [List.setIfInBounds_toArray]); (try simp only [List.set_cons_zero, List.set_cons_succ]))
  refine wpAnyE_ready (rs := [1]) (by kernel_rfl) (by simp) ?_
  refine AllReadyE.cons rfl (fun KA hKA => ?_) AllReadyE.nil
  rw [if_pos (by kernel_rfl)]
  go_simp
  refine hp6.mono ?_
  rintro e w6 ⟨u2, rfl, ho6, hB6⟩
  have hA46 := (show AN .u8 w5.drew w.heap.size _ from hA4).keep hB6
  have hA56 := (show AN .u8 w5.drew p _ from hA5).keep hB6
  have hk6 := (show ShaAt w5.drew from hk5).keep hB6
  have hB06 := (hB05.drew).trans (hB6.mono hB05.size)
  obtain ⟨ao6, cap6, rfl⟩ := ho6.val'
  try go_simp
  refine hKA _ _ (fun _ => trivial) ?_
  clear hKA KA
  refine wpAnyE_ready (rs := [3]) (by kernel_rfl) (by simp) ?_
  refine AllReadyE.cons rfl (fun KA hKA => ?_) AllReadyE.nil
  rw [if_pos (by kernel_rfl)]
  go_simp
  refine hKA _ _ (fun _ => trivial) ?_
  clear hKA KA
  have hDb := hA56.bsl (n := 32) (cap := 32) HDE.out.2.symm (Nat.le_refl _) (by omega)
  have hpv := ((PartV.nil w6).cons hDb).cons ho6.bsl
  have hpt := PartsAt.made 22 hpv.1 hpv.2 (n := 2) rfl (by omega)
  have hsm : sumL [padL key 0x5c, D] ≤ 100000 := by unfold sumL; simp [padL_len key 0x5c hl, HDE.out.2]
  have hBa : Below w6.heap.size w6 (w6.alloc (.cells #[.slice ao6 (padL key 0x5c).length cap6, .slice (some ⟨p, 0, none⟩) 32 32] 22)) := (Below.refl _ _).alloc (Nat.le_refl _) _
  have hss2 := ssum_any _ _ _ hpt hsm (hk6.keep hBa)
  rw [show [padL key 0x5c, D].flatten = padL key 0x5c ++ D by simp, HDE.out.1, show sha (padL key 0x5c ++ sha (padL key 0x36 ++ ls.flatten)) = hmacL key ls.flatten from rfl, ← HR.out] at hss2
  have hA7 := hA46.keep hBa
  have hB07 := hB06.trans (hBa.mono hB06.size)
  refine wpAnyE_ready (rs := [4]) (by kernel_rfl) (by simp) ?_
  refine AllReadyE.cons rfl (fun KA hKA => ?_) AllReadyE.nil
  rw [if_pos (by kernel_rfl)]
  go_simp
  refine hss2.mono ?_
  rintro e w8 ⟨rfl, hB8⟩
  have hA8 := hA7.keep hB8
  have hB08 := hB07.trans (hB8.mono hB07.size)
  obtain ⟨w9, hst9, hA9, hO9, _⟩ := big32.put hA8 rfl (R.map UInt8.toNat) (by rw [List.length_map, HRL.out, zN_len])
  have hlv := big32.lv hA9 (by rw [List.length_map, HRL.out, zN_len])
  rw [nvs_bytes] at hst9 hlv
  have HB := Lib.hid (hB08.trans (hO9.to_below hB08.size (fun k e => by omega)))
  clear hpt hss2 hA7 hB07 hBa hB8 hB08 hA9 hO9 hpv hDb
  try go_simp
  refine hKA _ _ (fun _ => trivial) ?_
  clear hKA KA
  refine wpAnyE_ready (rs := [5]) (by kernel_rfl) (by simp) ?_
  refine AllReadyE.cons rfl (fun KA hKA => ?_) AllReadyE.nil
  rw [if_pos (by kernel_rfl)]
  go_simp
  refine hKA _ _ (fun h => Bool.noConfusion (show true = false from h)) ?_
  clear hKA KA
  refine wpAnyE_done (by kernel_rfl) ?_ _
  go_wp2_with fail
  exact bodyPost_ret (results_cell Tryd.results13 rfl hlv) rfl ⟨rfl, HB.out⟩
end Go.Proofs.YtdmbhgejemdafaaDoor
