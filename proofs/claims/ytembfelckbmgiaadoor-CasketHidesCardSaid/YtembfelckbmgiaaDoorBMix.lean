/- bits.Mix, bytes.Repeat: the walks. -/
import Derived.Test.YtembfelckbmgiaaDoorOps
import Derived.Test.YtembfelckbmgiaaDoorSame
import Derived.Test.YtembfelckbmgiaaDoorBig
import Derived.Test.YtembfelckbmgiaaDoorQTail
import Derived.BigRegion
import Derived.Lib.MakeNoZero
import Derived.Lib.LazyBuf
namespace Go.Proofs.YtembfelckbmgiaaDoor
open Go.RowKit Big
set_option linter.unusedVariables false
def mixL (a b : List UInt8) : List UInt8 := List.zipWith (fun x y => x ^^^ y) a b
theorem mixL_snoc (a b : List UInt8) (k : Nat) (ha : k < a.length) (hb : k < b.length) : mixL (a.take (k + 1)) (b.take (k + 1)) = mixL (a.take k) (b.take k) ++ [a.getD k 0 ^^^ b.getD k 0] := by
  unfold mixL
  rw [take_succ_getD ha, take_succ_getD hb, List.zipWith_append (by rw [List.length_take, List.length_take]; omega)]
  rfl
attribute [local go_sem ↓] apB_eq
set_option maxRecDepth 100000 in
set_option maxHeartbeats 1000000 in
theorem bmix_any (va vb : Value) (la lb : List UInt8) (w : World) (ha : Bsl w va la) (hb : Bsl w vb lb) (hl : la.length ≤ 1000000) :
    Calls Tryd.prog 52 #[va, vb] w fun e w' => ∃ v, e = .returned v ∧ OB w' w.heap.size v (mixL la lb) ∧ Below w.heap.size w w' := by
  obtain ⟨n, hn⟩ : ∃ n, n = min la.length lb.length := ⟨_, rfl⟩
  have hmin : (if lb.length < la.length then (lb.length : Int) else (la.length : Int)) = (n : Int) := by split <;> omega
  have hnl : n ≤ la.length ∧ n ≤ lb.length := by omega
  have HE := Lib.hid (show mixL la lb = mixL (la.take n) (lb.take n) by
    unfold mixL
    have h1 : (la.take n).length = n := by rw [List.length_take]; omega
    have h2 : (lb.take n).length = n := by rw [List.length_take]; omega
    apply List.ext_getElem
    · rw [List.length_zipWith, List.length_zipWith, h1, h2]; omega
    · intro i h1 h2; simp)
  obtain ⟨ao, cap, rfl, hlc, hcm, hnil, hca⟩ := ha
  obtain ⟨bo, cap', rfl, hlc', hcm', hnil', hcb⟩ := hb
  clear hnil hnil' hn
  have HN := Lib.hid hnl; clear hnl
  go_enter Tryd.func52, Tryd.ntmps52
  go_wp2_with fail
  go_loopw [5, 12] (fun o i wr => ∃ k : Nat, k ≤ n ∧ i = .int .i64 k ∧ OB wr w.heap.size o (mixL (la.take k) (lb.take k)) ∧ Below w.heap.size w wr) (fun _ i _ => n - (intOf i).toNat)
  case atStart => exact ⟨0, Nat.zero_le _, rfl, OB.nil _ _, Below.refl _ _⟩
  case round =>
    obtain ⟨k, hk, rfl, hoo, hB⟩ := hrel
    by_cases hlt : k < n
    · have hka : k < la.length := Nat.lt_of_lt_of_le hlt HN.out.1
      have hkb : k < lb.length := Nat.lt_of_lt_of_le hlt HN.out.2
      obtain ⟨b1, o1, rfl, hc1⟩ := hca (by intro h; simp [h] at hka)
      obtain ⟨b2, o2, rfl, hc2⟩ := hcb (by intro h; simp [h] at hkb)
      have c1 := hc1 k hka
      have c2 := hc2 k hkb
      have c1 := (hB.cell (World.block_lt_of_cell? w _ c1)).trans c1
      have c2 := (hB.cell (World.block_lt_of_cell? w _ c2)).trans c2
      have hsn := mixL_snoc la lb k hka hkb
      have hml : (mixL (la.take k) (lb.take k)).length ≤ 1000000 := by unfold mixL; rw [List.length_zipWith, List.length_take]; omega
      clear hc1 hc2 hca hcb
      generalize la.getD k 0 = x at *
      generalize lb.getD k 0 = y at *
      have hx8 : x.toNat < 256 := x.toNat_lt
      have hy8 : y.toNat < 256 := y.toNat_lt
      have hxy : bits BinOp.xor IntKind.u8 (x.toNat : Int) (y.toNat : Int) = ((x ^^^ y).toNat : Int) := by rw [u8_xor_nat _ _ hx8 hy8, UInt8.toNat_xor]
      have hsz := hB.size
      generalize x ^^^ y = z at *
      have hone := Bsl.lit wr [z] #[.int .u8 (z.toNat : Int)] (0, 0) 1 rfl (by simp) (by omega)
      have ho' := hoo.keep ((Below.refl wr.heap.size wr).alloc (Nat.le_refl _) (.cells #[.int .u8 (z.toNat : Int)] 5))
      have hB' := hB.alloc hsz (.cells #[.int .u8 (z.toNat : Int)] 5)
      obtain ⟨v3, w3, hap, ho3, hB3, _, _⟩ := apB_made (wr.alloc (.cells #[.int .u8 (z.toNat : Int)] 5)).drew w.heap.size 27 _ _ _ _ (show OB _ _ _ _ from ho') (show Bsl _ _ _ from hone) (by simp; omega) (by simp; omega)
      rw [← hsn] at ho3
      have HO := Lib.hid (And.intro ho3 ((show Below w.heap.size w _ from hB'.drew).trans hB3))
      rw [List.length_singleton] at hap
      have HS := Lib.hid hsn
      clear ho3 hB3 ho' hone hB' hsn hoo hB hml
      have hkai : (k : Int) < la.length := by omega
      have hkbi : (k : Int) < lb.length := by omega
      go_wp2_with fail
      go_region
      go_wp2_with fail
      go_roundw
      case rel => exact ⟨k + 1, by omega, by go_num, HO.out⟩
      case measure => simp [intOf]; omega
    · have hkn : k = n := by omega
      rw [hkn, ← HE.out] at hoo
      clear hkn
      go_wp2_with fail
      go_ret
      exact ⟨_, rfl, hoo, hB⟩
set_option maxRecDepth 100000 in
theorem mul_1_64 (w : World) : Calls Tryd.prog 66 #[.int .u64 1, .int .u64 64] w fun e w' => e = .returned (.tuple #[.int .u64 0, .int .u64 64]) ∧ w = w' := by
  go_enter Tryd.func66, Tryd.ntmps66
  go_wp2
  go_ret2
  refine ⟨?_, rfl⟩
  kernel_rfl
theorem makeNoZero_run (w : World) (n : Nat) (hn : n ≤ 1000000) : ∃ cs : Array Value, (callFunc 67 #[.int .i64 (n : Int)]).run Tryd.prog w = .ok (.value (.slice (some ⟨w.heap.size, 0, none⟩) n cs.size)) ((w.alloc (.cells cs 5)).drewN 2) ∧ n ≤ cs.size := by
  obtain ⟨cs, hrunM, hle, _⟩ := Lib.run_makeNoZero (P := Tryd.prog) w #[3] 27 5 Tryd.underlying27 n (by omega)
  refine ⟨cs, ?_, hle⟩
  rw [run_callFunc_extern Tryd.func67 (by kernel_rfl) (by kernel_rfl) (by kernel_rfl) (e := Extern.BytealgMakeNoZero.makeNoZero #[3] #[27]) (by kernel_rfl), hrunM]
  rfl
def cpR (ty : TypeId) (vs : Array Value) : Sem Value := Builtin.copy_ #[27, 27] ty vs
theorem cpR_eq (ty : TypeId) (vs : Array Value) : Builtin.copy_ #[27, 27] ty vs = cpR ty vs := rfl
/-- The first k of 64 cells hold the byte c. -/
def RepAt (w : World) (g k : Nat) (c : UInt8) : Prop := g < w.heap.size ∧ ∀ j, j < 64 → (w.cell? ⟨g, j, none⟩).isSome = true ∧ w.frozen? ⟨g, j, none⟩ = false ∧ (j < k → w.cell? ⟨g, j, none⟩ = some (bv c))
theorem RepAt.drewN {w : World} {g k : Nat} {c : UInt8} (h : RepAt w g k c) (n : Nat) : RepAt (w.drewN n) g k c := h
theorem RepAt.stored {w : World} {g k : Nat} {c : UInt8} (h : RepAt w g k c) (m : Nat) (hm : k + m ≤ 64) : RepAt (w.setCells g k (List.replicate m (bv c))) g (k + m) c := by
  refine ⟨by rw [size_setCells]; exact h.1, fun j hj => ⟨World.isSome_setCells _ _ _ _ _ (h.2 j hj).1, by rw [World.frozen?_setCells]; exact (h.2 j hj).2.1, fun hjk => ?_⟩⟩
  by_cases h1 : k ≤ j
  · obtain ⟨i, rfl⟩ := Nat.exists_eq_add_of_le h1
    rw [World.cell?_setCells_in g (List.replicate m (bv c)) k w (fun i hi => by rw [List.length_replicate] at hi; exact (h.2 (k + i) (by omega)).1) i (by rw [List.length_replicate]; omega)]
    simp
  · rw [World.cell?_setCells_out g (List.replicate m (bv c)) k w ⟨g, j, none⟩ (fun _ _ => .inl (by show j < k; omega))]
    exact (h.2 j hj).2.2 (by omega)
theorem rep_one (c : UInt8) (m : Nat) : ∀ u ∈ List.replicate m (bv c), u.oneCell' = true := by
  intro u hu; rw [List.mem_replicate] at hu; rw [hu.2]; rfl
theorem cpR_made (w : World) (ty : TypeId) (g k : Nat) (c : UInt8) (h : RepAt w g k c) (hk : 1 ≤ k) (hk2 : k < 64) :
    ∃ w', (cpR ty #[.slice (some ⟨g, k, none⟩) (64 - k) (64 - k), .slice (some ⟨g, 0, none⟩) k 64]).run Tryd.prog w = .ok (.int .i64 ((min k (64 - k) : Nat) : Int)) w' ∧ RepAt w' g (k + min k (64 - k)) c ∧ Only (· = g) w w' := by
  have hsz : (Tryd.prog.info? 5).map (·.size) = some 1 := by kernel_rfl
  have hrun := run_copy_cells (P := Tryd.prog) w 27 27 ty 5 g k (64 - k) (64 - k) ⟨g, 0, none⟩ k 64 (List.replicate (min k (64 - k)) (bv c)) Tryd.underlying27 hsz (by rw [List.length_replicate]) (fun j u hu => by
      have hj := (List.getElem?_eq_some_iff.1 hu).1
      rw [List.length_replicate] at hj
      rw [Addr.add_mid, Nat.zero_add, (h.2 j (by omega)).2.2 (by omega), ← hu]
      simp [hj]) (fun j hj => by rw [List.length_replicate] at hj; exact (h.2 (k + j) (by omega)).1) (fun j hj => by rw [List.length_replicate] at hj; exact (h.2 (k + j) (by omega)).2.1) (rep_one _ _)
  rw [List.length_replicate] at hrun
  exact ⟨_, hrun, h.stored _ (by omega), only_setCells _ _ _ _⟩
theorem cpR_first (w : World) (ty : TypeId) (g : Nat) (cs : Array Value) (hw : 64 ≤ cs.size) (b off cap : Nat) (c : UInt8) (hg : w.heap.size = g) (hc : w.cell? ⟨b, off, none⟩ = some (bv c)) :
    ∃ w', (cpR ty #[.slice (some ⟨g, 0, none⟩) 64 64, .slice (some ⟨b, off, none⟩) 1 cap]).run Tryd.prog ((w.alloc (.cells cs 5)).drewN 2) = .ok (.int .i64 1) w' ∧ RepAt w' g 1 c ∧ Below g w w' := by
  subst hg
  have hsz : (Tryd.prog.info? 5).map (·.size) = some 1 := by kernel_rfl
  have hB : Below w.heap.size w ((w.alloc (.cells cs 5)).drewN 2) := below_drewN ((Below.refl _ _).alloc (Nat.le_refl _) _) 2
  have h0 : RepAt ((w.alloc (.cells cs 5)).drewN 2) w.heap.size 0 c := by
    refine ⟨by show w.heap.size < (w.alloc _).heap.size; simp, fun j hj => ⟨?_, ?_, fun h => by omega⟩⟩
    · show ((w.alloc (.cells cs 5)).cell? ⟨w.heap.size, j, none⟩).isSome = true
      rw [World.cell?_alloc_new]
      simp; omega
    · show (w.alloc (.cells cs 5)).frozen? ⟨w.heap.size, j, none⟩ = false
      simp
  have hrun := run_copy_cells (P := Tryd.prog) ((w.alloc (.cells cs 5)).drewN 2) 27 27 ty 5 w.heap.size 0 64 64 ⟨b, off, none⟩ 1 cap [bv c] Tryd.underlying27 hsz rfl (fun j u hu => by
      have hj := (List.getElem?_eq_some_iff.1 hu).1
      have : j = 0 := by simpa using hj
      subst this
      rw [Addr.add_mid, Nat.add_zero, hB.cell (p := ⟨b, off, none⟩) (World.block_lt_of_cell? w _ hc), hc]
      simpa using hu) (fun j hj => by have : j = 0 := by simpa using hj
                                      subst this; exact (h0.2 0 (by omega)).1) (fun j hj => by have : j = 0 := by simpa using hj
                                                                                               subst this; exact (h0.2 0 (by omega)).2.1) (rep_one c 1)
  exact ⟨_, hrun, h0.stored 1 (by omega), hB.trans (Go.Proofs.YtembfelckbmgiaaDoor.Big.below_setCells (Nat.le_refl _) _ _)⟩
attribute [local go_sem ↓] cpR_eq
set_option maxRecDepth 100000 in
set_option maxHeartbeats 1000000 in
theorem repeat_any (v : Value) (c : UInt8) (w : World) (hb : Bsl w v [c]) :
    Calls Tryd.prog 56 #[v, .int .i64 64] w fun e w' => ∃ v', e = .returned v' ∧ Bsl w' v' (List.replicate 64 c) ∧ Below w.heap.size w w' := by
  obtain ⟨ao, cap, rfl, h1, h2, h3, h4⟩ := hb
  obtain ⟨b, off, rfl, hc⟩ := h4 (by simp)
  have hc0 := hc 0 (by simp)
  simp only [List.length_singleton, List.getD_cons_zero, Nat.add_zero] at *
  clear h3 h4 hc
  go_enter Tryd.func56, Tryd.ntmps56
  obtain ⟨cs, hmk, hcs⟩ := makeNoZero_run w 64 (by omega)
  rw [show ((64 : Nat) : Int) = 64 from rfl] at hmk
  obtain ⟨w2, hcp, hr2, hB2⟩ := cpR_first w 3 w.heap.size cs hcs b off cap c rfl hc0
  have hc64 : (64 : Int) ≤ cs.size := by omega
  go_wp2_with fail
  refine (mul_1_64 _).mono ?_
  rintro e w1 ⟨rfl, rfl⟩
  go_wp2_with fail
  clear hmk hcp hcs hc64
  go_loopw [10] (fun i wr => ∃ k : Nat, 1 ≤ k ∧ k ≤ 64 ∧ i = .int .i64 k ∧ RepAt wr w.heap.size k c ∧ Below w.heap.size w wr) (fun i _ => 64 - (intOf i).toNat)
  case atStart => exact ⟨1, by omega, by omega, rfl, hr2, hB2⟩
  case round =>
    obtain ⟨k, hk1, hk2, rfl, hr, hB⟩ := hrel
    clear hr2 hB2
    by_cases hlt : k < 64
    · obtain ⟨w3, hcp, hr3, hO3⟩ := cpR_made wr.drew 3 w.heap.size k c hr hk1 hlt
      have hB3 := (hB.drew).trans (hO3.to_below hB.size (fun k e => by omega))
      obtain ⟨m, hm⟩ : ∃ m, m = min k (64 - k) := ⟨_, rfl⟩
      rw [← hm] at hcp hr3
      have hm1 : 1 ≤ m ∧ k + m ≤ 64 := by omega
      have HH := Lib.hid (And.intro hr3 hB3)
      clear hm hr3 hO3 hB3 hr hB
      have hki : (k : Int) < 64 := by omega
      have hmin : (if (64 : Int) < (k : Int) then 64 else (k : Int)) = (k : Int) := by rw [if_neg (by omega)]
      have hmi : (m : Int) + k ≤ 64 := by omega
      go_wp2_with fail
      go_region
      go_wp2_with fail
      go_roundw
      case rel => exact ⟨k + m, by omega, by omega, by go_num, HH.out⟩
      case measure => simp [intOf]; omega
    · have hk64 : k = 64 := by omega
      rw [hk64] at hr
      clear hk64
      go_wp2_with fail
      go_ret
      refine ⟨_, rfl, ⟨some ⟨w.heap.size, 0, none⟩, 64, by simp, by simp, by omega, by simp, fun _ => ⟨w.heap.size, 0, rfl, fun j hj => ?_⟩⟩, hB⟩
      rw [List.length_replicate] at hj
      rw [Nat.zero_add, (hr.2 j hj).2.2 hj]
      have hg : (List.replicate 64 c).getD j 0 = c := by rw [List.getD, List.getElem?_replicate, if_pos hj]; rfl
      rw [hg]; rfl
end Go.Proofs.YtembfelckbmgiaaDoor
