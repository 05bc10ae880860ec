/- Copies into keys; the walks of msg.row and msg.list. -/
import Derived.Test.YtjhocaleampamaaDoorMsgWW
import Derived.Test.YtjhocaleampamaaDoorRowApps
import Derived.Test.YtjhocaleampamaaDoorRowSrc
import Derived.Test.YtjhocaleampamaaDoorInMore
import Derived.Laws.IdiomCopy
import Derived.Lib.LazyBuf
namespace Go.Proofs.YtjhocaleampamaaDoor
open Go.RowKit
set_option linter.unusedVariables false
/-- A key that begins with l, noughts behind. -/
def padK (l : List UInt8) : List UInt8 := l.take 32 ++ List.replicate (32 - (l.take 32).length) 0
theorem padK_len (l : List UInt8) : (padK l).length = 32 := by simp [padK]; omega
theorem padK_32 {l : List UInt8} (h : l.length = 32) : padK l = l := by unfold padK; rw [List.take_of_length_le (by omega), h]; simp
def cpK (ty : TypeId) (vs : Array Value) : Sem Value := Builtin.copy_ #[39, 39] ty vs
theorem cpK_eq (ty : TypeId) (vs : Array Value) : Builtin.copy_ #[39, 39] ty vs = cpK ty vs := rfl
theorem run_cpK (w : World) (ty : TypeId) (s o : Nat) (v : Value) (l : List UInt8) (hb : Bsl w v l) (ht : w.there s o 32) :
    (cpK ty #[.slice (some ⟨s, o, none⟩) 32 32, v]).run Tryd.prog w = .ok (goInt (l.take 32).length) (w.setCells s o ((l.take 32).map bv)) := by
  obtain ⟨ao, cap, rfl, h1, h2, h3, h4⟩ := hb
  have hsz : (Tryd.prog.info? 5).map (·.size) = some 1 := by kernel_rfl
  unfold cpK
  by_cases hl : l = []
  · subst hl
    have := run_copy_none (P := Tryd.prog) w 39 39 ty 5 (some ⟨s, o, none⟩) ao 32 32 0 cap Tryd.underlying39 hsz (by simp)
    simpa [World.setCells] using this
  · obtain ⟨b, off, rfl, hc⟩ := h4 hl
    have := run_copy_cells (P := Tryd.prog) w 39 39 ty 5 s o 32 32 ⟨b, off, none⟩ l.length cap ((l.take 32).map bv) Tryd.underlying39 hsz (by rw [List.length_map, List.length_take, Nat.min_comm]) (fun j u hu => by
        have hj := (List.getElem?_eq_some_iff.1 hu).1
        rw [List.length_map, List.length_take] at hj
        rw [Addr.add_mid, hc j (by omega)]
        have h64 : j < 32 := by omega
        have hjl : j < l.length := by omega
        simp [h64, hjl] at hu
        rw [← hu]; simp [bv, List.getD, hjl]) (fun j hj => by rw [List.length_map, List.length_take] at hj; exact (ht j (by omega)).1) (fun j hj => by rw [List.length_map, List.length_take] at hj; exact (ht j (by omega)).2) (bv_one _)
    rwa [List.length_map] at this
def cpS (ty : TypeId) (vs : Array Value) : Sem Value := Builtin.copy_ #[39, 9] ty vs
theorem cpS_eq (ty : TypeId) (vs : Array Value) : Builtin.copy_ #[39, 9] ty vs = cpS ty vs := rfl
theorem run_cpS (w : World) (ty : TypeId) (s o : Nat) (l : List UInt8) (ht : w.there s o 32) :
    (cpS ty #[.slice (some ⟨s, o, none⟩) 32 32, .string ⟨l.toArray⟩]).run Tryd.prog w = .ok (goInt (l.take 32).length) (w.setCells s o ((l.take 32).map bv)) := by
  have hz : ∀ w, (Go.sizeOf 5).run Tryd.prog w = .ok 1 w := fun w => by
    obtain ⟨i0, hi0, hz0, hz1, hz2⟩ := info_parts Tryd.info_u8
    simp [Go.sizeOf, typeInfo, hi0, hz1]
  have hst := run_storeCells_cells (P := Tryd.prog) s o ((l.take 32).map bv) 0 w (fun j hj => by rw [List.length_map, List.length_take] at hj; simpa using (ht j (by omega)).1) (fun j hj => by rw [List.length_map, List.length_take] at hj; simpa using (ht j (by omega)).2) (bv_one _)
  have hsz : (⟨l.toArray⟩ : ByteArray).size = l.length := by simp [ByteArray.size]
  have hmap : (l.map fun x : UInt8 => Value.int .u8 (x.toNat : Int)) = l.map bv := rfl
  simp [cpS, Builtin.copy_, run_underlying Tryd.underlying39, Builtin.lenOf, Builtin.firstCells, hz, hsz]
  have ht2 : List.take (l.length.min 32) l = l.take 32 := by
    show List.take (min l.length 32) l = _
    rcases Nat.le_total l.length 32 with h | h
    · rw [Nat.min_eq_left h, List.take_of_length_le h, List.take_of_length_le (Nat.le_refl _)]
    · rw [Nat.min_eq_right h]
  rw [hmap, ← List.map_take, ht2, hst, List.map_take, show l.length.min 32 = min 32 l.length from Nat.min_comm _ _]
  rfl
theorem range_cpK {w : World} {s o : Nat} {l : List UInt8} (hr : w.rangeAt s o zK) : (w.setCells s o ((l.take 32).map bv)).rangeAt s o ((padK l).map bv) := by
  intro j u hu
  have hj : j < 32 := by
    have := (List.getElem?_eq_some_iff.1 hu).1
    rwa [List.length_map, padK_len] at this
  have ht : (l.take 32).length ≤ 32 := by rw [List.length_take]; omega
  unfold padK at hu
  generalize l.take 32 = t at *
  by_cases hjt : j < t.length
  · rw [World.cell?_setCells_in s (t.map bv) o w (fun i hi => by
      rw [List.length_map] at hi
      have h1 := hr i (bv 0) (by rw [show zK = List.replicate 32 (bv 0) by simp [zK, z32], List.getElem?_replicate, if_pos (by omega)])
      rw [h1]; rfl) j (by rw [List.length_map]; exact hjt)]
    rw [← hu, List.map_append, List.getElem?_append_left (by rw [List.length_map]; exact hjt)]
    exact (List.getElem?_eq_getElem _).symm
  · rw [World.cell?_setCells_out s (t.map bv) o w ⟨s, o + j, none⟩ (fun _ _ => .inr (by rw [List.length_map]; show o + t.length ≤ o + j; omega))]
    refine hr j u ?_
    rw [← hu, List.map_append, List.getElem?_append_right (by rw [List.length_map]; omega), List.length_map]
    simp only [zK, z32, List.map_replicate, List.getElem?_replicate]
    rw [if_pos hj, if_pos (by omega)]
theorem rangeAt_set {w : World} {b : Nat} {cs : List Value} (h : w.rangeAt b 0 cs) (j : Nat) (v : Value) : (w.setCell ⟨b, j, none⟩ v).rangeAt b 0 (cs.set j v) := by
  intro i u hu
  by_cases hij : i = j
  · subst hij
    have hl : i < cs.length := by have := (List.getElem?_eq_some_iff.1 hu).1; simpa using this
    rw [List.getElem?_set_self hl] at hu
    have h0 := h i cs[i] (List.getElem?_eq_getElem hl)
    rw [Nat.zero_add] at h0 ⊢
    rw [World.cell?_setCell_same w _ _ h0]; exact hu
  · rw [List.getElem?_set_ne (fun e => hij e.symm)] at hu
    have h0 := h i u hu
    rw [Nat.zero_add] at h0 ⊢
    rw [World.cell?_setCell_other w _ _ _ (by first | (simp; done) | (simp; omega))]; exact h0
theorem there_set {w : World} {b n : Nat} (h : w.there b 0 n) (j : Nat) (v : Value) : (w.setCell ⟨b, j, none⟩ v).there b 0 n := by
  intro i hi
  obtain ⟨h1, h2⟩ := h i hi
  refine ⟨?_, by rw [World.frozen?_setCell]; exact h2⟩
  by_cases hij : i = j
  · subst hij
    rw [Nat.zero_add] at h1 ⊢
    obtain ⟨u, hu⟩ := Option.isSome_iff_exists.1 h1
    rw [World.cell?_setCell_same w _ _ hu]; rfl
  · rw [World.cell?_setCell_other w _ _ _ (by first | (simp; done) | (simp; omega))]; exact h1
theorem there_only {S : Nat → Prop} {w w' : World} {g o n : Nat} (h : w.there g o n) (ho : Only S w w') (hn : ¬ S g) : w'.there g o n := fun j hj => by
  obtain ⟨h1, h2⟩ := h j hj
  obtain ⟨u, hu⟩ := Option.isSome_iff_exists.1 h1
  have hlt := World.block_lt_of_cell? w _ hu
  exact ⟨by rw [ho.cell (p := ⟨g, o + j, none⟩) hlt hn]; exact h1, by rw [ho.frozen (p := ⟨g, o + j, none⟩) hlt hn]; exact h2⟩
/-- A part of a block that stands. -/
theorem there_part {w : World} {b n o m : Nat} (h : w.there b 0 n) (hm : o + m ≤ n) : w.there b o m := fun j hj => by
  have := h (o + j) (by omega)
  rwa [Nat.zero_add] at this
/-- A part of a block is written anew. -/
theorem rangeAt_part {w : World} {b : Nat} {xs bs cs ds : List Value} (h : w.rangeAt b 0 (xs ++ (bs ++ cs))) (hl : ds.length = bs.length) : (w.setCells b xs.length ds).rangeAt b 0 (xs ++ (ds ++ cs)) := by
  obtain ⟨h1, h2⟩ := rangeAt_app h
  obtain ⟨h3, h4⟩ := rangeAt_app h2
  rw [Nat.zero_add] at h3 h4
  intro i u hu
  rw [Nat.zero_add]
  by_cases hi : i < xs.length
  · rw [List.getElem?_append_left hi] at hu
    rw [World.cell?_setCells_out b ds xs.length w ⟨b, i, none⟩ (fun _ _ => .inl hi)]
    have := h1 i u hu
    rwa [Nat.zero_add] at this
  · rw [List.getElem?_append_right (by omega)] at hu
    by_cases hi2 : i - xs.length < ds.length
    · rw [List.getElem?_append_left hi2] at hu
      have h5 := World.cell?_setCells_in b ds xs.length w (fun k hk => by
        obtain ⟨x, hx⟩ : ∃ x, bs[k]? = some x := ⟨bs[k]'(by omega), List.getElem?_eq_getElem (by omega)⟩
        rw [h3 k x hx]; rfl) (i - xs.length) hi2
      rw [show xs.length + (i - xs.length) = i by omega] at h5
      rw [h5, ← hu]; exact (List.getElem?_eq_getElem _).symm
    · rw [List.getElem?_append_right (by omega)] at hu
      rw [World.cell?_setCells_out b ds xs.length w ⟨b, i, none⟩ (fun _ _ => .inr (by show xs.length + ds.length ≤ i; omega))]
      have := h4 (i - xs.length - ds.length) u hu
      rwa [show xs.length + bs.length + (i - xs.length - ds.length) = i by omega] at this
/-- A key within a block is written: what it begins with. -/
theorem range_cp {w : World} {b : Nat} {xs cs : List Value} {l : List UInt8} (h : w.rangeAt b 0 (xs ++ (zK ++ cs))) : (w.setCells b xs.length ((l.take 32).map bv)).rangeAt b 0 (xs ++ ((padK l).map bv ++ cs)) := by
  obtain ⟨h1, h2⟩ := rangeAt_app h
  obtain ⟨h3, h4⟩ := rangeAt_app h2
  rw [Nat.zero_add] at h3 h4
  have h5 := range_cpK (l := l) h3
  have hp : ((padK l).map bv).length = 32 := by rw [List.length_map, padK_len]
  have hz := zK_len
  have ht : ((l.take 32).map bv).length ≤ 32 := by rw [List.length_map, List.length_take]; omega
  intro i u hu
  rw [Nat.zero_add]
  by_cases hi : i < xs.length
  · rw [List.getElem?_append_left hi] at hu
    rw [World.cell?_setCells_out b _ xs.length w ⟨b, i, none⟩ (fun _ _ => .inl hi)]
    have := h1 i u hu
    rwa [Nat.zero_add] at this
  · rw [List.getElem?_append_right (by omega)] at hu
    by_cases hi2 : i - xs.length < 32
    · rw [List.getElem?_append_left (by omega)] at hu
      have := h5 (i - xs.length) u hu
      rwa [show xs.length + (i - xs.length) = i by omega] at this
    · rw [List.getElem?_append_right (by omega)] at hu
      rw [World.cell?_setCells_out b _ xs.length w ⟨b, i, none⟩ (fun _ _ => .inr (by show xs.length + ((l.take 32).map bv).length ≤ i; omega))]
      have := h4 (i - xs.length - 32) u (by rw [hp] at hu; exact hu)
      rwa [show xs.length + zK.length + (i - xs.length - 32) = i by omega] at this
theorem results_cell {P : Program} {fn : Func} {a : Tmp} {t : TypeId} {b o : Nat} {v : Value} {w : World} {tmps : Array Value} (h : fn.results = #[.cell a t]) (ha : tmps.getD a undef = .pointer (some ⟨b, o, none⟩))
    (hr : (loadVar t ⟨b, o, none⟩).run P w = .ok v w) : (results fn tmps).run P w = .ok v w := by
  unfold results
  rw [h]
  simp only [asAddr, ha, hr, List.mapM_toArray, List.mapM_cons, List.mapM_nil, Sem.run_bind, Sem.run_pure, Result.andThen_ok, Sem.run_map]
  simp
theorem run_lvT {t : TypeId} {zs : List Value} (h : BigT t zs) (w : World) (b o : Nat) (cs : List Value) (hr : w.rangeAt b o cs) (hl : cs.length = zs.length) : (loadVar t ⟨b, o, none⟩).run Tryd.prog w = .ok (.agg cs.toArray) w := by
  obtain ⟨d, hu, hd⟩ := h.row
  exact run_loadVar_mid w b o _ cs d hr hu hd (by rw [h.size, hl])
theorem Stp.val {α : Type} {d d2 : IK} {p : List UInt8 → Option (α × List UInt8)} {x y : α} (h : Stp d p d2 x) (hxy : d2.e = 0 → x = y) : Stp d p d2 y := by
  refine ⟨h.1, h.2.1, fun he => ?_⟩
  rcases h.2.2 he with h1 | ⟨r, h1, h2⟩
  · exact .inl h1
  · exact .inr ⟨r, by rw [h1, hxy (by rw [h2])], h2⟩
theorem fixL_32 {d : IK} (h : (d.fixS 32).e = 0) : (d.fixL 32).length = 32 := by
  unfold IK.fixS at h
  unfold IK.fixL
  by_cases h1 : d.e ≠ 0 ∨ (32 : Int) < 0
  · rw [if_pos h1] at h
    exact absurd h (h1.elim id (fun e => by omega))
  · rw [if_neg h1] at h ⊢
    by_cases h2 : (d.b.length : Int) < 32
    · rw [if_pos h2] at h; cases h
    · rw [if_neg h2, List.length_take]
      show min 32 _ = 32
      omega
theorem fixL_le (d : IK) (n : Int) : (d.fixL n).length ≤ d.b.length := by
  unfold IK.fixL
  split
  · simp
  · split
    · simp
    · rw [List.length_take]; omega
theorem bytL_le (d : IK) (n : Int) : (d.bytL n).length ≤ d.b.length := by
  unfold IK.bytL
  split
  · simp
  · split
    · simp
    · split
      · simp
      · rw [List.length_take, List.length_drop]; omega
/-- A row, read. -/
theorem Stp.row (d : IK) : Stp d pRow ((d.fixS 32).bytS 1048576) ⟨padK (d.fixL 32), (d.fixS 32).bytL 1048576⟩ := by
  have h1 : Stp d (pFix 32) (d.fixS 32) (d.fixL 32) := Stp.fix d 32
  have h2 := Stp.byt (d.fixS 32) 1048576
  refine (h1.next (f := fun k => pThen (pByt 1048576) fun s => pOf (⟨k, s⟩ : RwD)) (h2.next (f := fun s => pOf (⟨d.fixL 32, s⟩ : RwD)) (Stp.of _ _))).val (fun he => ?_)
  have h3 : (d.fixS 32).e = 0 := by
    by_cases hc : (d.fixS 32).e = 0
    · exact hc
    · exact absurd he (h2.2.1 hc)
  rw [padK_32 (fixL_32 h3)]
end Go.Proofs.YtjhocaleampamaaDoor
