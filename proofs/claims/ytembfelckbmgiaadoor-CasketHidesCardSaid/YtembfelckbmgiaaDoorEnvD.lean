/- envelope.Seal: the walk (printed by genseal.py). -/
import Derived.Test.YtembfelckbmgiaaDoorEnvC
namespace Go.Proofs.YtembfelckbmgiaaDoor
open Go.RowKit Big
set_option linter.unusedVariables false
theorem bdT_E (ps : Array (Nat × Value)) : Instr.build 38 ps = bdT 38 ps := rfl
theorem builtE (parts : List (Nat × Value)) : Tryd.prog.built 38 parts = Instr.fill ([(0, 32), (32, 5), (37, 1)].toArray[·]?) zE.toArray parts :=
  built_of (by kernel_rfl) Tryd.underlying38 (by kernel_rfl) parts
theorem bd_E0 (w : World) : (bdT 38 #[]).run Tryd.prog w = .ok (.agg zE.toArray) w := run_bdT (by rw [builtE]; rfl) w
theorem bd_E (key : List UInt8) (c : Nat) (hk : key.length = 32) (w : World) : (bdT 38 #[(0, .agg (key.map bv).toArray), (1, .agg (headC c).toArray)]).run Tryd.prog w = .ok (.agg (envC key c (.slice none 0 0)).toArray) w := by
  refine run_bdT ?_ w
  have hl : (key.map bv).length = 32 := by rw [List.length_map, hk]
  have hz := zE_len
  rw [builtE]
  rw [fill_step (off := 0) (cs := key.map bv) (by rw [hl]; rfl) rfl (by rw [hl, hz]; decide)]
  rw [fill_step (off := 32) (cs := headC c) rfl rfl (by rw [setL_len _ _ _ (by rw [hl, hz]; decide), hz, show (headC c).length = 5 from rfl]; decide)]
  have e1 : setL zE 0 (key.map bv) = key.map bv ++ [.int .i64 0, .int .i64 0, .int .i64 0, .int .i64 0, .slice none 0 0, .slice none 0 0] := by
    unfold setL
    rw [hl]
    rfl
  rw [e1]
  unfold setL
  rw [List.take_left' hl, List.drop_append, hl]
  rw [List.drop_of_length_le (l := key.map bv) (by rw [hl]; omega)]
  simp [Instr.fill, envC, headC]
theorem zE_one : ∀ u ∈ zE, u.oneCell' = true := by
  have : (zE.all fun u => u.oneCell') = true := by kernel_rfl
  exact fun u hu => List.all_eq_true.1 this u hu
theorem envC_one (key : List UInt8) (c : Nat) (a : Option Addr) (n m : Nat) : ∀ u ∈ envC key c (.slice a n m), u.oneCell' = true := by
  intro u hu
  rcases List.mem_append.1 hu with h | h
  · obtain ⟨x, _, rfl⟩ := List.mem_map.1 h; rfl
  · rcases List.mem_append.1 h with h | h
    · exact headC_one c u h
    · rw [List.mem_singleton] at h; subst h; rfl
theorem envC_set (key : List UInt8) (c : Nat) (sv sv' : Value) (hk : key.length = 32) : (envC key c sv).set 37 sv' = envC key c sv' := by
  unfold envC
  rw [List.set_append_right _ _ (by simp [hk])]
  simp [hk, headC]
set_option maxRecDepth 100000 in
theorem sclone_nil (w : World) : Calls Tryd.prog 16 #[.slice none 0 0] w fun e w' => e = .returned (.slice none 0 0) ∧ w = w' := by
  have heq := fun w => Lib.run_eql_slice_nil (P := Tryd.prog) w 27 5 none 0 0 0 0 Tryd.underlying27
  simp only [Option.isNone_none] at heq
  go_enter Tryd.func16, Tryd.ntmps16
  go_wp2_with fail
  go_ret
  exact ⟨rfl, rfl⟩
attribute [local go_sem ↓] alT_Bl ldT_Bl stT_Bl alT_E ldT_E stT_E ldT_H alT_H stT_H bdT_E
set_option maxRecDepth 100000 in
set_option maxHeartbeats 2000000 in
theorem eseal_bad (vn vv : Value) (c p : Nat) (del : Bool) (w : World) (hb : Bsl w vn []) :
    Calls Tryd.prog 7 #[.pointer (some ⟨p, 0, none⟩), vn, .agg (headC c).toArray, vv, .bool del] w fun e w' => e = .returned (.tuple #[.agg zE.toArray, .int .i64 1]) ∧ Below w.heap.size w w' := by
  obtain ⟨w0, hw0, hA0, hB0, hs0⟩ : ∃ w0, w0 = w.alloc (.cells (headC c).toArray 35) ∧ LV w0 w.heap.size (headC c) ∧ Below w.heap.size w w0 ∧ w0.heap.size = w.heap.size + 1 :=
    ⟨_, rfl, LV.new w _ _, (Below.refl _ _).alloc (Nat.le_refl _) _, by simp⟩
  obtain ⟨w1, hal1, hA1, hB1, hs1⟩ := bigE.madeV0 w0
  have hB1 := hB0.trans (hB1.mono hB0.size)
  rw [hw0] at hal1
  have hnm := name_any vn [] w1 (hb.keep hB1)
  rw [show decide (1 ≤ ([] : List UInt8).length ∧ ([] : List UInt8).length ≤ 64) = false by decide] at hnm
  have hbd := fun w => bd_E0 w
  obtain ⟨w2, hst2, hA2, hO2, _⟩ := bigE.putV hA1 rfl zE rfl zE_one
  have hlv := bigE.lvV hA2 rfl
  rw [hs0] at hlv hst2
  have HB := Lib.hid (hB1.trans (hO2.to_below hB1.size (fun k e => by omega)))
  rw [World.size_alloc] at hal1
  clear hA0 hA1 hA2 hB0 hB1 hO2 hs1
  go_enter Tryd.func7, Tryd.ntmps7
  go_wp2_with fail
  refine hnm.mono ?_
  rintro e w3 ⟨rfl, rfl⟩
  go_wp2_with fail
  clear hnm
  exact bodyPost_ret (results_ct Tryd.results7 rfl hlv) rfl ⟨rfl, HB.out⟩
set_option maxRecDepth 100000 in
set_option maxHeartbeats 8000000 in
theorem eseal_true (vn vv : Value) (x y : List UInt8) (c : Nat) (w : World) {p bn bu bt : Nat} {K : List UInt8} {ns : List (List UInt8)} {cs : List Nat} {ts : List MapEntry} (h : VaultAt w p K bn bu bt ns (usedL 0 cs) ts) (ht : TsOk ts cs) (hc : c ∉ cs) (hc2 : 1 ≤ c ∧ c ≤ 1000)
    (hcs : cs.length ≤ 1000) (hns : ns.length ≤ 1000) (hbn : Bsl w vn x) (hbv : Bsl w vv y) (hx : 1 ≤ x.length ∧ x.length ≤ 64) (hy : y.length ≤ 59) :
    Calls Tryd.prog 7 #[.pointer (some ⟨p, 0, none⟩), vn, .agg (headC c).toArray, vv, .bool true] w fun e w' => ∃ sv ts', e = .returned (.tuple #[.agg (envC (drawL K 0 (numN x ns) 24) c sv).toArray, .int .i64 0]) ∧ Bsl w' sv (drawL K 1 (cs.length + 1) (64 + 8)) ∧ (∀ k, sv.ownBlock = some k → w.heap.size ≤ k) ∧ VaultAt w' p K bn bu bt (addN x ns) (usedL 0 (cs ++ [c])) ts' ∧ TsOk ts' (cs ++ [c]) ∧ Only (fun k => k = bn ∨ k = bu ∨ k = bt) w w' := by
  have HLT := Lib.hid (And.intro h.1.2.1 (And.intro h.2.2.1.lt (And.intro h.2.2.2.1.lt h.2.2.2.2.lt)))
  have hbd0 := fun w4 (hV4 : VaultAt w4 p K bn bu bt ns (usedL 0 cs) ts) (hb : Bsl w4 vn x) => blind_any vn x w4 hV4 hb hx hns
  have hvs0 : ∀ (w4 : World) (vw vb : Value) (wi b : List UInt8), VaultAt w4 p K bn bu bt (addN x ns) (usedL 0 cs) ts → Bsl w4 vw wi → Bsl w4 vb b → wi.length ≤ 100000 → b.length = 64 → _ := fun w4 vw vb wi b hV hw hb hl hl2 => by
    have := vseal_any c vw vb wi b w4 hV ht hc hc2 hcs hw hb hl (by omega)
    rw [hl2] at this
    exact this
  have HDL := Lib.hid (drawL_len K 0 (numN x ns) 24)
  generalize drawL K 0 (numN x ns) 24 = key at *
  generalize drawL K 1 (cs.length + 1) (64 + 8) = sl at *
  obtain ⟨w0, hw0, hA0, hB0, hs0⟩ : ∃ w0, w0 = w.alloc (.cells (headC c).toArray 35) ∧ LV w0 w.heap.size (headC c) ∧ Below w.heap.size w w0 ∧ w0.heap.size = w.heap.size + 1 :=
    ⟨_, rfl, LV.new w _ _, (Below.refl _ _).alloc (Nat.le_refl _) _, by simp⟩
  obtain ⟨w1, hal1, hE1, hB1, hs1⟩ := bigE.madeV0 w0
  have hA1 := hA0.keep hB1
  have hB1 := hB0.trans (hB1.mono hB0.size)
  rw [hw0, World.size_alloc] at hal1
  rw [hs0] at hE1 hs1
  have hnm := name_any vn x w1 (hbn.keep hB1)
  rw [decide_eq_true hx] at hnm
  have hldh := bigH.ldV hA1 rfl
  have hhr := hright_any c w1 hc2
  go_enter Tryd.func7, Tryd.ntmps7
  go_wp2_with fail
  refine hnm.mono ?_
  rintro e w3 ⟨rfl, rfl⟩
  clear hnm
  go_wp2_with fail
  refine hhr.mono ?_
  rintro e w2 ⟨rfl, hB2⟩
  clear hhr hldh hal1 hA0 hB0
  have hA2 := hA1.keep hB2
  have hE2 := hE1.keep hB2
  have hs2 := hB2.size
  have hB2 := hB1.trans (hB2.mono hB1.size)
  obtain ⟨w3, hw3, hb3, hB3⟩ : ∃ w3, w3 = w2.alloc (.cells #[.int .u8 0] 5) ∧ Bsl w3 (.slice (some ⟨w2.heap.size, 0, none⟩) 1 1) [0] ∧ Below w2.heap.size w2 w3 :=
    ⟨_, rfl, Bsl.one w2 0 (by omega), (Below.refl _ _).alloc (Nat.le_refl _) _⟩
  have hA3 := hA2.keep hB3
  have hE3 := hE2.keep hB3
  have hB3 := hB2.trans (hB3.mono hB2.size)
  have hpd := pad_ok _ [0] w3 hb3 (by simp)
  have hpl : (padL [0]).length = 64 := rfl
  generalize padL [0] = PL at *
  go_wp2_with fail
  rw [← hw3]
  refine hpd.mono ?_
  rintro e w4 ⟨v4, rfl, ho4, hB4⟩
  have hA4 := hA3.keep hB4
  have hE4 := hE3.keep hB4
  have hB4 := hB3.trans (hB4.mono hB3.size)
  have hV4 := h.keep hB4
  have hs4 : w.heap.size + 2 ≤ w4.heap.size := by have := hB4.size; have := hA4.lt; have := hE4.lt; omega
  have hbd := hbd0 w4 hV4 (hbn.keep hB4)
  have hb4 := ho4.bsl
  have hv4 : ∀ k, v4.ownBlock = some k → w.heap.size + 2 ≤ k := fun k hk => by have := ho4.own_ge k hk; have := hA3.lt; have := hE3.lt; omega
  clear hpd hB1 hB2 hB3 hA1 hA2 hA3 hE1 hE2 hE3 ho4
  go_wp2_with fail
  refine hbd.mono ?_
  rintro e w5 ⟨rfl, hV5, hO5⟩
  have hlt := HLT.out
  have hSm : ∀ k, k = bn → ∃ es, MapAt w4 k es := fun k e => ⟨nameL 0 ns, by rw [e]; exact hV4.2.2.1⟩
  have hA5 := hA4.only hO5 (by omega)
  have hE5 := hE4.only hO5 (by omega)
  have hb5 := hb4.maps hO5 hSm
  have hO05 : Only (fun k => k = bn ∨ k = bu ∨ k = bt) w w5 := (Only.of_below hB4).trans hO5 (fun i _ e => .inl e)
  have hs5 : w.heap.size + 2 ≤ w5.heap.size := by have := hO5.size; omega
  obtain ⟨wa, w6, hal6, hst6, hK6, hB6, hs6⟩ := bigBl.made w5 (key.map UInt8.toNat) (by rw [List.length_map, HDL.out, zN_len])
  rw [nvs_bytes] at hst6
  have hA6 := hA5.keep hB6
  have hE6 := hE5.keep hB6
  have hb6 := hb5.keep hB6
  have hV6 := hV5.keep hB6
  have hO06 := hO05.trans (Only.of_below (S := fun _ => False) hB6) (fun i _ e => e.elim)
  have hcl := sclone_nil w6
  have cp := hA6.cell (j := 4) (v := .slice none 0 0) rfl
  have fp := hA6.free (j := 4) (by show 4 < 5; omega)
  have hlt6 : w5.heap.size < w6.heap.size := hK6.lt
  clear hbd hbd0 hA4 hE4 hb4 hV4 hB4 hA5 hE5 hb5 hV5 hO05 hO5 hSm hs4 hs6 hB6
  generalize hr : w5.heap.size = r at *
  go_wp2_with fail
  refine hcl.mono ?_
  rintro e w6b ⟨rfl, hww⟩
  subst hww
  obtain ⟨w7, hw7, hA7, hO7, hs7⟩ : ∃ w7, w7 = w6.setCell ⟨w.heap.size, 4, none⟩ (.slice none 0 0) ∧ LV w7 w.heap.size (headC c) ∧ Only (· = w.heap.size) w6 w7 ∧ w7.heap.size = w6.heap.size :=
    ⟨_, rfl, hA6.set (j := 4) (by show 4 < 5; omega) _, Only.setCell (S := (· = w.heap.size)) (Only.refl _ _) (fun _ => rfl) _, by simp [World.setCell]⟩
  have hK7 := hK6.only hO7 (by omega)
  have hE7 := hE6.only hO7 (by omega)
  have hb7 := hb6.only hO7 (fun k hk => by have := hv4 k hk; omega)
  have hV7 := hV6.only hO7 (by omega) (by omega) (by omega) (by omega)
  have hO07 := hO06.trans hO7 (fun i hi e => by omega)
  have hldk := bigBl.ld hK7 (by rw [List.length_map, HDL.out, zN_len])
  have hldh := bigH.ldV hA7 rfl
  rw [nvs_bytes] at hldk
  have hbde := fun w => bd_E key c HDL.out w
  obtain ⟨wb, w8, hal8, hst8, hQ8, hB8, hs8⟩ := bigE.madeV w7 (envC key c (.slice none 0 0)) (by rw [envC_len _ _ _ HDL.out, zE_len]) (envC_one _ _ _ _ _)
  have hA8 := hA7.keep hB8
  have hE8 := hE7.keep hB8
  have hb8 := hb7.keep hB8
  have hV8 := hV7.keep hB8
  have hO08 := hO07.trans (Only.of_below (S := fun _ => False) hB8) (fun i _ e => e.elim)
  have hldq := bigE.ldV hQ8 (by rw [envC_len _ _ _ HDL.out, zE_len])
  have hbo := bound_any key c (.slice none 0 0) w8 HDL.out hc2
  have hbll := boundL_len key c
  rw [HDL.out] at hbll
  generalize boundL key c = R at *
  have hrq : r < w7.heap.size := by omega
  clear hs7 hlt6
  clear hcl hA6 hE6 hb6 hV6 hO06 hO7 hK6 hK7 hA7 hE7 hb7 hV7 hO07 hB8 hst6 hal6
  generalize w7.heap.size = q at *
  go_wp2_with fail
  rw [← hw7]
  clear cp fp hw7
  go_simp
  go_wp2_with fail
  refine hbo.mono ?_
  rintro e w9 ⟨P, g, rfl, hO9, hB9⟩
  have hA9 := hA8.keep hB9
  have hE9 := hE8.keep hB9
  have hQ9 := hQ8.keep hB9
  have hb9 := hb8.keep hB9
  have hV9 := hV8.keep hB9
  have hO09 := hO08.trans (Only.of_below (S := fun _ => False) hB9) (fun i _ e => e.elim)
  have hdn := odone_any w9 hO9 (by omega)
  clear hbo hB9 hA8 hE8 hQ8 hb8 hV8 hO08 hldk hldh hldq hbde hst8 hal8 hs8
  go_wp2_with fail
  refine hdn.mono ?_
  rintro e w10 ⟨v10, rfl, ho10, hB10⟩
  have hA10 := hA9.keep hB10
  have hE10 := hE9.keep hB10
  have hQ10 := hQ9.keep hB10
  have hb10 := hb9.keep hB10
  have hV10 := hV9.keep hB10
  have hO10 := hO09.trans (Only.of_below (S := fun _ => False) hB10) (fun i _ e => e.elim)
  have hvs := hvs0 w10 v10 v4 R PL hV10 ho10.bsl hb10 (by omega) hpl
  have d0 := hA10.cell (j := 0) (v := .int .i64 1) rfl
  have d1 := hA10.cell (j := 1) (v := .int .i64 (c : Int)) rfl
  have d2 := hA10.cell (j := 2) (v := .int .i64 1) rfl
  have hql := hQ10.lt
  have hel := hE10.lt
  clear hdn hvs0 hA9 hE9 hQ9 hb9 hV9 hO09 hO9 hB10
  go_wp2_with fail
  refine hvs.mono ?_
  rintro e w11 ⟨sv, ts11, rfl, hb11, hown11, hV11, hT11, hO11⟩
  have hE11 := hE10.only hO11 (by omega)
  have hQ11 := hQ10.only hO11 (by omega)
  have hO011 := hO10.trans hO11 (fun i _ e => .inr e)
  have fq := hQ11.free (j := 37) (by rw [envC_len _ _ _ HDL.out]; omega)
  have cq := hQ11.cell (j := 37) (v := .slice none 0 0) ((envC_cs HDL.out).2.2.2.2.2)
  obtain ⟨sa, sc, rfl⟩ := hb11.val'
  obtain ⟨w12, hw12, hQ12, hO12, hs12⟩ : ∃ w12, w12 = w11.setCell ⟨q, 37, none⟩ (.slice sa sl.length sc) ∧ LV w12 q (envC key c (.slice sa sl.length sc)) ∧ Only (· = q) w11 w12 ∧ w12.heap.size = w11.heap.size :=
    ⟨_, rfl, by have := hQ11.set (j := 37) (by rw [envC_len _ _ _ HDL.out]; omega) (.slice sa sl.length sc); rwa [envC_set _ _ _ _ HDL.out] at this, Only.setCell (S := (· = q)) (Only.refl _ _) (fun _ => rfl) _, by simp [World.setCell]⟩
  have hE12 := hE11.only hO12 (by omega)
  have hV12 := hV11.only hO12 (by omega) (by omega) (by omega) (by omega)
  have hb12 := hb11.only hO12 (fun k hk => by have := hown11 k hk; omega)
  have hO012 := hO011.trans hO12 (fun i hi e => by omega)
  have hldq := bigE.ldV hQ12 (by rw [envC_len _ _ _ HDL.out, zE_len])
  obtain ⟨w13, hst13, hE13, hO13, _⟩ := bigE.putV hE12 rfl (envC key c (.slice sa sl.length sc)) (by rw [envC_len _ _ _ HDL.out, zE_len]) (envC_one _ _ _ _ _)
  have hlv := bigE.lvV hE13 (by rw [envC_len _ _ _ HDL.out, zE_len])
  have hV13 := hV12.only hO13 (by omega) (by omega) (by omega) (by omega)
  have hb13 := hb12.only hO13 (fun k hk => by have := hown11 k hk; omega)
  have hO013 := hO012.trans hO13 (fun i hi e => by omega)
  have hsvo : ∀ k, (Value.slice sa sl.length sc).ownBlock = some k → w.heap.size ≤ k := fun k hk => by have := hown11 k hk; omega
  have HF := Lib.hid (And.intro hb13 (And.intro hsvo (And.intro hV13 (And.intro hT11 hO013))))
  clear hsvo
  clear hvs hA10 hE10 hQ10 hb10 hV10 hO10 hE11 hQ11 hO11 hO011 hE12 hQ12 hb11 hV11 hT11 hb12 hV12 hO012 hE13 hO13 hV13 hb13 hO013 hO12 hs12 d0 d1 d2 ho10
  go_wp2_with fail
  rw [← hw12]
  clear hw12 fq cq
  go_simp
  go_wp2_with fail
  exact bodyPost_ret (results_ct Tryd.results7 rfl hlv) rfl ⟨_, ts11, rfl, HF.out⟩
attribute [local go_sem ↓] apB_eq
set_option maxRecDepth 100000 in
set_option maxHeartbeats 8000000 in
theorem eseal_false (vn vv : Value) (x y : List UInt8) (c : Nat) (w : World) {p bn bu bt : Nat} {K : List UInt8} {ns : List (List UInt8)} {cs : List Nat} {ts : List MapEntry} (h : VaultAt w p K bn bu bt ns (usedL 0 cs) ts) (ht : TsOk ts cs) (hc : c ∉ cs) (hc2 : 1 ≤ c ∧ c ≤ 1000)
    (hcs : cs.length ≤ 1000) (hns : ns.length ≤ 1000) (hbn : Bsl w vn x) (hbv : Bsl w vv y) (hx : 1 ≤ x.length ∧ x.length ≤ 64) (hy : y.length ≤ 59) :
    Calls Tryd.prog 7 #[.pointer (some ⟨p, 0, none⟩), vn, .agg (headC c).toArray, vv, .bool false] w fun e w' => ∃ sv ts', e = .returned (.tuple #[.agg (envC (drawL K 0 (numN x ns) 24) c sv).toArray, .int .i64 0]) ∧ Bsl w' sv (drawL K 1 (cs.length + 1) (64 + 8)) ∧ (∀ k, sv.ownBlock = some k → w.heap.size ≤ k) ∧ VaultAt w' p K bn bu bt (addN x ns) (usedL 0 (cs ++ [c])) ts' ∧ TsOk ts' (cs ++ [c]) ∧ Only (fun k => k = bn ∨ k = bu ∨ k = bt) w w' := by
  have HLT := Lib.hid (And.intro h.1.2.1 (And.intro h.2.2.1.lt (And.intro h.2.2.2.1.lt h.2.2.2.2.lt)))
  have hbd0 := fun w4 (hV4 : VaultAt w4 p K bn bu bt ns (usedL 0 cs) ts) (hb : Bsl w4 vn x) => blind_any vn x w4 hV4 hb hx hns
  have hvs0 : ∀ (w4 : World) (vw vb : Value) (wi b : List UInt8), VaultAt w4 p K bn bu bt (addN x ns) (usedL 0 cs) ts → Bsl w4 vw wi → Bsl w4 vb b → wi.length ≤ 100000 → b.length = 64 → _ := fun w4 vw vb wi b hV hw hb hl hl2 => by
    have := vseal_any c vw vb wi b w4 hV ht hc hc2 hcs hw hb hl (by omega)
    rw [hl2] at this
    exact this
  have HDL := Lib.hid (drawL_len K 0 (numN x ns) 24)
  generalize drawL K 0 (numN x ns) 24 = key at *
  generalize drawL K 1 (cs.length + 1) (64 + 8) = sl at *
  obtain ⟨w0, hw0, hA0, hB0, hs0⟩ : ∃ w0, w0 = w.alloc (.cells (headC c).toArray 35) ∧ LV w0 w.heap.size (headC c) ∧ Below w.heap.size w w0 ∧ w0.heap.size = w.heap.size + 1 :=
    ⟨_, rfl, LV.new w _ _, (Below.refl _ _).alloc (Nat.le_refl _) _, by simp⟩
  obtain ⟨w1, hal1, hE1, hB1, hs1⟩ := bigE.madeV0 w0
  have hA1 := hA0.keep hB1
  have hB1 := hB0.trans (hB1.mono hB0.size)
  rw [hw0, World.size_alloc] at hal1
  rw [hs0] at hE1 hs1
  have hnm := name_any vn x w1 (hbn.keep hB1)
  rw [decide_eq_true hx] at hnm
  have hldh := bigH.ldV hA1 rfl
  have hhr := hright_any c w1 hc2
  go_enter Tryd.func7, Tryd.ntmps7
  go_wp2_with fail
  refine hnm.mono ?_
  rintro e w3 ⟨rfl, rfl⟩
  clear hnm
  go_wp2_with fail
  refine hhr.mono ?_
  rintro e w2 ⟨rfl, hB2⟩
  clear hhr hldh hal1 hA0 hB0
  have hA2 := hA1.keep hB2
  have hE2 := hE1.keep hB2
  have hs2 := hB2.size
  have hB2 := hB1.trans (hB2.mono hB1.size)
  have hBz : Below w2.heap.size w2 ((w2.alloc (.cells #[.int .u8 0] 5)).alloc (.cells #[.int .u8 1] 5)) := ((Below.refl _ _).alloc (Nat.le_refl _) _).alloc (by simp) _
  have hown1 : OB ((w2.alloc (.cells #[.int .u8 0] 5)).alloc (.cells #[.int .u8 1] 5)) w2.heap.size (.slice (some ⟨w2.heap.size + 1, 0, none⟩) 1 1) [1] := by
    have := World.ownsRow_lit (base := w2.heap.size) (e := 5) (size := 1) (w2.alloc (.cells #[.int .u8 0] 5)) #[.int .u8 1] 1 (by simp) (by unfold maxLen; omega) (by simp)
    rw [World.size_alloc] at this
    exact this
  obtain ⟨v3, w3, hap, ho3, hB3, _, hs3⟩ := apB_made _ w2.heap.size 27 _ vv _ _ hown1 (hbv.keep (hB2.trans (hBz.mono hB2.size))) (by simp; omega) (by simp; omega)
  have hB3 := hBz.trans hB3
  have hb3 := ho3.bsl
  have hy1 : ¬ (3999 : Int) < y.length := by omega
  have hA3 := hA2.keep hB3
  have hE3 := hE2.keep hB3
  have hB3 := hB2.trans (hB3.mono hB2.size)
  have hpd := pad_ok _ ([1] ++ y) w3 hb3 (by simp; omega)
  have hpl : (padL ([1] ++ y)).length = 64 := by
    have h1 := padL_length ([1] ++ y) (by simp; omega)
    have h2 : ([1] ++ y).length ≤ 60 := by simp; omega
    rcases cls_cases (([1] ++ y).length : Int) with h | h | h | h | h | h <;> omega
  generalize padL ([1] ++ y) = PL at *
  obtain ⟨avo, avc, rfl⟩ := hbv.val'
  clear hBz hown1 ho3
  go_wp2_with fail
  refine hpd.mono ?_
  rintro e w4 ⟨v4, rfl, ho4, hB4⟩
  have hA4 := hA3.keep hB4
  have hE4 := hE3.keep hB4
  have hB4 := hB3.trans (hB4.mono hB3.size)
  have hV4 := h.keep hB4
  have hs4 : w.heap.size + 2 ≤ w4.heap.size := by have := hB4.size; have := hA4.lt; have := hE4.lt; omega
  have hbd := hbd0 w4 hV4 (hbn.keep hB4)
  have hb4 := ho4.bsl
  have hv4 : ∀ k, v4.ownBlock = some k → w.heap.size + 2 ≤ k := fun k hk => by have := ho4.own_ge k hk; have := hA3.lt; have := hE3.lt; omega
  clear hpd hB1 hB2 hB3 hA1 hA2 hA3 hE1 hE2 hE3 ho4
  go_wp2_with fail
  refine hbd.mono ?_
  rintro e w5 ⟨rfl, hV5, hO5⟩
  have hlt := HLT.out
  have hSm : ∀ k, k = bn → ∃ es, MapAt w4 k es := fun k e => ⟨nameL 0 ns, by rw [e]; exact hV4.2.2.1⟩
  have hA5 := hA4.only hO5 (by omega)
  have hE5 := hE4.only hO5 (by omega)
  have hb5 := hb4.maps hO5 hSm
  have hO05 : Only (fun k => k = bn ∨ k = bu ∨ k = bt) w w5 := (Only.of_below hB4).trans hO5 (fun i _ e => .inl e)
  have hs5 : w.heap.size + 2 ≤ w5.heap.size := by have := hO5.size; omega
  obtain ⟨wa, w6, hal6, hst6, hK6, hB6, hs6⟩ := bigBl.made w5 (key.map UInt8.toNat) (by rw [List.length_map, HDL.out, zN_len])
  rw [nvs_bytes] at hst6
  have hA6 := hA5.keep hB6
  have hE6 := hE5.keep hB6
  have hb6 := hb5.keep hB6
  have hV6 := hV5.keep hB6
  have hO06 := hO05.trans (Only.of_below (S := fun _ => False) hB6) (fun i _ e => e.elim)
  have hcl := sclone_nil w6
  have cp := hA6.cell (j := 4) (v := .slice none 0 0) rfl
  have fp := hA6.free (j := 4) (by show 4 < 5; omega)
  have hlt6 : w5.heap.size < w6.heap.size := hK6.lt
  clear hbd hbd0 hA4 hE4 hb4 hV4 hB4 hA5 hE5 hb5 hV5 hO05 hO5 hSm hs4 hs6 hB6
  generalize hr : w5.heap.size = r at *
  go_wp2_with fail
  refine hcl.mono ?_
  rintro e w6b ⟨rfl, hww⟩
  subst hww
  obtain ⟨w7, hw7, hA7, hO7, hs7⟩ : ∃ w7, w7 = w6.setCell ⟨w.heap.size, 4, none⟩ (.slice none 0 0) ∧ LV w7 w.heap.size (headC c) ∧ Only (· = w.heap.size) w6 w7 ∧ w7.heap.size = w6.heap.size :=
    ⟨_, rfl, hA6.set (j := 4) (by show 4 < 5; omega) _, Only.setCell (S := (· = w.heap.size)) (Only.refl _ _) (fun _ => rfl) _, by simp [World.setCell]⟩
  have hK7 := hK6.only hO7 (by omega)
  have hE7 := hE6.only hO7 (by omega)
  have hb7 := hb6.only hO7 (fun k hk => by have := hv4 k hk; omega)
  have hV7 := hV6.only hO7 (by omega) (by omega) (by omega) (by omega)
  have hO07 := hO06.trans hO7 (fun i hi e => by omega)
  have hldk := bigBl.ld hK7 (by rw [List.length_map, HDL.out, zN_len])
  have hldh := bigH.ldV hA7 rfl
  rw [nvs_bytes] at hldk
  have hbde := fun w => bd_E key c HDL.out w
  obtain ⟨wb, w8, hal8, hst8, hQ8, hB8, hs8⟩ := bigE.madeV w7 (envC key c (.slice none 0 0)) (by rw [envC_len _ _ _ HDL.out, zE_len]) (envC_one _ _ _ _ _)
  have hA8 := hA7.keep hB8
  have hE8 := hE7.keep hB8
  have hb8 := hb7.keep hB8
  have hV8 := hV7.keep hB8
  have hO08 := hO07.trans (Only.of_below (S := fun _ => False) hB8) (fun i _ e => e.elim)
  have hldq := bigE.ldV hQ8 (by rw [envC_len _ _ _ HDL.out, zE_len])
  have hbo := bound_any key c (.slice none 0 0) w8 HDL.out hc2
  have hbll := boundL_len key c
  rw [HDL.out] at hbll
  generalize boundL key c = R at *
  have hrq : r < w7.heap.size := by omega
  clear hs7 hlt6
  clear hcl hA6 hE6 hb6 hV6 hO06 hO7 hK6 hK7 hA7 hE7 hb7 hV7 hO07 hB8 hst6 hal6
  generalize w7.heap.size = q at *
  go_wp2_with fail
  rw [← hw7]
  clear cp fp hw7
  go_simp
  go_wp2_with fail
  refine hbo.mono ?_
  rintro e w9 ⟨P, g, rfl, hO9, hB9⟩
  have hA9 := hA8.keep hB9
  have hE9 := hE8.keep hB9
  have hQ9 := hQ8.keep hB9
  have hb9 := hb8.keep hB9
  have hV9 := hV8.keep hB9
  have hO09 := hO08.trans (Only.of_below (S := fun _ => False) hB9) (fun i _ e => e.elim)
  have hdn := odone_any w9 hO9 (by omega)
  clear hbo hB9 hA8 hE8 hQ8 hb8 hV8 hO08 hldk hldh hldq hbde hst8 hal8 hs8
  go_wp2_with fail
  refine hdn.mono ?_
  rintro e w10 ⟨v10, rfl, ho10, hB10⟩
  have hA10 := hA9.keep hB10
  have hE10 := hE9.keep hB10
  have hQ10 := hQ9.keep hB10
  have hb10 := hb9.keep hB10
  have hV10 := hV9.keep hB10
  have hO10 := hO09.trans (Only.of_below (S := fun _ => False) hB10) (fun i _ e => e.elim)
  have hvs := hvs0 w10 v10 v4 R PL hV10 ho10.bsl hb10 (by omega) hpl
  have d0 := hA10.cell (j := 0) (v := .int .i64 1) rfl
  have d1 := hA10.cell (j := 1) (v := .int .i64 (c : Int)) rfl
  have d2 := hA10.cell (j := 2) (v := .int .i64 1) rfl
  have hql := hQ10.lt
  have hel := hE10.lt
  clear hdn hvs0 hA9 hE9 hQ9 hb9 hV9 hO09 hO9 hB10
  go_wp2_with fail
  refine hvs.mono ?_
  rintro e w11 ⟨sv, ts11, rfl, hb11, hown11, hV11, hT11, hO11⟩
  have hE11 := hE10.only hO11 (by omega)
  have hQ11 := hQ10.only hO11 (by omega)
  have hO011 := hO10.trans hO11 (fun i _ e => .inr e)
  have fq := hQ11.free (j := 37) (by rw [envC_len _ _ _ HDL.out]; omega)
  have cq := hQ11.cell (j := 37) (v := .slice none 0 0) ((envC_cs HDL.out).2.2.2.2.2)
  obtain ⟨sa, sc, rfl⟩ := hb11.val'
  obtain ⟨w12, hw12, hQ12, hO12, hs12⟩ : ∃ w12, w12 = w11.setCell ⟨q, 37, none⟩ (.slice sa sl.length sc) ∧ LV w12 q (envC key c (.slice sa sl.length sc)) ∧ Only (· = q) w11 w12 ∧ w12.heap.size = w11.heap.size :=
    ⟨_, rfl, by have := hQ11.set (j := 37) (by rw [envC_len _ _ _ HDL.out]; omega) (.slice sa sl.length sc); rwa [envC_set _ _ _ _ HDL.out] at this, Only.setCell (S := (· = q)) (Only.refl _ _) (fun _ => rfl) _, by simp [World.setCell]⟩
  have hE12 := hE11.only hO12 (by omega)
  have hV12 := hV11.only hO12 (by omega) (by omega) (by omega) (by omega)
  have hb12 := hb11.only hO12 (fun k hk => by have := hown11 k hk; omega)
  have hO012 := hO011.trans hO12 (fun i hi e => by omega)
  have hldq := bigE.ldV hQ12 (by rw [envC_len _ _ _ HDL.out, zE_len])
  obtain ⟨w13, hst13, hE13, hO13, _⟩ := bigE.putV hE12 rfl (envC key c (.slice sa sl.length sc)) (by rw [envC_len _ _ _ HDL.out, zE_len]) (envC_one _ _ _ _ _)
  have hlv := bigE.lvV hE13 (by rw [envC_len _ _ _ HDL.out, zE_len])
  have hV13 := hV12.only hO13 (by omega) (by omega) (by omega) (by omega)
  have hb13 := hb12.only hO13 (fun k hk => by have := hown11 k hk; omega)
  have hO013 := hO012.trans hO13 (fun i hi e => by omega)
  have hsvo : ∀ k, (Value.slice sa sl.length sc).ownBlock = some k → w.heap.size ≤ k := fun k hk => by have := hown11 k hk; omega
  have HF := Lib.hid (And.intro hb13 (And.intro hsvo (And.intro hV13 (And.intro hT11 hO013))))
  clear hsvo
  clear hvs hA10 hE10 hQ10 hb10 hV10 hO10 hE11 hQ11 hO11 hO011 hE12 hQ12 hb11 hV11 hT11 hb12 hV12 hO012 hE13 hO13 hV13 hb13 hO013 hO12 hs12 d0 d1 d2 ho10
  go_wp2_with fail
  rw [← hw12]
  clear hw12 fq cq
  go_simp
  go_wp2_with fail
  exact bodyPost_ret (results_ct Tryd.results7 rfl hlv) rfl ⟨_, ts11, rfl, HF.out⟩
theorem eseal_any (vn vv : Value) (x y : List UInt8) (c : Nat) (del : Bool) (w : World) {p bn bu bt : Nat} {K : List UInt8} {ns : List (List UInt8)} {cs : List Nat} {ts : List MapEntry} (h : VaultAt w p K bn bu bt ns (usedL 0 cs) ts) (ht : TsOk ts cs) (hc : c ∉ cs) (hc2 : 1 ≤ c ∧ c ≤ 1000)
    (hcs : cs.length ≤ 1000) (hns : ns.length ≤ 1000) (hbn : Bsl w vn x) (hbv : Bsl w vv y) (hx : 1 ≤ x.length ∧ x.length ≤ 64) (hy : y.length ≤ 59) :
    Calls Tryd.prog 7 #[.pointer (some ⟨p, 0, none⟩), vn, .agg (headC c).toArray, vv, .bool del] w fun e w' => ∃ sv ts', e = .returned (.tuple #[.agg (envC (drawL K 0 (numN x ns) 24) c sv).toArray, .int .i64 0]) ∧ Bsl w' sv (drawL K 1 (cs.length + 1) (64 + 8)) ∧ (∀ k, sv.ownBlock = some k → w.heap.size ≤ k) ∧ VaultAt w' p K bn bu bt (addN x ns) (usedL 0 (cs ++ [c])) ts' ∧ TsOk ts' (cs ++ [c]) ∧ Only (fun k => k = bn ∨ k = bu ∨ k = bt) w w' := by
  cases del with
  | true => exact eseal_true vn vv x y c w h ht hc hc2 hcs hns hbn hbv hx hy
  | false => exact eseal_false vn vv x y c w h ht hc hc2 hcs hns hbn hbv hx hy
end Go.Proofs.YtembfelckbmgiaaDoor
