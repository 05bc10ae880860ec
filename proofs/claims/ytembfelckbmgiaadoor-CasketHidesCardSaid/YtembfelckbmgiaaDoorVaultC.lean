/- keys.Nonce, vault.right, vault.Blind: the walks. -/
import Derived.Test.YtembfelckbmgiaaDoorVaultB
import Derived.Test.YtembfelckbmgiaaDoorQTail
import Derived.Deep.QuietTactic
import Derived.BigQuiet
namespace Go.Proofs.YtembfelckbmgiaaDoor
open Go.RowKit Big
set_option linter.unusedVariables false
theorem results_ct {P : Program} {fn : Func} {a u : Tmp} {t : TypeId} {b o : Nat} {v : Value} {w : World} {tmps : Array Value} (h : fn.results = #[.cell a t, .tmp u]) (ha : tmps.getD a undef = .pointer (some ⟨b, o, none⟩))
    (hr : (loadVar t ⟨b, o, none⟩).run P w = .ok v w) : (results fn tmps).run P w = .ok (.tuple #[v, tmps.getD u undef]) w := by
  unfold results
  rw [h]
  simp only [asAddr, ha, hr, List.mapM_toArray, List.mapM_cons, List.mapM_nil, Sem.run_bind, Sem.run_pure, Result.andThen_ok, Sem.run_map]
  simp
def nonceL (c : Nat) : List UInt8 := beL 4 1 ++ beL 8 c
theorem nonceL_len (c : Nat) : (nonceL c).length = 12 := by unfold nonceL; rw [List.length_append, beL_len, beL_len]
/-- Bytes that the call made, as an array. -/
theorem OB.ranged {w : World} {base : Nat} {v : Value} {l : List UInt8} (h : OB w base v l) (hne : l ≠ []) : ∃ g cap, v = .slice (some ⟨g, 0, none⟩) l.length cap ∧ l.length ≤ cap ∧ base ≤ g ∧ w.rangeAt g 0 (nvs .u8 (l.map UInt8.toNat)) := by
  obtain ⟨g, c3, rfl, hgb, hgs, hgc, hgm⟩ := h.shape hne
  refine ⟨g, c3, rfl, (h.bsl.len).2.1, hgb, ?_⟩
  rw [nvs_bytes]
  intro j u hu
  have hj : j < l.length := by have := (List.getElem?_eq_some_iff.1 hu).1; simpa using this
  rw [Nat.zero_add, h.cell rfl hj, ← hu]
  simp [bv, hj, List.getD]
attribute [local go_sem ↓] alT_12 ldT_12 stT_12 apB_eq
set_option maxRecDepth 100000 in
set_option maxHeartbeats 1000000 in
theorem nonce_any (c : Nat) (w : World) (hc : 1 ≤ c ∧ c ≤ 1000) :
    Calls Tryd.prog 44 #[.int .i64 1, .int .i64 c] w fun e w' => e = .returned (.tuple #[.agg ((nonceL c).map bv).toArray, .int .i64 0]) ∧ Below w.heap.size w w' := by
  obtain ⟨w0, hal0, hA0, hB0, hs0⟩ := big12.made0 w
  have hu1 : IntKind.u64.wrap (c : Int) = c := by rw [IntKind.wrap_u64]; omega
  have h1 : ¬ (c : Int) < 1 := by omega
  have h2 : ¬ (4611686018427387904 : Int) < c := by omega
  have h3 : decide ((c : Int) > 4611686018427387904) = false := by simp; omega
  have hc1 := putHigh_any 1 4 w0 (by omega) (by omega) (by omega)
  rw [show ((1 : Nat) : Int) = 1 from rfl] at hc1
  have HN := Lib.hid (show nonceL c = beL 4 1 ++ beL 8 c from rfl)
  have HL := Lib.hid (nonceL_len c)
  generalize nonceL c = N at *
  go_enter Tryd.func44, Tryd.ntmps44
  go_wp2_with fail
  refine hc1.mono ?_
  rintro e w1 ⟨v1, rfl, ho1, hB1⟩
  rw [show (4 : Int).toNat = 4 from rfl, show (putLowL 4 1).reverse = beL 4 1 from rfl] at ho1
  have hA1 := hA0.keep hB1
  have hB01 := hB0.trans (hB1.mono hB0.size)
  have hs1 := hB1.size
  have hc2 := putHigh_any c 8 w1 (by omega) (by omega) (by omega)
  clear hc1
  go_wp2_with fail
  refine hc2.mono ?_
  rintro e w2 ⟨v2, rfl, ho2, hB2⟩
  rw [show (8 : Int).toNat = 8 from rfl, show (putLowL 8 c).reverse = beL 8 c from rfl] at ho2
  have hA2 := hA1.keep hB2
  have hB02 := hB01.trans (hB2.mono hB01.size)
  have ho12 := ho1.keep hB2
  have hs2 := hB2.size
  obtain ⟨v3, w3, hap, ho3, hB3, _, hs3⟩ := apB_made w2 w0.heap.size 27 v1 v2 _ _ ho12 ho2.bsl (by rw [beL_len, beL_len]; omega) (by omega)
  rw [← HN.out] at ho3
  have hA3 := hA2.under hB3 (by omega)
  have hB03 := hB02.trans (hB3.mono (by omega))
  obtain ⟨g, c3, rfl, hcap, hgb, hgr⟩ := ho3.ranged (by intro e; have := HL.out; rw [e] at this; simp at this)
  have hld3 := run_ldT big12 w3 g 0 _ hgr (by rw [nvs_len, List.length_map, HL.out, nvs_len, zN_len])
  rw [nvs_bytes] at hld3
  rw [HL.out] at hap hcap
  have harr := fun w => run_arrayAt (P := Tryd.prog) (w := w) 84 5 12 (some ⟨g, 0, none⟩) 12 c3 Tryd.underlying84 (Nat.le_refl _)
  obtain ⟨w4, hst4, hA4, hO4, _⟩ := big12.put hA3 rfl (N.map UInt8.toNat) (by rw [List.length_map, HL.out, zN_len])
  have hlv := big12.lv hA4 (by rw [List.length_map, HL.out, zN_len])
  rw [nvs_bytes] at hst4 hlv
  have HB := Lib.hid (hB03.trans (hO4.to_below hB03.size (fun k e => by omega)))
  clear hc2 hal0 hA0 hA1 hA2 hA3 hA4 hB0 hB1 hB2 hB3 hB01 hB02 hB03 ho1 ho2 ho12 ho3 hgr hO4
  go_wp2_with fail
  exact bodyPost_ret (results_ct Tryd.results44 rfl hlv) rfl ⟨rfl, HB.out⟩
set_option maxRecDepth 100000 in
set_option maxHeartbeats 1000000 in
theorem vright_any (c : Nat) (w : World) (hc : 1 ≤ c ∧ c ≤ 1000) :
    Calls Tryd.prog 32 #[.int .i64 1, .int .i64 1, .int .i64 c] w fun e w' => e = .returned (.int .i64 0) ∧ Below w.heap.size w w' := by
  have hc1 := nonce_any c w hc
  have hl := nonceL_len c
  generalize nonceL c = N at *
  go_enter Tryd.func32, Tryd.ntmps32
  go_wp2_with fail
  refine hc1.mono ?_
  rintro e w1 ⟨rfl, hB1⟩
  obtain ⟨wa, w2, hal2, hst2, hA2, hB2, hs2⟩ := big12.made w1 (N.map UInt8.toNat) (by rw [List.length_map, hl, zN_len])
  rw [nvs_bytes] at hst2
  have hB2 := hB1.trans (hB2.mono hB1.size)
  clear hc1
  go_wp2_with fail
  go_ret
  exact ⟨rfl, hB2⟩
/-- The number of a name, and the names behind it. -/
def numN (x : List UInt8) (ns : List (List UInt8)) : Nat := match posL x ns with
  | some k => k + 1
  | none => ns.length + 1
def addN (x : List UInt8) (ns : List (List UInt8)) : List (List UInt8) := match posL x ns with
  | some _ => ns
  | none => ns ++ [x]
theorem numN_le (x : List UInt8) (ns : List (List UInt8)) : 1 ≤ numN x ns ∧ numN x ns ≤ ns.length + 1 := by
  unfold numN
  cases h : posL x ns with
  | none => simp
  | some k => have := posL_lt x ns k h; simp; omega
theorem addN_le (x : List UInt8) (ns : List (List UInt8)) : (addN x ns).length ≤ ns.length + 1 := by
  unfold addN
  cases h : posL x ns with
  | none => simp
  | some k => simp
theorem bigBl : BigT 36 (nvs .u8 (zN 32)) := BigT.of (by kernel_rfl) ⟨_, Tryd.underlying36, rfl⟩
theorem alT_Bl : Instr.alloc 36 true (.tuple #[]) = alT 36 := rfl
theorem ldT_Bl (v : Value) : Instr.loadAt 36 v = ldT 36 v := rfl
theorem stT_Bl (v u : Value) : Instr.storeAt 36 v u = stT 36 v u := rfl
theorem ck_str (e : Bool) (s : ByteArray) (w : World) : (Instr.checkKey e 10000 9 (.string s)).run Tryd.prog w = .ok () w := by kernel_rfl
theorem zero_int (w : World) : (zeroValue 3).run Tryd.prog w = .ok (.int .i64 0) w := by kernel_rfl
theorem look_name {w : World} {b : Nat} {ns : List (List UInt8)} (h : MapAt w b (nameL 0 ns)) (x : List UInt8) :
    (Instr.lookup 58 (.map (some b)) (.string ⟨x.toArray⟩) true).run Tryd.prog w = .ok (.tuple #[.int .i64 (match posL x ns with | some k => ((k + 1 : Nat) : Int) | none => 0), .bool (posL x ns).isSome]) w := by
  have hf : (Instr.findKey 9 (.string ⟨x.toArray⟩) (nameL 0 ns)).run Tryd.prog w = .ok ((posL x ns).map fun k => (0 + k, Value.int .i64 ((0 + k + 1 : Nat) : Int))) w :=
    Go.MapKept.run_findKey Tryd.underlying9 (findNow_names x 0 0 ns)
  cases hp : posL x ns with
  | none =>
    rw [hp] at hf
    exact run_lookup_none Tryd.underlying58 h (fun e => ck_str e _ w) hf (zero_int w) true
  | some k =>
    rw [hp] at hf
    simp only [Option.map_some, Nat.zero_add] at hf
    exact run_lookup_some Tryd.underlying58 h (fun e => ck_str e _ w) hf true
theorem put_name {w : World} {b : Nat} {ns : List (List UInt8)} (h : MapAt w b (nameL 0 ns)) (x : List UInt8) (hx : posL x ns = none) :
    ∃ w', (Instr.mapUpdate 58 (.map (some b)) (.string ⟨x.toArray⟩) (.int .i64 ((ns.length + 1 : Nat) : Int))).run Tryd.prog w = .ok () w' ∧ MapAt w' b (nameL 0 (ns ++ [x])) ∧ Only (· = b) w w' := by
  have hf : (Instr.findKey 9 (.string ⟨x.toArray⟩) (nameL 0 ns)).run Tryd.prog w = .ok ((posL x ns).map fun k => (0 + k, Value.int .i64 ((0 + k + 1 : Nat) : Int))) w :=
    Go.MapKept.run_findKey Tryd.underlying9 (findNow_names x 0 0 ns)
  rw [hx] at hf
  refine ⟨_, run_update_new Tryd.underlying58 h (fun e => ck_str e _ w) hf, ?_, only_mapSet _ _ _⟩
  have := h.push ⟨.string ⟨x.toArray⟩, .int .i64 ((ns.length + 1 : Nat) : Int), (nameL 0 ns).length⟩
  rw [nameL_snoc, Nat.zero_add]
  rwa [nameL_len] at this ⊢
attribute [local go_sem ↓] alT_Bl ldT_Bl stT_Bl
set_option maxRecDepth 100000 in
set_option maxHeartbeats 1000000 in
theorem blind_known (v : Value) (x : List UInt8) (w : World) {p bn bu bt : Nat} {K : List UInt8} {ns : List (List UInt8)} {us ts : List MapEntry} (h : VaultAt w p K bn bu bt ns us ts) (hb : Bsl w v x) (hx : 1 ≤ x.length ∧ x.length ≤ 64) (hns : ns.length ≤ 1000) {k : Nat} (hk : posL x ns = some k) :
    Calls Tryd.prog 15 #[.pointer (some ⟨p, 0, none⟩), v] w fun e w' => e = .returned (.tuple #[.agg ((drawL K 0 (k + 1) 24).map bv).toArray, .int .i64 0]) ∧ Below w.heap.size w w' := by
  obtain ⟨w0, hal0, hA0, hB0, hs0⟩ := bigBl.made0 w
  have hk2 := posL_lt _ _ _ hk
  obtain ⟨ao, cap, rfl⟩ := hb.val'
  have h1 : ¬ (x.length : Int) < 1 := by omega
  have h2 : ¬ (64 : Int) < x.length := by omega
  have hV0 := h.keep hB0
  have hb0 := hb.keep hB0
  have c0 := hV0.c0
  have c3 := hV0.cm.1
  have hcv := fun n => run_str (w0.drewN n) (v := .slice ao x.length cap) hb0
  have hlk := fun n => look_name (w := w0.drewN n) (show MapAt (w0.drewN n) bn (nameL 0 ns) from hV0.2.2.1) x
  rw [hk] at hlk
  have hdr := fun n => draw_any K p 0 (k + 1) 24 (w0.drewN n) hV0.1.1 (show (w0.drewN n).rangeAt p 1 _ from hV0.key) hV0.1.2.1 (by omega) (by omega) (by omega)
  have HDL := Lib.hid (drawL_len K 0 (k + 1) 24)
  generalize drawL K 0 (k + 1) 24 = D at *
  clear hV0 hb0 h
  go_enter Tryd.func15, Tryd.ntmps15
  go_wp2_with fail
  go_quiet (fail)
  go_wp2_with fail
  have hA4 : AN .u8 (w0.drewN nq) w.heap.size _ := hA0.drewN nq
  have hB04 := below_drewN hB0 nq
  refine (hdr nq).mono ?_
  rintro e w5 ⟨v5, rfl, ho5, hB5⟩
  have hA5 := hA4.keep hB5
  have hs5 := hB5.size
  have hB05 := hB04.trans (hB5.mono hB04.size)
  obtain ⟨g, c5, rfl, hcap, hgb, hgr⟩ := ho5.ranged (by intro e; have := HDL.out; rw [e] at this; simp at this)
  have hld5 := run_ldT bigBl w5 g 0 _ hgr (by rw [nvs_len, List.length_map, HDL.out, nvs_len, zN_len])
  rw [nvs_bytes] at hld5
  rw [HDL.out] at hcap ⊢
  have harr := fun w => run_arrayAt (P := Tryd.prog) (w := w) 36 5 32 (some ⟨g, 0, none⟩) 32 c5 Tryd.underlying36 (Nat.le_refl _)
  obtain ⟨w6, hst6, hA6, hO6, _⟩ := bigBl.put hA5 rfl (D.map UInt8.toNat) (by rw [List.length_map, HDL.out, zN_len])
  have hlv := bigBl.lv hA6 (by rw [List.length_map, HDL.out, zN_len])
  rw [nvs_bytes] at hst6 hlv
  have HB := Lib.hid (hB05.trans (hO6.to_below hB05.size (fun k e => by omega)))
  clear hdr hA4 hA5 hA6 hO6 hB05 hB5 hB04 hgr ho5
  go_wp2_with fail
  exact bodyPost_ret (results_ct Tryd.results15 rfl hlv) rfl ⟨rfl, HB.out⟩
set_option maxRecDepth 100000 in
set_option maxHeartbeats 1000000 in
theorem blind_new (v : Value) (x : List UInt8) (w : World) {p bn bu bt : Nat} {K : List UInt8} {ns : List (List UInt8)} {us ts : List MapEntry} (h : VaultAt w p K bn bu bt ns us ts) (hb : Bsl w v x) (hx : 1 ≤ x.length ∧ x.length ≤ 64) (hns : ns.length ≤ 1000) (hk : posL x ns = none) :
    Calls Tryd.prog 15 #[.pointer (some ⟨p, 0, none⟩), v] w fun e w' => e = .returned (.tuple #[.agg ((drawL K 0 (ns.length + 1) 24).map bv).toArray, .int .i64 0]) ∧ VaultAt w' p K bn bu bt (ns ++ [x]) us ts ∧ Only (· = bn) w w' := by
  obtain ⟨w0, hal0, hA0, hB0, hs0⟩ := bigBl.made0 w
  obtain ⟨ao, cap, rfl⟩ := hb.val'
  have h1 : ¬ (x.length : Int) < 1 := by omega
  have h2 : ¬ (64 : Int) < x.length := by omega
  have HLT := Lib.hid (And.intro h.1.2.1 (And.intro h.2.2.1.lt (And.intro h.2.2.2.1.lt h.2.2.2.2.lt)))
  have hV0 := h.keep hB0
  have hb0 := hb.keep hB0
  have c0 := hV0.c0
  have c3 := hV0.cm.1
  have hcv := fun n => run_str (w0.drewN n) (v := .slice ao x.length cap) hb0
  have hlk := fun n => look_name (w := w0.drewN n) (show MapAt (w0.drewN n) bn (nameL 0 ns) from hV0.2.2.1) x
  rw [hk] at hlk
  have hln := fun n ty => run_len_map (P := Tryd.prog) Tryd.underlying58 (show MapAt (w0.drewN n) bn (nameL 0 ns) from hV0.2.2.1) ty
  rw [nameL_len] at hln
  have hdr0 := fun (w3 : World) (h : VaultAt w3 p K bn bu bt (ns ++ [x]) us ts) => draw_any K p 0 (ns.length + 1) 24 w3 h.1.1 h.key h.1.2.1 (by omega) (by omega) (by omega)
  have HDL := Lib.hid (drawL_len K 0 (ns.length + 1) 24)
  generalize drawL K 0 (ns.length + 1) 24 = D at *
  go_enter Tryd.func15, Tryd.ntmps15
  go_wp2_with fail
  go_quiet (fail)
  have hA2 : AN .u8 (w0.drewN nq) w.heap.size _ := hA0.drewN nq
  have hB02 := below_drewN hB0 nq
  have hV2 : VaultAt (w0.drewN nq) p K bn bu bt ns us ts := hV0
  have hb2 : Bsl (w0.drewN nq) (.slice ao x.length cap) x := hb0
  have hln2 := hln nq
  clear hcv hlk hln hB0 hal0 hs0 hA0 hV0 hb0 c0 c3
  generalize w0.drewN nq = w2 at *
  have c0 := hV2.c0
  have c3 := hV2.cm.1
  have hcv := fun n => run_str (w2.drewN n) (v := .slice ao x.length cap) hb2
  go_wp2_with fail
  refine wp_region_quiet_tail_lit 7 (by kernel_rfl) (by kernel_rfl) ?_
  simp only [List.take_succ_cons, List.take_zero, List.drop_succ_cons, List.drop_zero]
  repeat (quiet_step (fail))
  refine wpQuiet_nil ?_
  rintro _ ⟨n3, rfl⟩
  obtain ⟨w3, hup, hM3, hO3⟩ := put_name (w := w2.drewN n3) (show MapAt (w2.drewN n3) bn (nameL 0 ns) from hV2.2.2.1) x hk
  rw [show ((ns.length + 1 : Nat) : Int) = (ns.length : Int) + 1 by omega] at hup
  have hV3 : VaultAt w3 p K bn bu bt (ns ++ [x]) us ts := ⟨⟨hV2.1.1, Nat.lt_of_lt_of_le hV2.1.2.1 hO3.size, hV2.1.2.2⟩, rangeAt_only (w := w2.drewN n3) hV2.2.1 hO3 hV2.1.2.2.1, hM3, (show MapAt (w2.drewN n3) bu us from hV2.2.2.2.1).only hO3 (fun e => hV2.1.2.2.2.2.2.1 e.symm), (show MapAt (w2.drewN n3) bt ts from hV2.2.2.2.2).only hO3 (fun e => hV2.1.2.2.2.2.2.2.1 e.symm)⟩
  have hA3 := (hA2.drewN n3).only hO3 (fun e => by have := HLT.out; omega)
  have hO03 : Only (· = bn) w w3 := ((Only.of_below (S := (· = bn)) (below_drewN hB02 n3)).trans hO3 (fun i _ e => e))
  have hB4 : Below w3.heap.size w3 w3 := Below.refl _ _
  have hdr := hdr0 w3 hV3
  clear hdr0
  have hlt3 : w.heap.size < w3.heap.size := hA3.lt
  clear hV2 hb2 hA2 hB02 hM3 hO3 hln2 hcv
  go_wp2_with fail
  refine hdr.mono ?_
  rintro e w5 ⟨v5, rfl, ho5, hB5⟩
  have hA5 := hA3.keep hB5
  have hs5 := hB5.size
  obtain ⟨g, c5, rfl, hcap, hgb, hgr⟩ := ho5.ranged (by intro e; have := HDL.out; rw [e] at this; simp at this)
  have hld5 := run_ldT bigBl w5 g 0 _ hgr (by rw [nvs_len, List.length_map, HDL.out, nvs_len, zN_len])
  rw [nvs_bytes] at hld5
  rw [HDL.out] at hcap ⊢
  have harr := fun w => run_arrayAt (P := Tryd.prog) (w := w) 36 5 32 (some ⟨g, 0, none⟩) 32 c5 Tryd.underlying36 (Nat.le_refl _)
  obtain ⟨w6, hst6, hA6, hO6, _⟩ := bigBl.put hA5 rfl (D.map UInt8.toNat) (by rw [List.length_map, HDL.out, zN_len])
  have hlv := bigBl.lv hA6 (by rw [List.length_map, HDL.out, zN_len])
  rw [nvs_bytes] at hst6 hlv
  have hO5 : Only (· = bn) w w5 := hO03.trans (Only.of_below (S := (· = bn)) hB5) (fun i _ e => e)
  have hO6' : Only (· = bn) w w6 := hO5.trans hO6 (fun i hi e => by omega)
  have HB := Lib.hid (And.intro ((hV3.keep hB5).only hO6 (fun e => by have := HLT.out; omega) (fun e => by have := HLT.out; omega) (fun e => by have := HLT.out; omega) (fun e => by have := HLT.out; omega)) hO6')
  clear hdr hA3 hA5 hA6 hO6 hB5 hgr ho5 hV3 hO03 hO5 hO6'
  go_wp2_with fail
  exact bodyPost_ret (results_ct Tryd.results15 rfl hlv) rfl ⟨rfl, HB.out⟩
theorem blind_any (v : Value) (x : List UInt8) (w : World) {p bn bu bt : Nat} {K : List UInt8} {ns : List (List UInt8)} {us ts : List MapEntry} (h : VaultAt w p K bn bu bt ns us ts) (hb : Bsl w v x) (hx : 1 ≤ x.length ∧ x.length ≤ 64) (hns : ns.length ≤ 1000) :
    Calls Tryd.prog 15 #[.pointer (some ⟨p, 0, none⟩), v] w fun e w' => e = .returned (.tuple #[.agg ((drawL K 0 (numN x ns) 24).map bv).toArray, .int .i64 0]) ∧ VaultAt w' p K bn bu bt (addN x ns) us ts ∧ Only (· = bn) w w' := by
  cases hk : posL x ns with
  | some k =>
    have e1 : numN x ns = k + 1 := by unfold numN; rw [hk]
    have e2 : addN x ns = ns := by unfold addN; rw [hk]
    rw [e1, e2]
    exact (blind_known v x w h hb hx hns hk).mono fun e w' ⟨he, hB⟩ => ⟨he, h.keep hB, Only.of_below hB⟩
  | none =>
    have e1 : numN x ns = ns.length + 1 := by unfold numN; rw [hk]
    have e2 : addN x ns = ns ++ [x] := by unfold addN; rw [hk]
    rw [e1, e2]
    exact blind_new v x w h hb hx hns hk
end Go.Proofs.YtembfelckbmgiaaDoor
