/- The walk of LogWrites. -/
import Derived.Test.YtbmdcblcefebiaaLawLogFalls
import Derived.Lib.ConvBytes
namespace Go.Proofs.Ytbmdcblcefebiaa
open Go.RowKit
/-- How things stand between two calls. -/
def WS (w0 wx : World) (lp p n : Nat) (hv : Value) (ys : List MsgD) (t a T : Nat) : Prop := ∃ (d : DK) (bs : Nat → Prop), MS wx w0.heap.size hv ys ∧ LogAt wx lp p d ⟨t, a, allL (ys.map (·.l))⟩ bs ∧ Hlt d ∧ Img d.now t a (allL (ys.map (·.l))) ∧
  d.now.length = n ∧ d.fuse = 0 ∧ (∀ k, bs k → w0.heap.size ≤ k) ∧ (∀ k, msB hv ys k → ¬ bs k) ∧ t ≤ T ∧ Below w0.heap.size w0 wx
theorem WS.keep {w0 wx wy : World} {lp p n : Nat} {hv : Value} {ys : List MsgD} {t a T : Nat} (h : WS w0 wx lp p n hv ys t a T) (hb : Below wx.heap.size wx wy) : WS w0 wy lp p n hv ys t a T := by
  obtain ⟨d, bs, h1, h2, h3, h4, h5, h6, h7, h8, h9, h10⟩ := h
  exact ⟨d, bs, h1.keep hb, h2.keep hb, h3, h4, h5, h6, h7, h8, h9, h10.trans (hb.mono h10.size)⟩
theorem WS.of_put {w0 w6 w7 : World} {e : Ending} {nv : Value} {zs : List MsgD} {lp p n a2 T : Nat} {d : DK} {L : LD} {bs : Nat → Prop} (h : PutRes w6 w7 e lp p d L bs a2 (allL (zs.map (·.l)))) (hZ : MS w6 w0.heap.size nv zs)
    (hbs : ∀ k, bs k → w0.heap.size ≤ k) (hdZ : ∀ k, msB nv zs k → ¬ bs k) (hn : d.now.length = n) (hf : d.fuse = 0) (hT : L.turn + 1 ≤ T) (hB : Below w0.heap.size w0 w6) : e = .returned (.int .i64 0) ∧ WS w0 w7 lp p n nv zs (L.turn + 1) a2 T := by
  obtain ⟨d2, bs2, hE, hn2, hc⟩ := h
  obtain ⟨hbs2, hB2⟩ := hE.own hbs hB (Nat.le_refl _)
  rcases hc with ⟨rfl, hL, hH, hI, hf2⟩ | ⟨_, _, _, h0, _⟩
  · exact ⟨rfl, d2, bs2, hZ.only hE.only (fun k hk e => hdZ k hk e), hL, hH, hI, by rw [hn2, hn], hf2 hf, hbs2, fun k hk e => (hE.new k e).elim (hdZ k hk) (fun e2 => by have := hZ.lt k hk; omega), hT, hB2⟩
  · omega
theorem WS.le {w0 wx : World} {lp p n : Nat} {hv : Value} {ys : List MsgD} {t a T T' : Nat} (h : WS w0 wx lp p n hv ys t a T) (hT : T ≤ T') : WS w0 wx lp p n hv ys t a T' := by
  obtain ⟨d, bs, h1, h2, h3, h4, h5, h6, h7, h8, h9, h10⟩ := h
  exact ⟨d, bs, h1, h2, h3, h4, h5, h6, h7, h8, Nat.le_trans h9 hT, h10⟩
theorem wp_appsv {w : World} {ops : Array Oper} {rest : List Oper} {o : Oper} {a : Act} {Q : Exit → Act → World → Prop} (hgd : o.guard = none) (s x : Operand) (t : TypeId)
    (ho : o.op = .call { callee := .builtin .append, args := #[s, x], argTypes := #[t, t] })
    {base : Nat} {e : TypeId} {sz : Nat} {v v2 : Value} {rs ns : List (List Value)} (i : TypeInfo) (z : Value) (ht : Try.prog.underlying t = some (.slice e)) (hi : Try.prog.info? e = some i) (hz : i.zero = some z) (hsz : i.size = sz)
    (hby : i.bytes ≤ 1000) (hzs : z.cells.size = sz) (hpos : 0 < sz) (h : RW w base e sz v rs) (hs : Src w sz v2 ns)
    (hlen : rs.length + ns.length ≤ 100000000) (hb : base ≤ w.heap.size) (hes : a.eval s = v) (hx : a.eval x = v2)
    (hK : ∀ v' w', RW w' base e sz v' (rs ++ ns) → w.grownBy w' v.ownBlock → (v'.ownBlock = v.ownBlock ∨ v'.ownBlock = some w.heap.size) → wpList Try.prog ops Q rest (a.put o.dst v') w') :
    wpList Try.prog ops Q (o :: rest) a w := by
  refine wpList_plain hgd fun K hK' => ?_
  obtain ⟨v', w', hrun, k1, k2, k3⟩ := run_appsv i z ht hi hz hsz hby hzs hpos o.type h hs hlen hb
  unfold Oper.wp execOp
  simp only [ho, resolve, invoke, builtin, Sem.run_bind, Sem.run_pure, Result.andThen_ok, List.map_toArray, List.map_cons, List.map_nil, hes, hx, hrun]
  exact hK' _ _ (hK v' w' k1 k2 k3)
theorem at_fact (n a : Nat) (hn4 : 4 ≤ n) (hn : n ≤ 17) (ha : a ≤ 1) : wrap64 (128 + wrap64 ((a : Int) * ((roomN n : Nat) : Int))) = ((128 + a * roomN n : Nat) : Int) ∧ 128 + a * roomN n + roomN n ≤ n * 64 ∧ roomN n ≤ 448 := by
  have h1 : roomN n ≤ 448 := by unfold roomN areaN; split <;> omega
  have h2 : 128 + 2 * roomN n ≤ n * 64 := by have := (area_ge n).2 hn4; unfold roomN; omega
  rcases (show a = 0 ∨ a = 1 by omega) with rfl | rfl
  · refine ⟨?_, by omega, h1⟩
    rw [Nat.zero_mul, show ((0 : Nat) : Int) * ((roomN n : Nat) : Int) = 0 from Int.zero_mul _, IntWalk.wrap64_in 0 (by omega), IntWalk.wrap64_in (128 + 0) (by omega)]
    rfl
  · refine ⟨?_, by omega, h1⟩
    rw [Nat.one_mul, show ((1 : Nat) : Int) * ((roomN n : Nat) : Int) = ((roomN n : Nat) : Int) from Int.one_mul _]
    generalize roomN n = k at *
    rw [IntWalk.wrap64_in (k : Int) (by omega), IntWalk.wrap64_in _ (by omega)]; omega
theorem str_sub (l : List UInt8) (i j : Nat) : (⟨l.toArray⟩ : ByteArray).extract i j = ⟨((l.take j).drop i).toArray⟩ := by
  apply ByteArray.ext
  rw [ByteArray.data_extract]
  apply Array.ext'
  simp [List.drop_take]
theorem sec_of {now : List (List UInt8)} (hs : ∀ x ∈ now, x.length = 64) {k LO : Nat} {x : List UInt8} (hx : now[k]? = some x) (hLO : LO = k * 64) : (now.flatten.take (LO + 64)).drop LO = x := by
  have hk : k < now.length := (List.getElem?_eq_some_iff.1 hx).1
  have hxl := hs x (List.mem_of_getElem? hx)
  rw [hLO, show k * 64 + 64 = (k + 1) * 64 by omega, take_flat64 now (k + 1) hs hk, List.take_succ_eq_append_getElem hk, List.flatten_append, List.drop_left' (by rw [flat64 _ (fun s h => hs s (List.mem_of_mem_take h)), List.length_take]; rw [Nat.min_eq_left (by omega)])]
  have h2 : now[k] = x := by rw [List.getElem?_eq_getElem hk] at hx; exact Option.some.inj hx
  rw [h2]; simp
theorem area_of {now : List (List UInt8)} (hs : ∀ x ∈ now, x.length = 64) {a c : Nat} : (now.flatten.take (128 + a * roomN now.length + c)).drop (128 + a * roomN now.length) = areaL now a c := by
  unfold areaL roomN
  rw [show 128 + a * (areaN now.length * 64) = (2 + a * areaN now.length) * 64 by rw [Nat.add_mul, Nat.mul_assoc], List.drop_take, Nat.add_sub_cancel_left]
  congr 1
  generalize 2 + a * areaN now.length = k
  by_cases h : k ≤ now.length
  · have hsp : now.flatten = (now.take k).flatten ++ (now.drop k).flatten := by rw [← List.flatten_append, List.take_append_drop]
    rw [hsp, List.drop_left' (by rw [flat64 _ (fun s h => hs s (List.mem_of_mem_take h)), List.length_take, Nat.min_eq_left h])]
  · rw [List.drop_of_length_le (by rw [flat64 _ hs]; exact Nat.mul_le_mul_right _ (by omega)), List.drop_of_length_le (by omega)]; rfl
theorem wr_mul (x : Nat) (h : x ≤ 100) : IntKind.i64.wrap ((x : Int) * 64) = ((x * 64 : Nat) : Int) := by rw [IntKind.wrap_i64]; omega
theorem wr_add (x y : Nat) (h : x + y ≤ 100000) : IntKind.i64.wrap ((x : Int) + (y : Int)) = ((x + y : Nat) : Int) := by rw [IntKind.wrap_i64]; omega
theorem wr_add64 (x : Nat) (h : x ≤ 100000) : IntKind.i64.wrap ((x : Int) + 64) = ((x + 64 : Nat) : Int) := by rw [IntKind.wrap_i64]; omega
theorem wr_sub (x y : Nat) (h : y ≤ x) (h2 : x ≤ 100000) : IntKind.i64.wrap ((x : Int) - (y : Int)) = ((x - y : Nat) : Int) := by rw [IntKind.wrap_i64]; omega
theorem tm_fact (t : Nat) : ∃ tm : Nat, t % 2 = tm ∧ tm < 2 ∧ (t : Int).tmod 2 = (tm : Int) := ⟨t % 2, rfl, by omega, by rw [Int.tmod_eq_emod_of_nonneg (by omega)]; omega⟩
theorem conv_bytes (w : World) (l : List UInt8) (hl : l.length ≤ 1000000) : ∃ cap w', (convert 9 37 (.string ⟨l.toArray⟩)).run Try.prog w = .ok (.slice (some ⟨w.heap.size, 0, none⟩) l.length cap) w' ∧ Bsl w' (.slice (some ⟨w.heap.size, 0, none⟩) l.length cap) l ∧ Below w.heap.size w w' ∧ w.heap.size < w'.heap.size := by
  have h := Lib.run_convert_string_bytes (P := Try.prog) w 9 37 5 ⟨l.toArray⟩ Try.underlying9 Try.underlying37 Try.underlying5
  rw [str_size] at h
  refine ⟨_, _, h, ⟨_, _, rfl, grownCap_ge .., ?_, by simp, fun _ => ⟨_, 0, rfl, fun j hj => ?_⟩⟩, ⟨rfl, rfl, rfl, by rw [Lib.bytesWorld_size]; omega, fun k hk => Lib.bytesWorld_at_old w _ _ k hk⟩, by rw [Lib.bytesWorld_size]; omega⟩
  · have h9 := grownCap_le_maxLen w l.length 0 5 (by unfold maxLen; omega)
    unfold maxLen at h9; omega
  · have h9 := Lib.bytesWorld_cell w 5 ⟨l.toArray⟩ j (by rw [str_size]; exact hj)
    rw [Nat.zero_add]
    simpa using h9
set_option maxRecDepth 100000 in
set_option maxHeartbeats 4000000 in
theorem logWrites_walk (s : Int) (v : Value) (acts : List LAct) (w : World) (_hs : (Lit.int .i64 s).wf = true) (hv : LActsAt w v acts) :
    Calls Try.prog 6 #[.int .i64 s, v] w fun e w' => e = .returned (.bool true) ∧ Below w.heap.size w w' := by
  clear _hs
  obtain ⟨n, hn4, hn1, hN⟩ : ∃ n : Nat, 4 ≤ n ∧ n ≤ 17 ∧ wrap64 (4 + wrap64 ((IntKind.u64.wrap s).tmod 14)) = (n : Int) := by
    obtain ⟨q, hq, hq1, hq2⟩ := umodL s 14 (by omega) (by omega)
    have hq3 : wrap64 ((IntKind.u64.wrap s).tmod 14) = (q : Int) := hq1
    exact ⟨4 + q, by omega, by omega, by rw [hq3, IntWalk.wrap64_in _ (by omega)]; omega⟩
  obtain ⟨⟨ro, rc, rfl, hr1, hr2, hr3, hrc⟩, hra⟩ := hv
  clear hr3
  go_enter Try.func6, Try.ntmps6
  go_wp2_with fail
  refine (dnew_ok n w (by omega) (by omega)).mono ?_
  rintro e w1 ⟨p, rfl, ⟨ds, hD, hds⟩, hB1⟩
  go_wp2_with fail
  refine (format_new w1 hD (by omega) (by omega)).mono ?_
  rintro e w2 ⟨lp, rfl, d, bs, hL, hE, hH, hI, hn, hfu⟩
  obtain ⟨hbs2, hBB2⟩ := hE.own hds hB1 (Nat.le_refl _)
  clear hE hD hds hB1
  go_wp2_with fail
  refine (logs_any w2).mono ?_
  rintro e w3 ⟨rfl, hB3⟩
  have hWS0 : WS w w3 lp p n (.slice none 0 0) [] 1 0 (1 + 0) := ⟨d, bs, MS.nil _ _, by simpa [allL] using hL.keep hB3, hH, by simpa [allL] using hI, hn, hfu, hbs2, msB_nil _, Nat.le_refl _, hBB2.trans (hB3.mono hBB2.size)⟩
  clear hL hH hI hn hfu hbs2 hBB2 hB3
  go_upto_block 0 with (fail)
  clear hN
  go_cut [10, 11, 12] (fun hvv tv av wx => ∃ (t a : Nat) (ys : List MsgD), tv = .int .i64 t ∧ av = .int .i64 a ∧ WS w wx lp p n hvv ys t a 20)
  case first =>
    go_wp2_with fail
    go_loopw [10, 11, 12, 13] (fun hvv tv av j wr => ∃ (i t a : Nat) (ys : List MsgD), tv = .int .i64 t ∧ av = .int .i64 a ∧ j = .int .i64 i ∧ i ≤ 15 ∧ WS w wr lp p n hvv ys t a (1 + i)) (fun _ _ _ j _ => 15 - (intOf j).toNat)
    case atStart => exact ⟨0, 1, 0, [], rfl, rfl, rfl, by omega, hWS0⟩
    case round =>
      clear hWS0
      obtain ⟨i, t, a, ys, rfl, rfl, rfl, hi15, hW⟩ := hrel
      have HW := Lib.hid hW
      have hi0 : (0 : Int) ≤ i := Int.natCast_nonneg _
      by_cases hlt : i < acts.length
      · have hlt2 : (i : Int) < acts.length := by omega
        by_cases hl15 : i < 15
        · have hl152 : (i : Int) < 15 := by omega
          obtain ⟨d, bs, hS, hL, hH, hI, hn, hfu, hbs, hdj, hT, hB⟩ := hW
          obtain ⟨g, o, rfl, hcc⟩ := hrc (by intro e; simp [e] at hlt)
          obtain ⟨e0, e1⟩ := actCells hcc hlt hB
          have hrm := (hra _ (List.getElem_mem hlt)).keep hB
          generalize acts[i] = act at *
          obtain ⟨rep, arv, recs⟩ := act
          dsimp only at e0 e1 hrm
          have hfw := lfew_any wr rep arv recs hrm
          obtain ⟨av, ac, rfl, hq1, hq2, hq3, hq4⟩ := id hrm
          clear hq1 hq2 hq3 hq4 hrc hra hcc
          have HX := Lib.hid (And.intro hS (And.intro hL (And.intro hH (And.intro hI (And.intro hn (And.intro hfu (And.intro hbs (And.intro hdj (And.intro hT hB)))))))))
          clear hS hL hH hI hn hfu hbs hdj hT hB hrm
          go_wp2_with fail
          refine hfw.mono ?_
          rintro e w6 ⟨uv, ins, rfl, hU, hUl, hB6⟩
          obtain ⟨hS, hL, hH, hI, hn, hfu, hbs, hdj, hT, hB⟩ := HX.out
          obtain ⟨f3, f100⟩ := fewL_len (recs.map (·.l)) 3 100
          rw [← hUl] at f3 f100
          have hi3 : ins.length ≤ 3 := by rw [List.length_map] at f3; exact f3
          have hi100 : ∀ z ∈ ins, z.l.length ≤ 100 := fun z hz => f100 z.l (List.mem_map_of_mem hz)
          have hiall : (allL (ins.map (·.l))).length ≤ 324 := by have := allL_le 100 _ f100; omega
          have hgU := hU.ge
          have hdU : ∀ k, msB uv ins k → ¬ bs k := fun k hk e => by have := hL.lt k e; have := hgU k hk; omega
          have e0 := (hB6.cell (p := ⟨g, o + i * 2, none⟩) (World.block_lt_of_cell? wr _ e0)).trans e0
          have HY := Lib.hid (And.intro (hU.mono hB.size) (And.intro (hS.keep hB6) (And.intro (hL.keep hB6) (And.intro hH (And.intro hI (And.intro hn (And.intro hfu (And.intro hbs (And.intro hdj (And.intro hdU (And.intro hT (hB.trans (hB6.mono hB.size)))))))))))))
          have HW6 := Lib.hid (HW.out.keep hB6)
          obtain ⟨uo, uc, rfl, hq1, hq2, hq3, hq4⟩ := id hU.msgs
          clear hq3 hq4 hU hUl hB6 hS hL hH hI hn hfu hbs hdj hT hB f3 f100 hgU hdU hfw e1 HX HW
          go_upto_if 68 with (fail)
          go_cut [10, 11, 12] (fun hvv tv av wx => ∃ (t a : Nat) (ys : List MsgD), tv = .int .i64 t ∧ av = .int .i64 a ∧ WS w wx lp p n hvv ys t a (1 + (i + 1)))
          case first =>
            cases rep with
            | true =>
              obtain ⟨hU, hS, hL, hH, hI, hn, hfu, hbs, hdj, hdU, hT, hB⟩ := HY.out
              have hrr := fun w => refRoom_any n w (by omega)
              by_cases hroom : (allL (ins.map (·.l))).length ≤ roomN n
              · have hrp := replace_st w6 hL hH hI _ ins hU.msgs (fun y hy => by have := hi100 y hy; omega) (by omega) (by show t + 1 ≤ _; omega) (by rw [hn]; exact hroom)
                clear hU hS hL hH hI hn hfu hbs hdj hdU hT hB
                go_wp2_with fail
                refine hrp.mono ?_
                intro e w7 hpr
                obtain ⟨hU, hS, hL, hH, hI, hn, hfu, hbs, hdj, hdU, hT, hB⟩ := HY.out
                obtain ⟨rfl, hW7⟩ := WS.of_put (T := 1 + (i + 1)) hpr hU hbs hdU hn hfu (by show t + 1 ≤ _; omega) hB
                have hat := fun w' (h : Below w7.heap.size w7 w') => refAll_any w' _ ins ((hW7.choose_spec.choose_spec.1.keep h).msgs) (fun y hy => by have := hi100 y hy; omega) (by omega) (by omega)
                have ha1 := hI.a1
                have HW7 := Lib.hid hW7
                clear hU hS hL hH hI hn hfu hbs hdj hdU hB hpr hrp hW7
                unfold strV at hat
                generalize hal : allL (ins.map (·.l)) = al at hat hroom
                have hrm : (al.length : Int) ≤ (roomN n : Nat) := by omega
                have hrl := roomN_le (n := n) (by omega)
                generalize roomN n = R at *
                clear hroom hal hiall hi100
                go_wp2_with fail
                refine (hat _ (Below.refl _ _)).mono ?_
                rintro e w8 ⟨rfl, hB8⟩
                go_wp2_with fail
                refine (hrr _).mono ?_
                rintro e w9 ⟨rfl, rfl⟩
                have HB8 := Lib.hid hB8
                clear hB8 hat hrr
                have ht0 : (0 : Int) ≤ t := Int.natCast_nonneg _
                have htb : (t : Int) ≤ 20 := by omega
                have ha0 : (0 : Int) ≤ a := Int.natCast_nonneg _
                have hab : (a : Int) ≤ 1 := by omega
                go_wp2_with fail
                go_meet
                exact ⟨t + 1, (a + 1) % 2, ins, by go_num, by rw [show (((a + 1) % 2 : Nat) : Int) = 1 - (a : Int) by omega], HW7.out.keep HB8.out⟩
              · have hrp := replace_full w6 hL hH hI _ ins hU.msgs (fun y hy => by have := hi100 y hy; omega) (by omega) (by show t + 1 ≤ _; omega) (by omega) (by rw [hn]; omega)
                clear hU hS hL hH hI hn hfu hbs hdj hdU hT hB
                go_wp2_with fail
                refine hrp.mono ?_
                rintro e w7 ⟨rfl, bs7, hL7, hE7⟩
                obtain ⟨hU, hS, hL, hH, hI, hn, hfu, hbs, hdj, hdU, hT, hB⟩ := HY.out
                obtain ⟨hbs7, hB7⟩ := hE7.own hbs hB (Nat.le_refl _)
                have hS7 := hS.only hE7.only (fun k hk e => hdj k hk e)
                have hU7 := hU.only hE7.only (fun k hk e => hdU k hk e)
                have hdj7 : ∀ k, msB u10 ys k → ¬ bs7 k := fun k hk e => (hE7.new k e).elim (hdj k hk) (fun e2 => by have := hS.lt k hk; omega)
                have hat := fun w' (h : Below w7.heap.size w7 w') => refAll_any w' _ ins ((hU7.keep h).msgs) (fun y hy => by have := hi100 y hy; omega) (by omega) (by omega)
                have hW7 : WS w w7 lp p n u10 ys t a (1 + i) := ⟨d, bs7, hS7, hL7, hH, hI, hn, hfu, hbs7, hdj7, hT, hB7⟩
                have HW7 := Lib.hid hW7
                clear hU hS hL hH hI hn hfu hbs hdj hdU hT hB hrp hW7 hS7 hU7 hdj7 hbs7 hB7 hL7 hE7
                unfold strV at hat
                generalize hal : allL (ins.map (·.l)) = al at hat hroom
                have hrm : ((roomN n : Nat) : Int) < (al.length : Int) := by omega
                generalize roomN n = R at *
                clear hroom hal hiall hi100
                go_wp2_with fail
                refine (hat _ (Below.refl _ _)).mono ?_
                rintro e w8 ⟨rfl, hB8⟩
                go_wp2_with fail
                refine (hrr _).mono ?_
                rintro e w9 ⟨rfl, rfl⟩
                have HB8 := Lib.hid hB8
                clear hB8 hat hrr
                go_wp2_with fail
                go_roundw
                case rel => exact ⟨i + 1, t, a, ys, rfl, rfl, by go_num, by omega, (HW7.out.keep HB8.out).le (by omega)⟩
                case measure => simp [intOf]; omega
            | false =>
              cases ins with
              | nil =>
                clear hiall hi3 hi100 HY
                go_wp2_with fail
                go_meet
                exact ⟨t, a, ys, rfl, rfl, HW6.out.le (by omega)⟩
              | cons z0 zt =>
                obtain ⟨hU, hS, hL, hH, hI, hn, hfu, hbs, hdj, hdU, hT, hB⟩ := HY.out
                have hrr := fun w => refRoom_any n w (by omega)
                have hl00 : (0 : Int) < (zt.length : Int) + 1 := by omega
                obtain ⟨g2, o2, rfl, hz0c, hb0⟩ : ∃ g2 o2, uo = some ⟨g2, o2, none⟩ ∧ w6.cell? ⟨g2, o2, none⟩ = some z0.v ∧ Bsl w6 z0.v z0.l := by
                  obtain ⟨ao', cap', he, h1, h2, hcs, hbb⟩ := hU.msgs
                  injection he with e1 e2 e3
                  obtain ⟨g2, o2, hg, hcc⟩ := hcs (by simp)
                  exact ⟨g2, o2, by rw [e1, hg], hcc 0 (by simp), hbb z0 (by simp)⟩
                have hz100 := hi100 z0 (by simp)
                obtain ⟨zo, zc, hzv, hq3, hq4, hq5, hq6⟩ := id hb0
                clear hq5 hq6
                rw [hzv] at hz0c hb0
                have hg2u : msB (.slice (some ⟨g2, o2, none⟩) (z0 :: zt).length uc) (z0 :: zt) g2 := .inl rfl
                have hg2l := hU.lt g2 hg2u
                have hg2b := hdU g2 hg2u
                have hz0b : z0.l ≠ [] → ∀ k, (Value.slice zo z0.l.length zc).ownBlock = some k → ¬ bs k := fun hne k hk => hdU k (.inr ⟨z0, by simp, hne, by rw [hzv]; exact hk⟩)
                have hcv6 := run_str _ hb0
                have hall := fun w' (h : MS w' w.heap.size u10 ys) => refAll_any w' _ ys h.msgs (fun y hy => by
                  have h1 := mem_allL (List.mem_map_of_mem (f := (·.l)) hy)
                  have h2 := hI.fit
                  have h3 := roomN_le hI.n100
                  omega) (by
                  have h1 := allL_count (ys.map (·.l))
                  rw [List.length_map] at h1
                  have h2 := hI.fit
                  rw [hn] at h2
                  have h3 : roomN n ≤ 448 := by unfold roomN areaN; split <;> omega
                  omega) (by have h2 := hI.fit; have h3 := roomN_le hI.n100; omega)
                have hrb := fun w => refRBytes_any z0.l w (by omega)
                have hrlz := recL_len z0.l
                have hbase : (allL (ys.map (·.l))).length ≤ 6400 := by have h2 := hI.fit; have h3 := roomN_le hI.n100; omega
                clear hiall hi3 hi100 e0
                by_cases hroom : roomN n < (allL (ys.map (·.l))).length + (z0.l.length + 8)
                · have hap := append_full w6 hL hH hI _ z0.l hb0 (by omega) (by rw [hn]; exact hroom)
                  have HZ := Lib.hid (And.intro hS (And.intro hb0 hz0c))
                  clear hU hS hL hH hI hn hfu hbs hdj hdU hT hB HY hb0
                  unfold strV at hall hrb
                  go_wp2_with fail
                  refine hap.mono ?_
                  rintro e w7 ⟨rfl, hB7⟩
                  obtain ⟨hS, hb0, hz0c⟩ := HZ.out
                  have hz0c := (hB7.cell (p := ⟨g2, o2, none⟩) hg2l).trans hz0c
                  have hcv7 := run_str _ (hb0.keep hB7)
                  have hA7 := hall w7 (hS.keep hB7)
                  have HW7 := Lib.hid (HW6.out.keep hB7)
                  clear hS hb0 hB7 hall hap hcv6 HZ
                  generalize allL (ys.map (·.l)) = al at *
                  generalize recL z0.l = rx at *
                  go_wp2_with fail
                  refine hA7.mono ?_
                  rintro e w8 ⟨rfl, hB8⟩
                  go_wp2_with fail
                  refine (hrb _).mono ?_
                  rintro e w9 ⟨rfl, hB9⟩
                  have HW9 := Lib.hid ((HW7.out.keep hB8).keep hB9)
                  have hrm : ((roomN n : Nat) : Int) < (al.length : Int) + ((z0.l.length : Int) + 8) := by omega
                  have hab1 : (al.length : Int) ≤ 6400 := by omega
                  have hzb1 : (z0.l.length : Int) ≤ 100 := by omega
                  generalize roomN n = R at *
                  clear hB8 hB9 hA7 hcv7 hroom hbase hz100 hz0b hg2b
                  go_wp2_with fail
                  refine (hrr _).mono ?_
                  rintro e w10 ⟨rfl, rfl⟩
                  go_wp2_with fail
                  go_roundw
                  case rel => exact ⟨i + 1, t, a, ys, rfl, rfl, by go_num, by omega, HW9.out.le (by omega)⟩
                  case measure => simp [intOf]; omega
                · have hap := append_st w6 hL hH hI _ z0.l hb0 (by omega) (by show t + 1 ≤ _; omega) (by rw [hn]; show (allL (ys.map (·.l))).length + _ ≤ _; omega)
                  have HZ := Lib.hid (And.intro hS (And.intro hb0 (And.intro hz0c (And.intro hn (And.intro hfu (And.intro hbs (And.intro hdj (And.intro hT hB))))))))
                  clear hU hS hL hH hI hn hfu hbs hdj hdU hT hB HY hb0 HW6
                  unfold strV at hall hrb
                  go_wp2_with fail
                  refine hap.mono ?_
                  rintro e w7 ⟨d7, bs7, hE7, hn7, hc7⟩
                  obtain ⟨hS, hb0, hz0c, hn, hfu, hbs, hdj, hT, hB⟩ := HZ.out
                  rcases hc7 with ⟨rfl, hL7, hH7, hI7, hf7⟩ | ⟨_, _, _, h0, _⟩
                  · obtain ⟨hbs7, hB7⟩ := hE7.own hbs hB (Nat.le_refl _)
                    have hz0c := (hE7.only.cell (p := ⟨g2, o2, none⟩) hg2l hg2b).trans hz0c
                    have hb7 := hb0.only' hE7.only hz0b
                    have hS7 := hS.only hE7.only (fun k hk e => hdj k hk e)
                    have hdj7 : ∀ k, msB u10 ys k → ¬ bs7 k := fun k hk e => (hE7.new k e).elim (hdj k hk) (fun e2 => by have := hS.lt k hk; omega)
                    have hcv7 := run_str _ hb7
                    have hA7 := hall w7 hS7
                    have HV := Lib.hid (And.intro hS7 (And.intro hL7 (And.intro hH7 (And.intro hI7 (And.intro (hf7 hfu) (And.intro (hn7.trans hn) (And.intro hbs7 (And.intro hdj7 (And.intro hT hB7)))))))))
                    clear hS hb0 hn hfu hbs hdj hT hB hS7 hL7 hH7 hI7 hf7 hn7 hbs7 hdj7 hB7 hE7 hb7 hall hap hcv6 HZ
                    generalize hal : allL (ys.map (·.l)) = al at hA7 hroom hbase
                    generalize hrx : recL z0.l = rx at hrb hrlz
                    have HAL := Lib.hid (And.intro hal hrx)
                    clear hal hrx
                    go_wp2_with fail
                    refine hA7.mono ?_
                    rintro e w8 ⟨rfl, hB8⟩
                    go_wp2_with fail
                    refine (hrb _).mono ?_
                    rintro e w9 ⟨rfl, hB9⟩
                    have hB79 : Below w7.heap.size w7 w9 := hB8.trans (hB9.mono hB8.size)
                    have hrm : (al.length : Int) + ((z0.l.length : Int) + 8) ≤ ((roomN n : Nat) : Int) := by omega
                    have hab1 : (al.length : Int) ≤ 6400 := by omega
                    have hzb1 : (z0.l.length : Int) ≤ 100 := by omega
                    generalize roomN n = R at *
                    clear hB8 hB9 hA7 hcv7 hroom hbase hz0b hg2b
                    go_wp2_with fail
                    refine (hrr _).mono ?_
                    rintro e w10 ⟨rfl, rfl⟩
                    go_upto_region 30 with (fail)
                    obtain ⟨hS7, hL7, hH7, hI7, hf7, hn7, hbs7, hdj7, hT7, hB7⟩ := HV.out
                    have htb : (t : Int) ≤ 20 := by omega
                    have hS9 := hS7.keep hB79
                    have hyl : ys.length ≤ 6400 := by
                      have h1 := allL_count (ys.map (·.l))
                      rw [HAL.out.1, List.length_map] at h1
                      omega
                    have hone : ∀ u ∈ (ys.map msgC).flatten, u.oneCell' = true := by
                      rw [map_msgC_flat]
                      intro u hu
                      obtain ⟨y, hy, rfl⟩ := List.mem_map.1 hu
                      obtain ⟨ya, yc, he, _⟩ := (hS9.2 y hy).1
                      rw [he]; rfl
                    have hA : Below w9.heap.size w9 (w9.alloc (.cells #[] 37)) := (Below.refl _ _).alloc (Nat.le_refl _) _
                    have hr0 : RW (w9.alloc (.cells #[] 37)) w9.heap.size 37 1 (.slice (some ⟨w9.heap.size, 0, none⟩) 0 0) [] := ⟨World.ownsRow_lit (base := w9.heap.size) (e := 37) (size := 1) w9 #[] 0 (Nat.le_refl _) (by unfold maxLen; omega) rfl, by intro r hr; cases hr⟩
                    have hsr : Src (w9.alloc (.cells #[] 37)) 1 u10 (ys.map msgC) := (hS9.1.src hone).keep hA
                    have hlm1 : ([] : List (List Value)).length + (ys.map msgC).length ≤ 100000000 := by rw [List.length_map]; simp; omega
                    have hlm2 : ([] ++ ys.map msgC).length + 1 ≤ 100000000 := by rw [List.nil_append, List.length_map]; omega
                    have hge1 := hA.size
                    obtain ⟨it, zz, hti, htz, hzc, hsz1, hby⟩ := Try.msg_parts
                    obtain ⟨so2, sc2, hsv, hq7, hq8, hq9⟩ := id hS7.1.val
                    clear hq7 hq8 hq9
                    have HS9 := Lib.hid hS9
                    have HA := Lib.hid hA
                    have HSV := Lib.hid hsv
                    clear hS7 hL7 hH7 hI7 hf7 hn7 hbs7 hdj7 hT7 hB7 hS9 hyl hone hA hsv
                    go_wp2_with (at_builtin; refine wp_appsv rfl _ _ 22 rfl it zz Try.underlying22 hti htz hsz1 hby hzc (by omega) hr0 hsr hlm1 hge1 (by rfl) (by rfl) ?_)
                    intro v10 w10 hr10 hg10 hn10
                    have hB10 : Below w9.heap.size w9 w10 := Below.grown HA.out hg10 HA.out.size hr0.own_ge
                    obtain ⟨cp, w11, hcvt, hbw, hB11, hlt11⟩ := conv_bytes w10 z0.l (by omega)
                    have hR : Below w11.heap.size w11 (w11.alloc (.cells #[.slice (some ⟨w10.heap.size, 0, none⟩) z0.l.length cp] 37)) := (Below.refl _ _).alloc (Nat.le_refl _) _
                    have hrA := (hr10.keep hB11).keep hR
                    have hsrcA : RW (w11.alloc (.cells #[.slice (some ⟨w10.heap.size, 0, none⟩) z0.l.length cp] 37)) 0 37 1 (.slice (some ⟨w11.heap.size, 0, none⟩) 1 1) [[.slice (some ⟨w10.heap.size, 0, none⟩) z0.l.length cp]] := ⟨World.ownsRow_lit _ _ 1 (Nat.zero_le _) (by unfold maxLen; omega) rfl, by intro q hq; rw [List.mem_singleton.1 hq]; rfl⟩
                    have hB9R : Below w9.heap.size w9 (w11.alloc (.cells #[.slice (some ⟨w10.heap.size, 0, none⟩) z0.l.length cp] 37)) := (hB10.trans (hB11.mono hB10.size)).trans (hR.mono (Nat.le_trans hB10.size hB11.size))
                    have hbR := hB9R.size
                    have h10lt := hr10.own_lt
                    have HC := Lib.hid (And.intro hbw (And.intro hB10 (And.intro hB11 (And.intro hR (And.intro hB9R (And.intro hlt11 h10lt))))))
                    clear hbw hB10 hB11 hR hB9R hlt11 h10lt hr10 hg10 hn10 hr0 hsr
                    go_wp2_with (at_builtin; refine wp_apprs rfl _ _ 22 rfl it zz Try.underlying22 hti htz hsz1 hby hzc (by omega) hrA hsrcA rfl (by intro u hu; simp at hu; subst hu; rfl) hlm2 hbR (by rfl) (by rfl) ?_)
                    intro v12 w12 hr12 hg12 hn12 hnil12
                    have hWF : WS w w12 lp p n v12 (ys ++ [⟨.slice (some ⟨w10.heap.size, 0, none⟩) z0.l.length cp, z0.l⟩]) (t + 1) a (1 + (i + 1)) := by
                      obtain ⟨hS7, hL7, hH7, hI7, hf7, hn7, hbs7, hdj7, hT7, hB7⟩ := HV.out
                      obtain ⟨hbw, hB10, hB11, hR, hB9R, hlt11, h10lt⟩ := HC.out
                      have hB9 : Below w9.heap.size w9 w12 := Below.grown hB9R hg12 hbR hrA.own_ge
                      have hB712 := hB79.trans (hB9.mono hB79.size)
                      have hbase2 : w.heap.size ≤ w9.heap.size := Nat.le_trans hB7.size hB79.size
                      have hbq : allL ((ys ++ [(⟨.slice (some ⟨w10.heap.size, 0, none⟩) z0.l.length cp, z0.l⟩ : MsgD)]).map (·.l)) = allL (ys.map (·.l)) ++ recL z0.l := by rw [List.map_append, allL_append]; simp [allL]
                      have hown : ∀ k, (Value.slice (some ⟨w10.heap.size, 0, none⟩) z0.l.length cp).ownBlock = some k → w9.heap.size ≤ k ∧ k < w11.heap.size := fun k hk => by
                        have h5 : w10.heap.size = k := Option.some.inj hk
                        have h6 := hB10.size
                        exact ⟨by omega, by omega⟩
                      refine ⟨d7, bs7, ⟨?_, fun y hy => ?_⟩, by rw [hbq]; exact hL7.keep hB712, hH7, by rw [hbq]; exact hI7, hn7, hf7, hbs7, fun k hk e => ?_, by omega, hB7.trans (hB712.mono hB7.size)⟩
                      · have h1 := hr12.mono hbase2
                        rw [List.map_append]; exact h1
                      · rcases List.mem_append.1 hy with hy | hy
                        · exact ((HS9.out.keep hB9).2 y hy)
                        · rw [List.mem_singleton.1 hy]
                          refine ⟨(hbw.keep hR).only' (Only.of_grown (S := fun q => v10.ownBlock = some q) hg12 (fun q h => h)) (fun hne k hk e => ?_), fun hne k hk => Nat.le_trans hbase2 (hown k hk).1⟩
                          have h5 : w10.heap.size = k := Option.some.inj hk
                          have := h10lt k e
                          omega
                      · have hlt := hL7.lt k e
                        have hs79 := hB79.size
                        rcases hk with hk | ⟨y, hy, hne, hk⟩
                        · have := hr12.own_ge k hk; omega
                        · rcases List.mem_append.1 hy with hy | hy
                          · exact hdj7 k (.inr ⟨y, hy, hne, hk⟩) e
                          · rw [List.mem_singleton.1 hy] at hne hk
                            have := (hown k hk).1; omega
                    have HWF := Lib.hid hWF
                    clear hWF hr12 hg12 hn12 hnil12 hrA hsrcA hbR hcvt HC HV HS9 HA HSV
                    have ht0 : (0 : Int) ≤ t := Int.natCast_nonneg _
                    go_wp2_with fail
                    go_meet
                    exact ⟨t + 1, a, _, by go_num, rfl, HWF.out⟩
                  · omega
          case rest =>
            obtain ⟨t, a, ys, rfl, rfl, hW⟩ := hcut
            clear HY HW6 hiall hi3 hi100 e0
            have HW := Lib.hid hW
            obtain ⟨d, bs, hS, hL, hH, hI, hn, hfu, hbs, hdj, hT, hB⟩ := hW
            obtain ⟨dsi, hD, hdsi, hstx⟩ := hL.disk
            have hok : d.Ok n 0 := ⟨hn, by rw [hH.fast]; exact hn, by rw [hH.loose]; simp, by rw [hH.loose]; simp, hH.sec, by rw [hH.fast]; exact hH.sec, hH.fuse.1⟩
            have him := dimage_any wc hD hok (by omega) (by omega)
            have hlen : d.now.flatten.length = n * 64 := by rw [flat64 _ hH.sec, hn]
            have ha1 := hI.a1
            generalize hF : d.now.flatten = F at him hlen
            have HX := Lib.hid (And.intro hS (And.intro hL (And.intro hH (And.intro hI (And.intro hn (And.intro hT hF))))))
            clear hS hL hH hI hn hfu hbs hdj hT hB hF hD hstx hdsi hok
            go_wp2_with fail
            refine him.mono ?_
            rintro e w1 ⟨iv, rfl, hov, hB1⟩
            have hcv := run_str _ hov.bsl
            clear him
            obtain ⟨hS, hL, hH, hI, hn, hT, hF⟩ := HX.out
            have hall := fun w' (h : MS w' w.heap.size u10 ys) => refAll_any w' _ ys h.msgs (fun y hy => by
                have h1 := mem_allL (List.mem_map_of_mem (f := (·.l)) hy)
                have h2 := hI.fit
                have h3 := roomN_le hI.n100
                omega) (by
                have h1 := allL_count (ys.map (·.l))
                rw [List.length_map] at h1
                have h2 := hI.fit
                rw [hn] at h2
                have h3 : roomN n ≤ 448 := by unfold roomN areaN; split <;> omega
                omega) (by have h2 := hI.fit; have h3 := roomN_le hI.n100; omega)
            have hA1 := hall w1 (hS.keep hB1)
            unfold strV at hA1
            generalize hal : allL (ys.map (·.l)) = al at hA1
            have halR : al.length ≤ roomN n := by rw [← hal, ← hn]; exact hI.fit
            have hrr := fun w => refRoom_any n w (by omega)
            obtain ⟨hATw0, hATn0, hR448⟩ := at_fact n a hn4 hn1 ha1
            obtain ⟨AT, hAT⟩ : ∃ AT : Nat, AT = 128 + a * roomN n := ⟨_, rfl⟩
            rw [← hAT] at hATw0 hATn0
            have hATn : AT + al.length ≤ n * 64 := Nat.le_trans (Nat.add_le_add_left halR _) hATn0
            generalize hRR : roomN n = R at hATw0 hrr hR448
            have HRR := Lib.hid hRR
            clear hATn0 hRR
            have HAL := Lib.hid (And.intro hal (And.intro hAT halR))
            clear hS hL hH hI hn hT hF hall hov hal hAT halR
            go_wp2_with fail
            refine hA1.mono ?_
            rintro e w2 ⟨rfl, hB2⟩
            have hB12 := hB1.trans (hB2.mono hB1.size)
            clear hA1 hcv hB1 hB2
            go_wp2_with fail
            refine (hrr _).mono ?_
            rintro e w3 ⟨rfl, rfl⟩
            go_upto_region 34 with (fail)
            --REGION34
            obtain ⟨hS, hL, hH, hI, hn, hT, hF⟩ := HX.out
            obtain ⟨hal, hAT, halR⟩ := HAL.out
            have hR := HRR.out
            rw [hATw0]
            clear hATw0
            have htb : t ≤ 20 := by omega
            obtain ⟨tm, htm, htm3, htm1⟩ := tm_fact t
            have hHb : tm * 64 + 64 ≤ n * 64 := by omega
            have hAb : AT + al.length ≤ 100000 := by omega
            have hRb : al.length ≤ R := by rw [← hR]; exact halR
            have hRb2 : R ≤ 100000 := by omega
            obtain ⟨LO, hLO0⟩ : ∃ LO : Nat, tm * 64 = LO := ⟨_, rfl⟩
            obtain ⟨HI, hHI0⟩ : ∃ HI : Nat, LO + 64 = HI := ⟨_, rfl⟩
            obtain ⟨A2, hA20⟩ : ∃ A2 : Nat, AT + al.length = A2 := ⟨_, rfl⟩
            obtain ⟨RL, hRL0⟩ : ∃ RL : Nat, R - al.length = RL := ⟨_, rfl⟩
            have hLH : LO ≤ HI := by omega
            have hHn2 : HI ≤ n * 64 := by omega
            have hHn : (HI : Int) ≤ (n : Int) * 64 := by omega
            have hA2l : AT ≤ A2 := by omega
            have hA2n2 : A2 ≤ n * 64 := by omega
            have hA2n : (A2 : Int) ≤ (n : Int) * 64 := by omega
            have hexH : (⟨F.toArray⟩ : ByteArray).extract LO HI = ⟨(secT (headL t a al.length)).toArray⟩ := by
              have hhd := hI.head
              rw [hal, htm] at hhd
              rw [str_sub, ← hHI0, ← hF, sec_of hH.sec hhd hLO0.symm]
            have hexA : (⟨F.toArray⟩ : ByteArray).extract AT A2 = ⟨al.toArray⟩ := by
              have harea := hI.has.area hH.sec
              rw [hal] at harea
              rw [str_sub, ← hA20, ← hF, hAT, ← hn, area_of hH.sec, harea]
            have hhd := fun w => refHead_any t a al.length w (by omega) (by omega) (by omega)
            have hLk := fun w' (h : Below wc.heap.size wc w') => hL.keep h
            have htn := fun w' (h : Below wc.heap.size wc w') => lturn_any w' (hLk w' h)
            have hlf := fun w' (h : Below wc.heap.size wc w') => lleft_any w' (hLk w' h) hH.n100 (by show (allL (ys.map (·.l))).length ≤ _; rw [hal]; omega)
            have hlv : leftN d ⟨t, a, allL (ys.map (·.l))⟩ = (RL : Int) := by
              unfold leftN
              rw [hn, hR]
              show (R : Int) - ((allL (ys.map (·.l))).length : Int) = _
              rw [hal, ← hRL0]; omega
            rw [hlv] at hlf
            have hdl : ∀ w', Below wc.heap.size wc w' → Calls Try.prog 28 #[.pointer (some ⟨p, 0, none⟩)] w' fun e w2 => e = .returned (.int .i64 0) ∧ w' = w2 := fun w' h => by
              obtain ⟨dsx, hDx, _, _⟩ := (hLk w' h).disk
              have h1 := dloose_any w' hDx
              rw [hH.loose] at h1
              exact h1
            have hBd : Below wc.heap.size wc w2.drew := hB12.drew
            unfold strV at hhd
            generalize secT (headL t a al.length) = hds at *
            have hLO : IntKind.i64.wrap ((tm : Int) * 64) = (LO : Int) := by rw [← hLO0]; exact wr_mul tm (Nat.le_trans (Nat.le_of_lt htm3) (by decide))
            have hHI : IntKind.i64.wrap ((LO : Int) + 64) = (HI : Int) := by rw [← hHI0]; exact wr_add64 LO (Nat.le_trans (Nat.le_trans (Nat.le_add_right _ _) (Nat.le_trans (Nat.le_of_eq hHI0) hHn2)) (Nat.le_trans (Nat.mul_le_mul_right 64 hn1) (by decide)))
            have hA2 : IntKind.i64.wrap ((AT : Int) + (al.length : Int)) = (A2 : Int) := by rw [← hA20]; exact wr_add AT al.length hAb
            have hRL : IntKind.i64.wrap ((R : Int) - (al.length : Int)) = (RL : Int) := by rw [← hRL0]; exact wr_sub R al.length hRb hRb2
            clear hS hL hH hI hn hT hF hal hAT halR hR htm htb hHb hAb hRb hRb2 hLO0 hHI0 hA20 hRL0 hLk hlv hATn  ha1
            refine wp_region_any (by kernel_rfl) ?_
            change wpAny _ _ _ _ _ _ _ (World.drew _)
            refine wpAny_take (i := 0) (v := ?v_c0) rfl (by kernel_rfl) (by kernel_rfl) (by kernel_rfl) (fun _ _ _ h => h) (Or.inl ⟨by kernel_rfl, ?y_c0⟩) ?r_c0
            case y_c0 => intro w; go_simp; try with_reducible rfl
            case' r_c0 => skip
            refine wpAny_take (i := 1) (v := ?v_c1) rfl (by kernel_rfl) (by kernel_rfl) (by kernel_rfl) (fun _ _ _ h => h) (Or.inl ⟨by kernel_rfl, ?y_c1⟩) ?r_c1
            case y_c1 => intro w; go_simp; try with_reducible rfl
            case' r_c1 => skip
            refine wpAny_take (i := 2) (v := ?v_c2) rfl (by kernel_rfl) (by kernel_rfl) (by kernel_rfl) (fun _ _ _ h => h) (Or.inl ⟨by kernel_rfl, ?y_c2⟩) ?r_c2
            case y_c2 => intro w; go_simp; try with_reducible rfl
            case' r_c2 => skip
            refine wpAny_take (i := 3) (v := ?v_c3) rfl (by kernel_rfl) (by kernel_rfl) (by kernel_rfl) (fun _ _ _ h => h) (Or.inl ⟨by kernel_rfl, ?y_c3⟩) ?r_c3
            case y_c3 => intro w; go_simp; try with_reducible rfl
            case' r_c3 => skip
            refine wpAny_take (i := 4) (v := ?v_c4) rfl (by kernel_rfl) (by kernel_rfl) (by kernel_rfl) (fun _ _ _ h => h) (Or.inl ⟨by kernel_rfl, ?y_c4⟩) ?r_c4
            case y_c4 => intro w; go_simp; try with_reducible rfl
            case' r_c4 => skip
            refine wpAny_take (i := 5) (v := ?v_c5) rfl (by kernel_rfl) (by kernel_rfl) (by kernel_rfl) (fun _ _ _ h => h) (Or.inl ⟨by kernel_rfl, ?y_c5⟩) ?r_c5
            case y_c5 => intro w; go_simp; try with_reducible rfl
            case' r_c5 => skip
            refine wpAny_take (i := 6) (v := ?v_c6) rfl (by kernel_rfl) (by kernel_rfl) (by kernel_rfl) (fun _ _ _ h => h) (Or.inl ⟨by kernel_rfl, ?y_c6⟩) ?r_c6
            case y_c6 => intro w; go_simp; try with_reducible rfl
            case' r_c6 => skip
            refine wpAny_take (i := 7) (v := ?v_c7) rfl (by kernel_rfl) (by kernel_rfl) (by kernel_rfl) (fun _ _ _ h => h) (Or.inl ⟨by kernel_rfl, ?y_c7⟩) ?r_c7
            case y_c7 => intro w; go_simp; try with_reducible rfl
            case' r_c7 => skip
            refine wpAny_take (i := 8) (v := ?v_c8) rfl (by kernel_rfl) (by kernel_rfl) (by kernel_rfl) (fun _ _ _ h => h) (Or.inl ⟨by kernel_rfl, ?y_c8⟩) ?r_c8
            case y_c8 => intro w; go_simp; try with_reducible rfl
            case' r_c8 => skip
            refine wpAny_take (i := 9) (v := ?v_c9) rfl (by kernel_rfl) (by kernel_rfl) (by kernel_rfl) (fun _ _ _ h => h) (Or.inl ⟨by kernel_rfl, ?y_c9⟩) ?r_c9
            case y_c9 => intro w; go_simp; try with_reducible rfl
            case' r_c9 => skip
            refine wpAny_take (i := 10) (v := ?v_c10) rfl (by kernel_rfl) (by kernel_rfl) (by kernel_rfl) (fun _ _ _ h => h) (Or.inl ⟨by kernel_rfl, ?y_c10⟩) ?r_c10
            case y_c10 => intro w; go_simp; try with_reducible rfl
            case' r_c10 => skip
            refine wpAny_take (i := 11) (v := ?v_c11) rfl (by kernel_rfl) (by kernel_rfl) (by kernel_rfl) (fun _ _ _ h => h) (Or.inl ⟨by kernel_rfl, ?y_c11⟩) ?r_c11
            case y_c11 => intro w; go_simp; try with_reducible rfl
            case' r_c11 => skip
            refine wpAny_take (i := 12) (v := ?v_c12) rfl (by kernel_rfl) (by kernel_rfl) (by kernel_rfl) (fun _ _ _ h => h) (Or.inl ⟨by kernel_rfl, ?y_c12⟩) ?r_c12
            case y_c12 => intro w; go_simp; try with_reducible rfl
            case' r_c12 => skip
            refine wpAny_ready (rs := [13]) (by kernel_rfl) (by simp) ?_
            refine AllReady.cons rfl (fun KA hKA => ?_) AllReady.nil
            rw [if_pos (by kernel_rfl)]
            go_simp; go_at_call 27; refine (hhd _).mono ?_; rintro e w4 ⟨rfl, hB4⟩
            try go_simp
            refine hKA _ _ ?_
            clear hKA KA
            have hB14 : Below wc.heap.size wc w4 := hBd.trans (hB4.mono hBd.size)
            refine wpAny_take (i := 14) (v := ?v_c14) rfl (by kernel_rfl) (by kernel_rfl) (by kernel_rfl) (fun _ _ _ h => h) (Or.inl ⟨by kernel_rfl, ?y_c14⟩) ?r_c14
            case y_c14 => intro w; go_simp; try with_reducible rfl
            case' r_c14 => skip
            refine wpAny_take (i := 15) (v := ?v_c15) rfl (by kernel_rfl) (by kernel_rfl) (by kernel_rfl) (fun _ _ _ h => h) (Or.inl ⟨by kernel_rfl, ?y_c15⟩) ?r_c15
            case y_c15 => intro w; go_simp; try with_reducible rfl
            case' r_c15 => skip
            refine wpAny_take (i := 16) (v := ?v_c16) rfl (by kernel_rfl) (by kernel_rfl) (by kernel_rfl) (fun _ _ _ h => h) (Or.inl ⟨by kernel_rfl, ?y_c16⟩) ?r_c16
            case y_c16 => intro w; go_simp; try with_reducible rfl
            case' r_c16 => skip
            refine wpAny_take (i := 17) (v := ?v_c17) rfl (by kernel_rfl) (by kernel_rfl) (by kernel_rfl) (fun _ _ _ h => h) (Or.inl ⟨by kernel_rfl, ?y_c17⟩) ?r_c17
            case y_c17 => intro w; go_simp; try with_reducible rfl
            case' r_c17 => skip
            refine wpAny_take (i := 18) (v := ?v_c18) rfl (by kernel_rfl) (by kernel_rfl) (by kernel_rfl) (fun _ _ _ h => h) (Or.inl ⟨by kernel_rfl, ?y_c18⟩) ?r_c18
            case y_c18 => intro w; go_simp; try with_reducible rfl
            case' r_c18 => skip
            refine wpAny_take (i := 19) (v := ?v_c19) rfl (by kernel_rfl) (by kernel_rfl) (by kernel_rfl) (fun _ _ _ h => h) (Or.inl ⟨by kernel_rfl, ?y_c19⟩) ?r_c19
            case y_c19 => intro w; go_simp; try with_reducible rfl
            case' r_c19 => skip
            refine wpAny_take (i := 20) (v := ?v_c20) rfl (by kernel_rfl) (by kernel_rfl) (by kernel_rfl) (fun _ _ _ h => h) (Or.inl ⟨by kernel_rfl, ?y_c20⟩) ?r_c20
            case y_c20 => intro w; go_simp; try with_reducible rfl
            case' r_c20 => skip
            refine wpAny_take (i := 21) (v := ?v_c21) rfl (by kernel_rfl) (by kernel_rfl) (by kernel_rfl) (fun _ _ _ h => h) (Or.inl ⟨by kernel_rfl, ?y_c21⟩) ?r_c21
            case y_c21 => intro w; go_simp; try with_reducible rfl
            case' r_c21 => skip
            refine wpAny_take (i := 22) (v := ?v_c22) rfl (by kernel_rfl) (by kernel_rfl) (by kernel_rfl) (fun _ _ _ h => h) (Or.inl ⟨by kernel_rfl, ?y_c22⟩) ?r_c22
            case y_c22 => intro w; go_simp; try with_reducible rfl
            case' r_c22 => skip
            refine wpAny_take (i := 23) (v := ?v_c23) rfl (by kernel_rfl) (by kernel_rfl) (by kernel_rfl) (fun _ _ _ h => h) (Or.inl ⟨by kernel_rfl, ?y_c23⟩) ?r_c23
            case y_c23 => intro w; go_simp; try with_reducible rfl
            case' r_c23 => skip
            refine wpAny_take (i := 24) (v := ?v_c24) rfl (by kernel_rfl) (by kernel_rfl) (by kernel_rfl) (fun _ _ _ h => h) (Or.inl ⟨by kernel_rfl, ?y_c24⟩) ?r_c24
            case y_c24 => intro w; go_simp; try with_reducible rfl
            case' r_c24 => skip
            refine wpAny_take (i := 25) (v := ?v_c25) rfl (by kernel_rfl) (by kernel_rfl) (by kernel_rfl) (fun _ _ _ h => h) (Or.inl ⟨by kernel_rfl, ?y_c25⟩) ?r_c25
            case y_c25 => intro w; go_simp; try with_reducible rfl
            case' r_c25 => skip
            refine wpAny_take (i := 26) (v := ?v_c26) rfl (by kernel_rfl) (by kernel_rfl) (by kernel_rfl) (fun _ _ _ h => h) (Or.inl ⟨by kernel_rfl, ?y_c26⟩) ?r_c26
            case y_c26 => intro w; go_simp; try with_reducible rfl
            case' r_c26 => skip
            refine wpAny_take (i := 27) (v := ?v_c27) rfl (by kernel_rfl) (by kernel_rfl) (by kernel_rfl) (fun _ _ _ h => h) (Or.inl ⟨by kernel_rfl, ?y_c27⟩) ?r_c27
            case y_c27 => intro w; go_simp; try with_reducible rfl
            case' r_c27 => skip
            refine wpAny_take (i := 29) (v := ?v_c29) rfl (by kernel_rfl) (by kernel_rfl) (by kernel_rfl) (fun _ _ _ h => h) (Or.inl ⟨by kernel_rfl, ?y_c29⟩) ?r_c29
            case y_c29 => intro w; go_simp; try with_reducible rfl
            case' r_c29 => skip
            refine wpAny_ready (rs := [28]) (by kernel_rfl) (by simp) ?_
            refine AllReady.cons rfl (fun KB hKB => ?_) AllReady.nil
            rw [if_pos (by kernel_rfl)]
            go_simp; go_at_call 25; refine (htn _ hB14).mono ?_; rintro e w5 ⟨rfl, rfl⟩
            try go_simp
            refine hKB _ _ ?_
            clear hKB KB
            refine wpAny_take (i := 30) (v := ?v_c30) rfl (by kernel_rfl) (by kernel_rfl) (by kernel_rfl) (fun _ _ _ h => h) (Or.inl ⟨by kernel_rfl, ?y_c30⟩) ?r_c30
            case y_c30 => intro w; go_simp; try with_reducible rfl
            case' r_c30 => skip
            refine wpAny_take (i := 31) (v := ?v_c31) rfl (by kernel_rfl) (by kernel_rfl) (by kernel_rfl) (fun _ _ _ h => h) (Or.inl ⟨by kernel_rfl, ?y_c31⟩) ?r_c31
            case y_c31 => intro w; go_simp; try with_reducible rfl
            case' r_c31 => skip
            refine wpAny_take (i := 32) (v := ?v_c32) rfl (by kernel_rfl) (by kernel_rfl) (by kernel_rfl) (fun _ _ _ h => h) (Or.inl ⟨by kernel_rfl, ?y_c32⟩) ?r_c32
            case y_c32 => intro w; go_simp; try with_reducible rfl
            case' r_c32 => skip
            refine wpAny_take (i := 33) (v := ?v_c33) rfl (by kernel_rfl) (by kernel_rfl) (by kernel_rfl) (fun _ _ _ h => h) (Or.inl ⟨by kernel_rfl, ?y_c33⟩) ?r_c33
            case y_c33 => intro w; go_simp; try with_reducible rfl
            case' r_c33 => skip
            refine wpAny_take (i := 35) (v := ?v_c35) rfl (by kernel_rfl) (by kernel_rfl) (by kernel_rfl) (fun _ _ _ h => h) (Or.inl ⟨by kernel_rfl, ?y_c35⟩) ?r_c35
            case y_c35 => intro w; go_simp; try with_reducible rfl
            case' r_c35 => skip
            refine wpAny_take (i := 37) (v := ?v_c37) rfl (by kernel_rfl) (by kernel_rfl) (by kernel_rfl) (fun _ _ _ h => h) (Or.inl ⟨by kernel_rfl, ?y_c37⟩) ?r_c37
            case y_c37 => intro w; go_simp; try with_reducible rfl
            case' r_c37 => skip
            refine wpAny_take (i := 38) (v := ?v_c38) rfl (by kernel_rfl) (by kernel_rfl) (by kernel_rfl) (fun _ _ _ h => h) (Or.inl ⟨by kernel_rfl, ?y_c38⟩) ?r_c38
            case y_c38 => intro w; go_simp; try with_reducible rfl
            case' r_c38 => skip
            refine wpAny_ready (rs := [34]) (by kernel_rfl) (by simp) ?_
            refine AllReady.cons rfl (fun KC hKC => ?_) AllReady.nil
            rw [if_pos (by kernel_rfl)]
            go_simp; go_at_call 19; refine (hlf _ hB14).mono ?_; rintro e w6 ⟨rfl, hB6⟩
            try go_simp
            refine hKC _ _ ?_
            clear hKC KC
            have hB16 := hB14.trans (hB6.mono hB14.size)
            refine wpAny_ready (rs := [36]) (by kernel_rfl) (by simp) ?_
            refine AllReady.cons rfl (fun KD hKD => ?_) AllReady.nil
            rw [if_pos (by kernel_rfl)]
            go_simp; go_at_call 13; refine (hrr _).mono ?_; rintro e w7 ⟨rfl, rfl⟩
            try go_simp
            refine hKD _ _ ?_
            clear hKD KD
            refine wpAny_take (i := 39) (v := ?v_c39) rfl (by kernel_rfl) (by kernel_rfl) (by kernel_rfl) (fun _ _ _ h => h) (Or.inl ⟨by kernel_rfl, ?y_c39⟩) ?r_c39
            case y_c39 => intro w; go_simp; try with_reducible rfl
            case' r_c39 => skip
            refine wpAny_take (i := 40) (v := ?v_c40) rfl (by kernel_rfl) (by kernel_rfl) (by kernel_rfl) (fun _ _ _ h => h) (Or.inl ⟨by kernel_rfl, ?y_c40⟩) ?r_c40
            case y_c40 => intro w; go_simp; try with_reducible rfl
            case' r_c40 => skip
            refine wpAny_take (i := 41) (v := ?v_c41) rfl (by kernel_rfl) (by kernel_rfl) (by kernel_rfl) (fun _ _ _ h => h) (Or.inl ⟨by kernel_rfl, ?y_c41⟩) ?r_c41
            case y_c41 => intro w; go_simp; try with_reducible rfl
            case' r_c41 => skip
            refine wpAny_take (i := 42) (v := ?v_c42) rfl (by kernel_rfl) (by kernel_rfl) (by kernel_rfl) (fun _ _ _ h => h) (Or.inl ⟨by kernel_rfl, ?y_c42⟩) ?r_c42
            case y_c42 => intro w; go_simp; try with_reducible rfl
            case' r_c42 => skip
            refine wpAny_take (i := 43) (v := ?v_c43) rfl (by kernel_rfl) (by kernel_rfl) (by kernel_rfl) (fun _ _ _ h => h) (Or.inl ⟨by kernel_rfl, ?y_c43⟩) ?r_c43
            case y_c43 => intro w; go_simp; try with_reducible rfl
            case' r_c43 => skip
            refine wpAny_ready (rs := [44]) (by kernel_rfl) (by simp) ?_
            refine AllReady.cons rfl (fun KE hKE => ?_) AllReady.nil
            rw [if_pos (by kernel_rfl)]
            go_simp; go_at_call 28; refine (hdl _ hB16).mono ?_; rintro e w8 ⟨rfl, rfl⟩
            try go_simp
            refine hKE _ _ ?_
            clear hKE KE
            refine wpAny_take (i := 45) (v := ?v_c45) rfl (by kernel_rfl) (by kernel_rfl) (by kernel_rfl) (fun _ _ _ h => h) (Or.inl ⟨by kernel_rfl, ?y_c45⟩) ?r_c45
            case y_c45 => intro w; go_simp; try with_reducible rfl
            case' r_c45 => skip
            refine wpAny_take (i := 46) (v := ?v_c46) rfl (by kernel_rfl) (by kernel_rfl) (by kernel_rfl) (fun _ _ _ h => h) (Or.inl ⟨by kernel_rfl, ?y_c46⟩) ?r_c46
            case y_c46 => intro w; go_simp; try with_reducible rfl
            case' r_c46 => skip
            refine wpAny_done (by kernel_rfl) ?_ _
            have HWF := Lib.hid (HW.out.keep hB16)
            clear hB16 hB14 hB6 hB4 hBd hhd htn hlf hdl hexH hexA
            go_wp2_with fail
            go_roundw
            case rel => exact ⟨i + 1, t, a, ys, rfl, rfl, by go_num, by omega, HWF.out⟩
            case measure => simp [intOf]; omega
            --END34
        · have hl152 : ¬ (i : Int) < 15 := by omega
          clear hW hra hrc
          go_wp2_with fail
          go_meet
          exact ⟨t, a, ys, rfl, rfl, HW.out.le (by omega)⟩
      · have hlt2 : ¬ (i : Int) < acts.length := by omega
        clear hW hra hrc
        go_wp2_with fail
        go_meet
        exact ⟨t, a, ys, rfl, rfl, HW.out.le (by omega)⟩
  case rest =>
    clear hWS0 hra hrc
    obtain ⟨t, a, ys, rfl, rfl, hW⟩ := hcut
    obtain ⟨d, bs, hS, hL, hH, hI, hn, hfu, hbs, hdj, hT, hB⟩ := hW
    obtain ⟨ds5, hD5, hds5, hstx⟩ := hL.disk
    have hbl : (allL (ys.map (·.l))).length ≤ 10000 := by
      have h1 := hI.fit
      have h2 := roomN_le hI.n100
      omega
    have hop := open_st wc hD5 hH hI
    rw [recsA_fit hbl] at hop
    dsimp only at hop
    rw [List.take_length] at hop
    have HX := Lib.hid (And.intro hS (And.intro hL (And.intro hH.n100 (And.intro hT (And.intro hbl hB)))))
    clear hS hL hH hI hn hfu hbs hdj hT hB hD5 hds5 hstx hbl
    go_wp2_with fail
    refine hop.mono ?_
    rintro e w6 ⟨lp6, uu, ys6, rfl, hM6, hys6, hB6, bs6, hL6, hbs6⟩
    obtain ⟨hS, hL, hn100, hT, hbl, hB⟩ := HX.out
    have hSm := refSame_any w6 _ _ ys6 ys hM6 (hS.keep hB6).msgs
    rw [decide_eq_true hys6] at hSm
    have hl6 : (allL (ys.map (·.l))).length ≤ 1000000 := by omega
    have hltm := fun w' (h : Below w6.heap.size w6 w') => lturn_any w' (hL6.keep h)
    have hllm := fun w' (h : Below w6.heap.size w6 w') => lleft_any w' (hL6.keep h) hn100 hl6
    have hlll := fun w' (h : Below w6.heap.size w6 w') => lleft_any w' (hL.keep (hB6.trans (h.mono hB6.size))) hn100 hl6
    have HB := Lib.hid (And.intro hB hB6)
    obtain ⟨ro6, rc6, rfl, hq1, hq2, hq3, hq4⟩ := id hM6
    generalize leftN d ⟨t, a, allL (ys.map (·.l))⟩ = lf at hllm hlll
    clear hq1 hq2 hq3 hq4 hM6 hys6 hB6 hL6 hbs6 hS hL hn100 hbl hB hop HX hl6
    have ht0 : (0 : Int) ≤ t := Int.natCast_nonneg _
    have htb : (t : Int) ≤ 20 := by omega
    go_wp2_with fail
    refine hSm.mono ?_
    rintro e w7 ⟨rfl, hB7⟩
    go_wp2_with fail
    refine (hltm _ hB7).mono ?_
    rintro e w8 ⟨rfl, rfl⟩
    go_wp2_with fail
    refine (hllm _ hB7).mono ?_
    rintro e w9 ⟨rfl, hB9⟩
    go_wp2_with fail
    refine (hlll _ (hB7.trans (hB9.mono hB7.size))).mono ?_
    rintro e w10 ⟨rfl, hB10⟩
    go_wp2_with fail
    go_ret
    exact ⟨rfl, by
      obtain ⟨hB, hB6⟩ := HB.out
      have h1 := hB.trans (hB6.mono hB.size)
      have h2 := h1.trans (hB7.mono h1.size)
      have h3 := h2.trans (hB9.mono h2.size)
      exact h3.trans (hB10.mono h3.size)⟩
end Go.Proofs.Ytbmdcblcefebiaa
