/- The log: LogMsgs, LogRep, LogRefs, LogSame, LogFew. -/
import Derived.Test.YtbmdcblcefebiaaLogC
import Derived.Test.YtbmdcblcefebiaaLogB
import Derived.Test.YtbmdcblcefebiaaRefCrc
import Derived.Test.YtbmdcblcefebiaaRefCodec
import Derived.Test.YtbmdcblcefebiaaRefBits
import Derived.Lib.AppendStr
import Derived.Deep.QuietTactic
import Derived.BigQuiet
import Derived.BigRegion
import Derived.Deep.RegionHeldLaw
/- Rows of byte slices, to be read. -/
namespace Go.Proofs.Ytbmdcblcefebiaa
open Go.RowKit
/-- A slice of byte slices. -/
def MsgsAt (w : World) (v : Value) (ys : List MsgD) : Prop := ∃ ao cap, v = .slice ao ys.length cap ∧ ys.length ≤ cap ∧ cap ≤ 9223372036854775807 ∧
  (ys ≠ [] → ∃ g o, ao = some ⟨g, o, none⟩ ∧ ∀ j (hj : j < ys.length), w.cell? ⟨g, o + j, none⟩ = some ys[j].v) ∧ ∀ y ∈ ys, Bsl w y.v y.l
/-- The blocks of such a slice. -/
def msgsB (v : Value) (ys : List MsgD) : Nat → Prop := fun k => (ys ≠ [] ∧ v.ownBlock = some k) ∨ ∃ y ∈ ys, y.l ≠ [] ∧ y.v.ownBlock = some k
theorem MsgsAt.lt {w : World} {v : Value} {ys : List MsgD} (h : MsgsAt w v ys) : ∀ k, msgsB v ys k → k < w.heap.size := by
  obtain ⟨ao, cap, rfl, _, _, hc, hb⟩ := h
  rintro k (⟨hne, hk⟩ | ⟨y, hy, hne, hk⟩)
  · obtain ⟨g, o, rfl, hc'⟩ := hc hne
    have hgk : g = k := Option.some.inj hk
    subst hgk
    exact World.block_lt_of_cell? w _ (hc' 0 (List.length_pos_iff.2 hne))
  · exact (hb y hy).own_lt hne k hk
theorem MsgsAt.only {S : Nat → Prop} {w w' : World} {v : Value} {ys : List MsgD} (h : MsgsAt w v ys) (ho : Only S w w') (hS : ∀ k, msgsB v ys k → ¬ S k) : MsgsAt w' v ys := by
  have hlt := h.lt
  obtain ⟨ao, cap, rfl, h1, h2, hc, hb⟩ := h
  refine ⟨ao, cap, rfl, h1, h2, fun hne => ?_, fun y hy => (hb y hy).only' ho (fun hne k hk => hS k (.inr ⟨y, hy, hne, hk⟩))⟩
  obtain ⟨g, o, rfl, hc'⟩ := hc hne
  have hg : msgsB (.slice (some ⟨g, o, none⟩) ys.length cap) ys g := .inl ⟨hne, rfl⟩
  exact ⟨g, o, rfl, fun j hj => (ho.cell (p := ⟨g, o + j, none⟩) (hlt g hg) (hS g hg)).trans (hc' j hj)⟩
theorem MsgsAt.keep {w w' : World} {v : Value} {ys : List MsgD} (h : MsgsAt w v ys) (hb : Below w.heap.size w w') : MsgsAt w' v ys := h.only (Only.of_below (S := fun _ => False) hb) (fun _ _ h => h)
theorem MsgsAt.nil (w : World) : MsgsAt w (.slice none 0 0) [] := ⟨none, 0, rfl, Nat.le_refl _, by omega, fun h => absurd rfl h, by simp⟩
theorem MsgsAt.take {w : World} {ao : Option Addr} {n cap : Nat} {ys : List MsgD} (h : MsgsAt w (.slice ao n cap) ys) {k : Nat} (hk : k ≤ ys.length) : MsgsAt w (.slice ao k cap) (ys.take k) := by
  obtain ⟨ao', cap', he, h1, h2, hc, hb⟩ := h
  injection he with e1 e2 e3
  subst e1; subst e3
  have hl : (ys.take k).length = k := by rw [List.length_take]; omega
  refine ⟨ao, cap, by rw [hl], by omega, h2, fun hne => ?_, fun y hy => hb y (List.mem_of_mem_take hy)⟩
  obtain ⟨g, o, rfl, hc'⟩ := hc (fun e => hne (by rw [e]; simp))
  exact ⟨g, o, rfl, fun j hj => by rw [List.getElem_take]; exact hc' j (by omega)⟩
theorem msgsB_take {ao : Option Addr} {n cap k j : Nat} {ys : List MsgD} (h : msgsB (.slice ao j cap) (ys.take j) k) : msgsB (.slice ao n cap) ys k := by
  rcases h with ⟨hne, hk⟩ | ⟨y, hy, hne, hk⟩
  · exact .inl ⟨fun e => hne (by rw [e]; simp), by cases ao with | none => cases hk | some a => exact hk⟩
  · exact .inr ⟨y, List.mem_of_mem_take hy, hne, hk⟩
theorem map_msgC_flat (ys : List MsgD) : (ys.map msgC).flatten = ys.map (·.v) := by
  induction ys with
  | nil => rfl
  | cons y ys ih => rw [List.map_cons, List.flatten_cons, ih]; rfl
theorem MsgsAt.of_rw {w : World} {base : Nat} {v : Value} {ys : List MsgD} (h : RW w base 37 1 v (ys.map msgC)) (hb : ∀ y ∈ ys, Bsl w y.v y.l) : MsgsAt w v ys := by
  obtain ⟨ao, cap, hv, h1, h2, _⟩ := h.val
  rw [List.length_map] at hv h1
  subst hv
  refine ⟨ao, cap, rfl, h1, h2, fun hne => ?_, hb⟩
  obtain ⟨g, cap', hs, _⟩ := h.shape (by simpa using hne)
  injection hs with e1 e2 e3
  subst e1
  refine ⟨g, 0, rfl, fun j hj => ?_⟩
  have hr := World.ownsRow.cells h.1 (g := g) rfl j ys[j].v (by rw [map_msgC_flat, List.getElem?_map, List.getElem?_eq_getElem hj]; rfl)
  rw [Nat.zero_add]
  have he : (⟨g, 0, none⟩ : Addr).add j = ⟨g, j, none⟩ := by simp [Addr.add]; intro e; rw [e]
  rw [he] at hr
  exact hr
theorem msgsB_of_rw {w : World} {base : Nat} {v : Value} {ys : List MsgD} (h : RW w base 37 1 v (ys.map msgC)) (hb : ∀ y ∈ ys, y.l ≠ [] → ∀ k, y.v.ownBlock = some k → base ≤ k) : ∀ k, msgsB v ys k → base ≤ k := by
  rintro k (⟨_, hk⟩ | ⟨y, hy, hne, hk⟩)
  · exact h.own_ge k hk
  · exact hb y hy hne k hk
end Go.Proofs.Ytbmdcblcefebiaa
/- log.Log: Replace. -/
namespace Go.Proofs.Ytbmdcblcefebiaa
open Go.RowKit
/-- What Replace answers, and what it leaves. -/
def repE (d : DK) (L : LD) (b : List UInt8) : Int :=
  let a := (L.area + 1) % 2
  let A := 2 + a * areaN d.now.length
  if roomN d.now.length < b.length then 8 else if writeE A b 0 d = 0 then closeE (writeD A b 0 d) (L.turn + 1) a b.length else writeE A b 0 d
def repD (d : DK) (L : LD) (b : List UInt8) : DK :=
  let a := (L.area + 1) % 2
  let A := 2 + a * areaN d.now.length
  if roomN d.now.length < b.length then d else if writeE A b 0 d = 0 then closeD (writeD A b 0 d) (L.turn + 1) a b.length else writeD A b 0 d
def repL (d : DK) (L : LD) (b : List UInt8) : LD := if repE d L b = 0 then ⟨L.turn + 1, (L.area + 1) % 2, b⟩ else L
theorem allL_take_succ (rs : List (List UInt8)) (k : Nat) (hk : k < rs.length) : allL (rs.take (k + 1)) = allL (rs.take k) ++ recL rs[k] := by
  unfold allL
  rw [List.take_succ_eq_append_getElem hk, List.map_append, List.flatten_append]; simp
theorem allL_take_le (rs : List (List UInt8)) (k : Nat) : (allL (rs.take k)).length ≤ (allL rs).length := by
  have : allL rs = allL (rs.take k) ++ allL (rs.drop k) := by unfold allL; rw [← List.flatten_append, ← List.map_append, List.take_append_drop]
  rw [this, List.length_append]; omega
set_option maxRecDepth 100000 in
set_option maxHeartbeats 4000000 in
theorem lreplace_any (w : World) {lp p : Nat} {d : DK} {L : LD} {bs : Nat → Prop} (h : LogAt w lp p d L bs) (v : Value) (ys : List MsgD) (hv : MsgsAt w v ys) (hys : ∀ y ∈ ys, y.l.length ≤ 1000) (hyn : ys.length ≤ 100)
    (hall : (allL (ys.map (·.l))).length ≤ 8000) (hdn : d.now.length ≤ 100) (har : L.area ≤ 1) (ht : L.turn + 1 ≤ 1000000000) (hlo : d.loose.length ≤ 50000) :
    Calls Try.prog 11 #[.pointer (some ⟨lp, 0, none⟩), v] w fun e w' => e = .returned (.int .i64 (repE d L (allL (ys.map (·.l))))) ∧ ∃ bs2, LogAt w' lp p (repD d L (allL (ys.map (·.l)))) (repL d L (allL (ys.map (·.l)))) bs2 ∧ DEff w w' bs bs2 := by
  obtain ⟨ao, cap, rfl, hz1, hz2, hcs, hbs⟩ := hv
  clear hz1 hz2
  have HALL := Lib.hid hall
  clear hall
  go_enter Try.func11, Try.ntmps11
  go_wp2_with fail
  go_loopw [5, 14] (fun u j wr => ∃ k : Nat, k ≤ ys.length ∧ j = .int .i64 k ∧ OB wr w.heap.size u (allL ((ys.map (·.l)).take k)) ∧ Below w.heap.size w wr) (fun _ j _ => ys.length - (intOf j).toNat)
  case atStart => exact ⟨0, Nat.zero_le _, rfl, OB.nil _ _, Below.refl _ _⟩
  case round =>
    obtain ⟨k, hk, rfl, hu, hB⟩ := hrel
    by_cases hlt : k < ys.length
    · have hlt2 : (k : Int) < ys.length := by omega
      have hk0 : (0 : Int) ≤ k := Int.natCast_nonneg _
      obtain ⟨g, o, rfl, hcc⟩ := hcs (fun e => by rw [e] at hlt; simp at hlt)
      have hy := ys[k]
      have hcell := (hB.cell (p := ⟨g, o + k, none⟩) (World.block_lt_of_cell? w _ (hcc k hlt))).trans (hcc k hlt)
      have hbk := (hbs ys[k] (List.getElem_mem hlt)).keep hB
      have hlk := hys ys[k] (List.getElem_mem hlt)
      have hstep := allL_take_succ (ys.map (·.l)) k (by simpa using hlt)
      rw [List.getElem_map] at hstep
      have hle : (allL ((ys.map (·.l)).take k)).length ≤ 8000 := Nat.le_trans (allL_take_le _ _) HALL.out
      generalize ys[k] = y at *
      have HST := Lib.hid hstep
      clear hstep hcs hcc hbs hy
      have hby := lbytes_any y.v y.l wr hbk (by omega)
      have hlen : (allL ((ys.map (·.l)).take k)).length + (recL y.l).length ≤ 140737488355328 := by rw [recL_len]; omega
      generalize (ys.map (·.l)).take k = tk at *
      obtain ⟨uo, uc, rfl, hz3, hz4, hz5, hz6⟩ := id hu.bsl
      clear hz3 hz4 hz5 hz6
      go_wp2_with fail
      refine hby.mono ?_
      rintro e w4 ⟨v4, rfl, ho4, hB4⟩
      have hu4 := hu.keep hB4
      have hbs4 : w.heap.size ≤ w4.heap.size := Nat.le_trans hB.size hB4.size
      have hb4 := ho4.bsl
      go_wp2_with (at_builtin; refine wp_app rfl _ _ rfl w.heap.size _ _ _ _ rfl rfl hu4 hb4 hlen hbs4 ?_)
      intro v5 w5 ho5 hg5 hn5
      obtain ⟨xo, xc, rfl, hz3⟩ := ho5.val
      clear hz3
      have hB5 : Below w.heap.size w w5 := (hB.trans (hB4.mono hB.size)).trans (Below.of_grown hg5 hbs4 hu4.own_ge)
      have HF := Lib.hid (And.intro ho5 hB5)
      clear ho5 hB5 hg5 hn5 hu4 hb4 hbs4 ho4 hB4 hu hB hby hlen hle hlk hbk
      go_wp2_with fail
      go_roundw
      case rel => exact ⟨k + 1, hlt, by go_num, by rw [HST.out]; exact HF.out.1, HF.out.2⟩
      case measure => simp [intOf]; omega
    · have hke : k = ys.length := by omega
      subst hke
      rw [List.take_of_length_le (by simp)] at hu
      have hLr := h.keep hB
      have hl8 := HALL.out
      have hDE : DEff w wr bs bs := ⟨Only.of_below hB, fun _ hk => .inl hk⟩
      generalize hbb : allL (ys.map (·.l)) = bb at hu hl8
      have HBB := Lib.hid hbb
      clear hbb hcs hbs hys hyn HALL
      obtain ⟨ds, hD, hds, hst⟩ := hLr.disk
      obtain ⟨bvv, ds2, ⟨c0, c1, c2, c3⟩, hf, hb, _, _, hbss⟩ := id hLr
      have hS := dsize_any wr hD
      have hR := lroom_any d.now.length wr (by omega)
      have hrm : roomN d.now.length ≤ 100000 := by unfold roomN areaN; split <;> omega
      obtain ⟨uo, uc, rfl, hz3, hz4, hz5, hz6⟩ := id hu.bsl
      have hbl := h.lt
      clear hz3 hz4 hz5 hz6 hbss hf hb c1 c3 hds hst h
      by_cases hfull : roomN d.now.length < bb.length
      · have hfull2 : ((roomN d.now.length : Nat) : Int) < (bb.length : Int) := by omega
        have HF := Lib.hid (And.intro hLr (And.intro hDE hfull))
        generalize hrn : roomN d.now.length = rn at hR hrm hfull2
        clear hrn hLr hDE hfull hu hB ht hl8 hlo hdn
        go_wp2_with fail
        refine hS.mono ?_
        rintro e w1 ⟨rfl, rfl⟩
        go_wp2_with fail
        refine hR.mono ?_
        rintro e w1 ⟨rfl, rfl⟩
        go_wp2_with fail
        go_ret
        obtain rfl := HBB.out
        obtain ⟨hLr, hDE, hfull⟩ := HF.out
        have hE : repE d L (allL (ys.map (·.l))) = 8 := by unfold repE; dsimp only; rw [if_pos hfull]
        have hDq : repD d L (allL (ys.map (·.l))) = d := by unfold repD; dsimp only; rw [if_pos hfull]
        refine ⟨by rw [hE]; rfl, bs, ?_, hDE⟩
        unfold repL
        rw [hE, hDq]
        exact hLr
      · have hfull2 : (bb.length : Int) ≤ ((roomN d.now.length : Nat) : Int) := by omega
        have hfull3 : ¬ roomN d.now.length < bb.length := hfull
        have HNF := Lib.hid hfull2
        obtain ⟨am, ham, ham2, ham3⟩ : ∃ am : Nat, am = (L.area + 1) % 2 ∧ ((L.area : Int) + 1) % 2 = (am : Int) ∧ am ≤ 1 := ⟨(L.area + 1) % 2, rfl, by omega, by omega⟩
        have hvu : bb ≠ [] → ∀ k, (Value.slice uo bb.length uc).ownBlock = some k → ¬ bs k := fun _ k hk e => by have := hu.own_ge k hk; have := hbl k e; omega
        have hW := lwrite_any wr hLr _ bb 0 hu.bsl hvu ham3 (by omega) (by omega) hdn hlo
        have hv5 := hu.bsl
        have hge5 := hu.own_ge
        have HF := Lib.hid (And.intro hDE (And.intro hge5 ham))
        have HBL := Lib.hid hbl
        have HHL := Lib.hid (And.intro hv5 (And.intro hvu (And.intro hl8 (And.intro ht hlo))))
        have HHM := Lib.hid (And.intro hdn ham3)
        have HFUL := Lib.hid (Nat.le_of_not_lt hfull3)
        generalize hrn : roomN d.now.length = rn at hR hrm hfull2
        clear hrn hLr hDE hfull hfull3 HNF hu hB hl8 hlo hv5 hge5 hvu hbl ht
        have c0r := c0
        have HAM := Lib.hid ham2
        clear ham ham2
        go_wp2_with fail
        refine hS.mono ?_
        rintro e w1 ⟨rfl, rfl⟩
        go_wp2_with fail
        refine hR.mono ?_
        rintro e w1 ⟨rfl, rfl⟩
        clear hS hR hD
        go_wp2_with fail
        rw [HAM.out]
        refine hW.mono ?_
        rintro e w6 ⟨rfl, bs6, hL6, hE6⟩
        obtain ⟨hv5, hvu, hl8, ht, hlo⟩ := HHL.out
        obtain ⟨hdn, ham3⟩ := HHM.out
        have hE56 := HF.out.1.trans hE6
        have hv6 := hv5.only' hE6.only hvu
        have hn6 : bb ≠ [] → ∀ k, (Value.slice uo bb.length uc).ownBlock = some k → ¬ bs6 k := fun hne k hk e => (hE6.new k e).elim (hvu hne k hk) (fun e2 => by have := hv5.own_lt hne k hk; omega)
        have hlw := writeD_loose (2 + am * areaN d.now.length) bb (0 / 64) d
        have hE0 : (0 : Nat) / 64 = 0 := rfl
        rw [hE0] at hlw hL6 ⊢
        by_cases hz : writeE (2 + am * areaN d.now.length) bb 0 d = 0
        · have hC := lclose_any w6 hL6 _ bb hv6 hn6 ham3 ht (by omega) (by omega)
          clear hlw hW hE6 hL6 hv6 hn6 hv5 hdn ht hlo c2 c0 c0r hl8 hvu
          rw [hz]
          go_wp2_with fail
          refine hC.mono ?_
          rintro e w7 ⟨rfl, bs7, hL7, hon7, hnew7⟩
          have hEF : DEff w w7 bs bs7 := ⟨hE56.only.trans hon7 (fun k hk e => (hE56.new k e).elim id (fun e2 => absurd hk (by omega))), fun k hk => (hnew7 k hk).elim (hE56.new k) (fun e => e.elim (fun e2 => .inr (Nat.le_trans hE56.only.size e2)) (fun e2 => .inr (HF.out.2.1 k e2.2)))⟩
          have HG := Lib.hid (And.intro hL7 hEF)
          have HZ := Lib.hid hz
          clear hL7 hEF hon7 hnew7 hC hz hE56
          go_wp2_with fail
          go_ret
          obtain rfl := HBB.out
          obtain rfl := HF.out.2.2
          have hnf : ¬ roomN d.now.length < (allL (ys.map (·.l))).length := Nat.not_lt.2 HFUL.out
          have hEq : repE d L (allL (ys.map (·.l))) = closeE (writeD (2 + (L.area + 1) % 2 * areaN d.now.length) (allL (ys.map (·.l))) 0 d) (L.turn + 1) ((L.area + 1) % 2) (allL (ys.map (·.l))).length := by
            unfold repE; dsimp only; rw [if_neg hnf, if_pos HZ.out]
          have hDq : repD d L (allL (ys.map (·.l))) = closeD (writeD (2 + (L.area + 1) % 2 * areaN d.now.length) (allL (ys.map (·.l))) 0 d) (L.turn + 1) ((L.area + 1) % 2) (allL (ys.map (·.l))).length := by
            unfold repD; dsimp only; rw [if_neg hnf, if_pos HZ.out]
          refine ⟨by rw [hEq]; rfl, bs7, ?_, HG.out.2⟩
          unfold repL
          rw [hEq, hDq]
          exact HG.out.1
        · have HG := Lib.hid (And.intro hL6 hE56)
          have HZ := Lib.hid hz
          clear hlw hW hE6 hL6 hv6 hn6 hv5 hdn ht hlo c2 c0 c0r hl8 hvu hE56
          go_wp2_with fail
          go_ret
          obtain rfl := HBB.out
          obtain rfl := HF.out.2.2
          have hnf : ¬ roomN d.now.length < (allL (ys.map (·.l))).length := Nat.not_lt.2 HFUL.out
          have hEq : repE d L (allL (ys.map (·.l))) = writeE (2 + (L.area + 1) % 2 * areaN d.now.length) (allL (ys.map (·.l))) 0 d := by
            unfold repE; dsimp only; rw [if_neg hnf, if_neg HZ.out]
          have hDq : repD d L (allL (ys.map (·.l))) = writeD (2 + (L.area + 1) % 2 * areaN d.now.length) (allL (ys.map (·.l))) 0 d := by
            unfold repD; dsimp only; rw [if_neg hnf, if_neg HZ.out]
          refine ⟨by rw [hEq]; rfl, bs6, ?_, HG.out.2⟩
          unfold repL
          rw [hEq, hDq, if_neg HZ.out]
          exact HG.out.1
end Go.Proofs.Ytbmdcblcefebiaa
/- casketref17: Room, Bytes, Head, All, Same. -/
namespace Go.Proofs.Ytbmdcblcefebiaa
open Go.RowKit
set_option maxRecDepth 100000 in
set_option maxHeartbeats 400000 in
theorem refRoom_any (n : Nat) (w : World) (hn : n ≤ 100000) : Calls Try.prog 13 #[.int .i64 n] w fun e w' => e = .returned (.int .i64 (roomN n)) ∧ w = w' := by
  unfold roomN areaN
  by_cases h : n < 4
  · rw [if_pos h]
    have h2 : (n : Int) < 4 := by omega
    go_enter Try.func13, Try.ntmps13
    go_wp2_with fail
    go_ret
    exact ⟨rfl, rfl⟩
  · rw [if_neg h]
    obtain ⟨m, rfl⟩ : ∃ m, n = m + 2 := ⟨n - 2, by omega⟩
    go_enter Try.func13, Try.ntmps13
    go_wp2_with fail
    go_ret
    refine ⟨?_, rfl⟩
    show Ending.returned (.int .i64 ((m : Int) / 2 * 64)) = _
    rw [Nat.add_sub_cancel, Int.natCast_mul]; rfl
set_option maxRecDepth 100000 in
set_option maxHeartbeats 400000 in
theorem refRBytes_any (l : List UInt8) (w : World) (hl : l.length ≤ 140737488350000) :
    Calls Try.prog 14 #[strV l] w fun e w' => e = .returned (strV (recL l)) ∧ Below w.heap.size w w' := by
  have h1 := refBytes_any l w (by omega)
  have h2 := fun w => refClose_any (bytesL l) w (by have : (bytesL l).length = l.length + 4 := by simp [bytesL, putLowL_length]; omega
                                                    omega)
  rw [show closeL (bytesL l) = recL l from rfl] at h2
  generalize recL l = r at *
  generalize bytesL l = t at *
  unfold strV at *
  go_enter Try.func14, Try.ntmps14
  go_wp2_with fail
  refine h1.mono ?_
  rintro e w1 ⟨rfl, hB1⟩
  go_wp2_with fail
  refine (h2 _).mono ?_
  rintro e w2 ⟨rfl, hB2⟩
  have HB := Lib.hid (hB1.trans (hB2.mono hB1.size))
  clear hB1 hB2
  go_wp2_with fail
  go_ret
  exact ⟨rfl, HB.out⟩
set_option maxRecDepth 100000 in
theorem run_mkL (w : World) (n : Nat) (h : n ≤ 100000) : (Instr.makeSlice 37 (.int .i64 n) (.int .i64 n)).run Try.prog w = .ok (.slice (some ⟨w.heap.size, 0, none⟩) n n) (w.alloc (.cells ((List.replicate n (0 : UInt8)).map bv).toArray 5)) := by
  obtain ⟨i0, hi, hz0, hz1, hz2⟩ := info_parts Try.info_u8
  have hb2 : (i0.bytes : Int) * n ≤ 281474976710656 := by rw [hz2]; omega
  have := run_make (P := Try.prog) w _ _ i0 (.int .u8 0) Try.underlying37 hi hz0 .i64 .i64 (n : Int) n (by omega) (by omega) hb2 (by omega)
  rw [this, Int.toNat_natCast, hz1, Nat.mul_one]
  congr 3
  apply Array.ext'
  have := toList_madeCells_one (.int .u8 0) n
  rw [show (Value.int .u8 0).cells = #[.int .u8 0] from rfl, this]
  simp [bv]
def mkL (v u : Value) : Sem Value := Instr.makeSlice 37 v u
theorem mkL_eq (v u : Value) : Instr.makeSlice 37 v u = mkL v u := rfl
attribute [local go_sem ↓] mkL_eq
theorem Bsl.madeL (w : World) (l : List UInt8) (n : Nat) (hn : n = l.length) (h : n ≤ 100000) : Bsl (w.alloc (.cells (l.map bv).toArray 5)) (.slice (some ⟨w.heap.size, 0, none⟩) n n) l := by
  subst hn
  have := World.ownsRow_lit (base := 0) (e := 5) (size := 1) w (l.map bv).toArray l.length (Nat.zero_le _) (by unfold maxLen; omega) (by simp)
  exact OB.bsl (base := 0) (by unfold OB; simpa using this)
set_option maxRecDepth 100000 in
set_option maxHeartbeats 1000000 in
theorem refHead_any (t a c : Nat) (w : World) (ht : t ≤ 1000000000) (ha : a ≤ 255) (hc : c ≤ 1000000000) :
    Calls Try.prog 27 #[.int .i64 t, .int .i64 a, .int .i64 c] w fun e w' => e = .returned (strV (secT (headL t a c))) ∧ Below w.heap.size w w' := by
  have hlen := headL_len t a c ha
  have hst : secT (headL t a c) = headL t a c ++ List.replicate 42 0 := by
    unfold secT
    rw [List.take_of_length_le (by omega), hlen]
  rw [hst]
  obtain ⟨Z, hZ⟩ : ∃ Z : List UInt8, Z = List.replicate 42 0 := ⟨_, rfl⟩
  rw [← hZ]
  have hN : ∀ (n : Nat) w, n ≤ 1000000000 → Calls Try.prog 45 #[.int .i64 n] w fun e w' => e = .returned (strV (numL n)) ∧ Below w.heap.size w w' := fun n w h => refNum_any n w (by omega)
  have hSm := fun w => refSmall_any (a : Int) w
  have hn1 : (numL (t : Int)).length = 8 := by simp [numL, putLowL_length]
  have hn2 : (numL (c : Int)).length = 8 := by simp [numL, putLowL_length]
  have hs1 : (smallL (a : Int)).length = 1 := by unfold smallL; rw [if_pos (by omega)]; rfl
  have e1 : headL t a c = closeL ([108] ++ numL t ++ smallL a ++ numL c) := rfl
  rw [e1] at hlen ⊢
  have hN1 := fun w => hN t w ht
  have hN2 := fun w => hN c w hc
  clear hN hst e1
  generalize numL (t : Int) = T at *
  generalize numL (c : Int) = C at *
  generalize smallL (a : Int) = S at *
  have hCl := fun w => refClose_any ([108] ++ T ++ S ++ C) w (by simp; omega)
  have g1 := run_cat [108] T (by simp; omega)
  have g2 := run_cat ([108] ++ T) S (by simp; omega)
  have g3 := run_cat ([108] ++ T ++ S) C (by simp; omega)
  have g4 := run_cat (closeL ([108] ++ T ++ S ++ C)) Z (by rw [hlen, hZ]; simp)
  generalize [108] ++ T ++ S ++ C = B4 at *
  generalize [108] ++ T ++ S = B3 at *
  generalize [108] ++ T = B2 at *
  generalize closeL B4 = B5 at *
  unfold strV at *
  have hmk : ∀ w, (mkL (.int .i64 42) (.int .i64 42)).run Try.prog w = .ok (.slice (some ⟨w.heap.size, 0, none⟩) 42 42) (w.alloc (.cells (Z.map bv).toArray 5)) := fun w => by rw [hZ]; exact run_mkL w 42 (by omega)
  have hms := fun w => Bsl.madeL w Z 42 (by rw [hZ]; simp) (by omega)
  have hcv := fun w => run_str _ (hms w)
  clear hn1 hn2 hs1
  have HZ := Lib.hid hZ
  clear hZ
  have HL := Lib.hid hlen
  go_enter Try.func27, Try.ntmps27
  go_wp2_with fail
  refine (hN1 _).mono ?_
  rintro e w1 ⟨rfl, hB1⟩
  go_wp2_with fail
  refine (hSm _).mono ?_
  rintro e w2 ⟨rfl, hB2⟩
  go_wp2_with fail
  refine (hN2 _).mono ?_
  rintro e w3 ⟨rfl, hB3⟩
  go_wp2_with fail
  refine (hCl _).mono ?_
  rintro e w4 ⟨rfl, hB4⟩
  have hB := ((hB1.trans (hB2.mono hB1.size)).trans (hB3.mono (Nat.le_trans hB1.size hB2.size))).trans (hB4.mono (Nat.le_trans hB1.size (Nat.le_trans hB2.size hB3.size)))
  have hA : Below w4.heap.size w4 (w4.alloc (.cells (Z.map bv).toArray 5)) := (Below.refl _ _).alloc (Nat.le_refl _) _
  have HB := Lib.hid (hB.trans (hA.mono hB.size))
  have hlen2 : B5.length = 22 := HL.out
  clear hB1 hB2 hB3 hB4 hB hA
  go_wp2_with fail
  go_ret
  exact ⟨rfl, HB.out⟩
theorem strCells_eq (l : List UInt8) : Lib.strCells ⟨l.toArray⟩ = l.map bv := by simp [Lib.strCells]; intro a _; rfl
/-- 'append' of a string's bytes to a slice of the call's own. -/
theorem wp_app_str {w : World} {ops : Array Oper} {rest : List Oper} {o : Oper} {a : Act} {Q : Exit → Act → World → Prop} (hgd : o.guard = none) (s x : Operand)
    (ho : o.op = .call { callee := .builtin .append, args := #[s, x], argTypes := #[37, 9] })
    (base : Nat) (v : Value) (l m : List UInt8) (hs : a.eval s = v) (hx : a.eval x = .string ⟨m.toArray⟩) (hv : OB w base v l) (hlen : l.length + m.length ≤ 140737488355328) (hb : base ≤ w.heap.size)
    (h : ∀ v' w', OB w' base v' (l ++ m) → w.grownBy w' v.ownBlock → wpList Try.prog ops Q rest (a.put o.dst v') w') : wpList Try.prog ops Q (o :: rest) a w := by
  refine wpList_plain hgd fun K hK => ?_
  obtain ⟨i0, hi, hz0, hz1, hz2⟩ := info_parts Try.info_u8
  have hsz : (⟨m.toArray⟩ : ByteArray).size = m.length := str_size m
  obtain ⟨v', w', hr, h1, h2, h3⟩ := Lib.run_append_own_string (P := Try.prog) w base 37 9 o.type 5 i0 Try.underlying37 Try.underlying9 hi hz0 hz1 hz2 v l.length (l.map bv) hv ⟨m.toArray⟩ (by rw [hsz]; unfold maxLen; omega) (by rw [hsz]; exact hlen) hb
  unfold Oper.wp execOp
  simp only [ho, resolve, invoke, builtin, Sem.run_bind, Sem.run_pure, Result.andThen_ok, List.map_toArray, List.map_cons, List.map_nil, hs, hx, hr]
  refine hK _ _ (h v' w' ?_ h2)
  unfold OB
  rw [List.length_append, List.map_append, ← strCells_eq m]
  rw [hsz] at h1
  exact h1
set_option maxRecDepth 100000 in
set_option maxHeartbeats 4000000 in
theorem refAll_any (w : World) (v : Value) (ys : List MsgD) (hv : MsgsAt w v ys) (hys : ∀ y ∈ ys, y.l.length ≤ 1000000) (hyn : ys.length ≤ 1000)
    (hall : (allL (ys.map (·.l))).length ≤ 1000000) :
    Calls Try.prog 12 #[v] w fun e w' => e = .returned (strV (allL (ys.map (·.l)))) ∧ Below w.heap.size w w' := by
  obtain ⟨ao, cap, rfl, hz1, hz2, hcs, hbs⟩ := hv
  clear hz1 hz2
  have HALL := Lib.hid hall
  clear hall
  unfold strV
  go_enter Try.func12, Try.ntmps12
  go_wp2_with fail
  go_loopw [3, 4] (fun u j wr => ∃ k : Nat, k ≤ ys.length ∧ j = .int .i64 k ∧ OB wr w.heap.size u (allL ((ys.map (·.l)).take k)) ∧ Below w.heap.size w wr) (fun _ j _ => ys.length - (intOf j).toNat)
  case atStart => exact ⟨0, Nat.zero_le _, rfl, OB.nil _ _, Below.refl _ _⟩
  case round =>
    obtain ⟨k, hk, rfl, hu, hB⟩ := hrel
    by_cases hlt : k < ys.length
    · have hlt2 : (k : Int) < ys.length := by omega
      have hk0 : (0 : Int) ≤ k := Int.natCast_nonneg _
      obtain ⟨g, o, rfl, hcc⟩ := hcs (fun e => by rw [e] at hlt; simp at hlt)
      have hcell := (hB.cell (p := ⟨g, o + k, none⟩) (World.block_lt_of_cell? w _ (hcc k hlt))).trans (hcc k hlt)
      have hbk := (hbs ys[k] (List.getElem_mem hlt)).keep hB
      have hlk := hys ys[k] (List.getElem_mem hlt)
      have hstep := allL_take_succ (ys.map (·.l)) k (by simpa using hlt)
      rw [List.getElem_map] at hstep
      have hle : (allL ((ys.map (·.l)).take k)).length ≤ 1000000 := Nat.le_trans (allL_take_le _ _) HALL.out
      generalize ys[k] = y at *
      have HST := Lib.hid hstep
      clear hstep hcs hcc hbs
      have hby := fun w => refRBytes_any y.l w (by omega)
      have hcv := run_str _ hbk
      unfold strV at hby
      have hlen : (allL ((ys.map (·.l)).take k)).length + (recL y.l).length ≤ 140737488355328 := by rw [recL_len]; omega
      generalize (ys.map (·.l)).take k = tk at *
      obtain ⟨uo, uc, rfl, hz3, hz4, hz5, hz6⟩ := id hu.bsl
      clear hz3 hz4 hz5 hz6
      go_wp2_with fail
      refine (hby _).mono ?_
      rintro e w4 ⟨rfl, hB4⟩
      have hu4 := hu.keep hB4
      have hbs4 : w.heap.size ≤ w4.heap.size := Nat.le_trans hB.size hB4.size
      go_wp2_with (at_builtin; refine wp_app_str rfl _ _ rfl w.heap.size _ _ _ rfl rfl hu4 hlen hbs4 ?_)
      intro v5 w5 ho5 hg5
      obtain ⟨xo, xc, rfl, hz3⟩ := ho5.val
      clear hz3
      have hB5 : Below w.heap.size w w5 := (hB.trans (hB4.mono hB.size)).trans (Below.of_grown hg5 hbs4 hu4.own_ge)
      have HF := Lib.hid (And.intro ho5 hB5)
      clear ho5 hB5 hg5 hu4 hbs4 hB4 hu hB hby hlen hle hlk hbk
      go_wp2_with fail
      go_roundw
      case rel => exact ⟨k + 1, hlt, by go_num, by rw [HST.out]; exact HF.out.1, HF.out.2⟩
      case measure => simp [intOf]; omega
    · have hke : k = ys.length := by omega
      subst hke
      rw [List.take_of_length_le (by simp)] at hu
      have hcv := run_str _ hu.bsl
      obtain ⟨uo, uc, rfl, hz3, hz4, hz5, hz6⟩ := id hu.bsl
      clear hz3 hz4 hz5 hz6 hu hcs hbs hys hyn HALL
      generalize haa : allL (ys.map (·.l)) = aa at *
      have HAA := Lib.hid haa
      clear haa
      have HB := Lib.hid hB
      clear hB
      go_wp2_with fail
      go_ret
      obtain rfl := HAA.out
      exact ⟨rfl, HB.out⟩
end Go.Proofs.Ytbmdcblcefebiaa
/- casketref17: Same. -/
namespace Go.Proofs.Ytbmdcblcefebiaa
open Go.RowKit
theorem strB_eq (a b : List UInt8) : ((⟨a.toArray⟩ : ByteArray) = ⟨b.toArray⟩) ↔ a = b := by
  constructor
  · intro h
    have := congrArg (fun x : ByteArray => x.data.toList) h
    simpa using this
  · rintro rfl; rfl
set_option maxRecDepth 100000 in
set_option maxHeartbeats 4000000 in
theorem refSame_any (w : World) (v v2 : Value) (ys zs : List MsgD) (hv : MsgsAt w v ys) (hv2 : MsgsAt w v2 zs) :
    Calls Try.prog 18 #[v, v2] w fun e w' => e = .returned (.bool (decide (ys.map (·.l) = zs.map (·.l)))) ∧ Below w.heap.size w w' := by
  obtain ⟨ao, cap, rfl, hz1, hz2, hcs, hbs⟩ := hv
  obtain ⟨bo, cap2, rfl, hz3, hz4, hcs2, hbs2⟩ := hv2
  by_cases hlen : ys.length = zs.length
  · have HLE := Lib.hid hlen
    rw [hlen]
    have hzl : (zs.length : Int) ≤ 9223372036854775807 := by omega
    clear hlen hz1 hz2 hz3 hz4
    go_enter Try.func18, Try.ntmps18
    go_wp2_with fail
    go_loopw [5] (fun j wr => ∃ k : Nat, k ≤ zs.length ∧ j = .int .i64 k ∧ (ys.map (·.l)).take k = (zs.map (·.l)).take k ∧ Below w.heap.size w wr) (fun j _ => zs.length - (intOf j).toNat)
    case atStart => exact ⟨0, Nat.zero_le _, rfl, by simp, Below.refl _ _⟩
    case round =>
      obtain ⟨k, hk, rfl, htk, hB⟩ := hrel
      by_cases hlt : k < zs.length
      · have hlt1 : k < ys.length := by rw [HLE.out]; exact hlt
        have hlt2 : (k : Int) < zs.length := by omega
        have hk0 : (0 : Int) ≤ k := Int.natCast_nonneg _
        obtain ⟨g, o, rfl, hcc⟩ := hcs (fun e => by rw [e] at hlt1; simp at hlt1)
        obtain ⟨g2, o2, rfl, hcc2⟩ := hcs2 (fun e => by rw [e] at hlt; simp at hlt)
        have hcell := (hB.cell (p := ⟨g, o + k, none⟩) (World.block_lt_of_cell? w _ (hcc k hlt1))).trans (hcc k hlt1)
        have hcell2 := (hB.cell (p := ⟨g2, o2 + k, none⟩) (World.block_lt_of_cell? w _ (hcc2 k hlt))).trans (hcc2 k hlt)
        have hbk := (hbs ys[k] (List.getElem_mem hlt1)).keep hB
        have hbk2 := (hbs2 zs[k] (List.getElem_mem hlt)).keep hB
        have hs1 : (ys.map (·.l)).take (k + 1) = (ys.map (·.l)).take k ++ [ys[k].l] := by rw [List.take_succ_eq_append_getElem (by simpa using hlt1), List.getElem_map]
        have hs2 : (zs.map (·.l)).take (k + 1) = (zs.map (·.l)).take k ++ [zs[k].l] := by rw [List.take_succ_eq_append_getElem (by simpa using hlt), List.getElem_map]
        generalize ys[k] = y at *
        generalize zs[k] = z at *
        have hcv : ∀ w', Below wr.heap.size wr w' → _ := fun w' h => run_str w' (hbk.keep h)
        have hcv1 := run_str wr.drew (hbk.keep ((Below.refl _ _).drew))
        have hcv2 := run_str wr.drew (hbk2.keep ((Below.refl _ _).drew))
        clear hcv
        have HS := Lib.hid (And.intro hs1 (And.intro hs2 htk))
        have HB := Lib.hid hB
        clear hs1 hs2 htk hcs hcs2 hbs hbs2 hcc hcc2 hbk hbk2 hB
        have hck : wr.drew.cell? ⟨g, o + k, none⟩ = some y.v := hcell
        have hck2 : wr.drew.cell? ⟨g2, o2 + k, none⟩ = some z.v := hcell2
        by_cases he : y.l = z.l
        · have hbe : ((⟨y.l.toArray⟩ : ByteArray) = ⟨z.l.toArray⟩) := (strB_eq _ _).2 he
          have HE := Lib.hid he
          clear he
          go_upto_region 6 with (fail)
          go_region
          go_wp2_with fail
          go_roundw
          case rel => exact ⟨k + 1, hlt, by go_num, by rw [HS.out.1, HS.out.2.1, HS.out.2.2, HE.out], HB.out.drew⟩
          case measure => simp [intOf]; omega
        · have hbe : (y.l == z.l) = false := by simpa using he
          have hne : ys.map (·.l) ≠ zs.map (·.l) := fun e => by
            have h1 := HS.out.1
            rw [e, HS.out.2.1] at h1
            have h2 := List.append_cancel_left h1
            exact he (by simpa using h2.symm)
          have HNE := Lib.hid hne
          clear hne
          go_upto_region 6 with (fail)
          go_region
          go_wp2_with fail
          go_ret
          exact ⟨by rw [decide_eq_false HNE.out]; rfl, HB.out.drew⟩
      · have hke : k = zs.length := by omega
        subst hke
        have heq : ys.map (·.l) = zs.map (·.l) := by
          have h1 := htk
          rw [List.take_of_length_le (by rw [List.length_map, HLE.out]; exact Nat.le_refl _), List.take_of_length_le (by simp)] at h1
          exact h1
        have HB := Lib.hid hB
        have HEQ := Lib.hid heq
        clear hcs hcs2 hbs hbs2 htk hB hk heq
        go_wp2_with fail
        go_ret
        exact ⟨by rw [decide_eq_true HEQ.out]; rfl, HB.out⟩
  · have hne : ys.map (·.l) ≠ zs.map (·.l) := fun e => hlen (by simpa using congrArg List.length e)
    have hl2 : ¬ (ys.length : Int) = zs.length := by omega
    rw [decide_eq_false hne]
    clear hne hcs hcs2 hbs hbs2 hz1 hz2 hz3 hz4
    go_enter Try.func18, Try.ntmps18
    go_wp2_with fail
    go_ret
    exact ⟨rfl, Below.refl _ _⟩
end Go.Proofs.Ytbmdcblcefebiaa
/- casketref17: Few. -/
namespace Go.Proofs.Ytbmdcblcefebiaa
open Go.RowKit
def fewL (ls : List (List UInt8)) (most size : Nat) : List (List UInt8) := (ls.take most).map (·.take size)
theorem fewL_succ (ls : List (List UInt8)) (size k : Nat) (hk : k < ls.length) : fewL ls (k + 1) size = fewL ls k size ++ [ls[k].take size] := by
  unfold fewL
  rw [List.take_succ_eq_append_getElem hk, List.map_append]; rfl
set_option maxRecDepth 100000 in
set_option maxHeartbeats 4000000 in
theorem refFew_any (w : World) (v : Value) (xs : List MsgD) (most size : Nat) (hv : MsgsAt w v xs) (hm : most ≤ 1000) (hsz : size ≤ 100000) :
    Calls Try.prog 7 #[v, .int .i64 most, .int .i64 size] w fun e w' => ∃ (u : Value) (zs : List MsgD), e = .returned u ∧ RW w' w.heap.size 37 1 u (zs.map msgC) ∧ zs.map (·.l) = fewL (xs.map (·.l)) most size ∧
      (∀ z ∈ zs, Bsl w' z.v z.l ∧ (z.l ≠ [] → ∀ k, z.v.ownBlock = some k → w.heap.size ≤ k)) ∧ Below w.heap.size w w' := by
  obtain ⟨ao, cap, rfl, hz1, hz2, hcs, hbs⟩ := hv
  obtain ⟨it, z, hti, htz, hzc, hsz1, hby⟩ := Try.msg_parts
  have hzl : (xs.length : Int) ≤ 9223372036854775807 := by omega
  clear hz1 hz2
  go_enter Try.func7, Try.ntmps7
  go_wp2_with fail
  go_loopw [7, 8] (fun u j wr => ∃ (k : Nat) (zs : List MsgD), k ≤ xs.length ∧ k ≤ most ∧ j = .int .i64 k ∧ RW wr w.heap.size 37 1 u (zs.map msgC) ∧ zs.map (·.l) = fewL (xs.map (·.l)) k size ∧
    (∀ y ∈ zs, Bsl wr y.v y.l ∧ (y.l ≠ [] → ∀ k, y.v.ownBlock = some k → u.ownBlock ≠ some k ∧ w.heap.size ≤ k)) ∧ Below w.heap.size w wr) (fun _ j _ => xs.length - (intOf j).toNat)
  case atStart => exact ⟨0, [], Nat.zero_le _, Nat.zero_le _, rfl, RW.nil _ _ _ _, by simp [fewL], by simp, Below.refl _ _⟩
  case round =>
    obtain ⟨k, zs, hk, hk2, rfl, hrv, hls, hzb, hB⟩ := hrel
    by_cases hlt : k < xs.length
    · have hlt2 : (k : Int) < xs.length := by omega
      have hk0 : (0 : Int) ≤ k := Int.natCast_nonneg _
      by_cases hlm : k < most
      · have hlm4 : (k : Int) < most := by omega
        have HLT := Lib.hid (And.intro (show k + 1 ≤ xs.length from hlt) (show k + 1 ≤ most from hlm))
        obtain ⟨g, o, rfl, hcc⟩ := hcs (fun e => by rw [e] at hlt; simp at hlt)
        have hgl : g < w.heap.size := World.block_lt_of_cell? w _ (hcc k hlt)
        have hcell := (hB.cell (p := ⟨g, o + k, none⟩) hgl).trans (hcc k hlt)
        have hbk := (hbs xs[k] (List.getElem_mem hlt)).keep hB
        have hstep := fewL_succ (xs.map (·.l)) size k (by simpa using hlt)
        rw [List.getElem_map] at hstep
        generalize xs[k] = y at *
        have HST := Lib.hid hstep
        clear hstep hcc hcs hbs
        obtain ⟨yo, yc, hyv, hq1, hq2, hq3, hq4⟩ := id hbk
        clear hq3 hq4
        obtain ⟨m, hm1, hm2, hm3⟩ : ∃ m : Nat, (if size < y.l.length then (size : Int) else (y.l.length : Int)) = (m : Int) ∧ m ≤ y.l.length ∧ y.l.take size = y.l.take m := by
          by_cases h : size < y.l.length
          · exact ⟨size, by rw [if_pos h], by omega, rfl⟩
          · exact ⟨y.l.length, by rw [if_neg h], Nat.le_refl _, by rw [List.take_of_length_le (by omega), List.take_of_length_le (Nat.le_refl _)]⟩
        have hA : Below wr.heap.size wr (wr.alloc (.cells #[] 5)) := (Below.refl _ _).alloc (Nat.le_refl _) _
        have hob0 : OB (wr.alloc (.cells #[] 5)).drew w.heap.size (.slice (some ⟨wr.heap.size, 0, none⟩) 0 0) [] := World.ownsRow_lit (base := w.heap.size) (e := 5) (size := 1) wr #[] 0 hB.size (by unfold maxLen; omega) rfl
        rw [hyv] at hbk hcell
        obtain ⟨tl, htl⟩ : ∃ tl, tl = y.l.take m := ⟨_, rfl⟩
        obtain rfl : m = tl.length := by rw [htl, List.length_take]; omega
        have hmi : (tl.length : Int) ≤ yc := by omega
        have hm0 : (0 : Int) ≤ tl.length := Int.natCast_nonneg _
        have hbt : Bsl (wr.alloc (.cells #[] 5)).drew (.slice yo tl.length yc) tl := by
          have h1 := ((hbk.take hm2).keep hA).keep ((Below.refl _ _).drew)
          rw [← htl] at h1
          exact h1
        have hm4 : y.l.take size = tl := by rw [hm3, ← htl]
        have htl5 : tl.length ≤ 100000 := by rw [← hm4, List.length_take]; omega
        clear htl hm3
        have hgr : g < wr.heap.size := Nat.lt_of_lt_of_le hgl hB.size
        have hcA : (wr.alloc (.cells #[] 5)).drew.cell? ⟨g, o + k, none⟩ = some (.slice yo y.l.length yc) := (hA.cell (p := ⟨g, o + k, none⟩) hgr).trans hcell
        have hcd : wr.drew.cell? ⟨g, o + k, none⟩ = some (.slice yo y.l.length yc) := hcell
        have hlen : ([] : List UInt8).length + tl.length ≤ 140737488355328 := by simp; omega
        have hge : w.heap.size ≤ (wr.alloc (.cells #[] 5)).drew.heap.size := Nat.le_trans hB.size hA.size
        have hng : some g ≠ (Value.slice (some ⟨wr.heap.size, 0, none⟩) 0 0).ownBlock := fun e => by have : g = wr.heap.size := Option.some.inj e; omega
        have hngu : some g ≠ u7.ownBlock := fun e => by have := hrv.own_ge g e.symm; omega
        have hrvA := (hrv.keep hA).drew
        have hlm2 : (zs.map msgC).length + 1 ≤ 100000000 := by
          have h1 : zs.length = (fewL (xs.map (·.l)) k size).length := by rw [← hls, List.length_map]
          have h2 : (fewL (xs.map (·.l)) k size).length ≤ k := by unfold fewL; rw [List.length_map, List.length_take]; omega
          rw [List.length_map]; omega
        obtain ⟨uo, uc, hue, hz1, hz2, hz3⟩ := id hrv.val
        clear hz1 hz2 hz3
        have HUE := Lib.hid hue
        have HQ := Lib.hid (And.intro hls (And.intro hzb (And.intro hB (And.intro hrv hm4))))
        have hownA := hob0.own_ge
        have hnw : ∀ q, u7.ownBlock = some q → q < wr.heap.size := hrv.own_lt
        clear hls hzb hB hrv hm4 htl5 hyv hbk hcell hq1 hq2 hm2 hue hlm hlt hk2
        go_upto_region 5 with (fail)
        go_region_held_law (fun w' => w'.cell? ⟨g, o + k, none⟩ = some (.slice yo y.l.length yc)) (first | exact hcd | exact hcA | exact hg7.cell c6A hngu | exact hg6.cell hcA hng | go_keep) (first
          | (refine step_app rfl _ _ rfl w.heap.size _ _ _ _ (by rfl) (by rfl) hob0 hbt hlen hge ?_; intro v6 w6 ho6 hg6 hn6; rw [List.nil_append] at ho6; have h6A : Below w6.heap.size w6 (w6.alloc (.cells #[v6] 37)) := (Below.refl _ _).alloc (Nat.le_refl _) _; have c6A : (w6.alloc (.cells #[v6] 37)).cell? ⟨g, o + k, none⟩ = some (.slice yo y.l.length yc) := (World.cell?_alloc_lt _ _ _ (Nat.lt_of_lt_of_le hgr (Nat.le_trans hA.size hg6.size))).trans (hg6.cell hcA hng); have hrv6 : RW w6 w.heap.size 37 1 u7 (zs.map msgC) := hrvA.only (Only.of_grown (S := (· = wr.heap.size)) hg6 (fun q hq => (Option.some.inj hq).symm)) (fun q hq e => by have := hnw q hq; omega); have hrA := hrv6.keep h6A; have hsrcA : RW (w6.alloc (.cells #[v6] 37)) 0 37 1 (.slice (some ⟨w6.heap.size, 0, none⟩) 1 1) [[v6]] := ⟨World.ownsRow_lit _ _ 1 (Nat.zero_le _) (by unfold maxLen; omega) rfl, by intro q hq; rw [List.mem_singleton.1 hq]; rfl⟩; have hbs6 : w.heap.size ≤ (w6.alloc (.cells #[v6] 37)).heap.size := Nat.le_trans hge (Nat.le_trans hg6.size h6A.size); obtain ⟨ao6, cap6, rfl, hsp⟩ := ho6.val)
          | (refine step_apprs rfl _ _ 22 rfl it z Try.underlying22 hti htz hsz1 hby hzc (by omega) hrA hsrcA rfl (by intro u hu; simp at hu; subst hu; rfl) hlm2 hbs6 (by rfl) (by rfl) ?_; intro v7 w7 hr7 hg7 hn7 hnil7))
        all_goals
          obtain ⟨hls, hzb, hB, hrv, hm4⟩ := HQ.out
          have hB6 : Below wr.heap.size wr w6 := (hA.drew).grown hg6 hA.size (fun q hq => by have : wr.heap.size = q := Option.some.inj hq; omega)
          have hB6A := hB6.trans (h6A.mono hB6.size)
          have hon7 : Only (fun q => u7.ownBlock = some q) wr w7 := (Only.of_below (S := fun q => u7.ownBlock = some q) hB6A).trans (Only.of_grown (S := fun q => u7.ownBlock = some q) hg7 (fun q h => h)) (fun _ _ h => h)
          have hnew : ∀ q, (Value.slice ao6 tl.length cap6).ownBlock = some q → wr.heap.size ≤ q ∧ q < w6.heap.size := fun q hq => ⟨by
            rcases hn6 with e | e
            · rw [hq] at e; have : q = wr.heap.size := Option.some.inj e; omega
            · rw [hq] at e; have h5 := Option.some.inj e; have h6 := hA.size; rw [h5]; exact h6, ho6.own_lt q hq⟩
          have hkey : ∀ z ∈ zs ++ [⟨.slice ao6 tl.length cap6, tl⟩], Bsl w7 z.v z.l ∧ (z.l ≠ [] → ∀ q, z.v.ownBlock = some q → v7.ownBlock ≠ some q ∧ w.heap.size ≤ q) := by
            intro z hz
            rcases List.mem_append.1 hz with hz | hz
            · obtain ⟨h1, h2⟩ := hzb z hz
              refine ⟨h1.only' hon7 (fun hne q hq => (h2 hne q hq).1), fun hne q hq => ⟨?_, (h2 hne q hq).2⟩⟩
              have hql := h1.own_lt hne q hq
              rcases hn7 with e | e
              · rw [e]; exact (h2 hne q hq).1
              · rw [e]; intro e2
                have e3 := Option.some.inj e2
                have e4 := hB6A.size
                omega
            · rw [List.mem_singleton.1 hz]
              refine ⟨(ho6.bsl.keep h6A).only' (Only.of_grown (S := fun q => u7.ownBlock = some q) hg7 (fun q h => h)) (fun _ q hq e => by have := (hnew q hq).1; have := hnw q e; omega), fun _ q hq => ⟨?_, Nat.le_trans hB.size (hnew q hq).1⟩⟩
              have hql := hnew q hq
              rcases hn7 with e | e
              · rw [e]; intro e2; have := hnw q e2; omega
              · rw [e]; intro e2
                have e3 := Option.some.inj e2
                have e4 := h6A.size
                omega
          have hB7 : Below w.heap.size w w7 := hB.trans (hon7.to_below hB.size (fun q hq => hrv.own_ge q hq))
          have HF := Lib.hid (And.intro hr7 (And.intro hkey (And.intro hB7 (And.intro hls hm4))))
          clear hls hzb hB hrv hm4 hB6 hB6A hon7 hnew hkey hB7 hr7 hg7 hn7 hnil7 hrA hsrcA hbs6 hrv6 h6A c6A hg6 hn6 ho6 hsp hA hob0 hbt hcA hcd hlen hge hng hngu hrvA hlm2 HUE HQ hownA hnw
          go_wp2_with fail
          go_roundw
          case rel =>
            obtain ⟨hlt3, hlm3⟩ := HLT.out
            refine ⟨k + 1, _, hlt3, hlm3, by go_num, by rw [List.map_append]; exact HF.out.1, ?_, HF.out.2.1, HF.out.2.2.1⟩
            rw [HST.out, HF.out.2.2.2.2, List.map_append, HF.out.2.2.2.1]; rfl
          case measure => have := HLT.out.1; simp [intOf]; omega
      · have hlm2 : ¬ (k : Int) < most := by omega
        have hke : k = most := by omega
        subst hke
        have HF := Lib.hid (And.intro hrv (And.intro hls (And.intro hzb hB)))
        clear hrv hls hzb hB hcs hbs
        go_wp2_with fail
        go_ret
        exact ⟨_, rfl, zs, HF.out.1, HF.out.2.1, fun z hz => ⟨(HF.out.2.2.1 z hz).1, fun hne q hq => ((HF.out.2.2.1 z hz).2 hne q hq).2⟩, HF.out.2.2.2⟩
    · have hlm2 : ¬ (k : Int) < xs.length := by omega
      have hke : fewL (xs.map (·.l)) k size = fewL (xs.map (·.l)) most size := by
        unfold fewL
        rw [List.take_of_length_le (by rw [List.length_map]; omega), List.take_of_length_le (by rw [List.length_map]; omega)]
      rw [hke] at hls
      have HF := Lib.hid (And.intro hrv (And.intro hls (And.intro hzb hB)))
      clear hrv hls hzb hB hcs hbs hke
      go_wp2_with fail
      go_ret
      exact ⟨_, rfl, zs, HF.out.1, HF.out.2.1, fun z hz => ⟨(HF.out.2.2.1 z hz).1, fun hne q hq => ((HF.out.2.2.1 z hz).2 hne q hq).2⟩, HF.out.2.2.2⟩
end Go.Proofs.Ytbmdcblcefebiaa
