/- net.Net: Copy, Seen. -/
import Derived.Test.YtbflffanahnofaaNetTake
namespace Go.Proofs.Ytbflffanahnofaa
open Go.RowKit
set_option maxRecDepth 100000 in
set_option maxHeartbeats 400000 in
theorem ncopy_bad (i k : Int) (w : World) {p : Nat} {st : NSt} {bs : Nat → Prop} (h : NetAt w p st bs) (hi : ¬ (0 ≤ i ∧ i < st.length)) :
    Calls Try.prog 9 #[.pointer (some ⟨p, 0, none⟩), .int .i64 i, .int .i64 k] w fun e w' => e = .returned (.int .i64 1) ∧ w = w' := by
  obtain ⟨xs, rfl, h⟩ := h
  rw [List.length_map] at hi
  go_enter Try.func9, Try.ntmps9
  go_wp2_with fail
  refine (nmessage_bad i k w h hi).mono ?_
  rintro e w1 ⟨rfl, rfl⟩
  go_wp2_with fail
  go_ret
  exact ⟨rfl, rfl⟩
set_option maxRecDepth 100000 in
set_option maxHeartbeats 400000 in
theorem ncopy_miss (i : Nat) (k : Int) (w : World) {p : Nat} {st : NSt} {bs : Nat → Prop} (h : NetAt w p st bs) (hi : i < st.length) (hk : ¬ (0 ≤ k ∧ k < (innN st i).length)) :
    Calls Try.prog 9 #[.pointer (some ⟨p, 0, none⟩), .int .i64 i, .int .i64 k] w fun e w' => e = .returned (.int .i64 7) ∧ w = w' := by
  obtain ⟨xs, rfl, h⟩ := h
  rw [List.length_map] at hi
  rw [innN_map hi, List.length_map] at hk
  obtain ⟨g, cap, iv, ⟨c0, c1, f1, hgl⟩, hr, hz0, hz1, hz2, hz3, hz4⟩ := h.setIn hi
  obtain ⟨io, ic, rfl, hz5, hz6, hz7⟩ := hr.val
  rw [List.length_map] at c1
  clear hz0 hz1 hz2 hz3 hz4 hz5 hz6 hz7 hr
  have hm := nmessage_ok (p := p) i k w c0 c1 hi
  rw [if_neg hk] at hm
  clear hk
  go_enter Try.func9, Try.ntmps9
  go_wp2_with fail
  refine hm.mono ?_
  rintro e w1 ⟨rfl, rfl⟩
  go_wp2_with fail
  go_ret
  exact ⟨rfl, rfl⟩
/-- A message of a box, and where it lies. -/
theorem NetIn.msgAt {w : World} {p : Nat} {xs : List BoxD} {bs : Nat → Prop} (h : NetIn w p xs bs) {i k : Nat} (hi : i < xs.length) (hk : k < xs[i].inn.length) : ∃ g cap gi ic xo xc,
    w.cell? ⟨p, 0, none⟩ = some (.slice (some ⟨g, 0, none⟩) xs.length cap) ∧ w.cell? ⟨g, i * 2, none⟩ = some (.slice (some ⟨gi, 0, none⟩) xs[i].inn.length ic) ∧ w.cell? ⟨gi, k, none⟩ = some (.slice xo ((xs[i].inn.map (·.l)).getD k []).length xc) ∧
    Bsl w (.slice xo ((xs[i].inn.map (·.l)).getD k []).length xc) ((xs[i].inn.map (·.l)).getD k []) ∧ ((xs[i].inn.map (·.l)).getD k []).length ≤ 1000000 := by
  obtain ⟨g, cap, iv, ⟨c0, c1, f1, hgl⟩, hr, hig, hmsg, hbg, hz3, hset⟩ := h.setIn hi
  have hlm : (xs[i].inn.map msgC).length = xs[i].inn.length := List.length_map ..
  have hne : xs[i].inn.map msgC ≠ [] := fun e => by rw [e] at hlm; simp at hlm; omega
  obtain ⟨gi, ic, rfl, hz5, hgil, hnc, hic⟩ := hr.shape hne
  rw [hlm] at c1 hr
  have hgd : (xs[i].inn.map (·.l)).getD k [] = xs[i].inn[k].l := by simp [List.getD, hk]
  rw [hgd]
  obtain ⟨hxb, hxl⟩ := hmsg xs[i].inn[k] (List.getElem_mem hk)
  obtain ⟨xo, xc, hxv, _⟩ := id hxb
  have hck := hr.range (List.length_map ..).symm (i := k) (by rw [List.length_map]; exact hk) 0 xs[i].inn[k].v (by rw [List.getElem_map]; rfl)
  rw [Nat.mul_one, Nat.add_zero, hxv] at hck
  rw [hxv] at hxb
  exact ⟨g, cap, gi, ic, xo, xc, c0, c1, hck, hxb, hxl⟩
set_option maxRecDepth 100000 in
set_option maxHeartbeats 1000000 in
theorem ncopy_full (i k : Nat) (w : World) {p : Nat} {st : NSt} {bs : Nat → Prop} (h : NetAt w p st bs) (hi : i < st.length) (hk : k < (innN st i).length) (hf : (innN st i).length = 64) :
    Calls Try.prog 9 #[.pointer (some ⟨p, 0, none⟩), .int .i64 i, .int .i64 k] w fun e w' => e = .returned (.int .i64 10) ∧ w = w' := by
  have hS := fun v => nsend_full i v w h hi hf
  obtain ⟨xs, rfl, h⟩ := h
  rw [List.length_map] at hi
  rw [innN_map hi, List.length_map] at hk
  obtain ⟨g, cap, gi, ic, xo, xc, c0, c1, ck, hb, hl⟩ := h.msgAt hi hk
  have hM := nmessage_ok (p := p) i (k : Int) w c0 c1 hi
  rw [if_pos (by omega)] at hM
  have hk1 : (0 : Int) ≤ k := Int.natCast_nonneg _
  have hk2 : (k : Int) < xs[i].inn.length := by omega
  clear hb hl hf
  go_enter Try.func9, Try.ntmps9
  go_wp2_with fail
  refine hM.mono ?_
  rintro e w1 ⟨rfl, rfl⟩
  go_wp2_with fail
  refine (hS _).mono ?_
  rintro e w1 ⟨rfl, rfl⟩
  go_wp2_with fail
  go_ret
  exact ⟨rfl, rfl⟩
set_option maxRecDepth 100000 in
set_option maxHeartbeats 1000000 in
theorem ncopy_ok (i k : Nat) (w : World) {p : Nat} {st : NSt} {bs : Nat → Prop} (h : NetAt w p st bs) (hi : i < st.length) (hk : k < (innN st i).length) (hf : (innN st i).length < 64) :
    Calls Try.prog 9 #[.pointer (some ⟨p, 0, none⟩), .int .i64 i, .int .i64 k] w fun e w' => e = .returned (.int .i64 0) ∧ ∃ bs', NetAt w' p (st.set i (innN st i ++ [(innN st i).getD k []], seenN st i)) bs' ∧ NEff w w' bs bs' := by
  have hS := fun v hb hl => nsend_ok i v ((innN st i).getD k []) w h hi hf hb hl
  obtain ⟨xs, rfl, h⟩ := h
  have hi' := hi
  rw [List.length_map] at hi'
  rw [innN_map hi', List.length_map] at hk
  have hin := innN_map hi'
  obtain ⟨g, cap, gi, ic, xo, xc, c0, c1, ck, hb, hl⟩ := h.msgAt hi' hk
  rw [← hin] at ck hb hl
  have hM := nmessage_ok (p := p) i (k : Int) w c0 c1 hi'
  rw [if_pos (by omega)] at hM
  have hS2 := hS _ hb hl
  have hk1 : (0 : Int) ≤ k := Int.natCast_nonneg _
  have hk2 : (k : Int) < xs[i].inn.length := by omega
  clear hb hl hf hin hS hk
  go_enter Try.func9, Try.ntmps9
  go_wp2_with fail
  refine hM.mono ?_
  rintro e w1 ⟨rfl, rfl⟩
  go_wp2_with fail
  refine hS2.mono ?_
  rintro e w1 ⟨rfl, hpost⟩
  have HP := Lib.hid hpost
  clear hpost
  go_wp2_with fail
  go_ret
  exact ⟨rfl, HP.out⟩
set_option maxRecDepth 100000 in
set_option maxHeartbeats 400000 in
theorem nseen_bad (i : Int) (w : World) {p : Nat} {st : NSt} {bs : Nat → Prop} (h : NetAt w p st bs) (hi : ¬ (0 ≤ i ∧ i < st.length)) :
    Calls Try.prog 14 #[.pointer (some ⟨p, 0, none⟩), .int .i64 i] w fun e w' => e = .returned (.slice none 0 0) ∧ w = w' := by
  obtain ⟨xs, rfl, h⟩ := h
  rw [List.length_map] at hi
  go_enter Try.func14, Try.ntmps14
  go_wp2_with fail
  refine (nbox_bad i w h hi).mono ?_
  rintro e w1 ⟨rfl, rfl⟩
  go_wp2_with fail
  go_ret
  exact ⟨rfl, rfl⟩
set_option maxRecDepth 100000 in
set_option maxHeartbeats 2000000 in
theorem nseen_ok (i : Nat) (w : World) {p : Nat} {st : NSt} {bs : Nat → Prop} (h : NetAt w p st bs) (hi : i < st.length) (hsn : (seenN st i).length ≤ 1000000) :
    Calls Try.prog 14 #[.pointer (some ⟨p, 0, none⟩), .int .i64 i] w fun e w' => ∃ (v : Value) (ys : List MsgD), e = .returned v ∧ RW w' w.heap.size 29 1 v (ys.map msgC) ∧ ys.map (·.l) = seenN st i ∧ (∀ y ∈ ys, Bsl w' y.v y.l) ∧ Below w.heap.size w w' := by
  obtain ⟨xs, rfl, h⟩ := h
  rw [List.length_map] at hi
  rw [seenN_map hi, List.length_map] at hsn
  rw [seenN_map hi]
  obtain ⟨g, cap, iv, ⟨c0, c1, f1, hgl⟩, hr, hig, hmsg, hbg, hz3, hset⟩ := h.setSeen hi
  clear hset hbg hz3 hig f1
  obtain ⟨so, sc, rfl, hz5, hz6, hz7⟩ := id hr.val
  rw [List.length_map] at c1
  clear hz7 hz5 hz6
  generalize xs[i].seen = ss at *
  rw [List.length_map] at hr
  obtain ⟨it, z, hti, htz, hzc, hsz, hby⟩ := Try.msg_parts
  go_enter Try.func14, Try.ntmps14
  go_wp2_with fail
  refine (nbox_ok i w c0 hi).mono ?_
  rintro e w1 ⟨rfl, rfl⟩
  go_wp2_with fail
  go_loopw [7, 23] (fun v j wr => ∃ (k : Nat) (ys : List MsgD), k ≤ ss.length ∧ j = .int .i64 k ∧ RW wr w.heap.size 29 1 v (ys.map msgC) ∧ ys.map (·.l) = (ss.map (·.l)).take k ∧ (∀ y ∈ ys, Bsl wr y.v y.l ∧ (y.l ≠ [] → y.v.ownBlock ≠ v.ownBlock)) ∧ Below w.heap.size w wr) (fun _ j _ => ss.length - (intOf j).toNat)
  case atStart => exact ⟨0, [], Nat.zero_le _, rfl, RW.nil _ _ _ _, rfl, by simp, Below.refl _ _⟩
  case round =>
    obtain ⟨k, ys, hk, rfl, hrv, hyl, hyb, hB⟩ := hrel
    by_cases hlt : k < ss.length
    · have hne : ss.map msgC ≠ [] := fun e => by have h2 : (ss.map msgC).length = ss.length := List.length_map ..; rw [e] at h2; simp at h2; omega
      obtain ⟨gs, gc, hvv, hz5, hgsl, hz6, hz7⟩ := hr.shape hne
      rw [List.length_map] at hvv
      cases hvv
      obtain ⟨x, hxd⟩ : ∃ x, x = ss[k] := ⟨_, rfl⟩
      obtain ⟨hxb, hxl⟩ := hmsg x (by rw [hxd]; exact List.getElem_mem hlt)
      obtain ⟨xv, xl⟩ := x
      obtain ⟨xo, xc, hxv, hq1, hq2, hq3, hq4⟩ := id hxb
      clear hq1 hq2 hq3 hq4
      simp only at hxv hxb hxl
      subst hxv
      have hck : w.cell? ⟨gs, k, none⟩ = some (.slice xo xl.length xc) := by
        have := hr.range (List.length_map ..).symm (i := k) (by rw [List.length_map]; exact hlt) 0 (.slice xo xl.length xc) (by rw [List.getElem_map, ← hxd]; rfl)
        rwa [Nat.mul_one, Nat.add_zero] at this
      have hckr := (hB.cell (p := ⟨gs, k, none⟩) hgsl).trans hck
      have hk1 : (0 : Int) ≤ k := Int.natCast_nonneg _
      have hk2 : (k : Int) < ss.length := by omega
      have hxr : Bsl wr (.slice xo xl.length xc) xl := hxb.keep hB
      have hyn : ys.length = k := by
        have := congrArg List.length hyl
        rw [List.length_map, List.length_take, List.length_map] at this; omega
      obtain ⟨vo, vc, rfl, hz8, hz9, hz10⟩ := id hrv.val
      clear hz8 hz9 hz10
      have hsB := hB.size
      have htk : (ss.map (·.l)).take (k + 1) = ys.map (·.l) ++ [xl] := by
        rw [hyl, List.take_succ_eq_append_getElem (by rw [List.length_map]; exact hlt), List.getElem_map, ← hxd]
      have HXD := Lib.hid htk
      have HYN := Lib.hid hyn
      have HLT := Lib.hid hlt
      have hlen5 : (ys.map msgC).length + 1 ≤ 100000000 := by rw [List.length_map, hyn]; omega
      have hl1 : (ys.map msgC).length = ys.length := List.length_map ..
      rw [hl1, hyn] at hrv hyb ⊢
      clear htk hxd hyl hyn hk hck hl1
      go_wp2_with fail
      refine (bclone_any _ xl _ hxr (by omega)).mono ?_
      rintro e w2 ⟨v2, rfl, ho2, hB2⟩
      obtain ⟨ao2, ca2, rfl, hq1, hq2, hq3, hq4⟩ := id ho2.bsl
      clear hq1 hq2 hq3 hq4
      have hA : Below w2.heap.size w2 (w2.alloc (.cells #[.slice ao2 xl.length ca2] 29)) := (Below.refl _ _).alloc (Nat.le_refl _) _
      have hrA := (hrv.keep hB2).keep hA
      have hsrcA : RW (w2.alloc (.cells #[.slice ao2 xl.length ca2] 29)) 0 29 1 (.slice (some ⟨w2.heap.size, 0, none⟩) 1 1) [[.slice ao2 xl.length ca2]] := ⟨World.ownsRow_lit w2 _ 1 (Nat.zero_le _) (by unfold maxLen; omega) rfl, by intro q hq; rw [List.mem_singleton.1 hq]; rfl⟩
      have hsz2 : w.heap.size ≤ (w2.alloc (.cells #[.slice ao2 xl.length ca2] 29)).heap.size := Nat.le_trans hsB (Nat.le_trans hB2.size hA.size)
      have hoA := ho2.keep hA
      have hBA : Below w.heap.size w (w2.alloc (.cells #[.slice ao2 xl.length ca2] 29)) := hB.trans ((hB2.mono hsB).trans (hA.mono (Nat.le_trans hsB hB2.size)))
      have hyA : ∀ y ∈ ys, Bsl (w2.alloc (.cells #[.slice ao2 xl.length ca2] 29)) y.v y.l ∧ (y.l ≠ [] → ∀ q, y.v.ownBlock = some q → (Value.slice vo k vc).ownBlock ≠ some q ∧ q < w2.heap.size) := fun y hy => by
        obtain ⟨h1, h2⟩ := hyb y hy
        exact ⟨(h1.keep hB2).keep hA, fun hne q hq => ⟨fun e => h2 hne (hq.trans e.symm), (h1.keep hB2).own_lt hne q hq⟩⟩
      have hnA : ∀ q, (Value.slice ao2 xl.length ca2).ownBlock = some q → (Value.slice vo k vc).ownBlock ≠ some q ∧ q < w2.heap.size := fun q hq => ⟨fun e => by have := ho2.own_ge q hq; have := hrv.own_lt q e; omega, ho2.own_lt q hq⟩
      have HBA := Lib.hid hBA
      have HYA := Lib.hid hyA
      have HNA := Lib.hid hnA
      have HOA := Lib.hid hoA
      clear hlt hA hBA hyA hnA hoA hyb ho2 hB2 hB hckr hxr hmsg hr hxb hne
      go_wp2_with (at_builtin; refine wp_apprs rfl _ _ 35 rfl it z Try.underlying35 hti htz hsz hby hzc (by omega) hrA hsrcA rfl (by intro u hu; simp at hu; subst hu; rfl) hlen5 hsz2 (by rfl) (by rfl) ?_)
      intro v3 w3 hr3 hg3 hn3 hnil3
      have hon : Only (fun q => (Value.slice vo k vc).ownBlock = some q) _ w3 := Only.of_grown hg3 (fun q hq => hq)
      have hB3 : Below w.heap.size w w3 := HBA.out.grown hg3 hsz2 (fun q hq => hrA.own_ge q hq)
      have hrel' : RW w3 w.heap.size 29 1 v3 ((ys ++ [⟨.slice ao2 xl.length ca2, xl⟩] : List MsgD).map msgC) ∧ (ys ++ [⟨.slice ao2 xl.length ca2, xl⟩] : List MsgD).map (·.l) = (ss.map (·.l)).take (k + 1) ∧ (∀ y ∈ (ys ++ [⟨.slice ao2 xl.length ca2, xl⟩] : List MsgD), Bsl w3 y.v y.l ∧ (y.l ≠ [] → y.v.ownBlock ≠ v3.ownBlock)) ∧ Below w.heap.size w w3 := by
        refine ⟨by rw [List.map_append]; exact hr3, by rw [HXD.out, List.map_append]; rfl, fun y hy => ?_, hB3⟩
        have key : ∀ q, (Value.slice vo k vc).ownBlock ≠ some q → q < w2.heap.size → v3.ownBlock ≠ some q := fun q h1 h2 e => by
          rcases hn3 with e2 | e2
          · rw [e2] at e; exact h1 e
          · rw [e2] at e; cases e; omega
        have fin : ∀ y : MsgD, Bsl (w2.alloc (.cells #[.slice ao2 xl.length ca2] 29)) y.v y.l → (y.l ≠ [] → ∀ q, y.v.ownBlock = some q → (Value.slice vo k vc).ownBlock ≠ some q ∧ q < w2.heap.size) → Bsl w3 y.v y.l ∧ (y.l ≠ [] → y.v.ownBlock ≠ v3.ownBlock) := fun y h1 h2 => ⟨h1.only' hon (fun hne q hq => (h2 hne q hq).1), fun hne e => by
          obtain ⟨ao, cap, hv, _, _, _, h4⟩ := h1
          obtain ⟨b, off, had, _⟩ := h4 hne
          have hob : y.v.ownBlock = some b := by rw [hv, had]; rfl
          obtain ⟨h5, h6⟩ := h2 hne b hob
          exact key b h5 h6 (by rw [← e, hob])⟩
        rcases List.mem_append.1 hy with hy | hy
        · exact fin y (HYA.out y hy).1 (HYA.out y hy).2
        · rw [List.mem_singleton.1 hy]
          exact fin _ HOA.out.bsl (fun _ => HNA.out)
      have HR := Lib.hid hrel'
      clear hrel' hon hB3 hr3 hg3 hn3 hnil3 hrA hsrcA hsz2
      go_wp2_with fail
      go_roundw
      case rel => exact ⟨k + 1, _, HLT.out, by go_num, HR.out⟩
      case measure => have := HLT.out; simp [intOf]; omega
    · have hke : k = ss.length := by omega
      subst hke
      have hk1 : (0 : Int) ≤ ss.length := Int.natCast_nonneg _
      have HF := Lib.hid hyl
      clear hyl
      go_wp2_with fail
      go_ret
      refine ⟨_, rfl, ys, hrv, ?_, fun y hy => (hyb y hy).1, hB⟩
      rw [HF.out, ← List.length_map (f := fun x : MsgD => x.l), List.take_length]
end Go.Proofs.Ytbflffanahnofaa
