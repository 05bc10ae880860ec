/- net.Net: Len, Clear, message, Send. -/
import Derived.Test.YtjhocaleampamaaDoorNetObj
import Derived.Deep.RegionLaw
import Derived.Deep.RegionHeldLaw
namespace Go.Proofs.YtjhocaleampamaaDoor
open Go.RowKit
abbrev NSt := List (List (List UInt8) × List (List UInt8))
theorem Tryd.info_msg : (Tryd.prog.info? 39).map (fun i => (i.zero.map (fun z => z.cells.size), i.size, decide (i.bytes ≤ 1000))) = some (some 1, 1, true) := by kernel_rfl
theorem Tryd.msg_parts : ∃ i z, Tryd.prog.info? 39 = some i ∧ i.zero = some z ∧ z.cells.size = 1 ∧ i.size = 1 ∧ i.bytes ≤ 1000 := by
  have h := Tryd.info_msg
  cases hi : Tryd.prog.info? 39 with
  | none => rw [hi] at h; cases h
  | some i =>
    rw [hi] at h
    simp only [Option.map_some, Option.some.injEq, Prod.mk.injEq, decide_eq_true_eq] at h
    obtain ⟨h1, h2, h3⟩ := h
    cases hz : i.zero with
    | none => rw [hz] at h1; cases h1
    | some z => rw [hz] at h1; exact ⟨i, z, rfl, hz, by simpa using h1, h2, h3⟩
def innN (st : NSt) (k : Nat) : List (List UInt8) := (st.getD k ([], [])).1
def seenN (st : NSt) (k : Nat) : List (List UInt8) := (st.getD k ([], [])).2
theorem innN_map {xs : List BoxD} {k : Nat} (hk : k < xs.length) : innN (xs.map BoxD.txt) k = xs[k].inn.map (·.l) := by simp [innN, List.getD, hk, BoxD.txt]
theorem seenN_map {xs : List BoxD} {k : Nat} (hk : k < xs.length) : seenN (xs.map BoxD.txt) k = xs[k].seen.map (·.l) := by simp [seenN, List.getD, hk, BoxD.txt]
set_option maxRecDepth 100000 in
set_option maxHeartbeats 400000 in
theorem nlen_ok (k : Nat) (w : World) {p : Nat} {st : NSt} {bs : Nat → Prop} (h : NetAt w p st bs) (hk : k < st.length) :
    Calls Tryd.prog 10 #[.pointer (some ⟨p, 0, none⟩), .int .i64 k] w fun e w' => e = .returned (.int .i64 (innN st k).length) ∧ w = w' := by
  obtain ⟨xs, rfl, h⟩ := h
  rw [List.length_map] at hk
  rw [innN_map hk, List.length_map]
  obtain ⟨g, cap, iv, ⟨c0, c1, f1, hgl⟩, hr, hig, hz1, hz2, hz3, hz4⟩ := h.setIn hk
  obtain ⟨io, ic, rfl, hz5, hz6, hz7⟩ := hr.val
  rw [List.length_map] at c1
  clear hz1 hz2 hz3 hz4 hz5 hz6 hz7 hr hig
  generalize xs[k].inn.length = n at *
  go_enter Tryd.func10, Tryd.ntmps10
  go_wp2_with fail
  refine (nbox_ok k w c0 hk).mono ?_
  rintro e w1 ⟨rfl, rfl⟩
  go_wp2_with fail
  go_ret
  exact ⟨rfl, rfl⟩
set_option maxRecDepth 100000 in
set_option maxHeartbeats 400000 in
theorem nlen_bad (k : Int) (w : World) {p : Nat} {st : NSt} {bs : Nat → Prop} (h : NetAt w p st bs) (hk : ¬ (0 ≤ k ∧ k < st.length)) :
    Calls Tryd.prog 10 #[.pointer (some ⟨p, 0, none⟩), .int .i64 k] w fun e w' => e = .returned (.int .i64 0) ∧ w = w' := by
  obtain ⟨xs, rfl, h⟩ := h
  rw [List.length_map] at hk
  go_enter Tryd.func10, Tryd.ntmps10
  go_wp2_with fail
  refine (nbox_bad k w h hk).mono ?_
  rintro e w1 ⟨rfl, rfl⟩
  go_wp2_with fail
  go_ret
  exact ⟨rfl, rfl⟩
set_option maxRecDepth 100000 in
set_option maxHeartbeats 400000 in
theorem nsend_bad (k : Int) (v : Value) (w : World) {p : Nat} {st : NSt} {bs : Nat → Prop} (h : NetAt w p st bs) (hk : ¬ (0 ≤ k ∧ k < st.length)) :
    Calls Tryd.prog 9 #[.pointer (some ⟨p, 0, none⟩), .int .i64 k, v] w fun e w' => e = .returned (.int .i64 1) ∧ w = w' := by
  obtain ⟨xs, rfl, h⟩ := h
  rw [List.length_map] at hk
  go_enter Tryd.func9, Tryd.ntmps9
  go_wp2_with fail
  refine (nbox_bad k w h hk).mono ?_
  rintro e w1 ⟨rfl, rfl⟩
  go_wp2_with fail
  go_ret
  exact ⟨rfl, rfl⟩
set_option maxRecDepth 100000 in
set_option maxHeartbeats 400000 in
theorem nsend_full (k : Nat) (v : Value) (w : World) {p : Nat} {st : NSt} {bs : Nat → Prop} (h : NetAt w p st bs) (hk : k < st.length) (hf : (innN st k).length = 64) :
    Calls Tryd.prog 9 #[.pointer (some ⟨p, 0, none⟩), .int .i64 k, v] w fun e w' => e = .returned (.int .i64 10) ∧ w = w' := by
  obtain ⟨xs, rfl, h⟩ := h
  rw [List.length_map] at hk
  rw [innN_map hk, List.length_map] at hf
  obtain ⟨g, cap, iv, ⟨c0, c1, f1, hgl⟩, hr, hig, hz1, hz2, hz3, hz4⟩ := h.setIn hk
  obtain ⟨io, ic, rfl, hz5, hz6, hz7⟩ := hr.val
  rw [List.length_map, hf] at c1
  clear hz1 hz2 hz3 hz4 hz5 hz6 hz7 hr hig hf
  go_enter Tryd.func9, Tryd.ntmps9
  go_wp2_with fail
  refine (nbox_ok k w c0 hk).mono ?_
  rintro e w1 ⟨rfl, rfl⟩
  go_wp2_with fail
  go_ret
  exact ⟨rfl, rfl⟩
set_option maxRecDepth 100000 in
set_option maxHeartbeats 1000000 in
theorem nsend_ok (k : Nat) (v : Value) (l : List UInt8) (w : World) {p : Nat} {st : NSt} {bs : Nat → Prop} (h : NetAt w p st bs) (hk : k < st.length) (hf : (innN st k).length < 64) (hb : Bsl w v l) (hl : l.length ≤ 1000000) :
    Calls Tryd.prog 9 #[.pointer (some ⟨p, 0, none⟩), .int .i64 k, v] w fun e w' => e = .returned (.int .i64 0) ∧ ∃ bs', NetAt w' p (st.set k (innN st k ++ [l], seenN st k)) bs' ∧ NEff w w' bs bs' := by
  obtain ⟨xs, rfl, h⟩ := h
  rw [List.length_map] at hk
  rw [innN_map hk, seenN_map hk]
  rw [innN_map hk, List.length_map] at hf
  obtain ⟨g, cap, iv, ⟨c0, c1, f1, hgl⟩, hr, hig, hz1, hbg, hz3, hset⟩ := h.setIn hk
  clear hz1 hz3
  obtain ⟨io, ic, rfl, hz5, hz6, hz7⟩ := id hr.val
  rw [List.length_map] at c1
  clear hz7
  have hlm : (xs[k].inn.map msgC).length = xs[k].inn.length := List.length_map ..
  rw [hlm] at hr hig hset
  have hrl := hr.own_lt
  have hn64 : ¬ ((xs[k].inn.length : Int) = 64) := by omega
  obtain ⟨i, z, hi, hz, hzc, hsz, hby⟩ := Tryd.msg_parts
  have hlen5 : (xs[k].inn.map msgC).length + 1 ≤ 100000000 := by rw [hlm]; omega
  clear hlm
  obtain ⟨vo, vc, rfl, hv1, hv2, hv3, hv4⟩ := id hb
  clear hv1 hv2 hv3 hv4 hf
  go_enter Tryd.func9, Tryd.ntmps9
  go_wp2_with fail
  refine (nbox_ok k w c0 hk).mono ?_
  rintro e w1 ⟨rfl, rfl⟩
  clear c0
  go_wp2_with fail
  have hbd : Bsl w.drew (.slice vo l.length vc) l := hb.keep ((Below.refl _ _).drew)
  go_region_law (first
    | (go_simp; go_at_call 29; refine (bclone_any _ l _ hbd (by omega)).mono ?_; rintro e w2 ⟨v2, rfl, ho2, hB2⟩; obtain ⟨ao2, ca2, rfl, hq1, hq2, hq3, hq4⟩ := id ho2.bsl; clear hq1 hq2 hq3 hq4; have c2 := (hB2.cell (p := ⟨g, k * 2, none⟩) hgl).trans c1; have f2 := (hB2.frozen (p := ⟨g, k * 2, none⟩) hgl).trans f1; have hA : Below w2.heap.size w2 (w2.alloc (.cells #[.slice ao2 l.length ca2] 39)) := (Below.refl _ _).alloc (Nat.le_refl _) _; have hrA := (RW.keep (w := w.drew) hr hB2).keep hA; have hgl2 := Nat.lt_of_lt_of_le hgl hB2.size; have c2A := (hA.cell (p := ⟨g, k * 2, none⟩) hgl2).trans c2; have f2A := (hA.frozen (p := ⟨g, k * 2, none⟩) hgl2).trans f2; have hsrcA : RW (w2.alloc (.cells #[.slice ao2 l.length ca2] 39)) 0 39 1 (.slice (some ⟨w2.heap.size, 0, none⟩) 1 1) [[.slice ao2 l.length ca2]] := ⟨World.ownsRow_lit w2 _ 1 (Nat.zero_le _) (by unfold maxLen; omega) rfl, by intro q hq; rw [List.mem_singleton.1 hq]; rfl⟩)
    | (refine step_apprs rfl _ _ 85 rfl i z Tryd.underlying85 hi hz hsz hby hzc (by omega) hrA hsrcA rfl (by intro u hu; simp at hu; subst hu; rfl) hlen5 (Nat.zero_le _) (by rfl) (by rfl) ?_; intro v3 w3 hr3 hg3 hn3 hnil3; obtain ⟨ao3, cap3, rfl, hy1, hy2, hy3⟩ := id hr3.val; clear hy1 hy2 hy3; have hc3 := hg3.cell c2A (fun e => hig e.symm); have hf3 : w3.frozen? ⟨g, k * 2, none⟩ = false := (World.frozen?_of_block (hg3.block g (Nat.lt_of_lt_of_le hgl2 hA.size) (fun e => hig e.symm))).trans f2A))
  all_goals
    have hw2 : w.heap.size ≤ w2.heap.size := hB2.size
    have hon3 : Only (fun q => (Value.slice io xs[k].inn.length ic).ownBlock = some q) w w3 := (((Only.of_below (S := fun q => (Value.slice io xs[k].inn.length ic).ownBlock = some q) hB2).trans (Only.of_below (S := fun q => (Value.slice io xs[k].inn.length ic).ownBlock = some q) hA) (fun _ _ h => h)).trans (Only.of_grown (S := fun q => (Value.slice io xs[k].inn.length ic).ownBlock = some q) hg3 (fun q hq => hq)) (fun _ _ h => h)).of_drew
    have hb3 : Bsl w3 (.slice ao2 l.length ca2) l := (ho2.bsl.keep hA).only (Only.of_grown (S := fun q => (Value.slice io xs[k].inn.length ic).ownBlock = some q) hg3 (fun q hq => hq)) (fun q hq e => by have h1 := hrl q e; have h2 : w.heap.size ≤ q := ho2.own_ge q hq; omega)
    obtain ⟨bs', hN, hE, hP⟩ := hset w3 _ (xs[k].inn ++ [⟨.slice ao2 l.length ca2, l⟩]) xs[k].held hon3 (by rw [List.map_append]; exact hr3) (by
        rcases hn3 with e | e
        · exact .inl e
        · exact .inr (.inr ⟨_, e, Nat.le_trans hw2 hA.size⟩)) (fun x hx => .inr (.inr hx)) (fun x hx => by
        rcases List.mem_append.1 hx with hx | hx
        · exact .inl (.inl hx)
        · rw [List.mem_singleton.1 hx]
          refine .inr ⟨hb3, hl, fun q hq => ?_⟩
          have h1 : w.heap.size ≤ q := ho2.own_ge q hq
          have h2 := ho2.own_lt q hq
          refine ⟨h1, Nat.lt_of_lt_of_le (Nat.lt_of_lt_of_le h2 hA.size) hg3.size, fun e => ?_⟩
          rcases hn3 with e2 | e2
          · rw [e2] at e; have := hrl q e; omega
          · rw [e2] at e; have := Option.some.inj e; have := hA.size; omega)
    have hst : (xs.set k { xs[k] with inn := xs[k].inn ++ [⟨.slice ao2 l.length ca2, l⟩], held := xs[k].held }).map BoxD.txt = (xs.map BoxD.txt).set k (xs[k].inn.map (·.l) ++ [l], xs[k].seen.map (·.l)) := by
      rw [List.map_set]; simp [BoxD.txt]
    have hl3 : (List.map msgC xs[k].inn ++ [[Value.slice ao2 l.length ca2]]).length = xs[k].inn.length + 1 := by simp
    rw [hl3] at hN hE
    have HN := Lib.hid hN
    have HE := Lib.hid hE
    have HS := Lib.hid hst
    clear hP hset hr3 hg3 hn3 hnil3 hrA hsrcA c2A f2A hon3 hb3 hN hE hst hc3 hf3 ho2 hB2 hA
    go_wp2_with fail
    go_ret
    exact ⟨rfl, bs', ⟨_, HS.out.symm, HN.out⟩, HE.out⟩
end Go.Proofs.YtjhocaleampamaaDoor
