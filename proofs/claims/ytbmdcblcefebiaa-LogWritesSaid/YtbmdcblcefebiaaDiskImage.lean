/- disk.Disk: Size, Image; and all methods of no disk. -/
import Derived.Test.YtbmdcblcefebiaaDiskAny
namespace Go.Proofs.Ytbmdcblcefebiaa
open Go.RowKit
attribute [local go_sem ↓] alS_eq stS_eq ldS_eq
attribute [local go_sem] run_alS
set_option maxRecDepth 100000 in
set_option maxHeartbeats 400000 in
theorem dsize_any (w : World) {p : Nat} {d : DK} {bs : Nat → Prop} (h : DiskAt w p d bs) :
    Calls Try.prog 35 #[.pointer (some ⟨p, 0, none⟩)] w fun e w' => e = .returned (.int .i64 d.now.length) ∧ w = w' := by
  obtain ⟨nv, fv, lv, ⟨c0, c1, c2, c3, c4⟩, hf, r1, r2, r3, n1, n2, n3, b, rfl⟩ := h
  obtain ⟨ao, cap, rfl, _, _, hz⟩ := r1.val
  rw [List.length_map] at c0
  clear r1 r2 r3 n1 n2 n3 hf c1 c2 c3 hz b
  go_enter Try.func35, Try.ntmps35
  go_wp2_with fail
  go_ret
  exact ⟨rfl, rfl⟩
theorem Bsl.of_sec {w : World} {b : Nat} {s : List UInt8} (h : w.rangeAt b 0 (secC s)) (hl : s.length = 64) : Bsl w (.slice (some ⟨b, 0, none⟩) 64 64) s := by
  refine ⟨_, 64, by rw [hl], by omega, by omega, by simp, fun _ => ⟨b, 0, rfl, fun j hj => ?_⟩⟩
  have := h j (bv (s.getD j 0)) (by simp [secC, List.getD, hj])
  rw [Nat.zero_add] at this ⊢
  exact this
set_option maxRecDepth 100000 in
set_option maxHeartbeats 1000000 in
theorem dimage_any (w : World) {p n m : Nat} {d : DK} {bs : Nat → Prop} (h : DiskAt w p d bs) (hok : d.Ok n m) (hn : 0 < n) (hn2 : n ≤ 8192) :
    Calls Try.prog 26 #[.pointer (some ⟨p, 0, none⟩)] w fun e w' => ∃ v, e = .returned v ∧ OB w' w.heap.size v d.now.flatten ∧ Below w.heap.size w w' := by
  have hnl := hok.now
  obtain ⟨g, cap, c0, hcap, hcap2, hgp, hbg, hrng, hset⟩ := h.nowV (by intro e; rw [e] at hnl; simp at hnl; omega)
  clear hset
  have hgl : g < w.heap.size := h.lt g hbg
  have hall := hok.nowS
  generalize d.now = N at *
  clear h hok hbg
  rw [hnl] at c0 hcap
  go_enter Try.func26, Try.ntmps26
  go_wp2_with fail
  go_loopw [3, 13] (fun ov iv wr => ∃ r : Nat, r ≤ n ∧ iv = .int .i64 r ∧ OB wr w.heap.size ov (N.take r).flatten ∧ Below w.heap.size w wr) (fun _ iv _ => n - (intOf iv).toNat)
  case atStart => exact ⟨0, by omega, rfl, by simpa using OB.nil _ _, Below.refl _ _⟩
  case round =>
    obtain ⟨r, hr, rfl, hov, hB⟩ := hrel
    by_cases hlt : r < n
    · have hlt8 : (r : Int) < n := by omega
      have hltN : r < N.length := by omega
      obtain ⟨hr0, _, hl⟩ := hrng r hltN
      have hstep : N.take (r + 1) = N.take r ++ [N[r]] := by rw [List.take_succ_eq_append_getElem hltN]
      have hr1 : wr.rangeAt g (r * 64) (secC N[r]) := fun j v hv => (hB.cell (p := ⟨g, r * 64 + j, none⟩) hgl).trans (hr0 j v hv)
      generalize N[r] = s at *
      have hld := run_ldS wr _ _ s hr1 hl
      have hst := run_stS (wr.alloc (.cells (zC 1).toArray 39)) wr.heap.size 0 s (there_alS wr) hl
      obtain ⟨hv1, hv2, hv3⟩ := secV_var wr s hl
      have hov2 := hov.keep hv2
      have hbs2 := Bsl.of_sec hv1 hl
      have hB2 := hB.trans (hv2.mono hB.size)
      have hge := hov2.own_ge
      have hflen : (N.take r).flatten.length ≤ 1000000 := by
        have : ∀ (l : List (List UInt8)), (∀ s ∈ l, s.length = 64) → l.flatten.length = l.length * 64 := by
          intro l
          induction l with
          | nil => intro _; rfl
          | cons a l ih => intro hl; simp only [List.flatten_cons, List.length_append, List.length_cons]; rw [hl a (by simp), ih (fun s hs => hl s (by simp [hs]))]; omega
        rw [this _ (fun s hs => hall s (List.mem_of_mem_take hs)), List.length_take]; omega
      have HS := Lib.hid hstep
      clear hr0 hr1 hstep hv1 hv2 hov hB
      go_wp2_with (at_builtin; refine wp_app rfl _ _ rfl w.heap.size _ _ _ s rfl rfl hov2 hbs2 ?_ ?_ ?_)
      · rw [hl]; omega
      · exact hB2.size
      intro v3 w3 ho3 hg3 hn3
      have hB3 := hB2.grown hg3 hB2.size hge
      go_wp2_with fail
      go_roundw
      case rel => exact ⟨r + 1, by omega, rfl, by rw [HS.out, List.flatten_append]; simpa using ho3, hB3⟩
      case measure => simp [intOf]; omega
    · have hlt8 : ¬ ((r : Int) < n) := by omega
      have hrn : r = n := by omega
      rw [hrn, List.take_of_length_le (by omega)] at hov
      go_wp2_with fail
      go_ret
      exact ⟨_, rfl, hov, hB⟩
/- No disk. -/
set_option maxRecDepth 100000 in
theorem nmay (at_ : Int) (w : World) : Calls Try.prog 39 #[.pointer none, .int .i64 at_] w fun e w' => e = .returned (.int .i64 1) ∧ w = w' := by
  go_enter Try.func39, Try.ntmps39
  go_wp2_with fail
  go_ret
  exact ⟨rfl, rfl⟩
set_option maxRecDepth 100000 in
theorem nsize (w : World) : Calls Try.prog 35 #[.pointer none] w fun e w' => e = .returned (.int .i64 0) ∧ w = w' := by
  go_enter Try.func35, Try.ntmps35
  go_wp2_with fail
  go_ret
  exact ⟨rfl, rfl⟩
set_option maxRecDepth 100000 in
theorem nloose (w : World) : Calls Try.prog 28 #[.pointer none] w fun e w' => e = .returned (.int .i64 0) ∧ w = w' := by
  go_enter Try.func28, Try.ntmps28
  go_wp2_with fail
  go_ret
  exact ⟨rfl, rfl⟩
set_option maxRecDepth 100000 in
theorem noff (w : World) : Calls Try.prog 21 #[.pointer none] w fun e w' => e = .returned (.bool true) ∧ w = w' := by
  go_enter Try.func21, Try.ntmps21
  go_wp2_with fail
  go_ret
  exact ⟨rfl, rfl⟩
set_option maxRecDepth 100000 in
theorem nimage (w : World) : Calls Try.prog 26 #[.pointer none] w fun e w' => e = .returned (.slice none 0 0) ∧ w = w' := by
  go_enter Try.func26, Try.ntmps26
  go_wp2_with fail
  go_ret
  exact ⟨rfl, rfl⟩
set_option maxRecDepth 100000 in
theorem nfuse (n : Int) (w : World) : Calls Try.prog 20 #[.pointer none, .int .i64 n] w fun e w' => e = .returned (.tuple #[]) ∧ w = w' := by
  go_enter Try.func20, Try.ntmps20
  go_wp2_with fail
  go_end0
  exact ⟨rfl, rfl⟩
set_option maxRecDepth 100000 in
theorem ncrash (v : Value) (w : World) : Calls Try.prog 24 #[.pointer none, v] w fun e w' => e = .returned (.tuple #[]) ∧ w = w' := by
  go_enter Try.func24, Try.ntmps24
  go_wp2_with fail
  refine bodyPost_ret (results_none rfl _ _ _) rfl ?_
  exact ⟨rfl, rfl⟩
set_option maxRecDepth 100000 in
theorem nsync (w : World) : Calls Try.prog 49 #[.pointer none] w fun e w' => e = .returned (.int .i64 1) ∧ w = w' := by
  go_enter Try.func49, Try.ntmps49
  go_wp2_with fail
  refine (nmay 0 w).mono ?_
  rintro e w1 ⟨rfl, rfl⟩
  go_wp2_with fail
  go_ret
  exact ⟨rfl, rfl⟩
set_option maxRecDepth 100000 in
set_option maxHeartbeats 400000 in
theorem nwrite (at_ : Int) (s : List UInt8) (hs : s.length = 64) (w : World) : Calls Try.prog 16 #[.pointer none, .int .i64 at_, secV s] w fun e w' => e = .returned (.int .i64 1) ∧ Below w.heap.size w w' := by
  have hlen : (secC s).length = 64 := by simp [secC, hs]
  have hi : (Try.prog.info? 39).map (·.size) = some (secC s).length := by rw [hlen]; exact Try.info_sec
  unfold secV
  rw [show s.map bv = secC s from rfl]
  generalize secC s = cs at *
  go_enter Try.func16, Try.ntmps16
  go_wp2_with fail
  refine (nmay at_ _).mono ?_
  rintro e w1 ⟨rfl, rfl⟩
  have hb : Below w.heap.size w (w.alloc (.cells cs.toArray 39)) := (Below.refl _ _).alloc (Nat.le_refl _) _
  go_wp2_with fail
  go_ret
  exact ⟨rfl, hb⟩
end Go.Proofs.Ytbmdcblcefebiaa
