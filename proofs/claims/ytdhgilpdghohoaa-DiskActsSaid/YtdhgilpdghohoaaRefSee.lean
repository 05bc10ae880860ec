/- casketref16.Disk: see, DocRead, Image. -/
import Derived.Test.YtdhgilpdghohoaaRefDisk
import Derived.IntWalk
namespace Go.Proofs.Ytdhgilpdghohoaa
open Go.RowKit
attribute [local go_sem ↓] alS_eqR stS_eqR ldS_eqR blS_eqR
attribute [local go_sem] run_alSR
/-- What is read at a place. -/
def seeL (f : List (List UInt8)) (l : List (Nat × List UInt8)) (at_ : Nat) : List UInt8 := l.foldl (fun acc x => if x.1 = at_ then x.2 else acc) (f.getD at_ [])
theorem seeL_snoc (f : List (List UInt8)) (l : List (Nat × List UInt8)) (x : Nat × List UInt8) (at_ : Nat) : seeL f (l ++ [x]) at_ = if x.1 = at_ then x.2 else seeL f l at_ := by simp [seeL]
theorem seeL_size {f : List (List UInt8)} {at_ : Nat} (hf : ∀ s ∈ f, s.length = 64) (ha : at_ < f.length) : ∀ l : List (Nat × List UInt8), (∀ x ∈ l, x.2.length = 64) → (seeL f l at_).length = 64 := by
  have h : ∀ l : List (Nat × List UInt8), (∀ x ∈ l, x.2.length = 64) → ∀ a : List UInt8, a.length = 64 → (l.foldl (fun acc x => if x.1 = at_ then x.2 else acc) a).length = 64 := by
    intro l
    induction l with
    | nil => intro _ a ha; exact ha
    | cons x l ih =>
      intro hl a ha
      rw [List.foldl_cons]
      refine ih (fun y hy => hl y (by simp [hy])) _ ?_
      split
      · exact hl x (by simp)
      · exact ha
  intro l hl
  exact h l hl _ (by rw [List.getD, List.getElem?_eq_getElem ha]; exact hf _ (List.getElem_mem ha))
set_option maxRecDepth 100000 in
set_option maxHeartbeats 1000000 in
theorem rsee_any (k : Nat) (w : World) {p n m : Nat} {d : DK} {bs : Nat → Prop} (h : RDAt w p d bs) (hok : d.Ok n m) (hk : k < n) :
    Calls Try.prog 28 #[.pointer (some ⟨p, 0, none⟩), .int .i64 k] w fun e w' => e = .returned (secV (seeL d.fast d.loose k)) ∧ Below w.heap.size w w' := by
  have hfl := hok.fast
  have hA : Below w.heap.size w (w.alloc (.cells (zC 1).toArray 35)) := (Below.refl _ _).alloc (Nat.le_refl _) _
  have hO := h.keep hA
  have ht : (w.alloc (.cells (zC 1).toArray 35)).there w.heap.size 0 64 := by
    intro j hj
    rw [World.cell?_alloc_new]
    refine ⟨?_, by simp⟩
    rw [Nat.zero_add, Array.getElem?_eq_getElem (by simpa [zC] using hj)]; rfl
  have hbl : ∀ s : List UInt8, Below w.heap.size w ((w.alloc (.cells (zC 1).toArray 35)).setCells w.heap.size 0 (secC s)) := fun s => Go.Proofs.Ytdhgilpdghohoaa.Below.setCells (Nat.le_refl _) _ _ hA
  have hres : ∀ s : List UInt8, s.length = 64 → ((w.alloc (.cells (zC 1).toArray 35)).setCells w.heap.size 0 (secC s)).rangeAt w.heap.size 0 (secC s) := fun s hs => World.rangeAt_setCells_same _ _ _ _ (by rw [show (secC s).length = 64 by simp [secC, hs]]; exact ht)
  obtain ⟨g, cap, c0, hcap, hcap2, hgp, hbg, _, hrng, _⟩ := hO.fastV (by intro e; rw [e] at hfl; simp at hfl; omega)
  obtain ⟨lv, c1, f1, r3, hlp, hlb, hst⟩ := hO.looseV
  clear hst h
  obtain ⟨lo, lc, rfl, hlc, hlm, hzz⟩ := r3.val
  rw [List.length_map] at hlc c1
  clear hzz
  go_enter Try.func28, Try.ntmps28
  go_wp2_with fail
  generalize hW : w.alloc (.cells (zC 1).toArray 35) = W1 at *
  go_loopw [5] (fun iv wr => ∃ r : Nat, r ≤ d.loose.length ∧ iv = .int .i64 ((r : Int) - 1) ∧ wr = W1 ∧ seeL d.fast d.loose k = seeL d.fast (d.loose.take r) k) (fun iv _ => (intOf iv + 1).toNat)
  case atStart => exact ⟨d.loose.length, Nat.le_refl _, rfl, rfl, by rw [List.take_length]⟩
  case round =>
    obtain ⟨r, hr, rfl, rfl, hsee⟩ := hrel
    have HS := Lib.hid hsee
    clear hsee
    cases r with
    | zero =>
      have hkf : k < d.fast.length := by omega
      obtain ⟨hr0, _⟩ := hrng k hkf
      have hs64 := hok.fastS _ (List.getElem_mem hkf)
      have hld := run_ldSR wr g (k * 64) d.fast[k] hr0 hs64
      have hstR := run_stSR wr w.heap.size 0 d.fast[k] ht hs64
      have hk0 : (0 : Int) ≤ (k : Int) := Int.natCast_nonneg _
      have hk8 : (k : Int) < d.fast.length := by omega
      have hv : seeL d.fast d.loose k = d.fast[k] := by rw [HS.out]; simp [seeL, List.getD, hkf]
      have HV := Lib.hid hv
      have HR := Lib.hid (hres _ hs64)
      have HB := Lib.hid (hbl d.fast[k])
      generalize d.fast[k] = s at *
      clear hr0 hrng hres hbl hv c1 r3
      go_wp2_with fail
      refine bodyPost_ret (results_cell Try.results28 rfl (run_loadVar_mid _ _ _ _ (secC s) _ HR.out Try.underlying35 rfl (by rw [show (secC s).length = 64 by simp [secC, hs64]]; kernel_rfl))) rfl ⟨?_, HB.out⟩
      rw [HV.out]; rfl
    | succ j =>
      rw [show (((j + 1 : Nat) : Int) - 1) = (j : Int) by omega]
      have hj8 : (j : Int) < d.loose.length := by omega
      have hj0 : (0 : Int) ≤ (j : Int) := Int.natCast_nonneg _
      have hjl : j < d.loose.length := by omega
      obtain ⟨gl, cl, hsl, hz1, hgl, hz2, hz3⟩ := r3.shape (by intro e; rw [List.map_eq_nil_iff] at e; rw [e] at hjl; simp at hjl)
      simp only [Value.slice.injEq, List.length_map] at hsl
      obtain ⟨rfl, hz4, rfl⟩ := hsl
      clear hz1 hz2 hz3 hz4
      have hrl := r3.range (by simp) (i := j) (by simpa using hjl)
      simp only [List.getElem_map] at hrl
      have hx64 := (hok.ats _ (List.getElem_mem hjl)).2
      have hsn := seeL_snoc d.fast (d.loose.take j) d.loose[j] k
      rw [← List.take_succ_eq_append_getElem hjl] at hsn
      generalize d.loose[j] = x at *
      have hb0 : wr.cell? ⟨gl, j * 65, none⟩ = some (.int .i64 x.1) := hrl 0 _ rfl
      have hb1 : wr.rangeAt gl (j * 65 + 1) (secC x.2) := by
        intro i u hu
        have := hrl (i + 1) u (by simpa [looC, secC] using hu)
        rw [show j * 65 + 1 + i = j * 65 + (i + 1) by omega]; exact this
      by_cases hxk : x.1 = k
      · have hld := run_ldSR wr gl (j * 65 + 1) x.2 hb1 hx64
        have hstR := run_stSR wr w.heap.size 0 x.2 ht hx64
        rw [if_pos hxk] at hsn
        have HV := Lib.hid (HS.out.trans hsn)
        have HR := Lib.hid (hres _ hx64)
        have HB := Lib.hid (hbl x.2)
        have hxk8 : (x.1 : Int) = k := by omega
        rw [hxk8] at hb0
        generalize x.2 = s at *
        clear hrng hres hbl hsn hrl hb1 r3 c0 hxk hxk8 HS
        go_wp2_with fail
        refine bodyPost_ret (results_cell Try.results28 rfl (run_loadVar_mid _ _ _ _ (secC s) _ HR.out Try.underlying35 rfl (by rw [show (secC s).length = 64 by simp [secC, hx64]]; kernel_rfl))) rfl ⟨?_, HB.out⟩
        rw [HV.out]; rfl
      · rw [if_neg hxk] at hsn
        have HV := Lib.hid (HS.out.trans hsn)
        have hxk8 : ¬ ((x.1 : Int) = k) := by omega
        clear hrng hsn hrl hb1 hxk HS
        go_wp2_with fail
        exact ⟨⟨j, by omega, rfl, trivial, HV.out⟩, by simp [intOf]⟩
theorem varR (w : World) : (w.alloc (.cells (zC 1).toArray 35)).there w.heap.size 0 64 ∧ (∀ s : List UInt8, Below w.heap.size w ((w.alloc (.cells (zC 1).toArray 35)).setCells w.heap.size 0 (secC s))) ∧
    (∀ s : List UInt8, s.length = 64 → ((w.alloc (.cells (zC 1).toArray 35)).setCells w.heap.size 0 (secC s)).rangeAt w.heap.size 0 (secC s)) := by
  have hA : Below w.heap.size w (w.alloc (.cells (zC 1).toArray 35)) := (Below.refl _ _).alloc (Nat.le_refl _) _
  have ht : (w.alloc (.cells (zC 1).toArray 35)).there w.heap.size 0 64 := by
    intro j hj
    rw [World.cell?_alloc_new]
    refine ⟨?_, by simp⟩
    rw [Nat.zero_add, Array.getElem?_eq_getElem (by simpa [zC] using hj)]; rfl
  exact ⟨ht, fun s => Go.Proofs.Ytdhgilpdghohoaa.Below.setCells (Nat.le_refl _) _ _ hA, fun s hs => World.rangeAt_setCells_same _ _ _ _ (by rw [show (secC s).length = 64 by simp [secC, hs]]; exact ht)⟩
def DK.rreadV (d : DK) (at_ : Int) : List UInt8 := if d.may at_ = 0 then seeL d.fast d.loose at_.toNat else secL 0
set_option maxRecDepth 100000 in
set_option maxHeartbeats 1000000 in
theorem rdread_any (at_ : Int) (w : World) {p n m : Nat} {d : DK} {bs : Nat → Prop} (h : RDAt w p d bs) (hok : d.Ok n m) :
    Calls Try.prog 17 #[.pointer (some ⟨p, 0, none⟩), .int .i64 at_] w fun e w' => e = .returned (.tuple #[secV (d.rreadV at_), .int .i64 (d.may at_)]) ∧ Below w.heap.size w w' := by
  obtain ⟨ht, hbl, hres⟩ := varR w
  have hA : Below w.heap.size w (w.alloc (.cells (zC 1).toArray 35)) := (Below.refl _ _).alloc (Nat.le_refl _) _
  have hO := h.keep hA
  have hwl : w.heap.size < (w.alloc (.cells (zC 1).toArray 35)).heap.size := by simp
  have hl0 := secL_len 0
  have hfl := hok.fast
  have hnl := hok.now
  have hbl0 := fun w => run_blSR w
  obtain ⟨fv, lv, ⟨c0, c1, c2, c3⟩, hf, r1, r2, n1, n2, b, rfl⟩ := id hO
  obtain ⟨fo, fc, rfl, hfc, hfm, hzz⟩ := r1.val
  rw [List.length_map] at c0
  clear hzz r1 r2 n1 n2 c1 c2 hf h
  have hst0 := run_stSR (w.alloc (.cells (zC 1).toArray 35)) w.heap.size 0 (secL 0) ht hl0
  unfold DK.rreadV DK.may
  cases ho : d.off with
  | true =>
    rw [ho] at c3
    simp only [if_true]
    rw [if_neg (by omega)]
    generalize secL 0 = z at *
    have HR := Lib.hid (hres _ hl0)
    have HB := Lib.hid (hbl z)
    clear hres hbl c0
    go_enter Try.func17, Try.ntmps17
    go_wp2_with fail
    refine bodyPost_ret (results_cell_tmp Try.results17 rfl (run_loadVar_mid _ _ _ _ (secC z) _ HR.out Try.underlying35 rfl (by rw [show (secC z).length = 64 by simp [secC, hl0]]; kernel_rfl))) rfl ⟨?_, HB.out⟩
    rfl
  | false =>
    rw [ho] at c3
    simp only [Bool.false_eq_true, if_false]
    by_cases hb : at_ < 0 ∨ (d.now.length : Int) ≤ at_
    · rw [if_pos hb, if_neg (by omega)]
      generalize secL 0 = z at *
      have HR := Lib.hid (hres _ hl0)
      have HB := Lib.hid (hbl z)
      have hb2 : at_ < 0 ∨ (0 ≤ at_ ∧ (d.fast.length : Int) ≤ at_) := by omega
      clear hres hbl hb
      rcases hb2 with hb2 | ⟨hb2, hb3⟩
      · go_enter Try.func17, Try.ntmps17
        go_wp2_with fail
        refine bodyPost_ret (results_cell_tmp Try.results17 rfl (run_loadVar_mid _ _ _ _ (secC z) _ HR.out Try.underlying35 rfl (by rw [show (secC z).length = 64 by simp [secC, hl0]]; kernel_rfl))) rfl ⟨?_, HB.out⟩
        rfl
      · go_enter Try.func17, Try.ntmps17
        go_wp2_with fail
        refine bodyPost_ret (results_cell_tmp Try.results17 rfl (run_loadVar_mid _ _ _ _ (secC z) _ HR.out Try.underlying35 rfl (by rw [show (secC z).length = 64 by simp [secC, hl0]]; kernel_rfl))) rfl ⟨?_, HB.out⟩
        rfl
    · rw [if_neg hb, if_pos rfl]
      obtain ⟨k, rfl⟩ : ∃ k : Nat, at_ = k := ⟨at_.toNat, by omega⟩
      rw [Int.toNat_natCast]
      have hkn : k < n := by omega
      have hk1 : ¬ ((k : Int) < 0) := by omega
      have hk2 : ¬ ((d.fast.length : Int) ≤ (k : Int)) := by omega
      have hs64 := seeL_size hok.fastS (show k < d.fast.length by omega) d.loose (fun x hx => (hok.ats x hx).2)
      clear hst0 hb
      go_enter Try.func17, Try.ntmps17
      go_wp2_with fail
      refine (rsee_any k _ hO hok hkn).mono ?_
      rintro e w2 ⟨rfl, hB2⟩
      have ht2 : w2.there w.heap.size 0 64 := fun j hj => by
        rw [hB2.cell (p := ⟨w.heap.size, 0 + j, none⟩) hwl, hB2.frozen (p := ⟨w.heap.size, 0 + j, none⟩) hwl]; exact ht j hj
      have hst := run_stSR w2 w.heap.size 0 (seeL d.fast d.loose k) ht2 hs64
      have HR := Lib.hid (World.rangeAt_setCells_same w2 w.heap.size 0 (secC (seeL d.fast d.loose k)) (by rw [show (secC (seeL d.fast d.loose k)).length = 64 by simp [secC, hs64]]; exact ht2))
      have HB := Lib.hid (Go.Proofs.Ytdhgilpdghohoaa.Below.setCells (Nat.le_refl _) (secC (seeL d.fast d.loose k)) 0 (hA.trans (hB2.mono hA.size)))
      clear hres hbl
      go_wp2_with fail
      refine bodyPost_ret (results_cell_tmp Try.results17 rfl (run_loadVar_mid _ _ _ _ (secC (seeL d.fast d.loose k)) _ HR.out Try.underlying35 rfl (by rw [show (secC (seeL d.fast d.loose k)).length = 64 by simp [secC, hs64]]; kernel_rfl))) rfl ⟨?_, HB.out⟩
      rfl
def imgL (d : DK) (r : Nat) : List UInt8 := ((List.range r).map (seeL d.fast d.loose)).flatten
theorem imgL_succ (d : DK) (r : Nat) : imgL d (r + 1) = imgL d r ++ seeL d.fast d.loose r := by simp [imgL, List.range_succ]
set_option maxRecDepth 100000 in
set_option maxHeartbeats 1000000 in
theorem rimage_any (w : World) {p n m : Nat} {d : DK} {bs : Nat → Prop} (h : RDAt w p d bs) (hok : d.Ok n m) (hn2 : n ≤ 8192) :
    Calls Try.prog 22 #[.pointer (some ⟨p, 0, none⟩)] w fun e w' => e = .returned (.string ⟨(imgL d n).toArray⟩) ∧ Below w.heap.size w w' := by
  have hfl := hok.fast
  obtain ⟨fv, lv, ⟨c0, c1, c2, c3⟩, hf, r1, r2, n1, n2, b, rfl⟩ := id h
  obtain ⟨fo, fc, rfl, hfc, hfm, hzz⟩ := r1.val
  rw [List.length_map, hfl] at c0
  clear hzz r1 r2 n1 n2 c1 c2 c3 hf
  have hpl : p < w.heap.size := World.block_lt_of_cell? w _ c0
  have hsz : ∀ r, r < n → (seeL d.fast d.loose r).length = 64 := fun r hr => seeL_size hok.fastS (by omega) d.loose (fun x hx => (hok.ats x hx).2)
  have hil : ∀ r, r ≤ n → (imgL d r).length = r * 64 := by
    intro r
    induction r with
    | zero => intro _; simp [imgL]
    | succ r ih => intro hr; rw [imgL_succ, List.length_append, ih (by omega), hsz r (by omega)]; omega
  go_enter Try.func22, Try.ntmps22
  go_wp2_with fail
  go_loopw [3, 4] (fun ov iv wr => ∃ r : Nat, r ≤ n ∧ iv = .int .i64 r ∧ OB wr w.heap.size ov (imgL d r) ∧ Below w.heap.size w wr) (fun _ iv _ => n - (intOf iv).toNat)
  case atStart => exact ⟨0, by omega, rfl, by simpa [imgL] using OB.nil _ _, Below.refl _ _⟩
  case round =>
    obtain ⟨r, hr, rfl, hov, hB⟩ := hrel
    have c0 := (hB.cell (p := ⟨p, 0, none⟩) hpl).trans c0
    by_cases hlt : r < n
    · have hlt8 : (r : Int) < n := by omega
      go_wp2_with fail
      refine (rsee_any r wr (h.keep hB) hok hlt).mono ?_
      rintro e w2 ⟨rfl, hB2⟩
      have hl := hsz r hlt
      obtain ⟨ht, hbl, hres⟩ := varR w2
      have hst := run_stSR (w2.alloc (.cells (zC 1).toArray 35)) w2.heap.size 0 (seeL d.fast d.loose r) ht hl
      have hb2 := hbl (seeL d.fast d.loose r)
      have hbs2 := Bsl.of_sec (hres _ hl) hl
      have hov2 := (hov.keep hB2).keep hb2
      have hB3 := (hB.trans (hB2.mono hB.size)).trans (hb2.mono (Nat.le_trans hB.size hB2.size))
      have hge := hov2.own_ge
      have hil2 := hil r hr
      have HS := Lib.hid (imgL_succ d r)
      clear hov hB hB2 hres hbl
      go_wp2_with (at_builtin; refine wp_app rfl _ _ rfl w.heap.size _ _ _ (seeL d.fast d.loose r) rfl rfl hov2 hbs2 (by omega) hB3.size ?_; intro v3 w3 ho3 hg3 hn3; clear hn3)
      have hB4 := hB3.grown hg3 hB3.size hge
      go_roundw
      case rel => exact ⟨r + 1, by omega, rfl, by rw [HS.out]; exact ho3, hB4⟩
      case measure => simp [intOf]; omega
    · have hlt8 : ¬ ((r : Int) < n) := by omega
      have hrn : r = n := by omega
      rw [hrn] at hov
      have hst := run_str wr hov.bsl
      go_wp2_with fail
      go_ret
      exact ⟨rfl, hB⟩
end Go.Proofs.Ytdhgilpdghohoaa
