/- disk.Disk: Read, Write and Sync at every argument and state. -/
import Derived.Test.YtbmdcblcefebiaaDiskTop
import Derived.Test.YtbmdcblcefebiaaDiskSync
namespace Go.Proofs.Ytbmdcblcefebiaa
open Go.RowKit
def blS (parts : Array (Nat × Value)) : Sem Value := Instr.build 39 parts
theorem blS_eq (parts : Array (Nat × Value)) : Instr.build 39 parts = blS parts := rfl
theorem run_blS (w : World) : (blS #[]).run Try.prog w = .ok (secV (secL 0)) w := by
  obtain ⟨i, z, hi, hz, hzc, _⟩ := Try.sec_parts
  obtain ⟨i0, hi0, hz0, hz1, hz2⟩ := info_parts Try.info_u8
  have hs : secV (secL 0) = .agg z.cells := by rw [hzc]; unfold secV secL; rw [List.map_replicate]
  rw [hs]
  simp [blS, Instr.build, zeroValue, typeInfo, hi, hz, run_underlying Try.underlying39, sizeOf, hi0, Instr.fill]
attribute [local go_sem ↓] alS_eq stS_eq blS_eq
attribute [local go_sem] run_alS
set_option maxRecDepth 100000 in
set_option maxHeartbeats 1000000 in
theorem dread_bad (at_ : Int) (w : World) {p : Nat} {d : DK} {bs : Nat → Prop} (h : DiskAt w p d bs) (hbad : d.may at_ ≠ 0) :
    Calls Try.prog 15 #[.pointer (some ⟨p, 0, none⟩), .int .i64 at_] w fun e w' => e = .returned (.tuple #[secV (secL 0), .int .i64 (d.may at_)]) ∧ Below w.heap.size w w' := by
  have hB1 : Below w.heap.size w (w.alloc (.cells (zC 1).toArray 39)) := (Below.refl _ _).alloc (Nat.le_refl _) _
  have hO := h.keep hB1
  have hst := run_stS (w.alloc (.cells (zC 1).toArray 39)) w.heap.size 0 (secL 0) (there_alS w) (secL_len 0)
  obtain ⟨hv1, hv2, hv3⟩ := secV_var w (secL 0) (secL_len 0)
  have hl0 := secL_len 0
  have hbl := fun w => run_blS w
  generalize hm : d.may at_ = m at *
  generalize secL 0 = z at *
  have hlc : (secC z).length = 64 := by simp [secC, hl0]
  have HV := Lib.hid hv1
  have HB := Lib.hid hv2
  clear hv1 hv2 hv3 hB1
  go_enter Try.func15, Try.ntmps15
  go_wp2_with fail
  refine (dmay_any at_ _ hO).mono ?_
  rintro e w1 ⟨rfl, rfl⟩
  rw [hm]
  go_wp2_with fail
  refine bodyPost_ret (results_cell_tmp Try.results15 rfl (run_loadVar_mid _ _ _ _ (secC z) _ HV.out Try.underlying39 rfl (by rw [hlc]; kernel_rfl))) rfl ⟨?_, HB.out⟩
  rfl
/-- What a Read tells. -/
def DK.readE (d : DK) (at_ : Int) : Int := d.may at_
def DK.readV (d : DK) (at_ : Int) : List UInt8 := if d.may at_ = 0 then d.now.getD at_.toNat [] else secL 0
theorem DK.may_zero {d : DK} {at_ : Int} (h : d.may at_ = 0) : d.off = false ∧ 0 ≤ at_ ∧ at_ < d.now.length := by
  unfold DK.may at h
  split at h
  · omega
  · rename_i ho
    split at h
    · omega
    · exact ⟨by simpa using ho, by omega, by omega⟩
theorem dread_any (at_ : Int) (w : World) {p : Nat} {d : DK} {bs : Nat → Prop} (h : DiskAt w p d bs) :
    Calls Try.prog 15 #[.pointer (some ⟨p, 0, none⟩), .int .i64 at_] w fun e w' => e = .returned (.tuple #[secV (d.readV at_), .int .i64 (d.readE at_)]) ∧ Below w.heap.size w w' := by
  by_cases hb : d.may at_ = 0
  · obtain ⟨h1, h2, h3⟩ := DK.may_zero hb
    have := dread_ok at_.toNat w h h1 (by omega)
    rw [Int.toNat_of_nonneg h2] at this
    refine this.mono ?_
    rintro e w' ⟨rfl, _, hB⟩
    refine ⟨?_, hB⟩
    have hlt : at_.toNat < d.now.length := by omega
    simp [DK.readV, DK.readE, hb, List.getD, List.getElem?_eq_getElem hlt]
  · refine (dread_bad at_ w h hb).mono ?_
    rintro e w' ⟨rfl, hB⟩
    exact ⟨by simp [DK.readV, DK.readE, hb], hB⟩
/-- What a Write tells, and leaves. -/
def DK.wrE (d : DK) (at_ : Int) (s : List UInt8) : Int := if d.may at_ = 0 then (if (d.write at_.toNat s).off then 9 else 0) else d.may at_
def DK.wrS (d : DK) (at_ : Int) (s : List UInt8) : DK := if d.may at_ = 0 then d.write at_.toNat s else d
theorem dwrite_any (at_ : Int) (s : List UInt8) (w : World) {p : Nat} {d : DK} {bs : Nat → Prop} (h : DiskAt w p d bs) (hs : s.length = 64) (hll : d.loose.length ≤ 100000) :
    Calls Try.prog 16 #[.pointer (some ⟨p, 0, none⟩), .int .i64 at_, secV s] w fun e w' => e = .returned (.int .i64 (d.wrE at_ s)) ∧ ∃ bs', DiskAt w' p (d.wrS at_ s) bs' ∧ DEff w w' bs bs' := by
  by_cases hb : d.may at_ = 0
  · obtain ⟨h1, h2, h3⟩ := DK.may_zero hb
    have := dwrite_ok at_.toNat s w h hs h1 (by omega) hll
    rw [Int.toNat_of_nonneg h2] at this
    unfold DK.wrE DK.wrS
    rw [if_pos hb, if_pos hb]
    exact this
  · refine (dwrite_bad at_ s w h hs hb).mono ?_
    rintro e w' ⟨rfl, hO, hB⟩
    unfold DK.wrE DK.wrS
    rw [if_neg hb, if_neg hb]
    exact ⟨rfl, bs, hO, ⟨Only.of_below hB, fun _ h => .inl h⟩⟩
/-- What a Sync tells, and leaves. -/
def DK.syE (d : DK) : Int := if d.may 0 = 0 then (if d.burn.off then 9 else 0) else d.may 0
def DK.syS (d : DK) : DK := if d.may 0 = 0 then (if d.burn.off then d.burn else { d.burn with fast := d.now, loose := [] }) else d
theorem dsync_any (w : World) {p : Nat} {d : DK} {bs : Nat → Prop} (h : DiskAt w p d bs) :
    Calls Try.prog 49 #[.pointer (some ⟨p, 0, none⟩)] w fun e w' => e = .returned (.int .i64 d.syE) ∧ ∃ bs', DiskAt w' p d.syS bs' ∧ DEff w w' bs bs' := by
  by_cases hb : d.may 0 = 0
  · obtain ⟨h1, h2, h3⟩ := DK.may_zero hb
    unfold DK.syE DK.syS
    rw [if_pos hb, if_pos hb]
    exact dsync_ok w h h1 (by intro e; rw [e] at h3; simp at h3)
  · refine (dsync_bad w h hb).mono ?_
    rintro e w' ⟨rfl, rfl⟩
    unfold DK.syE DK.syS
    rw [if_neg hb, if_neg hb]
    exact ⟨rfl, bs, h, DEff.refl _ _⟩
/-- The disk's own shape, kept by all calls. -/
structure DK.Ok (d : DK) (n m : Nat) : Prop where
  now : d.now.length = n
  fast : d.fast.length = n
  ats : ∀ x ∈ d.loose, x.1 < n ∧ x.2.length = 64
  few : d.loose.length ≤ m
  nowS : ∀ s ∈ d.now, s.length = 64
  fastS : ∀ s ∈ d.fast, s.length = 64
  fuse : 0 ≤ d.fuse
theorem DK.Ok.new (n : Nat) : (DK.new n).Ok n 0 :=
  ⟨by simp [DK.new], by simp [DK.new], by simp [DK.new], by simp [DK.new], fun s hs => by rw [List.eq_of_mem_replicate hs]; simp [secL], fun s hs => by rw [List.eq_of_mem_replicate hs]; simp [secL], by simp [DK.new]⟩
theorem DK.Ok.burn {d : DK} {n m : Nat} (h : d.Ok n m) : d.burn.Ok n m := by
  unfold DK.burn
  split
  · exact ⟨h.now, h.fast, h.ats, h.few, h.nowS, h.fastS, by simp; omega⟩
  · exact h
theorem DK.Ok.more {d : DK} {n m m' : Nat} (h : d.Ok n m) (hm : m ≤ m') : d.Ok n m' := ⟨h.now, h.fast, h.ats, Nat.le_trans h.few hm, h.nowS, h.fastS, h.fuse⟩
theorem DK.Ok.write {d : DK} {n m k : Nat} (h : d.Ok n m) (hk : k < n) {s : List UInt8} (hs : s.length = 64) : (d.write k s).Ok n (m + 1) := by
  unfold DK.write
  refine DK.Ok.burn ⟨by simpa using h.now, h.fast, ?_, by simpa using h.few, ?_, h.fastS, h.fuse⟩
  · intro x hx
    rcases List.mem_append.1 hx with hx | hx
    · exact h.ats x hx
    · rw [List.mem_singleton.1 hx]; exact ⟨hk, hs⟩
  · intro q hq
    rcases List.mem_or_eq_of_mem_set hq with hq | rfl
    · exact h.nowS q hq
    · exact hs
theorem DK.Ok.wrS {d : DK} {n m : Nat} (h : d.Ok n m) (at_ : Int) {s : List UInt8} (hs : s.length = 64) : (d.wrS at_ s).Ok n (m + 1) := by
  unfold DK.wrS
  split
  · rename_i hb
    obtain ⟨_, h2, h3⟩ := DK.may_zero hb
    exact h.write (by have := h.now; omega) hs
  · exact h.more (by omega)
theorem DK.burn_now (d : DK) : d.burn.now = d.now := by unfold DK.burn; split <;> rfl
theorem DK.Ok.syS {d : DK} {n m : Nat} (h : d.Ok n m) : d.syS.Ok n m := by
  unfold DK.syS
  split
  · split
    · exact h.burn
    · exact ⟨h.burn.now, by simpa using h.now, by simp, by simp, h.burn.nowS, h.nowS, h.burn.fuse⟩
  · exact h
theorem lay_sizes (n : Nat) : ∀ (xs : List (Nat × List UInt8)) (f : List (List UInt8)) (bs : List Bool), (∀ s ∈ f, s.length = n) → (∀ x ∈ xs, x.2.length = n) → ∀ s ∈ lay f xs bs, s.length = n
  | [], f, _, hf, _ => hf
  | _ :: _, f, [], hf, _ => hf
  | x :: xs, f, b :: bs, hf, hx => by
    rw [lay]
    refine lay_sizes n xs _ bs ?_ (fun y hy => hx y (by simp [hy]))
    split
    · intro s hs
      rcases List.mem_or_eq_of_mem_set hs with hs | rfl
      · exact hf s hs
      · exact hx x (by simp)
    · exact hf
theorem DK.Ok.crash {d : DK} {n m : Nat} (h : d.Ok n m) (stay : List Bool) : (d.crash stay).Ok n 0 :=
  have hs := lay_sizes 64 d.loose d.fast stay h.fastS (fun x hx => (h.ats x hx).2)
  ⟨by simp [DK.crash, lay_length, h.fast], by simp [DK.crash, lay_length, h.fast], by simp [DK.crash], by simp [DK.crash], hs, hs, by simp [DK.crash]⟩
end Go.Proofs.Ytbmdcblcefebiaa
