/- disk.Disk: Read, Loose. -/
import Derived.Test.YtbmdcblcefebiaaDiskSec
import Derived.Test.YtbmdcblcefebiaaDiskParts
namespace Go.Proofs.Ytbmdcblcefebiaa
open Go.RowKit
theorem results_cell_tmp {P : Program} {fn : Func} {a u : Tmp} {t : TypeId} {b o : Nat} {v : Value} {w : World} {tmps : Array Value} (h : fn.results = #[.cell a t, .tmp u]) (ha : tmps.getD a undef = .pointer (some ⟨b, o, none⟩))
    (hr : (loadVar t ⟨b, o, none⟩).run P w = .ok v w) : (results fn tmps).run P w = .ok (.tuple #[v, tmps.getD u undef]) w := by
  unfold results
  rw [h]
  simp only [asAddr, ha, hr, List.mapM_toArray, List.mapM_cons, List.mapM_nil, Sem.run_bind, Sem.run_pure, Result.andThen_ok, Sem.run_map]
  simp
theorem Try.info_secR : (Try.prog.info? 39).map (·.size) = some 64 := by kernel_rfl
set_option maxRecDepth 100000 in
set_option maxHeartbeats 1000000 in
theorem dread_ok (k : Nat) (w : World) {p : Nat} {d : DK} {bs : Nat → Prop} (h : DiskAt w p d bs) (ho : d.off = false) (hk : k < d.now.length) :
    Calls Try.prog 15 #[.pointer (some ⟨p, 0, none⟩), .int .i64 k] w fun e w' => e = .returned (.tuple #[secV d.now[k], .int .i64 0]) ∧ DiskAt w' p d bs ∧ Below w.heap.size w w' := by
  have hmay : d.may k = 0 := by unfold DK.may; rw [ho, if_neg (by simp), if_neg (by omega)]
  have hk0 : (0 : Int) ≤ (k : Int) := Int.natCast_nonneg _
  have hk8 : (k : Int) < d.now.length := by omega
  unfold secV
  rw [show d.now[k].map bv = secC d.now[k] from rfl]
  generalize hcs : secC d.now[k] = cs
  go_enter Try.func15, Try.ntmps15
  go_wp2_with fail
  have h0 : secPart 0 0 = (List.replicate 64 (Value.int .u8 0)).toArray := by simp [secPart, bv]
  have hB0 : Below w.heap.size w (w.alloc (Obj.cells (secPart 0 0) 39)) := (Below.refl _ _).alloc (Nat.le_refl _) _
  have ht1 : (w.alloc (Obj.cells (secPart 0 0) 39)).there w.heap.size 0 64 := by
    intro j hj
    rw [World.cell?_alloc_new]
    refine ⟨?_, by simp⟩
    simp only [Nat.zero_add]
    rw [Array.getElem?_eq_getElem (by rw [secPart_size 0 0 (by omega)]; exact hj)]; rfl
  rw [h0] at hB0 ht1
  generalize hW : w.alloc (Obj.cells _ 39) = W1
  have ht1 : W1.there w.heap.size 0 64 := by rw [← hW]; exact ht1
  have hB1 : Below w.heap.size w W1 := by rw [← hW]; exact hB0
  clear hW hB0
  have hO := h.keep hB1
  refine (dmay_any k _ hO).mono ?_
  rintro e w1 ⟨rfl, rfl⟩
  rw [hmay]
  obtain ⟨g, cap, c0, hcap, hcap2, hgp, hbg, hrng, hset⟩ := hO.nowV (by intro e; rw [e] at hk; simp at hk)
  obtain ⟨hr, _, hl64⟩ := hrng k hk
  rw [hcs] at hr
  have hlen : cs.length = 64 := by rw [← hcs, secC_length]; exact hl64
  have hone : ∀ v ∈ cs, v.oneCell' = true := by rw [← hcs]; exact bv_one _
  clear hset hrng hcs
  have hi : (Try.prog.info? 39).map (·.size) = some cs.length := by rw [hlen]; exact Try.info_secR
  have hth' : W1.there w.heap.size 0 cs.toArray.size := by simpa [hlen] using ht1
  go_wp2_with (first | (refine wpList_load_mid rfl _ _ rfl _ _ rfl cs _ hr Try.underlying39 rfl hi ?_) | (refine wpList_store_mid rfl _ _ _ rfl _ _ cs.toArray rfl rfl hth' (by simpa using hi) (all_oneCell_toArray hone) ?_))
  have hsame := World.rangeAt_setCells_same W1 w.heap.size 0 cs (by rw [hlen]; exact ht1)
  have hB2 : Below w.heap.size w (W1.setCells w.heap.size 0 cs) := Go.Proofs.Ytbmdcblcefebiaa.Below.setCells (Nat.le_refl _) _ _ hB1
  refine bodyPost_ret (results_cell_tmp Try.results15 rfl (run_loadVar_mid _ _ _ _ cs _ hsame Try.underlying39 rfl hi)) rfl ⟨?_, h.keep hB2, hB2⟩
  rfl
set_option maxRecDepth 100000 in
set_option maxHeartbeats 400000 in
theorem dloose_any (w : World) {p : Nat} {d : DK} {bs : Nat → Prop} (h : DiskAt w p d bs) :
    Calls Try.prog 28 #[.pointer (some ⟨p, 0, none⟩)] w fun e w' => e = .returned (.int .i64 d.loose.length) ∧ w = w' := by
  obtain ⟨lv, c2, f2, r3, hlp, hlb, hst⟩ := h.looseV
  obtain ⟨ao, cap, rfl, _, _, _⟩ := r3.val
  rw [List.length_map] at c2
  clear hst r3
  go_enter Try.func28, Try.ntmps28
  go_wp2_with fail
  go_ret
  exact ⟨rfl, rfl⟩
end Go.Proofs.Ytbmdcblcefebiaa
