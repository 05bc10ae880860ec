/- The walk of the writer's row. -/
import Derived.Test.YtjhocaleampamaaDoorMsgV
import Derived.Deep.RegionHeldLaw
namespace Go.Proofs.YtjhocaleampamaaDoor
open Go.RowKit
set_option linter.unusedVariables false
theorem Tryd.info_row : (Tryd.prog.info? 41).map (·.size) = some 33 := by kernel_rfl
set_option maxRecDepth 100000 in
set_option maxHeartbeats 1000000 in
theorem wrow_any (y : RV) (w0 w : World) {B p : Nat} {l : List UInt8} {bad : Bool} {g : Option Nat} (hy : y.At w0) (hb0 : Below w0.heap.size w0 w) (hB0 : w0.heap.size ≤ B) (h : WrAt w B p l bad g) (hs : y.set.length ≤ 1000000) (hl : l.length ≤ 2000000000) :
    Calls Tryd.prog 53 #[.pointer (some ⟨p, 0, none⟩), .agg y.C.toArray] w fun e w' => e = .returned (.tuple #[]) ∧ ∃ g', WrAt w' B p (l ++ rowB y.d) (bad || !setK y.d) g' ∧ WEff w w' p g g' := by
  have hset : setK y.d = true := by unfold setK RV.d; exact decide_eq_true (by show y.set.length ≤ _; omega)
  rw [hset]
  have hy1 := hy.keep hb0
  have hlen := RV.C_len hy
  have hone := RV.C_one hy
  have hu := Tryd.underlying41
  have hi : (Tryd.prog.info? 41).map (·.size) = some y.C.length := by rw [hlen]; exact Tryd.info_row
  obtain ⟨ao, cap, hsv⟩ := hy.2.shape
  have hpl := h.lt
  have hge := h.ge
  have hbx : (w.alloc (.cells y.C.toArray 41)).rangeAt w.heap.size 0 y.C := rangeAt_alloc_new _ _ _
  have hA : Below w.heap.size w (w.alloc (.cells y.C.toArray 41)) := (Below.refl _ _).alloc (Nat.le_refl _) _
  have hsz : (w.alloc (.cells y.C.toArray 41)).heap.size = w.heap.size + 1 := by simp
  obtain ⟨hr1, hr2⟩ := RV.range hbx hy.1
  rw [Nat.zero_add, hsv] at hr2
  have hh := h.keep hA
  have hy2 := hy1.keep hA
  have hk32 := hy.1
  have hset0 : (y.set.length : Int) ≤ 1048576 := by omega
  generalize hcs : y.C = cs at *
  go_enter Tryd.func53, Tryd.ntmps53
  generalize hW1 : w.alloc (.cells cs.toArray 41) = W1 at *
  go_wp2_with fail
  refine (wneed_any true _ hh).mono ?_
  rintro e w2 ⟨rfl, hW2, hE2⟩
  have hbp : ¬ (w.heap.size = p ∨ g = some w.heap.size) := fun e => e.elim (fun e => by omega) (fun e => by have := (hge.2 _ e).2; omega)
  have hr1' := rangeAt_only hr1 hE2.only hbp
  have c1 := (hE2.only.cell (p := ⟨w.heap.size, 32, none⟩) (show w.heap.size < W1.heap.size by omega) hbp).trans hr2
  have hkb : Bsl w2 (.slice (some ⟨w.heap.size, 0, none⟩) 32 32) y.key := Bsl.of_range hr1' hk32.symm (by omega)
  have hBE := hE2.below hh
  have hsb2 : Bsl w2 y.sv y.set := hy.2.keep ((hb0.trans (hA.mono hb0.size)).trans (hBE.mono hB0))
  have hsz2 := hE2.only.size
  have hown := hy.2.own_lt
  obtain ⟨ob, hO, hc, hf, hb⟩ := hW2
  have HA := Lib.hid hA
  have HX := Lib.hid (And.intro hE2 (And.intro hge (And.intro hpl hb0)))
  rw [hsv] at hsb2 hown
  have hnb : y.set ≠ [] → ∀ k, (Value.slice ao y.set.length cap).ownBlock = some k → ¬ (k = p ∨ g = some k) := fun hn k hk e => by
    have := hown hn k hk
    exact e.elim (fun e => by omega) (fun e => by have := (hge.2 k e).1; omega)
  clear hr1 hr2 hr1' hh hy2 hy1 hE2 hA hbx hBE
  go_wp2_with fail
  have hng : ∀ (w3 : World) (g3 : Option Nat), OutEff w2.drew w3 p 0 g g3 → ¬ (w.heap.size = p ∨ g3 = some w.heap.size) := fun w3 g3 hE3 e => e.elim (fun e => hbp (.inl e)) (fun e => hE3.new.elim (fun e2 => hbp (.inr (e2.symm.trans e))) (fun ⟨m, e2, e3⟩ => by have e4 : w2.heap.size ≤ m := e3; have e5 : m = w.heap.size := Option.some.inj (e2.symm.trans e); omega))
  have hByt : ∀ (w3 : World) (g3 : Option Nat), OutAt w3 B p 0 (l ++ y.key) ob g3 → OutEff w2.drew w3 p 0 g g3 → Calls Tryd.prog 80 #[.pointer (some ⟨p, 0, none⟩), .slice ao y.set.length cap] w3 fun e w4 => e = .returned (.pointer (some ⟨p, 0, none⟩)) ∧ ∃ g', OutAt w4 B p 0 (l ++ y.key ++ bytesL y.set) ob g' ∧ OutEff w3 w4 p 0 g3 g' := fun w3 g3 hO3 hE3 => (obytes_far _ y.set _ hO3 (hsb2.only' (w := w2) hE3.only.of_drew hnb) (fun hn k hk => ⟨fun e => hnb hn k hk (.inl e), fun e => hE3.new.elim (fun e2 => hnb hn k hk (.inr (e2.symm.trans e))) (fun ⟨m, e2, e3⟩ => by have e4 : w2.heap.size ≤ m := e3; have e5 : m = k := Option.some.inj (e2.symm.trans e); have := hown hn _ hk; omega)⟩) (by simp; omega))
  go_region_held_law (fun w' => w'.cell? ⟨w.heap.size, 32, none⟩ = some (.slice ao y.set.length cap)) (first | exact c1'' | exact c1' | exact c1 | go_keep) (first
    | (go_at_call 54; refine (ofixed_any _ y.key _ (OutAt.keep (w := w2) hO (Below.refl _ _).drew) (hkb.keep (w := w2) (Below.refl _ _).drew) (by omega)).mono ?_; rintro e w3 ⟨rfl, g3, hO3, hE3⟩; have c1' := (hE3.only.cell (p := ⟨w.heap.size, 32, none⟩) (show w.heap.size < w2.heap.size by omega) hbp).trans c1)
    | (go_at_call 80; refine (hByt _ _ hO3 hE3).mono ?_; rintro e w4 ⟨rfl, g4, hO4, hE4⟩; have c1'' := (hE4.only.cell (p := ⟨w.heap.size, 32, none⟩) (show w.heap.size < w3.heap.size by have := hE3.only.of_drew.size; omega) (hng _ _ hE3)).trans c1'))
  obtain ⟨hE2, hge, hpl, hb0⟩ := HX.out
  have hE3 := OutEff.of_drew hE3
  have hW3 := WrAt.out hc hf hO3 hE3 hb
  obtain ⟨_, _, hc3, hf3, _⟩ := hW3
  have hW4 := WrAt.out hc3 hf3 hO4 hE4 hb
  rw [show l ++ y.key ++ bytesL y.set = l ++ rowB y.d by simp [rowB, RV.d]] at hW4
  have hEE := ((hE2.trans (WEff.of_out hE3)).trans (WEff.of_out hE4))
  clear hO hO3 hO4 hE3 hE4 hByt hng hsb2 hkb c1 c1' c1'' hE2 hc hf hc3 hf3
  go_wp2_with fail
  go_end0
  exact ⟨rfl, g4, hW4, (WEff.of_below HA.out).trans hEE⟩
end Go.Proofs.YtjhocaleampamaaDoor
