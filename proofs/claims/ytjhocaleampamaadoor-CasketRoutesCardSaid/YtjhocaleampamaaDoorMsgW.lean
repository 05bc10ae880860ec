/- msg.writer: what it is in memory, and the walks of its small methods. -/
import Derived.Test.YtjhocaleampamaaDoorMsgLaw
import Derived.Test.YtjhocaleampamaaDoorRow
import Derived.Test.YtjhocaleampamaaDoorRefCodec
import Derived.Deep.MidRow
namespace Go.Proofs.YtjhocaleampamaaDoor
open Go.RowKit
set_option linter.unusedVariables false
/-- A writer at p: the bytes l, bad or not; its bytes lie in block g. -/
def WrAt (w : World) (B p : Nat) (l : List UInt8) (bad : Bool) (g : Option Nat) : Prop :=
  ∃ ob, OutAt w B p 0 l ob g ∧ w.cell? ⟨p, 2, none⟩ = some (.bool bad) ∧ w.frozen? ⟨p, 2, none⟩ = false ∧ (ob = true → bad = true)
structure WEff (w w' : World) (p : Nat) (g g' : Option Nat) : Prop where
  only : Only (fun k => k = p ∨ g = some k) w w'
  new : g' = g ∨ ∃ k, g' = some k ∧ w.heap.size ≤ k
theorem WEff.refl (w : World) (p : Nat) (g : Option Nat) : WEff w w p g g := ⟨Only.refl _ _, .inl rfl⟩
theorem WEff.trans {a b c : World} {p : Nat} {g g' g'' : Option Nat} (h : WEff a b p g g') (k : WEff b c p g' g'') : WEff a c p g g'' := by
  refine ⟨h.only.trans k.only ?_, ?_⟩
  · intro i hi ht
    rcases ht with rfl | ht
    · exact .inl rfl
    · rcases h.new with rfl | ⟨m, hm, hge⟩
      · exact .inr ht
      · rw [hm] at ht; cases ht; omega
  · rcases k.new with rfl | ⟨m, hm, hge⟩
    · exact h.new
    · exact .inr ⟨m, hm, Nat.le_trans h.only.size hge⟩
theorem WEff.of_below {w w' : World} {p : Nat} {g : Option Nat} (h : Below w.heap.size w w') : WEff w w' p g g := ⟨Only.of_below h, .inl rfl⟩
theorem OutEff.of_drew {w w' : World} {p off : Nat} {g g' : Option Nat} (h : OutEff w.drew w' p off g g') : OutEff w w' p off g g' := ⟨h.only.of_drew, h.cells, h.new⟩
theorem WEff.of_drew {w w' : World} {p : Nat} {g g' : Option Nat} (h : WEff w.drew w' p g g') : WEff w w' p g g' := ⟨h.only.of_drew, h.new⟩
theorem WEff.of_out {w w' : World} {p : Nat} {g g' : Option Nat} (h : OutEff w w' p 0 g g') : WEff w w' p g g' := ⟨h.only, h.new⟩
theorem WrAt.lt {w : World} {B p : Nat} {l : List UInt8} {bad : Bool} {g : Option Nat} (h : WrAt w B p l bad g) : p < w.heap.size := by
  obtain ⟨ob, h1, _⟩ := h
  exact h1.pLt
theorem WrAt.ge {w : World} {B p : Nat} {l : List UInt8} {bad : Bool} {g : Option Nat} (h : WrAt w B p l bad g) : B ≤ p ∧ ∀ k, g = some k → B ≤ k ∧ k < w.heap.size := by
  obtain ⟨ob, h1, _⟩ := h
  exact ⟨h1.1, h1.gB⟩
theorem WrAt.only {S : Nat → Prop} {w w' : World} {B p : Nat} {l : List UInt8} {bad : Bool} {g : Option Nat} (h : WrAt w B p l bad g) (ho : Only S w w') (hp : ¬ S p) (hg : ∀ k, g = some k → ¬ S k) : WrAt w' B p l bad g := by
  have hpl := h.lt
  obtain ⟨ob, h1, h2, h3, h4⟩ := h
  exact ⟨ob, h1.only ho hp hg, (ho.cell (p := ⟨p, 2, none⟩) hpl hp).trans h2, (ho.frozen (p := ⟨p, 2, none⟩) hpl hp).trans h3, h4⟩
theorem WrAt.keep {w w' : World} {B p : Nat} {l : List UInt8} {bad : Bool} {g : Option Nat} (h : WrAt w B p l bad g) (hb : Below w.heap.size w w') : WrAt w' B p l bad g :=
  h.only (Only.of_below (S := fun _ => False) hb) (fun h => h) (fun _ _ h => h)
theorem WEff.below {a b : World} {p B : Nat} {g g' : Option Nat} {l : List UInt8} {bad : Bool} (h : WEff a b p g g') (hw : WrAt a B p l bad g) : Below B a b :=
  h.only.to_below (by have := hw.lt; have := hw.ge.1; omega) (fun k hk => hk.elim (fun e => e ▸ hw.ge.1) (fun e => (hw.ge.2 k e).1))
/-- Behind a call of the Out. -/
theorem WrAt.out {w w' : World} {B p : Nat} {l' : List UInt8} {bad ob' : Bool} {g g' : Option Nat} (hc : w.cell? ⟨p, 2, none⟩ = some (.bool bad)) (hf : w.frozen? ⟨p, 2, none⟩ = false) (h : OutAt w' B p 0 l' ob' g') (he : OutEff w w' p 0 g g') (hb : ob' = true → bad = true) : WrAt w' B p l' bad g' :=
  ⟨ob', h, ((he.cells 2 (by omega) (by omega)).1).trans hc, ((he.cells 2 (by omega) (by omega)).2).trans hf, hb⟩
/-- 'w.bad = ..'. -/
theorem WrAt.setBad {w : World} {B p : Nat} {l : List UInt8} {bad : Bool} {g : Option Nat} (h : WrAt w B p l bad g) {b : Bool} (hb : bad = true → b = true) : WrAt (w.setCell ⟨p, 2, none⟩ (.bool b)) B p l b g ∧ WEff w (w.setCell ⟨p, 2, none⟩ (.bool b)) p g g := by
  obtain ⟨ob, ⟨h1, h2, sv, hc, hd, hf, hf2, hob, rfl⟩, hc3, hf3, h4⟩ := h
  have hon : Only (· = p) w (w.setCell ⟨p, 2, none⟩ (.bool b)) := Only.setCell (S := (· = p)) (Only.refl _ _) (p := ⟨p, _, none⟩) (fun _ => rfl) _
  refine ⟨⟨ob, ⟨h1, h2, sv, ?_, ?_, ?_, ?_, hob.only hon h2, rfl⟩, World.cell?_setCell_same w _ _ hc3, ?_, fun e => hb (h4 e)⟩, ⟨hon.mono (fun _ _ e => .inl e), .inl rfl⟩⟩
  · rw [World.cell?_setCell_other w _ _ _ (by simp)]; exact hc
  · rw [World.cell?_setCell_other w _ _ _ (by simp)]; exact hd
  · rw [World.frozen?_setCell]; exact hf
  · rw [World.frozen?_setCell]; exact hf2
  · rw [World.frozen?_setCell]; exact hf3
theorem WrAt.fresh (w : World) (B : Nat) (T : TypeId) (hB : B ≤ w.heap.size) : WrAt (w.alloc (.cells #[.slice none 0 0, .bool false, .bool false] T)) B w.heap.size [] false none := by
  refine ⟨false, ⟨hB, by simp, .slice none 0 0, ?_, ?_, ?_, ?_, OB.nil _ _, rfl⟩, ?_, ?_, by simp⟩
  · rw [World.cell?_alloc_new]; rfl
  · rw [World.cell?_alloc_new]; rfl
  · simp
  · simp
  · rw [World.cell?_alloc_new]; rfl
  · simp
set_option maxRecDepth 100000 in
set_option maxHeartbeats 400000 in
theorem within_any (n lo hi : Int) (w : World) : Calls Tryd.prog 50 #[.int .i64 n, .int .i64 lo, .int .i64 hi] w fun e w' => e = .returned (.bool (inK n lo hi)) ∧ w = w' := by
  unfold inK
  by_cases h1 : lo ≤ n
  · by_cases h2 : n ≤ hi
    · rw [decide_eq_true (And.intro h1 h2)]
      go_enter Tryd.func50, Tryd.ntmps50
      go_wp2_with fail
      go_ret
      exact ⟨rfl, rfl⟩
    · rw [decide_eq_false (fun h => h2 h.2)]
      go_enter Tryd.func50, Tryd.ntmps50
      go_wp2_with fail
      go_ret
      exact ⟨rfl, rfl⟩
  · rw [decide_eq_false (fun h => h1 h.1)]
    go_enter Tryd.func50, Tryd.ntmps50
    go_wp2_with fail
    go_ret
    exact ⟨rfl, rfl⟩
set_option maxRecDepth 100000 in
set_option maxHeartbeats 400000 in
theorem wneed_any (ok : Bool) (w : World) {B p : Nat} {l : List UInt8} {bad : Bool} {g : Option Nat} (h : WrAt w B p l bad g) :
    Calls Tryd.prog 49 #[.pointer (some ⟨p, 0, none⟩), .bool ok] w fun e w' => e = .returned (.tuple #[]) ∧ WrAt w' B p l (bad || !ok) g ∧ WEff w w' p g g := by
  have hs := h.setBad (b := bad || !ok) (by intro e; rw [e]; rfl)
  obtain ⟨ob, _, hc, hf, _⟩ := h
  cases bad with
  | true =>
    simp only [Bool.true_or] at hs ⊢
    go_enter Tryd.func49, Tryd.ntmps49
    go_wp2_with fail
    go_end0
    exact ⟨rfl, hs⟩
  | false =>
    simp only [Bool.false_or] at hs ⊢
    go_enter Tryd.func49, Tryd.ntmps49
    go_wp2_with fail
    go_end0
    exact ⟨rfl, hs⟩
set_option maxRecDepth 100000 in
set_option maxHeartbeats 400000 in
theorem wsmall_any (n most : Int) (w : World) {B p : Nat} {l : List UInt8} {bad : Bool} {g : Option Nat} (h : WrAt w B p l bad g) (h1 : -9223372036854775808 ≤ n) (h2 : n ≤ 9223372036854775807) (hm : most ≤ 255) (hl : l.length ≤ 140737488355000) :
    Calls Tryd.prog 24 #[.pointer (some ⟨p, 0, none⟩), .int .i64 n, .int .i64 most] w fun e w' => e = .returned (.tuple #[]) ∧ ∃ g', WrAt w' B p (l ++ smallL n) (bad || !inK n 0 most) g' ∧ WEff w w' p g g' := by
  go_enter Tryd.func24, Tryd.ntmps24
  go_wp2_with fail
  refine (within_any n 0 most _).mono ?_
  rintro e w1 ⟨rfl, rfl⟩
  go_wp2_with fail
  refine (wneed_any _ _ h).mono ?_
  rintro e w2 ⟨rfl, hW, hE⟩
  obtain ⟨ob, hO, hc, hf, hb⟩ := hW
  go_wp2_with fail
  refine (osmall_any n _ hO h1 h2 hl).mono ?_
  rintro e w3 ⟨rfl, g', hO3, hE3⟩
  go_wp2_with fail
  go_end0
  refine ⟨rfl, g', WrAt.out hc hf hO3 hE3 ?_, hE.trans (WEff.of_out hE3)⟩
  intro e
  rcases Bool.or_eq_true_iff.1 e with e | e
  · exact hb e
  · have h3 : ¬ (0 ≤ n ∧ n ≤ 255) := fun hh => by rw [decide_eq_true hh] at e; cases e
    have h4 : inK n 0 most = false := by unfold inK; exact decide_eq_false (fun h => h3 ⟨h.1, by omega⟩)
    rw [h4]; simp
set_option maxRecDepth 100000 in
set_option maxHeartbeats 400000 in
theorem wnum_any (n most : Int) (w : World) {B p : Nat} {l : List UInt8} {bad : Bool} {g : Option Nat} (h : WrAt w B p l bad g) (h1 : -9223372036854775808 ≤ n) (h2 : n ≤ 9223372036854775807) (hl : l.length ≤ 140737488355000) :
    Calls Tryd.prog 25 #[.pointer (some ⟨p, 0, none⟩), .int .i64 n, .int .i64 most] w fun e w' => e = .returned (.tuple #[]) ∧ ∃ g', WrAt w' B p (l ++ numL n) (bad || !inK n 0 most) g' ∧ WEff w w' p g g' := by
  go_enter Tryd.func25, Tryd.ntmps25
  go_wp2_with fail
  refine (within_any n 0 most _).mono ?_
  rintro e w1 ⟨rfl, rfl⟩
  go_wp2_with fail
  refine (wneed_any _ _ h).mono ?_
  rintro e w2 ⟨rfl, hW, hE⟩
  obtain ⟨ob, hO, hc, hf, hb⟩ := hW
  go_wp2_with fail
  refine (onum_any n _ hO h1 h2 hl).mono ?_
  rintro e w3 ⟨rfl, g', hO3, hE3⟩
  go_wp2_with fail
  go_end0
  refine ⟨rfl, g', WrAt.out hc hf hO3 hE3 ?_, hE.trans (WEff.of_out hE3)⟩
  intro e
  rcases Bool.or_eq_true_iff.1 e with e | e
  · exact hb e
  · have h3 : n < 0 := by simpa using e
    have h4 : inK n 0 most = false := by unfold inK; exact decide_eq_false (fun h => by omega)
    rw [h4]; simp
end Go.Proofs.YtjhocaleampamaaDoor
