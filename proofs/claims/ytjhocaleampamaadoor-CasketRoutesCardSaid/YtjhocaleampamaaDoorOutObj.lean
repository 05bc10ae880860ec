/- codec.Out: what it is in memory, and the walks of its methods. -/
import Derived.Test.YtjhocaleampamaaDoorRev
import Derived.Deep.RegionHeldLaw
import Derived.Deep.RegionLaw
namespace Go.Proofs.YtjhocaleampamaaDoor
open Go.RowKit
theorem OB.val {w : World} {base : Nat} {v : Value} {l : List UInt8} (h : OB w base v l) : ∃ ao cap, v = .slice ao l.length cap ∧ (∀ a, ao = some a → a.spot = none) := by
  obtain ⟨_, h2⟩ := h
  rcases h2 with ⟨rfl, h0⟩ | ⟨g, cap, cur, rfl, _⟩
  · exact ⟨none, 0, by rw [h0], by simp⟩
  · exact ⟨_, cap, rfl, by simp⟩
/-- An Out at ⟨p, off⟩: the bytes l, bad or not; its bytes lie in block g. -/
def OutAt (w : World) (B p off : Nat) (l : List UInt8) (bad : Bool) (g : Option Nat) : Prop :=
  B ≤ p ∧ (∀ k, g = some k → k ≠ p) ∧ ∃ sv, w.cell? ⟨p, off, none⟩ = some sv ∧ w.cell? ⟨p, off + 1, none⟩ = some (.bool bad) ∧ w.frozen? ⟨p, off, none⟩ = false ∧ w.frozen? ⟨p, off + 1, none⟩ = false ∧ OB w B sv l ∧ sv.ownBlock = g
/-- What a method of an Out may turn. -/
structure OutEff (w w' : World) (p off : Nat) (g g' : Option Nat) : Prop where
  only : Only (fun k => k = p ∨ g = some k) w w'
  cells : ∀ j, j ≠ off → j ≠ off + 1 → w'.cell? ⟨p, j, none⟩ = w.cell? ⟨p, j, none⟩ ∧ w'.frozen? ⟨p, j, none⟩ = w.frozen? ⟨p, j, none⟩
  new : g' = g ∨ ∃ k, g' = some k ∧ w.heap.size ≤ k
theorem OutEff.refl (w : World) (p off : Nat) (g : Option Nat) : OutEff w w p off g g := ⟨Only.refl _ _, fun _ _ _ => ⟨rfl, rfl⟩, .inl rfl⟩
theorem OutEff.trans {a b c : World} {p off : Nat} {g g' g'' : Option Nat} (h : OutEff a b p off g g') (k : OutEff b c p off g' g'') : OutEff a c p off g g'' := by
  refine ⟨h.only.trans k.only ?_, fun j h1 h2 => ⟨(k.cells j h1 h2).1.trans (h.cells j h1 h2).1, (k.cells j h1 h2).2.trans (h.cells j h1 h2).2⟩, ?_⟩
  · intro i hi ht
    rcases ht with rfl | ht
    · exact .inl rfl
    · rcases h.new with rfl | ⟨m, hm, hge⟩
      · exact .inr ht
      · rw [hm] at ht; cases ht; omega
  · rcases k.new with rfl | ⟨m, hm, hge⟩
    · exact h.new
    · exact .inr ⟨m, hm, Nat.le_trans h.only.size hge⟩
theorem OutEff.below {a b : World} {p off B : Nat} {g g' : Option Nat} (h : OutEff a b p off g g') (hB : B ≤ a.heap.size) (hp : B ≤ p) (hg : ∀ k, g = some k → B ≤ k) : Below B a b :=
  h.only.to_below hB (fun k hk => hk.elim (fun e => e ▸ hp) (hg k))
theorem OutAt.gB {w : World} {B p off : Nat} {l : List UInt8} {bad : Bool} {g : Option Nat} (h : OutAt w B p off l bad g) : ∀ k, g = some k → B ≤ k ∧ k < w.heap.size := by
  obtain ⟨_, _, sv, _, _, _, _, ho, rfl⟩ := h
  exact fun k hk => ⟨ho.own_ge k hk, ho.own_lt k hk⟩
theorem OutAt.pLt {w : World} {B p off : Nat} {l : List UInt8} {bad : Bool} {g : Option Nat} (h : OutAt w B p off l bad g) : p < w.heap.size := by
  obtain ⟨_, _, sv, hc, _⟩ := h
  exact World.block_lt_of_cell? w _ hc
/-- '&codec.Out{}'. -/
theorem OutAt.fresh (w : World) (B : Nat) (T : TypeId) (hB : B ≤ w.heap.size) : OutAt (w.alloc (.cells #[.slice none 0 0, .bool false] T)) B w.heap.size 0 [] false none := by
  refine ⟨hB, by simp, .slice none 0 0, ?_, ?_, ?_, ?_, OB.nil _ _, rfl⟩
  · rw [World.cell?_alloc_new]; rfl
  · rw [World.cell?_alloc_new]; rfl
  · simp
  · simp
/-- An Out stays under what leaves its blocks alone. -/
theorem OutAt.only {S : Nat → Prop} {w w' : World} {B p off : Nat} {l : List UInt8} {bad : Bool} {g : Option Nat} (h : OutAt w B p off l bad g) (ho : Only S w w') (hp : ¬ S p) (hg : ∀ k, g = some k → ¬ S k) : OutAt w' B p off l bad g := by
  have hpl := h.pLt
  obtain ⟨h1, h2, sv, hc, hb, hf, hf2, hob, rfl⟩ := h
  exact ⟨h1, h2, sv, (ho.cell hpl hp).trans hc, (ho.cell hpl hp).trans hb, (ho.frozen hpl hp).trans hf, (ho.frozen hpl hp).trans hf2, hob.only ho hg, rfl⟩
theorem OutAt.keep {w w' : World} {B p off : Nat} {l : List UInt8} {bad : Bool} {g : Option Nat} (h : OutAt w B p off l bad g) (hb : Below w.heap.size w w') : OutAt w' B p off l bad g :=
  h.only (Only.of_below (S := fun _ => False) hb) (fun h => h) (fun _ _ h => h)

theorem OutEff.of_below {w w' : World} {p off : Nat} {g : Option Nat} (h : Below w.heap.size w w') (hp : p < w.heap.size) : OutEff w w' p off g g :=
  ⟨Only.of_below h, fun _ _ _ => ⟨h.cell hp, h.frozen hp⟩, .inl rfl⟩
/-- A write into a block that is newer than the first world, and is none of the Out's. -/
theorem OutEff.far {a b c : World} {p off m : Nat} {g g' : Option Nat} (h : OutEff a b p off g g') (hon : Only (· = m) b c) (hm : a.heap.size ≤ m) (hp : ¬ p = m) (hpl : p < b.heap.size) : OutEff a c p off g g' := by
  refine ⟨h.only.trans hon (fun i hi e => by omega), fun j h1 h2 => ?_, h.new⟩
  rw [← (h.cells j h1 h2).1, ← (h.cells j h1 h2).2]
  exact ⟨hon.cell (p := ⟨p, j, none⟩) hpl hp, hon.frozen (p := ⟨p, j, none⟩) hpl hp⟩
/-- 'o.bad = true'. -/
theorem OutAt.setBad {w : World} {B p off : Nat} {l : List UInt8} {bad : Bool} {g : Option Nat} (h : OutAt w B p off l bad g) :
    OutAt (w.setCell ⟨p, off + 1, none⟩ (.bool true)) B p off l true g ∧ OutEff w (w.setCell ⟨p, off + 1, none⟩ (.bool true)) p off g g := by
  obtain ⟨h1, h2, sv, hc, hb, hf, hf2, hob, rfl⟩ := h
  have hon : Only (fun k => k = p ∨ sv.ownBlock = some k) w (w.setCell ⟨p, off + 1, none⟩ (.bool true)) := (Only.refl _ _).setCell (fun _ => .inl rfl) _
  refine ⟨⟨h1, h2, sv, ?_, World.cell?_setCell_same w _ _ hb, ?_, ?_, ?_, rfl⟩, hon, fun j hj hj2 => ⟨?_, ?_⟩, .inl rfl⟩
  · rw [World.cell?_setCell_other w _ _ _ (by simp)]; exact hc
  · rw [World.frozen?_setCell]; exact hf
  · rw [World.frozen?_setCell]; exact hf2
  · exact hob.only (Only.setCell (S := (· = p)) (Only.refl _ _) (p := ⟨p, _, none⟩) (fun _ => rfl) _) h2
  · rw [World.cell?_setCell_other w _ _ _ (by first | (simp; done) | (simp; omega))]
  · rw [World.frozen?_setCell]
/-- 'o.b = ..': behind an append to its bytes. -/
theorem OutAt.store {w w2 : World} {B p off : Nat} {l l' : List UInt8} {bad : Bool} {g : Option Nat} {sv' : Value} (h : OutAt w B p off l bad g) (hon : Only (fun k => g = some k) w w2) (hob : OB w2 B sv' l') (hnew : sv'.ownBlock = g ∨ ∃ k, sv'.ownBlock = some k ∧ w.heap.size ≤ k) :
    OutAt (w2.setCell ⟨p, off, none⟩ sv') B p off l' bad sv'.ownBlock ∧ OutEff w (w2.setCell ⟨p, off, none⟩ sv') p off g sv'.ownBlock := by
  have hpl := h.pLt
  obtain ⟨h1, h2, sv, hc, hb, hf, hf2, _, rfl⟩ := h
  have hpg : ¬ sv.ownBlock = some p := fun e => h2 p e rfl
  have hc' := (hon.cell (p := ⟨p, off, none⟩) hpl hpg).trans hc
  have hb' := (hon.cell (p := ⟨p, off + 1, none⟩) hpl hpg).trans hb
  have hne : ∀ k, sv'.ownBlock = some k → k ≠ p := by
    intro k hk
    rcases hnew with e | ⟨m, hm, hge⟩
    · exact h2 k (e ▸ hk)
    · rw [hm] at hk; cases hk; omega
  refine ⟨⟨h1, hne, sv', World.cell?_setCell_same w2 _ _ hc', ?_, ?_, ?_, ?_, rfl⟩, ?_, fun j hj hj2 => ⟨?_, ?_⟩, hnew⟩
  · rw [World.cell?_setCell_other w2 _ _ _ (by simp)]; exact hb'
  · rw [World.frozen?_setCell, hon.frozen (p := ⟨p, off, none⟩) hpl hpg]; exact hf
  · rw [World.frozen?_setCell, hon.frozen (p := ⟨p, off + 1, none⟩) hpl hpg]; exact hf2
  · exact hob.only (Only.setCell (S := (· = p)) (Only.refl _ _) (p := ⟨p, _, none⟩) (fun _ => rfl) _) hne
  · exact (hon.mono (fun _ _ h => .inr h)).setCell (fun _ => .inl rfl) _
  · rw [World.cell?_setCell_other w2 _ _ _ (by first | (simp; done) | (simp; omega)), hon.cell (p := ⟨p, j, none⟩) hpl hpg]
  · rw [World.frozen?_setCell, hon.frozen (p := ⟨p, j, none⟩) hpl hpg]

set_option maxRecDepth 100000 in
set_option maxHeartbeats 400000 in
theorem oput_nil (n s : Int) (ok : Bool) (w : World) :
    Calls Tryd.prog 79 #[.pointer none, .int .i64 n, .int .i64 s, .bool ok] w fun e w' => e = .returned (.pointer none) ∧ w = w' := by
  go_enter Tryd.func79, Tryd.ntmps79
  go_wp2_with fail
  go_ret
  exact ⟨rfl, rfl⟩
set_option maxRecDepth 100000 in
set_option maxHeartbeats 400000 in
theorem oput_bad (n s : Int) (w : World) {B p off : Nat} {l : List UInt8} {bad : Bool} {g : Option Nat} (h : OutAt w B p off l bad g) :
    Calls Tryd.prog 79 #[.pointer (some ⟨p, off, none⟩), .int .i64 n, .int .i64 s, .bool false] w fun e w' => e = .returned (.pointer (some ⟨p, off, none⟩)) ∧ OutAt w' B p off l true g ∧ OutEff w w' p off g g := by
  have hpl := h.pLt
  obtain ⟨h1, h2, sv, hc, hb, hf, hf2, hob, rfl⟩ := h
  go_enter Tryd.func79, Tryd.ntmps79
  have hs := OutAt.setBad ⟨h1, h2, sv, hc, hb, hf, hf2, hob, rfl⟩
  clear hob
  go_wp2_with fail
  go_ret
  exact ⟨rfl, hs⟩
set_option maxRecDepth 100000 in
set_option maxHeartbeats 400000 in
theorem oput_ok (n s : Int) (w : World) {B p off : Nat} {l : List UInt8} {bad : Bool} {g : Option Nat} (h : OutAt w B p off l bad g) (hn : 0 ≤ n) (hn2 : n ≤ 9223372036854775807) (hs : 1 ≤ s) (hs2 : s ≤ 64) (hl : l.length ≤ 140737488355000) :
    Calls Tryd.prog 79 #[.pointer (some ⟨p, off, none⟩), .int .i64 n, .int .i64 s, .bool true] w fun e w' => e = .returned (.pointer (some ⟨p, off, none⟩)) ∧ ∃ g', OutAt w' B p off (l ++ (putLowL s.toNat n.toNat).reverse) bad g' ∧ OutEff w w' p off g g' := by
  have hpl := h.pLt
  have hO := h
  obtain ⟨h1, h2, sv, hc, hb, hf, hf2, hob, rfl⟩ := h
  obtain ⟨n, rfl⟩ := Int.eq_ofNat_of_zero_le hn
  rw [Int.toNat_natCast]
  have hgB := hO.gB
  have hlenx : l.length + (putLowL s.toNat n).reverse.length ≤ 140737488355328 := by simp [putLowL_length]; omega
  have hBs : B ≤ w.drew.heap.size := by show B ≤ w.heap.size; omega
  have hwn : IntKind.u64.wrap (n : Int) = (n : Int) := IntWalk.u64_in _ (by omega)
  go_enter Tryd.func79, Tryd.ntmps79
  go_wp2_with fail
  go_region_law (first | (go_simp; go_at_call 38; refine (putHigh_any n s _ (by omega) hs hs2).mono ?_; rintro e w2 ⟨v2, rfl, ho2, hb2⟩; have hc2 : w2.cell? ⟨p, off, none⟩ = some sv := (hb2.cell hpl).trans hc; have hf2 : w2.frozen? ⟨p, off, none⟩ = false := (hb2.frozen hpl).trans hf; have hob2 := hob.drew.keep hb2) | (refine step_app rfl _ _ rfl B _ _ _ _ (by rfl) (by rfl) hob2 ho2.bsl hlenx (Nat.le_trans hBs hb2.size) ?_; intro v3 w3 ho3 hgrow3 hat3; obtain ⟨ao3, cap3, rfl, hsp⟩ := ho3.val; have hc3 := hgrow3.cell hc2 (fun e => h2 _ e.symm rfl); have hf3 : w3.frozen? ⟨p, off, none⟩ = false := (World.frozen?_of_block (hgrow3.block p (Nat.lt_of_lt_of_le hpl hb2.size) (fun e => h2 _ e.symm rfl))).trans hf2))
  all_goals
    have hon : Only (fun k => sv.ownBlock = some k) w w3 := (Only.of_below (S := fun k => sv.ownBlock = some k) (w := w.drew) hb2).trans (Only.of_grown (S := fun k => sv.ownBlock = some k) hgrow3 (fun k hk => hk)) (fun _ _ h => h) |>.of_drew
    have hnew : (Value.slice ao3 (l ++ (putLowL s.toNat n).reverse).length cap3).ownBlock = sv.ownBlock ∨ ∃ k, (Value.slice ao3 (l ++ (putLowL s.toNat n).reverse).length cap3).ownBlock = some k ∧ w.heap.size ≤ k := hat3.imp id (fun e => ⟨_, e, hb2.size⟩)
    have hst := hO.store hon ho3 hnew
    rw [show (l ++ (putLowL s.toNat n).reverse).length = l.length + (putLowL s.toNat n).length from by simp] at hst
    clear hc hb hf hob hc2 hob2 ho2 hb2 hc3 hf3 ho3 hgrow3 hat3 hon hnew
    go_wp2_with fail
    go_ret
    exact ⟨rfl, _, hst⟩
/-- A byte, if it is one. -/
def smallL (n : Int) : List UInt8 := if 0 ≤ n ∧ n ≤ 255 then [UInt8.ofNat n.toNat] else []
def numL (n : Int) : List UInt8 := if 0 ≤ n then (putLowL 8 n.toNat).reverse else []
def bytesL (b : List UInt8) : List UInt8 := (putLowL 4 b.length).reverse ++ b
set_option maxRecDepth 100000 in
set_option maxHeartbeats 400000 in
theorem onum_nil (n : Int) (w : World) : Calls Tryd.prog 52 #[.pointer none, .int .i64 n] w fun e w' => e = .returned (.pointer none) ∧ w = w' := by
  go_enter Tryd.func52, Tryd.ntmps52
  go_wp2_with fail
  refine (oput_nil _ _ _ _).mono ?_
  rintro e w1 ⟨rfl, rfl⟩
  go_wp2_with fail
  go_ret
  exact ⟨rfl, rfl⟩
set_option maxRecDepth 100000 in
set_option maxHeartbeats 400000 in
theorem onum_any (n : Int) (w : World) {B p off : Nat} {l : List UInt8} {bad : Bool} {g : Option Nat} (h : OutAt w B p off l bad g) (hn1 : -9223372036854775808 ≤ n) (hn2 : n ≤ 9223372036854775807) (hl : l.length ≤ 140737488355000) :
    Calls Tryd.prog 52 #[.pointer (some ⟨p, off, none⟩), .int .i64 n] w fun e w' => e = .returned (.pointer (some ⟨p, off, none⟩)) ∧ ∃ g', OutAt w' B p off (l ++ numL n) (bad || decide (n < 0)) g' ∧ OutEff w w' p off g g' := by
  by_cases hn : 0 ≤ n
  · have e1 : numL n = (putLowL 8 n.toNat).reverse := by unfold numL; rw [if_pos hn]
    have e2 : (bad || decide (n < 0)) = bad := by have : ¬ n < 0 := by omega
                                                  simp [this]
    rw [e1, e2]
    clear e1 e2
    go_enter Tryd.func52, Tryd.ntmps52
    go_wp2_with fail
    refine (oput_ok n 8 _ h hn hn2 (by omega) (by omega) hl).mono ?_
    rintro e w1 ⟨rfl, g', ho, he⟩
    go_wp2_with fail
    go_ret
    exact ⟨rfl, g', ho, he⟩
  · have e1 : numL n = [] := by unfold numL; rw [if_neg hn]
    have e2 : (bad || decide (n < 0)) = true := by have : n < 0 := by omega
                                                   simp [this]
    rw [e1, e2, List.append_nil]
    clear e1 e2
    have hn' : n < 0 := by omega
    go_enter Tryd.func52, Tryd.ntmps52
    go_wp2_with fail
    refine (oput_bad n 8 _ h).mono ?_
    rintro e w1 ⟨rfl, ho, he⟩
    go_wp2_with fail
    go_ret
    exact ⟨rfl, g, ho, he⟩
set_option maxRecDepth 100000 in
set_option maxHeartbeats 400000 in
theorem osmall_nil (n : Int) (w : World) (h1 : -9223372036854775808 ≤ n) (h2 : n ≤ 9223372036854775807) : Calls Tryd.prog 51 #[.pointer none, .int .i64 n] w fun e w' => e = .returned (.pointer none) ∧ w = w' := by
  go_enter Tryd.func51, Tryd.ntmps51
  go_wp2_with fail
  refine (byte_any n _ h1 h2).mono ?_
  rintro e w1 ⟨rfl, rfl⟩
  generalize (if 0 ≤ n ∧ n ≤ 255 then n else 0) = y
  generalize decide (0 ≤ n ∧ n ≤ 255) = ok
  go_wp2_with fail
  refine (oput_nil _ _ _ _).mono ?_
  rintro e w1 ⟨rfl, rfl⟩
  go_wp2_with fail
  go_ret
  exact ⟨rfl, rfl⟩
set_option maxRecDepth 100000 in
set_option maxHeartbeats 400000 in
theorem osmall_any (n : Int) (w : World) {B p off : Nat} {l : List UInt8} {bad : Bool} {g : Option Nat} (h : OutAt w B p off l bad g) (h1 : -9223372036854775808 ≤ n) (h2 : n ≤ 9223372036854775807) (hl : l.length ≤ 140737488355000) :
    Calls Tryd.prog 51 #[.pointer (some ⟨p, off, none⟩), .int .i64 n] w fun e w' => e = .returned (.pointer (some ⟨p, off, none⟩)) ∧ ∃ g', OutAt w' B p off (l ++ smallL n) (bad || !decide (0 ≤ n ∧ n ≤ 255)) g' ∧ OutEff w w' p off g g' := by
  by_cases hn : 0 ≤ n ∧ n ≤ 255
  · have e1 : smallL n = (putLowL 1 n.toNat).reverse := by unfold smallL; rw [if_pos hn]; rfl
    have e2 : (bad || !decide (0 ≤ n ∧ n ≤ 255)) = bad := by simp [hn]
    rw [e1, e2]
    clear e1 e2
    go_enter Tryd.func51, Tryd.ntmps51
    go_wp2_with fail
    refine (byte_any n _ h1 h2).mono ?_
    rw [if_pos hn, decide_eq_true hn]
    rintro e w1 ⟨rfl, rfl⟩
    go_wp2_with fail
    refine (oput_ok n 1 _ h hn.1 h2 (by omega) (by omega) hl).mono ?_
    rintro e w1 ⟨rfl, g', ho, he⟩
    go_wp2_with fail
    go_ret
    exact ⟨rfl, g', ho, he⟩
  · have e1 : smallL n = [] := by unfold smallL; rw [if_neg hn]
    have e2 : (bad || !decide (0 ≤ n ∧ n ≤ 255)) = true := by rw [decide_eq_false hn]; simp
    rw [e1, e2, List.append_nil]
    clear e1 e2
    go_enter Tryd.func51, Tryd.ntmps51
    go_wp2_with fail
    refine (byte_any n _ h1 h2).mono ?_
    rw [if_neg hn, decide_eq_false hn]
    rintro e w1 ⟨rfl, rfl⟩
    go_wp2_with fail
    refine (oput_bad n 1 _ h).mono ?_
    rintro e w1 ⟨rfl, ho, he⟩
    go_wp2_with fail
    go_ret
    exact ⟨rfl, g, ho, he⟩
set_option maxRecDepth 100000 in
set_option maxHeartbeats 400000 in
theorem ofixed_nil (v : Value) (w : World) : Calls Tryd.prog 54 #[.pointer none, v] w fun e w' => e = .returned (.pointer none) ∧ w = w' := by
  go_enter Tryd.func54, Tryd.ntmps54
  go_wp2_with fail
  go_ret
  exact ⟨rfl, rfl⟩
set_option maxRecDepth 100000 in
set_option maxHeartbeats 400000 in
theorem ofixed_any (vb : Value) (lb : List UInt8) (w : World) {B p off : Nat} {l : List UInt8} {bad : Bool} {g : Option Nat} (h : OutAt w B p off l bad g) (hb : Bsl w vb lb) (hl : l.length + lb.length ≤ 140737488355328) :
    Calls Tryd.prog 54 #[.pointer (some ⟨p, off, none⟩), vb] w fun e w' => e = .returned (.pointer (some ⟨p, off, none⟩)) ∧ ∃ g', OutAt w' B p off (l ++ lb) bad g' ∧ OutEff w w' p off g g' := by
  have hpl := h.pLt
  have hO := h
  obtain ⟨h1, h2, sv, hc, hbd, hf, hf2, hob, rfl⟩ := h
  go_enter Tryd.func54, Tryd.ntmps54
  go_wp2_with (at_builtin; refine wp_app rfl _ _ rfl B _ _ _ _ rfl rfl hob hb hl ?_ ?_)
  · omega
  · intro v3 w3 ho3 hgrow3 hat3
    obtain ⟨ao3, cap3, rfl, hsp⟩ := ho3.val
    have hc3 := hgrow3.cell hc (fun e => h2 _ e.symm rfl)
    have hf3 : w3.frozen? ⟨p, off, none⟩ = false := (World.frozen?_of_block (hgrow3.block p hpl (fun e => h2 _ e.symm rfl))).trans hf
    have hon : Only (fun k => sv.ownBlock = some k) w w3 := Only.of_grown (S := fun k => sv.ownBlock = some k) hgrow3 (fun k hk => hk)
    have hnew : (Value.slice ao3 (l ++ lb).length cap3).ownBlock = sv.ownBlock ∨ ∃ k, (Value.slice ao3 (l ++ lb).length cap3).ownBlock = some k ∧ w.heap.size ≤ k := hat3.imp id (fun e => ⟨_, e, Nat.le_refl _⟩)
    have hst := hO.store hon ho3 hnew
    rw [show (l ++ lb).length = l.length + lb.length from by simp] at hst
    clear hc hbd hf hob ho3 hgrow3 hat3 hon hnew hb
    go_wp2_with fail
    go_ret
    exact ⟨rfl, _, hst⟩
set_option maxRecDepth 100000 in
set_option maxHeartbeats 400000 in
theorem obytes_nil (v : Value) (lb : List UInt8) (w : World) (hb : Bsl w v lb) : Calls Tryd.prog 80 #[.pointer none, v] w fun e w' => e = .returned (.pointer none) ∧ w = w' := by
  obtain ⟨ao, cap, rfl, _, _, _, _⟩ := hb
  go_enter Tryd.func80, Tryd.ntmps80
  go_wp2_with fail
  refine (oput_nil _ _ _ _).mono ?_
  rintro e w1 ⟨rfl, rfl⟩
  go_wp2_with fail
  refine (ofixed_nil _ _).mono ?_
  rintro e w1 ⟨rfl, rfl⟩
  go_wp2_with fail
  go_ret
  exact ⟨rfl, rfl⟩
set_option maxRecDepth 100000 in
set_option maxHeartbeats 400000 in
theorem obytes_far (vb : Value) (lb : List UInt8) (w : World) {B p off : Nat} {l : List UInt8} {bad : Bool} {g : Option Nat} (h : OutAt w B p off l bad g) (hb : Bsl w vb lb) (hne : lb ≠ [] → ∀ k, vb.ownBlock = some k → k ≠ p ∧ g ≠ some k) (hl : l.length + lb.length ≤ 140737488355000) :
    Calls Tryd.prog 80 #[.pointer (some ⟨p, off, none⟩), vb] w fun e w' => e = .returned (.pointer (some ⟨p, off, none⟩)) ∧ ∃ g', OutAt w' B p off (l ++ bytesL lb) bad g' ∧ OutEff w w' p off g g' := by
  have hb' := hb
  obtain ⟨ao, cap, rfl, _, _, _, _⟩ := hb'
  have hrl : (putLowL 4 lb.length).reverse.length = 4 := by simp [putLowL_length]
  go_enter Tryd.func80, Tryd.ntmps80
  go_wp2_with fail
  refine (oput_ok lb.length 4 _ h (by omega) (by omega) (by omega) (by omega) (by omega)).mono ?_
  rintro e w1 ⟨rfl, g1, ho1, he1⟩
  have hb1 := hb.only' he1.only (fun hl0 k hk hs => hs.elim (hne hl0 k hk).1 (hne hl0 k hk).2)
  go_wp2_with fail
  refine (ofixed_any _ lb _ ho1 hb1 (by rw [List.length_append]; simp only [Int.toNat_natCast, Int.reduceToNat] at hrl ⊢; omega)).mono ?_
  rintro e w2 ⟨rfl, g2, ho2, he2⟩
  go_wp2_with fail
  go_ret
  refine ⟨rfl, g2, ?_, he1.trans he2⟩
  rw [List.append_assoc] at ho2; exact ho2
theorem obytes_any (vb : Value) (lb : List UInt8) (w : World) {B p off : Nat} {l : List UInt8} {bad : Bool} {g : Option Nat} (h : OutAt w B p off l bad g) (hb : Bsl w vb lb) (hne : ∀ k, vb.ownBlock = some k → k ≠ p ∧ g ≠ some k) (hl : l.length + lb.length ≤ 140737488355000) :
    Calls Tryd.prog 80 #[.pointer (some ⟨p, off, none⟩), vb] w fun e w' => e = .returned (.pointer (some ⟨p, off, none⟩)) ∧ ∃ g', OutAt w' B p off (l ++ bytesL lb) bad g' ∧ OutEff w w' p off g g' := obytes_far vb lb w h hb (fun _ => hne) hl
set_option maxRecDepth 100000 in
set_option maxHeartbeats 400000 in
theorem odone_nil (w : World) : Calls Tryd.prog 27 #[.pointer none] w fun e w' => e = .returned (.tuple #[.slice none 0 0, .int .i64 1]) ∧ w = w' := by
  go_enter Tryd.func27, Tryd.ntmps27
  go_wp2_with fail
  go_ret2
  exact ⟨rfl, rfl⟩
set_option maxRecDepth 100000 in
set_option maxHeartbeats 400000 in
theorem odone_any (w : World) {B p off : Nat} {l : List UInt8} {bad : Bool} {g : Option Nat} (h : OutAt w B p off l bad g) (hl : l.length ≤ 140737488355328) :
    Calls Tryd.prog 27 #[.pointer (some ⟨p, off, none⟩)] w fun e w' => ∃ v, e = .returned (.tuple #[v, .int .i64 (if bad then 1 else 0)]) ∧ OB w' w.heap.size v l ∧ Below w.heap.size w w' := by
  obtain ⟨h1, h2, sv, hc, hbd, hf, hf2, hob, rfl⟩ := h
  cases bad with
  | true =>
    go_enter Tryd.func27, Tryd.ntmps27
    go_wp2_with fail
    refine (bclone_any sv l _ hob.bsl hl).mono ?_
    rintro e w1 ⟨v1, rfl, ho1, hb1⟩
    go_wp2_with fail
    go_ret2
    exact ⟨_, rfl, ho1, hb1⟩
  | false =>
    go_enter Tryd.func27, Tryd.ntmps27
    go_wp2_with fail
    refine (bclone_any sv l _ hob.bsl hl).mono ?_
    rintro e w1 ⟨v1, rfl, ho1, hb1⟩
    go_wp2_with fail
    go_ret2
    exact ⟨_, rfl, ho1, hb1⟩
end Go.Proofs.YtjhocaleampamaaDoor
