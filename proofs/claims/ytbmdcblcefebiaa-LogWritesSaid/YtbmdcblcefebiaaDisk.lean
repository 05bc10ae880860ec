/- disk.Disk: the object, and its small methods. -/
import Derived.Test.YtbmdcblcefebiaaRow
import Derived.BigQuiet
import Derived.Deep.QuietTactic
namespace Go.Proofs.Ytbmdcblcefebiaa
open Go.RowKit
structure DK where
  now : List (List UInt8)
  fast : List (List UInt8)
  loose : List (Nat × List UInt8)
  fuse : Int
  off : Bool
def secC (s : List UInt8) : List Value := s.map bv
def looC (x : Nat × List UInt8) : List Value := .int .i64 x.1 :: x.2.map bv
/-- A disk at p; its blocks are bs. -/
def DiskAt (w : World) (p : Nat) (d : DK) (bs : Nat → Prop) : Prop := ∃ nv fv lv,
  (w.cell? ⟨p, 0, none⟩ = some nv ∧ w.cell? ⟨p, 1, none⟩ = some fv ∧ w.cell? ⟨p, 2, none⟩ = some lv ∧ w.cell? ⟨p, 3, none⟩ = some (.int .i64 d.fuse) ∧ w.cell? ⟨p, 4, none⟩ = some (.bool d.off)) ∧
  (∀ j, j < 5 → w.frozen? ⟨p, j, none⟩ = false) ∧
  RW w 0 39 64 nv (d.now.map secC) ∧ RW w 0 39 64 fv (d.fast.map secC) ∧ RW w 0 81 65 lv (d.loose.map looC) ∧
  (nv.ownBlock ≠ some p ∧ fv.ownBlock ≠ some p ∧ lv.ownBlock ≠ some p) ∧
  (∀ k, nv.ownBlock = some k → fv.ownBlock ≠ some k ∧ lv.ownBlock ≠ some k) ∧ (∀ k, fv.ownBlock = some k → lv.ownBlock ≠ some k) ∧
  (d.now.length = d.fast.length ∧ d.now.length ≤ 8192 ∧ 0 ≤ d.fuse ∧ d.fuse ≤ 9223372036854775807) ∧
  bs = (fun k => k = p ∨ nv.ownBlock = some k ∨ fv.ownBlock = some k ∨ lv.ownBlock = some k)
structure DEff (w w' : World) (bs bs' : Nat → Prop) : Prop where
  only : Only bs w w'
  new : ∀ k, bs' k → bs k ∨ w.heap.size ≤ k
theorem DEff.refl (w : World) (bs : Nat → Prop) : DEff w w bs bs := ⟨Only.refl _ _, fun _ h => .inl h⟩
theorem DEff.trans {a b c : World} {x y z : Nat → Prop} (h : DEff a b x y) (k : DEff b c y z) : DEff a c x z :=
  ⟨h.only.trans k.only (fun i hi hy => (h.new i hy).elim id (fun e => absurd hi (by omega))), fun i hz => (k.new i hz).elim (h.new i) (fun e => .inr (Nat.le_trans h.only.size e))⟩
theorem DiskAt.lt {w : World} {p : Nat} {d : DK} {bs : Nat → Prop} (h : DiskAt w p d bs) : ∀ k, bs k → k < w.heap.size := by
  obtain ⟨nv, fv, lv, ⟨c0, _⟩, _, h1, h2, h3, _, _, _, _, rfl⟩ := h
  intro k hk
  rcases hk with rfl | hk | hk | hk
  · exact World.block_lt_of_cell? w _ c0
  · exact h1.own_lt k hk
  · exact h2.own_lt k hk
  · exact h3.own_lt k hk
theorem DiskAt.hp {w : World} {p : Nat} {d : DK} {bs : Nat → Prop} (h : DiskAt w p d bs) : bs p := by
  obtain ⟨nv, fv, lv, _, _, _, _, _, _, _, _, _, rfl⟩ := h
  exact .inl rfl
theorem DiskAt.only {S : Nat → Prop} {w w' : World} {p : Nat} {d : DK} {bs : Nat → Prop} (h : DiskAt w p d bs) (ho : Only S w w') (hS : ∀ k, bs k → ¬ S k) : DiskAt w' p d bs := by
  have hlt := h.lt p h.hp
  obtain ⟨nv, fv, lv, ⟨c0, c1, c2, c3, c4⟩, hf, h1, h2, h3, n1, n2, n3, b, rfl⟩ := h
  have hp : ¬ S p := hS p (.inl rfl)
  refine ⟨nv, fv, lv, ⟨(ho.cell hlt hp).trans c0, (ho.cell hlt hp).trans c1, (ho.cell hlt hp).trans c2, (ho.cell hlt hp).trans c3, (ho.cell hlt hp).trans c4⟩, fun j hj => (ho.frozen hlt hp).trans (hf j hj),
    h1.only ho (fun k hk => hS k (.inr (.inl hk))), h2.only ho (fun k hk => hS k (.inr (.inr (.inl hk)))), h3.only ho (fun k hk => hS k (.inr (.inr (.inr hk)))), n1, n2, n3, b, rfl⟩
theorem DiskAt.keep {w w' : World} {p : Nat} {d : DK} {bs : Nat → Prop} (h : DiskAt w p d bs) (hb : Below w.heap.size w w') : DiskAt w' p d bs := h.only (Only.of_below (S := fun _ => False) hb) (fun _ _ h => h)
/-- A store into one of the two last cells. -/
theorem DiskAt.setFuse {w : World} {p : Nat} {d : DK} {bs : Nat → Prop} (h : DiskAt w p d bs) {n : Int} (h1 : 0 ≤ n) (h2 : n ≤ 9223372036854775807) : DiskAt (w.setCell ⟨p, 3, none⟩ (.int .i64 n)) p { d with fuse := n } bs ∧ DEff w (w.setCell ⟨p, 3, none⟩ (.int .i64 n)) bs bs := by
  have hlt := h.lt p h.hp
  have hon : Only bs w (w.setCell ⟨p, 3, none⟩ (.int .i64 n)) := (Only.refl _ _).setCell (fun _ => h.hp) _
  obtain ⟨nv, fv, lv, ⟨c0, c1, c2, c3, c4⟩, hf, r1, r2, r3, n1, n2, n3, b, rfl⟩ := h
  have hon1 : Only (· = p) w (w.setCell ⟨p, 3, none⟩ (.int .i64 n)) := Only.setCell (S := (· = p)) (Only.refl _ _) (p := ⟨p, 3, none⟩) (fun _ => rfl) _
  refine ⟨⟨nv, fv, lv, ⟨?_, ?_, ?_, World.cell?_setCell_same w _ _ c3, ?_⟩, fun j hj => by rw [World.frozen?_setCell]; exact hf j hj, r1.only hon1 (fun k hk e => n1.1 (e ▸ hk)), r2.only hon1 (fun k hk e => n1.2.1 (e ▸ hk)), r3.only hon1 (fun k hk e => n1.2.2 (e ▸ hk)), n1, n2, n3, ⟨b.1, b.2.1, h1, h2⟩, rfl⟩, ⟨hon, fun _ h => .inl h⟩⟩
  all_goals (rw [World.cell?_setCell_other w _ _ _ (by simp)]; assumption)
theorem DiskAt.setOff {w : World} {p : Nat} {d : DK} {bs : Nat → Prop} (h : DiskAt w p d bs) (n : Bool) : DiskAt (w.setCell ⟨p, 4, none⟩ (.bool n)) p { d with off := n } bs ∧ DEff w (w.setCell ⟨p, 4, none⟩ (.bool n)) bs bs := by
  have hlt := h.lt p h.hp
  have hon : Only bs w (w.setCell ⟨p, 4, none⟩ (.bool n)) := (Only.refl _ _).setCell (fun _ => h.hp) _
  obtain ⟨nv, fv, lv, ⟨c0, c1, c2, c3, c4⟩, hf, r1, r2, r3, n1, n2, n3, b, rfl⟩ := h
  have hon1 : Only (· = p) w (w.setCell ⟨p, 4, none⟩ (.bool n)) := Only.setCell (S := (· = p)) (Only.refl _ _) (p := ⟨p, 4, none⟩) (fun _ => rfl) _
  refine ⟨⟨nv, fv, lv, ⟨?_, ?_, ?_, ?_, World.cell?_setCell_same w _ _ c4⟩, fun j hj => by rw [World.frozen?_setCell]; exact hf j hj, r1.only hon1 (fun k hk e => n1.1 (e ▸ hk)), r2.only hon1 (fun k hk e => n1.2.1 (e ▸ hk)), r3.only hon1 (fun k hk e => n1.2.2 (e ▸ hk)), n1, n2, n3, b, rfl⟩, ⟨hon, fun _ h => .inl h⟩⟩
  all_goals (rw [World.cell?_setCell_other w _ _ _ (by simp)]; assumption)
/-- What 'may' answers. -/
def DK.may (d : DK) (at_ : Int) : Int := if d.off then 9 else if at_ < 0 ∨ (d.now.length : Int) ≤ at_ then 1 else 0
set_option maxRecDepth 100000 in
set_option maxHeartbeats 400000 in
theorem dmay_any (at_ : Int) (w : World) {p : Nat} {d : DK} {bs : Nat → Prop} (h : DiskAt w p d bs) :
    Calls Try.prog 39 #[.pointer (some ⟨p, 0, none⟩), .int .i64 at_] w fun e w' => e = .returned (.int .i64 (d.may at_)) ∧ w = w' := by
  obtain ⟨nv, fv, lv, ⟨c0, c1, c2, c3, c4⟩, hf, r1, r2, r3, n1, n2, n3, b, rfl⟩ := h
  obtain ⟨ao, cap, rfl, _, _, _⟩ := r1.val
  rw [List.length_map] at c0
  clear r1 r2 r3 n1 n2 n3 hf c1 c2 c3
  unfold DK.may
  cases ho : d.off with
  | true =>
    rw [ho] at c4
    go_enter Try.func39, Try.ntmps39
    go_wp2_with fail
    go_ret
    exact ⟨rfl, rfl⟩
  | false =>
    rw [ho] at c4
    by_cases h1 : at_ < 0
    · rw [if_neg (by simp), if_pos (.inl h1)]
      go_enter Try.func39, Try.ntmps39
      go_wp2_with fail
      go_ret
      exact ⟨rfl, rfl⟩
    · by_cases h2 : (d.now.length : Int) ≤ at_
      · rw [if_neg (by simp), if_pos (.inr h2)]
        go_enter Try.func39, Try.ntmps39
        go_wp2_with fail
        go_ret
        exact ⟨rfl, rfl⟩
      · rw [if_neg (by simp), if_neg (by omega)]
        go_enter Try.func39, Try.ntmps39
        go_wp2_with fail
        go_ret
        exact ⟨rfl, rfl⟩
def DK.burn (d : DK) : DK := if 0 < d.fuse then { d with fuse := d.fuse - 1, off := d.fuse - 1 == 0 } else d
set_option maxRecDepth 100000 in
set_option maxHeartbeats 400000 in
theorem dburn_any (w : World) {p : Nat} {d : DK} {bs : Nat → Prop} (h : DiskAt w p d bs) :
    Calls Try.prog 40 #[.pointer (some ⟨p, 0, none⟩)] w fun e w' => e = .returned (.bool d.burn.off) ∧ DiskAt w' p d.burn bs ∧ DEff w w' bs bs := by
  have hO := h
  obtain ⟨nv, fv, lv, ⟨c0, c1, c2, c3, c4⟩, hf, r1, r2, r3, n1, n2, n3, b, rfl⟩ := h
  clear r1 r2 r3 n1 n2 n3 c0 c1 c2
  have f3 := hf 3 (by omega)
  have f4 := hf 4 (by omega)
  unfold DK.burn
  by_cases h0 : 0 < d.fuse
  · rw [if_pos h0]
    obtain ⟨k1, e1⟩ := hO.setFuse (n := d.fuse - 1) (by omega) (by omega)
    obtain ⟨k2, e2⟩ := k1.setOff (d.fuse - 1 == 0)
    have hfin := And.intro k2 (e1.trans e2)
    clear k1 k2 e1 e2 hO hf
    go_enter Try.func40, Try.ntmps40
    go_wp2_with fail
    go_ret
    exact ⟨rfl, hfin⟩
  · rw [if_neg h0]
    go_enter Try.func40, Try.ntmps40
    go_wp2_with fail
    go_ret
    exact ⟨rfl, hO, DEff.refl _ _⟩
set_option maxRecDepth 100000 in
set_option maxHeartbeats 400000 in
theorem doff_any (w : World) {p : Nat} {d : DK} {bs : Nat → Prop} (h : DiskAt w p d bs) :
    Calls Try.prog 21 #[.pointer (some ⟨p, 0, none⟩)] w fun e w' => e = .returned (.bool d.off) ∧ w = w' := by
  obtain ⟨nv, fv, lv, ⟨c0, c1, c2, c3, c4⟩, _⟩ := h
  go_enter Try.func21, Try.ntmps21
  go_wp2_with fail
  go_ret
  exact ⟨rfl, rfl⟩
set_option maxRecDepth 100000 in
set_option maxHeartbeats 400000 in
theorem dfuse_any (n : Int) (w : World) {p : Nat} {d : DK} {bs : Nat → Prop} (h : DiskAt w p d bs) (hn : -9223372036854775808 ≤ n ∧ n ≤ 9223372036854775807) :
    Calls Try.prog 20 #[.pointer (some ⟨p, 0, none⟩), .int .i64 n] w fun e w' => e = .returned (.tuple #[]) ∧ DiskAt w' p { d with fuse := max n 0 } bs ∧ DEff w w' bs bs := by
  have hO := h
  obtain ⟨nv, fv, lv, ⟨c0, c1, c2, c3, c4⟩, hf, r1, r2, r3, n1, n2, n3, b, rfl⟩ := h
  clear r1 r2 r3 n1 n2 n3 c0 c1 c2
  have f3 := hf 3 (by omega)
  have hm : (if n < 0 then 0 else n) = max n 0 := by split <;> omega
  have hm2 : (if (0 : Int) < n then n else 0) = max n 0 := by split <;> omega
  have hfin := hO.setFuse (n := max n 0) (by omega) (by omega)
  generalize max n 0 = m at *
  go_enter Try.func20, Try.ntmps20
  go_wp2_with fail
  go_end0
  exact ⟨rfl, hfin⟩
end Go.Proofs.Ytbmdcblcefebiaa
