/- The log: rows of records of the call's own; falls; what is sure behind a crash. -/
import Derived.Test.YtbmdcblcefebiaaLogIn
import Derived.Test.YtbmdcblcefebiaaLogE
import Derived.Test.YtbmdcblcefebiaaRowSrc
namespace Go.Proofs.Ytbmdcblcefebiaa
open Go.ChangeShapes Go.WideShapes Go.ChangeAt Go.RowKit Go.Deep
/-- A slice of records that the call owns. -/
def MS (w : World) (B : Nat) (v : Value) (ys : List MsgD) : Prop := RW w B 37 1 v (ys.map msgC) ∧ ∀ y ∈ ys, Bsl w y.v y.l ∧ (y.l ≠ [] → ∀ k, y.v.ownBlock = some k → B ≤ k)
def msB (v : Value) (ys : List MsgD) : Nat → Prop := fun k => v.ownBlock = some k ∨ ∃ y ∈ ys, y.l ≠ [] ∧ y.v.ownBlock = some k
theorem MS.lt {w : World} {B : Nat} {v : Value} {ys : List MsgD} (h : MS w B v ys) : ∀ k, msB v ys k → k < w.heap.size := by
  rintro k (hk | ⟨y, hy, hne, hk⟩)
  · exact h.1.own_lt k hk
  · exact (h.2 y hy).1.own_lt hne k hk
theorem MS.ge {w : World} {B : Nat} {v : Value} {ys : List MsgD} (h : MS w B v ys) : ∀ k, msB v ys k → B ≤ k := by
  rintro k (hk | ⟨y, hy, hne, hk⟩)
  · exact h.1.own_ge k hk
  · exact (h.2 y hy).2 hne k hk
theorem MS.only {S : Nat → Prop} {w w' : World} {B : Nat} {v : Value} {ys : List MsgD} (h : MS w B v ys) (ho : Only S w w') (hS : ∀ k, msB v ys k → ¬ S k) : MS w' B v ys :=
  ⟨h.1.only ho (fun k hk => hS k (.inl hk)), fun y hy => ⟨(h.2 y hy).1.only' ho (fun hne k hk => hS k (.inr ⟨y, hy, hne, hk⟩)), (h.2 y hy).2⟩⟩
theorem MS.keep {w w' : World} {B : Nat} {v : Value} {ys : List MsgD} (h : MS w B v ys) (hb : Below w.heap.size w w') : MS w' B v ys := h.only (Only.of_below (S := fun _ => False) hb) (fun _ _ h => h)
theorem MS.mono {w : World} {B B' : Nat} {v : Value} {ys : List MsgD} (h : MS w B v ys) (hb : B' ≤ B) : MS w B' v ys := ⟨h.1.mono hb, fun y hy => ⟨(h.2 y hy).1, fun hne k hk => Nat.le_trans hb ((h.2 y hy).2 hne k hk)⟩⟩
theorem MS.msgs {w : World} {B : Nat} {v : Value} {ys : List MsgD} (h : MS w B v ys) : MsgsAt w v ys := MsgsAt.of_rw h.1 (fun y hy => (h.2 y hy).1)
theorem MS.nil (w : World) (B : Nat) : MS w B (.slice none 0 0) [] := ⟨RW.nil _ _ _ _, by simp⟩
set_option maxRecDepth 100000 in
set_option maxHeartbeats 400000 in
theorem lfew_any (w : World) (rep : Bool) (rv : Value) (xs : List MsgD) (hv : MsgsAt w rv xs) :
    Calls Try.prog 22 #[.agg #[.bool rep, rv]] w fun e w' => ∃ (u : Value) (zs : List MsgD), e = .returned u ∧ MS w' w.heap.size u zs ∧ zs.map (·.l) = fewL (xs.map (·.l)) 3 100 ∧ Below w.heap.size w w' := by
  obtain ⟨ao, cap, rfl, hz1, hz2, hz3, hz4⟩ := id hv
  clear hz1 hz2 hz3 hz4
  have hA : Below w.heap.size w (w.alloc (.cells #[.bool rep, .slice ao xs.length cap] 55)) := (Below.refl _ _).alloc (Nat.le_refl _) _
  have hfw := refFew_any _ _ xs 3 100 (hv.keep hA) (by omega) (by omega)
  have HA := Lib.hid hA
  clear hA hv
  go_enter Try.func22, Try.ntmps22
  go_wp2_with fail
  refine hfw.mono ?_
  rintro e w1 ⟨u, zs, rfl, hru, hzl, hzb, hB1⟩
  have HF := Lib.hid (And.intro hru (And.intro hzl (And.intro hzb (HA.out.trans (hB1.mono HA.out.size)))))
  clear hru hzl hzb hB1 hfw
  go_wp2_with fail
  go_ret
  obtain ⟨hru, hzl, hzb, hB1⟩ := HF.out
  exact ⟨u, zs, rfl, ⟨hru.mono HA.out.size, fun y hy => ⟨(hzb y hy).1, fun hne k hk => Nat.le_trans HA.out.size ((hzb y hy).2 hne k hk)⟩⟩, hzl, hB1⟩
theorem bools_of_trodL {H : Type} {enc : TypeId × Value → H} {W : World} {fuel : Nat} {cs : List Value} {x : DataW H × List MemPlace}
    (h : DataW.trod enc Try.prog W 0 (fun _ => true) true fuel 50 cs = some x) : ∃ v l, cs = [v] ∧ BoolSl W v l := by
  rcases open_bools Try.underlying50 Try.underlying4 (by kernel_rfl) h with ⟨rfl, hx⟩ | ⟨a, len, cap, B, rfl, _, hl, hm, _, hc⟩
  · exact ⟨_, [], rfl, BoolSl.nil _⟩
  · refine ⟨_, (List.range len).map B, rfl, some a, cap, by simp, by simpa using hl, by unfold maxLen at hm; omega, fun hne => ?_⟩
    have hp : 0 < len := by
      rcases Nat.eq_zero_or_pos len with h0 | h0
      · subst h0; simp at hne
      · exact h0
    obtain ⟨b, off, spot⟩ := a
    have hspot : spot = none := by have := World.cell?_spot (hc 0 (by omega)); simpa [Addr.add] using this
    subst hspot
    refine ⟨b, off, rfl, fun j hj => ?_⟩
    have hj' : j < len := by simpa using hj
    have := hc j (by omega)
    rw [Addr.add_lit] at this
    rw [this]; simp
structure FallD where
  rv : Value
  acts : List LAct
  fuse : Int
  sv : Value
  stay : List Bool
instance : Inhabited FallD := ⟨⟨undef, [], 0, undef, []⟩⟩
def fallC (y : FallD) : List Value := [y.rv, .int .i64 y.fuse, y.sv]
def fallOk (W : World) (y : FallD) : Prop := LActsAt W y.rv y.acts ∧ BoolSl W y.sv y.stay
def FallsAt (w : World) (v : Value) (ys : List FallD) : Prop := RowsAt w v 3 fallC ys ∧ ∀ y ∈ ys, fallOk w y
theorem trod_struct3 {H : Type} {enc : TypeId × Value → H} {P : Program} {w : World} {base : Nat} {spare : Nat → Bool} {held : Bool} {t : TypeId} {f0 f1 f2 : Field} {fuel : Nat} {cs : List Value} {x : DataW H × List MemPlace} (ht : P.underlying t = some (.struct #[f0, f1, f2])) (h : DataW.trod enc P w base spare held fuel t cs = some x) :
    ∃ y0 y1 y2 n, DataW.trod enc P w base spare held n f0.type ((cs.drop f0.offset).take (P.cellsOf f0.type)) = some y0 ∧ DataW.trod enc P w base spare held n f1.type ((cs.drop f1.offset).take (P.cellsOf f1.type)) = some y1 ∧
      DataW.trod enc P w base spare held n f2.type ((cs.drop f2.offset).take (P.cellsOf f2.type)) = some y2 := by
  obtain ⟨xs, n, _, rfl, hl, hlen, hf⟩ := DataW.trod_struct ht h
  match xs, hlen with
  | [y0, y1, y2], _ => exact ⟨y0, y1, y2, n, by simpa using hf 0 f0 rfl, by simpa using hf 1 f1 rfl, by simpa using hf 2 f2 rfl⟩
theorem list3 {α : Type} {cs : List α} (h : cs.length = 3) : ∃ c0 c1 c2, cs = [c0, c1, c2] := by
  match cs, h with
  | [c0, c1, c2], _ => exact ⟨c0, c1, c2, rfl⟩
theorem open_falls {H : Type} {enc : TypeId × Value → H} {W : World} {a : Option Addr} {len cap : Nat} {d : DataW H} {p : List MemPlace}
    (h : DataW.Trod enc Try.prog W 0 (fun _ => true) true 48 (.slice a len cap) d p) : ∃ ys, FallsAt W (.slice a len cap) ys := by
  refine open_rows Try.underlying48 (n := 3) (by kernel_rfl) (by omega) fallC (fallOk W) ?_ h
  intro fuel cs x hlen ht
  have hc0 : Try.prog.cellsOf 49 = 1 := by kernel_rfl
  have hc1 : Try.prog.cellsOf 3 = 1 := by kernel_rfl
  have hc2 : Try.prog.cellsOf 50 = 1 := by kernel_rfl
  obtain ⟨y0, y1, y2, n', t0, t1, t2⟩ := trod_struct3 Try.underlying52 ht
  obtain ⟨u0, u1, u2, rfl⟩ := list3 hlen
  simp only [hc0, hc1, hc2] at t0 t1 t2
  obtain ⟨v0, ys, h0, r1, r2⟩ := rows_of_trod Try.underlying49 (n := 2) (by kernel_rfl) (by omega) lactC (fun y => MsgsAt W y.rv y.recs) lact_of_trod t0
  obtain ⟨k1, h1, _, w1⟩ := DataW.trod_int Try.underlying3 t1
  obtain ⟨v2, l2, h2, b2⟩ := bools_of_trodL t2
  simp at h0 h1 h2
  subst h0 h1 h2
  exact ⟨⟨_, ys, k1, _, l2⟩, rfl, ⟨r1, r2⟩, b2⟩
/-- What is there behind any crash: old or new. -/
def CrashOk (d : DK) (n T : Nat) (ol nw : List (List UInt8)) : Prop := d.fast.length = n ∧ (∀ x ∈ d.loose, x.1 < n) ∧
  ∀ stay, ∃ t a b, Img (d.crash stay).now t a b ∧ t ≤ T ∧ (b = allL ol ∨ b = allL nw) ∧ Hlt (d.crash stay) ∧ (d.crash stay).now.length = n
theorem CrashOk.good {d : DK} {t a T : Nat} {b : List UInt8} {ol nw : List (List UInt8)} (hH : Hlt d) (hI : Img d.now t a b) (ht : t ≤ T) (hb : b = allL ol) : CrashOk d d.now.length T ol nw := by
  refine ⟨by rw [hH.fast], by rw [hH.loose]; simp, fun stay => ?_⟩
  have hc : d.crash stay = { now := d.now, fast := d.now, loose := [], fuse := 0, off := false } := by
    unfold DK.crash
    rw [hH.loose, hH.fast]
    cases stay <;> rfl
  rw [hc]
  exact ⟨t, a, b, hI, ht, .inl hb, hlt_of rfl rfl rfl hH.sec hH.n4 hH.n100 ⟨Int.le_refl _, by show (0 : Int) ≤ 9223372036854775807; decide⟩, rfl⟩
end Go.Proofs.Ytbmdcblcefebiaa
