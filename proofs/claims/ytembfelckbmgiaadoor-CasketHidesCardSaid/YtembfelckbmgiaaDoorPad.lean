/- pad.Pad and the law's 'pads'. -/
import Derived.Test.YtembfelckbmgiaaDoorAppZ
import Derived.Test.YtembfelckbmgiaaDoorPadClass
import Derived.Test.YtembfelckbmgiaaDoorOutObj
import Derived.Lib.SlBytesConst
import Derived.Deep.QuietTactic
import Derived.BigQuiet
namespace Go.Proofs.YtembfelckbmgiaaDoor
open Go.RowKit
theorem wp_appz {w : World} {ops : Array Oper} {rest : List Oper} {o : Oper} {a : Act} {Q : Exit → Act → World → Prop} (hgd : o.guard = none) (s x : Operand)
    (ho : o.op = .call { callee := .builtin .append, args := #[s, x], argTypes := #[27, 3] })
    (base : Nat) (v : Value) (l : List UInt8) (k : Nat) (hs : a.eval s = v) (hx : a.eval x = .int .i64 k) (hv : OB w base v l) (hlen : l.length + k ≤ 1000000000) (hb : base ≤ w.heap.size)
    (h : ∀ v' w', OB w' base v' (l ++ List.replicate k 0) → w.grownBy w' v.ownBlock → (v'.ownBlock = v.ownBlock ∨ v'.ownBlock = some w.heap.size) → wpList Tryd.prog ops Q rest (a.put o.dst v') w') : wpList Tryd.prog ops Q (o :: rest) a w := by
  refine wpList_plain hgd fun K hK => ?_
  obtain ⟨v', w', hr, h1, h2, h3⟩ := run_appz w base o.type v l k hv hlen hb
  unfold Oper.wp execOp
  simp only [ho, resolve, invoke, builtin, Sem.run_bind, Sem.run_pure, Result.andThen_ok, List.map_toArray, List.map_cons, List.map_nil, hs, hx, hr]
  exact hK _ _ (h v' w' h1 h2 h3)
/-- What a text is padded to. -/
def padL (l : List UInt8) : List UInt8 := bytesL l ++ List.replicate ((clsS l.length).toNat - (l.length + 4)) 0
theorem bytesL_length (l : List UInt8) : (bytesL l).length = l.length + 4 := by simp [bytesL, putLowL_length]; omega
theorem clsS_ge {n : Nat} (h : n ≤ 4000) : (n : Int) + 4 ≤ clsS n ∧ clsS n ≤ 4096 := by
  unfold clsS; split
  · omega
  · split
    · omega
    · split
      · omega
      · split <;> omega
theorem clsE_ok {n : Nat} (h : n ≤ 4000) : clsE (n : Int) = 0 := by unfold clsE; rw [if_neg (by omega), if_neg (by omega)]
theorem clsE_big {n : Nat} (h : 4000 < n) : clsE (n : Int) = 5 := by unfold clsE; rw [if_neg (by omega), if_pos (by omega)]
theorem padL_length (l : List UInt8) (h : l.length ≤ 4000) : ((padL l).length : Int) = clsS l.length := by
  have := clsS_ge h
  simp only [padL, List.length_append, bytesL_length, List.length_replicate]; omega
set_option maxRecDepth 100000 in
set_option maxHeartbeats 1000000 in
theorem pad_ok (v : Value) (l : List UInt8) (w : World) (h : Bsl w v l) (hl : l.length ≤ 4000) :
    Calls Tryd.prog 14 #[v] w fun e w' => ∃ v', e = .returned (.tuple #[v', .int .i64 0]) ∧ OB w' w.heap.size v' (padL l) ∧ Below w.heap.size w w' := by
  have h' := h
  obtain ⟨ao, cap, rfl, hlc, hcm, hnil, hc⟩ := h'
  have hS := clsS_ge hl
  have hE := clsE_ok hl
  generalize hSe : clsS l.length = S at hS
  generalize hKe : clsK l.length = K
  go_enter Tryd.func14, Tryd.ntmps14
  go_wp2_with fail
  refine (class_any l.length _ (by omega) (by omega)).mono ?_
  rintro e w1 ⟨rfl, rfl⟩
  rw [hE, hSe, hKe]
  go_wp2_with fail
  have hpt : l ≠ [] → ∀ k, (Value.slice ao l.length cap).ownBlock = some k → k ≠ w.heap.size ∧ (none : Option Nat) ≠ some k :=
    fun hne k hk => ⟨fun e => by have := h.own_lt hne k hk; omega, by simp⟩
  refine (obytes_far _ _ _ (OutAt.fresh w w.heap.size 74 (Nat.le_refl _)) (h.keep ((Below.refl _ _).alloc (Nat.le_refl _) _)) hpt (by simp; omega)).mono ?_
  rintro e w2 ⟨rfl, g, hO, hE2⟩
  go_wp2_with fail
  refine (odone_any _ hO (by simp [bytesL_length]; omega)).mono ?_
  rintro e w3 ⟨v3, rfl, ho3, hb3⟩
  have hsz : w.heap.size ≤ w2.heap.size := Nat.le_trans (by simp) hE2.only.size
  obtain ⟨ao3, cap3, rfl, hsp⟩ := ho3.val
  have hl3 : ([] ++ bytesL l).length = l.length + 4 := by simp [bytesL_length]
  have hsub : wrap64 (S - ↑(bytesL l).length) = ((S.toNat - (l.length + 4) : Nat) : Int) := by
    rw [bytesL_length, IntWalk.wrap64_in _ (by omega)]; omega
  go_wp2_with (refine wp_appz rfl _ _ rfl w2.heap.size (.slice ao3 ([] ++ bytesL l).length cap3) _ (S.toNat - (l.length + 4)) rfl (by show Value.int .i64 _ = _; rw [hsub]) ho3 (by rw [hl3]; omega) hb3.size ?_; intro v4 w4 ho4 hg4 _)
  go_ret2
  refine ⟨_, rfl, ?_, ?_⟩
  · have e : padL l = bytesL l ++ List.replicate (S.toNat - (l.length + 4)) 0 := by unfold padL; rw [hSe]
    rw [e]; exact ho4.mono hsz
  · have h1 : Below w.heap.size w (w.alloc (Obj.cells #[Value.slice none 0 0, Value.bool false] 74)) := (Below.refl _ _).alloc (Nat.le_refl _) _
    have h2 := h1.trans (hE2.below h1.size (Nat.le_refl _) (fun k hk => by cases hk))
    exact (h2.trans (hb3.mono hsz)).trans (Below.of_grown hg4 (Nat.le_trans hsz hb3.size) (fun k hk => Nat.le_trans hsz (ho3.own_ge k hk)))
set_option maxRecDepth 100000 in
theorem pad_big (v : Value) (l : List UInt8) (w : World) (h : Bsl w v l) (hl : 4000 < l.length) :
    Calls Tryd.prog 14 #[v] w fun e w' => e = .returned (.tuple #[.slice none 0 0, .int .i64 5]) ∧ w = w' := by
  obtain ⟨ao, cap, rfl, hlc, hcm, hnil, hc⟩ := h
  have hE := clsE_big hl
  go_enter Tryd.func14, Tryd.ntmps14
  go_wp2_with fail
  refine (class_any l.length _ (by omega) (by omega)).mono ?_
  rintro e w1 ⟨rfl, rfl⟩
  rw [hE]
  go_wp2_with fail
  go_ret2
  exact ⟨rfl, rfl⟩
end Go.Proofs.YtembfelckbmgiaaDoor
