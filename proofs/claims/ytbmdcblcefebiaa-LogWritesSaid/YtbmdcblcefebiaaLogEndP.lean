/- The log, plain: a byte of a record changed. -/
import Derived.Test.YtbmdcblcefebiaaLogE
namespace Go.Proofs.Ytbmdcblcefebiaa
open Go.RowKit
theorem has_set {s : List (List UInt8)} {A J : Nat} {b x : List UInt8} {c : UInt8} (h : Has s A b) (hJ : J < b.length) (hx : s[A + J / 64]? = some x) :
    Has (s.set (A + J / 64) (x.set (J % 64) (x.getD (J % 64) 0 ^^^ c))) A (b.set J (b.getD J 0 ^^^ c)) := by
  have hsl : A + J / 64 < s.length := (List.getElem?_eq_some_iff.1 hx).1
  obtain ⟨x', hx', he⟩ := h (J / 64) (by omega)
  rw [hx] at hx'
  injection hx' with hx'
  subst hx'
  have hval : x.getD (J % 64) 0 = b.getD J 0 := by
    have h1 := congrArg (fun l => l[J % 64]?) he
    simp only [List.getElem?_take, List.getElem?_drop] at h1
    rw [if_pos (by omega), if_pos (by omega), show J / 64 * 64 + J % 64 = J by omega] at h1
    rw [List.getD, List.getD, h1]
  intro k hk
  rw [List.length_set] at hk ⊢
  by_cases hkj : k = J / 64
  · subst hkj
    refine ⟨_, List.getElem?_set_self hsl, ?_⟩
    rw [List.take_set, he, hval, List.drop_set, if_neg (by omega), List.take_set, show J - J / 64 * 64 = J % 64 by omega]
  · obtain ⟨y, hy, h2⟩ := h k hk
    refine ⟨y, by rw [List.getElem?_set_ne (by omega)]; exact hy, ?_⟩
    rw [h2, List.drop_set]
    split
    · rfl
    · rw [List.take_set_of_le (by omega)]
theorem img_set {s : List (List UInt8)} {t a J : Nat} {b x : List UInt8} {c : UInt8} (h : Img s t a b) (hJ : J < b.length) (hx : s[2 + a * areaN s.length + J / 64]? = some x) :
    Img (s.set (2 + a * areaN s.length + J / 64) (x.set (J % 64) (x.getD (J % 64) 0 ^^^ c))) t a (b.set J (b.getD J 0 ^^^ c)) := by
  have hxl : x.length = 64 := h.sec x (List.mem_of_getElem? hx)
  refine ⟨by rw [List.length_set]; exact h.n4, by rw [List.length_set]; exact h.n100, fun y hy => ?_, ?_, ?_, h.t1, h.tB, h.a1, by rw [List.length_set, List.length_set]; exact h.fit, ?_⟩
  · rcases List.mem_or_eq_of_mem_set hy with h1 | h1
    · exact h.sec y h1
    · rw [h1, List.length_set]; exact hxl
  · rw [List.getElem?_set_ne (by omega), List.length_set]; exact h.head
  · obtain ⟨ho, y, h1, h2, h3⟩ := h.other
    exact ⟨ho, y, by rw [List.getElem?_set_ne (by omega)]; exact h1, by rw [List.length_set]; exact h2, h3⟩
  · rw [List.length_set]
    exact has_set h.has hJ hx
theorem allL_append (a b : List (List UInt8)) : allL (a ++ b) = allL a ++ allL b := by unfold allL; rw [List.map_append, List.flatten_append]
theorem allL_split (rs : List (List UInt8)) {k : Nat} (hk : k < rs.length) : allL rs = allL (rs.take k) ++ (recL rs[k] ++ allL (rs.drop (k + 1))) := by
  conv => lhs; rw [← List.take_append_drop k rs, List.drop_eq_getElem_cons hk]
  rw [allL_append, show rs[k] :: rs.drop (k + 1) = [rs[k]] ++ rs.drop (k + 1) from rfl, allL_append]
  congr 2
  simp [allL]
theorem recsA_set (rs : List (List UInt8)) {k j : Nat} (hk : k < rs.length) (hr : ∀ r ∈ rs, r.length ≤ 2147483647) (h4 : 4 ≤ j) (hj : j < rs[k].length + 8) (c : UInt8) (hc : c ≠ 0) :
    recsA ((allL rs).set ((allL (rs.take k)).length + j) ((allL rs).getD ((allL (rs.take k)).length + j) 0 ^^^ c)) = (rs.take k, (allL (rs.take k)).length) := by
  have hl := recL_len rs[k]
  have hsp := allL_split rs hk
  have hg : (allL rs).getD ((allL (rs.take k)).length + j) 0 = (recL rs[k]).getD j 0 := by
    rw [hsp, List.getD, List.getD, List.getElem?_append_right (by omega), Nat.add_sub_cancel_left, List.getElem?_append_left (by omega)]
  rw [hg]
  have hset : (allL rs).set ((allL (rs.take k)).length + j) ((recL rs[k]).getD j 0 ^^^ c) = allL (rs.take k) ++ ((recL rs[k]).set j ((recL rs[k]).getD j 0 ^^^ c) ++ allL (rs.drop (k + 1))) := by
    conv => lhs; rw [hsp]
    rw [List.set_append_right _ _ (by omega), Nat.add_sub_cancel_left, List.set_append_left _ _ (by omega)]
  rw [hset]
  have hno := recOk_changed rs[k] (allL (rs.drop (k + 1))) (hr _ (List.getElem_mem hk)) j h4 hj c hc
  have hz : ∀ n, recsL n ((recL rs[k]).set j ((recL rs[k]).getD j 0 ^^^ c) ++ allL (rs.drop (k + 1))) = ([], 0) := fun n => by
    cases n with
    | zero => rfl
    | succ n => rw [recsL, if_neg (fun h => by rw [hno] at h; exact absurd h.2 (by decide))]
  refine recsL_all _ hz _ _ (fun r h => hr r (List.mem_of_mem_take h)) ?_
  have := allL_count (rs.take k)
  rw [List.length_append]; omega
theorem open_img (w : World) {p : Nat} {d : DK} {ds : Nat → Prop} (h : DiskAt w p d ds) (hoff : d.off = false) {t a : Nat} {b : List UInt8} (hI : Img d.now t a b) :
    Calls Try.prog 17 #[.pointer (some ⟨p, 0, none⟩)] w fun e w' => ∃ (lp : Nat) (u : Value) (ys : List MsgD), e = .returned (.tuple #[.pointer (some ⟨lp, 0, none⟩), u, .int .i64 0]) ∧ MsgsAt w' u ys ∧ ys.map (·.l) = (recsA b).1 ∧ Below w.heap.size w w' ∧
      ∃ bs, LogAt w' lp p d ⟨t, a, b.take (recsA b).2⟩ bs ∧ ∀ k, bs k → ds k ∨ w.heap.size ≤ k := by
  obtain ⟨h0, h1, g0, g1, hb⟩ := hI.heads
  have har := hI.has.area hI.sec
  have ht1 := hI.t1
  refine (lopen_any w h hoff hI.n4 hI.n100 hI.sec g0 g1 hb (by omega) hI.a1 hI.fit).mono ?_
  rintro e w' ⟨lp, u, ys, rfl, ⟨hr, hm, hy⟩, hB, bs, hL, hbs⟩
  rw [har] at hm hL
  exact ⟨lp, u, ys, rfl, MsgsAt.of_rw hr hy, hm, hB, bs, hL, hbs⟩
end Go.Proofs.Ytbmdcblcefebiaa
