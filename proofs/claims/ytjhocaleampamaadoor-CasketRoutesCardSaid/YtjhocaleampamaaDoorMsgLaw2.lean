/- A message's bytes are read back; of no other message; cut or with more behind them they are none's. -/
import Derived.Test.YtjhocaleampamaaDoorMsgLaw
namespace Go.Proofs.YtjhocaleampamaaDoor
open Go.RowKit
set_option linter.unusedVariables false
theorem inK_iff {n lo hi : Int} : inK n lo hi = true ↔ lo ≤ n ∧ n ≤ hi := by unfold inK; exact decide_eq_true_iff
theorem setK_iff {r : RwD} : setK r = true ↔ (r.set.length : Int) ≤ 1048576 := by unfold setK; rw [decide_eq_true_iff]; omega
theorem listK_iff {l : List Int} : listK l = true ↔ l.length ≤ 255 ∧ ∀ x ∈ l, 0 ≤ x ∧ x ≤ 255 := by
  unfold listK
  rw [Bool.and_eq_true, decide_eq_true_iff, List.all_eq_true]
  exact ⟨fun h => ⟨h.1, fun x hx => inK_iff.1 (h.2 x hx)⟩, fun h => ⟨h.1, fun x hx => inK_iff.2 (h.2 x hx)⟩⟩
theorem z32_len : z32.length = 32 := by simp [z32]
theorem ats_cdc : Cdc (pMany (pNum 8 255)) (manyB numL) (fun xs => xs.length ≤ 255 ∧ ∀ x ∈ xs, 0 ≤ x ∧ x ≤ 255) := (num_cdc 255 (by omega)).many
theorem digs_cdc : Cdc (pMany (pFix 32)) (manyB fun v => v) (fun xs => xs.length ≤ 255 ∧ ∀ x ∈ xs, x.length = 32) := (fix_cdc 32).many
theorem rows_cdc : Cdc (pMany pRow) (manyB rowB) (fun xs => xs.length ≤ 255 ∧ ∀ x ∈ xs, rowK x) := row_cdc.many
def MD.fit (m : MD) : Prop := restK m = true ∧ m.K32 ∧ m.res = m
theorem rest_iff (k f a : Int) (b : List UInt8) (v : MD) (r : List UInt8) : pRest k f a b = some (v, r) ↔ (v.kind = k ∧ v.frm = f ∧ v.ask = a ∧ v.fit) ∧ b = restB v ++ r := by
  unfold pRest MD.fit restK restB MD.res MD.K32
  by_cases h14 : k = 1 ∨ k = 4
  · have e14 := eq_true h14
    rw [if_pos h14, then_iff]
    constructor
    · rintro ⟨x, r1, h1, h2⟩
      obtain ⟨hx, rfl⟩ := (row_cdc _ _ _).1 h1
      cases (show _ = (v, r) from Option.some.inj h2)
      dsimp only [MD.none, ↓reduceIte]
      simp only [e14, ↓reduceIte]
      exact ⟨⟨trivial, trivial, trivial, setK_iff.2 hx.2, ⟨hx.1, by simp, by simp⟩, trivial⟩, trivial⟩
    · rintro ⟨⟨rfl, rfl, rfl, h1, h2, h3⟩, h4⟩
      simp only [e14, ↓reduceIte] at h1 h3 h4
      exact ⟨v.row, r, (row_cdc _ _ _).2 ⟨⟨h2.1, setK_iff.1 h1⟩, h4⟩, by rw [h3]; rfl⟩
  have e14 := eq_false h14
  rw [if_neg h14]
  by_cases h2 : k = 2
  · have e2 := eq_true h2
    rw [if_pos h2, then_iff]
    constructor
    · rintro ⟨x, r1, h1, h5⟩
      obtain ⟨hx, rfl⟩ := (small_cdc 255 (by omega) _ _ _).1 h1
      cases (show _ = (v, r) from Option.some.inj h5)
      dsimp only [MD.none, ↓reduceIte]
      simp only [e14, e2, ↓reduceIte]
      exact ⟨⟨trivial, trivial, trivial, inK_iff.2 hx, ⟨z32_len, by simp, by simp⟩, trivial⟩, trivial⟩
    · rintro ⟨⟨rfl, rfl, rfl, h1, h5, h3⟩, h4⟩
      simp only [e14, e2, ↓reduceIte] at h1 h3 h4
      exact ⟨v.err, r, (small_cdc 255 (by omega) _ _ _).2 ⟨inK_iff.1 h1, h4⟩, by rw [h3]; rfl⟩
  have e2 := eq_false h2
  rw [if_neg h2]
  by_cases h3 : k = 3
  · have e3 := eq_true h3
    rw [if_pos h3, then_iff]
    constructor
    · rintro ⟨x, r1, h1, h5⟩
      obtain ⟨hx, rfl⟩ := (fix_cdc 32 _ _ _).1 h1
      cases (show _ = (v, r) from Option.some.inj h5)
      dsimp only [MD.none, ↓reduceIte]
      simp only [e14, e2, e3, ↓reduceIte]
      exact ⟨⟨trivial, trivial, trivial, trivial, ⟨hx, by simp, by simp⟩, trivial⟩, trivial⟩
    · rintro ⟨⟨rfl, rfl, rfl, h1, h5, h6⟩, h4⟩
      simp only [e14, e2, e3, ↓reduceIte] at h1 h6 h4
      exact ⟨v.row.key, r, (fix_cdc 32 _ _ _).2 ⟨h5.1, h4⟩, by rw [h6]; rfl⟩
  have e3 := eq_false h3
  rw [if_neg h3]
  by_cases h5 : k = 5
  · have e5 := eq_true h5
    rw [if_pos h5, then_iff]
    constructor
    · rintro ⟨x, r1, h1, h6⟩
      obtain ⟨y, r2, h7, h8⟩ := then_iff.1 h6
      obtain ⟨hx, rfl⟩ := (small_cdc 7 (by omega) _ _ _).1 h1
      obtain ⟨hy, rfl⟩ := (row_cdc _ _ _).1 h7
      cases (show _ = (v, r) from Option.some.inj h8)
      dsimp only [MD.none, ↓reduceIte]
      simp only [e14, e2, e3, e5, ↓reduceIte]
      exact ⟨⟨trivial, trivial, trivial, by rw [Bool.and_eq_true]; exact ⟨inK_iff.2 hx, setK_iff.2 hy.2⟩, ⟨hy.1, by simp, by simp⟩, trivial⟩, by rw [List.append_assoc]⟩
    · rintro ⟨⟨rfl, rfl, rfl, h1, h6, h7⟩, h4⟩
      simp only [e14, e2, e3, e5, ↓reduceIte] at h1 h7 h4
      rw [Bool.and_eq_true] at h1
      rw [List.append_assoc] at h4
      exact ⟨v.hold, rowB v.row ++ r, (small_cdc 7 (by omega) _ _ _).2 ⟨inK_iff.1 h1.1, h4⟩, then_iff.2 ⟨v.row, r, (row_cdc _ _ _).2 ⟨⟨h6.1, setK_iff.1 h1.2⟩, rfl⟩, by rw [h7]; rfl⟩⟩
  have e5 := eq_false h5
  rw [if_neg h5]
  by_cases h6 : k = 6
  · have e6 := eq_true h6
    rw [if_pos h6, then_iff]
    constructor
    · rintro ⟨x, r1, h1, h7⟩
      obtain ⟨y, r2, h8, h9⟩ := then_iff.1 h7
      obtain ⟨z, r3, h10, h11⟩ := then_iff.1 h9
      obtain ⟨hx, rfl⟩ := (small_cdc 4 (by omega) _ _ _).1 h1
      obtain ⟨hy, rfl⟩ := (ats_cdc _ _ _).1 h8
      obtain ⟨hz, rfl⟩ := (digs_cdc _ _ _).1 h10
      cases (show _ = (v, r) from Option.some.inj h11)
      dsimp only [MD.none, ↓reduceIte]
      simp only [e14, e2, e3, e5, e6, ↓reduceIte]
      exact ⟨⟨trivial, trivial, trivial, by rw [Bool.and_eq_true, Bool.and_eq_true]; exact ⟨⟨inK_iff.2 hx, listK_iff.2 hy⟩, decide_eq_true hz.1⟩, ⟨z32_len, hz.2, by simp⟩, trivial⟩, by simp only [List.append_assoc]⟩
    · rintro ⟨⟨rfl, rfl, rfl, h1, h7, h8⟩, h4⟩
      simp only [e14, e2, e3, e5, e6, ↓reduceIte] at h1 h8 h4
      rw [Bool.and_eq_true, Bool.and_eq_true] at h1
      simp only [List.append_assoc] at h4
      exact ⟨v.level, _, (small_cdc 4 (by omega) _ _ _).2 ⟨inK_iff.1 h1.1.1, h4⟩, then_iff.2 ⟨v.ats, _, (ats_cdc _ _ _).2 ⟨listK_iff.1 h1.1.2, rfl⟩, then_iff.2 ⟨v.digs, r, (digs_cdc _ _ _).2 ⟨⟨of_decide_eq_true h1.2, h7.2.1⟩, rfl⟩, by rw [h8]; rfl⟩⟩⟩
  have e6 := eq_false h6
  rw [if_neg h6]
  by_cases h7 : k = 7
  · have e7 := eq_true h7
    rw [if_pos h7, then_iff]
    constructor
    · rintro ⟨x, r1, h1, h8⟩
      obtain ⟨y, r2, h9, h10⟩ := then_iff.1 h8
      obtain ⟨hx, rfl⟩ := (ats_cdc _ _ _).1 h1
      obtain ⟨hy, rfl⟩ := (rows_cdc _ _ _).1 h9
      cases (show _ = (v, r) from Option.some.inj h10)
      dsimp only [MD.none, ↓reduceIte]
      simp only [e14, e2, e3, e5, e6, e7, ↓reduceIte]
      exact ⟨⟨trivial, trivial, trivial, by rw [Bool.and_eq_true, Bool.and_eq_true]; exact ⟨⟨listK_iff.2 hx, decide_eq_true hy.1⟩, List.all_eq_true.2 fun u hu => setK_iff.2 (hy.2 u hu).2⟩, ⟨z32_len, by simp, fun u hu => (hy.2 u hu).1⟩, trivial⟩, by simp only [List.append_assoc]⟩
    · rintro ⟨⟨rfl, rfl, rfl, h1, h8, h9⟩, h4⟩
      simp only [e14, e2, e3, e5, e6, e7, ↓reduceIte] at h1 h9 h4
      rw [Bool.and_eq_true, Bool.and_eq_true] at h1
      simp only [List.append_assoc] at h4
      exact ⟨v.ats, _, (ats_cdc _ _ _).2 ⟨listK_iff.1 h1.1.1, h4⟩, then_iff.2 ⟨v.rows, r, (rows_cdc _ _ _).2 ⟨⟨of_decide_eq_true h1.1.2, fun u hu => ⟨h8.2.2 u hu, setK_iff.1 (List.all_eq_true.1 h1.2 u hu)⟩⟩, rfl⟩, by rw [h9]; rfl⟩⟩
  have e7 := eq_false h7
  rw [if_neg h7]
  constructor
  · intro h; cases h
  · rintro ⟨⟨rfl, rfl, rfl, h1, _⟩, _⟩
    simp only [e14, e2, e3, e5, e6, e7, ↓reduceIte] at h1
    cases h1
theorem rest_kind {m : MD} (h : restK m = true) : 1 ≤ m.kind := by
  unfold restK at h
  by_cases h1 : 1 ≤ m.kind
  · exact h1
  · rw [if_neg (by omega), if_neg (by omega), if_neg (by omega), if_neg (by omega), if_neg (by omega), if_neg (by omega)] at h
    cases h
theorem msg_iff (b : List UInt8) (v : MD) (r : List UInt8) : pMsg b = some (v, r) ↔ (okM v = true ∧ v.K32 ∧ v.res = v) ∧ b = bytesM v ++ r := by
  unfold pMsg
  rw [then_iff]
  constructor
  · rintro ⟨k, r1, h1, h2⟩
    obtain ⟨f, r2, h3, h4⟩ := then_iff.1 h2
    obtain ⟨a, r3, h5, h6⟩ := then_iff.1 h4
    obtain ⟨hk, rfl⟩ := (small_cdc 7 (by omega) _ _ _).1 h1
    obtain ⟨hf, rfl⟩ := (small_cdc 8 (by omega) _ _ _).1 h3
    obtain ⟨ha, rfl⟩ := (num_cdc 4611686018427387904 (by omega) _ _ _).1 h5
    obtain ⟨⟨rfl, rfl, rfl, h7⟩, rfl⟩ := (rest_iff _ _ _ _ _ _).1 h6
    have h8 := rest_kind h7.1
    refine ⟨⟨?_, h7.2⟩, by simp only [bytesM, headB, List.append_assoc]⟩
    unfold okM headK
    simp only [Bool.and_eq_true]
    exact ⟨⟨⟨inK_iff.2 ⟨h8, hk.2⟩, inK_iff.2 hf⟩, inK_iff.2 ha⟩, h7.1⟩
  · rintro ⟨⟨h1, h2⟩, rfl⟩
    unfold okM headK at h1
    simp only [Bool.and_eq_true] at h1
    obtain ⟨⟨⟨hk, hf⟩, ha⟩, hr⟩ := h1
    have hk := inK_iff.1 hk
    exact ⟨v.kind, _, (small_cdc 7 (by omega) _ _ _).2 ⟨⟨by omega, hk.2⟩, by simp only [bytesM, headB, List.append_assoc]⟩, then_iff.2 ⟨v.frm, _, (small_cdc 8 (by omega) _ _ _).2 ⟨inK_iff.1 hf, rfl⟩, then_iff.2 ⟨v.ask, _, (num_cdc 4611686018427387904 (by omega) _ _ _).2 ⟨inK_iff.1 ha, rfl⟩, (rest_iff _ _ _ _ _ _).2 ⟨⟨rfl, rfl, rfl, hr, h2⟩, rfl⟩⟩⟩⟩
theorem res_head (m : MD) : m.res.kind = m.kind ∧ m.res.frm = m.frm ∧ m.res.ask = m.ask := by
  unfold MD.res
  split
  · exact ⟨rfl, rfl, rfl⟩
  split
  · exact ⟨rfl, rfl, rfl⟩
  split
  · exact ⟨rfl, rfl, rfl⟩
  split
  · exact ⟨rfl, rfl, rfl⟩
  split
  · exact ⟨rfl, rfl, rfl⟩
  split
  · exact ⟨rfl, rfl, rfl⟩
  exact ⟨rfl, rfl, rfl⟩
theorem res_rest (m : MD) : restK m.res = restK m ∧ restB m.res = restB m ∧ m.res.res = m.res ∧ (m.K32 → m.res.K32) := by
  obtain ⟨hk, hf, ha⟩ := res_head m
  unfold restK restB MD.K32
  rw [hk]
  unfold MD.res
  by_cases h14 : m.kind = 1 ∨ m.kind = 4
  · have e14 := eq_true h14
    simp only [e14, MD.none, ↓reduceIte]; exact ⟨trivial, trivial, trivial, fun h => ⟨h.1, by simp, by simp⟩⟩
  have e14 := eq_false h14
  simp only [e14, ↓reduceIte]
  by_cases h2 : m.kind = 2
  · have e2 := eq_true h2
    simp only [e2, e14, MD.none, ↓reduceIte]; exact ⟨trivial, trivial, trivial, fun h => ⟨z32_len, by simp, by simp⟩⟩
  have e2 := eq_false h2
  simp only [e2, ↓reduceIte]
  by_cases h3 : m.kind = 3
  · have e3 := eq_true h3
    simp only [e3, e14, e2, MD.none, ↓reduceIte]; exact ⟨trivial, trivial, trivial, fun h => ⟨h.1, by simp, by simp⟩⟩
  have e3 := eq_false h3
  simp only [e3, ↓reduceIte]
  by_cases h5 : m.kind = 5
  · have e5 := eq_true h5
    simp only [e5, e14, e2, e3, MD.none, ↓reduceIte]; exact ⟨trivial, trivial, trivial, fun h => ⟨h.1, by simp, by simp⟩⟩
  have e5 := eq_false h5
  simp only [e5, ↓reduceIte]
  by_cases h6 : m.kind = 6
  · have e6 := eq_true h6
    simp only [e6, e14, e2, e3, e5, MD.none, ↓reduceIte]; exact ⟨trivial, trivial, trivial, fun h => ⟨z32_len, h.2.1, by simp⟩⟩
  have e6 := eq_false h6
  simp only [e6, ↓reduceIte]
  by_cases h7 : m.kind = 7
  · have e7 := eq_true h7
    simp only [e7, e14, e2, e3, e5, e6, MD.none, ↓reduceIte]; exact ⟨trivial, trivial, trivial, fun h => ⟨z32_len, by simp, h.2.2⟩⟩
  have e7 := eq_false h7
  simp only [e7, e14, e2, e3, e5, e6, MD.none, ↓reduceIte]; exact ⟨trivial, trivial, trivial, fun h => ⟨z32_len, by simp, by simp⟩⟩
theorem res_ok (m : MD) : okM m.res = okM m ∧ bytesM m.res = bytesM m := by
  obtain ⟨hk, hf, ha⟩ := res_head m
  obtain ⟨h1, h2, _, _⟩ := res_rest m
  unfold okM headK bytesM headB
  rw [hk, hf, ha, h1, h2]
  exact ⟨rfl, rfl⟩
theorem msg_put {m : MD} (h : okM m = true) (hK : m.K32) (r : List UInt8) : pMsg (bytesM m ++ r) = some (m.res, r) := by
  obtain ⟨h1, h2⟩ := res_ok m
  obtain ⟨_, _, h3, h4⟩ := res_rest m
  exact (msg_iff _ _ _).2 ⟨⟨by rw [h1]; exact h, h4 hK, h3⟩, by rw [h2]⟩
theorem readM_iff {b : List UInt8} {m : MD} : readM b = some m ↔ pMsg b = some (m, []) := by
  unfold readM
  constructor
  · intro h
    split at h
    · rename_i x hx; cases h; exact hx
    · cases h
  · intro h; rw [h]
theorem read_back {m : MD} (h : okM m = true) (hK : m.K32) : readM (bytesM m) = some m.res := by
  have h1 := msg_put h hK []
  rw [List.append_nil] at h1
  exact readM_iff.2 h1
theorem read_some {b : List UInt8} {m : MD} (h : readM b = some m) : okM m = true ∧ m.K32 ∧ m.res = m ∧ bytesM m = b := by
  obtain ⟨⟨h1, h2, h3⟩, h4⟩ := (msg_iff _ _ _).1 (readM_iff.1 h)
  rw [List.append_nil] at h4
  exact ⟨h1, h2, h3, h4.symm⟩
theorem read_cut {m : MD} (h : okM m = true) (hK : m.K32) {n : Nat} (hn : n < (bytesM m).length) : readM ((bytesM m).take n) = none := by
  cases hr : readM ((bytesM m).take n) with
  | none => rfl
  | some m2 =>
    obtain ⟨h1, h2, h3, h4⟩ := read_some hr
    have e1 := msg_put h1 h2 ((bytesM m).drop n)
    rw [h4, List.take_append_drop] at e1
    have e2 := msg_put h hK []
    rw [List.append_nil, e1] at e2
    have e3 := congrArg Prod.snd (Option.some.inj e2)
    have e4 := congrArg List.length e3
    rw [List.length_drop] at e4
    simp at e4
    omega
theorem read_more {m : MD} (h : okM m = true) (hK : m.K32) {c : UInt8} : readM (bytesM m ++ [c]) = none := by
  cases hr : readM (bytesM m ++ [c]) with
  | none => rfl
  | some m2 =>
    have e1 := readM_iff.1 hr
    rw [msg_put h hK [c]] at e1
    cases (congrArg Prod.snd (Option.some.inj e1))
theorem bytes_pos {m : MD} (h : okM m = true) : 0 < (bytesM m).length := by
  unfold okM headK at h
  simp only [Bool.and_eq_true] at h
  have hk := inK_iff.1 h.1.1.1
  unfold bytesM headB smallL
  rw [if_pos (by omega)]; simp
end Go.Proofs.YtjhocaleampamaaDoor
