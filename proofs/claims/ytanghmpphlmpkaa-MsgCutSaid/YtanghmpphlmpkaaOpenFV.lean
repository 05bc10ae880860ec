/- casketref22.Msg, opened. -/
import Derived.Test.YtanghmpphlmpkaaOpenRows
import Derived.Test.YtanghmpphlmpkaaMsgF
namespace Go.Proofs.Ytanghmpphlmpkaa
set_option linter.unusedVariables false
open Go.ChangeShapes Go.WideShapes Go.ChangeAt Go.RowKit Go.Deep
/-- A slice that stands within something that came in. -/
theorem rows_of_trod {H : Type} {enc : TypeId × Value → H} {W : World} {fuel : Nat} {cs : List Value} {x : DataW H × List MemPlace} {t e : TypeId} {n : Nat} (ht : Try.prog.underlying t = some (.slice e)) (hn : Try.prog.cellsOf e = n) (hpos : 0 < n)
    {Y : Type} [Inhabited Y] (rec : Y → List Value) (Q : Y → Prop)
    (elt : ∀ (fuel : Nat) (cs : List Value) (x : DataW H × List MemPlace), cs.length = n → DataW.trod enc Try.prog W 0 (fun _ => true) true fuel e cs = some x → ∃ y, cs = rec y ∧ Q y)
    (h : DataW.trod enc Try.prog W 0 (fun _ => true) true fuel t cs = some x) : ∃ (v : Value) (ys : List Y), cs = [v] ∧ RowsAt W v n rec ys ∧ ∀ y ∈ ys, Q y := by
  rcases open_slice ht h with ⟨rfl, _⟩ | ⟨a, len, cap, m, n', D, Pl, rfl, _⟩
  · obtain ⟨ys, h1, h2⟩ := open_rows (d := x.1) (p := x.2) ht hn hpos rec Q elt ⟨fuel, h⟩
    exact ⟨_, ys, rfl, h1, h2⟩
  · obtain ⟨ys, h1, h2⟩ := open_rows (d := x.1) (p := x.2) ht hn hpos rec Q elt ⟨fuel, h⟩
    exact ⟨_, ys, rfl, h1, h2⟩
theorem trod_struct2 {H : Type} {enc : TypeId × Value → H} {P : Program} {w : World} {base : Nat} {spare : Nat → Bool} {held : Bool} {t : TypeId} {f0 f1 : Field} {fuel : Nat} {cs : List Value} {x : DataW H × List MemPlace} (ht : P.underlying t = some (.struct #[f0, f1])) (h : DataW.trod enc P w base spare held fuel t cs = some x) :
    ∃ y0 y1 n, DataW.trod enc P w base spare held n f0.type ((cs.drop f0.offset).take (P.cellsOf f0.type)) = some y0 ∧ DataW.trod enc P w base spare held n f1.type ((cs.drop f1.offset).take (P.cellsOf f1.type)) = some y1 := by
  obtain ⟨xs, n, _, rfl, hl, hlen, hf⟩ := DataW.trod_struct ht h
  match xs, hlen with
  | [y0, y1], _ => exact ⟨y0, y1, n, by simpa using hf 0 f0 rfl, by simpa using hf 1 f1 rfl⟩
theorem trod_struct10 {H : Type} {enc : TypeId × Value → H} {P : Program} {w : World} {base : Nat} {spare : Nat → Bool} {held : Bool} {t : TypeId} {f0 f1 f2 f3 f4 f5 f6 f7 f8 f9 : Field} {fuel : Nat} {cs : List Value} {x : DataW H × List MemPlace} (ht : P.underlying t = some (.struct #[f0, f1, f2, f3, f4, f5, f6, f7, f8, f9])) (h : DataW.trod enc P w base spare held fuel t cs = some x) :
    ∃ n, ∀ f ∈ [f0, f1, f2, f3, f4, f5, f6, f7, f8, f9], ∃ y, DataW.trod enc P w base spare held n f.type ((cs.drop f.offset).take (P.cellsOf f.type)) = some y := by
  obtain ⟨xs, n, _, rfl, hl, hlen, hf⟩ := DataW.trod_struct ht h
  match xs, hlen with
  | [y0, y1, y2, y3, y4, y5, y6, y7, y8, y9], _ =>
    refine ⟨n, fun f hm => ?_⟩
    simp only [List.mem_cons, List.not_mem_nil, or_false] at hm
    rcases hm with rfl | rfl | rfl | rfl | rfl | rfl | rfl | rfl | rfl | rfl
    · exact ⟨y0, by simpa using hf 0 _ rfl⟩
    · exact ⟨y1, by simpa using hf 1 _ rfl⟩
    · exact ⟨y2, by simpa using hf 2 _ rfl⟩
    · exact ⟨y3, by simpa using hf 3 _ rfl⟩
    · exact ⟨y4, by simpa using hf 4 _ rfl⟩
    · exact ⟨y5, by simpa using hf 5 _ rfl⟩
    · exact ⟨y6, by simpa using hf 6 _ rfl⟩
    · exact ⟨y7, by simpa using hf 7 _ rfl⟩
    · exact ⟨y8, by simpa using hf 8 _ rfl⟩
    · exact ⟨y9, by simpa using hf 9 _ rfl⟩
theorem list2 {α : Type} {cs : List α} (h : cs.length = 2) : ∃ c0 c1, cs = [c0, c1] := by
  match cs, h with
  | [c0, c1], _ => exact ⟨c0, c1, rfl⟩
theorem list11 {α : Type} {cs : List α} (h : cs.length = 11) : ∃ c0 c1 c2 c3 c4 c5 c6 c7 c8 c9 c10, cs = [c0, c1, c2, c3, c4, c5, c6, c7, c8, c9, c10] := by
  match cs, h with
  | [c0, c1, c2, c3, c4, c5, c6, c7, c8, c9, c10], _ => exact ⟨c0, c1, c2, c3, c4, c5, c6, c7, c8, c9, c10, rfl⟩
theorem RowsAt.rd {Y : Type} {w : World} {v : Value} {n : Nat} {rec : Y → List Value} {ys : List Y} (h : RowsAt w v n rec ys) (hl : ∀ y, (rec y).length = n) : Rd w n v (ys.map rec) ∧ ∀ m c, v = .slice none m c → c = 0 := by
  obtain ⟨ao, cap, rfl, h1, h2, h3, h4⟩ := h
  refine ⟨⟨fun r hr => ?_, ao, cap, by rw [List.length_map], by rw [List.length_map]; exact h1, h2, fun hne => ?_⟩, fun m c e => ?_⟩
  · obtain ⟨y, _, rfl⟩ := List.mem_map.1 hr
    exact hl y
  · obtain ⟨b, off, rfl, hc⟩ := h4 (fun e => hne (by rw [e]; rfl))
    refine ⟨b, off, rfl, fun i hi j u hu => ?_⟩
    rw [List.length_map] at hi
    rw [List.getElem_map] at hu
    have hj : j < n := by have := (List.getElem?_eq_some_iff.1 hu).1; rwa [hl] at this
    rw [hc i hi j hj]; exact hu
  · injection e with e1 e2 e3
    rw [← e3]; exact h3 e1
theorem str_of (s : ByteArray) : s = ⟨s.data.toList.toArray⟩ := by cases s; simp
theorem rwd_of_trod {H : Type} {enc : TypeId × Value → H} {W : World} (fuel : Nat) (cs : List Value) (x : DataW H × List MemPlace) (hlen : cs.length = 2)
    (ht : DataW.trod enc Try.prog W 0 (fun _ => true) true fuel 23 cs = some x) : ∃ y : RwD, cs = rrC y ∧ y.set.length ≤ 9223372036854775807 := by
  have hcb : Try.prog.cellsOf 9 = 1 := by kernel_rfl
  obtain ⟨y0, y1, n', t0, t1⟩ := trod_struct2 Try.underlying23 ht
  obtain ⟨u0, u1, rfl⟩ := list2 hlen
  simp only [hcb] at t0 t1
  obtain ⟨s0, h0, _, _⟩ := DataW.trod_string Try.underlying9 t0
  obtain ⟨s1, h1, _, hm⟩ := DataW.trod_string Try.underlying9 t1
  simp at h0 h1
  subst h0 h1
  refine ⟨⟨s0.data.toList, s1.data.toList⟩, by unfold rrC; rw [← str_of, ← str_of], ?_⟩
  have h2 : s1.data.toList.length = s1.size := Array.length_toList
  exact Nat.le_trans (Nat.le_of_eq h2) hm
theorem int_of_trod {H : Type} {enc : TypeId × Value → H} {W : World} (fuel : Nat) (cs : List Value) (x : DataW H × List MemPlace) (hlen : cs.length = 1)
    (ht : DataW.trod enc Try.prog W 0 (fun _ => true) true fuel 3 cs = some x) : ∃ y : Int, cs = intC y ∧ i64 y := by
  obtain ⟨n, h0, _, hw⟩ := DataW.trod_int Try.underlying3 ht
  exact ⟨n, h0, int_of_wf hw⟩
theorem str_of_trod {H : Type} {enc : TypeId × Value → H} {W : World} (fuel : Nat) (cs : List Value) (x : DataW H × List MemPlace) (hlen : cs.length = 1)
    (ht : DataW.trod enc Try.prog W 0 (fun _ => true) true fuel 9 cs = some x) : ∃ y : List UInt8, cs = strC y ∧ True := by
  obtain ⟨s0, h0, _, _⟩ := DataW.trod_string Try.underlying9 ht
  exact ⟨s0.data.toList, by unfold strC; rw [← str_of]; exact h0, trivial⟩
instance : Inhabited RwD := ⟨⟨[], []⟩⟩
/-- A message of the document's that came in. -/
def InFV (W : World) (v : Value) (x : FV) : Prop := v = .agg x.C.toArray ∧ x.At W ∧ (x.m.row.set.length ≤ 9223372036854775807 ∧ ∀ r ∈ x.m.rows, r.set.length ≤ 9223372036854775807) ∧ ∀ n c, x.av = .slice none n c → c = 0
set_option maxRecDepth 100000 in
theorem open_fv {H : Type} {enc : TypeId × Value → H} {W : World} {b0 : Nat} {v : Value} {d : DataW H} {p : List MemPlace} (hval : Value.okWide Try.prog W .any b0 28 v)
    (h : DataW.Trod enc Try.prog W 0 (fun _ => true) true 28 v d p) : ∃ x : FV, InFV W v x := by
  obtain ⟨ca, rfl, hsz⟩ := okWide_struct Try.underlying28 hval
  obtain ⟨fuel, hf⟩ := h
  have hc28 : Try.prog.cellsOf 28 = 11 := by kernel_rfl
  have hci : Try.prog.cellsOf 3 = 1 := by kernel_rfl
  have hcr : Try.prog.cellsOf 23 = 2 := by kernel_rfl
  have hca : Try.prog.cellsOf 24 = 1 := by kernel_rfl
  have hcd : Try.prog.cellsOf 25 = 1 := by kernel_rfl
  have hco : Try.prog.cellsOf 26 = 1 := by kernel_rfl
  rw [hc28] at hsz
  obtain ⟨cs⟩ := ca
  have hsz : cs.length = 11 := by simpa using hsz
  have hf : DataW.trod enc Try.prog W 0 (fun _ => true) true fuel 28 cs = some (d, p) := by simpa [Value.cells] using hf
  obtain ⟨n, hall⟩ := trod_struct10 Try.underlying28 hf
  obtain ⟨u0, u1, u2, u3, u4, u5, u6, u7, u8, u9, u10, rfl⟩ := list11 hsz
  obtain ⟨y0, t0⟩ := hall _ (.head _)
  obtain ⟨y1, t1⟩ := hall _ (.tail _ (.head _))
  obtain ⟨y2, t2⟩ := hall _ (.tail _ (.tail _ (.head _)))
  obtain ⟨y3, t3⟩ := hall _ (.tail _ (.tail _ (.tail _ (.head _))))
  obtain ⟨y4, t4⟩ := hall _ (.tail _ (.tail _ (.tail _ (.tail _ (.head _)))))
  obtain ⟨y5, t5⟩ := hall _ (.tail _ (.tail _ (.tail _ (.tail _ (.tail _ (.head _))))))
  obtain ⟨y6, t6⟩ := hall _ (.tail _ (.tail _ (.tail _ (.tail _ (.tail _ (.tail _ (.head _)))))))
  obtain ⟨y7, t7⟩ := hall _ (.tail _ (.tail _ (.tail _ (.tail _ (.tail _ (.tail _ (.tail _ (.head _))))))))
  obtain ⟨y8, t8⟩ := hall _ (.tail _ (.tail _ (.tail _ (.tail _ (.tail _ (.tail _ (.tail _ (.tail _ (.head _)))))))))
  obtain ⟨y9, t9⟩ := hall _ (.tail _ (.tail _ (.tail _ (.tail _ (.tail _ (.tail _ (.tail _ (.tail _ (.tail _ (.head _))))))))))
  simp only [hci, hcr, hca, hcd, hco] at t0 t1 t2 t3 t4 t5 t6 t7 t8 t9
  obtain ⟨k, h0, b0⟩ := int_of_trod _ _ _ (by simp) t0
  obtain ⟨f, h1, b1⟩ := int_of_trod _ _ _ (by simp) t1
  obtain ⟨a, h2, b2⟩ := int_of_trod _ _ _ (by simp) t2
  obtain ⟨er, h3, b3⟩ := int_of_trod _ _ _ (by simp) t3
  obtain ⟨hd, h4, b4⟩ := int_of_trod _ _ _ (by simp) t4
  obtain ⟨lv, h5, b5⟩ := int_of_trod _ _ _ (by simp) t5
  obtain ⟨r, h6, b6⟩ := rwd_of_trod _ _ _ (by simp) t6
  obtain ⟨av, ats, h7, r7, b7⟩ := rows_of_trod Try.underlying24 (n := 1) hci (by omega) intC i64 int_of_trod t7
  obtain ⟨dv, digs, h8, r8, _⟩ := rows_of_trod Try.underlying25 (n := 1) (by kernel_rfl) (by omega) strC (fun _ => True) str_of_trod t8
  obtain ⟨rv, rows, h9, r9, b9⟩ := rows_of_trod Try.underlying26 (n := 2) hcr (by omega) rrC (fun y => y.set.length ≤ 9223372036854775807) rwd_of_trod t9
  simp [intC, rrC] at h0 h1 h2 h3 h4 h5 h6 h7 h8 h9
  obtain ⟨rfl, rfl⟩ := h6
  subst h0 h1 h2 h3 h4 h5 h7 h8 h9
  obtain ⟨d7, n7⟩ := r7.rd (fun _ => rfl)
  obtain ⟨d8, _⟩ := r8.rd (fun _ => rfl)
  obtain ⟨d9, _⟩ := r9.rd (fun _ => rfl)
  exact ⟨⟨⟨k, f, a, er, hd, lv, r, ats, digs, rows⟩, _, _, _⟩, rfl, ⟨d7, d8, d9, b7, b0, b1, b2, b3, b4, b5⟩, ⟨b6, b9⟩, n7⟩
end Go.Proofs.Ytanghmpphlmpkaa
