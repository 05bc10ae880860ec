/- Messages, their rows and lists: what they are in memory. -/
import Derived.Test.YtjhocaleampamaaDoorMsgW
namespace Go.Proofs.YtjhocaleampamaaDoor
open Go.RowKit
set_option linter.unusedVariables false
/-- v is a slice that can be read as the records rs, of sz cells each. -/
def Rd (w : World) (sz : Nat) (v : Value) (rs : List (List Value)) : Prop :=
  (∀ r ∈ rs, r.length = sz) ∧ ∃ ao cap, v = .slice ao rs.length cap ∧ rs.length ≤ cap ∧ cap ≤ 9223372036854775807 ∧
    (rs ≠ [] → ∃ g o, ao = some ⟨g, o, none⟩ ∧ ∀ i (h : i < rs.length), w.rangeAt g (o + i * sz) rs[i])
theorem rangeAt_only {S : Nat → Prop} {w w' : World} {g o : Nat} {cs : List Value} (h : w.rangeAt g o cs) (ho : Only S w w') (hn : ¬ S g) : w'.rangeAt g o cs := fun j v hv => by
  have h0 := h j v hv
  exact (ho.cell (p := ⟨g, o + j, none⟩) (World.block_lt_of_cell? w _ h0) hn).trans h0
theorem rangeAt_keep {w w' : World} {g o : Nat} {cs : List Value} (h : w.rangeAt g o cs) (hb : Below w.heap.size w w') : w'.rangeAt g o cs := rangeAt_only h (Only.of_below (S := fun _ => False) hb) (fun h => h)
theorem Rd.keep {w w' : World} {sz : Nat} {v : Value} {rs : List (List Value)} (h : Rd w sz v rs) (hb : Below w.heap.size w w') : Rd w' sz v rs := by
  obtain ⟨h1, ao, cap, h2, h3, h4, h5⟩ := h
  refine ⟨h1, ao, cap, h2, h3, h4, fun hne => ?_⟩
  obtain ⟨g, o, e, hr⟩ := h5 hne
  exact ⟨g, o, e, fun i hi => rangeAt_keep (hr i hi) hb⟩
theorem Rd.only {S : Nat → Prop} {w w' : World} {sz : Nat} {v : Value} {rs : List (List Value)} (h : Rd w sz v rs) (ho : Only S w w') (hn : ∀ k, v.ownBlock = some k → ¬ S k) : Rd w' sz v rs := by
  obtain ⟨h1, ao, cap, rfl, h3, h4, h5⟩ := h
  refine ⟨h1, ao, cap, rfl, h3, h4, fun hne => ?_⟩
  obtain ⟨g, o, rfl, hr⟩ := h5 hne
  exact ⟨g, o, rfl, fun i hi => rangeAt_only (hr i hi) ho (hn g rfl)⟩
theorem Rd.nil (w : World) (sz : Nat) : Rd w sz (.slice none 0 0) [] := ⟨by simp, none, 0, rfl, Nat.le_refl _, by omega, by simp⟩
theorem RW.rd {w : World} {base : Nat} {e : TypeId} {sz : Nat} {v : Value} {rs : List (List Value)} (h : RW w base e sz v rs) : Rd w sz v rs := by
  obtain ⟨ao, cap, rfl, h1, h2, _⟩ := h.val
  refine ⟨h.2, ao, cap, rfl, h1, h2, fun hne => ?_⟩
  obtain ⟨g, cap2, cur, he, _⟩ : ∃ g cap2 cur, Value.slice ao rs.length cap = .slice (some ⟨g, 0, none⟩) rs.length cap2 ∧ cur = 0 := by
    rcases h.1.2 with ⟨e0, h0⟩ | ⟨g, cap2, cur, e0, _⟩
    · exact absurd (List.eq_nil_of_length_eq_zero h0) hne
    · exact ⟨g, cap2, 0, e0, rfl⟩
  injection he with e1 e2 e3
  subst e1
  exact ⟨g, 0, rfl, fun i hi => by rw [Nat.zero_add]; exact h.range rfl hi⟩
/-- A row, with the value of its bytes. -/
structure RV where
  key : List UInt8
  sv : Value
  set : List UInt8
def RV.d (y : RV) : RwD := ⟨y.key, y.set⟩
def RV.C (y : RV) : List Value := y.key.map bv ++ [y.sv]
def RV.At (w : World) (y : RV) : Prop := y.key.length = 32 ∧ Bsl w y.sv y.set
theorem RV.At.keep {w w' : World} {y : RV} (h : y.At w) (hb : Below w.heap.size w w') : y.At w' := ⟨h.1, h.2.keep hb⟩
/-- A message, with the values of its parts. -/
structure MV where
  m : MD
  sv : Value
  av : Value
  dv : Value
  rv : Value
  ys : List RV
def MV.row (x : MV) : RV := ⟨x.m.row.key, x.sv, x.m.row.set⟩
def MV.C (x : MV) : List Value := [.int .i64 x.m.kind, .int .i64 x.m.frm, .int .i64 x.m.ask, .int .i64 x.m.err, .int .i64 x.m.hold, .int .i64 x.m.level] ++ (x.row.C ++ [x.av, x.dv, x.rv])
def i64 (n : Int) : Prop := -9223372036854775808 ≤ n ∧ n ≤ 9223372036854775807
def MD.Big (m : MD) : Prop := (i64 m.kind ∧ i64 m.frm ∧ i64 m.ask ∧ i64 m.err ∧ i64 m.hold ∧ i64 m.level) ∧ (∀ n ∈ m.ats, i64 n) ∧ m.row.set.length ≤ 1000000 ∧ m.ats.length ≤ 1000 ∧ m.digs.length ≤ 1000 ∧ m.rows.length ≤ 1000 ∧ ∀ r ∈ m.rows, r.set.length ≤ 1000000
def intC (n : Int) : List Value := [.int .i64 n]
def MV.At (w : World) (x : MV) : Prop := x.row.At w ∧ Rd w 1 x.av (x.m.ats.map intC) ∧ Rd w 32 x.dv (x.m.digs.map (·.map bv)) ∧ Rd w 33 x.rv (x.ys.map RV.C) ∧ (∀ y ∈ x.ys, y.At w) ∧ x.m.rows = x.ys.map RV.d ∧ x.m.Big
theorem MV.At.keep {w w' : World} {x : MV} (h : x.At w) (hb : Below w.heap.size w w') : x.At w' :=
  ⟨h.1.keep hb, h.2.1.keep hb, h.2.2.1.keep hb, h.2.2.2.1.keep hb, fun y hy => (h.2.2.2.2.1 y hy).keep hb, h.2.2.2.2.2⟩
theorem MV.At.K32 {w : World} {x : MV} (h : x.At w) : x.m.K32 := by
  obtain ⟨h1, _, h3, _, h5, h6, _⟩ := h
  refine ⟨h1.1, fun d hd => ?_, fun r hr => ?_⟩
  · have := h3.1 _ (List.mem_map_of_mem (f := (·.map bv)) hd)
    simpa using this
  · rw [h6] at hr
    obtain ⟨y, hy, rfl⟩ := List.mem_map.1 hr
    exact (h5 y hy).1
theorem Bsl.shape {w : World} {v : Value} {l : List UInt8} (h : Bsl w v l) : ∃ ao cap, v = .slice ao l.length cap := by
  obtain ⟨ao, cap, h1, _⟩ := h
  exact ⟨ao, cap, h1⟩
theorem RV.C_len {w : World} {y : RV} (h : y.At w) : y.C.length = 33 := by unfold RV.C; simp [h.1]
theorem RV.C_one {w : World} {y : RV} (h : y.At w) : ∀ u ∈ y.C, u.oneCell' = true := by
  intro u hu
  rcases List.mem_append.1 hu with hu | hu
  · exact bv_one _ u hu
  · rw [List.mem_singleton.1 hu]
    obtain ⟨ao, cap, e⟩ := h.2.shape
    rw [e]; rfl
theorem Rd.shape {w : World} {sz : Nat} {v : Value} {rs : List (List Value)} (h : Rd w sz v rs) : ∃ ao cap, v = .slice ao rs.length cap := by
  obtain ⟨_, ao, cap, h1, _⟩ := h
  exact ⟨ao, cap, h1⟩
theorem MV.C_len {w : World} {x : MV} (h : x.At w) : x.C.length = 42 := by unfold MV.C; simp [RV.C_len h.1]
theorem MV.C_one {w : World} {x : MV} (h : x.At w) : ∀ u ∈ x.C, u.oneCell' = true := by
  intro u hu
  unfold MV.C at hu
  rcases List.mem_append.1 hu with hu | hu
  · simp only [List.mem_cons, List.not_mem_nil, or_false] at hu
    rcases hu with rfl | rfl | rfl | rfl | rfl | rfl <;> rfl
  · rcases List.mem_append.1 hu with hu | hu
    · exact RV.C_one h.1 u hu
    · simp only [List.mem_cons, List.not_mem_nil, or_false] at hu
      obtain ⟨a1, c1, e1⟩ := h.2.1.shape
      obtain ⟨a2, c2, e2⟩ := h.2.2.1.shape
      obtain ⟨a3, c3, e3⟩ := h.2.2.2.1.shape
      rcases hu with rfl | rfl | rfl
      · rw [e1]; rfl
      · rw [e2]; rfl
      · rw [e3]; rfl
/-- The array of a key, read as bytes. -/
theorem Bsl.of_range {w : World} {b o : Nat} {k : List UInt8} (h : w.rangeAt b o (k.map bv)) {n : Nat} (hn : n = k.length) (hl : k.length ≤ 1000000) : Bsl w (.slice (some ⟨b, o, none⟩) n n) k := by
  subst hn
  refine ⟨_, _, rfl, Nat.le_refl _, by omega, by simp, fun _ => ⟨b, o, rfl, fun j hj => ?_⟩⟩
  have := h j (bv k[j]) (by simp [hj])
  rw [this]
  simp [bv, List.getElem?_eq_getElem hj]
theorem rangeAt_app {w : World} {b o : Nat} {xs ys : List Value} (h : w.rangeAt b o (xs ++ ys)) : w.rangeAt b o xs ∧ w.rangeAt b (o + xs.length) ys := by
  constructor
  · intro j v hv
    exact h j v (by rw [List.getElem?_append_left (List.getElem?_eq_some_iff.1 hv).1]; exact hv)
  · intro j v hv
    have := h (xs.length + j) v (by rw [List.getElem?_append_right (by omega), Nat.add_sub_cancel_left]; exact hv)
    rw [← Nat.add_assoc] at this; exact this
theorem rangeAt_alloc_new (w : World) (cs : List Value) (T : TypeId) : (w.alloc (.cells cs.toArray T)).rangeAt w.heap.size 0 cs := by
  intro j v hv
  rw [World.cell?_alloc_new]; simpa using hv
/-- The parts of a row in a box. -/
theorem RV.range {w : World} {b o : Nat} {y : RV} (h : w.rangeAt b o y.C) (hk : y.key.length = 32) : w.rangeAt b o (y.key.map bv) ∧ w.cell? ⟨b, o + 32, none⟩ = some y.sv := by
  obtain ⟨h1, h2⟩ := rangeAt_app h
  refine ⟨h1, ?_⟩
  have := h2 0 y.sv (by simp)
  simpa [hk] using this
/-- The parts of a message in a box. -/
theorem MV.range {w : World} {b : Nat} {x : MV} (h : w.rangeAt b 0 x.C) (hk : x.m.row.key.length = 32) :
    (w.cell? ⟨b, 0, none⟩ = some (.int .i64 x.m.kind) ∧ w.cell? ⟨b, 1, none⟩ = some (.int .i64 x.m.frm) ∧ w.cell? ⟨b, 2, none⟩ = some (.int .i64 x.m.ask) ∧ w.cell? ⟨b, 3, none⟩ = some (.int .i64 x.m.err) ∧ w.cell? ⟨b, 4, none⟩ = some (.int .i64 x.m.hold) ∧ w.cell? ⟨b, 5, none⟩ = some (.int .i64 x.m.level)) ∧
    w.rangeAt b 6 x.row.C ∧ w.cell? ⟨b, 39, none⟩ = some x.av ∧ w.cell? ⟨b, 40, none⟩ = some x.dv ∧ w.cell? ⟨b, 41, none⟩ = some x.rv := by
  obtain ⟨h1, h2⟩ := rangeAt_app h
  obtain ⟨h3, h4⟩ := rangeAt_app h2
  have hl : x.row.C.length = 33 := by unfold RV.C MV.row; simp [hk]
  refine ⟨⟨?_, ?_, ?_, ?_, ?_, ?_⟩, by simpa using h3, ?_, ?_, ?_⟩
  · simpa using h1 0 _ rfl
  · simpa using h1 1 _ rfl
  · simpa using h1 2 _ rfl
  · simpa using h1 3 _ rfl
  · simpa using h1 4 _ rfl
  · simpa using h1 5 _ rfl
  · have := h4 0 _ rfl; simpa [hl] using this
  · have := h4 1 _ rfl; simpa [hl] using this
  · have := h4 2 _ rfl; simpa [hl] using this
end Go.Proofs.YtjhocaleampamaaDoor
