/- What Read tells, in one; the same message. -/
import Derived.Test.YtanghmpphlmpkaaMsgT4
import Derived.Test.YtanghmpphlmpkaaMsgFX
import Derived.Test.YtanghmpphlmpkaaOpenFV
namespace Go.Proofs.Ytanghmpphlmpkaa
open Go.RowKit
set_option linter.unusedVariables false
theorem pad_32 {m : MD} (h : m.row.key.length = 32) : m.pad = m := by
  unfold MD.pad
  rw [padK_32 h]
theorem mread_u (v : Value) (l : List UInt8) (w : World) (hb : Bsl w v l) (hl : l.length ≤ 1000000) :
    Calls Try.prog 11 #[v] w fun e w' => ∃ (x : MV) (er : Int), e = .returned (.tuple #[.agg x.C.toArray, .int .i64 er]) ∧ x.At w' ∧ ((readM l = some x.m ∧ er = 0) ∨ (readM l = none ∧ er = 2 ∧ x = mv0 0 0 0)) ∧ Below w.heap.size w w' := by
  refine (mread_any v l w hb hl).mono ?_
  rintro e w' ⟨h1, hB⟩
  rcases h1 with ⟨x, h1, h2, h3⟩ | ⟨h1, h2⟩
  · exact ⟨x, 0, h2, h3, .inl ⟨h1, rfl⟩, hB⟩
  · exact ⟨mv0 0 0 0, 2, h2, mvAt_zero w' 0 0 0 (by unfold i64; omega) (by unfold i64; omega) (by unfold i64; omega), .inr ⟨h1, rfl, rfl⟩, hB⟩
theorem fread_u (l : List UInt8) (w : World) (hl : l.length ≤ 1000000) :
    Calls Try.prog 12 #[.string ⟨l.toArray⟩] w fun e w' => ∃ (y : FV) (ok : Bool), e = .returned (.tuple #[.agg y.C.toArray, .bool ok]) ∧ y.At w' ∧ y.m.row.key.length ≤ 1000000 ∧ ((readM l = some y.m.pad ∧ ok = true) ∨ (readM l = none ∧ ok = false ∧ y = fv0 0 0 0)) ∧ Below w.heap.size w w' := by
  refine (fread_any l w hl).mono ?_
  rintro e w' ⟨h1, hB⟩
  rcases h1 with ⟨x, m, h1, h4, h2, h3, h5⟩ | ⟨h1, h2⟩
  · exact ⟨x, true, h2, h3, h5, .inl ⟨by rw [h4]; exact h1, rfl⟩, hB⟩
  · exact ⟨fv0 0 0 0, false, h2, fv0_At w' 0 0 0 (by unfold i64; omega) (by unfold i64; omega) (by unfold i64; omega), by simp [fv0], .inr ⟨h1, rfl, rfl⟩, hB⟩
theorem zero_same : FSame (mv0 0 0 0).m (fv0 0 0 0).m := FSame.of (by
  rw [pad_32 (m := (mv0 0 0 0).m) z32_len, pad_nil _ rfl]; rfl)
theorem read_same {m : MD} {y : MD} (h : m.row.key.length = 32) (e : y.pad = m) : FSame m y := FSame.of (by rw [pad_32 h, e])
theorem FOut_true {m : MD} (h : okM m = true) : FOut m = .tuple #[.string ⟨(bytesM m).toArray⟩, .bool true] := by unfold FOut; rw [h]; rfl
end Go.Proofs.Ytanghmpphlmpkaa
