/- Sectors as values: a variable of one, and '=='. -/
import Derived.Test.YtbmdcblcefebiaaDiskNew
import Derived.ChangeKeysEq
namespace Go.Proofs.Ytbmdcblcefebiaa
open Go.RowKit
theorem run_eqItems_bytes (d : Nat) (a b : List UInt8) (w : World) : ∀ is : List Nat, (∀ i ∈ is, i < a.length ∧ i < b.length) →
    (Op.eqItems (d + 1) 5 1 (a.map bv).toArray (b.map bv).toArray is).run Try.prog w = .ok (is.all fun i => a[i]? == b[i]?) w
  | [], _ => by simp [Op.eqItems]
  | i :: is, h => by
    have hi := h i (by simp)
    have ih := run_eqItems_bytes d a b w is (fun j hj => h j (by simp [hj]))
    have hp : Try.prog.plainKey 5 = true := by kernel_rfl
    have p1 := run_part_plain (P := Try.prog) (w := w) hp (xs := (a.map bv).toArray) (off := i * 1) (v := bv a[i]) (by simp [hi.1])
    have p2 := run_part_plain (P := Try.prog) (w := w) hp (xs := (b.map bv).toArray) (off := i * 1) (v := bv b[i]) (by simp [hi.2])
    have p3 : (Op.equalIn (d + 1) 5 (bv a[i]) (bv b[i])).run Try.prog w = .ok ((a[i].toNat : Int) == (b[i].toNat : Int)) w := run_equalIn_int w d _ _ _ _ _ Try.underlying5
    simp only [Op.eqItems, Sem.run_bind, p1, p2, p3, Result.andThen_ok, List.all_cons]
    rw [List.getElem?_eq_getElem hi.1, List.getElem?_eq_getElem hi.2]
    by_cases he : a[i] = b[i]
    · simp [he, ih]
    · have hne : ((a[i].toNat : Int) == (b[i].toNat : Int)) = false := by
        rw [beq_eq_false_iff_ne]
        intro e
        exact he (UInt8.toNat_inj.1 (by omega))
      rw [hne]
      simp [he]
theorem all_eq (a b : List UInt8) (n : Nat) (ha : a.length = n) (hb : b.length = n) : ((List.range n).all fun i => a[i]? == b[i]?) = (a == b) := by
  rw [Bool.eq_iff_iff, List.all_eq_true, beq_iff_eq]
  constructor
  · intro h
    apply List.ext_getElem? 
    intro i
    by_cases hi : i < n
    · simpa using h i (by simpa using hi)
    · rw [List.getElem?_eq_none (by omega), List.getElem?_eq_none (by omega)]
  · rintro rfl i _
    simp
theorem run_equal_sec (t : TypeId) (ht : Try.prog.underlying t = some (.array 64 5)) (a b : List UInt8) (ha : a.length = 64) (hb : b.length = 64) (w : World) :
    (Op.equalIn 10000 t (secV a) (secV b)).run Try.prog w = .ok (a == b) w := by
  obtain ⟨i0, hi, hz0, hz1, hz2⟩ := info_parts Try.info_u8
  have hc : Try.prog.cellsOf 5 = 1 := by kernel_rfl
  unfold secV
  rw [run_equalIn_array (P := Try.prog) (w := w) 9999 _ _ ht hi, hc, run_eqItems_bytes 9998 a b w (List.range 64) (by intro i hi; simp at hi; omega), all_eq a b 64 ha hb]
theorem run_eql_sec (t : TypeId) (ht : Try.prog.underlying t = some (.array 64 5)) (a b : List UInt8) (ha : a.length = 64) (hb : b.length = 64) (w : World) :
    (binOp .eql t (secV a) (secV b)).run Try.prog w = .ok (.bool (a == b)) w := by
  have h := run_equal_sec t ht a b ha hb w
  unfold secV at h ⊢
  rw [run_eql_struct, h]; rfl
theorem run_neq_sec (t : TypeId) (ht : Try.prog.underlying t = some (.array 64 5)) (a b : List UInt8) (ha : a.length = 64) (hb : b.length = 64) (w : World) :
    (binOp .neq t (secV a) (secV b)).run Try.prog w = .ok (.bool (!(a == b))) w := by
  have h := run_equal_sec t ht a b ha hb w
  unfold secV at h ⊢
  rw [run_neq_struct, h]; rfl
theorem run_guard_sec (op : BinOp) (x y : Operand) (a b : List UInt8) (w : World) : (eqGuard op 39 x y (secV a) (secV b)).run Try.prog w = .ok () w :=
  run_eqGuard_agg w op _ x y _ _ (by kernel_rfl)
def alS : Sem Value := Instr.alloc 39 true (.tuple #[])
theorem alS_eq : Instr.alloc 39 true (.tuple #[]) = alS := rfl
theorem run_alS (w : World) : alS.run Try.prog w = .ok (.pointer (some ⟨w.heap.size, 0, none⟩)) (w.alloc (.cells (zC 1).toArray 39)) := by
  obtain ⟨i, z, hi, hz, hzc, _⟩ := Try.sec_parts
  have hc : (zC 1).toArray = z.cells := by rw [hzc]; rfl
  rw [hc]
  simp [alS, Instr.alloc, zeroValue, typeInfo, hi, hz, newVar, newRow]
def ldS (v : Value) : Sem Value := Instr.loadAt 39 v
theorem ldS_eq (v : Value) : Instr.loadAt 39 v = ldS v := rfl
theorem run_ldS (w : World) (b o : Nat) (s : List UInt8) (h : w.rangeAt b o (secC s)) (hl : s.length = 64) : (ldS (.pointer (some ⟨b, o, none⟩))).run Try.prog w = .ok (secV s) w :=
  run_loadAt_mid w b o _ (secC s) _ h Try.underlying39 rfl (by rw [show (secC s).length = 64 by simp [secC, hl]]; kernel_rfl)
def stS (v u : Value) : Sem Unit := Instr.storeAt 39 v u
theorem stS_eq (v u : Value) : Instr.storeAt 39 v u = stS v u := rfl
theorem run_stS (w : World) (b o : Nat) (s : List UInt8) (h : w.there b o 64) (hl : s.length = 64) : (stS (.pointer (some ⟨b, o, none⟩)) (secV s)).run Try.prog w = .ok () (w.setCells b o (secC s)) :=
  run_storeAt_mid w b o _ (s.map bv).toArray (by simpa [hl] using h) (by rw [List.size_toArray, List.length_map, hl]; kernel_rfl) (all_oneCell_toArray (bv_one s))
/-- A fresh variable of a sector. -/
theorem there_alS (w : World) : (w.alloc (.cells (zC 1).toArray 39)).there w.heap.size 0 64 := by
  intro j hj
  rw [World.cell?_alloc_new]
  refine ⟨?_, by simp⟩
  rw [Nat.zero_add, Array.getElem?_eq_getElem (by simpa [zC] using hj)]; rfl
theorem secV_var (w : World) (s : List UInt8) (hl : s.length = 64) : ((w.alloc (.cells (zC 1).toArray 39)).setCells w.heap.size 0 (secC s)).rangeAt w.heap.size 0 (secC s) ∧
    Below w.heap.size w ((w.alloc (.cells (zC 1).toArray 39)).setCells w.heap.size 0 (secC s)) ∧ ((w.alloc (.cells (zC 1).toArray 39)).setCells w.heap.size 0 (secC s)).heap.size = w.heap.size + 1 :=
  ⟨World.rangeAt_setCells_same _ _ _ _ (by rw [show (secC s).length = 64 by simp [secC, hl]]; exact there_alS w), Go.Proofs.Ytbmdcblcefebiaa.Below.setCells (Nat.le_refl _) _ _ ((Below.refl _ _).alloc (Nat.le_refl _) _), by rw [size_setCells]; simp⟩
end Go.Proofs.Ytbmdcblcefebiaa
