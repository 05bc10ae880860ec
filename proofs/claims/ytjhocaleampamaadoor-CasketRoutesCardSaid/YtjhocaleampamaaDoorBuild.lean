/- Struct literals that hold a long array, alone and in a slice of one. -/
import Derived.Test.YtjhocaleampamaaDoorRow
import Derived.Great.BuildSlice
namespace Go.Proofs.YtjhocaleampamaaDoor
open Go.RowKit
theorem fold_setAll (off : Nat) : ∀ (cs : List Value) (n : Nat) (cells : Array Value), ((cs.zipIdx n).foldl (fun (acc : Array Value) (x : Value × Nat) => acc.setIfInBounds (off + x.2) x.1) cells).toList = setAll cells.toList (off + n) cs
  | [], _, _ => rfl
  | c :: r, n, cells => by
    rw [List.zipIdx_cons, List.foldl_cons, fold_setAll off r (n + 1), setAll]
    simp [Nat.add_assoc]
theorem fill_two {place : Nat → Option (Nat × Nat)} {cells : Array Value} {k : Int} {cs : List Value} (hp0 : place 0 = some (0, 1)) (hp1 : place 1 = some (1, cs.length)) (hc : cells.size = cs.length + 1) :
    Instr.fill place cells [(0, .int .i64 k), (1, .agg cs.toArray)] = some (.int .i64 k :: cs).toArray := by
  have h1 : (Value.int .i64 k).cells = #[.int .i64 k] := rfl
  have h2 : (Value.agg cs.toArray).cells = cs.toArray := rfl
  unfold Instr.fill
  simp only [hp0, h1]
  rw [if_neg (by simp [hc])]
  unfold Instr.fill
  simp only [hp1, h2]
  rw [if_neg (by simp [hc]; omega)]
  unfold Instr.fill
  congr 1
  apply Array.ext'
  have := fold_setAll 1 cs 0 (cells.setIfInBounds 0 (.int .i64 k))
  simp at this ⊢
  rw [this, setAll_eq _ _ _ (by simp; omega)]
  obtain ⟨l⟩ := cells
  cases l with
  | nil => simp at hc
  | cons a l =>
    simp at hc ⊢
    omega
theorem built_rec {P : Program} {T : TypeId} {fields : Array Field} {it : TypeInfo} {z : Value} {n : Nat} (hit : P.info? T = some it) (hu : P.underlying T = some (.struct fields)) (hz : it.zero = some z) (hzc : z.cells.size = n + 1)
    (hp : fields.toList.mapM (fun f => (P.info? f.type).map fun i => (f.offset, i.size)) = some [(0, 1), (1, n)]) {k : Int} {cs : List Value} (hl : cs.length = n) :
    P.built T [(0, .int .i64 k), (1, .agg cs.toArray)] = some (.int .i64 k :: cs).toArray := by
  unfold Program.built
  subst hl
  simp only [hit, hu, hz, hp]
  exact fill_two rfl rfl hzc
theorem step_build {w : World} {ops : Array Oper} {o : Oper} {a : Act} {K : Act → World → Prop} {Q : Exit → Act → World → Prop} {E : Prop} (hgd : o.guard = none) (T : TypeId) (x y : Operand)
    (ho : o.op = .build T #[(0, x), (1, y)]) (vx vy : Value) (hx : a.eval x = vx) (hy : a.eval y = vy) (cells : Array Value) (hb : Tryd.prog.built T [(0, vx), (1, vy)] = some cells)
    (hK : K (a.put o.dst (.agg cells)) w) :
    if Region.wanted o (yielded ops a.tmps) = true then Oper.wp Tryd.prog o a w K Q else E := by
  have hw : Region.wanted o (yielded ops a.tmps) = true := by simp [Region.wanted, hgd]
  rw [if_pos hw]
  have hr := run_build (P := Tryd.prog) w T #[(0, vx), (1, vy)] cells hb
  unfold Oper.wp execOp
  simp only [ho, List.map_toArray, List.map_cons, List.map_nil, hx, hy, Sem.run_bind, hr, Result.andThen_ok]
  exact hK
theorem fill_one {n : Nat} {place : Nat → Option (Nat × Nat)} {cells : Array Value} {cs : List Value} (hp0 : place 0 = some (0, n)) (hc : cells.size = n) (hl : cs.length = n) :
    Instr.fill place cells [(0, .agg cs.toArray)] = some cs.toArray := by
  have h2 : (Value.agg cs.toArray).cells = cs.toArray := rfl
  unfold Instr.fill
  simp only [hp0, h2]
  rw [if_neg (by simp [hc, hl])]
  unfold Instr.fill
  congr 1
  apply Array.ext'
  have := fold_setAll 0 cs 0 cells
  simp at this ⊢
  rw [this, setAll_eq _ _ _ (by simp; omega)]
  simp; omega
theorem step_buildSlice {w : World} {ops : Array Oper} {o : Oper} {a : Act} {K : Act → World → Prop} {Q : Exit → Act → World → Prop} {E : Prop} (hgd : o.guard = none) (t e : TypeId) (x : Operand)
    (ho : o.op = .buildSlice t 1 #[(0, x)]) (cs : List Value) (hx : a.eval x = .agg cs.toArray) {n : Nat} (i : TypeInfo) (z : Value) (hu : Tryd.prog.underlying t = some (.slice e)) (hi : Tryd.prog.info? e = some i) (hz : i.zero = some z) (hs : i.size = n) (hn : 0 < n ∧ n ≤ 1000) (hl : cs.length = n)
    (hK : K (a.put o.dst (.slice (some ⟨w.heap.size, 0, none⟩) 1 1)) (w.alloc (.cells cs.toArray e))) :
    if Region.wanted o (yielded ops a.tmps) = true then Oper.wp Tryd.prog o a w K Q else E := by
  have hw : Region.wanted o (yielded ops a.tmps) = true := by simp [Region.wanted, hgd]
  rw [if_pos hw]
  have hr := run_buildSlice (P := Tryd.prog) w t e 1 #[(0, .agg cs.toArray)] cs.toArray i z hu hi hz (by omega) (by omega) (fill_one (n := n) (by rw [Nat.zero_mul, hs]) (by simp [hs]) hl)
  unfold Oper.wp execOp
  simp only [ho, List.map_toArray, List.map_cons, List.map_nil, hx, Sem.run_bind, hr, Result.andThen_ok]
  exact hK
end Go.Proofs.YtjhocaleampamaaDoor
