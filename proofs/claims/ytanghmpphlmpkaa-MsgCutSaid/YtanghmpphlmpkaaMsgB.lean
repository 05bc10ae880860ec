/- Composite literals of a message and of its rows. -/
import Derived.Test.YtanghmpphlmpkaaMsgT1
namespace Go.Proofs.Ytanghmpphlmpkaa
open Go.RowKit
set_option linter.unusedVariables false
theorem fill_step {place : Nat → Option (Nat × Nat)} {i off n : Nat} (hp : place i = some (off, n)) (xs mid ys cs : List Value) (v : Value) (rest : List (Nat × Value)) (hx : xs.length = off) (hm : mid.length = n) (hv : v.cells = cs.toArray) (hcs : cs.length = n) :
    Instr.fill place (xs ++ (mid ++ ys)).toArray ((i, v) :: rest) = Instr.fill place (xs ++ (cs ++ ys)).toArray rest := by
  rw [Instr.fill]
  simp only [hp, hv]
  rw [if_neg (by simp [hcs]; omega)]
  congr 1
  apply Array.ext'
  have h1 := fold_setAll off cs 0 (xs ++ (mid ++ ys)).toArray
  simp at h1 ⊢
  rw [h1, setAll_eq _ _ _ (by simp; omega)]
  subst hx
  rw [List.take_left' rfl, ← List.drop_drop, List.drop_left' rfl, List.drop_left' (by omega), List.append_assoc]
theorem builtR_fill (parts : List (Nat × Value)) : Try.prog.built 37 parts = Instr.fill (fun i => #[(0, 32), (32, 1)][i]?) zR.toArray parts := by kernel_rfl
theorem builtR (key : List UInt8) (ao : Option Addr) (n c : Nat) (hk : key.length = 32) : Try.prog.built 37 [(0, .agg (key.map bv).toArray), (1, .slice ao n c)] = some (key.map bv ++ [Value.slice ao n c]).toArray := by
  rw [builtR_fill]
  have h1 := fill_step (place := fun i => #[(0, 32), (32, 1)][i]?) (i := 0) (off := 0) (n := 32) rfl [] zK [.slice none 0 0] (key.map bv) (.agg (key.map bv).toArray) [(1, .slice ao n c)] rfl zK_len rfl (by rw [List.length_map, hk])
  have h2 := fill_step (place := fun i => #[(0, 32), (32, 1)][i]?) (i := 1) (off := 32) (n := 1) rfl (key.map bv) [.slice none 0 0] [] [.slice ao n c] (.slice ao n c) [] (by rw [List.length_map, hk]) rfl rfl rfl
  rw [List.append_nil, List.append_nil] at h2
  rw [List.nil_append, List.nil_append] at h1
  unfold zR
  rw [h1, h2]; rfl
theorem builtM_fill (parts : List (Nat × Value)) : Try.prog.built 41 parts = Instr.fill (fun i => #[(0, 1), (1, 1), (2, 1), (3, 1), (4, 1), (5, 1), (6, 33), (39, 1), (40, 1), (41, 1)][i]?) zM.toArray parts := by kernel_rfl
theorem builtM_all (k f a er hd lv : Int) (R : List Value) (ao : Option Addr) (n c : Nat) (hR : R.length = 33) :
    Try.prog.built 41 [(0, .int .i64 k), (1, .int .i64 f), (2, .int .i64 a), (3, .int .i64 er), (4, .int .i64 hd), (5, .int .i64 lv), (6, .agg R.toArray), (7, .slice ao n c)] =
    some ([Value.int .i64 k, .int .i64 f, .int .i64 a, .int .i64 er, .int .i64 hd, .int .i64 lv] ++ (R ++ [Value.slice ao n c, Value.slice none 0 0, Value.slice none 0 0])).toArray := by
  rw [builtM_fill]
  generalize hp : (fun i : Nat => #[(0, 1), (1, 1), (2, 1), (3, 1), (4, 1), (5, 1), (6, 33), (39, 1), (40, 1), (41, 1)][i]?) = place
  have p0 : place 0 = some (0, 1) := by rw [← hp]; rfl
  have p1 : place 1 = some (1, 1) := by rw [← hp]; rfl
  have p2 : place 2 = some (2, 1) := by rw [← hp]; rfl
  have p3 : place 3 = some (3, 1) := by rw [← hp]; rfl
  have p4 : place 4 = some (4, 1) := by rw [← hp]; rfl
  have p5 : place 5 = some (5, 1) := by rw [← hp]; rfl
  have p6 : place 6 = some (6, 33) := by rw [← hp]; rfl
  have p7 : place 7 = some (39, 1) := by rw [← hp]; rfl
  clear hp
  have z0 : ∀ (xs mid ys cs : List Value) (v : Value) (rest : List (Nat × Value)) (i off : Nat), place i = some (off, 1) → xs.length = off → mid.length = 1 → v.cells = cs.toArray → cs.length = 1 → Instr.fill place (xs ++ (mid ++ ys)).toArray ((i, v) :: rest) = Instr.fill place (xs ++ (cs ++ ys)).toArray rest := fun xs mid ys cs v rest i off h1 h2 h3 h4 h5 => fill_step h1 xs mid ys cs v rest h2 h3 h4 h5
  unfold zM
  have hz := zR_len
  generalize zR = Z at *
  have e0 := z0 [] [.int .i64 0] ([.int .i64 0, .int .i64 0, .int .i64 0, .int .i64 0, .int .i64 0] ++ (Z ++ [.slice none 0 0, .slice none 0 0, .slice none 0 0])) [.int .i64 k] (.int .i64 k) [(1, .int .i64 f), (2, .int .i64 a), (3, .int .i64 er), (4, .int .i64 hd), (5, .int .i64 lv), (6, .agg R.toArray), (7, .slice ao n c)] 0 0 p0 rfl rfl rfl rfl
  have e1 := z0 [.int .i64 k] [.int .i64 0] ([.int .i64 0, .int .i64 0, .int .i64 0, .int .i64 0] ++ (Z ++ [.slice none 0 0, .slice none 0 0, .slice none 0 0])) [.int .i64 f] (.int .i64 f) [(2, .int .i64 a), (3, .int .i64 er), (4, .int .i64 hd), (5, .int .i64 lv), (6, .agg R.toArray), (7, .slice ao n c)] 1 1 p1 rfl rfl rfl rfl
  have e2 := z0 [.int .i64 k, .int .i64 f] [.int .i64 0] ([.int .i64 0, .int .i64 0, .int .i64 0] ++ (Z ++ [.slice none 0 0, .slice none 0 0, .slice none 0 0])) [.int .i64 a] (.int .i64 a) [(3, .int .i64 er), (4, .int .i64 hd), (5, .int .i64 lv), (6, .agg R.toArray), (7, .slice ao n c)] 2 2 p2 rfl rfl rfl rfl
  have e3 := z0 [.int .i64 k, .int .i64 f, .int .i64 a] [.int .i64 0] ([.int .i64 0, .int .i64 0] ++ (Z ++ [.slice none 0 0, .slice none 0 0, .slice none 0 0])) [.int .i64 er] (.int .i64 er) [(4, .int .i64 hd), (5, .int .i64 lv), (6, .agg R.toArray), (7, .slice ao n c)] 3 3 p3 rfl rfl rfl rfl
  have e4 := z0 [.int .i64 k, .int .i64 f, .int .i64 a, .int .i64 er] [.int .i64 0] ([.int .i64 0] ++ (Z ++ [.slice none 0 0, .slice none 0 0, .slice none 0 0])) [.int .i64 hd] (.int .i64 hd) [(5, .int .i64 lv), (6, .agg R.toArray), (7, .slice ao n c)] 4 4 p4 rfl rfl rfl rfl
  have e5 := z0 [.int .i64 k, .int .i64 f, .int .i64 a, .int .i64 er, .int .i64 hd] [.int .i64 0] (Z ++ [.slice none 0 0, .slice none 0 0, .slice none 0 0]) [.int .i64 lv] (.int .i64 lv) [(6, .agg R.toArray), (7, .slice ao n c)] 5 5 p5 rfl rfl rfl rfl
  have e6 := fill_step p6 [.int .i64 k, .int .i64 f, .int .i64 a, .int .i64 er, .int .i64 hd, .int .i64 lv] Z [.slice none 0 0, .slice none 0 0, .slice none 0 0] R (.agg R.toArray) [(7, .slice ao n c)] rfl hz rfl hR
  have e7 := z0 ([.int .i64 k, .int .i64 f, .int .i64 a, .int .i64 er, .int .i64 hd, .int .i64 lv] ++ R) [.slice none 0 0] [.slice none 0 0, .slice none 0 0] [.slice ao n c] (.slice ao n c) [] 7 39 p7 (by rw [List.length_append, hR]; rfl) rfl rfl rfl
  simp only [List.nil_append, List.cons_append] at e0 e1 e2 e3 e4 e5 e6 e7 ⊢
  rw [e0, e1, e2, e3, e4, e5, e6, e7]; rfl
theorem RW.nil0 {w : World} {base : Nat} {e : TypeId} {sz n c : Nat} {rs : List (List Value)} (h : RW w base e sz (.slice none n c) rs) : c = 0 := by
  rcases h.1.2 with ⟨e0, _⟩ | ⟨g, cap, cur, e0, _⟩
  · injection e0
  · injection e0 with e1; cases e1
end Go.Proofs.Ytanghmpphlmpkaa
