/- Struct literals that hold long arrays, kept whole. -/
import Derived.Test.YtjhocaleampamaaDoorBig
namespace Go.Proofs.YtjhocaleampamaaDoor
open Go.RowKit Big
set_option linter.unusedVariables false
def setL (l : List Value) (off : Nat) (cs : List Value) : List Value := l.take off ++ (cs ++ l.drop (off + cs.length))
theorem setL_len (l : List Value) (off : Nat) (cs : List Value) (h : off + cs.length ≤ l.length) : (setL l off cs).length = l.length := by
  unfold setL; rw [List.length_append, List.length_append, List.length_take, List.length_drop]; omega
theorem fill_step {place : Nat → Option (Nat × Nat)} {l : List Value} {i off : Nat} {v : Value} {cs : List Value} {rest : List (Nat × Value)} (hp : place i = some (off, cs.length)) (hv : v.cells = cs.toArray) (hle : off + cs.length ≤ l.length) :
    Instr.fill place l.toArray ((i, v) :: rest) = Instr.fill place (setL l off cs).toArray rest := by
  rw [Instr.fill]
  simp only [hp, hv]
  rw [if_neg (by simp; omega)]
  congr 1
  apply Array.ext'
  have := fold_setAll off cs 0 l.toArray
  simp at this ⊢
  rw [this, setAll_eq _ _ _ (by omega)]
  unfold setL
  try rw [List.append_assoc]
theorem built_of {T : TypeId} {fields : Array Field} {zs : List Value} {places : List (Nat × Nat)} (hz : (Tryd.prog.info? T).bind (·.zero) = some (.agg zs.toArray)) (hu : Tryd.prog.underlying T = some (.struct fields))
    (hp : fields.toList.mapM (fun f => (Tryd.prog.info? f.type).map fun i => (f.offset, i.size)) = some places) (parts : List (Nat × Value)) :
    Tryd.prog.built T parts = Instr.fill (places.toArray[·]?) zs.toArray parts := by
  unfold Program.built
  cases hi : Tryd.prog.info? T with
  | none => rw [hi] at hz; cases hz
  | some it =>
    rw [hi, Option.bind_some] at hz
    simp only [hu, hz, hp]
    rfl
def bdT (t : TypeId) (ps : Array (Nat × Value)) : Sem Value := Instr.build t ps
theorem run_bdT {t : TypeId} {ps : Array (Nat × Value)} {cs : List Value} (h : Tryd.prog.built t ps.toList = some cs.toArray) (w : World) : (bdT t ps).run Tryd.prog w = .ok (.agg cs.toArray) w := run_build (P := Tryd.prog) w t ps _ h
end Go.Proofs.YtjhocaleampamaaDoor
