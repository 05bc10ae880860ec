/- Maps: their entries in order, look-ups and writes. -/
import Derived.Test.YtembfelckbmgiaaDoorBase
import Derived.Test.YtembfelckbmgiaaDoorOnly
import Derived.MapKept

import Derived.Laws.StructEq
namespace Go.Proofs.YtembfelckbmgiaaDoor
open Go.RowKit
open Go.MapKept (run_setObj_map heap_set heap_alloc bytes_beq)
def mapSet (w : World) (b : Nat) (o : Obj) : World := { w with heap := w.heap.setIfInBounds b o }
/-- Block b holds a map with these entries, each new key behind the others. -/
def MapAt (w : World) (b : Nat) (es : List MapEntry) : Prop := w.heap[b]? = some (.map es.toArray es.length)
theorem MapAt.lt {w : World} {b : Nat} {es : List MapEntry} (h : MapAt w b es) : b < w.heap.size := (Array.getElem?_eq_some_iff.1 h).1
theorem MapAt.only {S : Nat → Prop} {w w' : World} {b : Nat} {es : List MapEntry} (h : MapAt w b es) (ho : Only S w w') (hS : ¬ S b) : MapAt w' b es := (ho.block b h.lt hS).trans h
theorem MapAt.keep {w w' : World} {b : Nat} {es : List MapEntry} (h : MapAt w b es) (hb : Below w.heap.size w w') : MapAt w' b es := h.only (Only.of_below (S := fun _ => False) hb) (fun h => h)
theorem MapAt.made (w : World) : MapAt (w.alloc (.map #[] 0)) w.heap.size [] := (heap_alloc w _).1
theorem only_mapSet (w : World) (b : Nat) (o : Obj) : Only (· = b) w (mapSet w b o) :=
  ⟨rfl, rfl, rfl, by simp [mapSet], fun k hk hn => by
    show (w.heap.setIfInBounds b o)[k]? = w.heap[k]?
    rw [Array.getElem?_setIfInBounds_ne (fun e => hn e.symm)]⟩
theorem MapAt.push {w : World} {b : Nat} {es : List MapEntry} (h : MapAt w b es) (e : MapEntry) : MapAt (mapSet w b (.map (es.toArray.push e) (es.length + 1))) b (es ++ [e]) := by
  unfold MapAt
  rw [show (mapSet w b (.map (es.toArray.push e) (es.length + 1))).heap[b]? = some (.map (es.toArray.push e) (es.length + 1)) from (heap_set h).1]
  simp
theorem MapAt.cell {w : World} {b : Nat} {es : List MapEntry} (h : MapAt w b es) (o : Nat) (s : Option Nat) : w.cell? ⟨b, o, s⟩ = none := by
  unfold World.cell?
  rw [show w.heap[(⟨b, o, s⟩ : Addr).block]? = some (.map es.toArray es.length) from h]
/-- What turns maps alone leaves all cells. -/
theorem Only.cells {S : Nat → Prop} {w w' : World} (ho : Only S w w') (hS : ∀ k, S k → ∃ es, MapAt w k es) {p : Addr} {v : Value} (hc : w.cell? p = some v) : w'.cell? p = some v := by
  refine (ho.cell (World.block_lt_of_cell? w _ hc) (fun h => ?_)).trans hc
  obtain ⟨es, hm⟩ := hS _ h
  have := hm.cell p.off p.spot
  rw [hc] at this
  cases this
theorem Bsl.maps {S : Nat → Prop} {w w' : World} {v : Value} {l : List UInt8} (h : Bsl w v l) (ho : Only S w w') (hS : ∀ k, S k → ∃ es, MapAt w k es) : Bsl w' v l := by
  obtain ⟨ao, cap, rfl, h1, h2, h3, h4⟩ := h
  refine ⟨ao, cap, rfl, h1, h2, h3, fun hne => ?_⟩
  obtain ⟨b, off, rfl, hc⟩ := h4 hne
  exact ⟨b, off, rfl, fun j hj => ho.cells hS (hc j hj)⟩
section
variable {P : Program} {T K E : TypeId}
theorem run_len_map (hT : P.underlying T = some (.map K E)) {w : World} {b : Nat} {es : List MapEntry} (h : MapAt w b es) (ty : TypeId) : (Builtin.len_ #[T] ty #[.map (some b)]).run P w = .ok (.int .i64 (es.length : Int)) w := by
  simp [Builtin.len_, run_underlying hT, Go.MapKept.run_getObj_map h, Result.andThen, goInt]
theorem run_makeMap (t : TypeId) (w : World) : (Instr.makeMap t none).run P w = .ok (.map (some w.heap.size)) (w.alloc (.map #[] 0)) := by
  simp [Instr.makeMap, newObj]
  rfl
/-- A key that no entry has: by the way that asks. -/
theorem run_findAsking_none {w : World} {k : Value} : ∀ (es : List MapEntry) (i : Nat), (∀ e ∈ es, (Op.equal K k e.key).run P w = .ok false w) → (Instr.findAsking K k es i).run P w = .ok none w
  | [], _, _ => by simp [Instr.findAsking]
  | e :: es, i, h => by
    simp only [Instr.findAsking, Sem.run_bind, h e (by simp), Result.andThen_ok, Bool.false_eq_true, if_false]
    exact run_findAsking_none es (i + 1) (fun e he => h e (by simp [he]))
theorem run_findKey_none {w : World} {d : TypeDesc} (hK : P.underlying K = some d) (hd : ∀ a b, Instr.sameNow d a b = none) {k : Value} (es : List MapEntry) (h : ∀ e ∈ es, (Op.equal K k e.key).run P w = .ok false w) : (Instr.findKey K k es).run P w = .ok none w := by
  unfold Instr.findKey
  simp only [Sem.run_bind, run_underlying hK, Result.andThen_ok]
  cases es with
  | nil => simp [Instr.findNow]
  | cons e es =>
    simp only [Instr.findNow, hd]
    exact run_findAsking_none _ _ h
theorem run_lookup_none (hT : P.underlying T = some (.map K E)) {w : World} {b : Nat} {es : List MapEntry} (h : MapAt w b es) {k z : Value} (hck : ∀ e, (Instr.checkKey e 10000 K k).run P w = .ok () w) (hf : (Instr.findKey K k es).run P w = .ok none w) (hz : (zeroValue E).run P w = .ok z w) (c : Bool) :
    (Instr.lookup T (.map (some b)) k c).run P w = .ok (if c then .tuple #[z, .bool false] else z) w := by
  simp [Instr.lookup, run_underlying hT, Go.MapKept.run_getObj_map h, hck, hf, hz, Result.andThen]
theorem run_lookup_some (hT : P.underlying T = some (.map K E)) {w : World} {b : Nat} {es : List MapEntry} (h : MapAt w b es) {k v : Value} {i : Nat} (hck : ∀ e, (Instr.checkKey e 10000 K k).run P w = .ok () w) (hf : (Instr.findKey K k es).run P w = .ok (some (i, v)) w) (c : Bool) :
    (Instr.lookup T (.map (some b)) k c).run P w = .ok (if c then .tuple #[v, .bool true] else v) w := by
  simp [Instr.lookup, run_underlying hT, Go.MapKept.run_getObj_map h, hck, hf, Result.andThen]
theorem run_update_new (hT : P.underlying T = some (.map K E)) {w : World} {b : Nat} {es : List MapEntry} (h : MapAt w b es) {k v : Value} (hck : ∀ e, (Instr.checkKey e 10000 K k).run P w = .ok () w) (hf : (Instr.findKey K k es).run P w = .ok none w) :
    (Instr.mapUpdate T (.map (some b)) k v).run P w = .ok () (mapSet w b (.map (es.toArray.push ⟨k, v, es.length⟩) (es.length + 1))) := by
  simp [Instr.mapUpdate, run_underlying hT, Go.MapKept.run_getObj_map h, hck, hf, run_setObj_map _ h, Result.andThen, mapSet]
end
/-- Names, each with its number, from i + 1 on. -/
def nameL : Nat → List (List UInt8) → List MapEntry
  | _, [] => []
  | i, n :: ns => ⟨.string ⟨n.toArray⟩, .int .i64 ((i + 1 : Nat) : Int), i⟩ :: nameL (i + 1) ns
def posL (x : List UInt8) : List (List UInt8) → Option Nat
  | [] => none
  | n :: ns => if x = n then some 0 else (posL x ns).map (· + 1)
theorem nameL_len : ∀ (i : Nat) (ns : List (List UInt8)), (nameL i ns).length = ns.length
  | _, [] => rfl
  | i, _ :: ns => by simp [nameL, nameL_len (i + 1) ns]
theorem nameL_snoc (x : List UInt8) : ∀ (i : Nat) (ns : List (List UInt8)), nameL i (ns ++ [x]) = nameL i ns ++ [⟨.string ⟨x.toArray⟩, .int .i64 ((i + ns.length + 1 : Nat) : Int), i + ns.length⟩]
  | i, [] => rfl
  | i, n :: ns => by
    rw [List.cons_append, nameL, nameL_snoc x (i + 1) ns, nameL, List.cons_append]
    rw [show i + 1 + ns.length = i + (n :: ns).length by simp; omega]
theorem str_beq (a b : List UInt8) : ((⟨a.toArray⟩ : ByteArray) == ⟨b.toArray⟩) = decide (a = b) := by
  by_cases h : a = b
  · subst h; simp [(bytes_beq _ _).2 rfl]
  · rw [decide_eq_false h]
    cases he : ((⟨a.toArray⟩ : ByteArray) == ⟨b.toArray⟩) with
    | false => rfl
    | true =>
      have := (bytes_beq _ _).1 he
      injection this with e
      exact absurd (by simpa using congrArg Array.toList e) h
theorem findNow_names (x : List UInt8) : ∀ (i j : Nat) (ns : List (List UInt8)), Instr.findNow .string (.string ⟨x.toArray⟩) (nameL i ns) j = some ((posL x ns).map fun k => (j + k, Value.int .i64 ((i + k + 1 : Nat) : Int)))
  | _, _, [] => rfl
  | i, j, n :: ns => by
    rw [nameL, Instr.findNow]
    simp only [Instr.sameNow, str_beq]
    by_cases h : x = n
    · simp [posL, h]
    · rw [decide_eq_false h, findNow_names x (i + 1) (j + 1) ns, posL, if_neg h]
      cases posL x ns with
      | none => rfl
      | some k => simp only [Option.map_some]; rw [show j + 1 + k = j + (k + 1) by omega, show i + 1 + k + 1 = i + (k + 1) + 1 by omega]
theorem posL_map {f : List UInt8 → List UInt8} (hf : ∀ a b, f a = f b → a = b) (x : List UInt8) : ∀ ns, posL (f x) (ns.map f) = posL x ns
  | [] => rfl
  | n :: ns => by
    rw [List.map_cons, posL, posL, posL_map hf x ns]
    by_cases h : x = n
    · subst h; simp
    · rw [if_neg h, if_neg (fun e => h (hf _ _ e))]
theorem posL_lt (x : List UInt8) : ∀ (ns : List (List UInt8)) (k : Nat), posL x ns = some k → k < ns.length
  | [], k, h => by simp [posL] at h
  | n :: ns, k, h => by
    rw [posL] at h
    by_cases e : x = n
    · rw [if_pos e] at h; cases h; simp
    · rw [if_neg e, Option.map_eq_some_iff] at h
      obtain ⟨k', h', rfl⟩ := h
      have := posL_lt x ns k' h'
      simp; omega
end Go.Proofs.YtembfelckbmgiaaDoor
