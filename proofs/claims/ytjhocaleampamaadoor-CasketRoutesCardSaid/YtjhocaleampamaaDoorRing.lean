/- The ring (casket/ring), and what of the library it calls: the walks. -/
import Derived.Test.YtjhocaleampamaaDoorBase
import Derived.Shelf.SlSortCmp.WholeK
import Derived.Shelf.SlicesE.DeleteFunc
import Derived.Test.YtjhocaleampamaaDoorRow
import Derived.Test.YtjhocaleampamaaDoorQTail
import Derived.Test.YtjhocaleampamaaDoorShaA
import Derived.Shelf.SlSortCmp.Insertion
import Derived.Test.YtjhocaleampamaaDoorStands
import Derived.Test.YtjhocaleampamaaDoorMsgV
import Derived.Test.YtjhocaleampamaaDoorRegE
import Derived.Test.YtjhocaleampamaaDoorRowApp
import Derived.Test.YtjhocaleampamaaDoorRowApps
import Derived.Test.YtjhocaleampamaaDoorRowSrc
/- The walk of a ring, and who stands in for whom: the plain law. -/
namespace Go.Proofs.YtjhocaleampamaaDoor
/-- A number, behind those of which it isn't yet one. -/
def stepD (out : List Nat) (x : Nat) : List Nat := if x ∈ out then out else out ++ [x]
def walkL (l : List Nat) : List Nat := l.foldl stepD []
theorem foldD_sub (l : List Nat) : ∀ out : List Nat, ∀ x ∈ out, x ∈ l.foldl stepD out := by
  induction l with
  | nil => intro out x h; exact h
  | cons a r ih =>
    intro out x h
    refine ih _ x ?_
    unfold stepD
    split
    · exact h
    · exact List.mem_append_left _ h
theorem foldD_mem (l : List Nat) : ∀ out : List Nat, ∀ x ∈ l, x ∈ l.foldl stepD out := by
  induction l with
  | nil => intro out x h; cases h
  | cons a r ih =>
    intro out x h
    rcases List.mem_cons.1 h with rfl | h
    · refine foldD_sub r _ x ?_
      unfold stepD
      split
      · assumption
      · simp
    · exact ih _ x h
theorem foldD_from (l : List Nat) : ∀ out : List Nat, ∀ x ∈ l.foldl stepD out, x ∈ out ∨ x ∈ l := by
  induction l with
  | nil => intro out x h; exact .inl h
  | cons a r ih =>
    intro out x h
    rcases ih _ x h with h | h
    · unfold stepD at h
      split at h
      · exact .inl h
      · rcases List.mem_append.1 h with h | h
        · exact .inl h
        · rw [List.mem_singleton] at h; exact .inr (by rw [h]; simp)
    · exact .inr (List.mem_cons_of_mem _ h)
theorem foldD_nodup (l : List Nat) : ∀ out : List Nat, out.Nodup → (l.foldl stepD out).Nodup := by
  induction l with
  | nil => intro out h; exact h
  | cons a r ih =>
    intro out h
    refine ih _ ?_
    unfold stepD
    split
    · exact h
    · rename_i hn
      rw [List.nodup_append]
      exact ⟨h, by simp, fun x hx y hy => by rw [List.mem_singleton] at hy; rintro rfl; exact hn (hy ▸ hx)⟩
theorem walkL_nodup (l : List Nat) : (walkL l).Nodup := foldD_nodup l [] List.nodup_nil
theorem walkL_mem (l : List Nat) (x : Nat) : x ∈ walkL l ↔ x ∈ l :=
  ⟨fun h => (foldD_from l [] x h).resolve_left (by simp), foldD_mem l [] x⟩
theorem foldD_le (l : List Nat) : ∀ out : List Nat, (l.foldl stepD out).length ≤ out.length + l.length := by
  induction l with
  | nil => intro out; simp
  | cons a r ih =>
    intro out
    have h := ih (stepD out a)
    have h2 : (stepD out a).length ≤ out.length + 1 := by
      unfold stepD
      split
      · omega
      · rw [List.length_append, List.length_singleton]; omega
    rw [List.foldl_cons, List.length_cons]
    omega
theorem walkL_le (l : List Nat) : (walkL l).length ≤ l.length := by have := foldD_le l []; rw [List.length_nil] at this; unfold walkL; omega
theorem walkL_step (l : List Nat) (i : Nat) (h : i < l.length) : walkL (l.take (i + 1)) = stepD (walkL (l.take i)) (l.getD i 0) := by
  unfold walkL
  rw [List.take_succ_eq_append_getElem h, List.foldl_append]
  simp [List.getD, h]
/-- A list without doubles that holds just the numbers below five has five. -/
theorem five_len (l : List Nat) (hn : l.Nodup) (h1 : ∀ x ∈ l, x < 5) (h2 : ∀ x, x < 5 → x ∈ l) : l.length = 5 := by
  have hp : l.Perm (List.range 5) := (List.perm_ext_iff_of_nodup hn List.nodup_range).2 fun a => by
    rw [List.mem_range]; exact ⟨h1 a, h2 a⟩
  rw [hp.length_eq, List.length_range]
/-- A list turned round so that it begins at f. -/
def turnL (l : List Nat) (f : Nat) : List Nat := (List.range l.length).map fun i => l.getD ((f + i) % l.length) 0
theorem turnL_len (l : List Nat) (f : Nat) : (turnL l f).length = l.length := by unfold turnL; rw [List.length_map, List.length_range]
theorem turnL_get (l : List Nat) (f i : Nat) (h : i < l.length) : (turnL l f).getD i 0 = l.getD ((f + i) % l.length) 0 := by unfold turnL; simp [List.getD, h]
theorem turnL_mem (l : List Nat) (f x : Nat) (hf : f ≤ l.length) : x ∈ turnL l f ↔ x ∈ l := by
  unfold turnL
  rw [List.mem_map]
  constructor
  · rintro ⟨i, hi, rfl⟩
    rw [List.mem_range] at hi
    have hm : (f + i) % l.length < l.length := Nat.mod_lt _ (by omega)
    simp only [List.getD, List.getElem?_eq_getElem hm, Option.getD_some]
    exact List.getElem_mem hm
  · intro h
    obtain ⟨j, hj, rfl⟩ := List.mem_iff_getElem.1 h
    by_cases hjf : f ≤ j
    · refine ⟨j - f, List.mem_range.2 (by omega), ?_⟩
      rw [show f + (j - f) = j by omega, Nat.mod_eq_of_lt hj]
      simp [List.getD, hj]
    · refine ⟨j + l.length - f, List.mem_range.2 (by omega), ?_⟩
      rw [show f + (j + l.length - f) = j + l.length by omega, Nat.add_mod_right, Nat.mod_eq_of_lt hj]
      simp [List.getD, hj]
/-- The walk of a ring whose points are of the replicas 0 to 4, each of them once or more. -/
theorem walk_five (l : List Nat) (f : Nat) (hf : f ≤ l.length) (h1 : ∀ x ∈ l, x < 5) (h2 : ∀ x, x < 5 → x ∈ l) :
    (walkL (turnL l f)).length = 5 ∧ (walkL (turnL l f)).Nodup ∧ ∀ x ∈ walkL (turnL l f), x < 5 := by
  have hm : ∀ x, x ∈ walkL (turnL l f) ↔ x ∈ l := fun x => by rw [walkL_mem, turnL_mem l f x hf]
  have hn := walkL_nodup (turnL l f)
  have hl : ∀ x ∈ walkL (turnL l f), x < 5 := fun x hx => h1 x ((hm x).1 hx)
  exact ⟨five_len _ hn hl fun x hx => (hm x).2 (h2 x hx), hn, hl⟩
/-- One more of the first ones: itself, or who stands in for it. -/
def stepS (up : Nat → Bool) (st : List (Nat × Nat) × List Nat) (x : Nat) : List (Nat × Nat) × List Nat :=
  if up x then (st.1 ++ [(x, x)], st.2) else match st.2 with
    | [] => st
    | y :: o => (st.1 ++ [(y, x)], o)
theorem stand_inv (up : Nat → Bool) : ∀ (xs : List Nat) (st : List (Nat × Nat) × List Nat) (pr us : List Nat), (pr ++ xs ++ (us ++ st.2)).Nodup → (st.1.map Prod.fst).Nodup → (∀ p ∈ st.1, (p.1 ∈ pr ∨ p.1 ∈ us) ∧ p.2 ∈ pr) → st.1.length ≤ pr.length →
    ((xs.foldl (stepS up) st).1.map Prod.fst).Nodup ∧ (∀ p ∈ (xs.foldl (stepS up) st).1, p.1 ∈ pr ++ xs ++ (us ++ st.2) ∧ p.2 ∈ pr ++ xs) ∧ (xs.foldl (stepS up) st).1.length ≤ (pr ++ xs).length := by
  intro xs
  induction xs with
  | nil =>
    intro st pr us hn hd hp hl
    refine ⟨hd, fun p h => ⟨?_, by simpa using (hp p h).2⟩, by simpa using hl⟩
    rcases (hp p h).1 with h | h <;> simp [h]
  | cons x r ih =>
    intro st pr us hn hd hp hl
    have hx : x ∉ pr ∧ x ∉ us := by
      have hn1 := (List.nodup_append.1 hn).1
      have hn2 := (List.nodup_append.1 hn).2.2
      refine ⟨fun h => (List.nodup_append.1 hn1).2.2 x h x (by simp) rfl, fun h => hn2 x (by simp) x (List.mem_append_left _ h) rfl⟩
    have key : ∀ (st' : List (Nat × Nat) × List Nat) (us' : List Nat), us' ++ st'.2 = us ++ st.2 → (st'.1.map Prod.fst).Nodup → (∀ p ∈ st'.1, (p.1 ∈ pr ++ [x] ∨ p.1 ∈ us') ∧ p.2 ∈ pr ++ [x]) → st'.1.length ≤ (pr ++ [x]).length →
        ((r.foldl (stepS up) st').1.map Prod.fst).Nodup ∧ (∀ p ∈ (r.foldl (stepS up) st').1, p.1 ∈ pr ++ x :: r ++ (us ++ st.2) ∧ p.2 ∈ pr ++ x :: r) ∧ (r.foldl (stepS up) st').1.length ≤ (pr ++ x :: r).length := by
      intro st' us' he h1 h2 h3
      have := ih st' (pr ++ [x]) us' (by rw [he]; simpa using hn) h1 h2 h3
      rw [he] at this
      simpa using this
    have hold : ∀ p ∈ st.1, (p.1 ∈ pr ++ [x] ∨ p.1 ∈ us) ∧ p.2 ∈ pr ++ [x] := fun p h => by
      obtain ⟨h1, h2⟩ := hp p h
      exact ⟨h1.elim (fun h => .inl (List.mem_append_left _ h)) .inr, List.mem_append_left _ h2⟩
    show ((r.foldl (stepS up) (stepS up st x)).1.map Prod.fst).Nodup ∧ (∀ p ∈ (r.foldl (stepS up) (stepS up st x)).1, _) ∧ (r.foldl (stepS up) (stepS up st x)).1.length ≤ _
    unfold stepS
    split
    · refine key _ us rfl ?_ ?_ ?_
      · rw [List.map_append, List.nodup_append]
        refine ⟨hd, by simp, fun a ha b hb => ?_⟩
        simp at hb; subst hb
        rintro rfl
        obtain ⟨p, hpm, rfl⟩ := List.mem_map.1 ha
        exact (hp p hpm).1.elim hx.1 hx.2
      · intro p h
        rcases List.mem_append.1 h with h | h
        · exact hold p h
        · simp at h; subst h; simp
      · simp; omega
    · split
      · refine key _ us rfl hd hold (by simp; omega)
      · rename_i y o he
        refine key _ (us ++ [y]) (by simp [he]) ?_ ?_ ?_
        · rw [List.map_append, List.nodup_append]
          refine ⟨hd, by simp, fun a ha b hb => ?_⟩
          simp at hb; subst hb
          rintro rfl
          obtain ⟨p, hpm, hpe⟩ := List.mem_map.1 ha
          rw [he] at hn
          have hn1 := (List.nodup_append.1 hn).2.1
          have hn2 := (List.nodup_append.1 hn).2.2
          rcases (hp p hpm).1 with h | h <;> rw [hpe] at h
          · exact hn2 a (by simp [h]) a (by simp) rfl
          · exact (List.nodup_append.1 hn1).2.2 a h a (by simp) rfl
        · intro p h
          rcases List.mem_append.1 h with h | h
          · obtain ⟨h1, h2⟩ := hold p h
            exact ⟨h1.elim .inl fun h => .inr (List.mem_append_left _ h), h2⟩
          · simp at h; subst h; simp
        · simp; omega
/-- Who keeps a key: the pairs. -/
def standL (up : Nat → Bool) (walk : List Nat) (n : Nat) : List (Nat × Nat) := ((walk.take n).foldl (stepS up) ([], (walk.drop n).filter up)).1
theorem standL_ok (up : Nat → Bool) (walk : List Nat) (n : Nat) (hn : walk.Nodup) (h5 : ∀ x ∈ walk, x < 5) :
    ((standL up walk n).map Prod.fst).Nodup ∧ (∀ p ∈ standL up walk n, p.1 < 5 ∧ p.2 < 5) ∧ (standL up walk n).length ≤ n := by
  have hnd : ([] ++ walk.take n ++ ([] ++ ((([], (walk.drop n).filter up) : List (Nat × Nat) × List Nat)).2)).Nodup := by
    have h := hn
    rw [← List.take_append_drop n walk, List.nodup_append] at h
    simp only [List.nil_append, List.nodup_append]
    exact ⟨h.1, h.2.1.filter _, fun a ha b hb => h.2.2 a ha b (List.mem_filter.1 hb).1⟩
  obtain ⟨h1, h2, h3⟩ := stand_inv up (walk.take n) ([], (walk.drop n).filter up) [] [] hnd (by simp) (by simp) (by simp)
  refine ⟨h1, fun p hp => ?_, ?_⟩
  · obtain ⟨ha, hb⟩ := h2 p hp
    simp only [List.nil_append] at ha hb
    refine ⟨h5 _ ?_, h5 _ (List.mem_of_mem_take hb)⟩
    rcases List.mem_append.1 ha with h | h
    · exact List.mem_of_mem_take h
    · exact List.mem_of_mem_drop (List.mem_filter.1 h).1
  · rw [List.nil_append, List.length_take] at h3
    unfold standL
    omega
end Go.Proofs.YtjhocaleampamaaDoor
/- The library's contracts for slices.SortFunc (of points) and slices.DeleteFunc (of ints), laid at this program. -/
namespace Go.Proofs.YtjhocaleampamaaDoor
open Go.Shelf
def sortP_ren : Go.Shelf.Ren := ⟨fun | 6 => 15 | 15 => 42 | 14 => 41 | 28 => 75 | 29 => 76 | 20 => 67 | 21 => 68 | 22 => 69 | 23 => 70 | 24 => 71 | 25 => 72 | 26 => 73 | 27 => 74 | 46 => 88 | 47 => 89 | 48 => 90 | 49 => 91 | 50 => 92 | 57 => 94 | n => n, fun | 22 => 55 | 24 => 61 | 25 => 66 | 3 => 3 | 39 => 97 | 0 => 0 | 53 => 98 | 55 => 50 | 4 => 4 | 46 => 132 | 45 => 131 | 50 => 106 | 5 => 5 | 9 => 9 | 66 => 146 | 70 => 150 | 76 => 153 | 77 => 154 | n => n, fun | n => n⟩
theorem sortP : Go.Proofs.SlLaysF0.n6 Tryd.prog sortP_ren := {
  mixed := by kernel_rfl
  f6 := ⟨Tryd.f15.name, by decide, Tryd.func15.trans (congrArg some (by kernel_rfl))⟩
  f14 := ⟨Tryd.f41.name, by decide, Tryd.func41.trans (congrArg some (by kernel_rfl))⟩
  f15 := Tryd.func42.trans (congrArg some (by kernel_rfl))
  f20 := ⟨Tryd.f67.name, by decide, Tryd.func67.trans (congrArg some (by kernel_rfl))⟩
  f21 := ⟨Tryd.f68.name, by decide, Tryd.func68.trans (congrArg some (by kernel_rfl))⟩
  f22 := ⟨Tryd.f69.name, by decide, Tryd.func69.trans (congrArg some (by kernel_rfl))⟩
  f23 := ⟨Tryd.f70.name, by decide, Tryd.func70.trans (congrArg some (by kernel_rfl))⟩
  f24 := ⟨Tryd.f71.name, by decide, Tryd.func71.trans (congrArg some (by kernel_rfl))⟩
  f25 := ⟨Tryd.f72.name, by decide, Tryd.func72.trans (congrArg some (by kernel_rfl))⟩
  f26 := ⟨Tryd.f73.name, by decide, Tryd.func73.trans (congrArg some (by kernel_rfl))⟩
  f27 := ⟨Tryd.f74.name, by decide, Tryd.func74.trans (congrArg some (by kernel_rfl))⟩
  f28 := Tryd.func75.trans (congrArg some (by kernel_rfl))
  f29 := Tryd.func76.trans (congrArg some (by kernel_rfl))
  f46 := ⟨Tryd.f88.name, by decide, Tryd.func88.trans (congrArg some (by kernel_rfl))⟩
  f47 := Tryd.func89.trans (congrArg some (by kernel_rfl))
  f48 := Tryd.func90.trans (congrArg some (by kernel_rfl))
  f49 := ⟨Tryd.f91.name, by decide, Tryd.func91.trans (congrArg some (by kernel_rfl))⟩
  f50 := ⟨Tryd.f92.name, by decide, Tryd.func92.trans (congrArg some (by kernel_rfl))⟩
  f57 := ⟨Tryd.f94.name, by decide, Tryd.func94.trans (congrArg some (by kernel_rfl))⟩
  t0 := Tryd.underlying0
  a0 := Tryd.isAgg0
  z0 := Tryd.sizeOf0
  v0 := Tryd.zeroValue0
  t3 := Tryd.underlying3
  a3 := Tryd.isAgg3
  z3 := Tryd.sizeOf3
  v3 := Tryd.zeroValue3
  t4 := Tryd.underlying4
  a4 := Tryd.isAgg4
  z4 := Tryd.sizeOf4
  v4 := Tryd.zeroValue4
  t5 := Tryd.underlying5
  a5 := Tryd.isAgg5
  z5 := Tryd.sizeOf5
  v5 := Tryd.zeroValue5
  t9 := Tryd.underlying9
  a9 := Tryd.isAgg9
  z9 := Tryd.sizeOf9
  v9 := Tryd.zeroValue9
  t22 := Tryd.underlying55
  a22 := Tryd.isAgg55
  z22 := Tryd.sizeOf55
  v22 := Tryd.zeroValue55
  t25 := Tryd.underlying66
  a25 := Tryd.isAgg66
  z25 := Tryd.sizeOf66
  v25 := Tryd.zeroValue66
  t39 := Tryd.underlying97
  a39 := Tryd.isAgg97
  z39 := Tryd.sizeOf97
  v39 := Tryd.zeroValue97
  t45 := Tryd.underlying131
  a45 := Tryd.isAgg131
  z45 := Tryd.sizeOf131
  v45 := Tryd.zeroValue131
  t46 := Tryd.underlying132
  a46 := Tryd.isAgg132
  z46 := Tryd.sizeOf132
  v46 := Tryd.zeroValue132
  t50 := Tryd.underlying106
  a50 := Tryd.isAgg106
  z50 := Tryd.sizeOf106
  v50 := Tryd.zeroValue106
  t53 := Tryd.underlying98
  a53 := Tryd.isAgg98
  z53 := Tryd.sizeOf98
  v53 := Tryd.zeroValue98
  t55 := Tryd.underlying50
  a55 := Tryd.isAgg50
  z55 := Tryd.sizeOf50
  v55 := Tryd.zeroValue50
  t66 := Tryd.underlying146
  a66 := Tryd.isAgg146
  z66 := Tryd.sizeOf146
  v66 := Tryd.zeroValue146
  t70 := Tryd.underlying150
  a70 := Tryd.isAgg150
  z70 := Tryd.sizeOf150
  v70 := Tryd.zeroValue150
  t76 := Tryd.underlying153
  a76 := Tryd.isAgg153
  z76 := Tryd.sizeOf153
  v76 := Tryd.zeroValue153
  t77 := Tryd.underlying154
  a77 := Tryd.isAgg154
  z77 := Tryd.sizeOf154
  v77 := Tryd.zeroValue154 }
def delI_ren : Go.Shelf.Ren := ⟨fun | 10 => 21 | 6 => 48 | n => n, fun | 22 => 25 | 23 => 3 | 25 => 73 | 3 => 3 | 4 => 4 | 0 => 0 | n => n, fun | n => n⟩
theorem delI : Go.Proofs.SlLaysH.n10 Tryd.prog delI_ren := {
  mixed := by kernel_rfl
  f6 := ⟨Tryd.f48.name, by decide, Tryd.func48.trans (congrArg some (by kernel_rfl))⟩
  f10 := ⟨Tryd.f21.name, by decide, Tryd.func21.trans (congrArg some (by kernel_rfl))⟩
  t0 := Tryd.underlying0
  a0 := Tryd.isAgg0
  z0 := Tryd.sizeOf0
  v0 := Tryd.zeroValue0
  t3 := Tryd.underlying3
  a3 := Tryd.isAgg3
  z3 := Tryd.sizeOf3
  v3 := Tryd.zeroValue3
  t4 := Tryd.underlying4
  a4 := Tryd.isAgg4
  z4 := Tryd.sizeOf4
  v4 := Tryd.zeroValue4
  t22 := Tryd.underlying25
  a22 := Tryd.isAgg25
  z22 := Tryd.sizeOf25
  v22 := Tryd.zeroValue25
  a23 := Tryd.isAgg3
  z23 := Tryd.sizeOf3
  t25 := Tryd.underlying73
  a25 := Tryd.isAgg73
  z25 := Tryd.sizeOf73
  v25 := Tryd.zeroValue73 }
end Go.Proofs.YtjhocaleampamaaDoor
/- cmp.Compare, cmp.Or, and the order of a ring's points: the walks. -/
namespace Go.Proofs.YtjhocaleampamaaDoor
open Go.RowKit
set_option linter.unusedVariables false
/-- A point of a ring. -/
structure PT where
  at_ : Nat
  of : Nat
  rank : Nat
instance : Inhabited PT := ⟨⟨0, 0, 0⟩⟩
def PT.C (p : PT) : List Value := [.int .u64 p.at_, .int .i64 p.of, .int .i64 p.rank]
def cmpN (a b : Nat) : Int := if a < b then -1 else if b < a then 1 else 0
def orI (a b c : Int) : Int := if a ≠ 0 then a else if b ≠ 0 then b else c
def cfP (x y : PT) : Int := orI (cmpN x.at_ y.at_) (cmpN x.of y.of) (cmpN x.rank y.rank)
theorem cmpN_lt (a b : Nat) : cmpN a b < 0 ↔ a < b := by unfold cmpN; split <;> (try split) <;> omega
theorem cmpN_zero (a b : Nat) : cmpN a b = 0 ↔ a = b := by unfold cmpN; split <;> (try split) <;> omega
theorem ltP (x y : PT) : ltOf cfP x y = decide (x.at_ < y.at_ ∨ (x.at_ = y.at_ ∧ (x.of < y.of ∨ (x.of = y.of ∧ x.rank < y.rank)))) := by
  unfold ltOf
  refine decide_eq_decide.2 ?_
  unfold cfP orI
  have h1 := cmpN_lt x.at_ y.at_
  have h2 := cmpN_zero x.at_ y.at_
  have h3 := cmpN_lt x.of y.of
  have h4 := cmpN_zero x.of y.of
  have h5 := cmpN_lt x.rank y.rank
  split
  · omega
  · split <;> omega
theorem swoP : Sort.SWO (ltOf cfP) where
  irrefl x := by rw [ltP, decide_eq_false_iff_not]; omega
  trans x y z h1 h2 := by rw [ltP, decide_eq_true_iff] at *; omega
  ntrans x y z h1 h2 := by rw [ltP, decide_eq_false_iff_not] at *; omega
set_option maxRecDepth 100000 in
theorem isNaN_u64 (x : Int) (w : World) : Calls Tryd.prog 43 #[.int .u64 x] w fun e w' => e = .returned (.bool false) ∧ w = w' := by
  go_enter Tryd.func43, Tryd.ntmps43
  go_wp2_with fail
  go_ret
  exact ⟨rfl, rfl⟩
set_option maxRecDepth 100000 in
theorem isNaN_int (x : Int) (w : World) : Calls Tryd.prog 44 #[.int .i64 x] w fun e w' => e = .returned (.bool false) ∧ w = w' := by
  go_enter Tryd.func44, Tryd.ntmps44
  go_wp2_with fail
  go_ret
  exact ⟨rfl, rfl⟩
set_option maxRecDepth 100000 in
theorem compare_u64 (x y : Nat) (w : World) : Calls Tryd.prog 18 #[.int .u64 x, .int .u64 y] w fun e w' => e = .returned (.int .i64 (cmpN x y)) ∧ w = w' := by
  have h1 := isNaN_u64 x w
  have h2 := isNaN_u64 y w
  obtain ⟨r, hr⟩ : ∃ r, r = cmpN x y := ⟨_, rfl⟩
  rw [← hr]
  have HR := Lib.hid hr; clear hr
  rcases Nat.lt_trichotomy x y with h | h | h
  · have hr : r = -1 := by rw [HR.out]; unfold cmpN; rw [if_pos h]
    subst hr
    have h3 : (x : Int) < y := by omega
    go_enter Tryd.func18, Tryd.ntmps18
    go_wp2_with (first | (refine h1.mono ?_; rintro e w' ⟨rfl, rfl⟩) | (refine h2.mono ?_; rintro e w' ⟨rfl, rfl⟩))
    go_ret
    exact ⟨rfl, rfl⟩
  · have hr : r = 0 := by rw [HR.out]; exact (cmpN_zero _ _).2 h
    subst hr
    have h3 : ¬ (x : Int) < y := by omega
    have h4 : ¬ (y : Int) < x := by omega
    go_enter Tryd.func18, Tryd.ntmps18
    go_wp2_with (first | (refine h1.mono ?_; rintro e w' ⟨rfl, rfl⟩) | (refine h2.mono ?_; rintro e w' ⟨rfl, rfl⟩))
    go_ret
    exact ⟨rfl, rfl⟩
  · have hr : r = 1 := by rw [HR.out]; unfold cmpN; rw [if_neg (by omega), if_pos h]
    subst hr
    have h3 : ¬ (x : Int) < y := by omega
    have h4 : (y : Int) < x := by omega
    go_enter Tryd.func18, Tryd.ntmps18
    go_wp2_with (first | (refine h1.mono ?_; rintro e w' ⟨rfl, rfl⟩) | (refine h2.mono ?_; rintro e w' ⟨rfl, rfl⟩))
    go_ret
    exact ⟨rfl, rfl⟩
set_option maxRecDepth 100000 in
theorem compare_int (x y : Nat) (w : World) : Calls Tryd.prog 19 #[.int .i64 x, .int .i64 y] w fun e w' => e = .returned (.int .i64 (cmpN x y)) ∧ w = w' := by
  have h1 := isNaN_int x w
  have h2 := isNaN_int y w
  obtain ⟨r, hr⟩ : ∃ r, r = cmpN x y := ⟨_, rfl⟩
  rw [← hr]
  have HR := Lib.hid hr; clear hr
  rcases Nat.lt_trichotomy x y with h | h | h
  · have hr : r = -1 := by rw [HR.out]; unfold cmpN; rw [if_pos h]
    subst hr
    have h3 : (x : Int) < y := by omega
    go_enter Tryd.func19, Tryd.ntmps19
    go_wp2_with (first | (refine h1.mono ?_; rintro e w' ⟨rfl, rfl⟩) | (refine h2.mono ?_; rintro e w' ⟨rfl, rfl⟩))
    go_ret
    exact ⟨rfl, rfl⟩
  · have hr : r = 0 := by rw [HR.out]; exact (cmpN_zero _ _).2 h
    subst hr
    have h3 : ¬ (x : Int) < y := by omega
    have h4 : ¬ (y : Int) < x := by omega
    go_enter Tryd.func19, Tryd.ntmps19
    go_wp2_with (first | (refine h1.mono ?_; rintro e w' ⟨rfl, rfl⟩) | (refine h2.mono ?_; rintro e w' ⟨rfl, rfl⟩))
    go_ret
    exact ⟨rfl, rfl⟩
  · have hr : r = 1 := by rw [HR.out]; unfold cmpN; rw [if_neg (by omega), if_pos h]
    subst hr
    have h3 : ¬ (x : Int) < y := by omega
    have h4 : (y : Int) < x := by omega
    go_enter Tryd.func19, Tryd.ntmps19
    go_wp2_with (first | (refine h1.mono ?_; rintro e w' ⟨rfl, rfl⟩) | (refine h2.mono ?_; rintro e w' ⟨rfl, rfl⟩))
    go_ret
    exact ⟨rfl, rfl⟩
set_option maxRecDepth 100000 in
theorem or_three (a b c : Int) (g : Nat) (w : World) (h0 : w.cell? ⟨g, 0, none⟩ = some (.int .i64 a)) (h1 : w.cell? ⟨g, 1, none⟩ = some (.int .i64 b)) (h2 : w.cell? ⟨g, 2, none⟩ = some (.int .i64 c)) :
    Calls Tryd.prog 17 #[.slice (some ⟨g, 0, none⟩) 3 3] w fun e w' => e = .returned (.int .i64 (orI a b c)) ∧ w = w' := by
  obtain ⟨r, hr⟩ : ∃ r, r = orI a b c := ⟨_, rfl⟩
  rw [← hr]
  have HR := Lib.hid hr; clear hr
  by_cases ha : a = 0
  · by_cases hb : b = 0
    · by_cases hc : c = 0
      · have hr : r = 0 := by rw [HR.out]; simp [orI, ha, hb, hc]
        subst hr ha hb hc
        clear HR
        go_enter Tryd.func17, Tryd.ntmps17
        go_wp2_with fail
        refine wp_loop_rounds 4 ?_
        rw [rounds_succ]
        go_wp2_with fail
        rw [rounds_succ]
        go_wp2_with fail
        rw [rounds_succ]
        go_wp2_with fail
        rw [rounds_succ]
        go_wp2_with fail
        go_ret
        exact ⟨rfl, rfl⟩
      · have hr : r = c := by rw [HR.out]; simp [orI, ha, hb]
        subst hr ha hb
        clear HR
        go_enter Tryd.func17, Tryd.ntmps17
        go_wp2_with fail
        refine wp_loop_rounds 4 ?_
        rw [rounds_succ]
        go_wp2_with fail
        rw [rounds_succ]
        go_wp2_with fail
        rw [rounds_succ]
        go_wp2_with fail
        go_ret
        exact ⟨rfl, rfl⟩
    · have hr : r = b := by rw [HR.out]; simp [orI, ha, hb]
      subst hr ha
      clear HR
      go_enter Tryd.func17, Tryd.ntmps17
      go_wp2_with fail
      refine wp_loop_rounds 4 ?_
      rw [rounds_succ]
      go_wp2_with fail
      rw [rounds_succ]
      go_wp2_with fail
      go_ret
      exact ⟨rfl, rfl⟩
  · have hr : r = a := by rw [HR.out]; simp [orI, ha]
    subst hr
    clear HR
    go_enter Tryd.func17, Tryd.ntmps17
    go_wp2_with fail
    refine wp_loop_rounds 4 ?_
    rw [rounds_succ]
    go_wp2_with fail
    go_ret
    exact ⟨rfl, rfl⟩
end Go.Proofs.YtjhocaleampamaaDoor
/- The comparison of a ring's points, as the sort asks it. -/
namespace Go.Proofs.YtjhocaleampamaaDoor
open Go.RowKit
set_option linter.unusedVariables false
set_option maxRecDepth 100000 in
set_option maxHeartbeats 1000000 in
theorem new1_any (x y : PT) (W : World) : Calls Tryd.prog 16 #[.agg #[.int .u64 x.at_, .int .i64 x.of, .int .i64 x.rank], .agg #[.int .u64 y.at_, .int .i64 y.of, .int .i64 y.rank]] W fun e w' => e = .returned (.int .i64 (cfP x y)) ∧ ∃ q os', w' = Sort.grow (W.drewN q) os' := by
  obtain ⟨xa, xo, xr⟩ := x
  obtain ⟨ya, yo, yr⟩ := y
  unfold cfP
  obtain ⟨w2, hw2, a0, a1, a2, b0, b1, b2, hs⟩ : ∃ w2, w2 = (W.alloc (.cells #[.int .u64 xa, .int .i64 xo, .int .i64 xr] 61)).alloc (.cells #[.int .u64 ya, .int .i64 yo, .int .i64 yr] 61) ∧
      w2.cell? ⟨W.heap.size, 0, none⟩ = some (.int .u64 xa) ∧ w2.cell? ⟨W.heap.size, 1, none⟩ = some (.int .i64 xo) ∧ w2.cell? ⟨W.heap.size, 2, none⟩ = some (.int .i64 xr) ∧
      w2.cell? ⟨W.heap.size + 1, 0, none⟩ = some (.int .u64 ya) ∧ w2.cell? ⟨W.heap.size + 1, 1, none⟩ = some (.int .i64 yo) ∧ w2.cell? ⟨W.heap.size + 1, 2, none⟩ = some (.int .i64 yr) ∧ w2.heap.size = W.heap.size + 2 := by
    refine ⟨_, rfl, ?_, ?_, ?_, ?_, ?_, ?_, by simp⟩
    · exact Lib.cell?_alloc_some _ (by rw [World.cell?_alloc_new]; rfl)
    · exact Lib.cell?_alloc_some _ (by rw [World.cell?_alloc_new]; rfl)
    · exact Lib.cell?_alloc_some _ (by rw [World.cell?_alloc_new]; rfl)
    · rw [← World.size_alloc W (.cells #[.int .u64 xa, .int .i64 xo, .int .i64 xr] 61), World.cell?_alloc_new]; rfl
    · rw [← World.size_alloc W (.cells #[.int .u64 xa, .int .i64 xo, .int .i64 xr] 61), World.cell?_alloc_new]; rfl
    · rw [← World.size_alloc W (.cells #[.int .u64 xa, .int .i64 xo, .int .i64 xr] 61), World.cell?_alloc_new]; rfl
  have HW := Lib.hid hw2
  have k1 := fun n => quiet_eq (compare_u64 xa ya (w2.drewN n))
  have k2 := fun n => quiet_eq (compare_int xo yo (w2.drewN n))
  have k3 := fun n => quiet_eq (compare_int xr yr (w2.drewN n))
  have HG : ∀ n C, ∃ q os', (w2.drewN n).alloc C = Sort.grow (W.drewN q) os' := fun n C => ⟨n, _, by rw [hw2, Sort.alloc_eq_grow, Sort.alloc_eq_grow, Sort.alloc_eq_grow, Sort.grow_grow, show ∀ os, (Sort.grow W os).drewN n = Sort.grow (W.drewN n) os from fun _ => rfl, Sort.grow_grow]⟩
  clear hw2 hs
  generalize cmpN xa ya = ra at *
  generalize cmpN xo yo = ro at *
  generalize cmpN xr yr = rr at *
  go_enter Tryd.func16, Tryd.ntmps16
  go_wp2_with fail
  rw [← HW.out]
  clear HW
  refine wp_region_quiet_tail_lit 15 (by kernel_rfl) (by kernel_rfl) ?_
  simp only [List.take_succ_cons, List.take_zero, List.drop_succ_cons, List.drop_zero]
  repeat (quiet_step (first | (go_at_call 18; with_reducible exact k1 _) | (go_at_call 19; with_reducible exact k2 _) | (go_at_call 19; with_reducible exact k3 _)))
  refine wpQuiet_nil ?_
  rintro _ ⟨n0, rfl⟩
  have ho := or_three ra ro rr w2.heap.size ((w2.drewN n0).alloc (.cells #[.int .i64 ra, .int .i64 ro, .int .i64 rr] 3)) (by exact World.cell?_alloc_new (w2.drewN n0) _ _ 0) (by exact World.cell?_alloc_new (w2.drewN n0) _ _ 1) (by exact World.cell?_alloc_new (w2.drewN n0) _ _ 2)
  go_wp2_with fail
  clear k1 k2 k3
  refine ho.mono ?_
  rintro e w' ⟨rfl, rfl⟩
  go_wp2_with fail
  go_ret
  exact ⟨rfl, HG _ _⟩
theorem cmpP (blk off size : Nat) (w : World) : CmpLays Tryd.prog 16 #[] PT.C 3 cfP blk off size w := fun _ _ _ _ x y => new1_any x y _
end Go.Proofs.YtjhocaleampamaaDoor
/- ring.place, and the sort of a ring's points in my words. -/
namespace Go.Proofs.YtjhocaleampamaaDoor
open Go.RowKit Big
set_option linter.unusedVariables false
set_option maxRecDepth 100000 in
theorem high64_any (v : Value) (l : List UInt8) (w : World) (hb : Bsl w v l) (hl : l.length = 8) :
    Calls Tryd.prog 40 #[v] w fun e w' => e = .returned (.tuple #[.int .u64 (beW l), .bool true]) ∧ w = w' := by
  have hh := high_any v l w hb (by omega)
  obtain ⟨ao, cap, rfl⟩ := hb.shape
  rw [hl] at hh ⊢
  generalize beW l = x at *
  clear hb
  go_enter Tryd.func40, Tryd.ntmps40
  go_wp2_with fail
  refine hh.mono ?_
  rintro e w' ⟨rfl, rfl⟩
  go_wp2_with fail
  go_ret2
  exact ⟨rfl, rfl⟩
set_option maxRecDepth 100000 in
theorem place_any (v : Value) (l : List UInt8) (w : World) (hb : Bsl w v l) (hl : 8 ≤ l.length) :
    Calls Tryd.prog 14 #[v] w fun e w' => e = .returned (.int .u64 (beW (l.take 8))) ∧ w = w' := by
  obtain ⟨ao, cap, rfl⟩ := hb.shape
  have hcap : (8 : Int) ≤ cap := by have := hb.len; omega
  have hh := high64_any _ _ w (hb.take hl) (by rw [List.length_take]; omega)
  generalize beW (l.take 8) = x at *
  clear hb
  go_enter Tryd.func14, Tryd.ntmps14
  go_wp2_with fail
  refine hh.mono ?_
  rintro e w' ⟨rfl, rfl⟩
  go_wp2_with fail
  go_ret
  exact ⟨rfl, rfl⟩
theorem RW.holdsP {w : World} {base : Nat} {e : TypeId} {g n cap : Nat} {pts : List PT} (h : RW w base e 3 (.slice (some ⟨g, 0, none⟩) n cap) (pts.map PT.C)) (hn : n = pts.length) : Sort.HoldsK PT.C 3 w g 0 pts.toArray := by
  intro j hj
  rw [Sort.size_flatK, List.size_toArray] at hj
  rw [Sort.get_flatK _ _ _ _ (by rw [List.size_toArray]; exact hj)]
  have hi : j / 3 < pts.length := Nat.div_lt_of_lt_mul (by omega)
  have hi' : j / 3 < (pts.map PT.C).length := by rw [List.length_map]; exact hi
  have hr := h.range (by rw [hn, List.length_map]) hi'
  have hf := (h.there (by rw [hn, List.length_map]) hi' (j % 3) (Nat.mod_lt _ (by omega))).2
  have hv : ((pts.map PT.C)[j / 3])[j % 3]? = some ((PT.C (pts.toArray[j / 3]!))[j % 3]!) := by
    rw [List.getElem_map, getElem!_pos pts.toArray (j / 3) (by rw [List.size_toArray]; exact hi), List.getElem_toArray]
    have hm : j % 3 < (PT.C pts[j / 3]).length := Nat.mod_lt _ (by show 0 < 3; omega)
    rw [List.getElem?_eq_getElem hm, getElem!_pos (PT.C pts[j / 3]) (j % 3) hm]
  have hc := hr (j % 3) _ hv
  rw [show j / 3 * 3 + j % 3 = j by omega] at hc hf
  exact ⟨by rw [Nat.zero_add]; exact hc, by rw [Nat.zero_add]; exact hf⟩
/-- What the sort turns is the row alone. -/
theorem only_sorted {α : Type} [Inhabited α] (enc : α → List Value) (k : Nat) (w : World) (blk off m : Nat) (dk : Array α) (os : Array Obj) : Only (· = blk) w (sortWorldK enc k w blk off m dk os) := by
  refine ⟨rfl, rfl, rfl, size_sortWorldK_c _ _ _ _ _ _ _ _, fun i hi hn => ?_⟩
  unfold sortWorldK
  rw [Sort.heap_grow_old _ _ (by rw [Sort.size_putRowK]; exact hi)]
  show ((Sort.ahead w m).heap.modify blk _)[i]? = _
  rw [Array.getElem?_modify, if_neg (fun e => hn e.symm)]
  rfl
theorem rd_sorted {w' : World} {g : Nat} {d : Array PT} (h : Sort.HoldsK PT.C 3 w' g 0 d) {n cap : Nat} (hn : n = d.size) (hc : n ≤ cap) (hm : cap ≤ 9223372036854775807) : Rd w' 3 (.slice (some ⟨g, 0, none⟩) n cap) (d.toList.map PT.C) := by
  subst hn
  refine ⟨fun r hr => ?_, some ⟨g, 0, none⟩, cap, by rw [List.length_map]; rfl, by rw [List.length_map]; exact hc, hm, fun _ => ⟨g, 0, rfl, fun i hi j v hv => ?_⟩⟩
  · obtain ⟨x, _, rfl⟩ := List.mem_map.1 hr; rfl
  · rw [List.length_map] at hi
    have hi' : i < d.size := hi
    rw [List.getElem_map] at hv
    have hj : j < 3 := (List.getElem?_eq_some_iff.1 hv).1
    have := (h.cell hi' hj).1
    rw [this, getElem!_pos d i hi']
    have e : (PT.C d[i])[j]? = some v := by rw [← hv]; rfl
    rw [getElem!_pos (PT.C d[i]) j hj]
    rw [List.getElem?_eq_getElem hj] at e
    exact e
end Go.Proofs.YtjhocaleampamaaDoor
/- ring.New: the walk. -/
namespace Go.Proofs.YtjhocaleampamaaDoor
open Go.RowKit Big
set_option linter.unusedVariables false
/-- A ring of five replicas at p, its points pts. -/
def RingAt (w : World) (p : Nat) (pts : List PT) : Prop := p < w.heap.size ∧ w.cell? ⟨p, 0, none⟩ = some (.int .i64 5) ∧ ∃ v, w.cell? ⟨p, 1, none⟩ = some v ∧ Rd w 3 v (pts.map PT.C)
theorem RingAt.keep {w w' : World} {p : Nat} {pts : List PT} (h : RingAt w p pts) (hb : Below w.heap.size w w') : RingAt w' p pts := by
  obtain ⟨h1, h2, v, h3, h4⟩ := h
  exact ⟨Nat.lt_of_lt_of_le h1 hb.size, (hb.cell (p := ⟨p, 0, none⟩) h1).trans h2, v, (hb.cell (p := ⟨p, 1, none⟩) h1).trans h3, h4.keep hb⟩
/-- Each replica has points, and there are no others. -/
def PtsOk (pts : List PT) : Prop := pts.length = 20 ∧ (∀ x ∈ pts, x.of < 5) ∧ ∀ x, x < 5 → ∃ q ∈ pts, q.of = x
/-- Under way: k replicas done, of the next one j points. -/
def NewAt (w wr : World) (r : Nat) (pts : List PT) (k j : Nat) : Prop := w.heap.size ≤ r ∧ r < wr.heap.size ∧ wr.cell? ⟨r, 0, none⟩ = some (.int .i64 5) ∧ wr.frozen? ⟨r, 1, none⟩ = false ∧ (∃ v, wr.cell? ⟨r, 1, none⟩ = some v ∧ RW wr (r + 1) 61 3 v (pts.map PT.C)) ∧ Below w.heap.size w wr ∧
  pts.length = 4 * k + j ∧ (∀ x ∈ pts, x.of < 5) ∧ (∀ x, x < k → ∃ q ∈ pts, q.of = x) ∧ (0 < j → ∃ q ∈ pts, q.of = k)
theorem NewAt.next {w wr : World} {r : Nat} {pts : List PT} {k : Nat} (h : NewAt w wr r pts k 4) : NewAt w wr r pts (k + 1) 0 := by
  obtain ⟨h1, h2, h3, h4, h5, h6, h7, h8, h9, h10⟩ := h
  refine ⟨h1, h2, h3, h4, h5, h6, by omega, h8, fun x hx => ?_, fun h => by omega⟩
  by_cases hk : x = k
  · subst hk; exact h10 (by omega)
  · exact h9 x (by omega)
theorem Tryd.info_point : (Tryd.prog.info? 61).map (fun i => (i.zero.map (fun z => z.cells.size), i.size, decide (i.bytes ≤ 1000))) = some (some 3, 3, true) := by kernel_rfl
theorem Tryd.point_parts : ∃ i z, Tryd.prog.info? 61 = some i ∧ i.zero = some z ∧ z.cells.size = 3 ∧ i.size = 3 ∧ i.bytes ≤ 1000 := by
  have h := Tryd.info_point
  cases hi : Tryd.prog.info? 61 with
  | none => rw [hi] at h; cases h
  | some i =>
    rw [hi] at h
    simp only [Option.map_some, Option.some.injEq, Prod.mk.injEq, decide_eq_true_eq] at h
    obtain ⟨h1, h2, h3⟩ := h
    cases hz : i.zero with
    | none => rw [hz] at h1; cases h1
    | some z => rw [hz] at h1; exact ⟨i, z, rfl, hz, by simpa using h1, h2, h3⟩
set_option maxRecDepth 100000 in
/-- slices.SortFunc of points, in my words. -/
theorem sort_any (g cap n : Nat) (pts : List PT) (w : World) {base : Nat} (h : RW w base 61 3 (.slice (some ⟨g, 0, none⟩) n cap) (pts.map PT.C)) (hn : n = pts.length) (hl : pts.length ≤ 1000) (hlt : g < w.heap.size) (hc : n ≤ cap ∧ cap ≤ 9223372036854775807) :
    Calls Tryd.prog 15 #[.slice (some ⟨g, 0, none⟩) n cap, .func (.func 16) #[] #[]] w fun e w' => e = .returned (.tuple #[]) ∧ ∃ qs : List PT, qs.Perm pts ∧ Rd w' 3 (.slice (some ⟨g, 0, none⟩) n cap) (qs.map PT.C) ∧ Only (· = g) w w' := by
  have eg : ∀ args w, (callFunc 16 args).run Tryd.prog w = .ok (.enter 16 args) w := enters_of Tryd.func16 (by kernel_rfl) rfl
  have hH := h.holdsP hn
  have hcon := AnyQ.slices_SortFunc sortP 3 Tryd.isAgg61 Tryd.sizeOf61 PT.C (fun _ => rfl) (fun x v hv => by simp [PT.C] at hv; rcases hv with rfl | rfl | rfl <;> rfl) cfP swoP 16 #[] g 0 cap pts.toArray w eg (cmpP _ _ _ _) hH hlt (by rw [List.size_toArray]; omega)
  rw [show pts.toArray.size = n by rw [hn]; exact List.size_toArray] at hcon
  refine hcon.mono ?_
  rintro e w' ⟨rfl, d', q, os, hp, _, rfl⟩
  obtain ⟨hs, _, hpm⟩ := hp
  have hs : d'.size = pts.length := hs.trans List.size_toArray
  refine ⟨rfl, d'.toList, ?_, ?_, only_sorted _ _ _ _ _ _ _ _⟩
  · have e1 : (d'.extract 0 n).toList = d'.toList := by rw [hn, ← hs]; simp
    have e2 : (pts.toArray.extract 0 n).toList = pts := by simp [hn]
    rw [e1, e2] at hpm
    exact hpm
  · exact rd_sorted (holdsK_sortWorldK_c _ _ _ _ _ pts.toArray d' q os hH hlt (hs.trans List.size_toArray.symm)) (hn.trans hs.symm) hc.1 hc.2
/-- What sha2.Sum is asked of: the word, and two numbers. -/
theorem ring_parts (wr : World) (k j : Nat) (hk : k < 256) (hj : j < 256) : ∃ w3, w3 = ((wr.alloc (.cells #[.int .u8 114, .int .u8 105, .int .u8 110, .int .u8 103] 5 (4, 5))).alloc (.cells #[.int .u8 k, .int .u8 j] 5)).alloc (.cells #[.slice (some ⟨wr.heap.size, 0, none⟩) 4 4, .slice (some ⟨wr.heap.size + 1, 0, none⟩) 2 2] 39) ∧
    PartsAt w3 (.slice (some ⟨wr.heap.size + 1 + 1, 0, none⟩) 2 2) [[114, 105, 110, 103], [UInt8.ofNat k, UInt8.ofNat j]] ∧ Below wr.heap.size wr w3 := by
  refine ⟨_, rfl, ?_, (((Below.refl _ _).alloc (Nat.le_refl _) _).alloc (by simp) _).alloc (by rw [World.size_alloc, World.size_alloc]; omega) _⟩
  have hb1 := Bsl.lit wr [114, 105, 110, 103] #[.int .u8 114, .int .u8 105, .int .u8 110, .int .u8 103] (4, 5) 4 rfl (by simp) (by omega)
  have hb2 := Bsl.lit (wr.alloc (.cells #[.int .u8 114, .int .u8 105, .int .u8 110, .int .u8 103] 5 (4, 5))) [UInt8.ofNat k, UInt8.ofNat j] #[.int .u8 k, .int .u8 j] (0, 0) 2 (by simp [bv]; omega) (by simp) (by omega)
  have hb1 := hb1.keep ((Below.refl _ _).alloc (Nat.le_refl _) (.cells #[.int .u8 k, .int .u8 j] 5))
  have hpv := ((PartV.nil _).cons hb2).cons hb1
  have := PartsAt.made 39 hpv.1 hpv.2 (n := 2) rfl (by omega)
  simpa using this
attribute [local go_sem ↓] alT_32 ldT_32 stT_32
set_option maxRecDepth 100000 in
set_option maxHeartbeats 4000000 in
theorem rnew_any (w : World) (hsh : ShaAt w) : Calls Tryd.prog 4 #[.int .i64 5, .int .i64 4] w fun e w' => ∃ r pts, e = .returned (.tuple #[.pointer (some ⟨r, 0, none⟩), .int .i64 0]) ∧ RingAt w' r pts ∧ PtsOk pts ∧ Below w.heap.size w w' := by
  have kc := fun (w : World) (C : Array Value) (n c : Nat) => Lib.run_convert_bytes_const (P := Tryd.prog) w 39 5 C n c Tryd.underlying39 Tryd.underlying5
  have H0 := Lib.hid (show NewAt w (w.alloc (.cells #[.int .i64 5, .slice none 0 0] 57)) w.heap.size [] 0 0 from by
    refine ⟨Nat.le_refl _, by simp, by rw [World.cell?_alloc_new]; rfl, by simp [World.frozen?_alloc_new], ⟨_, by rw [World.cell?_alloc_new]; rfl, RW.nil _ _ _ _⟩, (Below.refl _ _).alloc (Nat.le_refl _) _, rfl, by simp, by simp, by simp⟩)
  have HSH := Lib.hid hsh
  clear hsh
  go_enter Tryd.func4, Tryd.ntmps4
  go_wp2_with fail
  have hN0 := H0.out
  clear H0
  generalize w.alloc (.cells #[.int .i64 5, .slice none 0 0] 57) = w0 at *
  go_loopw [28] (fun cv wr => ∃ (k : Nat) (pts : List PT), k ≤ 5 ∧ cv = .int .i64 (k : Int) ∧ NewAt w wr w.heap.size pts k 0) (fun cv _ => 5 - (intOf cv).toNat)
  case atStart => exact ⟨0, [], by omega, rfl, hN0⟩
  case round =>
    obtain ⟨k, pts, hk, rfl, hN⟩ := hrel
    clear hN0
    by_cases hk5 : k < 5
    · have hk5' : (k : Int) < 5 := by omega
      have hu1 : IntKind.u8.wrap (k : Int) = k := by rw [IntKind.wrap_u8]; omega
      go_wp2_with fail
      go_loopw [32] (fun cv wx => ∃ (j : Nat) (ps : List PT), j ≤ 4 ∧ cv = .int .i64 (j : Int) ∧ NewAt w wx w.heap.size ps k j) (fun cv _ => 4 - (intOf cv).toNat)
      case atStart => exact ⟨0, pts, by omega, rfl, hN⟩
      case round =>
        obtain ⟨j, ps, hj, rfl, hNj⟩ := hrel
        clear hN
        by_cases hj4 : j < 4
        · have hj4' : (j : Int) < 4 := by omega
          have hu2 : IntKind.u8.wrap (j : Int) = j := by rw [IntKind.wrap_u8]; omega
          obtain ⟨hr1, hr2, hr3, hr4, ⟨sv, hc1, hRW⟩, hBr, hpl, hp5, hpk, hpj⟩ := hNj
          obtain ⟨w3, hw3, hpt, hB3⟩ := ring_parts wr k j (by omega) (by omega)
          have hss := ssum_any _ _ _ hpt (by unfold sumL; simp) (HSH.out.keep (hBr.trans (hB3.mono (by omega))))
          have hRl := sha_len ([[114, 105, 110, 103], [UInt8.ofNat k, UInt8.ofNat j]] : List (List UInt8)).flatten
          generalize sha ([[114, 105, 110, 103], [UInt8.ofNat k, UInt8.ofNat j]] : List (List UInt8)).flatten = R at *
          have HW3 := Lib.hid hw3
          have HR := Lib.hid hRl
          have HP := Lib.hid (And.intro hpl (And.intro hp5 (And.intro hpk hpj)))
          clear hw3 hpt hpl hp5 hpk hpj hRl
          go_wp2_with fail
          rw [← HW3.out]
          clear HW3
          refine hss.mono ?_
          rintro e w4 ⟨rfl, hB4⟩
          clear hss
          have hB4 := hB3.trans (hB4.mono hB3.size)
          obtain ⟨wa, w6, hal6, hst6, hA6, hB6, hs6⟩ := big32.made w4 (R.map UInt8.toNat) (by rw [List.length_map, HR.out, zN_len])
          rw [nvs_bytes] at hst6
          have hb6 := hA6.bsl (n := 32) (cap := 32) HR.out.symm (Nat.le_refl _) (by omega)
          have hB6 := hB4.trans (hB6.mono hB4.size)
          have hRW6 := hRW.keep hB6
          have hBw := hBr.trans (hB6.mono hBr.size)
          have hc6 := (hB6.cell (p := ⟨w.heap.size, 1, none⟩) hr2).trans hc1
          have hc60 := (hB6.cell (p := ⟨w.heap.size, 0, none⟩) hr2).trans hr3
          have hf6 := (hB6.frozen (p := ⟨w.heap.size, 1, none⟩) hr2).trans hr4
          have hr6 : w.heap.size < w6.heap.size := Nat.lt_of_lt_of_le hr2 hB6.size
          have hlenR : (32 : Nat) = 32 := rfl
          clear hs6 hA6 hB3 hB4 hB6 hRW hBr hc1 hr1 hr2 hr3 hr4
          have hown : ∀ b, sv.ownBlock = some b → w.heap.size + 1 ≤ b := hRW6.own_ge
          go_wp2_with fail
          clear hal6 hst6
          have hfa : ∀ wE, Only (fun b => sv.ownBlock = some b) w6 wE → wE.cell? ⟨w.heap.size, 1, none⟩ = some sv := fun wE hSw => (hSw.cell (p := ⟨w.heap.size, 1, none⟩) hr6 (fun e => by have : w.heap.size + 1 ≤ w.heap.size := hown _ e; omega)).trans hc6
          refine wp_region_El 14 (fun w' => Only (fun b => sv.ownBlock = some b) w6 w') #[false, false, false, false, false, false, false, false, false, false, false, false, false, false, false] (by kernel_rfl) (by kernel_rfl) ?_
          have hS0 : Only (fun b => sv.ownBlock = some b) w6 w6.drew := (Only.refl _ _).drew
          refine wpAnyE_take (i := 0) (v := ?v_a0) rfl (by kernel_rfl) (by kernel_rfl) (by kernel_rfl) (by kernel_rfl) (by kernel_rfl) (fun _ _ _ h => h) (Or.inl ⟨by kernel_rfl, ?y_a0⟩) (by assumption) ?r_a0
          case y_a0 => intro wE hSw; have q0 := hfa wE hSw; go_simp; try with_reducible rfl
          case' r_a0 => ((try simp only [Act.put, List.getElem_toArray, List.getElem_cons_zero]); (try simp only [List.setIfInBounds_toArray]); (try simp only [List.set_cons_zero, List.set_cons_succ]))
          refine wpAnyE_take (i := 1) (v := ?v_a1) rfl (by kernel_rfl) (by kernel_rfl) (by kernel_rfl) (by kernel_rfl) (by kernel_rfl) (fun _ _ _ h => h) (Or.inl ⟨by kernel_rfl, ?y_a1⟩) (by assumption) ?r_a1
          case y_a1 => intro wE hSw; have q0 := hfa wE hSw; go_simp; try with_reducible rfl
          case' r_a1 => ((try simp only [Act.put, List.getElem_toArray, List.getElem_cons_zero, List.getElem_cons_succ]); (try simp only [List.setIfInBounds_toArray]); (try simp only [List.set_cons_zero, List.set_cons_succ]))
          refine wpAnyE_take (i := 2) (v := ?v_a2) rfl (by kernel_rfl) (by kernel_rfl) (by kernel_rfl) (by kernel_rfl) (by kernel_rfl) (fun _ _ _ h => h) (Or.inl ⟨by kernel_rfl, ?y_a2⟩) (by assumption) ?r_a2
          case y_a2 => intro wE hSw; have q0 := hfa wE hSw; go_simp; try with_reducible rfl
          case' r_a2 => ((try simp only [Act.put, List.getElem_toArray, List.getElem_cons_zero, List.getElem_cons_succ]); (try simp only [List.setIfInBounds_toArray]); (try simp only [List.set_cons_zero, List.set_cons_succ]))
          refine wpAnyE_take (i := 3) (v := ?v_a3) rfl (by kernel_rfl) (by kernel_rfl) (by kernel_rfl) (by kernel_rfl) (by kernel_rfl) (fun _ _ _ h => h) (Or.inl ⟨by kernel_rfl, ?y_a3⟩) (by assumption) ?r_a3
          case y_a3 => intro wE hSw; have q0 := hfa wE hSw; go_simp; try with_reducible rfl
          case' r_a3 => ((try simp only [Act.put, List.getElem_toArray, List.getElem_cons_zero, List.getElem_cons_succ]); (try simp only [List.setIfInBounds_toArray]); (try simp only [List.set_cons_zero, List.set_cons_succ]))
          refine wpAnyE_take (i := 4) (v := ?v_a4) rfl (by kernel_rfl) (by kernel_rfl) (by kernel_rfl) (by kernel_rfl) (by kernel_rfl) (fun _ _ _ h => h) (Or.inl ⟨by kernel_rfl, ?y_a4⟩) (by assumption) ?r_a4
          case y_a4 => intro wE hSw; have q0 := hfa wE hSw; go_simp; try with_reducible rfl
          case' r_a4 => ((try simp only [Act.put, List.getElem_toArray, List.getElem_cons_zero, List.getElem_cons_succ]); (try simp only [List.setIfInBounds_toArray]); (try simp only [List.set_cons_zero, List.set_cons_succ]))
          refine wpAnyE_take (i := 5) (v := ?v_a5) rfl (by kernel_rfl) (by kernel_rfl) (by kernel_rfl) (by kernel_rfl) (by kernel_rfl) (fun _ _ _ h => h) (Or.inl ⟨by kernel_rfl, ?y_a5⟩) (by assumption) ?r_a5
          case y_a5 => intro wE hSw; have q0 := hfa wE hSw; go_simp; try with_reducible rfl
          case' r_a5 => ((try simp only [Act.put, List.getElem_toArray, List.getElem_cons_zero, List.getElem_cons_succ]); (try simp only [List.setIfInBounds_toArray]); (try simp only [List.set_cons_zero, List.set_cons_succ]))
          refine wpAnyE_take (i := 7) (v := ?v_a7) rfl (by kernel_rfl) (by kernel_rfl) (by kernel_rfl) (by kernel_rfl) (by kernel_rfl) (fun _ _ _ h => h) (Or.inl ⟨by kernel_rfl, ?y_a7⟩) (by assumption) ?r_a7
          case y_a7 => intro wE hSw; have q0 := hfa wE hSw; go_simp; try with_reducible rfl
          case' r_a7 => ((try simp only [Act.put, List.getElem_toArray, List.getElem_cons_zero, List.getElem_cons_succ]); (try simp only [List.setIfInBounds_toArray]); (try simp only [List.set_cons_zero, List.set_cons_succ]))
          refine wpAnyE_take (i := 8) (v := ?v_a8) rfl (by kernel_rfl) (by kernel_rfl) (by kernel_rfl) (by kernel_rfl) (by kernel_rfl) (fun _ _ _ h => h) (Or.inl ⟨by kernel_rfl, ?y_a8⟩) (by assumption) ?r_a8
          case y_a8 => intro wE hSw; have q0 := hfa wE hSw; go_simp; try with_reducible rfl
          case' r_a8 => ((try simp only [Act.put, List.getElem_toArray, List.getElem_cons_zero, List.getElem_cons_succ]); (try simp only [List.setIfInBounds_toArray]); (try simp only [List.set_cons_zero, List.set_cons_succ]))
          refine wpAnyE_ready (rs := [6]) (by kernel_rfl) (by simp) ?_
          refine AllReadyE.cons rfl (fun KA hKA => ?_) AllReadyE.nil
          rw [if_pos (by kernel_rfl)]
          go_simp
          refine (place_any _ R w6.drew hb6 (by rw [HR.out]; omega)).mono ?_
          rintro e w7 ⟨rfl, rfl⟩
          go_simp
          generalize beW (R.take 8) = x at *
          refine hKA _ _ (fun _ => hS0) ?_
          clear hKA KA
          refine wpAnyE_take (i := 9) (v := ?v_b9) rfl (by kernel_rfl) (by kernel_rfl) (by kernel_rfl) (by kernel_rfl) (by kernel_rfl) (fun _ _ _ h => h) (Or.inl ⟨by kernel_rfl, ?y_b9⟩) (by assumption) ?r_b9
          case y_b9 => intro wE hSw; skip; go_simp; try with_reducible rfl
          case' r_b9 => ((try simp only [Act.put, List.getElem_toArray, List.getElem_cons_zero, List.getElem_cons_succ]); (try simp only [List.setIfInBounds_toArray]); (try simp only [List.set_cons_zero, List.set_cons_succ]))
          have hSb : Only (fun b => sv.ownBlock = some b) w6 (w6.drew.alloc (.cells #[.int .u64 x, .int .i64 k, .int .i64 j] 61)) := hS0.trans (Only.of_below (S := (fun b => sv.ownBlock = some b)) ((Below.refl _ _).alloc (Nat.le_refl _) _)) (fun _ _ h => h)
          refine wpAnyE_ready (rs := [10]) (by kernel_rfl) (by simp) ?_
          refine AllReadyE.cons rfl (fun KA hKA => ?_) AllReadyE.nil
          rw [if_pos (by kernel_rfl)]
          go_simp
          refine hKA _ _ (fun _ => hSb) ?_
          clear hKA KA
          have hRW7 := hRW6.keep (show Below w6.heap.size w6 (w6.drew.alloc (.cells #[.int .u64 x, .int .i64 k, .int .i64 j] 61)) from (Below.refl _ _).drew.alloc (Nat.le_refl _) _)
          have hsrc : (w6.drew.alloc (.cells #[.int .u64 x, .int .i64 k, .int .i64 j] 61)).rangeAt w6.heap.size 0 (PT.C ⟨x, k, j⟩) := fun q u hq => by
            show World.cell? _ ⟨w6.drew.heap.size, 0 + q, none⟩ = some u
            rw [World.cell?_alloc_new, Nat.zero_add]
            exact (List.getElem?_toArray).trans hq
          obtain ⟨ti, tz, hti, htz, htc, hts, htb⟩ := Tryd.point_parts
          refine wpAnyE_ready (rs := [11]) (by kernel_rfl) (by simp) ?_
          refine AllReadyE.cons rfl (fun KA hKA => ?_) AllReadyE.nil
          refine step_appr rfl _ _ 55 rfl ti tz Tryd.underlying55 hti htz hts htb htc (by omega) hRW7 hsrc rfl (by intro u hu; simp [PT.C] at hu; rcases hu with rfl | rfl | rfl <;> rfl) (by rw [List.length_map]; have := HP.out.1; omega) (Nat.le_trans (show w.heap.size + 1 ≤ w6.heap.size from hr6) hSb.size) (by rfl) (by rfl) ?_
          intro v8 w8 hRW8 hg8 hn8
          have hS8 : Only (fun b => sv.ownBlock = some b) w6 w8 := hSb.trans (Only.of_grown (S := (fun b => sv.ownBlock = some b)) hg8 (fun q e => e)) (fun _ _ h => h)
          refine hKA _ _ (fun _ => hS8) ?_
          clear hKA KA
          obtain ⟨vo, vc, rfl, -, -, -⟩ := hRW8.val
          have hc8 := hfa w8 hS8
          have hc80 := (hS8.cell (p := ⟨w.heap.size, 0, none⟩) hr6 (fun e => by have : w.heap.size + 1 ≤ w.heap.size := hown _ e; omega)).trans hc60
          have hf8 := (hS8.frozen (p := ⟨w.heap.size, 1, none⟩) hr6 (fun e => by have : w.heap.size + 1 ≤ w.heap.size := hown _ e; omega)).trans hf6
          have hB8 := hBw.trans (hS8.to_below hBw.size (fun q e => by have := hown q e; omega))
          have hr8 : w.heap.size < w8.heap.size := Nat.lt_of_lt_of_le hr6 hS8.size
          obtain ⟨hpl, hp5, hpk, hpj⟩ := HP.out
          have hF := (show NewAt w (w8.setCell ⟨w.heap.size, 1, none⟩ (.slice vo (ps.map PT.C ++ [PT.C ⟨x, k, j⟩]).length vc)) w.heap.size (ps ++ [⟨x, k, j⟩]) k (j + 1) from by
            have hO : Only (· = w.heap.size) w8 (w8.setCell ⟨w.heap.size, 1, none⟩ (.slice vo (ps.map PT.C ++ [PT.C ⟨x, k, j⟩]).length vc)) := Only.setCell (S := (· = w.heap.size)) (Only.refl _ _) (p := ⟨w.heap.size, 1, none⟩) (fun _ => rfl) _
            refine ⟨Nat.le_refl _, by simpa [World.setCell] using hr8, ?_, ?_, ⟨_, World.cell?_setCell_same w8 _ _ hc8, ?_⟩, hB8.trans (hO.to_below hB8.size (fun q e => by omega)), by rw [List.length_append, List.length_singleton]; omega, ?_, ?_, fun _ => ⟨⟨x, k, j⟩, by simp, rfl⟩⟩
            · rw [World.cell?_setCell_other _ _ _ _ (by simp)]; exact hc80
            · rw [World.frozen?_setCell]; exact hf8
            · rw [List.map_append]
              exact hRW8.only hO (fun q e h => by have := hRW8.own_ge q e; omega)
            · intro q hq
              rcases List.mem_append.1 hq with h | h
              · exact hp5 q h
              · rw [List.mem_singleton] at h; subst h; exact hk5
            · intro q hq
              obtain ⟨z, hz, e⟩ := hpk q hq
              exact ⟨z, List.mem_append_left _ hz, e⟩)
          rw [show (ps.map PT.C ++ [PT.C ⟨x, k, j⟩]).length = ps.length + 1 by simp] at hF
          have HF := Lib.hid hF
          clear hF
          have hS9 := hS8
          clear hRW8 hg8 hn8 hS8 hRW7 hsrc hSb hS0 hfa hB8 hr8 hpl hp5 hpk hpj hRW6 hBw hc6 hc60 hf6 hr6 hown hb6 HP HR hc80
          refine wpAnyE_ready (rs := [12]) (by kernel_rfl) (by simp) ?_
          refine AllReadyE.cons rfl (fun KA hKA => ?_) AllReadyE.nil
          rw [if_pos (by kernel_rfl)]
          go_simp
          refine hKA _ _ (fun _ => hS9) ?_
          clear hKA KA
          refine wpAnyE_ready (rs := [13]) (by kernel_rfl) (by simp) ?_
          refine AllReadyE.cons rfl (fun KA hKA => ?_) AllReadyE.nil
          rw [if_pos (by kernel_rfl)]
          go_simp
          refine hKA _ _ (fun _ => hS9) ?_
          clear hKA KA
          refine wpAnyE_ready (rs := [14]) (by kernel_rfl) (by simp) ?_
          refine AllReadyE.cons rfl (fun KA hKA => ?_) AllReadyE.nil
          rw [if_pos (by kernel_rfl)]
          go_simp
          refine hKA _ _ (fun h => Bool.noConfusion (show true = false from h)) ?_
          clear hKA KA
          refine wpAnyE_done (by kernel_rfl) ?_ _
          go_wp2_with fail
          go_roundw
          case rel => exact ⟨j + 1, ps ++ [⟨x, k, j⟩], by omega, by go_num, HF.out⟩
          case measure => simp [intOf]; omega
        · have hjn : ¬ (j : Int) < 4 := by omega
          have hj : j = 4 := by omega
          rw [hj] at hNj
          have HN := Lib.hid hNj.next
          clear hj hj4 hNj
          go_wp2_with fail
          go_roundw
          case rel => exact ⟨k + 1, ps, by omega, by go_num, HN.out⟩
          case measure => simp [intOf]; omega
    · have hkn : ¬ (k : Int) < 5 := by omega
      have hk : k = 5 := by omega
      subst hk
      obtain ⟨hr1, hr2, hr3, hr4, ⟨sv, hc1, hRW⟩, hBr, hpl, hp5, hpk, hpj⟩ := hN
      obtain ⟨g, cap, rfl, hg1, hg2, hg3, hg4⟩ := hRW.shape (by intro e; rw [List.map_eq_nil_iff] at e; subst e; simp at hpl)
      rw [List.length_map] at *
      have hst := sort_any g cap pts.length pts wr hRW rfl (by omega) hg2 ⟨hg3, hg4⟩
      have HP := Lib.hid (And.intro hpl (And.intro hp5 hpk))
      have HB := Lib.hid (And.intro hr2 (And.intro hr3 (And.intro hBr hg1)))
      clear hr1 hr2 hr3 hr4 hRW hBr hpl hp5 hpk hpj hg1 hg2 hg3 hg4 HSH kc
      go_wp2_with fail
      refine hst.mono ?_
      rintro e w5 ⟨rfl, qs, hpm, hRd, hO⟩
      clear hst
      go_wp2_with fail
      go_ret2
      obtain ⟨hr2, hr3, hBr, hg1⟩ := HB.out
      obtain ⟨hpl, hp5, hpk⟩ := HP.out
      have hne : ∀ q, q = g → w.heap.size < q := fun q e => by omega
      refine ⟨w.heap.size, qs, rfl, ⟨Nat.lt_of_lt_of_le hr2 hO.size, (hO.cell (p := ⟨w.heap.size, 0, none⟩) hr2 (fun e => Nat.lt_irrefl _ (hne _ e))).trans hr3, _, (hO.cell (p := ⟨w.heap.size, 1, none⟩) hr2 (fun e => Nat.lt_irrefl _ (hne _ e))).trans hc1, hRd⟩, ⟨by rw [hpm.length_eq, hpl], fun q hq => hp5 q (hpm.mem_iff.1 hq), fun q hq => ?_⟩, hBr.trans (hO.to_below hBr.size (fun q e => Nat.le_of_lt (hne q e)))⟩
      obtain ⟨z, hz, e⟩ := hpk q hq
      exact ⟨z, hpm.mem_iff.2 hz, e⟩
end Go.Proofs.YtjhocaleampamaaDoor
/- The search in a ring, and slices.Contains: the walks. -/
namespace Go.Proofs.YtjhocaleampamaaDoor
open Go.RowKit
set_option linter.unusedVariables false
set_option maxRecDepth 100000 in
theorem walk1_any (p : PT) (x : Nat) (w : World) : Calls Tryd.prog 46 #[.agg #[.int .u64 p.at_, .int .i64 p.of, .int .i64 p.rank], .int .u64 x] w fun e w' => e = .returned (.int .i64 (cmpN p.at_ x)) ∧ Below w.heap.size w w' := by
  obtain ⟨a, o, r⟩ := p
  obtain ⟨w2, hw2, a0, hB⟩ : ∃ w2, w2 = w.alloc (.cells #[.int .u64 a, .int .i64 o, .int .i64 r] 61) ∧ w2.cell? ⟨w.heap.size, 0, none⟩ = some (.int .u64 a) ∧ Below w.heap.size w w2 :=
    ⟨_, rfl, by rw [World.cell?_alloc_new]; rfl, (Below.refl _ _).alloc (Nat.le_refl _) _⟩
  have HW := Lib.hid hw2
  have k1 := compare_u64 a x w2
  clear hw2
  generalize cmpN a x = ra at *
  go_enter Tryd.func46, Tryd.ntmps46
  go_wp2_with fail
  rw [← HW.out]
  clear HW
  refine k1.mono ?_
  rintro e w' ⟨rfl, rfl⟩
  go_wp2_with fail
  go_ret
  exact ⟨rfl, hB⟩
/-- A point's cells in a slice that can be read. -/
theorem Rd.point {w : World} {g o n cap : Nat} {pts : List PT} (h : Rd w 3 (.slice (some ⟨g, o, none⟩) n cap) (pts.map PT.C)) {i : Nat} (hi : i < pts.length) :
    w.cell? ⟨g, o + i * 3, none⟩ = some (.int .u64 (pts.getD i default).at_) ∧ w.cell? ⟨g, o + i * 3 + 1, none⟩ = some (.int .i64 (pts.getD i default).of) ∧ w.cell? ⟨g, o + i * 3 + 2, none⟩ = some (.int .i64 (pts.getD i default).rank) := by
  obtain ⟨_, ao, c, e, _, _, h4⟩ := h
  simp only [Value.slice.injEq] at e
  obtain ⟨rfl, _, rfl⟩ := e
  obtain ⟨g', o', e, hr⟩ := h4 (by intro e; rw [List.map_eq_nil_iff] at e; subst e; simp at hi)
  cases e
  have hr := hr i (by rw [List.length_map]; exact hi)
  rw [List.getElem_map] at hr
  rw [show pts.getD i default = pts[i] by simp [List.getD, hi]]
  exact ⟨hr 0 _ rfl, hr 1 _ rfl, hr 2 _ rfl⟩
set_option maxRecDepth 100000 in
set_option maxHeartbeats 1000000 in
theorem search_any (v : Value) (pts : List PT) (x : Nat) (w : World) (h : Rd w 3 v (pts.map PT.C)) (hl : pts.length ≤ 1000) :
    Calls Tryd.prog 45 #[v, .int .u64 x, .func (.func 46) #[] #[]] w fun e w' => ∃ (i : Nat) (u : Value), i ≤ pts.length ∧ e = .returned (.tuple #[.int .i64 i, u]) ∧ Below w.heap.size w w' := by
  obtain ⟨ao, cap, rfl⟩ := h.shape
  rw [List.length_map] at *
  have HR := Lib.hid h
  clear h
  go_enter Tryd.func45, Tryd.ntmps45
  go_wp2_with fail
  go_loopw [9, 10] (fun iv jv wr => ∃ i j : Nat, i ≤ j ∧ j ≤ pts.length ∧ iv = .int .i64 (i : Int) ∧ jv = .int .i64 (j : Int) ∧ Below w.heap.size w wr) (fun iv jv _ => (intOf jv).toNat - (intOf iv).toNat)
  case atStart => exact ⟨0, pts.length, by omega, by omega, rfl, rfl, Below.refl _ _⟩
  case round =>
    obtain ⟨i, j, hij, hj, rfl, rfl, hB⟩ := hrel
    have hp : ∀ k, k < pts.length → ∃ g o, ao = some ⟨g, o, none⟩ ∧ wr.cell? ⟨g, o + k * 3, none⟩ = some (.int .u64 (pts.getD k default).at_) ∧ wr.cell? ⟨g, o + k * 3 + 1, none⟩ = some (.int .i64 (pts.getD k default).of) ∧ wr.cell? ⟨g, o + k * 3 + 2, none⟩ = some (.int .i64 (pts.getD k default).rank) := fun k hk => by
      obtain ⟨_, ao', c', e, _, _, h4⟩ := HR.out
      simp only [Value.slice.injEq] at e
      obtain ⟨rfl, _, rfl⟩ := e
      obtain ⟨g, o, rfl, _⟩ := h4 (by intro e; rw [List.map_eq_nil_iff] at e; subst e; simp at hk)
      have hR := HR.out.keep hB
      exact ⟨g, o, rfl, hR.point hk⟩
    have HB := Lib.hid hB
    clear hB
    by_cases hlt : i < j
    · have hlt' : (i : Int) < j := by omega
      have hmj : i ≤ (i + j) / 2 ∧ (i + j) / 2 < j := by omega
      obtain ⟨g, o, rfl, c0, c1, c2⟩ := hp ((i + j) / 2) (by omega)
      have hm' : ((i : Int) + j) / 2 < pts.length := by omega
      have hk1 := walk1_any (pts.getD ((i + j) / 2) default) x wr
      generalize pts.getD ((i + j) / 2) default = pt at *
      clear hp
      go_wp2_with fail
      refine hk1.mono ?_
      rintro e w2 ⟨rfl, hB2⟩
      have HB2 := Lib.hid (HB.out.trans (hB2.mono HB.out.size))
      clear hB2 hk1 c0 c1 c2
      by_cases hc : cmpN pt.at_ x < 0
      · generalize cmpN pt.at_ x = c at *
        go_wp2_with fail
        go_roundw
        case rel => exact ⟨(i + j) / 2 + 1, j, by omega, hj, by go_num, rfl, HB2.out⟩
        case measure => simp [intOf]; omega
      · generalize cmpN pt.at_ x = c at *
        go_wp2_with fail
        go_roundw
        case rel => exact ⟨i, (i + j) / 2, by omega, by omega, rfl, by go_num, HB2.out⟩
        case measure => simp [intOf]; omega
    · have hltn : ¬ (i : Int) < j := by omega
      by_cases hn : i < pts.length
      · have hn' : (i : Int) < pts.length := by omega
        obtain ⟨g, o, rfl, c0, c1, c2⟩ := hp i hn
        have hk1 := walk1_any (pts.getD i default) x wr
        generalize pts.getD i default = pt at *
        clear hp
        go_wp2_with fail
        refine hk1.mono ?_
        rintro e w2 ⟨rfl, hB2⟩
        have HB2 := Lib.hid (HB.out.trans (hB2.mono HB.out.size))
        clear hB2 hk1 c0 c1 c2
        generalize cmpN pt.at_ x = c at *
        go_wp2_with fail
        go_ret2
        exact ⟨i, _, Nat.le_of_lt hn, rfl, HB2.out⟩
      · have hn' : ¬ (i : Int) < pts.length := by omega
        clear hp
        go_wp2_with fail
        go_ret2
        exact ⟨i, by omega, ⟨_, rfl⟩, HB.out⟩
def natC (n : Nat) : List Value := [.int .i64 n]
/-- A number's cell in a slice of ints that can be read. -/
theorem Rd.nat {w : World} {g o n cap : Nat} {xs : List Nat} (h : Rd w 1 (.slice (some ⟨g, o, none⟩) n cap) (xs.map natC)) {i : Nat} (hi : i < xs.length) : w.cell? ⟨g, o + i, none⟩ = some (.int .i64 ((xs.getD i 0 : Nat) : Int)) := by
  obtain ⟨_, ao, c, e, _, _, h4⟩ := h
  simp only [Value.slice.injEq] at e
  obtain ⟨rfl, _, rfl⟩ := e
  obtain ⟨g', o', e, hr⟩ := h4 (by intro e; rw [List.map_eq_nil_iff] at e; subst e; simp at hi)
  cases e
  have hr := hr i (by rw [List.length_map]; exact hi)
  rw [List.getElem_map, Nat.mul_one] at hr
  rw [show xs.getD i 0 = xs[i] by simp [List.getD, hi]]
  exact hr 0 _ rfl
theorem Rd.natAt {w : World} {ao : Option Addr} {n cap : Nat} {xs : List Nat} (h : Rd w 1 (.slice ao n cap) (xs.map natC)) (hne : 0 < xs.length) : ∃ g o, ao = some ⟨g, o, none⟩ := by
  obtain ⟨_, ao, c, e, _, _, h4⟩ := h
  simp only [Value.slice.injEq] at e
  obtain ⟨rfl, _, rfl⟩ := e
  obtain ⟨g, o, e, _⟩ := h4 (by intro e; rw [List.map_eq_nil_iff] at e; subst e; simp at hne)
  exact ⟨g, o, e⟩
set_option maxRecDepth 100000 in
set_option maxHeartbeats 1000000 in
theorem index_any (v : Value) (xs : List Nat) (x : Nat) (w : World) (h : Rd w 1 v (xs.map natC)) :
    Calls Tryd.prog 77 #[v, .int .i64 x] w fun e w' => ∃ i : Int, e = .returned (.int .i64 i) ∧ (0 ≤ i ↔ x ∈ xs) ∧ w = w' := by
  obtain ⟨ao, cap, rfl⟩ := h.shape
  have hlen : (xs.length : Int) ≤ 9223372036854775807 := by
    obtain ⟨_, ao', c, e, h2, h3, _⟩ := h
    rw [List.length_map] at h2
    omega
  rw [List.length_map] at *
  have HR := Lib.hid h
  clear h
  go_enter Tryd.func77, Tryd.ntmps77
  go_wp2_with fail
  go_loopw [8] (fun iv wr => ∃ i : Nat, i ≤ xs.length ∧ iv = .int .i64 (i : Int) ∧ (∀ j, j < i → xs.getD j 0 ≠ x) ∧ w = wr) (fun iv _ => xs.length - (intOf iv).toNat)
  case atStart => exact ⟨0, by omega, rfl, fun j hj => by omega, rfl⟩
  case round =>
    obtain ⟨i, hi, rfl, hnone, rfl⟩ := hrel
    by_cases hlt : i < xs.length
    · have hlt' : (i : Int) < xs.length := by omega
      obtain ⟨g, o, rfl⟩ := HR.out.natAt (by omega)
      have c0 := HR.out.nat hlt
      have HN := Lib.hid hnone
      have HG := Lib.hid (show xs.getD i 0 ∈ xs by simp [List.getD, hlt])
      clear hnone
      generalize hy : xs.getD i 0 = y at *
      have HY := Lib.hid hy
      clear hy
      by_cases hxy : (x : Int) = y
      · have hxy2 : x = y := by omega
        subst hxy2
        go_wp2_with fail
        go_ret
        exact ⟨_, rfl, by simp [HG.out], rfl⟩
      · go_wp2_with fail
        go_roundw
        case rel =>
          refine ⟨i + 1, by omega, by go_num, fun j hj => ?_, by first | rfl | trivial⟩
          by_cases hji : j = i
          · subst hji; rw [HY.out]; omega
          · exact HN.out j (by omega)
        case measure => simp [intOf]; omega
    · have hltn : ¬ (i : Int) < xs.length := by omega
      have HN := Lib.hid (show x ∉ xs by
        intro hm
        obtain ⟨j, hj, e⟩ := List.mem_iff_getElem.1 hm
        exact hnone j (by omega) (by simp [List.getD, hj, e]))
      clear hnone
      go_wp2_with fail
      go_ret
      exact ⟨_, rfl, by simp [HN.out], rfl⟩
set_option maxRecDepth 100000 in
set_option maxHeartbeats 1000000 in
theorem contains_any (v : Value) (xs : List Nat) (x : Nat) (w : World) (h : Rd w 1 v (xs.map natC)) :
    Calls Tryd.prog 47 #[v, .int .i64 x] w fun e w' => e = .returned (.bool (decide (x ∈ xs))) ∧ w = w' := by
  have hi := index_any v xs x w h
  obtain ⟨r, hr⟩ : ∃ r, r = decide (x ∈ xs) := ⟨_, rfl⟩
  rw [← hr]
  have HR := Lib.hid hr
  obtain ⟨ao, cap, rfl⟩ := h.shape
  rw [List.length_map] at hi ⊢
  clear hr h
  go_enter Tryd.func47, Tryd.ntmps47
  go_wp2_with fail
  refine hi.mono ?_
  rintro e w' ⟨i, rfl, hx, rfl⟩
  clear hi
  by_cases h0 : 0 ≤ i
  · have hr : r = true := by rw [HR.out, decide_eq_true_iff]; exact hx.1 h0
    subst hr
    clear HR hx
    go_wp2_with fail
    go_ret
    exact ⟨rfl, rfl⟩
  · have hr : r = false := by rw [HR.out, decide_eq_false_iff_not]; exact fun h => h0 (hx.2 h)
    subst hr
    clear HR hx
    go_wp2_with fail
    go_ret
    exact ⟨by show Ending.returned (.bool (decide (0 ≤ i))) = _; rw [decide_eq_false (by omega)], rfl⟩
end Go.Proofs.YtjhocaleampamaaDoor
/- (*ring.Ring).Walk: the walk. -/
namespace Go.Proofs.YtjhocaleampamaaDoor
open Go.RowKit
set_option linter.unusedVariables false
/-- The replicas of a ring's points. -/
def ofs (pts : List PT) : List Nat := pts.map (·.of)
theorem ofs_len (pts : List PT) : (ofs pts).length = pts.length := List.length_map _
theorem ofs_get (pts : List PT) (i : Nat) (h : i < pts.length) : (ofs pts).getD i 0 = (pts.getD i default).of := by unfold ofs; simp [List.getD, h]
theorem Tryd.infoInt : (Tryd.prog.info? 3).map (fun i => (i.zero.map (fun z => z.cells.size), i.size, decide (i.bytes ≤ 1000))) = some (some 1, 1, true) := by kernel_rfl
theorem Tryd.intParts : ∃ i z, Tryd.prog.info? 3 = some i ∧ i.zero = some z ∧ z.cells.size = 1 ∧ i.size = 1 ∧ i.bytes ≤ 1000 := by
  have h := Tryd.infoInt
  cases hi : Tryd.prog.info? 3 with
  | none => rw [hi] at h; cases h
  | some i =>
    rw [hi] at h
    simp only [Option.map_some, Option.some.injEq, Prod.mk.injEq, decide_eq_true_eq] at h
    obtain ⟨h1, h2, h3⟩ := h
    cases hz : i.zero with
    | none => rw [hz] at h1; cases h1
    | some z => rw [hz] at h1; exact ⟨i, z, rfl, hz, by simpa using h1, h2, h3⟩
set_option maxRecDepth 100000 in
set_option maxHeartbeats 4000000 in
theorem walk_any (p : Nat) (pts : List PT) (key : List UInt8) (w : World) (hr : RingAt w p pts) (hok : PtsOk pts) (hk : key.length = 32) :
    Calls Tryd.prog 20 #[.pointer (some ⟨p, 0, none⟩), .agg (key.map bv).toArray] w fun e w' => ∃ (v : Value) (xs : List Nat), e = .returned v ∧ RW w' w.heap.size 3 1 v (xs.map natC) ∧ xs.length = 5 ∧ xs.Nodup ∧ (∀ x ∈ xs, x < 5) ∧ Below w.heap.size w w' := by
  obtain ⟨h1, h2, pv, h3, h4⟩ := hr
  obtain ⟨ao, cap, rfl⟩ := h4.shape
  rw [List.length_map] at *
  have HP := Lib.hid hok
  have HR := Lib.hid h4
  have HK := Lib.hid hk
  have HL := Lib.hid hok.1
  clear h4 hok hk
  obtain ⟨it, zz, hti, htz, hzc, hsz1, hby⟩ := Tryd.intParts
  obtain ⟨w1, hw1, hkb, hB1, hs1⟩ : ∃ w1, w1 = w.alloc (.cells (key.map bv).toArray 23) ∧ Bsl w1 (.slice (some ⟨w.heap.size, 0, none⟩) 32 32) key ∧ Below w.heap.size w w1 ∧ w1.heap.size = w.heap.size + 1 :=
    ⟨_, rfl, Bsl.of_range (Go.Proofs.YtjhocaleampamaaDoor.rangeAt_alloc_new w (key.map bv) _) HK.out.symm (by rw [HK.out]; omega), (Below.refl _ _).alloc (Nat.le_refl _) _, by simp⟩
  have HW1 := Lib.hid hw1
  have hkl : (8 : Nat) ≤ key.length := by rw [HK.out]; omega
  have hs1' : w.heap.size ≤ w1.heap.size := by omega
  have hc1 : ∀ wE, Below w1.heap.size w1 wE → wE.cell? ⟨p, 1, none⟩ = some (.slice ao pts.length cap) := fun wE hE => ((hB1.trans (hE.mono hs1')).cell (p := ⟨p, 1, none⟩) h1).trans h3
  have hRR : ∀ wE, Below w1.heap.size w1 wE → Rd wE 3 (.slice ao pts.length cap) (pts.map PT.C) := fun wE hE => HR.out.keep (hB1.trans (hE.mono hs1'))
  clear hw1 hs1
  go_enter Tryd.func20, Tryd.ntmps20
  go_wp2_with fail
  rw [← HW1.out]
  clear HW1
  refine wp_region_El 11 (fun w' => Below w1.heap.size w1 w') #[false, false, false, false, false, false, false, false, false, false, false, false] (by kernel_rfl) (by kernel_rfl) ?_
  have hS0 : Below w1.heap.size w1 w1.drew := (Below.refl _ _).drew
  refine wpAnyE_take (i := 0) (v := ?v_a0) rfl (by kernel_rfl) (by kernel_rfl) (by kernel_rfl) (by kernel_rfl) (by kernel_rfl) (fun _ _ _ h => h) (Or.inl ⟨by kernel_rfl, ?y_a0⟩) (by assumption) ?r_a0
  case y_a0 => intro wE hSw; have q0 := hc1 wE hSw; go_simp; try with_reducible rfl
  case' r_a0 => ((try simp only [Act.put, List.getElem_toArray, List.getElem_cons_zero]); (try simp only [List.setIfInBounds_toArray]); (try simp only [List.set_cons_zero, List.set_cons_succ]))
  refine wpAnyE_take (i := 1) (v := ?v_a1) rfl (by kernel_rfl) (by kernel_rfl) (by kernel_rfl) (by kernel_rfl) (by kernel_rfl) (fun _ _ _ h => h) (Or.inl ⟨by kernel_rfl, ?y_a1⟩) (by assumption) ?r_a1
  case y_a1 => intro wE hSw; have q0 := hc1 wE hSw; go_simp; try with_reducible rfl
  case' r_a1 => ((try simp only [Act.put, List.getElem_toArray, List.getElem_cons_zero, List.getElem_cons_succ]); (try simp only [List.setIfInBounds_toArray]); (try simp only [List.set_cons_zero, List.set_cons_succ]))
  refine wpAnyE_take (i := 2) (v := ?v_a2) rfl (by kernel_rfl) (by kernel_rfl) (by kernel_rfl) (by kernel_rfl) (by kernel_rfl) (fun _ _ _ h => h) (Or.inl ⟨by kernel_rfl, ?y_a2⟩) (by assumption) ?r_a2
  case y_a2 => intro wE hSw; have q0 := hc1 wE hSw; go_simp; try with_reducible rfl
  case' r_a2 => ((try simp only [Act.put, List.getElem_toArray, List.getElem_cons_zero, List.getElem_cons_succ]); (try simp only [List.setIfInBounds_toArray]); (try simp only [List.set_cons_zero, List.set_cons_succ]))
  refine wpAnyE_take (i := 3) (v := ?v_a3) rfl (by kernel_rfl) (by kernel_rfl) (by kernel_rfl) (by kernel_rfl) (by kernel_rfl) (fun _ _ _ h => h) (Or.inl ⟨by kernel_rfl, ?y_a3⟩) (by assumption) ?r_a3
  case y_a3 => intro wE hSw; have q0 := hc1 wE hSw; go_simp; try with_reducible rfl
  case' r_a3 => ((try simp only [Act.put, List.getElem_toArray, List.getElem_cons_zero, List.getElem_cons_succ]); (try simp only [List.setIfInBounds_toArray]); (try simp only [List.set_cons_zero, List.set_cons_succ]))
  refine wpAnyE_take (i := 4) (v := ?v_a4) rfl (by kernel_rfl) (by kernel_rfl) (by kernel_rfl) (by kernel_rfl) (by kernel_rfl) (fun _ _ _ h => h) (Or.inl ⟨by kernel_rfl, ?y_a4⟩) (by assumption) ?r_a4
  case y_a4 => intro wE hSw; have q0 := hc1 wE hSw; go_simp; try with_reducible rfl
  case' r_a4 => ((try simp only [Act.put, List.getElem_toArray, List.getElem_cons_zero, List.getElem_cons_succ]); (try simp only [List.setIfInBounds_toArray]); (try simp only [List.set_cons_zero, List.set_cons_succ]))
  refine wpAnyE_ready (rs := [5]) (by kernel_rfl) (by simp) ?_
  refine AllReadyE.cons rfl (fun KA hKA => ?_) AllReadyE.nil
  rw [if_pos (by kernel_rfl)]
  go_simp
  refine (place_any _ key w1.drew hkb hkl).mono ?_
  rintro e w7 ⟨rfl, rfl⟩
  go_simp
  generalize beW (key.take 8) = x at *
  refine hKA _ _ (fun _ => hS0) ?_
  clear hKA KA
  refine wpAnyE_ready (rs := [6]) (by kernel_rfl) (by simp) ?_
  refine AllReadyE.cons rfl (fun KA hKA => ?_) AllReadyE.nil
  rw [if_pos (by kernel_rfl)]
  go_simp
  refine (search_any _ pts x w1.drew (hRR _ hS0) (by rw [HL.out]; omega)).mono ?_
  rintro e w2 ⟨f, u, hf, rfl, hB2⟩
  have hS2 : Below w1.heap.size w1 w2 := hS0.trans hB2
  go_simp
  refine hKA _ _ (fun _ => hS2) ?_
  clear hKA KA hB2
  refine wpAnyE_take (i := 7) (v := ?v_b7) rfl (by kernel_rfl) (by kernel_rfl) (by kernel_rfl) (by kernel_rfl) (by kernel_rfl) (fun _ _ _ h => h) (Or.inl ⟨by kernel_rfl, ?y_b7⟩) (by assumption) ?r_b7
  case y_b7 => intro wE hSw; skip; go_simp; try with_reducible rfl
  case' r_b7 => ((try simp only [Act.put, List.getElem_toArray, List.getElem_cons_zero, List.getElem_cons_succ]); (try simp only [List.setIfInBounds_toArray]); (try simp only [List.set_cons_zero, List.set_cons_succ]))
  refine wpAnyE_take (i := 8) (v := ?v_b8) rfl (by kernel_rfl) (by kernel_rfl) (by kernel_rfl) (by kernel_rfl) (by kernel_rfl) (fun _ _ _ h => h) (Or.inl ⟨by kernel_rfl, ?y_b8⟩) (by assumption) ?r_b8
  case y_b8 => intro wE hSw; skip; go_simp; try with_reducible rfl
  case' r_b8 => ((try simp only [Act.put, List.getElem_toArray, List.getElem_cons_zero, List.getElem_cons_succ]); (try simp only [List.setIfInBounds_toArray]); (try simp only [List.set_cons_zero, List.set_cons_succ]))
  refine wpAnyE_take (i := 9) (v := ?v_b9) rfl (by kernel_rfl) (by kernel_rfl) (by kernel_rfl) (by kernel_rfl) (by kernel_rfl) (fun _ _ _ h => h) (Or.inl ⟨by kernel_rfl, ?y_b9⟩) (by assumption) ?r_b9
  case y_b9 => intro wE hSw; skip; go_simp; try with_reducible rfl
  case' r_b9 => ((try simp only [Act.put, List.getElem_toArray, List.getElem_cons_zero, List.getElem_cons_succ]); (try simp only [List.setIfInBounds_toArray]); (try simp only [List.set_cons_zero, List.set_cons_succ]))
  refine wpAnyE_ready (rs := [10]) (by kernel_rfl) (by simp) ?_
  refine AllReadyE.cons rfl (fun KA hKA => ?_) AllReadyE.nil
  rw [if_pos (by kernel_rfl)]
  go_simp
  refine hKA _ _ (fun _ => hS2) ?_
  clear hKA KA
  refine wpAnyE_ready (rs := [11]) (by kernel_rfl) (by simp) ?_
  refine AllReadyE.cons rfl (fun KA hKA => ?_) AllReadyE.nil
  rw [if_pos (by kernel_rfl)]
  go_simp
  refine hKA _ _ (fun h => Bool.noConfusion (show true = false from h)) ?_
  clear hKA KA
  refine wpAnyE_done (by kernel_rfl) ?_ _
  have hq2 := hc1 w2 hS2
  have HS2 := Lib.hid hS2
  clear hS2 hS0 hkb hkl
  go_wp2_with fail
  clear hq2
  obtain ⟨L, hLd⟩ : ∃ L, L = turnL (ofs pts) f := ⟨_, rfl⟩
  have hLl : L.length = pts.length := by rw [hLd, turnL_len, ofs_len]
  have HT := Lib.hid hLd
  clear hLd
  go_loopw [7, 27] (fun ov cv wr => ∃ i : Nat, i ≤ pts.length ∧ cv = .int .i64 (i : Int) ∧ RW wr w1.heap.size 3 1 ov ((walkL (L.take i)).map natC) ∧ Below w.heap.size w wr ∧ Below w1.heap.size w1 wr) (fun _ cv _ => pts.length - (intOf cv).toNat)
  case atStart => exact ⟨0, by omega, rfl, RW.nil _ _ _ _, hB1.trans (HS2.out.mono hB1.size), HS2.out⟩
  case round =>
    obtain ⟨i, hi, rfl, hRW, hBw, hB⟩ := hrel
    clear HS2
    by_cases hlt : i < pts.length
    · have hlt' : (i : Int) < pts.length := by omega
      have hL1000 : pts.length ≤ 1000 := by rw [HL.out]; omega
      have hmlt : (f + i) % pts.length < pts.length := Nat.mod_lt _ (by omega)
      obtain ⟨m, hm⟩ : ∃ m, m = (f + i) % pts.length := ⟨_, rfl⟩
      rw [← hm] at hmlt
      have hmi : (m : Int) < pts.length := by omega
      have ht1 : ((f : Int) + i).tmod pts.length = (m : Int) := by rw [Int.tmod_eq_emod_of_nonneg (by omega), hm]; push_cast; rfl
      have ht2 : (IntKind.i64.wrap ((f : Int) + i)).tmod pts.length = (m : Int) := by rw [IntKind.wrap_i64, show ((f : Int) + i + 9223372036854775808) % 18446744073709551616 - 9223372036854775808 = (f : Int) + i by omega]; exact ht1
      have hpne : pts ≠ [] := by intro e; rw [e] at hlt; simp at hlt
      obtain ⟨g, o, rfl⟩ : ∃ g o, ao = some ⟨g, o, none⟩ := by
        obtain ⟨_, ao', c', e, _, _, h4⟩ := HR.out
        simp only [Value.slice.injEq] at e
        obtain ⟨rfl, _, rfl⟩ := e
        obtain ⟨g, o, e, _⟩ := h4 (by intro e; rw [List.map_eq_nil_iff] at e; subst e; simp at hlt)
        exact ⟨g, o, e⟩
      have hfa : ∀ wE, Below wr.heap.size wr wE → wE.cell? ⟨p, 1, none⟩ = some (.slice (some ⟨g, o, none⟩) pts.length cap) ∧ wE.cell? ⟨g, o + m * 3, none⟩ = some (.int .u64 (pts.getD m default).at_) ∧ wE.cell? ⟨g, o + m * 3 + 1, none⟩ = some (.int .i64 (pts.getD m default).of) ∧ wE.cell? ⟨g, o + m * 3 + 2, none⟩ = some (.int .i64 (pts.getD m default).rank) := fun wE hE => by
        have hB' := hB.trans (hE.mono hB.size)
        exact ⟨hc1 wE hB', (hRR wE hB').point hmlt⟩
      have hLm : L.getD i 0 = (pts.getD m default).of := by
        rw [HT.out, turnL_get _ _ _ (by rw [ofs_len]; exact hlt), ofs_len, ← hm, ofs_get _ _ hmlt]
      have hstep := walkL_step L i (by omega)
      rw [hLm] at hstep
      have HST := Lib.hid hstep
      clear hLm hstep
      generalize pts.getD m default = pt at *
      obtain ⟨pa, po, pr⟩ := pt
      dsimp only at hfa HST
      have HB := Lib.hid (And.intro hBw hB)
      clear hBw hB hm
      go_wp2_with fail
      refine wp_region_El 16 (fun w' => Below wr.heap.size wr w') #[false, false, false, false, false, false, false, false, false, false, false, false, false, false, false, false, false] (by kernel_rfl) (by kernel_rfl) ?_
      have hS0 : Below wr.heap.size wr wr.drew := (Below.refl _ _).drew
      refine wpAnyE_take (i := 0) (v := ?v_c0) rfl (by kernel_rfl) (by kernel_rfl) (by kernel_rfl) (by kernel_rfl) (by kernel_rfl) (fun _ _ _ h => h) (Or.inl ⟨by kernel_rfl, ?y_c0⟩) (by assumption) ?r_c0
      case y_c0 => intro wE hSw; obtain ⟨q0, q1, q2, q3⟩ := hfa wE hSw; go_simp; try with_reducible rfl
      case' r_c0 => ((try simp only [Act.put, List.getElem_toArray, List.getElem_cons_zero]); (try simp only [List.setIfInBounds_toArray]); (try simp only [List.set_cons_zero, List.set_cons_succ]))
      refine wpAnyE_take (i := 1) (v := ?v_c1) rfl (by kernel_rfl) (by kernel_rfl) (by kernel_rfl) (by kernel_rfl) (by kernel_rfl) (fun _ _ _ h => h) (Or.inl ⟨by kernel_rfl, ?y_c1⟩) (by assumption) ?r_c1
      case y_c1 => intro wE hSw; obtain ⟨q0, q1, q2, q3⟩ := hfa wE hSw; go_simp; try with_reducible rfl
      case' r_c1 => ((try simp only [Act.put, List.getElem_toArray, List.getElem_cons_zero, List.getElem_cons_succ]); (try simp only [List.setIfInBounds_toArray]); (try simp only [List.set_cons_zero, List.set_cons_succ]))
      refine wpAnyE_take (i := 2) (v := ?v_c2) rfl (by kernel_rfl) (by kernel_rfl) (by kernel_rfl) (by kernel_rfl) (by kernel_rfl) (fun _ _ _ h => h) (Or.inl ⟨by kernel_rfl, ?y_c2⟩) (by assumption) ?r_c2
      case y_c2 => intro wE hSw; obtain ⟨q0, q1, q2, q3⟩ := hfa wE hSw; go_simp; try with_reducible rfl
      case' r_c2 => ((try simp only [Act.put, List.getElem_toArray, List.getElem_cons_zero, List.getElem_cons_succ]); (try simp only [List.setIfInBounds_toArray]); (try simp only [List.set_cons_zero, List.set_cons_succ]))
      refine wpAnyE_take (i := 3) (v := ?v_c3) rfl (by kernel_rfl) (by kernel_rfl) (by kernel_rfl) (by kernel_rfl) (by kernel_rfl) (fun _ _ _ h => h) (Or.inl ⟨by kernel_rfl, ?y_c3⟩) (by assumption) ?r_c3
      case y_c3 => intro wE hSw; obtain ⟨q0, q1, q2, q3⟩ := hfa wE hSw; go_simp; try with_reducible rfl
      case' r_c3 => ((try simp only [Act.put, List.getElem_toArray, List.getElem_cons_zero, List.getElem_cons_succ]); (try simp only [List.setIfInBounds_toArray]); (try simp only [List.set_cons_zero, List.set_cons_succ]))
      refine wpAnyE_take (i := 4) (v := ?v_c4) rfl (by kernel_rfl) (by kernel_rfl) (by kernel_rfl) (by kernel_rfl) (by kernel_rfl) (fun _ _ _ h => h) (Or.inl ⟨by kernel_rfl, ?y_c4⟩) (by assumption) ?r_c4
      case y_c4 => intro wE hSw; obtain ⟨q0, q1, q2, q3⟩ := hfa wE hSw; go_simp; try with_reducible rfl
      case' r_c4 => ((try simp only [Act.put, List.getElem_toArray, List.getElem_cons_zero, List.getElem_cons_succ]); (try simp only [List.setIfInBounds_toArray]); (try simp only [List.set_cons_zero, List.set_cons_succ]))
      refine wpAnyE_take (i := 5) (v := ?v_c5) rfl (by kernel_rfl) (by kernel_rfl) (by kernel_rfl) (by kernel_rfl) (by kernel_rfl) (fun _ _ _ h => h) (Or.inl ⟨by kernel_rfl, ?y_c5⟩) (by assumption) ?r_c5
      case y_c5 => intro wE hSw; obtain ⟨q0, q1, q2, q3⟩ := hfa wE hSw; go_simp; try with_reducible rfl
      case' r_c5 => ((try simp only [Act.put, List.getElem_toArray, List.getElem_cons_zero, List.getElem_cons_succ]); (try simp only [List.setIfInBounds_toArray]); (try simp only [List.set_cons_zero, List.set_cons_succ]))
      refine wpAnyE_take (i := 6) (v := ?v_c6) rfl (by kernel_rfl) (by kernel_rfl) (by kernel_rfl) (by kernel_rfl) (by kernel_rfl) (fun _ _ _ h => h) (Or.inl ⟨by kernel_rfl, ?y_c6⟩) (by assumption) ?r_c6
      case y_c6 => intro wE hSw; obtain ⟨q0, q1, q2, q3⟩ := hfa wE hSw; go_simp; try with_reducible rfl
      case' r_c6 => ((try simp only [Act.put, List.getElem_toArray, List.getElem_cons_zero, List.getElem_cons_succ]); (try simp only [List.setIfInBounds_toArray]); (try simp only [List.set_cons_zero, List.set_cons_succ]))
      refine wpAnyE_take (i := 7) (v := ?v_c7) rfl (by kernel_rfl) (by kernel_rfl) (by kernel_rfl) (by kernel_rfl) (by kernel_rfl) (fun _ _ _ h => h) (Or.inl ⟨by kernel_rfl, ?y_c7⟩) (by assumption) ?r_c7
      case y_c7 => intro wE hSw; obtain ⟨q0, q1, q2, q3⟩ := hfa wE hSw; go_simp; try with_reducible rfl
      case' r_c7 => ((try simp only [Act.put, List.getElem_toArray, List.getElem_cons_zero, List.getElem_cons_succ]); (try simp only [List.setIfInBounds_toArray]); (try simp only [List.set_cons_zero, List.set_cons_succ]))
      refine wpAnyE_take (i := 8) (v := ?v_c8) rfl (by kernel_rfl) (by kernel_rfl) (by kernel_rfl) (by kernel_rfl) (by kernel_rfl) (fun _ _ _ h => h) (Or.inl ⟨by kernel_rfl, ?y_c8⟩) (by assumption) ?r_c8
      case y_c8 => intro wE hSw; obtain ⟨q0, q1, q2, q3⟩ := hfa wE hSw; go_simp; try with_reducible rfl
      case' r_c8 => ((try simp only [Act.put, List.getElem_toArray, List.getElem_cons_zero, List.getElem_cons_succ]); (try simp only [List.setIfInBounds_toArray]); (try simp only [List.set_cons_zero, List.set_cons_succ]))
      refine wpAnyE_take (i := 9) (v := ?v_c9) rfl (by kernel_rfl) (by kernel_rfl) (by kernel_rfl) (by kernel_rfl) (by kernel_rfl) (fun _ _ _ h => h) (Or.inl ⟨by kernel_rfl, ?y_c9⟩) (by assumption) ?r_c9
      case y_c9 => intro wE hSw; obtain ⟨q0, q1, q2, q3⟩ := hfa wE hSw; go_simp; try with_reducible rfl
      case' r_c9 => ((try simp only [Act.put, List.getElem_toArray, List.getElem_cons_zero, List.getElem_cons_succ]); (try simp only [List.setIfInBounds_toArray]); (try simp only [List.set_cons_zero, List.set_cons_succ]))
      refine wpAnyE_take (i := 10) (v := ?v_c10) rfl (by kernel_rfl) (by kernel_rfl) (by kernel_rfl) (by kernel_rfl) (by kernel_rfl) (fun _ _ _ h => h) (Or.inl ⟨by kernel_rfl, ?y_c10⟩) (by assumption) ?r_c10
      case y_c10 => intro wE hSw; obtain ⟨q0, q1, q2, q3⟩ := hfa wE hSw; go_simp; try with_reducible rfl
      case' r_c10 => ((try simp only [Act.put, List.getElem_toArray, List.getElem_cons_zero, List.getElem_cons_succ]); (try simp only [List.setIfInBounds_toArray]); (try simp only [List.set_cons_zero, List.set_cons_succ]))
      refine wpAnyE_take (i := 11) (v := ?v_c11) rfl (by kernel_rfl) (by kernel_rfl) (by kernel_rfl) (by kernel_rfl) (by kernel_rfl) (fun _ _ _ h => h) (Or.inl ⟨by kernel_rfl, ?y_c11⟩) (by assumption) ?r_c11
      case y_c11 => intro wE hSw; obtain ⟨q0, q1, q2, q3⟩ := hfa wE hSw; go_simp; try with_reducible rfl
      case' r_c11 => ((try simp only [Act.put, List.getElem_toArray, List.getElem_cons_zero, List.getElem_cons_succ]); (try simp only [List.setIfInBounds_toArray]); (try simp only [List.set_cons_zero, List.set_cons_succ]))
      refine wpAnyE_take (i := 12) (v := ?v_c12) rfl (by kernel_rfl) (by kernel_rfl) (by kernel_rfl) (by kernel_rfl) (by kernel_rfl) (fun _ _ _ h => h) (Or.inl ⟨by kernel_rfl, ?y_c12⟩) (by assumption) ?r_c12
      case y_c12 => intro wE hSw; obtain ⟨q0, q1, q2, q3⟩ := hfa wE hSw; go_simp; try with_reducible rfl
      case' r_c12 => ((try simp only [Act.put, List.getElem_toArray, List.getElem_cons_zero, List.getElem_cons_succ]); (try simp only [List.setIfInBounds_toArray]); (try simp only [List.set_cons_zero, List.set_cons_succ]))
      refine wpAnyE_take (i := 13) (v := ?v_c13) rfl (by kernel_rfl) (by kernel_rfl) (by kernel_rfl) (by kernel_rfl) (by kernel_rfl) (fun _ _ _ h => h) (Or.inl ⟨by kernel_rfl, ?y_c13⟩) (by assumption) ?r_c13
      case y_c13 => intro wE hSw; obtain ⟨q0, q1, q2, q3⟩ := hfa wE hSw; go_simp; try with_reducible rfl
      case' r_c13 => ((try simp only [Act.put, List.getElem_toArray, List.getElem_cons_zero, List.getElem_cons_succ]); (try simp only [List.setIfInBounds_toArray]); (try simp only [List.set_cons_zero, List.set_cons_succ]))
      refine wpAnyE_take (i := 14) (v := ?v_c14) rfl (by kernel_rfl) (by kernel_rfl) (by kernel_rfl) (by kernel_rfl) (by kernel_rfl) (fun _ _ _ h => h) (Or.inl ⟨by kernel_rfl, ?y_c14⟩) (by assumption) ?r_c14
      case y_c14 => intro wE hSw; obtain ⟨q0, q1, q2, q3⟩ := hfa wE hSw; go_simp; try with_reducible rfl
      case' r_c14 => ((try simp only [Act.put, List.getElem_toArray, List.getElem_cons_zero, List.getElem_cons_succ]); (try simp only [List.setIfInBounds_toArray]); (try simp only [List.set_cons_zero, List.set_cons_succ]))
      refine wpAnyE_ready (rs := [15]) (by kernel_rfl) (by simp) ?_
      refine AllReadyE.cons rfl (fun KA hKA => ?_) AllReadyE.nil
      rw [if_pos (by kernel_rfl)]
      go_simp
      refine hKA _ _ (fun _ => (Below.refl wr.heap.size wr).drew.alloc (Nat.le_refl _) _) ?_
      clear hKA KA
      refine wpAnyE_ready (rs := [16]) (by kernel_rfl) (by simp) ?_
      refine AllReadyE.cons rfl (fun KA hKA => ?_) AllReadyE.nil
      rw [if_pos (by kernel_rfl)]
      go_simp
      refine hKA _ _ (fun h => Bool.noConfusion (show true = false from h)) ?_
      clear hKA KA
      refine wpAnyE_done (by kernel_rfl) ?_ _
      go_wp2_with fail
      have hB4 : Below wr.heap.size wr (wr.alloc (.cells #[.int .u64 pa, .int .i64 po, .int .i64 pr] 61)).drew := ((Below.refl _ _).alloc (Nat.le_refl _) _).drew
      have c9 : (wr.alloc (.cells #[.int .u64 pa, .int .i64 po, .int .i64 pr] 61)).drew.cell? ⟨wr.heap.size, 1, none⟩ = some (.int .i64 po) := World.cell?_alloc_new wr _ _ 1
      generalize (wr.alloc (.cells #[.int .u64 pa, .int .i64 po, .int .i64 pr] 61)).drew = w4 at *
      have hRW4 := hRW.keep hB4
      have HB4 := Lib.hid (And.intro (HB.out.1.trans (hB4.mono HB.out.1.size)) (HB.out.2.trans (hB4.mono HB.out.2.size)))
      obtain ⟨out, hout⟩ : ∃ out, out = walkL (L.take i) := ⟨_, rfl⟩
      rw [← hout] at hRW4
      have HST := HST.out
      rw [← hout] at HST
      have HST := Lib.hid HST
      have hol : out.length ≤ 1000 := by
        have : ∀ (l : List Nat), (walkL l).length ≤ l.length := fun l => walkL_le l
        have h9 := this (L.take i)
        rw [← hout, List.length_take] at h9
        omega
      have hcn := contains_any _ out po w4 hRW4.rd
      obtain ⟨ro, rc, hvv, hz1, hz2, hz3⟩ := hRW4.val
      clear hz1 hz2 hz3 hRW hB4 hout hfa hS0
      rw [List.length_map] at hvv
      subst hvv
      by_cases hmem : po ∈ out
      · rw [decide_eq_true hmem] at hcn
        have HF := Lib.hid (show RW w4 w1.heap.size 3 1 (.slice ro out.length rc) ((walkL (L.take (i + 1))).map natC) by
          rw [HST.out]
          unfold stepD
          rw [if_pos hmem]
          exact hRW4)
        clear hRW4 hmem
        refine hcn.mono ?_
        rintro e w5 ⟨rfl, rfl⟩
        go_wp2_with fail
        go_roundw
        case rel => exact ⟨i + 1, by omega, by go_num, HF.out, HB4.out.1, HB4.out.2⟩
        case measure => simp [intOf]; omega
      · rw [decide_eq_false hmem] at hcn
        have hA : Below w4.heap.size w4 (w4.alloc (.cells #[.int .i64 po] 3)) := (Below.refl _ _).alloc (Nat.le_refl _) _
        have hRA := hRW4.keep hA
        have hsA : RW (w4.alloc (.cells #[.int .i64 po] 3)) 0 3 1 (.slice (some ⟨w4.heap.size, 0, none⟩) 1 1) [[.int .i64 po]] := ⟨World.ownsRow_lit _ _ 1 (Nat.zero_le _) (by unfold maxLen; omega) rfl, by intro q hq; rw [List.mem_singleton.1 hq]; rfl⟩
        have hge2 : w1.heap.size ≤ (w4.alloc (.cells #[.int .i64 po] 3)).heap.size := Nat.le_trans HB4.out.2.size hA.size
        have hlm : (out.map natC).length + 1 ≤ 100000000 := by rw [List.length_map]; omega
        have HBA := Lib.hid (And.intro (HB4.out.1.trans (hA.mono HB4.out.1.size)) (HB4.out.2.trans (hA.mono HB4.out.2.size)))
        have HM := Lib.hid hmem
        have hown := hRA.own_ge
        have hw1 := HB4.out.2.size
        clear hRW4 hmem HB4
        refine hcn.mono ?_
        rintro e w5 ⟨rfl, rfl⟩
        clear hcn
        go_wp2_with (at_builtin; refine wp_apprs rfl _ _ 25 rfl it zz Tryd.underlying25 hti htz hsz1 hby hzc (by omega) hRA hsA rfl (by intro u hu; simp at hu; subst hu; rfl) hlm hge2 (by rfl) (by rfl) ?_)
        intro v3 w3 hR3 hg3 hn3 hnil3
        have hO3 := Only.of_grown (S := fun q => (Value.slice ro out.length rc).ownBlock = some q) hg3 (fun q h => h)
        have HF := Lib.hid (show RW w3 w1.heap.size 3 1 v3 ((walkL (L.take (i + 1))).map natC) ∧ Below w.heap.size w w3 ∧ Below w1.heap.size w1 w3 by
          refine ⟨?_, HBA.out.1.trans (hO3.to_below HBA.out.1.size (fun q e => Nat.le_trans hB1.size (hown q e))), HBA.out.2.trans (hO3.to_below HBA.out.2.size (fun q e => hown q e))⟩
          rw [HST.out]
          unfold stepD
          rw [if_neg HM.out, List.map_append]
          exact hR3)
        clear hR3 hg3 hn3 hnil3 hRA hsA hO3 hown hge2 hA
        go_wp2_with fail
        go_roundw
        case rel => exact ⟨i + 1, by omega, by go_num, HF.out.1, HF.out.2.1, HF.out.2.2⟩
        case measure => simp [intOf]; omega
    · have hltn : ¬ (i : Int) < pts.length := by omega
      have hie : i = L.length := by omega
      rw [hie, List.take_length, HT.out] at hRW
      have H5 := Lib.hid (walk_five (ofs pts) f (by rw [ofs_len]; exact hf) (fun x hx => by obtain ⟨q, hq, rfl⟩ := List.mem_map.1 hx; exact HP.out.2.1 q hq) (fun x hx => by obtain ⟨q, hq, e⟩ := HP.out.2.2 x hx; exact List.mem_map.2 ⟨q, hq, e⟩))
      have HF := Lib.hid (And.intro (hRW.mono hB1.size) hBw)
      clear hRW hBw hB hie
      go_wp2_with fail
      go_ret
      exact ⟨_, rfl, _, HF.out.1, H5.out.1, H5.out.2.1, H5.out.2.2, HF.out.2⟩
end Go.Proofs.YtjhocaleampamaaDoor
/- slices.Clone of ints, and slices.DeleteFunc by what is up: the walks. -/
namespace Go.Proofs.YtjhocaleampamaaDoor
open Go.RowKit
set_option linter.unusedVariables false
theorem wp_appsv {w : World} {ops : Array Oper} {rest : List Oper} {o : Oper} {a : Act} {Q : Exit → Act → World → Prop} (hgd : o.guard = none) (s x : Operand) (t : TypeId)
    (ho : o.op = .call { callee := .builtin .append, args := #[s, x], argTypes := #[t, t] })
    {base : Nat} {e : TypeId} {sz : Nat} {v v2 : Value} {rs ns : List (List Value)} (i : TypeInfo) (z : Value) (ht : Tryd.prog.underlying t = some (.slice e)) (hi : Tryd.prog.info? e = some i) (hz : i.zero = some z) (hsz : i.size = sz)
    (hby : i.bytes ≤ 1000) (hzs : z.cells.size = sz) (hpos : 0 < sz) (h : RW w base e sz v rs) (hs : Src w sz v2 ns)
    (hlen : rs.length + ns.length ≤ 100000000) (hb : base ≤ w.heap.size) (hes : a.eval s = v) (hx : a.eval x = v2)
    (hK : ∀ v' w', RW w' base e sz v' (rs ++ ns) → w.grownBy w' v.ownBlock → (v'.ownBlock = v.ownBlock ∨ v'.ownBlock = some w.heap.size) → wpList Tryd.prog ops Q rest (a.put o.dst v') w') :
    wpList Tryd.prog ops Q (o :: rest) a w := by
  refine wpList_plain hgd fun K hK' => ?_
  obtain ⟨v', w', hrun, k1, k2, k3⟩ := run_appsv i z ht hi hz hsz hby hzs hpos o.type h hs hlen hb
  unfold Oper.wp execOp
  simp only [ho, resolve, invoke, builtin, Sem.run_bind, Sem.run_pure, Result.andThen_ok, List.map_toArray, List.map_cons, List.map_nil, hes, hx, hrun]
  exact hK' _ _ (hK v' w' k1 k2 k3)
theorem Rd.src {w : World} {sz : Nat} {v : Value} {rs : List (List Value)} (h : Rd w sz v rs) (hne : rs ≠ []) (h1 : ∀ u ∈ rs.flatten, u.oneCell' = true) : Src w sz v rs := by
  obtain ⟨hev, ao, cap, rfl, _, _, h4⟩ := h
  obtain ⟨g, o, rfl, hr⟩ := h4 hne
  refine ⟨hev, h1, .inr ⟨⟨g, o, none⟩, cap, rfl, fun j u hu => ?_⟩⟩
  have hj : j < rs.length * sz := by rw [← Even.flat hev]; exact (List.getElem?_eq_some_iff.1 hu).1
  have hpos : 0 < sz := by rcases Nat.eq_zero_or_pos sz with h | h; · subst h; simp at hj
                           · exact h
  have hi : j / sz < rs.length := Nat.div_lt_of_lt_mul (by rw [Nat.mul_comm]; exact hj)
  obtain ⟨e1, e2, e3⟩ := Even.split hev hi
  have hm : j % sz < sz := Nat.mod_lt _ hpos
  have hdm : j / sz * sz + j % sz = j := by rw [Nat.mul_comm]; exact Nat.div_add_mod j sz
  have hu2 : rs[j / sz][j % sz]? = some u := by
    rw [e1, List.append_assoc, List.getElem?_append_right (by omega), e2, List.getElem?_append_left (by omega), show j - j / sz * sz = j % sz by omega] at hu
    exact hu
  have := hr _ hi _ _ hu2
  rw [Nat.add_assoc, hdm] at this
  rw [Addr.add_mid]
  exact this
theorem natC_one (xs : List Nat) : ∀ u ∈ (xs.map natC).flatten, u.oneCell' = true := by
  intro u hu
  obtain ⟨l, hl, hu⟩ := List.mem_flatten.1 hu
  obtain ⟨n, _, rfl⟩ := List.mem_map.1 hl
  rw [natC, List.mem_singleton] at hu
  subst hu; rfl
set_option maxRecDepth 100000 in
set_option maxHeartbeats 1000000 in
theorem iclone_any (g o n cap : Nat) (xs : List Nat) (w : World) (h : Rd w 1 (.slice (some ⟨g, o, none⟩) n cap) (xs.map natC)) (hl : 0 < xs.length ∧ xs.length ≤ 1000) :
    Calls Tryd.prog 22 #[.slice (some ⟨g, o, none⟩) n cap] w fun e w' => ∃ v, e = .returned v ∧ RW w' w.heap.size 3 1 v (xs.map natC) ∧ Below w.heap.size w w' := by
  obtain ⟨it, zz, hti, htz, hzc, hsz1, hby⟩ := Tryd.intParts
  have hS := h.src (by intro e; rw [List.map_eq_nil_iff] at e; subst e; simp at hl) (natC_one xs)
  have heq := fun w => Lib.run_eql_slice_nil (P := Tryd.prog) w 25 3 (some ⟨g, o, none⟩) n cap 0 0 Tryd.underlying25
  simp only [Option.isNone_some] at heq
  have hA : Below w.heap.size w (w.alloc (.cells #[] 3)) := (Below.refl _ _).alloc (Nat.le_refl _) _
  have hRA : RW (w.alloc (.cells #[] 3)) w.heap.size 3 1 (.slice (some ⟨w.heap.size, 0, none⟩) 0 0) [] := ⟨World.ownsRow_lit _ _ 0 (Nat.le_refl _) (by unfold maxLen; omega) rfl, by intro q hq; cases hq⟩
  have hSA := hS.keep hA
  have hlm : ([] : List (List Value)).length + (xs.map natC).length ≤ 100000000 := by rw [List.length_map]; simp; omega
  have hge : w.heap.size ≤ (w.alloc (.cells #[] 3)).heap.size := hA.size
  clear h hS
  go_enter Tryd.func22, Tryd.ntmps22
  go_wp2_with (at_builtin; refine wp_appsv rfl _ _ 25 rfl it zz Tryd.underlying25 hti htz hsz1 hby hzc (by omega) hRA hSA hlm hge (by rfl) (by rfl) ?_)
  intro v3 w3 hR3 hg3 hn3
  have hO3 := Only.of_grown (S := fun q => (Value.slice (some ⟨w.heap.size, 0, none⟩) 0 0).ownBlock = some q) hg3 (fun q h => h)
  have HF := Lib.hid (And.intro hR3 (hA.trans (hO3.to_below hA.size (fun q e => hRA.own_ge q e))))
  clear hR3 hg3 hn3 hO3 hRA hSA hA hge hlm
  go_wp2_with fail
  go_ret
  refine ⟨_, rfl, ?_, HF.out.2⟩
  exact HF.out.1
/-- The closure of Stand: who isn't up. -/
theorem Rd.bool {w : World} {g o n cap : Nat} {bs : List Bool} (h : Rd w 1 (.slice (some ⟨g, o, none⟩) n cap) (bs.map fun b => [Value.bool b])) {i : Nat} (hi : i < bs.length) : w.cell? ⟨g, o + i, none⟩ = some (.bool (bs.getD i false)) := by
  obtain ⟨_, ao, c, e, _, _, h4⟩ := h
  simp only [Value.slice.injEq] at e
  obtain ⟨rfl, _, rfl⟩ := e
  obtain ⟨g', o', e, hr⟩ := h4 (by intro e; rw [List.map_eq_nil_iff] at e; subst e; simp at hi)
  cases e
  have hr := hr i (by rw [List.length_map]; exact hi)
  rw [List.getElem_map, Nat.mul_one] at hr
  rw [show bs.getD i false = bs[i] by simp [List.getD, hi]]
  exact hr 0 _ rfl
set_option maxRecDepth 100000 in
theorem stand1_any (x B g o cap : Nat) (b : Bool) (w : World) (hx : x < 5) (hc : w.cell? ⟨B, 0, none⟩ = some (.slice (some ⟨g, o, none⟩) 5 cap)) (hb : w.cell? ⟨g, o + x, none⟩ = some (.bool b)) :
    Calls Tryd.prog 23 #[.int .i64 x, .pointer (some ⟨B, 0, none⟩)] w fun e w' => e = .returned (.bool (!b)) ∧ w' = w := by
  have hx' : (x : Int) < 5 := by omega
  go_enter Tryd.func23, Tryd.ntmps23
  go_wp2_with fail
  go_ret
  exact ⟨rfl, rfl⟩
/-- A number below five, as the sort's element. -/
instance : Inhabited (Fin 5) := ⟨0⟩
def finV (x : Fin 5) : Value := .int .i64 ((x.val : Nat) : Int)
theorem preds (B g o cap : Nat) (bs : List Bool) (w : World) (hl : bs.length = 5) (hB : B < w.heap.size) (hc : w.cell? ⟨B, 0, none⟩ = some (.slice (some ⟨g, o, none⟩) 5 cap)) (hb : ∀ i, i < 5 → w.cell? ⟨g, o + i, none⟩ = some (.bool (bs.getD i false))) :
    PredAt Tryd.prog 23 #[.pointer (some ⟨B, 0, none⟩)] finV (fun x => !bs.getD x.val false) w := fun W x hW => by
  refine (stand1_any x.val B g o cap (bs.getD x.val false) W x.isLt ((hW.cell (p := ⟨B, 0, none⟩) hB).trans hc) ?_).mono fun e w' ⟨he, hw⟩ => ⟨he, 0, hw⟩
  have h0 := hb x.val x.isLt
  exact (hW.cell (p := ⟨g, o + x.val, none⟩) (World.block_lt_of_cell? w _ h0)).trans h0
theorem predsO (B g o cap : Nat) (bs : List Bool) (w : World) (hl : bs.length = 5) (hB : B < w.heap.size) (hc : w.cell? ⟨B, 0, none⟩ = some (.slice (some ⟨g, o, none⟩) 5 cap)) (hb : ∀ i, i < 5 → w.cell? ⟨g, o + i, none⟩ = some (.bool (bs.getD i false))) (blk off size : Nat) (h1 : B ≠ blk) (h2 : g ≠ blk) :
    PredOver Tryd.prog 23 #[.pointer (some ⟨B, 0, none⟩)] finV (fun x => !bs.getD x.val false) blk off size w := fun n os dk x _ => by
  have hne : ∀ (b k : Nat) (u : Value), b ≠ blk → w.cell? ⟨b, k, none⟩ = some u → (sortWorld finV w blk off n dk os).cell? ⟨b, k, none⟩ = some u := fun b k u hn h => by
    unfold sortWorld
    rw [Sort.cell?_grow _ _ _ (by show b < (Sort.putRow _ _ _ _ _).heap.size; rw [Sort.size_putRow]; exact World.block_lt_of_cell? w _ h), Sort.cell?_putRow_other _ _ blk off _ _ (Or.inl hn)]
    exact h
  exact (stand1_any x.val B g o cap (bs.getD x.val false) _ x.isLt (hne _ _ _ h1 hc) (hne _ _ _ h2 (hb x.val x.isLt))).mono fun e w' ⟨he, hw⟩ => ⟨he, 0, hw⟩
end Go.Proofs.YtjhocaleampamaaDoor
/- slices.DeleteFunc by what is up, in my words. -/
namespace Go.Proofs.YtjhocaleampamaaDoor
open Go.RowKit
set_option linter.unusedVariables false
theorem fin_list (l : List Nat) (h : ∀ x ∈ l, x < 5) : ∃ fs : List (Fin 5), fs.map (·.val) = l := by
  induction l with
  | nil => exact ⟨[], rfl⟩
  | cons a r ih =>
    obtain ⟨fs, e⟩ := ih (fun x hx => h x (List.mem_cons_of_mem _ hx))
    exact ⟨⟨a, h a (by simp)⟩ :: fs, by simp [e]⟩
theorem fin_filter (fs : List (Fin 5)) (f : Nat → Bool) : (fs.filter fun x => f x.val).map (·.val) = (fs.map (·.val)).filter f := by
  rw [List.filter_map]; rfl
theorem only_putRow {α : Type} [Inhabited α] (enc : α → Value) (w : World) (q blk off : Nat) (d : Array α) : Only (· = blk) w (Sort.putRow enc (Sort.ahead w q) blk off d) := by
  refine ⟨rfl, rfl, rfl, by rw [Sort.size_putRow]; exact Nat.le_refl _, fun i hi hn => ?_⟩
  show ((Sort.ahead w q).heap.modify blk _)[i]? = _
  rw [Array.getElem?_modify, if_neg (fun e => hn e.symm)]
  rfl
theorem RW.holdsF {w : World} {base : Nat} {e : TypeId} {g n cap : Nat} {fs : List (Fin 5)} (h : RW w base e 1 (.slice (some ⟨g, 0, none⟩) n cap) ((fs.map (·.val)).map natC)) (hn : n = fs.length) : Sort.Holds finV w g 0 fs.toArray := by
  intro j hj
  rw [List.size_toArray] at hj
  have hj' : j < ((fs.map (·.val)).map natC).length := by rw [List.length_map, List.length_map]; exact hj
  have hr := h.range (by rw [hn, List.length_map, List.length_map]) hj' 0 (finV fs[j]) (by simp [natC, finV])
  have hf := (h.there (by rw [hn, List.length_map, List.length_map]) hj' 0 (by omega)).2
  rw [Nat.mul_one, Nat.add_zero] at hr hf
  rw [getElem!_pos fs.toArray j (by rw [List.size_toArray]; exact hj), List.getElem_toArray, Nat.zero_add]
  exact ⟨hr, hf⟩
theorem rd_holdsF {w : World} {g cap : Nat} (fs zs : List (Fin 5)) (h : Sort.Holds finV w g 0 (fs ++ zs).toArray) (hc : fs.length ≤ cap ∧ cap ≤ 9223372036854775807) : Rd w 1 (.slice (some ⟨g, 0, none⟩) fs.length cap) ((fs.map (·.val)).map natC) := by
  refine ⟨fun r hr => ?_, some ⟨g, 0, none⟩, cap, by rw [List.length_map, List.length_map], by rw [List.length_map, List.length_map]; exact hc.1, hc.2, fun _ => ⟨g, 0, rfl, fun i hi j v hv => ?_⟩⟩
  · obtain ⟨x, _, rfl⟩ := List.mem_map.1 hr; rfl
  · rw [List.length_map, List.length_map] at hi
    rw [List.getElem_map, List.getElem_map] at hv
    have hj : j < 1 := (List.getElem?_eq_some_iff.1 hv).1
    obtain rfl : j = 0 := by omega
    have := (h i (by rw [List.size_toArray, List.length_append]; omega)).1
    rw [getElem!_pos (fs ++ zs).toArray i (by rw [List.size_toArray, List.length_append]; omega), List.getElem_toArray, List.getElem_append_left hi] at this
    rw [Nat.mul_one, Nat.add_zero, this, ← hv]
    rfl
set_option maxRecDepth 100000 in
theorem idelete_any (B g o cap c2 blk n : Nat) (bs : List Bool) (l : List Nat) (w : World) {base : Nat} (hl : bs.length = 5) (hB : B < w.heap.size) (hc : w.cell? ⟨B, 0, none⟩ = some (.slice (some ⟨g, o, none⟩) 5 cap)) (hb : ∀ i, i < 5 → w.cell? ⟨g, o + i, none⟩ = some (.bool (bs.getD i false))) (h1 : B ≠ blk) (h2 : g ≠ blk)
    (h : RW w base 3 1 (.slice (some ⟨blk, 0, none⟩) n c2) (l.map natC)) (hn : n = l.length) (hlt : ∀ x ∈ l, x < 5) (hcc : n ≤ c2 ∧ c2 ≤ 9223372036854775807) :
    Calls Tryd.prog 21 #[.slice (some ⟨blk, 0, none⟩) n c2, .func (.func 23) #[] #[.pointer (some ⟨B, 0, none⟩)]] w fun e w' => e = .returned (.slice (some ⟨blk, 0, none⟩) (l.filter fun x => bs.getD x false).length c2) ∧ Rd w' 1 (.slice (some ⟨blk, 0, none⟩) (l.filter fun x => bs.getD x false).length c2) ((l.filter fun x => bs.getD x false).map natC) ∧ Only (· = blk) w w' := by
  obtain ⟨fs, rfl⟩ := fin_list l hlt
  have hn' : n = fs.length := by rw [hn, List.length_map]
  have hH := h.holdsF hn'
  have eg : ∀ args w, (callFunc 23 args).run Tryd.prog w = .ok (.enter 23 args) w := enters_of Tryd.func23 (by kernel_rfl) rfl
  have hcon := AnyE.slices_DeleteFunc delI finV (fun _ => rfl) (fun x => !bs.getD x.val false) 23 #[.pointer (some ⟨B, 0, none⟩)] eg 0 Tryd.zeroValue3 blk 0 c2 fs.toArray w (preds B g o cap bs w hl hB hc hb) (predsO B g o cap bs w hl hB hc hb blk 0 fs.toArray.size h1 h2) hH (by rw [List.size_toArray]; omega) (by rw [List.size_toArray]; omega)
  rw [← fin_filter, List.length_map]
  have e0 : (fs.toArray.toList.filter fun x => !(!bs.getD x.val false)) = fs.filter fun x => bs.getD x.val false := by simp
  rw [e0, show fs.toArray.size = n by rw [hn']; exact List.size_toArray] at hcon
  refine hcon.mono ?_
  rintro e w' ⟨rfl, q, rfl⟩
  have hfl : (fs.filter fun x => bs.getD x.val false).length ≤ n := by rw [hn']; exact List.length_filter_le _ _
  refine ⟨rfl, ?_, only_putRow _ _ _ _ _ _⟩
  exact rd_holdsF _ _ (Sort.holds_putRow finV (Sort.ahead w q) blk 0 fs.toArray _ (Sort.holds_ahead finV w q blk 0 _ hH) (by rw [List.size_toArray, List.size_toArray, List.length_append, List.length_replicate]; omega)) ⟨by omega, hcc.2⟩
end Go.Proofs.YtjhocaleampamaaDoor
/- (*ring.Ring).Stand: the walk. -/
namespace Go.Proofs.YtjhocaleampamaaDoor
open Go.RowKit Big
set_option linter.unusedVariables false
theorem stepS_up {up : Nat → Bool} {so : List (Nat × Nat)} {sr : List Nat} {x : Nat} (h : up x = true) : stepS up (so, sr) x = (so ++ [(x, x)], sr) := by unfold stepS; rw [if_pos h]
theorem stepS_nil {up : Nat → Bool} {so : List (Nat × Nat)} {x : Nat} (h : up x = false) : stepS up (so, []) x = (so, []) := by unfold stepS; rw [h]; rfl
theorem stepS_cons {up : Nat → Bool} {so : List (Nat × Nat)} {y : Nat} {r : List Nat} {x : Nat} (h : up x = false) : stepS up (so, y :: r) x = (so ++ [(y, x)], r) := by unfold stepS; rw [h]; rfl
/-- Who is up. -/
def upB (bs : List Bool) : Nat → Bool := fun x => bs.getD x false
def pairC (p : Nat × Nat) : List Value := [.int .i64 p.1, .int .i64 p.2]
theorem bigBl : BigT 23 (nvs .u8 (zN 32)) := BigT.of (by kernel_rfl) ⟨_, Tryd.underlying23, rfl⟩
theorem ldT_Bl (v : Value) : Instr.loadAt 23 v = ldT 23 v := rfl
theorem Tryd.info_pair : (Tryd.prog.info? 38).map (fun i => (i.zero.map (fun z => z.cells.size), i.size, decide (i.bytes ≤ 1000))) = some (some 2, 2, true) := by kernel_rfl
theorem Tryd.pair_parts : ∃ i z, Tryd.prog.info? 38 = some i ∧ i.zero = some z ∧ z.cells.size = 2 ∧ i.size = 2 ∧ i.bytes ≤ 1000 := by
  have h := Tryd.info_pair
  cases hi : Tryd.prog.info? 38 with
  | none => rw [hi] at h; cases h
  | some i =>
    rw [hi] at h
    simp only [Option.map_some, Option.some.injEq, Prod.mk.injEq, decide_eq_true_eq] at h
    obtain ⟨h1, h2, h3⟩ := h
    cases hz : i.zero with
    | none => rw [hz] at h1; cases h1
    | some z => rw [hz] at h1; exact ⟨i, z, rfl, hz, by simpa using h1, h2, h3⟩
theorem src_new (w : World) (r : List Value) (T : TypeId) (h1 : ∀ u ∈ r, u.oneCell' = true) : Src (w.alloc (.cells r.toArray T)) r.length (.slice (some ⟨w.heap.size, 0, none⟩) 1 1) [r] := by
  refine ⟨fun q hq => by rw [List.mem_singleton.1 hq], by simpa using h1, .inr ⟨_, 1, rfl, fun j u hu => ?_⟩⟩
  rw [Addr.add_mid, World.cell?_alloc_new, Nat.zero_add]
  simpa using hu
/-- A part of an owned row of numbers. -/
theorem RW.dropN {w : World} {base : Nat} {e : TypeId} {g n cap : Nat} {xs : List Nat} (h : RW w base e 1 (.slice (some ⟨g, 0, none⟩) n cap) (xs.map natC)) (hn : n = xs.length) (hc : n ≤ cap ∧ cap ≤ 9223372036854775807) {k : Nat} (hk : k ≤ n) {m c : Nat} (hm : m = n - k) (hcc : c = cap - k) : Rd w 1 (.slice (some ⟨g, k, none⟩) m c) ((xs.drop k).map natC) := by
  subst hm hcc
  refine ⟨fun r hr => ?_, some ⟨g, k, none⟩, cap - k, by rw [List.length_map, List.length_drop, hn], by rw [List.length_map, List.length_drop]; omega, by omega, fun _ => ⟨g, k, rfl, fun i hi => ?_⟩⟩
  · obtain ⟨x, _, rfl⟩ := List.mem_map.1 hr; rfl
  · rw [List.length_map, List.length_drop] at hi
    have := h.range (by rw [hn, List.length_map]) (i := k + i) (by rw [List.length_map]; omega)
    rw [List.getElem_map, Nat.mul_one] at this
    rw [List.getElem_map, List.getElem_drop, Nat.mul_one]
    exact this
theorem Rd.tailN {w : World} {g o m cap : Nat} {y : Nat} {r : List Nat} (h : Rd w 1 (.slice (some ⟨g, o, none⟩) m cap) ((y :: r).map natC)) {m2 c2 : Nat} (hm : m2 + 1 = m) (hc : c2 + 1 = cap) : Rd w 1 (.slice (some ⟨g, o + 1, none⟩) m2 c2) (r.map natC) := by
  obtain ⟨h1, ao, c, e, h2, h3, h4⟩ := h
  simp only [Value.slice.injEq] at e
  obtain ⟨rfl, rfl, rfl⟩ := e
  obtain ⟨g', o', e, hr⟩ := h4 (by simp)
  cases e
  simp only [List.map_cons, List.length_cons, List.length_map] at hm h2
  refine ⟨fun q hq => h1 q (by rw [List.map_cons]; exact List.mem_cons_of_mem _ hq), some ⟨g, o + 1, none⟩, c2, by rw [List.length_map]; congr 1; omega, by rw [List.length_map]; omega, by omega, fun _ => ⟨g, o + 1, rfl, fun i hi => ?_⟩⟩
  have := hr (i + 1) (by simpa using hi)
  simp only [List.map_cons, List.getElem_cons_succ, Nat.mul_one] at this
  rw [Nat.mul_one, show o + 1 + i = o + (i + 1) by omega]
  exact this
attribute [local go_sem ↓] ldT_Bl
set_option maxRecDepth 100000 in
set_option maxHeartbeats 4000000 in
theorem stand_any (p : Nat) (pts : List PT) (key : List UInt8) (bs : List Bool) (gu ou cu : Nat) (w : World) (hr : RingAt w p pts) (hok : PtsOk pts) (hk : key.length = 32) (hbl : bs.length = 5) (hup : Rd w 1 (.slice (some ⟨gu, ou, none⟩) 5 cu) (bs.map fun b => [Value.bool b])) :
    Calls Tryd.prog 7 #[.pointer (some ⟨p, 0, none⟩), .agg (key.map bv).toArray, .int .i64 3, .slice (some ⟨gu, ou, none⟩) 5 cu] w fun e w' => ∃ (v : Value) (xs : List Nat), e = .returned (.tuple #[v, .int .i64 0]) ∧ RW w' w.heap.size 38 2 v ((standL (upB bs) xs 3).map pairC) ∧ xs.Nodup ∧ (∀ x ∈ xs, x < 5) ∧ Below w.heap.size w w' := by
  obtain ⟨it, zz, hti, htz, hzc, hsz1, hby⟩ := Tryd.pair_parts
  obtain ⟨w1, hw1, hld, hcU, hB1, hs1⟩ : ∃ w1, w1 = (w.alloc (.cells (key.map bv).toArray 23)).alloc (.cells #[.slice (some ⟨gu, ou, none⟩) 5 cu] 24) ∧ (∀ n, (ldT 23 (.pointer (some ⟨w.heap.size, 0, none⟩))).run Tryd.prog (w1.drewN n) = .ok (.agg (key.map bv).toArray) (w1.drewN n)) ∧ w1.cell? ⟨w.heap.size + 1, 0, none⟩ = some (.slice (some ⟨gu, ou, none⟩) 5 cu) ∧ Below w.heap.size w w1 ∧ w1.heap.size = w.heap.size + 2 := by
    refine ⟨_, rfl, ?_, ?_, ((Below.refl _ _).alloc (Nat.le_refl _) _).alloc (by simp) _, by simp⟩
    · intro n
      refine run_ldT bigBl _ _ 0 (key.map bv) ?_ (by rw [List.length_map, hk, nvs_len, zN_len])
      have h := Go.Proofs.YtjhocaleampamaaDoor.rangeAt_keep (Go.Proofs.YtjhocaleampamaaDoor.rangeAt_alloc_new w (key.map bv) 23) ((Below.refl _ _).alloc (Nat.le_refl _) (.cells #[.slice (some ⟨gu, ou, none⟩) 5 cu] 24))
      exact h
    · rw [← World.size_alloc w (.cells (key.map bv).toArray 23), World.cell?_alloc_new]; rfl
  have hR1 := hr.keep hB1
  have hc0 := hR1.2.1
  have hcb : ∀ i, i < 5 → w1.cell? ⟨gu, ou + i, none⟩ = some (.bool (bs.getD i false)) := fun i hi => (hup.keep hB1).bool (by rw [hbl]; exact hi)
  have HF := Lib.hid (show ∀ n, (ldT 23 (.pointer (some ⟨w.heap.size, 0, none⟩))).run Tryd.prog (w1.drewN n) = .ok (.agg (key.map bv).toArray) (w1.drewN n) ∧ (w1.drewN n).cell? ⟨w.heap.size + 1, 0, none⟩ = some (.slice (some ⟨gu, ou, none⟩) 5 cu) ∧ Below w.heap.size w (w1.drewN n) ∧ w.heap.size + 2 ≤ (w1.drewN n).heap.size ∧ RingAt (w1.drewN n) p pts ∧ (∀ i, i < 5 → (w1.drewN n).cell? ⟨gu, ou + i, none⟩ = some (.bool (bs.getD i false))) from fun n =>
    ⟨hld n, hcU, ⟨hB1.os, hB1.tape, hB1.output, hB1.size, hB1.block⟩, Nat.le_of_eq hs1.symm, hR1, hcb⟩)
  have HW1 := Lib.hid hw1
  have HBL := Lib.hid hbl
  have HOK := Lib.hid hok
  have HK := Lib.hid hk
  have hgu : gu < w.heap.size := World.block_lt_of_cell? w _ (hup.bool (i := 0) (by rw [hbl]; omega))
  clear hw1 hs1 hr hok hk hbl hup hR1 hcb hld
  go_enter Tryd.func7, Tryd.ntmps7
  go_wp2_with fail
  rw [← HW1.out]
  clear HW1
  go_quiet (fail)
  have hF := HF.out nq
  clear HF hc0 hcU hB1
  generalize w1.drewN nq = w2 at *
  obtain ⟨hld, hcU, hB2, hs2, hR2, hcb⟩ := hF
  have hwk := walk_any p pts key w2 hR2 HOK.out HK.out
  have HB := Lib.hid hcb
  clear hcb hR2
  go_wp2_with fail
  refine hwk.mono ?_
  rintro e w3 ⟨v, xs, rfl, hX, hx5, hxn, hxl, hB3⟩
  clear hwk hld
  obtain ⟨g, cap, rfl, hg1, hg2, hg3, hg4⟩ := hX.shape (by intro e; rw [List.map_eq_nil_iff] at e; subst e; simp at hx5)
  rw [List.length_map] at *
  rw [hx5] at hX hg3 ⊢
  have hcU3 := (hB3.cell (p := ⟨w.heap.size + 1, 0, none⟩) (by show w.heap.size + 1 < _; omega)).trans hcU
  have hcb3 : ∀ i, i < 5 → w3.cell? ⟨gu, ou + i, none⟩ = some (.bool (bs.getD i false)) := fun i hi => (hB3.cell (p := ⟨gu, ou + i, none⟩) (World.block_lt_of_cell? w2 _ (HB.out i hi))).trans (HB.out i hi)
  have hB03 := hB2.trans (hB3.mono hB2.size)
  have hRd3 := hX.dropN hx5.symm ⟨hg3, hg4⟩ (k := 3) (m := 2) (c := cap - 3) (by omega) (by omega) rfl
  have hxl3 : (xs.drop 3).length = 2 := by rw [List.length_drop, hx5]
  have hcl := iclone_any g 3 2 (cap - 3) (xs.drop 3) w3 hRd3 (by omega)
  have hc3 : (3 : Int) ≤ cap := by omega
  have HX := Lib.hid (And.intro hX (And.intro hx5 (And.intro hxn (And.intro hxl (And.intro hg3 hg4)))))
  have HB3 := Lib.hid (And.intro hcb3 (And.intro hB03 hs2))
  have hs3 := hB3.size
  clear hX hx5 hxn hxl hg4 hRd3 hcb3 hB03 hB2 hB3 hcU
  go_wp2_with fail
  refine hcl.mono ?_
  rintro e w4 ⟨v4, rfl, hC, hB4⟩
  clear hcl
  obtain ⟨g2, c2, hv4, hb1, hb2, hb3, hb4⟩ := hC.shape (by intro e; rw [List.map_eq_nil_iff] at e; rw [e] at hxl3; simp at hxl3)
  rw [List.length_map, hxl3] at hv4 hb3
  subst hv4
  have hcU4 := (hB4.cell (p := ⟨w.heap.size + 1, 0, none⟩) (by show w.heap.size + 1 < _; omega)).trans hcU3
  have hcb4 : ∀ i, i < 5 → w4.cell? ⟨gu, ou + i, none⟩ = some (.bool (bs.getD i false)) := fun i hi => (hB4.cell (p := ⟨gu, ou + i, none⟩) (World.block_lt_of_cell? w3 _ (HB3.out.1 i hi))).trans (HB3.out.1 i hi)
  have hU2 : w.heap.size + 1 ≠ g2 := by omega
  have hgu2 : gu ≠ g2 := by omega
  have hdl := idelete_any (w.heap.size + 1) gu ou cu c2 g2 2 bs (xs.drop 3) w4 HBL.out (by omega) hcU4 hcb4 hU2 hgu2 hC hxl3.symm (fun x hx => HX.out.2.2.2.1 x (List.mem_of_mem_drop hx)) ⟨hb3, hb4⟩
  have hX4 := HX.out.1.keep hB4
  have HB4 := Lib.hid (And.intro (HB3.out.2.1.trans (hB4.mono HB3.out.2.1.size)) (And.intro hcb4 hX4))
  have hs4 := hB4.size
  have hgg : g ≠ g2 := by omega
  have hg2w : w.heap.size ≤ g2 := by omega
  have hoc : ((xs.drop 3).filter fun x => bs.getD x false).length ≤ c2 := by have := List.length_filter_le (fun x => bs.getD x false) (xs.drop 3); omega
  clear hcU3 hcb4 hX4 hC hB4
  generalize hoth : (xs.drop 3).filter (fun x => bs.getD x false) = oth at *
  have HO := Lib.hid hoth
  clear hoth
  rw [hxl3] at *
  go_wp2_with fail
  refine hdl.mono ?_
  rintro e w5 ⟨rfl, hRo, hO5⟩
  clear hdl
  have hcU5 := (hO5.cell (p := ⟨w.heap.size + 1, 0, none⟩) (by show w.heap.size + 1 < _; omega) hU2).trans hcU4
  have hcb5 : ∀ i, i < 5 → w5.cell? ⟨gu, ou + i, none⟩ = some (.bool (bs.getD i false)) := fun i hi => (hO5.cell (p := ⟨gu, ou + i, none⟩) (World.block_lt_of_cell? w4 _ (HB4.out.2.1 i hi)) hgu2).trans (HB4.out.2.1 i hi)
  have hX5 := HB4.out.2.2.only hO5 (fun q e h => by cases e; exact hgg h)
  have hB5 := HB4.out.1.trans (hO5.to_below HB4.out.1.size (fun q e => by rw [e]; exact hg2w))
  have hs5 := hO5.size
  have hx3 : ∀ j, j < 3 → w5.cell? ⟨g, j, none⟩ = some (.int .i64 ((xs.getD j 0 : Nat) : Int)) := fun j hj => by
    have := (hX5.dropN HX.out.2.1.symm ⟨hg3, HX.out.2.2.2.2.2⟩ (k := 0) (Nat.zero_le _) (m := 5) (c := cap) rfl rfl).nat (i := j) (by rw [List.drop_zero, HX.out.2.1]; omega)
    rwa [Nat.zero_add, List.drop_zero] at this
  have HF := Lib.hid (And.intro hcU5 (And.intro hcb5 (And.intro hx3 hB5)))
  clear hcU4 hcU5 hcb5 hX5 hB5 hx3 hO5 HB4 HB3
  have hgs : g2 < w5.heap.size := by omega
  go_wp2_with fail
  go_loopw [11, 12, 51] (fun ov outv cv wr => ∃ (j : Nat) (so : List (Nat × Nat)) (sr : List Nat) (k c : Nat), j ≤ 3 ∧ cv = .int .i64 (j : Int) ∧ (so, sr) = (xs.take j).foldl (stepS (upB bs)) ([], oth) ∧ ov = .slice (some ⟨g2, k, none⟩) sr.length c ∧ Rd wr 1 ov (sr.map natC) ∧ so.length ≤ j ∧ RW wr w5.heap.size 38 2 outv (so.map pairC) ∧ Below w5.heap.size w5 wr) (fun _ _ cv _ => 3 - (intOf cv).toNat)
  case atStart => exact ⟨0, [], oth, 0, c2, by omega, rfl, rfl, rfl, hRo, by simp, RW.nil _ _ _ _, Below.refl _ _⟩
  case round =>
    obtain ⟨j, so, sr, k, c, hj, rfl, hst, rfl, hRo, hsl, hOut, hBr⟩ := hrel
    by_cases hj3 : j < 3
    · have hj3' : (j : Int) < 3 := by omega
      obtain ⟨x, hx⟩ : ∃ x, x = xs.getD j 0 := ⟨_, rfl⟩
      have hjl : j < xs.length := by rw [HX.out.2.1]; omega
      have hx5' : x < 5 := by rw [hx]; exact HX.out.2.2.2.1 _ (by simp [List.getD, hjl])
      have hx5 : (x : Int) < 5 := by omega
      have hcx := (hBr.cell (p := ⟨g, j, none⟩) (World.block_lt_of_cell? w5 _ (HF.out.2.2.1 j hj3))).trans (HF.out.2.2.1 j hj3)
      rw [← hx] at hcx
      have hcU := (hBr.cell (p := ⟨w.heap.size + 1, 0, none⟩) (World.block_lt_of_cell? w5 _ HF.out.1)).trans HF.out.1
      have hcb := (hBr.cell (p := ⟨gu, ou + x, none⟩) (World.block_lt_of_cell? w5 _ (HF.out.2.1 x hx5'))).trans (HF.out.2.1 x hx5')
      have hstep : (xs.take (j + 1)).foldl (stepS (upB bs)) ([], oth) = stepS (upB bs) (so, sr) x := by
        rw [List.take_succ_eq_append_getElem hjl, List.foldl_append, ← hst, hx]
        simp [List.getD, hjl]
      generalize hbx : bs.getD x false = b at *
      have HST := Lib.hid hstep
      have HX2 := Lib.hid hx
      have HBX := Lib.hid (show upB bs x = b from hbx)
      clear hstep hx hst hbx
      cases b with
      | true =>
        have hA : Below wr.heap.size wr (wr.alloc (.cells #[.int .i64 x, .int .i64 x] 38)) := (Below.refl _ _).alloc (Nat.le_refl _) _
        have hRA := hOut.keep hA
        have hsA : Src (wr.alloc (.cells #[.int .i64 x, .int .i64 x] 38)) 2 (.slice (some ⟨wr.heap.size, 0, none⟩) 1 1) [pairC (x, x)] := src_new wr (pairC (x, x)) 38 (by intro u hu; simp [pairC] at hu; rcases hu with rfl | rfl <;> rfl)
        have hge2 : w5.heap.size ≤ (wr.alloc (.cells #[.int .i64 x, .int .i64 x] 38)).heap.size := Nat.le_trans hBr.size hA.size
        have hlm : (so.map pairC).length + [pairC (x, x)].length ≤ 100000000 := by rw [List.length_map, List.length_singleton]; omega
        obtain ⟨ro, rc, hvv, hz1, hz2, hz3⟩ := hOut.val
        clear hz1 hz2 hz3
        rw [List.length_map] at hvv
        subst hvv
        have hown := hRA.own_ge
        have HBA := Lib.hid (hBr.trans (hA.mono hBr.size))
        have HRA := Lib.hid (hRo.keep hA)
        clear hOut hBr hRo
        go_wp2_with (at_builtin; refine wp_appsv rfl _ _ 34 rfl it zz Tryd.underlying34 hti htz hsz1 hby hzc (by omega) hRA hsA hlm hge2 (by rfl) (by rfl) ?_)
        intro v3 w6 hR3 hg3' hn3
        have hO3 := Only.of_grown (S := fun q => (Value.slice ro so.length rc).ownBlock = some q) hg3' (fun q h => h)
        have hB6 := HBA.out.trans (hO3.to_below HBA.out.size (fun q e => hown q e))
        have hRo6 := HRA.out.only hO3 (fun q e h => by cases e; have : w5.heap.size ≤ g2 := hown _ h; omega)
        have HG := Lib.hid (And.intro hR3 (And.intro hB6 hRo6))
        clear hR3 hg3' hn3 hO3 hRA hsA hown hge2 hA hB6 hRo6 HBA HRA
        go_wp2_with fail
        go_roundw
        case rel =>
          refine ⟨j + 1, so ++ [(x, x)], sr, k, c, by omega, by go_num, by rw [HST.out, stepS_up HBX.out], rfl, HG.out.2.2, by rw [List.length_append, List.length_singleton]; omega, ?_, HG.out.2.1⟩
          rw [List.map_append]
          exact HG.out.1
        case measure => simp [intOf]; omega
      | false =>
        cases sr with
        | nil =>
          have HG := Lib.hid (And.intro hOut (And.intro hBr hRo))
          clear hOut hBr hRo
          go_wp2_with fail
          go_roundw
          case rel => exact ⟨j + 1, so, [], k, c, by omega, by go_num, by rw [HST.out, stepS_nil HBX.out], rfl, HG.out.2.2, by omega, HG.out.1, HG.out.2.1⟩
          case measure => simp [intOf]; omega
        | cons y r =>
          have hcy := hRo.nat (i := 0) (by simp)
          rw [Nat.add_zero, show (y :: r).getD 0 0 = y from rfl] at hcy
          have hrc : (r.length : Int) + 1 ≤ c := by
            obtain ⟨_, ao', c', e, h2, _⟩ := hRo
            simp only [Value.slice.injEq] at e
            obtain ⟨_, _, rfl⟩ := e
            rw [List.length_map, List.length_cons] at h2
            omega
          have hrc0 : (1 : Int) ≤ c := by omega
          have hrl : (0 : Int) < (r.length : Int) + 1 := by omega
          rw [List.length_cons] at *
          have hA : Below wr.heap.size wr (wr.alloc (.cells #[.int .i64 y, .int .i64 x] 38)) := (Below.refl _ _).alloc (Nat.le_refl _) _
          have hRA := hOut.keep hA
          have hsA : Src (wr.alloc (.cells #[.int .i64 y, .int .i64 x] 38)) 2 (.slice (some ⟨wr.heap.size, 0, none⟩) 1 1) [pairC (y, x)] := src_new wr (pairC (y, x)) 38 (by intro u hu; simp [pairC] at hu; rcases hu with rfl | rfl <;> rfl)
          have hge2 : w5.heap.size ≤ (wr.alloc (.cells #[.int .i64 y, .int .i64 x] 38)).heap.size := Nat.le_trans hBr.size hA.size
          have hlm : (so.map pairC).length + [pairC (y, x)].length ≤ 100000000 := by rw [List.length_map, List.length_singleton]; omega
          obtain ⟨ro, rc, hvv, hz1, hz2, hz3⟩ := hOut.val
          clear hz1 hz2 hz3
          rw [List.length_map] at hvv
          subst hvv
          have hown := hRA.own_ge
          have HBA := Lib.hid (hBr.trans (hA.mono hBr.size))
          have HRA := Lib.hid (hRo.keep hA)
          clear hOut hBr hRo
          go_wp2_with (at_builtin; refine wp_appsv rfl _ _ 34 rfl it zz Tryd.underlying34 hti htz hsz1 hby hzc (by omega) hRA hsA hlm hge2 (by rfl) (by rfl) ?_)
          intro v3 w6 hR3 hg3' hn3
          have hO3 := Only.of_grown (S := fun q => (Value.slice ro so.length rc).ownBlock = some q) hg3' (fun q h => h)
          have hB6 := HBA.out.trans (hO3.to_below HBA.out.size (fun q e => hown q e))
          have hRo6 := HRA.out.only hO3 (fun q e h => by cases e; have : w5.heap.size ≤ g2 := hown _ h; omega)
          have HG := Lib.hid (And.intro hR3 (And.intro hB6 (hRo6.tailN (m2 := r.length) (c2 := c - 1) rfl (by omega))))
          clear hR3 hg3' hn3 hO3 hRA hsA hown hge2 hA hB6 hRo6 HBA HRA
          go_wp2_with fail
          go_roundw
          case rel =>
            refine ⟨j + 1, so ++ [(y, x)], r, if c = 1 then k else k + 1, c - 1, by omega, by go_num, by rw [HST.out, stepS_cons HBX.out], ?_, ?_, by rw [List.length_append, List.length_singleton]; omega, ?_, HG.out.2.1⟩
            · split <;> rfl
            · by_cases hc1 : c = 1
              · obtain rfl : r = [] := List.eq_nil_of_length_eq_zero (by omega)
                exact ⟨by simp, _, c - 1, rfl, by simp, by omega, by simp⟩
              · rw [if_neg hc1]
                exact HG.out.2.2
            · rw [List.map_append]
              exact HG.out.1
          case measure => simp [intOf]; omega
    · have hjn : ¬ (j : Int) < 3 := by omega
      have hj : j = 3 := by omega
      subst hj
      have HG := Lib.hid (show so = standL (upB bs) xs 3 by
        have h2 := congrArg Prod.fst hst
        rw [← HO.out] at h2
        exact h2)
      have HR := Lib.hid (And.intro hOut hBr)
      clear hOut hBr hst hRo
      go_wp2_with fail
      go_ret2
      refine ⟨_, rfl, xs, ?_, HX.out.2.2.1, HX.out.2.2.2.1, HF.out.2.2.2.trans (HR.out.2.mono HF.out.2.2.2.size)⟩
      rw [← HG.out]
      exact HR.out.1.mono HF.out.2.2.2.size
end Go.Proofs.YtjhocaleampamaaDoor
