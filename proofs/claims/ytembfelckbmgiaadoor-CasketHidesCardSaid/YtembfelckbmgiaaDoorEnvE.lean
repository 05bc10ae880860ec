/- envelope.Seal: both ways in one contract. -/
import Derived.Test.YtembfelckbmgiaaDoorEnvD
namespace Go.Proofs.YtembfelckbmgiaaDoor
open Go.RowKit Big
set_option linter.unusedVariables false
/-- What envelope.Seal has given, E the envelope's cells, er the word beside it. -/
def SealRes (B : Nat) (w' : World) (K : List UInt8) (p bn bu bt : Nat) (ns : List (List UInt8)) (cs : List Nat) (ts : List MapEntry) (x : List UInt8) (c : Nat) (E : List Value) (er : Int) : Prop :=
  E.length = 38 ∧ (∀ u ∈ E, u.oneCell' = true) ∧
  ((x = [] ∧ er = 1 ∧ VaultAt w' p K bn bu bt ns (usedL 0 cs) ts) ∨
   (x ≠ [] ∧ er = 0 ∧ ∃ sv ts', E = envC (drawL K 0 (numN x ns) 24) c sv ∧ Bsl w' sv (drawL K 1 (cs.length + 1) (64 + 8)) ∧ (∀ k, sv.ownBlock = some k → B ≤ k) ∧ VaultAt w' p K bn bu bt (addN x ns) (usedL 0 (cs ++ [c])) ts' ∧ TsOk ts' (cs ++ [c])))
theorem SealRes.only {B : Nat} {S : Nat → Prop} {w w' : World} {K : List UInt8} {p bn bu bt : Nat} {ns : List (List UInt8)} {cs : List Nat} {ts : List MapEntry} {x : List UInt8} {c : Nat} {E : List Value} {er : Int}
    (h : SealRes B w K p bn bu bt ns cs ts x c E er) (ho : Only S w w') (hS : ∀ k, S k → ∃ es, MapAt w k es) (h0 : ¬ S p) (h1 : ¬ S bn) (h2 : ¬ S bu) (h3 : ¬ S bt) : SealRes B w' K p bn bu bt ns cs ts x c E er := by
  refine ⟨h.1, h.2.1, ?_⟩
  rcases h.2.2 with ⟨e, e2, hV⟩ | ⟨e, e2, sv, ts', e3, hb, hso, hV, hT⟩
  · exact .inl ⟨e, e2, hV.only ho h0 h1 h2 h3⟩
  · exact .inr ⟨e, e2, sv, ts', e3, hb.maps ho hS, hso, hV.only ho h0 h1 h2 h3, hT⟩
theorem SealRes.keep {B : Nat} {w w' : World} {K : List UInt8} {p bn bu bt : Nat} {ns : List (List UInt8)} {cs : List Nat} {ts : List MapEntry} {x : List UInt8} {c : Nat} {E : List Value} {er : Int}
    (h : SealRes B w K p bn bu bt ns cs ts x c E er) (hb : Below w.heap.size w w') : SealRes B w' K p bn bu bt ns cs ts x c E er :=
  h.only (Only.of_below (S := fun _ => False) hb) (fun _ h => h.elim) (fun h => h) (fun h => h) (fun h => h) (fun h => h)
/-- What turns blocks below B alone. -/
theorem SealRes.low {B : Nat} {S : Nat → Prop} {w w' : World} {K : List UInt8} {p bn bu bt : Nat} {ns : List (List UInt8)} {cs : List Nat} {ts : List MapEntry} {x : List UInt8} {c : Nat} {E : List Value} {er : Int}
    (h : SealRes B w K p bn bu bt ns cs ts x c E er) (ho : Only S w w') (hS : ∀ k, S k → k < B) (h0 : ¬ S p) (h1 : ¬ S bn) (h2 : ¬ S bu) (h3 : ¬ S bt) : SealRes B w' K p bn bu bt ns cs ts x c E er := by
  refine ⟨h.1, h.2.1, ?_⟩
  rcases h.2.2 with ⟨e, e2, hV⟩ | ⟨e, e2, sv, ts', e3, hb, hso, hV, hT⟩
  · exact .inl ⟨e, e2, hV.only ho h0 h1 h2 h3⟩
  · exact .inr ⟨e, e2, sv, ts', e3, hb.only ho (fun k hk hk2 => Nat.lt_irrefl _ (Nat.lt_of_lt_of_le (hS k hk2) (hso k hk))), hso, hV.only ho h0 h1 h2 h3, hT⟩
theorem SealRes.mono {B B' : Nat} {w : World} {K : List UInt8} {p bn bu bt : Nat} {ns : List (List UInt8)} {cs : List Nat} {ts : List MapEntry} {x : List UInt8} {c : Nat} {E : List Value} {er : Int}
    (h : SealRes B w K p bn bu bt ns cs ts x c E er) (hB : B' ≤ B) : SealRes B' w K p bn bu bt ns cs ts x c E er := by
  refine ⟨h.1, h.2.1, ?_⟩
  rcases h.2.2 with h | ⟨e, e2, sv, ts', e3, hb, hso, hV, hT⟩
  · exact .inl h
  · exact .inr ⟨e, e2, sv, ts', e3, hb, fun k hk => Nat.le_trans hB (hso k hk), hV, hT⟩
theorem eseal_both (vn vv : Value) (x y : List UInt8) (c : Nat) (del : Bool) (w : World) {p bn bu bt : Nat} {K : List UInt8} {ns : List (List UInt8)} {cs : List Nat} {ts : List MapEntry} (h : VaultAt w p K bn bu bt ns (usedL 0 cs) ts) (ht : TsOk ts cs) (hc : c ∉ cs) (hc2 : 1 ≤ c ∧ c ≤ 1000)
    (hcs : cs.length ≤ 1000) (hns : ns.length ≤ 1000) (hbn : Bsl w vn x) (hbv : Bsl w vv y) (hx : x.length ≤ 64) (hy : y.length ≤ 59) :
    Calls Tryd.prog 7 #[.pointer (some ⟨p, 0, none⟩), vn, .agg (headC c).toArray, vv, .bool del] w fun e w' => ∃ E er, e = .returned (.tuple #[.agg E.toArray, .int .i64 er]) ∧ SealRes w.heap.size w' K p bn bu bt ns cs ts x c E er ∧ Only (fun k => k = bn ∨ k = bu ∨ k = bt) w w' := by
  by_cases h0 : x = []
  · refine (eseal_bad vn vv c p del w (h0 ▸ hbn)).mono ?_
    rintro e w' ⟨rfl, hB⟩
    exact ⟨zE, 1, rfl, ⟨zE_len, zE_one, .inl ⟨h0, rfl, h.keep hB⟩⟩, Only.of_below hB⟩
  · have hx1 : 1 ≤ x.length := List.length_pos_iff.2 h0
    refine (eseal_any vn vv x y c del w h ht hc hc2 hcs hns hbn hbv ⟨hx1, hx⟩ hy).mono ?_
    rintro e w' ⟨sv, ts', rfl, hb, hso, hV, hT, hO⟩
    obtain ⟨a, cap, e⟩ := hb.val'
    refine ⟨envC (drawL K 0 (numN x ns) 24) c sv, 0, rfl, ⟨envC_len _ _ _ (drawL_len _ _ _ _), ?_, .inr ⟨h0, rfl, sv, ts', rfl, hb, hso, hV, hT⟩⟩, hO⟩
    rw [e]
    exact envC_one _ _ _ _ _
end Go.Proofs.YtembfelckbmgiaaDoor
