/- The statement 'CasketHides': it holds. The walk is proved in the texts that are imported; here it is carried to the given row. The listed tables: read off the datum. No condition of its own. -/
import Derived.Test.YtembfelckbmgiaaDoorLawCasketHides
import Derived.Test.YtembfelckbmgiaaDoorOpen
import Derived.LaidMore
import Derived.Lib.LaidTab
import Derived.Stop.LaidErr
import Derived.Stop.Joined
import Derived.SevenTiedAt
import Derived.Test.YtembfelckbmgiaaDoorCards
import Derived.Test.YtembfelckbmgiaaDoorTie
namespace Go.Proofs.YtembfelckbmgiaaDoor.casketHidesDone
open Go.ChangeShapes Go.WideShapes Go.ChangeAt Go.RowKit Go.Proofs.YtembfelckbmgiaaDoor Big
open Go.ChangeMaps (open_string shut_string)
set_option linter.unusedVariables false
theorem gKeys : Tryd.prog.globalNamed "casket/sha2.keys" = some 1 := by kernel_rfl
theorem gStart : Tryd.prog.globalNamed "casket/sha2.start" = some 0 := by kernel_rfl
def keyTab : List Int := shaKeys.map fun n : Nat => (n : Int)
def startTab : List Int := shaStart.map fun n : Nat => (n : Int)
def laid2 : List (String × DataW Unit) := [("casket/sha2.keys", Rows.laid_casket_sha2_keys), ("casket/sha2.start", Rows.laid_casket_sha2_start)]
theorem laid2_eq : laid2 = [("casket/sha2.keys", Lib.tabData .u32 keyTab), ("casket/sha2.start", Lib.tabData .u32 startTab)] := by kernel_rfl
theorem door_met (os : Os) (args : Array Value) : laidMetH Tryd.prog laid2 ((World.doorLaid Tryd.prog 19 os).forCall (fun _ _ => 0) ⟨#[], args, []⟩).memory :=
  laidMetH_of_parts3 (fuel := 8) (laidMet_of_run' 8 (by kernel_rfl) (by kernel_rfl)) (by kernel_rfl) (by kernel_rfl)
theorem tab_getD (l : List Nat) (j : Nat) : (l.map fun n : Nat => (n : Int)).getD j 0 = ((l.getD j 0 : Nat) : Int) := by
  simp only [List.getD, List.getElem?_map]
  cases l[j]? <;> rfl
/-- What the condition gives the walk: the two tables. -/
theorem of_laid {W : World} (h : laidMetH Tryd.prog laid2 W) : ShaAt W := by
  rw [MakeChecks.laidMetH_plain _ _ _ (by kernel_rfl), laid2_eq] at h
  have hk := Lib.tabIs_of_head gKeys (t := 90) (by kernel_rfl) Tryd.underlying90 Tryd.underlying67 (by kernel_rfl) (by kernel_rfl) h
  have hs := Lib.tabIs_of_head gStart (t := 68) (by kernel_rfl) Tryd.underlying68 Tryd.underlying67 (by kernel_rfl) (by kernel_rfl) (laidMet.tail h)
  refine ⟨fun i hi => ?_, fun j u hu => ?_⟩
  · rw [hk.cell gKeys i (by rw [show keyTab.length = 64 by kernel_rfl]; exact hi)]
    unfold keyTab
    rw [tab_getD]
  · have hj : j < shaStart.length := by have := (List.getElem?_eq_some_iff.1 hu).1; rwa [nvs_len] at this
    rw [Nat.zero_add, hs.cell gStart j (by unfold startTab; rw [List.length_map]; exact hj)]
    unfold startTab
    rw [tab_getD, ← hu]
    simp [nvs, nv, List.getD, hj]
instance : Inhabited NoteD := ⟨⟨undef, [], undef, [], false⟩⟩
theorem trod_struct3 {H : Type} {enc : TypeId × Value → H} {P : Program} {w : World} {base : Nat} {spare : Nat → Bool} {held : Bool} {t : TypeId} {f0 f1 f2 : Field} {fuel : Nat} {cs : List Value} {x : DataW H × List MemPlace} (ht : P.underlying t = some (.struct #[f0, f1, f2])) (h : DataW.trod enc P w base spare held fuel t cs = some x) :
    ∃ y0 y1 y2 n, DataW.trod enc P w base spare held n f0.type ((cs.drop f0.offset).take (P.cellsOf f0.type)) = some y0 ∧ DataW.trod enc P w base spare held n f1.type ((cs.drop f1.offset).take (P.cellsOf f1.type)) = some y1 ∧
      DataW.trod enc P w base spare held n f2.type ((cs.drop f2.offset).take (P.cellsOf f2.type)) = some y2 := by
  obtain ⟨xs, n, _, rfl, hl, hlen, hf⟩ := DataW.trod_struct ht h
  match xs, hlen with
  | [y0, y1, y2], _ => exact ⟨y0, y1, y2, n, by simpa using hf 0 f0 rfl, by simpa using hf 1 f1 rfl, by simpa using hf 2 f2 rfl⟩
theorem list3 {α : Type} {cs : List α} (h : cs.length = 3) : ∃ c0 c1 c2, cs = [c0, c1, c2] := by
  match cs, h with
  | [c0, c1, c2], _ => exact ⟨c0, c1, c2, rfl⟩
theorem open_notes {H : Type} {enc : TypeId × Value → H} {W : World} {a : Option Addr} {len cap : Nat} {d : DataW H} {p : List MemPlace}
    (h : DataW.Trod enc Tryd.prog W 0 (fun _ => true) true 22 (.slice a len cap) d p) : ∃ ys, NotesAt W (.slice a len cap) ys := by
  refine open_rows Tryd.underlying22 (n := 3) (by kernel_rfl) (by omega) noteC (fun y => Bsl W y.nv y.n ∧ Bsl W y.vv y.v) ?_ h
  intro fuel cs x hlen ht
  have hc0 : Tryd.prog.cellsOf 27 = 1 := by kernel_rfl
  have hc2 : Tryd.prog.cellsOf 4 = 1 := by kernel_rfl
  obtain ⟨y0, y1, y2, n', t0, t1, t2⟩ := trod_struct3 Tryd.underlying30 ht
  obtain ⟨u0, u1, u2, rfl⟩ := list3 hlen
  simp only [hc0, hc2] at t0 t1 t2
  obtain ⟨a0, l0, c0, b0, h0, r0⟩ := bytes_of_trod t0
  obtain ⟨a1, l1, c1, b1, h1, r1⟩ := bytes_of_trod t1
  obtain ⟨k2, h2, _⟩ := DataW.trod_bool Tryd.underlying4 t2
  simp at h0 h1 h2
  subst h0 h1 h2
  exact ⟨⟨_, b0, _, b1, k2⟩, rfl, r0, r1⟩
set_option maxRecDepth 100000 in
theorem lifted (os : Os) (started : os.Started) (H : Type) (enc : TypeId × Value → H) :
    ReturnsInHanded {} Tryd.checked os 3 .any (fun w args => (Rows.casketHidesSpec.pre enc Tryd.prog Tryd.f3 [] false w args ∧ laidMetH Tryd.prog laid2 w) ∧ sizedMet enc Tryd.prog Tryd.f3 (OpenSpec.ofChange Rows.casketHidesSpec) false w args)
      (Rows.casketHidesSpec.post enc Tryd.prog Tryd.f3 false true false false) := by
  refine returnsInHanded_of_change_and (C := Tryd.checked) (X := fun w _ => laidMetH Tryd.prog laid2 w) (fun _ _ _ hh h => h.of_heap hh) Tryd.own started (by kernel_rfl) Tryd.func3
    (ChangeSpec.witness_shaped (enc := enc) (C := Tryd.checked) (os := os) (X := fun w _ => laidMetH Tryd.prog laid2 w) false (World.doorLaid Tryd.prog 19 os) #[.slice none 0 0, .int .u8 0] 8 rfl (World.shaped_of_RefB (by kernel_rfl) (by kernel_rfl)) (by kernel_rfl) (by kernel_rfl) (by kernel_rfl) (door_met os _)) ?_
  intro W base args ds gs before hval0 hW _ _ hL _
  have hval : ∀ (j : Nat) t v, Tryd.f3.params[j]? = some t → args[j]? = some v → Value.okWide Tryd.prog W .any base t v := hval0
  have hW' := hW
  obtain ⟨p, q, hA0, hV, rfl, hfz, hnd⟩ := hW
  have hA : DataW.TrodAll enc Tryd.prog W 0 (fun _ => true) true Tryd.f3.params.toList args.toList ds p := hA0
  rw [Tryd.params3] at hA hval
  obtain ⟨v0, vs0, d0, ds0, p0, q0, hargs, rfl, rfl, h0, r0⟩ := trodAll_cons hA
  obtain ⟨v1, vs1, d1, ds1, p1, q1, rfl, rfl, rfl, h1, r1⟩ := trodAll_cons r0
  obtain ⟨rfl, rfl, rfl⟩ := trodAll_nil r1
  obtain rfl : args = #[v0, v1] := by cases args; simp_all
  obtain ⟨rfl, rfl⟩ := trodVars_none hV
  have k0 := h0
  have lt0 : ∀ x ∈ p0, x.block < W.heap.size := by obtain ⟨m, hm⟩ := k0; exact DataW.trod_lt m _ _ _ hm
  obtain ⟨a0, len0, cap0, rfl⟩ := okWide_slice Tryd.underlying22 (hval 0 22 v0 rfl rfl)
  obtain ⟨l0, b0⟩ := open_notes h0
  obtain ⟨a1, rfl, rfl, rfl, w1⟩ := open_int Tryd.underlying5 (hval 1 5 v1 rfl rfl) h1
  obtain ⟨c1, rfl⟩ : ∃ c : UInt8, a1 = (c.toNat : Int) := by
    have hw := w1
    simp only [Lit.wf, IntKind.min, IntKind.max, IntKind.signed, IntKind.bits, Bool.and_eq_true] at hw
    simp at hw
    refine ⟨UInt8.ofNat a1.toNat, ?_⟩
    rw [UInt8.toNat_ofNat']
    omega
  clear hA0 hval0
  refine (casketHides_walk _ l0 c1 W b0 (of_laid hL)).mono fun e W' ⟨he, bel⟩ => ?_
  subst he
  exact ⟨_, rfl, _, _, _, [], _, [], hW', trodAll_mk1 (shut_bool Tryd.underlying4 _), (trodAll_cons_mk (Below.trod Tryd.laidOut (by kernel_rfl) (of_decide_eq_true (by kernel_rfl)) k0 bel lt0) (trodAll_cons_mk (shut_int Tryd.underlying5 w1) trodAll_mk0)), rfl, bel.frame _, fun h => by cases h⟩
theorem over : Rows.casketHidesRow.holds Tryd.pinned (OpenSpec.ofChange Rows.casketHidesSpec) :=
  OpenClaim.holds_of_wide 3 Tryd.f3 rfl rfl rfl rfl rfl rfl rfl ⟨rfl, rfl, rfl, rfl, rfl⟩ rfl rfl rfl rfl rfl (by kernel_rfl) Tryd.func3 (by kernel_rfl)
    (of_decide_eq_true (by kernel_rfl)) (by unfold Func.isWrapper; rw [if_neg (by decide +kernel)]; exact ⟨rfl, rfl⟩)
    (fun os started H enc _ => lifted os started H enc)
theorem proved : Rows.CasketHidesCardSaid :=
  Claim7.holds_tied_plain_at .later [] [.data, .data] true (true, "feaee8597a4509ece3ef791cb515eb6cf4826cb297ecf2e5b68d609381d0e4a5") false
    over (fun _ h => by cases h) (by kernel_rfl) (fun _ h => by cases h) casketHides_row_tie rfl ⟨rfl, rfl⟩ (by kernel_rfl) rfl
    (fun f fn hf hfn => by
      obtain rfl : f = 3 := Option.some.inj ((show Tryd.prog.funcNamed "casket/caskettop.CasketHides" = some 3 by kernel_rfl).symm.trans hf) |>.symm
      obtain rfl : fn = Tryd.f3 := (Option.some.inj (Tryd.func3.symm.trans hfn)).symm
      exact ⟨by kernel_rfl, fun j t ht => by
        rw [Tryd.params3] at ht
        have hm : t ∈ [22, 5] := by simpa using Array.mem_of_getElem? ht
        have hall : ([22, 5].all fun u => !Tryd.prog.wantsStandIn u) = true := by kernel_rfl
        exact (show Tryd.prog.wantsStandIn t = false by simpa using List.all_eq_true.1 hall t hm)⟩)
    (by kernel_rfl)
#print axioms proved
end Go.Proofs.YtembfelckbmgiaaDoor.casketHidesDone
