/- The statement 'CasketRoutes': it holds. The walk is proved in the texts that are imported; here it is carried to the given row. The listed tables: read off the datum. No condition of its own. -/
import Derived.Test.YtjhocaleampamaaDoorLawCasketRoutes
import Derived.Test.YtjhocaleampamaaDoorOpenRows
import Derived.LaidMore
import Derived.Lib.LaidTab
import Derived.Stop.LaidErr
import Derived.Stop.Joined
import Derived.SevenTiedAt
import Derived.Test.YtjhocaleampamaaDoorCards
import Derived.Test.YtjhocaleampamaaDoorTie
namespace Go.Proofs.YtjhocaleampamaaDoor.casketRoutesDone
open Go.ChangeShapes Go.WideShapes Go.ChangeAt Go.RowKit Go.Proofs.YtjhocaleampamaaDoor Big
open Go.ChangeMaps (open_string shut_string)
set_option linter.unusedVariables false
theorem gKeys : Tryd.prog.globalNamed "casket/sha2.keys" = some 1 := by kernel_rfl
theorem gStart : Tryd.prog.globalNamed "casket/sha2.start" = some 0 := by kernel_rfl
def keyTab : List Int := shaKeys.map fun n : Nat => (n : Int)
def startTab : List Int := shaStart.map fun n : Nat => (n : Int)
def laid2 : List (String × DataW Unit) := [("casket/sha2.keys", Rows.laid_casket_sha2_keys), ("casket/sha2.start", Rows.laid_casket_sha2_start)]
theorem laid2_eq : laid2 = [("casket/sha2.keys", Lib.tabData .u32 keyTab), ("casket/sha2.start", Lib.tabData .u32 startTab)] := by kernel_rfl
theorem door_met (os : Os) (args : Array Value) : laidMetH Tryd.prog laid2 ((World.doorLaid Tryd.prog 19 os).forCall (fun _ _ => 0) ⟨#[], args, []⟩).memory :=
  laidMetH_of_parts3 (fuel := 8) (laidMet_of_run' 8 (by kernel_rfl) (by kernel_rfl)) (by kernel_rfl) (by kernel_rfl)
theorem tab_getD (l : List Nat) (j : Nat) : (l.map fun n : Nat => (n : Int)).getD j 0 = ((l.getD j 0 : Nat) : Int) := by
  simp only [List.getD, List.getElem?_map]
  cases l[j]? <;> rfl
/-- What the condition gives the walk: the two tables. -/
theorem of_laid {W : World} (h : laidMetH Tryd.prog laid2 W) : ShaAt W := by
  rw [MakeChecks.laidMetH_plain _ _ _ (by kernel_rfl), laid2_eq] at h
  have hk := Lib.tabIs_of_head gKeys (t := 126) (by kernel_rfl) Tryd.underlying126 Tryd.underlying98 (by kernel_rfl) (by kernel_rfl) h
  have hs := Lib.tabIs_of_head gStart (t := 99) (by kernel_rfl) Tryd.underlying99 Tryd.underlying98 (by kernel_rfl) (by kernel_rfl) (laidMet.tail h)
  refine ⟨fun i hi => ?_, fun j u hu => ?_⟩
  · rw [hk.cell gKeys i (by rw [show keyTab.length = 64 by kernel_rfl]; exact hi)]
    unfold keyTab
    rw [tab_getD]
  · have hj : j < shaStart.length := by have := (List.getElem?_eq_some_iff.1 hu).1; rwa [nvs_len] at this
    rw [Nat.zero_add, hs.cell gStart j (by unfold startTab; rw [List.length_map]; exact hj)]
    unfold startTab
    rw [tab_getD, ← hu]
    simp [nvs, nv, List.getD, hj]
set_option maxRecDepth 100000 in
theorem okWide_array {w : World} {r : Reach} {base : Nat} {t e : TypeId} {n : Nat} {v : Value} (ht : Tryd.prog.underlying t = some (.array n e)) (h : Value.okWide Tryd.prog w r base t v) : ∃ cs, v = .agg cs ∧ cs.size = Tryd.prog.cellsOf t := by
  simp only [Value.okWide, ht] at h
  obtain ⟨cs, h1, h2, _⟩ := h
  exact ⟨cs, h1, h2⟩
def byteOf (v : Value) : UInt8 := match v with
  | .int _ k => UInt8.ofNat k.toNat
  | _ => 0
set_option maxRecDepth 100000 in
/-- A key that came in. -/
theorem open_key {H : Type} {enc : TypeId × Value → H} {W : World} {b0 : Nat} {v : Value} {d : DataW H} {p : List MemPlace} (hval : Value.okWide Tryd.prog W .any b0 23 v)
    (h : DataW.Trod enc Tryd.prog W 0 (fun _ => true) true 23 v d p) : ∃ key : List UInt8, key.length = 32 ∧ v = .agg (key.map bv).toArray := by
  obtain ⟨ca, rfl, hsz⟩ := okWide_array Tryd.underlying23 hval
  obtain ⟨fuel, hf⟩ := h
  have hc : Tryd.prog.cellsOf 23 = 32 := by kernel_rfl
  have hcu : Tryd.prog.cellsOf 5 = 1 := by kernel_rfl
  rw [hc] at hsz
  obtain ⟨cs⟩ := ca
  have hsz : cs.length = 32 := by simpa using hsz
  have hf : DataW.trod enc Tryd.prog W 0 (fun _ => true) true fuel 23 cs = some (d, p) := by simpa [Value.cells] using hf
  obtain ⟨xs, m, _, _, _, hxl, hall⟩ := DataW.trod_array Tryd.underlying23 hf
  have hel : ∀ i (hi : i < cs.length), cs[i] = bv (byteOf cs[i]) := fun i hi => by
    have hx := hall i (by omega)
    rw [hcu, Nat.mul_one, List.getElem?_eq_getElem (by omega)] at hx
    obtain ⟨k, hk, _, hw⟩ := DataW.trod_int Tryd.underlying5 hx
    rw [List.drop_eq_getElem_cons hi, List.take_succ_cons, List.take_zero] at hk
    simp at hk
    rw [hk]
    simp only [Lit.wf, IntKind.min, IntKind.max, IntKind.signed, IntKind.bits, Bool.and_eq_true] at hw
    simp at hw
    simp only [byteOf, bv]
    congr 1
    rw [UInt8.toNat_ofNat']
    omega
  refine ⟨cs.map byteOf, by rw [List.length_map]; exact hsz, ?_⟩
  congr 1
  congr 1
  rw [List.map_map]
  apply List.ext_getElem
  · rw [List.length_map]
  · intro i h1 h2
    rw [List.getElem_map]
    exact hel i h1
theorem rows_rd1 {Y : Type} {w : World} {v : Value} {rec : Y → List Value} {ys : List Y} (h : RowsAt w v 1 rec ys) (hl : ∀ y, (rec y).length = 1) : Rd w 1 v (ys.map rec) ∧ ∀ m c, v = .slice none m c → c = 0 := by
  obtain ⟨ao, cap, rfl, h1, h2, h3, h4⟩ := h
  refine ⟨⟨fun r hr => ?_, ao, cap, by rw [List.length_map], by rw [List.length_map]; exact h1, h2, fun hne => ?_⟩, fun m c e => ?_⟩
  · obtain ⟨y, _, rfl⟩ := List.mem_map.1 hr
    exact hl y
  · obtain ⟨b, off, rfl, hc⟩ := h4 (fun e => hne (by rw [e]; rfl))
    refine ⟨b, off, rfl, fun i hi j u hu => ?_⟩
    rw [List.length_map] at hi
    rw [List.getElem_map] at hu
    have hj : j < 1 := by have := (List.getElem?_eq_some_iff.1 hu).1; rwa [hl] at this
    rw [hc i hi j hj]; exact hu
  · injection e with e1 e2 e3
    rw [← e3]; exact h3 e1
theorem open_up {H : Type} {enc : TypeId × Value → H} {W : World} {a : Option Addr} {len cap : Nat} {d : DataW H} {p : List MemPlace}
    (h : DataW.Trod enc Tryd.prog W 0 (fun _ => true) true 24 (.slice a len cap) d p) : ∃ us, UpAt W (.slice a len cap) us := by
  obtain ⟨us, hr, _⟩ := open_rows Tryd.underlying24 (n := 1) (by kernel_rfl) (by omega) (fun b : Bool => [Value.bool b]) (fun _ => True) (fun fuel cs x hlen ht => by
    obtain ⟨k, hk, _⟩ := DataW.trod_bool Tryd.underlying4 ht
    exact ⟨k, hk, trivial⟩) h
  exact ⟨us, rows_rd1 hr (fun _ => rfl)⟩
theorem open_order {H : Type} {enc : TypeId × Value → H} {W : World} {a : Option Addr} {len cap : Nat} {d : DataW H} {p : List MemPlace}
    (h : DataW.Trod enc Tryd.prog W 0 (fun _ => true) true 25 (.slice a len cap) d p) : ∃ ns : List Int, Rd W 1 (.slice a len cap) (ns.map intC) := by
  obtain ⟨ns, hr, _⟩ := open_rows Tryd.underlying25 (n := 1) (by kernel_rfl) (by omega) intC (fun _ => True) (fun fuel cs x hlen ht => by
    obtain ⟨k, hk, _⟩ := DataW.trod_int Tryd.underlying3 ht
    exact ⟨k, hk, trivial⟩) h
  exact ⟨ns, (rows_rd1 hr (fun _ => rfl)).1⟩
set_option maxRecDepth 100000 in
theorem lifted (os : Os) (started : os.Started) (H : Type) (enc : TypeId × Value → H) :
    ReturnsInHanded {} Tryd.checked os 3 .any (fun w args => (Rows.casketRoutesSpec.pre enc Tryd.prog Tryd.f3 [] false w args ∧ laidMetH Tryd.prog laid2 w) ∧ sizedMet enc Tryd.prog Tryd.f3 (OpenSpec.ofChange Rows.casketRoutesSpec) false w args)
      (Rows.casketRoutesSpec.post enc Tryd.prog Tryd.f3 false true false false) := by
  refine returnsInHanded_of_change_and (C := Tryd.checked) (X := fun w _ => laidMetH Tryd.prog laid2 w) (fun _ _ _ hh h => h.of_heap hh) Tryd.own started (by kernel_rfl) Tryd.func3
    (ChangeSpec.witness_shaped (enc := enc) (C := Tryd.checked) (os := os) (X := fun w _ => laidMetH Tryd.prog laid2 w) false (World.doorLaid Tryd.prog 19 os) #[.agg (List.replicate 32 (Value.int .u8 0)).toArray, .slice none 0 0, .slice none 0 0] 8 rfl (World.shaped_of_RefB (by kernel_rfl) (by kernel_rfl)) (by kernel_rfl) (by kernel_rfl) (by kernel_rfl) (door_met os _)) ?_
  intro W base args ds gs before hval0 hW _ _ hL _
  have hval : ∀ (j : Nat) t v, Tryd.f3.params[j]? = some t → args[j]? = some v → Value.okWide Tryd.prog W .any base t v := hval0
  have hW' := hW
  obtain ⟨p, q, hA0, hV, rfl, hfz, hnd⟩ := hW
  have hA : DataW.TrodAll enc Tryd.prog W 0 (fun _ => true) true Tryd.f3.params.toList args.toList ds p := hA0
  rw [Tryd.params3] at hA hval
  obtain ⟨v0, vs0, d0, ds0, p0, q0, hargs, rfl, rfl, h0, r0⟩ := trodAll_cons hA
  obtain ⟨v1, vs1, d1, ds1, p1, q1, rfl, rfl, rfl, h1, r1⟩ := trodAll_cons r0
  obtain ⟨v2, vs2, d2, ds2, p2, q2, rfl, rfl, rfl, h2, r2⟩ := trodAll_cons r1
  obtain ⟨rfl, rfl, rfl⟩ := trodAll_nil r2
  obtain rfl : args = #[v0, v1, v2] := by cases args; simp_all
  obtain ⟨rfl, rfl⟩ := trodVars_none hV
  have k0 := h0
  have lt0 : ∀ x ∈ p0, x.block < W.heap.size := by obtain ⟨m, hm⟩ := k0; exact DataW.trod_lt m _ _ _ hm
  obtain ⟨key, hkl, rfl⟩ := open_key (hval 0 23 v0 rfl rfl) h0
  have k1 := h1
  have lt1 : ∀ x ∈ p1, x.block < W.heap.size := by obtain ⟨m, hm⟩ := k1; exact DataW.trod_lt m _ _ _ hm
  obtain ⟨a1, len1, cap1, rfl⟩ := okWide_slice Tryd.underlying24 (hval 1 24 v1 rfl rfl)
  obtain ⟨us, b1⟩ := open_up h1
  have k2 := h2
  have lt2 : ∀ x ∈ p2, x.block < W.heap.size := by obtain ⟨m, hm⟩ := k2; exact DataW.trod_lt m _ _ _ hm
  obtain ⟨a2, len2, cap2, rfl⟩ := okWide_slice Tryd.underlying25 (hval 2 25 v2 rfl rfl)
  obtain ⟨ns, b2⟩ := open_order h2
  clear hA0 hval0
  refine (casketRoutes_walk key _ _ us ns W hkl b1 b2 (of_laid hL)).mono fun e W' ⟨he, bel⟩ => ?_
  subst he
  exact ⟨_, rfl, _, _, _, [], _, [], hW', trodAll_mk1 (shut_bool Tryd.underlying4 _), (trodAll_cons_mk (Below.trod Tryd.laidOut (by kernel_rfl) (of_decide_eq_true (by kernel_rfl)) k0 bel lt0) (trodAll_cons_mk (Below.trod Tryd.laidOut (by kernel_rfl) (of_decide_eq_true (by kernel_rfl)) k1 bel lt1) (trodAll_cons_mk (Below.trod Tryd.laidOut (by kernel_rfl) (of_decide_eq_true (by kernel_rfl)) k2 bel lt2) trodAll_mk0))), rfl, bel.frame _, fun h => by cases h⟩
theorem over : Rows.casketRoutesRow.holds Tryd.pinned (OpenSpec.ofChange Rows.casketRoutesSpec) :=
  OpenClaim.holds_of_wide 3 Tryd.f3 rfl rfl rfl rfl rfl rfl rfl ⟨rfl, rfl, rfl, rfl, rfl⟩ rfl rfl rfl rfl rfl (by kernel_rfl) Tryd.func3 (by kernel_rfl)
    (of_decide_eq_true (by kernel_rfl)) (by unfold Func.isWrapper; rw [if_neg (by decide +kernel)]; exact ⟨rfl, rfl⟩)
    (fun os started H enc _ => lifted os started H enc)
theorem proved : Rows.CasketRoutesCardSaid :=
  Claim7.holds_tied_plain_at .later [] [.data, .data] true (true, "65801d0e4c86d1288430a629ebf087ee2a4e65746ae4872eb7c3f961c8479f41") false
    over (fun _ h => by cases h) (by kernel_rfl) (fun _ h => by cases h) casketRoutes_row_tie rfl ⟨rfl, rfl⟩ (by kernel_rfl) rfl
    (fun f fn hf hfn => by
      obtain rfl : f = 3 := Option.some.inj ((show Tryd.prog.funcNamed "casket/caskettop.CasketRoutes" = some 3 by kernel_rfl).symm.trans hf) |>.symm
      obtain rfl : fn = Tryd.f3 := (Option.some.inj (Tryd.func3.symm.trans hfn)).symm
      exact ⟨by kernel_rfl, fun j t ht => by
        rw [Tryd.params3] at ht
        have hm : t ∈ [23, 24, 25] := by simpa using Array.mem_of_getElem? ht
        have hall : ([23, 24, 25].all fun u => !Tryd.prog.wantsStandIn u) = true := by kernel_rfl
        exact (show Tryd.prog.wantsStandIn t = false by simpa using List.all_eq_true.1 hall t hm)⟩)
    (by kernel_rfl)
#print axioms proved
end Go.Proofs.YtjhocaleampamaaDoor.casketRoutesDone
