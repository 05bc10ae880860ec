/- casketref22: rows, numbers. -/
import Derived.Test.YtanghmpphlmpkaaMsgRD
import Derived.Test.YtanghmpphlmpkaaRefIn
namespace Go.Proofs.Ytanghmpphlmpkaa
open Go.RowKit
set_option linter.unusedVariables false
theorem bytesL_len (l : List UInt8) : (bytesL l).length = 4 + l.length := by simp [bytesL, putLowL_length]
def strC (l : List UInt8) : List Value := [.string ⟨l.toArray⟩]
def rrC (r : RwD) : List Value := [.string ⟨r.key.toArray⟩, .string ⟨r.set.toArray⟩]
/-- The document's message, with the values of its parts. -/
structure FV where
  m : MD
  av : Value
  dv : Value
  rv : Value
def FV.C (x : FV) : List Value := [.int .i64 x.m.kind, .int .i64 x.m.frm, .int .i64 x.m.ask, .int .i64 x.m.err, .int .i64 x.m.hold, .int .i64 x.m.level, .string ⟨x.m.row.key.toArray⟩, .string ⟨x.m.row.set.toArray⟩, x.av, x.dv, x.rv]
def FV.At (w : World) (x : FV) : Prop := Rd w 1 x.av (x.m.ats.map intC) ∧ Rd w 1 x.dv (x.m.digs.map strC) ∧ Rd w 2 x.rv (x.m.rows.map rrC) ∧ (∀ n ∈ x.m.ats, i64 n) ∧ (i64 x.m.kind ∧ i64 x.m.frm ∧ i64 x.m.ask ∧ i64 x.m.err ∧ i64 x.m.hold ∧ i64 x.m.level)
theorem FV.At.keep {w w' : World} {x : FV} (h : x.At w) (hb : Below w.heap.size w w') : x.At w' := ⟨h.1.keep hb, h.2.1.keep hb, h.2.2.1.keep hb, h.2.2.2⟩
theorem Stp.rowF (d : IK) : Stp d pRow ((d.fixS 32).bytS 1048576) ⟨d.fixL 32, (d.fixS 32).bytL 1048576⟩ := (Stp.row d).val (fun he => by
  have h3 : (d.fixS 32).e = 0 := by
    by_cases hc : (d.fixS 32).e = 0
    · exact hc
    · exact absurd he ((Stp.byt (d.fixS 32) 1048576).2.1 hc)
  rw [padK_32 (fixL_32 h3)])
theorem bigF : BigT 23 [.string ⟨#[]⟩, .string ⟨#[]⟩] := BigT.of (by kernel_rfl) ⟨_, Try.underlying23, rfl⟩
theorem range2 {w : World} (b : Nat) (v0 v1 : Value) {u0 u1 : Value} (c0 : w.cell? ⟨b, 0, none⟩ = some u0) (c1 : w.cell? ⟨b, 1, none⟩ = some u1) : ((w.setCell ⟨b, 0, none⟩ v0).setCell ⟨b, 1, none⟩ v1).rangeAt b 0 [v0, v1] := by
  intro j v hv
  rw [Nat.zero_add]
  match j, hv with
  | 0, hv =>
    cases hv
    rw [World.cell?_setCell_other _ _ _ _ (by simp)]
    exact World.cell?_setCell_same w _ _ c0
  | 1, hv =>
    cases hv
    exact World.cell?_setCell_same (w.setCell ⟨b, 0, none⟩ v0) _ _ (by rw [World.cell?_setCell_other w _ _ _ (by simp)]; exact c1)
set_option maxRecDepth 100000 in
set_option maxHeartbeats 1000000 in
theorem ftake_any (w : World) {p : Nat} {d : IK} (h : RInAt w p d) (hl : d.b.length ≤ 1000000) :
    Calls Try.prog 33 #[.pointer (some ⟨p, 0, none⟩)] w fun e w' => ∃ (y : RwD) (d2 : IK), e = .returned (.agg #[.string ⟨y.key.toArray⟩, .string ⟨y.set.toArray⟩]) ∧ RInAt w' p d2 ∧ Stp d pRow d2 y ∧ Only (· = p) w w' ∧ y.key.length ≤ d.b.length := by
  have hpl := h.lt
  have hd := (Stp.fix d 32).1
  have hSt := Stp.rowF d
  go_enter Try.func33, Try.ntmps33
  go_wp2_with fail
  have hA1 : Below w.heap.size w (w.alloc (.cells #[.string ⟨#[]⟩, .string ⟨#[]⟩] 23)) := (Below.refl _ _).alloc (Nat.le_refl _) _
  have hI1 := h.keep hA1
  have c0 : (w.alloc (.cells #[.string ⟨#[]⟩, .string ⟨#[]⟩] 23)).cell? ⟨w.heap.size, 0, none⟩ = some (.string ⟨#[]⟩) := by rw [World.cell?_alloc_new]; rfl
  have c1 : (w.alloc (.cells #[.string ⟨#[]⟩, .string ⟨#[]⟩] 23)).cell? ⟨w.heap.size, 1, none⟩ = some (.string ⟨#[]⟩) := by rw [World.cell?_alloc_new]; rfl
  have f0 : (w.alloc (.cells #[.string ⟨#[]⟩, .string ⟨#[]⟩] 23)).frozen? ⟨w.heap.size, 0, none⟩ = false := by simp
  have f1 : (w.alloc (.cells #[.string ⟨#[]⟩, .string ⟨#[]⟩] 23)).frozen? ⟨w.heap.size, 1, none⟩ = false := by simp
  have hs1 : (w.alloc (.cells #[.string ⟨#[]⟩, .string ⟨#[]⟩] 23)).heap.size = w.heap.size + 1 := by simp
  generalize w.alloc (.cells #[.string ⟨#[]⟩, .string ⟨#[]⟩] 23) = w1 at *
  have hbl : w.heap.size < w1.heap.size := by omega
  have hbp : ¬ w.heap.size = p := by omega
  refine (rfixed_any 32 w1 hI1 hl).mono ?_
  rintro e w3 ⟨rfl, hI3, hE3⟩
  have hs3 := hE3.size
  have c0 := (hE3.cell (p := ⟨w.heap.size, 0, none⟩) hbl hbp).trans c0
  have c1 := (hE3.cell (p := ⟨w.heap.size, 1, none⟩) hbl hbp).trans c1
  have f0 := (hE3.frozen (p := ⟨w.heap.size, 0, none⟩) hbl hbp).trans f0
  have f1 := (hE3.frozen (p := ⟨w.heap.size, 1, none⟩) hbl hbp).trans f1
  unfold strV
  have hA4 : Below w3.heap.size w3 (w3.alloc (.cells #[.string ⟨(d.fixL 32).toArray⟩, .string ⟨#[]⟩] 23)) := (Below.refl _ _).alloc (Nat.le_refl _) _
  have k0 : (w3.alloc (.cells #[.string ⟨(d.fixL 32).toArray⟩, .string ⟨#[]⟩] 23)).cell? ⟨w3.heap.size, 0, none⟩ = some (.string ⟨(d.fixL 32).toArray⟩) := by rw [World.cell?_alloc_new]; rfl
  have k1 : (w3.alloc (.cells #[.string ⟨(d.fixL 32).toArray⟩, .string ⟨#[]⟩] 23)).cell? ⟨w3.heap.size, 1, none⟩ = some (.string ⟨#[]⟩) := by rw [World.cell?_alloc_new]; rfl
  have g1 : (w3.alloc (.cells #[.string ⟨(d.fixL 32).toArray⟩, .string ⟨#[]⟩] 23)).frozen? ⟨w3.heap.size, 1, none⟩ = false := by simp
  have hs4 : (w3.alloc (.cells #[.string ⟨(d.fixL 32).toArray⟩, .string ⟨#[]⟩] 23)).heap.size = w3.heap.size + 1 := by simp
  have hbl3 : w.heap.size < w3.heap.size := by omega
  have c0 := (hA4.cell (p := ⟨w.heap.size, 0, none⟩) hbl3).trans c0
  have c1 := (hA4.cell (p := ⟨w.heap.size, 1, none⟩) hbl3).trans c1
  have f0 := (hA4.frozen (p := ⟨w.heap.size, 0, none⟩) hbl3).trans f0
  have f1 := (hA4.frozen (p := ⟨w.heap.size, 1, none⟩) hbl3).trans f1
  have hI4 := hI3.keep hA4
  go_wp2_with fail
  have hEa : Only (· = p) w (w3.alloc (.cells #[.string ⟨(d.fixL 32).toArray⟩, .string ⟨#[]⟩] 23)) := ((Only.of_below (S := (· = p)) hA1).trans hE3 (fun _ _ e => e)).trans (Only.of_below (S := (· = p)) hA4) (fun _ _ e => e)
  generalize w3.alloc (.cells #[.string ⟨(d.fixL 32).toArray⟩, .string ⟨#[]⟩] 23) = w4 at *
  generalize hb2 : w3.heap.size = b2 at *
  have hbp2 : ¬ b2 = p := by omega
  have hbb : ¬ w.heap.size = b2 := by omega
  refine (rbytes_any 1048576 (by omega) w4 hI4 (by have : (d.fixS 32).b.length ≤ d.b.length := hd; omega)).mono ?_
  rintro e w5 ⟨rfl, hI5, hE5⟩
  have hb4l : w.heap.size < w4.heap.size := by omega
  have hb4k : b2 < w4.heap.size := by omega
  have c0 := (hE5.cell (p := ⟨w.heap.size, 0, none⟩) hb4l hbp).trans c0
  have c1 := (hE5.cell (p := ⟨w.heap.size, 1, none⟩) hb4l hbp).trans c1
  have f0 := (hE5.frozen (p := ⟨w.heap.size, 0, none⟩) hb4l hbp).trans f0
  have f1 := (hE5.frozen (p := ⟨w.heap.size, 1, none⟩) hb4l hbp).trans f1
  have k0 := (hE5.cell (p := ⟨b2, 0, none⟩) hb4k hbp2).trans k0
  have k1 := (hE5.cell (p := ⟨b2, 1, none⟩) hb4k hbp2).trans k1
  have g1 := (hE5.frozen (p := ⟨b2, 1, none⟩) hb4k hbp2).trans g1
  unfold strV
  have hEb := hEa.trans hE5 (fun _ _ e => e)
  clear hI1 hI3 hI4 hA1 hA4 hE3 hE5 hEa h
  go_wp2_with fail
  have hr := range2 w.heap.size (.string ⟨(d.fixL 32).toArray⟩) (.string ⟨((d.fixS 32).bytL 1048576).toArray⟩) (w := w5.setCell ⟨b2, 1, none⟩ (.string ⟨((d.fixS 32).bytL 1048576).toArray⟩)) (by rw [World.cell?_setCell_other w5 _ _ _ (by simp)]; exact c0) (by rw [World.cell?_setCell_other w5 _ _ _ (by simp)]; exact c1)
  have ho1 := Only.set1 w5 b2 1 (.string ⟨((d.fixS 32).bytL 1048576).toArray⟩)
  have ho2 := Only.set1 (w5.setCell ⟨b2, 1, none⟩ (.string ⟨((d.fixS 32).bytL 1048576).toArray⟩)) w.heap.size 0 (.string ⟨(d.fixL 32).toArray⟩)
  have ho3 := Only.set1 ((w5.setCell ⟨b2, 1, none⟩ (.string ⟨((d.fixS 32).bytL 1048576).toArray⟩)).setCell ⟨w.heap.size, 0, none⟩ (.string ⟨(d.fixL 32).toArray⟩)) w.heap.size 1 (.string ⟨((d.fixS 32).bytL 1048576).toArray⟩)
  have hI9 := ((hI5.only ho1 (fun e => hbp2 e.symm)).only ho2 (fun e => hbp e.symm)).only ho3 (fun e => hbp e.symm)
  have hEc := (((hEb.trans ho1 (fun i hi e => by omega)).trans ho2 (fun i hi e => by omega)).trans ho3 (fun i hi e => by omega))
  refine bodyPost_ret (results_cell Try.results33 rfl (run_lvT bigF _ w.heap.size 0 _ hr rfl)) rfl ?_
  exact ⟨⟨d.fixL 32, (d.fixS 32).bytL 1048576⟩, _, rfl, hI9, hSt, hEc, fixL_le d 32⟩
set_option maxRecDepth 100000 in
set_option maxHeartbeats 1000000 in
theorem fnumbers_any (w : World) {p : Nat} {d : IK} (h : RInAt w p d) (hl : d.b.length ≤ 1000000) :
    Calls Try.prog 35 #[.pointer (some ⟨p, 0, none⟩)] w fun e w' => ∃ (v : Value) (xs : List Int) (d2 : IK), e = .returned v ∧ RW w' w.heap.size 3 1 v (xs.map intC) ∧ (∀ n ∈ xs, i64 n) ∧ xs.length ≤ 255 ∧ RInAt w' p d2 ∧ Stp d (pMany (pNum 8 255)) d2 xs ∧ Only (· = p) w w' := by
  have hpl := h.lt
  have hb := numN_b d 1 255 (by omega)
  have hS1 := Stp.num d 1 255
  obtain ⟨it, zz, hti, htz, hzc, hsz1, hby⟩ := Try.int_parts
  go_enter Try.func35, Try.ntmps35
  go_wp2_with fail
  refine (rsmall_any 255 (by omega) w h hl).mono ?_
  rintro e w1 ⟨rfl, hI1, hE1⟩
  generalize d.numN 1 255 = n0 at *
  obtain ⟨N, rfl⟩ := Int.eq_ofNat_of_zero_le hb.1
  have hN : N ≤ 255 := by omega
  generalize d.numS 1 255 = d1 at *
  have hd1 := hS1.1
  clear h
  go_wp2_with fail
  go_loopw [3, 5] (fun v j wr => ∃ (k : Nat) (xs : List Int) (dk : IK), k ≤ N ∧ j = .int .i64 k ∧ xs.length = k ∧ RW wr w.heap.size 3 1 v (xs.map intC) ∧ (∀ n ∈ xs, i64 n) ∧ RInAt wr p dk ∧ Stp d1 (pRep (pNum 8 255) k) dk xs ∧ Only (· = p) w wr) (fun _ j _ => N - (intOf j).toNat)
  case atStart => exact ⟨0, [], d1, Nat.zero_le _, rfl, rfl, RW.nil _ _ _ _, by simp, hI1, Stp.of _ _, hE1⟩
  case round =>
    obtain ⟨k, xs, dk, hk, rfl, hxl, hR, hxs, hI, hS, hE⟩ := hrel
    clear hI1 hE1
    by_cases hlt : k < N
    · by_cases he0 : dk.e = 0
      · have hlt2 : (k : Int) < N := by omega
        have hk0 : (0 : Int) ≤ k := Int.natCast_nonneg _
        have hbn := numN_b dk 8 255 (by omega)
        have hSn := Stp.num dk 8 255
        have hdk := hS.1
        subst hxl
        obtain ⟨ro, rc, hvv, hz1, hz2, hz3⟩ := hR.val
        clear hz1 hz2 hz3
        rw [List.length_map] at hvv
        subst hvv
        have ce := hI.1.2
        rw [he0] at ce
        go_wp2_with fail
        refine (rnum_any 255 (by omega) wr hI (by omega)).mono ?_
        rintro e w2 ⟨rfl, hI2, hE2⟩
        generalize dk.numN 8 255 = n2 at *
        generalize dk.numS 8 255 = d2 at *
        have hR2 := hR.only hE2 (fun k hk e => by have := hR.own_ge k hk; omega)
        have hA : Below w2.heap.size w2 (w2.alloc (.cells #[.int .i64 n2] 3)) := (Below.refl _ _).alloc (Nat.le_refl _) _
        have hRA := hR2.keep hA
        have hsA : RW (w2.alloc (.cells #[.int .i64 n2] 3)) 0 3 1 (.slice (some ⟨w2.heap.size, 0, none⟩) 1 1) [[.int .i64 n2]] := ⟨World.ownsRow_lit _ _ 1 (Nat.zero_le _) (by unfold maxLen; omega) rfl, by intro q hq; rw [List.mem_singleton.1 hq]; rfl⟩
        have hge : w.heap.size ≤ w2.heap.size := Nat.le_trans hE.size hE2.size
        have hge2 : w.heap.size ≤ (w2.alloc (.cells #[.int .i64 n2] 3)).heap.size := Nat.le_trans hge hA.size
        have hlm : (xs.map intC).length + 1 ≤ 100000000 := by rw [List.length_map]; omega
        have hIA := hI2.keep hA
        have hEA : Only (· = p) w (w2.alloc (.cells #[.int .i64 n2] 3)) := (hE.trans hE2 (fun _ _ e => e)).trans (Only.of_below (S := (· = p)) hA) (fun _ _ e => e)
        have hSX := Lib.hid (hS.snoc hSn)
        clear hS hSn hR hR2 hI hI2 hE hE2 ce
        go_wp2_with (at_builtin; refine wp_apprs rfl _ _ 24 rfl it zz Try.underlying24 hti htz hsz1 hby hzc (by omega) hRA hsA rfl (by intro u hu; simp at hu; subst hu; rfl) hlm hge2 (by rfl) (by rfl) ?_)
        intro v3 w3 hR3 hg3 hn3 hnil3
        have hI3 := hIA.only (Only.of_grown (S := fun q => (Value.slice ro xs.length rc).ownBlock = some q) hg3 (fun q h => h)) (fun e => by have := hRA.own_ge _ e; omega)
        have hE3 : Only (· = p) w w3 := (hEA.trans (Only.of_grown (S := fun q => (Value.slice ro xs.length rc).ownBlock = some q) hg3 (fun q h => h)) (fun i hi e => by have := hRA.own_ge _ e; omega))
        have HF := Lib.hid (And.intro hR3 (And.intro hI3 hE3))
        have hxs2 : ∀ n ∈ xs ++ [n2], i64 n := fun n hn => (List.mem_append.1 hn).elim (hxs n) (fun e => by rw [List.mem_singleton.1 e]; exact ⟨by omega, by omega⟩)
        clear hR3 hI3 hE3 hEA hIA hRA hsA hg3 hn3 hnil3
        go_wp2_with fail
        go_roundw
        case rel =>
          refine ⟨xs.length + 1, xs ++ [n2], d2, hlt, by go_num, by simp, ?_, hxs2, HF.out.2.1, hSX.out, HF.out.2.2⟩
          have := HF.out.1
          rw [List.map_append]; exact this
        case measure => simp [intOf]; omega
      · have hlt2 : (k : Int) < N := by omega
        have ce := hI.1.2
        have hSt := hS1.next (f := fun n => pRep (pNum 8 255) n.toNat) (x := (N : Int)) (by rw [Int.toNat_natCast]; exact hS.stop xs he0 (by omega))
        have HF := Lib.hid (And.intro hR (And.intro hxs (And.intro hI (And.intro hSt (And.intro hE hxl)))))
        clear hR hxs hI hSt hE hS hS1 hxl
        go_wp2_with fail
        go_ret
        obtain ⟨h1, h2, h3, h4, h5, h6⟩ := HF.out
        exact ⟨_, xs, dk, rfl, h1, h2, by omega, h3, h4, h5⟩
    · have hke : k = N := by omega
      subst hke
      have hSt := hS1.next (f := fun n => pRep (pNum 8 255) n.toNat) (x := (k : Int)) (by rw [Int.toNat_natCast]; exact hS)
      have HF := Lib.hid (And.intro hR (And.intro hxs (And.intro hI (And.intro hSt (And.intro hE hxl)))))
      clear hR hxs hI hSt hE hS hS1 hxl
      go_wp2_with fail
      go_ret
      obtain ⟨h1, h2, h3, h4, h5, h6⟩ := HF.out
      exact ⟨_, xs, dk, rfl, h1, h2, by omega, h3, h4, h5⟩
end Go.Proofs.Ytanghmpphlmpkaa
