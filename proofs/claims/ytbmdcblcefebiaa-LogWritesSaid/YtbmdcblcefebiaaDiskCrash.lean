/- disk.Disk: Crash. -/
import Derived.Test.YtbmdcblcefebiaaDiskParts
import Derived.Test.YtbmdcblcefebiaaDiskClone
import Derived.Test.YtbmdcblcefebiaaDiskWrite
import Derived.Deep.RegionHeld
import Derived.Deep.RegionLaw
namespace Go.Proofs.Ytbmdcblcefebiaa
open Go.RowKit
/-- v is a slice of the booleans l. -/
def BoolSl (w : World) (v : Value) (l : List Bool) : Prop := ∃ ao cap, v = .slice ao l.length cap ∧ l.length ≤ cap ∧ cap ≤ 9223372036854775807 ∧
  (l ≠ [] → ∃ b off, ao = some ⟨b, off, none⟩ ∧ ∀ j (hj : j < l.length), w.cell? ⟨b, off + j, none⟩ = some (.bool l[j]))
theorem BoolSl.nil (w : World) : BoolSl w (.slice none 0 0) [] := ⟨none, 0, rfl, by simp, by simp, by simp⟩
theorem BoolSl.only {S : Nat → Prop} {w w' : World} {v : Value} {l : List Bool} (h : BoolSl w v l) (ho : Only S w w') (hn : l ≠ [] → ∀ k, v.ownBlock = some k → ¬ S k) : BoolSl w' v l := by
  obtain ⟨ao, cap, rfl, h1, h2, h3⟩ := h
  refine ⟨ao, cap, rfl, h1, h2, fun hne => ?_⟩
  obtain ⟨b, off, rfl, hc⟩ := h3 hne
  refine ⟨b, off, rfl, fun j hj => ?_⟩
  have := hc j hj
  rw [ho.cell (World.block_lt_of_cell? w _ this) (hn hne b rfl)]; exact this
theorem BoolSl.keep {w w' : World} {v : Value} {l : List Bool} (h : BoolSl w v l) (hb : Below w.heap.size w w') : BoolSl w' v l := h.only (Only.of_below (S := fun _ => False) hb) (fun _ _ _ h => h)
/-- Of the writes, in their order, those that stay are laid down. -/
def lay : List (List UInt8) → List (Nat × List UInt8) → List Bool → List (List UInt8)
  | f, [], _ => f
  | f, _ :: _, [] => f
  | f, x :: xs, b :: bs => lay (if b then f.set x.1 x.2 else f) xs bs
theorem lay_nil (f : List (List UInt8)) : ∀ xs, lay f xs [] = f
  | [] => rfl
  | _ :: _ => rfl
theorem lay_length (xs : List (Nat × List UInt8)) : ∀ (f : List (List UInt8)) (bs : List Bool), (lay f xs bs).length = f.length := by
  induction xs with
  | nil => intro f bs; rfl
  | cons x xs ih =>
    intro f bs
    cases bs with
    | nil => rfl
    | cons b bs => rw [lay, ih]; split <;> simp
theorem lay_take_succ (xs : List (Nat × List UInt8)) : ∀ (f : List (List UInt8)) (bs : List Bool) (k : Nat) (hk : k < xs.length),
    lay f (xs.take (k + 1)) bs = if h : k < bs.length then (if bs[k] then (lay f (xs.take k) bs).set xs[k].1 xs[k].2 else lay f (xs.take k) bs) else lay f (xs.take k) bs := by
  induction xs with
  | nil => intro f bs k hk; simp at hk
  | cons x xs ih =>
    intro f bs k hk
    cases bs with
    | nil => simp [lay_nil]
    | cons b bs =>
      cases k with
      | zero => simp [lay]
      | succ k =>
        simp only [List.take_succ_cons, lay, List.getElem_cons_succ, List.length_cons]
        rw [ih _ bs k (by simpa using hk)]
        by_cases h : k < bs.length
        · rw [dif_pos h, dif_pos (by omega)]
        · rw [dif_neg h, dif_neg (by omega)]
def DK.crash (d : DK) (stay : List Bool) : DK := { now := lay d.fast d.loose stay, fast := lay d.fast d.loose stay, loose := [], fuse := 0, off := false }
/-- The sectors that stay. -/
theorem DiskAt.fastV {w : World} {p : Nat} {d : DK} {bs : Nat → Prop} (h : DiskAt w p d bs) (hne : d.fast ≠ []) : ∃ g cap,
    w.cell? ⟨p, 1, none⟩ = some (.slice (some ⟨g, 0, none⟩) d.fast.length cap) ∧ d.fast.length ≤ cap ∧ cap ≤ 9223372036854775807 ∧ g ≠ p ∧ bs g ∧ RW w 0 39 64 (.slice (some ⟨g, 0, none⟩) d.fast.length cap) (d.fast.map secC) ∧
    (∀ lv, w.cell? ⟨p, 2, none⟩ = some lv → lv.ownBlock ≠ some g) ∧
    (∀ k, k < d.fast.length → w.there g (k * 64) 64) ∧
    (∀ k, k < d.fast.length → ∀ s : List UInt8, s.length = 64 → DiskAt (w.setCells g (k * 64) (secC s)) p { d with fast := d.fast.set k s } bs ∧ DEff w (w.setCells g (k * 64) (secC s)) bs bs) := by
  have hlt := h.lt p h.hp
  obtain ⟨nv, fv, lv, ⟨c0, c1, c2, c3, c4⟩, hf, r1, r2, r3, n1, n2, n3, b, rfl⟩ := h
  obtain ⟨g, cap, rfl, _, _, h1, h2⟩ := r2.shape (by simpa using hne)
  rw [List.length_map] at c1 h1 
  have hgp : g ≠ p := fun e => n1.2.1 (by simp [Value.ownBlock, e])
  refine ⟨g, cap, c1, h1, h2, hgp, .inr (.inr (.inl rfl)), by simpa using r2, fun lv' h' => by rw [c2] at h'; cases h'; exact n3 g rfl, ?_, ?_⟩
  · intro k hk
    exact r2.there rfl (by simpa using hk)
  · intro k hk s hs
    have hset := r2.set rfl (i := k) (by simpa using hk) (r := secC s) (by rw [secC_length, hs])
    have hon : Only (· = g) w (w.setCells g (k * 64) (secC s)) := Only.setCells (S := (· = g)) rfl _ _ (Only.refl _ _)
    refine ⟨⟨nv, _, lv, ⟨?_, ?_, ?_, ?_, ?_⟩, fun j hj => (hon.frozen hlt (fun e => hgp e.symm)).trans (hf j hj), r1.only hon (fun q hq e => (n2 q hq).1 (by rw [e]; rfl)), by rw [← List.map_set] at hset; exact hset, r3.only hon (fun q hq e => n3 g rfl (e ▸ hq)), n1, n2, n3, ?_, rfl⟩, ?_⟩
    · exact (hon.cell (p := ⟨p, 0, none⟩) hlt (fun e => hgp e.symm)).trans c0
    · rw [List.length_map]
      exact (hon.cell (p := ⟨p, 1, none⟩) hlt (fun e => hgp e.symm)).trans c1
    · exact (hon.cell (p := ⟨p, 2, none⟩) hlt (fun e => hgp e.symm)).trans c2
    · exact (hon.cell (p := ⟨p, 3, none⟩) hlt (fun e => hgp e.symm)).trans c3
    · exact (hon.cell (p := ⟨p, 4, none⟩) hlt (fun e => hgp e.symm)).trans c4
    · simpa using b
    · exact ⟨hon.mono (fun i _ e => by subst e; exact .inr (.inr (.inl rfl))), fun _ h => .inl h⟩
/-- The sectors that are read, laid anew. -/
theorem DiskAt.setNow {w w2 : World} {p : Nat} {d : DK} {bs : Nat → Prop} (h : DiskAt w p d bs) (hB : Below w.heap.size w w2) {v : Value} {l : List (List UInt8)} (hr : RW w2 w.heap.size 39 64 v (l.map secC)) (hl : l.length = d.fast.length) :
    ∃ bs', DiskAt (w2.setCell ⟨p, 0, none⟩ v) p { d with now := l } bs' ∧ DEff w (w2.setCell ⟨p, 0, none⟩ v) bs bs' := by
  have hlt := h.lt p h.hp
  have hk := h.keep hB
  have hlt2 := hk.lt p hk.hp
  obtain ⟨nv, fv, lv, ⟨c0, c1, c2, c3, c4⟩, hf, r1, r2, r3, n1, n2, n3, b, rfl⟩ := h
  have hge := hr.own_ge
  have hon1 : Only (· = p) w2 (w2.setCell ⟨p, 0, none⟩ v) := Only.setCell (S := (· = p)) (Only.refl _ _) (p := ⟨p, 0, none⟩) (fun _ => rfl) _
  have cc : ∀ j, j ≠ 0 → (w2.setCell ⟨p, 0, none⟩ v).cell? ⟨p, j, none⟩ = w.cell? ⟨p, j, none⟩ := by
    intro j hj
    rw [World.cell?_setCell_other w2 _ _ _ (fun e => hj (by have := congrArg Addr.off e; simpa using this.symm))]
    exact hB.cell (p := ⟨p, j, none⟩) hlt
  have c0' := (hB.cell (p := ⟨p, 0, none⟩) hlt).trans c0
  refine ⟨_, ⟨v, fv, lv, ⟨World.cell?_setCell_same w2 _ _ c0', (cc 1 (by omega)).trans c1, (cc 2 (by omega)).trans c2, (cc 3 (by omega)).trans c3, (cc 4 (by omega)).trans c4⟩, ?_, ?_, ?_, ?_, ?_, ?_, ?_, ⟨hl, by show l.length ≤ 8192; have := b.1; have := b.2.1; omega, b.2.2⟩, rfl⟩, ?_, ?_⟩
  · intro j hj; rw [World.frozen?_setCell]; exact (hB.frozen (p := ⟨p, j, none⟩) hlt).trans (hf j hj)
  · exact (hr.mono (Nat.zero_le _)).only hon1 (fun k hk e => by have := hge k hk; omega)
  · exact (r2.keep hB).only hon1 (fun k hk e => n1.2.1 (e ▸ hk))
  · exact (r3.keep hB).only hon1 (fun k hk e => n1.2.2 (e ▸ hk))
  · exact ⟨fun e => by have := hge p e; omega, n1.2⟩
  · exact fun k hk => ⟨fun e => by have := hge k hk; have := r2.own_lt k e; omega, fun e => by have := hge k hk; have := r3.own_lt k e; omega⟩
  · exact n3
  · exact ((Only.of_below (S := fun k => k = p ∨ nv.ownBlock = some k ∨ fv.ownBlock = some k ∨ lv.ownBlock = some k) hB)).trans hon1 (fun i _ e => .inl e)
  · intro k hk
    rcases hk with hk | hk | hk
    · exact .inl (.inl hk)
    · exact .inr (hge k hk)
    · exact .inl (.inr (.inr hk))
def zLoo : Array Value := (.int .i64 0 :: List.replicate 64 (bv 0)).toArray
theorem zLoo_size : zLoo.size = 65 := by simp [zLoo]
theorem Try.info_looZ : (Try.prog.info? 81).map (fun i => i.zero.map (fun z => z.cells)) = some (some zLoo) := by kernel_rfl
theorem Try.loose_zero : ∃ i z, Try.prog.info? 81 = some i ∧ i.zero = some z ∧ z.cells = zLoo := by
  have h := Try.info_looZ
  cases hi : Try.prog.info? 81 with
  | none => rw [hi] at h; cases h
  | some i =>
    rw [hi] at h
    simp only [Option.map_some, Option.some.injEq] at h
    cases hz : i.zero with
    | none => rw [hz] at h; cases h
    | some z => rw [hz] at h; exact ⟨i, z, rfl, hz, by simpa using h⟩
def alG : Sem Value := Instr.alloc 81 true (.tuple #[])
theorem alG_eq : Instr.alloc 81 true (.tuple #[]) = alG := rfl
theorem run_alG (w : World) : alG.run Try.prog w = .ok (.pointer (some ⟨w.heap.size, 0, none⟩)) (w.alloc (.cells zLoo 81)) := by
  obtain ⟨i, z, hi, hz, hzc⟩ := Try.loose_zero
  simp [alG, Instr.alloc, zeroValue, typeInfo, hi, hz, newVar, newRow, hzc]
def ldL (v : Value) : Sem Value := Instr.loadAt 81 v
theorem ldL_eq (v : Value) : Instr.loadAt 81 v = ldL v := rfl
theorem run_ldL (w : World) (b o : Nat) (cs : List Value) (h : w.rangeAt b o cs) (hl : cs.length = 65) : (ldL (.pointer (some ⟨b, o, none⟩))).run Try.prog w = .ok (.agg cs.toArray) w :=
  run_loadAt_mid w b o _ cs _ h Try.underlying81 rfl (by rw [hl]; kernel_rfl)
def stL (v u : Value) : Sem Unit := Instr.storeAt 81 v u
theorem stL_eq (v u : Value) : Instr.storeAt 81 v u = stL v u := rfl
theorem run_stL (w : World) (b o : Nat) (cs : List Value) (h : w.there b o 65) (hl : cs.length = 65) (h1 : ∀ v ∈ cs, v.oneCell' = true) : (stL (.pointer (some ⟨b, o, none⟩)) (.agg cs.toArray)).run Try.prog w = .ok () (w.setCells b o cs) :=
  run_storeAt_mid w b o _ cs.toArray (by simpa [hl] using h) (by rw [List.size_toArray, hl]; kernel_rfl) (all_oneCell_toArray h1)
attribute [local go_sem ↓] alG_eq ldL_eq stL_eq
attribute [local go_sem] run_alG
set_option maxRecDepth 100000 in
set_option maxHeartbeats 1000000 in
theorem dcrash_any (stay : List Bool) (sv : Value) (w : World) {p : Nat} {d : DK} {bs : Nat → Prop} (h : DiskAt w p d bs) (hne : d.fast ≠ []) (hat : ∀ x ∈ d.loose, x.1 < d.fast.length) (hst : BoolSl w sv stay) (hsb : stay ≠ [] → ∀ k, sv.ownBlock = some k → ¬ bs k) :
    Calls Try.prog 24 #[.pointer (some ⟨p, 0, none⟩), sv] w fun e w' => e = .returned (.tuple #[]) ∧ ∃ bs', DiskAt w' p (d.crash stay) bs' ∧ DEff w w' bs bs' := by
  obtain ⟨lv, c2, f2, r3, hlp, hlb, hst2⟩ := h.looseV
  clear hst2
  obtain ⟨lo, lc, rfl, hlc, hlm, _⟩ := r3.val
  rename_i hl0
  clear hl0
  rw [List.length_map] at hlc c2
  obtain ⟨so, sc, rfl, hsc, hsm, hs0⟩ := id hst
  go_enter Try.func24, Try.ntmps24
  go_wp2_with fail
  have hlen0 : d.fast.length = d.now.length := by obtain ⟨_, _, _, _, _, _, _, _, _, _, _, b, _⟩ := h; exact b.1.symm
  have HE := Lib.hid hlen0
  clear hlen0
  go_loopw [13] (fun i wr => ∃ k : Nat, k ≤ d.loose.length ∧ i = .int .i64 k ∧ wr.cell? ⟨p, 2, none⟩ = some (.slice lo d.loose.length lc) ∧ DiskAt wr p { d with fast := lay d.fast (d.loose.take k) stay } bs ∧ DEff w wr bs bs) (fun i _ => d.loose.length - (intOf i).toNat)
  case atStart =>
    refine ⟨0, by omega, rfl, c2, ?_, DEff.refl _ _⟩
    rw [List.take_zero]; exact h
  case round =>
    clear c2 r3
    obtain ⟨k, hk, rfl, c2, hO, hE⟩ := hrel
    by_cases hlt : k < d.loose.length
    · obtain ⟨lv', c2', _, r3, _, _, hst2⟩ := hO.looseV
      clear hst2
      rw [c2] at c2'
      obtain rfl := Option.some.inj c2'
      obtain ⟨gl, cl, hsl, _, hgl, _, _⟩ := r3.shape (by intro e; have := congrArg List.length e; simp at this; simp [this] at hlt)
      simp only [Value.slice.injEq, List.length_map] at hsl
      obtain ⟨rfl, _, rfl⟩ := hsl
      have hrl := r3.range (by simp) (i := k) (by simpa using hlt)
      have hll := r3.2 _ (List.getElem_mem (n := k) (l := d.loose.map looC) (by simpa using hlt))
      simp only [List.getElem_map] at hrl hll
      have hat' := hat _ (List.getElem_mem hlt)
      have hstep := lay_take_succ d.loose d.fast stay k hlt
      generalize hx : d.loose[k] = x at *
      have hone := looC_one x
      generalize hcs : looC x = cs at *
      have hk8 : (k : Int) < d.loose.length := by omega
      have hk0 : (0 : Int) ≤ (k : Int) := Int.natCast_nonneg _
      have hth : (wr.alloc (.cells zLoo 81)).there wr.heap.size 0 65 := by
        intro j hj
        rw [World.cell?_alloc_new]
        refine ⟨?_, by simp⟩
        rw [Nat.zero_add, Array.getElem?_eq_getElem (by rw [zLoo_size]; exact hj)]; rfl
      have hld := run_ldL wr _ _ cs hrl hll
      have hst3 := run_stL (wr.alloc (.cells zLoo 81)) _ _ cs hth hll hone
      have hsame := World.rangeAt_setCells_same (wr.alloc (.cells zLoo 81)) wr.heap.size 0 cs (by rw [hll]; exact hth)
      have hB2 : Below wr.heap.size wr ((wr.alloc (.cells zLoo 81)).setCells wr.heap.size 0 cs) := Go.Proofs.Ytbmdcblcefebiaa.Below.setCells (Nat.le_refl _) _ _ ((Below.refl _ _).alloc (Nat.le_refl _) _)
      have hO2 := hO.keep hB2
      have hE2 : DEff w ((wr.alloc (.cells zLoo 81)).setCells wr.heap.size 0 cs) bs bs := hE.trans ⟨Only.of_below hB2, fun _ h => .inl h⟩
      have hpl := hO.lt p hO.hp
      have c2b := (hB2.cell (p := ⟨p, 2, none⟩) hpl).trans c2
      have hsl2 := hst.only hE2.only hsb
      have hnew : ∀ k, bs k → k ≠ wr.heap.size := fun k hk e => by have := hO.lt k hk; omega
      clear hB2 hrl hO hE r3 hth c2
      by_cases hks : k < stay.length
      · obtain ⟨_, _, hv, _, _, h3⟩ := hsl2
        simp only [Value.slice.injEq] at hv
        obtain ⟨rfl, _, rfl⟩ := hv
        obtain ⟨sb, soff, rfl, hcb⟩ := h3 (by intro e; simp [e] at hks)
        have hcb1 := hcb k hks
        have hks8 : (k : Int) < stay.length := by omega
        rw [dif_pos hks] at hstep
        clear hcb h3 hs0 hst hsb
        cases hb : stay[k] with
        | false =>
          rw [hb, if_neg (by simp)] at hstep
          rw [hb] at hcb1
          clear hb hcs hx
          have HS := Lib.hid hstep
          clear hstep
          go_wp2_with fail
          refine ⟨⟨k + 1, by omega, rfl, c2b, ?_, hE2⟩, by simp [intOf]; omega⟩
          rw [HS.out]; exact hO2
        | true =>
          rw [hb, if_pos rfl] at hstep
          rw [hb] at hcb1
          have HS := Lib.hid hstep
          have HC := Lib.hid hcs
          have HX := Lib.hid hx
          clear hb hcs hx hstep
          go_wp2_with fail
          generalize hbx : wr.heap.size = nb at *
          generalize (wr.alloc (.cells zLoo 81)).setCells nb 0 cs = W2 at *
          have hFl := lay_length (d.loose.take k) d.fast stay
          generalize lay d.fast (d.loose.take k) stay = F at *
          have hFne : F ≠ [] := by intro e; rw [e] at hFl; exact hne (List.eq_nil_of_length_eq_zero hFl.symm)
          have hlen2 : x.2.length = 64 := by rw [← HC.out, looC_length] at hll; omega
          have hlenc : (secC x.2).length = 64 := by rw [secC_length, hlen2]
          obtain ⟨gf, cf, c1, hcap, hcap2, hgp, hbg, _, hlg, hth, hset⟩ := DiskAt.fastV (w := W2.drew) hO2 hFne
          have hth1 := hth x.1 (by show _ < F.length; omega)
          obtain ⟨hO3, hE3⟩ := hset x.1 (by show _ < F.length; omega) x.2 hlen2
          have hlg1 := hlg _ c2b
          have hE4 : DEff w (W2.drew.setCells gf (x.1 * 64) (secC x.2)) bs bs := ⟨(hE2.only.drew).trans hE3.only (fun _ _ h => h), fun _ h => .inl h⟩
          have hb0 : W2.drew.cell? ⟨nb, 0, none⟩ = some (.int .i64 x.1) := hsame 0 _ (by rw [← HC.out]; rfl)
          have hb1 : W2.drew.rangeAt nb 1 (secC x.2) := by
            intro j u hu
            rw [Nat.add_comm 1 j, ← Nat.zero_add (j + 1)]
            exact hsame (j + 1) u (by rw [← HC.out]; simpa [looC, secC] using hu)
          have hgn : gf ≠ nb := hnew gf hbg
          have hon : Only (· = gf) W2.drew (W2.drew.setCells gf (x.1 * 64) (secC x.2)) := Only.setCells (S := (· = gf)) rfl _ _ (Only.refl _ _)
          have hpl2 : p < W2.heap.size := hO2.lt p hO2.hp
          have c1' := (hon.cell (p := ⟨p, 1, none⟩) hpl2 (fun e => hgp e.symm)).trans c1
          have c2' := (hon.cell (p := ⟨p, 2, none⟩) hpl2 (fun e => hgp e.symm)).trans c2b
          have hb0' := (hon.cell (p := ⟨nb, 0, none⟩) (World.block_lt_of_cell? W2 _ hb0) (fun e => hgn e.symm)).trans hb0
          have hb1' : (W2.drew.setCells gf (x.1 * 64) (secC x.2)).rangeAt nb 1 (secC x.2) := World.rangeAt_setCells_apart (w := W2.drew) hb1 _ _ _ (.inl hgn.symm)
          have hth' : (W2.drew.setCells gf (x.1 * 64) (secC x.2)).there gf (x.1 * 64) 64 := World.there_setCells hth1 _ _ _
          have hx0 : (0 : Int) ≤ (x.1 : Int) := Int.natCast_nonneg _
          have hx8 : (x.1 : Int) < F.length := by omega
          have honec : ∀ v ∈ secC x.2, v.oneCell' = true := bv_one x.2
          have hiS : (Try.prog.info? 39).map (·.size) = some (secC x.2).length := by rw [hlenc]; exact Try.info_sec
          have huS := Try.underlying39
          have HF := Lib.hid hFl
          generalize hxc : secC x.2 = xc at *
          have HO3 := Lib.hid hO3
          have HE4 := Lib.hid hE4
          clear hth hset hlg hsame hone hll hFl hO2 hE3 hE2 c2b hon hO3 hpl2 hE4 hlen2
          go_region_held (fun w' => w'.cell? ⟨p, 1, none⟩ = some (.slice (some ⟨gf, 0, none⟩) F.length cf) ∧ w'.cell? ⟨nb, 0, none⟩ = some (.int .i64 x.1) ∧ w'.rangeAt nb 1 xc ∧ w'.there gf (x.1 * 64) 64) (first | exact ⟨c1', hb0', hb1', hth'⟩ | go_keep_ranges) (fail)
          clear c1' hb0' hb1' hth' hth1 honec hb1 hb0 c1
          go_wp2_with fail
          refine ⟨⟨k + 1, by omega, rfl, c2', ?_, HE4.out⟩, by simp [intOf]; omega⟩
          rw [HS.out]; exact HO3.out
      · rw [dif_neg hks] at hstep
        have hks8 : ¬ (k : Int) < stay.length := by omega
        have HS := Lib.hid hstep
        clear hstep hcs hx
        go_wp2_with fail
        refine ⟨⟨k + 1, by omega, rfl, c2b, ?_, hE2⟩, by simp [intOf]; omega⟩
        rw [HS.out]; exact hO2
    · have hk8 : k = d.loose.length := by omega
      subst hk8
      rw [List.take_length] at hO
      clear c2 hst hs0 hsb hlt
      have hFl := lay_length d.loose d.fast stay
      have hcr : d.crash stay = { now := lay d.fast d.loose stay, fast := lay d.fast d.loose stay, loose := [], fuse := 0, off := false } := rfl
      have HR := Lib.hid hcr
      clear hcr
      generalize lay d.fast d.loose stay = F at *
      have hFne : F ≠ [] := by intro e; rw [e] at hFl; exact hne (List.eq_nil_of_length_eq_zero hFl.symm)
      obtain ⟨gf, cf, c1, hcap, hcap2, hgp, hbg, hrf, hz1, hz2, hz3⟩ := DiskAt.fastV hO hFne
      clear hz1 hz2 hz3
      have hl82 : F.length ≤ 8192 := by
        obtain ⟨_, _, _, _, _, _, _, _, _, _, _, b, _⟩ := h
        have := b.1; have := b.2.1; omega
      have HFl := Lib.hid hFl
      clear hFl
      go_wp2_with fail
      refine (dclone_any wr hrf rfl hl82).mono ?_
      rintro e w1 ⟨v, rfl, hrv, hB1⟩
      obtain ⟨bs1, hO1, hE1⟩ := hO.setNow hB1 hrv rfl
      obtain ⟨vo, vc, rfl, hv1, hv2, _⟩ := hrv.val
      rename_i hv3
      clear hv3
      have hk1 := hO.keep hB1
      obtain ⟨lv3, hz4, hz5, hz6, hz7, hz8, hst3⟩ := hO1.looseV
      obtain ⟨bs2, hO2, hE2⟩ := hst3 _ (.slice none 0 0) [] (Only.refl _ _) (RW.nil _ _ _ _) (.inr (.inl rfl))
      obtain ⟨hO3, hE3⟩ := hO2.setOff false
      obtain ⟨hO4, hE4⟩ := hO3.setFuse (n := 0) (by omega) (by omega)
      obtain ⟨nv, fv, lv2, ⟨c10, c11, c12, c13, c14⟩, hf1, hz9⟩ := id hk1
      have f0 := hf1 0 (by omega)
      have f2 := hf1 2 (by omega)
      have f3 := hf1 3 (by omega)
      have f4 := hf1 4 (by omega)
      have hEE := (((hE.trans hE1).trans hE2).trans hE3).trans hE4
      clear hz4 hz5 hz6 hz7 hz8 hz9 hf1 c1 hrf hk1 hst3 hO1 hO2 hO3 hE hE1 hE2 hE3 hE4
      rw [List.length_map] at hO4 hEE
      have HO := Lib.hid hO4
      have HW := Lib.hid hEE
      clear hO4 hEE
      go_wp2_with fail
      go_end0
      refine ⟨rfl, bs2, ?_, HW.out⟩
      rw [HR.out]; exact HO.out
end Go.Proofs.Ytbmdcblcefebiaa
