/- casketlaw09.CrcSums: the walk. -/
import Derived.Test.YtcloggeoehlacaaRefCrc
import Derived.Deep.RegionHeldLaw
import Derived.Deep.QuietTactic
import Derived.BigQuiet
import Derived.Lib.QuietBelow
import Derived.Deep.DeepCutAuto
namespace Go.Proofs.Ytcloggeoehlacaa
open Go.RowKit Crc
def xor3 (a b c : List UInt8) : List UInt8 := List.zipWith (fun x y => UInt8.ofNat (x ^^^ y)) (List.zipWith (fun x y : UInt8 => x.toNat ^^^ y.toNat) a b) (c.map UInt8.toNat)
theorem xor3_length (a b c : List UInt8) (k : Nat) (ha : k < a.length) (hb : k < b.length) (hc : k < c.length) : (xor3 (a.take k) (b.take k) (c.take k)).length = k := by
  simp [xor3]; omega
theorem xor3_snoc (a b c : List UInt8) (k : Nat) (ha : k < a.length) (hb : k < b.length) (hc : k < c.length) :
    xor3 (a.take (k + 1)) (b.take (k + 1)) (c.take (k + 1)) = xor3 (a.take k) (b.take k) (c.take k) ++ [UInt8.ofNat ((a.getD k 0).toNat ^^^ (b.getD k 0).toNat ^^^ (c.getD k 0).toNat)] := by
  unfold xor3
  rw [take_succ_getD ha, take_succ_getD hb, take_succ_getD hc, List.zipWith_append (by simp; omega), List.map_append, List.zipWith_append (by simp; omega)]
  simp
theorem crc_sums3 (a b c : List UInt8) (k : Nat) (ha : k ≤ a.length) (hb : k ≤ b.length) (hc : k ≤ c.length) :
    crcOf ((xor3 (a.take k) (b.take k) (c.take k)).map UInt8.toNat) = crcOf ((a.take k).map UInt8.toNat) ^^^ crcOf ((b.take k).map UInt8.toNat) ^^^ crcOf ((c.take k).map UInt8.toNat) := by
  rw [← crc_sums _ _ _ (by simp; omega) (by simp; omega)]
  congr 1
  generalize a.take k = a; generalize b.take k = b; generalize c.take k = c
  unfold xor3
  simp only [List.map_zipWith, List.zipWith_map]
  have e : ∀ (u v : List Nat), (∀ x ∈ u, x < 256) → (∀ x ∈ v, x < 256) → List.zipWith (fun x y => (UInt8.ofNat (x ^^^ y)).toNat) u v = List.zipWith (fun x y => x ^^^ y) u v := by
    intro u
    induction u with
    | nil => intro v _ _; rfl
    | cons x u ih =>
      intro v hu hv
      cases v with
      | nil => rfl
      | cons y v =>
        simp only [List.zipWith_cons_cons]
        rw [ih v (fun z hz => hu z (by simp [hz])) (fun z hz => hv z (by simp [hz]))]
        congr 1
        have h1 := hu x (by simp)
        have h2 := hv y (by simp)
        have : x ^^^ y < 256 := Nat.xor_lt_two_pow (n := 8) h1 h2
        rw [UInt8.toNat_ofNat']; exact Nat.mod_eq_of_lt this
  rw [e _ _ ?_ (toNats_lt c)]
  intro z hz
  obtain ⟨i, hi, rfl⟩ := List.getElem_of_mem hz
  simp only [List.getElem_zipWith]
  exact Nat.xor_lt_two_pow (n := 8) (UInt8.toNat_lt _) (UInt8.toNat_lt _)
theorem run_min4 (w : World) (ts : Array TypeId) (t : TypeId) (a b c d : Int) : ∃ m : Int, (m ≤ a ∧ m ≤ b ∧ m ≤ c ∧ m ≤ d ∧ (m = a ∨ m = b ∨ m = c ∨ m = d)) ∧
    (Builtin.min_ ts t #[.int .i64 a, .int .i64 b, .int .i64 c, .int .i64 d]).run Try.prog w = .ok (.int .i64 m) w := by
  obtain ⟨x, hx, h1⟩ : ∃ x, x = (if b < a then b else a) ∧ (x ≤ a ∧ x ≤ b ∧ (x = a ∨ x = b)) := ⟨_, rfl, by split <;> omega⟩
  obtain ⟨y, hy, h2⟩ : ∃ y, y = (if c < x then c else x) ∧ (y ≤ x ∧ y ≤ c ∧ (y = x ∨ y = c)) := ⟨_, rfl, by split <;> omega⟩
  obtain ⟨z, hz, h3⟩ : ∃ z, z = (if d < y then d else y) ∧ (z ≤ y ∧ z ≤ d ∧ (z = y ∨ z = d)) := ⟨_, rfl, by split <;> omega⟩
  refine ⟨z, by omega, ?_⟩
  simp [Builtin.min_, Builtin.min2, ← hx, ← hy, ← hz]
set_option maxRecDepth 100000 in
set_option maxHeartbeats 400000 in
theorem crcSums_walk (va : Value) (la : List UInt8) (vb : Value) (lb : List UInt8) (vc : Value) (lc : List UInt8) (w : World) (ha : Bsl w va la) (hb : Bsl w vb lb) (hc : Bsl w vc lc) :
    Calls Try.prog 3 #[va, vb, vc] w fun e w' => e = .returned (.bool true) ∧ Below w.heap.size w w' := by
  have ha' := ha
  have hb' := hb
  have hc' := hc
  obtain ⟨ao, cap, rfl, hlc, hcm, hnil, hca⟩ := ha'
  obtain ⟨bo, cap2, rfl, hlc2, hcm2, hnil2, hcb⟩ := hb'
  obtain ⟨co, cap3, rfl, hlc3, hcm3, hnil3, hcc⟩ := hc'
  clear hnil hnil2 hnil3
  obtain ⟨m, hm, hmin⟩ := run_min4 w #[3, 3, 3, 3] 3 la.length lb.length lc.length 200
  obtain ⟨n, rfl⟩ := Int.eq_ofNat_of_zero_le (a := m) (by omega)
  have hn : n ≤ la.length ∧ n ≤ lb.length ∧ n ≤ lc.length ∧ n ≤ 200 := by omega
  clear hm
  obtain ⟨hna, hnb, hnc, hn2⟩ := hn
  go_enter Try.func3, Try.ntmps3
  go_wp2_with fail
  go_loopw [8, 9] (fun v i wr => ∃ k : Nat, k ≤ n ∧ i = .int .i64 k ∧ OB wr w.heap.size v (xor3 ((la.take k)) (lb.take k) (lc.take k)) ∧ Below w.heap.size w wr) (fun _ i _ => n - (intOf i).toNat)
  case atStart => exact ⟨0, Nat.zero_le _, rfl, OB.nil _ _, Below.refl _ _⟩
  case round =>
    obtain ⟨k, hk, rfl, hown, hbel⟩ := hrel
    by_cases hlt : k < n
    · obtain ⟨b1, o1, rfl, hc1⟩ := hca (by intro h; simp [h] at hna; omega)
      obtain ⟨b2, o2, rfl, hc2⟩ := hcb (by intro h; simp [h] at hnb; omega)
      obtain ⟨b3, o3, rfl, hc3⟩ := hcc (by intro h; simp [h] at hnc; omega)
      have e1 := hc1 k (by omega)
      have e2 := hc2 k (by omega)
      have e3 := hc3 k (by omega)
      have l1 := World.block_lt_of_cell? w _ e1
      have l2 := World.block_lt_of_cell? w _ e2
      have l3 := World.block_lt_of_cell? w _ e3
      have e1 := (hbel.cell l1).trans e1
      have e2 := (hbel.cell l2).trans e2
      have e3 := (hbel.cell l3).trans e3
      simp only at l1 l2 l3
      clear hc1 hc2 hc3 hca hcb hcc
      have i1 : (k : Int) < (la.length : Int) := by omega
      have i2 : (k : Int) < (lb.length : Int) := by omega
      have i3 : (k : Int) < (lc.length : Int) := by omega
      have HX := Lib.hid (xor3_snoc la lb lc k (by omega) (by omega) (by omega))
      generalize la.getD k 0 = c1 at *
      generalize lb.getD k 0 = c2 at *
      generalize lc.getD k 0 = c3 at *
      have x12 : bits BinOp.xor IntKind.u8 (c1.toNat : Int) (c2.toNat : Int) = ((c1.toNat ^^^ c2.toNat : Nat) : Int) := u8_xor_nat _ _ c1.toNat_lt c2.toNat_lt
      have hl12 : c1.toNat ^^^ c2.toNat < 256 := Nat.xor_lt_two_pow (n := 8) c1.toNat_lt c2.toNat_lt
      have x123 : bits BinOp.xor IntKind.u8 ((c1.toNat ^^^ c2.toNat : Nat) : Int) (c3.toNat : Int) = ((c1.toNat ^^^ c2.toNat ^^^ c3.toNat : Nat) : Int) := u8_xor_nat _ _ hl12 c3.toNat_lt
      have hl123 : c1.toNat ^^^ c2.toNat ^^^ c3.toNat < 256 := Nat.xor_lt_two_pow (n := 8) hl12 c3.toNat_lt
      generalize c1.toNat ^^^ c2.toNat ^^^ c3.toNat = c at *
      clear hl12 hmin
      have hsz := hbel.size
      have hone := Bsl.one wr.drew (c : Int) (by omega)
      have hown1 : OB (wr.drew.alloc (.cells #[.int .u8 (c : Int)] 5)) w.heap.size u8 (xor3 (la.take k) (lb.take k) (lc.take k)) := hown.drew.keep ((Below.refl _ _).alloc (Nat.le_refl _) _)
      have hln := xor3_length la lb lc k (by omega) (by omega) (by omega)
      have hlen : (xor3 (la.take k) (lb.take k) (lc.take k)).length + [UInt8.ofNat (c : Int).toNat].length ≤ 140737488355328 := by rw [hln]; simp; omega
      have hbase : w.heap.size ≤ (wr.drew.alloc (.cells #[.int .u8 (c : Int)] 5)).heap.size := by simp; omega
      go_wp2_with fail
      have n1 : some b1 ≠ u8.ownBlock := fun h => by have := hown.own_ge _ h.symm; omega
      have p1 : (wr.drew.alloc (.cells #[.int .u8 (c : Int)] 5)).cell? ⟨b1, o1 + k, none⟩ = some (.int .u8 c1.toNat) := (World.cell?_alloc_lt _ _ _ (by show b1 < wr.heap.size; omega)).trans e1
      have n2 : some b2 ≠ u8.ownBlock := fun h => by have := hown.own_ge _ h.symm; omega
      have p2 : (wr.drew.alloc (.cells #[.int .u8 (c : Int)] 5)).cell? ⟨b2, o2 + k, none⟩ = some (.int .u8 c2.toNat) := (World.cell?_alloc_lt _ _ _ (by show b2 < wr.heap.size; omega)).trans e2
      have n3 : some b3 ≠ u8.ownBlock := fun h => by have := hown.own_ge _ h.symm; omega
      have p3 : (wr.drew.alloc (.cells #[.int .u8 (c : Int)] 5)).cell? ⟨b3, o3 + k, none⟩ = some (.int .u8 c3.toNat) := (World.cell?_alloc_lt _ _ _ (by show b3 < wr.heap.size; omega)).trans e3
      go_region_held_law (fun w' => w'.cell? ⟨b1, o1 + k, none⟩ = some (.int .u8 c1.toNat) ∧ w'.cell? ⟨b2, o2 + k, none⟩ = some (.int .u8 c2.toNat) ∧ w'.cell? ⟨b3, o3 + k, none⟩ = some (.int .u8 c3.toNat)) (first | exact ⟨hgrow3.cell p1 n1, hgrow3.cell p2 n2, hgrow3.cell p3 n3⟩ | go_keep) (first | (refine step_app rfl _ _ rfl w.heap.size _ _ _ _ (by rfl) (by rfl) hown1 hone hlen hbase ?_; intro v' w3 hown3 hgrow3 _))
      have hb3 : Below w.heap.size w w3 := (hbel.drew.alloc hsz _).grown hgrow3 hbase hown.own_ge
      clear hgrow3 hone hown hown1
      go_wp2_with fail
      go_roundw
      case rel => exact ⟨k + 1, by omega, by go_num, by rw [HX.out]; exact hown3, hb3⟩
      case measure => simp [intOf]; omega
    · obtain rfl : k = n := by omega
      have hsums := crc_sums3 la lb lc k (by omega) (by omega) (by omega)
      have HS := Lib.hid hsums; clear hsums
      have ta := ha.take (m := k) hna
      have tb := hb.take (m := k) hnb
      have tc := hc.take (m := k) hnc
      have cK : ∀ d os, Calls Try.prog 6 #[] (Sort.grow (redrawn wr d) os) fun e w'' => e = .returned (.bool true) ∧ ∃ p : Regrown, w'' = Sort.grow (redrawn wr p.d) p.os := fun d os => Calls.regrown_of (checks_any _)
      have cC : ∀ v l, Bsl wr v l → ∀ d os, Calls Try.prog 7 #[v] (Sort.grow (redrawn wr d) os) fun e w'' => e = .returned (.int .u32 (crcOf (l.map UInt8.toNat))) ∧ ∃ p : Regrown, w'' = Sort.grow (redrawn wr p.d) p.os :=
        fun v l h d os => Calls.regrown_of ((check_any v l _ (h.keep (below_regrown _ _ _))).mono fun e w' ⟨he, hw⟩ => ⟨he, by subst hw; exact Below.refl _ _⟩)
      have c1 := cC _ _ hown.bsl
      have c2 := cC _ _ (ta.keep hbel)
      have c3 := cC _ _ (tb.keep hbel)
      have c4 := cC _ _ (tc.keep hbel)
      clear cC hca hcb hcc
      have hc1 : (k : Int) ≤ (cap : Int) := by omega
      have hc2 : (k : Int) ≤ (cap2 : Int) := by omega
      have hc3 : (k : Int) ≤ (cap3 : Int) := by omega
      have b1 := crcOf_lt _ (toNats_lt (la.take k))
      have b2 := crcOf_lt _ (toNats_lt (lb.take k))
      have b3 := crcOf_lt _ (toNats_lt (lc.take k))
      generalize crcOf (List.map UInt8.toNat (la.take k)) = ca at *
      generalize crcOf (List.map UInt8.toNat (lb.take k)) = cb at *
      generalize crcOf (List.map UInt8.toNat (lc.take k)) = cc at *
      generalize crcOf (List.map UInt8.toNat (xor3 (List.take k la) (List.take k lb) (List.take k lc))) = call at *
      have x12 : bits BinOp.xor IntKind.u32 (ca : Int) (cb : Int) = ((ca ^^^ cb : Nat) : Int) := u32_xor_nat _ _ b1 b2
      have b12 := xor_lt32 b1 b2
      have x123 : bits BinOp.xor IntKind.u32 ((ca ^^^ cb : Nat) : Int) (cc : Int) = ((ca ^^^ cb ^^^ cc : Nat) : Int) := u32_xor_nat _ _ b12 b3
      have hfin : ((call : Int) == ((ca ^^^ cb ^^^ cc : Nat) : Int)) = true := by rw [HS.out]; simp
      go_wp2_with fail
      refine wp_region_quiet_below (by kernel_rfl) (by kernel_rfl) ?_
      repeat (quiet_step (first | (go_at_call 6; exact cK _ _) | (go_at_call 7; first | with_reducible exact c1 _ _ | with_reducible exact c2 _ _ | with_reducible exact c3 _ _ | with_reducible exact c4 _ _)))
      refine wpQuiet_nil ?_
      rintro w2 ⟨⟨d2, os2⟩, rfl⟩
      have hb2 := below_regrown wr d2 os2
      generalize Sort.grow (redrawn wr d2) os2 = w2 at *
      go_wp2_with fail
      go_ret
      exact ⟨rfl, hbel.trans (hb2.mono hbel.size)⟩
end Go.Proofs.Ytcloggeoehlacaa
