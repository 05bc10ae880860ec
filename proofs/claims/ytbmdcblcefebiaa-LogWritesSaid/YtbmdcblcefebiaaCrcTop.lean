/- crc.Close, crc.Open: the walks. -/
import Derived.Test.YtbmdcblcefebiaaCrcWalk
import Derived.Test.YtbmdcblcefebiaaBits
import Derived.Test.YtbmdcblcefebiaaSame
namespace Go.Proofs.Ytbmdcblcefebiaa
open Go.RowKit Crc
def closeL (l : List UInt8) : List UInt8 := l ++ putLowL 4 (crcOf (l.map UInt8.toNat))
theorem closeL_length (l : List UInt8) : (closeL l).length = l.length + 4 := by simp [closeL, putLowL_length]
theorem toNats_lt (l : List UInt8) : ∀ c ∈ l.map UInt8.toNat, c < 256 := by
  intro c hc; obtain ⟨x, _, rfl⟩ := List.mem_map.1 hc; exact x.toNat_lt
set_option maxRecDepth 100000 in
set_option maxHeartbeats 400000 in
theorem close_any (v : Value) (l : List UInt8) (w : World) (hb : Bsl w v l) (hl : l.length ≤ 140737488355000) :
    Calls Try.prog 53 #[v] w fun e w' => ∃ v', e = .returned v' ∧ OB w' w.heap.size v' (closeL l) ∧ Below w.heap.size w w' := by
  have hlt := crcOf_lt (l.map UInt8.toNat) (toNats_lt l)
  go_enter Try.func53, Try.ntmps53
  go_wp2_with fail
  refine (sclone_any v l _ hb (by omega)).mono ?_
  rintro e w1 ⟨v1, rfl, ho1, hb1⟩
  go_wp2_with fail
  refine (check_any v l _ (hb.keep hb1)).mono ?_
  rintro e w2 ⟨rfl, rfl⟩
  go_wp2_with fail
  refine (putLow_any (crcOf (l.map UInt8.toNat)) 4 _ (by omega) (by omega) (by omega)).mono ?_
  rintro e w2 ⟨v2, rfl, ho2, hb2⟩
  have hs := hb1.size
  have hs2 := hb2.size
  have hb12 : Below w.heap.size w w2 := hb1.trans (hb2.mono hs)
  go_wp2_with (at_builtin; refine wp_app rfl _ _ rfl w.heap.size _ _ _ _ rfl rfl (ho1.keep hb2) ho2.bsl ?_ ?_ ?_)
  · rw [putLowL_length]; simp; omega
  · omega
  · intro v' w3 hown' hgrow _
    have hb3 : Below w.heap.size w w3 := hb12.grown hgrow (by omega) ho1.own_ge
    clear hgrow ho1 ho2
    go_wp2_with fail
    go_ret
    exact ⟨_, rfl, hown', hb3⟩

def openOk (l : List UInt8) : Bool := decide (4 ≤ l.length) && decide (closeL (l.take (l.length - 4)) = l)
set_option maxRecDepth 100000 in
set_option maxHeartbeats 400000 in
theorem open_any (v : Value) (l : List UInt8) (w : World) (hb : Bsl w v l) (hl : l.length ≤ 140737488355000) :
    Calls Try.prog 60 #[v] w fun e w' => ∃ v', e = .returned (.tuple #[v', .bool (openOk l)]) ∧ OB w' w.heap.size v' (if openOk l then l.take (l.length - 4) else []) ∧ Below w.heap.size w w' := by
  by_cases h4 : 4 ≤ l.length
  · have hb' := hb
    obtain ⟨ao, cap, rfl, hlc, hcm, hnil, hcells⟩ := hb'
    clear hcells hnil
    have hat : ((l.length : Int) - 4) = ((l.length - 4 : Nat) : Int) := by omega
    have h40 : (4 : Int) ≤ (l.length : Int) := by omega
    have hbt := hb.take (m := l.length - 4) (by omega)
    have htl : (l.take (l.length - 4)).length ≤ 140737488355000 := by simp; omega
    have hok : openOk l = decide (closeL (l.take (l.length - 4)) = l) := by unfold openOk; simp [h4]
    have HOK := Lib.hid hok; clear hok
    generalize hok2 : openOk l = ok at *
    clear hok2
    go_enter Try.func60, Try.ntmps60
    go_wp2_with fail
    refine (close_any _ _ _ hbt htl).mono ?_
    rintro e w1 ⟨v1, rfl, ho1, hb1⟩
    go_wp2_with fail
    refine (same_any v1 (.slice ao l.length cap) (closeL (l.take (l.length - 4))) l w1 ho1.bsl (hb.keep hb1)).mono ?_
    rintro e w2 ⟨rfl, hb2⟩
    have hs1 := hb1.size
    have hb12 : Below w.heap.size w w2 := hb1.trans (hb2.mono hs1)
    clear hb1 hb2 ho1
    cases ok with
    | false =>
      have hf : decide (closeL (l.take (l.length - 4)) = l) = false := HOK.out.symm
      rw [hf]; clear hf
      go_wp2_with fail
      go_ret2
      exact ⟨_, rfl, OB.nil _ _, hb12⟩
    | true =>
      have hf : decide (closeL (l.take (l.length - 4)) = l) = true := HOK.out.symm
      rw [hf]; clear hf
      go_wp2_with fail
      refine (sclone_any _ _ _ (hbt.keep hb12) (by omega)).mono ?_
      rintro e w3 ⟨v3, rfl, ho3, hb3⟩
      have hs2 := hb12.size
      have hb13 : Below w.heap.size w w3 := hb12.trans (hb3.mono hs2)
      go_wp2_with fail
      go_ret2
      exact ⟨_, rfl, ho3.mono hs2, hb13⟩
  · have hok : openOk l = false := by unfold openOk; simp [h4]
    rw [hok]
    obtain ⟨ao, cap, rfl, hlc, hcm, hnil, hcells⟩ := hb
    clear hcells hnil hok
    have h40 : (l.length : Int) < 4 := by omega
    go_enter Try.func60, Try.ntmps60
    go_wp2_with fail

    go_ret2
    exact ⟨_, rfl, OB.nil _ _, Below.refl _ _⟩
end Go.Proofs.Ytbmdcblcefebiaa
