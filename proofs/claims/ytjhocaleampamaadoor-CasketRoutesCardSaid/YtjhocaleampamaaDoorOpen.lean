/- What an argument that came in is, in this seat's words. -/
import Derived.Test.YtjhocaleampamaaDoorBase
import Derived.ProofKit
import Derived.OpenShut
import Derived.ShutString
import Derived.ChangeOld
import Derived.Below
namespace Go.Proofs.YtjhocaleampamaaDoor
open Go.ChangeShapes Go.WideShapes Go.ChangeAt Go.RowKit
open Go.ChangeMaps (open_string shut_string)
theorem Tryd.own : ownKnob Tryd.prog.godebug = none := by kernel_rfl
theorem Tryd.laidOut : laidOutB Tryd.prog = true := by kernel_rfl
theorem open_bytes {H : Type} {enc : TypeId × Value → H} {W : World} {a : Option Addr} {len cap : Nat} {d : DataW H} {p : List MemPlace}
    (h : DataW.Trod enc Tryd.prog W 0 (fun _ => true) true 39 (.slice a len cap) d p) : ∃ l, Bsl W (.slice a len cap) l := by
  obtain ⟨fuel, hf⟩ := h
  rcases open_ints Tryd.underlying39 Tryd.underlying5 (by kernel_rfl) hf with ⟨hcs, _⟩ | ⟨x, l, c, zs, hcs, _, hl, hm, hz, _, hcell, hwz⟩
  · simp [Value.cells] at hcs
    obtain ⟨rfl, rfl, rfl⟩ := hcs
    exact ⟨[], none, 0, rfl, by simp, by omega, fun _ => rfl, by simp⟩
  · simp [Value.cells] at hcs
    obtain ⟨rfl, rfl, rfl⟩ := hcs
    have hb : ∀ n ∈ zs, 0 ≤ n ∧ n ≤ 255 := by
      intro n hn
      have := hwz n hn
      simp only [Lit.wf, IntKind.min, IntKind.max, IntKind.signed, IntKind.bits, Bool.and_eq_true] at this
      simp at this; omega
    have hz' : zs.length = cap := by simpa using hz
    have e : len = ((zs.take len).map fun n => UInt8.ofNat n.toNat).length := by simp; omega
    refine ⟨(zs.take len).map fun n => UInt8.ofNat n.toNat, some x, cap, by rw [← e], by rw [← e]; exact hl, by unfold maxLen at hm; omega, by simp, fun hne => ?_⟩
    have hpos : 0 < len := by
      rcases Nat.eq_zero_or_pos len with h0 | h0
      · subst h0; simp at hne
      · exact h0
    have hc0 := hcell 0 (by omega)
    obtain ⟨b, off, spot⟩ := x
    have hspot : spot = none := by simpa [Addr.add] using World.cell?_spot hc0
    subst hspot
    refine ⟨b, off, rfl, fun j hj => ?_⟩
    rw [← e] at hj
    have hc := hcell j (by omega)
    rw [Addr.add_lit] at hc
    rw [hc]
    have hjz : j < zs.length := by omega
    have hbd := hb zs[j] (List.getElem_mem hjz)
    simp [hj, hjz]
    omega
theorem bytes_of_trod {H : Type} {enc : TypeId × Value → H} {W : World} {fuel : Nat} {cs : List Value} {x : DataW H × List MemPlace}
    (h : DataW.trod enc Tryd.prog W 0 (fun _ => true) true fuel 39 cs = some x) : ∃ ao len cap l, cs = [.slice ao len cap] ∧ Bsl W (.slice ao len cap) l := by
  rcases open_ints Tryd.underlying39 Tryd.underlying5 (by kernel_rfl) h with ⟨hcs, hx⟩ | ⟨x', l, c, zs, hcs, _⟩
  · subst hcs
    obtain ⟨l, hl⟩ := open_bytes (d := x.1) (p := x.2) ⟨fuel, by simpa [Value.cells] using h⟩
    exact ⟨none, 0, 0, l, rfl, hl⟩
  · subst hcs
    obtain ⟨l', hl⟩ := open_bytes (d := x.1) (p := x.2) ⟨fuel, by simpa [Value.cells] using h⟩
    exact ⟨_, _, _, l', rfl, hl⟩
theorem int_of_wf {n : Int} (h : (Lit.int .i64 n).wf = true) : -9223372036854775808 ≤ n ∧ n ≤ 9223372036854775807 := bounds_i64 h
end Go.Proofs.YtjhocaleampamaaDoor
