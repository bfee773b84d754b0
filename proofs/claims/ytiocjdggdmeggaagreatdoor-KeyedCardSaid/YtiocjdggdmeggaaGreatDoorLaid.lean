/-
  What the listed variables give the walks: the table that bits.TrailingZeros64 reads.
-/
import Derived.Test.YtiocjdggdmeggaaGreatDoorTie
import Derived.Test.YtiocjdggdmeggaaGreatDoorCards
import Derived.Test.YtiocjdggdmeggaaGreatDoorShips
import Derived.ProofKit
import Derived.OpenShut
import Derived.ShutString
import Derived.ChangeOld
import Derived.LaidMore
import Derived.Lay
import Derived.SevenTiedAt
import Derived.Stop.Joined
import Derived.Deep.SlicePairs
namespace Go.Proofs.YtiocjdggdmeggaaGreatDoor
open Go.ChangeShapes Go.WideShapes Go.ChangeAt Go.RowKit
theorem own : ownKnob Tryz.prog.godebug = none := by kernel_rfl
theorem table_ints : (Rows.laid_math_bits_deBruijn64tab : DataW Unit) = .agg ((Lib.deBruijn64tab).map fun (n : Nat) => .lit (.int .u8 (n : Int))) := by kernel_rfl
theorem env_of_laid {W : World} {rest : List (String × DataW Unit)} (h : laidMetH Tryz.prog (("math/bits.deBruijn64tab", Rows.laid_math_bits_deBruijn64tab) :: rest) W)
    (hp : laidMetH Tryz.prog (("math/bits.deBruijn64tab", Rows.laid_math_bits_deBruijn64tab) :: rest) W = laidMet Tryz.prog (("math/bits.deBruijn64tab", Rows.laid_math_bits_deBruijn64tab) :: rest) W) : Env W ∧ 6 < W.heap.size := by
  rw [hp] at h
  obtain ⟨ps, ⟨g, t, cs, fuel, p, q, hg, ht, hv, hd, _, _⟩, _, _⟩ := h
  obtain rfl := Option.some.inj ((show Tryz.prog.globalNamed "math/bits.deBruijn64tab" = some 6 by kernel_rfl).symm.trans hg)
  obtain rfl := Option.some.inj ((show (Tryz.prog.globals[6]?).map (·.type) = some 229 by kernel_rfl).symm.trans ht)
  obtain ⟨xs, m, _, ex, _, hl, hel⟩ := DataW.trod_array Tryz.underlying229 hd
  have c5 : Tryz.prog.cellsOf 5 = 1 := by kernel_rfl
  have hlen : Lib.deBruijn64tab.length = 64 := by kernel_rfl
  have e3 : (xs.map (·.1)) = Lib.deBruijn64tab.map fun (n : Nat) => .lit (.int .u8 (n : Int)) := by
    have := (Prod.mk.inj ex).1
    rw [table_ints] at this
    exact (DataW.agg.inj this).symm
  have hE : Env W := by
    intro r hr
    rw [hlen] at hr
    have hE := hel r hr
    rw [c5, Nat.mul_one, List.getElem?_eq_getElem (by omega)] at hE
    obtain ⟨z, e1, e2, _⟩ := DataW.trod_int Tryz.underlying5 hE
    have e4 : (xs.map (·.1))[r]? = (Lib.deBruijn64tab.map fun (n : Nat) => (DataW.lit (.int .u8 (n : Int)) : DataW Unit))[r]? := by rw [e3]
    rw [List.getElem?_map, List.getElem?_map, List.getElem?_eq_getElem (by omega : r < xs.length), List.getElem?_eq_getElem (by omega : r < Lib.deBruijn64tab.length), e2] at e4
    have hz : z = (Lib.deBruijn64tab.getD r 0 : Nat) := by
      simp only [Option.map_some, Option.some.injEq, DataW.lit.injEq, Lit.int.injEq, true_and] at e4
      rw [e4, List.getD_eq_getElem?_getD, List.getElem?_eq_getElem (by omega : r < Lib.deBruijn64tab.length)]; rfl
    rw [World.var?_cell hg hv r, ← hz]
    have : cs.toList[r]? = some (.int .u8 z) := by
      have h0 : ((cs.toList.drop r).take 1)[0]? = some (.int .u8 z) := by rw [e1]; rfl
      simpa using h0
    simpa using this
  exact ⟨hE, World.block_lt_of_cell? W ⟨6, 0, none⟩ (hE 0 (by rw [hlen]; omega))⟩
/-- The pairs that come in, opened. -/
theorem pairs_open {H : Type} {enc : TypeId × Value → H} {W : World} {v : Value} {d : DataW H} {ps : List MemPlace} (hw : ∃ a len cap, v = .slice a len cap) (h : DataW.Trod enc Tryz.prog W 0 (fun _ => true) true 22 v d ps) : ∃ ws, PairsAt W v ws := by
  obtain ⟨a0, len0, cap0, rfl⟩ := hw
  obtain ⟨fuel, hf⟩ := h
  rcases Go.Deep.open_slice_pairs Tryz.underlying22 Tryz.underlying61 (by kernel_rfl) rfl rfl (by kernel_rfl) (by kernel_rfl) hf with ⟨hcs, _⟩ | ⟨a, len, cap, m, n, V0, V1, D0, D1, P0, P1, hcs, _, hl, hm, hmm, _, hx⟩
  · simp [Value.cells] at hcs
    obtain ⟨rfl, rfl, rfl⟩ := hcs
    exact ⟨[], none, 0, rfl, (by intro p hp; simp at hp), Nat.zero_le _, fun i hi => absurd hi (Nat.not_lt_zero i)⟩
  · simp [Value.cells] at hcs
    obtain ⟨rfl, rfl, rfl⟩ := hcs
    have each : ∀ i, i < len0 → ∃ q : Raw, W.cell? (a.add (i * 2)) = some (.string q.1) ∧ W.cell? (a.add (i * 2 + 1)) = some (.string q.2) ∧ q.1.size ≤ maxLen ∧ q.2.size ≤ maxLen := by
      intro i hi
      obtain ⟨k1, k2, k3, k4⟩ := hx i (by rw [hmm]; split <;> omega)
      obtain ⟨s1, f1, _, g1⟩ := DataW.trod_string Tryz.underlying9 k3
      obtain ⟨s2, f2, _, g2⟩ := DataW.trod_string Tryz.underlying9 k4
      have f1' : V0 i = .string s1 := by simpa using f1
      have f2' : V1 i = .string s2 := by simpa using f2
      rw [f1'] at k1
      rw [f2'] at k2
      exact ⟨(s1, s2), k1, k2, g1, g2⟩
    obtain ⟨q, hq⟩ := Go.Deep.choose_lt each
    refine ⟨(List.range len0).map q, some a, cap0, by simp, fun p hp => ?_, by simp; omega, fun i hi => ?_⟩
    · obtain ⟨i, hi, rfl⟩ := List.mem_map.1 hp
      have := hq i (List.mem_range.1 hi)
      exact ⟨this.2.2.1, this.2.2.2⟩
    · have hi' : i < len0 := by simpa using hi
      obtain ⟨k1, k2, _, _⟩ := hq i hi'
      obtain ⟨z1, _, _, _⟩ := hq 0 (by omega)
      obtain ⟨b, off, spot⟩ := a
      have hspot : spot = none := by simpa [Addr.add] using World.cell?_spot z1
      subst hspot
      rw [Go.WideShapes.add_plain] at k1 k2
      refine ⟨b, off, rfl, World.block_lt_of_cell? W _ k1, ?_, ?_⟩
      · rw [k1]; simp
      · rw [show off + i * 2 + 1 = off + (i * 2 + 1) by omega, k2]; simp
end Go.Proofs.YtiocjdggdmeggaaGreatDoor
