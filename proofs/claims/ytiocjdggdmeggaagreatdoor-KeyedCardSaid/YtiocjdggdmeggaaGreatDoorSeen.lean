/-
  The set of the pairs that a search has seen.
-/
import Derived.Test.YtiocjdggdmeggaaGreatDoorNew
import Derived.Maps.OwnSet
import Derived.DeepKeys4
namespace Go.Proofs.YtiocjdggdmeggaaGreatDoor
open Go.RowKit Go.Shelf
theorem laidOut : laidOutB Tryz.prog = true := by kernel_rfl
theorem row146 : (146 : TypeId) < Tryz.prog.types.size := of_decide_eq_true (by kernel_rfl)
theorem wide146 : (match Tryz.prog.underlying 146 with | some (.array _ _) | some (.struct _) => true | _ => false) = true := by rw [Tryz.underlying146]
set_option maxRecDepth 100000 in
theorem deep146 : Tryz.prog.keyTypeAt 2 146 = true := by kernel_rfl
set_option maxRecDepth 100000 in
theorem law146 : Go.Maps.Keyed Tryz.prog 146 := Go.Maps.Keyed.of_law (deep_law_laid laidOut (m := 2) (by omega) row146 deep146 wide146)
/-- A pair of a search: (phase, x, y). -/
def pairV (t : Nat × Nat × Nat) : Value := .agg #[.int .i64 (t.1 : Nat), .int .i64 (t.2.1 : Nat), .int .i64 (t.2.2 : Nat)]
theorem wf_small (n : Nat) (h : n < 1000) : (Lit.int .i64 (n : Nat)).wf = true := by
  simp [Lit.wf, IntKind.min, IntKind.max, IntKind.bits, IntKind.signed]; omega
theorem keyOf_triple {P : Program} {k t : TypeId} {f1 f2 f3 : Field} (hu : P.underlying k = some (.struct #[f1, f2, f3])) (hk : P.keyType k = true) (hc : P.cellsOf k = 3) (ht : P.underlying t = some (.int .i64)) (hct : P.cellsOf t = 1)
    (e1 : f1.type = t) (e2 : f2.type = t) (e3 : f3.type = t) (o1 : f1.offset = 0) (o2 : f2.offset = 1) (o3 : f3.offset = 2) (n1 : (f1.name != "_") = true) (n2 : (f2.name != "_") = true) (n3 : (f3.name != "_") = true) (d : Nat) (hd : P.types.size = d + 1)
    (a b c : Int) (w1 : (Lit.int .i64 a).wf = true) (w2 : (Lit.int .i64 b).wf = true) (w3 : (Lit.int .i64 c).wf = true) : ∃ l, keyOf P k (.agg #[.int .i64 a, .int .i64 b, .int .i64 c]) = some l := by
  unfold keyOf
  simp [hu, hk, hd, Program.keyLits, hc, Value.cells, Value.formed, ht, hct, e1, e2, e3, o1, o2, o3, w1, w2, w3]
  simp at n1 n2 n3
  simp [n1, n2, n3]
theorem keyType146 : Tryz.prog.keyType 146 = true := by kernel_rfl
theorem cells146 : Tryz.prog.cellsOf 146 = 3 := by kernel_rfl
theorem cells3 : Tryz.prog.cellsOf 3 = 1 := by kernel_rfl
theorem types_succ : ∃ d, Tryz.prog.types.size = d + 1 := by
  have h := row146
  generalize Tryz.prog.types.size = n at *
  cases n with
  | zero => exact absurd h (Nat.not_lt_zero _)
  | succ d => exact ⟨d, rfl⟩
/-- The numbers of a pair are small. -/
def Small (t : Nat × Nat × Nat) : Prop := t.1 < 1000 ∧ t.2.1 < 1000 ∧ t.2.2 < 1000
theorem keyOf_pair (t : Nat × Nat × Nat) (h : Small t) : ∃ l, keyOf Tryz.prog 146 (pairV t) = some l := by
  obtain ⟨d, hd⟩ := types_succ
  exact keyOf_triple Tryz.underlying146 keyType146 cells146 Tryz.underlying3 cells3 rfl rfl rfl rfl rfl rfl (by decide) (by decide) (by decide) d hd _ _ _ (wf_small _ h.1) (wf_small _ h.2.1) (wf_small _ h.2.2)
theorem pairV_inj {s t : Nat × Nat × Nat} (h : pairV s = pairV t) : s = t := by
  obtain ⟨a, b, c⟩ := s
  obtain ⟨a', b', c'⟩ := t
  simp only [pairV, Value.agg.injEq, Array.mk.injEq, List.cons.injEq, Value.int.injEq, true_and, and_true] at h
  obtain ⟨h1, h2, h3⟩ := h
  have h1 : a = a' := by omega
  have h2 : b = b' := by omega
  have h3 : c = c' := by omega
  rw [h1, h2, h3]
/-- Block m is the set of the pairs of S. -/
def SeenAt (w : World) (m : Nat) (S : List (Nat × Nat × Nat)) : Prop :=
  ∃ D : DataW Unit, w.ownsMap Tryz.prog 146 Go.unitElem m S.length D ∧ Go.Maps.IsMap D ∧ ∀ t l, Small t → keyOf Tryz.prog 146 (pairV t) = some l → Go.Maps.has D l = S.contains t
theorem seen_made (w : World) : SeenAt (w.alloc (.map #[] 0)) w.heap.size [] :=
  ⟨.map [], World.ownsMap_made w _ _ _, Go.Maps.isMap_empty, fun _ _ _ _ => rfl⟩
theorem SeenAt.kept {w w' : World} {m : Nat} {S : List (Nat × Nat × Nat)} {row : Option Nat} (h : SeenAt w m S) (hg : w.grownBy w' row) (hne : some m ≠ row) : SeenAt w' m S := by
  obtain ⟨D, h1, h2⟩ := h
  exact ⟨D, h1.kept hg hne, h2⟩
theorem SeenAt.lt {w : World} {m : Nat} {S : List (Nat × Nat × Nat)} (h : SeenAt w m S) : m < w.heap.size := by
  obtain ⟨D, h1, _⟩ := h
  exact h1.lt
theorem SeenAt.look {w : World} {m : Nat} {S : List (Nat × Nat × Nat)} (h : SeenAt w m S) {t : Nat × Nat × Nat} (ht : Small t) :
    (Instr.lookup 189 (.map (some m)) (pairV t) true).run Tryz.prog w = .ok (.tuple #[.agg #[], .bool (S.contains t)]) w := by
  obtain ⟨D, h1, h2, h3⟩ := h
  obtain ⟨l, hl⟩ := keyOf_pair t ht
  obtain ⟨v, ps, hrun, hv⟩ := h1.look_ok (zd := .agg []) (zp := []) law146 Tryz.underlying189 (z := .agg #[]) (by kernel_rfl) Go.unitElem_mk hl
  obtain ⟨rfl, _⟩ := Go.unitElem_inv hv
  rw [hrun, h3 t l ht hl]
theorem SeenAt.store {w : World} {m : Nat} {S : List (Nat × Nat × Nat)} (h : SeenAt w m S) {t : Nat × Nat × Nat} (ht : Small t) (hn : S.length < maxLen) :
    ∃ w', (Instr.mapUpdate 189 (.map (some m)) (pairV t) (.agg #[])).run Tryz.prog w = .ok () w' ∧ SeenAt w' m (t :: S) ∧ w.mapTurned w' m := by
  obtain ⟨D, h1, h2, h3⟩ := h
  obtain ⟨l, hl⟩ := keyOf_pair t ht
  obtain ⟨w', hrun, h4, h5⟩ := h1.store law146 Tryz.underlying189 hn hl Go.unitElem_mk
  refine ⟨w', hrun, ⟨_, h4, h2.put _ _, fun s ls hs hls => ?_⟩, h5⟩
  by_cases e : s = t
  · subst e
    rw [hl] at hls
    cases hls
    rw [Go.Maps.has_put_same h2 (law146.key hl)]
    simp
  · have hne : ls ≠ l := fun e2 => by
      subst e2
      exact e (pairV_inj (law146.inj hls hl))
    rw [Go.Maps.has_put_other hne, h3 s ls hs hls]
    simp [e]
end Go.Proofs.YtiocjdggdmeggaaGreatDoor
