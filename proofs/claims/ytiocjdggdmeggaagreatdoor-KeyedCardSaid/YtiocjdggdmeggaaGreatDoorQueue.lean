/-
  The queue of a search: a slice of pairs that is cut at its head and grows at its end.
-/
import Derived.Test.YtiocjdggdmeggaaGreatDoorSeen
import Derived.ArgAppend
import Derived.Deep.Upon
import Derived.Maps.RangeWalk
namespace Go.Proofs.YtiocjdggdmeggaaGreatDoor
open Go.RowKit Go.Shelf
theorem info146 : (Tryz.prog.info? 146).map (fun i => (i.zero, i.size, i.bytes)) = some (some (.agg #[.int .i64 0, .int .i64 0, .int .i64 0]), 3, 24) := by kernel_rfl
def pairCells (xs : List (Nat × Nat × Nat)) : List Value := xs.flatMap fun t => [.int .i64 (t.1 : Nat), .int .i64 (t.2.1 : Nat), .int .i64 (t.2.2 : Nat)]
theorem pairCells_length (xs : List (Nat × Nat × Nat)) : (pairCells xs).length = xs.length * 3 := by
  induction xs with
  | nil => rfl
  | cons t xs ih => simp only [pairCells, List.flatMap_cons, List.length_append, List.length_cons, List.length_nil] at ih ⊢; omega
theorem pairCells_append (xs ys : List (Nat × Nat × Nat)) : pairCells (xs ++ ys) = pairCells xs ++ pairCells ys := by simp [pairCells]
/-- The value q is a slice of the pairs xs, in a block of its own from B on. -/
def QueueAt (w : World) (B : Nat) (q : Value) (xs : List (Nat × Nat × Nat)) : Prop :=
  (q = .slice none 0 0 ∧ xs = []) ∨ ∃ g off cap cur, q = .slice (some ⟨g, off, none⟩) xs.length cap ∧ B ≤ g ∧ w.heap[g]? = some (.cells cur 146 (0, 0)) ∧ xs.length ≤ cap ∧ off + cap * 3 ≤ cur.size ∧
    ∀ j u, (pairCells xs)[j]? = some u → cur[off + j]? = some u
theorem QueueAt.kept {w w' : World} {B : Nat} {q : Value} {xs : List (Nat × Nat × Nat)} (h : QueueAt w B q xs) (hs : ∀ k, B ≤ k → k < w.heap.size → q.ownBlock = some k → w'.heap[k]? = w.heap[k]?) : QueueAt w' B q xs := by
  rcases h with h | ⟨g, off, cap, cur, rfl, hB, hg, rest⟩
  · exact .inl h
  · exact .inr ⟨g, off, cap, cur, rfl, hB, (hs g hB (lt_of_at hg) rfl).trans hg, rest⟩
theorem queue_push {w : World} {B : Nat} {q : Value} {xs : List (Nat × Nat × Nat)} (h : QueueAt w B q xs) (hB : B ≤ w.heap.size) (hl : xs.length ≤ 100000) (t : Nat × Nat × Nat) (a : Addr) (c : Nat)
    (hn : ∀ j u, (pairCells [t])[j]? = some u → w.cell? (a.add j) = some u) (ty : TypeId) :
    ∃ q' w', (Builtin.append_ #[190, 190] ty #[q, .slice (some a) 1 c]).run Tryz.prog w = .ok q' w' ∧ QueueAt w' B q' (xs ++ [t]) ∧ w.grownBy w' q.ownBlock ∧ (q'.ownBlock = q.ownBlock ∨ ∃ g, q'.ownBlock = some g ∧ w.heap.size ≤ g) := by
  obtain ⟨i, hi, h0, h1, h2⟩ := info_parts info146
  have hone : ∀ u ∈ pairCells [t], u.oneCell' = true := by simp [pairCells, Value.oneCell']
  have hmax : (100001 : Nat) ≤ maxLen := by unfold maxLen; omega
  rcases h with ⟨rfl, rfl⟩ | ⟨g, off, cap, cur, rfl, hg, hat, hcap, hsz, hcells⟩
  · obtain ⟨g, cap, w', hr, hown, hgr, hor, _⟩ := run_append_lies (P := Tryz.prog) w 190 ty B 146 i _ 3 24 Tryz.underlying190 hi h0 h1 h2 rfl (by omega) (.slice none 0 0) 0 [] (World.ownsRow_nil _ _ _ _) a 1 c (pairCells [t]) (by simp [pairCells_length]) hn hone (by omega) (by omega) (by omega) hB w.heap.size rfl
    have hgg : g = w.heap.size := by rcases hor with h | h; (· simp [Value.ownBlock] at h); exact h
    refine ⟨_, w', hr, .inr ?_, hgr, .inr ⟨g, rfl, by omega⟩⟩
    rcases hown.2 with ⟨h, _⟩ | ⟨g', cap', cur, hv, hBg, hat, hle, hmx, hcs, htk⟩
    · cases h
    · cases hv
      refine ⟨g, 0, cap, cur, rfl, hBg, hat, hle, by omega, fun j u hj => ?_⟩
      have := congrArg (fun l => l[j]?) htk
      simp only [List.nil_append, List.getElem?_take] at this
      rw [List.nil_append] at hj
      rw [hj] at this
      split at this
      · simpa using this
      · cases this
  · by_cases hroom : xs.length + 1 ≤ cap
    · have hin : ∀ j, j < 3 → (w.cell? ⟨g, off + xs.length * i.size + j, none⟩).isSome = true := fun j hj => by
        rw [cell_at hat, h1]
        simp
        omega
      have hr := run_append_room_cells (P := Tryz.prog) w 190 ty 146 i Tryz.underlying190 hi g off xs.length cap a 1 c (pairCells [t]) (by simp [pairCells_length, h1]) hn hone hroom (by simpa [pairCells_length] using hin) (fun j _ => frozen_at hat _)
      refine ⟨_, _, hr, .inr ?_, ?_, .inl rfl⟩
      · rw [h1]
        refine ⟨g, off, cap, ((cur.setIfInBounds (off + xs.length * 3) (.int .i64 (t.1 : Nat))).setIfInBounds (off + xs.length * 3 + 1) (.int .i64 (t.2.1 : Nat))).setIfInBounds (off + xs.length * 3 + 1 + 1) (.int .i64 (t.2.2 : Nat)), by simp, hg, setCell_at (setCell_at (setCell_at hat _ _) _ _) _ _, by simpa using hroom, by simpa using hsz, fun j u hj => ?_⟩
        rw [pairCells_append] at hj
        have hlen := pairCells_length xs
        by_cases hlt : j < (pairCells xs).length
        · rw [List.getElem?_append_left hlt] at hj
          have := hcells j u hj
          rw [Array.getElem?_setIfInBounds_ne (by omega), Array.getElem?_setIfInBounds_ne (by omega), Array.getElem?_setIfInBounds_ne (by omega)]
          exact this
        · rw [List.getElem?_append_right (by omega)] at hj
          have hj3 : j - (pairCells xs).length < 3 := by
            have := (List.getElem?_eq_some_iff.1 hj).1
            simpa [pairCells_length] using this
          obtain ⟨k, hk⟩ : ∃ k, j - (pairCells xs).length = k := ⟨_, rfl⟩
          rw [hk] at hj hj3
          have hjk : off + j = off + xs.length * 3 + k := by omega
          rw [hjk]
          match k, hj3 with
          | 0, _ =>
            simp [pairCells] at hj
            subst hj
            rw [Array.getElem?_setIfInBounds_ne (by omega), Array.getElem?_setIfInBounds_ne (by omega), Nat.add_zero, Array.getElem?_setIfInBounds_self_of_lt (by omega)]
          | 1, _ =>
            simp [pairCells] at hj
            subst hj
            rw [Array.getElem?_setIfInBounds_ne (by omega), Array.getElem?_setIfInBounds_self_of_lt (by simp; omega)]
          | 2, _ =>
            simp [pairCells] at hj
            subst hj
            rw [show off + xs.length * 3 + 2 = off + xs.length * 3 + 1 + 1 from rfl, Array.getElem?_setIfInBounds_self_of_lt (by simp; omega)]
      · refine ⟨rfl, rfl, rfl, by simp [World.setCells, World.setCell, pairCells], fun k hk hne => World.heap_setCells_other _ _ _ _ hk (fun e => hne (by rw [e]; rfl))⟩
    · obtain ⟨v', w', hr, hown, hgr⟩ := run_append_arg_grows (P := Tryz.prog) w 190 ty 146 i _ 3 24 Tryz.underlying190 hi h0 h1 h2 rfl (by omega) ⟨g, off, none⟩ xs.length cap (pairCells xs) (pairCells_length xs) (fun j u hj => by
          have := hcells j u hj
          show w.cell? (Addr.add ⟨g, off, none⟩ j) = some u
          rw [Addr.add_lit, cell_at hat]
          exact this) a 1 c (pairCells [t]) (by simp [pairCells_length]) hn (by omega) (by omega) (by omega)
      obtain ⟨g2, cap2, rfl, hge, _⟩ := hown.form (by omega)
      refine ⟨_, w', hr, .inr ?_, hgr.but _, .inr ⟨g2, rfl, hge⟩⟩
      rcases hown.2 with ⟨h, _⟩ | ⟨g', cap', cur', hv, hBg, hat', hle, hmx, hcs, htk⟩
      · cases h
      · cases hv
        refine ⟨g2, 0, cap2, cur', by simp, by omega, hat', by simpa using hle, by omega, fun j u hj => ?_⟩
        have := congrArg (fun l => l[j]?) htk
        simp only [List.getElem?_take] at this
        rw [pairCells_append] at hj
        rw [hj] at this
        split at this
        · simpa using this
        · cases this
end Go.Proofs.YtiocjdggdmeggaaGreatDoor
