/-
  The places of a set of places, by the bits of its word: the list of the set bits, lowest first; how 'w &= w - 1' takes the lowest away.
-/
import Derived.Lib.TrailingZeros
namespace Go.Proofs.YtiocjdggdmeggaaGreatDoor

/-- The set bits of a word, lowest first. -/
def bitsOf (s : Nat) : List Nat := (List.range 64).filter fun i => s.testBit i

theorem mem_bitsOf {s i : Nat} : i ∈ bitsOf s ↔ i < 64 ∧ s.testBit i = true := by
  simp [bitsOf]

theorem bitsOf_zero : bitsOf 0 = [] := by
  simp [bitsOf]

theorem ctz_parts (v : Nat) (h0 : v ≠ 0) (hv : v < 2 ^ 64) : ∃ m, v = 2 ^ Lib.ctz 64 v * (2 * m + 1) ∧ Lib.ctz 64 v < 64 := by
  unfold Lib.ctz
  rw [if_neg h0]
  exact Lib.ctzFrom_spec 64 v (by omega) hv

theorem testBit_shape (i m j : Nat) : (2 ^ i * (2 * m + 1)).testBit j = if j < i then false else if j = i then true else m.testBit (j - i - 1) := by
  rw [Nat.mul_comm, Nat.testBit_mul_two_pow]
  by_cases h : j < i
  · have h2 : ¬ i ≤ j := by omega
    simp [h, h2]
  · have h' : i ≤ j := by omega
    simp only [h', decide_true, Bool.true_and, h, if_false]
    by_cases e : j = i
    · subst e; simp [Nat.testBit_zero]
    · simp only [e, if_false]
      obtain ⟨d, hd⟩ : ∃ d, j - i = d + 1 := ⟨j - i - 1, by omega⟩
      rw [hd, Nat.testBit_succ]
      congr 1
      omega

theorem testBit_pred (i m j : Nat) : (2 ^ i * (2 * m + 1) - 1).testBit j = if j < i then true else if j = i then false else m.testBit (j - i - 1) := by
  have hp : 0 < 2 ^ i := Nat.two_pow_pos i
  have e : 2 ^ i * (2 * m + 1) - 1 = 2 ^ i * (2 * m) + (2 ^ i - 1) := by
    rw [Nat.mul_add, Nat.mul_one]; omega
  rw [e, Nat.testBit_two_pow_mul_add _ (by omega)]
  by_cases h : j < i
  · simp [h]
  · simp only [h, if_false]
    by_cases e : j = i
    · subst e; simp [Nat.testBit_zero]
    · simp only [e, if_false]
      obtain ⟨d, hd⟩ : ∃ d, j - i = d + 1 := ⟨j - i - 1, by omega⟩
      rw [hd, Nat.testBit_succ]
      congr 1
      omega

theorem range_split (i : Nat) (hi : i < 64) : List.range 64 = List.range i ++ i :: (List.range (63 - i)).map (· + (i + 1)) := by
  apply List.ext_getElem
  · simp; omega
  · intro k h1 h2
    simp only [List.getElem_range]
    by_cases h : k < i
    · rw [List.getElem_append_left (by simpa using h)]; simp
    · rw [List.getElem_append_right (by simpa using h)]
      by_cases e : k = i
      · subst e; simp
      · simp only [List.length_range]
        rw [List.getElem_cons]
        rw [dif_neg (by omega)]
        simp; omega

/-- 'w &= w - 1' takes the lowest bit away. -/
theorem bitsOf_step (v : Nat) (h0 : v ≠ 0) (hv : v < 2 ^ 64) : Lib.ctz 64 v < 64 ∧ bitsOf v = Lib.ctz 64 v :: bitsOf (v &&& (v - 1)) := by
  obtain ⟨m, hm, hi⟩ := ctz_parts v h0 hv
  refine ⟨hi, ?_⟩
  generalize Lib.ctz 64 v = i at *
  have t1 : ∀ j, v.testBit j = if j < i then false else if j = i then true else m.testBit (j - i - 1) := fun j => by rw [hm]; exact testBit_shape i m j
  have t2 : ∀ j, (v &&& (v - 1)).testBit j = if j < i then false else if j = i then false else m.testBit (j - i - 1) := fun j => by
    rw [Nat.testBit_and, t1, hm, testBit_pred]
    split
    · rfl
    · split
      · rfl
      · simp
  unfold bitsOf
  rw [range_split i hi, List.filter_append, List.filter_append]
  have e1 : (List.range i).filter (fun j => v.testBit j) = [] := by
    rw [List.filter_eq_nil_iff]; intro j hj; rw [t1, if_pos (by simpa using hj)]; simp
  have e2 : (List.range i).filter (fun j => (v &&& (v - 1)).testBit j) = [] := by
    rw [List.filter_eq_nil_iff]; intro j hj; rw [t2, if_pos (by simpa using hj)]; simp
  rw [e1, e2]
  simp only [List.nil_append, List.filter_cons]
  rw [t1 i, t2 i]
  simp only [Nat.lt_irrefl, Bool.false_eq_true, ↓reduceIte]
  congr 1
  apply List.filter_congr
  intro j hj
  rw [t1, t2]
  simp only [List.mem_map, List.mem_range] at hj
  obtain ⟨k, _, rfl⟩ := hj
  rw [if_neg (by omega), if_neg (by omega), if_neg (by omega), if_neg (by omega)]

theorem and_pred_lt (v : Nat) (h0 : v ≠ 0) : v &&& (v - 1) < v := by
  have := Nat.and_le_right (n := v) (m := v - 1)
  omega
end Go.Proofs.YtiocjdggdmeggaaGreatDoor
