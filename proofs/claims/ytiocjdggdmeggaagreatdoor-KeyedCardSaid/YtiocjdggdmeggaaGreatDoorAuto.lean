/-
  Automata: what New makes, as plain data; where it lies in memory.
-/
import Derived.Test.YtiocjdggdmeggaaGreatDoorBits
import Derived.Test.YtiocjdggdmeggaaGreatDoorBase
import Derived.Laws.OwnMore
namespace Go.Proofs.YtiocjdggdmeggaaGreatDoor
open Go.RowKit

/-- An automaton: of each place its signs (two words) and the places that follow it (a word); where it may end (a word). -/
structure PA where
  signs : List (Nat × Nat)
  follow : List Nat
  last : Nat
  deriving DecidableEq, Repr, Inhabited

def PA.n (A : PA) : Nat := A.follow.length

/-- No more than 64 places; every word names places alone. -/
structure PA.Ok (A : PA) : Prop where
  le : A.n ≤ 64
  pos : 1 ≤ A.n
  len : A.signs.length = A.n
  signs : ∀ x ∈ A.signs, x.1 < 2 ^ 64 ∧ x.2 < 2 ^ 64
  follow : ∀ x ∈ A.follow, x < 2 ^ A.n
  last : A.last < 2 ^ A.n

theorem PA.Ok.word {A : PA} (h : A.Ok) {x : Nat} (hx : x < 2 ^ A.n) : x < 2 ^ 64 :=
  Nat.lt_of_lt_of_le hx (Nat.pow_le_pow_right (by decide) h.le)

def u64v (x : Nat) : Value := .int .u64 (x : Int)
def signCells (l : List (Nat × Nat)) : List Value := l.flatMap fun x => [u64v x.1, u64v x.2]
def setCells (l : List Nat) : List Value := l.flatMap fun x => [u64v x, u64v 0]

theorem signCells_length (l : List (Nat × Nat)) : (signCells l).length = l.length * 2 := by
  induction l with
  | nil => rfl
  | cons x l ih => simp only [signCells, List.flatMap_cons, List.length_append, List.length_cons, List.length_nil] at ih ⊢; omega
theorem setCells_length (l : List Nat) : (setCells l).length = l.length * 2 := by
  induction l with
  | nil => rfl
  | cons x l ih => simp only [setCells, List.flatMap_cons, List.length_append, List.length_cons, List.length_nil] at ih ⊢; omega
theorem signCells_at : ∀ (l : List (Nat × Nat)) (i : Nat) (h : i < l.length), (signCells l)[i * 2]? = some (u64v l[i].1) ∧ (signCells l)[i * 2 + 1]? = some (u64v l[i].2)
  | x :: l, 0, _ => ⟨rfl, rfl⟩
  | x :: l, i + 1, h => by
    have h' : i < l.length := by simpa using h
    have ih := signCells_at l i h'
    have e : (i + 1) * 2 = i * 2 + 2 := by omega
    rw [e]
    exact ih
theorem setCells_at : ∀ (l : List Nat) (i : Nat) (h : i < l.length), (setCells l)[i * 2]? = some (u64v l[i]) ∧ (setCells l)[i * 2 + 1]? = some (u64v 0)
  | x :: l, 0, _ => ⟨rfl, rfl⟩
  | x :: l, i + 1, h => by
    have h' : i < l.length := by simpa using h
    have ih := setCells_at l i h'
    have e : (i + 1) * 2 = i * 2 + 2 := by omega
    rw [e]
    exact ih

/-- The automaton A lies at block p, all of it below block T. -/
def AutoAt (w : World) (T p : Nat) (A : PA) : Prop :=
  ∃ gs cs gf cf, p < T ∧ gs < T ∧ gf < T ∧
    w.heap[p]? = some (.cells #[.slice (some ⟨gs, 0, none⟩) A.n cs, .slice (some ⟨gf, 0, none⟩) A.n cf, u64v A.last, u64v 0] 154 (0, 0)) ∧
    w.ownsRow 0 195 2 (.slice (some ⟨gs, 0, none⟩) A.n cs) A.n (signCells A.signs) ∧
    w.ownsRow 0 152 2 (.slice (some ⟨gf, 0, none⟩) A.n cf) A.n (setCells A.follow)

theorem ownsRow_same {w w' : World} {b e z g n c : Nat} {xs : List Value} (h : w.ownsRow b e z (.slice (some ⟨g, 0, none⟩) n c) n xs) (hs : w'.heap[g]? = w.heap[g]?) :
    w'.ownsRow b e z (.slice (some ⟨g, 0, none⟩) n c) n xs := by
  obtain ⟨h1, h2⟩ := h
  refine ⟨h1, ?_⟩
  rcases h2 with ⟨h2, _⟩ | ⟨g', cap, cur, hv, hg, hh, r⟩
  · cases h2
  · cases hv
    exact .inr ⟨_, _, cur, rfl, hg, by rw [hs]; exact hh, r⟩

theorem AutoAt.same {w w' : World} {T p : Nat} {A : PA} (h : AutoAt w T p A) (hs : ∀ k, k < T → w'.heap[k]? = w.heap[k]?) : AutoAt w' T p A := by
  obtain ⟨gs, cs, gf, cf, h1, h2, h3, h4, h5, h6⟩ := h
  exact ⟨gs, cs, gf, cf, h1, h2, h3, (hs p h1).trans h4, ownsRow_same h5 (hs gs h2), ownsRow_same h6 (hs gf h3)⟩
theorem AutoAt.mono {w : World} {T T' p : Nat} {A : PA} (h : AutoAt w T p A) (hT : T ≤ T') : AutoAt w T' p A := by
  obtain ⟨gs, cs, gf, cf, h1, h2, h3, h⟩ := h
  exact ⟨gs, cs, gf, cf, by omega, by omega, by omega, h⟩

/-! ### What it does -/
def stepIn (A : PA) (c : Nat) (fl : Nat) (out : Nat) : Nat :=
  (bitsOf fl).foldl (fun out j => if (let x := A.signs.getD j (0, 0); if c < 64 then x.1.testBit c else x.2.testBit (c % 64)) then out ||| 2 ^ j else out) out
/-- Where some places lead by a sign. -/
def PA.step (A : PA) (s c : Nat) : Nat := (bitsOf s).foldl (fun out i => stepIn A c (A.follow.getD i 0) out) 0
end Go.Proofs.YtiocjdggdmeggaaGreatDoor
namespace Go.Proofs.YtiocjdggdmeggaaGreatDoor
open Go.RowKit
/-! ### The folds, as far as they have come -/
def upTo {α : Type} (f : α → Nat → α) (l : List Nat) (z : α) (k : Nat) : α := (l.take k).foldl f z
theorem upTo_zero {α : Type} (f : α → Nat → α) (l : List Nat) (z : α) : upTo f l z 0 = z := rfl
theorem upTo_succ {α : Type} (f : α → Nat → α) (l : List Nat) (z : α) (k x : Nat) (h : l[k]? = some x) : upTo f l z (k + 1) = f (upTo f l z k) x := by
  obtain ⟨hk, rfl⟩ := List.getElem?_eq_some_iff.1 h
  unfold upTo
  rw [List.take_succ_eq_append_getElem hk, List.foldl_append]
  rfl
theorem upTo_all {α : Type} (f : α → Nat → α) (l : List Nat) (z : α) : upTo f l z l.length = l.foldl f z := by simp [upTo]
theorem upTo_keeps {α : Type} (p : α → Prop) (f : α → Nat → α) (l : List Nat) (z : α) (hz : p z) (hf : ∀ a x, x ∈ l → p a → p (f a x)) (k : Nat) : p (upTo f l z k) := by
  have : ∀ (m : List Nat), (∀ x ∈ m, x ∈ l) → ∀ z, p z → p (m.foldl f z) := by
    intro m
    induction m with
    | nil => intro _ z hz; exact hz
    | cons x m ih => intro hm z hz; exact ih (fun y hy => hm y (by simp [hy])) _ (hf _ _ (hm x (by simp)) hz)
  exact this _ (fun x hx => List.mem_of_mem_take hx) _ hz

def signAt (A : PA) (j c : Nat) : Bool := let x := A.signs.getD j (0, 0); if c < 64 then x.1.testBit c else x.2.testBit (c % 64)
def stepIn1 (A : PA) (c out j : Nat) : Nat := if signAt A j c = true then out ||| 2 ^ j else out
def step1 (A : PA) (c out i : Nat) : Nat := (bitsOf (A.follow.getD i 0)).foldl (stepIn1 A c) out
theorem step_eq (A : PA) (s c : Nat) : A.step s c = (bitsOf s).foldl (step1 A c) 0 := rfl

theorem mem_bits_lt {s n i : Nat} (hs : s < 2 ^ n) (h : i ∈ bitsOf s) : i < n := by
  have h1 := (mem_bitsOf.1 h).2
  exact Nat.lt_of_not_le fun hle => by
    rw [Nat.testBit_lt_two_pow (Nat.lt_of_lt_of_le hs (Nat.pow_le_pow_right (by decide) hle))] at h1
    cases h1
theorem stepIn1_lt {A : PA} {c out j : Nat} (ho : out < 2 ^ A.n) (hj : j < A.n) : stepIn1 A c out j < 2 ^ A.n := by
  unfold stepIn1
  split
  · exact Nat.or_lt_two_pow ho (Nat.pow_lt_pow_right (by decide) hj)
  · exact ho
theorem getD_follow_lt {A : PA} (hA : A.Ok) (i : Nat) : A.follow.getD i 0 < 2 ^ A.n := by
  rcases Nat.lt_or_ge i A.follow.length with h | h
  · rw [List.getD_eq_getElem?_getD, List.getElem?_eq_getElem h]
    exact hA.follow _ (List.getElem_mem h)
  · rw [List.getD_eq_getElem?_getD, List.getElem?_eq_none h]
    exact Nat.two_pow_pos _
theorem foldl_lt {n : Nat} (f : Nat → Nat → Nat) (l : List Nat) (hf : ∀ o x, x ∈ l → o < n → f o x < n) : ∀ (z : Nat), z < n → l.foldl f z < n := by
  intro z hz
  have := upTo_keeps (fun a => a < n) f l z hz hf l.length
  rwa [upTo_all] at this
theorem step1_lt {A : PA} (hA : A.Ok) {c out : Nat} (i : Nat) (ho : out < 2 ^ A.n) : step1 A c out i < 2 ^ A.n :=
  foldl_lt _ _ (fun _ _ hx ho => stepIn1_lt ho (mem_bits_lt (getD_follow_lt hA i) hx)) _ ho
theorem step_lt {A : PA} (hA : A.Ok) (s c : Nat) : A.step s c < 2 ^ A.n :=
  foldl_lt _ _ (fun _ _ _ ho => step1_lt hA _ ho) _ (Nat.two_pow_pos _)
end Go.Proofs.YtiocjdggdmeggaaGreatDoor
namespace Go.Proofs.YtiocjdggdmeggaaGreatDoor
open Go.RowKit
/-- The cells of an automaton. -/
theorem AutoAt.cells {w : World} {T p : Nat} {A : PA} (hA : A.Ok) (h : AutoAt w T p A) : ∃ gs cs gf cf,
    w.cell? ⟨p, 0, none⟩ = some (.slice (some ⟨gs, 0, none⟩) A.n cs) ∧ w.cell? ⟨p, 1, none⟩ = some (.slice (some ⟨gf, 0, none⟩) A.n cf) ∧
    w.cell? ⟨p, 2, none⟩ = some (.int .u64 (A.last : Nat)) ∧ w.cell? ⟨p, 3, none⟩ = some (.int .u64 0) ∧
    (∀ i, i < A.n → w.cell? ⟨gs, i * 2, none⟩ = some (.int .u64 ((A.signs.getD i (0, 0)).1 : Nat)) ∧ w.cell? ⟨gs, i * 2 + 1, none⟩ = some (.int .u64 ((A.signs.getD i (0, 0)).2 : Nat))) ∧
    (∀ i, i < A.n → w.cell? ⟨gf, i * 2, none⟩ = some (.int .u64 (A.follow.getD i 0 : Nat)) ∧ w.cell? ⟨gf, i * 2 + 1, none⟩ = some (.int .u64 0)) := by
  obtain ⟨gs, cs, gf, cf, h1, h2, h3, h4, h5, h6⟩ := h
  have hn : A.follow.length = A.n := rfl
  refine ⟨gs, cs, gf, cf, (cell_at h4 0).trans rfl, (cell_at h4 1).trans rfl, (cell_at h4 2).trans rfl, (cell_at h4 3).trans rfl, fun i hi => ?_, fun i hi => ?_⟩
  · have hl : i < A.signs.length := by rw [hA.len]; exact hi
    have e := signCells_at A.signs i hl
    have g : A.signs.getD i (0, 0) = A.signs[i] := by rw [List.getD_eq_getElem?_getD, List.getElem?_eq_getElem hl]; rfl
    rw [g]
    exact ⟨(h5.cellAt (i * 2) (by omega)).trans e.1, (h5.cellAt (i * 2 + 1) (by omega)).trans e.2⟩
  · have hl : i < A.follow.length := by omega
    have e := setCells_at A.follow i hl
    have g : A.follow.getD i 0 = A.follow[i] := by rw [List.getD_eq_getElem?_getD, List.getElem?_eq_getElem hl]; rfl
    rw [g]
    exact ⟨(h6.cellAt (i * 2) (by omega)).trans e.1, (h6.cellAt (i * 2 + 1) (by omega)).trans e.2⟩
theorem signAt_eq (A : PA) (j c : Nat) : signAt A j c = if c < 64 then (A.signs.getD j (0, 0)).1.testBit c else (A.signs.getD j (0, 0)).2.testBit (c % 64) := rfl
theorem getD_signs_lt {A : PA} (hA : A.Ok) (i : Nat) : (A.signs.getD i (0, 0)).1 < 2 ^ 64 ∧ (A.signs.getD i (0, 0)).2 < 2 ^ 64 := by
  rcases Nat.lt_or_ge i A.signs.length with h | h
  · rw [List.getD_eq_getElem?_getD, List.getElem?_eq_getElem h]
    exact hA.signs _ (List.getElem_mem h)
  · rw [List.getD_eq_getElem?_getD, List.getElem?_eq_none h]
    decide
end Go.Proofs.YtiocjdggdmeggaaGreatDoor
namespace Go.Proofs.YtiocjdggdmeggaaGreatDoor
open Go.RowKit
/-- Where a text leads from the beginning; whether one may end there. -/
def PA.run (A : PA) (l : List UInt8) : Nat := l.foldl (fun s b => A.step s b.toNat) 1
def PA.acc (A : PA) (s : Nat) : Bool := s &&& A.last != 0
def PA.endsAt (A : PA) (l : List UInt8) (i : Nat) : Bool := A.acc (A.run (l.take i))
def PA.is (A : PA) (l : List UInt8) : Bool := A.acc (A.run l)
theorem run_snoc (A : PA) (l : List UInt8) (k : Nat) (h : k < l.length) : A.run (l.take (k + 1)) = A.step (A.run (l.take k)) l[k].toNat := by
  unfold PA.run
  rw [List.take_succ_eq_append_getElem h, List.foldl_append]
  rfl
theorem run_lt {A : PA} (hA : A.Ok) (l : List UInt8) : A.run l < 2 ^ A.n := by
  have : ∀ (l : List UInt8) s, s < 2 ^ A.n → l.foldl (fun s b => A.step s b.toNat) s < 2 ^ A.n := by
    intro l
    induction l with
    | nil => intro s hs; exact hs
    | cons b l ih => intro s _; exact ih _ (step_lt hA _ _)
  exact this l 1 (Nat.one_lt_two_pow (by have := hA.pos; omega))
/-- The answers, as far as they have come. -/
def endCells (A : PA) (l : List UInt8) (n k : Nat) : List Value := (List.range n).map fun i => .bool (decide (i < k) && A.endsAt l i)
theorem endCells_zero (A : PA) (l : List UInt8) (n : Nat) : endCells A l n 0 = List.replicate n (.bool false) := by
  apply List.ext_getElem
  · simp [endCells]
  · intro i h1 h2
    simp [endCells]
theorem endCells_set (A : PA) (l : List UInt8) (n k : Nat) : (endCells A l n k).set k (.bool (A.endsAt l k)) = endCells A l n (k + 1) := by
  apply List.ext_getElem
  · simp [endCells]
  · intro i h1 h2
    rw [List.getElem_set]
    by_cases e : k = i
    · subst e; simp [endCells]
    · rw [if_neg e]
      simp only [endCells, List.getElem_map, List.getElem_range]
      congr 2
      by_cases h : i < k
      · simp [h, show i < k + 1 by omega]
      · simp [h, show ¬ i < k + 1 by omega]
theorem endCells_at (A : PA) (l : List UInt8) (n i : Nat) (hi : i < n) : (endCells A l n n)[i]? = some (.bool (A.endsAt l i)) := by
  simp [endCells, hi]
end Go.Proofs.YtiocjdggdmeggaaGreatDoor
namespace Go.Proofs.YtiocjdggdmeggaaGreatDoor
/-- Do two sets of signs have a sign together? -/
def meets (a0 a1 b0 b1 : Nat) : Bool := (a0 &&& b0 != 0) || (a1 &&& b1 != 0)
end Go.Proofs.YtiocjdggdmeggaaGreatDoor
