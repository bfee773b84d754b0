/-
  Automata while they are made: plain data and where they lie.
-/
import Derived.Test.YtiocjdggdmeggaaGreatDoorAuto
import Derived.OneCell
namespace Go.Proofs.YtiocjdggdmeggaaGreatDoor
open Go.RowKit

/-- Patterns, as far as they are met here. -/
inductive Nd where
  | empty
  | one (lo hi : Nat)
  | row (a b : Nd)
  | many (a : Nd)
  deriving DecidableEq, Repr, Inhabited

/-- 'follow[i] = follow[i].or(to)'. -/
def link1 (to : Nat) (f : List Nat) (i : Nat) : List Nat := f.set i (f.getD i 0 ||| to)
def PA.link (A : PA) (src to : Nat) : PA := { A with follow := (bitsOf src).foldl (link1 to) A.follow }

/-- What is known of a part: whether it has the text of no signs, its first places, its last. -/
structure Pt where
  empty : Bool
  first : Nat
  last : Nat
  deriving DecidableEq, Repr, Inhabited

def addP : Nd → PA → PA × Pt
  | .empty, A => (A, ⟨true, 0, 0⟩)
  | .one lo hi, A => ({ A with signs := A.signs ++ [(lo, hi)], follow := A.follow ++ [0] }, ⟨false, 2 ^ A.n, 2 ^ A.n⟩)
  | .row a b, A =>
    let p := addP a A
    let q := addP b p.1
    (q.1.link p.2.last q.2.first, ⟨p.2.empty && q.2.empty, if p.2.empty then p.2.first ||| q.2.first else p.2.first, if q.2.empty then q.2.last ||| p.2.last else q.2.last⟩)
  | .many a, A =>
    let p := addP a A
    (p.1.link p.2.last p.2.first, ⟨true, p.2.first, p.2.last⟩)

def Nd.places : Nd → Nat
  | .empty => 0
  | .one _ _ => 1
  | .row a b => a.places + b.places
  | .many a => a.places
/-- The signs are words. -/
def Nd.Ok : Nd → Prop
  | .empty => True
  | .one lo hi => lo < 2 ^ 64 ∧ hi < 2 ^ 64
  | .row a b => a.Ok ∧ b.Ok
  | .many a => a.Ok

def PA.start : PA := ⟨[(0, 0)], [0], 0⟩
/-- What New makes. -/
def newP (d : Nd) : PA :=
  let p := addP d PA.start
  { signs := p.1.signs, follow := p.1.follow.set 0 p.2.first, last := if p.2.empty then p.2.last ||| 1 else p.2.last }

theorem link1_length (to : Nat) (f : List Nat) (i : Nat) : (link1 to f i).length = f.length := by simp [link1]
theorem link_n (A : PA) (src to : Nat) : (A.link src to).n = A.n := by
  have := upTo_keeps (fun f => f.length = A.follow.length) (link1 to) (bitsOf src) A.follow rfl (fun f i _ h => by rw [link1_length]; exact h) (bitsOf src).length
  rw [upTo_all] at this
  exact this
theorem mem_set_lt {f : List Nat} {i x m : Nat} (hf : ∀ y ∈ f, y < m) (hx : x < m) : ∀ y ∈ f.set i x, y < m := fun y hy => by
  rcases List.mem_or_eq_of_mem_set hy with h | h
  · exact hf y h
  · rw [h]; exact hx
theorem getD_lt {f : List Nat} {m : Nat} (hf : ∀ y ∈ f, y < m) (hm : 0 < m) (i : Nat) : f.getD i 0 < m := by
  rcases Nat.lt_or_ge i f.length with h | h
  · rw [List.getD_eq_getElem?_getD, List.getElem?_eq_getElem h]; exact hf _ (List.getElem_mem h)
  · rw [List.getD_eq_getElem?_getD, List.getElem?_eq_none h]; exact hm
theorem link_follow {A : PA} {src to m : Nat} (hf : ∀ y ∈ A.follow, y < 2 ^ m) (ht : to < 2 ^ m) : ∀ y ∈ (A.link src to).follow, y < 2 ^ m := by
  have := upTo_keeps (fun f => ∀ y ∈ f, y < 2 ^ m) (link1 to) (bitsOf src) A.follow hf (fun f i _ h => mem_set_lt h (Nat.or_lt_two_pow (getD_lt h (Nat.two_pow_pos _) i) ht)) (bitsOf src).length
  rw [upTo_all] at this
  exact this
theorem PA.Ok.link {A : PA} (hA : A.Ok) {src to : Nat} (ht : to < 2 ^ A.n) : (A.link src to).Ok := by
  have hn := link_n A src to
  exact ⟨by rw [hn]; exact hA.le, by rw [hn]; exact hA.pos, by rw [hn]; exact hA.len, hA.signs, by rw [hn]; exact link_follow hA.follow ht, by rw [hn]; exact hA.last⟩

theorem addP_n (d : Nd) : ∀ A : PA, (addP d A).1.n = A.n + d.places := by
  induction d with
  | empty => intro A; rfl
  | one lo hi => intro A; simp [addP, PA.n, Nd.places]
  | row a b iha ihb => intro A; simp only [addP, link_n, ihb, iha, Nd.places]; omega
  | many a ih => intro A; simp only [addP, link_n, ih, Nd.places]
theorem pow_mono {x n m : Nat} (h : x < 2 ^ n) (hm : n ≤ m) : x < 2 ^ m := Nat.lt_of_lt_of_le h (Nat.pow_le_pow_right (by decide) hm)
theorem addP_ok (d : Nd) : ∀ A : PA, d.Ok → A.Ok → A.n + d.places ≤ 64 → (addP d A).1.Ok ∧ (addP d A).2.first < 2 ^ (addP d A).1.n ∧ (addP d A).2.last < 2 ^ (addP d A).1.n := by
  induction d with
  | empty => intro A _ hA _; exact ⟨hA, Nat.two_pow_pos _, Nat.two_pow_pos _⟩
  | one lo hi =>
    intro A hd hA h
    have hn := addP_n (.one lo hi) A
    simp only [Nd.places] at hn h
    have hn' : ({ A with signs := A.signs ++ [(lo, hi)], follow := A.follow ++ [0] } : PA).n = A.n + 1 := hn
    have h1 : 2 ^ A.n < 2 ^ (A.n + 1) := Nat.pow_lt_pow_right (by decide) (by omega)
    refine ⟨⟨by rw [hn]; exact h, by rw [hn]; omega, by rw [hn]; simp [addP, hA.len], ?_, ?_, by rw [hn]; exact pow_mono hA.last (by omega)⟩, by rw [hn]; exact h1, by rw [hn]; exact h1⟩
    · intro x hx
      simp only [addP, List.mem_append, List.mem_singleton] at hx
      rcases hx with hx | rfl
      · exact hA.signs x hx
      · exact hd
    · intro x hx
      rw [hn]
      simp only [addP, List.mem_append, List.mem_singleton] at hx
      rcases hx with hx | rfl
      · exact pow_mono (hA.follow x hx) (by omega)
      · exact Nat.two_pow_pos _
  | row a b iha ihb =>
    intro A hd hA h
    simp only [Nd.places] at h
    have na := addP_n a A
    obtain ⟨a1, a2, a3⟩ := iha A hd.1 hA (by omega)
    have nb := addP_n b (addP a A).1
    obtain ⟨b1, b2, b3⟩ := ihb (addP a A).1 hd.2 a1 (by omega)
    have ha2 := pow_mono (m := (addP b (addP a A).1).1.n) a2 (by omega)
    have ha3 := pow_mono (m := (addP b (addP a A).1).1.n) a3 (by omega)
    have hl := b1.link (src := (addP a A).2.last) b2
    refine ⟨hl, ?_, ?_⟩
    · show (if (addP a A).2.empty = true then _ else _) < 2 ^ (PA.link _ _ _).n
      rw [link_n]
      split
      · exact Nat.or_lt_two_pow ha2 b2
      · exact ha2
    · show (if (addP b (addP a A).1).2.empty = true then _ else _) < 2 ^ (PA.link _ _ _).n
      rw [link_n]
      split
      · exact Nat.or_lt_two_pow b3 ha3
      · exact b3
  | many a ih =>
    intro A hd hA h
    obtain ⟨a1, a2, a3⟩ := ih A hd hA h
    refine ⟨a1.link a2, ?_, ?_⟩
    · show _ < 2 ^ (PA.link _ _ _).n
      rw [link_n]; exact a2
    · show _ < 2 ^ (PA.link _ _ _).n
      rw [link_n]; exact a3
theorem start_ok : PA.start.Ok := ⟨by decide, by decide, rfl, by decide, by decide, by decide⟩
theorem newP_ok (d : Nd) (hd : d.Ok) (hp : d.places ≤ 63) : (newP d).Ok := by
  obtain ⟨h1, h2, h3⟩ := addP_ok d PA.start hd start_ok (by show 1 + _ ≤ 64; omega)
  have hn : (newP d).n = (addP d PA.start).1.n := by simp [newP, PA.n]
  have h1p := h1.pos
  refine ⟨by rw [hn]; exact h1.le, by rw [hn]; exact h1.pos, by rw [hn]; exact h1.len, h1.signs, by rw [hn]; exact mem_set_lt h1.follow h2, ?_⟩
  rw [hn]
  show (if (addP d PA.start).2.empty = true then _ else _) < _
  split
  · exact Nat.or_lt_two_pow h3 (Nat.one_lt_two_pow (by omega))
  · exact h3
theorem newP_n (d : Nd) : (newP d).n = d.places + 1 := by
  have := addP_n d PA.start
  have h : (newP d).n = (addP d PA.start).1.n := by simp [newP, PA.n]
  rw [h, this]; show 1 + _ = _; omega

/-- The automaton in the making: it lies at p, all of it from block B on, in three blocks. -/
def OwnAt (w : World) (B p gs cs gf cf : Nat) (A : PA) : Prop :=
  B ≤ p ∧ p ≠ gs ∧ p ≠ gf ∧ gs ≠ gf ∧
    w.heap[p]? = some (.cells #[.slice (some ⟨gs, 0, none⟩) A.n cs, .slice (some ⟨gf, 0, none⟩) A.n cf, u64v A.last, u64v 0] 154 (0, 0)) ∧
    w.ownsRow B 195 2 (.slice (some ⟨gs, 0, none⟩) A.n cs) A.n (signCells A.signs) ∧
    w.ownsRow B 152 2 (.slice (some ⟨gf, 0, none⟩) A.n cf) A.n (setCells A.follow)
theorem OwnAt.same {w w' : World} {B p gs cs gf cf : Nat} {A : PA} (h : OwnAt w B p gs cs gf cf A) (hs : ∀ k, k < w.heap.size → w'.heap[k]? = w.heap[k]?) : OwnAt w' B p gs cs gf cf A := by
  obtain ⟨h1, h2, h3, h4, h5, h6, h7⟩ := h
  exact ⟨h1, h2, h3, h4, (hs p (lt_of_at h5)).trans h5, ownsRow_same h6 (hs gs (h6.lt _ rfl).2), ownsRow_same h7 (hs gf (h7.lt _ rfl).2)⟩
theorem setCells_set (l : List Nat) (i x : Nat) (hi : i < l.length) : ((setCells l).set (i * 2) (u64v x)).set (i * 2 + 1) (u64v 0) = setCells (l.set i x) := by
  induction l generalizing i with
  | nil => simp at hi
  | cons y l ih =>
    cases i with
    | zero => rfl
    | succ i =>
      have e : (i + 1) * 2 = i * 2 + 2 := by omega
      rw [e]
      have := ih i (by simpa using hi)
      show u64v y :: u64v 0 :: (((setCells l).set (i * 2) (u64v x)).set (i * 2 + 1) (u64v 0)) = u64v y :: u64v 0 :: setCells (l.set i x)
      rw [this]
end Go.Proofs.YtiocjdggdmeggaaGreatDoor
