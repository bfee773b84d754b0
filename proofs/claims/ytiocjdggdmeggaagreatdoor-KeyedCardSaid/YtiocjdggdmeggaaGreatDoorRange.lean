/-
  A range over a function whose value is a method value (its receiver is bound ahead of yield), whose body never leaves the loop: one law for an outermost loop, one for a loop in a round.
-/
import Derived.RangeFuncNested
import Derived.RangeFuncCalls
import Derived.Test.YtiocjdggdmeggaaGreatDoorBase
namespace Go.Proofs.YtiocjdggdmeggaaGreatDoor
open Go.RowKit

/-- The iterator g, its receiver bound: it calls yield at each of xs, in their order, and between the rounds it lays blocks and draws, no more. E: what it reads. -/
def Runs (P : Program) (g : Nat) (pre : Array Value) (xs : List Nat) (E : World → Prop) : Prop :=
  ∀ (n l : Nat) (J : Nat → World → Prop) (W : World),
    (∀ k W o, J k W → J k (W.alloc o)) → (∀ k W, J k W → J k W.drew) → (∀ k W, J k W → E W) →
    (∀ k x W1, xs[k]? = some x → J k W1 → YieldAt Fence.wide (n - 1) P l #[.int .i64 (x : Nat)] W1 fun e W' => e = .returned (.bool true) ∧ J (k + 1) W') →
    J 0 W → CallsIn Fence.wide n P g (pre ++ #[.func (.yield l) #[] #[]]) W fun e W' => (∃ v, e = .returned v) ∧ J xs.length W'

/-- How a round is left. -/
def RoundPost (B : Nat) (I : Nat → World → Prop) (k : Nat) (W : World) : Exit → Act → World → Prop
  | .normal, _, W' => KeepsFrom B W W' ∧ I k W'
  | _, _, _ => False

variable {P : Program}

/-- One call of yield, out of the walks of the assignment and of the body. -/
theorem round_ok {l m B k x : Nat} {rec : Loop} {W : World} {I : Nat → World → Prop} {Ax : Act → World → Prop} {X : World → Prop} {p0 : Tmp}
    (hl : W.heap[l]? = some (.loop rec)) (hB : B ≤ l) (hst : rec.state = .ready) (hpe : rec.pending = none) (hps : rec.params = #[p0])
    (hAp : ∀ a1 W l o o', Ax a1 W → B ≤ l → W.heap[l]? = some o → o.isCells = false → Ax a1 (W.putObj l o'))
    (hIp : ∀ W l o o', I (k + 1) W → B ≤ l → W.heap[l]? = some o → o.isCells = false → I (k + 1) (W.putObj l o'))
    (hXk : ∀ {W W'}, KeepsFrom B W W' → X W → X W') (hXp : ∀ W o', X W → X (W.putObj l o')) (hX : X W)
    (hassign : rec.assign.wpIn (Fence.wide.inRound l) m P (Exit.then (fun a1 W1 => KeepsFrom B W W1 ∧ Ax a1 W1) (fun _ _ _ => False)) { tmps := rec.tmps.setIfInBounds p0 (.int .i64 (x : Nat)), defers := [] } W)
    (hbody : ∀ a1 W1, (∃ r, W1.heap[l]? = some (.loop r)) → Ax a1 W1 → rec.body.wpIn (Fence.wide.inRound l) m P (RoundPost B I (k + 1) W1) a1 W1) :
    YieldAt Fence.wide m P l #[.int .i64 (x : Nat)] W fun e W' => e = .returned (.bool true) ∧ I (k + 1) W' ∧ W'.heap[l]? = some (.loop rec) ∧ X W' := by
  have hy := run_yield (P := P) (args := #[.int .i64 (x : Nat)]) hl (by rw [hps]; rfl)
  refine ⟨rec.fn, _, rec.assign, rec.body, hy, roundIn_of_wpIn trivial ?_⟩
  have ht : ((rec.params.zip #[Value.int .i64 (x : Nat)]).foldl (fun tmps (t, a) => tmps.setIfInBounds t a) rec.tmps) = rec.tmps.setIfInBounds p0 (.int .i64 (x : Nat)) := by
    rw [hps]; simp
  rw [ht]
  refine wpIn_mono hassign ?_
  intro e a1 W1 hp
  cases e <;> simp only [Exit.then] at hp ⊢
  obtain ⟨hk1, ha1⟩ := hp
  have hl1 := hk1.same _ _ hB hl rfl
  refine ⟨_, run_beginRound hl1 hst, ?_⟩
  have hlt := (Array.getElem?_eq_some_iff.1 hl1).1
  have hl2 : (W1.putObj l (.loop { rec with state := .busy })).heap[l]? = some (.loop { rec with state := .busy }) := World.putObj_heap_same hlt
  refine wpIn_mono (hbody a1 _ ⟨_, hl2⟩ (hAp _ _ _ _ _ ha1 hB hl1 rfl)) ?_
  intro e a2 W2 hp
  cases e <;> simp only [RoundPost] at hp
  obtain ⟨hk2, hi2⟩ := hp
  have hl3 := hk2.same _ _ hB hl2 rfl
  have hlt3 := (Array.getElem?_eq_some_iff.1 hl3).1
  have hend := run_endRound (P := P) none hl3
  have hsame : ({ ({ rec with state := .busy } : Loop) with state := if (none : Option Code).isNone then .ready else .done, pending := none } : Loop) = rec := by
    cases rec; simp_all
  rw [hsame] at hend
  exact ⟨_, _, hend, rfl, hIp _ _ _ _ hi2 hB hl3 rfl, World.putObj_heap_same hlt3, hXp _ _ (hXk hk2 (hXp _ _ (hXk hk1 hX)))⟩

/-- An outermost loop. -/
theorem range_outer {g : Operand} {p0 : Tmp} {assign body : Code} {Q : Exit → Act → World → Prop} {a : Act} {w : World} {n gf : Nat} {pre : Array Value} {xs : List Nat} {E : World → Prop}
    (hg : a.eval g = .func (.func gf) pre #[]) (eg : ∀ args w, (callFunc gf args).run P w = .ok (.enter gf args) w) (hseq : Runs P gf pre xs E)
    (I : Nat → World → Prop) (Ax : Nat → Nat → Act → World → Prop)
    (hIa : ∀ k W o, I k W → I k (W.alloc o)) (hId : ∀ k W, I k W → I k W.drew) (hIE : ∀ k W, I k W → E W)
    (hIp : ∀ k W l o o', I k W → w.heap.size ≤ l → W.heap[l]? = some o → o.isCells = false → I k (W.putObj l o'))
    (hAp : ∀ k x a1 W l o o', Ax k x a1 W → w.heap.size ≤ l → W.heap[l]? = some o → o.isCells = false → Ax k x a1 (W.putObj l o'))
    (h0 : I 0 w)
    (hassign : ∀ l m k x W, xs[k]? = some x → I k W → assign.wpIn (Fence.wide.inRound l) m P (Exit.then (fun a1 W1 => KeepsFrom w.heap.size W W1 ∧ Ax k x a1 W1) (fun _ _ _ => False)) { tmps := a.tmps.setIfInBounds p0 (.int .i64 (x : Nat)), defers := [] } W)
    (hbody : ∀ l m k x a1 W, xs[k]? = some x → w.heap.size ≤ l → (∃ r, W.heap[l]? = some (.loop r)) → Ax k x a1 W → body.wpIn (Fence.wide.inRound l) m P (RoundPost w.heap.size I (k + 1) W) a1 W)
    (hdone : ∀ D W, w.heap.size ≤ D → I xs.length W → W.heap[D]? = some (.deferred (some [])) → Q .normal { a with defers := { target := .collected D, args := #[] } :: a.defers } W) :
    (Code.rangeFunc g #[p0] assign body).wpIn Fence.wide n P Q a w := by
  refine wpIn_rangeFunc ?_
  intro fn _
  obtain ⟨rec, hrec⟩ : ∃ rec : Loop, rec = { state := .ready, pending := none, fn, tmps := a.tmps, params := #[p0], assign, body, defers := w.heap.size } := ⟨_, rfl⟩
  obtain ⟨W1, hW1⟩ : ∃ W1, (w.alloc (.deferred (some []))).alloc (.loop rec) = W1 := ⟨_, rfl⟩
  have hL1 : W1.heap[w.heap.size + 1]? = some (.loop rec) := by
    rw [← hW1]; have := alloc_at (w.alloc (.deferred (some []))) (.loop rec); rwa [World.size_alloc] at this
  have hK1 : W1.heap[w.heap.size]? = some (.deferred (some [])) := by
    rw [← hW1]; exact alloc_old (alloc_at w _) _
  have hI1 : I 0 W1 := by rw [← hW1]; exact hIa _ _ _ (hIa _ _ _ h0)
  refine ⟨w.heap.size + 1, [{ target := .collected w.heap.size, args := #[] }], W1, { target := .fn (.func gf) #[], args := pre ++ #[.func (.yield (w.heap.size + 1)) #[] #[]] }, W1, gf,
    pre ++ #[.func (.yield (w.heap.size + 1)) #[] #[]], W1, ?_, ?_, fun _ _ => trivial, ?_, (fun h => by cases h), ?_⟩
  · rw [← hW1, hrec]; exact run_enterLoop_outer _ _ _ _ _
  · simp only [resolve, hg]
    simp [go_sem]
  · simp [invoke, go_sem, eg]
  · refine (hseq (n - 1) (w.heap.size + 1)
      (fun k W => I k W ∧ W.heap[w.heap.size + 1]? = some (.loop rec) ∧ W.heap[w.heap.size]? = some (.deferred (some []))) W1
      (fun k W o h => ⟨hIa _ _ _ h.1, alloc_old h.2.1 _, alloc_old h.2.2 _⟩) (fun k W h => ⟨hId _ _ h.1, h.2.1, h.2.2⟩) (fun k W h => hIE _ _ h.1) ?_ ⟨hI1, hL1, hK1⟩).mono ?_
    · rintro k x W hx ⟨hi, hl, hd⟩
      refine round_ok (X := fun W => W.heap[w.heap.size]? = some (.deferred (some []))) (Ax := Ax k x) (I := I) (B := w.heap.size) hl (by omega) (by rw [hrec]) (by rw [hrec]) (by rw [hrec])
        (hAp k x) (hIp (k + 1)) (fun hk h => hk.same _ _ (Nat.le_refl _) h rfl) (fun W o' h => (World.putObj_heap_other (by omega)).trans h) hd ?_ ?_
      · have := hassign (w.heap.size + 1) (n - 1 - 1) k x W hx hi
        rw [hrec]; exact this
      · intro a1 W2 hr ha
        have := hbody (w.heap.size + 1) (n - 1 - 1) k x a1 W2 hx (by omega) hr ha
        rw [hrec]; exact this
    · rintro e W2 ⟨⟨v, rfl⟩, hi, hl, hk⟩
      have hpe : rec.pending = none := by rw [hrec]
      have he := run_endLoop (P := P) hl (by rw [hrec]; simp)
      rw [hpe] at he
      exact ⟨none, _, he, hdone _ _ (Nat.le_refl _) (hIp _ _ _ _ _ hi (by omega) hl rfl) ((World.putObj_heap_other (by omega)).trans hk)⟩

/-- A loop in a round of loop l₀. -/
theorem range_inner {g : Operand} {p0 : Tmp} {assign body : Code} {Q : Exit → Act → World → Prop} {a : Act} {w : World} {n gf l₀ : Nat} {r₀ : Loop} {pre : Array Value} {xs : List Nat} {E : World → Prop}
    (hr0 : w.heap[l₀]? = some (.loop r₀))
    (hg : a.eval g = .func (.func gf) pre #[]) (eg : ∀ args w, (callFunc gf args).run P w = .ok (.enter gf args) w) (hseq : Runs P gf pre xs E)
    (I : Nat → World → Prop) (Ax : Nat → Nat → Act → World → Prop)
    (hIa : ∀ k W o, I k W → I k (W.alloc o)) (hId : ∀ k W, I k W → I k W.drew) (hIE : ∀ k W, I k W → E W)
    (hIp : ∀ k W l o o', I k W → w.heap.size ≤ l → W.heap[l]? = some o → o.isCells = false → I k (W.putObj l o'))
    (hAp : ∀ k x a1 W l o o', Ax k x a1 W → w.heap.size ≤ l → W.heap[l]? = some o → o.isCells = false → Ax k x a1 (W.putObj l o'))
    (h0 : I 0 w)
    (hassign : ∀ l m k x W, xs[k]? = some x → I k W → assign.wpIn (Fence.wide.inRound l) m P (Exit.then (fun a1 W1 => KeepsFrom w.heap.size W W1 ∧ Ax k x a1 W1) (fun _ _ _ => False)) { tmps := a.tmps.setIfInBounds p0 (.int .i64 (x : Nat)), defers := [] } W)
    (hbody : ∀ l m k x a1 W, xs[k]? = some x → w.heap.size ≤ l → (∃ r, W.heap[l]? = some (.loop r)) → Ax k x a1 W → body.wpIn (Fence.wide.inRound l) m P (RoundPost w.heap.size I (k + 1) W) a1 W)
    (hdone : ∀ W, I xs.length W → Q .normal a W) :
    (Code.rangeFunc g #[p0] assign body).wpIn (Fence.wide.inRound l₀) n P Q a w := by
  refine wpIn_rangeFunc ?_
  intro fn _
  obtain ⟨rec, hrec⟩ : ∃ rec : Loop, rec = { state := .ready, pending := none, fn, tmps := a.tmps, params := #[p0], assign, body, defers := r₀.defers } := ⟨_, rfl⟩
  obtain ⟨W1, hW1⟩ : ∃ W1, w.alloc (.loop rec) = W1 := ⟨_, rfl⟩
  have hL1 : W1.heap[w.heap.size]? = some (.loop rec) := by rw [← hW1]; exact alloc_at w _
  have hI1 : I 0 W1 := by rw [← hW1]; exact hIa _ _ _ h0
  refine ⟨w.heap.size, [], W1, { target := .fn (.func gf) #[], args := pre ++ #[.func (.yield w.heap.size) #[] #[]] }, W1, gf,
    pre ++ #[.func (.yield w.heap.size) #[] #[]], W1, ?_, ?_, fun _ _ => trivial, ?_, (fun h => by cases h), ?_⟩
  · rw [← hW1, hrec]; exact run_enterLoop_inner hr0 _ _ _ _ _
  · simp only [resolve, hg]
    simp [go_sem]
  · simp [invoke, go_sem, eg]
  · show CallsIn Fence.wide (n - 1) P gf _ W1 _
    refine (hseq (n - 1) w.heap.size
      (fun k W => I k W ∧ W.heap[w.heap.size]? = some (.loop rec)) W1
      (fun k W o h => ⟨hIa _ _ _ h.1, alloc_old h.2 _⟩) (fun k W h => ⟨hId _ _ h.1, h.2⟩) (fun k W h => hIE _ _ h.1) ?_ ⟨hI1, hL1⟩).mono ?_
    · rintro k x W hx ⟨hi, hl⟩
      obtain ⟨f1, t1, s1, b1, hy, hR⟩ := round_ok (m := n - 1 - 1) (X := fun _ => True) (Ax := Ax k x) (I := I) (B := w.heap.size) (k := k) (x := x) hl (Nat.le_refl _) (by rw [hrec]) (by rw [hrec]) (by rw [hrec])
        (hAp k x) (hIp (k + 1)) (fun _ h => h) (fun _ _ h => h) trivial
        (by have := hassign w.heap.size (n - 1 - 1) k x W hx hi
            rw [hrec]; exact this)
        (fun a1 W2 hr ha => by
            have := hbody w.heap.size (n - 1 - 1) k x a1 W2 hx (Nat.le_refl _) hr ha
            rw [hrec]; exact this)
      exact ⟨f1, t1, s1, b1, hy, hR.mono (fun e W' h => ⟨h.1, h.2.1, h.2.2.1⟩)⟩
    · rintro e W2 ⟨⟨v, rfl⟩, hi, hl⟩
      have hpe : rec.pending = none := by rw [hrec]
      have he := run_endLoop (P := P) hl (by rw [hrec]; simp)
      rw [hpe] at he
      exact ⟨none, _, he, hdone _ (hIp _ _ _ _ _ hi (Nat.le_refl _) hl rfl)⟩

/-- The same where the assignment to the loop's variable touches no memory. -/
theorem range_outer1 {g : Operand} {p0 : Tmp} {assign body : Code} {Q : Exit → Act → World → Prop} {a : Act} {w : World} {n gf : Nat} {pre : Array Value} {xs : List Nat} {E : World → Prop}
    (hg : a.eval g = .func (.func gf) pre #[]) (eg : ∀ args w, (callFunc gf args).run P w = .ok (.enter gf args) w) (hseq : Runs P gf pre xs E)
    (I : Nat → World → Prop) (af : Nat → Act)
    (hIa : ∀ k W o, I k W → I k (W.alloc o)) (hId : ∀ k W, I k W → I k W.drew) (hIE : ∀ k W, I k W → E W)
    (hIp : ∀ k W l o', I k W → w.heap.size ≤ l → I k (W.putObj l o'))
    (h0 : I 0 w)
    (hassign : ∀ l m x W (K : Act → World → Prop), K (af x) W → assign.wpIn (Fence.wide.inRound l) m P (Exit.then K (fun _ _ _ => False)) { tmps := a.tmps.setIfInBounds p0 (.int .i64 (x : Nat)), defers := [] } W)
    (hbody : ∀ l m k x W, xs[k]? = some x → w.heap.size ≤ l → (∃ r, W.heap[l]? = some (.loop r)) → I k W → body.wpIn (Fence.wide.inRound l) m P (RoundPost w.heap.size I (k + 1) W) (af x) W)
    (hdone : ∀ D W, w.heap.size ≤ D → I xs.length W → W.heap[D]? = some (.deferred (some [])) → Q .normal { a with defers := { target := .collected D, args := #[] } :: a.defers } W) :
    (Code.rangeFunc g #[p0] assign body).wpIn Fence.wide n P Q a w :=
  range_outer hg eg hseq I (fun k x a1 W => I k W ∧ a1 = af x) hIa hId hIE (fun k W l _ o' h hl _ _ => hIp k W l o' h hl) (fun k x a1 W l _ o' h hl _ _ => ⟨hIp k W l o' h.1 hl, h.2⟩) h0
    (fun l m k x W _ hI => hassign l m x W _ ⟨KeepsFrom.refl _ _, hI, rfl⟩)
    (fun l m k x a1 W hx hl hr h => by obtain ⟨hI, rfl⟩ := h; exact hbody l m k x W hx hl hr hI) hdone
theorem range_inner1 {g : Operand} {p0 : Tmp} {assign body : Code} {Q : Exit → Act → World → Prop} {a : Act} {w : World} {n gf l₀ : Nat} {r₀ : Loop} {pre : Array Value} {xs : List Nat} {E : World → Prop}
    (hr0 : w.heap[l₀]? = some (.loop r₀))
    (hg : a.eval g = .func (.func gf) pre #[]) (eg : ∀ args w, (callFunc gf args).run P w = .ok (.enter gf args) w) (hseq : Runs P gf pre xs E)
    (I : Nat → World → Prop) (af : Nat → Act)
    (hIa : ∀ k W o, I k W → I k (W.alloc o)) (hId : ∀ k W, I k W → I k W.drew) (hIE : ∀ k W, I k W → E W)
    (hIp : ∀ k W l o', I k W → w.heap.size ≤ l → I k (W.putObj l o'))
    (h0 : I 0 w)
    (hassign : ∀ l m x W (K : Act → World → Prop), K (af x) W → assign.wpIn (Fence.wide.inRound l) m P (Exit.then K (fun _ _ _ => False)) { tmps := a.tmps.setIfInBounds p0 (.int .i64 (x : Nat)), defers := [] } W)
    (hbody : ∀ l m k x W, xs[k]? = some x → w.heap.size ≤ l → (∃ r, W.heap[l]? = some (.loop r)) → I k W → body.wpIn (Fence.wide.inRound l) m P (RoundPost w.heap.size I (k + 1) W) (af x) W)
    (hdone : ∀ W, I xs.length W → Q .normal a W) :
    (Code.rangeFunc g #[p0] assign body).wpIn (Fence.wide.inRound l₀) n P Q a w :=
  range_inner hr0 hg eg hseq I (fun k x a1 W => I k W ∧ a1 = af x) hIa hId hIE (fun k W l _ o' h hl _ _ => hIp k W l o' h hl) (fun k x a1 W l _ o' h hl _ _ => ⟨hIp k W l o' h.1 hl, h.2⟩) h0
    (fun l m k x W _ hI => hassign l m x W _ ⟨KeepsFrom.refl _ _, hI, rfl⟩)
    (fun l m k x a1 W hx hl hr h => by obtain ⟨hI, rfl⟩ := h; exact hbody l m k x W hx hl hr hI) hdone
end Go.Proofs.YtiocjdggdmeggaaGreatDoor
