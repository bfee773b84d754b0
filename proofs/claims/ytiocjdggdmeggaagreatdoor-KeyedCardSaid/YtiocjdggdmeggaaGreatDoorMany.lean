/-
  The walk of (*Auto).add, a row and a star.
  The walk of (*Auto).add, a star; and so of every pattern.
-/
import Derived.Test.YtiocjdggdmeggaaGreatDoorInv
namespace Go.Proofs.YtiocjdggdmeggaaGreatDoor
open Go.RowKit Go.Shelf
theorem nodeV_iface (d : Nd) : ∃ t v, nodeV d = .iface t v := by cases d <;> exact ⟨_, _, rfl⟩
def zero184 : Array Value := #[.bool false, .int .u64 0, .int .u64 0, .int .u64 0, .int .u64 0]
def cells184 (q : Pt) : Array Value := #[.bool q.empty, .int .u64 (q.first : Nat), .int .u64 0, .int .u64 (q.last : Nat), .int .u64 0]
def rowF (a0 : Act) (x y pv qv : Value) (b2 b3 b6 b7 b8 b9 : Bool) (h8 h9 : Nat) : Act :=
  (((((a0.put (some 56) (opt b2 x)).put (some 57) (opt b3 pv)).put (some 60) (opt b6 y)).put (some 61) (opt b7 qv)).put (some 8) (opt b8 (.pointer (some ⟨h8, 0, none⟩)))).put (some 9) (opt b9 (.pointer (some ⟨h9, 0, none⟩)))
theorem put_none (a : Act) (v : Value) : a.put none v = a := rfl
structure RowW (w0 : World) (B p : Nat) (A A1 A2 : PA) (q1 q2 : Pt) (b3 b7 b8 b9 b10 b11 : Bool) (h8 h9 : Nat) (w : World) : Prop where
  below : Below B w0 w
  keep : KeepT w0 w
  own0 : b3 = false → OwnE w B p A
  own1 : b3 = true → b7 = false → OwnE w B p A1
  own2 : b3 = true → b7 = true → OwnE w B p A2
  at8 : b8 = true → w0.heap.size ≤ h8 ∧ w.heap[h8]? = some (.cells (bif b10 then cells184 q1 else zero184) 184 (0, 0))
  at9 : b9 = true → w0.heap.size ≤ h9 ∧ w.heap[h9]? = some (.cells (bif b11 then cells184 q2 else zero184) 184 (0, 0))
  ne : b8 = true → b9 = true → h8 ≠ h9
def RowInv (a0 : Act) (x y : Value) (w0 : World) (B p : Nat) (A A1 A2 : PA) (q1 q2 : Pt) (listed : Array Bool) (a : Act) (w : World) : Prop :=
  ∃ b2 b3 b6 b7 b8 b9 b10 b11 h8 h9, listed = #[true, true, b2, b3, true, true, b6, b7, b8, b9, b10, b11] ∧ a = rowF a0 x y (ptV q1) (ptV q2) b2 b3 b6 b7 b8 b9 h8 h9 ∧
    (b3 = true → b2 = true) ∧ (b7 = true → b6 = true ∧ b3 = true) ∧ (b10 = true → b8 = true) ∧ (b11 = true → b9 = true) ∧ RowW w0 B p A A1 A2 q1 q2 b3 b7 b8 b9 b10 b11 h8 h9 w
def RowFacts (p t7 : Nat) (a0 : Act) : Prop := a0.eval (.tmp 54) = .pointer (some ⟨p, 0, none⟩) ∧ a0.eval (.tmp 58) = .pointer (some ⟨p, 0, none⟩) ∧ a0.eval (.tmp 55) = .pointer (some ⟨t7, 0, none⟩) ∧ a0.eval (.tmp 59) = .pointer (some ⟨t7, 1, none⟩) ∧ 61 < a0.tmps.size
theorem rowF_56 (a0 : Act) (x y pv qv : Value) (b3 b6 b7 b8 b9 : Bool) (h8 h9 : Nat) : (rowF a0 x y pv qv false b3 b6 b7 b8 b9 h8 h9).put (some 56) x = rowF a0 x y pv qv true b3 b6 b7 b8 b9 h8 h9 := by
  unfold rowF
  rw [put_comm (show 9 ≠ 56 by decide), put_comm (show 8 ≠ 56 by decide), put_comm (show 61 ≠ 56 by decide), put_comm (show 60 ≠ 56 by decide), put_comm (show 57 ≠ 56 by decide), put_put]
  rfl
theorem rowF_57 (a0 : Act) (x y pv qv : Value) (b2 b6 b7 b8 b9 : Bool) (h8 h9 : Nat) : (rowF a0 x y pv qv b2 false b6 b7 b8 b9 h8 h9).put (some 57) pv = rowF a0 x y pv qv b2 true b6 b7 b8 b9 h8 h9 := by
  unfold rowF
  rw [put_comm (show 9 ≠ 57 by decide), put_comm (show 8 ≠ 57 by decide), put_comm (show 61 ≠ 57 by decide), put_comm (show 60 ≠ 57 by decide), put_put]
  rfl
theorem rowF_60 (a0 : Act) (x y pv qv : Value) (b2 b3 b7 b8 b9 : Bool) (h8 h9 : Nat) : (rowF a0 x y pv qv b2 b3 false b7 b8 b9 h8 h9).put (some 60) y = rowF a0 x y pv qv b2 b3 true b7 b8 b9 h8 h9 := by
  unfold rowF
  rw [put_comm (show 9 ≠ 60 by decide), put_comm (show 8 ≠ 60 by decide), put_comm (show 61 ≠ 60 by decide), put_put]
  rfl
theorem rowF_61 (a0 : Act) (x y pv qv : Value) (b2 b3 b6 b8 b9 : Bool) (h8 h9 : Nat) : (rowF a0 x y pv qv b2 b3 b6 false b8 b9 h8 h9).put (some 61) qv = rowF a0 x y pv qv b2 b3 b6 true b8 b9 h8 h9 := by
  unfold rowF
  rw [put_comm (show 9 ≠ 61 by decide), put_comm (show 8 ≠ 61 by decide), put_put]
  rfl
theorem rowF_8 (a0 : Act) (x y pv qv : Value) (b2 b3 b6 b7 b9 : Bool) (h8 h9 : Nat) (h : Nat) : (rowF a0 x y pv qv b2 b3 b6 b7 false b9 h8 h9).put (some 8) (.pointer (some ⟨h, 0, none⟩)) = rowF a0 x y pv qv b2 b3 b6 b7 true b9 h h9 := by
  unfold rowF
  rw [put_comm (show 9 ≠ 8 by decide), put_put]
  rfl
theorem rowF_9 (a0 : Act) (x y pv qv : Value) (b2 b3 b6 b7 b8 : Bool) (h8 h9 : Nat) (h : Nat) : (rowF a0 x y pv qv b2 b3 b6 b7 b8 false h8 h9).put (some 9) (.pointer (some ⟨h, 0, none⟩)) = rowF a0 x y pv qv b2 b3 b6 b7 b8 true h8 h := by
  unfold rowF
  rw [put_put]
  rfl
theorem run_load64 (ev : Operand → Value) (W : World) (d : Option Tmp) (k : Tmp) (pos : String) (af : Array Edge) (b o : Nat) (t : TypeId) (x : Value) (h : ev (.tmp k) = .pointer (some ⟨b, o, none⟩)) (hc : W.cell? ⟨b, o, none⟩ = some (.iface t x)) :
    (execOp ev { dst := d, op := .load 64 (.tmp k), type := 64, pos := pos, after := af, guard := none }).run Tryz.prog W = .ok (.value (.iface t x)) W := by
  go_simp
theorem run_call118 (ev : Operand → Value) (W : World) (d : Option Tmp) (i j : Tmp) (pos : String) (af : Array Edge) (x y : Value) (hi : ev (.tmp i) = x) (hj : ev (.tmp j) = y) (hf : ev (.func 118) = .func (.func 118) #[] #[]) :
    (execOp ev { dst := d, op := .call { callee := .value (.func 118), args := #[.tmp i, .tmp j], argTypes := #[62, 64] }, type := 184, pos := pos, after := af, guard := none }).run Tryz.prog W = .ok (.enter 118 #[x, y]) W := by
  go_simp
theorem run_alloc184 (ev : Operand → Value) (W : World) (d : Option Tmp) (pos : String) (af : Array Edge) :
    (execOp ev { dst := d, op := .alloc 184, type := 0, pos := pos, after := af, guard := none }).run Tryz.prog W = .ok (.value (.pointer (some ⟨W.heap.size, 0, none⟩))) (W.alloc (.cells zero184 184)) := by
  unfold zero184
  go_simp
theorem run_store184 (ev : Operand → Value) (W : World) (i j : Tmp) (h : Nat) (q : Pt) (hi : ev (.tmp i) = .pointer (some ⟨h, 0, none⟩)) (hj : ev (.tmp j) = ptV q) (hh : W.heap[h]? = some (.cells zero184 184 (0, 0))) :
    ∃ W', (∀ (d : Option Tmp) (pos : String) (af : Array Edge), (execOp ev { dst := d, op := .store 184 (.tmp i) (.tmp j), type := 0, pos := pos, after := af, guard := none }).run Tryz.prog W = .ok .skip W') ∧ Only h W W' ∧ W'.heap[h]? = some (.cells (cells184 q) 184 (0, 0)) := by
  have c0 : W.cell? ⟨h, 0, none⟩ = some (.bool false) := cell_at hh 0
  have c1 : W.cell? ⟨h, 1, none⟩ = some (.int .u64 0) := cell_at hh 1
  have c2 : W.cell? ⟨h, 2, none⟩ = some (.int .u64 0) := cell_at hh 2
  have c3 : W.cell? ⟨h, 3, none⟩ = some (.int .u64 0) := cell_at hh 3
  have c4 : W.cell? ⟨h, 4, none⟩ = some (.int .u64 0) := cell_at hh 4
  have f0 := frozen_at hh 0
  have f1 := frozen_at hh 1
  have f2 := frozen_at hh 2
  have f3 := frozen_at hh 3
  have f4 := frozen_at hh 4
  unfold ptV at hj
  refine ⟨(((((W.setCell ⟨h, 0, none⟩ (.bool q.empty)).setCell ⟨h, 1, none⟩ (.int .u64 (q.first : Nat))).setCell ⟨h, 2, none⟩ (.int .u64 0)).setCell ⟨h, 3, none⟩ (.int .u64 (q.last : Nat))).setCell ⟨h, 4, none⟩ (.int .u64 0)), (fun _ _ _ => by go_simp), (((((Only.refl _ _).setCell 0 _).setCell 1 _).setCell 2 _).setCell 3 _).setCell 4 _, ?_⟩
  exact setCell_at (setCell_at (setCell_at (setCell_at (setCell_at hh 0 _) 1 _) 2 _) 3 _) 4 _
theorem rowF_e {p t7 : Nat} {a0 : Act} (hf : RowFacts p t7 a0) (x y pv qv : Value) (b2 b3 b6 b7 b8 b9 : Bool) (h8 h9 : Nat) :
    let ev := (rowF a0 x y pv qv b2 b3 b6 b7 b8 b9 h8 h9).eval
    ev (.tmp 54) = .pointer (some ⟨p, 0, none⟩) ∧ ev (.tmp 58) = .pointer (some ⟨p, 0, none⟩) ∧ ev (.tmp 55) = .pointer (some ⟨t7, 0, none⟩) ∧ ev (.tmp 59) = .pointer (some ⟨t7, 1, none⟩) ∧
      ev (.tmp 56) = opt b2 x ∧ ev (.tmp 57) = opt b3 pv ∧ ev (.tmp 60) = opt b6 y ∧ ev (.tmp 61) = opt b7 qv ∧ ev (.tmp 8) = opt b8 (.pointer (some ⟨h8, 0, none⟩)) ∧ ev (.tmp 9) = opt b9 (.pointer (some ⟨h9, 0, none⟩)) := by
  obtain ⟨f1, f2, f3, f4, f5⟩ := hf
  have g1 : 56 < a0.tmps.size := by omega
  have g2 : 57 < a0.tmps.size := by omega
  have g3 : 60 < a0.tmps.size := by omega
  have g4 : 8 < a0.tmps.size := by omega
  have g5 : 9 < a0.tmps.size := by omega
  simp [rowF, eval_put_ne, eval_put_eq, size_put, *]
theorem five {W : World} {h : Nat} {q : Pt} (hh : W.heap[h]? = some (.cells (cells184 q) 184 (0, 0))) :
    W.cell? ⟨h, 0, none⟩ = some (.bool q.empty) ∧ W.cell? ⟨h, 1, none⟩ = some (.int .u64 (q.first : Nat)) ∧ W.cell? ⟨h, 2, none⟩ = some (.int .u64 0) ∧ W.cell? ⟨h, 3, none⟩ = some (.int .u64 (q.last : Nat)) ∧ W.cell? ⟨h, 4, none⟩ = some (.int .u64 0) :=
  ⟨cell_at hh 0, cell_at hh 1, cell_at hh 2, cell_at hh 3, cell_at hh 4⟩
theorem ret118 {K : Ending → World → Prop} {a : Act} {W : World} {r : Nat} {q : Pt} (hd : a.defers = []) (h4 : a.eval (.tmp 4) = .pointer (some ⟨r, 0, none⟩)) (hh : W.heap[r]? = some (.cells (cells184 q) 184 (0, 0))) (hK : K (.returned (ptV q)) W) : bodyPost Tryz.prog Tryz.f118 K .ret a W := by
  obtain ⟨c0, c1, c2, c3, c4⟩ := five hh
  have h4' : a.tmps[4]?.getD undef = .pointer (some ⟨r, 0, none⟩) := by simpa [Act.eval, Array.getD_eq_getD_getElem?] using h4
  exact bodyPost_ret (v := ptV q) (by simp [results, Tryz.results118, go_sem, ptV, h4', c0, c1, c2, c3, c4]) hd hK
theorem Only.fresh {k : Nat} {w w1 : World} (h : Only k w w1) {b : Nat} (hb : w.heap.size ≤ b) (i : Nat) (u : Value) : Only k w (w1.setCell ⟨b, i, none⟩ u) :=
  ⟨h.os, h.tape, h.output, by simpa [World.setCell] using h.size, fun j hj hn => (Below.heap_setCell _ _ _ _ (show j ≠ b by omega)).trans (h.block j hj hn)⟩
section
variable {w0 : World} {B p : Nat} {A A1 A2 : PA} {q1 q2 : Pt} {h8 h9 : Nat} {W W' : World} {b3 b7 b8 b9 b10 b11 : Bool}
theorem RowW.at8' (hW : RowW w0 B p A A1 A2 q1 q2 b3 b7 b8 b9 b10 b11 h8 h9 W) (hk : KeepT W W') : b8 = true → w0.heap.size ≤ h8 ∧ W'.heap[h8]? = some (.cells (bif b10 then cells184 q1 else zero184) 184 (0, 0)) :=
  fun e => ⟨(hW.at8 e).1, hk _ _ _ _ (hW.at8 e).2 (by decide) (by decide) (by decide)⟩
theorem RowW.at9' (hW : RowW w0 B p A A1 A2 q1 q2 b3 b7 b8 b9 b10 b11 h8 h9 W) (hk : KeepT W W') : b9 = true → w0.heap.size ≤ h9 ∧ W'.heap[h9]? = some (.cells (bif b11 then cells184 q2 else zero184) 184 (0, 0)) :=
  fun e => ⟨(hW.at9 e).1, hk _ _ _ _ (hW.at9 e).2 (by decide) (by decide) (by decide)⟩
theorem RowW.call1 (hW : RowW w0 B p A A1 A2 q1 q2 false false b8 b9 b10 b11 h8 h9 W) (ho : OwnE W' B p A1) (hb : Below B W W') (hk : KeepT W W') : RowW w0 B p A A1 A2 q1 q2 true false b8 b9 b10 b11 h8 h9 W' :=
  ⟨hW.below.trans hb, hW.keep.trans hk, by simp, fun _ _ => ho, by simp, hW.at8' hk, hW.at9' hk, hW.ne⟩
theorem RowW.call2 (hW : RowW w0 B p A A1 A2 q1 q2 true false b8 b9 b10 b11 h8 h9 W) (ho : OwnE W' B p A2) (hb : Below B W W') (hk : KeepT W W') : RowW w0 B p A A1 A2 q1 q2 true true b8 b9 b10 b11 h8 h9 W' :=
  ⟨hW.below.trans hb, hW.keep.trans hk, by simp, by simp, fun _ _ => ho, hW.at8' hk, hW.at9' hk, hW.ne⟩
theorem OwnE.alloc {w : World} (h : OwnE w B p A) (o : Obj) : OwnE (w.alloc o) B p A := by
  obtain ⟨gs, cs, gf, cf, h⟩ := h
  exact ⟨gs, cs, gf, cf, h.same fun k hk => Below.heap_alloc _ _ _ hk⟩
theorem OwnE.only {w w' : World} (h : OwnE w B p A) {k : Nat} {us : Array Value} {t : TypeId} {fr : Nat × Nat} (hk : w.heap[k]? = some (.cells us t fr)) (ht : t ≠ 154 ∧ t ≠ 195 ∧ t ≠ 152) (ho : Only k w w') : OwnE w' B p A := by
  obtain ⟨gs, cs, gf, cf, h⟩ := h
  exact ⟨gs, cs, gf, cf, h.keep hk ht ho.block⟩
theorem RowW.alloc8 (hW : RowW w0 B p A A1 A2 q1 q2 b3 b7 false b9 false b11 h8 h9 W) (hB : B ≤ w0.heap.size) : RowW w0 B p A A1 A2 q1 q2 b3 b7 true b9 false b11 W.heap.size h9 (W.alloc (.cells zero184 184)) :=
  ⟨hW.below.alloc (Nat.le_trans hB hW.below.size) _, hW.keep.alloc _, fun e => (hW.own0 e).alloc _, fun e f => (hW.own1 e f).alloc _, fun e f => (hW.own2 e f).alloc _, fun _ => ⟨hW.below.size, alloc_at _ _⟩, hW.at9' ((KeepT.refl _).alloc _), fun _ e => fun h => by have := lt_of_at (hW.at9 e).2; omega⟩
theorem RowW.alloc9 (hW : RowW w0 B p A A1 A2 q1 q2 b3 b7 b8 false b10 false h8 h9 W) (hB : B ≤ w0.heap.size) : RowW w0 B p A A1 A2 q1 q2 b3 b7 b8 true b10 false h8 W.heap.size (W.alloc (.cells zero184 184)) :=
  ⟨hW.below.alloc (Nat.le_trans hB hW.below.size) _, hW.keep.alloc _, fun e => (hW.own0 e).alloc _, fun e f => (hW.own1 e f).alloc _, fun e f => (hW.own2 e f).alloc _, hW.at8' ((KeepT.refl _).alloc _), fun _ => ⟨hW.below.size, alloc_at _ _⟩, fun e _ => fun h => by have := lt_of_at (hW.at8 e).2; omega⟩
theorem RowW.store8 (hW : RowW w0 B p A A1 A2 q1 q2 b3 b7 true b9 false b11 h8 h9 W) (hB : B ≤ w0.heap.size) (ho : Only h8 W W') (hh : W'.heap[h8]? = some (.cells (cells184 q1) 184 (0, 0))) : RowW w0 B p A A1 A2 q1 q2 b3 b7 true b9 true b11 h8 h9 W' := by
  obtain ⟨hle, hat⟩ := hW.at8 rfl
  refine ⟨ho.toBelow hW.below (Nat.le_trans hB hW.below.size) (by omega), ?_, fun e => (hW.own0 e).only hat (by decide) ho, fun e f => (hW.own1 e f).only hat (by decide) ho, fun e f => (hW.own2 e f).only hat (by decide) ho, fun _ => ⟨hle, hh⟩, ?_, hW.ne⟩
  · intro k cs t fr hk n1 n2 n3
    have h1 := hW.keep k cs t fr hk n1 n2 n3
    exact (ho.block k (lt_of_at h1) (by have := lt_of_at hk; omega)).trans h1
  · intro e
    obtain ⟨h1, h2⟩ := hW.at9 e
    exact ⟨h1, (ho.block _ (lt_of_at h2) (Ne.symm (hW.ne rfl e))).trans h2⟩
theorem RowW.store9 (hW : RowW w0 B p A A1 A2 q1 q2 b3 b7 b8 true b10 false h8 h9 W) (hB : B ≤ w0.heap.size) (ho : Only h9 W W') (hh : W'.heap[h9]? = some (.cells (cells184 q2) 184 (0, 0))) : RowW w0 B p A A1 A2 q1 q2 b3 b7 b8 true b10 true h8 h9 W' := by
  obtain ⟨hle, hat⟩ := hW.at9 rfl
  refine ⟨ho.toBelow hW.below (Nat.le_trans hB hW.below.size) (by omega), ?_, fun e => (hW.own0 e).only hat (by decide) ho, fun e f => (hW.own1 e f).only hat (by decide) ho, fun e f => (hW.own2 e f).only hat (by decide) ho, ?_, fun _ => ⟨hle, hh⟩, hW.ne⟩
  · intro k cs t fr hk n1 n2 n3
    have h1 := hW.keep k cs t fr hk n1 n2 n3
    exact (ho.block k (lt_of_at h1) (by have := lt_of_at hk; omega)).trans h1
  · intro e
    obtain ⟨h1, h2⟩ := hW.at8 e
    exact ⟨h1, (ho.block _ (lt_of_at h2) (hW.ne e rfl)).trans h2⟩
theorem row_fin {w W2 Wf : World} {gs2 cs2 gf2 cf2 : Nat} {L : PA} (hB : B ≤ w.heap.size) (hb0 : Below B w W) (hk0 : KeepT w W) (hO : OwnAt W B p gs2 cs2 gf2 cf2 A2) (hX : Ext (fun k => k = gf2) W W2)
    (hO2 : OwnAt W2 B p gs2 cs2 gf2 cf2 L) (hr : W2.heap[w.heap.size]? = some (.cells zero184 184 (0, 0))) (hn : Only w.heap.size W2 Wf) : OwnE Wf B p L ∧ Below B w Wf ∧ KeepT w Wf := by
  have hgB : B ≤ gf2 := (hO.2.2.2.2.2.2.lt _ rfl).1
  have hsz := lt_of_at hr
  refine ⟨OwnE.only ⟨_, _, _, _, hO2⟩ hr (by decide) hn, hn.toBelow (hb0.trans (hX.below B (Nat.le_trans hB hb0.size) (fun i hi e => by omega))) (by omega) hB, ?_⟩
  intro k us t fr hk n1 n2 n3
  have h1 := hk0 k us t fr hk n1 n2 n3
  have h2 := hX.at' h1 (fun e => ownsRow_ne hO.2.2.2.2.2.2 h1 n3 e.symm)
  have h3 := lt_of_at hk
  exact (hn.block k (by omega) (by omega)).trans h2
end
set_option maxHeartbeats 1000000 in
set_option maxRecDepth 100000 in
theorem add_row (da db : Nd) (iha : AddC da) (ihb : AddC db) : AddC (.row da db) := by
  intro A B p gs cs gf cf w hA hd hp hAt hB hB6 hE
  have HAt := Lib.hid hAt
  clear hAt
  have HE := Lib.hid hE
  clear hE
  unfold AddC at iha ihb
  obtain ⟨ta, xa, ea⟩ := nodeV_iface da
  obtain ⟨tb, xb, eb⟩ := nodeV_iface db
  simp only [nodeV, ea, eb] at iha ihb ⊢
  have t1 := ta_182_210; have t2 := ta_182_182
  have HIA := Lib.hid iha
  have HIB := Lib.hid ihb
  clear iha ihb
  go_enter Tryz.func118, Tryz.ntmps118
  go_wp2
  generalize hw0 : ((w.alloc (.cells #[.bool false, .int .u64 0, .int .u64 0, .int .u64 0, .int .u64 0] 184)).alloc (.cells #[.iface ta xa, .iface tb xb] 182)) = w0
  have hB0 : B ≤ w0.drew.heap.size := by rw [← hw0]; simp; omega
  have HB0 : Hid (Below B w w0) := Lib.hid (by rw [← hw0]; exact (((Below.refl _ _).alloc (Nat.le_refl _) _).alloc (by simp) _).mono hB)
  have HO0 : Hid (OwnE w0 B p A) := Lib.hid (by rw [← hw0]; exact (OwnE.alloc ⟨gs, cs, gf, cf, HAt.out⟩ _).alloc _)
  have HK0 : Hid (KeepT w w0) := Lib.hid (by rw [← hw0]; exact ((KeepT.refl _).alloc _).alloc _)
  have HT7 : Hid (w0.heap[w.heap.size + 1]? = some (.cells #[.iface ta xa, .iface tb xb] 182 (0, 0))) := Lib.hid (by rw [← hw0]; have := alloc_at (w.alloc (.cells #[.bool false, .int .u64 0, .int .u64 0, .int .u64 0, .int .u64 0] 184)) (.cells #[.iface ta xa, .iface tb xb] 182); simpa using this)
  have HR0 : Hid (w0.heap[w.heap.size]? = some (.cells zero184 184 (0, 0))) := Lib.hid (by rw [← hw0]; exact alloc_old (alloc_at _ _) _)
  clear hw0
  refine wp_region_any (by kernel_rfl) ?_
  change wpAny _ _ _ _ _ _ _ (World.drew _)
  refine wpAny_take (i := 0) (oi := { dst := some 54, op := Op.move (Operand.tmp 0), type := 62, pos := "auto.go:108", after := #[], guard := none }) (v := ?_) rfl (by kernel_rfl) (by kernel_rfl) (by kernel_rfl) (fun _ _ _ h => h) (Or.inl ⟨by rfl, by intro w; go_simp; rfl⟩) ?_
  simp only [Act.put, List.setIfInBounds_toArray, List.set_cons_zero, List.set_cons_succ]
  refine wpAny_take (i := 1) (oi := { dst := some 55, op := Op.fieldAddr 182 (Operand.tmp 7) 0, type := 0, pos := "auto.go:108", after := #[], guard := none }) (v := ?_) rfl (by kernel_rfl) (by kernel_rfl) (by kernel_rfl) (fun _ _ _ h => h) (Or.inl ⟨by rfl, by intro w; go_simp; rfl⟩) ?_
  simp only [Act.put, List.setIfInBounds_toArray, List.set_cons_zero, List.set_cons_succ]
  refine wpAny_take (i := 4) (oi := { dst := some 58, op := Op.move (Operand.tmp 0), type := 62, pos := "auto.go:108", after := #[], guard := none }) (v := ?_) rfl (by kernel_rfl) (by kernel_rfl) (by kernel_rfl) (fun _ _ _ h => h) (Or.inl ⟨by rfl, by intro w; go_simp; rfl⟩) ?_
  simp only [Act.put, List.setIfInBounds_toArray, List.set_cons_zero, List.set_cons_succ]
  refine wpAny_take (i := 5) (oi := { dst := some 59, op := Op.fieldAddr 182 (Operand.tmp 7) 1, type := 0, pos := "auto.go:108", after := #[], guard := none }) (v := ?_) rfl (by kernel_rfl) (by kernel_rfl) (by kernel_rfl) (fun _ _ _ h => h) (Or.inl ⟨by rfl, by intro w; go_simp; rfl⟩) ?_
  simp only [Act.put, List.setIfInBounds_toArray, List.set_cons_zero, List.set_cons_succ]
  refine wpAny_inv_at (RowFacts p (w.heap.size + 1)) (fun a0 => RowInv a0 (.iface ta xa) (.iface tb xb) w0.drew B p A (addP da A).1 (addP db (addP da A).1).1 (addP da A).2 (addP db (addP da A).1).2) ?facts ?fuel ?start ?st ?en
  case facts => exact ⟨rfl, rfl, rfl, rfl, Nat.le_of_ble_eq_true (by kernel_rfl)⟩
  case fuel => exact Nat.le_of_ble_eq_true (by kernel_rfl)
  case start =>
    refine ⟨false, false, false, false, false, false, false, false, 0, 0, by kernel_rfl, by kernel_rfl, by simp, by simp, by simp, by simp, ?_⟩
    exact ⟨Below.refl _ _, KeepT.refl _, fun _ => HO0.out, by simp, by simp, by simp, by simp, by simp⟩
  case st =>
    intro a0 listed a W i o hf hI ho hun hpre
    obtain ⟨b2, b3, b6, b7, b8, b9, b10, b11, h8, h9, rfl, rfl, i32, i76, i108, i119, hW⟩ := hI
    have hT7 := hW.keep (w.heap.size + 1) _ 182 (0, 0) HT7.out (by decide) (by decide) (by decide)
    have hEW : Env W := env_below (HB0.out.drew.trans hW.below) hB6 HE.out
    have hBW : B ≤ W.heap.size := Nat.le_trans hB0 hW.below.size
    obtain ⟨e54, e58, e55, e59, e56, e57, e60, e61, e8, e9⟩ := rowF_e hf (.iface ta xa) (.iface tb xb) (ptV (addP da A).2) (ptV (addP db (addP da A).1).2) b2 b3 b6 b7 b8 b9 h8 h9
    have hc0 : W.cell? ⟨w.heap.size + 1, 0, none⟩ = some (.iface ta xa) := cell_at hT7 0
    have hc1 : W.cell? ⟨w.heap.size + 1, 1, none⟩ = some (.iface tb xb) := cell_at hT7 1
    match i, ho, hun, hpre with
    | 0, _, hun, _ => exact absurd hun (by simp)
    | 1, _, hun, _ => exact absurd hun (by simp)
    | 2, ho, hun, hpre =>
      simp only [List.getElem?_toArray, List.getElem?_cons_succ, List.getElem?_cons_zero, Option.some.injEq] at ho
      subst ho
      obtain rfl : b2 = false := by simpa using hun
      refine ⟨by simp [Region.wanted], ?_⟩
      unfold Oper.wp
      rw [run_load64 _ W _ _ _ _ _ _ _ _ e55 hc0, Oper.upon_value]
      exact ⟨true, b3, b6, b7, b8, b9, b10, b11, h8, h9, rfl, rowF_56 .., fun _ => rfl, i76, i108, i119, hW⟩
    | 3, ho, hun, hpre =>
      simp only [List.getElem?_toArray, List.getElem?_cons_succ, List.getElem?_cons_zero, Option.some.injEq] at ho
      subst ho
      obtain rfl : b3 = false := by simpa using hun
      obtain rfl : b2 = true := by simpa using hpre { on := 2, ground := .data } (by simp) rfl
      obtain rfl : b7 = false := by cases b7 with | false => rfl | true => exact absurd (i76 rfl).2 (by simp)
      obtain ⟨gs, cs, gf, cf, hO⟩ := hW.own0 rfl
      refine ⟨by simp [Region.wanted], ?_⟩
      unfold Oper.wp
      rw [run_call118 _ W _ _ _ _ _ _ _ e54 e56 rfl, Oper.upon_enter]
      refine Calls.mono (HIA.out A B p gs cs gf cf W hA hd.1 (by simp only [Nd.places] at hp; omega) hO hBW hB6 hEW) ?_
      rintro e w' ⟨rfl, h1, h2, h3⟩
      exact ⟨true, true, b6, false, b8, b9, b10, b11, h8, h9, rfl, rowF_57 .., fun _ => rfl, by simp, i108, i119, hW.call1 h1 h2 h3⟩
    | 4, _, hun, _ => exact absurd hun (by simp)
    | 5, _, hun, _ => exact absurd hun (by simp)
    | 6, ho, hun, hpre =>
      simp only [List.getElem?_toArray, List.getElem?_cons_succ, List.getElem?_cons_zero, Option.some.injEq] at ho
      subst ho
      obtain rfl : b6 = false := by simpa using hun
      refine ⟨by simp [Region.wanted], ?_⟩
      unfold Oper.wp
      rw [run_load64 _ W _ _ _ _ _ _ _ _ e59 hc1, Oper.upon_value]
      exact ⟨b2, b3, true, b7, b8, b9, b10, b11, h8, h9, rfl, rowF_60 .., i32, fun e => ⟨rfl, (i76 e).2⟩, i108, i119, hW⟩
    | 7, ho, hun, hpre =>
      simp only [List.getElem?_toArray, List.getElem?_cons_succ, List.getElem?_cons_zero, Option.some.injEq] at ho
      subst ho
      obtain rfl : b7 = false := by simpa using hun
      obtain rfl : b6 = true := by simpa using hpre { on := 6, ground := .data } (by simp) rfl
      obtain rfl : b3 = true := by simpa using hpre { on := 3, ground := .chain } (by simp) rfl
      obtain ⟨gs, cs, gf, cf, hO⟩ := hW.own1 rfl rfl
      refine ⟨by simp [Region.wanted], ?_⟩
      unfold Oper.wp
      rw [run_call118 _ W _ _ _ _ _ _ _ e58 e60 rfl, Oper.upon_enter]
      refine Calls.mono (HIB.out (addP da A).1 B p gs cs gf cf W (addP_ok da A hd.1 hA (by simp only [Nd.places] at hp; omega)).1 hd.2 (by rw [addP_n]; simp only [Nd.places] at hp; omega) hO hBW hB6 hEW) ?_
      rintro e w' ⟨rfl, h1, h2, h3⟩
      exact ⟨b2, true, true, true, b8, b9, b10, b11, h8, h9, rfl, rowF_61 .., i32, fun _ => ⟨rfl, rfl⟩, i108, i119, hW.call2 h1 h2 h3⟩
    | 8, ho, hun, hpre =>
      simp only [List.getElem?_toArray, List.getElem?_cons_succ, List.getElem?_cons_zero, Option.some.injEq] at ho
      subst ho
      obtain rfl : b8 = false := by simpa using hun
      obtain rfl : b10 = false := by cases b10 with | false => rfl | true => exact absurd (i108 rfl) (by simp)
      refine ⟨by simp [Region.wanted], ?_⟩
      unfold Oper.wp
      rw [run_alloc184, Oper.upon_value]
      exact ⟨b2, b3, b6, b7, true, b9, false, b11, W.heap.size, h9, rfl, rowF_8 .., i32, i76, fun _ => rfl, i119, hW.alloc8 hB0⟩
    | 9, ho, hun, hpre =>
      simp only [List.getElem?_toArray, List.getElem?_cons_succ, List.getElem?_cons_zero, Option.some.injEq] at ho
      subst ho
      obtain rfl : b9 = false := by simpa using hun
      obtain rfl : b11 = false := by cases b11 with | false => rfl | true => exact absurd (i119 rfl) (by simp)
      refine ⟨by simp [Region.wanted], ?_⟩
      unfold Oper.wp
      rw [run_alloc184, Oper.upon_value]
      exact ⟨b2, b3, b6, b7, b8, true, b10, false, h8, W.heap.size, rfl, rowF_9 .., i32, i76, i108, fun _ => rfl, hW.alloc9 hB0⟩
    | 10, ho, hun, hpre =>
      simp only [List.getElem?_toArray, List.getElem?_cons_succ, List.getElem?_cons_zero, Option.some.injEq] at ho
      subst ho
      obtain rfl : b10 = false := by simpa using hun
      obtain rfl : b8 = true := by simpa using hpre { on := 8, ground := .data } (by simp) rfl
      obtain rfl : b3 = true := by simpa using hpre { on := 3, ground := .data } (by simp) rfl
      have hat : W.heap[h8]? = some (.cells zero184 184 (0, 0)) := (hW.at8 rfl).2
      simp only [opt, cond_true] at e8 e57
      obtain ⟨W', hrun, honly, hh⟩ := run_store184 _ W 8 57 h8 _ e8 e57 hat
      refine ⟨by simp [Region.wanted], ?_⟩
      unfold Oper.wp
      rw [hrun, Oper.upon_skip]
      exact ⟨b2, true, b6, b7, true, b9, true, b11, h8, h9, rfl, put_none _ _, i32, i76, fun _ => rfl, i119, hW.store8 hB0 honly hh⟩
    | 11, ho, hun, hpre =>
      simp only [List.getElem?_toArray, List.getElem?_cons_succ, List.getElem?_cons_zero, Option.some.injEq] at ho
      subst ho
      obtain rfl : b11 = false := by simpa using hun
      obtain rfl : b9 = true := by simpa using hpre { on := 9, ground := .data } (by simp) rfl
      obtain rfl : b7 = true := by simpa using hpre { on := 7, ground := .data } (by simp) rfl
      have hat : W.heap[h9]? = some (.cells zero184 184 (0, 0)) := (hW.at9 rfl).2
      simp only [opt, cond_true] at e9 e61
      obtain ⟨W', hrun, honly, hh⟩ := run_store184 _ W 9 61 h9 _ e9 e61 hat
      refine ⟨by simp [Region.wanted], ?_⟩
      unfold Oper.wp
      rw [hrun, Oper.upon_skip]
      exact ⟨b2, b3, b6, true, b8, true, b10, true, h8, h9, rfl, put_none _ _, i32, i76, i108, fun _ => rfl, hW.store9 hB0 honly hh⟩
    | n + 12, ho, _, _ => simp at ho
  case en =>
    intro listed a W hI hr
    obtain ⟨b2, b3, b6, b7, b8, b9, b10, b11, h8, h9, rfl, rfl, i32, i76, i108, i119, hW⟩ := hI
    have hall := ready_nil_all (by kernel_rfl) rfl hr
    have hx2 : b2 = true := hall 2 (by simp)
    have hx3 : b3 = true := hall 3 (by simp)
    have hx6 : b6 = true := hall 6 (by simp)
    have hx7 : b7 = true := hall 7 (by simp)
    have hx8 : b8 = true := hall 8 (by simp)
    have hx9 : b9 = true := hall 9 (by simp)
    have hx10 : b10 = true := hall 10 (by simp)
    have hx11 : b11 = true := hall 11 (by simp)
    subst hx2 hx3 hx6 hx7 hx8 hx9 hx10 hx11
    clear hall hr i32 i76 i108 i119
    simp only [rowF, opt, cond_true, Act.put, List.setIfInBounds_toArray, List.set_cons_zero, List.set_cons_succ]
    obtain ⟨g8, hat8⟩ := hW.at8 rfl
    obtain ⟨g9, hat9⟩ := hW.at9 rfl
    simp only [cond_true] at hat8 hat9
    have hown := hW.own2 rfl rfl
    have h89 := hW.ne rfl rfl
    have HW := Lib.hid hW
    have hEW : Env W := env_below (HB0.out.drew.trans hW.below) hB6 HE.out
    have HEW := Lib.hid hEW
    have HRW := Lib.hid (hW.keep _ _ _ _ HR0.out (by decide) (by decide) (by decide))
    clear hW hEW
    obtain ⟨o1, o2, o3⟩ := addP_ok da A hd.1 hA (by simp only [Nd.places] at hp; omega)
    obtain ⟨o4, o5, o6⟩ := addP_ok db (addP da A).1 hd.2 o1 (by rw [addP_n]; simp only [Nd.places] at hp; omega)
    have o7 : (addP da A).1.n ≤ (addP db (addP da A).1).1.n := by rw [addP_n db]; omega
    have HA2 := Lib.hid o4
    have HL1 := Lib.hid (pow_mono o3 o7)
    have HF2 := Lib.hid o5
    have hn64 : (addP db (addP da A).1).1.n ≤ 64 := o4.le
    have b1 : (addP da A).2.first < 2 ^ 64 := pow_mono o2 (by omega)
    have b2 : (addP da A).2.last < 2 ^ 64 := pow_mono o3 (by omega)
    have b3 : (addP db (addP da A).1).2.first < 2 ^ 64 := pow_mono o5 hn64
    have b4 : (addP db (addP da A).1).2.last < 2 ^ 64 := pow_mono o6 hn64
    clear o1 o2 o3 o4 o5 o6 o7 hn64
    have hadd : addP (.row da db) A = ((addP db (addP da A).1).1.link (addP da A).2.last (addP db (addP da A).1).2.first, ⟨(addP da A).2.empty && (addP db (addP da A).1).2.empty, if (addP da A).2.empty then (addP da A).2.first ||| (addP db (addP da A).1).2.first else (addP da A).2.first, if (addP db (addP da A).1).2.empty then (addP db (addP da A).1).2.last ||| (addP da A).2.last else (addP db (addP da A).1).2.last⟩) := rfl
    generalize hA2 : (addP db (addP da A).1).1 = A2 at *
    generalize hq1 : (addP da A).2 = q1 at *
    generalize hq2 : (addP db (addP da A).1).2 = q2 at *
    have HADD := Lib.hid hadd
    clear hadd
    obtain ⟨gs2, cs2, gf2, cf2, hO⟩ := hown
    have hg8 : gf2 ≠ h8 := ownsRow_ne hO.2.2.2.2.2.2 hat8 (by decide)
    have hg9 : gf2 ≠ h9 := ownsRow_ne hO.2.2.2.2.2.2 hat9 (by decide)
    have hgr : gf2 ≠ w.heap.size := ownsRow_ne hO.2.2.2.2.2.2 HRW.out (by decide)
    have hBW : B ≤ W.heap.size := Nat.le_trans hB0 HW.out.below.size
    obtain ⟨x0, x1, x2, x3, x4⟩ := five hat8
    obtain ⟨y0, y1, y2, y3, y4⟩ := five hat9
    have HO := Lib.hid hO
    have H8 := Lib.hid hat8
    have H9 := Lib.hid hat9
    clear hO hat8 hat9
    rcases Bool.eq_false_or_eq_true q1.empty with hq1e | hq1e <;> rcases Bool.eq_false_or_eq_true q2.empty with hq2e | hq2e
    · rw [hq1e] at x0
      rw [hq2e] at y0
      go_wp2_with (first
      | (go_at_call 151; refine (link_any A2 HA2.out q1.last q2.first B p _ _ _ _ W HL1.out HF2.out HO.out hBW hB6 HEW.out).mono ?_; rintro e W2 ⟨rfl, hO2, hx2⟩
         have f8 := hx2.at' H8.out (Ne.symm hg8)
         have f9 := hx2.at' H9.out (Ne.symm hg9)
         have fr := hx2.at' HRW.out (Ne.symm hgr)
         obtain ⟨u0, u1, u2, u3, u4⟩ := five f8
         obtain ⟨v0, v1, v2, v3, v4⟩ := five f9
         rw [hq1e] at u0
         rw [hq2e] at v0
         have r0 : W2.cell? ⟨w.heap.size, 0, none⟩ = some (.bool false) := cell_at fr 0
         have z0 := frozen_at fr 0
         have r1 : W2.cell? ⟨w.heap.size, 1, none⟩ = some (.int .u64 0) := cell_at fr 1
         have z1 := frozen_at fr 1
         have r2 : W2.cell? ⟨w.heap.size, 2, none⟩ = some (.int .u64 0) := cell_at fr 2
         have z2 := frozen_at fr 2
         have r3 : W2.cell? ⟨w.heap.size, 3, none⟩ = some (.int .u64 0) := cell_at fr 3
         have z3 := frozen_at fr 3
         have r4 : W2.cell? ⟨w.heap.size, 4, none⟩ = some (.int .u64 0) := cell_at fr 4
         have z4 := frozen_at fr 4
         have s8 := lt_of_at f8
         have s9 := lt_of_at f9
         have sr := lt_of_at fr
         have F8 := Lib.hid f8
         have F9 := Lib.hid f9
         have FR := Lib.hid fr
         have HO2 := Lib.hid hO2
         have HX2 := Lib.hid hx2
         clear f8 f9 fr hO2 hx2)
      | (go_at_call_of 119 (Value.agg #[.int .u64 (q1.first : Nat), .int .u64 0]); refine (or_any q1.first q2.first _ b1 b3).mono ?_; rintro e W3 ⟨rfl, hb3⟩
         have t8 := below_at hb3 (alloc_old F8.out _) (by simp; omega)
         have t9 := below_at hb3 (alloc_old F9.out _) (by simp; omega)
         have tr := below_at hb3 (alloc_old FR.out _) (by simp; omega)
         have tb := below_at hb3 (alloc_at W2 _) (by simp)
         obtain ⟨u0', u1', u2', u3', u4'⟩ := five t8
         obtain ⟨v0', v1', v2', v3', v4'⟩ := five t9
         rw [hq1e] at u0'
         rw [hq2e] at v0'
         have r'0 : W3.cell? ⟨w.heap.size, 0, none⟩ = some (.bool false) := cell_at tr 0
         have z'0 := frozen_at tr 0
         have r'1 : W3.cell? ⟨w.heap.size, 1, none⟩ = some (.int .u64 0) := cell_at tr 1
         have z'1 := frozen_at tr 1
         have r'2 : W3.cell? ⟨w.heap.size, 2, none⟩ = some (.int .u64 0) := cell_at tr 2
         have z'2 := frozen_at tr 2
         have r'3 : W3.cell? ⟨w.heap.size, 3, none⟩ = some (.int .u64 0) := cell_at tr 3
         have z'3 := frozen_at tr 3
         have r'4 : W3.cell? ⟨w.heap.size, 4, none⟩ = some (.int .u64 0) := cell_at tr 4
         have z'4 := frozen_at tr 4
         have d'0 : W3.cell? ⟨W2.heap.size, 0, none⟩ = some (.bool true) := cell_at tb 0
         have k'0 := frozen_at tb 0
         have d'1 : W3.cell? ⟨W2.heap.size, 1, none⟩ = some (.int .u64 (q1.first : Nat)) := cell_at tb 1
         have k'1 := frozen_at tb 1
         have d'2 : W3.cell? ⟨W2.heap.size, 2, none⟩ = some (.int .u64 0) := cell_at tb 2
         have k'2 := frozen_at tb 2
         have d'3 : W3.cell? ⟨W2.heap.size, 3, none⟩ = some (.int .u64 (q2.last : Nat)) := cell_at tb 3
         have k'3 := frozen_at tb 3
         have d'4 : W3.cell? ⟨W2.heap.size, 4, none⟩ = some (.int .u64 0) := cell_at tb 4
         have k'4 := frozen_at tb 4
         have sr3 := lt_of_at tr
         have sb3 := lt_of_at tb
         have TR := Lib.hid tr
         have TB := Lib.hid tb
         have HN3 := Lib.hid (((Only.refl w.heap.size W2).alloc _).below hb3)
         clear t8 t9 tr tb hb3)
      | (go_at_call_of 119 (Value.agg #[.int .u64 (q1.last : Nat), .int .u64 0]); refine (or_any q2.last q1.last _ b4 b2).mono ?_; rintro e W4 ⟨rfl, hb4⟩
         have kr := below_at hb4 (setCell_other (b := W2.heap.size) (i := 2) (u := .int .u64 0) (setCell_other (b := W2.heap.size) (i := 1) (u := .int .u64 (q1.first ||| q2.first : Nat)) TR.out (by omega)) (by omega)) (by simpa [World.setCell] using sr3)
         have kb := below_at hb4 (setCell_at (setCell_at TB.out 1 (.int .u64 (q1.first ||| q2.first : Nat))) 2 (.int .u64 0)) (by simpa [World.setCell] using sb3)
         have HN4 := Lib.hid (((HN3.out.fresh (Nat.le_refl _) 1 (.int .u64 (q1.first ||| q2.first : Nat))).fresh (Nat.le_refl _) 2 (.int .u64 0)).below hb4)
         have r''0 : W4.cell? ⟨w.heap.size, 0, none⟩ = some (.bool false) := cell_at kr 0
         have z''0 := frozen_at kr 0
         have r''1 : W4.cell? ⟨w.heap.size, 1, none⟩ = some (.int .u64 0) := cell_at kr 1
         have z''1 := frozen_at kr 1
         have r''2 : W4.cell? ⟨w.heap.size, 2, none⟩ = some (.int .u64 0) := cell_at kr 2
         have z''2 := frozen_at kr 2
         have r''3 : W4.cell? ⟨w.heap.size, 3, none⟩ = some (.int .u64 0) := cell_at kr 3
         have z''3 := frozen_at kr 3
         have r''4 : W4.cell? ⟨w.heap.size, 4, none⟩ = some (.int .u64 0) := cell_at kr 4
         have z''4 := frozen_at kr 4
         have d''0 : W4.cell? ⟨W2.heap.size, 0, none⟩ = some (.bool true) := cell_at kb 0
         have k''0 := frozen_at kb 0
         have d''1 : W4.cell? ⟨W2.heap.size, 1, none⟩ = some (.int .u64 (q1.first ||| q2.first : Nat)) := cell_at kb 1
         have k''1 := frozen_at kb 1
         have d''2 : W4.cell? ⟨W2.heap.size, 2, none⟩ = some (.int .u64 0) := cell_at kb 2
         have k''2 := frozen_at kb 2
         have d''3 : W4.cell? ⟨W2.heap.size, 3, none⟩ = some (.int .u64 (q2.last : Nat)) := cell_at kb 3
         have k''3 := frozen_at kb 3
         have d''4 : W4.cell? ⟨W2.heap.size, 4, none⟩ = some (.int .u64 0) := cell_at kb 4
         have k''4 := frozen_at kb 4
         have sr4 := lt_of_at kr
         have sb4 := lt_of_at kb
         have KR := Lib.hid kr
         clear kr kb hb4)
      | go_in)
      have hq : (addP (.row da db) A).2 = ⟨true, q1.first ||| q2.first, q2.last ||| q1.last⟩ := by rw [HADD.out]; simp [hq1e, hq2e]
      have hl : (addP (.row da db) A).1 = A2.link q1.last q2.first := by rw [HADD.out]
      unfold AddPost
      rw [hq, hl]
      refine ret118 (r := w.heap.size) (q := ⟨true, q1.first ||| q2.first, q2.last ||| q1.last⟩) rfl rfl ?_ ⟨rfl, row_fin hB (HB0.out.drew.trans HW.out.below) (HK0.out.trans HW.out.keep) HO.out HX2.out HO2.out FR.out ?_⟩
      · exact setCell_at (setCell_at (setCell_at (setCell_at (setCell_at (setCell_other (b := W2.heap.size) (setCell_other (b := W2.heap.size) KR.out (by omega)) (by omega)) 0 _) 1 _) 2 _) 3 _) 4 _
      · exact ((((((HN4.out.fresh (Nat.le_refl _) 3 _).fresh (Nat.le_refl _) 4 _).setCell 0 _).setCell 1 _).setCell 2 _).setCell 3 _).setCell 4 _
    · rw [hq1e] at x0
      rw [hq2e] at y0
      go_wp2_with (first
      | (go_at_call 151; refine (link_any A2 HA2.out q1.last q2.first B p _ _ _ _ W HL1.out HF2.out HO.out hBW hB6 HEW.out).mono ?_; rintro e W2 ⟨rfl, hO2, hx2⟩
         have f8 := hx2.at' H8.out (Ne.symm hg8)
         have f9 := hx2.at' H9.out (Ne.symm hg9)
         have fr := hx2.at' HRW.out (Ne.symm hgr)
         obtain ⟨u0, u1, u2, u3, u4⟩ := five f8
         obtain ⟨v0, v1, v2, v3, v4⟩ := five f9
         rw [hq1e] at u0
         rw [hq2e] at v0
         have r0 : W2.cell? ⟨w.heap.size, 0, none⟩ = some (.bool false) := cell_at fr 0
         have z0 := frozen_at fr 0
         have r1 : W2.cell? ⟨w.heap.size, 1, none⟩ = some (.int .u64 0) := cell_at fr 1
         have z1 := frozen_at fr 1
         have r2 : W2.cell? ⟨w.heap.size, 2, none⟩ = some (.int .u64 0) := cell_at fr 2
         have z2 := frozen_at fr 2
         have r3 : W2.cell? ⟨w.heap.size, 3, none⟩ = some (.int .u64 0) := cell_at fr 3
         have z3 := frozen_at fr 3
         have r4 : W2.cell? ⟨w.heap.size, 4, none⟩ = some (.int .u64 0) := cell_at fr 4
         have z4 := frozen_at fr 4
         have s8 := lt_of_at f8
         have s9 := lt_of_at f9
         have sr := lt_of_at fr
         have F8 := Lib.hid f8
         have F9 := Lib.hid f9
         have FR := Lib.hid fr
         have HO2 := Lib.hid hO2
         have HX2 := Lib.hid hx2
         clear f8 f9 fr hO2 hx2)
      | (go_at_call_of 119 (Value.agg #[.int .u64 (q1.first : Nat), .int .u64 0]); refine (or_any q1.first q2.first _ b1 b3).mono ?_; rintro e W3 ⟨rfl, hb3⟩
         have t8 := below_at hb3 (alloc_old F8.out _) (by simp; omega)
         have t9 := below_at hb3 (alloc_old F9.out _) (by simp; omega)
         have tr := below_at hb3 (alloc_old FR.out _) (by simp; omega)
         have tb := below_at hb3 (alloc_at W2 _) (by simp)
         obtain ⟨u0', u1', u2', u3', u4'⟩ := five t8
         obtain ⟨v0', v1', v2', v3', v4'⟩ := five t9
         rw [hq1e] at u0'
         rw [hq2e] at v0'
         have r'0 : W3.cell? ⟨w.heap.size, 0, none⟩ = some (.bool false) := cell_at tr 0
         have z'0 := frozen_at tr 0
         have r'1 : W3.cell? ⟨w.heap.size, 1, none⟩ = some (.int .u64 0) := cell_at tr 1
         have z'1 := frozen_at tr 1
         have r'2 : W3.cell? ⟨w.heap.size, 2, none⟩ = some (.int .u64 0) := cell_at tr 2
         have z'2 := frozen_at tr 2
         have r'3 : W3.cell? ⟨w.heap.size, 3, none⟩ = some (.int .u64 0) := cell_at tr 3
         have z'3 := frozen_at tr 3
         have r'4 : W3.cell? ⟨w.heap.size, 4, none⟩ = some (.int .u64 0) := cell_at tr 4
         have z'4 := frozen_at tr 4
         have d'0 : W3.cell? ⟨W2.heap.size, 0, none⟩ = some (.bool false) := cell_at tb 0
         have k'0 := frozen_at tb 0
         have d'1 : W3.cell? ⟨W2.heap.size, 1, none⟩ = some (.int .u64 (q1.first : Nat)) := cell_at tb 1
         have k'1 := frozen_at tb 1
         have d'2 : W3.cell? ⟨W2.heap.size, 2, none⟩ = some (.int .u64 0) := cell_at tb 2
         have k'2 := frozen_at tb 2
         have d'3 : W3.cell? ⟨W2.heap.size, 3, none⟩ = some (.int .u64 (q2.last : Nat)) := cell_at tb 3
         have k'3 := frozen_at tb 3
         have d'4 : W3.cell? ⟨W2.heap.size, 4, none⟩ = some (.int .u64 0) := cell_at tb 4
         have k'4 := frozen_at tb 4
         have sr3 := lt_of_at tr
         have sb3 := lt_of_at tb
         have TR := Lib.hid tr
         have TB := Lib.hid tb
         have HN3 := Lib.hid (((Only.refl w.heap.size W2).alloc _).below hb3)
         clear t8 t9 tr tb hb3)
      | go_in)
      have hq : (addP (.row da db) A).2 = ⟨false, q1.first ||| q2.first, q2.last⟩ := by rw [HADD.out]; simp [hq1e, hq2e]
      have hl : (addP (.row da db) A).1 = A2.link q1.last q2.first := by rw [HADD.out]
      unfold AddPost
      rw [hq, hl]
      refine ret118 (r := w.heap.size) (q := ⟨false, q1.first ||| q2.first, q2.last⟩) rfl rfl ?_ ⟨rfl, row_fin hB (HB0.out.drew.trans HW.out.below) (HK0.out.trans HW.out.keep) HO.out HX2.out HO2.out FR.out ?_⟩
      · exact setCell_at (setCell_at (setCell_at (setCell_at (setCell_at (setCell_other (b := W2.heap.size) (setCell_other (b := W2.heap.size) TR.out (by omega)) (by omega)) 0 _) 1 _) 2 _) 3 _) 4 _
      · exact ((((((HN3.out.fresh (Nat.le_refl _) 1 _).fresh (Nat.le_refl _) 2 _).setCell 0 _).setCell 1 _).setCell 2 _).setCell 3 _).setCell 4 _
    · rw [hq1e] at x0
      rw [hq2e] at y0
      go_wp2_with (first
      | (go_at_call 151; refine (link_any A2 HA2.out q1.last q2.first B p _ _ _ _ W HL1.out HF2.out HO.out hBW hB6 HEW.out).mono ?_; rintro e W2 ⟨rfl, hO2, hx2⟩
         have f8 := hx2.at' H8.out (Ne.symm hg8)
         have f9 := hx2.at' H9.out (Ne.symm hg9)
         have fr := hx2.at' HRW.out (Ne.symm hgr)
         obtain ⟨u0, u1, u2, u3, u4⟩ := five f8
         obtain ⟨v0, v1, v2, v3, v4⟩ := five f9
         rw [hq1e] at u0
         rw [hq2e] at v0
         have r0 : W2.cell? ⟨w.heap.size, 0, none⟩ = some (.bool false) := cell_at fr 0
         have z0 := frozen_at fr 0
         have r1 : W2.cell? ⟨w.heap.size, 1, none⟩ = some (.int .u64 0) := cell_at fr 1
         have z1 := frozen_at fr 1
         have r2 : W2.cell? ⟨w.heap.size, 2, none⟩ = some (.int .u64 0) := cell_at fr 2
         have z2 := frozen_at fr 2
         have r3 : W2.cell? ⟨w.heap.size, 3, none⟩ = some (.int .u64 0) := cell_at fr 3
         have z3 := frozen_at fr 3
         have r4 : W2.cell? ⟨w.heap.size, 4, none⟩ = some (.int .u64 0) := cell_at fr 4
         have z4 := frozen_at fr 4
         have s8 := lt_of_at f8
         have s9 := lt_of_at f9
         have sr := lt_of_at fr
         have F8 := Lib.hid f8
         have F9 := Lib.hid f9
         have FR := Lib.hid fr
         have HO2 := Lib.hid hO2
         have HX2 := Lib.hid hx2
         clear f8 f9 fr hO2 hx2)
      | (go_at_call_of 119 (Value.agg #[.int .u64 (q1.last : Nat), .int .u64 0]); refine (or_any q2.last q1.last _ b4 b2).mono ?_; rintro e W4 ⟨rfl, hb4⟩
         have kr := below_at hb4 (alloc_old FR.out _) (by simp; omega)
         have kb := below_at hb4 (alloc_at W2 _) (by simp)
         have HN4 := Lib.hid (((Only.refl w.heap.size W2).alloc _).below hb4)
         have r''0 : W4.cell? ⟨w.heap.size, 0, none⟩ = some (.bool false) := cell_at kr 0
         have z''0 := frozen_at kr 0
         have r''1 : W4.cell? ⟨w.heap.size, 1, none⟩ = some (.int .u64 0) := cell_at kr 1
         have z''1 := frozen_at kr 1
         have r''2 : W4.cell? ⟨w.heap.size, 2, none⟩ = some (.int .u64 0) := cell_at kr 2
         have z''2 := frozen_at kr 2
         have r''3 : W4.cell? ⟨w.heap.size, 3, none⟩ = some (.int .u64 0) := cell_at kr 3
         have z''3 := frozen_at kr 3
         have r''4 : W4.cell? ⟨w.heap.size, 4, none⟩ = some (.int .u64 0) := cell_at kr 4
         have z''4 := frozen_at kr 4
         have d''0 : W4.cell? ⟨W2.heap.size, 0, none⟩ = some (.bool false) := cell_at kb 0
         have k''0 := frozen_at kb 0
         have d''1 : W4.cell? ⟨W2.heap.size, 1, none⟩ = some (.int .u64 (q1.first : Nat)) := cell_at kb 1
         have k''1 := frozen_at kb 1
         have d''2 : W4.cell? ⟨W2.heap.size, 2, none⟩ = some (.int .u64 0) := cell_at kb 2
         have k''2 := frozen_at kb 2
         have d''3 : W4.cell? ⟨W2.heap.size, 3, none⟩ = some (.int .u64 (q2.last : Nat)) := cell_at kb 3
         have k''3 := frozen_at kb 3
         have d''4 : W4.cell? ⟨W2.heap.size, 4, none⟩ = some (.int .u64 0) := cell_at kb 4
         have k''4 := frozen_at kb 4
         have sr4 := lt_of_at kr
         have sb4 := lt_of_at kb
         have KR := Lib.hid kr
         clear kr kb hb4)
      | go_in)
      have hq : (addP (.row da db) A).2 = ⟨false, q1.first, q2.last ||| q1.last⟩ := by rw [HADD.out]; simp [hq1e, hq2e]
      have hl : (addP (.row da db) A).1 = A2.link q1.last q2.first := by rw [HADD.out]
      unfold AddPost
      rw [hq, hl]
      refine ret118 (r := w.heap.size) (q := ⟨false, q1.first, q2.last ||| q1.last⟩) rfl rfl ?_ ⟨rfl, row_fin hB (HB0.out.drew.trans HW.out.below) (HK0.out.trans HW.out.keep) HO.out HX2.out HO2.out FR.out ?_⟩
      · exact setCell_at (setCell_at (setCell_at (setCell_at (setCell_at (setCell_other (b := W2.heap.size) (setCell_other (b := W2.heap.size) KR.out (by omega)) (by omega)) 0 _) 1 _) 2 _) 3 _) 4 _
      · exact ((((((HN4.out.fresh (Nat.le_refl _) 3 _).fresh (Nat.le_refl _) 4 _).setCell 0 _).setCell 1 _).setCell 2 _).setCell 3 _).setCell 4 _
    · rw [hq1e] at x0
      rw [hq2e] at y0
      go_wp2_with (first
      | (go_at_call 151; refine (link_any A2 HA2.out q1.last q2.first B p _ _ _ _ W HL1.out HF2.out HO.out hBW hB6 HEW.out).mono ?_; rintro e W2 ⟨rfl, hO2, hx2⟩
         have f8 := hx2.at' H8.out (Ne.symm hg8)
         have f9 := hx2.at' H9.out (Ne.symm hg9)
         have fr := hx2.at' HRW.out (Ne.symm hgr)
         obtain ⟨u0, u1, u2, u3, u4⟩ := five f8
         obtain ⟨v0, v1, v2, v3, v4⟩ := five f9
         rw [hq1e] at u0
         rw [hq2e] at v0
         have r0 : W2.cell? ⟨w.heap.size, 0, none⟩ = some (.bool false) := cell_at fr 0
         have z0 := frozen_at fr 0
         have r1 : W2.cell? ⟨w.heap.size, 1, none⟩ = some (.int .u64 0) := cell_at fr 1
         have z1 := frozen_at fr 1
         have r2 : W2.cell? ⟨w.heap.size, 2, none⟩ = some (.int .u64 0) := cell_at fr 2
         have z2 := frozen_at fr 2
         have r3 : W2.cell? ⟨w.heap.size, 3, none⟩ = some (.int .u64 0) := cell_at fr 3
         have z3 := frozen_at fr 3
         have r4 : W2.cell? ⟨w.heap.size, 4, none⟩ = some (.int .u64 0) := cell_at fr 4
         have z4 := frozen_at fr 4
         have s8 := lt_of_at f8
         have s9 := lt_of_at f9
         have sr := lt_of_at fr
         have F8 := Lib.hid f8
         have F9 := Lib.hid f9
         have FR := Lib.hid fr
         have HO2 := Lib.hid hO2
         have HX2 := Lib.hid hx2
         clear f8 f9 fr hO2 hx2)
      | go_in)
      have hq : (addP (.row da db) A).2 = ⟨false, q1.first, q2.last⟩ := by rw [HADD.out]; simp [hq1e, hq2e]
      have hl : (addP (.row da db) A).1 = A2.link q1.last q2.first := by rw [HADD.out]
      unfold AddPost
      rw [hq, hl]
      refine ret118 (r := w.heap.size) (q := ⟨false, q1.first, q2.last⟩) rfl rfl ?_ ⟨rfl, row_fin hB (HB0.out.drew.trans HW.out.below) (HK0.out.trans HW.out.keep) HO.out HX2.out HO2.out FR.out ?_⟩
      · exact alloc_old (setCell_at (setCell_at (setCell_at (setCell_at (setCell_at (FR.out) 0 _) 1 _) 2 _) 3 _) 4 _) _
      · exact ((((((Only.refl _ _).setCell 0 _).setCell 1 _).setCell 2 _).setCell 3 _).setCell 4 _).alloc _
end Go.Proofs.YtiocjdggdmeggaaGreatDoor
namespace Go.Proofs.YtiocjdggdmeggaaGreatDoor
open Go.RowKit Go.Shelf
theorem many_fin {w W W2 W3 Wf : World} {B p : Nat} {A1 L : PA} {o : Obj} {us : Array Value} {fr : Nat × Nat} {gs2 cs2 gf2 cf2 : Nat} (hB : B ≤ w.heap.size) (hb0 : Below B w W) (hk0 : KeepT w W) (hO : OwnAt W B p gs2 cs2 gf2 cf2 A1) (hX : Ext (fun k => k = gf2) (W.alloc o) W2)
    (hO2 : OwnAt W2 B p gs2 cs2 gf2 cf2 L) (hr : W2.heap[w.heap.size]? = some (.cells zero184 184 (0, 0))) (hb : W2.heap[W.heap.size]? = some (.cells us 184 fr)) (hn1 : Only W.heap.size W2 W3) (hn : Only w.heap.size W3 Wf) (hlt : w.heap.size < W.heap.size) : OwnE Wf B p L ∧ Below B w Wf ∧ KeepT w Wf := by
  have hgB : B ≤ gf2 := (hO.2.2.2.2.2.2.lt _ rfl).1
  have hsz := lt_of_at hr
  have hsb := lt_of_at hb
  have hs3 := hn1.size
  have hbX : Below B w W2 := (hb0.alloc (Nat.le_trans hB hb0.size) o).trans (hX.below B (by simp; omega) (fun i hi e => by omega))
  have hr3 := (hn1.block _ hsz (by omega)).trans hr
  refine ⟨OwnE.only (OwnE.only ⟨_, _, _, _, hO2⟩ hb (by decide) hn1) hr3 (by decide) hn, hn.toBelow (hn1.toBelow hbX (by omega) (by omega)) (by omega) hB, ?_⟩
  intro k us t fr hk n1 n2 n3
  have h1 := hk0 k us t fr hk n1 n2 n3
  have h2 := hX.at' (alloc_old h1 o) (fun e => ownsRow_ne hO.2.2.2.2.2.2 h1 n3 e.symm)
  have h3 := lt_of_at hk
  exact (hn.block k (by omega) (by omega)).trans ((hn1.block k (by omega) (by omega)).trans h2)
set_option maxHeartbeats 1000000 in
set_option maxRecDepth 100000 in
theorem add_many (da : Nd) (iha : AddC da) : AddC (.many da) := by
  intro A B p gs cs gf cf w hA hd hp hAt hB hB6 hE
  have HO0 := Lib.hid (OwnE.alloc (OwnE.alloc ⟨gs, cs, gf, cf, hAt⟩ (.cells #[.bool false, .int .u64 0, .int .u64 0, .int .u64 0, .int .u64 0] 184)) (.cells #[nodeV da] 208))
  clear hAt
  have HE := Lib.hid hE
  clear hE
  unfold AddC at iha
  obtain ⟨ta, xa, ea⟩ := nodeV_iface da
  simp only [nodeV, ea] at iha HO0 ⊢
  have t1 := ta_208_210; have t2 := ta_208_182; have t3 := ta_208_165; have t4 := ta_208_208
  have HIA := Lib.hid iha
  clear iha
  have hadd : addP (.many da) A = ((addP da A).1.link (addP da A).2.last (addP da A).2.first, ⟨true, (addP da A).2.first, (addP da A).2.last⟩) := rfl
  have HADD := Lib.hid hadd
  clear hadd
  obtain ⟨o1, o2, o3⟩ := addP_ok da A hd hA (by simp only [Nd.places] at hp; omega)
  have HA1 := Lib.hid o1
  have HF := Lib.hid o2
  have HL := Lib.hid o3
  clear o1 o2 o3
  have HEX : Hid (Env ((w.alloc (.cells #[.bool false, .int .u64 0, .int .u64 0, .int .u64 0, .int .u64 0] 184)).alloc (.cells #[.iface ta xa] 208))) := Lib.hid (env_below ((((Below.refl _ _).alloc (Nat.le_refl _) _).alloc (by simp) _).mono hB) hB6 HE.out)
  go_enter Tryz.func118, Tryz.ntmps118
  go_wp2_with (first
    | (go_at_call 118; refine (HIA.out A B p _ _ _ _ _ hA hd (by simp only [Nd.places] at hp; omega) HO0.out.choose_spec.choose_spec.choose_spec.choose_spec (by simp; omega) hB6 HEX.out).mono ?_; rintro e W ⟨rfl, hO1, hb, hk⟩
       unfold ptV
       have fr := hk _ _ _ _ (alloc_old (alloc_at w (.cells #[.bool false, .int .u64 0, .int .u64 0, .int .u64 0, .int .u64 0] 184)) (.cells #[.iface ta xa] 208)) (by decide) (by decide) (by decide)
       have sr := lt_of_at fr
       have FR := Lib.hid fr
       obtain ⟨gs1, cs1, gf1, cf1, hO1⟩ := hO1
       have hgr : w.heap.size ≠ gf1 := (ownsRow_ne hO1.2.2.2.2.2.2 fr (by decide)).symm
       have hgb : W.heap.size ≠ gf1 := (Nat.ne_of_lt (hO1.2.2.2.2.2.2.lt _ rfl).2).symm
       have hBW : B ≤ W.heap.size := by omega
       have HEW := Lib.hid (env_below hb hB6 HEX.out)
       have HO1 := Lib.hid hO1
       have HB := Lib.hid hb
       have HK := Lib.hid hk
       clear fr hO1 hb hk)
    | (go_at_call 151; refine (link_any (addP da A).1 HA1.out _ _ B p gs1 cs1 gf1 cf1 _ HL.out HF.out (HO1.out.same fun k hk => Below.heap_alloc _ _ _ hk) (by simp; omega) hB6 (env_below ((Below.refl B W).alloc (by omega) _) hB6 HEW.out)).mono ?_; rintro e W2 ⟨rfl, hO2, hx2⟩
       have fr := hx2.at' (alloc_old FR.out _) hgr
       have fb := hx2.at' (alloc_at W _) hgb
       have r0 : W2.cell? ⟨w.heap.size, 0, none⟩ = some (.bool false) := cell_at fr 0
       have z0 := frozen_at fr 0
       have r1 : W2.cell? ⟨w.heap.size, 1, none⟩ = some (.int .u64 0) := cell_at fr 1
       have z1 := frozen_at fr 1
       have r2 : W2.cell? ⟨w.heap.size, 2, none⟩ = some (.int .u64 0) := cell_at fr 2
       have z2 := frozen_at fr 2
       have r3 : W2.cell? ⟨w.heap.size, 3, none⟩ = some (.int .u64 0) := cell_at fr 3
       have z3 := frozen_at fr 3
       have r4 : W2.cell? ⟨w.heap.size, 4, none⟩ = some (.int .u64 0) := cell_at fr 4
       have z4 := frozen_at fr 4
       have q0 : W2.cell? ⟨W.heap.size, 0, none⟩ = some (.bool (addP da A).2.empty) := cell_at fb 0
       have y0 := frozen_at fb 0
       have q1 : W2.cell? ⟨W.heap.size, 1, none⟩ = some (.int .u64 ((addP da A).2.first : Nat)) := cell_at fb 1
       have q2 : W2.cell? ⟨W.heap.size, 2, none⟩ = some (.int .u64 0) := cell_at fb 2
       have q3 : W2.cell? ⟨W.heap.size, 3, none⟩ = some (.int .u64 ((addP da A).2.last : Nat)) := cell_at fb 3
       have q4 : W2.cell? ⟨W.heap.size, 4, none⟩ = some (.int .u64 0) := cell_at fb 4
       have sr2 := lt_of_at fr
       have sb2 := lt_of_at fb
       have FR2 := Lib.hid fr
       have FB2 := Lib.hid fb
       have HO2 := Lib.hid hO2
       have HX2 := Lib.hid hx2
       clear fr fb hO2 hx2)
    | go_in)
  have hq : (addP (.many da) A).2 = ⟨true, (addP da A).2.first, (addP da A).2.last⟩ := rfl
  have hl : (addP (.many da) A).1 = (addP da A).1.link (addP da A).2.last (addP da A).2.first := rfl
  unfold AddPost
  rw [hq, hl]
  have hb0 : Below B w W := (((Below.refl _ _).alloc (Nat.le_refl _) _).alloc (by simp) _).mono hB |>.trans HB.out
  have hk0 : KeepT w W := (((KeepT.refl _).alloc _).alloc _).trans HK.out
  refine ret118 (r := w.heap.size) (q := ⟨true, (addP da A).2.first, (addP da A).2.last⟩) rfl rfl ?_ ⟨rfl, many_fin hB hb0 hk0 HO1.out HX2.out HO2.out FR2.out FB2.out ((Only.refl _ _).setCell 0 (.bool true)) ?_ sr⟩
  · exact setCell_at (setCell_at (setCell_at (setCell_at (setCell_at (setCell_other (b := W.heap.size) FR2.out (by omega)) 0 _) 1 _) 2 _) 3 _) 4 _
  · exact (((((Only.refl _ _).setCell 0 _).setCell 1 _).setCell 2 _).setCell 3 _).setCell 4 _
theorem add_any (d : Nd) : AddC d := by
  induction d with
  | empty => exact add_empty
  | one lo hi => exact add_one lo hi
  | row a b iha ihb => exact add_row a b iha ihb
  | many a ih => exact add_many a ih
end Go.Proofs.YtiocjdggdmeggaaGreatDoor
