/-
  The walk of (*Auto).add.
  A region that draws its order, by an invariant: whatever has been listed, whatever comes up next keeps it.
-/
import Derived.Test.YtiocjdggdmeggaaGreatDoorLink
import Derived.Deep.AppendLies
import Derived.Deep.RegionHeld3
import Derived.Deep.RegionLaw
import Derived.StillTactics
import Derived.Laws.Pointers
namespace Go.Proofs.YtiocjdggdmeggaaGreatDoor
open Go.RowKit Go.Shelf

def nodeV : Nd → Value
  | .empty => .iface 180 (.agg #[])
  | .one lo hi => .iface 210 (.agg #[.int .u64 (lo : Nat), .int .u64 (hi : Nat)])
  | .row a b => .iface 182 (.agg #[nodeV a, nodeV b])
  | .many a => .iface 208 (.agg #[nodeV a])
def ptV (q : Pt) : Value := .agg #[.bool q.empty, .int .u64 (q.first : Nat), .int .u64 0, .int .u64 (q.last : Nat), .int .u64 0]
/-- No block of cells of another type than an automaton's is touched. -/
def KeepT (w w' : World) : Prop := ∀ (k : Nat) (cs : Array Value) (t : TypeId) (fr : Nat × Nat), w.heap[k]? = some (.cells cs t fr) → t ≠ 154 → t ≠ 195 → t ≠ 152 → w'.heap[k]? = some (.cells cs t fr)
theorem KeepT.refl (w : World) : KeepT w w := fun _ _ _ _ h _ _ _ => h
theorem KeepT.trans {a b c : World} (h : KeepT a b) (h2 : KeepT b c) : KeepT a c := fun k cs t fr h0 h1 h3 h4 => h2 k cs t fr (h k cs t fr h0 h1 h3 h4) h1 h3 h4
theorem KeepT.of_block {w w' : World} (h : ∀ k, k < w.heap.size → w'.heap[k]? = w.heap[k]?) : KeepT w w' := fun k _ _ _ h0 _ _ _ => (h k (lt_of_at h0)).trans h0
theorem KeepT.alloc {a w : World} (h : KeepT a w) (o : Obj) : KeepT a (w.alloc o) := h.trans (.of_block fun _ hk => Below.heap_alloc _ _ _ hk)
theorem KeepT.drew {a w : World} (h : KeepT a w) : KeepT a w.drew := h
def OwnE (w : World) (B p : Nat) (A : PA) : Prop := ∃ gs cs gf cf, OwnAt w B p gs cs gf cf A
/-- What a call of add does. -/
def AddPost (d : Nd) (A : PA) (B p : Nat) (w : World) (e : Ending) (w' : World) : Prop :=
  e = .returned (ptV (addP d A).2) ∧ OwnE w' B p (addP d A).1 ∧ Below B w w' ∧ KeepT w w'
def AddC (d : Nd) : Prop := ∀ (A : PA) (B p gs cs gf cf : Nat) (w : World), A.Ok → d.Ok → A.n + d.places ≤ 60 → OwnAt w B p gs cs gf cf A → B ≤ w.heap.size → 6 < B → Env w →
  Calls Tryz.prog 118 #[.pointer (some ⟨p, 0, none⟩), nodeV d] w (AddPost d A B p w)

theorem ta_180_210 (v : Value) (w : World) : (Instr.typeAssert (.iface 180 v) 64 210 true).run Tryz.prog w = .ok (.tuple #[.agg #[.int .u64 0, .int .u64 0], .bool false]) w := by kernel_rfl
theorem ta_210_210 (v : Value) (w : World) : (Instr.typeAssert (.iface 210 v) 64 210 true).run Tryz.prog w = .ok (.tuple #[v, .bool true]) w := by kernel_rfl
theorem ta_182_210 (v : Value) (w : World) : (Instr.typeAssert (.iface 182 v) 64 210 true).run Tryz.prog w = .ok (.tuple #[.agg #[.int .u64 0, .int .u64 0], .bool false]) w := by kernel_rfl
theorem ta_208_210 (v : Value) (w : World) : (Instr.typeAssert (.iface 208 v) 64 210 true).run Tryz.prog w = .ok (.tuple #[.agg #[.int .u64 0, .int .u64 0], .bool false]) w := by kernel_rfl
theorem ta_180_182 (v : Value) (w : World) : (Instr.typeAssert (.iface 180 v) 64 182 true).run Tryz.prog w = .ok (.tuple #[.agg #[.nilIface, .nilIface], .bool false]) w := by kernel_rfl
theorem ta_210_182 (v : Value) (w : World) : (Instr.typeAssert (.iface 210 v) 64 182 true).run Tryz.prog w = .ok (.tuple #[.agg #[.nilIface, .nilIface], .bool false]) w := by kernel_rfl
theorem ta_182_182 (v : Value) (w : World) : (Instr.typeAssert (.iface 182 v) 64 182 true).run Tryz.prog w = .ok (.tuple #[v, .bool true]) w := by kernel_rfl
theorem ta_208_182 (v : Value) (w : World) : (Instr.typeAssert (.iface 208 v) 64 182 true).run Tryz.prog w = .ok (.tuple #[.agg #[.nilIface, .nilIface], .bool false]) w := by kernel_rfl
theorem ta_180_165 (v : Value) (w : World) : (Instr.typeAssert (.iface 180 v) 64 165 true).run Tryz.prog w = .ok (.tuple #[.agg #[.nilIface, .nilIface], .bool false]) w := by kernel_rfl
theorem ta_210_165 (v : Value) (w : World) : (Instr.typeAssert (.iface 210 v) 64 165 true).run Tryz.prog w = .ok (.tuple #[.agg #[.nilIface, .nilIface], .bool false]) w := by kernel_rfl
theorem ta_182_165 (v : Value) (w : World) : (Instr.typeAssert (.iface 182 v) 64 165 true).run Tryz.prog w = .ok (.tuple #[.agg #[.nilIface, .nilIface], .bool false]) w := by kernel_rfl
theorem ta_208_165 (v : Value) (w : World) : (Instr.typeAssert (.iface 208 v) 64 165 true).run Tryz.prog w = .ok (.tuple #[.agg #[.nilIface, .nilIface], .bool false]) w := by kernel_rfl
theorem ta_180_208 (v : Value) (w : World) : (Instr.typeAssert (.iface 180 v) 64 208 true).run Tryz.prog w = .ok (.tuple #[.agg #[.nilIface], .bool false]) w := by kernel_rfl
theorem ta_210_208 (v : Value) (w : World) : (Instr.typeAssert (.iface 210 v) 64 208 true).run Tryz.prog w = .ok (.tuple #[.agg #[.nilIface], .bool false]) w := by kernel_rfl
theorem ta_182_208 (v : Value) (w : World) : (Instr.typeAssert (.iface 182 v) 64 208 true).run Tryz.prog w = .ok (.tuple #[.agg #[.nilIface], .bool false]) w := by kernel_rfl
theorem ta_208_208 (v : Value) (w : World) : (Instr.typeAssert (.iface 208 v) 64 208 true).run Tryz.prog w = .ok (.tuple #[v, .bool true]) w := by kernel_rfl


theorem info195 : (Tryz.prog.info? 195).map (fun i => (i.zero, i.size, i.bytes)) = some (some (.agg #[.int .u64 0, .int .u64 0]), 2, 16) := by kernel_rfl
theorem info152 : (Tryz.prog.info? 152).map (fun i => (i.zero, i.size, i.bytes)) = some (some (.agg #[.int .u64 0, .int .u64 0]), 2, 16) := by kernel_rfl
set_option maxRecDepth 100000 in
theorem add_empty : AddC .empty := by
  intro A B p gs cs gf cf w hA hd hp hAt hB hB6 hE
  have HAt := Lib.hid hAt
  clear hAt hE hd hp hA
  unfold nodeV
  have t1 := ta_180_210; have t2 := ta_180_182; have t3 := ta_180_165; have t4 := ta_180_208
  go_enter Tryz.func118, Tryz.ntmps118
  go_wp2
  refine bodyPost_ret (v := .agg #[.bool true, .int .u64 0, .int .u64 0, .int .u64 0, .int .u64 0]) (by simp [results, Tryz.results118, go_sem]) rfl ⟨rfl, ⟨gs, cs, gf, cf, HAt.out.same fun k hk => Below.heap_alloc _ _ _ hk⟩, ?_, (KeepT.refl _).alloc _⟩
  exact ((Below.refl _ _).alloc (Nat.le_refl _) _).mono hB
/-- The ways through a region, gathered: two letters, one world. -/
def Gath (F : Nat → Nat → Act) (G : Nat → Nat → World → Prop) : Exit → Act → World → Prop
  | .normal, a', w' => ∃ g cap, a' = F g cap ∧ G g cap w'
  | _, _, _ => False
theorem wp_gather2 {P : Program} {c : Code} {a : Act} {w : World} {Q : Exit → Act → World → Prop} (F : Nat → Nat → Act) (G : Nat → Nat → World → Prop)
    (h : c.wp P (Gath F G) a w) (hq : ∀ g cap w', G g cap w' → Q .normal (F g cap) w') : c.wp P Q a w :=
  wp_mono h fun e a' w' hh => by
    cases e <;> first | exact hh.elim | skip
    obtain ⟨g, cap, ha, hG⟩ := hh
    subst ha; exact hq g cap w' hG
theorem ownsRow_ne {w : World} {B : Nat} {e : TypeId} {size : Nat} {g n cap : Nat} {xs : List Value} (h : w.ownsRow B e size (.slice (some ⟨g, 0, none⟩) n cap) n xs) {k : Nat} {cs : Array Value} {t : TypeId} {fr : Nat × Nat} (hk : w.heap[k]? = some (.cells cs t fr)) (ht : t ≠ e) : g ≠ k := by
  rcases h.2 with ⟨h1, _⟩ | ⟨g', cap', cur, hv, _, hg, _⟩
  · cases h1
  · cases hv
    intro e
    subst e
    rw [hk] at hg
    cases hg
    exact ht rfl
/-- Behind the first append: the signs are longer by one, the follow sets are as they were. -/
structure Mid1 (w : World) (B p gf cf : Nat) (A : PA) (lo hi : Nat) (g cap : Nat) (w2 : World) : Prop where
  at' : w2.heap[p]? = some (.cells #[.slice (some ⟨g, 0, none⟩) (A.n + 1) cap, .slice (some ⟨gf, 0, none⟩) A.n cf, u64v A.last, u64v 0] 154 (0, 0))
  signs : w2.ownsRow B 195 2 (.slice (some ⟨g, 0, none⟩) (A.n + 1) cap) (A.n + 1) (signCells (A.signs ++ [(lo, hi)]))
  follow : w2.ownsRow B 152 2 (.slice (some ⟨gf, 0, none⟩) A.n cf) A.n (setCells A.follow)
  below : Below B w w2
  pg : p ≠ g
  gfg : g ≠ gf
  pgf : p ≠ gf
  res : w2.heap[w.heap.size]? = some (.cells #[.bool false, .int .u64 0, .int .u64 0, .int .u64 0, .int .u64 0] 184 (0, 0))
  wg : w.heap.size ≠ g
  plt : p < w.heap.size
  gflt : gf < w.heap.size
  Bp : B ≤ p
  keep : KeepT w w2
theorem signCells_snoc (l : List (Nat × Nat)) (lo hi : Nat) : signCells l ++ [.int .u64 (lo : Nat), .int .u64 (hi : Nat)] = signCells (l ++ [(lo, hi)]) := by
  induction l with
  | nil => rfl
  | cons x l ih => show _ :: _ :: (signCells l ++ _) = _; rw [ih]; rfl
theorem setCells_snoc (l : List Nat) : setCells l ++ [.int .u64 0, .int .u64 0] = setCells (l ++ [0]) := by
  induction l with
  | nil => rfl
  | cons x l ih => show _ :: _ :: (setCells l ++ _) = _; rw [ih]; rfl
theorem mid1_of {w w1 : World} {B p gs cs gf cf : Nat} {A : PA} {lo hi g cap : Nat} {o2 o3 : Obj} (hO : OwnAt w B p gs cs gf cf A) (hB : B ≤ w.heap.size)
    (hown : w1.ownsRow B 195 2 (.slice (some ⟨g, 0, none⟩) (A.n + 1) cap) (A.n + 1) (signCells A.signs ++ [.int .u64 (lo : Nat), .int .u64 (hi : Nat)]))
    (hg : World.grownBy (((w.alloc (.cells #[.bool false, .int .u64 0, .int .u64 0, .int .u64 0, .int .u64 0] 184)).alloc o2).drew.alloc o3) w1 (some gs))
    (hat : some gs = some g ∨ g = w.heap.size + 3) : Mid1 w B p gf cf A lo hi g cap (w1.setCell ⟨p, 0, none⟩ (.slice (some ⟨g, 0, none⟩) (A.n + 1) cap)) := by
  obtain ⟨h1, h2, h3, h4, h5, h6, h7⟩ := hO
  have hp := lt_of_at h5
  have hgs : B ≤ gs ∧ gs < w.heap.size := h6.lt _ rfl
  have hgf : B ≤ gf ∧ gf < w.heap.size := h7.lt _ rfl
  have hX : ∀ k, k < w.heap.size → k ≠ gs → w1.heap[k]? = w.heap[k]? := fun k hk hne =>
    (hg.block k (by simp; omega) (by simp; exact hne)).trans ((Below.heap_alloc _ _ _ (by simp; omega)).trans ((Below.heap_alloc _ _ _ (by simp; omega)).trans (Below.heap_alloc _ _ _ hk)))
  have hres : w1.heap[w.heap.size]? = some (.cells #[.bool false, .int .u64 0, .int .u64 0, .int .u64 0, .int .u64 0] 184 (0, 0)) :=
    (hg.block _ (by simp; omega) (by simp; omega)).trans (alloc_old (alloc_old (alloc_at _ _) _) _)
  have hpg : p ≠ g := by rcases hat with h | h; (· injection h with h; rw [← h]; exact h2); omega
  have hgg : g ≠ gf := by rcases hat with h | h; (· injection h with h; rw [← h]; exact h4); omega
  have hwg : w.heap.size ≠ g := by rcases hat with h | h; (· injection h with h; omega); omega
  have e5 := (hX p hp h2).trans h5
  refine ⟨setCell_at e5 0 _, ?_, ?_, ?_, hpg, hgg, h3, setCell_other hres (by omega), hwg, hp, hgf.2, h1, ?_⟩
  · rw [signCells_snoc] at hown
    exact ownsRow_same hown (Below.heap_setCell _ _ _ _ (Ne.symm hpg))
  · exact ownsRow_same h7 ((Below.heap_setCell _ _ _ _ (Ne.symm h3)).trans (hX gf hgf.2 (Ne.symm h4)))
  · have hb : Below B w w1 := (((((Below.refl B w).alloc hB _).alloc (by simp; omega) _).drew).alloc (by simp; omega) _).grown hg (by simp; omega) (by simp; omega)
    exact hb.setCell (by exact h1) _
  · intro k us t fr hk n1 n2 n3
    have hne : k ≠ gs := fun e => ownsRow_ne h6 hk n2 e.symm
    have hnp : k ≠ p := fun e => by subst e; rw [hk] at h5; cases h5; exact n1 rfl
    exact setCell_other ((hX k (lt_of_at hk) hne).trans hk) hnp
theorem mid2_of {w w2 w3 : World} {B p gf cf : Nat} {A : PA} {lo hi g cap g' cap' : Nat} {o3 : Obj} (hM : Mid1 w B p gf cf A lo hi g cap w2) (hB : B ≤ w.heap.size)
    (hown : w3.ownsRow B 152 2 (.slice (some ⟨g', 0, none⟩) (A.n + 1) cap') (A.n + 1) (setCells A.follow ++ [.int .u64 0, .int .u64 0]))
    (hg : World.grownBy (w2.alloc o3) w3 (some gf)) (H : Nat) (hH : H = w2.heap.size + 1) (hat : some gf = some g' ∨ g' = H) :
    let w4 := w3.setCell ⟨p, 1, none⟩ (.slice (some ⟨g', 0, none⟩) (A.n + 1) cap')
    OwnAt w4 B p g cap g' cap' (addP (.one lo hi) A).1 ∧ Below B w w4 ∧ w4.heap[w.heap.size]? = some (.cells #[.bool false, .int .u64 0, .int .u64 0, .int .u64 0, .int .u64 0] 184 (0, 0)) ∧ w.heap.size < w4.heap.size ∧ KeepT w w4 := by
  have hs2 := hM.below.size
  have hg1 : B ≤ g ∧ g < w2.heap.size := hM.signs.lt _ rfl
  have hw2 : w.heap.size < w2.heap.size := lt_of_at hM.res
  have hX : ∀ k, k < w2.heap.size → k ≠ gf → w3.heap[k]? = w2.heap[k]? := fun k hk hne =>
    (hg.block k (by simp; omega) (by simp; exact hne)).trans (Below.heap_alloc _ _ _ hk)
  have hp := hM.plt
  have hpg : p ≠ g' := by rcases hat with h | h; (· injection h with h; rw [← h]; exact hM.pgf); omega
  have hgg : g ≠ g' := by rcases hat with h | h; (· injection h with h; rw [← h]; exact hM.gfg); omega
  have e5 := (hX p (by omega) hM.pgf).trans hM.at'
  have er := (hX w.heap.size hw2 (by have := hM.gflt; omega)).trans hM.res
  have hn : (addP (.one lo hi) A).1.n = A.n + 1 := by simp [addP, PA.n]
  refine ⟨⟨hM.Bp, hM.pg, hpg, hgg, ?_, ?_, ?_⟩, ?_, setCell_other er (by omega), lt_of_at (setCell_other (i := 1) (u := .slice (some ⟨g', 0, none⟩) (A.n + 1) cap') er (show w.heap.size ≠ p by omega)), ?_⟩
  · rw [hn]; exact setCell_at e5 1 _
  · rw [hn]; exact ownsRow_same hM.signs ((Below.heap_setCell _ _ _ _ (Ne.symm hM.pg)).trans (hX g hg1.2 hM.gfg))
  · rw [hn]; rw [setCells_snoc] at hown; exact ownsRow_same hown (Below.heap_setCell _ _ _ _ (Ne.symm hpg))
  · have hgfB : B ≤ gf := (hM.follow.lt _ rfl).1
    have hb : Below B w w3 := ((hM.below.alloc (by omega) _)).grown hg (by simp; omega) (by simp; omega)
    exact hb.setCell (by exact hM.Bp) _
  · intro k us t fr hk n1 n2 n3
    have hk2 := hM.keep k us t fr hk n1 n2 n3
    have hne : k ≠ gf := fun e => ownsRow_ne hM.follow hk2 n3 e.symm
    have hnp : k ≠ p := fun e => by subst e; have h5 := hM.at'; rw [hk2] at h5; cases h5; exact n1 rfl
    exact setCell_other ((hX k (lt_of_at hk2) hne).trans hk2) hnp
/-- A turn of one block that is no part of it. -/
theorem OwnAt.keep {w w' : World} {B p gs cs gf cf : Nat} {A : PA} (h : OwnAt w B p gs cs gf cf A) {k : Nat} {us : Array Value} {t : TypeId} {fr : Nat × Nat} (hk : w.heap[k]? = some (.cells us t fr)) (ht : t ≠ 154 ∧ t ≠ 195 ∧ t ≠ 152)
    (hs : ∀ j, j < w.heap.size → j ≠ k → w'.heap[j]? = w.heap[j]?) : OwnAt w' B p gs cs gf cf A := by
  obtain ⟨h1, h2, h3, h4, h5, h6, h7⟩ := h
  have n1 : p ≠ k := fun e => by subst e; rw [hk] at h5; cases h5; exact ht.1 rfl
  exact ⟨h1, h2, h3, h4, (hs p (lt_of_at h5) n1).trans h5, ownsRow_same h6 (hs gs (h6.lt _ rfl).2 (ownsRow_ne h6 hk ht.2.1)), ownsRow_same h7 (hs gf (h7.lt _ rfl).2 (ownsRow_ne h7 hk ht.2.2))⟩
/-- What turns one block of its own alone. -/
structure Only (k : Nat) (w w' : World) : Prop where
  os : w'.os = w.os
  tape : w'.tape = w.tape
  output : w'.output = w.output
  size : w.heap.size ≤ w'.heap.size
  block : ∀ j, j < w.heap.size → j ≠ k → w'.heap[j]? = w.heap[j]?
theorem Only.refl (k : Nat) (w : World) : Only k w w := ⟨rfl, rfl, rfl, Nat.le_refl _, fun _ _ _ => rfl⟩
theorem Only.below {k : Nat} {w w1 w2 : World} (h : Only k w w1) (h2 : Below w1.heap.size w1 w2) : Only k w w2 :=
  ⟨h2.os.trans h.os, h2.tape.trans h.tape, h2.output.trans h.output, Nat.le_trans h.size h2.size, fun j hj hn => (h2.block j (Nat.lt_of_lt_of_le hj h.size)).trans (h.block j hj hn)⟩
theorem Only.alloc {k : Nat} {w w1 : World} (h : Only k w w1) (o : Obj) : Only k w (w1.alloc o) := h.below ((Below.refl _ _).alloc (Nat.le_refl _) o)
theorem Only.setCell {k : Nat} {w w1 : World} (h : Only k w w1) (i : Nat) (u : Value) : Only k w (w1.setCell ⟨k, i, none⟩ u) :=
  ⟨h.os, h.tape, h.output, by simpa [World.setCell] using h.size, fun j hj hn => (Below.heap_setCell _ _ _ _ hn).trans (h.block j hj hn)⟩
theorem Only.drew {k : Nat} {w w1 : World} (h : Only k w w1) : Only k w w1.drew := ⟨h.os, h.tape, h.output, h.size, h.block⟩
theorem Only.toBelow {k B : Nat} {a w w1 : World} (h : Only k w w1) (hb : Below B a w) (hB : B ≤ w.heap.size) (hk : B ≤ k) : Below B a w1 :=
  ⟨h.os.trans hb.os, h.tape.trans hb.tape, h.output.trans hb.output, Nat.le_trans hb.size h.size, fun j hj => (h.block j (by omega) (by omega)).trans (hb.block j hj)⟩
set_option maxHeartbeats 3200000 in
set_option maxRecDepth 100000 in
theorem add_one (lo hi : Nat) : AddC (.one lo hi) := by
  intro A B p gs cs gf cf w hA hd hp hAt hB hB6 hE
  have HAt := Lib.hid hAt
  have c0 : w.cell? ⟨p, 0, none⟩ = some (.slice (some ⟨gs, 0, none⟩) A.n cs) := (cell_at hAt.2.2.2.2.1 0).trans rfl
  have c1 : w.cell? ⟨p, 1, none⟩ = some (.slice (some ⟨gf, 0, none⟩) A.n cf) := (cell_at hAt.2.2.2.2.1 1).trans rfl
  have f0 := frozen_at hAt.2.2.2.2.1 0
  have f1 := frozen_at hAt.2.2.2.2.1 1
  obtain ⟨is, his, hs0, hs1, hs2⟩ := info_parts info195
  have hpw : p < w.heap.size := lt_of_at hAt.2.2.2.2.1
  have hgsw : gs < w.heap.size := (hAt.2.2.2.2.2.1.lt _ rfl).2
  have hgfw : gf < w.heap.size := (hAt.2.2.2.2.2.2.lt _ rfl).2
  have hn := hA.le
  have hne : p ≠ gs := hAt.2.1
  have HR := Lib.hid hAt.2.2.2.2.2.1
  have k3 : ∀ o1 o2 o3, (((w.alloc o1).alloc o2).alloc o3).cell? ⟨p, 0, none⟩ = some (.slice (some ⟨gs, 0, none⟩) A.n cs) := fun o1 o2 o3 =>
    (((((Below.refl _ w).alloc (Nat.le_refl _) o1).alloc (by simp) o2).alloc (by simp; omega) o3).cell (p := ⟨p, 0, none⟩) hpw).trans c0
  clear hAt hE
  have hnb : ∀ o1 o2 o3, (((w.alloc o1).alloc o2).alloc o3).heap[w.heap.size + 1 + 1]? = some o3 := fun o1 o2 o3 => by
    have := alloc_at ((w.alloc o1).alloc o2) o3; simpa using this
  have kf : ∀ o1 o2 o3, (((w.alloc o1).alloc o2).alloc o3).frozen? ⟨p, 0, none⟩ = false := fun o1 o2 o3 =>
    (((((Below.refl _ w).alloc (Nat.le_refl _) o1).alloc (by simp) o2).alloc (by simp; omega) o3).frozen (p := ⟨p, 0, none⟩) hpw).trans f0
  have hmax : A.n + 1 ≤ maxLen := by unfold maxLen; omega
  have hby : (A.n + 1) * 16 ≤ 140737488355328 := by omega
  have HNB := Lib.hid hnb
  clear hnb
  have hnb2 : ∀ o1 o3, (((w.alloc o1).alloc (.cells #[.int .u64 (lo : Nat), .int .u64 (hi : Nat)] 210)).alloc o3).heap[w.heap.size + 1]? = some (.cells #[.int .u64 (lo : Nat), .int .u64 (hi : Nat)] 210 (0, 0)) := fun o1 o3 => by
    refine alloc_old ?_ _
    have := alloc_at (w.alloc o1) (.cells #[.int .u64 (lo : Nat), .int .u64 (hi : Nat)] 210); simpa using this
  have HNB2 := Lib.hid hnb2
  clear hnb2
  unfold nodeV
  have t1 := ta_210_210
  go_enter Tryz.func118, Tryz.ntmps118
  go_wp2
  refine wp_gather2 ?F (Mid1 w B p gf cf A lo hi) ?one ?two
  case one =>
    go_region_law (refine step_append_lies _ (by rfl) _ _ _ (by rfl) B 195 is _ 2 16 Tryz.underlying148 his hs0 hs1 hs2 rfl (by omega) (.slice (some ⟨gs, 0, none⟩) A.n cs) A.n (signCells A.signs) (by rfl) ((((HR.out.alloc _).alloc _).alloc _).drew) ⟨w.heap.size + 1 + 1, 0, none⟩ 1 1 [.int .u64 (lo : Nat), .int .u64 (hi : Nat)] (by rfl) (by rfl) (World.news_of_block (cs := #[.int .u64 (lo : Nat), .int .u64 (hi : Nat)]) (t := 195) (fr := (0, 0)) (HNB.out _ _ _)) (by simp [Value.oneCell']) (by omega) hmax hby (by simp; omega) (w.heap.size + 3) (by simp) ?_; intro gg cap w1 hown1 hgrow hat hlt; have z0 : w1.cell? ⟨p, 0, none⟩ = some (.slice (some ⟨gs, 0, none⟩) A.n cs) := (hgrow.cell_far _ (by simp; omega) (by simp [Value.ownBlock]; omega)).trans (k3 _ _ _); have z3 : w1.frozen? ⟨p, 0, none⟩ = false := (hgrow.frozen_far _ (by simp; omega) (by simp [Value.ownBlock]; omega)).trans (kf _ _ _))
    all_goals (refine ⟨gg, cap, ?_, mid1_of HAt.out hB hown1 hgrow hat⟩; exact rfl)
  case two =>
    intro g cap w2 hM
    have HM := Lib.hid hM
    clear hM k3 kf HNB HNB2 HR
    have d1 : w2.cell? ⟨p, 1, none⟩ = some (.slice (some ⟨gf, 0, none⟩) A.n cf) := cell_at HM.out.at' 1
    have e1 : w2.frozen? ⟨p, 1, none⟩ = false := frozen_at HM.out.at' 1
    obtain ⟨it, hit, ht0, ht1, ht2⟩ := info_parts info152
    have hby2 : (A.n + 1) * 16 ≤ 140737488355328 := by omega
    have hs2 : w.heap.size < w2.heap.size := lt_of_at HM.out.res
    go_wp2_with (first
      | (at_builtin; refine wpList_append_lies _ rfl _ _ 149 rfl B 152 it _ 2 16 Tryz.underlying149 hit ht0 ht1 ht2 rfl (by omega) (.slice (some ⟨gf, 0, none⟩) A.n cf) A.n (setCells A.follow) rfl (HM.out.follow.alloc _) ⟨w2.heap.size, 0, none⟩ 1 1 [.int .u64 0, .int .u64 0] rfl rfl ?c1 ?c2 (by omega) hmax hby2 ?c5 _ rfl ?c6)
      | go_in)
    case c1 => exact World.news_of_block (cs := #[.int .u64 0, .int .u64 0]) (t := 152) (fr := (0, 0)) (alloc_at _ _)
    case c2 => simp [Value.oneCell']
    case c5 => simp; omega
    case c6 =>
      intro g' cap' w3 hown3 hg3 hat3 _
      have z0 : w3.cell? ⟨p, 1, none⟩ = some (.slice (some ⟨gf, 0, none⟩) A.n cf) := (hg3.cell_far _ (by simp; omega) (by simp [Value.ownBlock]; exact HM.out.pgf)).trans ((cell_at (alloc_old HM.out.at' _) 1).trans rfl)
      have z1 : w3.frozen? ⟨p, 1, none⟩ = false := (hg3.frozen_far _ (by simp; omega) (by simp [Value.ownBlock]; exact HM.out.pgf)).trans (frozen_at (alloc_old HM.out.at' _) 1)
      have z2 : w3.cell? ⟨p, 0, none⟩ = some (.slice (some ⟨g, 0, none⟩) (A.n + 1) cap) := (hg3.cell_far _ (by simp; omega) (by simp [Value.ownBlock]; exact HM.out.pgf)).trans ((cell_at (alloc_old HM.out.at' _) 0).trans rfl)
      have HF := Lib.hid (mid2_of HM.out hB hown3 hg3 _ (by simp) hat3)
      clear hown3 hg3 hat3 d1 e1 HM
      have hn64 : A.n < 64 := by simp only [Nd.places] at hp; omega
      go_wp2_with (first
        | (go_at_call 120; refine (single_any A.n _ hn64).mono ?_; rintro e w5 ⟨rfl, hb5⟩
           have HB5 := Lib.hid hb5
           clear hb5
           have hr5 := below_at HB5.out HF.out.2.2.1 HF.out.2.2.2.1
           have hs5 : w.heap.size < w5.heap.size := Nat.lt_of_lt_of_le HF.out.2.2.2.1 HB5.out.size
           have q0 : w5.cell? ⟨w.heap.size, 0, none⟩ = some (.bool false) := cell_at hr5 0
           have q1 : w5.cell? ⟨w.heap.size, 1, none⟩ = some (.int .u64 0) := cell_at hr5 1
           have q2 : w5.cell? ⟨w.heap.size, 2, none⟩ = some (.int .u64 0) := cell_at hr5 2
           have q3 : w5.cell? ⟨w.heap.size, 3, none⟩ = some (.int .u64 0) := cell_at hr5 3
           have q4 : w5.cell? ⟨w.heap.size, 4, none⟩ = some (.int .u64 0) := cell_at hr5 4
           have g0 := frozen_at hr5 0
           have g1 := frozen_at hr5 1
           have g2 := frozen_at hr5 2
           have g3 := frozen_at hr5 3
           have g4 := frozen_at hr5 4
           have HR5 := Lib.hid hr5
           clear hr5)
        | go_in)
      have hO5 : Only w.heap.size (w3.setCell ⟨p, 1, none⟩ (.slice (some ⟨g', 0, none⟩) (A.n + 1) cap')) w5 := (Only.refl _ _).below HB5.out
      have hO6 := (((((hO5.setCell 0 (.bool false)).setCell 1 (.int .u64 (2 ^ A.n))).setCell 2 (.int .u64 0)).setCell 3 (.int .u64 (2 ^ A.n))).setCell 4 (.int .u64 0)).alloc (.cells #[.int .u64 (2 ^ A.n), .int .u64 0] 152)
      have hfin := alloc_old (setCell_at (setCell_at (setCell_at (setCell_at (setCell_at HR5.out 0 (.bool false)) 1 (.int .u64 (2 ^ A.n))) 2 (.int .u64 0)) 3 (.int .u64 (2 ^ A.n))) 4 (.int .u64 0)) (.cells #[.int .u64 (2 ^ A.n), .int .u64 0] 152)
      revert hO6 hfin
      generalize ((((((w5.setCell ⟨w.heap.size, 0, none⟩ (.bool false)).setCell ⟨w.heap.size, 1, none⟩ (.int .u64 (2 ^ A.n))).setCell ⟨w.heap.size, 2, none⟩ (.int .u64 0)).setCell ⟨w.heap.size, 3, none⟩ (.int .u64 (2 ^ A.n))).setCell ⟨w.heap.size, 4, none⟩ (.int .u64 0)).alloc (.cells #[.int .u64 (2 ^ A.n), .int .u64 0] 152)) = W
      intro hO6 hfin
      have y0 := (cell_at hfin 0).trans rfl
      have y1 := (cell_at hfin 1).trans rfl
      have y2 := (cell_at hfin 2).trans rfl
      have y3 := (cell_at hfin 3).trans rfl
      have y4 := (cell_at hfin 4).trans rfl
      refine bodyPost_ret (v := ptV (addP (.one lo hi) A).2) (by simp [results, Tryz.results118, go_sem, ptV, addP, y0, y1, y2, y3, y4]) rfl ⟨rfl, ⟨g, cap, g', cap', HF.out.1.keep HF.out.2.2.1 (by decide) hO6.block⟩, hO6.toBelow HF.out.2.1 (by have := HF.out.2.2.2.1; omega) hB, fun k us t fr hk n1 n2 n3 => (hO6.block k (Nat.lt_of_lt_of_le (lt_of_at hk) (Nat.le_of_lt HF.out.2.2.2.1)) (fun e => by have := lt_of_at hk; omega)).trans (HF.out.2.2.2.2 k us t fr hk n1 n2 n3)⟩
end Go.Proofs.YtiocjdggdmeggaaGreatDoor
namespace Go.Proofs.YtiocjdggdmeggaaGreatDoor
open Go.RowKit
variable {P : Program} {ops : Array Oper} {md : Region.Mode}

theorem count_set {l : List Bool} {i : Nat} (h : l[i]? = some false) : (l.set i true).count false + 1 = l.count false := by
  induction l generalizing i with
  | nil => simp at h
  | cons b l ih =>
    cases i with
    | zero => simp at h; subst h; simp
    | succ i =>
      have := ih (i := i) (by simpa using h)
      simp only [List.set_cons_succ, List.count_cons]
      omega
theorem wpAny_inv {Q : Exit → Act → World → Prop} (Inv : Array Bool → Act → World → Prop)
    (hst : ∀ listed a w i o, Inv listed a w → ops[i]? = some o → listed.getD i true = false → (∀ e ∈ o.after, Region.binds md e = true → listed.getD e.on false = true) →
      Region.wanted o (yielded ops a.tmps) = true ∧ o.wp P a w (fun a' w' => Inv (listed.setIfInBounds i true) a' w') Q)
    (hend : ∀ listed a w, Inv listed a w → Region.ready md ops listed = [] → Q .normal a w) :
    ∀ fuel listed a w, listed.toList.count false ≤ fuel → Inv listed a w → wpAny P md ops Q fuel listed a w := by
  have none_left : ∀ listed : Array Bool, listed.toList.count false = 0 → Region.ready md ops listed = [] := fun listed h => by
    cases hr : Region.ready md ops listed with
    | nil => rfl
    | cons j l =>
      have hj : j ∈ Region.ready md ops listed := by rw [hr]; simp
      have hun := (mem_ready.1 hj).1
      exfalso
      have : false ∈ listed.toList := by
        rw [Array.getD_eq_getD_getElem?] at hun
        cases e : listed[j]? with
        | none => rw [e] at hun; simp at hun
        | some b =>
          rw [e] at hun
          simp at hun
          subst hun
          exact Array.mem_toList_iff.2 (Array.mem_of_getElem? e)
      exact absurd (List.count_pos_iff.2 this) (by omega)
  intro fuel
  induction fuel with
  | zero => intro listed a w hc hI; have h0 := none_left listed (by omega); exact ⟨h0, hend _ _ _ hI h0⟩
  | succ f ih =>
    intro listed a w hc hI
    refine ⟨fun h0 => hend _ _ _ hI h0, fun i hi => ?_⟩
    obtain ⟨hun, o, ho, hpre⟩ := mem_ready.1 hi
    obtain ⟨hw, h⟩ := hst listed a w i o hI ho hun hpre
    unfold wpOp
    simp only [ho, hw, if_true]
    refine .inl (Oper.wp_mono (fun a' w' h' => ih _ a' w' ?_ h') h)
    have e : listed.toList[i]? = some false := by
      rw [Array.getD_eq_getD_getElem?] at hun
      cases e : listed[i]? with
      | none => rw [e] at hun; simp at hun
      | some b => rw [e] at hun; simp at hun; subst hun; simpa using e
    have := count_set e
    simp only [Array.toList_setIfInBounds]
    omega
/-- The same; what is known of the activation at the start is told by Facts. -/
theorem wpAny_inv_at {Q : Exit → Act → World → Prop} {fuel : Nat} {listed : Array Bool} {a : Act} {w : World} (Facts : Act → Prop) (Inv : Act → Array Bool → Act → World → Prop) (hF : Facts a)
    (hfuel : listed.toList.count false ≤ fuel) (start : Inv a listed a w)
    (hst : ∀ a0 listed a w i o, Facts a0 → Inv a0 listed a w → ops[i]? = some o → listed.getD i true = false → (∀ e ∈ o.after, Region.binds md e = true → listed.getD e.on false = true) →
      Region.wanted o (yielded ops a.tmps) = true ∧ o.wp P a w (fun a' w' => Inv a0 (listed.setIfInBounds i true) a' w') Q)
    (hend : ∀ listed a' w, Inv a listed a' w → Region.ready md ops listed = [] → Q .normal a' w) : wpAny P md ops Q fuel listed a w :=
  wpAny_inv (Inv a) (fun listed' a' w' i o hI ho hun hpre => hst a listed' a' w' i o hF hI ho hun hpre) hend fuel listed a w hfuel start
/-- Every edge leads back. -/
def backB (ops : Array Oper) : Bool := (List.range ops.size).all fun i => ((ops[i]?).map fun o => o.after.all fun e => decide (e.on < i)).getD true
/-- Where nothing may come up any more, all has. -/
theorem ready_nil_all {listed : Array Bool} (hb : backB ops = true) (hsz : listed.size = ops.size) (h : Region.ready md ops listed = []) : ∀ i, i < ops.size → listed.getD i true = true := by
  intro i
  induction i using Nat.strongRecOn with
  | ind i ih =>
    intro hi
    cases hun : listed.getD i true with
    | true => rfl
    | false =>
      exfalso
      have hm : i ∈ Region.ready md ops listed := by
        refine mem_ready.2 ⟨hun, ops[i], Array.getElem?_eq_getElem hi, fun e he _ => ?_⟩
        have h1 := List.all_eq_true.1 hb i (List.mem_range.2 hi)
        rw [Array.getElem?_eq_getElem hi] at h1
        simp only [Option.map_some, Option.getD_some] at h1
        have h2 := of_decide_eq_true (Array.all_eq_true_iff_forall_mem.1 h1 e he)
        have h3 := ih e.on h2 (by omega)
        have h4 : e.on < listed.size := by omega
        rw [Array.getD_eq_getD_getElem?, Array.getElem?_eq_getElem h4] at h3 ⊢
        exact h3
      rw [h] at hm
      cases hm
theorem eval_put_ne {a : Act} {i j : Nat} {v : Value} (h : i ≠ j) : (a.put (some i) v).eval (.tmp j) = a.eval (.tmp j) := by
  simp [Act.put, Act.eval, Array.getD_eq_getD_getElem?, Array.getElem?_setIfInBounds_ne h]
theorem eval_put_eq {a : Act} {j : Nat} {v : Value} (h : j < a.tmps.size) : (a.put (some j) v).eval (.tmp j) = v := by
  simp [Act.put, Act.eval, Array.getD_eq_getD_getElem?, h]
theorem size_put {a : Act} {j : Nat} {v : Value} : (a.put (some j) v).tmps.size = a.tmps.size := by simp [Act.put]
theorem put_comm {a : Act} {i j : Nat} (h : i ≠ j) (x y : Value) : (a.put (some i) x).put (some j) y = (a.put (some j) y).put (some i) x := by
  simp only [Act.put]
  rw [Array.setIfInBounds_comm _ _ h]
theorem put_put (a : Act) (i : Nat) (x y : Value) : (a.put (some i) x).put (some i) y = a.put (some i) y := by
  simp [Act.put]
/-- What is put where its turn has come. -/
def opt (b : Bool) (v : Value) : Value := bif b then v else undef
theorem wp_value {o : Oper} {a : Act} {w w' : World} {K : Act → World → Prop} {Q : Exit → Act → World → Prop} (v : Value) (h : (execOp a.eval o).run P w = .ok (.value v) w') (hK : K (a.put o.dst v) w') : o.wp P a w K Q := by
  unfold Oper.wp; rw [h]; exact hK
theorem wp_skip {o : Oper} {a : Act} {w w' : World} {K : Act → World → Prop} {Q : Exit → Act → World → Prop} (h : (execOp a.eval o).run P w = .ok .skip w') (hK : K (a.put o.dst undef) w') : o.wp P a w K Q := by
  unfold Oper.wp; rw [h]; exact hK
theorem wp_enter {o : Oper} {a : Act} {w : World} {K : Act → World → Prop} {Q : Exit → Act → World → Prop} {f : FuncId} {args : Array Value} (h : (execOp a.eval o).run P w = .ok (.enter f args) w) {R : Ending → World → Prop} (hc : Calls P f args w R) (hR : ∀ e w', R e w' → ∃ v, e = .returned v ∧ K (a.put o.dst v) w') : o.wp P a w K Q := by
  unfold Oper.wp; rw [h]
  refine Calls.mono hc fun e w' he => ?_
  obtain ⟨v, rfl, hk⟩ := hR e w' he
  exact hk
end Go.Proofs.YtiocjdggdmeggaaGreatDoor
