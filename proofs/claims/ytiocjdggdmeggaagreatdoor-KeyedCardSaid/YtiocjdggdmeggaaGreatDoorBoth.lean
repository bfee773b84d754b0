/-
  The walk of (*search).put.
  The walk of (*search).both.
-/
import Derived.Test.YtiocjdggdmeggaaGreatDoorQueue
import Derived.Test.YtiocjdggdmeggaaGreatDoorSearch
namespace Go.Proofs.YtiocjdggdmeggaaGreatDoor
open Go.RowKit Go.Shelf
/-- A search lies at s: it has seen S; xs is to be looked at. -/
structure SearchAt (w : World) (B s m : Nat) (q : Value) (S xs : List (Nat × Nat × Nat)) : Prop where
  at' : w.heap[s]? = some (.cells #[.map (some m), q] 192 (0, 0))
  seen : SeenAt w m S
  queue : QueueAt w B q xs
  Bs : B ≤ s
  Bm : B ≤ m
  sm : s ≠ m
  sq : q.ownBlock ≠ some s
  mq : q.ownBlock ≠ some m
theorem SeenAt.drew {w : World} {m : Nat} {S : List (Nat × Nat × Nat)} (h : SeenAt w m S) : SeenAt w.drew m S := by
  obtain ⟨D, h1, h2⟩ := h
  exact ⟨D, h1.drew, h2⟩
theorem SeenAt.alloc {w : World} {m : Nat} {S : List (Nat × Nat × Nat)} (h : SeenAt w m S) (o : Obj) : SeenAt (w.alloc o) m S := h.kept (World.grownBy_alloc w o none) (by simp)
def Touch (s m : Nat) (q : Value) (k : Nat) : Prop := k = s ∨ k = m ∨ q.ownBlock = some k
theorem isSome_ownBlock {w : World} {B : Nat} {q : Value} {xs : List (Nat × Nat × Nat)} (h : QueueAt w B q xs) {k : Nat} (hk : q.ownBlock = some k) : B ≤ k ∧ k < w.heap.size ∧ ∃ cur, w.heap[k]? = some (.cells cur 146 (0, 0)) := by
  rcases h with ⟨rfl, _⟩ | ⟨g, off, cap, cur, rfl, hB, hg, _⟩
  · cases hk
  · cases hk
    exact ⟨hB, lt_of_at hg, cur, hg⟩
theorem SearchAt.keep {w w' : World} {B s m : Nat} {q : Value} {S xs : List (Nat × Nat × Nat)} (h : SearchAt w B s m q S xs) (he : Ext (fun k => ¬ Touch s m q k) w w') : SearchAt w' B s m q S xs := by
  have hm := h.seen.lt
  refine ⟨he.at' h.at' (fun e => e (.inl rfl)), ?_, h.queue.kept (fun k _ hk e => he.block k hk (fun n => n (.inr (.inr e)))), h.Bs, h.Bm, h.sm, h.sq, h.mq⟩
  obtain ⟨D, ⟨es, clock, hb, rest⟩, r2⟩ := h.seen
  exact ⟨D, ⟨es, clock, he.at' hb (fun e => e (.inr (.inl rfl))), rest⟩, r2⟩
def PutPost (w : World) (B s m : Nat) (q : Value) (S xs : List (Nat × Nat × Nat)) (t : Nat × Nat × Nat) (e : Ending) (w' : World) : Prop :=
  e = .returned (.tuple #[]) ∧ ∃ q', SearchAt w' B s m q' (if S.contains t then S else t :: S) (if S.contains t then xs else xs ++ [t]) ∧ Ext (Touch s m q) w w' ∧ (q'.ownBlock = q.ownBlock ∨ ∃ g, q'.ownBlock = some g ∧ w.heap.size ≤ g)
/-- The ways through a region, gathered: three letters, one world. -/
def Gath3 (F : Nat → Nat → Nat → Act) (G : Nat → Nat → Nat → World → Prop) : Exit → Act → World → Prop
  | .normal, a', w' => ∃ g o cap, a' = F g o cap ∧ G g o cap w'
  | _, _, _ => False
theorem wp_gather3 {P : Program} {c : Code} {a : Act} {w : World} {Q : Exit → Act → World → Prop} (F : Nat → Nat → Nat → Act) (G : Nat → Nat → Nat → World → Prop)
    (h : c.wp P (Gath3 F G) a w) (hq : ∀ g o cap w', G g o cap w' → Q .normal (F g o cap) w') : c.wp P Q a w :=
  wp_mono h fun e a' w' hh => by
    cases e <;> first | exact hh.elim | skip
    obtain ⟨g, o, cap, ha, hG⟩ := hh
    subst ha; exact hq g o cap w' hG
theorem step_queue {ops : Array Oper} {o : Oper} {a : Act} {w : World} {K : Act → World → Prop} {Q : Exit → Act → World → Prop} {E : Prop} (hgd : o.guard = none) (s x : Operand)
    (ho : o.op = .call { callee := .builtin .append, args := #[s, x], argTypes := #[190, 190] }) {B : Nat} {q : Value} {xs : List (Nat × Nat × Nat)} (hs : a.eval s = q) (h : QueueAt w B q xs) (hB : B ≤ w.heap.size) (hl : xs.length ≤ 100000) (t : Nat × Nat × Nat) (ad : Addr) (c : Nat)
    (hx : a.eval x = .slice (some ad) 1 c) (hn : ∀ j u, (pairCells [t])[j]? = some u → w.cell? (ad.add j) = some u)
    (hK : ∀ g off cap w', QueueAt w' B (.slice (some ⟨g, off, none⟩) (xs.length + 1) cap) (xs ++ [t]) → w.grownBy w' q.ownBlock → (q.ownBlock = some g ∨ w.heap.size ≤ g) → K (a.put o.dst (.slice (some ⟨g, off, none⟩) (xs.length + 1) cap)) w') :
    if Region.wanted o (yielded ops a.tmps) = true then Oper.wp Tryz.prog o a w K Q else E := by
  have hw : Region.wanted o (yielded ops a.tmps) = true := by simp [Region.wanted, hgd]
  rw [if_pos hw]
  obtain ⟨q', w', hr, h2, h3, h4⟩ := queue_push h hB hl t ad c hn o.type
  unfold Oper.wp execOp
  simp only [ho, resolve, invoke, builtin, Sem.run_bind, Sem.run_pure, Result.andThen_ok, List.map_toArray, List.map_cons, List.map_nil, hs, hx, hr]
  rcases h2 with ⟨_, h⟩ | h2
  · simp at h
  · have h2' := h2
    obtain ⟨g, off, cap, cur, rfl, _⟩ := h2'
    have hlen : (xs ++ [t]).length = xs.length + 1 := by simp
    rw [hlen] at h2 ⊢
    refine hK g off cap w' (.inr ?_) h3 ?_
    · rw [hlen]; exact h2
    · rcases h4 with h4 | ⟨g2, h4, h5⟩
      · exact .inl h4.symm
      · cases h4; exact .inr h5
theorem SeenAt.same {w w' : World} {m : Nat} {S : List (Nat × Nat × Nat)} (h : SeenAt w m S) (hs : w'.heap[m]? = w.heap[m]?) : SeenAt w' m S := by
  obtain ⟨D, ⟨es, clock, hb, rest⟩, r2⟩ := h
  exact ⟨D, ⟨es, clock, hs.trans hb, rest⟩, r2⟩
theorem QueueAt.alloc {w : World} {B : Nat} {q : Value} {xs : List (Nat × Nat × Nat)} (h : QueueAt w B q xs) (o : Obj) : QueueAt (w.alloc o) B q xs := h.kept fun _ _ hk _ => Below.heap_alloc _ _ _ hk
theorem QueueAt.drew {w : World} {B : Nat} {q : Value} {xs : List (Nat × Nat × Nat)} (h : QueueAt w B q xs) : QueueAt w.drew B q xs := h.kept fun _ _ _ _ => rfl
def PutG (w : World) (B s m : Nat) (q : Value) (S xs : List (Nat × Nat × Nat)) (t : Nat × Nat × Nat) (g off cap : Nat) (w' : World) : Prop :=
  SearchAt w' B s m (.slice (some ⟨g, off, none⟩) (xs.length + 1) cap) (t :: S) (xs ++ [t]) ∧ Ext (Touch s m q) w w' ∧ (q.ownBlock = some g ∨ w.heap.size ≤ g)
theorem put_fin {w W2 w1 : World} {B s m : Nat} {q : Value} {S xs : List (Nat × Nat × Nat)} {t : Nat × Nat × Nat} {g off cap : Nat} {o : Obj} (hS : SearchAt W2 B s m q (t :: S) xs) (hE : Ext (Touch s m q) w W2)
    (hq : QueueAt w1 B (.slice (some ⟨g, off, none⟩) (xs.length + 1) cap) (xs ++ [t])) (hg : World.grownBy (W2.drew.alloc o) w1 q.ownBlock) (hor : q.ownBlock = some g ∨ (W2.drew.alloc o).heap.size ≤ g) :
    PutG w B s m q S xs t g off cap (w1.setCell ⟨s, 1, none⟩ (.slice (some ⟨g, off, none⟩) (xs.length + 1) cap)) := by
  have hs := lt_of_at hS.at'
  have hm := hS.seen.lt
  have hsz := hE.size
  have hb : ∀ k, k < W2.heap.size → q.ownBlock ≠ some k → w1.heap[k]? = W2.heap[k]? := fun k hk hne =>
    (hg.block k (by simp; omega) (fun e => hne e.symm)).trans (Below.heap_alloc W2.drew o k hk)
  have hor' : q.ownBlock = some g ∨ W2.heap.size < g := by
    rcases hor with h | h
    · exact .inl h
    · right; simp at h; omega
  have gs : g ≠ s := by
    rcases hor' with h | h
    · intro e; subst e; exact hS.sq h
    · omega
  have gm : g ≠ m := by
    rcases hor' with h | h
    · intro e; subst e; exact hS.mq h
    · omega
  refine ⟨⟨setCell_at ((hb s hs hS.sq).trans hS.at') 1 _, ?_, ?_, hS.Bs, hS.Bm, hS.sm, ?_, ?_⟩, ?_, ?_⟩
  · exact hS.seen.same ((Below.heap_setCell _ _ _ _ (Ne.symm hS.sm)).trans (hb m hm hS.mq))
  · exact hq.kept fun k _ _ e => by cases e; exact Below.heap_setCell _ _ _ _ gs
  · intro e; cases e; exact gs rfl
  · intro e; cases e; exact gm rfl
  · refine ⟨hg.os.trans hE.os, hg.tape.trans hE.tape, hg.output.trans hE.output, ?_, fun k hk hn => ?_⟩
    · have := hg.size
      simp at this
      simp [World.setCell]
      omega
    · exact (Below.heap_setCell _ _ _ _ (fun e => hn (.inl e))).trans ((hb k (by omega) (fun e => hn (.inr (.inr e)))).trans (hE.block k hk hn))
  · rcases hor' with h | h
    · exact .inl h
    · exact .inr (by omega)
set_option maxHeartbeats 1000000 in
set_option maxRecDepth 100000 in
theorem put_any (w : World) (B s m : Nat) (q : Value) (S xs : List (Nat × Nat × Nat)) (t : Nat × Nat × Nat) (h : SearchAt w B s m q S xs) (hB : B ≤ w.heap.size) (ht : Small t) (hS : S.length ≤ 100000) (hx : xs.length ≤ 100000) :
    Calls Tryz.prog 98 #[.pointer (some ⟨s, 0, none⟩), pairV t] w (PutPost w B s m q S xs t) := by
  have H := Lib.hid h
  have hsw : s < w.heap.size := lt_of_at h.at'
  have c0 : w.cell? ⟨s, 0, none⟩ = some (.map (some m)) := cell_at h.at' 0
  have c1 : w.cell? ⟨s, 1, none⟩ = some q := cell_at h.at' 1
  have hk : ∀ o, SeenAt (w.alloc o) m S := fun o => h.seen.alloc o
  have l1 : ∀ o, (Instr.lookup 189 (.map (some m)) (pairV t) true).run Tryz.prog (w.alloc o).drew = .ok (.tuple #[.agg #[], .bool (S.contains t)]) (w.alloc o).drew := fun o => SeenAt.look (hk o).drew ht
  have l2 : ∀ o o', (Instr.lookup 189 (.map (some m)) (pairV t) true).run Tryz.prog ((w.alloc o).alloc o').drew = .ok (.tuple #[.agg #[], .bool (S.contains t)]) ((w.alloc o).alloc o').drew := fun o o' => SeenAt.look ((hk o).alloc o').drew ht
  have l3 : ∀ o o', (Instr.lookup 189 (.map (some m)) (pairV t) true).run Tryz.prog ((w.alloc o).drew.alloc o') = .ok (.tuple #[.agg #[], .bool (S.contains t)]) ((w.alloc o).drew.alloc o') := fun o o' => SeenAt.look ((hk o).drew.alloc o') ht
  clear h hk
  unfold pairV at l1 l2 l3 ⊢
  go_enter Tryz.func98, Tryz.ntmps98
  go_wp2
  go_region
  have hX : Below w.heap.size w ((w.alloc (.cells #[.int .i64 (t.1 : Nat), .int .i64 (t.2.1 : Nat), .int .i64 (t.2.2 : Nat)] 146)).alloc (.cells #[] 179)).drew := (((Below.refl _ _).alloc (Nat.le_refl _) _).alloc (by simp) _).drew
  have hP : ((w.alloc (.cells #[.int .i64 (t.1 : Nat), .int .i64 (t.2.1 : Nat), .int .i64 (t.2.2 : Nat)] 146)).alloc (.cells #[] 179)).drew.heap[w.heap.size]? = some (.cells #[.int .i64 (t.1 : Nat), .int .i64 (t.2.1 : Nat), .int .i64 (t.2.2 : Nat)] 146 (0, 0)) := alloc_old (alloc_at _ _) _
  revert hX hP
  generalize ((w.alloc (.cells #[.int .i64 (t.1 : Nat), .int .i64 (t.2.1 : Nat), .int .i64 (t.2.2 : Nat)] 146)).alloc (.cells #[] 179)).drew = X
  intro hX hP
  have HX := Lib.hid hX
  have HP := Lib.hid hP
  have HX0 : Hid (X.cell? ⟨s, 0, none⟩ = some (.map (some m))) := Lib.hid ((hX.cell (p := ⟨s, 0, none⟩) hsw).trans c0)
  have HX1 : Hid (X.cell? ⟨s, 1, none⟩ = some q) := Lib.hid ((hX.cell (p := ⟨s, 1, none⟩) hsw).trans c1)
  have HSX : Hid (s < X.heap.size) := Lib.hid (Nat.lt_of_lt_of_le hsw hX.size)
  have HWX : Hid (w.heap.size < X.heap.size) := Lib.hid (lt_of_at hP)
  have hkX : SearchAt X B s m q S xs := H.out.keep (Ext.of_below hX (Nat.le_refl _))
  have HKX := Lib.hid hkX
  clear hX hP hkX l1 l2 l3 c0 c1
  by_cases hin : t ∈ S
  · have hd : decide (t ∈ S) = true := by simpa using hin
    have hc : S.contains t = true := by simpa using hin
    rw [hd]
    go_wp2
    refine bodyPost_ret (v := .tuple #[]) (by simp [results, Tryz.results98, go_sem]) rfl ⟨rfl, q, ?_, Ext.of_below HX.out (Nat.le_refl _), .inl rfl⟩
    simp only [hc, if_true]
    exact HKX.out
  · have hd : decide (t ∈ S) = false := by simpa using hin
    have hc : S.contains t = false := by simpa using hin
    rw [hd]
    go_wp2
    refine wp_tail (fun W' => Hid (Below X.heap.size X W')) 6 (by kernel_rfl) (by kernel_rfl) (Lib.hid (Below.refl _ _).drew) ?_
    simp only [List.take_succ_cons, List.take_zero, List.drop_succ_cons, List.drop_zero]
    iterate 6 (refine quiet_val (by rfl) (fun W' hW' => by
      have h1 := (hW'.out.cell (p := ⟨s, 0, none⟩) HSX.out).trans HX0.out
      have hp := below_at hW'.out HP.out HWX.out
      have h2 : W'.cell? ⟨w.heap.size, 0, none⟩ = some (.int .i64 (t.1 : Nat)) := cell_at hp 0
      have h3 : W'.cell? ⟨w.heap.size, 1, none⟩ = some (.int .i64 (t.2.1 : Nat)) := cell_at hp 1
      have h4 : W'.cell? ⟨w.heap.size, 2, none⟩ = some (.int .i64 (t.2.2 : Nat)) := cell_at hp 2
      go_simp; rfl) ?_; try go_simp)
    refine wpQuiet_nil ?_
    intro W' hW'
    have hkW : SearchAt W' B s m q S xs := HKX.out.keep (Ext.of_below hW'.out (Nat.le_refl _))
    obtain ⟨W2, hrun, hseen, hturn⟩ := hkW.seen.store ht (by unfold maxLen; omega)
    unfold pairV at hrun
    have hgr := hturn.grown
    have HGR := Lib.hid hgr
    have HSEEN := Lib.hid hseen
    have HKW := Lib.hid hkW
    have HW' := Lib.hid hW'.out
    clear hturn hgr hseen hkW hW'
    have hblk : ∀ k, k < W'.heap.size → k ≠ m → W2.heap[k]? = W'.heap[k]? := fun k hk hne => HGR.out.block k hk (by simpa using hne)
    have hsW : s < W'.heap.size := lt_of_at HKW.out.at'
    have hS2 : SearchAt W2 B s m q (t :: S) xs := ⟨(hblk s hsW HKW.out.sm).trans HKW.out.at', HSEEN.out, HKW.out.queue.kept (fun k _ hk e => hblk k hk (fun e2 => HKW.out.mq (e2 ▸ e))), HKW.out.Bs, HKW.out.Bm, HKW.out.sm, HKW.out.sq, HKW.out.mq⟩
    have hWm : w.heap.size ≠ m := fun e => by have := H.out.seen.lt; omega
    have hXW : Below w.heap.size w W' := HX.out.trans (HW'.out.mono HX.out.size)
    have hE2 : Ext (Touch s m q) w W2 := ⟨HGR.out.os.trans hXW.os, HGR.out.tape.trans hXW.tape, HGR.out.output.trans hXW.output, Nat.le_trans hXW.size HGR.out.size, fun k hk hn => (hblk k (Nat.lt_of_lt_of_le hk hXW.size) (fun e => hn (.inr (.inl e)))).trans (hXW.block k hk)⟩
    have hpb : W2.heap[w.heap.size]? = some (.cells #[.int .i64 (t.1 : Nat), .int .i64 (t.2.1 : Nat), .int .i64 (t.2.2 : Nat)] 146 (0, 0)) := (hblk _ (Nat.lt_of_lt_of_le HWX.out HW'.out.size) hWm).trans (below_at HW'.out HP.out HWX.out)
    have b0 : W2.cell? ⟨w.heap.size, 0, none⟩ = some (.int .i64 (t.1 : Nat)) := cell_at hpb 0
    have b1 : W2.cell? ⟨w.heap.size, 1, none⟩ = some (.int .i64 (t.2.1 : Nat)) := cell_at hpb 1
    have b2 : W2.cell? ⟨w.heap.size, 2, none⟩ = some (.int .i64 (t.2.2 : Nat)) := cell_at hpb 2
    have s1 : W2.cell? ⟨s, 1, none⟩ = some q := cell_at hS2.at' 1
    have sf : W2.frozen? ⟨s, 1, none⟩ = false := frozen_at hS2.at' 1
    have hwW2 : w.heap.size < W2.heap.size := lt_of_at hpb
    have hsW2 : s < W2.heap.size := lt_of_at hS2.at'
    have hsq : some s ≠ q.ownBlock := fun e => HKW.out.sq e.symm
    have HS2 := Lib.hid hS2
    have HE2 := Lib.hid hE2
    have HBW2 : Hid (B ≤ W2.heap.size) := Lib.hid (Nat.le_trans hB (Nat.le_of_lt hwW2))
    clear hblk hS2 hE2 hXW hpb
    go_wp2
    refine wp_gather3 ?F (PutG w B s m q S xs t) ?one ?two
    case one =>
      go_region_law (refine step_queue (by rfl) _ _ (by rfl) (B := B) (q := q) (xs := xs) (by rfl) ((HS2.out.queue.drew).alloc _) (by simp; exact Nat.le_trans HBW2.out (Nat.le_succ _)) hx t ⟨W2.heap.size, 0, none⟩ 1 (by rfl) (World.news_of_block (cs := #[.int .i64 (t.1 : Nat), .int .i64 (t.2.1 : Nat), .int .i64 (t.2.2 : Nat)]) (t := 146) (fr := (0, 0)) (alloc_at W2.drew _)) ?_; intro g off cap w1 hq1 hg1 hor1; have z0 : w1.cell? ⟨s, 1, none⟩ = some q := (hg1.cell_far _ (by simp; omega) hsq).trans ((((Below.refl W2.heap.size W2).drew).alloc (Nat.le_refl _) _).cell (p := ⟨s, 1, none⟩) hsW2 |>.trans s1); have z1 : w1.frozen? ⟨s, 1, none⟩ = false := (hg1.frozen_far _ (by simp; omega) hsq).trans ((((Below.refl W2.heap.size W2).drew).alloc (Nat.le_refl _) _).frozen (p := ⟨s, 1, none⟩) hsW2 |>.trans sf))
      all_goals (refine ⟨g, off, cap, ?_, put_fin HS2.out HE2.out hq1 hg1 hor1⟩; exact rfl)
    case two =>
      rintro g off cap w' ⟨hG1, hG2, hG3⟩
      go_wp2
      refine bodyPost_ret (v := .tuple #[]) (by simp [results, Tryz.results98, go_sem]) rfl ⟨rfl, .slice (some ⟨g, off, none⟩) (xs.length + 1) cap, ?_, hG2, ?_⟩
      · rw [hc]
        exact hG1
      · rcases hG3 with h | h
        · exact .inl h.symm
        · exact .inr ⟨g, rfl, h⟩
end Go.Proofs.YtiocjdggdmeggaaGreatDoor
namespace Go.Proofs.YtiocjdggdmeggaaGreatDoor
open Go.RowKit Go.Shelf
/-- What a call of both does. -/
def MorePost (w : World) (B s m : Nat) (q : Value) (st : SQ) (e : Ending) (w' : World) : Prop :=
  e = .returned (.tuple #[]) ∧ ∃ q', SearchAt w' B s m q' st.1 st.2 ∧ Ext (Touch s m q) w w' ∧ (q'.ownBlock = q.ownBlock ∨ ∃ g, q'.ownBlock = some g ∧ w.heap.size ≤ g)
/-- How far a put may lengthen what is seen. -/
theorem pushP_length (t : Nat × Nat × Nat) (st : SQ) : (pushP t st).1.length ≤ st.1.length + 1 ∧ (pushP t st).2.length ≤ st.2.length + 1 := by
  unfold pushP
  split
  · exact ⟨by omega, by omega⟩
  · simp
/-- The frames of two steps, one behind the other. -/
theorem touch_trans {w w1 w2 : World} {s m : Nat} {q q1 : Value} (h : Ext (Touch s m q) w w1) (h1 : Ext (Touch s m q1) w1 w2) (hq : q1.ownBlock = q.ownBlock ∨ ∃ g, q1.ownBlock = some g ∧ w.heap.size ≤ g) : Ext (Touch s m q) w w2 :=
  h.trans h1 fun i hi ht => by
    rcases ht with h | h | h
    · exact .inl h
    · exact .inr (.inl h)
    · rcases hq with e | ⟨g, e, hg⟩
      · exact .inr (.inr (e ▸ h))
      · rw [e] at h
        cases h
        omega
theorem block_trans {w w1 : World} {q q1 q2 : Value} (hs : w.heap.size ≤ w1.heap.size) (h : q1.ownBlock = q.ownBlock ∨ ∃ g, q1.ownBlock = some g ∧ w.heap.size ≤ g) (h1 : q2.ownBlock = q1.ownBlock ∨ ∃ g, q2.ownBlock = some g ∧ w1.heap.size ≤ g) : q2.ownBlock = q.ownBlock ∨ ∃ g, q2.ownBlock = some g ∧ w.heap.size ≤ g := by
  rcases h1 with e | ⟨g, e, hg⟩
  · rw [e]; exact h
  · exact .inr ⟨g, e, by omega⟩
theorem SearchAt.alloc {w : World} {B s m : Nat} {q : Value} {S xs : List (Nat × Nat × Nat)} (h : SearchAt w B s m q S xs) (o : Obj) : SearchAt (w.alloc o) B s m q S xs := h.keep ((Ext.refl _ _).alloc o)
theorem SearchAt.drew {w : World} {B s m : Nat} {q : Value} {S xs : List (Nat × Nat × Nat)} (h : SearchAt w B s m q S xs) : SearchAt w.drew B s m q S xs := h.keep (Ext.refl _ _).drew
/-- A thing that is no row of cells and no part of the search is turned. -/
theorem SearchAt.putObj {w : World} {B s m : Nat} {q : Value} {S xs : List (Nat × Nat × Nat)} (h : SearchAt w B s m q S xs) {l : Nat} {o : Obj} (hl : w.heap[l]? = some o) (hc : o.isCells = false) (hm : l ≠ m) (o' : Obj) : SearchAt (w.putObj l o') B s m q S xs := by
  refine h.keep ⟨rfl, rfl, rfl, by simp, fun k hk hn => ?_⟩
  refine World.putObj_heap_other ?_
  intro e
  subst e
  refine hn ?_
  rintro (e | e | e)
  · subst e
    rw [h.at'] at hl
    cases hl
    simp [Obj.isCells] at hc
  · exact hm e
  · obtain ⟨_, _, cur, hcur⟩ := isSome_ownBlock h.queue e
    rw [hcur] at hl
    cases hl
    simp [Obj.isCells] at hc
def innerP (ph : Nat) (A C : PA) (x : Nat) (st : SQ) (y : Nat) : SQ := if meets (A.signs.getD x (0, 0)).1 (A.signs.getD x (0, 0)).2 (C.signs.getD y (0, 0)).1 (C.signs.getD y (0, 0)).2 then pushP (ph, x, y) st else st
def outerP (ph : Nat) (A C : PA) (j : Nat) (st : SQ) (x : Nat) : SQ := (bitsOf (C.follow.getD j 0)).foldl (innerP ph A C x) st
theorem bothP_eq (ph : Nat) (A : PA) (i : Nat) (C : PA) (j : Nat) (st : SQ) : bothP ph A i C j st = (bitsOf (A.follow.getD i 0)).foldl (outerP ph A C j) st := rfl
theorem innerP_length (ph : Nat) (A C : PA) (x : Nat) (st : SQ) (y : Nat) : (innerP ph A C x st y).1.length ≤ st.1.length + 1 ∧ (innerP ph A C x st y).2.length ≤ st.2.length + 1 := by
  unfold innerP
  split
  · exact pushP_length _ _
  · exact ⟨by omega, by omega⟩
theorem foldl_length {f : SQ → Nat → SQ} {c : Nat} (hf : ∀ st y, (f st y).1.length ≤ st.1.length + c ∧ (f st y).2.length ≤ st.2.length + c) (l : List Nat) : ∀ st, (l.foldl f st).1.length ≤ st.1.length + l.length * c ∧ (l.foldl f st).2.length ≤ st.2.length + l.length * c := by
  induction l with
  | nil => intro st; simp
  | cons y l ih =>
    intro st
    have h1 := hf st y
    have h2 := ih (f st y)
    simp only [List.foldl_cons, List.length_cons, Nat.add_mul, Nat.one_mul]
    exact ⟨by omega, by omega⟩
theorem bitsOf_length (s : Nat) : (bitsOf s).length ≤ 64 := by
  have := List.length_filter_le (fun i => s.testBit i) (List.range 64)
  simpa [bitsOf] using this
theorem upTo_length {f : SQ → Nat → SQ} {c : Nat} (hf : ∀ st y, (f st y).1.length ≤ st.1.length + c ∧ (f st y).2.length ≤ st.2.length + c) (v : Nat) (st : SQ) (k : Nat) : (upTo f (bitsOf v) st k).1.length ≤ st.1.length + 64 * c ∧ (upTo f (bitsOf v) st k).2.length ≤ st.2.length + 64 * c := by
  have h := foldl_length hf ((bitsOf v).take k) st
  have hl : ((bitsOf v).take k).length ≤ 64 := Nat.le_trans (List.length_take_le' _ _) (bitsOf_length v)
  have hm := Nat.mul_le_mul_right c hl
  exact ⟨Nat.le_trans h.1 (by omega), Nat.le_trans h.2 (by omega)⟩
theorem outerP_length (ph : Nat) (A C : PA) (j : Nat) (st : SQ) (x : Nat) : (outerP ph A C j st x).1.length ≤ st.1.length + 64 ∧ (outerP ph A C j st x).2.length ≤ st.2.length + 64 := by
  have h := upTo_length (innerP_length ph A C x) (C.follow.getD j 0) st (bitsOf (C.follow.getD j 0)).length
  rw [upTo_all] at h
  exact h
end Go.Proofs.YtiocjdggdmeggaaGreatDoor
