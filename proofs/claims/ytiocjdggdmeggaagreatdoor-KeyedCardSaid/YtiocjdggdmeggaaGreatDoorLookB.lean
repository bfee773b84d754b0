/-
  The walk of what Once looks for.
  The walk of what Once looks for: the second and the third phase.
-/
import Derived.Test.YtiocjdggdmeggaaGreatDoorBothT
namespace Go.Proofs.YtiocjdggdmeggaaGreatDoor
open Go.RowKit Go.Shelf
theorem Srch.refl {w : World} {B s m : Nat} {q : Value} {st : SQ} (h : SearchAt w B s m q st.1 st.2) : Srch w w B s m q st := ⟨q, h, Ext.refl _ _, .inl rfl⟩
/-- What a call of look does. -/
def LookPost (w : World) (B s m : Nat) (q : Value) (r : SQ × Bool) (e : Ending) (w' : World) : Prop := e = .returned (.bool r.2) ∧ Srch w w' B s m q r.1
theorem bothP_length (ph : Nat) (A : PA) (i : Nat) (C : PA) (j : Nat) (st : SQ) : (bothP ph A i C j st).1.length ≤ st.1.length + 4096 ∧ (bothP ph A i C j st).2.length ≤ st.2.length + 4096 := by
  have h := upTo_length (outerP_length ph A C j) (A.follow.getD i 0) st (bitsOf (A.follow.getD i 0)).length
  rw [upTo_all, ← bothP_eq] at h
  exact h
/-- What look reads: the boxes of the two automata, the pair, the automata themselves. -/
structure LookCtx (w : World) (T pa pc ba bc bp : Nat) (A C : PA) (t : Nat × Nat × Nat) : Prop where
  a : w.heap[ba]? = some (.cells #[.pointer (some ⟨pa, 0, none⟩)] 62 (0, 0))
  c : w.heap[bc]? = some (.cells #[.pointer (some ⟨pc, 0, none⟩)] 62 (0, 0))
  p : w.heap[bp]? = some (.cells #[.int .i64 (t.1 : Nat), .int .i64 (t.2.1 : Nat), .int .i64 (t.2.2 : Nat)] 146 (0, 0))
  hA : AutoAt w T pa A
  hC : AutoAt w T pc C
  hE : Env w
theorem LookCtx.below {w w' : World} {T pa pc ba bc bp : Nat} {A C : PA} {t : Nat × Nat × Nat} (h : LookCtx w T pa pc ba bc bp A C t) (hb : Below w.heap.size w w') (hT : T ≤ w.heap.size) (h6 : 6 < T) : LookCtx w' T pa pc ba bc bp A C t :=
  ⟨below_at hb h.a (lt_of_at h.a), below_at hb h.c (lt_of_at h.c), below_at hb h.p (lt_of_at h.p), h.hA.same fun k hk => hb.block k (by omega), h.hC.same fun k hk => hb.block k (by omega), env_below hb (by omega) h.hE⟩
theorem LookCtx.ext {w w' : World} {T pa pc ba bc bp : Nat} {A C : PA} {t : Nat × Nat × Nat} {B s m : Nat} {q : Value} {S xs : List (Nat × Nat × Nat)} (h : LookCtx w T pa pc ba bc bp A C t) (hs : SearchAt w B s m q S xs) (hx : Ext (Touch s m q) w w') (hT : T ≤ B) (h6 : 6 < T) (hTw : T ≤ w.heap.size)
    (hp : ¬ Touch s m q bp) : LookCtx w' T pa pc ba bc bp A C t := by
  have hnt : ∀ k, k < T → ¬ Touch s m q k := fun k hk ht => by
    rcases ht with e | e | e
    · have := hs.Bs; omega
    · have := hs.Bm; omega
    · have := (isSome_ownBlock hs.queue e).1; omega
  refine ⟨hx.at' h.a (hs.box h.a (by decide) (by decide)), hx.at' h.c (hs.box h.c (by decide) (by decide)), hx.at' h.p hp, h.hA.same fun k hk => hx.block k (by omega) (hnt k hk), h.hC.same fun k hk => hx.block k (by omega) (hnt k hk), ?_⟩
  intro j hj
  have := h.hE j hj
  rw [← this]
  exact World.cell?_of_block (hx.block 6 (by omega) (hnt 6 h6))
theorem touch_new {w : World} {B s m k : Nat} {q : Value} {S xs : List (Nat × Nat × Nat)} (hs : SearchAt w B s m q S xs) (hk : w.heap.size ≤ k) : ¬ Touch s m q k := fun ht => by
  rcases ht with e | e | e
  · have := lt_of_at hs.at'; omega
  · have := hs.seen.lt; omega
  · have := (isSome_ownBlock hs.queue e).2.1; omega
/-- The queue of a later search does not lie in a block that was new before. -/
theorem touch_later {w w1 : World} {B s m k : Nat} {q q1 : Value} {S xs : List (Nat × Nat × Nat)} (hs : SearchAt w B s m q S xs) (hk : w.heap.size ≤ k) (hk1 : k < w1.heap.size) (ho : q1.ownBlock = q.ownBlock ∨ ∃ g, q1.ownBlock = some g ∧ w1.heap.size ≤ g) : ¬ Touch s m q1 k := fun ht => by
  rcases ht with e | e | e
  · have := lt_of_at hs.at'; omega
  · have := hs.seen.lt; omega
  · rcases ho with h | ⟨g, h, hg⟩
    · rw [h] at e
      have := (isSome_ownBlock hs.queue e).2.1; omega
    · rw [h] at e
      cases e
      omega
set_option maxHeartbeats 1000000 in
set_option maxRecDepth 100000 in
theorem look0_any (w : World) (B s m : Nat) (q : Value) (S xs : List (Nat × Nat × Nat)) (A C : PA) (T pa pc ba bc x y : Nat) (hA : A.Ok) (hC : C.Ok) (h : SearchAt w B s m q S xs) (hB : B ≤ w.heap.size)
    (hAt : AutoAt w T pa A) (hCt : AutoAt w T pc C) (hT : T ≤ B) (hT6 : 6 < T) (hE : Env w) (hx : x < A.n) (hy : y < A.n) (hS : S.length ≤ 80000) (hxs : xs.length ≤ 80000)
    (hba : w.heap[ba]? = some (.cells #[.pointer (some ⟨pa, 0, none⟩)] 62 (0, 0))) (hbc : w.heap[bc]? = some (.cells #[.pointer (some ⟨pc, 0, none⟩)] 62 (0, 0))) :
    Calls Tryz.prog 95 #[.pointer (some ⟨s, 0, none⟩), .agg #[.int .i64 (0 : Nat), .int .i64 (x : Nat), .int .i64 (y : Nat)], .pointer (some ⟨ba, 0, none⟩), .pointer (some ⟨bc, 0, none⟩)] w (LookPost w B s m q (lookP A C (0, x, y) (S, xs))) := by
  obtain ⟨W1, hW1⟩ : ∃ W1, w.alloc (.cells #[.int .i64 (0 : Nat), .int .i64 (x : Nat), .int .i64 (y : Nat)] 146) = W1 := ⟨_, rfl⟩
  have hb1 : Below w.heap.size w W1 := by rw [← hW1]; exact (Below.refl _ _).alloc (Nat.le_refl _) _
  have hk1 := h.keep (Ext.of_below hb1 (Nat.le_refl _))
  have hctx : LookCtx W1 T pa pc ba bc w.heap.size A C (0, x, y) := ⟨below_at hb1 hba (lt_of_at hba), below_at hb1 hbc (lt_of_at hbc), by rw [← hW1]; exact alloc_at _ _, hAt.same fun k hk => hb1.block k (by omega), hCt.same fun k hk => hb1.block k (by omega), env_below hb1 (by omega) hE⟩
  have hsz1 : w.heap.size < W1.heap.size := lt_of_at hctx.p
  have c1 : ∀ o, (w.alloc o).cell? ⟨ba, 0, none⟩ = some (.pointer (some ⟨pa, 0, none⟩)) := fun o => cell_at (alloc_old hba o) 0
  have c2 : ∀ o, (w.alloc o).cell? ⟨bc, 0, none⟩ = some (.pointer (some ⟨pc, 0, none⟩)) := fun o => cell_at (alloc_old hbc o) 0
  have HBOTH := Lib.hid (both_any W1 B s m q S xs 0 A A T pa pa x y hA hA hk1 (Nat.le_trans hB hb1.size) hctx.hA hctx.hA hT hT6 hctx.hE hx hy (by omega) (by omega) (by omega))
  have H := Lib.hid h
  have HB1 := Lib.hid hb1
  have HK1 := Lib.hid hk1
  have HCTX := Lib.hid hctx
  have HW1 := Lib.hid hW1
  have hn := hA.le
  clear h hb1 hk1 hctx hW1 hAt hCt hE hba hbc
  go_enter Tryz.func95, Tryz.ntmps95
  go_wp2_with fail
  rw [show w.alloc (.cells #[.int .i64 0, .int .i64 (x : Nat), .int .i64 (y : Nat)] 146) = W1 from HW1.out]
  refine HBOTH.out.mono ?_
  rintro e w2 ⟨rfl, q1, hs1, hx1, ho1⟩
  have hctx2 := HCTX.out.ext HK1.out hx1 hT hT6 (by omega) (touch_new H.out (Nat.le_refl _))
  have hsr : Srch w w2 B s m q (bothP 0 A x A y (S, xs)) := Srch.step (q' := q) (Ext.of_below HB1.out (Nat.le_refl _)) (.inl rfl) hs1 hx1 ho1
  have hsz2 : w.heap.size < w2.heap.size := lt_of_at hctx2.p
  have hnt := touch_later H.out (Nat.le_refl _) hsz1 ho1
  have hlen := bothP_length 0 A x A y (S, xs)
  obtain ⟨st1, hst1⟩ : ∃ st1, bothP 0 A x A y (S, xs) = st1 := ⟨_, rfl⟩
  rw [hst1] at hs1 hsr hlen
  have HST1 := Lib.hid hst1
  have HS1 := Lib.hid hs1
  have HSR := Lib.hid hsr
  have HNT := Lib.hid hnt
  have HCTX2 := Lib.hid hctx2
  have HX1 := Lib.hid hx1
  have HLEN := Lib.hid hlen
  have ho1' : q1.ownBlock = q.ownBlock ∨ ∃ g, q1.ownBlock = some g ∧ w.heap.size ≤ g := by
    rcases ho1 with h | ⟨g, h1, h2⟩
    · exact .inl h
    · exact .inr ⟨g, h1, by omega⟩
  have HO1 := Lib.hid ho1'
  clear ho1 ho1'
  obtain ⟨gs, cs, gf, cf, q00, q10, q20, q30, qs0, qf0⟩ := hctx2.hA.cells hA
  have L2 := Lib.hid q20
  have L3 := Lib.hid q30
  have spa := World.block_lt_of_cell? w2 ⟨pa, 2, none⟩ q20
  have hlast := hA.word hA.last
  have HLAST := Lib.hid hlast
  have sba := lt_of_at hctx2.a
  have sbc := lt_of_at hctx2.c
  clear hst1 hs1 hsr hnt hctx2 hx1 hlen q00 q10 q20 q30 qs0 qf0 c1 c2 hlast
  go_wp2
  refine wp_head (fun W' => Hid (Below w2.heap.size w2 W')) (by kernel_rfl) (by kernel_rfl) (Lib.hid (Below.refl _ _).drew) ?_
  iterate 6 (refine quiet_val (by rfl) (fun W' hW' => by
    have h1 : W'.cell? ⟨ba, 0, none⟩ = some (.pointer (some ⟨pa, 0, none⟩)) := (hW'.out.cell (p := ⟨ba, 0, none⟩) sba).trans (cell_at HCTX2.out.a 0)
    have h2 := (hW'.out.cell (p := ⟨pa, 2, none⟩) spa).trans L2.out
    have h3 := (hW'.out.cell (p := ⟨pa, 3, none⟩) spa).trans L3.out
    have h4 : W'.cell? ⟨w.heap.size, 1, none⟩ = some (.int .i64 (x : Nat)) := (hW'.out.cell (p := ⟨w.heap.size, 1, none⟩) hsz2).trans (cell_at HCTX2.out.p 1)
    go_simp; rfl) ?_; try go_simp)
  refine quiet_call (v := .bool (A.last.testBit x)) (f := 97) (args := #[.agg #[.int .u64 (A.last : Nat), .int .u64 0], .int .i64 (x : Nat)]) (by rfl) (fun W' hW' => by go_simp) (fun W' hW' => ?_) ?_
  · refine (has_any A.last x W' (by omega) HLAST.out).mono ?_
    rintro e w'' ⟨rfl, hb⟩
    exact ⟨rfl, Lib.hid (hW'.out.trans (hb.mono hW'.out.size))⟩
  refine wpQuiet_nil ?_
  intro w3 hW3
  have HW3 := Lib.hid hW3.out
  have hctx3 := HCTX2.out.below HW3.out (by omega) hT6
  have hsr3 : Srch w w3 B s m q st1 := HSR.out.below HW3.out
  have hs3 := HS1.out.keep (Ext.of_below HW3.out (Nat.le_refl _))
  have c1 : w3.cell? ⟨ba, 0, none⟩ = some (.pointer (some ⟨pa, 0, none⟩)) := cell_at hctx3.a 0
  have c2 : w3.cell? ⟨bc, 0, none⟩ = some (.pointer (some ⟨pc, 0, none⟩)) := cell_at hctx3.c 0
  have c5 : w3.cell? ⟨w.heap.size, 2, none⟩ = some (.int .i64 (y : Nat)) := cell_at hctx3.p 2
  have HCTX3 := Lib.hid hctx3
  have HSR3 := Lib.hid hsr3
  have HS3 := Lib.hid hs3
  clear hW3 hctx3 hsr3 hs3
  have hfin : lookP A C (0, x, y) (S, xs) = (if A.last.testBit x then bothP 1 A y C 0 st1 else st1, false) := by rw [← HST1.out]; rfl
  have HFIN := Lib.hid hfin
  clear hfin
  cases hbit : A.last.testBit x
  · have HBIT := Lib.hid hbit
    clear hbit
    go_simp
    go_wp2
    go_ret
    rw [HFIN.out, HBIT.out]
    exact ⟨rfl, HSR3.out⟩
  · have HBIT := Lib.hid hbit
    clear hbit
    have HB2 := Lib.hid (both_any w3 B s m q1 st1.1 st1.2 1 A C T pa pc y 0 hA hC HS3.out (by have := HB1.out.size; have := HX1.out.size; have := HW3.out.size; omega) HCTX3.out.hA HCTX3.out.hC hT hT6 HCTX3.out.hE hy hC.pos (by omega)
      (by have := HLEN.out.1; omega) (by have := HLEN.out.2; omega))
    go_simp
    go_wp2_with fail
    refine HB2.out.mono ?_
    rintro e w4 ⟨rfl, q2, hs4, hx4, ho4⟩
    have hsr4 : Srch w w4 B s m q (bothP 1 A y C 0 st1) := by
      obtain ⟨q3, hq3, hx3, ho3⟩ := HSR3.out
      exact Srch.step (q' := q1) (st' := bothP 1 A y C 0 st1) hx3 HO1.out hs4 hx4 ho4
    have HSR4 := Lib.hid hsr4
    clear hsr4 hs4 hx4 ho4
    go_wp2
    go_ret
    rw [HFIN.out, HBIT.out]
    exact ⟨rfl, HSR4.out⟩
end Go.Proofs.YtiocjdggdmeggaaGreatDoor
namespace Go.Proofs.YtiocjdggdmeggaaGreatDoor
open Go.RowKit Go.Shelf
set_option maxHeartbeats 1000000 in
set_option maxRecDepth 100000 in
theorem look1_any (w : World) (B s m : Nat) (q : Value) (S xs : List (Nat × Nat × Nat)) (A C : PA) (T pa pc ba bc x y : Nat) (hA : A.Ok) (hC : C.Ok) (h : SearchAt w B s m q S xs) (hB : B ≤ w.heap.size)
    (hAt : AutoAt w T pa A) (hCt : AutoAt w T pc C) (hT : T ≤ B) (hT6 : 6 < T) (hE : Env w) (hx : x < A.n) (hy : y < C.n) (hS : S.length ≤ 80000) (hxs : xs.length ≤ 80000)
    (hba : w.heap[ba]? = some (.cells #[.pointer (some ⟨pa, 0, none⟩)] 62 (0, 0))) (hbc : w.heap[bc]? = some (.cells #[.pointer (some ⟨pc, 0, none⟩)] 62 (0, 0))) :
    Calls Tryz.prog 95 #[.pointer (some ⟨s, 0, none⟩), .agg #[.int .i64 (1 : Nat), .int .i64 (x : Nat), .int .i64 (y : Nat)], .pointer (some ⟨ba, 0, none⟩), .pointer (some ⟨bc, 0, none⟩)] w (LookPost w B s m q (lookP A C (1, x, y) (S, xs))) := by
  obtain ⟨W1, hW1⟩ : ∃ W1, w.alloc (.cells #[.int .i64 (1 : Nat), .int .i64 (x : Nat), .int .i64 (y : Nat)] 146) = W1 := ⟨_, rfl⟩
  have hb1 : Below w.heap.size w W1 := by rw [← hW1]; exact (Below.refl _ _).alloc (Nat.le_refl _) _
  have hk1 := h.keep (Ext.of_below hb1 (Nat.le_refl _))
  have hctx : LookCtx W1 T pa pc ba bc w.heap.size A C (1, x, y) := ⟨below_at hb1 hba (lt_of_at hba), below_at hb1 hbc (lt_of_at hbc), by rw [← hW1]; exact alloc_at _ _, hAt.same fun k hk => hb1.block k (by omega), hCt.same fun k hk => hb1.block k (by omega), env_below hb1 (by omega) hE⟩
  have hsz1 : w.heap.size < W1.heap.size := lt_of_at hctx.p
  have c1 : ∀ o, (w.alloc o).cell? ⟨ba, 0, none⟩ = some (.pointer (some ⟨pa, 0, none⟩)) := fun o => cell_at (alloc_old hba o) 0
  have c2 : ∀ o, (w.alloc o).cell? ⟨bc, 0, none⟩ = some (.pointer (some ⟨pc, 0, none⟩)) := fun o => cell_at (alloc_old hbc o) 0
  have HBOTH := Lib.hid (both_any W1 B s m q S xs 1 A C T pa pc x y hA hC hk1 (Nat.le_trans hB hb1.size) hctx.hA hctx.hC hT hT6 hctx.hE hx hy (by omega) (by omega) (by omega))
  have H := Lib.hid h
  have HB1 := Lib.hid hb1
  have HK1 := Lib.hid hk1
  have HCTX := Lib.hid hctx
  have HW1 := Lib.hid hW1
  have hn := hA.le
  clear h hb1 hk1 hctx hW1 hAt hCt hE hba hbc
  go_enter Tryz.func95, Tryz.ntmps95
  go_wp2_with fail
  rw [show w.alloc (.cells #[.int .i64 1, .int .i64 (x : Nat), .int .i64 (y : Nat)] 146) = W1 from HW1.out]
  refine HBOTH.out.mono ?_
  rintro e w2 ⟨rfl, q1, hs1, hx1, ho1⟩
  have hctx2 := HCTX.out.ext HK1.out hx1 hT hT6 (by omega) (touch_new H.out (Nat.le_refl _))
  have hsr : Srch w w2 B s m q (bothP 1 A x C y (S, xs)) := Srch.step (q' := q) (Ext.of_below HB1.out (Nat.le_refl _)) (.inl rfl) hs1 hx1 ho1
  have hsz2 : w.heap.size < w2.heap.size := lt_of_at hctx2.p
  have hnt := touch_later H.out (Nat.le_refl _) hsz1 ho1
  have hlen := bothP_length 1 A x C y (S, xs)
  obtain ⟨st1, hst1⟩ : ∃ st1, bothP 1 A x C y (S, xs) = st1 := ⟨_, rfl⟩
  rw [hst1] at hs1 hsr hlen
  have HST1 := Lib.hid hst1
  have HS1 := Lib.hid hs1
  have HSR := Lib.hid hsr
  have HNT := Lib.hid hnt
  have HCTX2 := Lib.hid hctx2
  have HX1 := Lib.hid hx1
  have HLEN := Lib.hid hlen
  have ho1' : q1.ownBlock = q.ownBlock ∨ ∃ g, q1.ownBlock = some g ∧ w.heap.size ≤ g := by
    rcases ho1 with h | ⟨g, h1, h2⟩
    · exact .inl h
    · exact .inr ⟨g, h1, by omega⟩
  have HO1 := Lib.hid ho1'
  clear ho1 ho1'
  obtain ⟨gs, cs, gf, cf, q00, q10, q20, q30, qs0, qf0⟩ := hctx2.hA.cells hA
  have L2 := Lib.hid q20
  have L3 := Lib.hid q30
  have spa := World.block_lt_of_cell? w2 ⟨pa, 2, none⟩ q20
  have hlast := hA.word hA.last
  have HLAST := Lib.hid hlast
  have sba := lt_of_at hctx2.a
  have sbc := lt_of_at hctx2.c
  clear hst1 hs1 hsr hnt hctx2 hx1 hlen q00 q10 q20 q30 qs0 qf0 c1 c2 hlast
  go_wp2
  refine wp_head (fun W' => Hid (Below w2.heap.size w2 W')) (by kernel_rfl) (by kernel_rfl) (Lib.hid (Below.refl _ _).drew) ?_
  iterate 6 (refine quiet_val (by rfl) (fun W' hW' => by
    have h1 : W'.cell? ⟨ba, 0, none⟩ = some (.pointer (some ⟨pa, 0, none⟩)) := (hW'.out.cell (p := ⟨ba, 0, none⟩) sba).trans (cell_at HCTX2.out.a 0)
    have h2 := (hW'.out.cell (p := ⟨pa, 2, none⟩) spa).trans L2.out
    have h3 := (hW'.out.cell (p := ⟨pa, 3, none⟩) spa).trans L3.out
    have h4 : W'.cell? ⟨w.heap.size, 1, none⟩ = some (.int .i64 (x : Nat)) := (hW'.out.cell (p := ⟨w.heap.size, 1, none⟩) hsz2).trans (cell_at HCTX2.out.p 1)
    go_simp; rfl) ?_; try go_simp)
  refine quiet_call (v := .bool (A.last.testBit x)) (f := 97) (args := #[.agg #[.int .u64 (A.last : Nat), .int .u64 0], .int .i64 (x : Nat)]) (by rfl) (fun W' hW' => by go_simp) (fun W' hW' => ?_) ?_
  · refine (has_any A.last x W' (by omega) HLAST.out).mono ?_
    rintro e w'' ⟨rfl, hb⟩
    exact ⟨rfl, Lib.hid (hW'.out.trans (hb.mono hW'.out.size))⟩
  refine wpQuiet_nil ?_
  intro w3 hW3
  have HW3 := Lib.hid hW3.out
  have hctx3 := HCTX2.out.below HW3.out (by omega) hT6
  have hsr3 : Srch w w3 B s m q st1 := HSR.out.below HW3.out
  have hs3 := HS1.out.keep (Ext.of_below HW3.out (Nat.le_refl _))
  have c1 : w3.cell? ⟨ba, 0, none⟩ = some (.pointer (some ⟨pa, 0, none⟩)) := cell_at hctx3.a 0
  have c2 : w3.cell? ⟨bc, 0, none⟩ = some (.pointer (some ⟨pc, 0, none⟩)) := cell_at hctx3.c 0
  have c5 : w3.cell? ⟨w.heap.size, 2, none⟩ = some (.int .i64 (y : Nat)) := cell_at hctx3.p 2
  have HCTX3 := Lib.hid hctx3
  have HSR3 := Lib.hid hsr3
  have HS3 := Lib.hid hs3
  clear hW3 hctx3 hsr3 hs3
  have hfin : lookP A C (1, x, y) (S, xs) = (if A.last.testBit x then pushP (2, y, 0) st1 else st1, false) := by rw [← HST1.out]; rfl
  have HFIN := Lib.hid hfin
  clear hfin
  cases hbit : A.last.testBit x
  · have HBIT := Lib.hid hbit
    clear hbit
    go_simp
    go_wp2
    go_ret
    rw [HFIN.out, HBIT.out]
    exact ⟨rfl, HSR3.out⟩
  · have HBIT := Lib.hid hbit
    clear hbit
    have hn2 := hC.le
    have HB2 := Lib.hid (put_any w3 B s m q1 st1.1 st1.2 (2, y, 0) HS3.out (by have := HB1.out.size; have := HX1.out.size; have := HW3.out.size; omega) ⟨by show 2 < 1000; omega, by show y < 1000; omega, by show 0 < 1000; omega⟩
      (by have := HLEN.out.1; omega) (by have := HLEN.out.2; omega))
    go_simp
    go_wp2_with fail
    refine HB2.out.mono ?_
    rintro e w4 ⟨rfl, q2, hs4, hx4, ho4⟩
    have hs4' : SearchAt w4 B s m q2 (pushP (2, y, 0) st1).1 (pushP (2, y, 0) st1).2 := by
      unfold pushP
      split
      · rename_i hc
        rw [if_pos hc, if_pos hc] at hs4
        exact hs4
      · rename_i hc
        rw [if_neg hc, if_neg hc] at hs4
        exact hs4
    have hsr4 : Srch w w4 B s m q (pushP (2, y, 0) st1) := by
      obtain ⟨q3, hq3, hx3, ho3⟩ := HSR3.out
      exact Srch.step (q' := q1) (st' := pushP (2, y, 0) st1) hx3 HO1.out hs4' hx4 ho4
    have HSR4 := Lib.hid hsr4
    clear hsr4 hs4 hs4' hx4 ho4
    go_wp2
    go_ret
    rw [HFIN.out, HBIT.out]
    exact ⟨rfl, HSR4.out⟩
set_option maxHeartbeats 1000000 in
set_option maxRecDepth 100000 in
theorem look2_no (w : World) (B s m : Nat) (q : Value) (S xs : List (Nat × Nat × Nat)) (A C : PA) (T pa pc ba bc x y : Nat) (hC : C.Ok) (h : SearchAt w B s m q S xs) (hB : B ≤ w.heap.size)
    (hAt : AutoAt w T pa A) (hCt : AutoAt w T pc C) (hT : T ≤ B) (hT6 : 6 < T) (hE : Env w) (hx : x < C.n) (hy : y < C.n) (hbit : C.last.testBit x = false) (hS : S.length ≤ 80000) (hxs : xs.length ≤ 80000)
    (hba : w.heap[ba]? = some (.cells #[.pointer (some ⟨pa, 0, none⟩)] 62 (0, 0))) (hbc : w.heap[bc]? = some (.cells #[.pointer (some ⟨pc, 0, none⟩)] 62 (0, 0))) :
    Calls Tryz.prog 95 #[.pointer (some ⟨s, 0, none⟩), .agg #[.int .i64 (2 : Nat), .int .i64 (x : Nat), .int .i64 (y : Nat)], .pointer (some ⟨ba, 0, none⟩), .pointer (some ⟨bc, 0, none⟩)] w (LookPost w B s m q (lookP A C (2, x, y) (S, xs))) := by
  obtain ⟨W1, hW1⟩ : ∃ W1, w.alloc (.cells #[.int .i64 (2 : Nat), .int .i64 (x : Nat), .int .i64 (y : Nat)] 146) = W1 := ⟨_, rfl⟩
  have hb1 : Below w.heap.size w W1 := by rw [← hW1]; exact (Below.refl _ _).alloc (Nat.le_refl _) _
  have hk1 := h.keep (Ext.of_below hb1 (Nat.le_refl _))
  have hctx : LookCtx W1 T pa pc ba bc w.heap.size A C (2, x, y) := ⟨below_at hb1 hba (lt_of_at hba), below_at hb1 hbc (lt_of_at hbc), by rw [← hW1]; exact alloc_at _ _, hAt.same fun k hk => hb1.block k (by omega), hCt.same fun k hk => hb1.block k (by omega), env_below hb1 (by omega) hE⟩
  have hsz1 : w.heap.size < W1.heap.size := lt_of_at hctx.p
  have c1 : ∀ o, (w.alloc o).cell? ⟨ba, 0, none⟩ = some (.pointer (some ⟨pa, 0, none⟩)) := fun o => cell_at (alloc_old hba o) 0
  have c2 : ∀ o, (w.alloc o).cell? ⟨bc, 0, none⟩ = some (.pointer (some ⟨pc, 0, none⟩)) := fun o => cell_at (alloc_old hbc o) 0
  have HBOTH := Lib.hid (both_any W1 B s m q S xs 2 C C T pc pc x y hC hC hk1 (Nat.le_trans hB hb1.size) hctx.hC hctx.hC hT hT6 hctx.hE hx hy (by omega) (by omega) (by omega))
  have hfin : lookP A C (2, x, y) (S, xs) = (bothP 2 C x C y (S, xs), C.last.testBit x && C.last.testBit y) := rfl
  rw [hbit, Bool.false_and] at hfin
  have HFIN := Lib.hid hfin
  have HBIT := Lib.hid hbit
  clear hfin hbit
  have H := Lib.hid h
  have HB1 := Lib.hid hb1
  have HK1 := Lib.hid hk1
  have HCTX := Lib.hid hctx
  have HW1 := Lib.hid hW1
  have hn := hC.le
  clear h hb1 hk1 hctx hW1 hAt hCt hE hba hbc
  go_enter Tryz.func95, Tryz.ntmps95
  go_wp2_with fail
  rw [show w.alloc (.cells #[.int .i64 2, .int .i64 (x : Nat), .int .i64 (y : Nat)] 146) = W1 from HW1.out]
  refine HBOTH.out.mono ?_
  rintro e w2 ⟨rfl, q1, hs1, hx1, ho1⟩
  have hctx2 := HCTX.out.ext HK1.out hx1 hT hT6 (by omega) (touch_new H.out (Nat.le_refl _))
  have hsr : Srch w w2 B s m q (bothP 2 C x C y (S, xs)) := Srch.step (q' := q) (Ext.of_below HB1.out (Nat.le_refl _)) (.inl rfl) hs1 hx1 ho1
  have hsz2 : w.heap.size < w2.heap.size := lt_of_at hctx2.p
  have hnt := touch_later H.out (Nat.le_refl _) hsz1 ho1
  have hlen := bothP_length 2 C x C y (S, xs)
  obtain ⟨st1, hst1⟩ : ∃ st1, bothP 2 C x C y (S, xs) = st1 := ⟨_, rfl⟩
  rw [hst1] at hs1 hsr hlen
  have HST1 := Lib.hid hst1
  have HS1 := Lib.hid hs1
  have HSR := Lib.hid hsr
  have HNT := Lib.hid hnt
  have HCTX2 := Lib.hid hctx2
  have HX1 := Lib.hid hx1
  have HLEN := Lib.hid hlen
  have ho1' : q1.ownBlock = q.ownBlock ∨ ∃ g, q1.ownBlock = some g ∧ w.heap.size ≤ g := by
    rcases ho1 with h | ⟨g, h1, h2⟩
    · exact .inl h
    · exact .inr ⟨g, h1, by omega⟩
  have HO1 := Lib.hid ho1'
  clear ho1 ho1'
  obtain ⟨gs, cs, gf, cf, q00, q10, q20, q30, qs0, qf0⟩ := hctx2.hC.cells hC
  have L2 := Lib.hid q20
  have L3 := Lib.hid q30
  have spa := World.block_lt_of_cell? w2 ⟨pc, 2, none⟩ q20
  have hlast := hC.word hC.last
  have HLAST := Lib.hid hlast
  have sba := lt_of_at hctx2.a
  have sbc := lt_of_at hctx2.c
  clear hst1 hs1 hsr hnt hctx2 hx1 hlen q00 q10 q20 q30 qs0 qf0 c1 c2 hlast
  go_wp2
  refine wp_head (fun W' => Hid (Below w2.heap.size w2 W')) (by kernel_rfl) (by kernel_rfl) (Lib.hid (Below.refl _ _).drew) ?_
  iterate 6 (refine quiet_val (by rfl) (fun W' hW' => by
    have h1 : W'.cell? ⟨bc, 0, none⟩ = some (.pointer (some ⟨pc, 0, none⟩)) := (hW'.out.cell (p := ⟨bc, 0, none⟩) sbc).trans (cell_at HCTX2.out.c 0)
    have h2 := (hW'.out.cell (p := ⟨pc, 2, none⟩) spa).trans L2.out
    have h3 := (hW'.out.cell (p := ⟨pc, 3, none⟩) spa).trans L3.out
    have h4 : W'.cell? ⟨w.heap.size, 1, none⟩ = some (.int .i64 (x : Nat)) := (hW'.out.cell (p := ⟨w.heap.size, 1, none⟩) hsz2).trans (cell_at HCTX2.out.p 1)
    have h5 : W'.cell? ⟨w.heap.size, 2, none⟩ = some (.int .i64 (y : Nat)) := (hW'.out.cell (p := ⟨w.heap.size, 2, none⟩) hsz2).trans (cell_at HCTX2.out.p 2)
    go_simp; rfl) ?_; try go_simp)
  refine quiet_call (v := .bool false) (f := 97) (args := #[.agg #[.int .u64 (C.last : Nat), .int .u64 0], .int .i64 (x : Nat)]) (by rfl) (fun W' hW' => by go_simp) (fun W' hW' => ?_) ?_
  · refine (has_any C.last x W' (by omega) HLAST.out).mono ?_
    rintro e w'' ⟨rfl, hb⟩
    exact ⟨by rw [HBIT.out], Lib.hid (hW'.out.trans (hb.mono hW'.out.size))⟩
  go_simp
  refine quiet_val (by rfl) (fun W' hW' => by go_simp; rfl) ?_
  go_simp
  iterate 7 (unfold wpQuiet; go_simp)
  iterate 2 (refine quiet_val (by rfl) (fun W' hW' => by go_simp; rfl) ?_; try go_simp)
  refine wpQuiet_nil ?_
  intro w3 hW3
  have hsr3 : Srch w w3 B s m q st1 := HSR.out.below hW3.out
  have HSR3 := Lib.hid hsr3
  clear hW3 hsr3
  go_simp
  go_wp2
  go_ret
  rw [HFIN.out, HST1.out]
  exact ⟨rfl, HSR3.out⟩
set_option maxHeartbeats 1000000 in
set_option maxRecDepth 100000 in
theorem look2_yes (w : World) (B s m : Nat) (q : Value) (S xs : List (Nat × Nat × Nat)) (A C : PA) (T pa pc ba bc x y : Nat) (hC : C.Ok) (h : SearchAt w B s m q S xs) (hB : B ≤ w.heap.size)
    (hAt : AutoAt w T pa A) (hCt : AutoAt w T pc C) (hT : T ≤ B) (hT6 : 6 < T) (hE : Env w) (hx : x < C.n) (hy : y < C.n) (hbit : C.last.testBit x = true) (hS : S.length ≤ 80000) (hxs : xs.length ≤ 80000)
    (hba : w.heap[ba]? = some (.cells #[.pointer (some ⟨pa, 0, none⟩)] 62 (0, 0))) (hbc : w.heap[bc]? = some (.cells #[.pointer (some ⟨pc, 0, none⟩)] 62 (0, 0))) :
    Calls Tryz.prog 95 #[.pointer (some ⟨s, 0, none⟩), .agg #[.int .i64 (2 : Nat), .int .i64 (x : Nat), .int .i64 (y : Nat)], .pointer (some ⟨ba, 0, none⟩), .pointer (some ⟨bc, 0, none⟩)] w (LookPost w B s m q (lookP A C (2, x, y) (S, xs))) := by
  obtain ⟨W1, hW1⟩ : ∃ W1, w.alloc (.cells #[.int .i64 (2 : Nat), .int .i64 (x : Nat), .int .i64 (y : Nat)] 146) = W1 := ⟨_, rfl⟩
  have hb1 : Below w.heap.size w W1 := by rw [← hW1]; exact (Below.refl _ _).alloc (Nat.le_refl _) _
  have hk1 := h.keep (Ext.of_below hb1 (Nat.le_refl _))
  have hctx : LookCtx W1 T pa pc ba bc w.heap.size A C (2, x, y) := ⟨below_at hb1 hba (lt_of_at hba), below_at hb1 hbc (lt_of_at hbc), by rw [← hW1]; exact alloc_at _ _, hAt.same fun k hk => hb1.block k (by omega), hCt.same fun k hk => hb1.block k (by omega), env_below hb1 (by omega) hE⟩
  have hsz1 : w.heap.size < W1.heap.size := lt_of_at hctx.p
  have c1 : ∀ o, (w.alloc o).cell? ⟨ba, 0, none⟩ = some (.pointer (some ⟨pa, 0, none⟩)) := fun o => cell_at (alloc_old hba o) 0
  have c2 : ∀ o, (w.alloc o).cell? ⟨bc, 0, none⟩ = some (.pointer (some ⟨pc, 0, none⟩)) := fun o => cell_at (alloc_old hbc o) 0
  have HBOTH := Lib.hid (both_any W1 B s m q S xs 2 C C T pc pc x y hC hC hk1 (Nat.le_trans hB hb1.size) hctx.hC hctx.hC hT hT6 hctx.hE hx hy (by omega) (by omega) (by omega))
  have hfin : lookP A C (2, x, y) (S, xs) = (bothP 2 C x C y (S, xs), C.last.testBit x && C.last.testBit y) := rfl
  rw [hbit, Bool.true_and] at hfin
  have HFIN := Lib.hid hfin
  have HBIT := Lib.hid hbit
  clear hfin hbit
  have H := Lib.hid h
  have HB1 := Lib.hid hb1
  have HK1 := Lib.hid hk1
  have HCTX := Lib.hid hctx
  have HW1 := Lib.hid hW1
  have hn := hC.le
  clear h hb1 hk1 hctx hW1 hAt hCt hE hba hbc
  go_enter Tryz.func95, Tryz.ntmps95
  go_wp2_with fail
  rw [show w.alloc (.cells #[.int .i64 2, .int .i64 (x : Nat), .int .i64 (y : Nat)] 146) = W1 from HW1.out]
  refine HBOTH.out.mono ?_
  rintro e w2 ⟨rfl, q1, hs1, hx1, ho1⟩
  have hctx2 := HCTX.out.ext HK1.out hx1 hT hT6 (by omega) (touch_new H.out (Nat.le_refl _))
  have hsr : Srch w w2 B s m q (bothP 2 C x C y (S, xs)) := Srch.step (q' := q) (Ext.of_below HB1.out (Nat.le_refl _)) (.inl rfl) hs1 hx1 ho1
  have hsz2 : w.heap.size < w2.heap.size := lt_of_at hctx2.p
  have hnt := touch_later H.out (Nat.le_refl _) hsz1 ho1
  have hlen := bothP_length 2 C x C y (S, xs)
  obtain ⟨st1, hst1⟩ : ∃ st1, bothP 2 C x C y (S, xs) = st1 := ⟨_, rfl⟩
  rw [hst1] at hs1 hsr hlen
  have HST1 := Lib.hid hst1
  have HS1 := Lib.hid hs1
  have HSR := Lib.hid hsr
  have HNT := Lib.hid hnt
  have HCTX2 := Lib.hid hctx2
  have HX1 := Lib.hid hx1
  have HLEN := Lib.hid hlen
  have ho1' : q1.ownBlock = q.ownBlock ∨ ∃ g, q1.ownBlock = some g ∧ w.heap.size ≤ g := by
    rcases ho1 with h | ⟨g, h1, h2⟩
    · exact .inl h
    · exact .inr ⟨g, h1, by omega⟩
  have HO1 := Lib.hid ho1'
  clear ho1 ho1'
  obtain ⟨gs, cs, gf, cf, q00, q10, q20, q30, qs0, qf0⟩ := hctx2.hC.cells hC
  have L2 := Lib.hid q20
  have L3 := Lib.hid q30
  have spa := World.block_lt_of_cell? w2 ⟨pc, 2, none⟩ q20
  have hlast := hC.word hC.last
  have HLAST := Lib.hid hlast
  have sba := lt_of_at hctx2.a
  have sbc := lt_of_at hctx2.c
  clear hst1 hs1 hsr hnt hctx2 hx1 hlen q00 q10 q20 q30 qs0 qf0 c1 c2 hlast
  go_wp2
  refine wp_head (fun W' => Hid (Below w2.heap.size w2 W')) (by kernel_rfl) (by kernel_rfl) (Lib.hid (Below.refl _ _).drew) ?_
  iterate 6 (refine quiet_val (by rfl) (fun W' hW' => by
    have h1 : W'.cell? ⟨bc, 0, none⟩ = some (.pointer (some ⟨pc, 0, none⟩)) := (hW'.out.cell (p := ⟨bc, 0, none⟩) sbc).trans (cell_at HCTX2.out.c 0)
    have h2 := (hW'.out.cell (p := ⟨pc, 2, none⟩) spa).trans L2.out
    have h3 := (hW'.out.cell (p := ⟨pc, 3, none⟩) spa).trans L3.out
    have h4 : W'.cell? ⟨w.heap.size, 1, none⟩ = some (.int .i64 (x : Nat)) := (hW'.out.cell (p := ⟨w.heap.size, 1, none⟩) hsz2).trans (cell_at HCTX2.out.p 1)
    have h5 : W'.cell? ⟨w.heap.size, 2, none⟩ = some (.int .i64 (y : Nat)) := (hW'.out.cell (p := ⟨w.heap.size, 2, none⟩) hsz2).trans (cell_at HCTX2.out.p 2)
    go_simp; rfl) ?_; try go_simp)
  refine quiet_call (v := .bool true) (f := 97) (args := #[.agg #[.int .u64 (C.last : Nat), .int .u64 0], .int .i64 (x : Nat)]) (by rfl) (fun W' hW' => by go_simp) (fun W' hW' => ?_) ?_
  · refine (has_any C.last x W' (by omega) HLAST.out).mono ?_
    rintro e w'' ⟨rfl, hb⟩
    exact ⟨by rw [HBIT.out], Lib.hid (hW'.out.trans (hb.mono hW'.out.size))⟩
  go_simp
  refine quiet_val (by rfl) (fun W' hW' => by go_simp; rfl) ?_
  go_simp
  iterate 6 (refine quiet_val (by kernel_rfl) (fun W' hW' => by
    have h1 : W'.cell? ⟨bc, 0, none⟩ = some (.pointer (some ⟨pc, 0, none⟩)) := (hW'.out.cell (p := ⟨bc, 0, none⟩) sbc).trans (cell_at HCTX2.out.c 0)
    have h2 := (hW'.out.cell (p := ⟨pc, 2, none⟩) spa).trans L2.out
    have h3 := (hW'.out.cell (p := ⟨pc, 3, none⟩) spa).trans L3.out
    have h4 : W'.cell? ⟨w.heap.size, 1, none⟩ = some (.int .i64 (x : Nat)) := (hW'.out.cell (p := ⟨w.heap.size, 1, none⟩) hsz2).trans (cell_at HCTX2.out.p 1)
    have h5 : W'.cell? ⟨w.heap.size, 2, none⟩ = some (.int .i64 (y : Nat)) := (hW'.out.cell (p := ⟨w.heap.size, 2, none⟩) hsz2).trans (cell_at HCTX2.out.p 2)
    go_simp; rfl) ?_; try go_simp)
  refine quiet_call (v := .bool (C.last.testBit y)) (f := 97) (args := #[.agg #[.int .u64 (C.last : Nat), .int .u64 0], .int .i64 (y : Nat)]) (by kernel_rfl) (fun W' hW' => by go_simp) (fun W' hW' => ?_) ?_
  · refine (has_any C.last y W' (by omega) HLAST.out).mono ?_
    rintro e w'' ⟨rfl, hb⟩
    exact ⟨rfl, Lib.hid (hW'.out.trans (hb.mono hW'.out.size))⟩
  iterate 2 (refine quiet_val (by rfl) (fun W' hW' => by go_simp; rfl) ?_; try go_simp)
  refine wpQuiet_nil ?_
  intro w3 hW3
  have hsr3 : Srch w w3 B s m q st1 := HSR.out.below hW3.out
  have HSR3 := Lib.hid hsr3
  clear hW3 hsr3
  go_simp
  go_wp2
  go_ret
  rw [HFIN.out, HST1.out]
  exact ⟨rfl, HSR3.out⟩
/-- What look does, at every pair. -/
theorem look_any (w : World) (B s m : Nat) (q : Value) (S xs : List (Nat × Nat × Nat)) (A C : PA) (T pa pc ba bc : Nat) (t : Nat × Nat × Nat) (hA : A.Ok) (hC : C.Ok) (h : SearchAt w B s m q S xs) (hB : B ≤ w.heap.size)
    (hAt : AutoAt w T pa A) (hCt : AutoAt w T pc C) (hT : T ≤ B) (hT6 : 6 < T) (hE : Env w) (ht : okP A C t = true) (hS : S.length ≤ 80000) (hxs : xs.length ≤ 80000)
    (hba : w.heap[ba]? = some (.cells #[.pointer (some ⟨pa, 0, none⟩)] 62 (0, 0))) (hbc : w.heap[bc]? = some (.cells #[.pointer (some ⟨pc, 0, none⟩)] 62 (0, 0))) :
    Calls Tryz.prog 95 #[.pointer (some ⟨s, 0, none⟩), pairV t, .pointer (some ⟨ba, 0, none⟩), .pointer (some ⟨bc, 0, none⟩)] w (LookPost w B s m q (lookP A C t (S, xs))) := by
  obtain ⟨ph, x, y⟩ := t
  match ph, ht with
  | 0, ht =>
    simp only [okP, Bool.and_eq_true, decide_eq_true_eq] at ht
    exact look0_any w B s m q S xs A C T pa pc ba bc x y hA hC h hB hAt hCt hT hT6 hE ht.1 ht.2 hS hxs hba hbc
  | 1, ht =>
    simp only [okP, Bool.and_eq_true, decide_eq_true_eq] at ht
    exact look1_any w B s m q S xs A C T pa pc ba bc x y hA hC h hB hAt hCt hT hT6 hE ht.1 ht.2 hS hxs hba hbc
  | 2, ht =>
    simp only [okP, Bool.and_eq_true, decide_eq_true_eq] at ht
    cases hbit : C.last.testBit x
    · exact look2_no w B s m q S xs A C T pa pc ba bc x y hC h hB hAt hCt hT hT6 hE ht.1 ht.2 hbit hS hxs hba hbc
    · exact look2_yes w B s m q S xs A C T pa pc ba bc x y hC h hB hAt hCt hT hT6 hE ht.1 ht.2 hbit hS hxs hba hbc
  | _ + 3, ht => simp [okP] at ht
end Go.Proofs.YtiocjdggdmeggaaGreatDoor
