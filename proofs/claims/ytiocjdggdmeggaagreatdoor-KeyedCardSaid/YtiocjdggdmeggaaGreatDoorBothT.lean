/-
  The walk of (*search).both.
-/
import Derived.Test.YtiocjdggdmeggaaGreatDoorBoth
import Derived.OwnWalkIn
namespace Go.Proofs.YtiocjdggdmeggaaGreatDoor
open Go.RowKit Go.Shelf
attribute [local go_sem] Oper.semAt_some
/-- The search as it has come since world w0, where its queue was q. -/
def Srch (w0 W : World) (B s m : Nat) (q : Value) (st : SQ) : Prop :=
  ∃ q', SearchAt W B s m q' st.1 st.2 ∧ Ext (Touch s m q) w0 W ∧ (q'.ownBlock = q.ownBlock ∨ ∃ g, q'.ownBlock = some g ∧ w0.heap.size ≤ g)
theorem Srch.alloc {w0 W : World} {B s m : Nat} {q : Value} {st : SQ} (h : Srch w0 W B s m q st) (o : Obj) : Srch w0 (W.alloc o) B s m q st := by
  obtain ⟨q', h1, h2, h3⟩ := h
  exact ⟨q', h1.alloc o, h2.alloc o, h3⟩
theorem Srch.drew {w0 W : World} {B s m : Nat} {q : Value} {st : SQ} (h : Srch w0 W B s m q st) : Srch w0 W.drew B s m q st := by
  obtain ⟨q', h1, h2, h3⟩ := h
  exact ⟨q', h1.drew, h2.drew, h3⟩
theorem Srch.below {w0 W W' : World} {B s m : Nat} {q : Value} {st : SQ} (h : Srch w0 W B s m q st) (hb : Below W.heap.size W W') : Srch w0 W' B s m q st := by
  obtain ⟨q', h1, h2, h3⟩ := h
  exact ⟨q', h1.keep (Ext.of_below hb (Nat.le_refl _)), h2.trans (Ext.of_below hb (Nat.le_refl _)) (fun _ _ h => h), h3⟩
theorem Srch.putObj {w0 W : World} {B s m : Nat} {q : Value} {st : SQ} (h : Srch w0 W B s m q st) {l : Nat} {o : Obj} (hl : W.heap[l]? = some o) (hc : o.isCells = false) (hm : m < w0.heap.size) (hb : w0.heap.size ≤ l) (o' : Obj) : Srch w0 (W.putObj l o') B s m q st := by
  obtain ⟨q', h1, h2, h3⟩ := h
  exact ⟨q', h1.putObj hl hc (by omega) o', h2.putObj o' hb, h3⟩
theorem Srch.step {w0 W W' : World} {B s m : Nat} {q q' q'' : Value} {st' : SQ} (h2 : Ext (Touch s m q) w0 W) (h3 : q'.ownBlock = q.ownBlock ∨ ∃ g, q'.ownBlock = some g ∧ w0.heap.size ≤ g)
    (k1 : SearchAt W' B s m q'' st'.1 st'.2) (k2 : Ext (Touch s m q') W W') (k3 : q''.ownBlock = q'.ownBlock ∨ ∃ g, q''.ownBlock = some g ∧ W.heap.size ≤ g) : Srch w0 W' B s m q st' :=
  ⟨q'', k1, touch_trans h2 k2 h3, block_trans h2.size h3 k3⟩
/-- A cell of another type is none of the search's. -/
theorem SearchAt.box {w : World} {B s m : Nat} {q : Value} {S xs : List (Nat × Nat × Nat)} (h : SearchAt w B s m q S xs) {b : Nat} {us : Array Value} {t : TypeId} {fr : Nat × Nat} (hb : w.heap[b]? = some (.cells us t fr)) (h1 : t ≠ 192) (h2 : t ≠ 146) : ¬ Touch s m q b := by
  rintro (e | e | e)
  · subst e
    rw [h.at'] at hb
    cases hb
    exact h1 rfl
  · subst e
    obtain ⟨D, ⟨es, clock, hm, _⟩, _⟩ := h.seen
    rw [hm] at hb
    cases hb
  · obtain ⟨_, _, cur, hcur⟩ := isSome_ownBlock h.queue e
    rw [hcur] at hb
    cases hb
    exact h2 rfl
/-- What is no row of cells is none of the search's, but its map. -/
theorem SearchAt.keeps {w w' : World} {B s m : Nat} {q : Value} {S xs : List (Nat × Nat × Nat)} (h : SearchAt w B s m q S xs) (hE : Ext (Touch s m q) w w') {N : Nat} (hm : m < N) : KeepsFrom N w w' :=
  hE.keeps N fun k o hk ho hc ht => by
    rcases ht with e | e | e
    · subst e
      rw [h.at'] at ho
      cases ho
      simp [Obj.isCells] at hc
    · omega
    · obtain ⟨_, _, cur, hcur⟩ := isSome_ownBlock h.queue e
      rw [hcur] at ho
      cases ho
      simp [Obj.isCells] at hc
theorem keeps_alloc {N : Nat} {W W' : World} (h : KeepsFrom N W W') (o : Obj) : KeepsFrom N W (W'.alloc o) := ⟨Nat.le_trans h.size (by simp), fun k o' hB hk ho => alloc_old (h.same k o' hB hk ho) o⟩
theorem keeps_drew {N : Nat} {W W' : World} (h : KeepsFrom N W W') : KeepsFrom N W W'.drew := ⟨h.size, h.same⟩
theorem keeps_putObj {N : Nat} {W W' : World} (h : KeepsFrom N W W') {l : Nat} (hl : W.heap.size ≤ l) (o : Obj) : KeepsFrom N W (W'.putObj l o) :=
  ⟨Nat.le_trans h.size (by simp), fun k o' hB hk ho => putObj_at (h.same k o' hB hk ho) (by have := lt_of_at hk; omega)⟩
theorem keeps_mono {N M : Nat} {W W' : World} (h : KeepsFrom N W W') (hm : N ≤ M) : KeepsFrom M W W' := ⟨h.size, fun k o hB hk ho => h.same k o (Nat.le_trans hm hB) hk ho⟩
theorem keeps_below {N : Nat} {W W' : World} (h : Below W.heap.size W W') : KeepsFrom N W W' := (Ext.of_below (S := fun _ => False) h (Nat.le_refl _)).keeps N (fun _ _ _ _ _ h => h)
/-- The frame of a round of both's outer loop. -/
def bothAct (w : World) (s ph pa x pc y gf n cf fl i bx : Nat) : Act := { tmps := #[.pointer (some ⟨s, 0, none⟩), .int .i64 (ph : Nat), .pointer (some ⟨pa, 0, none⟩), .int .i64 (x : Nat), .pointer (some ⟨pc, 0, none⟩), .int .i64 (y : Nat),
  .pointer (some ⟨w.heap.size, 0, none⟩), .pointer (some ⟨w.heap.size + 1, 0, none⟩), .pointer (some ⟨w.heap.size + 1 + 1, 0, none⟩), undef, .pointer (some ⟨w.heap.size + 1 + 1 + 1, 0, none⟩), .pointer (some ⟨w.heap.size + 1 + 1 + 1 + 1, 0, none⟩),
  .pointer (some ⟨bx, 0, none⟩), undef, .pointer (some ⟨pa, 0, none⟩), .pointer (some ⟨pa, 0, none⟩), .pointer (some ⟨pa, 1, none⟩), .slice (some ⟨gf, 0, none⟩) n cf, .int .i64 (x : Nat), .pointer (some ⟨gf, x * 2, none⟩), .agg #[.int .u64 (fl : Nat), .int .u64 0],
  .func (.func 125) #[.agg #[.int .u64 (fl : Nat), .int .u64 0]] #[], .int .i64 (i : Nat), undef, undef, undef, undef, undef, undef, undef, undef, undef, undef, undef, undef, undef, undef, undef, undef, undef, undef, undef, undef, undef, undef, undef, undef, undef, undef, undef, undef, undef, undef], defers := [] }
/-- The frame of a round of its inner loop. -/
def bothAct2 (w : World) (s ph pa x pc y gf n cf fl i bx gf2 n2 cf2 fl2 j : Nat) : Act := { tmps := #[.pointer (some ⟨s, 0, none⟩), .int .i64 (ph : Nat), .pointer (some ⟨pa, 0, none⟩), .int .i64 (x : Nat), .pointer (some ⟨pc, 0, none⟩), .int .i64 (y : Nat),
  .pointer (some ⟨w.heap.size, 0, none⟩), .pointer (some ⟨w.heap.size + 1, 0, none⟩), .pointer (some ⟨w.heap.size + 1 + 1, 0, none⟩), undef, .pointer (some ⟨w.heap.size + 1 + 1 + 1, 0, none⟩), .pointer (some ⟨w.heap.size + 1 + 1 + 1 + 1, 0, none⟩),
  .pointer (some ⟨bx, 0, none⟩), .int .i64 (j : Nat), .pointer (some ⟨pa, 0, none⟩), .pointer (some ⟨pa, 0, none⟩), .pointer (some ⟨pa, 1, none⟩), .slice (some ⟨gf, 0, none⟩) n cf, .int .i64 (x : Nat), .pointer (some ⟨gf, x * 2, none⟩), .agg #[.int .u64 (fl : Nat), .int .u64 0],
  .func (.func 125) #[.agg #[.int .u64 (fl : Nat), .int .u64 0]] #[], .int .i64 (i : Nat), .pointer (some ⟨pc, 0, none⟩), .pointer (some ⟨pc, 0, none⟩), .pointer (some ⟨pc, 1, none⟩), .slice (some ⟨gf2, 0, none⟩) n2 cf2, .int .i64 (y : Nat), .pointer (some ⟨gf2, y * 2, none⟩),
  .agg #[.int .u64 (fl2 : Nat), .int .u64 0], .func (.func 125) #[.agg #[.int .u64 (fl2 : Nat), .int .u64 0]] #[], .int .i64 (j : Nat), undef, undef, undef, undef, undef, undef, undef, undef, undef, undef, undef, undef, undef, undef, undef, undef, undef, undef, undef, undef, undef], defers := [] }
set_option maxHeartbeats 1000000 in
theorem both_any (w : World) (B s m : Nat) (q : Value) (S xs : List (Nat × Nat × Nat)) (ph : Nat) (A C : PA) (T pa pc x0 y : Nat) (hA : A.Ok) (hC : C.Ok) (h : SearchAt w B s m q S xs) (hB : B ≤ w.heap.size)
    (hAt : AutoAt w T pa A) (hCt : AutoAt w T pc C) (hT : T ≤ B) (hT6 : 6 < T) (hE : Env w) (hx : x0 < A.n) (hy : y < C.n) (hph : ph < 1000) (hS : S.length ≤ 90000) (hxs : xs.length ≤ 90000) :
    Calls Tryz.prog 96 #[.pointer (some ⟨s, 0, none⟩), .int .i64 (ph : Nat), .pointer (some ⟨pa, 0, none⟩), .int .i64 (x0 : Nat), .pointer (some ⟨pc, 0, none⟩), .int .i64 (y : Nat)] w (MorePost w B s m q (bothP ph A x0 C y (S, xs))) := by
  have H := Lib.hid h
  have HAt := Lib.hid hAt
  have HCt := Lib.hid hCt
  have HE := Lib.hid hE
  obtain ⟨gs, cs, gf, cf, q0, q1, q2, q3, qs, qf⟩ := hAt.cells hA
  obtain ⟨f0, f1⟩ := qf x0 hx
  have hpa : pa < w.heap.size := by obtain ⟨_, _, _, _, h1, _⟩ := hAt; omega
  have hgf : gf < w.heap.size := World.block_lt_of_cell? w ⟨gf, x0 * 2, none⟩ f0
  have five' : ∀ o1 o2 o3 o4 o5, Below w.heap.size w (((((w.alloc o1).alloc o2).alloc o3).alloc o4).alloc o5) := fun o1 o2 o3 o4 o5 =>
    (((((Below.refl _ w).alloc (Nat.le_refl _) o1).alloc (by simp) o2).alloc (by simp; omega) o3).alloc (by simp; omega) o4).alloc (by simp; omega) o5
  have k1 : ∀ o1 o2 o3 o4 o5, (((((w.alloc o1).alloc o2).alloc o3).alloc o4).alloc o5).cell? ⟨pa, 1, none⟩ = some (.slice (some ⟨gf, 0, none⟩) A.n cf) := fun o1 o2 o3 o4 o5 => ((five' o1 o2 o3 o4 o5).cell (p := ⟨pa, 1, none⟩) hpa).trans q1
  have k2 : ∀ o1 o2 o3 o4 o5, (((((w.alloc o1).alloc o2).alloc o3).alloc o4).alloc o5).cell? ⟨gf, x0 * 2, none⟩ = some (.int .u64 (A.follow.getD x0 0 : Nat)) := fun o1 o2 o3 o4 o5 => ((five' o1 o2 o3 o4 o5).cell (p := ⟨gf, x0 * 2, none⟩) hgf).trans f0
  have k3 : ∀ o1 o2 o3 o4 o5, (((((w.alloc o1).alloc o2).alloc o3).alloc o4).alloc o5).cell? ⟨gf, x0 * 2 + 1, none⟩ = some (.int .u64 0) := fun o1 o2 o3 o4 o5 => ((five' o1 o2 o3 o4 o5).cell (p := ⟨gf, x0 * 2 + 1, none⟩) hgf).trans f1
  have FIVE := Lib.hid five'
  have i0 : (0 : Int) ≤ (x0 : Int) := by omega
  have i1 : (x0 : Int) < (A.n : Int) := by omega
  have hn := hA.le
  have hfl := getD_follow_lt hA x0
  obtain ⟨fl, hfe⟩ : ∃ fl, A.follow.getD x0 0 = fl := ⟨_, rfl⟩
  rw [hfe] at k2 hfl
  have HFE := Lib.hid hfe
  have hm0 : m < w.heap.size := h.seen.lt
  have hs0 : s < w.heap.size := lt_of_at h.at'
  have hnt : ∀ k, k < B → ¬ Touch s m q k := fun k hk ht => by
    rcases ht with e | e | e
    · have := h.Bs; omega
    · have := h.Bm; omega
    · have := (isSome_ownBlock h.queue e).1; omega
  have hnt2 : ∀ k, w.heap.size ≤ k → ¬ Touch s m q k := fun k hk ht => by
    rcases ht with e | e | e
    · omega
    · omega
    · have := (isSome_ownBlock h.queue e).2.1; omega
  have HNT := Lib.hid hnt
  have HNT2 := Lib.hid hnt2
  clear h hAt hCt hE five' qs qf q0 q1 q2 q3 f0 f1 hfe hnt hnt2
  refine (callsIn_wide (n := 3)).1 ?_
  refine callsIn_of_wp_marks Tryz.func96 rfl trivial ?_ rfl
  simp only [Tryz.ntmps96, List.size_toArray, List.length_cons, List.length_nil, Nat.reduceAdd, Nat.reduceSub, Array.replicate_succ, Array.replicate_zero, List.push_toArray, List.append_toArray, List.nil_append, List.cons_append]
  gi_wp2
  clear k1 k2 k3
  generalize hW0 : World.alloc (World.alloc (World.alloc (World.alloc (World.alloc w _) _) _) _) _ = W0
  have hb0 : W0.heap[w.heap.size]? = some (.cells #[.pointer (some ⟨s, 0, none⟩)] 144 (0, 0)) := by
    rw [← hW0]; exact alloc_old (alloc_old (alloc_old (alloc_old (alloc_at _ _) _) _) _) _
  have hb1 : W0.heap[w.heap.size + 1]? = some (.cells #[.int .i64 (ph : Nat)] 3 (0, 0)) := by
    rw [← hW0]; refine alloc_old (alloc_old (alloc_old ?_ _) _) _; have := alloc_at (w.alloc (Obj.cells #[.pointer (some ⟨s, 0, none⟩)] 144)) (Obj.cells #[.int .i64 (ph : Nat)] 3); simpa using this
  have hb2 : W0.heap[w.heap.size + 1 + 1]? = some (.cells #[.pointer (some ⟨pa, 0, none⟩)] 62 (0, 0)) := by
    rw [← hW0]; refine alloc_old (alloc_old ?_ _) _; have := alloc_at ((w.alloc (Obj.cells #[.pointer (some ⟨s, 0, none⟩)] 144)).alloc (Obj.cells #[.int .i64 (ph : Nat)] 3)) (Obj.cells #[.pointer (some ⟨pa, 0, none⟩)] 62); simpa using this
  have hb3 : W0.heap[w.heap.size + 1 + 1 + 1]? = some (.cells #[.pointer (some ⟨pc, 0, none⟩)] 62 (0, 0)) := by
    rw [← hW0]; refine alloc_old ?_ _; have := alloc_at (((w.alloc (Obj.cells #[.pointer (some ⟨s, 0, none⟩)] 144)).alloc (Obj.cells #[.int .i64 (ph : Nat)] 3)).alloc (Obj.cells #[.pointer (some ⟨pa, 0, none⟩)] 62)) (Obj.cells #[.pointer (some ⟨pc, 0, none⟩)] 62); simpa using this
  have hb4 : W0.heap[w.heap.size + 1 + 1 + 1 + 1]? = some (.cells #[.int .i64 (y : Nat)] 3 (0, 0)) := by
    rw [← hW0]; have := alloc_at ((((w.alloc (Obj.cells #[.pointer (some ⟨s, 0, none⟩)] 144)).alloc (Obj.cells #[.int .i64 (ph : Nat)] 3)).alloc (Obj.cells #[.pointer (some ⟨pa, 0, none⟩)] 62)).alloc (Obj.cells #[.pointer (some ⟨pc, 0, none⟩)] 62)) (Obj.cells #[.int .i64 (y : Nat)] 3); simpa using this
  have hsz : W0.heap.size = w.heap.size + 5 := by rw [← hW0]; simp
  have hbel : Below w.heap.size w W0 := by rw [← hW0]; exact FIVE.out _ _ _ _ _
  have hS0 : Srch W0 W0 B s m q (S, xs) := ⟨q, H.out.keep (Ext.of_below hbel (Nat.le_refl _)), Ext.refl _ _, .inl rfl⟩
  clear hW0
  have H0 := Lib.hid hb0; have H1 := Lib.hid hb1; have H2 := Lib.hid hb2; have H3 := Lib.hid hb3; have H4 := Lib.hid hb4
  have HB := Lib.hid hbel
  have HS := Lib.hid hsz
  have HS0 := Lib.hid hS0
  clear hb0 hb1 hb2 hb3 hb4 hbel hsz hS0
  have hE0 : ∀ W : World, Ext (Touch s m q) W0 W → Env W := fun W h j hj => by
    have := HE.out j hj
    rw [← HB.out.cell (p := ⟨6, j, none⟩) (by show 6 < w.heap.size; omega)] at this
    rw [← this]
    exact World.cell?_of_block (h.block 6 (by have := HS.out; omega) (HNT.out 6 (by omega)))
  have HE0 := Lib.hid hE0
  clear hE0
  refine range_outer (gf := 125) (pre := #[.agg #[.int .u64 fl, .int .u64 0]]) (xs := bitsOf fl) (E := Env) rfl (enters_of Tryz.func125 (by kernel_rfl) rfl) (each_runs fl (hA.word hfl))
    (fun k W => Srch W0 W B s m q (upTo (outerP ph A C y) (bitsOf fl) (S, xs) k))
    (fun k x a1 W => Srch W0 W B s m q (upTo (outerP ph A C y) (bitsOf fl) (S, xs) k) ∧ ∃ bx, W0.heap.size ≤ bx ∧ W.heap[bx]? = some (.cells #[.int .i64 (x : Nat)] 3 (0, 0)) ∧ a1 = bothAct w s ph pa x0 pc y gf A.n cf fl x bx)
    (fun k W o h => h.alloc o) (fun k W h => h.drew) (fun k W h => HE0.out _ h.choose_spec.2.1)
    (fun k W l o o' h hl ho hc => h.putObj ho hc (by have := HS.out; omega) hl o')
    (fun k x a1 W l o o' h hl ho hc => ⟨h.1.putObj ho hc (by have := HS.out; omega) hl o', by
      obtain ⟨bx, h1, h2, h3⟩ := h.2
      refine ⟨bx, h1, putObj_at h2 (fun e => ?_), h3⟩
      subst e
      rw [h2] at ho
      cases ho
      simp [Obj.isCells] at hc⟩)
    HS0.out ?assign ?body ?done
  case assign =>
    intro l m' k x W hx hI
    have HI := Lib.hid hI
    clear hI
    gi_wp2
    exact ⟨((Ext.refl (fun _ => False) W).alloc _).keeps _ (fun _ _ _ _ _ h => h), HI.out.alloc _, W.heap.size, HI.out.choose_spec.2.1.size, alloc_at W _, rfl⟩
  case body =>
    intro l m' k x a1 W1 hx hl hr hAx
    obtain ⟨hI, bx, hbx0, hbx, rfl⟩ := hAx
    obtain ⟨q1, hq1, hx1, ho1⟩ := hI
    have hxn : x < A.n := mem_bits_lt hfl (List.mem_of_getElem? hx)
    have hold : ∀ {b : Nat} {o : Obj}, W0.heap[b]? = some o → w.heap.size ≤ b → W1.heap[b]? = some o := fun ho hb => hx1.at' ho (HNT2.out _ hb)
    have b2 := hold H2.out (by omega)
    have b3 := hold H3.out (by omega)
    have b4 := hold H4.out (by omega)
    obtain ⟨gs2, cs2, gf2, cf2, p0, p1, p2, p3, ps, pf⟩ := (HCt.out.same (w' := W1) (fun b hb => (hx1.block b (by have := HS.out; omega) (HNT.out b (by omega))).trans (HB.out.block b (by omega)))).cells hC
    obtain ⟨f0, f1⟩ := pf y hy
    have hfl2 := getD_follow_lt hC y
    obtain ⟨fl2, hfe2⟩ : ∃ fl2, C.follow.getD y 0 = fl2 := ⟨_, rfl⟩
    rw [hfe2] at f0 hfl2
    have HFE2 := Lib.hid hfe2
    have s3 := lt_of_at b3
    have s4 := lt_of_at b4
    have spc := World.block_lt_of_cell? W1 ⟨pc, 1, none⟩ p1
    have sgf := World.block_lt_of_cell? W1 ⟨gf2, y * 2, none⟩ f0
    have hn2 := hC.le
    have hy1 : (y : Int) < (C.n : Int) := by omega
    have hy0 : (0 : Int) ≤ (y : Int) := by omega
    have HX := Lib.hid hx
    have HR := Lib.hid hr
    have HBX := Lib.hid hbx
    have HI : Hid (SearchAt W1 B s m q1 _ _ ∧ _ ∧ _) := Lib.hid ⟨hq1, hx1, ho1⟩
    have K3 := Lib.hid (cell_at b3 0)
    have K4 := Lib.hid (cell_at b4 0)
    have P1 := Lib.hid p1
    have F0 := Lib.hid f0
    have F1 := Lib.hid f1
    clear hold b2 b3 b4 p0 p2 p3 ps pf f0 f1 hx hr hbx hq1 hx1 ho1 hfe2 p1
    unfold bothAct
    gi_wp2
    refine region_head (Wide.round l) (fun W' => Hid (Below W1.heap.size W1 W')) (by kernel_rfl) (by kernel_rfl) (by kernel_rfl) (Lib.hid (Below.refl _ _).drew) ?_
    iterate 7 (refine quiet_val (by rfl) (fun W' hW' => by
      have h1 := (hW'.out.cell (p := ⟨w.heap.size + 1 + 1 + 1, 0, none⟩) s3).trans K3.out
      have h2 := (hW'.out.cell (p := ⟨w.heap.size + 1 + 1 + 1 + 1, 0, none⟩) s4).trans K4.out
      have h3 := (hW'.out.cell (p := ⟨pc, 1, none⟩) spc).trans P1.out
      have h4 := (hW'.out.cell (p := ⟨gf2, y * 2, none⟩) sgf).trans F0.out
      have h5 := (hW'.out.cell (p := ⟨gf2, y * 2 + 1, none⟩) sgf).trans F1.out
      go_simp; rfl) ?_; try go_simp)
    refine quiet_val (by rfl) (fun W' hW' => by go_simp; rfl) ?_; try go_simp
    refine wpQuiet_nil ?_
    intro W2 hW2
    have HW2 := Lib.hid hW2.out
    clear hW2
    gi_wp2
    obtain ⟨r0, hr0⟩ := HR.out
    have hr2 := below_at HW2.out hr0 (lt_of_at hr0)
    have hbx2 := below_at HW2.out HBX.out (lt_of_at HBX.out)
    have hsr : Srch W0 W2 B s m q (upTo (outerP ph A C y) (bitsOf fl) (S, xs) k) := Srch.below ⟨q1, HI.out⟩ HW2.out
    have hlen := upTo_length (outerP_length ph A C y) fl (S, xs) k
    have hnext := upTo_succ (outerP ph A C y) (bitsOf fl) (S, xs) k x HX.out
    obtain ⟨stk, hstk⟩ : ∃ stk, upTo (outerP ph A C y) (bitsOf fl) (S, xs) k = stk := ⟨_, rfl⟩
    rw [hstk] at hsr hlen hnext
    have hnext2 : upTo (outerP ph A C y) (bitsOf fl) (S, xs) (k + 1) = upTo (innerP ph A C x) (bitsOf fl2) stk (bitsOf fl2).length := by
      rw [hnext, upTo_all, outerP, HFE2.out]
    have HNX := Lib.hid hnext2
    have HSR := Lib.hid hsr
    have HLEN := Lib.hid hlen
    have HBX2 := Lib.hid hbx2
    have hW02 : W0.heap.size ≤ W2.heap.size := HSR.out.choose_spec.2.1.size
    have HW02 := Lib.hid hW02
    clear hr0 hbx2 hsr hlen hnext hnext2 hstk HX hW02
    refine range_inner (r₀ := r0) hr2 (gf := 125) (pre := #[.agg #[.int .u64 fl2, .int .u64 0]]) (xs := bitsOf fl2) (E := Env) rfl (enters_of Tryz.func125 (by kernel_rfl) rfl) (each_runs fl2 (hC.word hfl2))
      (fun k2 W => Srch W0 W B s m q (upTo (innerP ph A C x) (bitsOf fl2) stk k2) ∧ W.heap[bx]? = some (.cells #[.int .i64 (x : Nat)] 3 (0, 0)) ∧ KeepsFrom W0.heap.size W2 W)
      (fun k2 x2 a1 W => (Srch W0 W B s m q (upTo (innerP ph A C x) (bitsOf fl2) stk k2) ∧ W.heap[bx]? = some (.cells #[.int .i64 (x : Nat)] 3 (0, 0)) ∧ KeepsFrom W0.heap.size W2 W) ∧ a1 = bothAct2 w s ph pa x0 pc y gf A.n cf fl x bx gf2 C.n cf2 fl2 x2)
      (fun k W o h => ⟨h.1.alloc o, alloc_old h.2.1 o, keeps_alloc h.2.2 o⟩) (fun k W h => ⟨h.1.drew, h.2.1, keeps_drew h.2.2⟩) (fun k W h => HE0.out _ h.1.choose_spec.2.1)
      (fun k W l o o' h hl ho hc => ⟨h.1.putObj ho hc (by have := HS.out; omega) (by have := HW02.out; omega) o', putObj_at h.2.1 (fun e => by
        subst e
        rw [h.2.1] at ho
        cases ho
        simp [Obj.isCells] at hc), keeps_putObj h.2.2 hl o'⟩)
      (fun k x2 a1 W l o o' h hl ho hc => ⟨⟨h.1.1.putObj ho hc (by have := HS.out; omega) (by have := HW02.out; omega) o', putObj_at h.1.2.1 (fun e => by
        subst e
        have h2 := h.1.2.1
        rw [h2] at ho
        cases ho
        simp [Obj.isCells] at hc), keeps_putObj h.1.2.2 hl o'⟩, h.2⟩)
      ⟨HSR.out, HBX2.out, KeepsFrom.refl _ _⟩ ?assign2 ?body2 ?done2
    case assign2 =>
      intro l2 m2 k2 j W hj hI
      have HI2 := Lib.hid hI
      clear hI
      gi_wp2
      exact ⟨KeepsFrom.refl _ _, HI2.out, rfl⟩
    case body2 =>
      intro l2 m2 k2 j a1 W hj hl hr hAx
      obtain ⟨⟨⟨q2, hq2, hx2, ho2⟩, hbx2, hkp2⟩, rfl⟩ := hAx
      have HKP2 := Lib.hid hkp2
      clear hkp2
      have hjn : j < C.n := mem_bits_lt hfl2 (List.mem_of_getElem? hj)
      have hold : ∀ {b : Nat} {o : Obj}, W0.heap[b]? = some o → w.heap.size ≤ b → W.heap[b]? = some o := fun ho hb => hx2.at' ho (HNT2.out _ hb)
      have b0 := hold H0.out (by omega)
      have b1 := hold H1.out (by omega)
      have b2 := hold H2.out (by omega)
      have b3 := hold H3.out (by omega)
      obtain ⟨gsA, csA, _, _, a0, z1, z2, z3, sa, z4⟩ := (HAt.out.same (w' := W) (fun b hb => (hx2.block b (by have := HS.out; omega) (HNT.out b (by omega))).trans (HB.out.block b (by omega)))).cells hA
      obtain ⟨gsC, csC, _, _, c0, z5, z6, z7, cs', z8⟩ := (HCt.out.same (w' := W) (fun b hb => (hx2.block b (by have := HS.out; omega) (HNT.out b (by omega))).trans (HB.out.block b (by omega)))).cells hC
      obtain ⟨x1, x2⟩ := sa x hxn
      obtain ⟨y1, y2⟩ := cs' j hjn
      obtain ⟨lx1, lx2⟩ := getD_signs_lt hA x
      obtain ⟨ly1, ly2⟩ := getD_signs_lt hC j
      have hnext : upTo (innerP ph A C x) (bitsOf fl2) stk (k2 + 1) = innerP ph A C x (upTo (innerP ph A C x) (bitsOf fl2) stk k2) j := upTo_succ _ _ _ _ _ hj
      have hlen2 := upTo_length (innerP_length ph A C x) fl2 stk k2
      obtain ⟨stj, hstj⟩ : ∃ stj, upTo (innerP ph A C x) (bitsOf fl2) stk k2 = stj := ⟨_, rfl⟩
      rw [hstj] at hnext hq2 hlen2
      rw [show innerP ph A C x stj j = (if meets (A.signs.getD x (0, 0)).1 (A.signs.getD x (0, 0)).2 (C.signs.getD j (0, 0)).1 (C.signs.getD j (0, 0)).2 then pushP (ph, x, j) stj else stj) from rfl] at hnext
      generalize (A.signs.getD x (0, 0)).1 = u1 at *
      generalize (A.signs.getD x (0, 0)).2 = u2 at *
      generalize (C.signs.getD j (0, 0)).1 = v1 at *
      generalize (C.signs.getD j (0, 0)).2 = v2 at *
      have HNX2 := Lib.hid hnext
      have HLEN2 := Lib.hid hlen2
      have K0 := Lib.hid (cell_at b0 0)
      have K1 := Lib.hid (cell_at b1 0)
      have K2 := Lib.hid (cell_at b2 0)
      have K3' := Lib.hid (cell_at b3 0)
      have KX := Lib.hid (cell_at hbx2 0)
      have sb0 := lt_of_at b0
      have sb1 := lt_of_at b1
      have sb2 := lt_of_at b2
      have sb3 := lt_of_at b3
      have sbx := lt_of_at hbx2
      have spa := World.block_lt_of_cell? W ⟨pa, 0, none⟩ a0
      have spc2 := World.block_lt_of_cell? W ⟨pc, 0, none⟩ c0
      have sgA := World.block_lt_of_cell? W ⟨gsA, x * 2, none⟩ x1
      have sgC := World.block_lt_of_cell? W ⟨gsC, j * 2, none⟩ y1
      have HI2 : Hid (SearchAt W B s m q2 _ _ ∧ _ ∧ _) := Lib.hid ⟨hq2, hx2, ho2⟩
      have HBXW := Lib.hid hbx2
      have A0 := Lib.hid a0
      have C0 := Lib.hid c0
      have X1 := Lib.hid x1
      have X2 := Lib.hid x2
      have Y1 := Lib.hid y1
      have Y2 := Lib.hid y2
      have jn1 : (j : Int) < (C.n : Int) := by omega
      have jn0 : (0 : Int) ≤ (j : Int) := by omega
      have xn1 : (x : Int) < (A.n : Int) := by omega
      have xn0 : (0 : Int) ≤ (x : Int) := by omega
      have HLX1 := Lib.hid lx1
      have HLX2 := Lib.hid lx2
      have HLY1 := Lib.hid ly1
      have HLY2 := Lib.hid ly2
      clear hold b0 b1 b2 b3 a0 c0 sa cs' z1 z2 z3 z4 z5 z6 z7 z8 hj hr x1 x2 y1 y2 hnext hstj hq2 hx2 ho2 hbx2 hlen2 lx1 lx2 ly1 ly2
      unfold bothAct2
      gi_wp2
      refine region_head (Wide.round l2) (fun W' => Hid (Below W.heap.size W W')) (by kernel_rfl) (by kernel_rfl) (by kernel_rfl) (Lib.hid (Below.refl _ _).drew) ?_
      iterate 14 (refine quiet_val (by rfl) (fun W' hW' => by
        have h1 := (hW'.out.cell (p := ⟨w.heap.size + 1 + 1, 0, none⟩) sb2).trans K2.out
        have h2 := (hW'.out.cell (p := ⟨w.heap.size + 1 + 1 + 1, 0, none⟩) sb3).trans K3'.out
        have h3 := (hW'.out.cell (p := ⟨bx, 0, none⟩) sbx).trans KX.out
        have h4 := (hW'.out.cell (p := ⟨pa, 0, none⟩) spa).trans A0.out
        have h5 := (hW'.out.cell (p := ⟨pc, 0, none⟩) spc2).trans C0.out
        have h6 := (hW'.out.cell (p := ⟨gsA, x * 2, none⟩) sgA).trans X1.out
        have h7 := (hW'.out.cell (p := ⟨gsA, x * 2 + 1, none⟩) sgA).trans X2.out
        have h8 := (hW'.out.cell (p := ⟨gsC, j * 2, none⟩) sgC).trans Y1.out
        have h9 := (hW'.out.cell (p := ⟨gsC, j * 2 + 1, none⟩) sgC).trans Y2.out
        go_simp; rfl) ?_; try go_simp)
      refine quiet_call (v := .bool (meets u1 u2 v1 v2)) (f := 126) (args := #[.agg #[.int .u64 u1, .int .u64 u2], .agg #[.int .u64 v1, .int .u64 v2]]) (by rfl) (fun W' hW' => by go_simp) (fun W' hW' => ?_) ?_
      · refine (meet_any u1 u2 v1 v2 W' HLX1.out HLX2.out HLY1.out HLY2.out).mono ?_
        rintro e w'' ⟨rfl, hb⟩
        exact ⟨rfl, Lib.hid (hW'.out.trans (hb.mono hW'.out.size))⟩
      refine wpQuiet_nil ?_
      intro W3 hW3
      have HW3 := Lib.hid hW3.out
      clear hW3
      cases hme : meets u1 u2 v1 v2
      · have HME := Lib.hid hme
        clear hme
        go_simp
        gi_wp2
        refine ⟨keeps_below HW3.out, ?_, below_at HW3.out HBXW.out sbx, HKP2.out.trans (keeps_below HW3.out)⟩
        have := HNX2.out
        rw [HME.out] at this
        rw [this]
        exact Srch.below ⟨q2, HI2.out⟩ HW3.out
      · have HME := Lib.hid hme
        clear hme
        have h0 := (HW3.out.cell (p := ⟨w.heap.size, 0, none⟩) sb0).trans K0.out
        have h1 := (HW3.out.cell (p := ⟨w.heap.size + 1, 0, none⟩) sb1).trans K1.out
        have h3 := (HW3.out.cell (p := ⟨bx, 0, none⟩) sbx).trans KX.out
        go_simp
        have hk3 : SearchAt W3 B s m q2 stj.1 stj.2 := HI2.out.1.keep (Ext.of_below HW3.out (Nat.le_refl _))
        have HK3 := Lib.hid hk3
        clear hk3
        have hsm : Small (ph, x, j) := ⟨hph, by show x < 1000; omega, by show j < 1000; omega⟩
        have hl1 : stj.1.length ≤ 100000 := by have := HLEN.out.1; have := HLEN2.out.1; omega
        have hl2 : stj.2.length ≤ 100000 := by have := HLEN.out.2; have := HLEN2.out.2; omega
        have HPUT := Lib.hid (put_any W3 B s m q2 stj.1 stj.2 (ph, x, j) HK3.out (by have := HB.out.size; have := HW02.out; have := HW3.out.size; have := HKP2.out.size; omega) hsm hl1 hl2)
        clear hsm hl1 hl2
        gi_wp2_with fail
        refine ⟨trivial, (fun h => by cases h), ?_⟩
        refine ((Wide.round l2).calls HPUT.out).mono ?_
        rintro e w'' ⟨rfl, q3, hk4, hx4, ho4⟩
        have hbx4 := hx4.at' (below_at HW3.out HBXW.out sbx) (HK3.out.box (below_at HW3.out HBXW.out sbx) (by decide) (by decide))
        have hkp4 := HK3.out.keeps hx4 (N := W0.heap.size) (by have := HS.out; omega)
        have HX4 := Lib.hid hx4
        have HK4 := Lib.hid hk4
        have HO4 := Lib.hid ho4
        have HBX4 := Lib.hid hbx4
        have HKP4 := Lib.hid hkp4
        clear hx4 hk4 ho4 hbx4 hkp4
        gi_wp2
        have hkk : KeepsFrom W0.heap.size W w'' := (keeps_below HW3.out).trans HKP4.out
        refine ⟨keeps_mono hkk HW02.out, ?_, HBX4.out, HKP2.out.trans hkk⟩
        have := HNX2.out
        rw [HME.out, if_pos rfl] at this
        rw [this]
        refine Srch.step (HI2.out.2.1.trans (Ext.of_below HW3.out (Nat.le_refl _)) (fun _ _ h => h)) HI2.out.2.2 (st' := pushP (ph, x, j) stj) ?_ HX4.out HO4.out
        have h4 := HK4.out
        unfold pushP
        split
        · rename_i hc
          rw [if_pos hc, if_pos hc] at h4
          exact h4
        · rename_i hc
          rw [if_neg hc, if_neg hc] at h4
          exact h4
    case done2 =>
      intro W hI
      obtain ⟨h1, h2, h3⟩ := hI
      have HN := HNX.out
      refine ⟨(keeps_below HW2.out).trans h3, ?_⟩
      show Srch W0 W B s m q _
      rw [HN]
      exact h1
  case done =>
    intro D W hD hI hDef
    have HI := Lib.hid hI
    have HDf := Lib.hid hDef
    clear hI hDef
    gi_wp2
    refine ⟨by simp, .inl ⟨_, _, rfl, run_takeDeferred HDf.out, ?_⟩⟩
    have hfin := HI.out.putObj HDf.out rfl (by have := HS.out; omega) hD (.deferred none)
    refine ⟨.tuple #[], by simp [results, Tryz.results96, go_sem], rfl, ?_⟩
    rw [upTo_all] at hfin
    obtain ⟨q', h1, h2, h3⟩ := hfin
    have hb : bothP ph A x0 C y (S, xs) = (bitsOf fl).foldl (outerP ph A C y) (S, xs) := by rw [bothP_eq, HFE.out]
    rw [hb]
    refine ⟨q', h1, (Ext.of_below HB.out (Nat.le_refl _)).trans h2 (fun _ _ h => h), ?_⟩
    rcases h3 with h3 | ⟨g, h3, h4⟩
    · exact .inl h3
    · exact .inr ⟨g, h3, by have := HS.out; omega⟩
end Go.Proofs.YtiocjdggdmeggaaGreatDoor
