/-
  The walk of New.
-/
import Derived.Test.YtiocjdggdmeggaaGreatDoorMany
import Derived.Laws.MakeOwn
namespace Go.Proofs.YtiocjdggdmeggaaGreatDoor
open Go.RowKit Go.Shelf
theorem make195 (W : World) : (Instr.makeSlice 148 (.int .i64 1) (.int .i64 1)).run Tryz.prog W = .ok (.slice (some ⟨W.heap.size, 0, none⟩) 1 1) (W.alloc (.cells #[.int .u64 0, .int .u64 0] 195)) := by
  obtain ⟨is, his, hs0, hs1, hs2⟩ := info_parts info195
  have := run_make (P := Tryz.prog) W 148 195 is _ Tryz.underlying148 his hs0 .i64 .i64 1 1 (by decide) (by decide) (by rw [hs2]; decide) (by decide)
  rw [hs1] at this
  have e : madeCells (Value.agg #[.int .u64 0, .int .u64 0]).cells (Int.toNat 1 * 2) = #[.int .u64 0, .int .u64 0] := by kernel_rfl
  rw [e] at this
  exact this
theorem make152 (W : World) : (Instr.makeSlice 149 (.int .i64 1) (.int .i64 1)).run Tryz.prog W = .ok (.slice (some ⟨W.heap.size, 0, none⟩) 1 1) (W.alloc (.cells #[.int .u64 0, .int .u64 0] 152)) := by
  obtain ⟨is, his, hs0, hs1, hs2⟩ := info_parts info152
  have := run_make (P := Tryz.prog) W 149 152 is _ Tryz.underlying149 his hs0 .i64 .i64 1 1 (by decide) (by decide) (by rw [hs2]; decide) (by decide)
  rw [hs1] at this
  have e : madeCells (Value.agg #[.int .u64 0, .int .u64 0]).cells (Int.toNat 1 * 2) = #[.int .u64 0, .int .u64 0] := by kernel_rfl
  rw [e] at this
  exact this
theorem new_below (w : World) (a b c : Obj) : Below w.heap.size w (((w.alloc a).alloc b).alloc c).drew :=
  ((((Below.refl _ _).alloc (Nat.le_refl _) _).alloc (by simp) _).alloc (by simp; omega) _).drew
theorem alloc2_at (w : World) (a b c : Obj) : (((w.alloc a).alloc b).alloc c).heap[w.heap.size]? = some a ∧ (((w.alloc a).alloc b).alloc c).heap[w.heap.size + 1]? = some b ∧ (((w.alloc a).alloc b).alloc c).heap[w.heap.size + 1 + 1]? = some c := by
  refine ⟨alloc_old (alloc_old (alloc_at w a) b) c, alloc_old ?_ c, ?_⟩
  · have := alloc_at (w.alloc a) b; simpa using this
  · have := alloc_at ((w.alloc a).alloc b) c; simpa using this
theorem owns1 {w : World} {B e g : Nat} (hB : B ≤ g) (h : w.heap[g]? = some (.cells #[.int .u64 0, .int .u64 0] e (0, 0))) : w.ownsRow B e 2 (.slice (some ⟨g, 0, none⟩) 1 1) 1 [.int .u64 0, .int .u64 0] :=
  ⟨rfl, .inr ⟨g, 1, _, rfl, hB, h, Nat.le_refl _, by decide, rfl, rfl⟩⟩
theorem new_own1 (w : World) : OwnAt (((w.alloc (.cells #[.int .u64 0, .int .u64 0] 195)).alloc (.cells #[.int .u64 0, .int .u64 0] 152)).alloc (.cells #[.slice (some ⟨w.heap.size, 0, none⟩) 1 1, .slice (some ⟨w.heap.size + 1, 0, none⟩) 1 1, .int .u64 0, .int .u64 0] 154)).drew w.heap.size (w.heap.size + 1 + 1) w.heap.size 1 (w.heap.size + 1) 1 PA.start := by
  obtain ⟨h1, h2, h3⟩ := alloc2_at w (.cells #[.int .u64 0, .int .u64 0] 195) (.cells #[.int .u64 0, .int .u64 0] 152) (.cells #[.slice (some ⟨w.heap.size, 0, none⟩) 1 1, .slice (some ⟨w.heap.size + 1, 0, none⟩) 1 1, .int .u64 0, .int .u64 0] 154)
  exact ⟨by omega, by omega, by omega, by omega, h3, owns1 (Nat.le_refl _) h1, owns1 (by omega) h2⟩
theorem new_own2 (w : World) : OwnAt (((w.alloc (.cells #[.int .u64 0, .int .u64 0] 152)).alloc (.cells #[.int .u64 0, .int .u64 0] 195)).alloc (.cells #[.slice (some ⟨w.heap.size + 1, 0, none⟩) 1 1, .slice (some ⟨w.heap.size, 0, none⟩) 1 1, .int .u64 0, .int .u64 0] 154)).drew w.heap.size (w.heap.size + 1 + 1) (w.heap.size + 1) 1 w.heap.size 1 PA.start := by
  obtain ⟨h1, h2, h3⟩ := alloc2_at w (.cells #[.int .u64 0, .int .u64 0] 152) (.cells #[.int .u64 0, .int .u64 0] 195) (.cells #[.slice (some ⟨w.heap.size + 1, 0, none⟩) 1 1, .slice (some ⟨w.heap.size, 0, none⟩) 1 1, .int .u64 0, .int .u64 0] 154)
  exact ⟨by omega, by omega, by omega, by omega, h3, owns1 (by omega) h2, owns1 (Nat.le_refl _) h1⟩
theorem own_follow0 {w : World} {B p gs cs gf cf : Nat} {A : PA} (h : OwnAt w B p gs cs gf cf A) (hA : A.Ok) :
    ∃ y, w.cell? ⟨gf, 0, none⟩ = some (.int .u64 (y : Nat)) ∧ w.cell? ⟨gf, 1, none⟩ = some (.int .u64 0) ∧ ∀ j, w.frozen? ⟨gf, j, none⟩ = false := by
  have h7 := h.2.2.2.2.2.2
  have hl : A.n = A.follow.length := rfl
  have hpos := hA.pos
  cases hf : A.follow with
  | nil => rw [hf] at hl; simp at hl; omega
  | cons y l =>
    refine ⟨y, (h7.cellAt 0 (by omega)).trans ?_, (h7.cellAt 1 (by omega)).trans ?_, fun j => h7.frozenAt j⟩
    · rw [hf]; rfl
    · rw [hf]; rfl
theorem own_set0 {w w' : World} {B p gs cs gf cf x : Nat} {A : PA} (h : OwnAt w B p gs cs gf cf A) (hA : A.Ok) (hs : ∀ k, k < w.heap.size → w'.heap[k]? = w.heap[k]?) :
    OwnAt ((w'.setCell ⟨gf, 0, none⟩ (.int .u64 (x : Nat))).setCell ⟨gf, 1, none⟩ (.int .u64 0)) B p gs cs gf cf { A with follow := A.follow.set 0 x } := by
  obtain ⟨h1, h2, h3, h4, h5, h6, h7⟩ := h.same hs
  have hrow := ((h7.stored 0 (.int .u64 (x : Nat))).1.stored 1 (.int .u64 0)).1
  have hl : A.n = A.follow.length := rfl
  have hpos := hA.pos
  have hn : ({ A with follow := A.follow.set 0 x } : PA).n = A.n := by simp [PA.n]
  refine ⟨h1, h2, h3, h4, ?_, ?_, ?_⟩
  · rw [hn]; exact setCell_other (setCell_other h5 h3) h3
  · rw [hn]; exact ownsRow_same (ownsRow_same h6 (Below.heap_setCell _ _ _ _ h4)) (Below.heap_setCell _ _ _ _ h4)
  · rw [hn, ← setCells_set A.follow 0 x (by omega)]
    exact hrow
theorem own_last {w : World} {B p gs cs gf cf : Nat} {A : PA} (x : Nat) (h : OwnAt w B p gs cs gf cf A) :
    OwnAt ((w.setCell ⟨p, 2, none⟩ (.int .u64 (x : Nat))).setCell ⟨p, 3, none⟩ (.int .u64 0)) B p gs cs gf cf { A with last := x } := by
  obtain ⟨h1, h2, h3, h4, h5, h6, h7⟩ := h
  exact ⟨h1, h2, h3, h4, setCell_at (setCell_at h5 2 _) 3 _, ownsRow_same (ownsRow_same h6 (Below.heap_setCell _ _ _ _ (Ne.symm h2))) (Below.heap_setCell _ _ _ _ (Ne.symm h2)), ownsRow_same (ownsRow_same h7 (Below.heap_setCell _ _ _ _ (Ne.symm h3))) (Below.heap_setCell _ _ _ _ (Ne.symm h3))⟩
theorem OwnAt.auto {w : World} {B p gs cs gf cf : Nat} {A : PA} (h : OwnAt w B p gs cs gf cf A) : AutoAt w w.heap.size p A := by
  obtain ⟨h1, h2, h3, h4, h5, h6, h7⟩ := h
  refine ⟨gs, cs, gf, cf, lt_of_at h5, (h6.lt _ rfl).2, (h7.lt _ rfl).2, h5, ?_, ?_⟩
  · refine ⟨h6.1, ?_⟩
    rcases h6.2 with h | ⟨g, c, cur, e1, _, rest⟩
    · exact .inl h
    · exact .inr ⟨g, c, cur, e1, Nat.zero_le _, rest⟩
  · refine ⟨h7.1, ?_⟩
    rcases h7.2 with h | ⟨g, c, cur, e1, _, rest⟩
    · exact .inl h
    · exact .inr ⟨g, c, cur, e1, Nat.zero_le _, rest⟩
theorem newP_eq (d : Nd) : newP d = { ({ (addP d PA.start).1 with follow := (addP d PA.start).1.follow.set 0 (addP d PA.start).2.first } : PA) with last := if (addP d PA.start).2.empty then (addP d PA.start).2.last ||| 1 else (addP d PA.start).2.last } := rfl
set_option maxHeartbeats 1000000 in
set_option maxRecDepth 100000 in
theorem new_any (d : Nd) (w : World) (hd : d.Ok) (hp : d.places ≤ 59) (h6 : 6 < w.heap.size) (hE : Env w) :
    Calls Tryz.prog 89 #[nodeV d] w fun e w' => ∃ p, e = .returned (.pointer (some ⟨p, 0, none⟩)) ∧ w.heap.size ≤ p ∧ AutoAt w' w'.heap.size p (newP d) ∧ Below w.heap.size w w' := by
  have HE := Lib.hid hE
  clear hE
  obtain ⟨tv, xv, ev⟩ := nodeV_iface d
  have hadd := add_any d
  unfold AddC at hadd
  rw [ev] at hadd ⊢
  have HADD := Lib.hid hadd
  clear hadd
  have m1 := make195
  have m2 := make152
  have HA1 := Lib.hid (addP_ok d PA.start hd start_ok (by show 1 + _ ≤ 64; omega)).1
  have HFB := Lib.hid (pow_mono (m := 64) (addP_ok d PA.start hd start_ok (by show 1 + _ ≤ 64; omega)).2.1 (addP_ok d PA.start hd start_ok (by show 1 + _ ≤ 64; omega)).1.le)
  have HLB := Lib.hid (pow_mono (m := 64) (addP_ok d PA.start hd start_ok (by show 1 + _ ≤ 64; omega)).2.2 (addP_ok d PA.start hd start_ok (by show 1 + _ ≤ 64; omega)).1.le)
  go_enter Tryz.func89, Tryz.ntmps89
  go_wp2
  refine wp_gather2 (fun g f => { tmps := #[.iface tv xv, undef, .pointer none, .pointer (some ⟨w.heap.size + 1 + 1, 0, none⟩), undef, .slice (some ⟨g, 0, none⟩) 1 1, .slice (some ⟨f, 0, none⟩) 1 1, .agg #[.slice (some ⟨g, 0, none⟩) 1 1, .slice (some ⟨f, 0, none⟩) 1 1, .int .u64 0, .int .u64 0], .pointer (some ⟨w.heap.size + 1 + 1, 0, none⟩), undef, undef, undef, undef, undef, undef, undef, undef, undef, undef, undef, undef, undef, undef, undef, undef, undef, undef, undef, undef, undef, undef, undef, undef, undef, undef, undef], defers := [] })
    (fun g f w' => OwnAt w' w.heap.size (w.heap.size + 1 + 1) g 1 f 1 PA.start ∧ Below w.heap.size w w') ?one ?two
  case one =>
    go_region
    · exact ⟨w.heap.size, w.heap.size + 1, rfl, new_own1 w, new_below w _ _ _⟩
    · exact ⟨w.heap.size + 1, w.heap.size, rfl, new_own2 w, new_below w _ _ _⟩
  case two =>
    rintro g f W ⟨hO, hb⟩
    have HO := Lib.hid hO
    have HB := Lib.hid hb
    have hBW := hb.size
    have HEW := Lib.hid (env_below hb h6 HE.out)
    clear hO hb m1 m2
    go_wp2_with (first
      | (go_at_call 118; refine (HADD.out PA.start w.heap.size (w.heap.size + 1 + 1) g 1 f 1 W start_ok hd (by show 1 + _ ≤ 60; omega) HO.out hBW h6 HEW.out).mono ?_; rintro e W1 ⟨rfl, hO1, hb1, _⟩
         unfold ptV
         generalize hA1 : (addP d PA.start).1 = A1 at *
         generalize hq : (addP d PA.start).2 = q at *)
      | go_in)
    obtain ⟨gs1, cs1, gf1, cf1, hO1⟩ := hO1
    have hA1k : A1.Ok := HA1.out
    obtain ⟨y, k0, k1, kf⟩ := own_follow0 hO1 hA1k
    have hgfW : gf1 < W1.heap.size := (hO1.2.2.2.2.2.2.lt _ rfl).2
    have hgfB : w.heap.size ≤ gf1 := (hO1.2.2.2.2.2.2.lt _ rfl).1
    have hpW : w.heap.size + 1 + 1 < W1.heap.size := lt_of_at hO1.2.2.2.2.1
    have p0 : W1.cell? ⟨w.heap.size + 1 + 1, 1, none⟩ = some (.slice (some ⟨gf1, 0, none⟩) A1.n cf1) := cell_at hO1.2.2.2.2.1 1
    have hnpos : 0 < A1.n := hA1k.pos
    have hQB := Lib.hid (alloc_at W1 (.cells (cells184 q) 184))
    have P0 := Lib.hid p0
    have K0 := Lib.hid k0
    have K1 := Lib.hid k1
    have KF := Lib.hid kf
    have HO1 := Lib.hid hO1
    have HB1 := Lib.hid hb1
    have HA1K := Lib.hid hA1k
    clear p0 k0 k1 kf hO1 hb1 hA1k HA1
    generalize hX : W1.alloc (.cells #[.bool q.empty, .int .u64 (q.first : Nat), .int .u64 0, .int .u64 (q.last : Nat), .int .u64 0] 184) = X
    have HX : Hid (X = W1.alloc (.cells (cells184 q) 184)) := Lib.hid hX.symm
    have hXs : Hid (W1.heap.size < X.heap.size) := Lib.hid (by rw [← hX]; exact lt_of_at (alloc_at _ _))
    have P0' : Hid (X.cell? ⟨w.heap.size + 1 + 1, 1, none⟩ = some (.slice (some ⟨gf1, 0, none⟩) A1.n cf1)) := Lib.hid (by rw [← hX]; exact (((Below.refl _ W1).alloc (Nat.le_refl _) _).cell (p := ⟨w.heap.size + 1 + 1, 1, none⟩) hpW).trans P0.out)
    have Q0 : Hid (X.heap[W1.heap.size]? = some (.cells (cells184 q) 184 (0, 0))) := Lib.hid (by rw [← hX]; exact alloc_at _ _)
    clear hX
    refine wp_tail (fun W' => Hid (Below X.heap.size X W')) 7 (by kernel_rfl) (by kernel_rfl) (Lib.hid (Below.refl _ _).drew) ?_
    simp only [List.take_succ_cons, List.take_zero, List.drop_succ_cons, List.drop_zero]
    iterate 7 (refine quiet_val (by rfl) (fun W' hW' => by
      have h1 := (hW'.out.cell (p := ⟨w.heap.size + 1 + 1, 1, none⟩) (show w.heap.size + 1 + 1 < X.heap.size from Nat.lt_trans hpW hXs.out)).trans P0'.out
      have h2 := five (below_at hW'.out Q0.out hXs.out)
      obtain ⟨h20, h21, h22, h23, h24⟩ := h2
      go_simp; rfl) ?_; try go_simp)
    refine wpQuiet_nil ?_
    intro W' hW'
    have hXW : Below W1.heap.size W1 X := by rw [HX.out]; exact (Below.refl _ _).alloc (Nat.le_refl _) _
    have hW1' : Below W1.heap.size W1 W' := hXW.trans (hW'.out.mono hXW.size)
    have hq' := below_at hW'.out Q0.out hXs.out
    have c0 := (hW1'.cell (p := ⟨gf1, 0, none⟩) hgfW).trans K0.out
    have c1 := (hW1'.cell (p := ⟨gf1, 1, none⟩) hgfW).trans K1.out
    have f0 := (hW1'.frozen (p := ⟨gf1, 0, none⟩) hgfW).trans (KF.out 0)
    have f1 := (hW1'.frozen (p := ⟨gf1, 1, none⟩) hgfW).trans (KF.out 1)
    have hne : W1.heap.size ≠ gf1 := by omega
    have hpne : w.heap.size + 1 + 1 ≠ gf1 := HO1.out.2.2.1
    have hO3 := own_set0 (x := q.first) HO1.out HA1K.out (w' := W') (fun k hk => hW1'.block k hk)
    have hq3 := setCell_other (b := gf1) (i := 1) (u := .int .u64 0) (setCell_other (b := gf1) (i := 0) (u := .int .u64 (q.first : Nat)) hq' hne) hne
    have hB3 : Below w.heap.size w ((W'.setCell ⟨gf1, 0, none⟩ (.int .u64 (q.first : Nat))).setCell ⟨gf1, 1, none⟩ (.int .u64 0)) :=
      (((HB.out.trans HB1.out).trans (hW1'.mono (Nat.le_of_lt (by omega)))).setCell (p := ⟨gf1, 0, none⟩) hgfB _).setCell (p := ⟨gf1, 1, none⟩) hgfB _
    obtain ⟨z0, z1, z2, z3, z4⟩ := five hq'
    have hp' := below_at hW1' HO1.out.2.2.2.2.1 hpW
    have p2 : W'.cell? ⟨w.heap.size + 1 + 1, 2, none⟩ = some (.int .u64 (A1.last : Nat)) := cell_at hp' 2
    have p3 : W'.cell? ⟨w.heap.size + 1 + 1, 3, none⟩ = some (.int .u64 0) := cell_at hp' 3
    have pf2 := frozen_at hp' 2
    have pf3 := frozen_at hp' 3
    have hsW : W1.heap.size < W'.heap.size := Nat.lt_of_lt_of_le hXs.out hW'.out.size
    have hpq : w.heap.size + 1 + 1 ≠ W1.heap.size := by omega
    have HE' := Lib.hid (env_below (hW1'.mono (Nat.le_refl _)) (show 6 < W1.heap.size by omega) (env_below HB1.out h6 HEW.out))
    clear hW' hXW hq' hp'
    have HO3 := Lib.hid hO3
    have HQ3 := Lib.hid hq3
    have HB3 := Lib.hid hB3
    clear hO3 hq3 hB3
    have hnn : ¬ ((A1.n : Int) ≤ 0) := by omega
    cases hqe : q.empty
    · rw [hqe] at z0
      go_wp2
      have hq2 := newP_eq d
      rw [hA1, hq, hqe] at hq2
      have hO4 := own_last q.last HO3.out
      rw [hq2]
      exact bodyPost_ret (v := .pointer (some ⟨w.heap.size + 1 + 1, 0, none⟩)) (by simp [results, Tryz.results89, go_sem]) rfl ⟨_, rfl, by omega, hO4.auto, (HB3.out.setCell (p := ⟨w.heap.size + 1 + 1, 2, none⟩) (show w.heap.size ≤ w.heap.size + 1 + 1 by omega) _).setCell (p := ⟨w.heap.size + 1 + 1, 3, none⟩) (show w.heap.size ≤ w.heap.size + 1 + 1 by omega) _⟩
    · rw [hqe] at z0
      go_wp2
      have hO4 := own_last q.last HO3.out
      have hB4 := (HB3.out.setCell (p := ⟨w.heap.size + 1 + 1, 2, none⟩) (show w.heap.size ≤ w.heap.size + 1 + 1 by omega) (.int .u64 (q.last : Nat))).setCell (p := ⟨w.heap.size + 1 + 1, 3, none⟩) (show w.heap.size ≤ w.heap.size + 1 + 1 by omega) (.int .u64 0)
      revert hO4 hB4
      generalize ((((W'.setCell ⟨gf1, 0, none⟩ (.int .u64 (q.first : Nat))).setCell ⟨gf1, 1, none⟩ (.int .u64 0)).setCell ⟨w.heap.size + 1 + 1, 2, none⟩ (.int .u64 (q.last : Nat))).setCell ⟨w.heap.size + 1 + 1, 3, none⟩ (.int .u64 0)) = Y
      intro hO4 hB4
      have HP2 : Hid (Y.cell? ⟨w.heap.size + 1 + 1, 2, none⟩ = some (.int .u64 (q.last : Nat))) := Lib.hid (cell_at hO4.2.2.2.2.1 2)
      have HP3 : Hid (Y.cell? ⟨w.heap.size + 1 + 1, 3, none⟩ = some (.int .u64 0)) := Lib.hid (cell_at hO4.2.2.2.2.1 3)
      have HPL : Hid (w.heap.size + 1 + 1 < Y.heap.size) := Lib.hid (lt_of_at hO4.2.2.2.2.1)
      have HO4 := Lib.hid hO4
      have HB4 := Lib.hid hB4
      clear hO4 hB4
      refine wp_tail (fun W' => Hid (Below Y.heap.size Y W')) 9 (by kernel_rfl) (by kernel_rfl) (Lib.hid (Below.refl _ _).drew) ?_
      simp only [List.take_succ_cons, List.take_zero, List.drop_succ_cons, List.drop_zero]
      iterate 5 (refine quiet_val (by rfl) (fun W' hW' => by
        have h1 := (hW'.out.cell (p := ⟨w.heap.size + 1 + 1, 2, none⟩) HPL.out).trans HP2.out
        have h2 := (hW'.out.cell (p := ⟨w.heap.size + 1 + 1, 3, none⟩) HPL.out).trans HP3.out
        go_simp; rfl) ?_; try go_simp)
      refine quiet_call (v := .agg #[.int .u64 (2 ^ 0 : Nat), .int .u64 0]) (f := 120) (args := #[.int .i64 (0 : Nat)]) (by rfl) (fun W' hW' => by go_simp) (fun W' hW' => ?_) ?_
      · refine (single_any 0 W' (by omega)).mono ?_
        rintro e w'' ⟨rfl, hb⟩
        exact ⟨rfl, Lib.hid (hW'.out.trans (hb.mono hW'.out.size))⟩
      try go_simp
      refine quiet_call (v := .agg #[.int .u64 (q.last ||| 1 : Nat), .int .u64 0]) (f := 119) (args := #[.agg #[.int .u64 (q.last : Nat), .int .u64 0], .agg #[.int .u64 (1 : Nat), .int .u64 0]]) (by rfl) (fun W' hW' => by go_simp) (fun W' hW' => ?_) ?_
      · refine (or_any q.last 1 W' HLB.out (by decide)).mono ?_
        rintro e w'' ⟨rfl, hb⟩
        exact ⟨rfl, Lib.hid (hW'.out.trans (hb.mono hW'.out.size))⟩
      try go_simp
      iterate 2 (refine quiet_val (by rfl) (fun W' hW' => by go_simp; rfl) ?_; try go_simp)
      refine wpQuiet_nil ?_
      intro Z hZ
      have hO5 := HO4.out.same (w' := Z) (fun k hk => hZ.out.block k hk)
      have p2 : Z.cell? ⟨w.heap.size + 1 + 1, 2, none⟩ = some (.int .u64 (q.last : Nat)) := cell_at hO5.2.2.2.2.1 2
      have p3 : Z.cell? ⟨w.heap.size + 1 + 1, 3, none⟩ = some (.int .u64 0) := cell_at hO5.2.2.2.2.1 3
      have pf2 := frozen_at hO5.2.2.2.2.1 2
      have pf3 := frozen_at hO5.2.2.2.2.1 3
      have hBZ : Below w.heap.size w Z := HB4.out.trans (hZ.out.mono HB4.out.size)
      have HO5 := Lib.hid hO5
      have HBZ := Lib.hid hBZ
      clear hO5 hBZ hZ
      go_wp2
      have hq2 := newP_eq d
      rw [hA1, hq, hqe] at hq2
      have hO6 := own_last (q.last ||| 1) HO5.out
      rw [hq2]
      exact bodyPost_ret (v := .pointer (some ⟨w.heap.size + 1 + 1, 0, none⟩)) (by simp [results, Tryz.results89, go_sem]) rfl ⟨_, rfl, by omega, hO6.auto, (HBZ.out.setCell (p := ⟨w.heap.size + 1 + 1, 2, none⟩) (show w.heap.size ≤ w.heap.size + 1 + 1 by omega) _).setCell (p := ⟨w.heap.size + 1 + 1, 3, none⟩) (show w.heap.size ≤ w.heap.size + 1 + 1 by omega) _⟩
end Go.Proofs.YtiocjdggdmeggaaGreatDoor
