/-
  The walks of (*Auto).Ends, Is and Empty.
  The walks of (*Auto).Is and Empty, and of the methods of Types.
-/
import Derived.Test.YtiocjdggdmeggaaGreatDoorStep
import Derived.OwnWalk
import Derived.Deep.LoopGhost
namespace Go.Proofs.YtiocjdggdmeggaaGreatDoor
open Go.RowKit Go.Shelf
theorem info4 : (Tryz.prog.info? 4).map (fun i => (i.zero, i.size, i.bytes)) = some (some (.bool false), 1, 1) := by kernel_rfl
theorem made_bools (n : Nat) : (madeCells (Value.bool false).cells (n * 1)).toList = List.replicate n (.bool false) := by
  apply List.ext_getElem
  · simp [madeCells]
  · intro i h1 h2
    simp [madeCells, Value.cells, Nat.mod_one]

theorem env_below {B : Nat} {w w' : World} (h : Below B w w') (hB : 6 < B) (hE : Env w) : Env w' := fun j hj => (h.cell (p := ⟨6, j, none⟩) hB).trans (hE j hj)

set_option maxHeartbeats 1000000 in
theorem ends_any (A : PA) (hA : A.Ok) (s : ByteArray) (T p : Nat) (w : World) (hlen : s.size ≤ 1000) (hasc : ∀ b ∈ s.data.toList, b.toNat < 128) (hAt : AutoAt w T p A) (hT : T ≤ w.heap.size) (hT6 : 6 < T) (hE : Env w) :
    Calls Tryz.prog 90 #[.pointer (some ⟨p, 0, none⟩), .string s] w fun e w' => ∃ g, e = .returned (.slice (some ⟨g, 0, none⟩) (s.size + 1) (s.size + 1)) ∧
      (w.heap.size ≤ g ∧ w'.ownsRow w.heap.size 4 1 (.slice (some ⟨g, 0, none⟩) (s.size + 1) (s.size + 1)) (s.size + 1) (endCells A s.data.toList (s.size + 1) (s.size + 1))) ∧ Below w.heap.size w w' := by
  obtain ⟨i0, hi, hz0, hz1, hz2⟩ := info_parts info4
  have HAt := Lib.hid hAt
  have HE := Lib.hid hE
  have HAsc := Lib.hid hasc
  clear hAt hE hasc
  go_enter Tryz.func90, Tryz.ntmps90
  go_wp2_with (first
    | (at_make; refine wpList_make_full _ rfl _ _ 110 rfl w.heap.size 4 i0 (.bool false) 1 Tryz.underlying110 hi hz0 hz1 .i64 .i64 _ _ (s.size + 1) rfl rfl (by simp) (by simp) (by rw [hz2]; omega) (by unfold maxLen; omega) (Nat.le_refl _) ?_; intro w0 hown0 hgrow0)
    | (go_at_call 120; refine (single_any 0 _ (by omega)).mono ?_; rintro e w1 ⟨rfl, hb1⟩))
  have hlen2 : s.data.toList.length = s.size := Array.length_toList
  have h01 : w.heap.size < w0.heap.size := (hown0.lt _ rfl).2
  have h12 := hb1.size
  rw [made_bools] at hown0
  have hown1 := ownsRow_same hown0 (hb1.block w.heap.size h01)
  have hB1 : Below w.heap.size w w1 := ⟨hb1.os.trans hgrow0.os, hb1.tape.trans hgrow0.tape, hb1.output.trans hgrow0.output, Nat.le_trans hgrow0.size hb1.size, fun k hk => (hb1.block k (by omega)).trans (hgrow0.block k hk (by simp))⟩
  have HO := Lib.hid (hown1.alloc (.cells #[.int .u64 1, .int .u64 0] 152))
  have HN := Lib.hid (alloc_at w1 (.cells #[.int .u64 1, .int .u64 0] 152))
  have HB := Lib.hid (hB1.alloc (by omega) (.cells #[.int .u64 1, .int .u64 0] 152))
  have HL := Lib.hid hlen2
  clear hown0 hgrow0 hb1 hown1 hB1 hlen2 hz0 hz1 hz2 hi
  obtain ⟨B1, eB1⟩ : ∃ B1, w1.heap.size = B1 := ⟨_, rfl⟩
  rw [eB1] at HN h12 ⊢
  generalize w1.alloc (.cells #[.int .u64 1, .int .u64 0] 152) = w2 at HO HN HB ⊢
  clear eB1
  go_loopw [16] (fun i wr => ∃ k : Nat, k ≤ s.size + 1 ∧ i = .int .i64 k ∧ Hid (wr.ownsRow w.heap.size 4 1 (.slice (some ⟨w.heap.size, 0, none⟩) (s.size + 1) (s.size + 1)) (s.size + 1) (endCells A s.data.toList (s.size + 1) k) ∧
      wr.heap[B1]? = some (.cells #[.int .u64 (A.run (s.data.toList.take k) : Nat), .int .u64 0] 152 (0, 0)) ∧ Below w.heap.size w wr)) (fun i _ => s.size + 1 - (intOf i).toNat)
  case atStart => exact ⟨0, by omega, rfl, Lib.hid ⟨by rw [endCells_zero]; exact HO.out, HN.out, HB.out⟩⟩
  case round =>
    obtain ⟨k, hk, rfl, hS⟩ := hrel
    by_cases hlt : k < s.size + 1
    · obtain ⟨gs, cs, gf, cf, q0, q1, q2, q3, qs, qf⟩ := (HAt.out.same (w' := wr) (fun b hb => hS.out.2.2.block b (by omega))).cells hA
      clear qs qf q0 q1 gs cs gf cf
      have hst := run_lt hA (s.data.toList.take k)
      obtain ⟨st, est⟩ : ∃ st, A.run (s.data.toList.take k) = st := ⟨_, rfl⟩
      have hcs := hS.out.2.1
      rw [est] at hst hcs
      have HCS := Lib.hid hcs
      have HST := Lib.hid est
      have hlast := hA.last
      have hsw := hA.word hst
      have hlw := hA.word hlast
      have HSW := Lib.hid hsw
      have HLW := Lib.hid hlw
      have HS1 := Lib.hid hst
      have HQ2 := Lib.hid q2
      have HQ3 := Lib.hid q3
      have hpT : p < T := by obtain ⟨_, _, _, _, h, _⟩ := HAt.out; exact h
      clear hcs est hst hlast hsw hlw q2 q3
      have hwr : w.heap.size < wr.heap.size := (hS.out.1.lt _ rfl).2
      have hBr : B1 < wr.heap.size := lt_of_at HCS.out
      go_wp2
      refine wp_tail (fun W' => Hid (Below wr.heap.size wr W')) 11 (by kernel_rfl) (by kernel_rfl) (Lib.hid (Below.refl _ _).drew) ?_
      simp only [List.take_succ_cons, List.take_zero, List.drop_succ_cons, List.drop_zero]
      iterate 7 (refine quiet_val (by rfl) (fun W' hW' => by
        have h1 := (hW'.out.cell (p := ⟨B1, 0, none⟩) hBr).trans (cell_at HCS.out 0)
        have h2 := (hW'.out.cell (p := ⟨B1, 1, none⟩) hBr).trans (cell_at HCS.out 1)
        have h3 := (hW'.out.cell (p := ⟨p, 2, none⟩) (show p < wr.heap.size by omega)).trans HQ2.out
        have h4 := (hW'.out.cell (p := ⟨p, 3, none⟩) (show p < wr.heap.size by omega)).trans HQ3.out
        go_simp; rfl) ?_; try go_simp)
      refine quiet_call (v := .agg #[.int .u64 (st &&& A.last : Nat), .int .u64 0]) (f := 121) (args := #[.agg #[.int .u64 (st : Nat), .int .u64 0], .agg #[.int .u64 (A.last : Nat), .int .u64 0]]) (by rfl) (fun W' hW' => by go_simp) (fun W' hW' => ?_) ?_
      · refine (and_any st A.last W' HSW.out HLW.out).mono ?_
        rintro e w'' ⟨rfl, hb⟩
        exact ⟨rfl, Lib.hid (hW'.out.trans (hb.mono hW'.out.size))⟩
      try go_simp
      refine quiet_call (v := .bool (st &&& A.last == 0)) (f := 122) (args := #[.agg #[.int .u64 (st &&& A.last : Nat), .int .u64 0]]) (by rfl) (fun W' hW' => by go_simp) (fun W' hW' => ?_) ?_
      · refine (empty_any (st &&& A.last) W').mono ?_
        rintro e w'' ⟨rfl, hb⟩
        exact ⟨rfl, Lib.hid (hW'.out.trans (hb.mono hW'.out.size))⟩
      try go_simp
      iterate 2 (refine quiet_val (by rfl) (fun W' hW' => by go_simp; rfl) ?_; try go_simp)
      refine wpQuiet_nil ?_
      intro W' hW'
      have hrow := ownsRow_same hS.out.1 (hW'.out.block w.heap.size hwr)
      have hck : W'.cell? ⟨w.heap.size, k, none⟩ = some (.bool (decide (k < k) && A.endsAt s.data.toList k)) := (hrow.cellAt k (by omega)).trans (by simp [endCells, hlt])
      have hfk := hrow.frozenAt k
      have HR := Lib.hid hrow
      have HW' := Lib.hid hW'.out
      clear hW' hrow
      have hneB : B1 ≠ w.heap.size := by omega
      have hrow2 := (HR.out.stored k (.bool (A.endsAt s.data.toList k))).1
      rw [endCells_set] at hrow2
      have hbox2 : (W'.setCell ⟨w.heap.size, k, none⟩ (.bool (A.endsAt s.data.toList k))).heap[B1]? = some (.cells #[.int .u64 (st : Nat), .int .u64 0] 152 (0, 0)) :=
        setCell_other ((HW'.out.block B1 hBr).trans HCS.out) hneB
      have hbel2 : Below w.heap.size w (W'.setCell ⟨w.heap.size, k, none⟩ (.bool (A.endsAt s.data.toList k))) :=
        (hS.out.2.2.trans (HW'.out.mono (by omega))).setCell (Nat.le_refl _) _
      have heA : A.endsAt s.data.toList k = !(st &&& A.last == 0) := by unfold PA.endsAt; rw [HST.out]; rfl
      rw [heA] at hrow2 hbox2 hbel2
      have HR2 := Lib.hid hrow2
      have HX2 := Lib.hid hbox2
      have HB2 := Lib.hid hbel2
      clear hrow2 hbox2 hbel2 heA
      by_cases hk2 : k < s.size
      · go_wp2
        generalize W'.setCell ⟨w.heap.size, k, none⟩ (.bool (!(st &&& A.last == 0))) = W2 at HR2 HX2 HB2 ⊢
        clear hck hfk
        have hBr2 : B1 < W2.heap.size := lt_of_at HX2.out
        refine wp_tail (fun W' => Hid (Below W2.heap.size W2 W')) 6 (by kernel_rfl) (by kernel_rfl) (Lib.hid (Below.refl _ _).drew) ?_
        simp only [List.take_succ_cons, List.take_zero, List.drop_succ_cons, List.drop_zero]
        iterate 5 (refine quiet_val (by rfl) (fun W' hW' => by
          have h1 := (hW'.out.cell (p := ⟨B1, 0, none⟩) hBr2).trans (cell_at HX2.out 0)
          have h2 := (hW'.out.cell (p := ⟨B1, 1, none⟩) hBr2).trans (cell_at HX2.out 1)
          go_simp; rfl) ?_; try go_simp)
        refine quiet_call (v := .agg #[.int .u64 (A.step st s[k].toNat : Nat), .int .u64 0]) (f := 123) (args := #[.pointer (some ⟨p, 0, none⟩), .agg #[.int .u64 (st : Nat), .int .u64 0], .int .u8 (s[k].toNat : Nat)]) (by rfl) (fun W' hW' => by go_simp) (fun W' hW' => ?_) ?_
        · have hbw : Below w.heap.size w W' := HB2.out.trans (hW'.out.mono (by omega))
          refine (step_any A hA st s[k].toNat T p W' HS1.out (HAsc.out _ (by simp [ByteArray.getElem_eq_getElem_data])) (HAt.out.same (fun b hb => hbw.block b (by omega))) (Nat.le_trans hT hbw.size) hT6 (env_below hbw (by omega) HE.out)).mono ?_
          rintro e w'' ⟨rfl, hb⟩
          exact ⟨rfl, Lib.hid (hW'.out.trans (hb.mono hW'.out.size))⟩
        try go_simp
        refine wpQuiet_nil ?_
        intro W3 hW3
        have hb3 := (hW3.out.block B1 hBr2).trans HX2.out
        have hc0 := cell_at hb3 0
        have hc1 := cell_at hb3 1
        have hcf := frozen_at hb3
        have HB3 := Lib.hid hb3
        have HW3 := Lib.hid hW3.out
        clear hb3 hW3
        go_wp2
        have hWg : w.heap.size < W2.heap.size := (HR2.out.lt _ rfl).2
        have hrow3 := ownsRow_setCell_other (ownsRow_setCell_other (ownsRow_same HR2.out (HW3.out.block w.heap.size hWg)) (a := ⟨B1, 0, none⟩) (by simp [Value.ownBlock]; omega) (.int .u64 (A.step st s[k].toNat : Nat))) (a := ⟨B1, 1, none⟩) (by simp [Value.ownBlock]; omega) (.int .u64 0)
        have hbox3 := setCell_at (setCell_at HB3.out 0 (.int .u64 (A.step st s[k].toNat : Nat))) 1 (.int .u64 0)
        have hbel3 := ((HB2.out.trans (HW3.out.mono (by omega))).setCell (p := ⟨B1, 0, none⟩) (show w.heap.size ≤ B1 by omega) (.int .u64 (A.step st s[k].toNat : Nat))).setCell (p := ⟨B1, 1, none⟩) (show w.heap.size ≤ B1 by omega) (.int .u64 0)
        refine ⟨⟨k + 1, by omega, rfl, Lib.hid ⟨hrow3, ?_, hbel3⟩⟩, by simp [intOf]; omega⟩
        rw [hbox3, run_snoc A s.data.toList k (by rw [HL.out]; exact hk2), HST.out]
        simp [ByteArray.getElem_eq_getElem_data]
      · go_wp2
        have hks : k = s.size := by omega
        refine ⟨⟨k + 1, by omega, rfl, Lib.hid ⟨HR2.out, ?_, HB2.out⟩⟩, by simp [intOf]; omega⟩
        rw [HX2.out, ← HST.out, List.take_of_length_le (by rw [HL.out]; omega), List.take_of_length_le (by rw [HL.out]; omega)]
    · have hke : k = s.size + 1 := by omega
      subst hke
      go_wp2
      go_ret
      refine ⟨w.heap.size, rfl, ⟨Nat.le_refl _, hS.out.1⟩, hS.out.2.2⟩
end Go.Proofs.YtiocjdggdmeggaaGreatDoor
namespace Go.Proofs.YtiocjdggdmeggaaGreatDoor
open Go.RowKit Go.Shelf
theorem is_any (A : PA) (hA : A.Ok) (s : ByteArray) (T p : Nat) (w : World) (hlen : s.size ≤ 1000) (hasc : ∀ b ∈ s.data.toList, b.toNat < 128) (hAt : AutoAt w T p A) (hT : T ≤ w.heap.size) (hT6 : 6 < T) (hE : Env w) :
    Calls Tryz.prog 55 #[.pointer (some ⟨p, 0, none⟩), .string s] w fun e w' => e = .returned (.bool (A.is s.data.toList)) ∧ Below w.heap.size w w' := by
  have HC := Lib.hid (ends_any A hA s T p w hlen hasc hAt hT hT6 hE)
  clear hAt hE hasc
  go_enter Tryz.func55, Tryz.ntmps55
  go_wp2_with fail
  refine HC.out.mono ?_
  rintro e w1 ⟨g, rfl, ⟨hg, hrow⟩, hb⟩
  have hck := hrow.cellAt s.size (by omega)
  rw [endCells_at _ _ _ _ (by omega)] at hck
  have HB := Lib.hid hb
  clear hrow hb HC
  go_wp2
  go_ret
  refine ⟨?_, HB.out⟩
  have : s.data.toList.take s.size = s.data.toList := List.take_of_length_le (by rw [Array.length_toList]; exact Nat.le_refl _)
  unfold PA.endsAt
  rw [this]
  rfl
theorem aempty_any (A : PA) (hA : A.Ok) (T p : Nat) (w : World) (hAt : AutoAt w T p A) :
    Calls Tryz.prog 167 #[.pointer (some ⟨p, 0, none⟩)] w fun e w' => e = .returned (.bool (A.last.testBit 0)) ∧ Below w.heap.size w w' := by
  obtain ⟨gs, cs, gf, cf, q0, q1, q2, q3, qs, qf⟩ := hAt.cells hA
  have hlw := hA.word hA.last
  have HLW := Lib.hid hlw
  clear qs qf q0 q1 hlw
  go_enter Tryz.func167, Tryz.ntmps167
  go_wp2_with (first | (go_at_call 97; refine (has_any A.last 0 _ (by omega) HLW.out).mono ?_; rintro e w1 ⟨rfl, hb⟩))
  go_ret
  exact ⟨by simp, hb⟩

/-- 'must' where all is well. -/
theorem must_any (w : World) : Calls Tryz.prog 111 #[.bool true] w fun e w' => e = .returned (.tuple #[]) ∧ w' = w := by
  go_enter Tryz.func111, Tryz.ntmps111
  go_wp2
  go_end0
  exact ⟨rfl, rfl⟩
theorem rmust_any (r : Value) (w : World) : Calls Tryz.prog 79 #[r, .bool true] w fun e w' => e = .returned (.tuple #[]) ∧ w' = w := by
  go_enter Tryz.func79, Tryz.ntmps79
  go_wp2
  go_end0
  exact ⟨rfl, rfl⟩
theorem isSource_any (A : PA) (hA : A.Ok) (s : ByteArray) (T p b : Nat) (w : World) (hlen : s.size ≤ 1000) (hasc : ∀ b ∈ s.data.toList, b.toNat < 128) (hAt : AutoAt w T p A) (hT : T ≤ w.heap.size) (hT6 : 6 < T) (hE : Env w)
    (hc : w.cell? ⟨b, 0, none⟩ = some (.pointer (some ⟨p, 0, none⟩))) :
    Calls Tryz.prog 41 #[.pointer (some ⟨b, 0, none⟩), .string s] w fun e w' => e = .returned (.bool (A.is s.data.toList)) ∧ Below w.heap.size w w' := by
  have HC := Lib.hid (is_any A hA s T p w hlen hasc hAt hT hT6 hE)
  clear hAt hE hasc
  go_enter Tryz.func41, Tryz.ntmps41
  go_wp2_with fail
  refine HC.out.mono ?_
  rintro e w1 ⟨rfl, hb⟩
  go_wp2
  go_ret
  exact ⟨rfl, hb⟩
theorem isView_any (A : PA) (hA : A.Ok) (s : ByteArray) (T p b : Nat) (w : World) (hlen : s.size ≤ 1000) (hasc : ∀ b ∈ s.data.toList, b.toNat < 128) (hAt : AutoAt w T p A) (hT : T ≤ w.heap.size) (hT6 : 6 < T) (hE : Env w)
    (hc : w.cell? ⟨b, 1, none⟩ = some (.pointer (some ⟨p, 0, none⟩))) :
    Calls Tryz.prog 44 #[.pointer (some ⟨b, 0, none⟩), .string s] w fun e w' => e = .returned (.bool (A.is s.data.toList)) ∧ Below w.heap.size w w' := by
  have HC := Lib.hid (is_any A hA s T p w hlen hasc hAt hT hT6 hE)
  clear hAt hE hasc
  go_enter Tryz.func44, Tryz.ntmps44
  go_wp2_with fail
  refine HC.out.mono ?_
  rintro e w1 ⟨rfl, hb⟩
  go_wp2
  go_ret
  exact ⟨rfl, hb⟩
end Go.Proofs.YtiocjdggdmeggaaGreatDoor
