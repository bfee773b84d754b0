/-
  The walk of (*Auto).step.
-/
import Derived.Test.YtiocjdggdmeggaaGreatDoorEach
import Derived.Test.YtiocjdggdmeggaaGreatDoorLeaf
import Derived.Test.YtiocjdggdmeggaaGreatDoorAuto
import Derived.Test.YtiocjdggdmeggaaGreatDoorDrawn
namespace Go.Proofs.YtiocjdggdmeggaaGreatDoor
open Go.RowKit Go.Shelf
attribute [local go_sem] Oper.semAt_some

theorem step_any (A : PA) (hA : A.Ok) (s c T p : Nat) (w : World) (hs : s < 2 ^ A.n) (hc : c < 128) (hAt : AutoAt w T p A) (hT : T ≤ w.heap.size) (hT6 : 6 < T) (hE : Env w) :
    Calls Tryz.prog 123 #[.pointer (some ⟨p, 0, none⟩), .agg #[.int .u64 s, .int .u64 0], .int .u8 c] w fun e w' => e = .returned (.agg #[.int .u64 (A.step s c), .int .u64 0]) ∧ Below w.heap.size w w' := by
  have HAt := Lib.hid hAt
  have HE := Lib.hid hE
  clear hAt hE
  refine (callsIn_wide (n := 3)).1 ?_
  refine callsIn_of_wp_marks Tryz.func123 rfl trivial ?_ rfl
  simp only [Tryz.ntmps123, List.size_toArray, List.length_cons, List.length_nil, Nat.reduceAdd, Nat.reduceSub, Array.replicate_succ, Array.replicate_zero, List.push_toArray, List.append_toArray, List.nil_append, List.cons_append]
  gi_wp2
  generalize hW0 : World.alloc (World.alloc (World.alloc (World.alloc w _) _) _) _ = W0
  have hb0 : W0.heap[w.heap.size]? = some (.cells #[.pointer (some ⟨p, 0, none⟩)] 62 (0, 0)) := by
    rw [← hW0]; exact alloc_old (alloc_old (alloc_old (alloc_at _ _) _) _) _
  have hb2 : W0.heap[w.heap.size + 1 + 1]? = some (.cells #[.int .u8 c] 5 (0, 0)) := by
    rw [← hW0]; refine alloc_old ?_ _; have := alloc_at ((w.alloc (Obj.cells #[.pointer (some ⟨p, 0, none⟩)] 62)).alloc (Obj.cells #[.int .u64 s, .int .u64 0] 152)) (Obj.cells #[.int .u8 c] 5); simpa using this
  have hb3 : W0.heap[w.heap.size + 1 + 1 + 1]? = some (.cells #[.int .u64 ((0 : Nat) : Int), .int .u64 0] 152 (0, 0)) := by
    rw [← hW0]; have := alloc_at (((w.alloc (Obj.cells #[.pointer (some ⟨p, 0, none⟩)] 62)).alloc (Obj.cells #[.int .u64 s, .int .u64 0] 152)).alloc (Obj.cells #[.int .u8 c] 5)) (Obj.cells #[.int .u64 0, .int .u64 0] 152); simpa using this
  have hsz : W0.heap.size = w.heap.size + 4 := by rw [← hW0]; simp
  have hbel : Below w.heap.size w W0 := by
    rw [← hW0]; exact ((((Below.refl _ w).alloc (Nat.le_refl _) _).alloc (by simp) _).alloc (by simp; omega) _).alloc (by simp; omega) _
  clear hW0
  have H0 := Lib.hid hb0; have H2 := Lib.hid hb2; have H3 := Lib.hid hb3
  have HB := Lib.hid hbel
  have HS := Lib.hid hsz
  clear hb0 hb2 hb3 hbel hsz
  have hE0 : ∀ W : World, Ext (fun b => b = w.heap.size + 1 + 1 + 1) W0 W → Env W := fun W h j hj => by
    have := HE.out j hj
    rw [← HB.out.cell (p := ⟨6, j, none⟩) (by show 6 < w.heap.size; omega)] at this
    rw [← this]
    exact World.cell?_of_block (h.block 6 (by have := HS.out; omega) (by omega))
  have HE0 := Lib.hid hE0
  clear hE0
  refine range_outer1 (gf := 125) (pre := #[.agg #[.int .u64 s, .int .u64 0]]) (xs := bitsOf s) (E := Env) rfl (enters_of Tryz.func125 (by kernel_rfl) rfl) (each_runs s (hA.word hs))
    (fun k W => Ext (fun b => b = w.heap.size + 1 + 1 + 1) W0 W ∧ W.heap[w.heap.size + 1 + 1 + 1]? = some (.cells #[.int .u64 ((upTo (step1 A c) (bitsOf s) 0 k : Nat) : Int), .int .u64 0] 152 (0, 0)))
    ?af
    (fun k W o h => ⟨h.1.alloc o, alloc_old h.2 o⟩) (fun k W h => ⟨h.1.drew, h.2⟩) (fun k W h => HE0.out _ h.1)
    (fun k W l o' h hl => ⟨h.1.putObj o' (by omega), putObj_at h.2 (by have := HS.out; omega)⟩)
    ⟨Ext.refl _ _, H3.out⟩ ?assign ?body ?done
  case assign =>
    intro l m x W K hK
    gi_wp2
    exact hK
  case body =>
    intro l m k x W1 hx hl hr hI
    obtain ⟨gs, cs, gf, cf, q0, q1, q2, q3, qs, qf⟩ := ((HAt.out.same (w' := W1) (fun b hb => (hI.1.block b (by have := HS.out; omega) (by omega)).trans (HB.out.block b (by omega))))).cells hA
    have hxn : x < A.n := mem_bits_lt hs (List.mem_of_getElem? hx)
    have hn := hA.le
    have c0 : W1.cell? ⟨w.heap.size, 0, none⟩ = some (.pointer (some ⟨p, 0, none⟩)) := (cell_at (hI.1.at' H0.out (by omega)) 0).trans rfl
    obtain ⟨c2, c3⟩ := qf x hxn
    have HI := Lib.hid hI
    have HX := Lib.hid hx
    have HR := Lib.hid hr
    have hfl := getD_follow_lt hA x
    obtain ⟨fl, hfe⟩ : ∃ fl, A.follow.getD x 0 = fl := ⟨_, rfl⟩
    rw [hfe] at c2 hfl
    have HF := Lib.hid hfe
    clear hI hx hr qs qf q0 q2 q3 hfe
    gi_wp2
    obtain ⟨r0, hr0⟩ := HR.out
    clear c0 q1 c2 c3
    refine range_inner1 (r₀ := r0) hr0 (gf := 125) (pre := #[.agg #[.int .u64 fl, .int .u64 0]]) (xs := bitsOf fl) (E := Env) rfl (enters_of Tryz.func125 (by kernel_rfl) rfl) (each_runs fl (hA.word hfl))
      (fun k2 W2 => Ext (fun b => b = w.heap.size + 1 + 1 + 1) W1 W2 ∧ W2.heap[w.heap.size + 1 + 1 + 1]? = some (.cells #[.int .u64 ((upTo (stepIn1 A c) (bitsOf fl) (upTo (step1 A c) (bitsOf s) 0 k) k2 : Nat) : Int), .int .u64 0] 152 (0, 0)))
      ?af2
      (fun k W o h => ⟨h.1.alloc o, alloc_old h.2 o⟩) (fun k W h => ⟨h.1.drew, h.2⟩) (fun k W h => HE0.out _ (HI.out.1.trans h.1 (fun _ _ h => h)))
      (fun k W l o' h hl => ⟨h.1.putObj o' (by omega), putObj_at h.2 (by have := HS.out; have := HI.out.1.size; omega)⟩)
      ⟨Ext.refl _ _, HI.out.2⟩ ?assign2 ?body2 ?done2
    case assign2 =>
      intro l m x W K hK
      gi_wp2
      exact hK
    case body2 =>
      intro l m k2 j W hx hl hr hI
      have hj : j < A.n := mem_bits_lt hfl (List.mem_of_getElem? hx)
      have hex : Ext (fun b => b = w.heap.size + 1 + 1 + 1) W0 W := HI.out.1.trans hI.1 (fun _ _ h => h)
      obtain ⟨gs, cs, gf, cf, q0, q1, q2, q3, qs, qf⟩ := ((HAt.out.same (w' := W) (fun b hb => (hex.block b (by have := HS.out; omega) (by omega)).trans (HB.out.block b (by omega))))).cells hA
      have c0 : W.cell? ⟨w.heap.size, 0, none⟩ = some (.pointer (some ⟨p, 0, none⟩)) := (cell_at (hex.at' H0.out (by omega)) 0).trans rfl
      have cc : W.cell? ⟨w.heap.size + 1 + 1, 0, none⟩ = some (.int .u8 c) := (cell_at (hex.at' H2.out (by omega)) 0).trans rfl
      obtain ⟨c2, c3⟩ := qs j hj
      obtain ⟨hlo, hhi⟩ := getD_signs_lt hA j
      have hsg := signAt_eq A j c
      obtain ⟨x1, ex1⟩ : ∃ x1, (A.signs.getD j (0, 0)).1 = x1 := ⟨_, rfl⟩
      obtain ⟨x2, ex2⟩ : ∃ x2, (A.signs.getD j (0, 0)).2 = x2 := ⟨_, rfl⟩
      rw [ex1] at c2 hlo hsg
      rw [ex2] at c3 hhi hsg
      have hout : upTo (stepIn1 A c) (bitsOf fl) (upTo (step1 A c) (bitsOf s) 0 k) k2 < 2 ^ A.n :=
        upTo_keeps (· < 2 ^ A.n) _ _ _ (upTo_keeps (· < 2 ^ A.n) _ _ _ (Nat.two_pow_pos _) (fun _ _ _ ho => step1_lt hA _ ho) _) (fun _ _ hx ho => stepIn1_lt ho (mem_bits_lt hfl hx)) _
      have hnext : upTo (stepIn1 A c) (bitsOf fl) (upTo (step1 A c) (bitsOf s) 0 k) (k2 + 1) = stepIn1 A c (upTo (stepIn1 A c) (bitsOf fl) (upTo (step1 A c) (bitsOf s) 0 k) k2) j := upTo_succ _ _ _ _ _ hx
      have hcell := hI.2
      have hext := hI.1
      obtain ⟨out, eo⟩ : ∃ out, upTo (stepIn1 A c) (bitsOf fl) (upTo (step1 A c) (bitsOf s) 0 k) k2 = out := ⟨_, rfl⟩
      rw [eo] at hout hnext hcell
      have HNX := Lib.hid hnext
      have HC := Lib.hid hcell
      have HX1 := Lib.hid hext
      have HL := Lib.hid hl
      have HSG := Lib.hid hsg
      have HO := Lib.hid hout
      have hj64 : j < 64 := by omega
      have how : out < 2 ^ 64 := hA.word hout
      have hpw : 2 ^ j < 2 ^ 64 := Nat.pow_lt_pow_right (by decide) hj64
      have HOW := Lib.hid how
      have HPW := Lib.hid hpw
      clear hI hex qs qf q1 q2 q3 hx ex1 ex2 hcell hnext hext eo hsg hl hout how hpw hr
      gi_wp2
      refine region_head (Wide.round l) (fun W' => Hid ((Ext (fun b => b = w.heap.size + 1 + 1 + 1) W W' ∧ W'.heap[w.heap.size + 1 + 1 + 1]? = W.heap[w.heap.size + 1 + 1 + 1]?) ∧
        W'.cell? ⟨w.heap.size, 0, none⟩ = some (.pointer (some ⟨p, 0, none⟩)) ∧ W'.cell? ⟨p, 0, none⟩ = some (.slice (some ⟨gs, 0, none⟩) A.n cs) ∧ W'.cell? ⟨w.heap.size + 1 + 1, 0, none⟩ = some (.int .u8 c) ∧
        W'.cell? ⟨gs, j * 2, none⟩ = some (.int .u64 (x1 : Int)) ∧ W'.cell? ⟨gs, j * 2 + 1, none⟩ = some (.int .u64 (x2 : Int))))
        (by kernel_rfl) (by kernel_rfl) (by kernel_rfl) (Lib.hid ⟨⟨(Ext.refl _ _).drew, rfl⟩, c0, q0, cc, c2, c3⟩) ?_
      clear c0 q0 cc c2 c3
      iterate 7 (refine quiet_val (by rfl) (fun W' hW' => by obtain ⟨_, h1, h2, h3, h4, h5⟩ := hW'.out; go_simp; rfl) ?_; try go_simp)
      refine quiet_call (v := .bool (signAt A j c)) (f := 152) (args := #[.pointer (some ⟨gs, j * 2, none⟩), .int .u8 c]) (by rfl) (fun W' hW' => by obtain ⟨_, h1, h2, h3, h4, h5⟩ := hW'.out; go_simp) (fun W' hW' => ?_) ?_
      · refine (Has_any x1 x2 c gs (j * 2) W' hc hlo hhi hW'.out.2.2.2.2.1 hW'.out.2.2.2.2.2).mono ?_
        rintro e w'' ⟨rfl, rfl⟩
        exact ⟨by rw [HSG.out]; rfl, hW'⟩
      refine wpQuiet_nil ?_
      intro W' hW'
      have hW1 := hW'.out.1
      have HW1 := Lib.hid hW1
      clear hW' hW1
      have HKF : Hid (∀ W'', Ext (fun b => b = w.heap.size + 1 + 1 + 1) W W'' → KeepsFrom W1.heap.size W W'') := fun W'' hE =>
        hE.keeps _ (fun b o hb ho hc e => by subst e; have := HC.out; rw [this] at ho; cases ho; cases hc)
      cases hsig : signAt A j c
      · have HSI := Lib.hid hsig
        clear hsig
        go_simp
        gi_wp2
        refine ⟨HKF.out _ HW1.out.1, HX1.out.trans HW1.out.1 (fun _ _ h => h), ?_⟩
        rw [HW1.out.2, HC.out, HNX.out]
        simp [stepIn1, HSI.out]
      · have HSI := Lib.hid hsig
        clear hsig
        go_simp
        gi_wp2
        have hc0 := cell_at (HW1.out.2.trans HC.out) 0
        have hc1 := cell_at (HW1.out.2.trans HC.out) 1
        refine region_tail (Wide.round l) (fun W'' => Hid (Ext (fun b => b = w.heap.size + 1 + 1 + 1) W W'' ∧ W''.heap[w.heap.size + 1 + 1 + 1]? = some (.cells #[.int .u64 (out : Int), .int .u64 0] 152 (0, 0)))) 4
          (by kernel_rfl) (by kernel_rfl) (by kernel_rfl) (Lib.hid ⟨HW1.out.1.drew, HW1.out.2.trans HC.out⟩) ?_
        clear hc0 hc1
        simp only [List.take_succ_cons, List.take_zero, List.drop_succ_cons, List.drop_zero]
        iterate 2 (refine quiet_val (by rfl) (fun W' hW' => by have h1 := cell_at hW'.out.2 0; have h2 := cell_at hW'.out.2 1; go_simp; rfl) ?_; try go_simp)
        have hBs : w.heap.size + 1 + 1 + 1 < W.heap.size := lt_of_at HC.out
        have HBs := Lib.hid hBs
        clear hBs
        refine quiet_call (v := .agg #[.int .u64 (2 ^ j : Nat), .int .u64 0]) (f := 120) (args := #[.int .i64 (j : Nat)]) (by rfl) (fun W' hW' => by go_simp) (fun W' hW' => ?_) ?_
        · refine (single_any j W' hj64).mono ?_
          rintro e w'' ⟨rfl, hb⟩
          exact ⟨rfl, Lib.hid ⟨hW'.out.1.trans (Ext.of_below hb (Nat.le_refl _)) (fun _ _ h => h), below_at hb hW'.out.2 (lt_of_at hW'.out.2)⟩⟩
        try go_simp
        refine quiet_call (v := .agg #[.int .u64 (out ||| 2 ^ j : Nat), .int .u64 0]) (f := 119) (args := #[.agg #[.int .u64 (out : Nat), .int .u64 0], .agg #[.int .u64 (2 ^ j : Nat), .int .u64 0]]) (by rfl) (fun W' hW' => by go_simp) (fun W' hW' => ?_) ?_
        · refine (or_any out (2 ^ j) W' HOW.out HPW.out).mono ?_
          rintro e w'' ⟨rfl, hb⟩
          exact ⟨rfl, Lib.hid ⟨hW'.out.1.trans (Ext.of_below hb (Nat.le_refl _)) (fun _ _ h => h), below_at hb hW'.out.2 (lt_of_at hW'.out.2)⟩⟩
        try go_simp
        refine wpQuiet_nil ?_
        intro W' hW'
        have hf := frozen_at hW'.out.2
        have hd0 := cell_at hW'.out.2 0
        have hd1 := cell_at hW'.out.2 1
        have HW' := Lib.hid hW'.out
        clear hW'
        gi_wp2
        have hE2 : Ext (fun b => b = w.heap.size + 1 + 1 + 1) W ((W'.setCell ⟨w.heap.size + 1 + 1 + 1, 0, none⟩ (.int .u64 (out ||| 2 ^ j : Nat))).setCell ⟨w.heap.size + 1 + 1 + 1, 1, none⟩ (.int .u64 0)) :=
          (HW'.out.1.setCell (fun _ => rfl) _).setCell (fun _ => rfl) _
        refine ⟨HKF.out _ hE2, HX1.out.trans hE2 (fun _ _ h => h), ?_⟩
        refine (setCell_at (setCell_at HW'.out.2 0 _) 1 _).trans ?_
        rw [HNX.out]
        simp [stepIn1, HSI.out]
    case done2 =>
      intro W2 hI2
      have HI2 := Lib.hid hI2
      clear hI2
      gi_wp2
      have h2 := HI2.out.2
      rw [upTo_all] at h2
      refine ⟨HI2.out.1.keeps _ (fun b o hb ho hc e => by subst e; have := HI.out.2; rw [this] at ho; cases ho; cases hc), HI.out.1.trans HI2.out.1 (fun _ _ h => h), ?_⟩
      rw [h2, upTo_succ _ _ _ _ _ HX.out]
      unfold step1
      rw [HF.out]
  case done =>
    intro D W hD hI hDef
    have cB := cell_at hI.2 0
    have cB1 := cell_at hI.2 1
    have fB := frozen_at hI.2
    have HI := Lib.hid hI
    have HDf := Lib.hid hDef
    clear hI hDef
    gi_wp2
    have hne : D ≠ w.heap.size + 1 + 1 + 1 := by have := HS.out; omega
    have hE2 := (HI.out.1.setCell (p := ⟨w.heap.size + 1 + 1 + 1, 0, none⟩) (fun _ => rfl) (.int .u64 (upTo (step1 A c) (bitsOf s) 0 (bitsOf s).length : Nat))).setCell (p := ⟨w.heap.size + 1 + 1 + 1, 1, none⟩) (fun _ => rfl) (.int .u64 0)
    have hW2 := setCell_at (setCell_at HI.out.2 0 (.int .u64 (upTo (step1 A c) (bitsOf s) 0 (bitsOf s).length : Nat))) 1 (.int .u64 0)
    have hD2 := setCell_other (i := 1) (u := .int .u64 0) (setCell_other (i := 0) (u := .int .u64 (upTo (step1 A c) (bitsOf s) 0 (bitsOf s).length : Nat)) HDf.out hne) hne
    refine ⟨by simp, .inl ⟨_, _, rfl, run_takeDeferred hD2, ?_⟩⟩
    have hW3 := putObj_at (o' := .deferred none) hW2 (Ne.symm hne)
    have c3 := cell_at hW3 0
    have c4 := cell_at hW3 1
    refine ⟨.agg #[.int .u64 (A.step s c : Nat), .int .u64 0], ?_, rfl, ?_⟩
    · have c5 : World.cell? _ ⟨w.heap.size + 1 + 1 + 1, 0, none⟩ = some (.int .u64 (A.step s c : Nat)) := c3.trans (by rw [step_eq, ← upTo_all]; rfl)
      have c6 : World.cell? _ ⟨w.heap.size + 1 + 1 + 1, 1, none⟩ = some (.int .u64 0) := c4.trans rfl
      generalize World.putObj _ D _ = WX at c5 c6 ⊢
      clear c3 c4
      simp [results, Tryz.results123, go_sem, c5, c6]
    · exact (HB.out.trans (((hE2.putObj (.deferred none) hD).below w.heap.size (by have := HS.out; omega) (fun b hb e => by omega))))
end Go.Proofs.YtiocjdggdmeggaaGreatDoor
