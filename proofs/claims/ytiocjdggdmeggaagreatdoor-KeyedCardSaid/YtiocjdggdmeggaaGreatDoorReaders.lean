/-
  The walk of Repeat, by keys.
  The walks of read, Program and Compile.
-/
import Derived.Test.YtiocjdggdmeggaaGreatDoorMakers
namespace Go.Proofs.YtiocjdggdmeggaaGreatDoor
open Go.RowKit Go.Shelf
/-- The repetition of X by keys lies at block b, all of it below T. -/
def KPartAt (w : World) (T b : Nat) (X : Ln) : Prop :=
  ∃ pa pv qa bA bK bP, b < T ∧ bA < T ∧ bK < T ∧ bP < T ∧
    w.heap[b]? = some (.cells #[.pointer (some ⟨pa, 0, none⟩), .pointer (some ⟨pv, 0, none⟩), nodeV (.many X.sn), nodeV (.many X.vn), .func (.func 168) #[] #[.pointer (some ⟨bA, 0, none⟩), .pointer (some ⟨bP, 0, none⟩)],
      .func (.func 175) #[] #[.pointer (some ⟨bP, 0, none⟩)], .func (.func 172) #[] #[.pointer (some ⟨bA, 0, none⟩), .pointer (some ⟨bP, 0, none⟩), .pointer (some ⟨bK, 0, none⟩)]] 70 (0, 0)) ∧
    AutoAt w T pa (newP (.many X.sn)) ∧ AutoAt w T pv (newP (.many X.vn)) ∧ w.heap[bA]? = some (.cells #[.pointer (some ⟨qa, 0, none⟩)] 52 (0, 0)) ∧ w.heap[bK]? = some (.cells #[.bool true] 4 (0, 0)) ∧
    w.heap[bP]? = some (.cells #[.pointer (some ⟨b, 0, none⟩)] 52 (0, 0)) ∧ PartAt w T qa X
/-- The ways through a region, gathered: four letters, one world. -/
def Gath4 (F : Nat → Nat → Nat → Nat → Act) (G : Nat → Nat → Nat → Nat → World → Prop) : Exit → Act → World → Prop
  | .normal, a', w' => ∃ p q b c, a' = F p q b c ∧ G p q b c w'
  | _, _, _ => False
theorem wp_gather4 {P : Program} {c : Code} {a : Act} {w : World} {Q : Exit → Act → World → Prop} (F : Nat → Nat → Nat → Nat → Act) (G : Nat → Nat → Nat → Nat → World → Prop)
    (h : c.wp P (Gath4 F G) a w) (hq : ∀ p q b c w', G p q b c w' → Q .normal (F p q b c) w') : c.wp P Q a w :=
  wp_mono h fun e a' w' hh => by
    cases e <;> first | exact hh.elim | skip
    obtain ⟨p, q, b, c, ha, hG⟩ := hh
    subst ha; exact hq p q b c w' hG
/-- The frame behind Repeat's first statement. -/
def repAct (n qa t1 t3 : Nat) (x1 x3 nv1 nv2 : Value) (p q b5 b22 : Nat) : Act := { tmps := #[.pointer (some ⟨qa, 0, none⟩), .bool true, .pointer (some ⟨n, 0, none⟩), .pointer (some ⟨n + 1, 0, none⟩), .pointer none, .pointer (some ⟨b5, 0, none⟩),
  .pointer (some ⟨qa, 0, none⟩), .pointer (some ⟨qa, 0, none⟩), .pointer (some ⟨qa, 0, none⟩), .pointer (some ⟨qa, 2, none⟩), .iface t1 x1, .agg #[.iface t1 x1], .iface 208 (.agg #[.iface t1 x1]),
  .pointer (some ⟨qa, 0, none⟩), .pointer (some ⟨qa, 0, none⟩), .pointer (some ⟨qa, 0, none⟩), .pointer (some ⟨qa, 3, none⟩), .iface t3 x3, .agg #[.iface t3 x3], .iface 208 (.agg #[.iface t3 x3]),
  .agg #[.pointer (some ⟨p, 0, none⟩), .pointer (some ⟨q, 0, none⟩), nv1, nv2], .agg #[.pointer (some ⟨p, 0, none⟩), .pointer (some ⟨q, 0, none⟩), nv1, nv2, .nilFunc, .nilFunc, .nilFunc], .pointer (some ⟨b22, 0, none⟩),
  undef, undef, undef, undef, undef, undef, undef, undef, undef, undef, undef, undef, undef, undef, undef, undef, undef, undef, undef, undef, undef, undef, undef, undef, undef, undef, undef, undef, undef, undef, undef, undef, undef, undef, undef, undef, undef, undef, undef, undef, undef, undef, undef, undef, undef, undef, undef, undef, undef, undef, undef, undef, undef, undef, undef, undef], defers := [] }
def RepG (W : World) (x : Ln) (p q b5 b22 : Nat) (W' : World) : Prop :=
  Below W.heap.size W W' ∧ W'.heap[b5]? = some (.cells #[.pointer (some ⟨b22, 0, none⟩)] 52 (0, 0)) ∧
  W'.heap[b22]? = some (.cells #[.pointer (some ⟨p, 0, none⟩), .pointer (some ⟨q, 0, none⟩), nodeV (.many x.sn), nodeV (.many x.vn), .nilFunc, .nilFunc, .nilFunc] 70 (0, 0)) ∧
  AutoAt W' W'.heap.size p (newP (.many x.sn)) ∧ AutoAt W' W'.heap.size q (newP (.many x.vn)) ∧ W.heap.size ≤ b5 ∧ W.heap.size ≤ b22 ∧ b5 ≠ b22
theorem repG1 {W W1 : World} {x : Ln} {p q : Nat} (hb : Below W.heap.size W W1) (hp : AutoAt W1 W1.heap.size p (newP (.many x.sn))) (hq : AutoAt W1 W1.heap.size q (newP (.many x.vn))) :
    RepG W x p q (W1.heap.size + 1) W1.heap.size ((W1.alloc (.cells #[.pointer (some ⟨p, 0, none⟩), .pointer (some ⟨q, 0, none⟩), nodeV (.many x.sn), nodeV (.many x.vn), .nilFunc, .nilFunc, .nilFunc] 70)).alloc (.cells #[.pointer (some ⟨W1.heap.size, 0, none⟩)] 52)) := by
  have h2 : Below W1.heap.size W1 ((W1.alloc (.cells #[.pointer (some ⟨p, 0, none⟩), .pointer (some ⟨q, 0, none⟩), nodeV (.many x.sn), nodeV (.many x.vn), .nilFunc, .nilFunc, .nilFunc] 70)).alloc (.cells #[.pointer (some ⟨W1.heap.size, 0, none⟩)] 52)) := ((Below.refl _ _).alloc (Nat.le_refl _) _).alloc (by simp) _
  have hs := hb.size
  refine ⟨hb.trans (h2.mono hs), ?_, alloc_old (alloc_at _ _) _, (hp.same fun k hk => h2.block k hk).mono h2.size, (hq.same fun k hk => h2.block k hk).mono h2.size, by omega, hs, by omega⟩
  have := alloc_at (W1.alloc (.cells #[.pointer (some ⟨p, 0, none⟩), .pointer (some ⟨q, 0, none⟩), nodeV (.many x.sn), nodeV (.many x.vn), .nilFunc, .nilFunc, .nilFunc] 70)) (.cells #[.pointer (some ⟨W1.heap.size, 0, none⟩)] 52)
  simpa using this
theorem repG2 {W W1 : World} {x : Ln} {p q : Nat} (hb : Below W.heap.size W W1) (hp : AutoAt W1 W1.heap.size p (newP (.many x.sn))) (hq : AutoAt W1 W1.heap.size q (newP (.many x.vn))) :
    RepG W x p q W1.heap.size (W1.heap.size + 1) ((W1.alloc (.cells #[.pointer (some ⟨W1.heap.size + 1, 0, none⟩)] 52)).alloc (.cells #[.pointer (some ⟨p, 0, none⟩), .pointer (some ⟨q, 0, none⟩), nodeV (.many x.sn), nodeV (.many x.vn), .nilFunc, .nilFunc, .nilFunc] 70)) := by
  have h2 : Below W1.heap.size W1 ((W1.alloc (.cells #[.pointer (some ⟨W1.heap.size + 1, 0, none⟩)] 52)).alloc (.cells #[.pointer (some ⟨p, 0, none⟩), .pointer (some ⟨q, 0, none⟩), nodeV (.many x.sn), nodeV (.many x.vn), .nilFunc, .nilFunc, .nilFunc] 70)) := ((Below.refl _ _).alloc (Nat.le_refl _) _).alloc (by simp) _
  have hs := hb.size
  refine ⟨hb.trans (h2.mono hs), alloc_old (alloc_at _ _) _, ?_, (hp.same fun k hk => h2.block k hk).mono h2.size, (hq.same fun k hk => h2.block k hk).mono h2.size, hs, by omega, by omega⟩
  have := alloc_at (W1.alloc (.cells #[.pointer (some ⟨W1.heap.size + 1, 0, none⟩)] 52)) (.cells #[.pointer (some ⟨p, 0, none⟩), .pointer (some ⟨q, 0, none⟩), nodeV (.many x.sn), nodeV (.many x.vn), .nilFunc, .nilFunc, .nilFunc] 70)
  simpa using this
theorem repG3 {W W1 : World} {x : Ln} {p q : Nat} (hb : Below W.heap.size W W1) (hp : AutoAt W1 W1.heap.size p (newP (.many x.sn))) (hq : AutoAt W1 W1.heap.size q (newP (.many x.vn))) (h4 : W1.heap[W.heap.size]? = some (.cells #[.pointer none] 52 (0, 0))) :
    RepG W x p q W.heap.size W1.heap.size ((W1.setCell ⟨W.heap.size, 0, none⟩ (.pointer (some ⟨W1.heap.size, 0, none⟩))).alloc (.cells #[.pointer (some ⟨p, 0, none⟩), .pointer (some ⟨q, 0, none⟩), nodeV (.many x.sn), nodeV (.many x.vn), .nilFunc, .nilFunc, .nilFunc] 70)) := by
  have ho : Only W.heap.size W1 (W1.setCell ⟨W.heap.size, 0, none⟩ (.pointer (some ⟨W1.heap.size, 0, none⟩))) := (Only.refl _ _).setCell 0 _
  have ho2 : Only W.heap.size W1 ((W1.setCell ⟨W.heap.size, 0, none⟩ (.pointer (some ⟨W1.heap.size, 0, none⟩))).alloc (.cells #[.pointer (some ⟨p, 0, none⟩), .pointer (some ⟨q, 0, none⟩), nodeV (.many x.sn), nodeV (.many x.vn), .nilFunc, .nilFunc, .nilFunc] 70)) := ho.grow _
  have hs := lt_of_at h4
  refine ⟨⟨ho2.os.trans hb.os, ho2.tape.trans hb.tape, ho2.output.trans hb.output, Nat.le_trans hb.size ho2.size, fun k hk => (ho2.block k (by omega) (by omega)).trans (hb.block k hk)⟩, alloc_old (setCell_at h4 0 _) _, ?_,
    (hp.only (Nat.le_refl _) h4 (by decide) (by decide) (by decide) ho2).mono ho2.size, (hq.only (Nat.le_refl _) h4 (by decide) (by decide) (by decide) ho2).mono ho2.size, Nat.le_refl _, by omega, by omega⟩
  have := alloc_at (W1.setCell ⟨W.heap.size, 0, none⟩ (.pointer (some ⟨W1.heap.size, 0, none⟩))) (.cells #[.pointer (some ⟨p, 0, none⟩), .pointer (some ⟨q, 0, none⟩), nodeV (.many x.sn), nodeV (.many x.vn), .nilFunc, .nilFunc, .nilFunc] 70)
  simpa [World.setCell] using this
set_option maxHeartbeats 1000000 in
set_option maxRecDepth 100000 in
theorem Repeat_any (x : Ln) (qa f1 f2 : Nat) (w : World) (hx : PartAt w w.heap.size qa x) (hsx : NdFine x.sn) (hvx : NdFine x.vn)
    (hs : NdFine (.many x.sn)) (hv : NdFine (.many x.vn)) (hes : x.sa.last.testBit 0 = false) (hev : x.va.last.testBit 0 = false) (ho1 : onceP x.sa x.sm f1 = some true) (ho2 : onceP x.va x.vm f2 = some true) (h6 : 6 < w.heap.size) (hE : Env w) :
    Calls Tryz.prog 141 #[.pointer (some ⟨qa, 0, none⟩), .bool true] w fun e w' => ∃ b, e = .returned (.pointer (some ⟨b, 0, none⟩)) ∧ KPartAt w' w'.heap.size b x ∧ Below w.heap.size w w' := by
  have okOf : ∀ {n : Nd}, NdFine n → (newP n).Ok := fun h => newP_ok _ h.1 (by have := h.2; omega)
  have OX := Lib.hid (okOf hsx); have VX := Lib.hid (okOf hvx); have OM := Lib.hid (okOf hs); have VM := Lib.hid (okOf hv)
  obtain ⟨pa, pv, ga, ca, ua, hla, hba, hpa, hpva⟩ := hx.base
  obtain ⟨W, hW⟩ : ∃ W, (w.alloc (.cells #[.pointer (some ⟨qa, 0, none⟩)] 52)).alloc (.cells #[.bool true] 4) = W := ⟨_, rfl⟩
  have hbW : Below w.heap.size w W := by rw [← hW]; exact ((Below.refl _ _).alloc (Nat.le_refl _) _).alloc (by simp) _
  have hA : W.heap[w.heap.size]? = some (.cells #[.pointer (some ⟨qa, 0, none⟩)] 52 (0, 0)) := by rw [← hW]; exact alloc_old (alloc_at _ _) _
  have hB : W.heap[w.heap.size + 1]? = some (.cells #[.bool true] 4 (0, 0)) := by rw [← hW]; have := alloc_at (w.alloc (.cells #[.pointer (some ⟨qa, 0, none⟩)] 52)) (.cells #[.bool true] 4); simpa using this
  obtain ⟨t1, x1, e1⟩ := nodeV_iface x.sn
  obtain ⟨t3, x3, e3⟩ := nodeV_iface x.vn
  have hT : ∀ W', Below w.heap.size w W' → Calls Tryz.prog 112 #[.iface 208 (.agg #[.iface t1 x1]), .iface 208 (.agg #[.iface t3 x3])] W' (TypesPost W' (.many x.sn) (.many x.vn)) := by
    intro W' h1
    have := types_any (.many x.sn) (.many x.vn) W' hs hv (Nat.lt_of_lt_of_le h6 h1.size) (env_below h1 h6 hE)
    simp only [nodeV, e1, e3] at this
    exact this
  have hnodes : nodeV (.many x.sn) = .iface 208 (.agg #[.iface t1 x1]) ∧ nodeV (.many x.vn) = .iface 208 (.agg #[.iface t3 x3]) := by simp only [nodeV, e1, e3, and_self]
  have HNODES := Lib.hid hnodes
  rw [e1, e3] at hba
  have HT := Lib.hid hT
  have HBA := Lib.hid (below_at hbW hba hla)
  have HA := Lib.hid hA; have HB := Lib.hid hB; have HBW := Lib.hid hbW; have HW := Lib.hid hW
  have HPA := Lib.hid hpa; have HPV := Lib.hid hpva
  have HX := Lib.hid hx; have HE := Lib.hid hE
  have HO1 := Lib.hid ho1; have HO2 := Lib.hid ho2; have HES := Lib.hid hes; have HEV := Lib.hid hev
  have s0 : w.heap.size < W.heap.size := lt_of_at hA
  have s1 : w.heap.size + 1 < W.heap.size := lt_of_at hB
  have sqa : qa < W.heap.size := by omega
  have n1 : ¬ w.heap.size = W.heap.size := by omega
  have n2 : ¬ W.heap.size = w.heap.size := by omega
  have n3 : ¬ qa = W.heap.size := by omega
  have n4 : ¬ W.heap.size = qa := by omega
  have c0 : W.cell? ⟨w.heap.size, 0, none⟩ = some (.pointer (some ⟨qa, 0, none⟩)) := cell_at hA 0
  have c2 : W.cell? ⟨qa, 2, none⟩ = some (.iface t1 x1) := cell_at HBA.out 2
  have c3 : W.cell? ⟨qa, 3, none⟩ = some (.iface t3 x3) := cell_at HBA.out 3
  clear hx hba hpa hpva hA hB hbW hW hT hnodes e1 e3 hE ho1 ho2 hsx hvx hs hv okOf hes hev
  go_enter Tryz.func141, Tryz.ntmps141
  go_wp2
  rw [HW.out]
  refine wp_gather4 (repAct w.heap.size qa t1 t3 x1 x3 (nodeV x.sn.many) (nodeV x.vn.many)) (RepG W x) ?one ?two
  case' one => go_region_held3 (fun w' => w'.cell? ⟨w.heap.size, 0, none⟩ = some (.pointer (some ⟨qa, 0, none⟩)) ∧ w'.cell? ⟨qa, 2, none⟩ = some (.iface t1 x1) ∧ w'.cell? ⟨qa, 3, none⟩ = some (.iface t3 x3))
    (first
      | exact ⟨c0, c2, c3⟩
      | exact ⟨d0, d2, d3⟩
      | go_keep)
    (first
      | ((with_reducible refine (HT.out _ ?_).mono ?_)
         · first | exact HBW.out.drew | exact HBW.out.drew.alloc (by simp; omega) _
         rintro e W1 ⟨p, q, rfl, hp, hq, hb⟩
         have hB1 : Hid (Below W.heap.size W W1) := Lib.hid (by first | exact (Below.refl W.heap.size W).drew.trans hb | exact ((Below.refl W.heap.size W).drew.alloc (by simp) _).trans (hb.mono (by simp)))
         have HP1 := Lib.hid hp; have HQ1 := Lib.hid hq; have HB1 := Lib.hid hb
         have d0 : W1.cell? ⟨w.heap.size, 0, none⟩ = some (.pointer (some ⟨qa, 0, none⟩)) := (hB1.out.cell (p := ⟨w.heap.size, 0, none⟩) s0).trans c0
         have d2 : W1.cell? ⟨qa, 2, none⟩ = some (.iface t1 x1) := (hB1.out.cell (p := ⟨qa, 2, none⟩) sqa).trans c2
         have d3 : W1.cell? ⟨qa, 3, none⟩ = some (.iface t3 x3) := (hB1.out.cell (p := ⟨qa, 3, none⟩) sqa).trans c3
         have z1 : w.heap.size < W1.heap.size := Nat.lt_of_lt_of_le s0 hB1.out.size
         have z2 : qa < W1.heap.size := Nat.lt_of_lt_of_le sqa hB1.out.size
         try
           have d4 : W1.heap[W.heap.size]? = some (.cells #[.pointer none] 52 (0, 0)) := below_at hb (alloc_at W.drew (.cells #[.pointer none] 52)) (by simp)
           have d5 : W1.cell? ⟨W.heap.size, 0, none⟩ = some (.pointer none) := cell_at d4 0
           have d6 : W1.frozen? ⟨W.heap.size, 0, none⟩ = false := frozen_at d4 0
           have z3 : W.heap.size < W1.heap.size := lt_of_at d4
           have D4 := Lib.hid d4
           clear d4
         clear hp hq hb))
  case two =>
    intro p q b5 b22 w2 hG
    obtain ⟨g1, g2, g3, g4, g5, g6, g7, g8⟩ := hG
    have hw2 : Below w.heap.size w w2 := HBW.out.trans (g1.mono (by omega))
    have ws2 := hw2.size
    have wsW := g1.size
    have hqa2 := below_at g1 HBA.out sqa
    have hA2 := below_at g1 HA.out s0
    have hK2 := below_at g1 HB.out s1
    have u0 : w.heap.size < w2.heap.size := lt_of_at hA2
    have u5 : b5 < w2.heap.size := lt_of_at g2
    have u22 : b22 < w2.heap.size := lt_of_at g3
    have uq : qa < w2.heap.size := lt_of_at hqa2
    have K0 := Lib.hid (cell_at hA2 0); have K5 := Lib.hid (cell_at g2 0); have KQ0 := Lib.hid (cell_at hqa2 0); have KQ1 := Lib.hid (cell_at hqa2 1); have KB0 := Lib.hid (cell_at g3 0); have KB1 := Lib.hid (cell_at g3 1)
    have HW2 := Lib.hid hw2; have G1 := Lib.hid g1; have G2 := Lib.hid g2; have G3 := Lib.hid g3; have G4 := Lib.hid g4; have G5 := Lib.hid g5; have HA2 := Lib.hid hA2; have HK2 := Lib.hid hK2
    clear hw2 g1 g2 g3 g4 g5 hqa2 hA2 hK2 c0 c2 c3
    unfold repAct
    go_wp2
    refine wp_head (fun W' => Hid (Below w2.heap.size w2 W')) (by kernel_rfl) (by kernel_rfl) (Lib.hid (Below.refl _ _).drew) ?_
    iterate 5 (refine quiet_val (by kernel_rfl) (fun W' hW' => by
      have h1 : W'.cell? ⟨w.heap.size, 0, none⟩ = some (.pointer (some ⟨qa, 0, none⟩)) := (hW'.out.cell (p := ⟨w.heap.size, 0, none⟩) u0).trans K0.out
      have h2 : W'.cell? ⟨b5, 0, none⟩ = some (.pointer (some ⟨b22, 0, none⟩)) := (hW'.out.cell (p := ⟨b5, 0, none⟩) u5).trans K5.out
      have h3 : W'.cell? ⟨qa, 0, none⟩ = some (.pointer (some ⟨pa, 0, none⟩)) := (hW'.out.cell (p := ⟨qa, 0, none⟩) uq).trans KQ0.out
      have h4 : W'.cell? ⟨qa, 1, none⟩ = some (.pointer (some ⟨pv, 0, none⟩)) := (hW'.out.cell (p := ⟨qa, 1, none⟩) uq).trans KQ1.out
      have h5 : W'.cell? ⟨b22, 0, none⟩ = some (.pointer (some ⟨p, 0, none⟩)) := (hW'.out.cell (p := ⟨b22, 0, none⟩) u22).trans KB0.out
      have h6 : W'.cell? ⟨b22, 1, none⟩ = some (.pointer (some ⟨q, 0, none⟩)) := (hW'.out.cell (p := ⟨b22, 1, none⟩) u22).trans KB1.out
      go_simp; rfl) ?_; try go_simp)
    refine quiet_call (v := .bool false) (f := 167) (args := #[.pointer (some ⟨pa, 0, none⟩)]) (by kernel_rfl) (fun W' hW' => by go_simp) (fun W' hW' => ?_) ?_
    · have hb1 : Below w.heap.size w W' := HW2.out.trans (hW'.out.mono ws2)
      refine (aempty_any x.sa OX.out w.heap.size pa W' (HPA.out.same fun k hk => hb1.block k hk)).mono ?_
      rintro e w'' ⟨rfl, hb⟩
      exact ⟨by rw [HES.out], Lib.hid (hW'.out.trans (hb.mono hW'.out.size))⟩
    go_simp
    refine quiet_val (by kernel_rfl) (fun W' hW' => by go_simp; rfl) ?_
    go_simp
    refine quiet_val (by kernel_rfl) (fun W' hW' => by go_simp; rfl) ?_
    go_simp
    iterate 5 (refine quiet_val (by kernel_rfl) (fun W' hW' => by
      have h1 : W'.cell? ⟨w.heap.size, 0, none⟩ = some (.pointer (some ⟨qa, 0, none⟩)) := (hW'.out.cell (p := ⟨w.heap.size, 0, none⟩) u0).trans K0.out
      have h2 : W'.cell? ⟨b5, 0, none⟩ = some (.pointer (some ⟨b22, 0, none⟩)) := (hW'.out.cell (p := ⟨b5, 0, none⟩) u5).trans K5.out
      have h3 : W'.cell? ⟨qa, 0, none⟩ = some (.pointer (some ⟨pa, 0, none⟩)) := (hW'.out.cell (p := ⟨qa, 0, none⟩) uq).trans KQ0.out
      have h4 : W'.cell? ⟨qa, 1, none⟩ = some (.pointer (some ⟨pv, 0, none⟩)) := (hW'.out.cell (p := ⟨qa, 1, none⟩) uq).trans KQ1.out
      have h5 : W'.cell? ⟨b22, 0, none⟩ = some (.pointer (some ⟨p, 0, none⟩)) := (hW'.out.cell (p := ⟨b22, 0, none⟩) u22).trans KB0.out
      have h6 : W'.cell? ⟨b22, 1, none⟩ = some (.pointer (some ⟨q, 0, none⟩)) := (hW'.out.cell (p := ⟨b22, 1, none⟩) u22).trans KB1.out
      go_simp; rfl) ?_; try go_simp)
    refine quiet_call (v := .bool false) (f := 167) (args := #[.pointer (some ⟨pv, 0, none⟩)]) (by kernel_rfl) (fun W' hW' => by go_simp) (fun W' hW' => ?_) ?_
    · have hb1 : Below w.heap.size w W' := HW2.out.trans (hW'.out.mono ws2)
      refine (aempty_any x.va VX.out w.heap.size pv W' (HPV.out.same fun k hk => hb1.block k hk)).mono ?_
      rintro e w'' ⟨rfl, hb⟩
      exact ⟨by rw [HEV.out], Lib.hid (hW'.out.trans (hb.mono hW'.out.size))⟩
    go_simp
    refine quiet_val (by kernel_rfl) (fun W' hW' => by go_simp; rfl) ?_
    go_simp
    refine quiet_val (by kernel_rfl) (fun W' hW' => by go_simp; rfl) ?_
    go_simp
    refine quiet_val (by kernel_rfl) (fun W' hW' => by go_simp; rfl) ?_
    go_simp
    iterate 10 (refine quiet_val (by kernel_rfl) (fun W' hW' => by
      have h1 : W'.cell? ⟨w.heap.size, 0, none⟩ = some (.pointer (some ⟨qa, 0, none⟩)) := (hW'.out.cell (p := ⟨w.heap.size, 0, none⟩) u0).trans K0.out
      have h2 : W'.cell? ⟨b5, 0, none⟩ = some (.pointer (some ⟨b22, 0, none⟩)) := (hW'.out.cell (p := ⟨b5, 0, none⟩) u5).trans K5.out
      have h3 : W'.cell? ⟨qa, 0, none⟩ = some (.pointer (some ⟨pa, 0, none⟩)) := (hW'.out.cell (p := ⟨qa, 0, none⟩) uq).trans KQ0.out
      have h4 : W'.cell? ⟨qa, 1, none⟩ = some (.pointer (some ⟨pv, 0, none⟩)) := (hW'.out.cell (p := ⟨qa, 1, none⟩) uq).trans KQ1.out
      have h5 : W'.cell? ⟨b22, 0, none⟩ = some (.pointer (some ⟨p, 0, none⟩)) := (hW'.out.cell (p := ⟨b22, 0, none⟩) u22).trans KB0.out
      have h6 : W'.cell? ⟨b22, 1, none⟩ = some (.pointer (some ⟨q, 0, none⟩)) := (hW'.out.cell (p := ⟨b22, 1, none⟩) u22).trans KB1.out
      go_simp; rfl) ?_; try go_simp)
    refine quiet_call (v := .bool true) (f := 61) (args := #[.pointer (some ⟨pa, 0, none⟩), .pointer (some ⟨p, 0, none⟩)]) (by kernel_rfl) (fun W' hW' => by go_simp) (fun W' hW' => ?_) ?_
    · have hb1 : Below w.heap.size w W' := HW2.out.trans (hW'.out.mono ws2)
      refine (once_any W' x.sa x.sm w2.heap.size pa p f1 true OX.out OM.out ((HPA.out.same fun k hk => hb1.block k hk).mono ws2) (G4.out.same fun k hk => hW'.out.block k hk) hW'.out.size (by omega) (env_below hb1 h6 HE.out) HO1.out).mono ?_
      rintro e w'' ⟨rfl, hb⟩
      exact ⟨rfl, Lib.hid (hW'.out.trans (hb.mono hW'.out.size))⟩
    go_simp
    refine quiet_val (by kernel_rfl) (fun W' hW' => by go_simp; rfl) ?_
    go_simp
    refine quiet_val (by kernel_rfl) (fun W' hW' => by go_simp; rfl) ?_
    go_simp
    iterate 10 (refine quiet_val (by kernel_rfl) (fun W' hW' => by
      have h1 : W'.cell? ⟨w.heap.size, 0, none⟩ = some (.pointer (some ⟨qa, 0, none⟩)) := (hW'.out.cell (p := ⟨w.heap.size, 0, none⟩) u0).trans K0.out
      have h2 : W'.cell? ⟨b5, 0, none⟩ = some (.pointer (some ⟨b22, 0, none⟩)) := (hW'.out.cell (p := ⟨b5, 0, none⟩) u5).trans K5.out
      have h3 : W'.cell? ⟨qa, 0, none⟩ = some (.pointer (some ⟨pa, 0, none⟩)) := (hW'.out.cell (p := ⟨qa, 0, none⟩) uq).trans KQ0.out
      have h4 : W'.cell? ⟨qa, 1, none⟩ = some (.pointer (some ⟨pv, 0, none⟩)) := (hW'.out.cell (p := ⟨qa, 1, none⟩) uq).trans KQ1.out
      have h5 : W'.cell? ⟨b22, 0, none⟩ = some (.pointer (some ⟨p, 0, none⟩)) := (hW'.out.cell (p := ⟨b22, 0, none⟩) u22).trans KB0.out
      have h6 : W'.cell? ⟨b22, 1, none⟩ = some (.pointer (some ⟨q, 0, none⟩)) := (hW'.out.cell (p := ⟨b22, 1, none⟩) u22).trans KB1.out
      go_simp; rfl) ?_; try go_simp)
    refine quiet_call (v := .bool true) (f := 61) (args := #[.pointer (some ⟨pv, 0, none⟩), .pointer (some ⟨q, 0, none⟩)]) (by kernel_rfl) (fun W' hW' => by go_simp) (fun W' hW' => ?_) ?_
    · have hb1 : Below w.heap.size w W' := HW2.out.trans (hW'.out.mono ws2)
      refine (once_any W' x.va x.vm w2.heap.size pv q f2 true VX.out VM.out ((HPV.out.same fun k hk => hb1.block k hk).mono ws2) (G5.out.same fun k hk => hW'.out.block k hk) hW'.out.size (by omega) (env_below hb1 h6 HE.out) HO2.out).mono ?_
      rintro e w'' ⟨rfl, hb⟩
      exact ⟨rfl, Lib.hid (hW'.out.trans (hb.mono hW'.out.size))⟩
    go_simp
    refine quiet_val (by kernel_rfl) (fun W' hW' => by go_simp; rfl) ?_
    go_simp
    refine quiet_call (v := .tuple #[]) (f := 111) (args := #[.bool true]) (by kernel_rfl) (fun W' hW' => by go_simp) (fun W' hW' => ?_) ?_
    · refine (must_any W').mono ?_
      rintro e w'' ⟨rfl, rfl⟩
      exact ⟨rfl, hW'⟩
    refine wpQuiet_nil ?_
    intro w3 hW3
    have hb3 := below_at hW3.out G3.out u22
    have hp3 := below_at hW3.out G2.out u5
    have e5 : w3.cell? ⟨b5, 0, none⟩ = some (.pointer (some ⟨b22, 0, none⟩)) := cell_at hp3 0
    have f0 := frozen_at hb3
    have e1 : w3.cell? ⟨b22, 4, none⟩ = some .nilFunc := cell_at hb3 4
    have e2 : w3.cell? ⟨b22, 5, none⟩ = some .nilFunc := cell_at hb3 5
    have e3 : w3.cell? ⟨b22, 6, none⟩ = some .nilFunc := cell_at hb3 6
    have HB3 := Lib.hid hb3; have HP3 := Lib.hid hp3
    have HW3 := Lib.hid hW3.out
    have m1 : ¬ b5 = b22 := g8
    have m2 : ¬ b22 = b5 := fun e => g8 e.symm
    clear hW3 hb3 hp3
    go_simp
    go_wp2
    go_ret
    have ho := (((Only.refl b22 w3).setCell 4 (.func (.func 168) #[] #[.pointer (some ⟨w.heap.size, 0, none⟩), .pointer (some ⟨b5, 0, none⟩)])).setCell 6 (.func (.func 172) #[] #[.pointer (some ⟨w.heap.size, 0, none⟩), .pointer (some ⟨b5, 0, none⟩), .pointer (some ⟨w.heap.size + 1, 0, none⟩)])).setCell 5 (.func (.func 175) #[] #[.pointer (some ⟨b5, 0, none⟩)])
    have hbP := setCell_at (setCell_at (setCell_at HB3.out 4 (.func (.func 168) #[] #[.pointer (some ⟨w.heap.size, 0, none⟩), .pointer (some ⟨b5, 0, none⟩)])) 6 (.func (.func 172) #[] #[.pointer (some ⟨w.heap.size, 0, none⟩), .pointer (some ⟨b5, 0, none⟩), .pointer (some ⟨w.heap.size + 1, 0, none⟩)])) 5 (.func (.func 175) #[] #[.pointer (some ⟨b5, 0, none⟩)])
    generalize ((w3.setCell ⟨b22, 4, none⟩ (.func (.func 168) #[] #[.pointer (some ⟨w.heap.size, 0, none⟩), .pointer (some ⟨b5, 0, none⟩)])).setCell ⟨b22, 6, none⟩ (.func (.func 172) #[] #[.pointer (some ⟨w.heap.size, 0, none⟩), .pointer (some ⟨b5, 0, none⟩), .pointer (some ⟨w.heap.size + 1, 0, none⟩)])).setCell ⟨b22, 5, none⟩ (.func (.func 175) #[] #[.pointer (some ⟨b5, 0, none⟩)]) = WF at ho hbP ⊢
    have h23 := HW3.out
    have hs3 := h23.size
    have hsF := ho.size
    have hbF : Below w.heap.size w WF := by
      have h3 := HW2.out.trans (h23.mono ws2)
      exact ⟨ho.os.trans h3.os, ho.tape.trans h3.tape, ho.output.trans h3.output, Nat.le_trans h3.size hsF, fun k hk => (ho.block k (by omega) (by omega)).trans (h3.block k hk)⟩
    have far : ∀ {k : Nat} {o : Obj}, w2.heap[k]? = some o → k ≠ b22 → WF.heap[k]? = some o := fun hk hne => (ho.block _ (by have := lt_of_at hk; omega) hne).trans (below_at h23 hk (lt_of_at hk))
    have ga := (((G4.out.same fun k hk => h23.block k hk).mono hs3).only (Nat.le_refl _) HB3.out (by decide) (by decide) (by decide) ho).mono hsF
    have gb := (((G5.out.same fun k hk => h23.block k hk).mono hs3).only (Nat.le_refl _) HB3.out (by decide) (by decide) (by decide) ho).mono hsF
    exact ⟨b22, rfl, ⟨p, q, qa, w.heap.size, w.heap.size + 1, b5, by omega, by omega, by have := lt_of_at HK2.out; omega, by omega, hbP, ga, gb, far HA2.out (by omega), far HK2.out (by omega), far G2.out g8, HX.out.grow hbF⟩, hbF⟩
  all_goals first
    | exact ⟨_, _, _, _, rfl, repG1 hB1.out HP1.out HQ1.out⟩
    | exact ⟨_, _, _, _, rfl, repG2 hB1.out HP1.out HQ1.out⟩
    | exact ⟨_, _, _, _, rfl, repG3 hB1.out HP1.out HQ1.out D4.out⟩
/-- What is asked of a repetition. -/
def Ln.KFine (x : Ln) : Prop := x.Fine ∧ NdFine (.many x.sn) ∧ NdFine (.many x.vn) ∧ x.sa.last.testBit 0 = false ∧ x.va.last.testBit 0 = false ∧ (∃ f, onceP x.sa x.sm f = some true) ∧ (∃ f, onceP x.va x.vm f = some true)
def KMakePost (w : World) (x : Ln) (e : Ending) (w' : World) : Prop := ∃ b, e = .returned (.pointer (some ⟨b, 0, none⟩)) ∧ KPartAt w' w'.heap.size b x ∧ Below w.heap.size w w'
set_option maxHeartbeats 1000000 in
theorem mk_keys (x : Ln) (w : World) (b g : Nat) (cap : Array Value) (hf : x.KFine) (h6 : 6 < w.heap.size) (hE : Env w) (hb : w.heap[b]? = some (.cells #[.func (.func g) #[] cap] 87 (0, 0)))
    (eg : ∀ args w, (callFunc g args).run Tryz.prog w = .ok (.enter g args) w) (hx : ∀ W, Below w.heap.size w W → Calls Tryz.prog g cap W (MakePost W x)) :
    Calls Tryz.prog 140 #[.pointer (some ⟨b, 0, none⟩)] w (KMakePost w x) := by
  obtain ⟨hfx, k1, k2, k3, k4, ⟨f1, k5⟩, ⟨f2, k6⟩⟩ := hf
  have HX := Lib.hid hx
  have c0 : w.cell? ⟨b, 0, none⟩ = some (.func (.func g) #[] cap) := cell_at hb 0
  have HR := Lib.hid (fun (W : World) (qa : Nat) (hB : Below w.heap.size w W) (ha : PartAt W W.heap.size qa x) => Repeat_any x qa f1 f2 W ha hfx.nodes.1 hfx.nodes.2 k1 k2 k3 k4 k5 k6 (Nat.lt_of_lt_of_le h6 hB.size) (env_below hB h6 hE))
  clear hx hb hE hfx k1 k2 k3 k4 k5 k6
  go_enter Tryz.func140, Tryz.ntmps140
  go_wp2_with fail
  refine (HX.out w (Below.refl _ _)).mono ?_
  rintro e w1 ⟨q1, rfl, hp1, hb1⟩
  have HP1 := Lib.hid hp1; have HB1 := Lib.hid hb1
  clear hp1 hb1
  go_wp2_with fail
  refine (HR.out w1 q1 HB1.out HP1.out).mono ?_
  rintro e w2 ⟨b2, rfl, hp2, hb2⟩
  have HP2 := Lib.hid hp2; have HB2 := Lib.hid (HB1.out.trans (hb2.mono HB1.out.size))
  clear hp2 hb2
  go_wp2
  go_ret
  exact ⟨_, rfl, HP2.out, HB2.out⟩
end Go.Proofs.YtiocjdggdmeggaaGreatDoor
namespace Go.Proofs.YtiocjdggdmeggaaGreatDoor
open Go.RowKit Go.Shelf
theorem MakerAt.keepT {w w' : World} {r : Nat} {X : Ln} : ∀ {v : Value}, MakerAt w r v X → (∀ k us t, w.heap[k]? = some (.cells us t (0, 0)) → r < k → t = 64 ∨ t = 9 ∨ t = 87 → w'.heap[k]? = w.heap[k]?) → MakerAt w' r v X := by
  induction X with
  | copy n =>
    rintro v ⟨b, h1, h2, h3⟩ hs
    exact ⟨b, h1, h2, (hs b _ _ h3 h1 (by simp)).trans h3⟩
  | leave n t =>
    rintro v ⟨b, c, h1, h2, h3, h4, h5⟩ hs
    exact ⟨b, c, h1, h2, h3, (hs b _ _ h4 h1 (by simp)).trans h4, (hs c _ _ h5 h2 (by simp)).trans h5⟩
  | behind x y ihx ihy =>
    rintro v ⟨b, c, vx, vy, h1, h2, h3, h4, h5, h6, h7⟩ hs
    exact ⟨b, c, vx, vy, h1, h2, h3, (hs b _ _ h4 h1 (by simp)).trans h4, (hs c _ _ h5 h2 (by simp)).trans h5, ihx h6 hs, ihy h7 hs⟩
theorem KMaker.keepT {w w' : World} {r : Nat} {X : Ln} {v : Value} (h : KMaker w r v X) (hs : ∀ k us t, w.heap[k]? = some (.cells us t (0, 0)) → r < k → t = 64 ∨ t = 9 ∨ t = 87 → w'.heap[k]? = w.heap[k]?) : KMaker w' r v X := by
  obtain ⟨b, vx, h1, h2, h3, h4⟩ := h
  exact ⟨b, vx, h1, h2, (hs b _ _ h3 h1 (by simp)).trans h3, h4.keepT hs⟩
/-- A block of another type is turned, or one that is not behind r. -/
theorem KMaker.onlyT {w w' : World} {r c : Nat} {X : Ln} {v : Value} (h : KMaker w r v X) (ho : Only c w w') (hc : c ≤ r ∨ ∃ us t, w.heap[c]? = some (.cells us t (0, 0)) ∧ t ≠ 64 ∧ t ≠ 9 ∧ t ≠ 87) : KMaker w' r v X := by
  refine h.keepT fun k us t hk hr ht => ho.block k (lt_of_at hk) fun e => ?_
  subst e
  rcases hc with hc | ⟨us', t', h1, h2, h3, h4⟩
  · omega
  · rw [hk] at h1
    cases h1
    rcases ht with e | e | e
    · exact h2 e
    · exact h3 e
    · exact h4 e
def Prog1 (W : World) (r bm : Nat) (X : Ln) (n : Nat) (w' : World) : Prop := ∃ v, w'.heap[bm]? = some (.cells #[v] 87 (0, 0)) ∧ KMaker w' r v X ∧ RdAt w' r [] n ∧ Ext (fun j => j = r ∨ j = bm) W w'
theorem Only.ext {k : Nat} {S : Nat → Prop} {a b : World} (h : Only k a b) (hk : S k) : Ext S a b := ⟨h.os, h.tape, h.output, h.size, fun i hi hn => h.block i hi (fun e => hn (e ▸ hk))⟩
theorem prog1_any (W : World) (r bm : Nat) (l : Txt) (X : Ln) (k : Nat) (h : RdAt W r (60 :: l) 0) (hm : W.heap[bm]? = some (.cells #[.nilFunc] 87 (0, 0))) (hlt : bm < r) (hp : RowP l X [62] k) (hk : k ≤ 1000) :
    Calls Tryz.prog 49 #[.pointer (some ⟨r, 0, none⟩), .pointer (some ⟨bm, 0, none⟩)] W fun e w' => e = .returned (.tuple #[]) ∧ Prog1 W r bm X (k + 1) w' := by
  have HL := Lib.hid (lens_keys W r l X 0 k h hp (by omega))
  have HM := Lib.hid hm
  have sm := lt_of_at hm
  clear h hm hp
  go_enter Tryz.func49, Tryz.ntmps49
  go_wp2_with fail
  refine HL.out.mono ?_
  rintro e w1 ⟨v, rfl, hk1, hr1, ho1⟩
  have hv : ∃ f a b, v = .func f a b := by obtain ⟨b, vx, _, h2, _⟩ := hk1; exact ⟨_, _, _, h2⟩
  obtain ⟨f, a, b, rfl⟩ := hv
  have hm1 := (ho1.block bm sm (by omega)).trans HM.out
  have c0 : w1.cell? ⟨bm, 0, none⟩ = some .nilFunc := cell_at hm1 0
  have f0 := frozen_at hm1 0
  have HM1 := Lib.hid hm1; have HK1 := Lib.hid hk1; have HR1 := Lib.hid hr1; have HO1 := Lib.hid ho1
  clear hm1 hk1 hr1 ho1
  go_wp2
  go_end0
  have ho2 : Only bm w1 (w1.setCell ⟨bm, 0, none⟩ (.func f a b)) := (Only.refl _ _).setCell 0 _
  refine ⟨rfl, _, setCell_at HM1.out 0 _, HK1.out.onlyT ho2 (.inl (by omega)), ?_, ?_⟩
  · have := HR1.out
    rw [Nat.zero_add] at this
    exact (ho2.block r (lt_of_at HR1.out) (by omega)).trans this
  · exact (HO1.out.ext (S := fun j => j = r ∨ j = bm) (.inl rfl)).trans (ho2.ext (.inr rfl)) (fun _ _ h => h)
theorem read1_any (W : World) (r bm b3 b5 : Nat) (l : Txt) (X : Ln) (k : Nat) (h : RdAt W r (60 :: l) 0) (hm : W.heap[bm]? = some (.cells #[.nilFunc] 87 (0, 0))) (hlt : bm < r) (hp : RowP l X [62] k) (hk : k ≤ 1000)
    (h3 : W.heap[b3]? = some (.cells #[.func (.func 49) #[] #[.pointer (some ⟨bm, 0, none⟩)]] 91 (0, 0))) (h5 : W.heap[b5]? = some (.cells #[.pointer (some ⟨r, 0, none⟩)] 89 (0, 0))) :
    Calls Tryz.prog 78 #[.pointer (some ⟨b3, 0, none⟩), .pointer (some ⟨b5, 0, none⟩)] W fun e w' => e = .returned (.tuple #[]) ∧ Prog1 W r bm X (k + 1) w' := by
  have HP := Lib.hid (prog1_any W r bm l X k h hm hlt hp hk)
  have c3 : W.cell? ⟨b3, 0, none⟩ = some (.func (.func 49) #[] #[.pointer (some ⟨bm, 0, none⟩)]) := cell_at h3 0
  have c5 : W.cell? ⟨b5, 0, none⟩ = some (.pointer (some ⟨r, 0, none⟩)) := cell_at h5 0
  have n5 : b5 ≠ r := fun e => by subst e; rw [h] at h5; cases h5
  have m5 : b5 ≠ bm := fun e => by subst e; rw [hm] at h5; cases h5
  have H5 := Lib.hid h5
  clear h hm hp h3 h5
  go_enter Tryz.func78, Tryz.ntmps78
  go_wp2_with fail
  refine HP.out.mono ?_
  rintro e w1 ⟨rfl, v, hm1, hk1, hr1, hx1⟩
  have h51 := hx1.at' H5.out (fun h => by rcases h with h | h; exact n5 h; exact m5 h)
  have s5 := lt_of_at h51
  have sr := lt_of_at hr1
  have H51 := Lib.hid h51; have HM1 := Lib.hid hm1; have HK1 := Lib.hid hk1; have HR1 := Lib.hid hr1; have HX1 := Lib.hid hx1
  clear h51 hm1 hk1 hr1 hx1 c3 c5
  go_wp2
  refine wp_head (fun W' => Hid (Below w1.heap.size w1 W')) (by kernel_rfl) (by kernel_rfl) (Lib.hid (Below.refl _ _).drew) ?_
  iterate 6 (refine quiet_val (by rfl) (fun W' hW' => by
    have e1 : W'.cell? ⟨b5, 0, none⟩ = some (.pointer (some ⟨r, 0, none⟩)) := (hW'.out.cell (p := ⟨b5, 0, none⟩) s5).trans (cell_at H51.out 0)
    have e2 : W'.cell? ⟨r, 0, none⟩ = some (.string ⟨([] : Txt).toArray⟩) := (hW'.out.cell (p := ⟨r, 0, none⟩) sr).trans (cell_at HR1.out 0)
    go_simp; rfl) ?_; try go_simp)
  refine quiet_call (v := .tuple #[]) (f := 79) (args := #[.pointer (some ⟨r, 0, none⟩), .bool true]) (by rfl) (fun W' hW' => by go_simp) (fun W' hW' => ?_) ?_
  · refine (rmust_any _ W').mono ?_
    rintro e w'' ⟨rfl, rfl⟩
    exact ⟨rfl, hW'⟩
  refine wpQuiet_nil ?_
  intro w2 hW2
  have HW2 := Lib.hid hW2.out
  clear hW2
  go_simp
  go_wp2
  go_end0
  have hb := HW2.out
  refine ⟨rfl, v, below_at hb HM1.out (lt_of_at HM1.out), HK1.out.keep fun k hk _ => hb.block k hk, below_at hb HR1.out (lt_of_at HR1.out), HX1.out.trans (Ext.of_below hb (Nat.le_refl _)) (fun _ _ h => h)⟩
end Go.Proofs.YtiocjdggdmeggaaGreatDoor
