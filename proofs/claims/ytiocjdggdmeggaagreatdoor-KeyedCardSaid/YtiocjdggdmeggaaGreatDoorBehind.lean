/-
  The walk of part.types.
  Parts in memory; the walks of Copy and of Leave, and of the makers that call them.
  The walk of Leave, and of the maker that calls it.
  The walk of Behind.
-/
import Derived.Test.YtiocjdggdmeggaaGreatDoorCatch
namespace Go.Proofs.YtiocjdggdmeggaaGreatDoor
open Go.RowKit Go.Shelf
/-- A block of another type than an automaton's is turned: the automaton stays. -/
theorem AutoAt.only {w w' : World} {T p b : Nat} {A : PA} (h : AutoAt w T p A) (hT : T ≤ w.heap.size) {us : Array Value} {t : TypeId} {fr : Nat × Nat} (hb : w.heap[b]? = some (.cells us t fr)) (h1 : t ≠ 154) (h2 : t ≠ 195) (h3 : t ≠ 152) (ho : Only b w w') : AutoAt w' T p A := by
  obtain ⟨gs, cs, gf, cf, k1, k2, k3, k4, k5, k6⟩ := h
  have hp : p ≠ b := fun e => by subst e; rw [k4] at hb; cases hb; exact h1 rfl
  have hgs : gs ≠ b := fun e => by
    subst e
    rcases k5.2 with ⟨h, _⟩ | ⟨g, cap, cur, hv, _, hh, _⟩
    · cases h
    · cases hv; rw [hh] at hb; cases hb; exact h2 rfl
  have hgf : gf ≠ b := fun e => by
    subst e
    rcases k6.2 with ⟨h, _⟩ | ⟨g, cap, cur, hv, _, hh, _⟩
    · cases h
    · cases hv; rw [hh] at hb; cases hb; exact h3 rfl
  exact ⟨gs, cs, gf, cf, k1, k2, k3, (ho.block p (by omega) hp).trans k4, ownsRow_same k5 (ho.block gs (by omega) hgs), ownsRow_same k6 (ho.block gf (by omega) hgf)⟩
def TypesPost (w : World) (s v : Nd) (e : Ending) (w' : World) : Prop :=
  ∃ p q, e = .returned (.agg #[.pointer (some ⟨p, 0, none⟩), .pointer (some ⟨q, 0, none⟩), nodeV s, nodeV v]) ∧ AutoAt w' w'.heap.size p (newP s) ∧ AutoAt w' w'.heap.size q (newP v) ∧ Below w.heap.size w w'
set_option maxHeartbeats 1000000 in
theorem types_any (s v : Nd) (w : World) (hs : s.Ok ∧ s.places ≤ 59) (hv : v.Ok ∧ v.places ≤ 59) (h6 : 6 < w.heap.size) (hE : Env w) :
    Calls Tryz.prog 112 #[nodeV s, nodeV v] w (TypesPost w s v) := by
  have hN1 := new_any s (w.alloc (.cells #[.pointer none, .pointer none, .nilIface, .nilIface] 66)) hs.1 hs.2 (by simp; omega) (env_below ((Below.refl _ _).alloc (Nat.le_refl _) _) h6 hE)
  have hN2 := fun W hW hEW => new_any v W hv.1 hv.2 hW hEW
  obtain ⟨t, x, ex⟩ := nodeV_iface s
  obtain ⟨t2, x2, ex2⟩ := nodeV_iface v
  unfold TypesPost
  rw [ex] at hN1 ⊢
  rw [ex2] at hN2 ⊢
  have HN1 := Lib.hid hN1
  have HN2 := Lib.hid hN2
  have HE := Lib.hid hE
  clear hN1 hN2 ex ex2 hE
  go_enter Tryz.func112, Tryz.ntmps112
  go_wp2_with fail
  refine HN1.out.mono ?_
  rintro e w1 ⟨p, rfl, hp, hA, hb⟩
  have hbx : w1.heap[w.heap.size]? = some (.cells #[.pointer none, .pointer none, .nilIface, .nilIface] 66 (0, 0)) := below_at hb (alloc_at w _) (by simp)
  have HA := Lib.hid hA
  have HB := Lib.hid hb
  have HBX := Lib.hid hbx
  have hsz : w.heap.size < w1.heap.size := lt_of_at hbx
  clear hp hA hb hbx
  go_wp2_with fail
  refine (HN2.out w1 (by omega) (env_below HB.out (by simp; omega) (env_below ((Below.refl _ _).alloc (Nat.le_refl _) _) h6 HE.out))).mono ?_
  rintro e w2 ⟨q, rfl, hq, hA2, hb2⟩
  have hbx2 := below_at hb2 HBX.out hsz
  have c0 : w2.cell? ⟨w.heap.size, 0, none⟩ = some (.pointer none) := cell_at hbx2 0
  have c1 : w2.cell? ⟨w.heap.size, 1, none⟩ = some (.pointer none) := cell_at hbx2 1
  have c2 : w2.cell? ⟨w.heap.size, 2, none⟩ = some .nilIface := cell_at hbx2 2
  have c3 : w2.cell? ⟨w.heap.size, 3, none⟩ = some .nilIface := cell_at hbx2 3
  have f0 := frozen_at hbx2
  have HA1 := Lib.hid ((HA.out.same fun k hk => hb2.block k hk).mono hb2.size)
  have HA2 := Lib.hid hA2
  have HB2 := Lib.hid hb2
  have HBX2 := Lib.hid hbx2
  clear hq hA2 hb2 hbx2
  go_wp2
  have hbx4 := setCell_at (setCell_at (setCell_at (setCell_at HBX2.out 0 (.pointer (some ⟨p, 0, none⟩))) 1 (.pointer (some ⟨q, 0, none⟩))) 2 (.iface t x)) 3 (.iface t2 x2)
  have ho4 := ((((Only.refl w.heap.size w2).setCell 0 (.pointer (some ⟨p, 0, none⟩))).setCell 1 (.pointer (some ⟨q, 0, none⟩))).setCell 2 (.iface t x)).setCell 3 (.iface t2 x2)
  generalize (((w2.setCell ⟨w.heap.size, 0, none⟩ (.pointer (some ⟨p, 0, none⟩))).setCell ⟨w.heap.size, 1, none⟩ (.pointer (some ⟨q, 0, none⟩))).setCell ⟨w.heap.size, 2, none⟩ (.iface t x)).setCell ⟨w.heap.size, 3, none⟩ (.iface t2 x2) = W4 at hbx4 ho4 ⊢
  have d0 : W4.cell? ⟨w.heap.size, 0, none⟩ = some (.pointer (some ⟨p, 0, none⟩)) := cell_at hbx4 0
  have d1 : W4.cell? ⟨w.heap.size, 1, none⟩ = some (.pointer (some ⟨q, 0, none⟩)) := cell_at hbx4 1
  have d2 : W4.cell? ⟨w.heap.size, 2, none⟩ = some (.iface t x) := cell_at hbx4 2
  have d3 : W4.cell? ⟨w.heap.size, 3, none⟩ = some (.iface t2 x2) := cell_at hbx4 3
  have hb4 : Below w.heap.size w W4 := by
    have hb12 : Below w.heap.size w w2 := (((Below.refl _ _).alloc (Nat.le_refl _) _).trans (HB.out.mono (by simp))).trans (HB2.out.mono (by omega))
    exact ⟨ho4.os.trans hb12.os, ho4.tape.trans hb12.tape, ho4.output.trans hb12.output, Nat.le_trans hb12.size ho4.size, fun k hk => (ho4.block k (by have := hb12.size; omega) (by omega)).trans (hb12.block k hk)⟩
  have hA1 := (HA1.out.only (Nat.le_refl _) HBX2.out (by decide) (by decide) (by decide) ho4).mono ho4.size
  have hA2 := (HA2.out.only (Nat.le_refl _) HBX2.out (by decide) (by decide) (by decide) ho4).mono ho4.size
  refine bodyPost_ret (v := .agg #[.pointer (some ⟨p, 0, none⟩), .pointer (some ⟨q, 0, none⟩), .iface t x, .iface t2 x2]) ?_ rfl ⟨p, q, rfl, hA1, hA2, hb4⟩
  clear hb4 hA1 hA2 ho4 hbx4
  simp [results, Tryz.results112, go_sem, d0, d1, d2, d3]
end Go.Proofs.YtiocjdggdmeggaaGreatDoor
namespace Go.Proofs.YtiocjdggdmeggaaGreatDoor
open Go.RowKit Go.Shelf
/-- The part X lies at block b, all of it below block T. -/
def PartAt (w : World) (T : Nat) : Nat → Ln → Prop
  | b, .copy n => ∃ pa pv, b < T ∧ w.heap[b]? = some (.cells #[.pointer (some ⟨pa, 0, none⟩), .pointer (some ⟨pv, 0, none⟩), nodeV n, nodeV n, .func (.func 156) #[] #[], .func (.func 156) #[] #[], .func (.func 157) #[] #[]] 70 (0, 0)) ∧
      AutoAt w T pa (newP n) ∧ AutoAt w T pv (newP n)
  | b, .leave n t => ∃ pa pv bt, b < T ∧ bt < T ∧ w.heap[b]? = some (.cells #[.pointer (some ⟨pa, 0, none⟩), .pointer (some ⟨pv, 0, none⟩), nodeV n, nodeV .empty, .func (.func 160) #[] #[], .func (.func 161) #[] #[.pointer (some ⟨bt, 0, none⟩)], .func (.func 162) #[] #[]] 70 (0, 0)) ∧
      AutoAt w T pa (newP n) ∧ AutoAt w T pv (newP .empty) ∧ w.heap[bt]? = some (.cells #[.string ⟨t.toArray⟩] 9 (0, 0))
  | b, .behind x y => ∃ pa pv ba bb qa qb, b < T ∧ ba < T ∧ bb < T ∧ w.heap[b]? = some (.cells #[.pointer (some ⟨pa, 0, none⟩), .pointer (some ⟨pv, 0, none⟩), nodeV (.row x.sn y.sn), nodeV (.row x.vn y.vn),
        .func (.func 145) #[] #[.pointer (some ⟨ba, 0, none⟩), .pointer (some ⟨bb, 0, none⟩)], .func (.func 147) #[] #[.pointer (some ⟨ba, 0, none⟩), .pointer (some ⟨bb, 0, none⟩)], .func (.func 148) #[] #[.pointer (some ⟨ba, 0, none⟩), .pointer (some ⟨bb, 0, none⟩)]] 70 (0, 0)) ∧
      AutoAt w T pa (newP (.row x.sn y.sn)) ∧ AutoAt w T pv (newP (.row x.vn y.vn)) ∧ w.heap[ba]? = some (.cells #[.pointer (some ⟨qa, 0, none⟩)] 52 (0, 0)) ∧ w.heap[bb]? = some (.cells #[.pointer (some ⟨qb, 0, none⟩)] 52 (0, 0)) ∧
      PartAt w T qa x ∧ PartAt w T qb y
theorem PartAt.keep {w w' : World} {T : Nat} {X : Ln} : ∀ {b : Nat}, PartAt w T b X → (∀ k, k < T → w'.heap[k]? = w.heap[k]?) → PartAt w' T b X := by
  induction X with
  | copy n =>
    rintro b ⟨pa, pv, h1, h2, h3, h4⟩ hs
    exact ⟨pa, pv, h1, (hs b h1).trans h2, h3.same hs, h4.same hs⟩
  | leave n t =>
    rintro b ⟨pa, pv, bt, h1, h2, h3, h4, h5, h6⟩ hs
    exact ⟨pa, pv, bt, h1, h2, (hs b h1).trans h3, h4.same hs, h5.same hs, (hs bt h2).trans h6⟩
  | behind x y ihx ihy =>
    rintro b ⟨pa, pv, ba, bb, qa, qb, h1, h2, h3, h4, h5, h6, h7, h8, h9, h10⟩ hs
    exact ⟨pa, pv, ba, bb, qa, qb, h1, h2, h3, (hs b h1).trans h4, h5.same hs, h6.same hs, (hs ba h2).trans h7, (hs bb h3).trans h8, ihx h9 hs, ihy h10 hs⟩
theorem PartAt.mono {w : World} {T T' : Nat} {X : Ln} (hT : T ≤ T') : ∀ {b : Nat}, PartAt w T b X → PartAt w T' b X := by
  induction X with
  | copy n =>
    rintro b ⟨pa, pv, h1, h2, h3, h4⟩
    exact ⟨pa, pv, by omega, h2, h3.mono hT, h4.mono hT⟩
  | leave n t =>
    rintro b ⟨pa, pv, bt, h1, h2, h3, h4, h5, h6⟩
    exact ⟨pa, pv, bt, by omega, by omega, h3, h4.mono hT, h5.mono hT, h6⟩
  | behind x y ihx ihy =>
    rintro b ⟨pa, pv, ba, bb, qa, qb, h1, h2, h3, h4, h5, h6, h7, h8, h9, h10⟩
    exact ⟨pa, pv, ba, bb, qa, qb, by omega, by omega, by omega, h4, h5.mono hT, h6.mono hT, h7, h8, ihx h9, ihy h10⟩
/-- The world grew: the part stays. -/
theorem PartAt.grow {w w' : World} {b : Nat} {X : Ln} (h : PartAt w w.heap.size b X) (hb : Below w.heap.size w w') : PartAt w' w'.heap.size b X := (h.keep fun k hk => hb.block k hk).mono hb.size
def MakePost (w : World) (X : Ln) (e : Ending) (w' : World) : Prop := ∃ b, e = .returned (.pointer (some ⟨b, 0, none⟩)) ∧ PartAt w' w'.heap.size b X ∧ Below w.heap.size w w'
set_option maxHeartbeats 1000000 in
theorem Copy_any (n : Nd) (w : World) (hn : n.Ok ∧ n.places ≤ 59) (h6 : 6 < w.heap.size) (hE : Env w) : Calls Tryz.prog 134 #[nodeV n] w (MakePost w (.copy n)) := by
  have hT := types_any n n w hn hn h6 hE
  obtain ⟨t, x, ex⟩ := nodeV_iface n
  unfold TypesPost at hT
  rw [ex] at hT ⊢
  have HT := Lib.hid hT
  have HEX := Lib.hid ex
  clear hT ex hE
  go_enter Tryz.func134, Tryz.ntmps134
  go_wp2_with fail
  refine HT.out.mono ?_
  rintro e w1 ⟨p, q, rfl, hp, hq, hb⟩
  have HP := Lib.hid hp
  have HQ := Lib.hid hq
  have HB := Lib.hid hb
  clear hp hq hb
  go_wp2
  go_ret
  have hal : ∀ o, Below w1.heap.size w1 (w1.alloc o) := fun o => (Below.refl _ _).alloc (Nat.le_refl _) _
  refine ⟨_, rfl, ⟨p, q, by simp, by rw [HEX.out]; exact alloc_at w1 _, ?_, ?_⟩, HB.out.alloc HB.out.size _⟩
  · exact (HP.out.same fun k hk => Below.heap_alloc _ _ _ hk).mono (by simp)
  · exact (HQ.out.same fun k hk => Below.heap_alloc _ _ _ hk).mono (by simp)
theorem mk_copy (w : World) (b : Nat) (n : Nd) (hn : n.Ok ∧ n.places ≤ 59) (h6 : 6 < w.heap.size) (hE : Env w) (h : w.heap[b]? = some (.cells #[nodeV n] 64 (0, 0))) : Calls Tryz.prog 133 #[.pointer (some ⟨b, 0, none⟩)] w (MakePost w (.copy n)) := by
  have hC := Copy_any n w hn h6 hE
  obtain ⟨t, x, ex⟩ := nodeV_iface n
  rw [ex] at hC h
  have HC := Lib.hid hC
  have c0 : w.cell? ⟨b, 0, none⟩ = some (.iface t x) := cell_at h 0
  clear hC ex h hE
  go_enter Tryz.func133, Tryz.ntmps133
  go_wp2_with fail
  refine HC.out.mono ?_
  rintro e w1 ⟨b1, rfl, hp, hb⟩
  have HP := Lib.hid hp
  have HB := Lib.hid hb
  clear hp hb
  go_wp2
  go_ret
  exact ⟨_, rfl, HP.out, HB.out⟩
end Go.Proofs.YtiocjdggdmeggaaGreatDoor
namespace Go.Proofs.YtiocjdggdmeggaaGreatDoor
open Go.RowKit Go.Shelf
theorem list_of (t : Txt) : (⟨t.toArray⟩ : ByteArray).data.toList = t := rfl
theorem size_of_txt (t : Txt) : (⟨t.toArray⟩ : ByteArray).size = t.length := rfl
set_option maxHeartbeats 1000000 in
set_option maxRecDepth 100000 in
theorem Leave_any (n : Nd) (t : Txt) (w : World) (hn : n.Ok ∧ n.places ≤ 59) (ht : t.length ≤ 1000 ∧ (∀ b ∈ t, b.toNat < 128) ∧ (newP n).is t = true) (h6 : 6 < w.heap.size) (hE : Env w) :
    Calls Tryz.prog 137 #[nodeV n, .string ⟨t.toArray⟩] w (MakePost w (.leave n t)) := by
  have hT := types_any n .empty (w.alloc (.cells #[.string ⟨t.toArray⟩] 9)) hn ⟨trivial, by decide⟩ (by simp; omega) (env_below ((Below.refl _ _).alloc (Nat.le_refl _) _) h6 hE)
  obtain ⟨tt, x, ex⟩ := nodeV_iface n
  unfold TypesPost at hT
  rw [ex, show nodeV .empty = .iface 180 (.agg #[]) from rfl] at hT
  rw [ex]
  have HT := Lib.hid hT
  have HEX := Lib.hid ex
  have HE := Lib.hid hE
  have HN := Lib.hid hn
  have HTT := Lib.hid ht
  clear hT ex hE ht hn
  go_enter Tryz.func137, Tryz.ntmps137
  go_wp2_with fail
  refine HT.out.mono ?_
  rintro e w1 ⟨p, q, rfl, hp, hq, hb⟩
  have hbt := below_at hb (alloc_at w (.cells #[.string ⟨t.toArray⟩] 9)) (by simp)
  have hbw : Below w.heap.size w w1 := ((Below.refl _ _).alloc (Nat.le_refl _) _).trans (hb.mono (by simp))
  have hsz : w.heap.size < w1.heap.size := lt_of_at hbt
  have HP := Lib.hid hp
  have HQ := Lib.hid hq
  have HB := Lib.hid hbw
  have HBT := Lib.hid hbt
  clear hp hq hb hbw hbt
  go_wp2
  obtain ⟨W, hW⟩ : ∃ W, w1.alloc (.cells #[.pointer (some ⟨p, 0, none⟩), .pointer (some ⟨q, 0, none⟩), .iface tt x, .iface 180 (.agg #[]), .nilFunc, .nilFunc, .nilFunc] 70) = W := ⟨_, rfl⟩
  have hbW : Below w1.heap.size w1 W := by rw [← hW]; exact (Below.refl _ _).alloc (Nat.le_refl _) _
  have hbP : W.heap[w1.heap.size]? = some (.cells #[.pointer (some ⟨p, 0, none⟩), .pointer (some ⟨q, 0, none⟩), .iface tt x, .iface 180 (.agg #[]), .nilFunc, .nilFunc, .nilFunc] 70 (0, 0)) := by rw [← hW]; exact alloc_at _ _
  rw [hW]
  have HBW := Lib.hid hbW
  have HBP := Lib.hid hbP
  have HBTW := Lib.hid (below_at hbW HBT.out hsz)
  have hs1 : w1.heap.size < W.heap.size := lt_of_at hbP
  clear hW hbW hbP
  refine wp_head (fun W' => Hid (Below W.heap.size W W')) (by kernel_rfl) (by kernel_rfl) (Lib.hid (Below.refl _ _).drew) ?_
  iterate 4 (refine quiet_val (by rfl) (fun W' hW' => by
    have h1 : W'.cell? ⟨w.heap.size, 0, none⟩ = some (.string ⟨t.toArray⟩) := (hW'.out.cell (p := ⟨w.heap.size, 0, none⟩) (Nat.lt_trans hsz hs1)).trans (cell_at HBTW.out 0)
    go_simp; rfl) ?_; try go_simp)
  refine quiet_call (v := .bool true) (f := 41) (args := #[.pointer (some ⟨w1.heap.size, 0, none⟩), .string ⟨t.toArray⟩]) (by rfl) (fun W' hW' => by go_simp) (fun W' hW' => ?_) ?_
  · have hb1 : Below w1.heap.size w1 W' := HBW.out.trans (hW'.out.mono (by omega))
    refine (isSource_any (newP n) (newP_ok n HN.out.1 (by have := HN.out.2; omega)) ⟨t.toArray⟩ w1.heap.size p w1.heap.size W' (by rw [size_of_txt]; exact HTT.out.1) (by rw [list_of]; exact HTT.out.2.1) (HP.out.same fun k hk => hb1.block k hk) hb1.size (by omega)
      (env_below hb1 (by omega) (env_below HB.out h6 HE.out)) ((hW'.out.cell (p := ⟨w1.heap.size, 0, none⟩) hs1).trans (cell_at HBP.out 0))).mono ?_
    rintro e w'' ⟨rfl, hb⟩
    exact ⟨by rw [list_of, HTT.out.2.2], Lib.hid (hW'.out.trans (hb.mono hW'.out.size))⟩
  go_simp
  refine quiet_call (v := .tuple #[]) (f := 111) (args := #[.bool true]) (by rfl) (fun W' hW' => by go_simp) (fun W' hW' => ?_) ?_
  · refine (must_any W').mono ?_
    rintro e w'' ⟨rfl, rfl⟩
    exact ⟨rfl, hW'⟩
  refine wpQuiet_nil ?_
  intro w3 hW3
  have hb3 := below_at hW3.out HBP.out hs1
  have f0 := frozen_at hb3
  have c1 : w3.cell? ⟨w1.heap.size, 4, none⟩ = some .nilFunc := cell_at hb3 4
  have c2 : w3.cell? ⟨w1.heap.size, 5, none⟩ = some .nilFunc := cell_at hb3 5
  have c3 : w3.cell? ⟨w1.heap.size, 6, none⟩ = some .nilFunc := cell_at hb3 6
  have HB3 := Lib.hid hb3
  have HW3 := Lib.hid (HBW.out.trans (hW3.out.mono (by omega)))
  clear hW3 hb3
  go_simp
  go_wp2
  go_ret
  have hbP := setCell_at (setCell_at (setCell_at HB3.out 4 (.func (.func 160) #[] #[])) 5 (.func (.func 161) #[] #[.pointer (some ⟨w.heap.size, 0, none⟩)])) 6 (.func (.func 162) #[] #[])
  have ho := (((Only.refl w1.heap.size w3).setCell 4 (.func (.func 160) #[] #[])).setCell 5 (.func (.func 161) #[] #[.pointer (some ⟨w.heap.size, 0, none⟩)])).setCell 6 (.func (.func 162) #[] #[])
  generalize ((w3.setCell ⟨w1.heap.size, 4, none⟩ (.func (.func 160) #[] #[])).setCell ⟨w1.heap.size, 5, none⟩ (.func (.func 161) #[] #[.pointer (some ⟨w.heap.size, 0, none⟩)])).setCell ⟨w1.heap.size, 6, none⟩ (.func (.func 162) #[] #[]) = WF at hbP ho ⊢
  have hs3 := HW3.out.size
  have hbF : Below w1.heap.size w1 WF := ⟨ho.os.trans HW3.out.os, ho.tape.trans HW3.out.tape, ho.output.trans HW3.out.output, Nat.le_trans hs3 ho.size, fun k hk => (ho.block k (by omega) (by omega)).trans (HW3.out.block k hk)⟩
  have hsF := hbF.size
  refine ⟨_, rfl, ⟨p, q, w.heap.size, lt_of_at hbP, by omega, ?_, ?_, ?_, below_at hbF HBT.out hsz⟩, HB.out.trans (hbF.mono (by omega))⟩
  · rw [HEX.out]; exact hbP
  · exact (HP.out.same fun k hk => hbF.block k hk).mono hsF
  · exact (HQ.out.same fun k hk => hbF.block k hk).mono hsF
theorem mk_leave (w : World) (b c : Nat) (n : Nd) (t : Txt) (hn : n.Ok ∧ n.places ≤ 59) (ht : t.length ≤ 1000 ∧ (∀ b ∈ t, b.toNat < 128) ∧ (newP n).is t = true) (h6 : 6 < w.heap.size) (hE : Env w) (h : w.heap[b]? = some (.cells #[nodeV n] 64 (0, 0))) (hc : w.heap[c]? = some (.cells #[.string ⟨t.toArray⟩] 9 (0, 0))) :
    Calls Tryz.prog 136 #[.pointer (some ⟨b, 0, none⟩), .pointer (some ⟨c, 0, none⟩)] w (MakePost w (.leave n t)) := by
  have hC := Leave_any n t w hn ht h6 hE
  obtain ⟨tt, x, ex⟩ := nodeV_iface n
  rw [ex] at hC h
  have HC := Lib.hid hC
  have c0 : w.cell? ⟨b, 0, none⟩ = some (.iface tt x) := cell_at h 0
  have c1 : w.cell? ⟨c, 0, none⟩ = some (.string ⟨t.toArray⟩) := cell_at hc 0
  clear hC ex h hE hc ht
  go_enter Tryz.func136, Tryz.ntmps136
  go_wp2_with fail
  refine HC.out.mono ?_
  rintro e w1 ⟨b1, rfl, hp, hb⟩
  have HP := Lib.hid hp
  have HB := Lib.hid hb
  clear hp hb
  go_wp2
  go_ret
  exact ⟨_, rfl, HP.out, HB.out⟩
end Go.Proofs.YtiocjdggdmeggaaGreatDoor
namespace Go.Proofs.YtiocjdggdmeggaaGreatDoor
open Go.RowKit Go.Shelf
/-- What every part has. -/
theorem PartAt.base {w : World} {T b : Nat} {X : Ln} (h : PartAt w T b X) : ∃ pa pv g c p, b < T ∧ w.heap[b]? = some (.cells #[.pointer (some ⟨pa, 0, none⟩), .pointer (some ⟨pv, 0, none⟩), nodeV X.sn, nodeV X.vn, g, c, p] 70 (0, 0)) ∧ AutoAt w T pa X.sa ∧ AutoAt w T pv X.va := by
  cases X with
  | copy n => obtain ⟨pa, pv, h1, h2, h3, h4⟩ := h; exact ⟨pa, pv, _, _, _, h1, h2, h3, h4⟩
  | leave n t => obtain ⟨pa, pv, bt, h1, h2, h3, h4, h5, _⟩ := h; exact ⟨pa, pv, _, _, _, h1, h3, h4, h5⟩
  | behind x y => obtain ⟨pa, pv, ba, bb, qa, qb, h1, h2, h3, h4, h5, h6, _⟩ := h; exact ⟨pa, pv, _, _, _, h1, h4, h5, h6⟩
/-- A node that New takes. -/
def NdFine (n : Nd) : Prop := n.Ok ∧ n.places ≤ 59
set_option maxHeartbeats 1000000 in
set_option maxRecDepth 100000 in
theorem Behind_any (x y : Ln) (qa qb f1 f2 : Nat) (w : World) (hx : PartAt w w.heap.size qa x) (hy : PartAt w w.heap.size qb y) (hsx : NdFine x.sn) (hsy : NdFine y.sn) (hvx : NdFine x.vn) (hvy : NdFine y.vn)
    (hs : NdFine (.row x.sn y.sn)) (hv : NdFine (.row x.vn y.vn)) (ho1 : onceP x.sa y.sa f1 = some true) (ho2 : onceP x.va y.va f2 = some true) (h6 : 6 < w.heap.size) (hE : Env w) :
    Calls Tryz.prog 109 #[.pointer (some ⟨qa, 0, none⟩), .pointer (some ⟨qb, 0, none⟩)] w (MakePost w (.behind x y)) := by
  have okOf : ∀ {n : Nd}, NdFine n → (newP n).Ok := fun h => newP_ok _ h.1 (by have := h.2; omega)
  have OX := Lib.hid (okOf hsx); have OY := Lib.hid (okOf hsy); have VX := Lib.hid (okOf hvx); have VY := Lib.hid (okOf hvy)
  obtain ⟨pa, pv, ga, ca, ua, hla, hba, hpa, hpva⟩ := hx.base
  obtain ⟨pb, pw, gb, cb, ub, hlb, hbb, hpb, hpwb⟩ := hy.base
  obtain ⟨W, hW⟩ : ∃ W, (w.alloc (.cells #[.pointer (some ⟨qa, 0, none⟩)] 52)).alloc (.cells #[.pointer (some ⟨qb, 0, none⟩)] 52) = W := ⟨_, rfl⟩
  have hbW : Below w.heap.size w W := by rw [← hW]; exact ((Below.refl _ _).alloc (Nat.le_refl _) _).alloc (by simp) _
  have hA : W.heap[w.heap.size]? = some (.cells #[.pointer (some ⟨qa, 0, none⟩)] 52 (0, 0)) := by rw [← hW]; exact alloc_old (alloc_at _ _) _
  have hB : W.heap[w.heap.size + 1]? = some (.cells #[.pointer (some ⟨qb, 0, none⟩)] 52 (0, 0)) := by rw [← hW]; have := alloc_at (w.alloc (.cells #[.pointer (some ⟨qa, 0, none⟩)] 52)) (.cells #[.pointer (some ⟨qb, 0, none⟩)] 52); simpa using this
  obtain ⟨t1, x1, e1⟩ := nodeV_iface x.sn
  obtain ⟨t2, x2, e2⟩ := nodeV_iface y.sn
  obtain ⟨t3, x3, e3⟩ := nodeV_iface x.vn
  obtain ⟨t4, x4, e4⟩ := nodeV_iface y.vn
  have hT : ∀ W', 6 < W'.heap.size → Env W' → Calls Tryz.prog 112 #[.iface 182 (.agg #[.iface t1 x1, .iface t2 x2]), .iface 182 (.agg #[.iface t3 x3, .iface t4 x4])] W' (TypesPost W' (.row x.sn y.sn) (.row x.vn y.vn)) := by
    intro W' h1 h2
    have := types_any (.row x.sn y.sn) (.row x.vn y.vn) W' hs hv h1 h2
    simp only [nodeV, e1, e2, e3, e4] at this
    exact this
  have hnodes : nodeV (.row x.sn y.sn) = .iface 182 (.agg #[.iface t1 x1, .iface t2 x2]) ∧ nodeV (.row x.vn y.vn) = .iface 182 (.agg #[.iface t3 x3, .iface t4 x4]) := by simp only [nodeV, e1, e2, e3, e4, and_self]
  have HNODES := Lib.hid hnodes
  rw [e1, e3] at hba
  rw [e2, e4] at hbb
  have HT := Lib.hid hT
  have HBA := Lib.hid (below_at hbW hba hla); have HBB := Lib.hid (below_at hbW hbb hlb)
  have HA := Lib.hid hA; have HB := Lib.hid hB; have HBW := Lib.hid hbW; have HW := Lib.hid hW
  have HPA := Lib.hid hpa; have HPB := Lib.hid hpb; have HPV := Lib.hid hpva; have HPW := Lib.hid hpwb
  have HX := Lib.hid hx; have HY := Lib.hid hy; have HE := Lib.hid hE
  have HO1 := Lib.hid ho1; have HO2 := Lib.hid ho2
  have s0 : w.heap.size < W.heap.size := lt_of_at hA
  have s1 : w.heap.size + 1 < W.heap.size := lt_of_at hB
  clear hx hy hba hbb hpa hpva hpb hpwb hA hB hbW hW hT hnodes e1 e2 e3 e4 hE ho1 ho2 hsx hsy hvx hvy hs hv okOf
  go_enter Tryz.func109, Tryz.ntmps109
  go_wp2
  rw [HW.out]
  refine wp_head (fun W' => Hid (Below W.heap.size W W')) (by kernel_rfl) (by kernel_rfl) (Lib.hid (Below.refl _ _).drew) ?_
  iterate 10 (refine quiet_val (by rfl) (fun W' hW' => by
    have h1 : W'.cell? ⟨w.heap.size, 0, none⟩ = some (.pointer (some ⟨qa, 0, none⟩)) := (hW'.out.cell (p := ⟨w.heap.size, 0, none⟩) s0).trans (cell_at HA.out 0)
    have h2 : W'.cell? ⟨w.heap.size + 1, 0, none⟩ = some (.pointer (some ⟨qb, 0, none⟩)) := (hW'.out.cell (p := ⟨w.heap.size + 1, 0, none⟩) s1).trans (cell_at HB.out 0)
    have h3 : W'.cell? ⟨qa, 0, none⟩ = some (.pointer (some ⟨pa, 0, none⟩)) := (hW'.out.cell (p := ⟨qa, 0, none⟩) (show qa < W.heap.size by omega)).trans (cell_at HBA.out 0)
    have h4 : W'.cell? ⟨qb, 0, none⟩ = some (.pointer (some ⟨pb, 0, none⟩)) := (hW'.out.cell (p := ⟨qb, 0, none⟩) (show qb < W.heap.size by omega)).trans (cell_at HBB.out 0)
    go_simp; rfl) ?_; try go_simp)
  refine quiet_call (v := .bool true) (f := 61) (args := #[.pointer (some ⟨pa, 0, none⟩), .pointer (some ⟨pb, 0, none⟩)]) (by rfl) (fun W' hW' => by go_simp) (fun W' hW' => ?_) ?_
  · have hb1 : Below w.heap.size w W' := HBW.out.trans (hW'.out.mono (by omega))
    refine (once_any W' x.sa y.sa w.heap.size pa pb f1 true OX.out OY.out (HPA.out.same fun k hk => hb1.block k hk) (HPB.out.same fun k hk => hb1.block k hk) hb1.size h6 (env_below hb1 h6 HE.out) HO1.out).mono ?_
    rintro e w'' ⟨rfl, hb⟩
    exact ⟨rfl, Lib.hid (hW'.out.trans (hb.mono hW'.out.size))⟩
  go_simp
  refine quiet_val (by rfl) (fun W' hW' => by go_simp; rfl) ?_
  go_simp
  iterate 10 (refine quiet_val (by kernel_rfl) (fun W' hW' => by
    have h1 : W'.cell? ⟨w.heap.size, 0, none⟩ = some (.pointer (some ⟨qa, 0, none⟩)) := (hW'.out.cell (p := ⟨w.heap.size, 0, none⟩) s0).trans (cell_at HA.out 0)
    have h2 : W'.cell? ⟨w.heap.size + 1, 0, none⟩ = some (.pointer (some ⟨qb, 0, none⟩)) := (hW'.out.cell (p := ⟨w.heap.size + 1, 0, none⟩) s1).trans (cell_at HB.out 0)
    have h3 : W'.cell? ⟨qa, 1, none⟩ = some (.pointer (some ⟨pv, 0, none⟩)) := (hW'.out.cell (p := ⟨qa, 1, none⟩) (show qa < W.heap.size by omega)).trans (cell_at HBA.out 1)
    have h4 : W'.cell? ⟨qb, 1, none⟩ = some (.pointer (some ⟨pw, 0, none⟩)) := (hW'.out.cell (p := ⟨qb, 1, none⟩) (show qb < W.heap.size by omega)).trans (cell_at HBB.out 1)
    go_simp; rfl) ?_; try go_simp)
  refine quiet_call (v := .bool true) (f := 61) (args := #[.pointer (some ⟨pv, 0, none⟩), .pointer (some ⟨pw, 0, none⟩)]) (by kernel_rfl) (fun W' hW' => by go_simp) (fun W' hW' => ?_) ?_
  · have hb1 : Below w.heap.size w W' := HBW.out.trans (hW'.out.mono (by omega))
    refine (once_any W' x.va y.va w.heap.size pv pw f2 true VX.out VY.out (HPV.out.same fun k hk => hb1.block k hk) (HPW.out.same fun k hk => hb1.block k hk) hb1.size h6 (env_below hb1 h6 HE.out) HO2.out).mono ?_
    rintro e w'' ⟨rfl, hb⟩
    exact ⟨rfl, Lib.hid (hW'.out.trans (hb.mono hW'.out.size))⟩
  go_simp
  refine quiet_val (by rfl) (fun W' hW' => by go_simp; rfl) ?_
  go_simp
  refine quiet_call (v := .tuple #[]) (f := 111) (args := #[.bool true]) (by rfl) (fun W' hW' => by go_simp) (fun W' hW' => ?_) ?_
  · refine (must_any W').mono ?_
    rintro e w'' ⟨rfl, rfl⟩
    exact ⟨rfl, hW'⟩
  refine wpQuiet_nil ?_
  intro w3 hW3
  have HW3 := Lib.hid hW3.out
  clear hW3
  go_simp
  go_wp2
  have hs3 := HW3.out.size
  have HA3 := Lib.hid (below_at HW3.out HA.out s0); have HB3 := Lib.hid (below_at HW3.out HB.out s1)
  have HBA3 := Lib.hid (below_at HW3.out HBA.out (by omega)); have HBB3 := Lib.hid (below_at HW3.out HBB.out (by omega))
  refine wp_tail (fun W' => Hid (Below w3.heap.size w3 W')) 24 (by kernel_rfl) (by kernel_rfl) (Lib.hid (Below.refl _ _).drew) ?_
  simp only [List.take_succ_cons, List.take_zero, List.drop_succ_cons, List.drop_zero]
  iterate 24 (refine quiet_val (by rfl) (fun W' hW' => by
    have h1 : W'.cell? ⟨w.heap.size, 0, none⟩ = some (.pointer (some ⟨qa, 0, none⟩)) := (hW'.out.cell (p := ⟨w.heap.size, 0, none⟩) (Nat.lt_of_lt_of_le s0 hs3)).trans (cell_at HA3.out 0)
    have h2 : W'.cell? ⟨w.heap.size + 1, 0, none⟩ = some (.pointer (some ⟨qb, 0, none⟩)) := (hW'.out.cell (p := ⟨w.heap.size + 1, 0, none⟩) (Nat.lt_of_lt_of_le s1 hs3)).trans (cell_at HB3.out 0)
    have h3 : W'.cell? ⟨qa, 2, none⟩ = some (.iface t1 x1) := (hW'.out.cell (p := ⟨qa, 2, none⟩) (show qa < w3.heap.size by omega)).trans (cell_at HBA3.out 2)
    have h4 : W'.cell? ⟨qb, 2, none⟩ = some (.iface t2 x2) := (hW'.out.cell (p := ⟨qb, 2, none⟩) (show qb < w3.heap.size by omega)).trans (cell_at HBB3.out 2)
    have h5 : W'.cell? ⟨qa, 3, none⟩ = some (.iface t3 x3) := (hW'.out.cell (p := ⟨qa, 3, none⟩) (show qa < w3.heap.size by omega)).trans (cell_at HBA3.out 3)
    have h6 : W'.cell? ⟨qb, 3, none⟩ = some (.iface t4 x4) := (hW'.out.cell (p := ⟨qb, 3, none⟩) (show qb < w3.heap.size by omega)).trans (cell_at HBB3.out 3)
    go_simp; rfl) ?_; try go_simp)
  refine wpQuiet_nil ?_
  intro w4 hW4
  have HW4 := Lib.hid (HW3.out.trans (hW4.out.mono hs3))
  have HA4 := Lib.hid (below_at hW4.out HA3.out (Nat.lt_of_lt_of_le s0 hs3)); have HB4 := Lib.hid (below_at hW4.out HB3.out (Nat.lt_of_lt_of_le s1 hs3))
  clear hW4
  have hw4 : Below w.heap.size w w4 := HBW.out.trans (HW4.out.mono (by omega))
  have HWW4 := Lib.hid hw4
  have hsz4 := hw4.size
  clear hw4
  go_simp
  go_wp2_with fail
  refine (HT.out w4 (by omega) (env_below HWW4.out h6 HE.out)).mono ?_
  rintro e w5 ⟨p, q, rfl, hp, hq, hb⟩
  have HP := Lib.hid hp; have HQ := Lib.hid hq; have HB5 := Lib.hid hb
  have HA5 := Lib.hid (below_at hb HA4.out (by have := HW4.out.size; omega)); have HBB5 := Lib.hid (below_at hb HB4.out (by have := HW4.out.size; omega))
  have HWW5 := Lib.hid (HWW4.out.trans (hb.mono hsz4))
  clear hp hq hb
  go_wp2
  go_ret
  have hal : ∀ o, Below w5.heap.size w5 (w5.alloc o) := fun o => (Below.refl _ _).alloc (Nat.le_refl _) _
  have hsz5 := HWW5.out.size
  refine ⟨_, rfl, ⟨p, q, w.heap.size, w.heap.size + 1, qa, qb, by simp, ?_, ?_, alloc_at w5 _, ?_, ?_, alloc_old HA5.out _, alloc_old HBB5.out _, ?_, ?_⟩, HWW5.out.alloc hsz5 _⟩
  · have := lt_of_at HA5.out; simp; omega
  · have := lt_of_at HBB5.out; simp; omega
  · exact (HP.out.same fun k hk => (hal _).block k hk).mono (hal _).size
  · exact (HQ.out.same fun k hk => (hal _).block k hk).mono (hal _).size
  · exact HX.out.grow (HWW5.out.alloc hsz5 _)
  · exact HY.out.grow (HWW5.out.alloc hsz5 _)
end Go.Proofs.YtiocjdggdmeggaaGreatDoor
