/-
  The walks of (*reader).row and lens.
  The walks of lens within the brackets, and of a program that is one repetition by keys.
-/
import Derived.Test.YtiocjdggdmeggaaGreatDoorParts
import Derived.Laws.EntriesVeiled
namespace Go.Proofs.YtiocjdggdmeggaaGreatDoor
open Go.RowKit Go.Shelf
/-- Does a row end here? -/
def stopB (c : UInt8) : Bool := decide (0 ≤ Lib.indexByte [124, 41, 62, 126] c)
/-- What row reads within the brackets. -/
inductive RowP : Txt → Ln → Txt → Nat → Prop
  | last {l l' : Txt} {X : Ln} {k : Nat} (h : PartP l X (62 :: l') k) : RowP l X (62 :: l') k
  | more {l l1 l' : Txt} {c : UInt8} {X Y : Ln} {k m : Nat} (h : PartP l X (c :: l1) k) (hc : stopB c = false) (hs : RowP (c :: l1) Y l' m) : RowP l (.behind X Y) l' (k + m)
set_option maxHeartbeats 1000000 in
set_option maxRecDepth 100000 in
theorem row_any {l l' : Txt} {X : Ln} {k : Nat} (hp : RowP l X l' k) : ∀ (w : World) (r dp n : Nat), RdAt w r l n → n + k ≤ 1000 → dp ≤ 12 →
    Calls Tryz.prog 80 #[.pointer (some ⟨r, 0, none⟩), .int .i64 (dp : Nat)] w (MkPost w r X l' (n + k)) := by
  induction hp with
  | @last l l' X k hpart =>
    intro w r dp n h hn hdp
    have HP := Lib.hid (part_any w r dp l _ X n k h hpart (by omega) (by omega) hdp)
    have hr : r < w.heap.size := lt_of_at h
    clear h hpart
    go_enter Tryz.func80, Tryz.ntmps80
    go_wp2_with fail
    refine HP.out.mono ?_
    rintro e w1 ⟨v, rfl, hm, hr1, ho1⟩
    obtain ⟨f, a, b, rfl⟩ := hm.func
    have hr2 : RdAt (w1.alloc (.cells #[.func f a b] 87)) r (62 :: l') (n + k) := alloc_old hr1 _
    have c0 : ∀ o, (w1.alloc o).cell? ⟨r, 0, none⟩ = some (.string ⟨(62 :: l').toArray⟩) := fun o => cell_at (alloc_old hr1 o) 0
    have HM := Lib.hid hm
    have HR1 := Lib.hid hr1
    have HO1 := Lib.hid ho1
    have HAT := Lib.hid (at_cons _ r ⟨#[124, 41, 62, 126]⟩ 62 l' _ hr2)
    clear hm hr1 ho1 hr2
    go_wp2_with fail
    refine HAT.out.mono ?_
    rintro e w3 ⟨rfl, rfl⟩
    rw [show decide (0 ≤ Lib.indexByte (⟨#[124, 41, 62, 126]⟩ : ByteArray).data.toList 62) = true from rfl]
    go_wp2
    go_ret
    exact ⟨_, rfl, HM.out.alloc _, alloc_old HR1.out _, HO1.out.grow _⟩
  | @more l l1 l' c X Y k m hpart hc hs ih =>
    intro w r dp n h hn hdp
    have HP := Lib.hid (part_any w r dp l _ X n k h hpart (by omega) (by omega) hdp)
    have HIH := Lib.hid ih
    have HC := Lib.hid hc
    have hr : r < w.heap.size := lt_of_at h
    clear h hpart ih hs hc
    go_enter Tryz.func80, Tryz.ntmps80
    go_wp2_with fail
    refine HP.out.mono ?_
    rintro e w1 ⟨v, rfl, hm, hr1, ho1⟩
    obtain ⟨f, a, b, rfl⟩ := hm.func
    have hr2 : RdAt (w1.alloc (.cells #[.func f a b] 87)) r (c :: l1) (n + k) := alloc_old hr1 _
    have c0 : ∀ o, (w1.alloc o).cell? ⟨r, 0, none⟩ = some (.string ⟨(c :: l1).toArray⟩) := fun o => cell_at (alloc_old hr1 o) 0
    have HM := Lib.hid (hm.alloc (.cells #[.func f a b] 87))
    have HR2 := Lib.hid hr2
    have HO1 := Lib.hid (ho1.grow (.cells #[.func f a b] 87))
    have HAT := Lib.hid (at_cons _ r ⟨#[124, 41, 62, 126]⟩ c l1 _ hr2)
    have HBX := Lib.hid (alloc_at w1 (.cells #[.func f a b] 87))
    have hr1s : r < w1.heap.size := lt_of_at hr1
    clear hm hr1 ho1 hr2
    go_wp2_with fail
    refine HAT.out.mono ?_
    rintro e w3 ⟨rfl, rfl⟩
    rw [show decide (0 ≤ Lib.indexByte (⟨#[124, 41, 62, 126]⟩ : ByteArray).data.toList c) = false from HC.out]
    clear c0
    go_wp2_with fail
    refine (HIH.out _ r dp (n + k) HR2.out (by omega) hdp).mono ?_
    rintro e w4 ⟨v2, rfl, hm4, hr4, ho4⟩
    obtain ⟨f2, a2, b2, rfl⟩ := hm4.func
    have hbx4 := (ho4.block w1.heap.size (by simp) (by omega)).trans HBX.out
    have hm1 := HM.out.only ho4
    have HM1 := Lib.hid (hm1.alloc (.cells #[.func f2 a2 b2] 87))
    have HM4 := Lib.hid (hm4.alloc (.cells #[.func f2 a2 b2] 87))
    have HR4 := Lib.hid (show RdAt (w4.alloc (.cells #[.func f2 a2 b2] 87)) r l' (n + k + m) from alloc_old hr4 _)
    have HO4 := Lib.hid ((HO1.out.trans ho4).grow (.cells #[.func f2 a2 b2] 87))
    have HBX4 := Lib.hid (alloc_old hbx4 (.cells #[.func f2 a2 b2] 87))
    have HBX5 := Lib.hid (alloc_at w4 (.cells #[.func f2 a2 b2] 87))
    have hs4 : r < w4.heap.size := lt_of_at hr4
    clear hm1 hm4 hr4 ho4 hbx4
    go_wp2
    go_ret
    exact ⟨_, rfl, ⟨_, _, _, _, by omega, by omega, rfl, HBX4.out, HBX5.out, HM1.out, HM4.out⟩, by rw [← Nat.add_assoc]; exact HR4.out, HO4.out⟩
end Go.Proofs.YtiocjdggdmeggaaGreatDoor
namespace Go.Proofs.YtiocjdggdmeggaaGreatDoor
open Go.RowKit Go.Shelf
theorem lens_in (w : World) (r dp : Nat) (l l' : Txt) (X : Ln) (n k : Nat) (h : RdAt w r l n) (hp : RowP l X (62 :: l') k) (hn : n + k ≤ 1000) (hdp : dp ≤ 12) :
    Calls Tryz.prog 50 #[.pointer (some ⟨r, 0, none⟩), .int .i64 (dp : Nat)] w (MkPost w r X (62 :: l') (n + k)) := by
  have HP := Lib.hid (row_any hp w r dp n h hn hdp)
  have hr : r < w.heap.size := lt_of_at h
  have hd : (dp : Int) ≤ 12 := by omega
  clear h hp
  go_enter Tryz.func50, Tryz.ntmps50
  go_wp2_with fail
  refine (rmust_any _ w).mono ?_
  rintro e w0 ⟨rfl, rfl⟩
  go_wp2_with fail
  refine HP.out.mono ?_
  rintro e w1 ⟨v, rfl, hm, hr1, ho1⟩
  obtain ⟨f, a, b, rfl⟩ := hm.func
  have hr2 : RdAt (w1.alloc (.cells #[.func f a b] 87)) r (62 :: l') (n + k) := alloc_old hr1 _
  have HM := Lib.hid (hm.alloc (.cells #[.func f a b] 87))
  have HR2 := Lib.hid hr2
  have HO1 := Lib.hid (ho1.grow (.cells #[.func f a b] 87))
  have HBX := Lib.hid (alloc_at w1 (.cells #[.func f a b] 87))
  have hr1s : r < w1.heap.size := lt_of_at hr1
  clear hm hr1 ho1 hr2
  go_wp2_with fail
  refine (take_no _ r 124 _ _ HR2.out (notNext_cons (by decide) _)).mono ?_
  rintro e w3 ⟨rfl, hr3, ho3⟩
  have hbx3 := (ho3.block w1.heap.size (by simp) (by omega)).trans HBX.out
  have c0 : w3.cell? ⟨w1.heap.size, 0, none⟩ = some (.func f a b) := cell_at hbx3 0
  have HM3 := Lib.hid (HM.out.only ho3)
  have HR3 := Lib.hid hr3
  have HO3 := Lib.hid (HO1.out.trans ho3)
  clear hr3 ho3 hbx3
  go_wp2
  go_ret
  exact ⟨_, rfl, HM3.out, HR3.out, HO3.out⟩
/-- v makes the repetition by keys of X. -/
def KMaker (w : World) (r : Nat) (v : Value) (X : Ln) : Prop :=
  ∃ b vx, r < b ∧ v = .func (.func 140) #[] #[.pointer (some ⟨b, 0, none⟩)] ∧ w.heap[b]? = some (.cells #[vx] 87 (0, 0)) ∧ MakerAt w r vx X
theorem KMaker.keep {w w' : World} {r : Nat} {X : Ln} {v : Value} (h : KMaker w r v X) (hs : ∀ k, k < w.heap.size → k ≠ r → w'.heap[k]? = w.heap[k]?) : KMaker w' r v X := by
  obtain ⟨b, vx, h1, h2, h3, h4⟩ := h
  exact ⟨b, vx, h1, h2, (hs b (lt_of_at h3) (Nat.ne_of_gt h1)).trans h3, h4.keep hs⟩
theorem KMaker.only {w w' : World} {r : Nat} {X : Ln} {v : Value} (h : KMaker w r v X) (ho : Only r w w') : KMaker w' r v X := h.keep ho.block
theorem KMaker.alloc {w : World} {r : Nat} {X : Ln} {v : Value} (h : KMaker w r v X) (o : Obj) : KMaker (w.alloc o) r v X := h.keep fun _ hk _ => Below.heap_alloc _ _ _ hk
def KPost (w : World) (r : Nat) (X : Ln) (n : Nat) (e : Ending) (w' : World) : Prop := ∃ v, e = .returned v ∧ KMaker w' r v X ∧ RdAt w' r [] n ∧ Only r w w'
set_option maxHeartbeats 1000000 in
set_option maxRecDepth 100000 in
theorem part_keys (w : World) (r : Nat) (l : Txt) (X : Ln) (n k : Nat) (h : RdAt w r (60 :: l) n) (hp : RowP l X [62] k) (hn : n + k ≤ 1000) :
    Calls Tryz.prog 106 #[.pointer (some ⟨r, 0, none⟩), .int .i64 0] w (KPost w r X (n + k + 1)) := by
  have H := Lib.hid h
  have HP := Lib.hid hp
  have hr : r < w.heap.size := lt_of_at h
  clear h hp
  go_enter Tryz.func106, Tryz.ntmps106
  go_wp2_with fail
  refine (next_any w r 60 _ n H.out).mono ?_
  rintro e w1 ⟨rfl, hr1, ho1⟩
  have HR1 := Lib.hid hr1
  have HO1 := Lib.hid ho1
  clear hr1 ho1
  go_wp2_with fail
  refine (lens_in w1 r 1 l [] X n k HR1.out HP.out hn (by omega)).mono ?_
  rintro e w2 ⟨v, rfl, hm, hr2, ho2⟩
  obtain ⟨f, a, b, rfl⟩ := hm.func
  have HM := Lib.hid (hm.alloc (.cells #[.func f a b] 87))
  have HR2 := Lib.hid (show RdAt (w2.alloc (.cells #[.func f a b] 87)) r [62] (n + k) from alloc_old hr2 _)
  have HO2 := Lib.hid ((HO1.out.trans ho2).grow (.cells #[.func f a b] 87))
  have HBX := Lib.hid (alloc_at w2 (.cells #[.func f a b] 87))
  have hr2s : r < w2.heap.size := lt_of_at hr2
  clear hm hr2 ho2
  go_wp2_with fail
  refine (take_yes _ r 62 _ _ HR2.out).mono ?_
  rintro e w3 ⟨rfl, hr3, ho3⟩
  have HM3 := Lib.hid (HM.out.only ho3)
  have HR3 := Lib.hid hr3
  have HO3 := Lib.hid (HO2.out.trans ho3)
  have HBX3 := Lib.hid ((ho3.block w2.heap.size (by simp) (by omega)).trans HBX.out)
  clear hr3 ho3
  go_wp2_with fail
  refine (rmust_any _ w3).mono ?_
  rintro e w4 ⟨rfl, rfl⟩
  have c1 : w4.cell? ⟨r, 1, none⟩ = some (.int .i64 (n + k : Nat)) := cell_at HR3.out 1
  have f1 : w4.frozen? ⟨r, 1, none⟩ = false := frozen_at HR3.out 1
  go_wp2
  go_ret
  have hob : ∀ u, Only r w4 (w4.setCell ⟨r, 1, none⟩ u) := fun u => (Only.refl _ _).setCell 1 u
  exact ⟨_, rfl, ⟨_, _, by omega, rfl, setCell_other HBX3.out (by omega), HM3.out.only (hob _)⟩, setCell_at HR3.out 1 _, HO3.out.trans (hob _)⟩
theorem row_keys (w : World) (r : Nat) (l : Txt) (X : Ln) (n k : Nat) (h : RdAt w r (60 :: l) n) (hp : RowP l X [62] k) (hn : n + k ≤ 1000) :
    Calls Tryz.prog 80 #[.pointer (some ⟨r, 0, none⟩), .int .i64 0] w (KPost w r X (n + k + 1)) := by
  have HP := Lib.hid (part_keys w r l X n k h hp hn)
  have hr : r < w.heap.size := lt_of_at h
  clear h hp
  go_enter Tryz.func80, Tryz.ntmps80
  go_wp2_with fail
  refine HP.out.mono ?_
  rintro e w1 ⟨v, rfl, hm, hr1, ho1⟩
  have hv : ∃ f a b, v = .func f a b := by obtain ⟨b, vx, _, h2, _⟩ := hm; exact ⟨_, _, _, h2⟩
  obtain ⟨f, a, b, rfl⟩ := hv
  have c0 : ∀ o, (w1.alloc o).cell? ⟨r, 0, none⟩ = some (.string ⟨([] : Txt).toArray⟩) := fun o => cell_at (alloc_old hr1 o) 0
  have HM := Lib.hid (hm.alloc (.cells #[.func f a b] 87))
  have HR2 := Lib.hid (show RdAt (w1.alloc (.cells #[.func f a b] 87)) r [] (n + k + 1) from alloc_old hr1 _)
  have HO1 := Lib.hid (ho1.grow (.cells #[.func f a b] 87))
  have hr1s : r < w1.heap.size := lt_of_at hr1
  clear hm hr1 ho1
  go_wp2
  go_ret
  exact ⟨_, rfl, HM.out, HR2.out, HO1.out⟩
theorem lens_keys (w : World) (r : Nat) (l : Txt) (X : Ln) (n k : Nat) (h : RdAt w r (60 :: l) n) (hp : RowP l X [62] k) (hn : n + k ≤ 1000) :
    Calls Tryz.prog 50 #[.pointer (some ⟨r, 0, none⟩), .int .i64 0] w (KPost w r X (n + k + 1)) := by
  have HP := Lib.hid (row_keys w r l X n k h hp hn)
  have hr : r < w.heap.size := lt_of_at h
  clear h hp
  go_enter Tryz.func50, Tryz.ntmps50
  go_wp2_with fail
  refine (rmust_any _ w).mono ?_
  rintro e w0 ⟨rfl, rfl⟩
  go_wp2_with fail
  refine HP.out.mono ?_
  rintro e w1 ⟨v, rfl, hm, hr1, ho1⟩
  have hv : ∃ f a b, v = .func f a b := by obtain ⟨b, vx, _, h2, _⟩ := hm; exact ⟨_, _, _, h2⟩
  obtain ⟨f, a, b, rfl⟩ := hv
  have HM := Lib.hid (hm.alloc (.cells #[.func f a b] 87))
  have HR2 := Lib.hid (show RdAt (w1.alloc (.cells #[.func f a b] 87)) r [] (n + k + 1) from alloc_old hr1 _)
  have HO1 := Lib.hid (ho1.grow (.cells #[.func f a b] 87))
  have HBX := Lib.hid (alloc_at w1 (.cells #[.func f a b] 87))
  have hr1s : r < w1.heap.size := lt_of_at hr1
  clear hm hr1 ho1
  go_wp2_with fail
  refine (take_no _ r 124 _ _ HR2.out (fun _ _ h => by cases h)).mono ?_
  rintro e w3 ⟨rfl, hr3, ho3⟩
  have hbx3 := (ho3.block w1.heap.size (by simp) (by omega)).trans HBX.out
  have c0 : w3.cell? ⟨w1.heap.size, 0, none⟩ = some (.func f a b) := cell_at hbx3 0
  have HM3 := Lib.hid (HM.out.only ho3)
  have HR3 := Lib.hid hr3
  have HO3 := Lib.hid (HO1.out.trans ho3)
  clear hr3 ho3 hbx3
  go_wp2
  go_ret
  exact ⟨_, rfl, HM3.out, HR3.out, HO3.out⟩
end Go.Proofs.YtiocjdggdmeggaaGreatDoor
