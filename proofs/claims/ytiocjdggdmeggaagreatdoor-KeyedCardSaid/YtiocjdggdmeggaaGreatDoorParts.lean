/-
  The walks of (*reader).part, row and lens.
-/
import Derived.Test.YtiocjdggdmeggaaGreatDoorWord
namespace Go.Proofs.YtiocjdggdmeggaaGreatDoor
open Go.RowKit Go.Shelf
/-- v makes the part X: what it has captured lies in blocks behind r. -/
def MakerAt (w : World) (r : Nat) : Value → Ln → Prop
  | v, .copy n => ∃ b, r < b ∧ v = .func (.func 133) #[] #[.pointer (some ⟨b, 0, none⟩)] ∧ w.heap[b]? = some (.cells #[nodeV n] 64 (0, 0))
  | v, .leave n t => ∃ b c, r < b ∧ r < c ∧ v = .func (.func 136) #[] #[.pointer (some ⟨b, 0, none⟩), .pointer (some ⟨c, 0, none⟩)] ∧ w.heap[b]? = some (.cells #[nodeV n] 64 (0, 0)) ∧ w.heap[c]? = some (.cells #[.string ⟨t.toArray⟩] 9 (0, 0))
  | v, .behind x y => ∃ b c vx vy, r < b ∧ r < c ∧ v = .func (.func 108) #[] #[.pointer (some ⟨b, 0, none⟩), .pointer (some ⟨c, 0, none⟩)] ∧ w.heap[b]? = some (.cells #[vx] 87 (0, 0)) ∧ w.heap[c]? = some (.cells #[vy] 87 (0, 0)) ∧ MakerAt w r vx x ∧ MakerAt w r vy y
theorem MakerAt.keep {w w' : World} {r : Nat} {X : Ln} : ∀ {v : Value}, MakerAt w r v X → (∀ k, k < w.heap.size → k ≠ r → w'.heap[k]? = w.heap[k]?) → MakerAt w' r v X := by
  induction X with
  | copy n =>
    rintro v ⟨b, h1, h2, h3⟩ hs
    exact ⟨b, h1, h2, (hs b (lt_of_at h3) (Nat.ne_of_gt h1)).trans h3⟩
  | leave n t =>
    rintro v ⟨b, c, h1, h2, h3, h4, h5⟩ hs
    exact ⟨b, c, h1, h2, h3, (hs b (lt_of_at h4) (Nat.ne_of_gt h1)).trans h4, (hs c (lt_of_at h5) (Nat.ne_of_gt h2)).trans h5⟩
  | behind x y ihx ihy =>
    rintro v ⟨b, c, vx, vy, h1, h2, h3, h4, h5, h6, h7⟩ hs
    exact ⟨b, c, vx, vy, h1, h2, h3, (hs b (lt_of_at h4) (Nat.ne_of_gt h1)).trans h4, (hs c (lt_of_at h5) (Nat.ne_of_gt h2)).trans h5, ihx h6 hs, ihy h7 hs⟩
theorem MakerAt.only {w w' : World} {r : Nat} {X : Ln} {v : Value} (h : MakerAt w r v X) (ho : Only r w w') : MakerAt w' r v X := h.keep ho.block
theorem MakerAt.alloc {w : World} {r : Nat} {X : Ln} {v : Value} (h : MakerAt w r v X) (o : Obj) : MakerAt (w.alloc o) r v X := h.keep fun _ hk _ => Below.heap_alloc _ _ _ hk
theorem MakerAt.func {w : World} {r : Nat} {X : Ln} {v : Value} (h : MakerAt w r v X) : ∃ f a b, v = .func f a b := by
  cases X with
  | copy n => obtain ⟨b, _, h2, _⟩ := h; exact ⟨_, _, _, h2⟩
  | leave n t => obtain ⟨b, c, _, _, h3, _⟩ := h; exact ⟨_, _, _, h3⟩
  | behind x y => obtain ⟨b, c, vx, vy, _, _, h3, _⟩ := h; exact ⟨_, _, _, h3⟩
/-- What a call that reads a lens does. -/
def MkPost (w : World) (r : Nat) (X : Ln) (l' : Txt) (n : Nat) (e : Ending) (w' : World) : Prop := ∃ v, e = .returned v ∧ MakerAt w' r v X ∧ RdAt w' r l' n ∧ Only r w w'
/-- What part reads, as far as it is met within the brackets. -/
def PartP (l : Txt) (X : Ln) (l' : Txt) (k : Nat) : Prop :=
  (∃ ds lt, l = 47 :: lt ∧ ThingsP lt ds l' ∧ NotNext 42 l' ∧ X = .copy (rowOf ds) ∧ k = ds.length) ∨
  (∃ ds lt c, l = 45 :: 47 :: lt ∧ ThingsP lt ds (34 :: c :: 34 :: l') ∧ (32 ≤ c.toNat ∧ c.toNat ≤ 126 ∧ c ≠ 34) ∧ X = .leave (rowOf ds) [c] ∧ k = ds.length + 1)
theorem Only.grow {k : Nat} {a w : World} (h : Only k a w) (o : Obj) : Only k a (w.alloc o) :=
  ⟨h.os, h.tape, h.output, Nat.le_trans h.size (by simp), fun j hj hn => (Below.heap_alloc _ _ _ (Nat.lt_of_lt_of_le hj h.size)).trans (h.block j hj hn)⟩
set_option maxHeartbeats 1000000 in
set_option maxRecDepth 100000 in
theorem part_copy (w : World) (r dp : Nat) (lt l' : Txt) (ds : List Nd) (n : Nat) (h : RdAt w r (47 :: lt) n) (hp : ThingsP lt ds l') (hs : NotNext 42 l') (hn : n ≤ 1000) (hds : ds.length ≤ 1000) (hdp : dp ≤ 12) :
    Calls Tryz.prog 106 #[.pointer (some ⟨r, 0, none⟩), .int .i64 (dp : Nat)] w (MkPost w r (.copy (rowOf ds)) l' (n + ds.length)) := by
  have H := Lib.hid h
  have HP := Lib.hid hp
  have HS := Lib.hid hs
  have hr : r < w.heap.size := lt_of_at h
  clear h hp hs
  go_enter Tryz.func106, Tryz.ntmps106
  go_wp2_with fail
  refine (next_any w r 47 lt n H.out).mono ?_
  rintro e w1 ⟨rfl, hr1, ho1⟩
  have HR1 := Lib.hid hr1
  have HO1 := Lib.hid ho1
  clear hr1 ho1
  go_wp2_with fail
  refine (slashed_any w1 r dp lt l' ds n HR1.out HP.out hn hds hdp).mono ?_
  rintro e w2 ⟨rfl, hr2, ho2⟩
  obtain ⟨t, xv, ex⟩ := nodeV_iface (rowOf ds)
  rw [ex]
  have HEX := Lib.hid ex
  have HR2 := Lib.hid hr2
  have HO2 := Lib.hid (HO1.out.trans ho2)
  clear hr2 ho2 ex
  go_wp2_with fail
  refine (again_no _ r _ l' _ (alloc_old HR2.out _) HS.out ⟨_, _, _, rfl⟩).mono ?_
  rintro e w3 ⟨rfl, hr3, ho3⟩
  have hrs : r < w2.heap.size := lt_of_at HR2.out
  have hb : w3.heap[w2.heap.size]? = some (.cells #[.iface t xv] 64 (0, 0)) := (ho3.block _ (by simp) (by omega)).trans (alloc_at w2 _)
  have HB3 := Lib.hid hb
  have HR3 := Lib.hid hr3
  have HO3 := Lib.hid (HO2.out.trans ho3.of_alloc)
  clear hb hr3 ho3
  go_wp2
  go_ret
  exact ⟨_, rfl, ⟨_, by omega, rfl, by rw [HEX.out]; exact HB3.out⟩, HR3.out, HO3.out⟩
set_option maxHeartbeats 1000000 in
set_option maxRecDepth 100000 in
theorem part_leave (w : World) (r dp : Nat) (lt l' : Txt) (c : UInt8) (ds : List Nd) (n : Nat) (h : RdAt w r (45 :: 47 :: lt) n) (hp : ThingsP lt ds (34 :: c :: 34 :: l')) (hc : 32 ≤ c.toNat ∧ c.toNat ≤ 126 ∧ c ≠ 34) (hn : n ≤ 1000) (hds : ds.length ≤ 1000) (hdp : dp ≤ 12) :
    Calls Tryz.prog 106 #[.pointer (some ⟨r, 0, none⟩), .int .i64 (dp : Nat)] w (MkPost w r (.leave (rowOf ds) [c]) l' (n + (ds.length + 1))) := by
  have H := Lib.hid h
  have HP := Lib.hid hp
  have HC := Lib.hid hc
  have hr : r < w.heap.size := lt_of_at h
  clear h hp hc
  go_enter Tryz.func106, Tryz.ntmps106
  go_wp2_with fail
  refine (next_any w r 45 _ n H.out).mono ?_
  rintro e w1 ⟨rfl, hr1, ho1⟩
  have HR1 := Lib.hid hr1
  have HO1 := Lib.hid ho1
  clear hr1 ho1
  go_wp2_with fail
  refine (take_yes w1 r 47 lt n HR1.out).mono ?_
  rintro e w2 ⟨rfl, hr2, ho2⟩
  have HR2 := Lib.hid hr2
  have HO2 := Lib.hid (HO1.out.trans ho2)
  clear hr2 ho2
  go_wp2_with fail
  refine (rmust_any _ w2).mono ?_
  rintro e w3 ⟨rfl, rfl⟩
  go_wp2_with fail
  refine (slashed_any w3 r dp lt _ ds n HR2.out HP.out hn hds hdp).mono ?_
  rintro e w4 ⟨rfl, hr4, ho4⟩
  obtain ⟨t, xv, ex⟩ := nodeV_iface (rowOf ds)
  rw [ex]
  have HEX := Lib.hid ex
  have HR4 := Lib.hid hr4
  have HO4 := Lib.hid (HO2.out.trans ho4)
  clear hr4 ho4 ex
  go_wp2_with fail
  refine (word_any _ r c l' _ (alloc_old HR4.out _) HC.out.1 HC.out.2.1 HC.out.2.2 (by omega)).mono ?_
  rintro e w5 ⟨rfl, hr5, ho5⟩
  have hrs : r < w4.heap.size := lt_of_at HR4.out
  have hb : w5.heap[w4.heap.size]? = some (.cells #[.iface t xv] 64 (0, 0)) := (ho5.block _ (by simp) (by omega)).trans (alloc_at w4 _)
  have HB5 := Lib.hid hb
  have HR5 := Lib.hid hr5
  have HO5 := Lib.hid (HO4.out.trans ho5.of_alloc)
  have hs5 : w4.heap.size < w5.heap.size := lt_of_at hb
  clear hb hr5 ho5
  go_wp2
  go_ret
  exact ⟨_, rfl, ⟨_, _, by omega, by omega, rfl, by rw [HEX.out]; exact alloc_old HB5.out _, alloc_at w5 _⟩, alloc_old HR5.out _, HO5.out.grow _⟩
theorem part_any (w : World) (r dp : Nat) (l l' : Txt) (X : Ln) (n k : Nat) (h : RdAt w r l n) (hp : PartP l X l' k) (hn : n ≤ 1000) (hk : k ≤ 1000) (hdp : dp ≤ 12) :
    Calls Tryz.prog 106 #[.pointer (some ⟨r, 0, none⟩), .int .i64 (dp : Nat)] w (MkPost w r X l' (n + k)) := by
  rcases hp with ⟨ds, lt, rfl, h1, h2, rfl, rfl⟩ | ⟨ds, lt, c, rfl, h1, h2, rfl, rfl⟩
  · exact part_copy w r dp lt l' ds n h h1 h2 hn hk hdp
  · exact part_leave w r dp lt l' c ds n h h1 h2 hn (by omega) hdp
end Go.Proofs.YtiocjdggdmeggaaGreatDoor
