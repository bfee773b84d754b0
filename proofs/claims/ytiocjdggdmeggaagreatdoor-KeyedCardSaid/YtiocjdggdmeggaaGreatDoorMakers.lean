/-
  The makers called: what they make.
-/
import Derived.Test.YtiocjdggdmeggaaGreatDoorBehind
import Derived.Deep.RegionHeld3
namespace Go.Proofs.YtiocjdggdmeggaaGreatDoor
open Go.RowKit Go.Shelf
def Ln.Fine : Ln → Prop
  | .copy n => NdFine n
  | .leave n t => NdFine n ∧ (t.length ≤ 1000 ∧ (∀ b ∈ t, b.toNat < 128) ∧ (newP n).is t = true)
  | .behind x y => x.Fine ∧ y.Fine ∧ NdFine (.row x.sn y.sn) ∧ NdFine (.row x.vn y.vn) ∧ (∃ f, onceP x.sa y.sa f = some true) ∧ (∃ f, onceP x.va y.va f = some true)
theorem Ln.Fine.nodes {X : Ln} (h : X.Fine) : NdFine X.sn ∧ NdFine X.vn := by
  cases X with
  | copy n => exact ⟨h, h⟩
  | leave n t => exact ⟨h.1, ⟨trivial, Nat.zero_le _⟩⟩
  | behind x y => exact ⟨h.2.2.1, h.2.2.2.1⟩
set_option maxHeartbeats 1000000 in
set_option maxRecDepth 100000 in
theorem mk_behind (w : World) (b c g1 g2 f1 f2 : Nat) (cap1 cap2 : Array Value) (x y : Ln) (h6 : 6 < w.heap.size) (hE : Env w)
    (hb : w.heap[b]? = some (.cells #[.func (.func g1) #[] cap1] 87 (0, 0))) (hc : w.heap[c]? = some (.cells #[.func (.func g2) #[] cap2] 87 (0, 0)))
    (eg1 : ∀ args w, (callFunc g1 args).run Tryz.prog w = .ok (.enter g1 args) w) (eg2 : ∀ args w, (callFunc g2 args).run Tryz.prog w = .ok (.enter g2 args) w)
    (hx : ∀ W, Below w.heap.size w W → Calls Tryz.prog g1 cap1 W (MakePost W x)) (hy : ∀ W, Below w.heap.size w W → Calls Tryz.prog g2 cap2 W (MakePost W y))
    (fx : x.Fine) (fy : y.Fine) (hs : NdFine (.row x.sn y.sn)) (hv : NdFine (.row x.vn y.vn)) (ho1 : onceP x.sa y.sa f1 = some true) (ho2 : onceP x.va y.va f2 = some true) :
    Calls Tryz.prog 108 #[.pointer (some ⟨b, 0, none⟩), .pointer (some ⟨c, 0, none⟩)] w (MakePost w (.behind x y)) := by
  have HX := Lib.hid hx; have HY := Lib.hid hy
  have HB := Lib.hid hb; have HC := Lib.hid hc
  have c0 : w.cell? ⟨b, 0, none⟩ = some (.func (.func g1) #[] cap1) := cell_at hb 0
  have c1 : w.cell? ⟨c, 0, none⟩ = some (.func (.func g2) #[] cap2) := cell_at hc 0
  have sb := lt_of_at hb; have sc := lt_of_at hc
  have HBE := Lib.hid (fun (W : World) (qa qb : Nat) (hb : Below w.heap.size w W) (ha : PartAt W W.heap.size qa x) (hb2 : PartAt W W.heap.size qb y) => Behind_any x y qa qb f1 f2 W ha hb2 fx.nodes.1 fy.nodes.1 fx.nodes.2 fy.nodes.2 hs hv ho1 ho2 (Nat.lt_of_lt_of_le h6 hb.size) (env_below hb h6 hE))
  clear hb hc hx hy fx fy hs hv ho1 ho2 hE
  go_enter Tryz.func108, Tryz.ntmps108
  go_wp2
  go_region_held3 (fun w' => w'.cell? ⟨b, 0, none⟩ = some (.func (.func g1) #[] cap1) ∧ w'.cell? ⟨c, 0, none⟩ = some (.func (.func g2) #[] cap2))
    (first
      | exact ⟨c0, c1⟩
      | exact ⟨(hB1.out.cell (p := ⟨b, 0, none⟩) sb).trans c0, (hB1.out.cell (p := ⟨c, 0, none⟩) sc).trans c1⟩
      | exact ⟨(hB2.out.cell (p := ⟨b, 0, none⟩) sb).trans c0, (hB2.out.cell (p := ⟨c, 0, none⟩) sc).trans c1⟩
      | exact ⟨(hB3.out.cell (p := ⟨b, 0, none⟩) sb).trans c0, (hB3.out.cell (p := ⟨c, 0, none⟩) sc).trans c1⟩)
    (first
      | ((with_reducible refine (HX.out w.drew (Below.refl _ _).drew).mono ?_); rintro e W1 ⟨q1, rfl, hp1, hb1⟩
         have hB1 := Lib.hid (show Below w.heap.size w W1 from (Below.refl w.heap.size w).drew.trans hb1)
         have hP1 := Lib.hid hp1; clear hp1 hb1)
      | ((with_reducible refine (HY.out W1 hB1.out).mono ?_); rintro e W2 ⟨q2, rfl, hp2, hb2⟩
         have hB2 := Lib.hid (show Below w.heap.size w W2 from hB1.out.trans (hb2.mono hB1.out.size))
         have hP2 := Lib.hid hp2; have hP12 := Lib.hid (hP1.out.grow hb2); clear hp2 hb2)
      | ((with_reducible refine (HBE.out W2 q1 q2 hB2.out hP12.out hP2.out).mono ?_); rintro e W3 ⟨q3, rfl, hp3, hb3⟩
         have hB3 := Lib.hid (show Below w.heap.size w W3 from hB2.out.trans (hb3.mono hB2.out.size))
         have hP3 := Lib.hid hp3; clear hp3 hb3))
  go_wp2
  go_ret
  exact ⟨_, rfl, hP3.out, hB3.out⟩
/-- The makers keep their word. -/
theorem maker_any (X : Ln) : X.Fine → ∀ (w : World) (r : Nat) (v : Value), MakerAt w r v X → 6 < w.heap.size → Env w →
    ∃ g cap, v = .func (.func g) #[] cap ∧ (∀ args w, (callFunc g args).run Tryz.prog w = .ok (.enter g args) w) ∧ ∀ W, Below w.heap.size w W → Calls Tryz.prog g cap W (MakePost W X) := by
  induction X with
  | copy n =>
    intro hf w r v h h6 hE
    obtain ⟨b, _, rfl, hb⟩ := h
    exact ⟨_, _, rfl, enters_of Tryz.func133 (by kernel_rfl) rfl, fun W hW => mk_copy W b n hf (Nat.lt_of_lt_of_le h6 hW.size) (env_below hW h6 hE) (below_at hW hb (lt_of_at hb))⟩
  | leave n t =>
    intro hf w r v h h6 hE
    obtain ⟨b, c, _, _, rfl, hb, hc⟩ := h
    exact ⟨_, _, rfl, enters_of Tryz.func136 (by kernel_rfl) rfl, fun W hW => mk_leave W b c n t hf.1 hf.2 (Nat.lt_of_lt_of_le h6 hW.size) (env_below hW h6 hE) (below_at hW hb (lt_of_at hb)) (below_at hW hc (lt_of_at hc))⟩
  | behind x y ihx ihy =>
    intro hf w r v h h6 hE
    obtain ⟨b, c, vx, vy, _, _, rfl, hb, hc, hx, hy⟩ := h
    obtain ⟨g1, cap1, rfl, e1, k1⟩ := ihx hf.1 w r vx hx h6 hE
    obtain ⟨g2, cap2, rfl, e2, k2⟩ := ihy hf.2.1 w r vy hy h6 hE
    obtain ⟨f1, ho1⟩ := hf.2.2.2.2.1
    obtain ⟨f2, ho2⟩ := hf.2.2.2.2.2
    refine ⟨_, _, rfl, enters_of Tryz.func108 (by kernel_rfl) rfl, fun W hW => ?_⟩
    exact mk_behind W b c g1 g2 f1 f2 cap1 cap2 x y (Nat.lt_of_lt_of_le h6 hW.size) (env_below hW h6 hE) (below_at hW hb (lt_of_at hb)) (below_at hW hc (lt_of_at hc)) e1 e2
      (fun W' hW' => k1 W' (hW.trans (hW'.mono hW.size))) (fun W' hW' => k2 W' (hW.trans (hW'.mono hW.size))) hf.1 hf.2.1 hf.2.2.1 hf.2.2.2.1 ho1 ho2
end Go.Proofs.YtiocjdggdmeggaaGreatDoor
