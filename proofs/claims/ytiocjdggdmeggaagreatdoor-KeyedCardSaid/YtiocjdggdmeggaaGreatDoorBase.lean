/-
  Small notions for the walks of this seat: what a call may touch (Ext), cells out of a block that is known whole, and Go's word arithmetic on natural numbers.
-/
import Derived.WalkKit
import Derived.Below
import Derived.Lib.Hide
import Derived.OneCell
import Derived.Deep.Draws
import Derived.RangeFuncNested
namespace Go.Proofs.YtiocjdggdmeggaaGreatDoor
open Go.RowKit

/-- Of what was there, nothing outside S has turned. -/
structure Ext (S : Nat → Prop) (w w' : World) : Prop where
  os : w'.os = w.os
  tape : w'.tape = w.tape
  output : w'.output = w.output
  size : w.heap.size ≤ w'.heap.size
  block : ∀ k, k < w.heap.size → ¬ S k → w'.heap[k]? = w.heap[k]?

theorem Ext.refl (S : Nat → Prop) (w : World) : Ext S w w := ⟨rfl, rfl, rfl, Nat.le_refl _, fun _ _ _ => rfl⟩
theorem Ext.trans {S T : Nat → Prop} {a b c : World} (h : Ext S a b) (k : Ext T b c) (hT : ∀ i, i < a.heap.size → T i → S i) : Ext S a c :=
  ⟨k.os.trans h.os, k.tape.trans h.tape, k.output.trans h.output, Nat.le_trans h.size k.size, fun i hi hn =>
    (k.block i (Nat.lt_of_lt_of_le hi h.size) (fun ht => hn (hT i hi ht))).trans (h.block i hi hn)⟩
theorem Ext.mono {S T : Nat → Prop} {a b : World} (h : Ext S a b) (hT : ∀ i, i < a.heap.size → S i → T i) : Ext T a b :=
  ⟨h.os, h.tape, h.output, h.size, fun i hi hn => h.block i hi (fun hs => hn (hT i hi hs))⟩
theorem Ext.of_below {S : Nat → Prop} {a b : World} {B : Nat} (h : Below B a b) (hB : a.heap.size ≤ B) : Ext S a b :=
  ⟨h.os, h.tape, h.output, h.size, fun i hi _ => h.block i (Nat.lt_of_lt_of_le hi hB)⟩
theorem Ext.below {a b : World} {S : Nat → Prop} (B : Nat) (h : Ext S a b) (hB : B ≤ a.heap.size) (hS : ∀ i, i < B → ¬ S i) : Below B a b :=
  ⟨h.os, h.tape, h.output, h.size, fun i hi => h.block i (Nat.lt_of_lt_of_le hi hB) (hS i hi)⟩
theorem Ext.alloc {S : Nat → Prop} {a w : World} (h : Ext S a w) (o : Obj) : Ext S a (w.alloc o) :=
  ⟨h.os, h.tape, h.output, Nat.le_trans h.size (by simp), fun k hk hn => (Below.heap_alloc _ _ _ (Nat.lt_of_lt_of_le hk h.size)).trans (h.block k hk hn)⟩
theorem Ext.drew {S : Nat → Prop} {a w : World} (h : Ext S a w) : Ext S a w.drew := ⟨h.os, h.tape, h.output, h.size, h.block⟩
theorem Ext.drewN {S : Nat → Prop} {a w : World} (h : Ext S a w) (n : Nat) : Ext S a (w.drewN n) := ⟨h.os, h.tape, h.output, h.size, h.block⟩
theorem Ext.setCell {S : Nat → Prop} {a w : World} (h : Ext S a w) {p : Addr} (hp : p.block < a.heap.size → S p.block) (u : Value) : Ext S a (w.setCell p u) :=
  ⟨h.os, h.tape, h.output, by simpa [World.setCell] using h.size, fun k hk hn => (Below.heap_setCell _ _ _ _ (fun e => hn (by rw [e]; exact hp (by omega)))).trans (h.block k hk hn)⟩
theorem Ext.at' {S : Nat → Prop} {w w' : World} (h : Ext S w w') {k : Nat} {o : Obj} (ho : w.heap[k]? = some o) (hn : ¬ S k) : w'.heap[k]? = some o :=
  (h.block k (Array.getElem?_eq_some_iff.1 ho).1 hn).trans ho
theorem below_at {B : Nat} {w w' : World} (h : Below B w w') {k : Nat} {o : Obj} (ho : w.heap[k]? = some o) (hn : k < B) : w'.heap[k]? = some o :=
  (h.block k hn).trans ho
theorem lt_of_at {w : World} {k : Nat} {o : Obj} (ho : w.heap[k]? = some o) : k < w.heap.size := (Array.getElem?_eq_some_iff.1 ho).1

/-- A cell out of a block that is known whole. -/
theorem cell_at {w : World} {b : Nat} {cs : Array Value} {t : TypeId} {f : Nat × Nat} (h : w.heap[b]? = some (.cells cs t f)) (i : Nat) : w.cell? ⟨b, i, none⟩ = cs[i]? := by simp [World.cell?, h]
theorem frozen_at {w : World} {b : Nat} {cs : Array Value} {t : TypeId} (h : w.heap[b]? = some (.cells cs t (0, 0))) (i : Nat) : w.frozen? ⟨b, i, none⟩ = false := by simp [World.frozen?, h]
theorem setCell_at {w : World} {b : Nat} {cs : Array Value} {t : TypeId} (h : w.heap[b]? = some (.cells cs t (0, 0))) (i : Nat) (u : Value) : (w.setCell ⟨b, i, none⟩ u).heap[b]? = some (.cells (cs.setIfInBounds i u) t (0, 0)) := by
  have hlt := lt_of_at h
  have h' : w.heap[b] = .cells cs t (0, 0) := by simpa [Array.getElem?_eq_getElem hlt] using h
  show (w.heap.modify b _)[b]? = _
  rw [Array.getElem?_eq_getElem (by rw [Array.size_modify]; exact hlt), Array.getElem_modify_self, h']
  rfl
theorem setCell_other {w : World} {b k : Nat} {i : Nat} {u : Value} {o : Obj} (h : w.heap[k]? = some o) (hne : k ≠ b) : (w.setCell ⟨b, i, none⟩ u).heap[k]? = some o :=
  (Below.heap_setCell _ _ _ _ hne).trans h
theorem alloc_at (w : World) (o : Obj) : (w.alloc o).heap[w.heap.size]? = some o := World.alloc_heap_new w o
theorem alloc_old {w : World} {k : Nat} {o : Obj} (h : w.heap[k]? = some o) (p : Obj) : (w.alloc p).heap[k]? = some o :=
  (Below.heap_alloc w p k (lt_of_at h)).trans h

/-! ### Words -/
theorem ofInt_nat (n a : Nat) : BitVec.ofInt n (a : Int) = BitVec.ofNat n a := by simp
theorem bits_or (a b : Nat) (ha : a < 2 ^ 64) (hb : b < 2 ^ 64) : bits BinOp.or .u64 (a : Int) (b : Int) = ((a ||| b : Nat) : Int) := by
  have h : a ||| b < 2 ^ 64 := Nat.or_lt_two_pow ha hb
  have e : (BitVec.ofNat 64 a ||| BitVec.ofNat 64 b).toNat = a ||| b := by
    simp [BitVec.toNat_or, Nat.mod_eq_of_lt ha, Nat.mod_eq_of_lt hb]
  show IntKind.u64.wrap (((BitVec.ofInt 64 (a : Int) ||| BitVec.ofInt 64 (b : Int)).toNat : Nat) : Int) = _
  rw [ofInt_nat, ofInt_nat, e]
  simp [IntKind.wrap, IntKind.bits, IntKind.signed]
  omega
theorem bits_and (a b : Nat) (ha : a < 2 ^ 64) (hb : b < 2 ^ 64) : bits BinOp.and .u64 (a : Int) (b : Int) = ((a &&& b : Nat) : Int) := by
  have h : a &&& b < 2 ^ 64 := Nat.and_lt_two_pow _ hb
  have e : (BitVec.ofNat 64 a &&& BitVec.ofNat 64 b).toNat = a &&& b := by
    simp [BitVec.toNat_and, Nat.mod_eq_of_lt ha, Nat.mod_eq_of_lt hb]
  show IntKind.u64.wrap (((BitVec.ofInt 64 (a : Int) &&& BitVec.ofInt 64 (b : Int)).toNat : Nat) : Int) = _
  rw [ofInt_nat, ofInt_nat, e]
  simp [IntKind.wrap, IntKind.bits, IntKind.signed]
  omega
theorem bits_and63 (i : Nat) (hi : i < 64) : bits BinOp.and .i64 (i : Int) 63 = (i : Int) := by
  have e : (BitVec.ofNat 64 i &&& BitVec.ofNat 64 63).toNat = i := by
    have h : i &&& 63 = i % 64 := Nat.and_two_pow_sub_one_eq_mod i 6
    have h2 : i % 18446744073709551616 = i := Nat.mod_eq_of_lt (by omega)
    simp [BitVec.toNat_and, h2, h]; omega
  show IntKind.i64.wrap (((BitVec.ofInt 64 (i : Int) &&& BitVec.ofInt 64 ((63 : Nat) : Int)).toNat : Nat) : Int) = _
  rw [ofInt_nat, ofInt_nat, e]
  simp [IntKind.wrap, IntKind.bits, IntKind.signed]
  omega
theorem bits_and_u8 (c k m : Nat) (hc : c < 256) (hm : m = 2 ^ k - 1) (hk : k ≤ 8) : bits BinOp.and .u8 (c : Int) (m : Int) = ((c % 2 ^ k : Nat) : Int) := by
  have hm8 : m < 256 := by
    have : 2 ^ k ≤ 2 ^ 8 := Nat.pow_le_pow_right (by decide) hk
    omega
  have h : c &&& m = c % 2 ^ k := by rw [hm]; exact Nat.and_two_pow_sub_one_eq_mod c k
  have e : (BitVec.ofNat 8 c &&& BitVec.ofNat 8 m).toNat = c % 2 ^ k := by
    have h1 : c % 256 = c := Nat.mod_eq_of_lt hc
    have h2 : m % 256 = m := Nat.mod_eq_of_lt hm8
    simp [BitVec.toNat_and, h1, h2, h]
  have h3 : c % 2 ^ k ≤ c := Nat.mod_le _ _
  show IntKind.u8.wrap (((BitVec.ofInt 8 (c : Int) &&& BitVec.ofInt 8 (m : Int)).toNat : Nat) : Int) = _
  rw [ofInt_nat, ofInt_nat, e]
  simp only [IntKind.wrap, IntKind.bits, IntKind.signed]
  generalize c % 2 ^ k = z at *
  simp
  omega
theorem bits_and1 (a : Nat) (ha : a < 2 ^ 64) : bits BinOp.and .u64 (a : Int) 1 = ((a % 2 : Nat) : Int) := by
  have := bits_and a 1 ha (by decide)
  rw [Nat.and_one_is_mod] at this
  exact this
theorem cast_pow (i : Nat) : ((2 : Int) ^ i) = ((2 ^ i : Nat) : Int) := by simp
theorem wrap_pow (i : Nat) (hi : i < 64) : IntKind.u64.wrap (2 ^ i) = ((2 ^ i : Nat) : Int) := by
  have : 2 ^ i < 2 ^ 64 := Nat.pow_lt_pow_right (by decide) hi
  rw [cast_pow]
  generalize 2 ^ i = z at *
  simp only [IntKind.wrap, IntKind.bits, IntKind.signed]
  simp
  omega
/-- 's >> i & 1 == 1'. -/
theorem bit_beq (a i : Nat) (ha : a < 2 ^ 64) : (bits BinOp.and .u64 ((a : Int) / 2 ^ i) 1 == 1) = a.testBit i := by
  have h1 : ((a : Int) / 2 ^ i) = ((a / 2 ^ i : Nat) : Int) := by rw [cast_pow]; simp
  have h2 : a / 2 ^ i < 2 ^ 64 := Nat.lt_of_le_of_lt (Nat.div_le_self _ _) ha
  rw [h1, bits_and1 _ h2, Nat.testBit_eq_decide_div_mod_eq]
  generalize a / 2 ^ i % 2 = z
  by_cases h : z = 1
  · subst h; rfl
  · have h' : ¬ ((z : Int) = 1) := by omega
    simp [h, h']
end Go.Proofs.YtiocjdggdmeggaaGreatDoor
namespace Go.Proofs.YtiocjdggdmeggaaGreatDoor
open Go.RowKit
theorem putObj_at {w : World} {l k : Nat} {o o' : Obj} (h : w.heap[k]? = some o) (hne : k ≠ l) : (w.putObj l o').heap[k]? = some o :=
  (World.putObj_heap_other hne).trans h
theorem Ext.putObj {S : Nat → Prop} {a w : World} (h : Ext S a w) {l : Nat} (o' : Obj) (hl : a.heap.size ≤ l) : Ext S a (w.putObj l o') :=
  ⟨h.os, h.tape, h.output, by simpa using h.size, fun k hk hn => (World.putObj_heap_other (by omega)).trans (h.block k hk hn)⟩
theorem Ext.keeps {S : Nat → Prop} {w w' : World} (h : Ext S w w') (B : Nat) (hS : ∀ k o, B ≤ k → w.heap[k]? = some o → o.isCells = false → ¬ S k) : KeepsFrom B w w' :=
  ⟨h.size, fun k o hB hk ho => h.at' hk (hS k o hB hk ho)⟩
theorem size_of {w W : World} (h : W = w) : W.heap.size = w.heap.size := by rw [h]
end Go.Proofs.YtiocjdggdmeggaaGreatDoor
