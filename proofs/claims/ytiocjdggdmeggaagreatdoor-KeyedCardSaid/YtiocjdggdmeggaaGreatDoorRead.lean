/-
  The walks of the reader's small functions.
-/
import Derived.Test.YtiocjdggdmeggaaGreatDoorRun
import Derived.Test.YtiocjdggdmeggaaGreatDoorLines
namespace Go.Proofs.YtiocjdggdmeggaaGreatDoor
open Go.RowKit Go.Shelf
/-- A reader lies at r: what is left of its text; what it has counted. -/
def RdAt (w : World) (r : Nat) (l : Txt) (n : Nat) : Prop := w.heap[r]? = some (.cells #[.string ⟨l.toArray⟩, .int .i64 (n : Nat)] 127 (0, 0))
theorem ext_tail (c : UInt8) (l : Txt) : (⟨(c :: l).toArray⟩ : ByteArray).extract 1 (l.length + 1) = ⟨l.toArray⟩ := by
  apply ByteArray.ext
  rw [ByteArray.data_extract]
  simp
theorem get_head (c : UInt8) (l : Txt) (h : 0 < (⟨(c :: l).toArray⟩ : ByteArray).size) : (⟨(c :: l).toArray⟩ : ByteArray)[0] = c := rfl
theorem next_any (w : World) (r : Nat) (c : UInt8) (l : Txt) (n : Nat) (h : RdAt w r (c :: l) n) :
    Calls Tryz.prog 130 #[.pointer (some ⟨r, 0, none⟩)] w fun e w' => e = .returned (.int .u8 c.toNat) ∧ RdAt w' r l n ∧ Only r w w' := by
  have c0 : w.cell? ⟨r, 0, none⟩ = some (.string ⟨(c :: l).toArray⟩) := cell_at h 0
  have f0 : w.frozen? ⟨r, 0, none⟩ = false := frozen_at h 0
  have H := Lib.hid h
  clear h
  go_enter Tryz.func130, Tryz.ntmps130
  go_wp2_with fail
  refine (rmust_any _ w).mono ?_
  rintro e w1 ⟨rfl, rfl⟩
  go_wp2
  go_ret
  rw [ext_tail]
  exact ⟨rfl, setCell_at H.out 0 _, (Only.refl _ _).setCell 0 _⟩
theorem take_yes (w : World) (r : Nat) (c : UInt8) (l : Txt) (n : Nat) (h : RdAt w r (c :: l) n) :
    Calls Tryz.prog 81 #[.pointer (some ⟨r, 0, none⟩), .string ⟨#[c]⟩] w fun e w' => e = .returned (.bool true) ∧ RdAt w' r l n ∧ Only r w w' := by
  have c0 : w.cell? ⟨r, 0, none⟩ = some (.string ⟨(c :: l).toArray⟩) := cell_at h 0
  have f0 : w.frozen? ⟨r, 0, none⟩ = false := frozen_at h 0
  have H := Lib.hid h
  have hc : Calls Tryz.prog 110 #[.string ⟨(c :: l).toArray⟩, .string ⟨#[c]⟩] w fun e w' => e = .returned (.tuple #[.string ⟨l.toArray⟩, .bool true]) ∧ w' = w := by
    have := Tryz.strings_CutPrefix ⟨(c :: l).toArray⟩ ⟨#[c]⟩ w
    simpa [Lib.trimPrefix, Lib.hasPrefix] using this
  have HC := Lib.hid hc
  clear h hc
  go_enter Tryz.func81, Tryz.ntmps81
  go_wp2_with fail
  refine HC.out.mono ?_
  rintro e w1 ⟨rfl, rfl⟩
  go_wp2
  go_ret
  exact ⟨rfl, setCell_at H.out 0 _, (Only.refl _ _).setCell 0 _⟩
/-- c is not next. -/
def NotNext (c : UInt8) (l : Txt) : Prop := ∀ b l', l = b :: l' → b ≠ c
theorem take_no (w : World) (r : Nat) (c : UInt8) (l : Txt) (n : Nat) (h : RdAt w r l n) (hn : NotNext c l) :
    Calls Tryz.prog 81 #[.pointer (some ⟨r, 0, none⟩), .string ⟨#[c]⟩] w fun e w' => e = .returned (.bool false) ∧ RdAt w' r l n ∧ Only r w w' := by
  have c0 : w.cell? ⟨r, 0, none⟩ = some (.string ⟨l.toArray⟩) := cell_at h 0
  have f0 : w.frozen? ⟨r, 0, none⟩ = false := frozen_at h 0
  have H := Lib.hid h
  have hp : Lib.hasPrefix l [c] = false := by
    cases l with
    | nil => rfl
    | cons b l =>
      have := hn b l rfl
      show (c == b && _) = false
      rw [beq_eq_false_iff_ne.2 (Ne.symm this)]
      rfl
  have hc : Calls Tryz.prog 110 #[.string ⟨l.toArray⟩, .string ⟨#[c]⟩] w fun e w' => e = .returned (.tuple #[.string ⟨l.toArray⟩, .bool false]) ∧ w' = w := by
    have := Tryz.strings_CutPrefix ⟨l.toArray⟩ ⟨#[c]⟩ w
    simpa [Lib.trimPrefix, hp] using this
  have HC := Lib.hid hc
  clear h hc hp hn
  go_enter Tryz.func81, Tryz.ntmps81
  go_wp2_with fail
  refine HC.out.mono ?_
  rintro e w1 ⟨rfl, rfl⟩
  go_wp2
  go_ret
  exact ⟨rfl, setCell_at H.out 0 _, (Only.refl _ _).setCell 0 _⟩
theorem at_cons (w : World) (r : Nat) (s : ByteArray) (c : UInt8) (l : Txt) (n : Nat) (h : RdAt w r (c :: l) n) :
    Calls Tryz.prog 107 #[.pointer (some ⟨r, 0, none⟩), .string s] w fun e w' => e = .returned (.bool (decide (0 ≤ Lib.indexByte s.data.toList c))) ∧ w' = w := by
  have c0 : w.cell? ⟨r, 0, none⟩ = some (.string ⟨(c :: l).toArray⟩) := cell_at h 0
  have hc : Calls Tryz.prog 144 #[.string s, .int .u8 (c.toNat : Nat)] w fun e w' => e = .returned (.int .i64 (Lib.indexByte s.data.toList c)) ∧ w' = w := by
    have := Tryz.strings_IndexByte s c.toNat w
    simpa using this
  have HC := Lib.hid hc
  obtain ⟨i, hi⟩ : ∃ i, Lib.indexByte s.data.toList c = i := ⟨_, rfl⟩
  rw [hi] at hc ⊢
  have HC := Lib.hid hc
  clear h hc hi
  go_enter Tryz.func107, Tryz.ntmps107
  go_wp2_with fail
  refine HC.out.mono ?_
  rintro e w1 ⟨rfl, rfl⟩
  go_wp2
  go_ret
  exact ⟨rfl, rfl⟩
theorem at_nil (w : World) (r : Nat) (s : ByteArray) (n : Nat) (h : RdAt w r [] n) :
    Calls Tryz.prog 107 #[.pointer (some ⟨r, 0, none⟩), .string s] w fun e w' => e = .returned (.bool false) ∧ w' = w := by
  have c0 : w.cell? ⟨r, 0, none⟩ = some (.string ⟨([] : Txt).toArray⟩) := cell_at h 0
  clear h
  go_enter Tryz.func107, Tryz.ntmps107
  go_wp2
  go_ret
  exact ⟨rfl, rfl⟩
/-- A letter or a digit. -/
def markB (c : UInt8) : Bool := (decide (48 ≤ c.toNat) && decide (c.toNat ≤ 57)) || (decide (97 ≤ c.toNat) && decide (c.toNat ≤ 122))
theorem mark_any (w : World) (r : Nat) (c : UInt8) (l : Txt) (n : Nat) (h : RdAt w r (c :: l) n) (hm : markB c = true) :
    Calls Tryz.prog 181 #[.pointer (some ⟨r, 0, none⟩)] w fun e w' => e = .returned (.int .u8 c.toNat) ∧ RdAt w' r l n ∧ Only r w w' := by
  have HN := Lib.hid (next_any w r c l n h)
  have hor : bits BinOp.or .u8 (c.toNat : Int) 32 = ((c.toNat ||| 32 : Nat) : Int) := by
    have : ∀ k, k < 256 → bits BinOp.or .u8 ((k : Nat) : Int) 32 = ((k ||| 32 : Nat) : Int) := by decide +kernel
    exact this _ c.toNat_lt
  have hlow : 97 ≤ c.toNat → c.toNat ≤ 122 → c.toNat ||| 32 = c.toNat := by
    intro h1 h2
    have : ∀ k, k < 123 → 97 ≤ k → k ||| 32 = k := by decide
    exact this _ (by omega) h1
  by_cases hd : 48 ≤ c.toNat ∧ c.toNat ≤ 57
  · have d1 : (48 : Int) ≤ (c.toNat : Int) := by omega
    have d2 : (c.toNat : Int) ≤ 57 := by omega
    clear hd hm hlow h
    go_enter Tryz.func181, Tryz.ntmps181
    go_wp2_with fail
    refine HN.out.mono ?_
    rintro e w1 ⟨rfl, h1, h2⟩
    have H1 := Lib.hid h1
    have H2 := Lib.hid h2
    clear h1 h2
    go_wp2_with fail
    refine (rmust_any _ w1).mono ?_
    rintro e w2 ⟨rfl, rfl⟩
    go_wp2
    go_ret
    exact ⟨rfl, H1.out, H2.out⟩
  · have hl : 97 ≤ c.toNat ∧ c.toNat ≤ 122 := by
      simp only [markB, Bool.or_eq_true, Bool.and_eq_true, decide_eq_true_eq] at hm
      omega
    rw [hlow hl.1 hl.2] at hor
    have d1 : (97 : Int) ≤ (c.toNat : Int) := by omega
    have d2 : (c.toNat : Int) ≤ 122 := by omega
    have d3 : ¬ ((c.toNat : Int) ≤ 57) := by omega
    have d4 : (48 : Int) ≤ (c.toNat : Int) := by omega
    clear hd hm hlow h hl
    go_enter Tryz.func181, Tryz.ntmps181
    go_wp2_with fail
    refine HN.out.mono ?_
    rintro e w1 ⟨rfl, h1, h2⟩
    have H1 := Lib.hid h1
    have H2 := Lib.hid h2
    clear h1 h2
    go_wp2_with fail
    refine (rmust_any _ w1).mono ?_
    rintro e w2 ⟨rfl, rfl⟩
    go_wp2
    go_ret
    exact ⟨rfl, H1.out, H2.out⟩
end Go.Proofs.YtiocjdggdmeggaaGreatDoor
