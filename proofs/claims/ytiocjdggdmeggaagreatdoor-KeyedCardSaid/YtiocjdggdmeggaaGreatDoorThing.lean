/-
  The walks of (*Signs).Add and of (*reader).one.
  The walk of (*reader).one, a class.
  The walk of (*reader).thing.
-/
import Derived.Test.YtiocjdggdmeggaaGreatDoorRead
namespace Go.Proofs.YtiocjdggdmeggaaGreatDoor
open Go.RowKit Go.Shelf
/-- A sign more. -/
def addSign (s : Nat × Nat) (c : Nat) : Nat × Nat := if c < 64 then (s.1 ||| 2 ^ c, s.2) else (s.1, s.2 ||| 2 ^ (c % 64))
theorem addSign_lt {s : Nat × Nat} {c : Nat} (h : s.1 < 2 ^ 64 ∧ s.2 < 2 ^ 64) : (addSign s c).1 < 2 ^ 64 ∧ (addSign s c).2 < 2 ^ 64 := by
  unfold addSign
  split
  · exact ⟨Nat.or_lt_two_pow h.1 (Nat.pow_lt_pow_right (by decide) (by omega)), h.2⟩
  · exact ⟨h.1, Nat.or_lt_two_pow h.2 (Nat.pow_lt_pow_right (by decide) (by omega))⟩
set_option maxHeartbeats 1000000 in
theorem add_sign (w : World) (b : Nat) (s : Nat × Nat) (c : Nat) (hc : c < 128) (hs : s.1 < 2 ^ 64 ∧ s.2 < 2 ^ 64) (h : w.heap[b]? = some (.cells #[.int .u64 (s.1 : Nat), .int .u64 (s.2 : Nat)] 210 (0, 0))) :
    Calls Tryz.prog 182 #[.pointer (some ⟨b, 0, none⟩), .int .u8 (c : Nat)] w fun e w' => e = .returned (.tuple #[]) ∧ w'.heap[b]? = some (.cells #[.int .u64 ((addSign s c).1 : Nat), .int .u64 ((addSign s c).2 : Nat)] 210 (0, 0)) ∧ Only b w w' := by
  obtain ⟨lo, hi⟩ := s
  simp only at hs h
  have c0 : w.cell? ⟨b, 0, none⟩ = some (.int .u64 (lo : Nat)) := cell_at h 0
  have c1 : w.cell? ⟨b, 1, none⟩ = some (.int .u64 (hi : Nat)) := cell_at h 1
  have f0 : w.frozen? ⟨b, 0, none⟩ = false := frozen_at h 0
  have f1 : w.frozen? ⟨b, 1, none⟩ = false := frozen_at h 1
  have H := Lib.hid h
  by_cases hlt : c < 64
  · have e1 : bits BinOp.and .u8 (c : Int) 63 = (c : Int) := by
      have := bits_and_u8 c 6 63 (by omega) rfl (by decide)
      rw [Nat.mod_eq_of_lt hlt] at this
      exact this
    have e2 : ((c : Int) / 64) = 0 := by omega
    have e3 : bits BinOp.and .u8 0 1 = 0 := by decide
    have e4 := wrap_pow c hlt
    have e5 : bits BinOp.or .u64 (lo : Int) (2 ^ c) = ((lo ||| 2 ^ c : Nat) : Int) := by rw [cast_pow]; exact bits_or lo (2 ^ c) hs.1 (Nat.pow_lt_pow_right (by decide) hlt)
    have E5 := Lib.hid e5
    have hfin : addSign (lo, hi) c = (lo ||| 2 ^ c, hi) := by unfold addSign; rw [if_pos hlt]
    have HF := Lib.hid hfin
    clear h hs hfin e5
    go_enter Tryz.func182, Tryz.ntmps182
    go_wp2
    go_region
    all_goals
      go_wp2
      rw [E5.out]
      go_end0
      rw [HF.out]
      exact ⟨rfl, setCell_at H.out 0 _, ((Only.refl _ _).setCell 0 _).drew⟩
  · obtain ⟨d, hd⟩ : ∃ d, c % 64 = d := ⟨_, rfl⟩
    have hd64 : d < 64 := by omega
    have e1 : bits BinOp.and .u8 (c : Int) 63 = (d : Int) := by
      have := bits_and_u8 c 6 63 (by omega) rfl (by decide)
      rw [show c % 2 ^ 6 = d from hd] at this
      exact this
    have e2 : ((c : Int) / 64) = 1 := by omega
    have e3 : bits BinOp.and .u8 1 1 = 1 := by decide
    have e4 := wrap_pow d hd64
    have e5 : bits BinOp.or .u64 (hi : Int) (2 ^ d) = ((hi ||| 2 ^ d : Nat) : Int) := by rw [cast_pow]; exact bits_or hi (2 ^ d) hs.2 (Nat.pow_lt_pow_right (by decide) hd64)
    have E5 := Lib.hid e5
    have hfin : addSign (lo, hi) c = (lo, hi ||| 2 ^ d) := by unfold addSign; rw [if_neg hlt, hd]
    have HF := Lib.hid hfin
    clear h hs hfin e5 hd
    go_enter Tryz.func182, Tryz.ntmps182
    go_wp2
    go_region
    all_goals
      go_wp2
      rw [E5.out]
      go_end0
      rw [HF.out]
      exact ⟨rfl, setCell_at H.out 1 _, ((Only.refl _ _).setCell 1 _).drew⟩
/-- Does 'one' take this sign as it stands? -/
def plainB (c : UInt8) : Bool := decide (32 ≤ c.toNat) && decide (c.toNat ≤ 126) && !([40, 91, 46, 92, 41, 93, 42, 43, 63, 124, 47, 34] : Txt).contains c
def signNd (c : UInt8) : Nd := .one (addSign (0, 0) c.toNat).1 (addSign (0, 0) c.toNat).2
set_option maxHeartbeats 1000000 in
set_option maxRecDepth 100000 in
theorem one_sign (w : World) (r : Nat) (d : Nat) (c : UInt8) (l : Txt) (n : Nat) (h : RdAt w r (c :: l) n) (hp : plainB c = true) (hn : n < 100000) :
    Calls Tryz.prog 150 #[.pointer (some ⟨r, 0, none⟩), .int .i64 (d : Nat)] w fun e w' => e = .returned (nodeV (signNd c)) ∧ RdAt w' r l (n + 1) ∧ Only r w w' := by
  have hp1 : (32 ≤ c.toNat ∧ c.toNat ≤ 126) ∧ c.toNat ≠ 40 ∧ c.toNat ≠ 91 ∧ c.toNat ≠ 46 ∧ c.toNat ≠ 92 ∧ Lib.indexByte [41, 93, 42, 43, 63, 124, 47, 34] c = -1 := by
    have : ∀ k, k < 256 → plainB (UInt8.ofNat k) = true → (32 ≤ (UInt8.ofNat k).toNat ∧ (UInt8.ofNat k).toNat ≤ 126) ∧ (UInt8.ofNat k).toNat ≠ 40 ∧ (UInt8.ofNat k).toNat ≠ 91 ∧ (UInt8.ofNat k).toNat ≠ 46 ∧ (UInt8.ofNat k).toNat ≠ 92 ∧ Lib.indexByte [41, 93, 42, 43, 63, 124, 47, 34] (UInt8.ofNat k) = -1 := by decide +kernel
    have h := this c.toNat c.toNat_lt
    rw [UInt8.ofNat_toNat] at h
    exact h hp
  obtain ⟨⟨h1, h2⟩, h3, h4, h5, h6, h7⟩ := hp1
  have b1 : ((c.toNat : Int) == 40) = false := by rw [beq_eq_false_iff_ne]; omega
  have b2 : ((c.toNat : Int) == 91) = false := by rw [beq_eq_false_iff_ne]; omega
  have b3 : ((c.toNat : Int) == 46) = false := by rw [beq_eq_false_iff_ne]; omega
  have b4 : ((c.toNat : Int) == 92) = false := by rw [beq_eq_false_iff_ne]; omega
  have hsz : r < w.heap.size := lt_of_at h
  have hAL : RdAt (w.alloc (.cells #[.int .u64 0, .int .u64 0] 210)) r (c :: l) n := alloc_old h _
  have HN := Lib.hid (next_any _ r c l n hAL)
  have HX : ∀ W, Calls Tryz.prog 144 #[.string ⟨#[41, 93, 42, 43, 63, 124, 47, 34]⟩, .int .u8 (c.toNat : Nat)] W fun e w' => e = .returned (.int .i64 (-1)) ∧ w' = W := fun W => by
    have := Tryz.strings_IndexByte ⟨#[41, 93, 42, 43, 63, 124, 47, 34]⟩ c.toNat W
    have e : Lib.indexByte (⟨#[41, 93, 42, 43, 63, 124, 47, 34]⟩ : ByteArray).data.toList ((c.toNat : Int).toNat.toUInt8) = -1 := by rw [← h7]; simp
    rwa [e] at this
  have HX := Lib.hid HX
  have HS := Lib.hid (fun W => sign_any c.toNat W h1 h2)
  have H1 := Lib.hid h1
  have H2 := Lib.hid h2
  have HC : Hid (c.toNat < 128) := Lib.hid (by omega)
  clear h hAL h1 h2 h3 h4 h5 h6 h7 hp
  go_enter Tryz.func150, Tryz.ntmps150
  go_wp2_with fail
  refine HN.out.mono ?_
  rintro e w1 ⟨rfl, hr1, ho1⟩
  have hbox : w1.heap[w.heap.size]? = some (.cells #[.int .u64 0, .int .u64 0] 210 (0, 0)) := (ho1.block _ (by simp) (by omega)).trans (alloc_at w _)
  have HR1 := Lib.hid hr1
  have HBOX := Lib.hid hbox
  have HO1 := Lib.hid ho1
  clear hr1 ho1 hbox
  go_wp2_with fail
  refine (HS.out w1).mono ?_
  rintro e w2 ⟨rfl, rfl⟩
  go_wp2_with fail
  refine (HX.out w2).mono ?_
  rintro e w3 ⟨rfl, rfl⟩
  go_wp2_with fail
  refine (rmust_any _ w3).mono ?_
  rintro e w4 ⟨rfl, rfl⟩
  go_wp2_with fail
  refine (add_sign w4 w.heap.size (0, 0) c.toNat HC.out ⟨by decide, by decide⟩ HBOX.out).mono ?_
  rintro e w5 ⟨rfl, hbox5, ho5⟩
  have hr5 : RdAt w5 r l n := (ho5.block r (lt_of_at HR1.out) (by omega)).trans HR1.out
  have c1 : w5.cell? ⟨r, 1, none⟩ = some (.int .i64 (n : Nat)) := cell_at hr5 1
  have f1 : w5.frozen? ⟨r, 1, none⟩ = false := frozen_at hr5 1
  have b0 : w5.cell? ⟨w.heap.size, 0, none⟩ = some (.int .u64 ((addSign (0, 0) c.toNat).1 : Nat)) := cell_at hbox5 0
  have b1 : w5.cell? ⟨w.heap.size, 1, none⟩ = some (.int .u64 ((addSign (0, 0) c.toNat).2 : Nat)) := cell_at hbox5 1
  have hOW : Only r w w5 := by
    refine ⟨?_, ?_, ?_, ?_, fun j hj hne => ?_⟩
    · exact ho5.os.trans (HO1.out.os.trans rfl)
    · exact ho5.tape.trans (HO1.out.tape.trans rfl)
    · exact ho5.output.trans (HO1.out.output.trans rfl)
    · have := ho5.size; have := HO1.out.size; simp at this; omega
    · exact (ho5.block j (by have := HO1.out.size; simp at this; omega) (by omega)).trans ((HO1.out.block j (by simp; omega) hne).trans (Below.heap_alloc _ _ _ hj))
  have HR5 := Lib.hid hr5
  have HOW := Lib.hid hOW
  have hne : r ≠ w.heap.size := by omega
  clear hr5 hOW hbox5 ho5
  obtain ⟨s1, hs1⟩ : ∃ s1, (addSign (0, 0) c.toNat).1 = s1 := ⟨_, rfl⟩
  obtain ⟨s2, hs2⟩ : ∃ s2, (addSign (0, 0) c.toNat).2 = s2 := ⟨_, rfl⟩
  rw [hs1] at b0
  rw [hs2] at b1
  have HS1 := Lib.hid hs1
  have HS2 := Lib.hid hs2
  clear hs1 hs2
  go_wp2
  go_ret
  refine ⟨?_, setCell_at HR5.out 1 _, HOW.out.setCell 1 _⟩
  unfold signNd
  rw [HS1.out, HS2.out]
  rfl
end Go.Proofs.YtiocjdggdmeggaaGreatDoor
namespace Go.Proofs.YtiocjdggdmeggaaGreatDoor
open Go.RowKit Go.Shelf
theorem Only.trans {k : Nat} {a b c : World} (h : Only k a b) (h2 : Only k b c) : Only k a c :=
  ⟨h2.os.trans h.os, h2.tape.trans h.tape, h2.output.trans h.output, Nat.le_trans h.size h2.size, fun j hj hn => (h2.block j (Nat.lt_of_lt_of_le hj h.size) hn).trans (h.block j hj hn)⟩
/-- What came of a call that touches a new block. -/
theorem Only.past {k b : Nat} {a c d : World} (h : Only k a c) (h2 : Only b c d) (hb : a.heap.size ≤ b) : Only k a d :=
  ⟨h2.os.trans h.os, h2.tape.trans h.tape, h2.output.trans h.output, Nat.le_trans h.size h2.size, fun j hj hn => (h2.block j (Nat.lt_of_lt_of_le hj h.size) (by omega)).trans (h.block j hj hn)⟩
theorem Only.of_alloc {k : Nat} {a d : World} {o : Obj} (h : Only k (a.alloc o) d) : Only k a d :=
  ⟨h.os, h.tape, h.output, by have := h.size; simp at this; omega, fun j hj hn => (h.block j (by simp; omega) hn).trans (Below.heap_alloc _ _ _ hj)⟩
theorem Only.of_below {k : Nat} {a d : World} (h : Below a.heap.size a d) : Only k a d := ⟨h.os, h.tape, h.output, h.size, fun j hj _ => h.block j hj⟩
/-- The signs from x on, so many. -/
def classTo (x j : Nat) : Nat × Nat := (List.range j).foldl (fun s k => addSign s (x + k)) (0, 0)
theorem classTo_succ (x j : Nat) : classTo x (j + 1) = addSign (classTo x j) (x + j) := by simp [classTo, List.range_succ]
theorem classTo_lt (x j : Nat) : (classTo x j).1 < 2 ^ 64 ∧ (classTo x j).2 < 2 ^ 64 := by
  induction j with
  | zero => exact ⟨Nat.two_pow_pos 64, Nat.two_pow_pos 64⟩
  | succ j ih => rw [classTo_succ]; exact addSign_lt ih
def classNd (x y : UInt8) : Nd := .one (classTo x.toNat (y.toNat + 1 - x.toNat)).1 (classTo x.toNat (y.toNat + 1 - x.toNat)).2
set_option maxHeartbeats 1000000 in
set_option maxRecDepth 100000 in
theorem one_class (w : World) (r : Nat) (d : Nat) (x y : UInt8) (l : Txt) (n : Nat) (h : RdAt w r (91 :: x :: 45 :: y :: 93 :: l) n) (hx : markB x = true) (hy : markB y = true) (hxy : x.toNat ≤ y.toNat) (hn : n < 100000) :
    Calls Tryz.prog 150 #[.pointer (some ⟨r, 0, none⟩), .int .i64 (d : Nat)] w fun e w' => e = .returned (nodeV (classNd x y)) ∧ RdAt w' r l (n + 1) ∧ Only r w w' := by
  have hsz : r < w.heap.size := lt_of_at h
  have hAL : RdAt (w.alloc (.cells #[.int .u64 0, .int .u64 0] 210)) r (91 :: x :: 45 :: y :: 93 :: l) n := alloc_old h _
  have HN := Lib.hid (next_any _ r 91 (x :: 45 :: y :: 93 :: l) n hAL)
  have hy128 : y.toNat < 128 := by
    simp only [markB, Bool.or_eq_true, Bool.and_eq_true, decide_eq_true_eq] at hy
    omega
  have HX := Lib.hid hx
  have HY := Lib.hid hy
  have hle : (x.toNat : Int) ≤ (y.toNat : Int) := by omega
  clear h hAL hx hy
  go_enter Tryz.func150, Tryz.ntmps150
  go_wp2_with fail
  refine HN.out.mono ?_
  rintro e w1 ⟨rfl, hr1, ho1⟩
  have hbox : w1.heap[w.heap.size]? = some (.cells #[.int .u64 0, .int .u64 0] 210 (0, 0)) := (ho1.block _ (by simp) (by omega)).trans (alloc_at w _)
  have HR1 := Lib.hid hr1
  have HBOX := Lib.hid hbox
  have HO1 := Lib.hid ho1.of_alloc
  clear hr1 ho1 hbox
  go_wp2
  go_loopg [8, 9, 10] 1 (fun g s8 s9 s10 wr => Hid (wr = w1))
  case atStart => exact rfl
  case round =>
    obtain rfl := hrel.out
    clear hrel
    go_wp2_with fail
    refine (mark_any wr r x _ n HR1.out HX.out).mono ?_
    rintro e w2 ⟨rfl, hr2, ho2⟩
    have HR2 := Lib.hid hr2
    have HO2 := Lib.hid ho2
    clear hr2 ho2
    go_wp2_with fail
    refine (take_yes w2 r 45 _ n HR2.out).mono ?_
    rintro e w3 ⟨rfl, hr3, ho3⟩
    have HR3 := Lib.hid hr3
    have HO3 := Lib.hid ho3
    clear hr3 ho3
    go_wp2_with fail
    refine (mark_any w3 r y _ n HR3.out HY.out).mono ?_
    rintro e w4 ⟨rfl, hr4, ho4⟩
    have HR4 := Lib.hid hr4
    have HO4 := Lib.hid ho4
    clear hr4 ho4
    go_wp2_with fail
    refine (rmust_any _ w4).mono ?_
    rintro e w5 ⟨rfl, rfl⟩
    have hO14 : Only r wr w5 := (HO2.out.trans HO3.out).trans HO4.out
    have hszb : w.heap.size < wr.heap.size := lt_of_at HBOX.out
    have hbox5 : w5.heap[w.heap.size]? = some (.cells #[.int .u64 0, .int .u64 0] 210 (0, 0)) := (hO14.block _ hszb (by omega)).trans HBOX.out
    have HB5 := Lib.hid hbox5
    have HO5 := Lib.hid (HO1.out.trans hO14)
    clear hO14 hbox5
    go_wp2
    go_loopg [10] (y.toNat + 1 - x.toNat) (fun g s10 wi => ∃ k : Nat, x.toNat ≤ k ∧ k ≤ y.toNat + 1 ∧ g = y.toNat + 1 - k ∧ s10 = .int .u8 (k : Nat) ∧
      Hid (wi.heap[w.heap.size]? = some (.cells #[.int .u64 ((classTo x.toNat (k - x.toNat)).1 : Nat), .int .u64 ((classTo x.toNat (k - x.toNat)).2 : Nat)] 210 (0, 0)) ∧ RdAt wi r (93 :: l) n ∧ Only r w wi))
    case atStart => exact ⟨x.toNat, Nat.le_refl _, by omega, rfl, rfl, by rw [Nat.sub_self]; exact HB5.out, HR4.out, HO5.out⟩
    case round =>
      obtain ⟨k, hk1, hk2, hg, rfl, hI⟩ := hrel
      have HG := Lib.hid hg
      clear hg
      by_cases hlt : k < y.toNat + 1
      · have hle2 : (k : Int) ≤ (y.toNat : Int) := by omega
        have hA := add_sign wr w.heap.size (classTo x.toNat (k - x.toNat)) k (by omega) (classTo_lt _ _) hI.out.1
        rw [show addSign (classTo x.toNat (k - x.toNat)) k = classTo x.toNat (k + 1 - x.toNat) by rw [show k + 1 - x.toNat = (k - x.toNat) + 1 by omega, classTo_succ, show x.toNat + (k - x.toNat) = k by omega]] at hA
        have HADD := Lib.hid hA
        clear hA
        go_wp2_with fail
        refine HADD.out.mono ?_
        rintro e w7 ⟨rfl, hb7, ho7⟩
        have hr7 : RdAt w7 r (93 :: l) n := (ho7.block r (lt_of_at hI.out.2.1) (by omega)).trans hI.out.2.1
        have hO7 : Only r w w7 := hI.out.2.2.past ho7 (Nat.le_refl _)
        have H7 : Hid (_ ∧ _ ∧ _) := Lib.hid ⟨hb7, hr7, hO7⟩
        clear hb7 hr7 hO7 ho7
        go_wp2
        go_roundg (y.toNat + 1 - (k + 1))
        case measure => rw [HG.out]; omega
        case rel => exact ⟨k + 1, by omega, by omega, rfl, by go_num, H7.out⟩
      · have hk : k = y.toNat + 1 := by omega
        subst hk
        have hle2 : ¬ ((y.toNat : Int) + 1 ≤ (y.toNat : Int)) := by omega
        have HT := Lib.hid (take_yes wr r 93 l n hI.out.2.1)
        go_wp2_with fail
        refine HT.out.mono ?_
        rintro e w8 ⟨rfl, hr8, ho8⟩
        have hO8 : Only r w w8 := hI.out.2.2.trans ho8
        have hbox8 := (ho8.block w.heap.size (lt_of_at hI.out.1) (by omega)).trans hI.out.1
        obtain ⟨s1, hs1⟩ : ∃ s1, (classTo x.toNat (y.toNat + 1 - x.toNat)).1 = s1 := ⟨_, rfl⟩
        obtain ⟨s2, hs2⟩ : ∃ s2, (classTo x.toNat (y.toNat + 1 - x.toNat)).2 = s2 := ⟨_, rfl⟩
        rw [hs1, hs2] at hbox8
        have HS1 := Lib.hid hs1
        have HS2 := Lib.hid hs2
        have c1 : w8.cell? ⟨r, 1, none⟩ = some (.int .i64 (n : Nat)) := cell_at hr8 1
        have f1 : w8.frozen? ⟨r, 1, none⟩ = false := frozen_at hr8 1
        have b0 : w8.cell? ⟨w.heap.size, 0, none⟩ = some (.int .u64 (s1 : Nat)) := cell_at hbox8 0
        have b1 : w8.cell? ⟨w.heap.size, 1, none⟩ = some (.int .u64 (s2 : Nat)) := cell_at hbox8 1
        have HR8 := Lib.hid hr8
        have HOW := Lib.hid hO8
        have hne : r ≠ w.heap.size := by omega
        clear hr8 hO8 hbox8 ho8 hs1 hs2
        go_wp2
        go_ret
        refine ⟨?_, setCell_at HR8.out 1 _, HOW.out.setCell 1 _⟩
        unfold classNd
        rw [HS1.out, HS2.out]
        rfl
end Go.Proofs.YtiocjdggdmeggaaGreatDoor
namespace Go.Proofs.YtiocjdggdmeggaaGreatDoor
open Go.RowKit Go.Shelf
/-- What one reads, as far as it is met here: a sign, or a class of one range. -/
def OneP (l : Txt) (nd : Nd) (l' : Txt) : Prop :=
  (∃ c, l = c :: l' ∧ plainB c = true ∧ nd = signNd c) ∨ (∃ x y, l = 91 :: x :: 45 :: y :: 93 :: l' ∧ markB x = true ∧ markB y = true ∧ x.toNat ≤ y.toNat ∧ nd = classNd x y)
/-- What a call of the reader does: a pattern, what is left. -/
def RdPost (w : World) (r : Nat) (v : Value) (l' : Txt) (n : Nat) (e : Ending) (w' : World) : Prop := e = .returned v ∧ RdAt w' r l' n ∧ Only r w w'
theorem one_any (w : World) (r : Nat) (d : Nat) (l l' : Txt) (nd : Nd) (n : Nat) (h : RdAt w r l n) (hp : OneP l nd l') (hn : n < 100000) :
    Calls Tryz.prog 150 #[.pointer (some ⟨r, 0, none⟩), .int .i64 (d : Nat)] w (RdPost w r (nodeV nd) l' (n + 1)) := by
  rcases hp with ⟨c, rfl, h1, rfl⟩ | ⟨x, y, rfl, h1, h2, h3, rfl⟩
  · exact one_sign w r d c l' n h h1 hn
  · exact one_class w r d x y l' n h h1 h2 h3 hn
/-- What thing reads. -/
def ThingP (l : Txt) (nd : Nd) (l' : Txt) : Prop :=
  ∃ d l1, OneP l d l1 ∧ ((l1 = 42 :: l' ∧ nd = .many d) ∨ (l1 = 43 :: l' ∧ nd = .row d (.many d)) ∨ (NotNext 42 l1 ∧ NotNext 43 l1 ∧ NotNext 63 l1 ∧ l' = l1 ∧ nd = d))
theorem notNext_cons {b c : UInt8} (h : b ≠ c) (l : Txt) : NotNext c (b :: l) := fun b' l' e => by cases e; exact h
theorem thing_any (w : World) (r : Nat) (dp : Nat) (l l' : Txt) (nd : Nd) (n : Nat) (h : RdAt w r l n) (hp : ThingP l nd l') (hn : n < 100000) :
    Calls Tryz.prog 117 #[.pointer (some ⟨r, 0, none⟩), .int .i64 (dp : Nat)] w (RdPost w r (nodeV nd) l' (n + 1)) := by
  obtain ⟨d, l1, h1, h2⟩ := hp
  have hone := one_any w r dp l l1 d n h h1 hn
  obtain ⟨t, x, ex⟩ := nodeV_iface d
  rw [ex] at hone
  have HONE := Lib.hid hone
  have HEX := Lib.hid ex
  clear hone ex h h1
  rcases h2 with ⟨rfl, rfl⟩ | ⟨rfl, rfl⟩ | ⟨n1, n2, n3, rfl, rfl⟩
  · go_enter Tryz.func117, Tryz.ntmps117
    go_wp2_with fail
    refine HONE.out.mono ?_
    rintro e w1 ⟨rfl, hr1, ho1⟩
    have HR1 := Lib.hid hr1
    have HO1 := Lib.hid ho1
    clear hr1 ho1
    go_wp2_with fail
    refine (take_yes w1 r 42 l' _ HR1.out).mono ?_
    rintro e w2 ⟨rfl, hr2, ho2⟩
    have HR2 := Lib.hid hr2
    have HO2 := Lib.hid ho2
    clear hr2 ho2
    go_wp2
    go_ret
    exact ⟨by rw [nodeV, HEX.out]; rfl, HR2.out, HO1.out.trans HO2.out⟩
  · go_enter Tryz.func117, Tryz.ntmps117
    go_wp2_with fail
    refine HONE.out.mono ?_
    rintro e w1 ⟨rfl, hr1, ho1⟩
    have HR1 := Lib.hid hr1
    have HO1 := Lib.hid ho1
    clear hr1 ho1
    go_wp2_with fail
    refine (take_no w1 r 42 _ _ HR1.out (notNext_cons (by decide) _)).mono ?_
    rintro e w2 ⟨rfl, hr2, ho2⟩
    have HR2 := Lib.hid hr2
    have HO2 := Lib.hid ho2
    clear hr2 ho2
    go_wp2_with fail
    refine (take_yes w2 r 43 l' _ HR2.out).mono ?_
    rintro e w3 ⟨rfl, hr3, ho3⟩
    have HR3 := Lib.hid hr3
    have HO3 := Lib.hid ho3
    clear hr3 ho3
    go_wp2
    go_ret
    exact ⟨by rw [nodeV, nodeV, HEX.out]; rfl, HR3.out, (HO1.out.trans HO2.out).trans HO3.out⟩
  · have N1 := Lib.hid n1
    have N2 := Lib.hid n2
    have N3 := Lib.hid n3
    clear n1 n2 n3
    go_enter Tryz.func117, Tryz.ntmps117
    go_wp2_with fail
    refine HONE.out.mono ?_
    rintro e w1 ⟨rfl, hr1, ho1⟩
    have HR1 := Lib.hid hr1
    have HO1 := Lib.hid ho1
    clear hr1 ho1
    go_wp2_with fail
    refine (take_no w1 r 42 _ _ HR1.out N1.out).mono ?_
    rintro e w2 ⟨rfl, hr2, ho2⟩
    have HR2 := Lib.hid hr2
    have HO2 := Lib.hid ho2
    clear hr2 ho2
    go_wp2_with fail
    refine (take_no w2 r 43 _ _ HR2.out N2.out).mono ?_
    rintro e w3 ⟨rfl, hr3, ho3⟩
    have HR3 := Lib.hid hr3
    have HO3 := Lib.hid ho3
    clear hr3 ho3
    go_wp2_with fail
    refine (take_no w3 r 63 _ _ HR3.out N3.out).mono ?_
    rintro e w4 ⟨rfl, hr4, ho4⟩
    have HR4 := Lib.hid hr4
    have HO4 := Lib.hid ho4
    clear hr4 ho4
    go_wp2
    go_ret
    exact ⟨by rw [HEX.out]; rfl, HR4.out, ((HO1.out.trans HO2.out).trans HO3.out).trans HO4.out⟩
end Go.Proofs.YtiocjdggdmeggaaGreatDoor
