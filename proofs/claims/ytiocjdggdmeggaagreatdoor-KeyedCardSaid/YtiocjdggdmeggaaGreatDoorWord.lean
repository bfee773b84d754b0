/-
  The walks of (*reader).word, at a word of one sign, and of again where nothing follows.
-/
import Derived.Test.YtiocjdggdmeggaaGreatDoorPattern
import Derived.Deep.QuietTactic
import Derived.BigQuiet
namespace Go.Proofs.YtiocjdggdmeggaaGreatDoor
open Go.RowKit Go.Shelf
theorem cut_left (c : UInt8) (l : Txt) : (⟨(c :: 34 :: l).toArray⟩ : ByteArray).extract 0 1 = ⟨#[c]⟩ := by
  apply ByteArray.ext
  rw [ByteArray.data_extract]
  simp
theorem cut_right (c : UInt8) (l : Txt) : (⟨(c :: 34 :: l).toArray⟩ : ByteArray).extract 2 (l.length + 1 + 1) = ⟨l.toArray⟩ := by
  apply ByteArray.ext
  rw [ByteArray.data_extract]
  simp
theorem scut_any (w : World) (c : UInt8) (l : Txt) (hc : c ≠ 34) :
    Calls Tryz.prog 184 #[.string ⟨(c :: 34 :: l).toArray⟩, .string ⟨#[34]⟩] w fun e w' => e = .returned (.tuple #[.string ⟨#[c]⟩, .string ⟨l.toArray⟩, .bool true]) ∧ ∃ n, w' = w.drewN n := by
  have hi : Calls Tryz.prog 189 #[.string ⟨(c :: 34 :: l).toArray⟩, .string ⟨#[34]⟩] w fun e w' => e = .returned (.int .i64 1) ∧ w' = w := by
    have := Tryz.stringslite_Index_one ⟨(c :: 34 :: l).toArray⟩ 34 w
    have e : Lib.indexByte (⟨(c :: 34 :: l).toArray⟩ : ByteArray).data.toList 34 = 1 := by
      show Lib.indexByte (c :: 34 :: l) 34 = 1
      have : (c == 34) = false := beq_eq_false_iff_ne.2 hc
      simp [Lib.indexByte, this]
    rwa [e] at this
  have HI := Lib.hid hi
  clear hi hc
  go_enter Tryz.func184, Tryz.ntmps184
  go_wp2_with fail
  refine HI.out.mono ?_
  rintro e w1 ⟨rfl, rfl⟩
  go_wp2
  go_quiet (fail)
  go_wp2
  go_ret3
  rw [cut_left, cut_right]
  exact ⟨rfl, nq, rfl⟩
theorem cut3_any (w : World) (c : UInt8) (l : Txt) (hc : c ≠ 34) :
    Calls Tryz.prog 158 #[.string ⟨(c :: 34 :: l).toArray⟩, .string ⟨#[34]⟩] w fun e w' => e = .returned (.tuple #[.string ⟨#[c]⟩, .string ⟨l.toArray⟩, .bool true]) ∧ ∃ n, w' = w.drewN n := by
  have HI := Lib.hid (scut_any w c l hc)
  clear hc
  go_enter Tryz.func158, Tryz.ntmps158
  go_wp2_with fail
  refine HI.out.mono ?_
  rintro e w1 ⟨rfl, nd, rfl⟩
  go_wp2
  go_ret3
  exact ⟨rfl, nd, rfl⟩
theorem drewN_only {k : Nat} {a w : World} (h : Only k a w) (n : Nat) : Only k a (w.drewN n) := ⟨h.os, h.tape, h.output, h.size, h.block⟩
set_option maxHeartbeats 1000000 in
theorem word_any (w : World) (r : Nat) (c : UInt8) (l : Txt) (n : Nat) (h : RdAt w r (34 :: c :: 34 :: l) n) (h1 : 32 ≤ c.toNat) (h2 : c.toNat ≤ 126) (h34 : c ≠ 34) (hn : n < 100000) :
    Calls Tryz.prog 135 #[.pointer (some ⟨r, 0, none⟩)] w (RdPost w r (.string ⟨#[c]⟩) l (n + 1)) := by
  have H := Lib.hid h
  have HC := Lib.hid h34
  have HS := Lib.hid (fun W => sign_any c.toNat W h1 h2)
  have h10 : ((c.toNat : Int) == 10) = false := by rw [beq_eq_false_iff_ne]; omega
  have h10' : ((c.toNat : Int) != 10) = true := by rw [bne, h10]; rfl
  have HB : Hid (∀ hz : 0 < (⟨#[c]⟩ : ByteArray).size, ((((⟨#[c]⟩ : ByteArray)[0]'hz).toNat : Int) != 10) = true) := Lib.hid (fun _ => h10')
  clear h h34 h1 h2 h10 h10'
  go_enter Tryz.func135, Tryz.ntmps135
  go_wp2_with fail
  refine (take_yes w r 34 _ _ H.out).mono ?_
  rintro e w1 ⟨rfl, hr1, ho1⟩
  have HR1 := Lib.hid hr1
  have HO1 := Lib.hid ho1
  clear hr1 ho1
  go_wp2_with fail
  refine (rmust_any _ w1).mono ?_
  rintro e w2 ⟨rfl, rfl⟩
  have c0 : w2.cell? ⟨r, 0, none⟩ = some (.string ⟨(c :: 34 :: l).toArray⟩) := cell_at HR1.out 0
  go_wp2_with fail
  refine (cut3_any w2 c l HC.out).mono ?_
  rintro e w3 ⟨rfl, nd, rfl⟩
  have hr3 : RdAt (w2.drewN nd) r (c :: 34 :: l) n := HR1.out
  have ho3 := drewN_only HO1.out nd
  generalize w2.drewN nd = w3 at hr3 ho3 ⊢
  have HR3 := Lib.hid hr3
  have HO3 := Lib.hid ho3
  clear hr3 ho3 c0
  go_wp2_with fail
  refine (rmust_any _ w3).mono ?_
  rintro e w4 ⟨rfl, rfl⟩
  go_wp2
  go_loopg [6, 25] 1 (fun g s6 s25 wr => ∃ k : Nat, k ≤ 1 ∧ g = 1 - k ∧ s25 = .int .i64 k ∧ Hid (wr = w4))
  case atStart => exact ⟨0, by omega, rfl, rfl, rfl⟩
  case round =>
    obtain ⟨k, hk, hg, rfl, hw⟩ := hrel
    obtain rfl := hw.out
    clear hw
    by_cases hk0 : k = 0
    · subst hk0
      have HG := Lib.hid hg
      clear hg hk
      go_wp2_with fail
      refine (HS.out wr).mono ?_
      rintro e w5 ⟨rfl, rfl⟩
      go_wp2_with fail
      rw [HB.out (Nat.zero_lt_one)]
      refine (rmust_any _ w5).mono ?_
      rintro e w6 ⟨rfl, rfl⟩
      go_wp2
      go_roundg 0
      case measure => rw [HG.out]; omega
      case rel => exact ⟨1, Nat.le_refl _, rfl, by go_num, rfl⟩
    · have hk1 : k = 1 := by omega
      subst hk1
      clear hk0 hg hk
      have c1 : wr.cell? ⟨r, 1, none⟩ = some (.int .i64 (n : Nat)) := cell_at HR3.out 1
      have f1 : wr.frozen? ⟨r, 1, none⟩ = false := frozen_at HR3.out 1
      have c0 : wr.cell? ⟨r, 0, none⟩ = some (.string ⟨(c :: 34 :: l).toArray⟩) := cell_at HR3.out 0
      have f0 : wr.frozen? ⟨r, 0, none⟩ = false := frozen_at HR3.out 0
      go_wp2
      go_ret
      refine ⟨rfl, ?_, ?_⟩
      · exact setCell_at (setCell_at HR3.out 0 _) 1 _
      · exact (HO3.out.setCell 0 _).setCell 1 _
/-- Where no '*' follows, the lens is handed on. -/
theorem again_no (w : World) (r : Nat) (v : Value) (l : Txt) (n : Nat) (h : RdAt w r l n) (hn : NotNext 42 l) (hv : ∃ f a b, v = .func f a b) :
    Calls Tryz.prog 132 #[.pointer (some ⟨r, 0, none⟩), v] w (RdPost w r v l n) := by
  obtain ⟨f, a, b, rfl⟩ := hv
  have hr : r < w.heap.size := lt_of_at h
  have H := Lib.hid h
  have N := Lib.hid hn
  clear h hn
  go_enter Tryz.func132, Tryz.ntmps132
  go_wp2_with fail
  refine (take_no _ r 42 l n (alloc_old H.out _) N.out).mono ?_
  rintro e w1 ⟨rfl, hr1, ho1⟩
  have hb : w1.heap[w.heap.size]? = some (.cells #[.func f a b] 87 (0, 0)) := (ho1.block _ (by simp) (by omega)).trans (alloc_at w _)
  have c0 : w1.cell? ⟨w.heap.size, 0, none⟩ = some (.func f a b) := cell_at hb 0
  have HR1 := Lib.hid hr1
  have HO1 := Lib.hid ho1.of_alloc
  clear hr1 ho1 hb
  go_wp2
  go_ret
  exact ⟨rfl, HR1.out, HO1.out⟩
end Go.Proofs.YtiocjdggdmeggaaGreatDoor
