/-
  The walks of the small functions of package auto: what each computes.
-/
import Derived.Test.YtiocjdggdmeggaaGreatDoorProg
import Derived.Test.YtiocjdggdmeggaaGreatDoorAuto
import Derived.Laws.StructEq
import Derived.RegionTactic
import Derived.ChangeAlike
import Derived.Outline
namespace Go.Proofs.YtiocjdggdmeggaaGreatDoor
open Go.RowKit
theorem eql_set (a0 a1 : Int) (w : World) : (Op.equalIn 10000 152 (.agg #[.int .u64 a0, .int .u64 a1]) (.agg #[.int .u64 0, .int .u64 0])).run Tryz.prog w = .ok (a0 == 0 && a1 == 0) w := by
  show (Op.equalIn (9998+1+1) 152 (.agg #[.int .u64 a0, .int .u64 a1]) (.agg #[.int .u64 0, .int .u64 0])).run Tryz.prog w = _
  rw [Op.equalIn]
  have p0 : ∀ (x y : Int) w, (part 150 #[.int .u64 x, .int .u64 y] 0).run Tryz.prog w = .ok (.int .u64 x) w := fun _ _ _ => by kernel_rfl
  have p1 : ∀ (x y : Int) w, (part 150 #[.int .u64 x, .int .u64 y] 1).run Tryz.prog w = .ok (.int .u64 y) w := fun _ _ _ => by kernel_rfl
  have hs : ∀ w, (sizeOf 150).run Tryz.prog w = .ok 1 w := fun _ => by kernel_rfl
  simp only [Sem.run_bind, run_underlying Tryz.underlying152, Result.andThen_ok, hs]
  simp only [Std.Legacy.Range.forIn_eq_forIn_range', Std.Legacy.Range.size, List.range'_succ, Nat.sub_zero, Nat.add_one_sub_one, Nat.div_one, List.range'_zero, List.forIn_cons, List.forIn_nil]
  simp only [Sem.run_bind, p0, Result.andThen_ok, Nat.zero_mul, Nat.one_mul, Nat.zero_add, run_equalIn_int _ _ _ _ _ _ _ Tryz.underlying150]
  cases h0 : (a0 == 0) <;> cases h1 : (a1 == 0) <;> simp [Sem.run_bind, p1, h1, run_equalIn_int _ _ _ _ _ _ _ Tryz.underlying150]

theorem or_any (a b : Nat) (w : World) (h0 : a < 2 ^ 64) (h2 : b < 2 ^ 64) :
    Calls Tryz.prog 119 #[.agg #[.int .u64 a, .int .u64 0], .agg #[.int .u64 b, .int .u64 0]] w fun e w' => e = .returned (.agg #[.int .u64 (a ||| b : Nat), .int .u64 0]) ∧ Below w.heap.size w w' := by
  have e0 := bits_or a b h0 h2
  have e1 : bits BinOp.or .u64 0 0 = 0 := by decide
  go_enter Tryz.func119, Tryz.ntmps119
  go_wp2
  exact bodyPost_ret (v := .agg #[.int .u64 (a ||| b : Nat), .int .u64 0]) (by simp [results, Tryz.results119, go_sem]) rfl ⟨rfl, (((Below.refl _ _).alloc (Nat.le_refl _) _).alloc (by simp) _).alloc (by simp; omega) _⟩
theorem and_any (a b : Nat) (w : World) (h0 : a < 2 ^ 64) (h2 : b < 2 ^ 64) :
    Calls Tryz.prog 121 #[.agg #[.int .u64 a, .int .u64 0], .agg #[.int .u64 b, .int .u64 0]] w fun e w' => e = .returned (.agg #[.int .u64 (a &&& b : Nat), .int .u64 0]) ∧ Below w.heap.size w w' := by
  have e0 := bits_and a b h0 h2
  have e1 : bits BinOp.and .u64 0 0 = 0 := by decide
  go_enter Tryz.func121, Tryz.ntmps121
  go_wp2
  exact bodyPost_ret (v := .agg #[.int .u64 (a &&& b : Nat), .int .u64 0]) (by simp [results, Tryz.results121, go_sem]) rfl ⟨rfl, (((Below.refl _ _).alloc (Nat.le_refl _) _).alloc (by simp) _).alloc (by simp; omega) _⟩
theorem empty_any (a : Nat) (w : World)  :
    Calls Tryz.prog 122 #[.agg #[.int .u64 a, .int .u64 0]] w fun e w' => e = .returned (.bool (a == 0)) ∧ Below w.heap.size w w' := by
  have h2 : ((a : Int) == 0) = (a == 0) := by
    by_cases h : a = 0
    · subst h; rfl
    · have h' : ¬ ((a : Int) = 0) := by omega
      rw [beq_eq_false_iff_ne.2 h', beq_eq_false_iff_ne.2 h]
  have H : ∀ w, (Op.equalIn 10000 152 (.agg #[.int .u64 a, .int .u64 0]) (.agg #[.int .u64 0, .int .u64 0])).run Tryz.prog w = .ok (a == 0) w := fun w => by
    rw [eql_set, h2]; simp
  clear h2
  go_enter Tryz.func122, Tryz.ntmps122
  go_wp2
  go_ret
  exact ⟨rfl, (Below.refl _ _).alloc (Nat.le_refl _) _⟩
theorem single_any (i : Nat) (w : World)  (hi : i < 64) :
    Calls Tryz.prog 120 #[.int .i64 i] w fun e w' => e = .returned (.agg #[.int .u64 (2 ^ i : Nat), .int .u64 0]) ∧ Below w.heap.size w w' := by
  have e1 := bits_and63 i hi
  have e2 : ((i : Int) / 64) = 0 := by omega
  have e3 := wrap_pow i hi
  go_enter Tryz.func120, Tryz.ntmps120
  go_wp2
  exact bodyPost_ret (v := .agg #[.int .u64 (2 ^ i : Nat), .int .u64 0]) (by simp [results, Tryz.results120, go_sem]) rfl ⟨rfl, (Below.refl _ _).alloc (Nat.le_refl _) _⟩
theorem has_any (a0 : Nat) (i : Nat) (w : World)  (hi : i < 64) (ha : a0 < 2 ^ 64) :
    Calls Tryz.prog 97 #[.agg #[.int .u64 a0, .int .u64 0], .int .i64 i] w fun e w' => e = .returned (.bool (a0.testBit i)) ∧ Below w.heap.size w w' := by
  have e1 := bits_and63 i hi
  have e2 : ((i : Int) / 64) = 0 := by omega
  have e3 := bit_beq a0 i ha
  go_enter Tryz.func97, Tryz.ntmps97
  go_wp2
  go_ret
  exact ⟨rfl, (Below.refl _ _).alloc (Nat.le_refl _) _⟩
/-- Does a set of signs have this one? -/
def hasSign (lo hi c : Nat) : Bool := if c < 64 then lo.testBit c else hi.testBit (c % 64)
set_option maxRecDepth 100000 in
theorem Has_any (lo hi : Nat) (c : Nat) (b off : Nat) (w : World) (hc : c < 128) (hlo : lo < 2 ^ 64) (hhi : hi < 2 ^ 64)
    (h0 : w.cell? ⟨b, off, none⟩ = some (.int .u64 lo)) (h1 : w.cell? ⟨b, off + 1, none⟩ = some (.int .u64 hi)) :
    Calls Tryz.prog 152 #[.pointer (some ⟨b, off, none⟩), .int .u8 c] w fun e w' => e = .returned (.bool (hasSign lo hi c)) ∧ w' = w := by
  have e1 : bits BinOp.and .u8 (c : Int) 63 = ((c % 64 : Nat) : Int) := bits_and_u8 c 6 63 (by omega) rfl (by decide)
  by_cases hs : c < 64
  · have e2 : ((c : Int) / 64) = 0 := by omega
    have e4 : ((c % 64 : Nat) : Int) = (c : Int) := by omega
    rw [e4] at e1
    have e3 := bit_beq lo c hlo
    go_enter Tryz.func152, Tryz.ntmps152
    go_wp2
    go_ret
    exact ⟨by simp [hasSign, hs], rfl⟩
  · have e2 : ((c : Int) / 64) = 1 := by omega
    obtain ⟨d, hd⟩ : ∃ d, c % 64 = d := ⟨_, rfl⟩
    rw [hd] at e1
    have hd1 : d < 64 := by omega
    have e3 := bit_beq hi d hhi
    have HS : Hid (c % 64 = d) := hd
    clear hd
    go_enter Tryz.func152, Tryz.ntmps152
    go_wp2
    go_ret
    exact ⟨by simp [hasSign, hs, HS.out], rfl⟩
theorem sign_any (c : Nat) (w : World) (hc : 32 ≤ c) (hc2 : c ≤ 126) :
    Calls Tryz.prog 159 #[.int .u8 c] w fun e w' => e = .returned (.bool true) ∧ w' = w := by
  have h10 : ((c : Int) == 10) = false := by simp; omega
  have h1 : (32 : Int) ≤ (c : Int) := by omega
  have h2 : (c : Int) ≤ 126 := by omega
  go_enter Tryz.func159, Tryz.ntmps159
  go_wp2
  go_ret
  exact ⟨rfl, rfl⟩
theorem ne0 (a : Nat) : ((a : Int) != 0) = (a != 0) := by
  by_cases h : a = 0
  · subst h; rfl
  · have h' : ((a : Int) == 0) = false := by simp; omega
    simp [bne, h, h']
theorem meet_any (a0 a1 b0 b1 : Nat) (w : World) (h0 : a0 < 2 ^ 64) (h1 : a1 < 2 ^ 64) (h2 : b0 < 2 ^ 64) (h3 : b1 < 2 ^ 64) :
    Calls Tryz.prog 126 #[.agg #[.int .u64 a0, .int .u64 a1], .agg #[.int .u64 b0, .int .u64 b1]] w fun e w' => e = .returned (.bool (meets a0 a1 b0 b1)) ∧ Below w.heap.size w w' := by
  have e0 := bits_and a0 b0 h0 h2
  have e1 := bits_and a1 b1 h1 h3
  have n0 := ne0 (a0 &&& b0)
  have n1 := ne0 (a1 &&& b1)
  have hg : meets a0 a1 b0 b1 = ((a0 &&& b0 != 0) || (a1 &&& b1 != 0)) := rfl
  generalize a0 &&& b0 = x at *
  generalize a1 &&& b1 = y at *
  have HG := Lib.hid hg
  clear hg
  cases hx : (x != 0)
  · rw [hx] at n0
    go_enter Tryz.func126, Tryz.ntmps126
    go_wp2
    go_ret
    exact ⟨by rw [HG.out, hx]; simp, ((Below.refl _ _).alloc (Nat.le_refl _) _).alloc (by simp) _⟩
  · rw [hx] at n0
    go_enter Tryz.func126, Tryz.ntmps126
    go_wp2
    go_ret
    exact ⟨by rw [HG.out, hx]; simp, ((Below.refl _ _).alloc (Nat.le_refl _) _).alloc (by simp) _⟩
end Go.Proofs.YtiocjdggdmeggaaGreatDoor
