/-
  The walk of (Set).each: it calls yield at each place of the set, lowest first.
-/
import Derived.RangeFuncNested
import Derived.RangeFuncBound
import Derived.RangeFuncCalls
import Derived.RangeFuncLeaves
import Derived.Shelf.Abstract
import Derived.Shelf.RegionOpen
import Derived.WalkKit
import Derived.OwnWalkIn
import Derived.TacticsInMore
import Derived.LoopNIn
import Derived.LoopIn
import Derived.Outline
import Derived.Test.YtiocjdggdmeggaaGreatDoorShelf
import Derived.Test.YtiocjdggdmeggaaGreatDoorBits
import Derived.Test.YtiocjdggdmeggaaGreatDoorRange
namespace Go.Proofs.YtiocjdggdmeggaaGreatDoor
open Go.RowKit Go.Shelf
attribute [local go_sem] Oper.semAt_some

/-- The table of package bits as it is laid. -/
def Env (w : World) : Prop := TabAt 6 Lib.deBruijn64tab w

theorem each_runs (s : Nat) (hs : s < 2 ^ 64) : Runs Tryz.prog 125 #[.agg #[.int .u64 s, .int .u64 0]] (bitsOf s) Env := by
  intro n l J W hJa hJd hJE hY h0
  have HY := Lib.hid hY
  have HA := Lib.hid hJa
  have HE := Lib.hid hJE
  have H0 := Lib.hid h0
  clear hY hJa hJE hJd h0
  have i0 : ∀ w, (Instr.index 152 (.agg #[.int .u64 (s : Int), .int .u64 0]) (.int .i64 0)).run Tryz.prog w = .ok (.int .u64 (s : Int)) w := fun _ => by kernel_rfl
  have i1 : ∀ w, (Instr.index 152 (.agg #[.int .u64 (s : Int), .int .u64 0]) (.int .i64 1)).run Tryz.prog w = .ok (.int .u64 0) w := fun _ => by kernel_rfl
  refine callsIn_of_wp Tryz.func125 rfl trivial ?_ rfl
  simp only [Tryz.ntmps125, List.size_toArray, List.length_cons, List.length_nil, Nat.reduceAdd, Nat.reduceSub, Array.replicate_succ, Array.replicate_zero, List.push_toArray, List.append_toArray, List.nil_append, List.cons_append]
  gi_wp2
  gi_loopw [7] (fun i wr => ∃ k : Int, (k = 0 ∨ k = 1 ∨ k = 2) ∧ i = .int .i64 k ∧ Hid (J (if k = 0 then 0 else (bitsOf s).length) wr)) (fun i _ => 2 - (intOf i).toNat)
  case atStart => exact ⟨0, by simp, rfl, HA.out _ _ _ H0.out⟩
  case round =>
    obtain ⟨k, hk, rfl, hJk⟩ := hrel
    obtain ⟨wo, rfl⟩ : ∃ wo : World, wo = wr := ⟨_, rfl⟩
    rcases hk with rfl | rfl | rfl
    · gi_wp2
      gi_loopw [5] (fun v wr => ∃ (x k : Nat), x < 2 ^ 64 ∧ v = .int .u64 (x : Int) ∧ Hid ((bitsOf s).drop k = bitsOf x ∧ k ≤ (bitsOf s).length ∧ J k wr)) (fun v _ => (intOf v).toNat)
      case atStart => exact ⟨s, 0, hs, rfl, rfl, ⟨by simp, by simpa using hJk.out⟩⟩
      case round =>
        obtain ⟨x, k, hx, rfl, hX⟩ := hrel
        by_cases h0 : x = 0
        · subst h0
          gi_wp2
          have hX' := hX.out
          have hk : (bitsOf s).length = k := by
            have := hX'.1; rw [bitsOf_zero, List.drop_eq_nil_iff] at this; have := hX'.2.1; omega
          exact ⟨⟨1, by simp, rfl, show J (if (1 : Int) = 0 then 0 else (bitsOf s).length) _ by rw [hk]; exact hX'.2.2⟩, by decide⟩
        · obtain ⟨hc, hb⟩ := bitsOf_step x h0 hx
          have hlt := and_pred_lt x h0
          have hD := hX.out.1
          have hJ := hX.out.2.2
          have hE := HE.out _ _ hJ
          have htz := Tryz.tz64 x hx wr hE
          generalize Lib.ctz 64 x = c at *
          have hget : (bitsOf s)[k]? = some c := by
            have := congrArg (fun l => l[0]?) (hD.trans hb)
            simpa using this
          obtain ⟨fn, tmps, assign, body, hy, hR⟩ := HY.out k c wr hget hJ
          have HD := Lib.hid hD
          have HB := Lib.hid hb
          have HG := Lib.hid hget
          have hx0 : ((x : Int) != 0) = true := by simp; omega
          have HK : Hid (k + 1 ≤ (bitsOf s).length) := by
            have := (List.getElem?_eq_some_iff.1 hget).1; exact this
          have e1 : bits BinOp.and .u64 (x : Int) ((x : Int) - 1) = ((x &&& (x - 1) : Nat) : Int) := by
            have h := bits_and x (x - 1) hx (by omega)
            rw [show ((x - 1 : Nat) : Int) = (x : Int) - 1 by omega] at h
            exact h
          have hx1 : 1 ≤ x := by omega
          clear hD hb hget hX hE h0
          gi_wp2_with (first | (refine ⟨trivial, (fun h => by cases h), ?_⟩; gi_at_call 154; refine (callsIn_wide.2 htz).mono ?_; rintro e w' ⟨rfl, rfl⟩))
          refine ⟨(fun h => by cases h), ?_⟩
          refine hR.mono ?_
          rintro e W3 ⟨rfl, hJ3⟩
          have H3 := Lib.hid hJ3
          clear hJ3
          gi_wp2
          go_roundw
          case rel => exact ⟨x &&& (x - 1), k + 1, by omega, rfl, by
            have h1 := HD.out.trans HB.out
            have h2 := congrArg List.tail h1
            rw [List.tail_drop, List.tail_cons] at h2
            exact h2, HK.out, H3.out⟩
          case measure => simp [intOf]; omega
    · gi_wp2
      gi_loopw [5] (fun v wr => v = .int .u64 0 ∧ Hid (J (bitsOf s).length wr)) (fun v _ => 0)
      case atStart => exact ⟨rfl, Lib.hid (by simpa using hJk.out)⟩
      case round =>
        obtain ⟨rfl, hX⟩ := hrel
        gi_wp2
        exact ⟨⟨2, by simp, rfl, hX⟩, by decide⟩
    · gi_wp2
      go_end0
      exact ⟨⟨_, rfl⟩, by simpa using hJk.out⟩
end Go.Proofs.YtiocjdggdmeggaaGreatDoor
