/-
  The walks of fault.Catch where nothing is thrown.
-/
import Derived.Test.YtiocjdggdmeggaaGreatDoorLens2
import Derived.Tactics2
import Derived.Defers
import Derived.Recover
import Derived.Laws.Pointers
namespace Go.Proofs.YtiocjdggdmeggaaGreatDoor
open Go.RowKit Go.Shelf
theorem zero131 : ∀ w : World, (zeroValue 131).run Tryz.prog w = .ok (.agg #[.nilIface]) w := fun _ => by kernel_rfl
theorem assert_nil (w : World) : (Instr.typeAssert .nilIface 20 131 true).run Tryz.prog w = .ok (.tuple #[.agg #[.nilIface], .bool false]) w := by kernel_rfl
theorem idle_any (p : Addr) (w : World) :
    CallsD Tryz.prog 84 #[.pointer (some p)] .returning w fun e u' w' => u' = .returning ∧ e = .returned (.tuple #[]) ∧ Below w.heap.size w w' := by
  have ta := assert_nil
  have ta := assert_nil
  have ta := assert_nil
  refine callsD_of_wpS Tryz.func84 rfl fun c₀ cs hu => ?_
  apply wpS_seq
  apply wpS_region
  simp [wpOpsS, go_sem, recoverD, hu, Tryz.ntmps84, Exit.thenS, ta]
  apply wpS_seq
  apply wpS_region
  simp [wpOpsS, go_sem, Exit.thenS]
  refine wpS_cond (t := false) (by simp [Act.eval, Array.replicate]) ?_
  simp only [Bool.false_eq_true, if_false]
  refine wpS_of_wp (Go.wp_skip ?_)
  cases c₀
  simp_all [bodyPostS, results, Tryz.results84]
  exact (Below.refl _ _).alloc (Nat.le_refl _) _
theorem catch78 (w : World) (p q : Addr) (R : World → Prop) (hc : Calls Tryz.prog 78 #[.pointer (some p), .pointer (some q)] (w.alloc (.cells #[.nilIface] 54)) fun e w' => e = .returned (.tuple #[]) ∧ R w')
    (hk : ∀ w', R w' → w'.heap[w.heap.size]? = some (.cells #[.nilIface] 54 (0, 0))) :
    Calls Tryz.prog 51 #[.func (.func 78) #[] #[.pointer (some p), .pointer (some q)]] w fun e w' => e = .returned .nilIface ∧ ∃ w1, R w1 ∧ Only w.heap.size w1 w' := by
  have hmf : ∀ (fn : Fn) (first cap : Array Value) (w : World), (Instr.makeFunc fn first cap).run Tryz.prog w = .ok (.func fn first cap) w := fun _ _ _ _ => rfl
  have HC := Lib.hid hc
  have HK := Lib.hid hk
  clear hc hk
  go_enter_defers Tryz.func51, Tryz.ntmps51
  go_wp2_with fail
  refine HC.out.mono ?_
  rintro e w1 ⟨rfl, hR⟩
  have hcell := HK.out w1 hR
  have HR := Lib.hid hR
  have c0 : w1.cell? ⟨w.heap.size, 0, none⟩ = some .nilIface := cell_at hcell 0
  have f0 : w1.frozen? ⟨w.heap.size, 0, none⟩ = false := frozen_at hcell 0
  have HCL := Lib.hid hcell
  clear hR hcell
  go_wp2
  refine leaves_cons (f := 84) (args := #[.pointer (some ⟨w.heap.size, 0, none⟩)]) (by simp) (by simp [go_sem]) ?_
  refine (idle_any ⟨w.heap.size, 0, none⟩ _).mono ?_
  rintro e u' w'' ⟨rfl, rfl, hb⟩
  have hs : (w1.setCell ⟨w.heap.size, 0, none⟩ .nilIface).heap[w.heap.size]? = some (.cells #[.nilIface] 54 (0, 0)) := setCell_at HCL.out 0 _
  have h2 := below_at hb hs (lt_of_at hs)
  have d0 : w''.cell? ⟨w.heap.size, 0, none⟩ = some .nilIface := cell_at h2 0
  have hO : Only w.heap.size w1 w'' := ((Only.refl _ _).setCell 0 _).below hb
  simp [Leaves, settle, results, Tryz.results51, go_sem, d0]
  exact ⟨w1, HR.out, hO⟩
theorem catch52 (w : World) (p q : Addr) (R : World → Prop) (hc : Calls Tryz.prog 52 #[.pointer (some p), .pointer (some q)] (w.alloc (.cells #[.nilIface] 54)) fun e w' => e = .returned (.tuple #[]) ∧ R w')
    (hk : ∀ w', R w' → w'.heap[w.heap.size]? = some (.cells #[.nilIface] 54 (0, 0))) :
    Calls Tryz.prog 51 #[.func (.func 52) #[] #[.pointer (some p), .pointer (some q)]] w fun e w' => e = .returned .nilIface ∧ ∃ w1, R w1 ∧ Only w.heap.size w1 w' := by
  have hmf : ∀ (fn : Fn) (first cap : Array Value) (w : World), (Instr.makeFunc fn first cap).run Tryz.prog w = .ok (.func fn first cap) w := fun _ _ _ _ => rfl
  have HC := Lib.hid hc
  have HK := Lib.hid hk
  clear hc hk
  go_enter_defers Tryz.func51, Tryz.ntmps51
  go_wp2_with fail
  refine HC.out.mono ?_
  rintro e w1 ⟨rfl, hR⟩
  have hcell := HK.out w1 hR
  have HR := Lib.hid hR
  have c0 : w1.cell? ⟨w.heap.size, 0, none⟩ = some .nilIface := cell_at hcell 0
  have f0 : w1.frozen? ⟨w.heap.size, 0, none⟩ = false := frozen_at hcell 0
  have HCL := Lib.hid hcell
  clear hR hcell
  go_wp2
  refine leaves_cons (f := 84) (args := #[.pointer (some ⟨w.heap.size, 0, none⟩)]) (by simp) (by simp [go_sem]) ?_
  refine (idle_any ⟨w.heap.size, 0, none⟩ _).mono ?_
  rintro e u' w'' ⟨rfl, rfl, hb⟩
  have hs : (w1.setCell ⟨w.heap.size, 0, none⟩ .nilIface).heap[w.heap.size]? = some (.cells #[.nilIface] 54 (0, 0)) := setCell_at HCL.out 0 _
  have h2 := below_at hb hs (lt_of_at hs)
  have d0 : w''.cell? ⟨w.heap.size, 0, none⟩ = some .nilIface := cell_at h2 0
  have hO : Only w.heap.size w1 w'' := ((Only.refl _ _).setCell 0 _).below hb
  simp [Leaves, settle, results, Tryz.results51, go_sem, d0]
  exact ⟨w1, HR.out, hO⟩
end Go.Proofs.YtiocjdggdmeggaaGreatDoor
