/-
  The walks of run and of Once.
-/
import Derived.Test.YtiocjdggdmeggaaGreatDoorLookB
import Derived.Deep.LoopGhost
namespace Go.Proofs.YtiocjdggdmeggaaGreatDoor
open Go.RowKit Go.Shelf
/-- The queue without its head. -/
theorem queue_tail {w : World} {B : Nat} {q : Value} {t : Nat × Nat × Nat} {xs : List (Nat × Nat × Nat)} (h : QueueAt w B q (t :: xs)) :
    ∃ p c, (∀ W, (Instr.slice 190 q (some (.int .i64 1)) none none).run Tryz.prog W = .ok (.slice p xs.length c) W) ∧ QueueAt w B (.slice p xs.length c) xs ∧ (Value.slice p xs.length c).ownBlock = q.ownBlock := by
  rcases h with ⟨_, h⟩ | ⟨g, off, cap, cur, rfl, hB, hg, hle, hsz, hcells⟩
  · cases h
  · simp only [List.length_cons] at hle
    have hso : ∀ W : World, (sizeOf 146).run Tryz.prog W = .ok 3 W := fun W => by kernel_rfl
    have hrun : ∀ W : World, (Instr.slice 190 (.slice (some ⟨g, off, none⟩) (xs.length + 1) cap) (some (.int .i64 1)) none none).run Tryz.prog W = .ok (.slice (if cap = 1 then some ⟨g, off, none⟩ else some ⟨g, off + 3, none⟩) xs.length (cap - 1)) W := by
      intro W
      simp [Instr.slice, run_underlying Tryz.underlying190, Instr.sliceBounds, Instr.sliceBound, asIntOf, hso, Addr.add, go_sem]
      intro h
      exfalso
      omega
    refine ⟨_, _, hrun, ?_, ?_⟩
    · by_cases hc : cap = 1
      · have hx : xs = [] := List.eq_nil_of_length_eq_zero (by omega)
        subst hx
        rw [if_pos hc]
        exact .inr ⟨g, off, cap - 1, cur, rfl, hB, hg, by simp, by omega, fun j u hj => by simp [pairCells] at hj⟩
      · rw [if_neg hc]
        refine .inr ⟨g, off + 3, cap - 1, cur, rfl, hB, hg, by omega, by omega, fun j u hj => ?_⟩
        have := hcells (3 + j) u (by
          have e : pairCells (t :: xs) = [.int .i64 (t.1 : Nat), .int .i64 (t.2.1 : Nat), .int .i64 (t.2.2 : Nat)] ++ pairCells xs := rfl
          rw [e, List.getElem?_append_right (by simp)]
          simpa using hj)
        rw [show off + 3 + j = off + (3 + j) by omega]
        exact this
    · by_cases hc : cap = 1
      · rw [if_pos hc]; rfl
      · rw [if_neg hc]; rfl
/-- The head of the queue. -/
theorem queue_head {w : World} {B : Nat} {q : Value} {t : Nat × Nat × Nat} {xs : List (Nat × Nat × Nat)} (h : QueueAt w B q (t :: xs)) :
    ∃ g off cap, q = .slice (some ⟨g, off, none⟩) (xs.length + 1) cap ∧ w.cell? ⟨g, off, none⟩ = some (.int .i64 (t.1 : Nat)) ∧ w.cell? ⟨g, off + 1, none⟩ = some (.int .i64 (t.2.1 : Nat)) ∧ w.cell? ⟨g, off + 2, none⟩ = some (.int .i64 (t.2.2 : Nat)) := by
  rcases h with ⟨_, h⟩ | ⟨g, off, cap, cur, rfl, hB, hg, hle, hsz, hcells⟩
  · cases h
  · exact ⟨g, off, cap, rfl, (cell_at hg off).trans (hcells 0 _ rfl), (cell_at hg (off + 1)).trans (hcells 1 _ rfl), (cell_at hg (off + 2)).trans (hcells 2 _ rfl)⟩
theorem SearchAt.own {w : World} {B s m : Nat} {q : Value} {S xs : List (Nat × Nat × Nat)} (h : SearchAt w B s m q S xs) : ∀ k, k < B → ¬ Touch s m q k := fun k hk ht => by
  rcases ht with e | e | e
  · have := h.Bs; omega
  · have := h.Bm; omega
  · have := (isSome_ownBlock h.queue e).1; omega
/-- The search's slot of its queue is set to another slice of the same block. -/
theorem SearchAt.requeue {w : World} {B s m : Nat} {q q' : Value} {S xs xs' : List (Nat × Nat × Nat)} (h : SearchAt w B s m q S xs) (hq : QueueAt w B q' xs') (ho : q'.ownBlock = q.ownBlock) : SearchAt (w.setCell ⟨s, 1, none⟩ q') B s m q' S xs' := by
  refine ⟨setCell_at h.at' 1 q', h.seen.same (Below.heap_setCell _ _ _ _ (Ne.symm h.sm)), ?_, h.Bs, h.Bm, h.sm, by rw [ho]; exact h.sq, by rw [ho]; exact h.mq⟩
  exact hq.kept fun k _ _ e => Below.heap_setCell _ _ _ _ (fun e2 => h.sq (by rw [← ho, e, e2]))
theorem runP_nil (look : Nat × Nat × Nat → SQ → SQ × Bool) (ok : Nat × Nat × Nat → Bool) (f : Nat) (S : List (Nat × Nat × Nat)) : runP look ok (f + 1) (S, []) = if S.length ≤ 80000 then some false else none := by
  rw [runP.eq_def]
  simp
theorem runP_cons (look : Nat × Nat × Nat → SQ → SQ × Bool) (ok : Nat × Nat × Nat → Bool) (f : Nat) (S : List (Nat × Nat × Nat)) (t : Nat × Nat × Nat) (xs : List (Nat × Nat × Nat)) :
    runP look ok (f + 1) (S, t :: xs) = if S.length ≤ 80000 ∧ (t :: xs).length ≤ 80000 then (if ok t then (if (look t (S, xs)).2 then some true else runP look ok f (look t (S, xs)).1) else none) else none := by
  rw [runP.eq_def]
/-- What holds at the head of run's loop. -/
def RunI (w : World) (A C : PA) (r : Bool) (f : Nat) (W : World) : Prop := ∃ st q, SearchAt W w.heap.size (w.heap.size + 1) w.heap.size q st.1 st.2 ∧ Below w.heap.size w W ∧ runP (lookP A C) (okP A C) f st = some r
theorem touch_below {w W W' : World} {s m : Nat} {q : Value} {S xs : List (Nat × Nat × Nat)} (h : SearchAt W w.heap.size s m q S xs) (hb : Below w.heap.size w W) (hx : Ext (Touch s m q) W W') : Below w.heap.size w W' :=
  hb.trans (hx.below w.heap.size hb.size fun i hi => h.own i hi)
set_option maxHeartbeats 1000000 in
set_option maxRecDepth 100000 in
theorem run_any (w : World) (A C : PA) (T pa pc ba bc fuel : Nat) (r : Bool) (hA : A.Ok) (hC : C.Ok) (hAt : AutoAt w T pa A) (hCt : AutoAt w T pc C) (hT : T ≤ w.heap.size) (hT6 : 6 < T) (hE : Env w)
    (hba : w.heap[ba]? = some (.cells #[.pointer (some ⟨pa, 0, none⟩)] 62 (0, 0))) (hbc : w.heap[bc]? = some (.cells #[.pointer (some ⟨pc, 0, none⟩)] 62 (0, 0)))
    (hr : runP (lookP A C) (okP A C) fuel (pushP (0, 0, 0) ([], [])) = some r) :
    Calls Tryz.prog 94 #[.func (.func 95) #[] #[.pointer (some ⟨ba, 0, none⟩), .pointer (some ⟨bc, 0, none⟩)]] w fun e w' => e = .returned (.bool r) ∧ Below w.heap.size w w' := by
  have HAt := Lib.hid hAt
  have HCt := Lib.hid hCt
  have HE := Lib.hid hE
  have HBA := Lib.hid hba
  have HBC := Lib.hid hbc
  have HR := Lib.hid hr
  have hsba := lt_of_at hba
  have hsbc := lt_of_at hbc
  have mm : ∀ W : World, (Instr.makeMap 189 none).run Tryz.prog W = .ok (.map (some W.heap.size)) (W.alloc (.map #[] 0)) := fun W => by kernel_rfl
  clear hAt hCt hE hba hbc hr
  go_enter Tryz.func94, Tryz.ntmps94
  go_wp2_with fail
  obtain ⟨W2, hW2⟩ : ∃ W2, (w.alloc (.map #[] 0)).alloc (.cells #[.map (some w.heap.size), .slice none 0 0] 192) = W2 := ⟨_, rfl⟩
  have hb2 : Below w.heap.size w W2 := by rw [← hW2]; exact ((Below.refl _ _).alloc (Nat.le_refl _) _).alloc (by simp) _
  have hs2 : SearchAt W2 w.heap.size (w.heap.size + 1) w.heap.size (.slice none 0 0) [] [] := by
    refine ⟨?_, ?_, .inl ⟨rfl, rfl⟩, by omega, Nat.le_refl _, by omega, by simp [Value.ownBlock], by simp [Value.ownBlock]⟩
    · rw [← hW2]; have := alloc_at (w.alloc (.map #[] 0)) (.cells #[.map (some w.heap.size), .slice none 0 0] 192); simpa using this
    · rw [← hW2]; exact (seen_made w).alloc _
  rw [hW2]
  have HB2 := Lib.hid hb2
  have HS2 := Lib.hid hs2
  clear hW2 hb2 hs2 mm
  refine (put_any W2 w.heap.size _ _ _ [] [] (0, 0, 0) HS2.out HB2.out.size ⟨by decide, by decide, by decide⟩ (by decide) (by decide)).mono ?_
  rintro e w3 ⟨rfl, q3, hs3, hx3, _⟩
  have hI : RunI w A C r fuel w3 := ⟨([(0, 0, 0)], [(0, 0, 0)]), q3, hs3, touch_below HS2.out HB2.out hx3, HR.out⟩
  have HI := Lib.hid hI
  clear hI hs3 hx3
  go_wp2
  go_loopg [4] fuel (fun g p wr => Hid (RunI w A C r g wr))
  case atStart => exact HI.out
  case round =>
    obtain ⟨⟨S, xs⟩, q, hs, hb, hr⟩ := hrel.out
    clear hrel
    cases gk with
    | zero => cases hr
    | succ f =>
      have c1 : wr.cell? ⟨w.heap.size + 1, 1, none⟩ = some q := cell_at hs.at' 1
      have HB := Lib.hid hb
      have HS := Lib.hid hs
      have hsz : w.heap.size + 1 < wr.heap.size := lt_of_at hs.at'
      cases xs with
      | nil =>
        obtain ⟨p, cap, rfl⟩ : ∃ p cap, q = .slice p 0 cap := by
          rcases hs.queue with ⟨h, _⟩ | ⟨g, off, cap, cur, h, _⟩
          · exact ⟨_, _, h⟩
          · exact ⟨_, _, h⟩
        have hr' : r = false := by
          rw [runP_nil] at hr
          split at hr
          · simpa using hr.symm
          · cases hr
        subst hr'
        clear hr hs hb
        go_wp2
        go_ret
        exact ⟨rfl, HB.out⟩
      | cons t xs =>
        rw [runP_cons] at hr
        split at hr
        · rename_i hlen
          split at hr
          · rename_i hok
            obtain ⟨g, off, cap, rfl, e0, e1, e2⟩ := queue_head hs.queue
            obtain ⟨p', c', htail, hqt, hot⟩ := queue_tail hs.queue
            have HR2 := Lib.hid hr
            have HQT := Lib.hid hqt
            have HOT := Lib.hid hot
            have HL := Lib.hid hlen
            have HOK := Lib.hid hok
            have i0 : (0 : Int) < (xs.length : Int) + 1 := by omega
            have f1 : wr.frozen? ⟨w.heap.size + 1, 1, none⟩ = false := frozen_at hs.at' 1
            clear hr hs hb hqt hot hlen hok
            go_wp2_with fail
            have hs2 := (HS.out.requeue HQT.out HOT.out).alloc (.cells #[.int .i64 (t.1 : Nat), .int .i64 (t.2.1 : Nat), .int .i64 (t.2.2 : Nat)] 146)
            have hb2 : Below w.heap.size w ((wr.setCell ⟨w.heap.size + 1, 1, none⟩ (.slice p' xs.length c')).alloc (.cells #[.int .i64 (t.1 : Nat), .int .i64 (t.2.1 : Nat), .int .i64 (t.2.2 : Nat)] 146)) := (HB.out.setCell (by simp) _).alloc (by simp [World.setCell]; omega) _
            generalize (wr.setCell ⟨w.heap.size + 1, 1, none⟩ (.slice p' xs.length c')).alloc (.cells #[.int .i64 (t.1 : Nat), .int .i64 (t.2.1 : Nat), .int .i64 (t.2.2 : Nat)] 146) = wl at hs2 hb2 ⊢
            have HS2' := Lib.hid hs2
            have HB2' := Lib.hid hb2
            clear hs2 hb2 htail c1 e0 e1 e2 f1
            refine (look_any wl w.heap.size (w.heap.size + 1) w.heap.size _ S xs A C T pa pc ba bc t hA hC HS2'.out HB2'.out.size (HAt.out.same fun k hk => HB2'.out.block k (by omega)) (HCt.out.same fun k hk => HB2'.out.block k (by omega)) hT hT6
              (env_below HB2'.out (by omega) HE.out) HOK.out HL.out.1 (by have := HL.out.2; simp at this; omega) (below_at HB2'.out HBA.out hsba) (below_at HB2'.out HBC.out hsbc)).mono ?_
            rintro e w4 ⟨rfl, q4, hs4, hx4, _⟩
            have hb4 := touch_below HS2'.out HB2'.out hx4
            have HS4 := Lib.hid hs4
            have HB4 := Lib.hid hb4
            clear hs4 hx4 hb4
            obtain ⟨found, hfound⟩ : ∃ found, (lookP A C t (S, xs)).2 = found := ⟨_, rfl⟩
            have hr2 := HR2.out
            rw [hfound] at hr2 ⊢
            have HR3 := Lib.hid hr2
            clear hr2 hfound
            cases found
            · go_wp2
              go_roundg f
              case measure => omega
              case rel => exact ⟨(lookP A C t (S, xs)).1, q4, HS4.out, HB4.out, by simpa using HR3.out⟩
            · go_wp2
              go_ret
              have hr3 := HR3.out
              simp only [if_true, Option.some.injEq] at hr3
              subst hr3
              exact ⟨rfl, HB4.out⟩
          · cases hr
        · cases hr
theorem once_any (w : World) (A C : PA) (T pa pc fuel : Nat) (r : Bool) (hA : A.Ok) (hC : C.Ok) (hAt : AutoAt w T pa A) (hCt : AutoAt w T pc C) (hT : T ≤ w.heap.size) (hT6 : 6 < T) (hE : Env w) (hr : onceP A C fuel = some r) :
    Calls Tryz.prog 61 #[.pointer (some ⟨pa, 0, none⟩), .pointer (some ⟨pc, 0, none⟩)] w fun e w' => e = .returned (.bool r) ∧ Below w.heap.size w w' := by
  obtain ⟨W2, hW2⟩ : ∃ W2, (w.alloc (.cells #[.pointer (some ⟨pa, 0, none⟩)] 62)).alloc (.cells #[.pointer (some ⟨pc, 0, none⟩)] 62) = W2 := ⟨_, rfl⟩
  have hb2 : Below w.heap.size w W2 := by rw [← hW2]; exact ((Below.refl _ _).alloc (Nat.le_refl _) _).alloc (by simp) _
  have h1 : W2.heap[w.heap.size]? = some (.cells #[.pointer (some ⟨pa, 0, none⟩)] 62 (0, 0)) := by rw [← hW2]; exact alloc_old (alloc_at _ _) _
  have h2 : W2.heap[w.heap.size + 1]? = some (.cells #[.pointer (some ⟨pc, 0, none⟩)] 62 (0, 0)) := by rw [← hW2]; have := alloc_at (w.alloc (.cells #[.pointer (some ⟨pa, 0, none⟩)] 62)) (.cells #[.pointer (some ⟨pc, 0, none⟩)] 62); simpa using this
  have hr2 : ∃ b, runP (lookP A C) (okP A C) fuel (pushP (0, 0, 0) ([], [])) = some b ∧ r = !b := by
    unfold onceP at hr
    cases h : runP (lookP A C) (okP A C) fuel (pushP (0, 0, 0) ([], [])) with
    | none => rw [h] at hr; cases hr
    | some b => rw [h] at hr; exact ⟨b, rfl, by simpa using hr.symm⟩
  obtain ⟨b, hb, rfl⟩ := hr2
  have HRUN := Lib.hid (run_any W2 A C T pa pc _ _ fuel b hA hC (hAt.same fun k hk => hb2.block k (by omega)) (hCt.same fun k hk => hb2.block k (by omega)) (Nat.le_trans hT hb2.size) hT6 (env_below hb2 (by omega) hE) h1 h2 hb)
  have HW2 := Lib.hid hW2
  have HB2 := Lib.hid hb2
  clear hW2 hb2 h1 h2 hr hb hAt hCt hE
  go_enter Tryz.func61, Tryz.ntmps61
  go_wp2_with fail
  rw [HW2.out]
  refine HRUN.out.mono ?_
  rintro e w3 ⟨rfl, hb3⟩
  have HB3 := Lib.hid (HB2.out.trans (hb3.mono HB2.out.size))
  clear hb3
  go_wp2
  go_ret
  exact ⟨rfl, HB3.out⟩
end Go.Proofs.YtiocjdggdmeggaaGreatDoor
