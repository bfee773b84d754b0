/-
  The walk of lenseskeep.Keyed.
-/
import Derived.Test.YtiocjdggdmeggaaGreatDoorShips
namespace Go.Proofs.YtiocjdggdmeggaaGreatDoor
open Go.RowKit Go.Shelf
theorem flat2 (w u gp : Txt) : [w ++ ((gp ++ [61]) ++ ([49] ++ [33])), u ++ ((61 :: 32 :: gp) ++ ([50] ++ [33, 33]))].flatten = w ++ gp ++ [61, 49, 33] ++ u ++ [61, 32] ++ gp ++ [50, 33, 33] := by simp
def newT : Txt := [110, 101, 119]
def keyedWant (w u gp : Txt) : Txt := if w = u then w ++ gp ++ [61, 55, 33] ++ w ++ [61, 32] ++ gp ++ [56, 33, 33] else u ++ [61, 32] ++ gp ++ [55, 33, 33] ++ w ++ gp ++ [61, 56, 33]
theorem small_num (c : UInt8) (h : 48 ≤ c.toNat ∧ c.toNat ≤ 57) : Num [c] := ⟨by simp, by simp, fun b hb => by simp at hb; subst hb; exact h⟩
theorem word_asc {w : Txt} (h : Word w) : ∀ b ∈ w, b.toNat < 128 := fun b hb => by have := h.2.2 b hb; omega
/-- What Put makes of the two lines, whatever comes behind in the view. -/
theorem keyed_put (w u : Txt) (g : Nat) (hg : g < 5) (hw : Word w) (hu : Word u) (vs : List Txt) (hvs : vs = [] ∨ vs = [newT ++ [57]]) (W : World) (T b : Nat) (h : LensAt W T b equals) (hT : T ≤ W.heap.size) (h6 : 6 < T) (hE : Env W) :
    Calls Tryz.prog 16 #[.pointer (some ⟨b, 0, none⟩), .string ⟨(u ++ [55] ++ w ++ [56] ++ vs.flatten).toArray⟩, .string ⟨(w ++ List.replicate g 32 ++ [61, 49, 33] ++ u ++ [61, 32] ++ List.replicate g 32 ++ [50, 33, 33]).toArray⟩] W
      (AnsPost W (putKeys equals ((u ++ [55]) :: (w ++ [56]) :: vs) [w ++ ((List.replicate g 32 ++ [61]) ++ ([49] ++ [33])), u ++ ((61 :: 32 :: List.replicate g 32) ++ ([50] ++ [33, 33]))])) := by
  have f0 := fits_gap0 hg
  have f1 := fits_gap1 hg
  have hwl := hw.2.1
  have hul := hu.2.1
  have hnew : Word newT := ⟨by decide, by decide, by decide⟩
  have hpp : ∀ p ∈ [w ++ ((List.replicate g 32 ++ [61]) ++ ([49] ++ [33])), u ++ ((61 :: 32 :: List.replicate g 32) ++ ([50] ++ [33, 33]))], Piece equals.sa equals.sm sE p := by
    intro p hp
    simp only [List.mem_cons, List.not_mem_nil, or_false] at hp
    rcases hp with rfl | rfl
    · exact f0.piece w [49] hw (small_num 49 (by decide))
    · exact f1.piece u [50] hu (small_num 50 (by decide))
  have hvp : ∀ p ∈ (u ++ [55]) :: (w ++ [56]) :: vs, Piece equals.va equals.vm sV p := by
    intro p hp
    simp only [List.mem_cons] at hp
    rcases hp with rfl | rfl | hp
    · exact vfits_equals.piece u [55] hu (small_num 55 (by decide))
    · exact vfits_equals.piece w [56] hw (small_num 56 (by decide))
    · rcases hvs with rfl | rfl
      · simp at hp
      · simp only [List.mem_singleton] at hp
        subst hp
        exact vfits_equals.piece newT [57] hnew (small_num 57 (by decide))
  have hs : (w ++ List.replicate g 32 ++ [61, 49, 33] ++ u ++ [61, 32] ++ List.replicate g 32 ++ [50, 33, 33] : Txt) = [w ++ ((List.replicate g 32 ++ [61]) ++ ([49] ++ [33])), u ++ ((61 :: 32 :: List.replicate g 32) ++ ([50] ++ [33, 33]))].flatten := (flat2 w u _).symm
  have hv : (u ++ [55] ++ w ++ [56] ++ vs.flatten : Txt) = ((u ++ [55]) :: (w ++ [56]) :: vs).flatten := by simp
  have hvf : vs.flatten.length ≤ 4 ∧ ∀ b ∈ vs.flatten, b.toNat < 128 := by
    rcases hvs with rfl | rfl
    · exact ⟨by simp, by simp⟩
    · exact ⟨by decide, by decide⟩
  have hsl : (w ++ List.replicate g 32 ++ [61, 49, 33] ++ u ++ [61, 32] ++ List.replicate g 32 ++ [50, 33, 33] : Txt).length ≤ 60 := by simp; omega
  have hvl : (u ++ [55] ++ w ++ [56] ++ vs.flatten : Txt).length ≤ 60 := by simp only [List.length_append, List.length_cons, List.length_nil]; omega
  have hsa : ∀ b ∈ (w ++ List.replicate g 32 ++ [61, 49, 33] ++ u ++ [61, 32] ++ List.replicate g 32 ++ [50, 33, 33] : Txt), b.toNat < 128 := by
    intro b hb
    simp only [List.mem_append, List.mem_replicate, List.mem_cons, List.not_mem_nil, or_false] at hb
    rcases hb with ((((((h | h) | h) | h) | h) | h) | h)
    · exact word_asc hw b h
    · rw [h.2]; decide
    · rcases h with rfl | rfl | rfl <;> decide
    · exact word_asc hu b h
    · rcases h with rfl | rfl <;> decide
    · rw [h.2]; decide
    · rcases h with rfl | rfl | rfl <;> decide
  have hva : ∀ b ∈ (u ++ [55] ++ w ++ [56] ++ vs.flatten : Txt), b.toNat < 128 := by
    intro b hb
    rcases List.mem_append.1 hb with hb | hb
    · simp only [List.mem_append, List.mem_cons, List.not_mem_nil, or_false] at hb
      rcases hb with ((h | h) | h) | h
      · exact word_asc hu b h
      · subst h; decide
      · exact word_asc hw b h
      · subst h; decide
    · exact hvf.2 b hb
  rw [hs] at hsl hsa ⊢
  rw [hv] at hvl hva ⊢
  exact lens_put equals equals_fine (by decide) W T b _ _ _ _ _ _ h hT h6 hE ⟨by omega, hva⟩ hvl ⟨by omega, hsa⟩ hsl (is_pieces vfits_equals.one vfits_equals.all _ hvp) (is_pieces f0.one f0.all _ hpp)
    (pieces_eq vfits_equals.one vfits_equals.all _ _ (Nat.le_refl _) hvp) (pieces_eq f0.one f0.all _ _ (Nat.le_refl _) hpp)
theorem keyed_plain (w u : Txt) (g : Nat) (hg : g < 5) (hw : Word w) (hu : Word u) :
    putKeys equals [u ++ [55], w ++ [56]] [w ++ ((List.replicate g 32 ++ [61]) ++ ([49] ++ [33])), u ++ ((61 :: 32 :: List.replicate g 32) ++ ([50] ++ [33, 33]))] = keyedWant w u (List.replicate g 32) := by
  rw [put_two hg hw hu (small_num 49 (by decide)) (small_num 50 (by decide)) (small_num 55 (by decide)) (small_num 56 (by decide)) [] (fun v hv => by simp at hv)]
  unfold keyedWant
  split
  · rename_i e; subst e; simp
  · simp
theorem keyed_new (w u : Txt) (g : Nat) (hg : g < 5) (hw : Word w) (hu : Word u) (h1 : w ≠ newT) (h2 : u ≠ newT) :
    putKeys equals [u ++ [55], w ++ [56], newT ++ [57]] [w ++ ((List.replicate g 32 ++ [61]) ++ ([49] ++ [33])), u ++ ((61 :: 32 :: List.replicate g 32) ++ ([50] ++ [33, 33]))] = keyedWant w u (List.replicate g 32) ++ [110, 101, 119, 61, 57, 33] := by
  have hnew : Word newT := ⟨by decide, by decide, by decide⟩
  have hc : equals.create (newT ++ [57]) = newT ++ ([61] ++ ([57] ++ [33])) := create_line (M := nEq) (F := nPlus (2 ^ 33) 0) hnew (small_num 57 (by decide))
  rw [put_two hg hw hu (small_num 49 (by decide)) (small_num 50 (by decide)) (small_num 55 (by decide)) (small_num 56 (by decide)) [newT ++ [57]] (fun v hv => by
    simp only [List.mem_singleton] at hv
    exact ⟨newT, [57], hnew, small_num 57 (by decide), h1.symm, h2.symm, hv⟩), List.map_cons, List.map_nil, hc]
  unfold keyedWant newT
  split
  · rename_i e; subst e; simp
  · simp
theorem snoc_bytes (k : Nat) : (⟨(List.replicate k (32 : UInt8)).toArray⟩ : ByteArray) ++ ⟨#[32]⟩ = ⟨(List.replicate (k + 1) 32).toArray⟩ := by
  rw [List.replicate_succ']
  exact bytes_append _ [32]
theorem snoc32 (k : Nat) : (List.replicate k (32 : UInt8)) ++ [32] = List.replicate (k + 1) 32 := by
  rw [List.replicate_succ']
set_option maxHeartbeats 1000000 in
set_option maxRecDepth 100000 in
theorem keyed_pos (s1 s2 : ByteArray) (m : Nat)  (hm : m < 9223372036854775808) (hs1 : s1.size ≤ maxLen) (hs2 : s2.size ≤ maxLen) (w : World) (h6 : 6 < w.heap.size) (hE : Env w) :
    Calls Tryz.prog 9 #[.string s1, .string s2, .int .i64 (m : Nat)] w fun e w' => e = .returned (.bool true) ∧ Below w.heap.size w w' := by
  have hB := compile_equals w h6 hE
  have hC1 := fun (W : World) => clean97 s1 W hs1
  have hC2 := fun (W : World) => clean97 s2 W hs2
  have hw := clean_word s1.data.toList
  have hu := clean_word s2.data.toList
  obtain ⟨wt, ewt⟩ : ∃ t, cleanP 97 122 s1.data.toList = t := ⟨_, rfl⟩
  obtain ⟨ut, eut⟩ : ∃ t, cleanP 97 122 s2.data.toList = t := ⟨_, rfl⟩
  rw [ewt] at hC1 hw
  rw [eut] at hC2 hu
  have hP := fun (vs : List Txt) (hvs : vs = [] ∨ vs = [newT ++ [57]]) (W : World) (T b : Nat) (h : LensAt W T b equals) (hT : T ≤ W.heap.size) (h6 : 6 < T) (hE : Env W) => keyed_put wt ut (m % 5) (Nat.mod_lt _ (by omega)) hw hu vs hvs W T b h hT h6 hE
  have hp1 := keyed_plain wt ut (m % 5) (Nat.mod_lt _ (by omega)) hw hu
  have hp2 := keyed_new wt ut (m % 5) (Nat.mod_lt _ (by omega)) hw hu
  have hmod : ((m : Int)).tmod 5 = ((m % 5 : Nat) : Int) := by rw [Int.tmod_eq_emod_of_nonneg (by omega)]; omega
  have hg5 : m % 5 < 5 := Nat.mod_lt _ (by omega)
  obtain ⟨g, eg⟩ : ∃ g, m % 5 = g := ⟨_, rfl⟩
  rw [eg] at hP hp1 hp2 hmod hg5
  have hwl := hw.2.1
  have hul := hu.2.1
  have HB := Lib.hid hB; have HC1 := Lib.hid hC1; have HC2 := Lib.hid hC2; have HP := Lib.hid hP; have HP1 := Lib.hid hp1; have HP2 := Lib.hid hp2; have HE := Lib.hid hE; have HM := Lib.hid hm
  clear hB hC1 hC2 hP hp1 hp2 hw hu ewt eut eg hE hs1 hs2 hm
  go_enter Tryz.func9, Tryz.ntmps9
  go_wp2_with fail
  refine HB.out.mono ?_
  rintro e w1 ⟨b, rfl, l1, hb1⟩
  have HB1 := Lib.hid hb1
  have HL := Lib.hid (show ∀ W, Below w1.heap.size w1 W → LensAt W w1.heap.size b equals from fun W hb => l1.keep fun k hk => hb.block k hk)
  have HPUT := Lib.hid (fun (vs : List Txt) (hvs : vs = [] ∨ vs = [newT ++ [57]]) (W : World) (hb : Below w1.heap.size w1 W) => HP.out vs hvs W w1.heap.size b (HL.out W hb) hb.size (Nat.lt_of_lt_of_le h6 HB1.out.size) (env_below (HB1.out.trans (hb.mono HB1.out.size)) h6 HE.out))
  clear hb1 l1
  go_wp2
  go_loop [9, 10] (fun v9 v10 => ∃ k : Nat, k ≤ g ∧ v9 = .string ⟨(List.replicate k (32 : UInt8)).toArray⟩ ∧ v10 = .int .i64 k) (fun _ v10 => g - (intOf v10).toNat)
  case atStart => exact ⟨0, Nat.zero_le _, rfl, rfl⟩
  case round =>
    obtain ⟨k, hk, rfl, rfl⟩ := hrel
    have hk5 : k ≤ 5 := by omega
    by_cases hlt : k < g
    · have i1 : (k : Int) < (g : Int) := by omega
      go_wp2
      go_round
      case rel => exact ⟨k + 1, by omega, congrArg Value.string (snoc_bytes k), by simp⟩
      case measure => exact meas_succ hlt
    · have hke : k = g := by omega
      subst hke
      have i1 : ¬ ((k : Int) < (k : Int)) := by omega
      obtain ⟨gp, egp⟩ : ∃ t, List.replicate k (32 : UInt8) = t := ⟨_, rfl⟩
      have hgl : gp.length ≤ 4 := by rw [← egp]; simp; omega
      rw [egp] at HPUT HP1 HP2 ⊢
      clear egp HP
      by_cases hwu : wt = ut
      · subst hwu
        have hp := HPUT.out [] (.inl rfl)
        have hq := HPUT.out [newT ++ [57]] (.inr rfl)
        have hwant : keyedWant wt wt gp = wt ++ gp ++ [61, 55, 33] ++ wt ++ [61, 32] ++ gp ++ [56, 33, 33] := if_pos rfl
        rw [HP1.out, hwant] at hp
        simp only [List.flatten_nil, List.append_nil] at hp
        rw [show ([newT ++ [57]] : List Txt).flatten = [110, 101, 119, 57] from rfl] at hq
        obtain ⟨Nt, eNt⟩ : ∃ t, putKeys equals [wt ++ [55], wt ++ [56], newT ++ [57]] [wt ++ ((gp ++ [61]) ++ ([49] ++ [33])), wt ++ ((61 :: 32 :: gp) ++ ([50] ++ [33, 33]))] = t := ⟨_, rfl⟩
        have hp2 := HP2.out
        rw [eNt] at hq hp2
        rw [hwant] at hp2
        obtain ⟨Sb, eS⟩ : ∃ s : ByteArray, (⟨(wt ++ gp ++ [61, 49, 33] ++ wt ++ [61, 32] ++ gp ++ [50, 33, 33]).toArray⟩ : ByteArray) = s := ⟨_, rfl⟩
        obtain ⟨Vb, eV⟩ : ∃ s : ByteArray, (⟨(wt ++ [55] ++ wt ++ [56]).toArray⟩ : ByteArray) = s := ⟨_, rfl⟩
        obtain ⟨Wb, eW⟩ : ∃ s : ByteArray, (⟨(wt ++ gp ++ [61, 55, 33] ++ wt ++ [61, 32] ++ gp ++ [56, 33, 33]).toArray⟩ : ByteArray) = s := ⟨_, rfl⟩
        obtain ⟨Ub, eU⟩ : ∃ s : ByteArray, (⟨(wt ++ [55] ++ wt ++ [56] ++ [110, 101, 119, 57]).toArray⟩ : ByteArray) = s := ⟨_, rfl⟩
        obtain ⟨Mb, eM⟩ : ∃ s : ByteArray, (⟨(wt ++ gp ++ [61, 55, 33] ++ wt ++ [61, 32] ++ gp ++ [56, 33, 33] ++ [110, 101, 119, 61, 57, 33]).toArray⟩ : ByteArray) = s := ⟨_, rfl⟩
        obtain ⟨Nb, eN⟩ : ∃ s : ByteArray, (⟨Nt.toArray⟩ : ByteArray) = s := ⟨_, rfl⟩
        unfold AnsPost at hp hq
        rw [eS, eV, eW] at hp
        rw [eS, eU, eN] at hq
        have hVU : Vb ++ ⟨#[110, 101, 119, 57]⟩ = Ub := by rw [← eV, ← eU]; exact bytes_append _ [110, 101, 119, 57]
        have hWM : Wb ++ ⟨#[110, 101, 119, 61, 57, 33]⟩ = Mb := by rw [← eW, ← eM]; exact bytes_append _ [110, 101, 119, 61, 57, 33]
        have hvs : Vb.size ≤ 100 := by rw [← eV, size_of_txt]; simp; omega
        have hws : Wb.size ≤ 100 := by rw [← eW, size_of_txt]; simp; omega
        have HNM : Hid (wt ≠ newT → wt ≠ newT → Nb = Mb) := Lib.hid fun h1 h2 => by rw [← eN, hp2 h1 h2, eM]
        have HPP := Lib.hid hp; have HQQ := Lib.hid hq; have ES := Lib.hid eS; have EV := Lib.hid eV; have EW := Lib.hid eW
        clear hp hq hp2 hwant eNt eS eV eW eU eM eN HPUT HP1 HP2
        go_wp2_with fail
        refine (HC1.out w1).mono ?_
        rintro e w2 ⟨rfl, hb2⟩
        have HB2 := Lib.hid hb2
        clear hb2
        go_wp2_with fail
        refine (HC2.out w2).mono ?_
        rintro e w3 ⟨rfl, hb3⟩
        have HB3 := Lib.hid (HB2.out.trans (hb3.mono HB2.out.size))
        clear hb3
        go_wp2_with fail
        simp only [bytes_append]
        rw [ES.out, EV.out, EW.out]
        refine (HPP.out w3 HB3.out).mono ?_
        rintro e w4 ⟨rfl, hb4⟩
        have HB4 := Lib.hid (HB3.out.trans (hb4.mono HB3.out.size))
        clear hb4
        go_wp2_with fail
        refine (HQQ.out w4 HB4.out).mono ?_
        rintro e w5 ⟨rfl, hb5⟩
        have HB5 := Lib.hid (HB4.out.trans (hb5.mono HB4.out.size))
        clear hb5 hVU
        by_cases hn1 : wt = [110, 101, 119]
        · subst hn1
          go_wp2
          go_ret
          exact ⟨rfl, HB1.out.trans (HB5.out.mono HB1.out.size)⟩
        · have hNM := HNM.out hn1 hn1
          subst hNM
          have hb1 : (wt == [110, 101, 119]) = false := beq_eq_false_iff_ne.2 hn1
          go_wp2
          go_ret
          exact ⟨rfl, HB1.out.trans (HB5.out.mono HB1.out.size)⟩
      · have hwb : (wt == ut) = false := beq_eq_false_iff_ne.2 hwu
        have hp := HPUT.out [] (.inl rfl)
        have hq := HPUT.out [newT ++ [57]] (.inr rfl)
        have hwant : keyedWant wt ut gp = ut ++ [61, 32] ++ gp ++ [55, 33, 33] ++ wt ++ gp ++ [61, 56, 33] := if_neg hwu
        rw [HP1.out, hwant] at hp
        simp only [List.flatten_nil, List.append_nil] at hp
        rw [show ([newT ++ [57]] : List Txt).flatten = [110, 101, 119, 57] from rfl] at hq
        obtain ⟨Nt, eNt⟩ : ∃ t, putKeys equals [ut ++ [55], wt ++ [56], newT ++ [57]] [wt ++ ((gp ++ [61]) ++ ([49] ++ [33])), ut ++ ((61 :: 32 :: gp) ++ ([50] ++ [33, 33]))] = t := ⟨_, rfl⟩
        have hp2 := HP2.out
        rw [eNt] at hq hp2
        rw [hwant] at hp2
        obtain ⟨Sb, eS⟩ : ∃ s : ByteArray, (⟨(wt ++ gp ++ [61, 49, 33] ++ ut ++ [61, 32] ++ gp ++ [50, 33, 33]).toArray⟩ : ByteArray) = s := ⟨_, rfl⟩
        obtain ⟨Vb, eV⟩ : ∃ s : ByteArray, (⟨(ut ++ [55] ++ wt ++ [56]).toArray⟩ : ByteArray) = s := ⟨_, rfl⟩
        obtain ⟨Wb, eW⟩ : ∃ s : ByteArray, (⟨(ut ++ [61, 32] ++ gp ++ [55, 33, 33] ++ wt ++ gp ++ [61, 56, 33]).toArray⟩ : ByteArray) = s := ⟨_, rfl⟩
        obtain ⟨Ub, eU⟩ : ∃ s : ByteArray, (⟨(ut ++ [55] ++ wt ++ [56] ++ [110, 101, 119, 57]).toArray⟩ : ByteArray) = s := ⟨_, rfl⟩
        obtain ⟨Mb, eM⟩ : ∃ s : ByteArray, (⟨(ut ++ [61, 32] ++ gp ++ [55, 33, 33] ++ wt ++ gp ++ [61, 56, 33] ++ [110, 101, 119, 61, 57, 33]).toArray⟩ : ByteArray) = s := ⟨_, rfl⟩
        obtain ⟨Nb, eN⟩ : ∃ s : ByteArray, (⟨Nt.toArray⟩ : ByteArray) = s := ⟨_, rfl⟩
        unfold AnsPost at hp hq
        rw [eS, eV, eW] at hp
        rw [eS, eU, eN] at hq
        have hVU : Vb ++ ⟨#[110, 101, 119, 57]⟩ = Ub := by rw [← eV, ← eU]; exact bytes_append _ [110, 101, 119, 57]
        have hWM : Wb ++ ⟨#[110, 101, 119, 61, 57, 33]⟩ = Mb := by rw [← eW, ← eM]; exact bytes_append _ [110, 101, 119, 61, 57, 33]
        have hvs : Vb.size ≤ 100 := by rw [← eV, size_of_txt]; simp; omega
        have hws : Wb.size ≤ 100 := by rw [← eW, size_of_txt]; simp; omega
        have HNM : Hid (wt ≠ newT → ut ≠ newT → Nb = Mb) := Lib.hid fun h1 h2 => by rw [← eN, hp2 h1 h2, eM]
        have HPP := Lib.hid hp; have HQQ := Lib.hid hq; have ES := Lib.hid eS; have EV := Lib.hid eV; have EW := Lib.hid eW
        clear hp hq hp2 hwant eNt eS eV eW eU eM eN HPUT HP1 HP2
        go_wp2_with fail
        refine (HC1.out w1).mono ?_
        rintro e w2 ⟨rfl, hb2⟩
        have HB2 := Lib.hid hb2
        clear hb2
        go_wp2_with fail
        refine (HC2.out w2).mono ?_
        rintro e w3 ⟨rfl, hb3⟩
        have HB3 := Lib.hid (HB2.out.trans (hb3.mono HB2.out.size))
        clear hb3
        go_wp2_with fail
        simp only [bytes_append]
        rw [ES.out, EV.out, EW.out]
        refine (HPP.out w3 HB3.out).mono ?_
        rintro e w4 ⟨rfl, hb4⟩
        have HB4 := Lib.hid (HB3.out.trans (hb4.mono HB3.out.size))
        clear hb4
        go_wp2_with fail
        refine (HQQ.out w4 HB4.out).mono ?_
        rintro e w5 ⟨rfl, hb5⟩
        have HB5 := Lib.hid (HB4.out.trans (hb5.mono HB4.out.size))
        clear hb5 hVU
        by_cases hn1 : wt = [110, 101, 119]
        · subst hn1
          go_wp2
          go_ret
          exact ⟨rfl, HB1.out.trans (HB5.out.mono HB1.out.size)⟩
        · by_cases hn2 : ut = [110, 101, 119]
          · subst hn2
            have hb1 : (wt == [110, 101, 119]) = false := beq_eq_false_iff_ne.2 hn1
            go_wp2
            go_ret
            exact ⟨rfl, HB1.out.trans (HB5.out.mono HB1.out.size)⟩
          · have hNM := HNM.out hn1 hn2
            subst hNM
            have hb1 : (wt == [110, 101, 119]) = false := beq_eq_false_iff_ne.2 hn1
            have hb2 : (ut == [110, 101, 119]) = false := beq_eq_false_iff_ne.2 hn2
            go_wp2
            go_ret
            exact ⟨rfl, HB1.out.trans (HB5.out.mono HB1.out.size)⟩
set_option maxHeartbeats 1000000 in
set_option maxRecDepth 100000 in
theorem keyed_neg (s1 s2 : ByteArray) (m : Nat) (x : Int) (hx : x < 0) (h1 : wrap64 (x + 1) = x + 1) (h2 : wrap64 (-(x + 1)) = (m : Int)) (hm : m < 9223372036854775808) (hs1 : s1.size ≤ maxLen) (hs2 : s2.size ≤ maxLen) (w : World) (h6 : 6 < w.heap.size) (hE : Env w) :
    Calls Tryz.prog 9 #[.string s1, .string s2, .int .i64 x] w fun e w' => e = .returned (.bool true) ∧ Below w.heap.size w w' := by
  have hB := compile_equals w h6 hE
  have hC1 := fun (W : World) => clean97 s1 W hs1
  have hC2 := fun (W : World) => clean97 s2 W hs2
  have hw := clean_word s1.data.toList
  have hu := clean_word s2.data.toList
  obtain ⟨wt, ewt⟩ : ∃ t, cleanP 97 122 s1.data.toList = t := ⟨_, rfl⟩
  obtain ⟨ut, eut⟩ : ∃ t, cleanP 97 122 s2.data.toList = t := ⟨_, rfl⟩
  rw [ewt] at hC1 hw
  rw [eut] at hC2 hu
  have hP := fun (vs : List Txt) (hvs : vs = [] ∨ vs = [newT ++ [57]]) (W : World) (T b : Nat) (h : LensAt W T b equals) (hT : T ≤ W.heap.size) (h6 : 6 < T) (hE : Env W) => keyed_put wt ut (m % 5) (Nat.mod_lt _ (by omega)) hw hu vs hvs W T b h hT h6 hE
  have hp1 := keyed_plain wt ut (m % 5) (Nat.mod_lt _ (by omega)) hw hu
  have hp2 := keyed_new wt ut (m % 5) (Nat.mod_lt _ (by omega)) hw hu
  have hmod : ((m : Int)).tmod 5 = ((m % 5 : Nat) : Int) := by rw [Int.tmod_eq_emod_of_nonneg (by omega)]; omega
  have hg5 : m % 5 < 5 := Nat.mod_lt _ (by omega)
  obtain ⟨g, eg⟩ : ∃ g, m % 5 = g := ⟨_, rfl⟩
  rw [eg] at hP hp1 hp2 hmod hg5
  have hwl := hw.2.1
  have hul := hu.2.1
  have HB := Lib.hid hB; have HC1 := Lib.hid hC1; have HC2 := Lib.hid hC2; have HP := Lib.hid hP; have HP1 := Lib.hid hp1; have HP2 := Lib.hid hp2; have HE := Lib.hid hE; have HM := Lib.hid hm
  clear hB hC1 hC2 hP hp1 hp2 hw hu ewt eut eg hE hs1 hs2 hm
  go_enter Tryz.func9, Tryz.ntmps9
  go_wp2_with fail
  refine HB.out.mono ?_
  rintro e w1 ⟨b, rfl, l1, hb1⟩
  have HB1 := Lib.hid hb1
  have HL := Lib.hid (show ∀ W, Below w1.heap.size w1 W → LensAt W w1.heap.size b equals from fun W hb => l1.keep fun k hk => hb.block k hk)
  have HPUT := Lib.hid (fun (vs : List Txt) (hvs : vs = [] ∨ vs = [newT ++ [57]]) (W : World) (hb : Below w1.heap.size w1 W) => HP.out vs hvs W w1.heap.size b (HL.out W hb) hb.size (Nat.lt_of_lt_of_le h6 HB1.out.size) (env_below (HB1.out.trans (hb.mono HB1.out.size)) h6 HE.out))
  clear hb1 l1
  go_wp2
  go_loop [9, 10] (fun v9 v10 => ∃ k : Nat, k ≤ g ∧ v9 = .string ⟨(List.replicate k (32 : UInt8)).toArray⟩ ∧ v10 = .int .i64 k) (fun _ v10 => g - (intOf v10).toNat)
  case atStart => exact ⟨0, Nat.zero_le _, rfl, rfl⟩
  case round =>
    obtain ⟨k, hk, rfl, rfl⟩ := hrel
    have hk5 : k ≤ 5 := by omega
    by_cases hlt : k < g
    · have i1 : (k : Int) < (g : Int) := by omega
      go_wp2
      go_round
      case rel => exact ⟨k + 1, by omega, congrArg Value.string (snoc_bytes k), by simp⟩
      case measure => exact meas_succ hlt
    · have hke : k = g := by omega
      subst hke
      have i1 : ¬ ((k : Int) < (k : Int)) := by omega
      obtain ⟨gp, egp⟩ : ∃ t, List.replicate k (32 : UInt8) = t := ⟨_, rfl⟩
      have hgl : gp.length ≤ 4 := by rw [← egp]; simp; omega
      rw [egp] at HPUT HP1 HP2 ⊢
      clear egp HP
      by_cases hwu : wt = ut
      · subst hwu
        have hp := HPUT.out [] (.inl rfl)
        have hq := HPUT.out [newT ++ [57]] (.inr rfl)
        have hwant : keyedWant wt wt gp = wt ++ gp ++ [61, 55, 33] ++ wt ++ [61, 32] ++ gp ++ [56, 33, 33] := if_pos rfl
        rw [HP1.out, hwant] at hp
        simp only [List.flatten_nil, List.append_nil] at hp
        rw [show ([newT ++ [57]] : List Txt).flatten = [110, 101, 119, 57] from rfl] at hq
        obtain ⟨Nt, eNt⟩ : ∃ t, putKeys equals [wt ++ [55], wt ++ [56], newT ++ [57]] [wt ++ ((gp ++ [61]) ++ ([49] ++ [33])), wt ++ ((61 :: 32 :: gp) ++ ([50] ++ [33, 33]))] = t := ⟨_, rfl⟩
        have hp2 := HP2.out
        rw [eNt] at hq hp2
        rw [hwant] at hp2
        obtain ⟨Sb, eS⟩ : ∃ s : ByteArray, (⟨(wt ++ gp ++ [61, 49, 33] ++ wt ++ [61, 32] ++ gp ++ [50, 33, 33]).toArray⟩ : ByteArray) = s := ⟨_, rfl⟩
        obtain ⟨Vb, eV⟩ : ∃ s : ByteArray, (⟨(wt ++ [55] ++ wt ++ [56]).toArray⟩ : ByteArray) = s := ⟨_, rfl⟩
        obtain ⟨Wb, eW⟩ : ∃ s : ByteArray, (⟨(wt ++ gp ++ [61, 55, 33] ++ wt ++ [61, 32] ++ gp ++ [56, 33, 33]).toArray⟩ : ByteArray) = s := ⟨_, rfl⟩
        obtain ⟨Ub, eU⟩ : ∃ s : ByteArray, (⟨(wt ++ [55] ++ wt ++ [56] ++ [110, 101, 119, 57]).toArray⟩ : ByteArray) = s := ⟨_, rfl⟩
        obtain ⟨Mb, eM⟩ : ∃ s : ByteArray, (⟨(wt ++ gp ++ [61, 55, 33] ++ wt ++ [61, 32] ++ gp ++ [56, 33, 33] ++ [110, 101, 119, 61, 57, 33]).toArray⟩ : ByteArray) = s := ⟨_, rfl⟩
        obtain ⟨Nb, eN⟩ : ∃ s : ByteArray, (⟨Nt.toArray⟩ : ByteArray) = s := ⟨_, rfl⟩
        unfold AnsPost at hp hq
        rw [eS, eV, eW] at hp
        rw [eS, eU, eN] at hq
        have hVU : Vb ++ ⟨#[110, 101, 119, 57]⟩ = Ub := by rw [← eV, ← eU]; exact bytes_append _ [110, 101, 119, 57]
        have hWM : Wb ++ ⟨#[110, 101, 119, 61, 57, 33]⟩ = Mb := by rw [← eW, ← eM]; exact bytes_append _ [110, 101, 119, 61, 57, 33]
        have hvs : Vb.size ≤ 100 := by rw [← eV, size_of_txt]; simp; omega
        have hws : Wb.size ≤ 100 := by rw [← eW, size_of_txt]; simp; omega
        have HNM : Hid (wt ≠ newT → wt ≠ newT → Nb = Mb) := Lib.hid fun h1 h2 => by rw [← eN, hp2 h1 h2, eM]
        have HPP := Lib.hid hp; have HQQ := Lib.hid hq; have ES := Lib.hid eS; have EV := Lib.hid eV; have EW := Lib.hid eW
        clear hp hq hp2 hwant eNt eS eV eW eU eM eN HPUT HP1 HP2
        go_wp2_with fail
        refine (HC1.out w1).mono ?_
        rintro e w2 ⟨rfl, hb2⟩
        have HB2 := Lib.hid hb2
        clear hb2
        go_wp2_with fail
        refine (HC2.out w2).mono ?_
        rintro e w3 ⟨rfl, hb3⟩
        have HB3 := Lib.hid (HB2.out.trans (hb3.mono HB2.out.size))
        clear hb3
        go_wp2_with fail
        simp only [bytes_append]
        rw [ES.out, EV.out, EW.out]
        refine (HPP.out w3 HB3.out).mono ?_
        rintro e w4 ⟨rfl, hb4⟩
        have HB4 := Lib.hid (HB3.out.trans (hb4.mono HB3.out.size))
        clear hb4
        go_wp2_with fail
        refine (HQQ.out w4 HB4.out).mono ?_
        rintro e w5 ⟨rfl, hb5⟩
        have HB5 := Lib.hid (HB4.out.trans (hb5.mono HB4.out.size))
        clear hb5 hVU
        by_cases hn1 : wt = [110, 101, 119]
        · subst hn1
          go_wp2
          go_ret
          exact ⟨rfl, HB1.out.trans (HB5.out.mono HB1.out.size)⟩
        · have hNM := HNM.out hn1 hn1
          subst hNM
          have hb1 : (wt == [110, 101, 119]) = false := beq_eq_false_iff_ne.2 hn1
          go_wp2
          go_ret
          exact ⟨rfl, HB1.out.trans (HB5.out.mono HB1.out.size)⟩
      · have hwb : (wt == ut) = false := beq_eq_false_iff_ne.2 hwu
        have hp := HPUT.out [] (.inl rfl)
        have hq := HPUT.out [newT ++ [57]] (.inr rfl)
        have hwant : keyedWant wt ut gp = ut ++ [61, 32] ++ gp ++ [55, 33, 33] ++ wt ++ gp ++ [61, 56, 33] := if_neg hwu
        rw [HP1.out, hwant] at hp
        simp only [List.flatten_nil, List.append_nil] at hp
        rw [show ([newT ++ [57]] : List Txt).flatten = [110, 101, 119, 57] from rfl] at hq
        obtain ⟨Nt, eNt⟩ : ∃ t, putKeys equals [ut ++ [55], wt ++ [56], newT ++ [57]] [wt ++ ((gp ++ [61]) ++ ([49] ++ [33])), ut ++ ((61 :: 32 :: gp) ++ ([50] ++ [33, 33]))] = t := ⟨_, rfl⟩
        have hp2 := HP2.out
        rw [eNt] at hq hp2
        rw [hwant] at hp2
        obtain ⟨Sb, eS⟩ : ∃ s : ByteArray, (⟨(wt ++ gp ++ [61, 49, 33] ++ ut ++ [61, 32] ++ gp ++ [50, 33, 33]).toArray⟩ : ByteArray) = s := ⟨_, rfl⟩
        obtain ⟨Vb, eV⟩ : ∃ s : ByteArray, (⟨(ut ++ [55] ++ wt ++ [56]).toArray⟩ : ByteArray) = s := ⟨_, rfl⟩
        obtain ⟨Wb, eW⟩ : ∃ s : ByteArray, (⟨(ut ++ [61, 32] ++ gp ++ [55, 33, 33] ++ wt ++ gp ++ [61, 56, 33]).toArray⟩ : ByteArray) = s := ⟨_, rfl⟩
        obtain ⟨Ub, eU⟩ : ∃ s : ByteArray, (⟨(ut ++ [55] ++ wt ++ [56] ++ [110, 101, 119, 57]).toArray⟩ : ByteArray) = s := ⟨_, rfl⟩
        obtain ⟨Mb, eM⟩ : ∃ s : ByteArray, (⟨(ut ++ [61, 32] ++ gp ++ [55, 33, 33] ++ wt ++ gp ++ [61, 56, 33] ++ [110, 101, 119, 61, 57, 33]).toArray⟩ : ByteArray) = s := ⟨_, rfl⟩
        obtain ⟨Nb, eN⟩ : ∃ s : ByteArray, (⟨Nt.toArray⟩ : ByteArray) = s := ⟨_, rfl⟩
        unfold AnsPost at hp hq
        rw [eS, eV, eW] at hp
        rw [eS, eU, eN] at hq
        have hVU : Vb ++ ⟨#[110, 101, 119, 57]⟩ = Ub := by rw [← eV, ← eU]; exact bytes_append _ [110, 101, 119, 57]
        have hWM : Wb ++ ⟨#[110, 101, 119, 61, 57, 33]⟩ = Mb := by rw [← eW, ← eM]; exact bytes_append _ [110, 101, 119, 61, 57, 33]
        have hvs : Vb.size ≤ 100 := by rw [← eV, size_of_txt]; simp; omega
        have hws : Wb.size ≤ 100 := by rw [← eW, size_of_txt]; simp; omega
        have HNM : Hid (wt ≠ newT → ut ≠ newT → Nb = Mb) := Lib.hid fun h1 h2 => by rw [← eN, hp2 h1 h2, eM]
        have HPP := Lib.hid hp; have HQQ := Lib.hid hq; have ES := Lib.hid eS; have EV := Lib.hid eV; have EW := Lib.hid eW
        clear hp hq hp2 hwant eNt eS eV eW eU eM eN HPUT HP1 HP2
        go_wp2_with fail
        refine (HC1.out w1).mono ?_
        rintro e w2 ⟨rfl, hb2⟩
        have HB2 := Lib.hid hb2
        clear hb2
        go_wp2_with fail
        refine (HC2.out w2).mono ?_
        rintro e w3 ⟨rfl, hb3⟩
        have HB3 := Lib.hid (HB2.out.trans (hb3.mono HB2.out.size))
        clear hb3
        go_wp2_with fail
        simp only [bytes_append]
        rw [ES.out, EV.out, EW.out]
        refine (HPP.out w3 HB3.out).mono ?_
        rintro e w4 ⟨rfl, hb4⟩
        have HB4 := Lib.hid (HB3.out.trans (hb4.mono HB3.out.size))
        clear hb4
        go_wp2_with fail
        refine (HQQ.out w4 HB4.out).mono ?_
        rintro e w5 ⟨rfl, hb5⟩
        have HB5 := Lib.hid (HB4.out.trans (hb5.mono HB4.out.size))
        clear hb5 hVU
        by_cases hn1 : wt = [110, 101, 119]
        · subst hn1
          go_wp2
          go_ret
          exact ⟨rfl, HB1.out.trans (HB5.out.mono HB1.out.size)⟩
        · by_cases hn2 : ut = [110, 101, 119]
          · subst hn2
            have hb1 : (wt == [110, 101, 119]) = false := beq_eq_false_iff_ne.2 hn1
            go_wp2
            go_ret
            exact ⟨rfl, HB1.out.trans (HB5.out.mono HB1.out.size)⟩
          · have hNM := HNM.out hn1 hn2
            subst hNM
            have hb1 : (wt == [110, 101, 119]) = false := beq_eq_false_iff_ne.2 hn1
            have hb2 : (ut == [110, 101, 119]) = false := beq_eq_false_iff_ne.2 hn2
            go_wp2
            go_ret
            exact ⟨rfl, HB1.out.trans (HB5.out.mono HB1.out.size)⟩
theorem keyed_any (s1 s2 : ByteArray) (x : Int) (hx : (Lit.int .i64 x).wf = true) (hs1 : s1.size ≤ maxLen) (hs2 : s2.size ≤ maxLen) (w : World) (h6 : 6 < w.heap.size) (hE : Env w) :
    Calls Tryz.prog 9 #[.string s1, .string s2, .int .i64 x] w fun e w' => e = .returned (.bool true) ∧ Below w.heap.size w w' := by
  have hb : -9223372036854775808 ≤ x ∧ x ≤ 9223372036854775807 := by
    have := hx
    simp [Lit.wf, IntKind.min, IntKind.max, IntKind.signed, IntKind.bits] at this
    omega
  by_cases hn : x < 0
  · have e1 : wrap64 (x + 1) = x + 1 := by unfold wrap64; omega
    have e2 : wrap64 (-(x + 1)) = (((-(x + 1)).toNat : Nat) : Int) := by unfold wrap64; omega
    exact keyed_neg s1 s2 (-(x + 1)).toNat x hn e1 e2 (by omega) hs1 hs2 w h6 hE
  · obtain ⟨m, rfl⟩ : ∃ m : Nat, x = m := ⟨x.toNat, by omega⟩
    exact keyed_pos s1 s2 m (by omega) hs1 hs2 w h6 hE
end Go.Proofs.YtiocjdggdmeggaaGreatDoor
