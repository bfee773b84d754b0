/-
  The walks of part.cut and part.key.
  The walks of the closures of Copy, Leave and Behind.
-/
import Derived.Test.YtiocjdggdmeggaaGreatDoorWstr
import Derived.Test.YtiocjdggdmeggaaGreatDoorLines
namespace Go.Proofs.YtiocjdggdmeggaaGreatDoor
open Go.RowKit Go.Shelf
/-- A text that is handed on: at most a thousand bytes, all ASCII. -/
def Asc (s : Txt) : Prop := s.length ≤ 1000 ∧ ∀ b ∈ s, b.toNat < 128
theorem Asc.take {s : Txt} (h : Asc s) (k : Nat) : Asc (s.take k) := ⟨by have := h.1; simp; omega, fun b hb => h.2 b (List.mem_of_mem_take hb)⟩
theorem Asc.drop {s : Txt} (h : Asc s) (k : Nat) : Asc (s.drop k) := ⟨by have := h.1; simp; omega, fun b hb => h.2 b (List.mem_of_mem_drop hb)⟩
theorem Asc.nil : Asc [] := ⟨by simp, fun b hb => by cases hb⟩
theorem ext_drop (t : Txt) (k : Nat) : (⟨t.toArray⟩ : ByteArray).extract k t.length = ⟨(t.drop k).toArray⟩ := by
  apply ByteArray.ext
  rw [ByteArray.data_extract]
  simp [List.take_of_length_le]
theorem ext_take (t : Txt) (k : Nat) : (⟨t.toArray⟩ : ByteArray).extract 0 k = ⟨(t.take k).toArray⟩ := by
  apply ByteArray.ext
  rw [ByteArray.data_extract]
  simp
theorem bytes_append (a b : Txt) : (⟨a.toArray⟩ : ByteArray) ++ ⟨b.toArray⟩ = ⟨(a ++ b).toArray⟩ := by
  apply ByteArray.ext
  simp
def TxtPost (w : World) (t : Txt) (e : Ending) (w' : World) : Prop := e = .returned (.string ⟨t.toArray⟩) ∧ Below w.heap.size w w'
theorem cutIdx_some {A C : PA} {t : Txt} {k : Nat} (hk : k ≤ t.length) (h1 : A.endsAt t k = true) (h2 : C.is (t.drop k) = true) (h : ∀ j, j < k → (A.endsAt t j && C.is (t.drop j)) = false) : cutP A C t = (t.take k, t.drop k) := by
  unfold cutP cutIdx
  rw [find_first (by omega) (by rw [h1, h2]; rfl) h]
theorem cutIdx_none {A C : PA} {t : Txt} (h : ∀ j, j < t.length + 1 → (A.endsAt t j && C.is (t.drop j)) = false) : cutP A C t = (t, []) := by
  have : cutIdx A C t = none := by
    unfold cutIdx
    rw [List.find?_eq_none]
    intro j hj
    rw [h j (by simpa using hj)]
    simp
  unfold cutP
  rw [this]
def CutPost (A C : PA) (t : Txt) (w : World) (e : Ending) (w' : World) : Prop := e = .returned (.tuple #[.string ⟨(cutP A C t).1.toArray⟩, .string ⟨(cutP A C t).2.toArray⟩]) ∧ Below w.heap.size w w'
set_option maxHeartbeats 1000000 in
theorem cut_any (A C : PA) (hA : A.Ok) (hC : C.Ok) (t : Txt) (T pa pc : Nat) (w : World) (ht : Asc t) (hAt : AutoAt w T pa A) (hCt : AutoAt w T pc C) (hT : T ≤ w.heap.size) (hT6 : 6 < T) (hE : Env w) :
    Calls Tryz.prog 146 #[.string ⟨t.toArray⟩, .pointer (some ⟨pa, 0, none⟩), .pointer (some ⟨pc, 0, none⟩)] w (CutPost A C t w) := by
  have HC := Lib.hid (ends_any A hA ⟨t.toArray⟩ T pa w (by rw [size_of_txt]; exact ht.1) (by rw [list_of]; exact ht.2) hAt hT hT6 hE)
  have HIS := Lib.hid (fun (W : World) (k : Nat) (hb : Below w.heap.size w W) => is_any C hC ⟨(t.drop k).toArray⟩ T pc W (by rw [size_of_txt]; exact (ht.drop k).1) (by rw [list_of]; exact (ht.drop k).2) (hCt.same fun j hj => hb.block j (by omega)) (Nat.le_trans hT hb.size) hT6 (env_below hb (by omega) hE))
  have hlen : t.length ≤ 1000 := ht.1
  obtain ⟨s, hs⟩ : ∃ s : ByteArray, (⟨t.toArray⟩ : ByteArray) = s := ⟨_, rfl⟩
  have hsz : s.size = t.length := by rw [← hs]; rfl
  have hsl : s.data.toList = t := by rw [← hs]
  have HX := Lib.hid (show ∀ k, s.extract k s.size = ⟨(t.drop k).toArray⟩ from fun k => by rw [hsz, ← hs]; exact ext_drop t k)
  have HY := Lib.hid (show ∀ k, s.extract 0 k = ⟨(t.take k).toArray⟩ from fun k => by rw [← hs]; exact ext_take t k)
  have HS := Lib.hid hs
  rw [hs] at HC ⊢
  rw [hsl] at HC
  have HSZ := Lib.hid hsz
  have hs1000 : s.size ≤ 1000 := by omega
  clear hAt hCt hE ht hs hsz hsl hlen
  go_enter Tryz.func146, Tryz.ntmps146
  go_wp2_with fail
  refine HC.out.mono ?_
  rintro e w1 ⟨g, rfl, ⟨hg, hrow⟩, hb⟩
  have HB := Lib.hid hb
  have HROW := Lib.hid hrow
  have hg1 : g < w1.heap.size := (hrow.lt g rfl).2
  clear hrow hb HC
  go_wp2
  go_loopw [14] (fun i wr => ∃ k : Nat, k ≤ s.size + 1 ∧ i = .int .i64 k ∧ Hid (Below w1.heap.size w1 wr ∧ ∀ j, j < k → (A.endsAt t j && C.is (t.drop j)) = false)) (fun i _ => s.size + 1 - (intOf i).toNat)
  case atStart => exact ⟨0, by omega, rfl, Lib.hid ⟨Below.refl _ _, fun j hj => absurd hj (Nat.not_lt_zero j)⟩⟩
  case round =>
    obtain ⟨k, hk, rfl, hS⟩ := hrel
    by_cases hlt : k < s.size + 1
    · have hrow := ownsRow_same HROW.out (hS.out.1.block g hg1)
      have hck := hrow.cellAt k (by omega)
      rw [endCells_at _ _ _ _ hlt] at hck
      have HWR := Lib.hid (HB.out.trans (hS.out.1.mono (by have := HB.out.size; omega)))
      obtain ⟨b, hb⟩ : ∃ b, A.endsAt t k = b := ⟨_, rfl⟩
      rw [hb] at hck
      have HBE := Lib.hid hb
      clear hrow hb
      have i0 : (0 : Int) ≤ (k : Int) := by omega
      have i1 : (k : Int) < (s.size : Int) + 1 := by omega
      have i2 : (k : Int) ≤ (s.size : Int) := by omega
      cases b
      · go_wp2
        refine ⟨⟨k + 1, by omega, rfl, Lib.hid ⟨hS.out.1, fun j hj => ?_⟩⟩, by simp [intOf]; omega⟩
        rcases Nat.lt_succ_iff_lt_or_eq.1 hj with h | h
        · exact hS.out.2 j h
        · subst h; rw [HBE.out]; rfl
      · go_wp2_with fail
        rw [HX.out]
        refine (HIS.out wr k HWR.out).mono ?_
        rintro e w2 ⟨rfl, hb2⟩
        have HB2 := Lib.hid hb2
        obtain ⟨b, hb⟩ : ∃ b, C.is (t.drop k) = b := ⟨_, rfl⟩
        rw [hb]
        have HBI := Lib.hid hb
        clear hb hb2 hck i0
        cases b
        · go_wp2
          refine ⟨⟨k + 1, by omega, rfl, Lib.hid ⟨hS.out.1.trans (HB2.out.mono hS.out.1.size), fun j hj => ?_⟩⟩, by simp [intOf]; omega⟩
          rcases Nat.lt_succ_iff_lt_or_eq.1 hj with h | h
          · exact hS.out.2 j h
          · subst h; rw [HBI.out, HBE.out]; rfl
        · go_wp2
          refine wp_head (fun W' => Hid (Below w2.heap.size w2 W')) (by kernel_rfl) (by kernel_rfl) (Lib.hid (Below.refl _ _).drew) ?_
          iterate 8 (refine quiet_val (by rfl) (fun W' hW' => by go_simp; rfl) ?_; try go_simp)
          refine wpQuiet_nil ?_
          intro w3 hW3
          have HB3 := Lib.hid hW3.out
          clear hW3
          go_simp
          go_wp2
          go_ret2
          refine ⟨?_, ?_⟩
          · rw [HX.out, HY.out, cutIdx_some (by rw [← HSZ.out]; omega) HBE.out HBI.out hS.out.2]; rfl
          · have h1 := HWR.out.trans (HB2.out.mono HWR.out.size)
            exact h1.trans (HB3.out.mono h1.size)
    · have hke : k = s.size + 1 := by omega
      subst hke
      go_wp2
      go_ret2
      refine ⟨?_, ?_⟩
      · rw [cutIdx_none (by rw [← HSZ.out]; exact hS.out.2), ← HS.out]; rfl
      · exact HB.out.trans (hS.out.1.mono (by have := HB.out.size; omega))
end Go.Proofs.YtiocjdggdmeggaaGreatDoor
namespace Go.Proofs.YtiocjdggdmeggaaGreatDoor
open Go.RowKit Go.Shelf
theorem cut_asc1 (A C : PA) {s : Txt} (h : Asc s) : Asc (cutP A C s).1 := by
  unfold cutP
  split
  · exact h.take _
  · exact h
theorem cut_asc2 (A C : PA) {s : Txt} (h : Asc s) : Asc (cutP A C s).2 := by
  unfold cutP
  split
  · exact h.drop _
  · exact Asc.nil
theorem fn156 (s : ByteArray) (w : World) : Calls Tryz.prog 156 #[.string s] w fun e w' => e = .returned (.string s) ∧ w' = w := by
  go_enter Tryz.func156, Tryz.ntmps156
  go_wp2
  go_ret
  exact ⟨rfl, rfl⟩
theorem fn157 (v s : ByteArray) (w : World) : Calls Tryz.prog 157 #[.string v, .string s] w fun e w' => e = .returned (.string v) ∧ w' = w := by
  go_enter Tryz.func157, Tryz.ntmps157
  go_wp2
  go_ret
  exact ⟨rfl, rfl⟩
theorem fn160 (s : ByteArray) (w : World) : Calls Tryz.prog 160 #[.string s] w fun e w' => e = .returned (.string ⟨#[]⟩) ∧ w' = w := by
  go_enter Tryz.func160, Tryz.ntmps160
  go_wp2
  go_ret
  exact ⟨rfl, rfl⟩
theorem fn161 (s t : ByteArray) (b : Nat) (w : World) (h : w.cell? ⟨b, 0, none⟩ = some (.string t)) : Calls Tryz.prog 161 #[.string s, .pointer (some ⟨b, 0, none⟩)] w fun e w' => e = .returned (.string t) ∧ w' = w := by
  go_enter Tryz.func161, Tryz.ntmps161
  go_wp2
  go_ret
  exact ⟨rfl, rfl⟩
theorem fn162 (v s : ByteArray) (w : World) : Calls Tryz.prog 162 #[.string v, .string s] w fun e w' => e = .returned (.string s) ∧ w' = w := by
  go_enter Tryz.func162, Tryz.ntmps162
  go_wp2
  go_ret
  exact ⟨rfl, rfl⟩
set_option maxHeartbeats 1000000 in
set_option maxRecDepth 100000 in
theorem fn145 (A C : PA) (hA : A.Ok) (hC : C.Ok) (f1 f2 : Txt → Txt) (T ba bb qa qb pa pb g1 g2 : Nat) (cap1 cap2 : Array Value) (va na ma da ua vb nb mb db ub : Value) (s : Txt) (w : World) (hs : Asc s) (hT : T ≤ w.heap.size) (h6 : 6 < T) (hE : Env w)
    (hba : w.heap[ba]? = some (.cells #[.pointer (some ⟨qa, 0, none⟩)] 52 (0, 0))) (hbb : w.heap[bb]? = some (.cells #[.pointer (some ⟨qb, 0, none⟩)] 52 (0, 0)))
    (hqa : w.heap[qa]? = some (.cells #[.pointer (some ⟨pa, 0, none⟩), va, na, ma, .func (.func g1) #[] cap1, da, ua] 70 (0, 0)))
    (hqb : w.heap[qb]? = some (.cells #[.pointer (some ⟨pb, 0, none⟩), vb, nb, mb, .func (.func g2) #[] cap2, db, ub] 70 (0, 0)))
    (hpa : AutoAt w T pa A) (hpb : AutoAt w T pb C)
    (hl : (f1 (cutP A C s).1).length + (f2 (cutP A C s).2).length ≤ 1000000000)
    (e1 : ∀ args w, (callFunc g1 args).run Tryz.prog w = .ok (.enter g1 args) w) (e2 : ∀ args w, (callFunc g2 args).run Tryz.prog w = .ok (.enter g2 args) w)
    (k1 : ∀ W s, Below T w W → Asc s → Calls Tryz.prog g1 (#[.string ⟨s.toArray⟩] ++ cap1) W (TxtPost W (f1 s))) (k2 : ∀ W s, Below T w W → Asc s → Calls Tryz.prog g2 (#[.string ⟨s.toArray⟩] ++ cap2) W (TxtPost W (f2 s))) :
    Calls Tryz.prog 145 #[.string ⟨s.toArray⟩, .pointer (some ⟨ba, 0, none⟩), .pointer (some ⟨bb, 0, none⟩)] w (TxtPost w (f1 (cutP A C s).1 ++ f2 (cutP A C s).2)) := by
  obtain ⟨u, v, huv⟩ : ∃ u v, cutP A C s = (u, v) := ⟨_, _, rfl⟩
  have hu : Asc (cutP A C s).1 := cut_asc1 A C hs
  have hv : Asc (cutP A C s).2 := cut_asc2 A C hs
  have HCUT := Lib.hid (fun (W : World) (hb : Below w.heap.size w W) => cut_any A C hA hC s T pa pb W hs (hpa.same fun k hk => hb.block k (by omega)) (hpb.same fun k hk => hb.block k (by omega)) (Nat.le_trans hT hb.size) h6 (env_below hb (by omega) hE))
  unfold CutPost at HCUT
  rw [huv] at hu hv hl HCUT ⊢
  have hl2 : ¬ 9223372036854775807 < (f1 u).length + (f2 v).length := by simp only at hl; omega
  have HL := Lib.hid hl2
  have K1 := Lib.hid (fun (W : World) (hb : Below w.heap.size w W) => k1 W u (hb.mono hT) hu)
  have K2 := Lib.hid (fun (W : World) (hb : Below w.heap.size w W) => k2 W v (hb.mono hT) hv)
  have sba := lt_of_at hba; have sbb := lt_of_at hbb; have sqa := lt_of_at hqa; have sqb := lt_of_at hqb
  have CA := Lib.hid (cell_at hba 0); have CB := Lib.hid (cell_at hbb 0); have QA := Lib.hid (cell_at hqa 0); have QB := Lib.hid (cell_at hqb 0); have FA := Lib.hid (cell_at hqa 4); have FB := Lib.hid (cell_at hqb 4)
  clear hl hl2 hba hbb hqa hqb hpa hpb k1 k2 hu hv huv hE hs
  go_enter Tryz.func145, Tryz.ntmps145
  go_wp2
  refine wp_head (fun W' => Hid (Below w.heap.size w W')) (by kernel_rfl) (by kernel_rfl) (Lib.hid (Below.refl _ _).drew) ?_
  iterate 11 (refine quiet_val (by rfl) (fun W' hW' => by
    have h1 : W'.cell? ⟨ba, 0, none⟩ = some (.pointer (some ⟨qa, 0, none⟩)) := (hW'.out.cell (p := ⟨ba, 0, none⟩) sba).trans CA.out
    have h2 : W'.cell? ⟨bb, 0, none⟩ = some (.pointer (some ⟨qb, 0, none⟩)) := (hW'.out.cell (p := ⟨bb, 0, none⟩) sbb).trans CB.out
    have h3 : W'.cell? ⟨qa, 0, none⟩ = some (.pointer (some ⟨pa, 0, none⟩)) := (hW'.out.cell (p := ⟨qa, 0, none⟩) sqa).trans QA.out
    have h4 : W'.cell? ⟨qb, 0, none⟩ = some (.pointer (some ⟨pb, 0, none⟩)) := (hW'.out.cell (p := ⟨qb, 0, none⟩) sqb).trans QB.out
    go_simp; rfl) ?_; try go_simp)
  refine quiet_call (v := .tuple #[.string ⟨u.toArray⟩, .string ⟨v.toArray⟩]) (f := 146) (args := #[.string ⟨s.toArray⟩, .pointer (some ⟨pa, 0, none⟩), .pointer (some ⟨pb, 0, none⟩)]) (by rfl) (fun W' hW' => by go_simp) (fun W' hW' => ?_) ?_
  · refine (HCUT.out W' hW'.out).mono ?_
    rintro e w'' ⟨rfl, hb⟩
    exact ⟨rfl, Lib.hid (hW'.out.trans (hb.mono hW'.out.size))⟩
  go_simp
  iterate 5 (refine quiet_val (by rfl) (fun W' hW' => by go_simp; rfl) ?_; try go_simp)
  refine wpQuiet_nil ?_
  intro w1 hW1
  have HW1 := Lib.hid hW1.out
  have hs1 := hW1.out.size
  clear hW1
  go_simp
  go_wp2
  refine wp_head (fun W' => Hid (Below w.heap.size w W')) (by kernel_rfl) (by kernel_rfl) (Lib.hid HW1.out.drew) ?_
  iterate 5 (refine quiet_val (by rfl) (fun W' hW' => by
    have h1 : W'.cell? ⟨ba, 0, none⟩ = some (.pointer (some ⟨qa, 0, none⟩)) := (hW'.out.cell (p := ⟨ba, 0, none⟩) sba).trans CA.out
    have h3 : W'.cell? ⟨qa, 4, none⟩ = some (.func (.func g1) #[] cap1) := (hW'.out.cell (p := ⟨qa, 4, none⟩) sqa).trans FA.out
    go_simp; rfl) ?_; try go_simp)
  refine quiet_call (v := .string ⟨(f1 u).toArray⟩) (f := g1) (args := #[.string ⟨u.toArray⟩] ++ cap1) (by rfl) (fun W' hW' => by go_simp) (fun W' hW' => ?_) ?_
  · refine (K1.out W' hW'.out).mono ?_
    rintro e w'' ⟨rfl, hb⟩
    exact ⟨rfl, Lib.hid (hW'.out.trans (hb.mono hW'.out.size))⟩
  go_simp
  iterate 5 (refine quiet_val (by rfl) (fun W' hW' => by
    have h1 : W'.cell? ⟨bb, 0, none⟩ = some (.pointer (some ⟨qb, 0, none⟩)) := (hW'.out.cell (p := ⟨bb, 0, none⟩) sbb).trans CB.out
    have h3 : W'.cell? ⟨qb, 4, none⟩ = some (.func (.func g2) #[] cap2) := (hW'.out.cell (p := ⟨qb, 4, none⟩) sqb).trans FB.out
    go_simp; rfl) ?_; try go_simp)
  refine quiet_call (v := .string ⟨(f2 v).toArray⟩) (f := g2) (args := #[.string ⟨v.toArray⟩] ++ cap2) (by rfl) (fun W' hW' => by go_simp) (fun W' hW' => ?_) ?_
  · refine (K2.out W' hW'.out).mono ?_
    rintro e w'' ⟨rfl, hb⟩
    exact ⟨rfl, Lib.hid (hW'.out.trans (hb.mono hW'.out.size))⟩
  go_simp
  refine quiet_val (v := .string (⟨(f1 u).toArray⟩ ++ ⟨(f2 v).toArray⟩)) (by rfl) (fun W' hW' => by
    go_simp
    exact Nat.le_of_not_lt HL.out) ?_
  go_simp
  refine quiet_val (by rfl) (fun W' hW' => by go_simp; rfl) ?_
  go_simp
  refine wpQuiet_nil ?_
  intro w2 hW2
  have HW2 := Lib.hid hW2.out
  clear hW2
  go_simp
  go_wp2
  go_ret
  exact ⟨by rw [bytes_append]; rfl, HW2.out⟩

set_option maxHeartbeats 1000000 in
set_option maxRecDepth 100000 in
theorem fn147 (A C : PA) (hA : A.Ok) (hC : C.Ok) (f1 f2 : Txt → Txt) (T ba bb qa qb pa pb g1 g2 : Nat) (cap1 cap2 : Array Value) (va na ma ca ua vb nb mb cb ub : Value) (s : Txt) (w : World) (hs : Asc s) (hT : T ≤ w.heap.size) (h6 : 6 < T) (hE : Env w)
    (hba : w.heap[ba]? = some (.cells #[.pointer (some ⟨qa, 0, none⟩)] 52 (0, 0))) (hbb : w.heap[bb]? = some (.cells #[.pointer (some ⟨qb, 0, none⟩)] 52 (0, 0)))
    (hqa : w.heap[qa]? = some (.cells #[va, .pointer (some ⟨pa, 0, none⟩), na, ma, ca, .func (.func g1) #[] cap1, ua] 70 (0, 0)))
    (hqb : w.heap[qb]? = some (.cells #[vb, .pointer (some ⟨pb, 0, none⟩), nb, mb, cb, .func (.func g2) #[] cap2, ub] 70 (0, 0)))
    (hpa : AutoAt w T pa A) (hpb : AutoAt w T pb C)
    (hl : (f1 (cutP A C s).1).length + (f2 (cutP A C s).2).length ≤ 1000000000)
    (e1 : ∀ args w, (callFunc g1 args).run Tryz.prog w = .ok (.enter g1 args) w) (e2 : ∀ args w, (callFunc g2 args).run Tryz.prog w = .ok (.enter g2 args) w)
    (k1 : ∀ W s, Below T w W → Asc s → Calls Tryz.prog g1 (#[.string ⟨s.toArray⟩] ++ cap1) W (TxtPost W (f1 s))) (k2 : ∀ W s, Below T w W → Asc s → Calls Tryz.prog g2 (#[.string ⟨s.toArray⟩] ++ cap2) W (TxtPost W (f2 s))) :
    Calls Tryz.prog 147 #[.string ⟨s.toArray⟩, .pointer (some ⟨ba, 0, none⟩), .pointer (some ⟨bb, 0, none⟩)] w (TxtPost w (f1 (cutP A C s).1 ++ f2 (cutP A C s).2)) := by
  obtain ⟨u, v, huv⟩ : ∃ u v, cutP A C s = (u, v) := ⟨_, _, rfl⟩
  have hu : Asc (cutP A C s).1 := cut_asc1 A C hs
  have hv : Asc (cutP A C s).2 := cut_asc2 A C hs
  have HCUT := Lib.hid (fun (W : World) (hb : Below w.heap.size w W) => cut_any A C hA hC s T pa pb W hs (hpa.same fun k hk => hb.block k (by omega)) (hpb.same fun k hk => hb.block k (by omega)) (Nat.le_trans hT hb.size) h6 (env_below hb (by omega) hE))
  unfold CutPost at HCUT
  rw [huv] at hu hv hl HCUT ⊢
  have hl2 : ¬ 9223372036854775807 < (f1 u).length + (f2 v).length := by simp only at hl; omega
  have HL := Lib.hid hl2
  have K1 := Lib.hid (fun (W : World) (hb : Below w.heap.size w W) => k1 W u (hb.mono hT) hu)
  have K2 := Lib.hid (fun (W : World) (hb : Below w.heap.size w W) => k2 W v (hb.mono hT) hv)
  have sba := lt_of_at hba; have sbb := lt_of_at hbb; have sqa := lt_of_at hqa; have sqb := lt_of_at hqb
  have CA := Lib.hid (cell_at hba 0); have CB := Lib.hid (cell_at hbb 0); have QA := Lib.hid (cell_at hqa 1); have QB := Lib.hid (cell_at hqb 1); have FA := Lib.hid (cell_at hqa 5); have FB := Lib.hid (cell_at hqb 5)
  clear hl hl2 hba hbb hqa hqb hpa hpb k1 k2 hu hv huv hE hs
  go_enter Tryz.func147, Tryz.ntmps147
  go_wp2
  refine wp_head (fun W' => Hid (Below w.heap.size w W')) (by kernel_rfl) (by kernel_rfl) (Lib.hid (Below.refl _ _).drew) ?_
  iterate 11 (refine quiet_val (by rfl) (fun W' hW' => by
    have h1 : W'.cell? ⟨ba, 0, none⟩ = some (.pointer (some ⟨qa, 0, none⟩)) := (hW'.out.cell (p := ⟨ba, 0, none⟩) sba).trans CA.out
    have h2 : W'.cell? ⟨bb, 0, none⟩ = some (.pointer (some ⟨qb, 0, none⟩)) := (hW'.out.cell (p := ⟨bb, 0, none⟩) sbb).trans CB.out
    have h3 : W'.cell? ⟨qa, 1, none⟩ = some (.pointer (some ⟨pa, 0, none⟩)) := (hW'.out.cell (p := ⟨qa, 1, none⟩) sqa).trans QA.out
    have h4 : W'.cell? ⟨qb, 1, none⟩ = some (.pointer (some ⟨pb, 0, none⟩)) := (hW'.out.cell (p := ⟨qb, 1, none⟩) sqb).trans QB.out
    go_simp; rfl) ?_; try go_simp)
  refine quiet_call (v := .tuple #[.string ⟨u.toArray⟩, .string ⟨v.toArray⟩]) (f := 146) (args := #[.string ⟨s.toArray⟩, .pointer (some ⟨pa, 0, none⟩), .pointer (some ⟨pb, 0, none⟩)]) (by rfl) (fun W' hW' => by go_simp) (fun W' hW' => ?_) ?_
  · refine (HCUT.out W' hW'.out).mono ?_
    rintro e w'' ⟨rfl, hb⟩
    exact ⟨rfl, Lib.hid (hW'.out.trans (hb.mono hW'.out.size))⟩
  go_simp
  iterate 5 (refine quiet_val (by rfl) (fun W' hW' => by go_simp; rfl) ?_; try go_simp)
  refine wpQuiet_nil ?_
  intro w1 hW1
  have HW1 := Lib.hid hW1.out
  have hs1 := hW1.out.size
  clear hW1
  go_simp
  go_wp2
  refine wp_head (fun W' => Hid (Below w.heap.size w W')) (by kernel_rfl) (by kernel_rfl) (Lib.hid HW1.out.drew) ?_
  iterate 5 (refine quiet_val (by rfl) (fun W' hW' => by
    have h1 : W'.cell? ⟨ba, 0, none⟩ = some (.pointer (some ⟨qa, 0, none⟩)) := (hW'.out.cell (p := ⟨ba, 0, none⟩) sba).trans CA.out
    have h3 : W'.cell? ⟨qa, 5, none⟩ = some (.func (.func g1) #[] cap1) := (hW'.out.cell (p := ⟨qa, 5, none⟩) sqa).trans FA.out
    go_simp; rfl) ?_; try go_simp)
  refine quiet_call (v := .string ⟨(f1 u).toArray⟩) (f := g1) (args := #[.string ⟨u.toArray⟩] ++ cap1) (by rfl) (fun W' hW' => by go_simp) (fun W' hW' => ?_) ?_
  · refine (K1.out W' hW'.out).mono ?_
    rintro e w'' ⟨rfl, hb⟩
    exact ⟨rfl, Lib.hid (hW'.out.trans (hb.mono hW'.out.size))⟩
  go_simp
  iterate 5 (refine quiet_val (by rfl) (fun W' hW' => by
    have h1 : W'.cell? ⟨bb, 0, none⟩ = some (.pointer (some ⟨qb, 0, none⟩)) := (hW'.out.cell (p := ⟨bb, 0, none⟩) sbb).trans CB.out
    have h3 : W'.cell? ⟨qb, 5, none⟩ = some (.func (.func g2) #[] cap2) := (hW'.out.cell (p := ⟨qb, 5, none⟩) sqb).trans FB.out
    go_simp; rfl) ?_; try go_simp)
  refine quiet_call (v := .string ⟨(f2 v).toArray⟩) (f := g2) (args := #[.string ⟨v.toArray⟩] ++ cap2) (by rfl) (fun W' hW' => by go_simp) (fun W' hW' => ?_) ?_
  · refine (K2.out W' hW'.out).mono ?_
    rintro e w'' ⟨rfl, hb⟩
    exact ⟨rfl, Lib.hid (hW'.out.trans (hb.mono hW'.out.size))⟩
  go_simp
  refine quiet_val (v := .string (⟨(f1 u).toArray⟩ ++ ⟨(f2 v).toArray⟩)) (by rfl) (fun W' hW' => by
    go_simp
    exact Nat.le_of_not_lt HL.out) ?_
  go_simp
  refine quiet_val (by rfl) (fun W' hW' => by go_simp; rfl) ?_
  go_simp
  refine wpQuiet_nil ?_
  intro w2 hW2
  have HW2 := Lib.hid hW2.out
  clear hW2
  go_simp
  go_wp2
  go_ret
  exact ⟨by rw [bytes_append]; rfl, HW2.out⟩

set_option maxHeartbeats 1000000 in
set_option maxRecDepth 100000 in
theorem fn148 (A C A2 C2 : PA) (hA : A.Ok) (hC : C.Ok) (hA2 : A2.Ok) (hC2 : C2.Ok) (f1 f2 : Txt → Txt → Txt) (T ba bb qa qb pa pb pa2 pb2 g1 g2 : Nat) (cap1 cap2 : Array Value) (na ma ca da nb mb cb db : Value) (v s : Txt) (w : World) (hv : Asc v) (hs : Asc s) (hT : T ≤ w.heap.size) (h6 : 6 < T) (hE : Env w)
    (hba : w.heap[ba]? = some (.cells #[.pointer (some ⟨qa, 0, none⟩)] 52 (0, 0))) (hbb : w.heap[bb]? = some (.cells #[.pointer (some ⟨qb, 0, none⟩)] 52 (0, 0)))
    (hqa : w.heap[qa]? = some (.cells #[.pointer (some ⟨pa, 0, none⟩), .pointer (some ⟨pa2, 0, none⟩), na, ma, ca, da, .func (.func g1) #[] cap1] 70 (0, 0)))
    (hqb : w.heap[qb]? = some (.cells #[.pointer (some ⟨pb, 0, none⟩), .pointer (some ⟨pb2, 0, none⟩), nb, mb, cb, db, .func (.func g2) #[] cap2] 70 (0, 0)))
    (hpa : AutoAt w T pa A) (hpb : AutoAt w T pb C) (hpa2 : AutoAt w T pa2 A2) (hpb2 : AutoAt w T pb2 C2)
    (hl : (f1 (cutP A2 C2 v).1 (cutP A C s).1).length + (f2 (cutP A2 C2 v).2 (cutP A C s).2).length ≤ 1000000000)
    (e1 : ∀ args w, (callFunc g1 args).run Tryz.prog w = .ok (.enter g1 args) w) (e2 : ∀ args w, (callFunc g2 args).run Tryz.prog w = .ok (.enter g2 args) w)
    (k1 : ∀ W v s, Below T w W → Asc v → Asc s → Calls Tryz.prog g1 (#[.string ⟨v.toArray⟩, .string ⟨s.toArray⟩] ++ cap1) W (TxtPost W (f1 v s))) (k2 : ∀ W v s, Below T w W → Asc v → Asc s → Calls Tryz.prog g2 (#[.string ⟨v.toArray⟩, .string ⟨s.toArray⟩] ++ cap2) W (TxtPost W (f2 v s))) :
    Calls Tryz.prog 148 #[.string ⟨v.toArray⟩, .string ⟨s.toArray⟩, .pointer (some ⟨ba, 0, none⟩), .pointer (some ⟨bb, 0, none⟩)] w (TxtPost w (f1 (cutP A2 C2 v).1 (cutP A C s).1 ++ f2 (cutP A2 C2 v).2 (cutP A C s).2)) := by
  obtain ⟨u, x, hux⟩ : ∃ u x, cutP A2 C2 v = (u, x) := ⟨_, _, rfl⟩
  obtain ⟨y, z, hyz⟩ : ∃ y z, cutP A C s = (y, z) := ⟨_, _, rfl⟩
  have a1 : Asc (cutP A2 C2 v).1 := cut_asc1 A2 C2 hv
  have a2 : Asc (cutP A2 C2 v).2 := cut_asc2 A2 C2 hv
  have a3 : Asc (cutP A C s).1 := cut_asc1 A C hs
  have a4 : Asc (cutP A C s).2 := cut_asc2 A C hs
  have HCUT := Lib.hid (fun (W : World) (hb : Below w.heap.size w W) => cut_any A C hA hC s T pa pb W hs (hpa.same fun k hk => hb.block k (by omega)) (hpb.same fun k hk => hb.block k (by omega)) (Nat.le_trans hT hb.size) h6 (env_below hb (by omega) hE))
  have HCUT2 := Lib.hid (fun (W : World) (hb : Below w.heap.size w W) => cut_any A2 C2 hA2 hC2 v T pa2 pb2 W hv (hpa2.same fun k hk => hb.block k (by omega)) (hpb2.same fun k hk => hb.block k (by omega)) (Nat.le_trans hT hb.size) h6 (env_below hb (by omega) hE))
  unfold CutPost at HCUT HCUT2
  rw [hux] at a1 a2 hl HCUT2 ⊢
  rw [hyz] at a3 a4 hl HCUT ⊢
  have hl2 : ¬ 9223372036854775807 < (f1 u y).length + (f2 x z).length := by simp only at hl; omega
  have HL := Lib.hid hl2
  have K1 := Lib.hid (fun (W : World) (hb : Below w.heap.size w W) => k1 W u y (hb.mono hT) a1 a3)
  have K2 := Lib.hid (fun (W : World) (hb : Below w.heap.size w W) => k2 W x z (hb.mono hT) a2 a4)
  have sba := lt_of_at hba; have sbb := lt_of_at hbb; have sqa := lt_of_at hqa; have sqb := lt_of_at hqb
  have CA := Lib.hid (cell_at hba 0); have CB := Lib.hid (cell_at hbb 0); have QA := Lib.hid (cell_at hqa 0); have QB := Lib.hid (cell_at hqb 0); have QA1 := Lib.hid (cell_at hqa 1); have QB1 := Lib.hid (cell_at hqb 1); have FA := Lib.hid (cell_at hqa 6); have FB := Lib.hid (cell_at hqb 6)
  clear hl hl2 hba hbb hqa hqb hpa hpb hpa2 hpb2 k1 k2 a1 a2 a3 a4 hux hyz hE hs hv
  go_enter Tryz.func148, Tryz.ntmps148
  go_wp2
  refine wp_head (fun W' => Hid (Below w.heap.size w W')) (by kernel_rfl) (by kernel_rfl) (Lib.hid (Below.refl _ _).drew) ?_
  iterate 11 (refine quiet_val (by rfl) (fun W' hW' => by
    have h1 : W'.cell? ⟨ba, 0, none⟩ = some (.pointer (some ⟨qa, 0, none⟩)) := (hW'.out.cell (p := ⟨ba, 0, none⟩) sba).trans CA.out
    have h2 : W'.cell? ⟨bb, 0, none⟩ = some (.pointer (some ⟨qb, 0, none⟩)) := (hW'.out.cell (p := ⟨bb, 0, none⟩) sbb).trans CB.out
    have h3 : W'.cell? ⟨qa, 1, none⟩ = some (.pointer (some ⟨pa2, 0, none⟩)) := (hW'.out.cell (p := ⟨qa, 1, none⟩) sqa).trans QA1.out
    have h4 : W'.cell? ⟨qb, 1, none⟩ = some (.pointer (some ⟨pb2, 0, none⟩)) := (hW'.out.cell (p := ⟨qb, 1, none⟩) sqb).trans QB1.out
    go_simp; rfl) ?_; try go_simp)
  refine quiet_call (v := .tuple #[.string ⟨u.toArray⟩, .string ⟨x.toArray⟩]) (f := 146) (args := #[.string ⟨v.toArray⟩, .pointer (some ⟨pa2, 0, none⟩), .pointer (some ⟨pb2, 0, none⟩)]) (by rfl) (fun W' hW' => by go_simp) (fun W' hW' => ?_) ?_
  · refine (HCUT2.out W' hW'.out).mono ?_
    rintro e w'' ⟨rfl, hb⟩
    exact ⟨rfl, Lib.hid (hW'.out.trans (hb.mono hW'.out.size))⟩
  go_simp
  iterate 5 (refine quiet_val (by rfl) (fun W' hW' => by go_simp; rfl) ?_; try go_simp)
  refine wpQuiet_nil ?_
  intro w1 hW1
  have Hw1 := Lib.hid hW1.out
  clear hW1
  go_simp
  go_wp2
  refine wp_head (fun W' => Hid (Below w.heap.size w W')) (by kernel_rfl) (by kernel_rfl) (Lib.hid Hw1.out.drew) ?_
  iterate 11 (refine quiet_val (by rfl) (fun W' hW' => by
    have h1 : W'.cell? ⟨ba, 0, none⟩ = some (.pointer (some ⟨qa, 0, none⟩)) := (hW'.out.cell (p := ⟨ba, 0, none⟩) sba).trans CA.out
    have h2 : W'.cell? ⟨bb, 0, none⟩ = some (.pointer (some ⟨qb, 0, none⟩)) := (hW'.out.cell (p := ⟨bb, 0, none⟩) sbb).trans CB.out
    have h3 : W'.cell? ⟨qa, 0, none⟩ = some (.pointer (some ⟨pa, 0, none⟩)) := (hW'.out.cell (p := ⟨qa, 0, none⟩) sqa).trans QA.out
    have h4 : W'.cell? ⟨qb, 0, none⟩ = some (.pointer (some ⟨pb, 0, none⟩)) := (hW'.out.cell (p := ⟨qb, 0, none⟩) sqb).trans QB.out
    go_simp; rfl) ?_; try go_simp)
  refine quiet_call (v := .tuple #[.string ⟨y.toArray⟩, .string ⟨z.toArray⟩]) (f := 146) (args := #[.string ⟨s.toArray⟩, .pointer (some ⟨pa, 0, none⟩), .pointer (some ⟨pb, 0, none⟩)]) (by rfl) (fun W' hW' => by go_simp) (fun W' hW' => ?_) ?_
  · refine (HCUT.out W' hW'.out).mono ?_
    rintro e w'' ⟨rfl, hb⟩
    exact ⟨rfl, Lib.hid (hW'.out.trans (hb.mono hW'.out.size))⟩
  go_simp
  iterate 5 (refine quiet_val (by rfl) (fun W' hW' => by go_simp; rfl) ?_; try go_simp)
  refine wpQuiet_nil ?_
  intro w2 hW1
  have Hw2 := Lib.hid hW1.out
  clear hW1
  go_simp
  go_wp2
  refine wp_head (fun W' => Hid (Below w.heap.size w W')) (by kernel_rfl) (by kernel_rfl) (Lib.hid Hw2.out.drew) ?_
  iterate 6 (refine quiet_val (by rfl) (fun W' hW' => by
    have h1 : W'.cell? ⟨ba, 0, none⟩ = some (.pointer (some ⟨qa, 0, none⟩)) := (hW'.out.cell (p := ⟨ba, 0, none⟩) sba).trans CA.out
    have h3 : W'.cell? ⟨qa, 6, none⟩ = some (.func (.func g1) #[] cap1) := (hW'.out.cell (p := ⟨qa, 6, none⟩) sqa).trans FA.out
    go_simp; rfl) ?_; try go_simp)
  refine quiet_call (v := .string ⟨(f1 u y).toArray⟩) (f := g1) (args := #[.string ⟨u.toArray⟩, .string ⟨y.toArray⟩] ++ cap1) (by rfl) (fun W' hW' => by go_simp) (fun W' hW' => ?_) ?_
  · refine (K1.out W' hW'.out).mono ?_
    rintro e w'' ⟨rfl, hb⟩
    exact ⟨rfl, Lib.hid (hW'.out.trans (hb.mono hW'.out.size))⟩
  go_simp
  iterate 6 (refine quiet_val (by rfl) (fun W' hW' => by
    have h1 : W'.cell? ⟨bb, 0, none⟩ = some (.pointer (some ⟨qb, 0, none⟩)) := (hW'.out.cell (p := ⟨bb, 0, none⟩) sbb).trans CB.out
    have h3 : W'.cell? ⟨qb, 6, none⟩ = some (.func (.func g2) #[] cap2) := (hW'.out.cell (p := ⟨qb, 6, none⟩) sqb).trans FB.out
    go_simp; rfl) ?_; try go_simp)
  refine quiet_call (v := .string ⟨(f2 x z).toArray⟩) (f := g2) (args := #[.string ⟨x.toArray⟩, .string ⟨z.toArray⟩] ++ cap2) (by rfl) (fun W' hW' => by go_simp) (fun W' hW' => ?_) ?_
  · refine (K2.out W' hW'.out).mono ?_
    rintro e w'' ⟨rfl, hb⟩
    exact ⟨rfl, Lib.hid (hW'.out.trans (hb.mono hW'.out.size))⟩
  go_simp
  refine quiet_val (v := .string (⟨(f1 u y).toArray⟩ ++ ⟨(f2 x z).toArray⟩)) (by rfl) (fun W' hW' => by
    go_simp
    exact Nat.le_of_not_lt HL.out) ?_
  go_simp
  refine quiet_val (by rfl) (fun W' hW' => by go_simp; rfl) ?_
  go_simp
  refine wpQuiet_nil ?_
  intro w3 hW3
  have HW3 := Lib.hid hW3.out
  clear hW3
  go_simp
  go_wp2
  go_ret
  exact ⟨by rw [bytes_append]; rfl, HW3.out⟩

end Go.Proofs.YtiocjdggdmeggaaGreatDoor
