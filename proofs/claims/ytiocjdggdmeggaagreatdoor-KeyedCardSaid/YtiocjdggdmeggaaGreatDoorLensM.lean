/-
  The walks of the methods of a Lens, and of Convert.
-/
import Derived.Test.YtiocjdggdmeggaaGreatDoorRepPut
namespace Go.Proofs.YtiocjdggdmeggaaGreatDoor
open Go.RowKit Go.Shelf
theorem piecesP_spec {A M : PA} : ∀ (f : Nat) (t : Txt) (ps : List Txt), piecesP A M f t = some ps → ps.flatten = t ∧ ∀ p ∈ ps, p ≠ []
  | 0, t, ps, h => by
    unfold piecesP at h
    split at h
    · rename_i ht
      cases h
      exact ⟨ht.symm, fun p hp => by cases hp⟩
    · cases h
  | f + 1, t, ps, h => by
    by_cases ht : t = []
    · subst ht
      have := piecesP_nil h
      subst this
      exact ⟨rfl, fun p hp => by cases hp⟩
    · obtain ⟨f', i, ps', hf, hi, hr, rfl⟩ := piecesP_cons h ht
      obtain rfl : f = f' := by omega
      obtain ⟨h1, h2⟩ := piecesP_spec f _ _ hr
      have hp := List.find?_some hi
      simp only [Bool.and_eq_true, decide_eq_true_eq] at hp
      refine ⟨by rw [List.flatten_cons, h1, List.take_append_drop], fun p hp' => ?_⟩
      rcases List.mem_cons.1 hp' with rfl | hp'
      · intro e
        have : (t.take i).length = 0 := by rw [e]; rfl
        simp at this
        rcases this with h | h
        · omega
        · exact ht h
      · exact h2 p hp'
theorem flatten_count : ∀ (ps : List Txt), (∀ p ∈ ps, p ≠ []) → ps.length ≤ ps.flatten.length
  | [], _ => Nat.zero_le _
  | p :: ps, h => by
    have h1 := flatten_count ps (fun q hq => h q (by simp [hq]))
    have h2 : 0 < p.length := List.length_pos_iff.2 (h p (by simp))
    rw [List.flatten_cons, List.length_append, List.length_cons]
    omega
theorem flatten_part : ∀ (ps : List Txt) (p : Txt), p ∈ ps → p.length ≤ ps.flatten.length ∧ ∀ b ∈ p, b ∈ ps.flatten
  | q :: ps, p, h => by
    rw [List.flatten_cons, List.length_append]
    rcases List.mem_cons.1 h with rfl | h
    · exact ⟨by omega, fun b hb => by simp [hb]⟩
    · obtain ⟨h1, h2⟩ := flatten_part ps p h
      exact ⟨by omega, fun b hb => by have := h2 b hb; simp only [List.mem_append]; exact .inr this⟩
theorem pieces_asc {A M : PA} {f : Nat} {t : Txt} {ps : List Txt} (h : piecesP A M f t = some ps) (ht : Asc t) : ps.length ≤ 1000 ∧ ∀ p ∈ ps, Asc p := by
  obtain ⟨h1, h2⟩ := piecesP_spec f t ps h
  have h3 := flatten_count ps h2
  rw [h1] at h3
  refine ⟨Nat.le_trans h3 ht.1, fun p hp => ?_⟩
  obtain ⟨h4, h5⟩ := flatten_part ps p hp
  rw [h1] at h4 h5
  exact ⟨Nat.le_trans h4 ht.1, fun b hb => ht.2 b (h5 b hb)⟩
theorem gets_len (X : Ln) : ∀ (ps : List Txt), (ps.map X.get).flatten.length ≤ ps.flatten.length
  | [] => Nat.le_refl _
  | p :: ps => by
    have h1 := gets_len X ps
    have h2 := get_len X p
    rw [List.map_cons, List.flatten_cons, List.flatten_cons, List.length_append, List.length_append]
    omega
theorem fn175 (v : ByteArray) (bP b : Nat) (cap : Array Value) (t : Txt) (w : World) (hP : w.cell? ⟨bP, 0, none⟩ = some (.pointer (some ⟨b, 0, none⟩))) (hc : w.cell? ⟨b, 6, none⟩ = some (.func (.func 172) #[] cap))
    (h : Calls Tryz.prog 172 (#[.string v, .string ⟨#[]⟩] ++ cap) w (TxtPost w t)) : Calls Tryz.prog 175 #[.string v, .pointer (some ⟨bP, 0, none⟩)] w (TxtPost w t) := by
  have H := Lib.hid h
  have e := enters_of Tryz.func172 (by kernel_rfl) rfl
  clear h
  go_enter Tryz.func175, Tryz.ntmps175
  go_wp2_with fail
  refine H.out.mono ?_
  rintro e' w1 ⟨rfl, hb⟩
  have HB := Lib.hid hb
  clear hb
  go_wp2
  go_ret
  exact ⟨rfl, HB.out⟩
/-- What a method of a Lens answers. -/
def AnsPost (w : World) (t : Txt) (e : Ending) (w' : World) : Prop := e = .returned (.tuple #[.string ⟨t.toArray⟩, .int .i64 0]) ∧ Below w.heap.size w w'
theorem kget (X : Ln) (hf : X.KFine) (hx : X.extra ≤ 1000000) (w : World) (T b : Nat) (s : Txt) (ps : List Txt) (f0 : Nat) (h : KPartAt w T b X) (hT : T ≤ w.heap.size) (h6 : 6 < T) (hE : Env w) (hs : Asc s) (hps : piecesP X.sa X.sm f0 s = some ps) :
    ∃ g cap, w.cell? ⟨b, 4, none⟩ = some (.func (.func g) #[] cap) ∧ (∀ args w, (callFunc g args).run Tryz.prog w = .ok (.enter g args) w) ∧ Calls Tryz.prog g (#[.string ⟨s.toArray⟩] ++ cap) w (TxtPost w (ps.map X.get).flatten) := by
  obtain ⟨pa, pv, qa, bA, bK, bP, k1, k2, k3, k4, k5, k7, k8, k9, k10, k11, k12⟩ := h
  obtain ⟨px, px2, gx, cx, ux, lx, hbx, hax, hvx⟩ := k12.base
  obtain ⟨⟨g1, cap1, rfl, e1, c1⟩, _, _⟩ := part_fns X w T qa _ _ _ _ _ _ _ hf.1 hx k12 hT h6 hE hbx
  obtain ⟨h1, h2⟩ := pieces_asc hps hs
  refine ⟨168, _, cell_at k5 4, enters_of Tryz.func168 (by kernel_rfl) rfl, ?_⟩
  exact fn168 X.sa X.sm (okOf hf.1.nodes.1) (okOf hf.2.1) X.get T bA bP qa b px pa g1 f0 cap1 _ _ _ _ _ _ _ _ _ _ _ s ps w hs hT h6 hE k9 k11 hbx k5 hax k7 hps h1 h2
    (Nat.le_trans (gets_len X ps) (by rw [(piecesP_spec f0 s ps hps).1]; have := hs.1; omega)) e1 c1
theorem kput (X : Ln) (hf : X.KFine) (hx : X.extra ≤ 1000000) (w : World) (T b : Nat) (v s : Txt) (vs ps : List Txt) (f0 f1 : Nat) (h : KPartAt w T b X) (hT : T ≤ w.heap.size) (h6 : 6 < T) (hE : Env w) (hv : Asc v) (hs : Asc s) (hps : piecesP X.sa X.sm f0 s = some ps) (hvs : piecesP X.va X.vm f1 v = some vs) :
    ∃ cap, w.cell? ⟨b, 6, none⟩ = some (.func (.func 172) #[] cap) ∧ Calls Tryz.prog 172 (#[.string ⟨v.toArray⟩, .string ⟨s.toArray⟩] ++ cap) w (TxtPost w (putKeys X vs ps)) := by
  obtain ⟨pa, pv, qa, bA, bK, bP, k1, k2, k3, k4, k5, k7, k8, k9, k10, k11, k12⟩ := h
  obtain ⟨px, px2, gx, cx, ux, lx, hbx, hax, hvx⟩ := k12.base
  obtain ⟨⟨g1, cap1, rfl, e1, c1⟩, ⟨g2, cap2, rfl, e2, c2⟩, ⟨g3, cap3, rfl, e3, c3⟩⟩ := part_fns X w T qa _ _ _ _ _ _ _ hf.1 hx k12 hT h6 hE hbx
  obtain ⟨h1, h2⟩ := pieces_asc hps hs
  obtain ⟨h3, h4⟩ := pieces_asc hvs hv
  refine ⟨_, cell_at k5 6, ?_⟩
  exact fn172 X X.sa X.sm X.va X.vm (okOf hf.1.nodes.1) (okOf hf.2.1) (okOf hf.1.nodes.2) (okOf hf.2.2.1) T bA bP bK qa b px pa px2 pv g1 g2 g3 f0 f1 cap1 cap2 cap3 _ _ _ _ _ _ _ v s vs ps w hv hs hT h6 hE k9 k11 k10 hbx k5 hax k7 hvx k8 hps h1 h2 hvs h3 h4 hx e1 e2 e3 c1 c2 c3
theorem kcreate (X : Ln) (hf : X.KFine) (hx : X.extra ≤ 1000000) (w : World) (T b : Nat) (v : Txt) (vs : List Txt) (f1 : Nat) (h : KPartAt w T b X) (hT : T ≤ w.heap.size) (h6 : 6 < T) (hE : Env w) (hv : Asc v) (hvs : piecesP X.va X.vm f1 v = some vs) :
    ∃ g cap, w.cell? ⟨b, 5, none⟩ = some (.func (.func g) #[] cap) ∧ (∀ args w, (callFunc g args).run Tryz.prog w = .ok (.enter g args) w) ∧ Calls Tryz.prog g (#[.string ⟨v.toArray⟩] ++ cap) w (TxtPost w (vs.map X.create).flatten) := by
  obtain ⟨cap, hc, hcall⟩ := kput X hf hx w T b v [] vs [] 0 f1 h hT h6 hE hv Asc.nil rfl hvs
  rw [putKeys_nil] at hcall
  obtain ⟨pa, pv, qa, bA, bK, bP, k1, k2, k3, k4, k5, k7, k8, k9, k10, k11, k12⟩ := h
  refine ⟨175, _, cell_at k5 5, enters_of Tryz.func175 (by kernel_rfl) rfl, ?_⟩
  exact fn175 ⟨v.toArray⟩ bP b cap _ w (cell_at k11 0) hc hcall
theorem lens_isSource (X : Ln) (hf : X.KFine) (w : World) (T bl : Nat) (s : Txt) (h : LensAt w T bl X) (hT : T ≤ w.heap.size) (h6 : 6 < T) (hE : Env w) (hs : Asc s) (hl : s.length ≤ 60) (his : X.sm.is s = true) :
    Calls Tryz.prog 22 #[.pointer (some ⟨bl, 0, none⟩), .string ⟨s.toArray⟩] w fun e w' => e = .returned (.bool true) ∧ Below w.heap.size w w' := by
  obtain ⟨b, hbl, h1, h2⟩ := h
  obtain ⟨pa, pv, qa, bA, bK, bP, k1, k2, k3, k4, k5, k7, k8, k9, k10, k11, k12⟩ := h2
  have HIS := Lib.hid (isSource_any (X.sm) (okOf hf.2.1) ⟨s.toArray⟩ T pa b w (by rw [size_of_txt]; exact hs.1) (by rw [list_of]; exact hs.2) k7 hT h6 hE (cell_at k5 0))
  rw [list_of, his] at HIS
  have c0 : w.cell? ⟨bl, 0, none⟩ = some (.pointer (some ⟨b, 0, none⟩)) := cell_at h1 0
  obtain ⟨sv, hsv⟩ : ∃ b : ByteArray, (⟨s.toArray⟩ : ByteArray) = b := ⟨_, rfl⟩
  have hsz : (sv.size : Int) ≤ 60 := by rw [← hsv, size_of_txt]; omega
  rw [hsv] at HIS ⊢
  clear h1 k5 k7 k8 k9 k10 k11 k12 hf hE hs hsv his
  go_enter Tryz.func22, Tryz.ntmps22
  go_wp2_with fail
  refine HIS.out.mono ?_
  rintro e w1 ⟨rfl, hb⟩
  have HB := Lib.hid hb
  clear hb
  go_wp2
  go_ret
  exact ⟨rfl, HB.out⟩
theorem lens_isView (X : Ln) (hf : X.KFine) (w : World) (T bl : Nat) (s : Txt) (h : LensAt w T bl X) (hT : T ≤ w.heap.size) (h6 : 6 < T) (hE : Env w) (hs : Asc s) (hl : s.length ≤ 60) (his : X.vm.is s = true) :
    Calls Tryz.prog 24 #[.pointer (some ⟨bl, 0, none⟩), .string ⟨s.toArray⟩] w fun e w' => e = .returned (.bool true) ∧ Below w.heap.size w w' := by
  obtain ⟨b, hbl, h1, h2⟩ := h
  obtain ⟨pa, pv, qa, bA, bK, bP, k1, k2, k3, k4, k5, k7, k8, k9, k10, k11, k12⟩ := h2
  have HIS := Lib.hid (isView_any (X.vm) (okOf hf.2.2.1) ⟨s.toArray⟩ T pv b w (by rw [size_of_txt]; exact hs.1) (by rw [list_of]; exact hs.2) k8 hT h6 hE (cell_at k5 1))
  rw [list_of, his] at HIS
  have c0 : w.cell? ⟨bl, 0, none⟩ = some (.pointer (some ⟨b, 0, none⟩)) := cell_at h1 0
  obtain ⟨sv, hsv⟩ : ∃ b : ByteArray, (⟨s.toArray⟩ : ByteArray) = b := ⟨_, rfl⟩
  have hsz : (sv.size : Int) ≤ 60 := by rw [← hsv, size_of_txt]; omega
  rw [hsv] at HIS ⊢
  clear h1 k5 k7 k8 k9 k10 k11 k12 hf hE hs hsv his
  go_enter Tryz.func24, Tryz.ntmps24
  go_wp2_with fail
  refine HIS.out.mono ?_
  rintro e w1 ⟨rfl, hb⟩
  have HB := Lib.hid hb
  clear hb
  go_wp2
  go_ret
  exact ⟨rfl, HB.out⟩
theorem lens_get (X : Ln) (hf : X.KFine) (hx : X.extra ≤ 1000000) (w : World) (T bl f0 : Nat) (s : Txt) (ps : List Txt) (h : LensAt w T bl X) (hT : T ≤ w.heap.size) (h6 : 6 < T) (hE : Env w) (hs : Asc s) (hl : s.length ≤ 60) (his : X.sm.is s = true) (hps : piecesP X.sa X.sm f0 s = some ps) :
    Calls Tryz.prog 14 #[.pointer (some ⟨bl, 0, none⟩), .string ⟨s.toArray⟩] w (AnsPost w (ps.map X.get).flatten) := by
  have HIS := Lib.hid (lens_isSource X hf w T bl s h hT h6 hE hs hl his)
  obtain ⟨b, hbl, h1, h2⟩ := h
  have HK := Lib.hid (fun (W : World) (hb : Below w.heap.size w W) => kget X hf hx W T b s ps f0 (h2.keep fun k hk => hb.block k (by omega)) (Nat.le_trans hT hb.size) h6 (env_below hb (by omega) hE) hs hps)
  have H1 := Lib.hid h1
  have sbl := lt_of_at h1
  clear h1 h2 hf hE hs hl his hps
  obtain ⟨sv, hsv⟩ : ∃ b : ByteArray, (⟨s.toArray⟩ : ByteArray) = b := ⟨_, rfl⟩
  rw [hsv] at HIS HK ⊢
  clear hsv
  go_enter Tryz.func14, Tryz.ntmps14
  go_wp2_with fail
  refine HIS.out.mono ?_
  rintro e w1 ⟨rfl, hb⟩
  obtain ⟨g, cap, hc, eg, hcall⟩ := HK.out w1 hb
  have c0 : w1.cell? ⟨bl, 0, none⟩ = some (.pointer (some ⟨b, 0, none⟩)) := (hb.cell (p := ⟨bl, 0, none⟩) sbl).trans (cell_at H1.out 0)
  have HC := Lib.hid hcall
  have HB := Lib.hid hb
  clear hb hcall
  go_wp2_with fail
  refine HC.out.mono ?_
  rintro e w2 ⟨rfl, hb2⟩
  have HB2 := Lib.hid (HB.out.trans (hb2.mono HB.out.size))
  clear hb2
  go_wp2
  go_ret2
  exact ⟨rfl, HB2.out⟩
theorem lens_create (X : Ln) (hf : X.KFine) (hx : X.extra ≤ 1000000) (w : World) (T bl f0 : Nat) (s : Txt) (ps : List Txt) (h : LensAt w T bl X) (hT : T ≤ w.heap.size) (h6 : 6 < T) (hE : Env w) (hs : Asc s) (hl : s.length ≤ 60) (his : X.vm.is s = true) (hps : piecesP X.va X.vm f0 s = some ps) :
    Calls Tryz.prog 20 #[.pointer (some ⟨bl, 0, none⟩), .string ⟨s.toArray⟩] w (AnsPost w (ps.map X.create).flatten) := by
  have HIS := Lib.hid (lens_isView X hf w T bl s h hT h6 hE hs hl his)
  obtain ⟨b, hbl, h1, h2⟩ := h
  have HK := Lib.hid (fun (W : World) (hb : Below w.heap.size w W) => kcreate X hf hx W T b s ps f0 (h2.keep fun k hk => hb.block k (by omega)) (Nat.le_trans hT hb.size) h6 (env_below hb (by omega) hE) hs hps)
  have H1 := Lib.hid h1
  have sbl := lt_of_at h1
  clear h1 h2 hf hE hs hl his hps
  obtain ⟨sv, hsv⟩ : ∃ b : ByteArray, (⟨s.toArray⟩ : ByteArray) = b := ⟨_, rfl⟩
  rw [hsv] at HIS HK ⊢
  clear hsv
  go_enter Tryz.func20, Tryz.ntmps20
  go_wp2_with fail
  refine HIS.out.mono ?_
  rintro e w1 ⟨rfl, hb⟩
  obtain ⟨g, cap, hc, eg, hcall⟩ := HK.out w1 hb
  have c0 : w1.cell? ⟨bl, 0, none⟩ = some (.pointer (some ⟨b, 0, none⟩)) := (hb.cell (p := ⟨bl, 0, none⟩) sbl).trans (cell_at H1.out 0)
  have HC := Lib.hid hcall
  have HB := Lib.hid hb
  clear hb hcall
  go_wp2_with fail
  refine HC.out.mono ?_
  rintro e w2 ⟨rfl, hb2⟩
  have HB2 := Lib.hid (HB.out.trans (hb2.mono HB.out.size))
  clear hb2
  go_wp2
  go_ret2
  exact ⟨rfl, HB2.out⟩
theorem lens_put (X : Ln) (hf : X.KFine) (hx : X.extra ≤ 1000000) (w : World) (T bl f0 f1 : Nat) (v s : Txt) (vs ps : List Txt) (h : LensAt w T bl X) (hT : T ≤ w.heap.size) (h6 : 6 < T) (hE : Env w) (hv : Asc v) (hvl : v.length ≤ 60) (hs : Asc s) (hl : s.length ≤ 60)
    (hiv : X.vm.is v = true) (his : X.sm.is s = true) (hvs : piecesP X.va X.vm f1 v = some vs) (hps : piecesP X.sa X.sm f0 s = some ps) :
    Calls Tryz.prog 16 #[.pointer (some ⟨bl, 0, none⟩), .string ⟨v.toArray⟩, .string ⟨s.toArray⟩] w (AnsPost w (putKeys X vs ps)) := by
  have HIV := Lib.hid (lens_isView X hf w T bl v h hT h6 hE hv hvl hiv)
  have HIS := Lib.hid (fun (W : World) (hb : Below w.heap.size w W) => lens_isSource X hf W T bl s (h.keep fun k hk => hb.block k (by omega)) (Nat.le_trans hT hb.size) h6 (env_below hb (by omega) hE) hs hl his)
  obtain ⟨b, hbl, h1, h2⟩ := h
  have HK := Lib.hid (fun (W : World) (hb : Below w.heap.size w W) => kput X hf hx W T b v s vs ps f0 f1 (h2.keep fun k hk => hb.block k (by omega)) (Nat.le_trans hT hb.size) h6 (env_below hb (by omega) hE) hv hs hps hvs)
  have H1 := Lib.hid h1
  have sbl := lt_of_at h1
  have eg := enters_of Tryz.func172 (by kernel_rfl) rfl
  clear h1 h2 hf hE hs hl his hps hv hvl hiv hvs
  obtain ⟨sv, hsv⟩ : ∃ b : ByteArray, (⟨s.toArray⟩ : ByteArray) = b := ⟨_, rfl⟩
  obtain ⟨vv, hvv⟩ : ∃ b : ByteArray, (⟨v.toArray⟩ : ByteArray) = b := ⟨_, rfl⟩
  rw [hsv] at HIS HK ⊢
  rw [hvv] at HIV HK ⊢
  clear hsv hvv
  go_enter Tryz.func16, Tryz.ntmps16
  go_wp2_with fail
  refine HIV.out.mono ?_
  rintro e w1 ⟨rfl, hb⟩
  have HB := Lib.hid hb
  clear hb
  go_wp2_with fail
  refine (HIS.out w1 HB.out).mono ?_
  rintro e w2 ⟨rfl, hb2⟩
  have hb := HB.out.trans (hb2.mono HB.out.size)
  obtain ⟨cap, hc, hcall⟩ := HK.out w2 hb
  have c0 : w2.cell? ⟨bl, 0, none⟩ = some (.pointer (some ⟨b, 0, none⟩)) := (hb.cell (p := ⟨bl, 0, none⟩) sbl).trans (cell_at H1.out 0)
  have HC := Lib.hid hcall
  have HB2 := Lib.hid hb
  clear hb hb2 hcall
  go_wp2_with fail
  refine HC.out.mono ?_
  rintro e w3 ⟨rfl, hb3⟩
  have HB3 := Lib.hid (HB2.out.trans (hb3.mono HB2.out.size))
  clear hb3
  go_wp2
  go_ret2
  exact ⟨rfl, HB3.out⟩
theorem convert_any (w : World) (b1 b2 : Nat) (s v t : Txt) (h1 : ∀ W, Below w.heap.size w W → Calls Tryz.prog 14 #[.pointer (some ⟨b1, 0, none⟩), .string ⟨s.toArray⟩] W (AnsPost W v)) (h2 : ∀ W, Below w.heap.size w W → Calls Tryz.prog 20 #[.pointer (some ⟨b2, 0, none⟩), .string ⟨v.toArray⟩] W (AnsPost W t)) :
    Calls Tryz.prog 13 #[.pointer (some ⟨b1, 0, none⟩), .pointer (some ⟨b2, 0, none⟩), .string ⟨s.toArray⟩] w (AnsPost w t) := by
  have H1 := Lib.hid h1; have H2 := Lib.hid h2
  clear h1 h2
  obtain ⟨sv, hsv⟩ : ∃ b : ByteArray, (⟨s.toArray⟩ : ByteArray) = b := ⟨_, rfl⟩
  rw [hsv] at H1 ⊢
  clear hsv
  go_enter Tryz.func13, Tryz.ntmps13
  go_wp2_with fail
  refine (H1.out w (Below.refl _ _)).mono ?_
  rintro e w1 ⟨rfl, hb⟩
  have HB := Lib.hid hb
  clear hb
  go_wp2_with fail
  refine (H2.out w1 HB.out).mono ?_
  rintro e w2 ⟨rfl, hb2⟩
  have HB2 := Lib.hid (HB.out.trans (hb2.mono HB.out.size))
  clear hb2
  go_wp2
  go_ret2
  exact ⟨rfl, HB2.out⟩
end Go.Proofs.YtiocjdggdmeggaaGreatDoor
