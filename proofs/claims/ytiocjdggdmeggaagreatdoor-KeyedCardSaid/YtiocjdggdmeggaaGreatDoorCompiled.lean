/-
  The two programs that come along: what is read of their texts; that their parts are well typed.
  The walks of read, Program and Compile.
-/
import Derived.Test.YtiocjdggdmeggaaGreatDoorReaders
import Derived.Test.YtiocjdggdmeggaaGreatDoorLines
namespace Go.Proofs.YtiocjdggdmeggaaGreatDoor
open Go.RowKit Go.Shelf
theorem class_low : classNd 97 122 = .one 0 (2 ^ 59 - 2 ^ 33) := by decide +kernel
theorem class_dig : classNd 48 57 = .one (2 ^ 58 - 2 ^ 48) 0 := by decide +kernel
theorem sign_comma : signNd 44 = .one (2 ^ 44) 0 := by decide +kernel
theorem sign_semi : signNd 59 = .one (2 ^ 59) 0 := by decide +kernel
theorem sign_blank : signNd 32 = .one (2 ^ 32) 0 := by decide +kernel
theorem sign_eq : signNd 61 = .one (2 ^ 61) 0 := by decide +kernel
theorem sign_bang : signNd 33 = .one (2 ^ 33) 0 := by decide +kernel
theorem things_plus {c : UInt8} {l1 l : Txt} {d : Nd} (hc : c ≠ 124 ∧ c ≠ 41 ∧ c ≠ 47) (h : OneP (c :: l1) d (43 :: 47 :: l)) : ThingsP (c :: l1) [.row d (.many d)] l :=
  .cons hc ⟨d, _, h, .inr (.inl ⟨rfl, rfl⟩)⟩ (.nil l)
theorem things_sign {c : UInt8} {l : Txt} (hc : c ≠ 124 ∧ c ≠ 41 ∧ c ≠ 47) (hp : plainB c = true) : ThingsP (c :: 47 :: l) [signNd c] l :=
  .cons hc ⟨_, _, .inl ⟨c, rfl, hp, rfl⟩, .inr (.inr ⟨notNext_cons (by decide) _, notNext_cons (by decide) _, notNext_cons (by decide) _, rfl, rfl⟩)⟩ (.nil l)
theorem part_low (c : UInt8) (l : Txt) (h : c ≠ 42) : PartP (47 :: 91 :: 97 :: 45 :: 122 :: 93 :: 43 :: 47 :: c :: l) (.copy nLow) (c :: l) 1 :=
  .inl ⟨_, _, rfl, things_plus (by decide) (.inr ⟨97, 122, rfl, by decide, by decide, by decide, rfl⟩), notNext_cons h _, by rw [class_low]; rfl, rfl⟩
theorem part_dig (c : UInt8) (l : Txt) (h : c ≠ 42) : PartP (47 :: 91 :: 48 :: 45 :: 57 :: 93 :: 43 :: 47 :: c :: l) (.copy nDig) (c :: l) 1 :=
  .inl ⟨_, _, rfl, things_plus (by decide) (.inr ⟨48, 57, rfl, by decide, by decide, by decide, rfl⟩), notNext_cons h _, by rw [class_dig]; rfl, rfl⟩
def commasT : Txt := [60, 47, 91, 97, 45, 122, 93, 43, 47, 45, 47, 44, 47, 34, 44, 34, 47, 91, 48, 45, 57, 93, 43, 47, 45, 47, 59, 47, 34, 59, 34, 62]
def equalsT : Txt := [60, 47, 91, 97, 45, 122, 93, 43, 47, 45, 47, 32, 42, 61, 32, 42, 47, 34, 61, 34, 47, 91, 48, 45, 57, 93, 43, 47, 45, 47, 33, 43, 47, 34, 33, 34, 62]
theorem commas_row : ∃ l k, commasT = 60 :: l ∧ RowP l commas [62] k ∧ k ≤ 20 := by
  refine ⟨_, 1 + (2 + (1 + 2)), rfl, ?_, by decide⟩
  refine .more (part_low _ _ (by decide)) (by decide) ?_
  refine .more (.inr ⟨_, _, 44, rfl, things_sign (by decide) (by decide), by decide, by rw [sign_comma]; rfl, rfl⟩) (by decide) ?_
  refine .more (part_dig _ _ (by decide)) (by decide) ?_
  exact .last (.inr ⟨_, _, 59, rfl, things_sign (by decide) (by decide), by decide, by rw [sign_semi]; rfl, rfl⟩)
theorem things_eq (l : Txt) : ThingsP (32 :: 42 :: 61 :: 32 :: 42 :: 47 :: l) [.many (signNd 32), signNd 61, .many (signNd 32)] l := by
  refine .cons (by decide) ⟨signNd 32, _, .inl ⟨32, rfl, by decide, rfl⟩, .inl ⟨rfl, rfl⟩⟩ ?_
  refine .cons (by decide) ⟨signNd 61, _, .inl ⟨61, rfl, by decide, rfl⟩, .inr (.inr ⟨notNext_cons (by decide) _, notNext_cons (by decide) _, notNext_cons (by decide) _, rfl, rfl⟩)⟩ ?_
  exact .cons (by decide) ⟨signNd 32, _, .inl ⟨32, rfl, by decide, rfl⟩, .inl ⟨rfl, rfl⟩⟩ (.nil _)
theorem equals_row : ∃ l k, equalsT = 60 :: l ∧ RowP l equals [62] k ∧ k ≤ 20 := by
  refine ⟨_, 1 + (4 + (1 + 2)), rfl, ?_, by decide⟩
  refine .more (part_low _ _ (by decide)) (by decide) ?_
  refine .more (.inr ⟨_, _, 61, rfl, things_eq _, by decide, by rw [sign_blank, sign_eq]; rfl, rfl⟩) (by decide) ?_
  refine .more (part_dig _ _ (by decide)) (by decide) ?_
  exact .last (.inr ⟨_, _, 33, rfl, things_plus (by decide) (.inl ⟨33, rfl, by decide, rfl⟩), by decide, by rw [sign_bang]; rfl, rfl⟩)
def Nd.okB : Nd → Bool
  | .empty => true
  | .one lo hi => decide (lo < 2 ^ 64) && decide (hi < 2 ^ 64)
  | .row a b => a.okB && b.okB
  | .many a => a.okB
theorem Nd.okB_ok : ∀ {n : Nd}, n.okB = true → n.Ok
  | .empty, _ => trivial
  | .one lo hi, h => by simpa [Nd.okB, Nd.Ok] using h
  | .row a b, h => by
    simp only [Nd.okB, Bool.and_eq_true] at h
    exact ⟨Nd.okB_ok h.1, Nd.okB_ok h.2⟩
  | .many a, h => Nd.okB_ok (n := a) h
def fineB (n : Nd) : Bool := n.okB && decide (n.places ≤ 59)
theorem fine_of {n : Nd} (h : fineB n = true) : NdFine n := by
  simp only [fineB, Bool.and_eq_true, decide_eq_true_eq] at h
  exact ⟨Nd.okB_ok h.1, h.2⟩
def Ln.fineB (fuel : Nat) : Ln → Bool
  | .copy n => Proofs.YtiocjdggdmeggaaGreatDoor.fineB n
  | .leave n t => Proofs.YtiocjdggdmeggaaGreatDoor.fineB n && decide (t.length ≤ 1000) && t.all (fun b => decide (b.toNat < 128)) && (newP n).is t
  | .behind x y => x.fineB fuel && y.fineB fuel && Proofs.YtiocjdggdmeggaaGreatDoor.fineB (.row x.sn y.sn) && Proofs.YtiocjdggdmeggaaGreatDoor.fineB (.row x.vn y.vn) && decide (onceP x.sa y.sa fuel = some true) && decide (onceP x.va y.va fuel = some true)
theorem Ln.fine_of {fuel : Nat} : ∀ {X : Ln}, X.fineB fuel = true → X.Fine
  | .copy n, h => Proofs.YtiocjdggdmeggaaGreatDoor.fine_of (n := n) h
  | .leave n t, h => by
    simp only [Ln.fineB, Bool.and_eq_true, decide_eq_true_eq, List.all_eq_true] at h
    exact ⟨Proofs.YtiocjdggdmeggaaGreatDoor.fine_of h.1.1.1, h.1.1.2, h.1.2, h.2⟩
  | .behind x y, h => by
    simp only [Ln.fineB, Bool.and_eq_true, decide_eq_true_eq] at h
    obtain ⟨⟨⟨⟨⟨h1, h2⟩, h3⟩, h4⟩, h5⟩, h6⟩ := h
    exact ⟨Ln.fine_of h1, Ln.fine_of h2, Proofs.YtiocjdggdmeggaaGreatDoor.fine_of h3, Proofs.YtiocjdggdmeggaaGreatDoor.fine_of h4, ⟨_, h5⟩, ⟨_, h6⟩⟩
def Ln.kfineB (fuel : Nat) (x : Ln) : Bool := x.fineB fuel && Proofs.YtiocjdggdmeggaaGreatDoor.fineB (.many x.sn) && Proofs.YtiocjdggdmeggaaGreatDoor.fineB (.many x.vn) && !x.sa.last.testBit 0 && !x.va.last.testBit 0 && decide (onceP x.sa x.sm fuel = some true) && decide (onceP x.va x.vm fuel = some true)
theorem Ln.kfine_of {fuel : Nat} {x : Ln} (h : x.kfineB fuel = true) : x.KFine := by
  simp only [Ln.kfineB, Bool.and_eq_true, decide_eq_true_eq, Bool.not_eq_true'] at h
  obtain ⟨⟨⟨⟨⟨⟨h1, h2⟩, h3⟩, h4⟩, h5⟩, h6⟩, h7⟩ := h
  exact ⟨Ln.fine_of h1, Proofs.YtiocjdggdmeggaaGreatDoor.fine_of h2, Proofs.YtiocjdggdmeggaaGreatDoor.fine_of h3, h4, h5, ⟨_, h6⟩, ⟨_, h7⟩⟩
theorem commas_fine : commas.KFine := Ln.kfine_of (fuel := 2000) (by decide +kernel)
theorem equals_fine : equals.KFine := Ln.kfine_of (fuel := 2000) (by decide +kernel)
end Go.Proofs.YtiocjdggdmeggaaGreatDoor
namespace Go.Proofs.YtiocjdggdmeggaaGreatDoor
open Go.RowKit Go.Shelf
/-- A block that no part holds: an error's box; a box for a part, empty yet. -/
def Stray (w : World) (c : Nat) : Prop := ∃ us t, w.heap[c]? = some (.cells us t (0, 0)) ∧ (t = 54 ∨ (us = #[.pointer none] ∧ t = 52))
theorem AutoAt.stray {w w' : World} {T p c : Nat} {A : PA} (h : AutoAt w T p A) (hT : T ≤ w.heap.size) (hc : Stray w c) (ho : Only c w w') : AutoAt w' T p A := by
  obtain ⟨us, t, h1, h2⟩ := hc
  have : t ≠ 154 ∧ t ≠ 195 ∧ t ≠ 152 := by rcases h2 with h | ⟨_, h⟩ <;> subst h <;> decide
  exact h.only hT h1 this.1 this.2.1 this.2.2 ho
theorem Stray.other {w w' : World} {c k : Nat} {cs : Array Value} {t : TypeId} (hc : Stray w c) (ho : Only c w w') (hk : w.heap[k]? = some (.cells cs t (0, 0))) (h1 : t ≠ 54) (h2 : t ≠ 52 ∨ cs ≠ #[.pointer none]) : w'.heap[k]? = some (.cells cs t (0, 0)) := by
  refine (ho.block k (lt_of_at hk) fun e => ?_).trans hk
  subst e
  obtain ⟨us, t', k1, k2⟩ := hc
  rw [hk] at k1
  cases k1
  rcases k2 with k2 | ⟨k2, k3⟩
  · exact h1 k2
  · rcases h2 with h2 | h2
    · exact h2 k3
    · exact h2 k2
theorem PartAt.stray {w w' : World} {T c : Nat} {X : Ln} (hT : T ≤ w.heap.size) (hc : Stray w c) (ho : Only c w w') : ∀ {b : Nat}, PartAt w T b X → PartAt w' T b X := by
  induction X with
  | copy n =>
    rintro b ⟨pa, pv, h1, h2, h3, h4⟩
    exact ⟨pa, pv, h1, hc.other ho h2 (by decide) (.inl (by decide)), h3.stray hT hc ho, h4.stray hT hc ho⟩
  | leave n t =>
    rintro b ⟨pa, pv, bt, h1, h2, h3, h4, h5, h6⟩
    exact ⟨pa, pv, bt, h1, h2, hc.other ho h3 (by decide) (.inl (by decide)), h4.stray hT hc ho, h5.stray hT hc ho, hc.other ho h6 (by decide) (.inl (by decide))⟩
  | behind x y ihx ihy =>
    rintro b ⟨pa, pv, ba, bb, qa, qb, h1, h2, h3, h4, h5, h6, h7, h8, h9, h10⟩
    exact ⟨pa, pv, ba, bb, qa, qb, h1, h2, h3, hc.other ho h4 (by decide) (.inl (by decide)), h5.stray hT hc ho, h6.stray hT hc ho, hc.other ho h7 (by decide) (.inr (by simp)), hc.other ho h8 (by decide) (.inr (by simp)), ihx h9, ihy h10⟩
theorem KPartAt.stray {w w' : World} {T c b : Nat} {X : Ln} (h : KPartAt w T b X) (hT : T ≤ w.heap.size) (hc : Stray w c) (ho : Only c w w') : KPartAt w' T b X := by
  obtain ⟨pa, pv, qa, bA, bK, bP, h1, h2, h3, h4, h5, h6, h7, h8, h9, h10, h11⟩ := h
  exact ⟨pa, pv, qa, bA, bK, bP, h1, h2, h3, h4, hc.other ho h5 (by decide) (.inl (by decide)), h6.stray hT hc ho, h7.stray hT hc ho, hc.other ho h8 (by decide) (.inr (by simp)), hc.other ho h9 (by decide) (.inl (by decide)), hc.other ho h10 (by decide) (.inr (by simp)), h11.stray hT hc ho⟩
theorem KPartAt.keep {w w' : World} {T b : Nat} {X : Ln} (h : KPartAt w T b X) (hs : ∀ k, k < T → w'.heap[k]? = w.heap[k]?) : KPartAt w' T b X := by
  obtain ⟨pa, pv, qa, bA, bK, bP, h1, h2, h3, h4, h5, h6, h7, h8, h9, h10, h11⟩ := h
  exact ⟨pa, pv, qa, bA, bK, bP, h1, h2, h3, h4, (hs _ h1).trans h5, h6.same hs, h7.same hs, (hs _ h2).trans h8, (hs _ h3).trans h9, (hs _ h4).trans h10, h11.keep hs⟩
theorem KPartAt.mono {w : World} {T T' b : Nat} {X : Ln} (h : KPartAt w T b X) (hT : T ≤ T') : KPartAt w T' b X := by
  obtain ⟨pa, pv, qa, bA, bK, bP, h1, h2, h3, h4, h5, h6, h7, h8, h9, h10, h11⟩ := h
  exact ⟨pa, pv, qa, bA, bK, bP, by omega, by omega, by omega, by omega, h5, h6.mono hT, h7.mono hT, h8, h9, h10, h11.mono hT⟩
theorem setCell_same {w : World} {b i : Nat} {us : Array Value} {t : TypeId} {u : Value} (h : w.heap[b]? = some (.cells us t (0, 0))) (hu : us[i]? = some u) (k : Nat) : (w.setCell ⟨b, i, none⟩ u).heap[k]? = w.heap[k]? := by
  by_cases e : k = b
  · subst e
    rw [setCell_at h i u, h]
    congr 2
    apply Array.ext
    · simp
    · intro j h1 h2
      rw [Array.getElem_setIfInBounds]
      split
      · rename_i e
        subst e
        have := Array.getElem?_eq_getElem h2
        rw [hu] at this
        exact Option.some.inj this
      · rfl
  · cases hk : w.heap[k]? with
    | none =>
      have : w.heap.size ≤ k := by simpa using hk
      simp [World.setCell]; omega
    | some o => exact setCell_other hk e
def ReadPost (w : World) (bm : Nat) (X : Ln) (e : Ending) (w' : World) : Prop := ∃ r v, e = .returned .nilIface ∧ w'.heap[bm]? = some (.cells #[v] 87 (0, 0)) ∧ KMaker w' r v X ∧ Ext (fun j => j = bm) w w'
set_option maxHeartbeats 1000000 in
set_option maxRecDepth 100000 in
theorem read_any (w : World) (bm : Nat) (t l : Txt) (X : Ln) (k : Nat) (ht : t = 60 :: l) (htl : t.length ≤ 120) (hp : RowP l X [62] k) (hk : k ≤ 20) (hm : w.heap[bm]? = some (.cells #[.nilFunc] 87 (0, 0))) :
    Calls Tryz.prog 48 #[.string ⟨t.toArray⟩, .func (.func 49) #[] #[.pointer (some ⟨bm, 0, none⟩)]] w (ReadPost w bm X) := by
  obtain ⟨s, hs⟩ : ∃ s : ByteArray, (⟨t.toArray⟩ : ByteArray) = s := ⟨_, rfl⟩
  have hsz : (s.size : Int) ≤ 120 := by rw [← hs, size_of_txt]; omega
  obtain ⟨W, hW⟩ : ∃ W, (((w.alloc (.cells #[.func (.func 49) #[] #[.pointer (some ⟨bm, 0, none⟩)]] 91)).alloc (.cells #[.string s, .int .i64 0] 127)).alloc (.cells #[.pointer (some ⟨w.heap.size + 1, 0, none⟩)] 89)) = W := ⟨_, rfl⟩
  have sbm := lt_of_at hm
  have k3 : W.heap[w.heap.size]? = some (.cells #[.func (.func 49) #[] #[.pointer (some ⟨bm, 0, none⟩)]] 91 (0, 0)) := by rw [← hW]; exact alloc_old (alloc_old (alloc_at _ _) _) _
  have kr : RdAt W (w.heap.size + 1) t 0 := by
    have := alloc_at (w.alloc (.cells #[.func (.func 49) #[] #[.pointer (some ⟨bm, 0, none⟩)]] 91)) (.cells #[.string s, .int .i64 0] 127)
    rw [World.size_alloc] at this
    unfold RdAt
    rw [hs, ← hW]; exact alloc_old this _
  have k5 : W.heap[w.heap.size + 1 + 1]? = some (.cells #[.pointer (some ⟨w.heap.size + 1, 0, none⟩)] 89 (0, 0)) := by
    rw [← hW]
    have := alloc_at ((w.alloc (.cells #[.func (.func 49) #[] #[.pointer (some ⟨bm, 0, none⟩)]] 91)).alloc (.cells #[.string s, .int .i64 0] 127)) (.cells #[.pointer (some ⟨w.heap.size + 1, 0, none⟩)] 89)
    rw [World.size_alloc, World.size_alloc] at this
    exact this
  have hxW : Ext (fun _ => False) w W := by
    rw [← hW]
    exact (((Ext.refl _ w).alloc _).alloc _).alloc _
  have km := hxW.at' hm (fun h => h)
  have hsW : W.heap.size = w.heap.size + 1 + 1 + 1 := by rw [← hW]; simp
  have hc := catch78 W ⟨w.heap.size, 0, none⟩ ⟨w.heap.size + 1 + 1, 0, none⟩ (Prog1 (W.alloc (.cells #[.nilIface] 54)) (w.heap.size + 1) bm X (k + 1))
    (read1_any (W.alloc (.cells #[.nilIface] 54)) (w.heap.size + 1) bm w.heap.size (w.heap.size + 1 + 1) l X k (by rw [← ht]; exact alloc_old kr _) (alloc_old km _) (by omega) hp (by omega) (alloc_old k3 _) (alloc_old k5 _))
    (fun w' h => by
      obtain ⟨v, _, _, _, h4⟩ := h
      exact h4.at' (alloc_at W _) (by rw [hsW]; omega))
  have HC := Lib.hid hc
  have HX := Lib.hid hxW
  have K5 := Lib.hid k5
  have HSW := Lib.hid hsW
  rw [hs]
  have HW := Lib.hid hW
  clear hW hp hm k3 kr k5 km hxW hc hsW hs ht
  go_enter Tryz.func48, Tryz.ntmps48
  go_wp2_with fail
  rw [HW.out]
  refine HC.out.mono ?_
  rintro e w1 ⟨rfl, w2, ⟨v, h1, h2, h3, h4⟩, ho⟩
  have hst : w2.heap[W.heap.size]? = some (.cells #[.nilIface] 54 (0, 0)) := h4.at' (alloc_at W _) (by rw [HSW.out]; omega)
  have hlt := lt_of_at hst
  have q5 : w1.heap[w.heap.size + 1 + 1]? = some (.cells #[.pointer (some ⟨w.heap.size + 1, 0, none⟩)] 89 (0, 0)) := (ho.block _ (by have := HSW.out; omega) (by rw [HSW.out]; omega)).trans (h4.at' (alloc_old K5.out _) (by omega))
  have qr : RdAt w1 (w.heap.size + 1) [] (k + 1) := (ho.block _ (lt_of_at h3) (by rw [HSW.out]; omega)).trans h3
  have qm : w1.heap[bm]? = some (.cells #[v] 87 (0, 0)) := (ho.block _ (lt_of_at h1) (by rw [HSW.out]; omega)).trans h1
  have qk : KMaker w1 (w.heap.size + 1) v X := h2.onlyT ho (.inr ⟨_, _, hst, by decide, by decide, by decide⟩)
  have hx : Ext (fun j => j = bm) w w1 := by
    have e1 : Ext (fun j => j = w.heap.size + 1 ∨ j = bm) W w2 := (((Ext.refl _ W).alloc _)).trans h4 (fun _ _ h => h)
    have e2 := (HX.out.mono (T := fun j => j = bm) (fun _ _ h => h.elim)).trans e1 (fun i hi h => by rcases h with h | h; omega; exact h)
    exact e2.trans (ho.ext (S := fun j => j = W.heap.size) rfl) (fun i hi h => by have := HSW.out; omega)
  have c5 : w1.cell? ⟨w.heap.size + 1 + 1, 0, none⟩ = some (.pointer (some ⟨w.heap.size + 1, 0, none⟩)) := cell_at q5 0
  have cr : w1.cell? ⟨w.heap.size + 1, 1, none⟩ = some (.int .i64 (k + 1 : Nat)) := cell_at qr 1
  have QM := Lib.hid qm; have QK := Lib.hid qk; have HX1 := Lib.hid hx
  have hk24 : ((k + 1 : Nat) : Int) ≤ 24 := by omega
  clear h1 h2 h3 h4 ho hst hlt q5 qr qm qk hx
  go_wp2
  go_ret
  exact ⟨_, v, rfl, QM.out, QK.out, HX1.out⟩
theorem program2_any (w : World) (bm bp r : Nat) (v : Value) (X : Ln) (hf : X.KFine) (h6 : 6 < w.heap.size) (hE : Env w) (hm : w.heap[bm]? = some (.cells #[v] 87 (0, 0))) (hp : w.heap[bp]? = some (.cells #[.pointer none] 52 (0, 0))) (hk : KMaker w r v X) :
    Calls Tryz.prog 52 #[.pointer (some ⟨bm, 0, none⟩), .pointer (some ⟨bp, 0, none⟩)] w fun e w' => e = .returned (.tuple #[]) ∧ ∃ b, w'.heap[bp]? = some (.cells #[.pointer (some ⟨b, 0, none⟩)] 52 (0, 0)) ∧ KPartAt w' w'.heap.size b X ∧ Ext (fun j => j = bp) w w' := by
  obtain ⟨b, vx, _, rfl, hb, hmk⟩ := hk
  obtain ⟨g, cap, rfl, eg, hx⟩ := maker_any X hf.1 w r vx hmk h6 hE
  have HK := Lib.hid (mk_keys X w b g cap hf h6 hE hb eg hx)
  have c0 : w.cell? ⟨bm, 0, none⟩ = some (.func (.func 140) #[] #[.pointer (some ⟨b, 0, none⟩)]) := cell_at hm 0
  have HP := Lib.hid hp
  have sp := lt_of_at hp
  clear hf hE hm hp hb hmk hx eg
  go_enter Tryz.func52, Tryz.ntmps52
  go_wp2_with fail
  refine HK.out.mono ?_
  rintro e w1 ⟨b1, rfl, h1, h2⟩
  have hp1 := below_at h2 HP.out sp
  have f0 := frozen_at hp1 0
  have d0 : w1.cell? ⟨bp, 0, none⟩ = some (.pointer none) := cell_at hp1 0
  have HP1 := Lib.hid hp1; have H1 := Lib.hid h1; have H2 := Lib.hid h2
  clear hp1 h1 h2 c0
  go_wp2
  go_end0
  have ho : Only bp w1 (w1.setCell ⟨bp, 0, none⟩ (.pointer (some ⟨b1, 0, none⟩))) := (Only.refl _ _).setCell 0 _
  exact ⟨rfl, b1, setCell_at HP1.out 0 _, (H1.out.stray (Nat.le_refl _) ⟨_, _, HP1.out, .inr ⟨rfl, rfl⟩⟩ ho).mono ho.size, (Ext.of_below H2.out (Nat.le_refl _)).trans (ho.ext (S := fun j => j = bp) rfl) (fun _ _ h => h)⟩
/-- The program X lies at bl, all of it below T. -/
def LensAt (w : World) (T bl : Nat) (X : Ln) : Prop := ∃ b, bl < T ∧ w.heap[bl]? = some (.cells #[.pointer (some ⟨b, 0, none⟩)] 59 (0, 0)) ∧ KPartAt w T b X
theorem LensAt.keep {w w' : World} {T b : Nat} {X : Ln} (h : LensAt w T b X) (hs : ∀ k, k < T → w'.heap[k]? = w.heap[k]?) : LensAt w' T b X := by
  obtain ⟨b1, h1, h2, h3⟩ := h
  exact ⟨b1, h1, (hs _ h1).trans h2, h3.keep hs⟩
theorem LensAt.mono {w : World} {T T' b : Nat} {X : Ln} (h : LensAt w T b X) (hT : T ≤ T') : LensAt w T' b X := by
  obtain ⟨b1, h1, h2, h3⟩ := h
  exact ⟨b1, by omega, h2, h3.mono hT⟩
def ProgPost (w : World) (X : Ln) (e : Ending) (w' : World) : Prop := ∃ b, e = .returned (.tuple #[.pointer (some ⟨b, 0, none⟩), .nilIface]) ∧ KPartAt w' w'.heap.size b X ∧ Below w.heap.size w w'
set_option maxHeartbeats 1000000 in
set_option maxRecDepth 100000 in
theorem program_any (w : World) (t l : Txt) (X : Ln) (k : Nat) (ht : t = 60 :: l) (htl : t.length ≤ 120) (hp : RowP l X [62] k) (hk : k ≤ 20) (hf : X.KFine) (h6 : 6 < w.heap.size) (hE : Env w) :
    Calls Tryz.prog 29 #[.string ⟨t.toArray⟩] w (ProgPost w X) := by
  obtain ⟨W, hW⟩ : ∃ W, (w.alloc (.cells #[.pointer none] 52)).alloc (.cells #[.nilFunc] 87) = W := ⟨_, rfl⟩
  have hp0 : W.heap[w.heap.size]? = some (.cells #[.pointer none] 52 (0, 0)) := by rw [← hW]; exact alloc_old (alloc_at _ _) _
  have hm0 : W.heap[w.heap.size + 1]? = some (.cells #[.nilFunc] 87 (0, 0)) := by rw [← hW]; have := alloc_at (w.alloc (.cells #[.pointer none] 52)) (.cells #[.nilFunc] 87); simpa using this
  have hbW : Below w.heap.size w W := by rw [← hW]; exact ((Below.refl _ _).alloc (Nat.le_refl _) _).alloc (by simp) _
  have hsW : W.heap.size = w.heap.size + 1 + 1 := by rw [← hW]; simp
  have HR := Lib.hid (read_any W (w.heap.size + 1) t l X k ht htl hp hk hm0)
  have HP0 := Lib.hid hp0; have HBW := Lib.hid hbW; have HW := Lib.hid hW; have HSW := Lib.hid hsW; have HE := Lib.hid hE; have HF := Lib.hid hf
  obtain ⟨s, hs⟩ : ∃ s : ByteArray, (⟨t.toArray⟩ : ByteArray) = s := ⟨_, rfl⟩
  rw [hs] at HR ⊢
  clear ht hp hf hE hp0 hm0 hbW hsW hW hs htl
  go_enter Tryz.func29, Tryz.ntmps29
  go_wp2_with fail
  rw [HW.out]
  refine HR.out.mono ?_
  rintro e w1 ⟨r, v, rfl, h1, h2, h3⟩
  have hp1 : w1.heap[w.heap.size]? = some (.cells #[.pointer none] 52 (0, 0)) := h3.at' HP0.out (by omega)
  have hb1 : Below w.heap.size w w1 := HBW.out.trans (h3.below _ (by rw [HSW.out]; omega) (fun i hi h => by omega))
  have hs1 := h3.size
  have s1 := lt_of_at h1
  have H1 := Lib.hid h1; have H2 := Lib.hid h2; have HP1 := Lib.hid hp1; have HB1 := Lib.hid hb1
  clear h1 h2 h3 hp1 hb1
  go_wp2_with fail
  have hP2 := program2_any (w1.alloc (.cells #[.nilIface] 54)) (w.heap.size + 1) w.heap.size r v X HF.out (by have := HB1.out.size; simp; omega) (env_below (HB1.out.alloc HB1.out.size _) h6 HE.out) (alloc_old H1.out _) (alloc_old HP1.out _) (H2.out.keep fun k hk _ => Below.heap_alloc _ _ _ hk)
  refine (catch52 w1 ⟨w.heap.size + 1, 0, none⟩ ⟨w.heap.size, 0, none⟩ (fun w' => ∃ b, w'.heap[w.heap.size]? = some (.cells #[.pointer (some ⟨b, 0, none⟩)] 52 (0, 0)) ∧ KPartAt w' w'.heap.size b X ∧ Ext (fun j => j = w.heap.size) (w1.alloc (.cells #[.nilIface] 54)) w') hP2 (fun w' h => ?_)).mono ?_
  · obtain ⟨b, _, _, h4⟩ := h
    exact h4.at' (alloc_at w1 _) (by omega)
  rintro e w2 ⟨rfl, w3, ⟨b, k1, k2, k3⟩, ho⟩
  have hst : w3.heap[w1.heap.size]? = some (.cells #[.nilIface] 54 (0, 0)) := k3.at' (alloc_at w1 _) (by omega)
  have hp2 : w2.heap[w.heap.size]? = some (.cells #[.pointer (some ⟨b, 0, none⟩)] 52 (0, 0)) := (ho.block _ (lt_of_at k1) (by omega)).trans k1
  have hk2 : KPartAt w2 w2.heap.size b X := (k2.stray (Nat.le_refl _) ⟨_, _, hst, .inl rfl⟩ ho).mono ho.size
  have hb2 : Below w.heap.size w w2 := by
    have e1 : Ext (fun j => j = w.heap.size) w1 w3 := (((Ext.refl _ w1).alloc _)).trans k3 (fun _ _ h => h)
    have e2 : Ext (fun j => j = w.heap.size ∨ j = w1.heap.size) w1 w2 := (e1.mono (T := fun j => j = w.heap.size ∨ j = w1.heap.size) (fun _ _ h => .inl h)).trans (ho.ext (.inr rfl)) (fun _ _ h => h)
    exact HB1.out.trans (e2.below _ HB1.out.size (fun i hi h => by have := HB1.out.size; omega))
  have c0 : w2.cell? ⟨w.heap.size, 0, none⟩ = some (.pointer (some ⟨b, 0, none⟩)) := cell_at hp2 0
  have f0 : w2.frozen? ⟨w.heap.size, 0, none⟩ = false := frozen_at hp2 0
  have HP2 := Lib.hid hp2; have HK2 := Lib.hid hk2; have HB2 := Lib.hid hb2
  clear hP2 k1 k2 k3 ho hst hp2 hk2 hb2
  go_wp2
  have hsame := setCell_same HP2.out (i := 0) (u := .pointer (some ⟨b, 0, none⟩)) rfl
  have hkF := HK2.out.keep (w' := w2.setCell ⟨w.heap.size, 0, none⟩ (.pointer (some ⟨b, 0, none⟩))) fun k _ => hsame k
  have hbF : Below w.heap.size w (w2.setCell ⟨w.heap.size, 0, none⟩ (.pointer (some ⟨b, 0, none⟩))) := HB2.out.setCell (Nat.le_refl _) _
  have hpF := setCell_at HP2.out 0 (.pointer (some ⟨b, 0, none⟩))
  have hsF : w2.heap.size ≤ (w2.setCell ⟨w.heap.size, 0, none⟩ (.pointer (some ⟨b, 0, none⟩))).heap.size := by simp [World.setCell]
  have hkF2 := hkF.mono hsF
  generalize w2.setCell ⟨w.heap.size, 0, none⟩ (.pointer (some ⟨b, 0, none⟩)) = WF at hkF2 hbF hpF ⊢
  have d0 : WF.cell? ⟨w.heap.size, 0, none⟩ = some (.pointer (some ⟨b, 0, none⟩)) := cell_at hpF 0
  refine bodyPost_ret (v := .tuple #[.pointer (some ⟨b, 0, none⟩), .nilIface]) ?_ rfl ⟨b, rfl, hkF2, hbF⟩
  clear hkF2 hbF hpF hkF hsame
  simp [results, Tryz.results29, go_sem, d0]
theorem compile_any (w : World) (t l : Txt) (X : Ln) (k : Nat) (ht : t = 60 :: l) (htl : t.length ≤ 120) (hp : RowP l X [62] k) (hk : k ≤ 20) (hf : X.KFine) (h6 : 6 < w.heap.size) (hE : Env w) :
    Calls Tryz.prog 11 #[.string ⟨t.toArray⟩] w fun e w' => ∃ b, e = .returned (.tuple #[.pointer (some ⟨b, 0, none⟩), .int .i64 0]) ∧ LensAt w' w'.heap.size b X ∧ Below w.heap.size w w' := by
  have HP := Lib.hid (program_any w t l X k ht htl hp hk hf h6 hE)
  clear ht htl hp hf hE
  go_enter Tryz.func11, Tryz.ntmps11
  go_wp2_with fail
  refine HP.out.mono ?_
  rintro e w1 ⟨b, rfl, h1, h2⟩
  have H1 := Lib.hid h1; have H2 := Lib.hid h2
  clear h1 h2
  go_wp2
  go_ret2
  have hb : Below w1.heap.size w1 (w1.alloc (.cells #[.pointer (some ⟨b, 0, none⟩)] 59)) := (Below.refl _ _).alloc (Nat.le_refl _) _
  exact ⟨_, rfl, ⟨b, by simp, alloc_at _ _, (H1.out.keep fun k hk => hb.block k hk).mono hb.size⟩, H2.out.alloc H2.out.size _⟩
end Go.Proofs.YtiocjdggdmeggaaGreatDoor
