/-
  The walks of (*reader).pattern and of slashed.
-/
import Derived.Test.YtiocjdggdmeggaaGreatDoorThing
namespace Go.Proofs.YtiocjdggdmeggaaGreatDoor
open Go.RowKit Go.Shelf
/-- Things, until a '/' is next. -/
inductive ThingsP : Txt → List Nd → Txt → Prop
  | nil (l : Txt) : ThingsP (47 :: l) [] l
  | cons {c : UInt8} {l l1 l' : Txt} {d : Nd} {ds : List Nd} (hc : c ≠ 124 ∧ c ≠ 41 ∧ c ≠ 47) (h : ThingP (c :: l) d l1) (hs : ThingsP l1 ds l') : ThingsP (c :: l) (d :: ds) l'
def rowOf (ds : List Nd) : Nd := ds.foldr Nd.row Nd.empty
theorem index_stop {c : UInt8} (h : c ≠ 124 ∧ c ≠ 41 ∧ c ≠ 47) : Lib.indexByte [124, 41, 47] c = -1 := by
  have e1 : ((124 : UInt8) == c) = false := beq_eq_false_iff_ne.2 (Ne.symm h.1)
  have e2 : ((41 : UInt8) == c) = false := beq_eq_false_iff_ne.2 (Ne.symm h.2.1)
  have e3 : ((47 : UInt8) == c) = false := beq_eq_false_iff_ne.2 (Ne.symm h.2.2)
  simp [Lib.indexByte, e1, e2, e3]
theorem info64 : (Tryz.prog.info? 64).map (fun i => (i.zero, i.size, i.bytes)) = some (some .nilIface, 1, 16) := by kernel_rfl
theorem ownsRow_keep {w w' : World} {b e z n : Nat} {v : Value} {xs : List Value} (h : w.ownsRow b e z v n xs) (hs : ∀ k, b ≤ k → k < w.heap.size → w'.heap[k]? = w.heap[k]?) : w'.ownsRow b e z v n xs := by
  obtain ⟨h1, h2⟩ := h
  refine ⟨h1, ?_⟩
  rcases h2 with h2 | ⟨g', cap, cur, hv, hg, hh, r⟩
  · exact .inl h2
  · exact .inr ⟨_, _, cur, hv, hg, (hs g' hg (lt_of_at hh)).trans hh, r⟩
theorem ownsRow_form {w : World} {b e n : Nat} {v : Value} {xs : List Value} (h : w.ownsRow b e 1 v n xs) : ∃ p cap, v = .slice p n cap := by
  obtain ⟨h1, h2⟩ := h
  rcases h2 with ⟨h2, h3⟩ | ⟨g', cap, cur, hv, _⟩
  · rw [h3]; exact ⟨_, _, h2⟩
  · exact ⟨_, _, hv⟩
theorem ownsRow_some {w : World} {b e z n c : Nat} {p : Option Addr} {xs : List Value} (h : w.ownsRow b e z (.slice p n c) n xs) (hn : 0 < n) : ∃ g, p = some ⟨g, 0, none⟩ := by
  obtain ⟨h1, h2⟩ := h
  rcases h2 with ⟨h2, h3⟩ | ⟨g', cap, cur, hv, _⟩
  · omega
  · cases hv; exact ⟨_, rfl⟩
theorem rowOf_drop (ds : List Nd) (k : Nat) (h : k < ds.length) : rowOf (ds.drop k) = .row ds[k] (rowOf (ds.drop (k + 1))) := by
  rw [List.drop_eq_getElem_cons h]; rfl
set_option maxHeartbeats 1000000 in
set_option maxRecDepth 100000 in
theorem pattern_any (w : World) (r : Nat) (dp : Nat) (l l' : Txt) (ds : List Nd) (n : Nat) (h : RdAt w r l n) (hp : ThingsP l ds l') (hn : n ≤ 1000) (hds : ds.length ≤ 1000) (hdp : dp ≤ 12) :
    Calls Tryz.prog 88 #[.pointer (some ⟨r, 0, none⟩), .int .i64 (dp : Nat)] w (RdPost w r (nodeV (rowOf ds)) (47 :: l') (n + ds.length)) := by
  obtain ⟨i, hi, h0, h1, h2⟩ := info_parts info64
  have H := Lib.hid h
  have HP := Lib.hid hp
  have hr : r < w.heap.size := lt_of_at h
  have hd : (dp : Int) ≤ 12 := by omega
  clear h hp
  go_enter Tryz.func88, Tryz.ntmps88
  go_wp2_with fail
  refine (rmust_any _ w).mono ?_
  rintro e w1 ⟨rfl, rfl⟩
  go_wp2
  go_loopg [6] ds.length (fun g v wr => ∃ ds1 ds2 lc p cap, v = .slice p ds1.length cap ∧ Hid (ThingsP lc ds2 l' ∧ ds = ds1 ++ ds2) ∧ g = ds2.length ∧ Hid (wr.ownsRow w1.heap.size 64 1 (.slice p ds1.length cap) ds1.length (ds1.map nodeV) ∧ RdAt wr r lc (n + ds1.length) ∧ Only r w1 wr))
  case atStart => exact ⟨[], ds, l, none, 0, rfl, ⟨HP.out, rfl⟩, rfl, World.ownsRow_nil _ _ _ _, H.out, Only.refl _ _⟩
  case round =>
    obtain ⟨ds1, ds2, lc, p, cap, rfl, hp, hg, hI⟩ := hrel
    have HG := Lib.hid hg
    clear hg
    cases ds2 with
    | nil =>
      obtain ⟨hp1, hp2⟩ := hp.out
      have hlc : lc = 47 :: l' := by cases hp1; rfl
      subst hlc
      have hd1 : ds1 = ds := by rw [hp2]; simp
      subst hd1
      obtain ⟨hown, hrd, ho⟩ := hI.out
      have c0 : wr.cell? ⟨r, 0, none⟩ = some (.string ⟨(47 :: l').toArray⟩) := cell_at hrd 0
      have HOWN := Lib.hid hown
      have HRD := Lib.hid hrd
      have HO := Lib.hid ho
      clear hp1 hp2 hown hrd ho hI hp
      go_wp2_with fail
      refine (at_cons wr r ⟨#[124, 41, 47]⟩ 47 l' _ HRD.out).mono ?_
      rintro e w2 ⟨rfl, rfl⟩
      rw [show decide (0 ≤ Lib.indexByte (⟨#[124, 41, 47]⟩ : ByteArray).data.toList 47) = true from rfl]
      go_wp2
      have hlen : ds1.length ≤ 1000 := hds
      go_loop [5, 7] (fun s5 s7 => ∃ k : Nat, k ≤ ds1.length ∧ s7 = .int .i64 ((k : Int) - 1) ∧ s5 = nodeV (rowOf (ds1.drop k))) (fun _ s7 => (intOf s7 + 1).toNat)
      case atStart => exact ⟨ds1.length, Nat.le_refl _, by go_num, by rw [List.drop_length]; rfl⟩
      case round =>
        obtain ⟨k, hk, rfl, rfl⟩ := hrel
        obtain ⟨t, xv, ex⟩ := nodeV_iface (rowOf (ds1.drop k))
        cases k with
        | zero =>
          have hn0 : ((0 : Nat) : Int) - 1 = -1 := by omega
          rw [hn0]
          rw [ex]
          have hfin : nodeV (rowOf ds1) = .iface t xv := by rw [← ex]; rfl
          have HFIN := Lib.hid hfin
          clear ex hfin hn0
          go_wp2_with fail
          refine (take_no w2 r 124 _ _ HRD.out (notNext_cons (by decide) _)).mono ?_
          rintro e w5 ⟨rfl, hr5, ho5⟩
          have HR5 := Lib.hid hr5
          have HO5 := Lib.hid (HO.out.trans ho5)
          clear hr5 ho5
          go_wp2
          go_ret
          exact ⟨by rw [HFIN.out]; rfl, HR5.out, HO5.out⟩
        | succ k =>
          obtain ⟨g, rfl⟩ := ownsRow_some HOWN.out (by omega)
          have hcell : w2.cell? ⟨g, k, none⟩ = some (nodeV ds1[k]) := by
            have := HOWN.out.cellAt k (by omega)
            rw [this, List.getElem?_map, List.getElem?_eq_getElem (by omega)]
            rfl
          obtain ⟨t2, xv2, ex2⟩ := nodeV_iface ds1[k]
          rw [ex2] at hcell
          rw [ex]
          have HEX := Lib.hid ex
          have HEX2 := Lib.hid ex2
          have hk1 : ((k + 1 : Nat) : Int) - 1 = (k : Int) := by omega
          rw [hk1]
          have i0 : (0 : Int) ≤ (k : Int) := by omega
          have i1 : (k : Int) < (ds1.length : Int) := by omega
          have HK : Hid (k < ds1.length) := Lib.hid (by omega)
          clear ex ex2 hk1
          go_wp2
          go_round
          case rel => exact ⟨k, by omega, rfl, by rw [rowOf_drop _ _ HK.out, nodeV, HEX.out, HEX2.out]⟩
          case measure => simp [intOf]
    | cons d ds2 =>
      obtain ⟨hp1, hp2⟩ := hp.out
      obtain ⟨hown, hrd, ho⟩ := hI.out
      cases hp1 with
      | @cons c lt l1 _ _ _ hc ht hts =>
        have c0 : wr.cell? ⟨r, 0, none⟩ = some (.string ⟨(c :: lt).toArray⟩) := cell_at hrd 0
        have HAT := Lib.hid (at_cons wr r ⟨#[124, 41, 47]⟩ c lt _ hrd)
        have HIX := Lib.hid (index_stop hc)
        have hl1 : ds1.length ≤ 1000 := by rw [hp2] at hds; simp at hds; omega
        have hl2 : ds1.length + 1 ≤ 1000 := by rw [hp2] at hds; simp at hds; omega
        have HTH := Lib.hid (thing_any wr r dp (c :: lt) l1 d (n + ds1.length) hrd ht (by omega))
        have HOWN := Lib.hid hown
        have HRD := Lib.hid hrd
        have HO := Lib.hid ho
        have HTS := Lib.hid hts
        have HP2 := Lib.hid hp2
        clear hp2 hown hrd ho hc ht hts hI hp
        go_wp2_with fail
        refine HAT.out.mono ?_
        rintro e w2 ⟨rfl, rfl⟩
        have e1 : decide (0 ≤ Lib.indexByte (⟨#[124, 41, 47]⟩ : ByteArray).data.toList c) = false := by
          have := HIX.out
          show decide (0 ≤ Lib.indexByte [124, 41, 47] c) = false
          rw [this]; rfl
        rw [e1]
        clear e1
        go_wp2_with fail
        refine HTH.out.mono ?_
        rintro e w3 ⟨rfl, hr3, ho3⟩
        have hown3 := ownsRow_keep HOWN.out (w' := w3) (fun k hk1 hk2 => ho3.block k hk2 (by omega))
        have HR3 := Lib.hid hr3
        have HO3 := Lib.hid (HO.out.trans ho3)
        have HOWN3 := Lib.hid hown3
        obtain ⟨t, xv, ex⟩ := nodeV_iface d
        have HEX := Lib.hid ex
        rw [ex]
        clear hr3 ho3 hown3 ex
        go_wp2_with (at_builtin; refine wpList_append_own _ rfl _ _ 181 rfl w1.heap.size 64 i .nilIface 1 16 Tryz.underlying181 hi h0 h1 h2 rfl (by decide) _ _ _ rfl (HOWN3.out.alloc _) ⟨w3.heap.size, 0, none⟩ 1 1 [.iface t xv] rfl rfl ?c1 ?c2 ?c3 ?c4 ?c5 ?_)
        case c1 =>
          intro j u hj
          match j, hj with
          | 0, hj => simp at hj; subst hj; simp [Addr.add]
        case c2 => intro u hu; simp at hu; subst hu; rfl
        case c3 => unfold maxLen; omega
        case c4 => omega
        case c5 => have := HO3.out.size; simp; omega
        intro v' w4 hown4 hg4 _
        have hob : ∀ k, (Value.slice p ds1.length cap).ownBlock = some k → w1.heap.size ≤ k := fun k hk => (HOWN3.out.lt k hk).1
        have hO4 : Only r w1 w4 := by
          refine ⟨hg4.os.trans HO3.out.os, hg4.tape.trans HO3.out.tape, hg4.output.trans HO3.out.output, ?_, fun k hk hne => ?_⟩
          · have := hg4.size; have := HO3.out.size; simp at *; omega
          · have hs3 := HO3.out.size
            refine (hg4.block k (by simp; omega) (fun e => ?_)).trans ((Below.heap_alloc _ _ _ (by omega)).trans (HO3.out.block k hk hne))
            have := hob k e.symm
            omega
        have hR4 : RdAt w4 r l1 (n + ds1.length + 1) := by
          have hs3 := lt_of_at HR3.out
          refine (hg4.block r (by simp; omega) (fun e => ?_)).trans ((Below.heap_alloc _ _ _ hs3).trans HR3.out)
          have := hob r e.symm
          omega
        obtain ⟨p', cap', rfl⟩ := ownsRow_form hown4
        have HO4 := Lib.hid hO4
        have HR4 := Lib.hid hR4
        have HOWN4 := Lib.hid hown4
        clear hO4 hR4 hown4 hg4 hob
        go_wp2
        go_roundg ds2.length
        case measure => rw [HG.out]; simp
        case rel =>
          refine ⟨ds1 ++ [d], ds2, l1, p', cap', by simp, ⟨HTS.out, by rw [HP2.out]; simp⟩, rfl, ?_, ?_, HO4.out⟩
          · have := HOWN4.out
            rw [List.map_append, List.length_append]
            simpa [HEX.out] using this
          · have := HR4.out
            rw [List.length_append]
            exact this
theorem slashed_any (w : World) (r : Nat) (dp : Nat) (l l' : Txt) (ds : List Nd) (n : Nat) (h : RdAt w r l n) (hp : ThingsP l ds l') (hn : n ≤ 1000) (hds : ds.length ≤ 1000) (hdp : dp ≤ 12) :
    Calls Tryz.prog 131 #[.pointer (some ⟨r, 0, none⟩), .int .i64 (dp : Nat)] w (RdPost w r (nodeV (rowOf ds)) l' (n + ds.length)) := by
  have HP := Lib.hid (pattern_any w r dp l l' ds n h hp hn hds hdp)
  obtain ⟨t, xv, ex⟩ := nodeV_iface (rowOf ds)
  rw [ex] at HP ⊢
  clear h hp
  go_enter Tryz.func131, Tryz.ntmps131
  go_wp2_with fail
  refine HP.out.mono ?_
  rintro e w1 ⟨rfl, hr1, ho1⟩
  have HR1 := Lib.hid hr1
  have HO1 := Lib.hid ho1
  clear hr1 ho1
  go_wp2_with fail
  refine (take_yes w1 r 47 _ _ HR1.out).mono ?_
  rintro e w2 ⟨rfl, hr2, ho2⟩
  have HR2 := Lib.hid hr2
  have HO2 := Lib.hid (HO1.out.trans ho2)
  clear hr2 ho2
  go_wp2_with fail
  refine (rmust_any _ w2).mono ?_
  rintro e w3 ⟨rfl, rfl⟩
  go_wp2
  go_ret
  exact ⟨rfl, HR2.out, HO2.out⟩
end Go.Proofs.YtiocjdggdmeggaaGreatDoor
