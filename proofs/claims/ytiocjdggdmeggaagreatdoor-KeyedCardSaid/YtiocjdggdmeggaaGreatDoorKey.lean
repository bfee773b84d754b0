/-
  The walk of part.pieces.
  The walks of part.key and (*pool).take.
-/
import Derived.Test.YtiocjdggdmeggaaGreatDoorFns
namespace Go.Proofs.YtiocjdggdmeggaaGreatDoor
open Go.RowKit Go.Shelf
theorem info9 : (Tryz.prog.info? 9).map (fun i => (i.zero, i.size, i.bytes)) = some (some (.string ⟨#[]⟩), 1, 16) := by kernel_rfl
abbrev strV (t : Txt) : Value := .string ⟨t.toArray⟩
theorem piecesP_cons {A M : PA} {f : Nat} {t : Txt} {ps : List Txt} (h : piecesP A M f t = some ps) (ht : t ≠ []) : ∃ f' i ps', f = f' + 1 ∧ pieceIdx A M t = some i ∧ piecesP A M f' (t.drop i) = some ps' ∧ ps = t.take i :: ps' := by
  cases f with
  | zero =>
    unfold piecesP at h
    rw [if_neg ht] at h
    cases h
  | succ f =>
    unfold piecesP at h
    rw [if_neg ht] at h
    cases hi : pieceIdx A M t with
    | none => rw [hi] at h; cases h
    | some i =>
      rw [hi] at h
      cases hr : piecesP A M f (t.drop i) with
      | none => simp only [hr] at h; cases h
      | some ps' =>
        simp only [hr, Option.map_some, Option.some.injEq] at h
        exact ⟨f, i, ps', rfl, rfl, hr, h.symm⟩
theorem piecesP_nil {A M : PA} {f : Nat} {ps : List Txt} (h : piecesP A M f [] = some ps) : ps = [] := by
  cases f <;> simp [piecesP] at h <;> exact h
theorem pieceIdx_some {A M : PA} {t : Txt} {k : Nat} (hk : k < t.length + 1) (h : (A.endsAt t k && decide (0 < k) && M.is (t.drop k)) = true) (hn : ∀ j, j < k → (A.endsAt t j && decide (0 < j) && M.is (t.drop j)) = false) : pieceIdx A M t = some k := find_first hk h hn
theorem pieceIdx_none {A M : PA} {t : Txt} (hn : ∀ j, j < t.length + 1 → (A.endsAt t j && decide (0 < j) && M.is (t.drop j)) = false) : pieceIdx A M t = none := by
  unfold pieceIdx
  rw [List.find?_eq_none]
  intro j hj
  rw [hn j (by simpa using hj)]
  simp
def PiecesPost (w : World) (ps : List Txt) (e : Ending) (w' : World) : Prop := ∃ p cap, e = .returned (.slice p ps.length cap) ∧ w'.ownsRow w.heap.size 9 1 (.slice p ps.length cap) ps.length (ps.map strV) ∧ Below w.heap.size w w'
set_option maxHeartbeats 1000000 in
set_option maxRecDepth 100000 in
theorem pieces_any (A M : PA) (hA : A.Ok) (hM : M.Ok) (t : Txt) (ps : List Txt) (T pa pm f : Nat) (w : World) (ht : Asc t) (hAt : AutoAt w T pa A) (hMt : AutoAt w T pm M) (hT : T ≤ w.heap.size) (hT6 : 6 < T) (hE : Env w) (hps : piecesP A M f t = some ps) :
    Calls Tryz.prog 169 #[.string ⟨t.toArray⟩, .pointer (some ⟨pa, 0, none⟩), .pointer (some ⟨pm, 0, none⟩)] w (PiecesPost w ps) := by
  obtain ⟨i9, hi, z0, z1, z2⟩ := info_parts info9
  have HENDS := Lib.hid (fun (W : World) (r : Txt) (hr : Asc r) (hb : Below w.heap.size w W) => ends_any A hA ⟨r.toArray⟩ T pa W (by rw [size_of_txt]; exact hr.1) (by rw [list_of]; exact hr.2) (hAt.same fun j hj => hb.block j (by omega)) (Nat.le_trans hT hb.size) hT6 (env_below hb (by omega) hE))
  have HIS := Lib.hid (fun (W : World) (r : Txt) (hr : Asc r) (hb : Below w.heap.size w W) => is_any M hM ⟨r.toArray⟩ T pm W (by rw [size_of_txt]; exact hr.1) (by rw [list_of]; exact hr.2) (hMt.same fun j hj => hb.block j (by omega)) (Nat.le_trans hT hb.size) hT6 (env_below hb (by omega) hE))
  have HPS := Lib.hid hps
  have HT := Lib.hid ht
  have hw6 : 6 < w.heap.size := by omega
  clear hAt hMt hE ht hps hT
  go_enter Tryz.func169, Tryz.ntmps169
  go_wp2
  go_loopg [0, 7] t.length (fun g v0 v7 wr => ∃ (r : Txt) (done : List Txt) (p : Option Addr) (cap : Nat), v0 = .string ⟨r.toArray⟩ ∧ v7 = .slice p done.length cap ∧ g = r.length ∧
    Hid ((∃ f rest, piecesP A M f r = some rest ∧ ps = done ++ rest) ∧ (Asc r ∧ done.length + r.length ≤ 1000) ∧ wr.ownsRow w.heap.size 9 1 (.slice p done.length cap) done.length (done.map strV) ∧ Below w.heap.size w wr))
  case atStart => exact ⟨t, [], none, 0, rfl, rfl, rfl, ⟨⟨f, ps, HPS.out, rfl⟩, ⟨HT.out, by have := HT.out.1; simp; omega⟩, World.ownsRow_nil _ _ _ _, Below.refl _ _⟩⟩
  case round =>
    obtain ⟨r, done, p, cap, rfl, rfl, hg, hI⟩ := hrel
    have HG := Lib.hid hg
    clear hg
    cases r with
    | nil =>
      obtain ⟨⟨f', rest, h1, h2⟩, _, hown, hb⟩ := hI.out
      have := piecesP_nil h1
      subst this
      have hd : done = ps := by rw [h2]; simp
      subst hd
      have HOWN := Lib.hid hown
      have HB := Lib.hid hb
      clear h1 h2 hown hb hI
      go_wp2
      go_ret
      exact ⟨p, cap, rfl, HOWN.out, HB.out⟩
    | cons c r =>
      obtain ⟨⟨f', rest, h1, h2⟩, hasc0, hown, hb⟩ := hI.out
      obtain ⟨f2, i, ps', _, hidx, hrest, hrs⟩ := piecesP_cons h1 (by simp)
      obtain ⟨x, hx⟩ : ∃ x, c :: r = x := ⟨_, rfl⟩
      have hne : x.isEmpty = false := by rw [← hx]; rfl
      rw [hx] at hasc0 hidx hrest hrs HG ⊢
      have hlen := hasc0.2
      have hasc := hasc0.1
      generalize wr = wo at *
      have HASC := Lib.hid hasc; have HIDX := Lib.hid hidx; have HREST := Lib.hid hrest; have HPSE := Lib.hid (h2.trans (by rw [hrs] : done ++ rest = done ++ (x.take i :: ps'))); have HOWN := Lib.hid hown; have HB := Lib.hid hb
      clear h1 hasc0 hasc hidx hrest hrs hown hb hI h2 hx
      go_wp2_with fail
      refine (HENDS.out wo x HASC.out HB.out).mono ?_
      rintro e w1 ⟨g, rfl, ⟨hg, hrow⟩, hb1⟩
      obtain ⟨s, hs⟩ : ∃ s : ByteArray, (⟨x.toArray⟩ : ByteArray) = s := ⟨_, rfl⟩
      have hsz : s.size = x.length := by rw [← hs]; rfl
      have hsl : s.data.toList = x := by rw [← hs]
      have HX := Lib.hid (show ∀ k, s.extract k s.size = ⟨(x.drop k).toArray⟩ from fun k => by rw [hsz, ← hs]; exact ext_drop x k)
      have HY := Lib.hid (show ∀ k, s.extract 0 k = ⟨(x.take k).toArray⟩ from fun k => by rw [← hs]; exact ext_take x k)
      have HS := Lib.hid hs
      have hrow2 : w1.ownsRow wo.heap.size 4 1 (.slice (some ⟨g, 0, none⟩) (s.size + 1) (s.size + 1)) (s.size + 1) (endCells A x (s.size + 1) (s.size + 1)) := by rw [← hs]; exact hrow
      rw [hs]
      have HSZ := Lib.hid hsz
      have HROW := Lib.hid hrow2
      have HB1 := Lib.hid hb1
      have hg1 : g < w1.heap.size := (hrow2.lt g rfl).2
      have hx1000 : s.size ≤ 1000 := by rw [hsz]; exact HASC.out.1
      clear hs hsz hsl hrow hrow2 hb1
      go_wp2
      go_loopw [0, 7, 16] (fun v0 v7 i wr => ∃ k : Nat, k ≤ s.size + 1 ∧ v0 = .string s ∧ v7 = .slice p done.length cap ∧ i = .int .i64 k ∧ Hid (Below w1.heap.size w1 wr ∧ ∀ j, j < k → (A.endsAt x j && decide (0 < j) && M.is (x.drop j)) = false)) (fun _ _ i _ => s.size + 1 - (intOf i).toNat)
      case atStart => exact ⟨0, by omega, rfl, rfl, rfl, Lib.hid ⟨Below.refl _ _, fun j hj => absurd hj (Nat.not_lt_zero j)⟩⟩
      case round =>
        obtain ⟨k, hk, rfl, rfl, rfl, hS⟩ := hrel
        by_cases hlt : k < s.size + 1
        · have hrow := ownsRow_same HROW.out (hS.out.1.block g hg1)
          have hck := hrow.cellAt k (by omega)
          rw [endCells_at _ _ _ _ hlt] at hck
          have hsW := hS.out.1.size
          have hs1 := HB1.out.size
          have hs0 := HB.out.size
          have hwr : Below w.heap.size w wr := HB.out.trans ((HB1.out.mono hs0).trans (hS.out.1.mono (by omega)))
          have hown := HOWN.out
          have hownr : wr.ownsRow w.heap.size 9 1 (.slice p done.length cap) done.length (done.map strV) := ownsRow_keep HOWN.out (fun j h1 h2 => (hS.out.1.block j (by omega)).trans (HB1.out.block j h2))
          have HWR := Lib.hid hwr
          have HOWNR := Lib.hid hownr
          obtain ⟨b, hb⟩ : ∃ b, A.endsAt x k = b := ⟨_, rfl⟩
          rw [hb] at hck
          have HBE := Lib.hid hb
          have i0 : (0 : Int) ≤ (k : Int) := by omega
          have i1 : (k : Int) < (s.size : Int) + 1 := by omega
          have i2 : (k : Int) ≤ (s.size : Int) := by omega
          clear hrow hb hwr hown hownr hsW hs1 hs0
          cases b
          · go_wp2
            refine ⟨⟨k + 1, by omega, rfl, rfl, rfl, Lib.hid ⟨hS.out.1, fun j hj => ?_⟩⟩, by simp [intOf]; omega⟩
            rcases Nat.lt_succ_iff_lt_or_eq.1 hj with h | h
            · exact hS.out.2 j h
            · subst h; rw [HBE.out]; rfl
          · by_cases hk0 : 0 < k
            · have i3 : (0 : Int) < (k : Int) := by omega
              go_wp2_with fail
              rw [HX.out]
              refine (HIS.out wr _ (HASC.out.drop k) HWR.out).mono ?_
              rintro e w2 ⟨rfl, hb2⟩
              obtain ⟨b, hb⟩ : ∃ b, M.is (x.drop k) = b := ⟨_, rfl⟩
              rw [hb]
              have HBI := Lib.hid hb
              have HB2 := Lib.hid hb2
              have HOWN2 := Lib.hid (ownsRow_keep HOWNR.out (fun j _ h2 => hb2.block j h2))
              clear hb hb2 hck i0 hk0
              cases b
              · go_wp2
                refine ⟨⟨k + 1, by omega, rfl, rfl, rfl, Lib.hid ⟨hS.out.1.trans (HB2.out.mono hS.out.1.size), fun j hj => ?_⟩⟩, by simp [intOf]; omega⟩
                rcases Nat.lt_succ_iff_lt_or_eq.1 hj with h | h
                · exact hS.out.2 j h
                · subst h; rw [HBI.out, HBE.out]; simp
              · have hidx2 := pieceIdx_some (A := A) (M := M) (t := x) (k := k) (by rw [← HSZ.out]; exact hlt) (by rw [HBE.out, HBI.out]; simp; omega) hS.out.2
                have hik : i = k := by rw [HIDX.out] at hidx2; exact Option.some.inj hidx2
                have HIK := Lib.hid hik
                clear hidx2 hik
                go_wp2_with (at_builtin; refine wpList_append_own _ rfl _ _ 36 rfl w.heap.size 9 i9 (.string ⟨#[]⟩) 1 16 Tryz.underlying36 hi z0 z1 z2 rfl (by decide) _ _ _ rfl (HOWN2.out.alloc _) ⟨w2.heap.size, 0, none⟩ 1 1 [strV (x.take k)] rfl rfl ?c1 ?c2 ?c3 ?c4 ?c5 ?_)
                case c1 =>
                  intro j u hj
                  match j, hj with
                  | 0, hj => simp at hj; subst hj; rw [HY.out]; simp [Addr.add]
                case c2 => intro u hu; simp at hu; subst hu; rfl
                case c3 => unfold maxLen; omega
                case c4 => omega
                case c5 => have := (HWR.out.trans (HB2.out.mono HWR.out.size)).size; simp; omega
                intro v' w4 hown4 hg4 _
                have hob : ∀ k, (Value.slice p done.length cap).ownBlock = some k → w.heap.size ≤ k := fun k hk => (HOWN2.out.lt k hk).1
                have hW2 : Below w.heap.size w w2 := HWR.out.trans (HB2.out.mono HWR.out.size)
                have hW4 : Below w.heap.size w w4 := (hW2.alloc hW2.size _).grown hg4 (by have := hW2.size; simp; omega) hob
                obtain ⟨p', cap', rfl⟩ := ownsRow_form hown4
                have HW4 := Lib.hid hW4
                have HOWN4 := Lib.hid hown4
                clear hW4 hown4 hg4 hob hW2
                go_wp2
                go_roundg (x.drop k).length
                case measure => rw [HG.out]; have := HSZ.out; simp; omega
                case rel =>
                  refine ⟨x.drop k, done ++ [x.take k], p', cap', by rw [HX.out], by simp, rfl, ⟨f2, ps', by rw [← HIK.out]; exact HREST.out, by rw [HPSE.out, HIK.out]; simp⟩, ⟨HASC.out.drop k, by have := HSZ.out; simp; omega⟩, ?_, HW4.out⟩
                  have := HOWN4.out
                  rw [List.map_append, List.length_append]
                  exact this
            · have hk00 : k = 0 := by omega
              subst hk00
              clear i0 i1 i2 hk0
              go_wp2
              refine ⟨⟨1, by omega, rfl, rfl, rfl, Lib.hid ⟨hS.out.1, fun j hj => ?_⟩⟩, by simp [intOf]⟩
              have : j = 0 := by omega
              subst this
              simp
        · have hke : k = s.size + 1 := by omega
          subst hke
          exfalso
          have := pieceIdx_none (A := A) (M := M) (t := x) (by rw [← HSZ.out]; exact hS.out.2)
          rw [HIDX.out] at this
          cases this
end Go.Proofs.YtiocjdggdmeggaaGreatDoor
namespace Go.Proofs.YtiocjdggdmeggaaGreatDoor
open Go.RowKit Go.Shelf
theorem low_contains (b : UInt8) : ([97, 98, 99, 100, 101, 102, 103, 104, 105, 106, 107, 108, 109, 110, 111, 112, 113, 114, 115, 116, 117, 118, 119, 120, 121, 122] : List UInt8).contains b = lowB b := by
  have h : ∀ k, k < 256 → ([97, 98, 99, 100, 101, 102, 103, 104, 105, 106, 107, 108, 109, 110, 111, 112, 113, 114, 115, 116, 117, 118, 119, 120, 121, 122] : List UInt8).contains (UInt8.ofNat k) = lowB (UInt8.ofNat k) := by decide +kernel
  have := h b.toNat b.toNat_lt
  rwa [UInt8.ofNat_toNat] at this
theorem key_any (t : Txt) (w : World) (ht : t.length ≤ 100000) : Calls Tryz.prog 173 #[.string ⟨t.toArray⟩] w (TxtPost w (keyP t)) := by
  have htr : Calls Tryz.prog 186 #[.string ⟨t.toArray⟩, .string ⟨#[97, 98, 99, 100, 101, 102, 103, 104, 105, 106, 107, 108, 109, 110, 111, 112, 113, 114, 115, 116, 117, 118, 119, 120, 121, 122]⟩] w fun e w' => e = .returned (.string ⟨(t.dropWhile lowB).toArray⟩) ∧ Below w.heap.size w w' := by
    have := Tryz.trimLeft ⟨t.toArray⟩ ⟨#[97, 98, 99, 100, 101, 102, 103, 104, 105, 106, 107, 108, 109, 110, 111, 112, 113, 114, 115, 116, 117, 118, 119, 120, 121, 122]⟩ w (by decide) (by
      intro j b hj
      have h : ∀ b ∈ ([97, 98, 99, 100, 101, 102, 103, 104, 105, 106, 107, 108, 109, 110, 111, 112, 113, 114, 115, 116, 117, 118, 119, 120, 121, 122] : List UInt8), b.toNat < 128 := by decide
      exact h b (List.mem_of_getElem? hj))
    have e : Lib.trimLeftS (⟨t.toArray⟩ : ByteArray).data.toList (⟨#[97, 98, 99, 100, 101, 102, 103, 104, 105, 106, 107, 108, 109, 110, 111, 112, 113, 114, 115, 116, 117, 118, 119, 120, 121, 122]⟩ : ByteArray).data.toList = t.dropWhile lowB := by
      show t.dropWhile _ = _
      congr 1
      funext b
      exact low_contains b
    rw [e] at this
    exact this
  obtain ⟨s, hs⟩ : ∃ s : ByteArray, (⟨t.toArray⟩ : ByteArray) = s := ⟨_, rfl⟩
  obtain ⟨d, hd⟩ : ∃ d : ByteArray, (⟨(t.dropWhile lowB).toArray⟩ : ByteArray) = d := ⟨_, rfl⟩
  have hsz : s.size = t.length := by rw [← hs]; rfl
  have hdz : d.size = (t.dropWhile lowB).length := by rw [← hd]; rfl
  have hsum : (keyP t).length + d.size = s.size := by
    rw [hdz, hsz, ← List.length_append]
    unfold keyP
    rw [List.takeWhile_append_dropWhile]
  have hpre : s.extract 0 (keyP t).length = ⟨(keyP t).toArray⟩ := by
    rw [← hs, ext_take]
    congr 2
    have h := (List.takeWhile_append_dropWhile (p := lowB) (l := t))
    conv => lhs; arg 2; rw [← h]
    show List.take (t.takeWhile lowB).length _ = _
    rw [List.take_left']
    rfl
    rfl
  obtain ⟨k, hk⟩ : ∃ k, (keyP t).length = k := ⟨_, rfl⟩
  rw [hk] at hsum hpre
  rw [hs, hd] at htr
  rw [hs]
  have HTR := Lib.hid htr
  have HPRE := Lib.hid hpre
  have i2 : (s.size : Int) - (d.size : Int) = (k : Int) := by omega
  have i0 : (0 : Int) ≤ (k : Int) := by omega
  have i1 : (k : Int) ≤ (s.size : Int) := by omega
  have i3 : s.size ≤ 100000 := by omega
  have i4 : d.size ≤ s.size := by omega
  clear htr hs hd hsz hdz hsum hpre hk ht
  go_enter Tryz.func173, Tryz.ntmps173
  go_wp2_with fail
  refine HTR.out.mono ?_
  rintro e w1 ⟨rfl, hb⟩
  have HB := Lib.hid hb
  clear hb
  go_wp2
  rw [HPRE.out]
  go_ret
  exact ⟨rfl, HB.out⟩
theorem bytes_inj {a b : Txt} : (⟨a.toArray⟩ : ByteArray) = ⟨b.toArray⟩ ↔ a = b := by
  constructor
  · intro h
    have := congrArg (fun x : ByteArray => x.data.toList) h
    exact this
  · rintro rfl; rfl
theorem ne_bytes {a b : ByteArray} (h : a ≠ b) : ¬ a.toList = b.toList := fun e => h (by
  rw [ByteArray.toList_eq, ByteArray.toList_eq] at e
  cases a; cases b
  simp at e
  simp [e])
/-- The pieces of a source, their keys, and which of them are used. -/
def PoolAt (w : World) (B bp : Nat) (ps keys : List Txt) (used : List Bool) : Prop :=
  ∃ p1 c1 g2 c2 g3 c3, w.heap[bp]? = some (.cells #[.slice p1 ps.length c1, .slice (some ⟨g2, 0, none⟩) keys.length c2, .slice (some ⟨g3, 0, none⟩) used.length c3] 224 (0, 0)) ∧
    w.ownsRow B 9 1 (.slice p1 ps.length c1) ps.length (ps.map strV) ∧ w.ownsRow B 9 1 (.slice (some ⟨g2, 0, none⟩) keys.length c2) keys.length (keys.map strV) ∧ w.ownsRow B 4 1 (.slice (some ⟨g3, 0, none⟩) used.length c3) used.length (used.map .bool)
/-- Nothing but bools is turned. -/
def KeepB (B : Nat) (w w' : World) : Prop := Below B w w' ∧ ∀ (k : Nat) (us : Array Value) (t : TypeId), w.heap[k]? = some (.cells us t (0, 0)) → t ≠ 4 → w'.heap[k]? = w.heap[k]?
def TakePost (w : World) (B bp : Nat) (ps keys : List Txt) (used : List Bool) (v : Txt) (e : Ending) (w' : World) : Prop :=
  match takeIdx keys used (keyP v) with
  | some j => e = .returned (.tuple #[strV (ps.getD j []), .bool true]) ∧ PoolAt w' B bp ps keys (used.set j true) ∧ KeepB B w w'
  | none => e = .returned (.tuple #[.string ⟨#[]⟩, .bool false]) ∧ PoolAt w' B bp ps keys used ∧ KeepB B w w'
theorem ownsRow_heap {w : World} {B e n : Nat} {g c : Nat} {xs : List Value} (h : w.ownsRow B e 1 (.slice (some ⟨g, 0, none⟩) n c) n xs) : ∃ us, w.heap[g]? = some (.cells us e (0, 0)) := by
  rcases h.2 with ⟨h, _⟩ | ⟨g', cap, cur, hv, _, hh, _⟩
  · cases h
  · cases hv; exact ⟨_, hh⟩
theorem PoolAt.keep {w w' : World} {B bp : Nat} {ps keys : List Txt} {used : List Bool} (h : PoolAt w B bp ps keys used) (hs : ∀ k, B ≤ k → k < w.heap.size → w'.heap[k]? = w.heap[k]?) (hb : B ≤ bp) : PoolAt w' B bp ps keys used := by
  obtain ⟨p1, c1, g2, c2, g3, c3, h1, h2, h3, h4⟩ := h
  exact ⟨p1, c1, g2, c2, g3, c3, (hs bp hb (lt_of_at h1)).trans h1, ownsRow_keep h2 hs, ownsRow_keep h3 hs, ownsRow_keep h4 hs⟩
theorem eql36 (a : Addr) (n c : Nat) (w : World) : (binOp .eql 36 (.slice (some a) n c) (.slice none 0 0)).run Tryz.prog w = .ok (.bool false) w := by kernel_rfl
set_option maxHeartbeats 1000000 in
set_option maxRecDepth 100000 in
theorem take_any (w : World) (B bp : Nat) (ps keys : List Txt) (used : List Bool) (i : Nat) (v : Txt) (h : PoolAt w B bp ps keys used) (hB : B ≤ bp) (hl1 : keys.length = ps.length) (hl2 : used.length = ps.length) (hl : ps.length ≤ 1000) (hv : v.length ≤ 1000) (hi : i ≤ 100000) :
    Calls Tryz.prog 174 #[.pointer (some ⟨bp, 0, none⟩), .int .i64 (i : Nat), .string ⟨v.toArray⟩] w (TakePost w B bp ps keys used v) := by
  obtain ⟨p1, c1, g2, c2, g3, c3, h1, h2, h3, h4⟩ := h
  have c0 : w.cell? ⟨bp, 0, none⟩ = some (.slice p1 ps.length c1) := cell_at h1 0
  have c1' : w.cell? ⟨bp, 1, none⟩ = some (.slice (some ⟨g2, 0, none⟩) keys.length c2) := cell_at h1 1
  have c2' : w.cell? ⟨bp, 2, none⟩ = some (.slice (some ⟨g3, 0, none⟩) used.length c3) := cell_at h1 2
  have HKEY := Lib.hid (fun W => key_any v W (by omega))
  have H1 := Lib.hid h1; have H2 := Lib.hid h2; have H3 := Lib.hid h3; have H4 := Lib.hid h4
  have HL1 := Lib.hid hl1; have HL2 := Lib.hid hl2
  have hk1000 : keys.length ≤ 1000 := by omega
  clear h1 h2 h3 h4 hl1 hl2
  have heql := eql36 ⟨g2, 0, none⟩ keys.length c2
  go_enter Tryz.func174, Tryz.ntmps174
  go_wp2_with fail
  refine (HKEY.out w).mono ?_
  rintro e w1 ⟨rfl, hb⟩
  have sb := lt_of_at H1.out
  have h1 := below_at hb H1.out sb
  have h2 := ownsRow_keep H2.out (w' := w1) (fun k _ hk => hb.block k hk)
  have h3 := ownsRow_keep H3.out (w' := w1) (fun k _ hk => hb.block k hk)
  have h4 := ownsRow_keep H4.out (w' := w1) (fun k _ hk => hb.block k hk)
  have hB0 : Below B w w1 := hb.mono (by omega)
  have d0 : w1.cell? ⟨bp, 0, none⟩ = some (.slice p1 ps.length c1) := cell_at h1 0
  have d1 : w1.cell? ⟨bp, 1, none⟩ = some (.slice (some ⟨g2, 0, none⟩) keys.length c2) := cell_at h1 1
  have d2 : w1.cell? ⟨bp, 2, none⟩ = some (.slice (some ⟨g3, 0, none⟩) used.length c3) := cell_at h1 2
  obtain ⟨us3, hg3⟩ := ownsRow_heap h4
  obtain ⟨us2, hg2⟩ := ownsRow_heap h3
  have n1 : ¬ bp = g3 := fun e => by subst e; rw [h1] at hg3; cases hg3
  have n2 : ¬ g3 = bp := fun e => n1 e.symm
  have n3 : ¬ g2 = g3 := fun e => by subst e; rw [hg2] at hg3; cases hg3
  have hKB : KeepB B w w1 := ⟨hB0, fun k us t hk _ => hb.block k (lt_of_at hk)⟩
  have G1 := Lib.hid h1; have G2 := Lib.hid h2; have G3 := Lib.hid h3; have G4 := Lib.hid h4; have HG3 := Lib.hid hg3
  have HKB := Lib.hid hKB; have HBB := Lib.hid hb
  have HB3 : Hid (B ≤ g3) := Lib.hid (h4.lt _ rfl).1
  clear hb h1 h2 h3 h4 hg2 hB0 c0 c1' c2' sb hKB hg3
  obtain ⟨b, hb⟩ : ∃ b : ByteArray, (⟨(keyP v).toArray⟩ : ByteArray) = b := ⟨_, rfl⟩
  obtain ⟨vb, hvb⟩ : ∃ b : ByteArray, (⟨v.toArray⟩ : ByteArray) = b := ⟨_, rfl⟩
  rw [hb, hvb]
  have HBK := Lib.hid hb
  clear hb hvb
  go_wp2
  go_loop [37] (fun s37 => ∃ k : Nat, k ≤ keys.length ∧ s37 = .int .i64 k ∧ Hid (∀ j, j < k → (keys.getD j [] == keyP v && !used.getD j true) = false)) (fun s37 => keys.length - (intOf s37).toNat)
  case atStart => exact ⟨0, by omega, rfl, Lib.hid fun j hj => absurd hj (Nat.not_lt_zero j)⟩
  case round =>
    obtain ⟨k, hk, rfl, hS⟩ := hrel
    by_cases hlt : k < keys.length
    · have hku : k < used.length := by rw [HL2.out, ← HL1.out]; exact hlt
      have hck := G3.out.cellAt k (by omega)
      rw [List.getElem?_map, List.getElem?_eq_getElem hlt] at hck
      have hcu := G4.out.cellAt k (by omega)
      rw [List.getElem?_map, List.getElem?_eq_getElem hku] at hcu
      have hfu := G4.out.frozenAt k
      obtain ⟨a, ha⟩ : ∃ a : ByteArray, (⟨(keys[k]).toArray⟩ : ByteArray) = a := ⟨_, rfl⟩
      obtain ⟨u, hu⟩ : ∃ u, used[k] = u := ⟨_, rfl⟩
      simp only [Option.map_some, strV, ha, hu] at hck hcu
      have hgk : keys.getD k [] = keys[k] := by rw [List.getD_eq_getElem?_getD, List.getElem?_eq_getElem hlt]; rfl
      have hgu : used.getD k true = u := by rw [List.getD_eq_getElem?_getD, List.getElem?_eq_getElem hku]; exact hu
      have i0 : (0 : Int) ≤ (k : Int) := by omega
      have i1 : (k : Int) < (keys.length : Int) := by omega
      have i2 : (k : Int) < (used.length : Int) := by omega
      have HU := Lib.hid hu
      by_cases hab : a = b
      · have hkk : keys[k] = keyP v := bytes_inj.1 (ha.trans (hab.trans HBK.out.symm))
        subst hab
        have HKK := Lib.hid hkk
        have HGK := Lib.hid hgk; have HGU := Lib.hid hgu
        clear hkk hgk hgu ha hu
        cases u
        · have hpk : k < ps.length := by rw [← HL1.out]; exact hlt
          obtain ⟨g1, rfl⟩ := ownsRow_some G2.out (by omega)
          obtain ⟨us1, hg1⟩ := ownsRow_heap G2.out
          have n5 : ¬ g1 = g3 := fun e => by subst e; have := HG3.out; rw [hg1] at this; cases this
          have hcp := G2.out.cellAt k (by omega)
          rw [List.getElem?_map, List.getElem?_eq_getElem hpk] at hcp
          obtain ⟨pb, hpb⟩ : ∃ a : ByteArray, (⟨(ps[k]).toArray⟩ : ByteArray) = a := ⟨_, rfl⟩
          simp only [Option.map_some, strV, hpb] at hcp
          have HPB := Lib.hid hpb
          have i3 : (k : Int) < (ps.length : Int) := by omega
          have N5 := Lib.hid n5
          clear hg1 hpb
          go_wp2
          go_ret2
          have hidx : takeIdx keys used (keyP v) = some k := find_first hlt (by rw [HGK.out, HKK.out, HGU.out]; simp) hS.out
          have ho : Only g3 w1 (w1.setCell ⟨g3, k, none⟩ (.bool true)) := (Only.refl _ _).setCell k _
          unfold TakePost
          rw [hidx]
          refine ⟨?_, ⟨_, c1, g2, c2, g3, c3, by rw [List.length_set]; exact setCell_other G1.out n1, ownsRow_setCell_other G2.out (by simp [Value.ownBlock]; exact N5.out) _, ownsRow_setCell_other G3.out (by simp [Value.ownBlock]; exact n3) _, ?_⟩, ?_⟩
          · rw [← HPB.out, List.getD_eq_getElem?_getD, List.getElem?_eq_getElem hpk]; rfl
          · have := (G4.out.stored k (.bool true)).1
            rw [List.length_set, List.map_set]
            exact this
          · refine ⟨HKB.out.1.setCell (p := ⟨g3, k, none⟩) HB3.out _, fun j us t hj ht => ?_⟩
            have hj1 := (HKB.out.2 j us t hj ht).trans hj
            refine (ho.block j (lt_of_at hj1) fun e => ?_).trans (hj1.trans hj.symm)
            subst e
            have := HG3.out
            rw [hj1] at this
            cases this
            exact ht rfl
        · go_wp2
          go_round
          case rel =>
            refine ⟨k + 1, by omega, by simp, Lib.hid fun j hj => ?_⟩
            rcases Nat.lt_succ_iff_lt_or_eq.1 hj with h | h
            · exact hS.out j h
            · subst h; rw [HGU.out]; simp
          case measure => simp [intOf]; omega
      · have HNE : Hid (keys.getD k [] ≠ keyP v) := Lib.hid fun e => hab (by rw [← ha, ← HBK.out, ← e, hgk])
        have hab2 : ¬ a.toList = b.toList := ne_bytes hab
        clear hgk hgu ha hu
        go_wp2
        go_round
        case rel =>
          refine ⟨k + 1, by omega, by simp, Lib.hid fun j hj => ?_⟩
          rcases Nat.lt_succ_iff_lt_or_eq.1 hj with h | h
          · exact hS.out j h
          · subst h; rw [beq_eq_false_iff_ne.2 HNE.out]; rfl
        case measure => simp [intOf]; omega
    · have hke : k = keys.length := by omega
      subst hke
      go_wp2
      go_ret2
      have hidx : takeIdx keys used (keyP v) = none := by
        unfold takeIdx
        rw [List.find?_eq_none]
        intro j hj
        rw [hS.out j (by simpa using hj)]
        simp
      unfold TakePost
      rw [hidx]
      exact ⟨rfl, ⟨_, _, g2, c2, g3, c3, G1.out, G2.out, G3.out, G4.out⟩, HKB.out⟩
end Go.Proofs.YtiocjdggdmeggaaGreatDoor
