/-
  The walks of lenseskeep's cleaned and short.
  The walks of lenseskeep's written and short.
  The walk of lenseskeep.Ships.
-/
import Derived.Test.YtiocjdggdmeggaaGreatDoorLensM
import Derived.Laws.IdiomStrings
namespace Go.Proofs.YtiocjdggdmeggaaGreatDoor
open Go.RowKit Go.Shelf
def cleanStep (lo hi : Nat) (out : Txt) (b : UInt8) : Txt := if out.length < 4 ∧ lo ≤ b.toNat ∧ b.toNat ≤ hi then out ++ [b] else out
def cleanP (lo hi : Nat) (s : Txt) : Txt := s.foldl (cleanStep lo hi) [UInt8.ofNat lo]
theorem clean_ok {lo hi : Nat} (hl : lo ≤ hi) (hh : hi < 128) : ∀ (s out : Txt), (1 ≤ out.length ∧ out.length ≤ 4 ∧ ∀ b ∈ out, lo ≤ b.toNat ∧ b.toNat ≤ hi) → 1 ≤ (s.foldl (cleanStep lo hi) out).length ∧ (s.foldl (cleanStep lo hi) out).length ≤ 4 ∧ ∀ b ∈ s.foldl (cleanStep lo hi) out, lo ≤ b.toNat ∧ b.toNat ≤ hi
  | [], out, h => h
  | b :: s, out, h => by
    refine clean_ok hl hh s _ ?_
    unfold cleanStep
    split
    · rename_i hc
      refine ⟨by simp, by simp; omega, fun c hc' => ?_⟩
      rcases List.mem_append.1 hc' with h' | h'
      · exact h.2.2 c h'
      · simp at h'; subst h'; exact hc.2
    · exact h
theorem clean_full (lo hi : Nat) : ∀ (s out : Txt), 4 ≤ out.length → s.foldl (cleanStep lo hi) out = out
  | [], _, _ => rfl
  | b :: s, out, h => by
    rw [List.foldl_cons, show cleanStep lo hi out b = out from if_neg (by omega), clean_full lo hi s out h]
theorem clean_word (s : Txt) : Word (cleanP 97 122 s) := clean_ok (by omega) (by omega) s _ ⟨by simp, by simp, by simp⟩
theorem clean_num (s : Txt) : Num (cleanP 48 57 s) := clean_ok (by omega) (by omega) s _ ⟨by simp, by simp, by simp⟩
theorem meas_succ {k n : Nat} (h : k < n) : n - (intOf (.int .i64 ((k : Int) + 1))).toNat < n - (intOf (.int .i64 (k : Int))).toNat := by
  show n - ((k : Int) + 1).toNat < n - (k : Int).toNat
  omega
theorem wrap_succ {k n : Nat} (h : k < n) (hn : n ≤ maxLen) : wrap64 ((k : Int) + 1) = (k : Int) + 1 := by
  have h1 : n ≤ 9223372036854775807 := hn
  unfold wrap64
  omega
set_option maxHeartbeats 400000 in
set_option maxRecDepth 100000 in
theorem clean_any (lo hi : Nat) (hlo : lo < 128) (hhi : hi < 128) (s : ByteArray) (w : World) (hs : s.size ≤ maxLen) :
    Calls Tryz.prog 28 #[.string s, .int .u8 (lo : Nat), .int .u8 (hi : Nat)] w (TxtPost w (cleanP lo hi s.data.toList)) := by
  have kc : (convert 85 9 (.slice (some ⟨w.heap.size, 0, none⟩) 1 1)).run Tryz.prog (w.alloc (.cells #[.int .u8 (lo : Nat)] 5)) = .ok (.string ⟨[UInt8.ofNat lo].toArray⟩) (w.alloc (.cells #[.int .u8 (lo : Nat)] 5)) := by
    refine run_convert_bytes_back _ 85 9 5 ⟨w.heap.size, 0, none⟩ 1 [UInt8.ofNat lo] Tryz.underlying85 Tryz.underlying5 Tryz.underlying9 fun j hj => ?_
    have hj0 : j = 0 := by simp at hj; omega
    subst hj0
    have := cell_at (alloc_at w (.cells #[.int .u8 (lo : Nat)] 5)) 0
    rw [show (⟨w.heap.size, 0, none⟩ : Addr).add 0 = ⟨w.heap.size, 0, none⟩ from rfl, this]
    simp
    omega
  obtain ⟨W, hW⟩ : ∃ W, w.alloc (.cells #[.int .u8 (lo : Nat)] 5) = W := ⟨_, rfl⟩
  have hbW : Below w.heap.size w W := by rw [← hW]; exact (Below.refl _ _).alloc (Nat.le_refl _) _
  rw [hW] at kc
  have HW := Lib.hid hW; have HBW := Lib.hid hbW
  obtain ⟨o0, ho0⟩ : ∃ o0 : Txt, [UInt8.ofNat lo] = o0 := ⟨_, rfl⟩
  have hcl : cleanP lo hi s.data.toList = s.data.toList.foldl (cleanStep lo hi) o0 := by unfold cleanP; rw [ho0]
  have ho1 : o0.length = 1 := by rw [← ho0]; rfl
  have hsz : s.data.toList.length = s.size := Array.length_toList
  have hget : ∀ (k : Nat) (h : k < s.size), s.data.toList[k]? = some s[k] := fun k h => by
    rw [List.getElem?_eq_getElem (by rw [hsz]; exact h)]
    simp [ByteArray.getElem_eq_getElem_data]
  have hext : ∀ (k : Nat) (h : k < s.size), s.extract k (k + 1) = ⟨[s[k]].toArray⟩ := fun k h => by
    apply ByteArray.ext
    rw [ByteArray.data_extract]
    apply Array.toList_inj.1
    rw [Array.toList_extract]
    have h1 : k < s.data.toList.length := by rw [hsz]; exact h
    simp only [List.extract_eq_take_drop]
    rw [show k + 1 - k = 1 by omega, List.drop_eq_getElem_cons h1]
    simp [ByteArray.getElem_eq_getElem_data]
  rw [hcl]
  rw [ho0] at kc
  have HEXT := Lib.hid hext
  obtain ⟨l, hl⟩ : ∃ l, s.data.toList = l := ⟨_, rfl⟩
  rw [hl] at hsz hget ⊢
  have HGET := Lib.hid hget
  have HSZ := Lib.hid hsz
  have HO1 := Lib.hid ho1
  have HLO := Lib.hid hlo; have HHI := Lib.hid hhi
  have HSS := Lib.hid hs
  clear hcl hl hget hext hW hbW hsz ho1 hlo hhi hs ho0
  go_enter Tryz.func28, Tryz.ntmps28
  go_wp2_with fail
  rw [HW.out, kc]
  simp only [Result.andThen]
  rw [Oper.upon_value]
  clear kc
  go_wp2
  go_loopw [7, 8] (fun v7 v8 wr => ∃ (k : Nat) (out : Txt), k ≤ s.size ∧ v7 = .string ⟨out.toArray⟩ ∧ v8 = .int .i64 k ∧ Hid (out = (l.take k).foldl (cleanStep lo hi) o0 ∧ 1 ≤ out.length ∧ out.length ≤ 4 ∧ Below w.heap.size w wr)) (fun _ v8 _ => s.size - (intOf v8).toNat)
  case atStart => exact ⟨0, o0, Nat.zero_le _, rfl, rfl, Lib.hid ⟨rfl, by rw [HO1.out]; exact ⟨Nat.le_refl _, by omega, HBW.out⟩⟩⟩
  case round =>
    obtain ⟨k, out, hk, rfl, rfl, hS⟩ := hrel
    have hol := hS.out.2.2.1
    by_cases hlt : k < s.size
    · have i0 : (0 : Int) ≤ (k : Int) := by omega
      have i1 : (k : Int) < (s.size : Int) := by omega
      by_cases hfull : out.length = 4
      · have i2 : ¬ (out.length : Int) < 4 := by omega
        go_wp2
        go_ret
        refine ⟨?_, hS.out.2.2.2⟩
        have h1 := clean_full lo hi (l.drop k) out (by omega)
        rw [hS.out.1, ← List.foldl_append, List.take_append_drop] at h1
        rw [h1, ← hS.out.1]; rfl
      · have i2 : (out.length : Int) < 4 := by omega
        have i3 : wrap64 ((k : Int) + 1) = (k : Int) + 1 := wrap_succ hlt HSS.out
        have i4 : (k : Int) + 1 ≤ (s.size : Int) := by omega
        have i5 : (k : Int) ≤ (k : Int) + 1 := by omega
        have i6 : ((k : Int) + 1).toNat = k + 1 := by omega
        have htk : (l.take (k + 1)).foldl (cleanStep lo hi) o0 = cleanStep lo hi out s[k] := by
          have h1 : k < l.length := by rw [HSZ.out]; exact hlt
          rw [foldl_take _ _ _ _ h1, ← hS.out.1]
          have h2 := HGET.out k hlt
          rw [List.getElem?_eq_getElem h1] at h2
          rw [Option.some.inj h2]
        have HTK := Lib.hid htk
        have hx := HEXT.out k hlt
        have HXT := Lib.hid hx
        clear htk hx
        by_cases hlo1 : lo ≤ s[k].toNat
        · by_cases hhi1 : s[k].toNat ≤ hi
          · have j0 : (lo : Int) ≤ (s[k].toNat : Int) := by omega
            have j1 : (s[k].toNat : Int) ≤ (hi : Int) := by omega
            go_wp2
            rw [i3]
            refine ⟨⟨k + 1, out ++ [s[k]], by omega, by rw [HXT.out]; exact congrArg Value.string (bytes_append out [s[k]]), by simp, Lib.hid ⟨?_, by simp, by simp; omega, hS.out.2.2.2⟩⟩, meas_succ hlt⟩
            rw [HTK.out]
            exact (if_pos (by omega)).symm
          · have j0 : (lo : Int) ≤ (s[k].toNat : Int) := by omega
            have j1 : ¬ (s[k].toNat : Int) ≤ (hi : Int) := by omega
            go_wp2
            rw [i3]
            refine ⟨⟨k + 1, out, by omega, rfl, by simp, Lib.hid ⟨?_, hS.out.2⟩⟩, meas_succ hlt⟩
            rw [HTK.out]
            exact (if_neg (by omega)).symm
        · have j0 : ¬ (lo : Int) ≤ (s[k].toNat : Int) := by omega
          go_wp2
          rw [i3]
          refine ⟨⟨k + 1, out, by omega, rfl, by simp, Lib.hid ⟨?_, hS.out.2⟩⟩, meas_succ hlt⟩
          rw [HTK.out]
          exact (if_neg (by omega)).symm
    · have hke : k = s.size := by omega
      subst hke
      go_wp2
      go_ret
      refine ⟨?_, hS.out.2.2.2⟩
      rw [hS.out.1, List.take_of_length_le (by rw [HSZ.out]; exact Nat.le_refl _)]; rfl
end Go.Proofs.YtiocjdggdmeggaaGreatDoor
namespace Go.Proofs.YtiocjdggdmeggaaGreatDoor
open Go.RowKit Go.Shelf
abbrev Raw := ByteArray × ByteArray
/-- A slice of pairs. -/
def PairsAt (w : World) (v : Value) (ws : List Raw) : Prop :=
  ∃ a cap, v = .slice a ws.length cap ∧ (∀ p ∈ ws, p.1.size ≤ maxLen ∧ p.2.size ≤ maxLen) ∧ ws.length ≤ maxLen ∧ ∀ i (h : i < ws.length), ∃ b off, a = some ⟨b, off, none⟩ ∧ b < w.heap.size ∧ w.cell? ⟨b, off + i * 2, none⟩ = some (.string ws[i].1) ∧ w.cell? ⟨b, off + i * 2 + 1, none⟩ = some (.string ws[i].2)
theorem PairsAt.below {w w' : World} {v : Value} {ws : List Raw} (h : PairsAt w v ws) (hb : Below w.heap.size w w') : PairsAt w' v ws := by
  obtain ⟨a, cap, h1, h2, h3, h4⟩ := h
  refine ⟨a, cap, h1, h2, h3, fun i hi => ?_⟩
  obtain ⟨b, off, k1, k2, k3, k4⟩ := h4 i hi
  exact ⟨b, off, k1, Nat.lt_of_lt_of_le k2 hb.size, (hb.cell (p := ⟨b, off + i * 2, none⟩) k2).trans k3, (hb.cell (p := ⟨b, off + i * 2 + 1, none⟩) k2).trans k4⟩
def lineP (p : Raw) : Line := (cleanP 97 122 p.1.data.toList, cleanP 48 57 p.2.data.toList)
def linesP (ws : List Raw) : List Line := (ws.take 5).map lineP
theorem linesP_good (ws : List Raw) : ∀ x ∈ linesP ws, Good x := by
  intro x hx
  simp only [linesP, List.mem_map] at hx
  obtain ⟨p, _, rfl⟩ := hx
  exact ⟨clean_word _, clean_num _⟩
theorem lines_len {mid fin : Txt} : ∀ (l : List Line), (∀ x ∈ l, Good x) → (linesOf mid fin l).flatten.length ≤ l.length * (8 + mid.length + fin.length)
  | [], _ => by simp [linesOf]
  | x :: l, h => by
    have h1 := lines_len (mid := mid) (fin := fin) l (fun y hy => h y (by simp [hy]))
    have h2 := h x (by simp)
    have h3 := h2.1.2.1
    have h4 := h2.2.2.1
    simp only [linesOf, List.map_cons, List.flatten_cons, List.length_append, List.length_cons] at h1 ⊢
    have : (l.length + 1) * (8 + mid.length + fin.length) = l.length * (8 + mid.length + fin.length) + (8 + mid.length + fin.length) := Nat.succ_mul _ _
    omega
theorem clean97 (s : ByteArray) (w : World) (hs : s.size ≤ maxLen) : Calls Tryz.prog 28 #[.string s, .int .u8 97, .int .u8 122] w (TxtPost w (cleanP 97 122 s.data.toList)) := clean_any 97 122 (by omega) (by omega) s w hs
theorem clean48 (s : ByteArray) (w : World) (hs : s.size ≤ maxLen) : Calls Tryz.prog 28 #[.string s, .int .u8 48, .int .u8 57] w (TxtPost w (cleanP 48 57 s.data.toList)) := clean_any 48 57 (by omega) (by omega) s w hs
theorem short_any (s : ByteArray) (w : World) : Calls Tryz.prog 15 #[.string s] w fun e w' => e = .returned (.bool (decide ((s.size : Int) ≤ 60))) ∧ w' = w := by
  go_enter Tryz.func15, Tryz.ntmps15
  go_wp2
  go_ret
  exact ⟨rfl, rfl⟩
set_option maxHeartbeats 400000 in
set_option maxRecDepth 100000 in
theorem written_any (v : Value) (ws : List Raw) (mid fin : Txt) (w : World) (h : PairsAt w v ws) (hm : mid.length ≤ 10) (hf : fin.length ≤ 10) :
    Calls Tryz.prog 12 #[v, .string ⟨mid.toArray⟩, .string ⟨fin.toArray⟩] w (TxtPost w (linesOf mid fin (linesP ws)).flatten) := by
  obtain ⟨a, cap, rfl, h2, h3, h4⟩ := h
  have H2 := Lib.hid h2; have H3 := Lib.hid h3; have H4 := Lib.hid h4
  clear h2 h3 h4
  go_enter Tryz.func12, Tryz.ntmps12
  go_wp2
  go_loopw [7, 8] (fun v7 v8 wr => ∃ (k : Nat) (out : Txt), k ≤ ws.length ∧ k ≤ 5 ∧ v7 = .string ⟨out.toArray⟩ ∧ v8 = .int .i64 k ∧ Hid (out = (linesOf mid fin ((ws.take k).map lineP)).flatten ∧ out.length ≤ k * 28 ∧ Below w.heap.size w wr)) (fun _ v8 _ => 5 - (intOf v8).toNat)
  case atStart => exact ⟨0, [], Nat.zero_le _, Nat.zero_le _, rfl, rfl, Lib.hid ⟨rfl, Nat.le_refl _, Below.refl _ _⟩⟩
  case round =>
    obtain ⟨k, out, hk, hk5, rfl, rfl, hS⟩ := hrel
    by_cases hlt : k < ws.length
    · by_cases h5 : k < 5
      · obtain ⟨b, off, rfl, hb, q1, q2⟩ := H4.out k hlt
        have hbw := hS.out.2.2
        have hmem := H2.out ws[k] (List.getElem_mem hlt)
        have hw1 : (cleanP 97 122 ws[k].1.data.toList).length ≤ 4 := (clean_word _).2.1
        have hn1 : (cleanP 48 57 ws[k].2.data.toList).length ≤ 4 := (clean_num _).2.1
        have hline : lineP ws[k] = (cleanP 97 122 ws[k].1.data.toList, cleanP 48 57 ws[k].2.data.toList) := rfl
        have htk : (linesOf mid fin ((ws.take (k + 1)).map lineP)).flatten = out ++ ((lineP ws[k]).1 ++ (mid ++ ((lineP ws[k]).2 ++ fin))) := by
          rw [List.take_succ_eq_append_getElem hlt, hS.out.1]
          simp only [linesOf, List.map_append, List.map_cons, List.map_nil, List.flatten_append, List.flatten_cons, List.flatten_nil, List.append_nil]
        have C1 := Lib.hid (fun W => clean97 ws[k].1 W hmem.1)
        have C2 := Lib.hid (fun W => clean48 ws[k].2 W hmem.2)
        rw [hline] at htk
        obtain ⟨x, hx⟩ : ∃ x, cleanP 97 122 ws[k].1.data.toList = x := ⟨_, rfl⟩
        obtain ⟨y, hy⟩ : ∃ y, cleanP 48 57 ws[k].2.data.toList = y := ⟨_, rfl⟩
        rw [hx] at C1 htk hw1
        rw [hy] at C2 htk hn1
        obtain ⟨s1, hs1⟩ : ∃ s, ws[k].1 = s := ⟨_, rfl⟩
        obtain ⟨s2, hs2⟩ : ∃ s, ws[k].2 = s := ⟨_, rfl⟩
        rw [hs1] at C1 q1
        rw [hs2] at C2 q2
        have r1 : wr.cell? ⟨b, off + k * 2, none⟩ = some (.string s1) := (hbw.cell (p := ⟨b, off + k * 2, none⟩) hb).trans q1
        have Q2 := Lib.hid q2
        have hol := hS.out.2.1
        have hol2 : out.length ≤ 140 := by omega
        have HTK := Lib.hid htk; have HBW := Lib.hid hbw
        have i0 : (0 : Int) ≤ (k : Int) := by omega
        have i1 : (k : Int) < (ws.length : Int) := by omega
        have i2 : (k : Int) < 5 := by omega
        clear hmem hline htk hx hy hs1 hs2 q1 q2 hbw hol
        go_wp2_with fail
        refine (C1.out wr).mono ?_
        rintro e w1 ⟨rfl, hb1⟩
        have hbw1 := HBW.out.trans (hb1.mono HBW.out.size)
        have r2 : w1.cell? ⟨b, off + k * 2 + 1, none⟩ = some (.string s2) := (hbw1.cell (p := ⟨b, off + k * 2 + 1, none⟩) hb).trans Q2.out
        have HB1 := Lib.hid hbw1
        clear r1 hb1 hbw1
        go_wp2_with fail
        refine (C2.out w1).mono ?_
        rintro e w2 ⟨rfl, hb2⟩
        have HB2 := Lib.hid (HB1.out.trans (hb2.mono HB1.out.size))
        clear r2 hb2
        go_wp2
        refine ⟨⟨k + 1, out ++ (x ++ (mid ++ (y ++ fin))), by omega, by omega, ?_, by simp, Lib.hid ⟨HTK.out.symm, ?_, HB2.out⟩⟩, meas_succ h5⟩
        · rw [bytes_append, bytes_append, bytes_append, bytes_append]
          simp only [List.append_assoc]
        · have := hS.out.2.1
          simp only [List.length_append]
          omega
      · have hke : k = 5 := by omega
        subst hke
        have i1 : (5 : Int) < (ws.length : Int) := by omega
        go_wp2
        go_ret
        refine ⟨?_, hS.out.2.2⟩
        rw [hS.out.1]; rfl
    · have hke : k = ws.length := by omega
      subst hke
      go_wp2
      go_ret
      refine ⟨?_, hS.out.2.2⟩
      rw [hS.out.1, List.take_length, linesP, List.take_of_length_le hk5]; rfl
end Go.Proofs.YtiocjdggdmeggaaGreatDoor
namespace Go.Proofs.YtiocjdggdmeggaaGreatDoor
open Go.RowKit Go.Shelf
theorem lines_asc {mid fin : Txt} (hm : ∀ b ∈ mid, b.toNat < 128) (hf : ∀ b ∈ fin, b.toNat < 128) (l : List Line) (hl : ∀ x ∈ l, Good x) (hlen : (linesOf mid fin l).flatten.length ≤ 1000) : Asc (linesOf mid fin l).flatten := by
  refine ⟨hlen, fun b hb => ?_⟩
  obtain ⟨p, hp, hbp⟩ := List.mem_flatten.1 hb
  simp only [linesOf, List.mem_map] at hp
  obtain ⟨x, hx, rfl⟩ := hp
  have hg := hl x hx
  simp only [List.mem_append] at hbp
  rcases hbp with h | h | h | h
  · have := hg.1.2.2 b h; omega
  · exact hm b h
  · have := hg.2.2.2 b h; omega
  · exact hf b h
theorem views_lines (l : List Line) : viewsOf l = linesOf [] [] l := by
  unfold viewsOf linesOf
  refine List.map_congr_left fun x _ => ?_
  simp
theorem views_asc (l : List Line) (hl : ∀ x ∈ l, Good x) (hlen : (viewsOf l).flatten.length ≤ 1000) : Asc (viewsOf l).flatten := by
  rw [views_lines] at hlen ⊢
  exact lines_asc (by simp) (by simp) l hl hlen
section
variable {M F : Nd} {mw fw mid fin : Txt} {S S2 : List Nat}
theorem get_style (hX : (lnOf M mw F fw).KFine) (hx : (lnOf M mw F fw).extra ≤ 1000000) (hf : Fits (lnOf M mw F fw) S mid fin) (hc : SrcCuts M F mid fin) (hm : ∀ b ∈ mid, b.toNat < 128) (hfi : ∀ b ∈ fin, b.toNat < 128) (l : List Line) (hl : ∀ x ∈ l, Good x)
    (hlen : (linesOf mid fin l).flatten.length ≤ 60) (W : World) (T b : Nat) (h : LensAt W T b (lnOf M mw F fw)) (hT : T ≤ W.heap.size) (h6 : 6 < T) (hE : Env W) :
    Calls Tryz.prog 14 #[.pointer (some ⟨b, 0, none⟩), .string ⟨(linesOf mid fin l).flatten.toArray⟩] W (AnsPost W (viewsOf l).flatten) := by
  have := lens_get (lnOf M mw F fw) hX hx W T b (linesOf mid fin l).length (linesOf mid fin l).flatten (linesOf mid fin l) h hT h6 hE (lines_asc hm hfi l hl (by omega)) hlen (is_pieces hf.one hf.all _ (mem_lines hl hf)) (pieces_eq hf.one hf.all _ _ (Nat.le_refl _) (mem_lines hl hf))
  rw [get_lines hc hl] at this
  exact this
theorem create_style (hX : (lnOf M mw F fw).KFine) (hx : (lnOf M mw F fw).extra ≤ 1000000) (hf : VFits (lnOf M mw F fw) S) (l : List Line) (hl : ∀ x ∈ l, Good x)
    (hlen : (viewsOf l).flatten.length ≤ 60) (W : World) (T b : Nat) (h : LensAt W T b (lnOf M mw F fw)) (hT : T ≤ W.heap.size) (h6 : 6 < T) (hE : Env W) :
    Calls Tryz.prog 20 #[.pointer (some ⟨b, 0, none⟩), .string ⟨(viewsOf l).flatten.toArray⟩] W (AnsPost W (linesOf mw fw l).flatten) := by
  have := lens_create (lnOf M mw F fw) hX hx W T b (viewsOf l).length (viewsOf l).flatten (viewsOf l) h hT h6 hE (views_asc l hl (by omega)) hlen (is_pieces hf.one hf.all _ (mem_views hl hf)) (pieces_eq hf.one hf.all _ _ (Nat.le_refl _) (mem_views hl hf))
  rw [create_lines hl] at this
  exact this
theorem put_style (hX : (lnOf M mw F fw).KFine) (hx : (lnOf M mw F fw).extra ≤ 1000000) (hf : Fits (lnOf M mw F fw) S mid fin) (hv : VFits (lnOf M mw F fw) S2) (hc : SrcCuts M F mid fin) (hm : ∀ b ∈ mid, b.toNat < 128) (hfi : ∀ b ∈ fin, b.toNat < 128) (l : List Line) (hl : ∀ x ∈ l, Good x)
    (hlen : (linesOf mid fin l).flatten.length ≤ 60) (hvl : (viewsOf l).flatten.length ≤ 60) (W : World) (T b : Nat) (h : LensAt W T b (lnOf M mw F fw)) (hT : T ≤ W.heap.size) (h6 : 6 < T) (hE : Env W) :
    Calls Tryz.prog 16 #[.pointer (some ⟨b, 0, none⟩), .string ⟨(viewsOf l).flatten.toArray⟩, .string ⟨(linesOf mid fin l).flatten.toArray⟩] W (AnsPost W (linesOf mid fin l).flatten) := by
  have := lens_put (lnOf M mw F fw) hX hx W T b (linesOf mid fin l).length (viewsOf l).length (viewsOf l).flatten (linesOf mid fin l).flatten (viewsOf l) (linesOf mid fin l) h hT h6 hE (views_asc l hl (by omega)) hvl (lines_asc hm hfi l hl (by omega)) hlen
    (is_pieces hv.one hv.all _ (mem_views hl hv)) (is_pieces hf.one hf.all _ (mem_lines hl hf)) (pieces_eq hv.one hv.all _ _ (Nat.le_refl _) (mem_views hl hv)) (pieces_eq hf.one hf.all _ _ (Nat.le_refl _) (mem_lines hl hf))
  rw [put_lines hc hl] at this
  exact this
end
def CompPost (w : World) (X : Ln) (e : Ending) (w' : World) : Prop := ∃ b, e = .returned (.tuple #[.pointer (some ⟨b, 0, none⟩), .int .i64 0]) ∧ LensAt w' w'.heap.size b X ∧ Below w.heap.size w w'
theorem compile_commas (W : World) (h6 : 6 < W.heap.size) (hE : Env W) : Calls Tryz.prog 11 #[.string ⟨#[60, 47, 91, 97, 45, 122, 93, 43, 47, 45, 47, 44, 47, 34, 44, 34, 47, 91, 48, 45, 57, 93, 43, 47, 45, 47, 59, 47, 34, 59, 34, 62]⟩] W (CompPost W commas) := by
  obtain ⟨l, k, h1, h2, h3⟩ := commas_row
  exact compile_any W commasT l commas k h1 (by decide) h2 h3 commas_fine h6 hE
theorem compile_equals (W : World) (h6 : 6 < W.heap.size) (hE : Env W) : Calls Tryz.prog 11 #[.string ⟨#[60, 47, 91, 97, 45, 122, 93, 43, 47, 45, 47, 32, 42, 61, 32, 42, 47, 34, 61, 34, 47, 91, 48, 45, 57, 93, 43, 47, 45, 47, 33, 43, 47, 34, 33, 34, 62]⟩] W (CompPost W equals) := by
  obtain ⟨l, k, h1, h2, h3⟩ := equals_row
  exact compile_any W equalsT l equals k h1 (by decide) h2 h3 equals_fine h6 hE
theorem linesP_length (ws : List Raw) : (linesP ws).length ≤ 5 := by simp [linesP]; omega
theorem lines_short {mid fin : Txt} {n : Nat} (ws : List Raw) (h : 5 * (8 + mid.length + fin.length) ≤ n) : (linesOf mid fin (linesP ws)).flatten.length ≤ n := by
  refine Nat.le_trans (lines_len (linesP ws) (linesP_good ws)) (Nat.le_trans (Nat.mul_le_mul_right _ (linesP_length ws)) h)
set_option maxHeartbeats 1000000 in
set_option maxRecDepth 100000 in
theorem ships_any (w : World) (v : Value) (ws : List Raw) (h : PairsAt w v ws) (h6 : 6 < w.heap.size) (hE : Env w) :
    Calls Tryz.prog 3 #[v] w fun e w' => e = .returned (.bool true) ∧ Below w.heap.size w w' := by
  have hg := linesP_good ws
  have hx60 : (linesOf [44] [59] (linesP ws)).flatten.length ≤ 60 := lines_short ws (by decide)
  have hy60 : (linesOf [61] [33] (linesP ws)).flatten.length ≤ 60 := lines_short ws (by decide)
  have hv60 : (viewsOf (linesP ws)).flatten.length ≤ 60 := by rw [views_lines]; exact lines_short ws (by decide)
  have hA := fun (W : World) (hb : Below w.heap.size w W) => compile_commas W (Nat.lt_of_lt_of_le h6 hb.size) (env_below hb h6 hE)
  have hB := fun (W : World) (hb : Below w.heap.size w W) => compile_equals W (Nat.lt_of_lt_of_le h6 hb.size) (env_below hb h6 hE)
  have hX := fun (W : World) (hb : Below w.heap.size w W) => written_any v ws [44] [59] W (h.below hb) (by decide) (by decide)
  have hY := fun (W : World) (hb : Below w.heap.size w W) => written_any v ws [61] [33] W (h.below hb) (by decide) (by decide)
  have hD := fun (W : World) (hb : Below w.heap.size w W) => written_any v ws [32, 32, 61, 32] [33, 33] W (h.below hb) (by decide) (by decide)
  have hV := fun (W : World) (hb : Below w.heap.size w W) => written_any v ws [] [] W (h.below hb) (by decide) (by decide)
  rw [← views_lines] at hV
  have gA := fun (W : World) (T b : Nat) (hl : LensAt W T b commas) (hT : T ≤ W.heap.size) (h6 : 6 < T) (hE : Env W) => get_style commas_fine (by decide) fits_commas cuts_commas (by decide) (by decide) (linesP ws) hg hx60 W T b hl hT h6 hE
  have gB := fun (W : World) (T b : Nat) (hl : LensAt W T b equals) (hT : T ≤ W.heap.size) (h6 : 6 < T) (hE : Env W) => get_style equals_fine (by decide) fits_equals0 cuts_equals0 (by decide) (by decide) (linesP ws) hg hy60 W T b hl hT h6 hE
  have cA := fun (W : World) (T b : Nat) (hl : LensAt W T b commas) (hT : T ≤ W.heap.size) (h6 : 6 < T) (hE : Env W) => create_style commas_fine (by decide) vfits_commas (linesP ws) hg hv60 W T b hl hT h6 hE
  have cB := fun (W : World) (T b : Nat) (hl : LensAt W T b equals) (hT : T ≤ W.heap.size) (h6 : 6 < T) (hE : Env W) => create_style equals_fine (by decide) vfits_equals (linesP ws) hg hv60 W T b hl hT h6 hE
  have gD := fun (hl60 : (linesOf [32, 32, 61, 32] [33, 33] (linesP ws)).flatten.length ≤ 60) (W : World) (T b : Nat) (hl : LensAt W T b equals) (hT : T ≤ W.heap.size) (h6 : 6 < T) (hE : Env W) => get_style equals_fine (by decide) fits_equals1 cuts_equals1 (by decide) (by decide) (linesP ws) hg hl60 W T b hl hT h6 hE
  have pD := fun (hl60 : (linesOf [32, 32, 61, 32] [33, 33] (linesP ws)).flatten.length ≤ 60) (W : World) (T b : Nat) (hl : LensAt W T b equals) (hT : T ≤ W.heap.size) (h6 : 6 < T) (hE : Env W) => put_style equals_fine (by decide) fits_equals1 vfits_equals cuts_equals1 (by decide) (by decide) (linesP ws) hg hl60 hv60 W T b hl hT h6 hE
  obtain ⟨X, eX⟩ : ∃ X, (linesOf [44] [59] (linesP ws)).flatten = X := ⟨_, rfl⟩
  obtain ⟨Y, eY⟩ : ∃ X, (linesOf [61] [33] (linesP ws)).flatten = X := ⟨_, rfl⟩
  obtain ⟨D, eD⟩ : ∃ X, (linesOf [32, 32, 61, 32] [33, 33] (linesP ws)).flatten = X := ⟨_, rfl⟩
  obtain ⟨V, eV⟩ : ∃ X, (viewsOf (linesP ws)).flatten = X := ⟨_, rfl⟩
  rw [eX] at hX gA cA
  rw [eY] at hY gB cB
  rw [eD] at hD gD pD
  rw [eV] at hV gA gB cA cB gD pD
  have conv : ∀ (W : World) (T b1 b2 : Nat), LensAt W T b1 commas → LensAt W T b2 equals → T ≤ W.heap.size → 6 < T → Env W →
      Calls Tryz.prog 13 #[.pointer (some ⟨b1, 0, none⟩), .pointer (some ⟨b2, 0, none⟩), .string ⟨X.toArray⟩] W (AnsPost W Y) ∧
      Calls Tryz.prog 13 #[.pointer (some ⟨b2, 0, none⟩), .pointer (some ⟨b1, 0, none⟩), .string ⟨Y.toArray⟩] W (AnsPost W X) ∧
      Calls Tryz.prog 14 #[.pointer (some ⟨b1, 0, none⟩), .string ⟨X.toArray⟩] W (AnsPost W V) ∧
      (D.length ≤ 60 → Calls Tryz.prog 13 #[.pointer (some ⟨b2, 0, none⟩), .pointer (some ⟨b1, 0, none⟩), .string ⟨D.toArray⟩] W (AnsPost W X) ∧ Calls Tryz.prog 16 #[.pointer (some ⟨b2, 0, none⟩), .string ⟨V.toArray⟩, .string ⟨D.toArray⟩] W (AnsPost W D)) := by
    intro W T b1 b2 l1 l2 hT h6 hE
    have k1 : ∀ W', Below W.heap.size W W' → LensAt W' T b1 commas := fun W' hb => l1.keep fun k hk => hb.block k (by omega)
    have k2 : ∀ W', Below W.heap.size W W' → LensAt W' T b2 equals := fun W' hb => l2.keep fun k hk => hb.block k (by omega)
    have t1 : ∀ W', Below W.heap.size W W' → T ≤ W'.heap.size := fun W' hb => Nat.le_trans hT hb.size
    have n1 : ∀ W', Below W.heap.size W W' → Env W' := fun W' hb => env_below hb (by omega) hE
    refine ⟨convert_any W b1 b2 X V Y (fun W' hb => gA W' T b1 (k1 W' hb) (t1 W' hb) h6 (n1 W' hb)) (fun W' hb => cB W' T b2 (k2 W' hb) (t1 W' hb) h6 (n1 W' hb)),
      convert_any W b2 b1 Y V X (fun W' hb => gB W' T b2 (k2 W' hb) (t1 W' hb) h6 (n1 W' hb)) (fun W' hb => cA W' T b1 (k1 W' hb) (t1 W' hb) h6 (n1 W' hb)), gA W T b1 l1 hT h6 hE, fun hl => ?_⟩
    exact ⟨convert_any W b2 b1 D V X (fun W' hb => gD hl W' T b2 (k2 W' hb) (t1 W' hb) h6 (n1 W' hb)) (fun W' hb => cA W' T b1 (k1 W' hb) (t1 W' hb) h6 (n1 W' hb)), pD hl W T b2 l2 hT h6 hE⟩
  obtain ⟨xb, exb⟩ : ∃ b : ByteArray, (⟨X.toArray⟩ : ByteArray) = b := ⟨_, rfl⟩
  obtain ⟨yb, eyb⟩ : ∃ b : ByteArray, (⟨Y.toArray⟩ : ByteArray) = b := ⟨_, rfl⟩
  obtain ⟨db, edb⟩ : ∃ b : ByteArray, (⟨D.toArray⟩ : ByteArray) = b := ⟨_, rfl⟩
  obtain ⟨vb, evb⟩ : ∃ b : ByteArray, (⟨V.toArray⟩ : ByteArray) = b := ⟨_, rfl⟩
  have hdl : D.length ≤ 60 ↔ (db.size : Int) ≤ 60 := by rw [← edb, size_of_txt]; omega
  unfold AnsPost at conv
  unfold TxtPost at hX hY hD hV
  rw [exb] at hX conv
  rw [eyb] at hY conv
  rw [edb] at hD conv
  rw [evb] at hV conv
  have HA := Lib.hid hA; have HB := Lib.hid hB; have HX := Lib.hid hX; have HY := Lib.hid hY; have HD := Lib.hid hD; have HV := Lib.hid hV; have HC := Lib.hid conv; have HE := Lib.hid hE; have HDL := Lib.hid hdl
  obtain ⟨a, cap, hva, _⟩ := h
  obtain ⟨n, hn⟩ : ∃ n, ws.length = n := ⟨_, rfl⟩
  rw [hn] at hva
  rw [hva] at HX HY HD HV ⊢
  clear hA hB hX hY hD hV conv hE hdl eX eY eD eV exb eyb edb evb gA gB cA cB gD pD hx60 hy60 hv60 hg hva hn
  go_enter Tryz.func3, Tryz.ntmps3
  go_wp2_with fail
  refine (HA.out w (Below.refl _ _)).mono ?_
  rintro e w1 ⟨b1, rfl, l1, hb1⟩
  have HB1 := Lib.hid hb1; have HL1 := Lib.hid l1
  clear hb1 l1
  go_wp2_with fail
  refine (HB.out w1 HB1.out).mono ?_
  rintro e w2 ⟨b2, rfl, l2, hb2⟩
  have hw2 := HB1.out.trans (hb2.mono HB1.out.size)
  have hc := HC.out w2 w2.heap.size b1 b2 ((HL1.out.keep fun k hk => hb2.block k hk).mono hb2.size) l2 (Nat.le_refl _) (Nat.lt_of_lt_of_le h6 hw2.size) (env_below hw2 h6 HE.out)
  have HL := Lib.hid (show ∀ W, Below w2.heap.size w2 W → LensAt W w2.heap.size b1 commas ∧ LensAt W w2.heap.size b2 equals from fun W hb => ⟨((HL1.out.keep fun k hk => hb2.block k hk).mono hb2.size).keep fun k hk => hb.block k hk, l2.keep fun k hk => hb.block k hk⟩)
  have HC2 := Lib.hid (fun (W : World) (hb : Below w2.heap.size w2 W) => HC.out W w2.heap.size b1 b2 (HL.out W hb).1 (HL.out W hb).2 hb.size (Nat.lt_of_lt_of_le h6 hw2.size) (env_below (hw2.trans (hb.mono hw2.size)) h6 HE.out))
  have HB2 := Lib.hid hw2
  clear hb2 hw2 l2 hc HC HL1 HL
  go_wp2_with fail
  refine (HX.out w2 HB2.out).mono ?_
  rintro e w3 ⟨rfl, hb3⟩
  have HB3 := Lib.hid hb3
  have HW3 := Lib.hid (HB2.out.trans (hb3.mono HB2.out.size))
  clear hb3
  go_wp2_with fail
  refine (HY.out w3 HW3.out).mono ?_
  rintro e w4 ⟨rfl, hb4⟩
  have HB4 := Lib.hid (HB3.out.trans (hb4.mono HB3.out.size))
  have HW4 := Lib.hid (HW3.out.trans (hb4.mono HW3.out.size))
  clear hb4
  go_wp2_with fail
  refine (HD.out w4 HW4.out).mono ?_
  rintro e w5 ⟨rfl, hb5⟩
  have HB5 := Lib.hid (HB4.out.trans (hb5.mono HB4.out.size))
  have HW5 := Lib.hid (HW4.out.trans (hb5.mono HW4.out.size))
  clear hb5
  go_wp2_with fail
  refine (HV.out w5 HW5.out).mono ?_
  rintro e w6 ⟨rfl, hb6⟩
  have HB6 := Lib.hid (HB5.out.trans (hb6.mono HB5.out.size))
  clear hb6
  go_wp2_with fail
  refine (HC2.out w6 HB6.out).1.mono ?_
  rintro e w7 ⟨rfl, hb7⟩
  have HB7 := Lib.hid (HB6.out.trans (hb7.mono HB6.out.size))
  clear hb7
  go_wp2_with fail
  refine (HC2.out w7 HB7.out).2.1.mono ?_
  rintro e w8 ⟨rfl, hb8⟩
  have HB8 := Lib.hid (HB7.out.trans (hb8.mono HB7.out.size))
  clear hb8
  go_wp2_with fail
  refine (HC2.out w8 HB8.out).2.2.1.mono ?_
  rintro e w9 ⟨rfl, hb9⟩
  have HB9 := Lib.hid (HB8.out.trans (hb9.mono HB8.out.size))
  clear hb9
  go_wp2_with fail
  refine (short_any db w9).mono ?_
  rintro e wa ⟨rfl, rfl⟩
  by_cases hs : (db.size : Int) ≤ 60
  · rw [decide_eq_true hs]
    have HS := Lib.hid (HDL.out.2 hs)
    clear hs
    go_wp2_with fail
    refine ((HC2.out wa HB9.out).2.2.2 HS.out).1.mono ?_
    rintro e wb ⟨rfl, hbb⟩
    have HBB := Lib.hid (HB9.out.trans (hbb.mono HB9.out.size))
    clear hbb
    go_wp2_with fail
    refine ((HC2.out wb HBB.out).2.2.2 HS.out).2.mono ?_
    rintro e wc ⟨rfl, hbc⟩
    have HBC := Lib.hid (HBB.out.trans (hbc.mono HBB.out.size))
    clear hbc
    go_wp2
    go_ret
    exact ⟨rfl, HB2.out.trans (HBC.out.mono HB2.out.size)⟩
  · rw [decide_eq_false hs]
    clear hs
    go_wp2
    go_ret
    exact ⟨rfl, HB2.out.trans (HB9.out.mono HB2.out.size)⟩
end Go.Proofs.YtiocjdggdmeggaaGreatDoor
