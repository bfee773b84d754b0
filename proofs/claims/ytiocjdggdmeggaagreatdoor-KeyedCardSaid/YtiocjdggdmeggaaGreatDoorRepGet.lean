/-
  The walk of Repeat's first closure: it reads each piece.
-/
import Derived.Test.YtiocjdggdmeggaaGreatDoorPartFns
import Derived.Deep.RegionHeld3
namespace Go.Proofs.YtiocjdggdmeggaaGreatDoor
open Go.RowKit Go.Shelf
theorem ownsRow_types {w w' : World} {B e n : Nat} {p : Option Addr} {c : Nat} {xs : List Value} (h : w.ownsRow B e 1 (.slice p n c) n xs) (hs : ∀ (k : Nat) (us : Array Value), w.heap[k]? = some (.cells us e (0, 0)) → w'.heap[k]? = w.heap[k]?) : w'.ownsRow B e 1 (.slice p n c) n xs := by
  refine ⟨h.1, ?_⟩
  rcases h.2 with h | ⟨g, cap, cur, hv, h1, hh, h2⟩
  · exact .inl h
  · exact .inr ⟨g, cap, cur, hv, h1, (hs g cur hh).trans hh, h2⟩
theorem builder_keep {w w' : World} {B b : Nat} {bs : List Value} (h : Lib.IsBuilder 218 5 B b bs w) (hs : ∀ k, k < w.heap.size → w'.heap[k]? = w.heap[k]?) : Lib.IsBuilder 218 5 B b bs w' := by
  rcases h with ⟨h1, v, h2, h3, h4⟩ | ⟨h1, v, h2, h3, h4⟩
  · exact .inl ⟨h1, v, (hs b (lt_of_at h2)).trans h2, ownsRow_keep h3 (fun k _ hk => hs k hk), h4⟩
  · exact .inr ⟨h1, v, (hs b (lt_of_at h2)).trans h2, ownsRow_keep h3 (fun k _ hk => hs k hk), h4⟩
theorem byteCells_append (a b : Txt) : Lib.byteCells a ++ Lib.strCells ⟨b.toArray⟩ = Lib.byteCells (a ++ b) := by
  simp [Lib.byteCells, Lib.strCells]
set_option maxHeartbeats 1000000 in
set_option maxRecDepth 100000 in
theorem fn168 (A M : PA) (hA : A.Ok) (hM : M.Ok) (f : Txt → Txt) (T bA bP qa b pa pm g f0 : Nat) (cap : Array Value) (va na ma da ua vb nb mb cb db ub : Value) (s : Txt) (ps : List Txt) (w : World) (hs : Asc s) (hT : T ≤ w.heap.size) (h6 : 6 < T) (hE : Env w)
    (hbA : w.heap[bA]? = some (.cells #[.pointer (some ⟨qa, 0, none⟩)] 52 (0, 0))) (hbP : w.heap[bP]? = some (.cells #[.pointer (some ⟨b, 0, none⟩)] 52 (0, 0)))
    (hqa : w.heap[qa]? = some (.cells #[.pointer (some ⟨pa, 0, none⟩), va, na, ma, .func (.func g) #[] cap, da, ua] 70 (0, 0)))
    (hb : w.heap[b]? = some (.cells #[.pointer (some ⟨pm, 0, none⟩), vb, nb, mb, cb, db, ub] 70 (0, 0)))
    (hpa : AutoAt w T pa A) (hpm : AutoAt w T pm M) (hps : piecesP A M f0 s = some ps) (hpl : ps.length ≤ 1000) (hasc : ∀ p ∈ ps, Asc p) (hl : (ps.map f).flatten.length ≤ 1000000)
    (eg : ∀ args w, (callFunc g args).run Tryz.prog w = .ok (.enter g args) w)
    (hk : ∀ W s, Below T w W → Asc s → Calls Tryz.prog g (#[.string ⟨s.toArray⟩] ++ cap) W (TxtPost W (f s))) :
    Calls Tryz.prog 168 #[.string ⟨s.toArray⟩, .pointer (some ⟨bA, 0, none⟩), .pointer (some ⟨bP, 0, none⟩)] w (TxtPost w (ps.map f).flatten) := by
  have HP := Lib.hid (fun (W : World) (hb : Below w.heap.size w W) => pieces_any A M hA hM s ps T pa pm f0 W hs (hpa.same fun k hk => hb.block k (by omega)) (hpm.same fun k hk => hb.block k (by omega)) (Nat.le_trans hT hb.size) h6 (env_below hb (by omega) hE) hps)
  have HK := Lib.hid (fun (W : World) (s : Txt) (hb : Below w.heap.size w W) (hs : Asc s) => hk W s (hb.mono hT) hs)
  obtain ⟨W, hW⟩ : ∃ W, w.alloc (.cells #[.pointer none, .slice none 0 0] 218) = W := ⟨_, rfl⟩
  have hbW : Below w.heap.size w W := by rw [← hW]; exact (Below.refl _ _).alloc (Nat.le_refl _) _
  have hB : W.heap[w.heap.size]? = some (.cells #[.pointer none, .slice none 0 0] 218 (0, 0)) := by rw [← hW]; exact alloc_at _ _
  have sba := lt_of_at hbA; have sbp := lt_of_at hbP; have sqa := lt_of_at hqa; have sb := lt_of_at hb
  have CA := Lib.hid (cell_at hbA 0); have CP := Lib.hid (cell_at hbP 0); have QA := Lib.hid (cell_at hqa 0); have QB := Lib.hid (cell_at hb 0); have FA := Lib.hid (cell_at hqa 4)
  have c1 : W.cell? ⟨bA, 0, none⟩ = some (.pointer (some ⟨qa, 0, none⟩)) := (hbW.cell (p := ⟨bA, 0, none⟩) sba).trans CA.out
  have c2 : W.cell? ⟨bP, 0, none⟩ = some (.pointer (some ⟨b, 0, none⟩)) := (hbW.cell (p := ⟨bP, 0, none⟩) sbp).trans CP.out
  have c3 : W.cell? ⟨qa, 0, none⟩ = some (.pointer (some ⟨pa, 0, none⟩)) := (hbW.cell (p := ⟨qa, 0, none⟩) sqa).trans QA.out
  have c4 : W.cell? ⟨b, 0, none⟩ = some (.pointer (some ⟨pm, 0, none⟩)) := (hbW.cell (p := ⟨b, 0, none⟩) sb).trans QB.out
  have HBW := Lib.hid hbW; have HB := Lib.hid hB; have HW := Lib.hid hW; have HASC := Lib.hid hasc; have HL := Lib.hid hl
  have hsW := lt_of_at hB
  obtain ⟨sv, hsv⟩ : ∃ b : ByteArray, (⟨s.toArray⟩ : ByteArray) = b := ⟨_, rfl⟩
  rw [hsv] at HP ⊢
  clear hbA hbP hqa hb hpa hpm hps hk hE hs hW hbW hB hasc hl hsv
  go_enter Tryz.func168, Tryz.ntmps168
  go_wp2
  rw [HW.out]
  go_region_held3 (fun w' => w'.cell? ⟨bA, 0, none⟩ = some (.pointer (some ⟨qa, 0, none⟩)) ∧ w'.cell? ⟨bP, 0, none⟩ = some (.pointer (some ⟨b, 0, none⟩)) ∧ w'.cell? ⟨qa, 0, none⟩ = some (.pointer (some ⟨pa, 0, none⟩)) ∧ w'.cell? ⟨b, 0, none⟩ = some (.pointer (some ⟨pm, 0, none⟩)))
    (first
      | exact ⟨c1, c2, c3, c4⟩
      | exact ⟨(HB2.out.cell (p := ⟨bA, 0, none⟩) sba).trans CA.out, (HB2.out.cell (p := ⟨bP, 0, none⟩) sbp).trans CP.out, (HB2.out.cell (p := ⟨qa, 0, none⟩) sqa).trans QA.out, (HB2.out.cell (p := ⟨b, 0, none⟩) sb).trans QB.out⟩)
    (first
      | ((with_reducible refine (HP.out W.drew HBW.out.drew).mono ?_); rintro e w2 ⟨p, cp, rfl, hown, hb2⟩
         have hB2 : w2.heap[w.heap.size]? = some (.cells #[.pointer none, .slice none 0 0] 218 (0, 0)) := below_at hb2 HB.out hsW
         have HOWN := Lib.hid hown
         have HB2 := Lib.hid (HBW.out.drew.trans (hb2.mono (Nat.le_of_lt hsW)))
         have HBB2 := Lib.hid hB2
         clear hown hb2 hB2))
  have hB2 := HBB2.out
  have hst : Lib.IsBuilder 218 5 w.heap.size w.heap.size (Lib.byteCells []) w2 := .inl ⟨Nat.le_refl _, _, hB2, World.ownsRow_nil _ _ _ _, by simp [Value.ownBlock]⟩
  have HST := Lib.hid hst
  clear hB2 hst
  go_wp2
  go_loopw [21] (fun i wr => ∃ k : Nat, k ≤ ps.length ∧ i = .int .i64 k ∧ Hid (Lib.IsBuilder 218 5 w.heap.size w.heap.size (Lib.byteCells (((ps.take k).map f).flatten)) wr ∧ Below w.heap.size w wr ∧ wr.ownsRow W.drew.heap.size 9 1 (.slice p ps.length cp) ps.length (ps.map strV))) (fun i _ => ps.length - (intOf i).toNat)
  case atStart => exact ⟨0, Nat.zero_le _, rfl, Lib.hid ⟨HST.out, HB2.out, HOWN.out⟩⟩
  case round =>
    obtain ⟨k, hk, rfl, hS⟩ := hrel
    have hbw := hS.out.2.1
    by_cases hlt : k < ps.length
    · obtain ⟨gp, rfl⟩ := ownsRow_some hS.out.2.2 (by omega)
      have hck := hS.out.2.2.cellAt k (by omega)
      rw [List.getElem?_map, List.getElem?_eq_getElem hlt] at hck
      obtain ⟨y, hy⟩ : ∃ y, ps[k] = y := ⟨_, rfl⟩
      rw [hy] at hck
      simp only [Option.map_some, strV] at hck
      have hya : Asc y := by rw [← hy]; exact HASC.out _ (List.getElem_mem hlt)
      have htk : ((ps.take (k + 1)).map f).flatten = ((ps.take k).map f).flatten ++ f y := by
        rw [List.take_succ_eq_append_getElem hlt, hy, List.map_append, List.flatten_append]; simp
      have hlen : ((ps.take k).map f).flatten.length + (f y).length ≤ 1000000 := by
        have h1 := HL.out
        rw [← List.length_append, ← htk]
        rw [← List.take_append_drop (k + 1) ps, List.map_append, List.flatten_append, List.length_append] at h1
        omega
      have c1 : wr.cell? ⟨bA, 0, none⟩ = some (.pointer (some ⟨qa, 0, none⟩)) := (hbw.cell (p := ⟨bA, 0, none⟩) sba).trans CA.out
      have c2 : wr.cell? ⟨qa, 4, none⟩ = some (.func (.func g) #[] cap) := (hbw.cell (p := ⟨qa, 4, none⟩) sqa).trans FA.out
      have i0 : (0 : Int) ≤ (k : Int) := by omega
      have i1 : (k : Int) < (ps.length : Int) := by omega
      have HY := Lib.hid hy; have HYA := Lib.hid hya; have HTK := Lib.hid htk; have HLEN := Lib.hid hlen; have HBWR := Lib.hid hbw
      have hszr := hbw.size
      clear hy hya htk hlen hbw
      go_wp2_with fail
      refine (HK.out wr y HBWR.out HYA.out).mono ?_
      rintro e w3 ⟨rfl, hb3⟩
      have hbld := builder_keep hS.out.1 (fun k hk => hb3.block k hk)
      have hown3 := ownsRow_keep hS.out.2.2 (w' := w3) (fun k _ hk => hb3.block k hk)
      have HBLD := Lib.hid hbld; have HOWN3 := Lib.hid hown3; have HB3 := Lib.hid (HBWR.out.trans (hb3.mono hszr))
      have hsz3 := hb3.size
      clear hbld hown3 hb3 hck c1 c2
      go_wp2_with fail
      refine (writeString_any w.heap.size w.heap.size _ ⟨(f y).toArray⟩ w3 HBLD.out (by rw [Lib.byteCells_length, size_of_txt]; have := HLEN.out; omega) (by omega)).mono ?_
      rintro e w4 ⟨rfl, ⟨hbld, hb4⟩, hkw⟩
      have HBLD4 := Lib.hid hbld; have HB4 := Lib.hid (HB3.out.trans hb4)
      have HOWN4 := Lib.hid (ownsRow_types HOWN3.out (w' := w4) (fun k us hk => hkw k us 9 hk (by decide) (by decide)))
      clear hbld hb4 hkw
      go_wp2
      refine ⟨⟨k + 1, by omega, rfl, Lib.hid ⟨.inr ?_, HB4.out, HOWN4.out⟩⟩, by simp [intOf]; omega⟩
      rw [HTK.out, ← byteCells_append]
      exact HBLD4.out
    · have hke : k = ps.length := by omega
      subst hke
      have HBWR := Lib.hid hbw
      have hszr := hbw.size
      clear hbw
      go_wp2_with fail
      refine (Tryz.Builder_String_any w.heap.size w.heap.size _ wr hS.out.1 hszr).mono ?_
      rintro e w3 ⟨rfl, hb3⟩
      have HB3 := Lib.hid (HBWR.out.trans hb3)
      clear hb3
      rw [List.take_length]
      go_wp2
      go_ret
      exact ⟨rfl, HB3.out⟩
end Go.Proofs.YtiocjdggdmeggaaGreatDoor
