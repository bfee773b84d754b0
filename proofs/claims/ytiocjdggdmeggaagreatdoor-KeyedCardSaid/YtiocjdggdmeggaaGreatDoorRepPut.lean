/-
  The walk of Repeat's second closure: it puts piece by piece, by keys.
-/
import Derived.Test.YtiocjdggdmeggaaGreatDoorRepGet
import Derived.Deep.AppendLies
namespace Go.Proofs.YtiocjdggdmeggaaGreatDoor
open Go.RowKit Go.Shelf
theorem ownsRow_base {w : World} {B B' e z n : Nat} {v : Value} {xs : List Value} (h : w.ownsRow B' e z v n xs) (hB : B ≤ B') : w.ownsRow B e z v n xs := by
  refine ⟨h.1, ?_⟩
  rcases h.2 with h | ⟨g, cap, cur, hv, h1, hh⟩
  · exact .inl h
  · exact .inr ⟨g, cap, cur, hv, Nat.le_trans hB h1, hh⟩
theorem PoolAt.types {w w' : World} {B bp : Nat} {ps keys : List Txt} {used : List Bool} (h : PoolAt w B bp ps keys used) (hs : ∀ (k : Nat) (us : Array Value) (t : TypeId), w.heap[k]? = some (.cells us t (0, 0)) → t = 224 ∨ t = 9 ∨ t = 4 → w'.heap[k]? = w.heap[k]?) : PoolAt w' B bp ps keys used := by
  obtain ⟨p1, c1, g2, c2, g3, c3, h1, h2, h3, h4⟩ := h
  exact ⟨p1, c1, g2, c2, g3, c3, (hs bp _ 224 h1 (.inl rfl)).trans h1, ownsRow_types h2 (fun k us hk => hs k us 9 hk (.inr (.inl rfl))), ownsRow_types h3 (fun k us hk => hs k us 9 hk (.inr (.inl rfl))), ownsRow_types h4 (fun k us hk => hs k us 4 hk (.inr (.inr rfl)))⟩
theorem builder_types {w w' : World} {B b : Nat} {bs : List Value} (h : Lib.IsBuilder 218 5 B b bs w) (hs : ∀ (k : Nat) (us : Array Value) (t : TypeId), w.heap[k]? = some (.cells us t (0, 0)) → t = 218 ∨ t = 5 → w'.heap[k]? = w.heap[k]?) : Lib.IsBuilder 218 5 B b bs w' := by
  have key : ∀ v, w.ownsRow B 5 1 v bs.length bs → w'.ownsRow B 5 1 v bs.length bs := fun v h3 => by
    refine ⟨h3.1, ?_⟩
    rcases h3.2 with h | ⟨g, cap, cur, hv, h1, hh, h2⟩
    · exact .inl h
    · exact .inr ⟨g, cap, cur, hv, h1, (hs g cur 5 hh (.inr rfl)).trans hh, h2⟩
  rcases h with ⟨h1, v, h2, h3, h4⟩ | ⟨h1, v, h2, h3, h4⟩
  · exact .inl ⟨h1, v, (hs b _ 218 h2 (.inl rfl)).trans h2, key v h3, h4⟩
  · exact .inr ⟨h1, v, (hs b _ 218 h2 (.inl rfl)).trans h2, key v h3, h4⟩
theorem putOne_length (X : Ln) (ps keys : List Txt) (st : Txt × List Bool) (v : Txt) : (putOne X ps keys st v).2.length = st.2.length := by
  unfold putOne
  split <;> simp
theorem putOnes_length (X : Ln) (ps keys : List Txt) : ∀ (vs : List Txt) (st : Txt × List Bool), (vs.foldl (putOne X ps keys) st).2.length = st.2.length
  | [], _ => rfl
  | v :: vs, st => by rw [List.foldl_cons, putOnes_length X ps keys vs, putOne_length]
theorem asc_getD {ps : List Txt} (h : ∀ p ∈ ps, Asc p) (j : Nat) : Asc (ps.getD j []) := by
  rw [List.getD_eq_getElem?_getD]
  cases hj : ps[j]? with
  | none => exact Asc.nil
  | some p => exact h p (List.mem_of_getElem? hj)
theorem putOnes_size (X : Ln) (hx : X.extra ≤ 1000000) (ps keys : List Txt) (hps : ∀ p ∈ ps, Asc p) : ∀ (vs : List Txt) (st : Txt × List Bool), (∀ v ∈ vs, Asc v) → (vs.foldl (putOne X ps keys) st).1.length ≤ st.1.length + vs.length * 2000000
  | [], st, _ => by simp
  | v :: vs, st, hv => by
    have h1 := putOnes_size X hx ps keys hps vs (putOne X ps keys st v) (fun u hu => hv u (by simp [hu]))
    have h2 : (putOne X ps keys st v).1.length ≤ st.1.length + 2000000 := by
      have hv1 := (hv v (by simp)).1
      unfold putOne
      split
      · rename_i j _
        have a1 := put_len X v (ps.getD j [])
        have a2 := (asc_getD hps j).1
        rw [List.length_append]
        omega
      · have a1 := create_len X v
        rw [List.length_append]
        omega
    rw [List.foldl_cons, List.length_cons]
    omega
theorem foldl_take {α β : Type} (f : β → α → β) (b : β) (l : List α) (k : Nat) (h : k < l.length) : (l.take (k + 1)).foldl f b = f ((l.take k).foldl f b) l[k] := by
  rw [List.take_succ_eq_append_getElem h, List.foldl_append]
  rfl
theorem step_call {P : Program} {ops : Array Oper} {o : Oper} {a : Act} {w : World} {K : Act → World → Prop} {Q : Exit → Act → World → Prop} {E : Prop} {f : FuncId} {args : Array Value} {R : Ending → World → Prop} (hgd : o.guard = none)
    (he : (execOp a.eval o).run P w = .ok (.enter f args) w) (hc : Calls P f args w R) (h : ∀ e w', R e w' → ∃ v, e = .returned v ∧ K (a.put o.dst v) w') : if Region.wanted o (yielded ops a.tmps) = true then Oper.wp P o a w K Q else E := by
  have hw : Region.wanted o (yielded ops a.tmps) = true := by simp [Region.wanted, hgd]
  rw [if_pos hw]
  unfold Oper.wp
  rw [he, Oper.upon_enter]
  refine hc.mono fun e w' hR => ?_
  obtain ⟨v, rfl, hk⟩ := h e w' hR
  exact hk
/-- The pool while its keys are gathered. -/
def KeyAt (w : World) (bp : Nat) (p : Option Addr) (cp : Nat) (ps ks : List Txt) (gk ck : Nat) (wr : World) : Prop :=
  wr.heap[bp]? = some (.cells #[.slice p ps.length cp, .slice (some ⟨gk, 0, none⟩) ks.length ck, .slice none 0 0] 224 (0, 0)) ∧ wr.ownsRow w.heap.size 9 1 (.slice p ps.length cp) ps.length (ps.map strV) ∧
    wr.ownsRow (bp + 1) 9 1 (.slice (some ⟨gk, 0, none⟩) ks.length ck) ks.length (ks.map strV) ∧ Below w.heap.size w wr
theorem KeyAt.below {w : World} {bp : Nat} {p : Option Addr} {cp : Nat} {ps ks : List Txt} {gk ck : Nat} {wr w' : World} (h : KeyAt w bp p cp ps ks gk ck wr) (hb : Below wr.heap.size wr w') : KeyAt w bp p cp ps ks gk ck w' :=
  ⟨below_at hb h.1 (lt_of_at h.1), ownsRow_keep h.2.1 (fun k _ hk => hb.block k hk), ownsRow_keep h.2.2.1 (fun k _ hk => hb.block k hk), h.2.2.2.trans (hb.mono h.2.2.2.size)⟩
theorem KeyAt.push {w : World} {bp : Nat} {p : Option Addr} {cp : Nat} {ps ks : List Txt} {gk ck g cap : Nat} {wr w' : World} {x : Txt} (h : KeyAt w bp p cp ps ks gk ck wr) (hpb : ∀ k, (Value.slice p ps.length cp).ownBlock = some k → k < bp) (hbw : w.heap.size ≤ bp)
    (hown : w'.ownsRow (bp + 1) 9 1 (.slice (some ⟨g, 0, none⟩) (ks.length + 1) cap) (ks.length + 1) (ks.map strV ++ [strV x])) (hg : wr.grownBy w' (some gk)) :
    KeyAt w bp p cp ps (ks ++ [x]) g cap (w'.setCell ⟨bp, 1, none⟩ (.slice (some ⟨g, 0, none⟩) (ks.length + 1) cap)) := by
  obtain ⟨h1, h2, h3, h4⟩ := h
  have hgk := (h3.lt gk rfl).1
  have hg1 := (hown.lt g rfl).1
  have hsb := lt_of_at h1
  refine ⟨?_, ?_, ?_, ?_⟩
  · have := setCell_at ((hg.block bp hsb (by simp; omega)).trans h1) 1 (.slice (some ⟨g, 0, none⟩) (ks.length + 1) cap)
    rw [List.length_append]
    exact this
  · have hk : w'.ownsRow w.heap.size 9 1 (.slice p ps.length cp) ps.length (ps.map strV) := by
      refine ⟨h2.1, ?_⟩
      rcases h2.2 with h | ⟨g', cap', cur, hv, k1, hh, k2⟩
      · exact .inl h
      · refine .inr ⟨g', cap', cur, hv, k1, (hg.block g' (lt_of_at hh) ?_).trans hh, k2⟩
        have := hpb g' (by rw [hv]; rfl)
        simp; omega
    refine ownsRow_setCell_other hk ?_ _
    intro e
    have := hpb bp e
    omega
  · rw [List.length_append, List.map_append]
    refine ownsRow_setCell_other hown ?_ _
    simp [Value.ownBlock]; omega
  · have hsz := h4.size
    exact (h4.grown hg hsz (fun k hk => by cases hk; omega)).setCell (p := ⟨bp, 1, none⟩) hbw _
theorem pool_made {w wr w9 : World} {bp n g3 : Nat} {p : Option Addr} {cp : Nat} {ps ks : List Txt} {gk ck : Nat} (h : KeyAt w bp p cp ps ks gk ck wr) (hpb : ∀ k, (Value.slice p ps.length cp).ownBlock = some k → k < bp) (hbw : w.heap.size ≤ bp)
    (hown : w9.ownsRow (bp + 1) 4 1 (.slice (some ⟨g3, 0, none⟩) n n) n (List.replicate n (.bool false))) (hg : wr.grownBy w9 none) :
    PoolAt (w9.setCell ⟨bp, 2, none⟩ (.slice (some ⟨g3, 0, none⟩) n n)) w.heap.size bp ps ks (List.replicate n false) ∧ Below w.heap.size w (w9.setCell ⟨bp, 2, none⟩ (.slice (some ⟨g3, 0, none⟩) n n)) := by
  obtain ⟨h1, h2, h3, h4⟩ := h
  have hgk := (h3.lt gk rfl).1
  have hg3 := (hown.lt g3 rfl).1
  have hsz := h4.size
  refine ⟨⟨p, cp, gk, ck, g3, n, ?_, ?_, ?_, ?_⟩, ?_⟩
  · rw [List.length_replicate]
    exact setCell_at ((hg.block bp (lt_of_at h1) (by simp)).trans h1) 2 _
  · refine ownsRow_setCell_other (ownsRow_keep h2 (fun k _ hk => hg.block k hk (by simp))) ?_ _
    intro e
    have := hpb bp e
    omega
  · refine ownsRow_base (ownsRow_setCell_other (ownsRow_keep h3 (fun k _ hk => hg.block k hk (by simp))) ?_ _) (by omega)
    simp [Value.ownBlock]; omega
  · rw [List.length_replicate, List.map_replicate]
    refine ownsRow_base (ownsRow_setCell_other hown ?_ _) (by omega)
    simp [Value.ownBlock]; omega
  · exact (h4.grown hg hsz (fun k hk => by cases hk)).setCell (p := ⟨bp, 2, none⟩) hbw _
set_option maxHeartbeats 1000000 in
set_option maxRecDepth 100000 in
theorem fn172 (X : Ln) (A M A2 M2 : PA) (hA : A.Ok) (hM : M.Ok) (hA2 : A2.Ok) (hM2 : M2.Ok) (T bA bP bK qa b pa pm pv pw g1 g2 g3 f0 f1 : Nat) (cap1 cap2 cap3 : Array Value) (na ma nb mb cb db ub : Value) (v s : Txt) (vs ps : List Txt) (w : World) (hv : Asc v) (hs : Asc s) (hT : T ≤ w.heap.size) (h6 : 6 < T) (hE : Env w)
    (hbA : w.heap[bA]? = some (.cells #[.pointer (some ⟨qa, 0, none⟩)] 52 (0, 0))) (hbP : w.heap[bP]? = some (.cells #[.pointer (some ⟨b, 0, none⟩)] 52 (0, 0))) (hbK : w.heap[bK]? = some (.cells #[.bool true] 4 (0, 0)))
    (hqa : w.heap[qa]? = some (.cells #[.pointer (some ⟨pa, 0, none⟩), .pointer (some ⟨pv, 0, none⟩), na, ma, .func (.func g1) #[] cap1, .func (.func g2) #[] cap2, .func (.func g3) #[] cap3] 70 (0, 0)))
    (hb : w.heap[b]? = some (.cells #[.pointer (some ⟨pm, 0, none⟩), .pointer (some ⟨pw, 0, none⟩), nb, mb, cb, db, ub] 70 (0, 0)))
    (hpa : AutoAt w T pa A) (hpm : AutoAt w T pm M) (hpv : AutoAt w T pv A2) (hpw : AutoAt w T pw M2) (hps : piecesP A M f0 s = some ps) (hpl : ps.length ≤ 1000) (hasc : ∀ p ∈ ps, Asc p) (hvs : piecesP A2 M2 f1 v = some vs) (hvl : vs.length ≤ 1000) (hvasc : ∀ p ∈ vs, Asc p) (hx : X.extra ≤ 1000000)
    (e1 : ∀ args w, (callFunc g1 args).run Tryz.prog w = .ok (.enter g1 args) w) (e2 : ∀ args w, (callFunc g2 args).run Tryz.prog w = .ok (.enter g2 args) w) (e3 : ∀ args w, (callFunc g3 args).run Tryz.prog w = .ok (.enter g3 args) w)
    (k1 : ∀ W s, Below T w W → Asc s → Calls Tryz.prog g1 (#[.string ⟨s.toArray⟩] ++ cap1) W (TxtPost W (X.get s)))
    (k2 : ∀ W s, Below T w W → Asc s → Calls Tryz.prog g2 (#[.string ⟨s.toArray⟩] ++ cap2) W (TxtPost W (X.create s)))
    (k3 : ∀ W v s, Below T w W → Asc v → Asc s → Calls Tryz.prog g3 (#[.string ⟨v.toArray⟩, .string ⟨s.toArray⟩] ++ cap3) W (TxtPost W (X.put v s))) :
    Calls Tryz.prog 172 #[.string ⟨v.toArray⟩, .string ⟨s.toArray⟩, .pointer (some ⟨bA, 0, none⟩), .pointer (some ⟨bP, 0, none⟩), .pointer (some ⟨bK, 0, none⟩)] w (TxtPost w (putKeys X vs ps)) := by
  have HP := Lib.hid (fun (W : World) (hb : Below w.heap.size w W) => pieces_any A M hA hM s ps T pa pm f0 W hs (hpa.same fun k hk => hb.block k (by omega)) (hpm.same fun k hk => hb.block k (by omega)) (Nat.le_trans hT hb.size) h6 (env_below hb (by omega) hE) hps)
  have HV := Lib.hid (fun (W : World) (hb : Below w.heap.size w W) => pieces_any A2 M2 hA2 hM2 v vs T pv pw f1 W hv (hpv.same fun k hk => hb.block k (by omega)) (hpw.same fun k hk => hb.block k (by omega)) (Nat.le_trans hT hb.size) h6 (env_below hb (by omega) hE) hvs)
  have K1 := Lib.hid (fun (W : World) (s : Txt) (hb : Below w.heap.size w W) (hs : Asc s) => k1 W s (hb.mono hT) hs)
  have K2 := Lib.hid (fun (W : World) (s : Txt) (hb : Below w.heap.size w W) (hs : Asc s) => k2 W s (hb.mono hT) hs)
  have K3 := Lib.hid (fun (W : World) (v s : Txt) (hb : Below w.heap.size w W) (hv : Asc v) (hs : Asc s) => k3 W v s (hb.mono hT) hv hs)
  have sba := lt_of_at hbA; have sbp := lt_of_at hbP; have sbk := lt_of_at hbK; have sqa := lt_of_at hqa; have sb := lt_of_at hb
  have CA := Lib.hid (cell_at hbA 0); have CP := Lib.hid (cell_at hbP 0); have CK := Lib.hid (cell_at hbK 0); have QA := Lib.hid (cell_at hqa 0); have QB := Lib.hid (cell_at hb 0); have QA1 := Lib.hid (cell_at hqa 1); have QB1 := Lib.hid (cell_at hb 1)
  have F1 := Lib.hid (cell_at hqa 4); have F2 := Lib.hid (cell_at hqa 5); have F3 := Lib.hid (cell_at hqa 6)
  have c1 : w.cell? ⟨bA, 0, none⟩ = some (.pointer (some ⟨qa, 0, none⟩)) := CA.out
  have c2 : w.cell? ⟨bP, 0, none⟩ = some (.pointer (some ⟨b, 0, none⟩)) := CP.out
  have c3 : w.cell? ⟨qa, 0, none⟩ = some (.pointer (some ⟨pa, 0, none⟩)) := QA.out
  have c4 : w.cell? ⟨b, 0, none⟩ = some (.pointer (some ⟨pm, 0, none⟩)) := QB.out
  have HASC := Lib.hid hasc; have HVASC := Lib.hid hvasc; have HXE := Lib.hid hx
  obtain ⟨sv, hsv⟩ : ∃ b : ByteArray, (⟨s.toArray⟩ : ByteArray) = b := ⟨_, rfl⟩
  obtain ⟨vv, hvv⟩ : ∃ b : ByteArray, (⟨v.toArray⟩ : ByteArray) = b := ⟨_, rfl⟩
  rw [hsv] at HP ⊢
  rw [hvv] at HV ⊢
  clear hbA hbP hbK hqa hb hpa hpm hpv hpw hps hvs k1 k2 k3 hE hs hv hasc hvasc hsv hvv hx
  go_enter Tryz.func172, Tryz.ntmps172
  go_wp2
  go_region_held3 (fun w' => w'.cell? ⟨bA, 0, none⟩ = some (.pointer (some ⟨qa, 0, none⟩)) ∧ w'.cell? ⟨bP, 0, none⟩ = some (.pointer (some ⟨b, 0, none⟩)) ∧ w'.cell? ⟨qa, 0, none⟩ = some (.pointer (some ⟨pa, 0, none⟩)) ∧ w'.cell? ⟨b, 0, none⟩ = some (.pointer (some ⟨pm, 0, none⟩)))
    (first
      | exact ⟨c1, c2, c3, c4⟩
      | exact ⟨d1, d2, d3, d4⟩
      | go_keep)
    (first
      | ((with_reducible refine (HP.out w.drew (Below.refl _ _).drew).mono ?_); rintro e w2 ⟨p, cp, rfl, hown, hb2⟩
         have HOWN := Lib.hid hown
         have HB2 := Lib.hid (show Below w.heap.size w w2 from (Below.refl w.heap.size w).drew.trans hb2)
         have d1 : w2.cell? ⟨bA, 0, none⟩ = some (.pointer (some ⟨qa, 0, none⟩)) := (HB2.out.cell (p := ⟨bA, 0, none⟩) sba).trans CA.out
         have d2 : w2.cell? ⟨bP, 0, none⟩ = some (.pointer (some ⟨b, 0, none⟩)) := (HB2.out.cell (p := ⟨bP, 0, none⟩) sbp).trans CP.out
         have d3 : w2.cell? ⟨qa, 0, none⟩ = some (.pointer (some ⟨pa, 0, none⟩)) := (HB2.out.cell (p := ⟨qa, 0, none⟩) sqa).trans QA.out
         have d4 : w2.cell? ⟨b, 0, none⟩ = some (.pointer (some ⟨pm, 0, none⟩)) := (HB2.out.cell (p := ⟨b, 0, none⟩) sb).trans QB.out
         clear hown hb2))
  obtain ⟨bp, hbp⟩ : ∃ bp, w2.heap.size = bp := ⟨_, rfl⟩
  obtain ⟨w3, hw3⟩ : ∃ w3, w2.alloc (.cells #[.slice p ps.length cp, .slice none 0 0, .slice none 0 0] 224) = w3 := ⟨_, rfl⟩
  have hpool : w3.heap[bp]? = some (.cells #[.slice p ps.length cp, .slice none 0 0, .slice none 0 0] 224 (0, 0)) := by rw [← hw3, ← hbp]; exact alloc_at _ _
  have hown3 : w3.ownsRow w.heap.size 9 1 (.slice p ps.length cp) ps.length (ps.map strV) := by rw [← hw3]; exact HOWN.out.alloc _
  have hpb : ∀ k, (Value.slice p ps.length cp).ownBlock = some k → k < bp := fun k hk => by rw [← hbp]; exact (HOWN.out.lt k hk).2
  have hb3 : Below w.heap.size w w3 := by rw [← hw3]; exact HB2.out.alloc HB2.out.size _
  have hs3 : w3.heap.size = bp + 1 := by rw [← hw3, ← hbp]; simp
  have hbpw : w.heap.size ≤ bp := by rw [← hbp]; exact HB2.out.size
  rw [hw3, hbp]
  have l0 : ∀ o, (w3.alloc o).cell? ⟨bp, 0, none⟩ = some (.slice p ps.length cp) := fun o => cell_at (alloc_old hpool o) 0
  have l1 : ∀ o, (w3.alloc o).cell? ⟨bp, 1, none⟩ = some (.slice none 0 0) := fun o => cell_at (alloc_old hpool o) 1
  have l2 : ∀ o, (w3.alloc o).frozen? ⟨bp, 1, none⟩ = false := fun o => frozen_at (alloc_old hpool o) 1
  have l3 : w3.cell? ⟨bK, 0, none⟩ = some (.bool true) := (hb3.cell (p := ⟨bK, 0, none⟩) sbk).trans CK.out
  have HPOOL := Lib.hid hpool; have HOWN3 := Lib.hid hown3; have HPB := Lib.hid hpb; have HB3 := Lib.hid hb3; have HS3 := Lib.hid hs3
  clear hbp hw3 hpool hown3 hpb hb3 hs3 c1 c2 c3 c4 d1 d2 d3 d4 HOWN HB2
  go_wp2
  obtain ⟨w4, hw4⟩ : ∃ w4, ((w3.alloc (.cells #[] 9)).setCell ⟨bp, 1, none⟩ (.slice (some ⟨w3.heap.size, 0, none⟩) 0 0)) = w4 := ⟨_, rfl⟩
  rw [hw4]
  obtain ⟨gk0, hgk0⟩ : ∃ g, w3.heap.size = g := ⟨_, rfl⟩
  have hka : KeyAt w bp p cp ps [] gk0 0 w4 := by
    rw [← hw4, ← hgk0]
    refine ⟨setCell_at (alloc_old HPOOL.out _) 1 _, ownsRow_setCell_other (HOWN3.out.alloc _) (fun e => ?_) _, ownsRow_setCell_other (World.ownsRow_lit w3 #[] 0 (by rw [HS3.out]; exact Nat.le_refl _) (by unfold maxLen; omega) rfl) ?_ _, ?_⟩
    · have := HPB.out bp e
      omega
    · have := HS3.out
      simp [Value.ownBlock]; omega
    · exact (HB3.out.alloc HB3.out.size _).setCell (p := ⟨bp, 1, none⟩) hbpw _
  have HKA := Lib.hid hka
  obtain ⟨i9, hi, z0, z1, z2⟩ := info_parts info9
  have HI := Lib.hid hi; have Z0 := Lib.hid z0; have Z1 := Lib.hid z1; have Z2 := Lib.hid z2
  have n1 : ¬ bp = bA := by omega
  have n2 : ¬ bA = bp := by omega
  have n3 : ¬ bp = qa := by omega
  have n4 : ¬ qa = bp := by omega
  rw [hgk0]
  clear hka hw4 hgk0 l0 l1 l2 l3 hi z0 z1 z2
  go_loopw [40] (fun i wr => ∃ (ks : List Txt) (gk ck : Nat), ks.length ≤ ps.length ∧ i = .int .i64 ks.length ∧ Hid (ks = (ps.take ks.length).map (fun s => keyP (X.get s)) ∧ KeyAt w bp p cp ps ks gk ck wr)) (fun i _ => ps.length - (intOf i).toNat)
  case atStart => exact ⟨[], gk0, 0, Nat.zero_le _, rfl, Lib.hid ⟨rfl, HKA.out⟩⟩
  case round =>
    obtain ⟨ks, gk, ck, hk, rfl, hS⟩ := hrel
    have hka := hS.out.2
    have HBW := Lib.hid hka.2.2.2
    by_cases hlt : ks.length < ps.length
    · obtain ⟨gp, rfl⟩ := ownsRow_some hka.2.1 (by omega)
      have hck := hka.2.1.cellAt ks.length (by omega)
      rw [List.getElem?_map, List.getElem?_eq_getElem hlt] at hck
      obtain ⟨y, hy⟩ : ∃ y, ps[ks.length] = y := ⟨_, rfl⟩
      rw [hy] at hck
      simp only [Option.map_some, strV] at hck
      have hya : Asc y := by rw [← hy]; exact HASC.out _ (List.getElem_mem hlt)
      have a1 : wr.cell? ⟨bA, 0, none⟩ = some (.pointer (some ⟨qa, 0, none⟩)) := (HBW.out.cell (p := ⟨bA, 0, none⟩) sba).trans CA.out
      have a2 : wr.cell? ⟨qa, 4, none⟩ = some (.func (.func g1) #[] cap1) := (HBW.out.cell (p := ⟨qa, 4, none⟩) sqa).trans F1.out
      have a3 : wr.cell? ⟨bp, 1, none⟩ = some (.slice (some ⟨gk, 0, none⟩) ks.length ck) := cell_at hka.1 1
      have i0 : (0 : Int) ≤ (ks.length : Int) := by omega
      have i1 : (ks.length : Int) < (ps.length : Int) := by omega
      have HY := Lib.hid hy; have HYA := Lib.hid hya; have HKA2 := Lib.hid hka
      have hk1000 : ks.length ≤ 1000 := by omega
      have HGL : Hid ((X.get y).length ≤ 100000) := Lib.hid (by have := get_len X y; have := hya.1; omega)
      clear hy hya hka
      go_wp2
      go_region_law (first
          | (with_reducible show (if Region.wanted { dst := some 57, op := .call { callee := .builtin .append, args := #[.tmp 48, .tmp 56], argTypes := #[36, 36] }, type := _, pos := _, after := _, guard := _ } _ = true then _ else _)
             refine step_append_lies _ (by rfl) _ _ _ (by rfl) (bp + 1) 9 i9 (.string ⟨#[]⟩) 1 16 Tryz.underlying36 HI.out Z0.out Z1.out Z2.out rfl (by decide) (.slice (some ⟨gk, 0, none⟩) ks.length ck) ks.length (ks.map strV) (by rfl) (HK6.out.2.2.1.alloc _) ⟨w6.heap.size, 0, none⟩ 1 1 [strV (keyP (X.get y))] (by rfl) (by rfl) (World.news_of_block (cs := #[strV (keyP (X.get y))]) (t := 9) (fr := (0, 0)) (alloc_at _ _)) (fun u hu => by simp at hu; subst hu; rfl) (by omega) (by unfold maxLen; omega) (by omega) (by simp; omega) (w6.heap.size + 1) (by simp) ?_
             intro g8 c8 w8 hown8 hgrow8 hat8 hlt8
             have HK8 := Lib.hid ((HK6.out.below ((Below.refl _ _).alloc (Nat.le_refl _) (.cells #[strV (keyP (X.get y))] 9))).push HPB.out hbpw hown8 hgrow8)
             have hpool8 : w8.heap[bp]? = some (.cells #[.slice (some ⟨gp, 0, none⟩) ps.length cp, .slice (some ⟨gk, 0, none⟩) ks.length ck, .slice none 0 0] 224 (0, 0)) := (hgrow8.block bp (by simp; omega) (fun e => by have h1 := (HK6.out.2.2.1.lt gk rfl).1; have h2 : bp = gk := Option.some.inj e; omega)).trans (alloc_old HK6.out.1 _)
             have s3 : w8.cell? ⟨bp, 1, none⟩ = some (.slice (some ⟨gk, 0, none⟩) ks.length ck) := cell_at hpool8 1
             have s4 : w8.frozen? ⟨bp, 1, none⟩ = false := frozen_at hpool8 1
             clear hown8 hgrow8 hat8 hlt8 hpool8)
          | (go_simp
             with_reducible refine (K1.out wr.drew y HBW.out.drew HYA.out).mono ?_
             rintro e w5 ⟨rfl, hb5⟩
             have HK5 := Lib.hid (HKA2.out.below (show Below wr.heap.size wr w5 from (Below.refl wr.heap.size wr).drew.trans hb5))
             have b1 : w5.cell? ⟨bA, 0, none⟩ = some (.pointer (some ⟨qa, 0, none⟩)) := (HK5.out.2.2.2.cell (p := ⟨bA, 0, none⟩) sba).trans CA.out
             have b2 : w5.cell? ⟨qa, 4, none⟩ = some (.func (.func g1) #[] cap1) := (HK5.out.2.2.2.cell (p := ⟨qa, 4, none⟩) sqa).trans F1.out
             have b3 : w5.cell? ⟨bp, 1, none⟩ = some (.slice (some ⟨gk, 0, none⟩) ks.length ck) := cell_at HK5.out.1 1
             clear hb5)
          | (go_simp
             with_reducible refine (key_any (X.get y) w5 HGL.out).mono ?_
             rintro e w6 ⟨rfl, hb6⟩
             have HK6 := Lib.hid (HK5.out.below hb6)
             have q3 : w6.cell? ⟨bp, 1, none⟩ = some (.slice (some ⟨gk, 0, none⟩) ks.length ck) := cell_at HK6.out.1 1
             have r3 : ∀ o, (w6.alloc o).cell? ⟨bp, 1, none⟩ = some (.slice (some ⟨gk, 0, none⟩) ks.length ck) := fun o => cell_at (alloc_old HK6.out.1 o) 1
             have hs6 : bp < w6.heap.size := lt_of_at HK6.out.1
             clear hb6))
      all_goals go_wp2
      all_goals
        refine ⟨⟨ks ++ [keyP (X.get y)], g8, c8, by simp; omega, by simp, Lib.hid ⟨?_, HK8.out⟩⟩, by simp [intOf]; omega⟩
        rw [List.length_append]
        show _ = (ps.take (ks.length + 1)).map _
        rw [List.take_succ_eq_append_getElem hlt, HY.out, List.map_append, ← hS.out.1]
        rfl
    · have hke : ks.length = ps.length := by omega
      have hks : ks = ps.map (fun s => keyP (X.get s)) := by
        have := hS.out.1
        rw [hke, List.take_length] at this
        exact this
      obtain ⟨i4, hi4, y0, y1, y2⟩ := info_parts info4
      have a3 : wr.cell? ⟨bp, 0, none⟩ = some (.slice p ps.length cp) := cell_at hka.1 0
      have HKS := Lib.hid hks; have HKA3 := Lib.hid hka; have HKE := Lib.hid hke
      have hszr : bp < wr.heap.size := lt_of_at hka.1
      have hkc : ¬ ((ks.length : Int) < (ps.length : Int)) := by omega
      clear hks hka hke hS
      go_wp2_with (at_make; refine wpList_make_full _ rfl _ _ 110 rfl (bp + 1) 4 i4 (.bool false) 1 Tryz.underlying110 hi4 y0 y1 .i64 .i64 _ _ ps.length rfl rfl (by simp) (by simp) (by rw [y2]; omega) (by unfold maxLen; omega) (by omega) ?_; intro w9 hown9 hgrow9; have hp9 : w9.heap[bp]? = some (.cells #[.slice p ps.length cp, .slice (some ⟨gk, 0, none⟩) ks.length ck, .slice none 0 0] 224 (0, 0)) := (hgrow9.block bp hszr (by simp)).trans HKA3.out.1; have t1 : w9.cell? ⟨bp, 2, none⟩ = some (.slice none 0 0) := cell_at hp9 2; have t2 : w9.frozen? ⟨bp, 2, none⟩ = false := frozen_at hp9 2)
      rw [made_bools] at hown9
      obtain ⟨g9, hg9⟩ : ∃ g, wr.heap.size = g := ⟨_, rfl⟩
      rw [hg9] at hown9 ⊢
      have hpm := pool_made HKA3.out HPB.out hbpw hown9 hgrow9
      obtain ⟨wa, hwa⟩ : ∃ wa, w9.setCell ⟨bp, 2, none⟩ (.slice (some ⟨g9, 0, none⟩) ps.length ps.length) = wa := ⟨_, rfl⟩
      rw [hwa] at hpm ⊢
      obtain ⟨bb, hbb0⟩ : ∃ bb, w9.heap.size = bb := ⟨_, rfl⟩
      have hbb : wa.heap.size = bb := by rw [← hwa, ← hbb0]; simp [World.setCell]
      obtain ⟨W, hW⟩ : ∃ W, wa.alloc (.cells #[.pointer none, .slice none 0 0] 218) = W := ⟨_, rfl⟩
      have hbW : Below wa.heap.size wa W := by rw [← hW]; exact (Below.refl _ _).alloc (Nat.le_refl _) _
      have hBw : W.heap[bb]? = some (.cells #[.pointer none, .slice none 0 0] 218 (0, 0)) := by rw [← hW, ← hbb]; exact alloc_at _ _
      have hpW : PoolAt W w.heap.size bp ps ks (List.replicate ps.length false) := hpm.1.keep (fun k _ hk => hbW.block k hk) hbpw
      have hwW : Below w.heap.size w W := hpm.2.trans (hbW.mono hpm.2.size)
      have hbbw : w.heap.size ≤ bb := by rw [← hbb]; exact hpm.2.size
      have c1 : W.cell? ⟨bA, 0, none⟩ = some (.pointer (some ⟨qa, 0, none⟩)) := (hwW.cell (p := ⟨bA, 0, none⟩) sba).trans CA.out
      have c2 : W.cell? ⟨bP, 0, none⟩ = some (.pointer (some ⟨b, 0, none⟩)) := (hwW.cell (p := ⟨bP, 0, none⟩) sbp).trans CP.out
      have c3 : W.cell? ⟨qa, 1, none⟩ = some (.pointer (some ⟨pv, 0, none⟩)) := (hwW.cell (p := ⟨qa, 1, none⟩) sqa).trans QA1.out
      have c4 : W.cell? ⟨b, 1, none⟩ = some (.pointer (some ⟨pw, 0, none⟩)) := (hwW.cell (p := ⟨b, 1, none⟩) sb).trans QB1.out
      have HPW := Lib.hid hpW; have HWW := Lib.hid hwW; have HBB := Lib.hid hBw
      have hsW := lt_of_at hBw
      rw [hbb0, hW]
      clear a3 hpm hwa hbb hbb0 hW hbW hBw hpW hwW t1 t2 hp9 hown9 hgrow9 hg9 hkc hszr hi4 y0 y1 y2 HKA3
      go_region_held3 (fun w' => w'.cell? ⟨bA, 0, none⟩ = some (.pointer (some ⟨qa, 0, none⟩)) ∧ w'.cell? ⟨bP, 0, none⟩ = some (.pointer (some ⟨b, 0, none⟩)) ∧ w'.cell? ⟨qa, 1, none⟩ = some (.pointer (some ⟨pv, 0, none⟩)) ∧ w'.cell? ⟨b, 1, none⟩ = some (.pointer (some ⟨pw, 0, none⟩)))
        (first
          | exact ⟨c1, c2, c3, c4⟩
          | exact ⟨(HB2.out.cell (p := ⟨bA, 0, none⟩) sba).trans CA.out, (HB2.out.cell (p := ⟨bP, 0, none⟩) sbp).trans CP.out, (HB2.out.cell (p := ⟨qa, 1, none⟩) sqa).trans QA1.out, (HB2.out.cell (p := ⟨b, 1, none⟩) sb).trans QB1.out⟩)
        (first
          | ((with_reducible refine (HV.out W.drew HWW.out.drew).mono ?_); rintro e w2 ⟨p2, cp2, rfl, hown, hb2⟩
             have HPL := Lib.hid (HPW.out.keep (w' := w2) (fun k _ hk => hb2.block k hk) hbpw)
             have HBB2 := Lib.hid (below_at hb2 HBB.out hsW)
             have HOWN2 := Lib.hid (ownsRow_base hown (show w.heap.size ≤ W.drew.heap.size from HWW.out.size))
             have HB2 := Lib.hid (show Below w.heap.size w w2 from HWW.out.drew.trans (hb2.mono HWW.out.size))
             clear hown hb2))
      have hst : Lib.IsBuilder 218 5 w.heap.size bb (Lib.byteCells []) w2 := .inl ⟨hbbw, _, HBB2.out, World.ownsRow_nil _ _ _ _, by simp [Value.ownBlock]⟩
      have HST := Lib.hid hst
      have hksl : ks.length = ps.length := HKE.out
      have HKSL := Lib.hid hksl
      clear hst c1 c2 c3 c4 hksl
      go_wp2
      go_loopw [83] (fun i wr => ∃ k : Nat, k ≤ vs.length ∧ i = .int .i64 k ∧ Hid (Lib.IsBuilder 218 5 w.heap.size bb (Lib.byteCells ((vs.take k).foldl (putOne X ps ks) ([], List.replicate ps.length false)).1) wr ∧ PoolAt wr w.heap.size bp ps ks ((vs.take k).foldl (putOne X ps ks) ([], List.replicate ps.length false)).2 ∧ Below w.heap.size w wr ∧ wr.ownsRow w.heap.size 9 1 (.slice p2 vs.length cp2) vs.length (vs.map strV))) (fun i _ => vs.length - (intOf i).toNat)
      case atStart => exact ⟨0, Nat.zero_le _, rfl, Lib.hid ⟨HST.out, HPL.out, HB2.out, HOWN2.out⟩⟩
      case round =>
        obtain ⟨k, hk, rfl, hS⟩ := hrel
        have hbw := hS.out.2.2.1
        have hszr := hbw.size
        by_cases hlt : k < vs.length
        · obtain ⟨gp, rfl⟩ := ownsRow_some hS.out.2.2.2 (by omega)
          have hck := hS.out.2.2.2.cellAt k (by omega)
          rw [List.getElem?_map, List.getElem?_eq_getElem hlt] at hck
          obtain ⟨y, hy⟩ : ∃ y, vs[k] = y := ⟨_, rfl⟩
          rw [hy] at hck
          simp only [Option.map_some, strV] at hck
          have hya : Asc y := by rw [← hy]; exact HVASC.out _ (List.getElem_mem hlt)
          have hfl := foldl_take (putOne X ps ks) ([], List.replicate ps.length false) vs k hlt
          rw [hy] at hfl
          have hln := putOnes_length X ps ks (vs.take k) ([], List.replicate ps.length false)
          have hsz := putOnes_size X HXE.out ps ks HASC.out (vs.take k) ([], List.replicate ps.length false) (fun u hu => HVASC.out u (List.mem_of_mem_take hu))
          obtain ⟨st, hst⟩ : ∃ st, (vs.take k).foldl (putOne X ps ks) ([], List.replicate ps.length false) = st := ⟨_, rfl⟩
          have hT := take_any wr w.heap.size bp ps ks st.2 k y (by rw [← hst]; exact hS.out.2.1) hbpw HKSL.out (by rw [← hst, hln]; simp) hpl hya.1 (by omega)
          have hbl := hS.out.1
          rw [hst] at hfl hsz hbl
          have hszst : st.1.length ≤ 1000 * 2000000 := by
            have : (vs.take k).length ≤ 1000 := by simp; omega
            simp only [List.length_nil, Nat.zero_add] at hsz
            exact Nat.le_trans hsz (Nat.mul_le_mul_right _ this)
          have a1 : wr.cell? ⟨bA, 0, none⟩ = some (.pointer (some ⟨qa, 0, none⟩)) := (hbw.cell (p := ⟨bA, 0, none⟩) sba).trans CA.out
          have i0 : (0 : Int) ≤ (k : Int) := by omega
          have i1 : (k : Int) < (vs.length : Int) := by omega
          have HYA := Lib.hid hya; have HBL := Lib.hid hbl; have HFL := Lib.hid hfl; have HBW := Lib.hid hbw; have HSZ := Lib.hid hszst
          have HOWNV := Lib.hid hS.out.2.2.2
          clear hya hbl hfl hbw hszst hln hsz hst hy
          unfold TakePost at hT
          cases ho : takeIdx ks st.2 (keyP y) with
          | some j =>
            rw [ho] at hT
            dsimp only at hT
            have HT := Lib.hid hT
            have HPO := Lib.hid (putOne_some (a := X) (ps := ps) (keys := ks) (o := st.1) (used := st.2) (v := y) ho)
            have hsa := asc_getD HASC.out j
            obtain ⟨z, hz⟩ : ∃ z, ps.getD j [] = z := ⟨_, rfl⟩
            rw [hz] at HT HPO hsa
            have HSA := Lib.hid hsa
            clear hT ho hz hsa
            go_wp2_with fail
            refine HT.out.mono ?_
            rintro e w5 ⟨rfl, hpool5, hkb⟩
            have hb5 : Below w.heap.size w w5 := HBW.out.trans hkb.1
            have hbl5 := builder_types HBL.out (w' := w5) (fun k us t hk ht => hkb.2 k us t hk (by rcases ht with rfl | rfl <;> decide))
            have hov5 := ownsRow_types HOWNV.out (w' := w5) (fun k us hk => hkb.2 k us 9 hk (by decide))
            have d1 : w5.cell? ⟨bA, 0, none⟩ = some (.pointer (some ⟨qa, 0, none⟩)) := (hb5.cell (p := ⟨bA, 0, none⟩) sba).trans CA.out
            have d2 : w5.cell? ⟨qa, 6, none⟩ = some (.func (.func g3) #[] cap3) := (hb5.cell (p := ⟨qa, 6, none⟩) sqa).trans F3.out
            have HB5 := Lib.hid hb5; have HBL5 := Lib.hid hbl5; have HOV5 := Lib.hid hov5; have HPL5 := Lib.hid hpool5
            clear hb5 hbl5 hov5 hpool5 hkb a1 hck
            go_wp2_with fail
            refine (K3.out w5 y z HB5.out HYA.out HSA.out).mono ?_
            rintro e w6 ⟨rfl, hb6⟩
            have hbl6 := builder_keep HBL5.out (fun k hk => hb6.block k hk)
            have hov6 := ownsRow_keep HOV5.out (w' := w6) (fun k _ hk => hb6.block k hk)
            have hpl6 := HPL5.out.keep (w' := w6) (fun k _ hk => hb6.block k hk) hbpw
            have hb6w := HB5.out.trans (hb6.mono HB5.out.size)
            have hs6 := hb6w.size
            have HBL6 := Lib.hid hbl6; have HOV6 := Lib.hid hov6; have HPL6 := Lib.hid hpl6; have HB6 := Lib.hid hb6w
            clear hbl6 hov6 hpl6 hb6 hb6w d1 d2
            go_wp2_with fail
            refine (writeString_any w.heap.size bb _ ⟨(X.put y z).toArray⟩ w6 HBL6.out (by
              have h1 := HSZ.out
              have h2 := Nat.le_trans (put_len X y z) (Nat.add_le_add_left HSA.out.1 _)
              have h3 := HYA.out.1
              rw [Lib.byteCells_length, size_of_txt]; omega) hs6).mono ?_
            rintro e w7 ⟨rfl, ⟨hbld, hb7⟩, hkw⟩
            have HBL7 := Lib.hid hbld; have HB7 := Lib.hid (HB6.out.trans hb7)
            have HOV7 := Lib.hid (ownsRow_types HOV6.out (w' := w7) (fun k us hk => hkw k us 9 hk (by decide) (by decide)))
            have HPL7 := Lib.hid (HPL6.out.types (w' := w7) (fun k us t hk ht => hkw k us t hk (by rcases ht with rfl | rfl | rfl <;> decide) (by rcases ht with rfl | rfl | rfl <;> decide)))
            clear hbld hb7 hkw
            go_wp2
            refine ⟨⟨k + 1, by omega, rfl, Lib.hid ⟨.inr ?_, ?_, HB7.out, HOV7.out⟩⟩, by simp [intOf]; omega⟩
            · rw [HFL.out, HPO.out, ← byteCells_append]
              exact HBL7.out
            · rw [HFL.out, HPO.out]
              exact HPL7.out
          | none =>
            rw [ho] at hT
            dsimp only at hT
            have HT := Lib.hid hT
            have HPO := Lib.hid (putOne_none (a := X) (ps := ps) (keys := ks) (o := st.1) (used := st.2) (v := y) ho)
            clear hT ho
            go_wp2_with fail
            refine HT.out.mono ?_
            rintro e w5 ⟨rfl, hpool5, hkb⟩
            have hb5 : Below w.heap.size w w5 := HBW.out.trans hkb.1
            have hbl5 := builder_types HBL.out (w' := w5) (fun k us t hk ht => hkb.2 k us t hk (by rcases ht with rfl | rfl <;> decide))
            have hov5 := ownsRow_types HOWNV.out (w' := w5) (fun k us hk => hkb.2 k us 9 hk (by decide))
            have d1 : w5.cell? ⟨bA, 0, none⟩ = some (.pointer (some ⟨qa, 0, none⟩)) := (hb5.cell (p := ⟨bA, 0, none⟩) sba).trans CA.out
            have d2 : w5.cell? ⟨qa, 5, none⟩ = some (.func (.func g2) #[] cap2) := (hb5.cell (p := ⟨qa, 5, none⟩) sqa).trans F2.out
            have HB5 := Lib.hid hb5; have HBL5 := Lib.hid hbl5; have HOV5 := Lib.hid hov5; have HPL5 := Lib.hid hpool5
            clear hb5 hbl5 hov5 hpool5 hkb a1 hck
            go_wp2_with fail
            refine (K2.out w5 y HB5.out HYA.out).mono ?_
            rintro e w6 ⟨rfl, hb6⟩
            have hbl6 := builder_keep HBL5.out (fun k hk => hb6.block k hk)
            have hov6 := ownsRow_keep HOV5.out (w' := w6) (fun k _ hk => hb6.block k hk)
            have hpl6 := HPL5.out.keep (w' := w6) (fun k _ hk => hb6.block k hk) hbpw
            have hb6w := HB5.out.trans (hb6.mono HB5.out.size)
            have hs6 := hb6w.size
            have HBL6 := Lib.hid hbl6; have HOV6 := Lib.hid hov6; have HPL6 := Lib.hid hpl6; have HB6 := Lib.hid hb6w
            clear hbl6 hov6 hpl6 hb6 hb6w d1 d2
            go_wp2_with fail
            refine (writeString_any w.heap.size bb _ ⟨(X.create y).toArray⟩ w6 HBL6.out (by
              have h1 := HSZ.out
              have h2 := Nat.le_trans (create_len X y) (Nat.add_le_add_left HXE.out _)
              have h3 := HYA.out.1
              rw [Lib.byteCells_length, size_of_txt]; omega) hs6).mono ?_
            rintro e w7 ⟨rfl, ⟨hbld, hb7⟩, hkw⟩
            have HBL7 := Lib.hid hbld; have HB7 := Lib.hid (HB6.out.trans hb7)
            have HOV7 := Lib.hid (ownsRow_types HOV6.out (w' := w7) (fun k us hk => hkw k us 9 hk (by decide) (by decide)))
            have HPL7 := Lib.hid (HPL6.out.types (w' := w7) (fun k us t hk ht => hkw k us t hk (by rcases ht with rfl | rfl | rfl <;> decide) (by rcases ht with rfl | rfl | rfl <;> decide)))
            clear hbld hb7 hkw
            go_wp2
            refine ⟨⟨k + 1, by omega, rfl, Lib.hid ⟨.inr ?_, ?_, HB7.out, HOV7.out⟩⟩, by simp [intOf]; omega⟩
            · rw [HFL.out, HPO.out, ← byteCells_append]
              exact HBL7.out
            · rw [HFL.out, HPO.out]
              exact HPL7.out
        · have hke : k = vs.length := by omega
          subst hke
          have HBW := Lib.hid hbw; have HBL := Lib.hid hS.out.1
          clear hbw hS
          go_wp2_with fail
          refine (Tryz.Builder_String_any w.heap.size bb _ wr HBL.out hszr).mono ?_
          rintro e w3 ⟨rfl, hb3⟩
          have HB3 := Lib.hid (HBW.out.trans hb3)
          clear hb3
          rw [List.take_length]
          go_wp2
          go_ret
          refine ⟨?_, HB3.out⟩
          unfold putKeys
          rw [← HKS.out]
          rfl
end Go.Proofs.YtiocjdggdmeggaaGreatDoor
