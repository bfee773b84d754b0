/-
  The walk of (*Auto).link.
-/
import Derived.Test.YtiocjdggdmeggaaGreatDoorIs
import Derived.Test.YtiocjdggdmeggaaGreatDoorMake
namespace Go.Proofs.YtiocjdggdmeggaaGreatDoor
open Go.RowKit Go.Shelf
attribute [local go_sem] Oper.semAt_some

theorem link_any (A : PA) (hA : A.Ok) (src to B p gs cs gf cf : Nat) (w : World) (hs : src < 2 ^ A.n) (ht : to < 2 ^ A.n) (hAt : OwnAt w B p gs cs gf cf A) (hB : B ≤ w.heap.size) (hB6 : 6 < B) (hE : Env w) :
    Calls Tryz.prog 151 #[.pointer (some ⟨p, 0, none⟩), .agg #[.int .u64 src, .int .u64 0], .agg #[.int .u64 to, .int .u64 0]] w fun e w' => e = .returned (.tuple #[]) ∧ OwnAt w' B p gs cs gf cf (A.link src to) ∧ Ext (fun k => k = gf) w w' := by
  have HAt := Lib.hid hAt
  have HE := Lib.hid hE
  have hpw : p < w.heap.size := lt_of_at hAt.2.2.2.2.1
  have hgw : gf < w.heap.size := (hAt.2.2.2.2.2.2.lt _ rfl).2
  have hgB : B ≤ gf := (hAt.2.2.2.2.2.2.lt _ rfl).1
  have hgsw : gs < w.heap.size := (hAt.2.2.2.2.2.1.lt _ rfl).2
  have hpg : p ≠ gf := hAt.2.2.1
  have hsg : gs ≠ gf := hAt.2.2.2.1
  have hn := hA.le
  clear hAt hE
  refine (callsIn_wide (n := 3)).1 ?_
  refine callsIn_of_wp_marks Tryz.func151 rfl trivial ?_ rfl
  simp only [Tryz.ntmps151, List.size_toArray, List.length_cons, List.length_nil, Nat.reduceAdd, Nat.reduceSub, Array.replicate_succ, Array.replicate_zero, List.push_toArray, List.append_toArray, List.nil_append, List.cons_append]
  gi_wp2
  generalize hW0 : World.alloc (World.alloc (World.alloc w _) _) _ = W0
  have hb0 : W0.heap[w.heap.size]? = some (.cells #[.pointer (some ⟨p, 0, none⟩)] 62 (0, 0)) := by
    rw [← hW0]; exact alloc_old (alloc_old (alloc_at _ _) _) _
  have hb2 : W0.heap[w.heap.size + 1 + 1]? = some (.cells #[.int .u64 (to : Nat), .int .u64 0] 152 (0, 0)) := by
    rw [← hW0]; have := alloc_at ((w.alloc (Obj.cells #[.pointer (some ⟨p, 0, none⟩)] 62)).alloc (Obj.cells #[.int .u64 src, .int .u64 0] 152)) (Obj.cells #[.int .u64 (to : Nat), .int .u64 0] 152); simpa using this
  have hsz : W0.heap.size = w.heap.size + 3 := by rw [← hW0]; simp
  have hbel : Below w.heap.size w W0 := by
    rw [← hW0]; exact (((Below.refl _ w).alloc (Nat.le_refl _) _).alloc (by simp) _).alloc (by simp; omega) _
  clear hW0
  have H0 := Lib.hid hb0; have H2 := Lib.hid hb2
  have HB := Lib.hid hbel
  have HS := Lib.hid hsz
  clear hb0 hb2 hbel hsz
  have hE0 : ∀ W : World, Ext (fun b => b = gf) W0 W → Env W := fun W h j hj => by
    have := HE.out j hj
    rw [← HB.out.cell (p := ⟨6, j, none⟩) (by show 6 < w.heap.size; omega)] at this
    rw [← this]
    exact World.cell?_of_block (h.block 6 (by have := HS.out; omega) (by omega))
  have HE0 := Lib.hid hE0
  clear hE0
  refine range_outer1 (gf := 125) (pre := #[.agg #[.int .u64 src, .int .u64 0]]) (xs := bitsOf src) (E := Env) rfl (enters_of Tryz.func125 (by kernel_rfl) rfl) (each_runs src (hA.word hs))
    (fun k W => Ext (fun b => b = gf) W0 W ∧ W.ownsRow B 152 2 (.slice (some ⟨gf, 0, none⟩) A.n cf) A.n (setCells (upTo (link1 to) (bitsOf src) A.follow k)))
    ?af
    (fun k W o h => ⟨h.1.alloc o, h.2.alloc o⟩) (fun k W h => ⟨h.1.drew, h.2⟩) (fun k W h => HE0.out _ h.1)
    (fun k W l o' h hl => ⟨h.1.putObj o' (by omega), ownsRow_same h.2 (World.putObj_heap_other (by have := HS.out; omega))⟩)
    ⟨Ext.refl _ _, ownsRow_same HAt.out.2.2.2.2.2.2 (HB.out.block gf hgw)⟩ ?assign ?body ?done
  case assign =>
    intro l m x W K hK
    gi_wp2
    exact hK
  case body =>
    intro l m k x W hx hl hr hI
    have hxn : x < A.n := mem_bits_lt hs (List.mem_of_getElem? hx)
    have hfok : ∀ y ∈ upTo (link1 to) (bitsOf src) A.follow k, y < 2 ^ A.n :=
      upTo_keeps (fun f => ∀ y ∈ f, y < 2 ^ A.n) (link1 to) (bitsOf src) A.follow hA.follow (fun f i _ h => mem_set_lt h (Nat.or_lt_two_pow (getD_lt h (Nat.two_pow_pos _) i) ht)) k
    have hflen : (upTo (link1 to) (bitsOf src) A.follow k).length = A.n :=
      upTo_keeps (fun f => f.length = A.n) (link1 to) (bitsOf src) A.follow rfl (fun f i _ h => by rw [link1_length]; exact h) k
    have hnext := upTo_succ (link1 to) (bitsOf src) A.follow k x hx
    obtain ⟨f, ef⟩ : ∃ f, upTo (link1 to) (bitsOf src) A.follow k = f := ⟨_, rfl⟩
    rw [ef] at hfok hflen hnext hI
    have hrow := hI.2
    have hext := hI.1
    have hxf : x < f.length := by omega
    have hy : f[x] < 2 ^ A.n := hfok _ (List.getElem_mem hxf)
    have hcs := setCells_at f x hxf
    have c0 : W.cell? ⟨w.heap.size, 0, none⟩ = some (.pointer (some ⟨p, 0, none⟩)) := (cell_at (hext.at' H0.out (by omega)) 0).trans rfl
    have ct := cell_at (hext.at' H2.out (by omega)) 0
    have ct1 := cell_at (hext.at' H2.out (by omega)) 1
    have c1 : W.cell? ⟨p, 1, none⟩ = some (.slice (some ⟨gf, 0, none⟩) A.n cf) := (cell_at (hext.at' (below_at HB.out HAt.out.2.2.2.2.1 hpw) (by omega)) 1).trans rfl
    have c2 := (hrow.cellAt (x * 2) (by omega)).trans hcs.1
    have c3 := (hrow.cellAt (x * 2 + 1) (by omega)).trans hcs.2
    have hfz := hrow.frozenAt
    obtain ⟨y, ey⟩ : ∃ y, f[x] = y := ⟨_, rfl⟩
    rw [ey] at c2 hy
    simp only [u64v] at c2 c3
    have HNX := Lib.hid hnext
    have HY := Lib.hid ey
    have HYW := Lib.hid (hA.word hy)
    have HTW := Lib.hid (hA.word ht)
    have HRow := Lib.hid hrow
    have HExt := Lib.hid hext
    have HFZ := Lib.hid hfz
    have HF := Lib.hid hflen
    have hWs : w.heap.size + 1 + 1 < W.heap.size := by have := hext.size; have := HS.out; omega
    have HFX := Lib.hid hxf
    clear hx hr hI ef hnext hrow hext hcs hfz hy ey hflen hfok
    have HL := Lib.hid hl
    have Q0 := Lib.hid c0; have Q1 := Lib.hid c1; have Q2 := Lib.hid c2; have Q3 := Lib.hid c3; have Q4 := Lib.hid ct; have Q5 := Lib.hid ct1
    clear c0 c1 c2 c3 ct ct1 hl
    gi_wp2
    refine region_tail (Wide.round l) (fun W' => Hid (Below W.heap.size W W')) 15 (by kernel_rfl) (by kernel_rfl) (by kernel_rfl) (Lib.hid (Below.refl _ _).drew) ?_
    simp only [List.take_succ_cons, List.take_zero, List.drop_succ_cons, List.drop_zero]
    iterate 13 (refine quiet_val (by rfl) (fun W' hW' => by
      have h1 := (hW'.out.cell (p := ⟨w.heap.size, 0, none⟩) (show w.heap.size < W.heap.size by omega)).trans Q0.out
      have h2 := (hW'.out.cell (p := ⟨p, 1, none⟩) (show p < W.heap.size by omega)).trans Q1.out
      have h3 := (hW'.out.cell (p := ⟨gf, x * 2, none⟩) (show gf < W.heap.size by omega)).trans Q2.out
      have h4 := (hW'.out.cell (p := ⟨gf, x * 2 + 1, none⟩) (show gf < W.heap.size by omega)).trans Q3.out
      have h5 := (hW'.out.cell (p := ⟨w.heap.size + 1 + 1, 0, none⟩) (show w.heap.size + 1 + 1 < W.heap.size by omega)).trans Q4.out
      have h6 := (hW'.out.cell (p := ⟨w.heap.size + 1 + 1, 1, none⟩) (show w.heap.size + 1 + 1 < W.heap.size by omega)).trans Q5.out
      go_simp; rfl) ?_; try go_simp)
    refine quiet_call (v := .agg #[.int .u64 (y ||| to : Nat), .int .u64 0]) (f := 119) (args := #[.agg #[.int .u64 (y : Nat), .int .u64 0], .agg #[.int .u64 (to : Nat), .int .u64 0]]) (by rfl) (fun W' hW' => by go_simp) (fun W' hW' => ?_) ?_
    · refine (or_any y to W' HYW.out HTW.out).mono ?_
      rintro e w'' ⟨rfl, hb⟩
      exact ⟨rfl, Lib.hid (hW'.out.trans (hb.mono hW'.out.size))⟩
    try go_simp
    refine quiet_val (by rfl) (fun W' hW' => by go_simp; rfl) ?_
    try go_simp
    refine wpQuiet_nil ?_
    intro W' hW'
    have hf0 := (hW'.out.frozen (p := ⟨gf, x * 2, none⟩) (show gf < W.heap.size by omega)).trans (HFZ.out _)
    have hf1 := (hW'.out.frozen (p := ⟨gf, x * 2 + 1, none⟩) (show gf < W.heap.size by omega)).trans (HFZ.out _)
    have hd0 := (hW'.out.cell (p := ⟨gf, x * 2, none⟩) (show gf < W.heap.size by omega)).trans Q2.out
    have hd1 := (hW'.out.cell (p := ⟨gf, x * 2 + 1, none⟩) (show gf < W.heap.size by omega)).trans Q3.out
    have HW' := Lib.hid hW'.out
    clear hW'
    gi_wp2
    have hE2 : Ext (fun b => b = gf) W ((W'.setCell ⟨gf, x * 2, none⟩ (.int .u64 (y ||| to : Nat))).setCell ⟨gf, x * 2 + 1, none⟩ (.int .u64 0)) :=
      ((Ext.of_below (S := fun b => b = gf) HW'.out (Nat.le_refl _)).setCell (p := ⟨gf, x * 2, none⟩) (fun _ => rfl) _).setCell (p := ⟨gf, x * 2 + 1, none⟩) (fun _ => rfl) _
    have hrow2 := (((ownsRow_same HRow.out (HW'.out.block gf (by omega))).stored (x * 2) (.int .u64 (y ||| to : Nat))).1.stored (x * 2 + 1) (.int .u64 0)).1
    refine ⟨hE2.keeps _ (fun b o hb ho hc e => by have := HL.out; have := HS.out; omega), HExt.out.trans hE2 (fun _ _ h => h), ?_⟩
    rw [HNX.out]
    have : link1 to f x = f.set x (y ||| to) := by
      unfold link1
      rw [List.getD_eq_getElem?_getD, List.getElem?_eq_getElem HFX.out, Option.getD_some, HY.out]
    rw [this, ← setCells_set f x (y ||| to) HFX.out]
    exact hrow2
  case done =>
    intro D W hD hI hDef
    have HI := Lib.hid hI
    have HDf := Lib.hid hDef
    clear hI hDef
    gi_wp2
    refine ⟨by simp, .inl ⟨_, _, rfl, run_takeDeferred HDf.out, ?_⟩⟩
    have hneg : gf ≠ D := by have := HS.out; omega
    have hE2 := HI.out.1.putObj (.deferred none) hD
    have hkeep : ∀ b, b < w.heap.size → b ≠ gf → (W.putObj D (.deferred none)).heap[b]? = w.heap[b]? := fun b hb hne =>
      (hE2.block b (by have := HS.out; omega) hne).trans (HB.out.block b hb)
    refine ⟨.tuple #[], by simp [results, Tryz.results151, go_sem], rfl, ?_, ?_⟩
    · obtain ⟨a1, a2, a3, a4, a5, a6, a7⟩ := HAt.out
      have hr := ownsRow_same HI.out.2 (World.putObj_heap_other (w := W) (r := D) (o := .deferred none) hneg)
      rw [upTo_all] at hr
      have hnl := link_n A src to
      refine ⟨a1, a2, a3, a4, ?_, ?_, ?_⟩
      · rw [hnl]; exact (hkeep p hpw hpg).trans a5
      · rw [hnl]; exact ownsRow_same a6 (hkeep gs hgsw hsg)
      · rw [hnl]; exact hr
    · exact (Ext.of_below HB.out (Nat.le_refl _)).trans hE2 (fun _ _ h => h)
end Go.Proofs.YtiocjdggdmeggaaGreatDoor
