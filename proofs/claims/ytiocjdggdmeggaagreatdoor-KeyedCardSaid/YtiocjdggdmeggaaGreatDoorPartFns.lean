/-
  What the closures of a part do, whatever the part.
-/
import Derived.Test.YtiocjdggdmeggaaGreatDoorKey
import Derived.Test.YtiocjdggdmeggaaGreatDoorCompiled
namespace Go.Proofs.YtiocjdggdmeggaaGreatDoor
open Go.RowKit Go.Shelf
structure FnOk (w : World) (T : Nat) (v1 v2 v3 : Value) (X : Ln) : Prop where
  get : ∃ g cap, v1 = .func (.func g) #[] cap ∧ (∀ args w, (callFunc g args).run Tryz.prog w = .ok (.enter g args) w) ∧ ∀ W s, Below T w W → Asc s → Calls Tryz.prog g (#[.string ⟨s.toArray⟩] ++ cap) W (TxtPost W (X.get s))
  create : ∃ g cap, v2 = .func (.func g) #[] cap ∧ (∀ args w, (callFunc g args).run Tryz.prog w = .ok (.enter g args) w) ∧ ∀ W s, Below T w W → Asc s → Calls Tryz.prog g (#[.string ⟨s.toArray⟩] ++ cap) W (TxtPost W (X.create s))
  put : ∃ g cap, v3 = .func (.func g) #[] cap ∧ (∀ args w, (callFunc g args).run Tryz.prog w = .ok (.enter g args) w) ∧ ∀ W v s, Below T w W → Asc v → Asc s → Calls Tryz.prog g (#[.string ⟨v.toArray⟩, .string ⟨s.toArray⟩] ++ cap) W (TxtPost W (X.put v s))
def Ln.extra : Ln → Nat
  | .copy _ => 0
  | .leave _ t => t.length
  | .behind x y => x.extra + y.extra
theorem cutP_len (A C : PA) (s : Txt) : (cutP A C s).1.length + (cutP A C s).2.length ≤ s.length := by
  unfold cutP
  split
  · simp; omega
  · simp
theorem get_len : ∀ (X : Ln) (s : Txt), (X.get s).length ≤ s.length
  | .copy _, s => Nat.le_refl _
  | .leave _ _, s => Nat.zero_le _
  | .behind x y, s => by
    have h1 := get_len x (cutP x.sa y.sa s).1
    have h2 := get_len y (cutP x.sa y.sa s).2
    have h3 := cutP_len x.sa y.sa s
    rw [Ln.get, List.length_append]
    omega
theorem create_len : ∀ (X : Ln) (s : Txt), (X.create s).length ≤ s.length + X.extra
  | .copy _, s => Nat.le_refl _
  | .leave _ _, s => by simp [Ln.create, Ln.extra]
  | .behind x y, s => by
    have h1 := create_len x (cutP x.va y.va s).1
    have h2 := create_len y (cutP x.va y.va s).2
    have h3 := cutP_len x.va y.va s
    rw [Ln.create, List.length_append, Ln.extra]
    omega
theorem put_len : ∀ (X : Ln) (v s : Txt), (X.put v s).length ≤ v.length + s.length
  | .copy _, v, s => by simp [Ln.put]
  | .leave _ _, v, s => by simp [Ln.put]
  | .behind x y, v, s => by
    have h1 := put_len x (cutP x.va y.va v).1 (cutP x.sa y.sa s).1
    have h2 := put_len y (cutP x.va y.va v).2 (cutP x.sa y.sa s).2
    have h3 := cutP_len x.va y.va v
    have h4 := cutP_len x.sa y.sa s
    rw [Ln.put, List.length_append]
    omega
theorem okOf {n : Nd} (h : NdFine n) : (newP n).Ok := newP_ok _ h.1 (by have := h.2; omega)
theorem same_post {P : Ending → World → Prop} {f : FuncId} {args : Array Value} {W : World} {t : Txt} (h : Calls Tryz.prog f args W fun e w' => e = .returned (.string ⟨t.toArray⟩) ∧ w' = W) : Calls Tryz.prog f args W (TxtPost W t) := h.mono fun e w' hh => by
  obtain ⟨rfl, rfl⟩ := hh
  exact ⟨rfl, Below.refl _ _⟩
theorem part_fns (X : Ln) : ∀ (w : World) (T b : Nat) (a0 a1 n0 n1 v1 v2 v3 : Value), X.Fine → X.extra ≤ 1000000 → PartAt w T b X → T ≤ w.heap.size → 6 < T → Env w → w.heap[b]? = some (.cells #[a0, a1, n0, n1, v1, v2, v3] 70 (0, 0)) → FnOk w T v1 v2 v3 X := by
  induction X with
  | copy n =>
    intro w T b a0 a1 n0 n1 v1 v2 v3 hf hx h hT h6 hE hb
    obtain ⟨pa, pv, h1, h2, h3, h4⟩ := h
    rw [h2] at hb
    cases hb
    exact ⟨⟨156, #[], rfl, enters_of Tryz.func156 (by kernel_rfl) rfl, fun W s _ _ => same_post (P := fun _ _ => True) (fn156 _ W)⟩, ⟨156, #[], rfl, enters_of Tryz.func156 (by kernel_rfl) rfl, fun W s _ _ => same_post (P := fun _ _ => True) (fn156 _ W)⟩,
      ⟨157, #[], rfl, enters_of Tryz.func157 (by kernel_rfl) rfl, fun W v s _ _ _ => same_post (P := fun _ _ => True) (fn157 _ _ W)⟩⟩
  | leave n t =>
    intro w T b a0 a1 n0 n1 v1 v2 v3 hf hx h hT h6 hE hb
    obtain ⟨pa, pv, bt, h1, h2, h3, h4, h5, h6'⟩ := h
    rw [h3] at hb
    cases hb
    exact ⟨⟨160, #[], rfl, enters_of Tryz.func160 (by kernel_rfl) rfl, fun W s _ _ => same_post (P := fun _ _ => True) (fn160 _ W)⟩,
      ⟨161, _, rfl, enters_of Tryz.func161 (by kernel_rfl) rfl, fun W s hW _ => same_post (P := fun _ _ => True) (fn161 _ _ bt W (cell_at (below_at hW h6' h2) 0))⟩,
      ⟨162, #[], rfl, enters_of Tryz.func162 (by kernel_rfl) rfl, fun W v s _ _ _ => same_post (P := fun _ _ => True) (fn162 _ _ W)⟩⟩
  | behind x y ihx ihy =>
    intro w T b a0 a1 n0 n1 v1 v2 v3 hf hx h hT h6 hE hb
    obtain ⟨pa, pv, ba, bb, qa, qb, h1, h2, h3, h4, h5, h7, h8, h9, h10, h11⟩ := h
    rw [h4] at hb
    cases hb
    obtain ⟨px, px2, gx, cx, ux, lx, hbx, hax, hvx⟩ := h10.base
    obtain ⟨py, py2, gy, cy, uy, ly, hby, hay, hvy⟩ := h11.base
    have fx := ihx w T qa _ _ _ _ _ _ _ hf.1 (by have := hx; simp only [Ln.extra] at this; omega) h10 hT h6 hE hbx
    have fy := ihy w T qb _ _ _ _ _ _ _ hf.2.1 (by have := hx; simp only [Ln.extra] at this; omega) h11 hT h6 hE hby
    obtain ⟨⟨g1, k1, rfl, e1, c1⟩, ⟨g2, k2, rfl, e2, c2⟩, ⟨g3, k3, rfl, e3, c3⟩⟩ := fx
    obtain ⟨⟨d1, l1, rfl, i1, j1⟩, ⟨d2, l2, rfl, i2, j2⟩, ⟨d3, l3, rfl, i3, j3⟩⟩ := fy
    have ox := okOf hf.1.nodes.1; have oy := okOf hf.2.1.nodes.1; have vx := okOf hf.1.nodes.2; have vy := okOf hf.2.1.nodes.2
    have hxe : x.extra + y.extra ≤ 1000000 := hx
    refine ⟨⟨145, _, rfl, enters_of Tryz.func145 (by kernel_rfl) rfl, fun W s hW hs => ?_⟩, ⟨147, _, rfl, enters_of Tryz.func147 (by kernel_rfl) rfl, fun W s hW hs => ?_⟩, ⟨148, _, rfl, enters_of Tryz.func148 (by kernel_rfl) rfl, fun W v s hW hv hs => ?_⟩⟩
    · exact fn145 x.sa y.sa ox oy x.get y.get T ba bb qa qb px py g1 d1 k1 l1 _ _ _ _ _ _ _ _ _ _ s W hs (Nat.le_trans hT hW.size) h6 (env_below hW h6 hE) (below_at hW h8 h2) (below_at hW h9 h3) (below_at hW hbx lx) (below_at hW hby ly)
        (hax.same fun k hk => hW.block k hk) (hay.same fun k hk => hW.block k hk) (by
          have a1 := get_len x (cutP x.sa y.sa s).1
          have a2 := get_len y (cutP x.sa y.sa s).2
          have a3 := cutP_len x.sa y.sa s
          have := hs.1
          omega) e1 i1 (fun W' s' hW' hs' => c1 W' s' (hW.trans hW') hs') (fun W' s' hW' hs' => j1 W' s' (hW.trans hW') hs')
    · exact fn147 x.va y.va vx vy x.create y.create T ba bb qa qb px2 py2 g2 d2 k2 l2 _ _ _ _ _ _ _ _ _ _ s W hs (Nat.le_trans hT hW.size) h6 (env_below hW h6 hE) (below_at hW h8 h2) (below_at hW h9 h3) (below_at hW hbx lx) (below_at hW hby ly)
        (hvx.same fun k hk => hW.block k hk) (hvy.same fun k hk => hW.block k hk) (by
          have a1 := create_len x (cutP x.va y.va s).1
          have a2 := create_len y (cutP x.va y.va s).2
          have a3 := cutP_len x.va y.va s
          have := hs.1
          omega) e2 i2 (fun W' s' hW' hs' => c2 W' s' (hW.trans hW') hs') (fun W' s' hW' hs' => j2 W' s' (hW.trans hW') hs')
    · exact fn148 x.sa y.sa x.va y.va ox oy vx vy x.put y.put T ba bb qa qb px py px2 py2 g3 d3 k3 l3 _ _ _ _ _ _ _ _ v s W hv hs (Nat.le_trans hT hW.size) h6 (env_below hW h6 hE) (below_at hW h8 h2) (below_at hW h9 h3) (below_at hW hbx lx) (below_at hW hby ly)
        (hax.same fun k hk => hW.block k hk) (hay.same fun k hk => hW.block k hk) (hvx.same fun k hk => hW.block k hk) (hvy.same fun k hk => hW.block k hk) (by
          have a1 := put_len x (cutP x.va y.va v).1 (cutP x.sa y.sa s).1
          have a2 := put_len y (cutP x.va y.va v).2 (cutP x.sa y.sa s).2
          have a3 := cutP_len x.va y.va v
          have a4 := cutP_len x.sa y.sa s
          have := hs.1
          have := hv.1
          omega) e3 i3 (fun W' v' s' hW' hv' hs' => c3 W' v' s' (hW.trans hW') hv' hs') (fun W' v' s' hW' hv' hs' => j3 W' v' s' (hW.trans hW') hv' hs')
end Go.Proofs.YtiocjdggdmeggaaGreatDoor
