/-
  Lenses as plain data: what the parts of a program do with texts.
  The plain law, first part: automata see letters alike, and digits alike; a run over a text hangs on its shape alone.
  The plain law, second part: one line of Commas, and one of Equals: what Get, Put and Create make of it.
  The plain law, third part: how a text of several lines is cut into its lines.
  The plain law, fourth part: what Put by keys makes of lines.
  The plain law, last part: what the two programs that come along make of several lines.
-/
import Derived.Test.YtiocjdggdmeggaaGreatDoorSearch
namespace Go.Proofs.YtiocjdggdmeggaaGreatDoor
abbrev Txt := List UInt8

/-- The parts of a program that stand within one repetition. -/
inductive Ln where
  | copy (n : Nd)
  | leave (n : Nd) (w : Txt)
  | behind (a b : Ln)
  deriving Repr, Inhabited

def Ln.sn : Ln → Nd
  | .copy n => n
  | .leave n _ => n
  | .behind a b => .row a.sn b.sn
def Ln.vn : Ln → Nd
  | .copy n => n
  | .leave _ _ => .empty
  | .behind a b => .row a.vn b.vn
def Ln.sa (l : Ln) : PA := newP l.sn
def Ln.va (l : Ln) : PA := newP l.vn

/-- The first cut of a text into one of A and one of B. -/
def cutIdx (A B : PA) (t : Txt) : Option Nat := (List.range (t.length + 1)).find? fun i => A.endsAt t i && B.is (t.drop i)
def cutP (A B : PA) (t : Txt) : Txt × Txt := match cutIdx A B t with
  | some i => (t.take i, t.drop i)
  | none => (t, [])
def Ln.get : Ln → Txt → Txt
  | .copy _, s => s
  | .leave _ _, _ => []
  | .behind a b, s => a.get (cutP a.sa b.sa s).1 ++ b.get (cutP a.sa b.sa s).2
def Ln.create : Ln → Txt → Txt
  | .copy _, v => v
  | .leave _ w, _ => w
  | .behind a b, v => a.create (cutP a.va b.va v).1 ++ b.create (cutP a.va b.va v).2
def Ln.put : Ln → Txt → Txt → Txt
  | .copy _, v, _ => v
  | .leave _ _, _, s => s
  | .behind a b, v, s => a.put (cutP a.va b.va v).1 (cutP a.sa b.sa s).1 ++ b.put (cutP a.va b.va v).2 (cutP a.sa b.sa s).2

/-- The first piece of a text that is any number of A's. -/
def pieceIdx (A M : PA) (t : Txt) : Option Nat := (List.range (t.length + 1)).find? fun i => A.endsAt t i && decide (0 < i) && M.is (t.drop i)
def piecesP (A M : PA) : Nat → Txt → Option (List Txt)
  | 0, t => if t = [] then some [] else none
  | f + 1, t => if t = [] then some [] else match pieceIdx A M t with
    | none => none
    | some i => (piecesP A M f (t.drop i)).map (t.take i :: ·)
def lowB (b : UInt8) : Bool := decide (97 ≤ b.toNat) && decide (b.toNat ≤ 122)
def keyP (t : Txt) : Txt := t.takeWhile lowB

/-- The first piece of the key k that is not used. -/
def takeIdx (keys : List Txt) (used : List Bool) (k : Txt) : Option Nat := (List.range keys.length).find? fun j => keys.getD j [] == k && !used.getD j true
/-- One piece of the view more. -/
def putOne (a : Ln) (ps keys : List Txt) (st : Txt × List Bool) (v : Txt) : Txt × List Bool :=
  match takeIdx keys st.2 (keyP v) with
  | some j => (st.1 ++ a.put v (ps.getD j []), st.2.set j true)
  | none => (st.1 ++ a.create v, st.2)
/-- A repetition by keys. -/
def Ln.sm (a : Ln) : PA := newP (.many a.sn)
def Ln.vm (a : Ln) : PA := newP (.many a.vn)
def putKeys (a : Ln) (vs ps : List Txt) : Txt := (vs.foldl (putOne a ps (ps.map fun s => keyP (a.get s))) ([], List.replicate ps.length false)).1
end Go.Proofs.YtiocjdggdmeggaaGreatDoor
namespace Go.Proofs.YtiocjdggdmeggaaGreatDoor
/-- One letter for all, one digit for all. -/
def rep (b : UInt8) : UInt8 := if 97 ≤ b.toNat ∧ b.toNat ≤ 122 then 97 else if 48 ≤ b.toNat ∧ b.toNat ≤ 57 then 48 else b
/-- Letters are alike to A, and digits. -/
def clsB (A : PA) : Bool := (List.range A.signs.length).all fun j => (List.range 26).all (fun k => signAt A j (97 + k) == signAt A j 97) && (List.range 10).all (fun k => signAt A j (48 + k) == signAt A j 48)
theorem signAt_none {A : PA} {j : Nat} (c : Nat) (h : A.signs.length ≤ j) : signAt A j c = false := by
  rw [signAt_eq, List.getD_eq_getElem?_getD, List.getElem?_eq_none h]
  simp
theorem sign_rep {A : PA} (h : clsB A = true) (j : Nat) (b : UInt8) : signAt A j (rep b).toNat = signAt A j b.toNat := by
  rcases Nat.lt_or_ge j A.signs.length with hj | hj
  · have h1 := List.all_eq_true.1 h j (by simpa using hj)
    rw [Bool.and_eq_true] at h1
    unfold rep
    split
    · rename_i hb
      have := List.all_eq_true.1 h1.1 (b.toNat - 97) (by simp; omega)
      rw [beq_iff_eq, show 97 + (b.toNat - 97) = b.toNat by omega] at this
      exact this.symm
    · split
      · rename_i hb
        have := List.all_eq_true.1 h1.2 (b.toNat - 48) (by simp; omega)
        rw [beq_iff_eq, show 48 + (b.toNat - 48) = b.toNat by omega] at this
        exact this.symm
      · rfl
  · rw [signAt_none _ hj, signAt_none _ hj]
theorem step_signs {A : PA} {c d : Nat} (h : ∀ j, signAt A j c = signAt A j d) (s : Nat) : A.step s c = A.step s d := by
  have e : step1 A c = step1 A d := by
    funext out i
    unfold step1
    have : stepIn1 A c = stepIn1 A d := by
      funext o j
      unfold stepIn1
      rw [h j]
    rw [this]
  rw [step_eq, step_eq, e]
def PA.via (A : PA) (s : Nat) (l : Txt) : Nat := l.foldl (fun s b => A.step s b.toNat) s
theorem via_append (A : PA) (s : Nat) (l m : Txt) : A.via s (l ++ m) = A.via (A.via s l) m := by simp [PA.via, List.foldl_append]
theorem run_eq (A : PA) (l : Txt) : A.run l = A.via 1 l := rfl
theorem via_rep {A : PA} (h : clsB A = true) : ∀ (l : Txt) (s : Nat), A.via s (l.map rep) = A.via s l
  | [], _ => rfl
  | b :: l, s => by
    show A.via (A.step s (rep b).toNat) (l.map rep) = A.via (A.step s b.toNat) l
    rw [step_signs (fun j => sign_rep h j b), via_rep h l]
theorem endsAt_rep {A : PA} (h : clsB A = true) (l : Txt) (i : Nat) : A.endsAt (l.map rep) i = A.endsAt l i := by
  unfold PA.endsAt
  rw [← List.map_take, run_eq, via_rep h, ← run_eq]
theorem is_rep {A : PA} (h : clsB A = true) (l : Txt) : A.is (l.map rep) = A.is l := by
  unfold PA.is
  rw [run_eq, via_rep h, ← run_eq]
theorem cutIdx_rep {A B : PA} (hA : clsB A = true) (hB : clsB B = true) (l : Txt) : cutIdx A B (l.map rep) = cutIdx A B l := by
  unfold cutIdx
  rw [List.length_map]
  congr 1
  funext i
  rw [endsAt_rep hA, ← List.map_drop, is_rep hB]
/-- A text of letters alone, one to four; of digits. -/
def Word (w : Txt) : Prop := 1 ≤ w.length ∧ w.length ≤ 4 ∧ ∀ b ∈ w, 97 ≤ b.toNat ∧ b.toNat ≤ 122
def Num (n : Txt) : Prop := 1 ≤ n.length ∧ n.length ≤ 4 ∧ ∀ b ∈ n, 48 ≤ b.toNat ∧ b.toNat ≤ 57
theorem map_const {l : Txt} {x : UInt8} {f : UInt8 → UInt8} (h : ∀ b ∈ l, f b = x) : l.map f = List.replicate l.length x := by
  induction l with
  | nil => rfl
  | cons b l ih => rw [List.map_cons, h b (by simp), ih (fun c hc => h c (by simp [hc]))]; rfl
theorem Word.rep {w : Txt} (h : Word w) : w.map rep = List.replicate w.length 97 := map_const fun b hb => by
  have := h.2.2 b hb
  unfold Proofs.YtiocjdggdmeggaaGreatDoor.rep
  rw [if_pos this]
theorem Num.rep {w : Txt} (h : Num w) : w.map rep = List.replicate w.length 48 := map_const fun b hb => by
  have := h.2.2 b hb
  unfold Proofs.YtiocjdggdmeggaaGreatDoor.rep
  rw [if_neg (by omega), if_pos this]
/-- A piece of a source, its shape alone. -/
def shape (mid fin : Txt) (a b : Nat) : Txt := List.replicate a 97 ++ mid ++ List.replicate b 48 ++ fin
/-- A check at all shapes. -/
def allShapes (p : Nat → Nat → Bool) : Bool := (List.range 4).all fun a => (List.range 4).all fun b => p (a + 1) (b + 1)
theorem allShapes_at {p : Nat → Nat → Bool} (h : allShapes p = true) {a b : Nat} (ha : 1 ≤ a ∧ a ≤ 4) (hb : 1 ≤ b ∧ b ≤ 4) : p a b = true := by
  have h1 := List.all_eq_true.1 h (a - 1) (by simp; omega)
  have h2 := List.all_eq_true.1 h1 (b - 1) (by simp; omega)
  rw [show a - 1 + 1 = a by omega, show b - 1 + 1 = b by omega] at h2
  exact h2
theorem shape_rep {w n : Txt} (hw : Word w) (hn : Num n) {mid fin : Txt} (hm : mid.map rep = mid) (hf : fin.map rep = fin) : (w ++ mid ++ n ++ fin).map rep = shape mid fin w.length n.length := by
  simp only [List.map_append, hw.rep, hn.rep, hm, hf]; rfl
end Go.Proofs.YtiocjdggdmeggaaGreatDoor
namespace Go.Proofs.YtiocjdggdmeggaaGreatDoor
def nPlus (lo hi : Nat) : Nd := .row (.row (.one lo hi) (.many (.one lo hi))) .empty
def nSign (lo : Nat) : Nd := .row (.one lo 0) .empty
def nLow : Nd := nPlus 0 (2 ^ 59 - 2 ^ 33)
def nDig : Nd := nPlus (2 ^ 58 - 2 ^ 48) 0
def nEq : Nd := .row (.many (.one (2 ^ 32) 0)) (.row (.one (2 ^ 61) 0) (.row (.many (.one (2 ^ 32) 0)) .empty))
/-- A line: a word, something that is left out, a number, something that is left out. -/
def lnD (F : Nd) (fw : Txt) : Ln := .behind (.copy nDig) (.leave F fw)
def lnC (M : Nd) (mw : Txt) (F : Nd) (fw : Txt) : Ln := .behind (.leave M mw) (lnD F fw)
def lnOf (M : Nd) (mw : Txt) (F : Nd) (fw : Txt) : Ln := .behind (.copy nLow) (lnC M mw F fw)
def commas : Ln := lnOf (nSign (2 ^ 44)) [44] (nSign (2 ^ 59)) [59]
def equals : Ln := lnOf nEq [61] (nPlus (2 ^ 33) 0) [33]

def rep97 (a : Nat) : Txt := List.replicate a 97
def rep48 (b : Nat) : Txt := List.replicate b 48
/-- The cuts of a source of this style. -/
def srcB (M : Nd) (F : Nd) (mid fin : Txt) : Bool :=
  clsB (newP nLow) && clsB (newP (lnC M [] F []).sn) && clsB (newP M) && clsB (newP (lnD F []).sn) && clsB (newP nDig) && clsB (newP F) &&
  allShapes (fun a b => cutIdx (newP nLow) (newP (lnC M [] F []).sn) (shape mid fin a b) == some a && cutIdx (newP M) (newP (lnD F []).sn) (mid ++ rep48 b ++ fin) == some mid.length && cutIdx (newP nDig) (newP F) (rep48 b ++ fin) == some b)
/-- The cuts of a view. -/
def viewB : Bool :=
  clsB (newP nLow) && clsB (newP (lnC .empty [] .empty []).vn) && clsB (newP .empty) && clsB (newP (lnD .empty []).vn) && clsB (newP nDig) &&
  allShapes (fun a b => cutIdx (newP nLow) (newP (lnC .empty [] .empty []).vn) (rep97 a ++ rep48 b) == some a && cutIdx (newP .empty) (newP (lnD .empty []).vn) (rep48 b) == some 0 && cutIdx (newP nDig) (newP .empty) (rep48 b) == some b)
theorem cutP_of {A B : PA} (hA : clsB A = true) (hB : clsB B = true) {l m : Txt} {k : Nat} (h : cutIdx A B ((l ++ m).map rep) = some k) (hk : k = l.length) : cutP A B (l ++ m) = (l, m) := by
  rw [cutIdx_rep hA hB] at h
  unfold cutP
  rw [h, hk]
  simp
variable {M F : Nd} {mw fw mid fin : Txt}
structure SrcCuts (M F : Nd) (mid fin : Txt) : Prop where
  c1 : ∀ w n, Word w → Num n → cutP (newP nLow) (newP (lnC M [] F []).sn) (w ++ (mid ++ (n ++ fin))) = (w, mid ++ (n ++ fin))
  c2 : ∀ n, Num n → cutP (newP M) (newP (lnD F []).sn) (mid ++ (n ++ fin)) = (mid, n ++ fin)
  c3 : ∀ n, Num n → cutP (newP nDig) (newP F) (n ++ fin) = (n, fin)
theorem srcCuts (h : srcB M F mid fin = true) (hm : mid.map rep = mid) (hf : fin.map rep = fin) : SrcCuts M F mid fin := by
  simp only [srcB, Bool.and_eq_true] at h
  obtain ⟨⟨⟨⟨⟨⟨k1, k2⟩, k3⟩, k4⟩, k5⟩, k6⟩, hs⟩ := h
  refine ⟨fun w n hw hn => ?_, fun n hn => ?_, fun n hn => ?_⟩
  · have := allShapes_at hs ⟨hw.1, hw.2.1⟩ ⟨hn.1, hn.2.1⟩
    simp only [Bool.and_eq_true, beq_iff_eq] at this
    refine cutP_of k1 k2 (k := w.length) ?_ rfl
    rw [show w ++ (mid ++ (n ++ fin)) = w ++ mid ++ n ++ fin by simp, shape_rep hw hn hm hf]
    exact this.1.1
  · have := allShapes_at (a := 1) hs (by omega) ⟨hn.1, hn.2.1⟩
    simp only [Bool.and_eq_true, beq_iff_eq] at this
    refine cutP_of k3 k4 (k := mid.length) ?_ rfl
    simp only [List.map_append, hm, hf, hn.rep]
    have h2 := this.1.2
    unfold rep48 at h2
    rw [List.append_assoc] at h2
    exact h2
  · have := allShapes_at (a := 1) hs (by omega) ⟨hn.1, hn.2.1⟩
    simp only [Bool.and_eq_true, beq_iff_eq] at this
    refine cutP_of k5 k6 (k := n.length) ?_ rfl
    simp only [List.map_append, hf, hn.rep]
    exact this.2
theorem viewB_true : viewB = true := by decide +kernel
structure ViewCuts : Prop where
  c1 : ∀ w n, Word w → Num n → cutP (newP nLow) (newP (lnC .empty [] .empty []).vn) (w ++ n) = (w, n)
  c2 : ∀ n, Num n → cutP (newP .empty) (newP (lnD .empty []).vn) n = ([], n)
  c3 : ∀ n, Num n → cutP (newP nDig) (newP .empty) n = (n, [])
theorem viewCuts : ViewCuts := by
  have h := viewB_true
  simp only [viewB, Bool.and_eq_true] at h
  obtain ⟨⟨⟨⟨⟨k1, k2⟩, k3⟩, k4⟩, k5⟩, hs⟩ := h
  refine ⟨fun w n hw hn => ?_, fun n hn => ?_, fun n hn => ?_⟩
  · have := allShapes_at hs ⟨hw.1, hw.2.1⟩ ⟨hn.1, hn.2.1⟩
    simp only [Bool.and_eq_true, beq_iff_eq] at this
    refine cutP_of k1 k2 (k := w.length) ?_ rfl
    rw [List.map_append, hw.rep, hn.rep]
    exact this.1.1
  · have := allShapes_at (a := 1) hs (by omega) ⟨hn.1, hn.2.1⟩
    simp only [Bool.and_eq_true, beq_iff_eq] at this
    have h2 := cutP_of k3 k4 (l := []) (m := n) (k := 0) (by rw [List.nil_append, hn.rep]; exact this.1.2) rfl
    exact h2
  · have := allShapes_at (a := 1) hs (by omega) ⟨hn.1, hn.2.1⟩
    simp only [Bool.and_eq_true, beq_iff_eq] at this
    have h2 := cutP_of k5 k3 (l := n) (m := []) (k := n.length) (by rw [List.append_nil, hn.rep]; exact this.2) rfl
    rwa [List.append_nil] at h2
theorem behind_get {a b : Ln} {s x y : Txt} (h : cutP a.sa b.sa s = (x, y)) : (Ln.behind a b).get s = a.get x ++ b.get y := by rw [Ln.get, h]
theorem behind_create {a b : Ln} {s x y : Txt} (h : cutP a.va b.va s = (x, y)) : (Ln.behind a b).create s = a.create x ++ b.create y := by rw [Ln.create, h]
theorem behind_put {a b : Ln} {s x y v u t : Txt} (h : cutP a.sa b.sa s = (x, y)) (k : cutP a.va b.va v = (u, t)) : (Ln.behind a b).put v s = a.put u x ++ b.put t y := by rw [Ln.put, h, k]
theorem get_line (h : SrcCuts M F mid fin) {w n : Txt} (hw : Word w) (hn : Num n) : (lnOf M mw F fw).get (w ++ (mid ++ (n ++ fin))) = w ++ n := by
  have h1 := h.c1 w n hw hn
  have h2 := h.c2 n hn
  have h3 := h.c3 n hn
  have e1 : (cutP (Ln.copy nLow).sa (lnC M mw F fw).sa (w ++ (mid ++ (n ++ fin)))) = (w, mid ++ (n ++ fin)) := h1
  have e2 : (cutP (Ln.leave M mw).sa (lnD F fw).sa (mid ++ (n ++ fin))) = (mid, n ++ fin) := h2
  have e3 : (cutP (Ln.copy nDig).sa (Ln.leave F fw).sa (n ++ fin)) = (n, fin) := h3
  rw [lnOf, behind_get e1, lnC, behind_get e2, lnD, behind_get e3]
  simp [Ln.get]
theorem put_line (h : SrcCuts M F mid fin) {w n w' n' : Txt} (hw : Word w) (hn : Num n) (hw' : Word w') (hn' : Num n') : (lnOf M mw F fw).put (w' ++ n') (w ++ (mid ++ (n ++ fin))) = w' ++ (mid ++ (n' ++ fin)) := by
  have e1 : (cutP (Ln.copy nLow).sa (lnC M mw F fw).sa (w ++ (mid ++ (n ++ fin)))) = (w, mid ++ (n ++ fin)) := h.c1 w n hw hn
  have e2 : (cutP (Ln.leave M mw).sa (lnD F fw).sa (mid ++ (n ++ fin))) = (mid, n ++ fin) := h.c2 n hn
  have e3 : (cutP (Ln.copy nDig).sa (Ln.leave F fw).sa (n ++ fin)) = (n, fin) := h.c3 n hn
  have d1 : (cutP (Ln.copy nLow).va (lnC M mw F fw).va (w' ++ n')) = (w', n') := viewCuts.c1 w' n' hw' hn'
  have d2 : (cutP (Ln.leave M mw).va (lnD F fw).va n') = ([], n') := viewCuts.c2 n' hn'
  have d3 : (cutP (Ln.copy nDig).va (Ln.leave F fw).va n') = (n', []) := viewCuts.c3 n' hn'
  rw [lnOf, behind_put e1 d1, lnC, behind_put e2 d2, lnD, behind_put e3 d3]
  simp [Ln.put]
theorem create_line {w' n' : Txt} (hw' : Word w') (hn' : Num n') : (lnOf M mw F fw).create (w' ++ n') = w' ++ (mw ++ (n' ++ fw)) := by
  have d1 : (cutP (Ln.copy nLow).va (lnC M mw F fw).va (w' ++ n')) = (w', n') := viewCuts.c1 w' n' hw' hn'
  have d2 : (cutP (Ln.leave M mw).va (lnD F fw).va n') = ([], n') := viewCuts.c2 n' hn'
  have d3 : (cutP (Ln.copy nDig).va (Ln.leave F fw).va n') = (n', []) := viewCuts.c3 n' hn'
  rw [lnOf, behind_create d1, lnC, behind_create d2, lnD, behind_create d3]
  simp [Ln.create]
theorem src_commas : srcB (nSign (2 ^ 44)) (nSign (2 ^ 59)) [44] [59] = true := by decide +kernel
theorem src_equals0 : srcB nEq (nPlus (2 ^ 33) 0) [61] [33] = true := by decide +kernel
theorem src_equals1 : srcB nEq (nPlus (2 ^ 33) 0) [32, 32, 61, 32] [33, 33] = true := by decide +kernel
/-- 'gap=' and '= gap'. -/
theorem src_gap : ((List.range 5).all fun g => srcB nEq (nPlus (2 ^ 33) 0) (List.replicate g 32 ++ [61]) [33] && srcB nEq (nPlus (2 ^ 33) 0) (61 :: 32 :: List.replicate g 32) [33, 33]) = true := by decide +kernel
end Go.Proofs.YtiocjdggdmeggaaGreatDoor
namespace Go.Proofs.YtiocjdggdmeggaaGreatDoor
/-- p is a piece for A; M, that takes any number of them, is at S behind it. -/
def pieceB (A M : PA) (S : List Nat) (p : Txt) : Bool :=
  !p.isEmpty && A.endsAt p p.length && (List.range p.length).all (fun i => i == 0 || !A.endsAt p i || M.step 1 (p.getD i 0).toNat == 0) && S.contains (M.via 1 p) && S.all (fun s => S.contains (M.via s p))
theorem rep_zero : rep 0 = 0 := by decide
theorem pieceB_rep {A M : PA} (hA : clsB A = true) (hM : clsB M = true) (S : List Nat) (p : Txt) : pieceB A M S (p.map rep) = pieceB A M S p := by
  have h2 : ∀ i, M.step 1 ((p.map rep).getD i 0).toNat = M.step 1 (p.getD i 0).toNat := fun i => by
    have : (p.map rep).getD i 0 = rep (p.getD i 0) := by
      rw [List.getD_eq_getElem?_getD, List.getD_eq_getElem?_getD, List.getElem?_map]
      cases p[i]?
      · exact rep_zero.symm
      · rfl
    rw [this]
    exact step_signs (fun j => sign_rep hM j _) 1
  unfold pieceB
  simp only [via_rep hM, List.length_map, h2, endsAt_rep hA, List.isEmpty_map]
structure Piece (A M : PA) (S : List Nat) (p : Txt) : Prop where
  ne : p ≠ []
  ends : A.endsAt p p.length = true
  no : ∀ i, 0 < i → i < p.length → A.endsAt p i = false ∨ M.step 1 (p.getD i 0).toNat = 0
  one : M.via 1 p ∈ S
  more : ∀ s ∈ S, M.via s p ∈ S
theorem Piece.of {A M : PA} {S : List Nat} {p : Txt} (h : pieceB A M S p = true) : Piece A M S p := by
  simp only [pieceB, Bool.and_eq_true] at h
  obtain ⟨⟨⟨⟨h1, h2⟩, h3⟩, h4⟩, h5⟩ := h
  refine ⟨by simpa using h1, h2, fun i h0 hi => ?_, by simpa using h4, fun s hs => by simpa using List.all_eq_true.1 h5 s hs⟩
  have := List.all_eq_true.1 h3 i (by simpa using hi)
  simp only [Bool.or_eq_true, beq_iff_eq, Bool.not_eq_true'] at this
  rcases this with (h | h) | h
  · omega
  · exact .inl h
  · exact .inr h
theorem step_zero (A : PA) (c : Nat) : A.step 0 c = 0 := by
  rw [step_eq, bitsOf_zero]; rfl
theorem via_zero (A : PA) : ∀ l : Txt, A.via 0 l = 0
  | [] => rfl
  | b :: l => by
    show A.via (A.step 0 b.toNat) l = 0
    rw [step_zero, via_zero A l]
variable {A M : PA} {S : List Nat}
theorem via_pieces : ∀ (ps : List Txt), (∀ p ∈ ps, Piece A M S p) → ∀ s ∈ S, M.via s ps.flatten ∈ S
  | [], _, _, hs => hs
  | p :: ps, h, s, hs => by
    rw [List.flatten_cons, via_append]
    exact via_pieces ps (fun q hq => h q (by simp [hq])) _ ((h p (by simp)).more s hs)
theorem is_pieces (h1 : M.acc 1 = true) (hS : ∀ s ∈ S, M.acc s = true) : ∀ (ps : List Txt), (∀ p ∈ ps, Piece A M S p) → M.is ps.flatten = true
  | [], _ => h1
  | p :: ps, h => by
    unfold PA.is
    rw [run_eq, List.flatten_cons, via_append]
    exact hS _ (via_pieces ps (fun q hq => h q (by simp [hq])) _ (h p (by simp)).one)
theorem find_first {p : Nat → Bool} {n k : Nat} (hk : k < n) (h : p k = true) (hn : ∀ i, i < k → p i = false) : (List.range n).find? p = some k := by
  rw [List.find?_range_eq_some]
  exact ⟨h, by simpa using hk, fun j hj => by simpa using hn j hj⟩
theorem endsAt_append {p r : Txt} {i : Nat} (hi : i ≤ p.length) : A.endsAt (p ++ r) i = A.endsAt p i := by
  unfold PA.endsAt
  rw [List.take_append_of_le_length hi]
theorem pieceIdx_eq (h1 : M.acc 1 = true) (hS : ∀ s ∈ S, M.acc s = true) {p : Txt} {ps : List Txt} (h : ∀ q ∈ p :: ps, Piece A M S q) : pieceIdx A M (p ++ ps.flatten) = some p.length := by
  have hp := h p (by simp)
  have hl : 0 < p.length := List.length_pos_iff.2 hp.ne
  unfold pieceIdx
  refine find_first (by simp; omega) ?_ ?_
  · rw [endsAt_append (Nat.le_refl _), hp.ends, List.drop_left, is_pieces h1 hS ps fun q hq => h q (by simp [hq])]
    simp [hl]
  · intro i hi
    rcases Nat.eq_zero_or_pos i with h0 | h0
    · subst h0; simp
    · rw [endsAt_append (Nat.le_of_lt hi)]
      rcases hp.no i h0 hi with e | e
      · rw [e]; rfl
      · have hd : (p ++ ps.flatten).drop i = p[i] :: (p ++ ps.flatten).drop (i + 1) := by
          rw [List.drop_eq_getElem_cons (by simp; omega), List.getElem_append_left hi]
        have hg : p.getD i 0 = p[i] := by rw [List.getD_eq_getElem?_getD, List.getElem?_eq_getElem hi]; rfl
        have : M.is ((p ++ ps.flatten).drop i) = false := by
          unfold PA.is
          rw [hd, run_eq]
          show M.acc (M.via (M.step 1 p[i].toNat) _) = false
          rw [← hg, e, via_zero]
          simp [PA.acc]
        rw [this]
        simp
theorem pieces_eq (h1 : M.acc 1 = true) (hS : ∀ s ∈ S, M.acc s = true) : ∀ (ps : List Txt) (f : Nat), ps.length ≤ f → (∀ p ∈ ps, Piece A M S p) → piecesP A M f ps.flatten = some ps
  | [], f, _, _ => by cases f <;> simp [piecesP]
  | p :: ps, 0, hf, _ => by simp at hf
  | p :: ps, f + 1, hf, h => by
    have hp := (h p (by simp)).ne
    rw [List.flatten_cons, piecesP, if_neg (by simp [hp]), pieceIdx_eq h1 hS h]
    simp only [List.drop_left, List.take_left]
    rw [pieces_eq h1 hS ps f (by simpa using hf) fun q hq => h q (by simp [hq])]
    rfl
/-- Every shape of this style is a piece. -/
def styleB (X : Ln) (S : List Nat) (mid fin : Txt) : Bool := clsB X.sa && clsB X.sm && X.sm.acc 1 && S.all X.sm.acc && allShapes fun a b => pieceB X.sa X.sm S (shape mid fin a b)
def vstyleB (X : Ln) (S : List Nat) : Bool := clsB X.va && clsB X.vm && X.vm.acc 1 && S.all X.vm.acc && allShapes fun a b => pieceB X.va X.vm S (rep97 a ++ rep48 b)
theorem Piece.style {X : Ln} {mid fin : Txt} (h : styleB X S mid fin = true) (hm : mid.map rep = mid) (hf : fin.map rep = fin) {w n : Txt} (hw : Word w) (hn : Num n) : Piece X.sa X.sm S (w ++ (mid ++ (n ++ fin))) := by
  simp only [styleB, Bool.and_eq_true] at h
  refine Piece.of ?_
  rw [← pieceB_rep h.1.1.1.1 h.1.1.1.2, show w ++ (mid ++ (n ++ fin)) = w ++ mid ++ n ++ fin by simp, shape_rep hw hn hm hf]
  exact allShapes_at h.2 ⟨hw.1, hw.2.1⟩ ⟨hn.1, hn.2.1⟩
theorem Piece.vstyle {X : Ln} (h : vstyleB X S = true) {w n : Txt} (hw : Word w) (hn : Num n) : Piece X.va X.vm S (w ++ n) := by
  simp only [vstyleB, Bool.and_eq_true] at h
  refine Piece.of ?_
  rw [← pieceB_rep h.1.1.1.1 h.1.1.1.2, List.map_append, hw.rep, hn.rep]
  exact allShapes_at h.2 ⟨hw.1, hw.2.1⟩ ⟨hn.1, hn.2.1⟩
def sC : List Nat := [commas.sm.via 1 (shape [44] [59] 1 1)]
def sE : List Nat := [equals.sm.via 1 (shape [61] [33] 1 1), equals.sm.via 1 (shape [61] [33, 33] 1 1)]
def sV : List Nat := [commas.vm.via 1 (rep97 1 ++ rep48 1), commas.vm.via 1 (rep97 1 ++ rep48 2)]
theorem style_commas : styleB commas sC [44] [59] = true := by decide +kernel
theorem style_equals0 : styleB equals sE [61] [33] = true := by decide +kernel
theorem style_equals1 : styleB equals sE [32, 32, 61, 32] [33, 33] = true := by decide +kernel
theorem style_gap : ((List.range 5).all fun g => styleB equals sE (List.replicate g 32 ++ [61]) [33] && styleB equals sE (61 :: 32 :: List.replicate g 32) [33, 33]) = true := by decide +kernel
theorem vstyle_commas : vstyleB commas sV = true := by decide +kernel
theorem vstyle_equals : vstyleB equals sV = true := by decide +kernel
end Go.Proofs.YtiocjdggdmeggaaGreatDoor
namespace Go.Proofs.YtiocjdggdmeggaaGreatDoor
theorem key_word {w n : Txt} (hw : Word w) (hn : Num n) : keyP (w ++ n) = w := by
  unfold keyP
  rw [List.takeWhile_append_of_pos fun b hb => by have := hw.2.2 b hb; simp [lowB, this]]
  obtain ⟨h1, _, h2⟩ := hn
  cases n with
  | nil => simp at h1
  | cons b n =>
    have := h2 b (by simp)
    rw [List.takeWhile_cons_of_neg (by simp [lowB]; omega)]
    simp
theorem putOne_some {a : Ln} {ps keys : List Txt} {o : Txt} {used : List Bool} {v : Txt} {j : Nat} (h : takeIdx keys used (keyP v) = some j) : putOne a ps keys (o, used) v = (o ++ a.put v (ps.getD j []), used.set j true) := by
  unfold putOne
  simp only [h]
theorem putOne_none {a : Ln} {ps keys : List Txt} {o : Txt} {used : List Bool} {v : Txt} (h : takeIdx keys used (keyP v) = none) : putOne a ps keys (o, used) v = (o ++ a.create v, used) := by
  unfold putOne
  simp only [h]
/-- Nothing to be put into: all is created. -/
theorem putKeys_nil (a : Ln) (vs : List Txt) : putKeys a vs [] = (vs.map a.create).flatten := by
  have : ∀ (vs : List Txt) (o : Txt), (vs.foldl (putOne a [] []) (o, [])).1 = o ++ (vs.map a.create).flatten := by
    intro vs
    induction vs with
    | nil => intro o; simp
    | cons v vs ih => intro o; rw [List.foldl_cons, putOne_none (by rfl), ih]; simp
  exact this vs []
/-- Each line finds itself, where the words come in their order. -/
theorem putKeys_same (a : Ln) (vs ps : List Txt) (hl : vs.length = ps.length) (hk : ∀ j, j < ps.length → keyP (vs.getD j []) = keyP (a.get (ps.getD j []))) :
    putKeys a vs ps = ((List.range ps.length).map fun j => a.put (vs.getD j []) (ps.getD j [])).flatten := by
  obtain ⟨keys, hkeys⟩ : ∃ keys, (ps.map fun s => keyP (a.get s)) = keys := ⟨_, rfl⟩
  have hkl : keys.length = ps.length := by rw [← hkeys]; simp
  have hkj : ∀ j, j < ps.length → keys.getD j [] = keyP (vs.getD j []) := fun j hj => by
    rw [hk j hj, ← hkeys, List.getD_eq_getElem?_getD, List.getElem?_map, List.getElem?_eq_getElem hj, List.getD_eq_getElem?_getD, List.getElem?_eq_getElem hj]
    rfl
  have step : ∀ k, k ≤ ps.length → (vs.take k).foldl (putOne a ps keys) ([], List.replicate ps.length false) =
      (((List.range k).map fun j => a.put (vs.getD j []) (ps.getD j [])).flatten, List.replicate k true ++ List.replicate (ps.length - k) false) := by
    intro k
    induction k with
    | zero => intro _; simp
    | succ k ih =>
      intro hk1
      have hkv : k < vs.length := by omega
      rw [List.take_succ_eq_append_getElem hkv, List.foldl_append, ih (by omega)]
      have hv : vs.getD k [] = vs[k] := by rw [List.getD_eq_getElem?_getD, List.getElem?_eq_getElem hkv]; rfl
      have ht : takeIdx keys (List.replicate k true ++ List.replicate (ps.length - k) false) (keyP vs[k]) = some k := by
        unfold takeIdx
        refine find_first (by omega) ?_ ?_
        · have h3 : (List.replicate k true ++ List.replicate (ps.length - k) false).getD k true = false := by
            rw [List.getD_eq_getElem?_getD, List.getElem?_append_right (by simp), List.length_replicate, Nat.sub_self, List.getElem?_replicate, if_pos (by omega)]
            rfl
          rw [hkj k (by omega), hv, h3]
          simp
        · intro i hi
          rw [List.getD_eq_getElem?_getD (l := List.replicate k true ++ List.replicate (ps.length - k) false), List.getElem?_append_left (by simpa using hi)]
          simp [hi]
      rw [List.foldl_cons, putOne_some ht, List.foldl_nil, List.range_succ, List.map_append, List.flatten_append]
      congr 1
      · rw [← hv]; simp
      · have h2 : ps.length - k = (ps.length - (k + 1)) + 1 := by omega
        rw [h2, List.replicate_succ, List.set_append_right _ _ (by simp)]
        simp [List.replicate_succ']
  have := step ps.length (Nat.le_refl _)
  rw [List.take_of_length_le (by omega)] at this
  unfold putKeys
  rw [hkeys, this]
end Go.Proofs.YtiocjdggdmeggaaGreatDoor
namespace Go.Proofs.YtiocjdggdmeggaaGreatDoor
abbrev Line := Txt × Txt
def Good (l : Line) : Prop := Word l.1 ∧ Num l.2
/-- Lines in a style, each by itself; their views. -/
def linesOf (mid fin : Txt) (l : List Line) : List Txt := l.map fun x => x.1 ++ (mid ++ (x.2 ++ fin))
def viewsOf (l : List Line) : List Txt := l.map fun x => x.1 ++ x.2
theorem linesOf_length (mid fin : Txt) (l : List Line) : (linesOf mid fin l).length = l.length := by simp [linesOf]
theorem viewsOf_length (l : List Line) : (viewsOf l).length = l.length := by simp [viewsOf]
/-- What is to be known of a program and a style. -/
structure Fits (X : Ln) (S : List Nat) (mid fin : Txt) : Prop where
  one : X.sm.acc 1 = true
  all : ∀ s ∈ S, X.sm.acc s = true
  piece : ∀ w n, Word w → Num n → Piece X.sa X.sm S (w ++ (mid ++ (n ++ fin)))
theorem Fits.of {X : Ln} {S : List Nat} {mid fin : Txt} (h : styleB X S mid fin = true) (hm : mid.map rep = mid) (hf : fin.map rep = fin) : Fits X S mid fin := by
  refine ⟨?_, ?_, fun w n hw hn => Piece.style h hm hf hw hn⟩
  · simp only [styleB, Bool.and_eq_true] at h; exact h.1.1.2
  · simp only [styleB, Bool.and_eq_true, List.all_eq_true] at h; exact h.1.2
structure VFits (X : Ln) (S : List Nat) : Prop where
  one : X.vm.acc 1 = true
  all : ∀ s ∈ S, X.vm.acc s = true
  piece : ∀ w n, Word w → Num n → Piece X.va X.vm S (w ++ n)
theorem VFits.of {X : Ln} {S : List Nat} (h : vstyleB X S = true) : VFits X S := by
  refine ⟨?_, ?_, fun w n hw hn => Piece.vstyle h hw hn⟩
  · simp only [vstyleB, Bool.and_eq_true] at h; exact h.1.1.2
  · simp only [vstyleB, Bool.and_eq_true, List.all_eq_true] at h; exact h.1.2
theorem mem_lines {mid fin : Txt} {l : List Line} (hl : ∀ x ∈ l, Good x) {X : Ln} {S : List Nat} (h : Fits X S mid fin) : ∀ p ∈ linesOf mid fin l, Piece X.sa X.sm S p := by
  intro p hp
  simp only [linesOf, List.mem_map] at hp
  obtain ⟨x, hx, rfl⟩ := hp
  exact h.piece _ _ (hl x hx).1 (hl x hx).2
theorem mem_views {l : List Line} (hl : ∀ x ∈ l, Good x) {X : Ln} {S : List Nat} (h : VFits X S) : ∀ p ∈ viewsOf l, Piece X.va X.vm S p := by
  intro p hp
  simp only [viewsOf, List.mem_map] at hp
  obtain ⟨x, hx, rfl⟩ := hp
  exact h.piece _ _ (hl x hx).1 (hl x hx).2
theorem fits_commas : Fits commas sC [44] [59] := .of style_commas (by decide) (by decide)
theorem fits_equals0 : Fits equals sE [61] [33] := .of style_equals0 (by decide) (by decide)
theorem fits_equals1 : Fits equals sE [32, 32, 61, 32] [33, 33] := .of style_equals1 (by decide) (by decide)
theorem vfits_commas : VFits commas sV := .of vstyle_commas
theorem vfits_equals : VFits equals sV := .of vstyle_equals
theorem cuts_commas : SrcCuts (nSign (2 ^ 44)) (nSign (2 ^ 59)) [44] [59] := srcCuts src_commas (by decide) (by decide)
theorem cuts_equals0 : SrcCuts nEq (nPlus (2 ^ 33) 0) [61] [33] := srcCuts src_equals0 (by decide) (by decide)
theorem cuts_equals1 : SrcCuts nEq (nPlus (2 ^ 33) 0) [32, 32, 61, 32] [33, 33] := srcCuts src_equals1 (by decide) (by decide)
theorem map_rep_gap (g : Nat) : (List.replicate g (32 : UInt8)).map rep = List.replicate g 32 := by
  have : rep 32 = 32 := by decide
  simp [this]
theorem gap_at {p : Nat → Bool} (h : ((List.range 5).all p) = true) {g : Nat} (hg : g < 5) : p g = true := List.all_eq_true.1 h g (by simpa using hg)
theorem fits_gap0 {g : Nat} (hg : g < 5) : Fits equals sE (List.replicate g 32 ++ [61]) [33] := by
  have h := gap_at style_gap hg
  rw [Bool.and_eq_true] at h
  exact .of h.1 (by rw [List.map_append, map_rep_gap]; rfl) (by decide)
theorem fits_gap1 {g : Nat} (hg : g < 5) : Fits equals sE (61 :: 32 :: List.replicate g 32) [33, 33] := by
  have h := gap_at style_gap hg
  rw [Bool.and_eq_true] at h
  exact .of h.2 (by rw [List.map_cons, List.map_cons, map_rep_gap]; rfl) (by decide)
theorem cuts_gap0 {g : Nat} (hg : g < 5) : SrcCuts nEq (nPlus (2 ^ 33) 0) (List.replicate g 32 ++ [61]) [33] := by
  have h := gap_at src_gap hg
  rw [Bool.and_eq_true] at h
  exact srcCuts h.1 (by rw [List.map_append, map_rep_gap]; rfl) (by decide)
theorem cuts_gap1 {g : Nat} (hg : g < 5) : SrcCuts nEq (nPlus (2 ^ 33) 0) (61 :: 32 :: List.replicate g 32) [33, 33] := by
  have h := gap_at src_gap hg
  rw [Bool.and_eq_true] at h
  exact srcCuts h.2 (by rw [List.map_cons, List.map_cons, map_rep_gap]; rfl) (by decide)
section
variable {M F : Nd} {mw fw mid fin : Txt} {l : List Line}
theorem get_lines (h : SrcCuts M F mid fin) (hl : ∀ x ∈ l, Good x) : (linesOf mid fin l).map (lnOf M mw F fw).get = viewsOf l := by
  unfold linesOf viewsOf
  rw [List.map_map]
  exact List.map_congr_left fun x hx => get_line h (hl x hx).1 (hl x hx).2
theorem create_lines (hl : ∀ x ∈ l, Good x) : (viewsOf l).map (lnOf M mw F fw).create = linesOf mw fw l := by
  unfold linesOf viewsOf
  rw [List.map_map]
  exact List.map_congr_left fun x hx => create_line (hl x hx).1 (hl x hx).2
theorem getD_lines {j : Nat} (hj : j < l.length) : (linesOf mid fin l).getD j [] = l[j].1 ++ (mid ++ (l[j].2 ++ fin)) := by
  rw [List.getD_eq_getElem?_getD, linesOf, List.getElem?_map, List.getElem?_eq_getElem hj]; rfl
theorem getD_views {j : Nat} (hj : j < l.length) : (viewsOf l).getD j [] = l[j].1 ++ l[j].2 := by
  rw [List.getD_eq_getElem?_getD, viewsOf, List.getElem?_map, List.getElem?_eq_getElem hj]; rfl
/-- What is read and put back leaves all as it is. -/
theorem put_lines (h : SrcCuts M F mid fin) (hl : ∀ x ∈ l, Good x) : putKeys (lnOf M mw F fw) (viewsOf l) (linesOf mid fin l) = (linesOf mid fin l).flatten := by
  rw [putKeys_same _ _ _ (by rw [viewsOf_length, linesOf_length])]
  · congr 1
    apply List.ext_getElem
    · simp [linesOf]
    · intro j h1 h2
      have hj : j < l.length := by simpa [linesOf] using h2
      have hg := hl l[j] (List.getElem_mem hj)
      rw [List.getElem_map, List.getElem_range, getD_views hj, getD_lines hj, put_line h hg.1 hg.2 hg.1 hg.2]
      simp [linesOf]
  · intro j hj
    rw [linesOf_length] at hj
    have hg := hl l[j] (List.getElem_mem hj)
    rw [getD_views hj, getD_lines hj, get_line h hg.1 hg.2]
end
theorem take0 (k : Txt) (ks : List Txt) (us : List Bool) : takeIdx (k :: ks) (false :: us) k = some 0 := by
  unfold takeIdx
  exact find_first (by simp) (by simp) (by simp)
/-- Two lines that are put into in another order; a third one is new. -/
theorem put_two {w u n m n' m' : Txt} {g : Nat} (hg : g < 5) (hw : Word w) (hu : Word u) (hn : Num n) (hm : Num m) (hn' : Num n') (hm' : Num m') (vs : List Txt) (hvs : ∀ v ∈ vs, ∃ w' n', Word w' ∧ Num n' ∧ w' ≠ w ∧ w' ≠ u ∧ v = w' ++ n') :
    putKeys equals ((u ++ n') :: (w ++ m') :: vs) [w ++ ((List.replicate g 32 ++ [61]) ++ (n ++ [33])), u ++ ((61 :: 32 :: List.replicate g 32) ++ (m ++ [33, 33]))] =
      (if w = u then w ++ ((List.replicate g 32 ++ [61]) ++ (n' ++ [33])) ++ (u ++ ((61 :: 32 :: List.replicate g 32) ++ (m' ++ [33, 33])))
       else u ++ ((61 :: 32 :: List.replicate g 32) ++ (n' ++ [33, 33])) ++ (w ++ ((List.replicate g 32 ++ [61]) ++ (m' ++ [33])))) ++ (vs.map equals.create).flatten := by
  have k1 := get_line (mw := [61]) (fw := [33]) (cuts_gap0 hg) hw hn
  have k2 := get_line (mw := [61]) (fw := [33]) (cuts_gap1 hg) hu hm
  have e1 : equals.get (w ++ ((List.replicate g 32 ++ [61]) ++ (n ++ [33]))) = w ++ n := k1
  have e2 : equals.get (u ++ ((61 :: 32 :: List.replicate g 32) ++ (m ++ [33, 33]))) = u ++ m := k2
  have p1 : ∀ w' n', Word w' → Num n' → equals.put (w' ++ n') (w ++ ((List.replicate g 32 ++ [61]) ++ (n ++ [33]))) = w' ++ ((List.replicate g 32 ++ [61]) ++ (n' ++ [33])) := fun w' n' h1 h2 => put_line (cuts_gap0 hg) hw hn h1 h2
  have p2 : ∀ w' n', Word w' → Num n' → equals.put (w' ++ n') (u ++ ((61 :: 32 :: List.replicate g 32) ++ (m ++ [33, 33]))) = w' ++ ((61 :: 32 :: List.replicate g 32) ++ (n' ++ [33, 33])) := fun w' n' h1 h2 => put_line (cuts_gap1 hg) hu hm h1 h2
  obtain ⟨s1, hs1⟩ : ∃ s, w ++ ((List.replicate g 32 ++ [61]) ++ (n ++ [33])) = s := ⟨_, rfl⟩
  obtain ⟨s2, hs2⟩ : ∃ s, u ++ ((61 :: 32 :: List.replicate g 32) ++ (m ++ [33, 33])) = s := ⟨_, rfl⟩
  rw [hs1] at e1 p1 ⊢
  rw [hs2] at e2 p2 ⊢
  have tail : ∀ (vs : List Txt), (∀ v ∈ vs, ∃ w' n', Word w' ∧ Num n' ∧ w' ≠ w ∧ w' ≠ u ∧ v = w' ++ n') → ∀ o, (vs.foldl (putOne equals [s1, s2] [w, u]) (o, [true, true])).1 = o ++ (vs.map equals.create).flatten := by
    intro vs
    induction vs with
    | nil => intro _ o; simp
    | cons v vs ih =>
      intro h o
      have ht : takeIdx [w, u] [true, true] (keyP v) = none := by
        unfold takeIdx
        rw [List.find?_eq_none]
        intro j hj
        have : j < 2 := by simpa using hj
        match j, this with
        | 0, _ => simp
        | 1, _ => simp
      rw [List.foldl_cons, putOne_none ht, ih fun v' hv => h v' (by simp [hv])]
      simp
  unfold putKeys
  have hk : ([s1, s2].map fun s => keyP (equals.get s)) = [w, u] := by simp only [List.map_cons, List.map_nil, e1, e2, key_word hw hn, key_word hu hm]
  rw [hk]
  show ((((u ++ n') :: (w ++ m') :: vs).foldl (putOne equals [s1, s2] [w, u]) ([], [false, false])).1) = _
  rw [List.foldl_cons, List.foldl_cons]
  have g0 : ([s1, s2] : List Txt).getD 0 [] = s1 := rfl
  have g1 : ([s1, s2] : List Txt).getD 1 [] = s2 := rfl
  by_cases e : w = u
  · subst e
    have t1 : takeIdx [w, w] [false, false] (keyP (w ++ n')) = some 0 := by rw [key_word hu hn']; exact take0 _ _ _
    have t2 : takeIdx [w, w] [true, false] (keyP (w ++ m')) = some 1 := by
      rw [key_word hu hm']
      unfold takeIdx
      exact find_first (by simp) (by simp) (by intro i hi; have : i = 0 := by omega
                                               subst this; simp)
    rw [putOne_some t1, g0, show [false, false].set 0 true = [true, false] from rfl, putOne_some t2, g1, if_pos rfl]
    refine (tail vs hvs _).trans ?_
    rw [p1 _ _ hu hn', p2 _ _ hu hm']
    simp
  · have t1 : takeIdx [w, u] [false, false] (keyP (u ++ n')) = some 1 := by
      rw [key_word hu hn']
      unfold takeIdx
      exact find_first (by simp) (by simp) (by intro i hi; have : i = 0 := by omega
                                               subst this; simp [e])
    have t2 : takeIdx [w, u] [false, true] (keyP (w ++ m')) = some 0 := by rw [key_word hw hm']; exact take0 _ _ _
    rw [putOne_some t1, g1, show [false, false].set 1 true = [false, true] from rfl, putOne_some t2, g0, if_neg e]
    refine (tail vs hvs _).trans ?_
    rw [p2 _ _ hu hn', p1 _ _ hw hm']
    simp
end Go.Proofs.YtiocjdggdmeggaaGreatDoor
