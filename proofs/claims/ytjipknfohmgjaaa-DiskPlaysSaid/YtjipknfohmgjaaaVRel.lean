/- What the abstract state says of the machine's: representation of values, blocks and frames, and how it is kept when memory grows. -/
import Derived.Test.YtjipknfohmgjaaaVBase
import Derived.Calls
import Derived.Laws.AppendOwn
import Derived.Laws.Strings
import Derived.Laws.Slices
import Derived.Laws.BytesString
import Derived.Below
namespace Go.Vai

/-- the place of a slice that may be appended to in place -/
inductive Pl where
  | s (t : Nat)
  | sc (t i : Nat)
  | l (d off : Nat)
  | h (id off : Nat)
  | r (i : Nat)
  deriving DecidableEq

/-- what a block of the machine's memory is -/
inductive Role where
  | ext
  | h (id : Nat)
  | l (d : Nat)
  | c (p : Pl)
  deriving DecidableEq

structure G where
  role : Nat → Role
  pub : Nat → Nat

inductive Rep (g : G) (w : World) : Value → AV → Prop where
  | undef (u) : Rep g w u .undef
  | bool (b) : Rep g w (.bool b) (.bool b)
  | int (k n) : Rep g w (.int k n) (.int k n)
  | str (s : ByteArray) : Rep g w (.string s) (.str s.data.toList)
  | nilp : Rep g w (.pointer none) .nilp
  | ptr (B id off) (h : g.role B = .h id) : Rep g w (.pointer (some ⟨B, off, none⟩)) (.ptr id off)
  | cptr (B off) (cs : List AV) (vals : List Value) (hl : vals.length = cs.length)
      (hc : ∀ (j : Nat) (u : Value), vals[j]? = some u → w.cell? ⟨B, off + j, none⟩ = some u ∧ off + j < g.pub B ∧ u.oneCell' = true)
      (hr : ∀ (j : Nat) (u : Value) (c : AV), vals[j]? = some u → cs[j]? = some c → Rep g w u c) : Rep g w (.pointer (some ⟨B, off, none⟩)) (.cptr cs)
  | vsnil (p : Option Addr) (sz tg) : Rep g w (.slice p 0 0) (.vs sz tg [])
  | vs (B off cap sz) (tg : Bool) (l : List AV) (vals : List Value) (hl : vals.length = (l.flatMap AV.cells).length) (hsz : ∀ x ∈ l, x.cells.length = sz)
      (htg : tg = true → cap = l.length) (hcap : l.length ≤ cap)
      (hc : ∀ (j : Nat) (u : Value), vals[j]? = some u → w.cell? ⟨B, off + j, none⟩ = some u ∧ off + j < g.pub B ∧ u.oneCell' = true)
      (hr : ∀ (j : Nat) (u : Value) (c : AV), vals[j]? = some u → (l.flatMap AV.cells)[j]? = some c → Rep g w u c) : Rep g w (.slice (some ⟨B, off, none⟩) l.length cap) (.vs sz tg l)
  | arr (B id off len cap sz) (h : g.role B = .h id) (hcap : len ≤ cap) : Rep g w (.slice (some ⟨B, off, none⟩) len cap) (.arr id off len sz)
  | agg (us : List Value) (cs : List AV) (hl : us.length = cs.length) (h1 : ∀ u ∈ us, u.oneCell' = true) (hr : ∀ (j : Nat) (u : Value) (c : AV), us[j]? = some u → cs[j]? = some c → Rep g w u c) : Rep g w (.agg us.toArray) (.agg cs)
  | tuple (us : List Value) (cs : List AV) (hl : us.length = cs.length) (hr : ∀ (j : Nat) (u : Value) (c : AV), us[j]? = some u → cs[j]? = some c → Rep g w u c) : Rep g w (.tuple us.toArray) (.tuple cs)
  | func (f) (us : List Value) (cs : List AV) (hl : us.length = cs.length) (hr : ∀ (j : Nat) (u : Value) (c : AV), us[j]? = some u → cs[j]? = some c → Rep g w u c) : Rep g w (.func (.func f) #[] us.toArray) (.func f cs)
  | iface (t u v) (h : Rep g w u v) : Rep g w (.iface t u) (.iface t v)
  | nilI : Rep g w .nilIface .nilI

/-- pointwise -/
def RepL (g : G) (w : World) (us : List Value) (cs : List AV) : Prop :=
  us.length = cs.length ∧ ∀ (j : Nat) (u : Value) (c : AV), us[j]? = some u → cs[j]? = some c → Rep g w u c

/-- memory grows: what is published stays -/
structure Ext (g : G) (w : World) (g' : G) (w' : World) : Prop where
  hrole : ∀ B id, g.role B = .h id → g'.role B = .h id
  pub : ∀ B, g.pub B ≤ g'.pub B
  cell : ∀ B o, o < g.pub B → w'.cell? ⟨B, o, none⟩ = w.cell? ⟨B, o, none⟩

theorem Ext.refl (g : G) (w : World) : Ext g w g w := ⟨fun _ _ h => h, fun _ => Nat.le_refl _, fun _ _ _ => rfl⟩

theorem Ext.trans {g g' g'' : G} {w w' w'' : World} (a : Ext g w g' w') (b : Ext g' w' g'' w'') : Ext g w g'' w'' :=
  ⟨fun B id h => b.hrole B id (a.hrole B id h), fun B => Nat.le_trans (a.pub B) (b.pub B),
    fun B o h => (b.cell B o (Nat.lt_of_lt_of_le h (a.pub B))).trans (a.cell B o h)⟩

theorem Rep.ext {g g' : G} {w w' : World} {u : Value} {v : AV} (h : Rep g w u v) (e : Ext g w g' w') : Rep g' w' u v := by
  induction h with
  | undef u => exact .undef u
  | bool b => exact .bool b
  | int k n => exact .int k n
  | str s => exact .str s
  | nilp => exact .nilp
  | ptr B id off h => exact .ptr B id off (e.hrole B id h)
  | cptr B off cs vals hl hc hr ih =>
    refine .cptr B off cs vals hl (fun j u hu => ?_) ih
    obtain ⟨h1, h2, h3⟩ := hc j u hu
    exact ⟨(e.cell B _ h2).trans h1, Nat.lt_of_lt_of_le h2 (e.pub B), h3⟩
  | vsnil p sz tg => exact .vsnil p sz tg
  | vs B off cap sz tg l vals hl hsz htg hcap hc hr ih =>
    refine .vs B off cap sz tg l vals hl hsz htg hcap (fun j u hu => ?_) ih
    obtain ⟨h1, h2, h3⟩ := hc j u hu
    exact ⟨(e.cell B _ h2).trans h1, Nat.lt_of_lt_of_le h2 (e.pub B), h3⟩
  | arr B id off len cap sz h hcap => exact .arr B id off len cap sz (e.hrole B id h) hcap
  | agg us cs hl h1 hr ih => exact .agg us cs hl h1 ih
  | tuple us cs hl hr ih => exact .tuple us cs hl ih
  | func f us cs hl hr ih => exact .func f us cs hl ih
  | iface t u v h ih => exact .iface t u v ih
  | nilI => exact .nilI

/-- pointwise, over a part of what is there: behind it there may be room -/
def RepP (g : G) (w : World) (us : List Value) (cs : List AV) : Prop :=
  cs.length ≤ us.length ∧ ∀ (j : Nat) (u : Value) (c : AV), us[j]? = some u → cs[j]? = some c → Rep g w u c
theorem RepL.part {g : G} {w : World} {us : List Value} {cs : List AV} (h : RepL g w us cs) : RepP g w us cs := ⟨by rw [h.1]; exact Nat.le_refl _, h.2⟩

theorem RepL.ext {g g' : G} {w w' : World} {us : List Value} {cs : List AV} (h : RepL g w us cs) (e : Ext g w g' w') : RepL g' w' us cs :=
  ⟨h.1, fun j u c hu hc => (h.2 j u c hu hc).ext e⟩
theorem RepP.ext {g g' : G} {w w' : World} {us : List Value} {cs : List AV} (h : RepP g w us cs) (e : Ext g w g' w') : RepP g' w' us cs :=
  ⟨h.1, fun j u c hu hc => (h.2 j u c hu hc).ext e⟩
theorem RepP.get {g : G} {w : World} {us : List Value} {cs : List AV} (h : RepP g w us cs) {j : Nat} {c : AV} (hc : cs[j]? = some c) : ∃ u, us[j]? = some u ∧ Rep g w u c := by
  have hlt : j < us.length := Nat.lt_of_lt_of_le (List.getElem?_eq_some_iff.1 hc).1 h.1
  exact ⟨us[j], List.getElem?_eq_getElem hlt, h.2 j _ c (List.getElem?_eq_getElem hlt) hc⟩
theorem RepP.full {g : G} {w : World} {us : List Value} {cs : List AV} (h : RepP g w us cs) : RepL g w (us.take cs.length) cs := by
  refine ⟨by have := h.1; simp; omega, fun j u c hu hc => ?_⟩
  rw [List.getElem?_take] at hu
  split at hu
  · exact h.2 j u c hu hc
  · cases hu
/-- the first n are values of one cell -/
def OneP (us : List Value) (n : Nat) : Prop := ∀ j u, j < n → us[j]? = some u → u.oneCell' = true
theorem oneP_of {us : List Value} (h : ∀ u ∈ us, u.oneCell' = true) (n : Nat) : OneP us n := fun _ u _ hu => h u (List.mem_of_getElem? hu)
/-- a full part of it -/
theorem RepP.cut {g : G} {w : World} {us : List Value} {cs : List AV} (h : RepP g w us cs) {off n : Nat} (hn : off + n ≤ cs.length) : RepL g w ((us.drop off).take n) ((cs.drop off).take n) := by
  refine ⟨by have := h.1; simp; omega, fun j u c hu hc => ?_⟩
  rw [List.getElem?_take] at hu hc
  split at hu
  · rename_i hj
    rw [if_pos hj] at hc
    rw [List.getElem?_drop] at hu hc
    exact h.2 _ u c hu hc
  · cases hu

theorem pureL_cons (a : AV) (l : List AV) : pureL (a :: l) = (a.pure && pureL l) := by
  simp only [pureL]
  cases a.pure <;> rfl

theorem pureL_append (a b : List AV) : pureL (a ++ b) = (pureL a && pureL b) := by
  induction a with
  | nil => simp [pureL]
  | cons x a ih => simp [pureL_cons, ih, Bool.and_assoc]

theorem pureL_get {cs : List AV} (h : pureL cs = true) (j : Nat) (c : AV) (hc : cs[j]? = some c) : c.pure = true := by
  induction cs generalizing j with
  | nil => simp at hc
  | cons a l ih =>
    rw [pureL_cons, Bool.and_eq_true] at h
    cases j with
    | zero => simp at hc; subst hc; exact h.1
    | succ j => exact ih h.2 j (by simpa using hc)

theorem pureL_flat {l : List AV} (h : pureL l = true) : pureL (l.flatMap AV.cells) = true := by
  induction l with
  | nil => rfl
  | cons x l ih =>
    rw [pureL_cons, Bool.and_eq_true] at h
    rw [List.flatMap_cons, pureL_append, ih h.2, Bool.and_true]
    cases x <;> simp_all [AV.cells, pureL_cons, AV.pure, pureL]

/-- a value without pointers into memory that can change says the same under every naming of blocks -/
theorem Rep.pure {g : G} {w : World} {u : Value} {v : AV} (h : Rep g w u v) : v.pure = true → ∀ g' : G, (∀ B, g.pub B ≤ g'.pub B) → Rep g' w u v := by
  induction h with
  | undef u => intro _ g' _; exact .undef u
  | bool b => intro _ g' _; exact .bool b
  | int k n => intro _ g' _; exact .int k n
  | str s => intro _ g' _; exact .str s
  | nilp => intro _ g' _; exact .nilp
  | ptr B id off h => intro hp; simp [AV.pure] at hp
  | cptr B off cs vals hl hc hr ih =>
    intro hp g' hg
    simp only [AV.pure] at hp
    refine .cptr B off cs vals hl (fun j u hu => ?_) (fun j u c hu hcc => ih j u c hu hcc (pureL_get hp j c hcc) g' hg)
    obtain ⟨h1, h2, h3⟩ := hc j u hu
    exact ⟨h1, Nat.lt_of_lt_of_le h2 (hg B), h3⟩
  | vsnil p sz tg => intro _ g' _; exact .vsnil p sz tg
  | vs B off cap sz tg l vals hl hsz htg hcap hc hr ih =>
    intro hp g' hg
    simp only [AV.pure] at hp
    have hcells := pureL_get (pureL_flat hp)
    refine .vs B off cap sz tg l vals hl hsz htg hcap (fun j u hu => ?_) (fun j u c hu hcc => ih j u c hu hcc (hcells j c hcc) g' hg)
    obtain ⟨h1, h2, h3⟩ := hc j u hu
    exact ⟨h1, Nat.lt_of_lt_of_le h2 (hg B), h3⟩
  | arr B id off len cap sz h hcap => intro hp; simp [AV.pure] at hp
  | agg us cs hl h1 hr ih => intro hp g' hg; exact .agg us cs hl h1 fun j u c hu hc => ih j u c hu hc (pureL_get (by simpa [AV.pure] using hp) j c hc) g' hg
  | tuple us cs hl hr ih => intro hp g' hg; exact .tuple us cs hl fun j u c hu hc => ih j u c hu hc (pureL_get (by simpa [AV.pure] using hp) j c hc) g' hg
  | func f us cs hl hr ih => intro hp g' hg; exact .func f us cs hl fun j u c hu hc => ih j u c hu hc (pureL_get (by simpa [AV.pure] using hp) j c hc) g' hg
  | iface t u v h ih => intro hp g' hg; exact .iface t u v (ih (by simpa [AV.pure] using hp) g' hg)
  | nilI => intro _ g' _; exact .nilI

/-- a block that holds these cells, and that nobody else writes -/
def BlkRep (g : G) (w : World) (B : Nat) (cells : List AV) : Prop :=
  ∃ (us : List Value) (e : TypeId), w.heap[B]? = some (.cells us.toArray e (0, 0)) ∧ OneP us cells.length ∧ RepP g w us cells

/-- the right to append in place: nil, no room, or a block of one's own -/
def OwnV (g : G) (w : World) (p : Pl) (sz : Nat) (u : Value) : Prop :=
  u = .slice none 0 0 ∨ (∃ a n, u = .slice (some a) n n) ∨
  (∃ B n cap us e, u = .slice (some ⟨B, 0, none⟩) n cap ∧ g.role B = .c p ∧ w.heap[B]? = some (.cells us e (0, 0)) ∧ us.size = cap * sz ∧ n ≤ cap ∧ g.pub B = n * sz)

/-- a block of one's own -/
def OwnB (g : G) (w : World) (p : Pl) (sz : Nat) (u : Value) : Prop :=
  ∃ B n cap us e, u = .slice (some ⟨B, 0, none⟩) n cap ∧ g.role B = .c p ∧ w.heap[B]? = some (.cells us e (0, 0)) ∧ us.size = cap * sz ∧ n ≤ cap ∧ g.pub B = n * sz
theorem OwnB.v {g : G} {w : World} {p : Pl} {sz : Nat} {u : Value} (h : OwnB g w p sz u) : OwnV g w p sz u := .inr (.inr h)

def OwnAV (g : G) (w : World) (p : Pl) (u : Value) : AV → Prop
  | .vs sz _ _ => OwnV g w p sz u
  | _ => True

/-- what is sure of a frame's ghost -/
structure Inv (g : G) (w : World) : Prop where
  new : ∀ B, w.heap.size ≤ B → g.role B = .ext ∧ g.pub B = 0
  ph : ∀ B id, g.role B = .h id → g.pub B = 0
  pl : ∀ B d, g.role B = .l d → g.pub B = 0
  injh : ∀ B B' id, g.role B = .h id → g.role B' = .h id → B = B'
  injl : ∀ B B' d, g.role B = .l d → g.role B' = .l d → B = B'

structure RelH (g : G) (H : Hp) (_nx : Nat) (w : World) : Prop where
  blk : ∀ id b, H id = some b → ∃ B, g.role B = .h id ∧ BlkRep g w B b.cells ∧
    ∀ off ∈ b.free, ∀ u v, w.cell? ⟨B, off, none⟩ = some u → b.cells[off]? = some v → OwnAV g w (.h id off) u v
  lt : ∀ B id, g.role B = .h id → H id ≠ none

def RelL (g : G) (L : List (Nat × Blk)) (w : World) : Prop :=
  ∀ d b, getL L d = some b → ∃ B, g.role B = .l d ∧ BlkRep g w B b.cells ∧
    ∀ off ∈ b.free, ∀ u v, w.cell? ⟨B, off, none⟩ = some u → b.cells[off]? = some v → OwnAV g w (.l d off) u v

/-- a map's entries -/
def MapRep (g : G) (w : World) (es : List MapEntry) (l : List (AV × AV)) : Prop :=
  es.length = l.length ∧ ∀ (j : Nat) (e : MapEntry) (p : AV × AV), es[j]? = some e → l[j]? = some p → Rep g w e.key p.1 ∧ Rep g w e.val p.2
theorem MapRep.ext {g g' : G} {w w' : World} {es : List MapEntry} {l : List (AV × AV)} (h : MapRep g w es l) (e : Ext g w g' w') : MapRep g' w' es l :=
  ⟨h.1, fun j x p hx hp => ⟨(h.2 j x p hx hp).1.ext e, (h.2 j x p hx hp).2.ext e⟩⟩
/-- the maps of the frame -/
def RelM (g : G) (M : List (Nat × List (AV × AV))) (w : World) : Prop :=
  ∀ d l, getM M d = some l → ∃ B es ck, g.role B = .l d ∧ w.heap[B]? = some (.map es ck) ∧ MapRep g w es.toList l

/-- a slot's flag -/
def FlRel (g : G) (S : St) (a : Act) (w : World) (t : Nat) (u : Value) (v : AV) : Fl → Prop
  | .no => True
  | .own => OwnAV g w (.s t) u v
  | .lS q => ∀ v', S.slot q = .val v' .own → a.tmps.getD q undef = u ∧ v' = v
  | .lL d off => ∀ b, getL S.L d = some b → off ∈ b.free → ∃ B, g.role B = .l d ∧ w.cell? ⟨B, off, none⟩ = some u ∧ b.cells[off]? = some v
  | .lH id off => ∀ b, S.H id = some b → off ∈ b.free → ∃ B, g.role B = .h id ∧ w.cell? ⟨B, off, none⟩ = some u ∧ b.cells[off]? = some v
  | .comps cs => ∀ i ∈ cs, ∀ us vs ui vi, u = .tuple us → v = .tuple vs → us[i]? = some ui → vs[i]? = some vi → OwnAV g w (.sc t i) ui vi

def SlotRel (g : G) (S : St) (a : Act) (w : World) (t : Nat) : Slot → Prop
  | .und => True
  | .lp d off => ∃ B, g.role B = .l d ∧ a.tmps.getD t undef = .pointer (some ⟨B, off, none⟩)
  | .mp d => ∃ B, g.role B = .l d ∧ a.tmps.getD t undef = .map (some B)
  | .val v f => Rep g w (a.tmps.getD t undef) v ∧ FlRel g S a w t (a.tmps.getD t undef) v f

/-- what has become of the memory since the call began -/
structure Fr (g0 : G) (w0 : World) (Ex : Nat → Prop) (g : G) (w : World) : Prop where
  ext : Ext g0 w0 g w
  os : w.os = w0.os
  tape : w.tape = w0.tape
  output : w.output = w0.output
  size : w0.heap.size ≤ w.heap.size
  same : ∀ B, B < w0.heap.size → ¬ Ex B → w.heap[B]? = w0.heap[B]? ∧ g.pub B = g0.pub B
  role : ∀ B, g.role B ≠ .ext → w0.heap.size ≤ B ∨ Ex B

structure Rel (g0 : G) (w0 : World) (Ex : Nat → Prop) (g : G) (S : St) (a : Act) (w : World) : Prop where
  inv : Inv g w
  h : RelH g S.H S.nx w
  l : RelL g S.L w
  m : RelM g S.M w
  len : S.sl.length = a.tmps.size
  sl : ∀ t, SlotRel g S a w t (S.slot t)
  fr : Fr g0 w0 Ex g w
  nodef : a.defers = []

/-- the package-level variables hold what the table says -/
def GlobOk (A : List (Nat × Ann)) (g : G) (w : World) : Prop := ∀ i cs, globOf A i = some cs → pureL cs = true ∧ Rep g w (.pointer (some ⟨i, 0, none⟩)) (.cptr cs)
theorem GlobOk.ext {A : List (Nat × Ann)} {g g' : G} {w w' : World} (h : GlobOk A g w) (e : Ext g w g' w') : GlobOk A g' w' := fun i cs hc => ⟨(h i cs hc).1, (h i cs hc).2.ext e⟩
theorem GlobOk.pure {A : List (Nat × Ann)} {g g' : G} {w : World} (h : GlobOk A g w) (hp : ∀ B, g.pub B ≤ g'.pub B) : GlobOk A g' w := fun i cs hc => ⟨(h i cs hc).1, (h i cs hc).2.pure (h i cs hc).1 g' hp⟩

/-- some ghost serves -/
def Good (g0 : G) (w0 : World) (Ex : Nat → Prop) (S : St) (a : Act) (w : World) : Prop := ∃ g, Rel g0 w0 Ex g S a w

end Go.Vai
