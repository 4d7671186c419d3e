/- Loads, addresses, slice expressions, conversions, composite literals. -/
import Derived.Test.YtjipknfohmgjaaaVOp3
import Derived.Laws.BytesArg
import Derived.Lib.ConvBytes
namespace Go.Vai

section
variable {g0 : G} {w0 : World} {Ex : Nat → Prop} {g : G} {S : St} {a : Act} {w : World} {P : Program} {R : Type} {r : R} {o : Oper}

/-- cells in memory, as values -/
def CellsAt (w : World) (B off : Nat) (vals : List Value) : Prop := ∀ (j : Nat) (u : Value), vals[j]? = some u → w.cell? ⟨B, off + j, none⟩ = some u ∧ u.oneCell' = true

theorem CellsAt.drop {B off : Nat} {vals : List Value} (h : CellsAt w B off vals) (n : Nat) : CellsAt w B (off + n) (vals.drop n) := fun j u hu => by
  have := h (n + j) u (by simpa [List.getElem?_drop] using hu)
  rwa [← Nat.add_assoc] at this
theorem CellsAt.take {B off : Nat} {vals : List Value} (h : CellsAt w B off vals) (n : Nat) : CellsAt w B off (vals.take n) := fun j u hu => by
  rw [List.getElem?_take] at hu
  split at hu
  · exact h j u hu
  · cases hu
theorem CellsAt.run {B off : Nat} {vals : List Value} (h : CellsAt w B off vals) {n : Nat} (hn : vals.length = n) : (loadCells ⟨B, off, none⟩ n).run P w = .ok vals.toArray w := by
  subst hn
  exact run_loadCells_list w _ vals fun j v hv => by rw [Addr.add_lit]; exact (h j v hv).1
theorem CellsAt.one {B off : Nat} {vals : List Value} (h : CellsAt w B off vals) : ∀ u ∈ vals, u.oneCell' = true := fun u hu => by
  obtain ⟨j, hj⟩ := List.mem_iff_getElem?.1 hu
  exact (h j u hj).2

theorem blk_cells {B : Nat} {us : List Value} {e : TypeId} {fr : Nat × Nat} (h : w.heap[B]? = some (.cells us.toArray e fr)) (h1 : ∀ u ∈ us, u.oneCell' = true) : CellsAt w B 0 us := fun j u hu => by
  refine ⟨?_, h1 u (List.mem_of_getElem? hu)⟩
  simp [World.cell?, h, hu]

theorem blk_take {B : Nat} {us : List Value} {e : TypeId} {fr : Nat × Nat} {n : Nat} (h : w.heap[B]? = some (.cells us.toArray e fr)) (h1 : OneP us n) : CellsAt w B 0 (us.take n) := fun j u hu => by
  rw [List.getElem?_take] at hu
  split at hu
  · rename_i hj
    refine ⟨?_, h1 j u hj hu⟩
    simp [World.cell?, h, hu]
  · cases hu

theorem loadVar_sound {t : TypeId} {B off n : Nat} {vals : List Value} {cells : List AV} {d : TypeDesc} {ag : Bool} (hu : P.underlying t = some d) (hag : ∀ w, (isAgg t).run P w = .ok ag w)
    (hc : CellsAt w B off vals) (hr : RepP g w vals cells) :
    match ag with
    | true => n + tSize P t ≤ cells.length → ∃ u, (loadVar t ⟨B, off + n, none⟩).run P w = .ok u w ∧ Rep g w u (.agg ((cells.drop n).take (tSize P t)))
    | false => ∀ c, cells[n]? = some c → ∃ u, (loadVar t ⟨B, off + n, none⟩).run P w = .ok u w ∧ Rep g w u c ∧ w.cell? ⟨B, off + n, none⟩ = some u := by
  obtain ⟨i, hi⟩ := info_of_und hu
  cases ag with
  | true =>
    intro hle
    have hr' := hr.cut hle
    have hc' := (hc.drop n).take (tSize P t)
    refine ⟨.agg ((vals.drop n).take (tSize P t)).toArray, ?_, .agg _ _ hr'.1 hc'.one hr'.2⟩
    have hlen : ((vals.drop n).take (tSize P t)).length = tSize P t := by
      rw [hr'.1]; simp only [List.length_take, List.length_drop]; omega
    simp only [loadVar, Sem.run_bind, hag, Result.andThen_ok, if_true, run_sizeOf hi, hc'.run hlen, Sem.run_pure]
  | false =>
    intro c hcc
    obtain ⟨u, hu2, hrep⟩ := hr.get hcc
    have hcell := (hc n u hu2).1
    refine ⟨u, ?_, hrep, hcell⟩
    simp only [loadVar, Sem.run_bind, hag, Result.andThen_ok, Bool.false_eq_true, if_false, run_load, hcell]

theorem getL_mem {L : List (Nat × Blk)} {d : Nat} {b : Blk} (_h : getL L d = some b) : True := trivial

theorem opLoad_step {t : TypeId} {x : Operand} {k : St → Option R} (ho : o.op = .load t x) (h : opLoad P o t x S k = some r) (hg : Rel g0 w0 Ex g S a w) :
    StepTo P o a w g0 w0 Ex k r := by
  unfold opLoad at h
  have fin : ∀ (B off n : Nat) (vals : List Value) (cells : List AV) (f : Fl), a.eval x = .pointer (some ⟨B, off + n, none⟩) → CellsAt w B off vals → RepP g w vals cells →
      (∀ d u c, cells[n]? = some c → w.cell? ⟨B, off + n, none⟩ = some u → FlRel g S a w d u c f) → f ≠ .own → (∀ cs, f ≠ .comps cs) →
      (tAggK P t fun ag => match ag with
        | true => br (Nat.ble (n + tSize P t) cells.length) (k (S.putd o.dst (.val (.agg ((cells.drop n).take (tSize P t))) .no))) Option.none
        | false => (nth cells n).bind fun c => k (S.putd o.dst (.val c f))) = some r → StepTo P o a w g0 w0 Ex k r := by
    intro B off n vals cells f he hc hr hf hno hnc hk
    obtain ⟨ag, d, hd, hk, hag⟩ := tAggK_some hk
    have hl := loadVar_sound (n := n) hd hag hc hr
    have he' : ∀ u, (loadVar t ⟨B, off + n, none⟩).run P w = .ok u w → (execOp a.eval o).run P w = .ok (.value u) w := by
      intro u hu
      simp only [execOp, ho, Instr.loadAt, he, Instr.sureAddr, Sem.run_bind, Sem.run_pure, Result.andThen_ok, hu]
    cases ag with
    | true =>
      obtain ⟨h0, hk⟩ := br_left hk
      obtain ⟨u, hu, hrep⟩ := hl (ble_true h0)
      exact .val hg (he' u hu) hrep hk
    | false =>
      obtain ⟨c, hcc, hk⟩ := bind_some' hk
      rw [nth_get] at hcc
      obtain ⟨u, hu, hrep, hcell⟩ := hl c hcc
      exact .mk (he' u hu) ⟨g, hg.putv o.dst hrep (fun d _ => hf d u c hcc hcell) hno hnc⟩ hk
  simp only at h
  split at h
  · rename_i ta
    split at h
    · rename_i d off hs
      obtain ⟨b, hb, h2⟩ := bind_some' h
      clear h
      have h1 := hg.sl ta
      rw [hs] at h1
      obtain ⟨B, hB, hev⟩ := h1
      obtain ⟨B', hB', ⟨us, e, hheap, hone, hrl⟩, hfree⟩ := hg.l d b hb
      obtain rfl := hg.inv.injl B B' d hB hB'
      refine fin B 0 off (us.take b.cells.length) b.cells _ (by rw [Nat.zero_add]; exact hev) (blk_take hheap hone) hrl.full.part ?_ ?_ ?_ h2
      · intro d' u c hc hcell
        rw [Nat.zero_add] at hcell
        split
        · intro b' hb' _
          rw [hb] at hb'
          injection hb' with hb'
          subst hb'
          exact ⟨B, hB, hcell, hc⟩
        · trivial
      · split <;> simp
      · intro cs; split <;> simp
    · rename_i v f hs
      have hrep := (hg.slotv hs).1
      split at h
      · rename_i id off
        obtain ⟨b, hb, h2⟩ := bind_some' h
        clear h
        obtain ⟨B, hB, hev⟩ := rep_ptr hrep
        obtain ⟨B', hB', ⟨us, e, hheap, hone, hrl⟩, hfree⟩ := hg.h.blk id b hb
        obtain rfl := hg.inv.injh B B' id hB hB'
        refine fin B 0 off (us.take b.cells.length) b.cells (.lH id off) (by rw [Nat.zero_add]; exact hev) (blk_take hheap hone) hrl.full.part ?_ (by simp) (by simp) h2
        intro d' u c hc hcell b' hb' _
        rw [hb] at hb'
        injection hb' with hb'
        subst hb'
        rw [Nat.zero_add] at hcell
        exact ⟨B, hB, hcell, hc⟩
      · rename_i cs
        obtain ⟨B, off, vals, hev, hc, hrl⟩ := rep_cptr hrep
        refine fin B off 0 vals cs .no hev (fun j u hu => ⟨(hc j u hu).1, (hc j u hu).2.2⟩) hrl.part (fun _ _ _ _ _ => trivial) (by simp) (by simp) h
      · cases h
    · cases h
  · cases h

theorem opFieldAddr_step {t : TypeId} {x : Operand} {fi : Nat} {k : St → Option R} (ho : o.op = .fieldAddr t x fi) (h : opFieldAddr P o t x fi S k = some r) (hg : Rel g0 w0 Ex g S a w) :
    StepTo P o a w g0 w0 Ex k r := by
  unfold opFieldAddr at h
  split at h
  · cases h
  · rename_i fs hfs
    obtain ⟨fa, hu, rfl⟩ := tFields_some hfs
    split at h
    · cases h
    · rename_i f hf
      split at h
      · cases h
      · rename_i hz
        have hz' : tSize P f.type ≠ 0 := fun e => by rw [e] at hz; cases hz
        have hf' : fa[fi]? = some f := by simpa using hf
        have key : ∀ B off, a.eval x = .pointer (some ⟨B, off, none⟩) → (execOp a.eval o).run P w = .ok (.value (.pointer (some ⟨B, off + f.offset, none⟩))) w := by
          intro B off he
          simp only [execOp, ho, Instr.fieldAt, Sem.run_bind, run_und hu, Result.andThen_ok, hf', he, Instr.sureAddr, Sem.run_pure, fieldPlace, run_sizeOf_pos hz', if_neg hz', Addr.add_lit]
        split at h
        · rename_i tx
          split at h
          · rename_i d off hs
            have h1 := hg.sl tx
            rw [hs] at h1
            obtain ⟨B, hB, hev⟩ := h1
            exact .mk (key B off hev) ⟨g, hg.putlp o.dst (.inr (.inl ⟨d, _, B, rfl, hB, rfl⟩))⟩ h
          · rename_i v fl hs
            have hrep := (hg.slotv hs).1
            split at h
            · rename_i id off
              obtain ⟨B, hB, hev⟩ := rep_ptr hrep
              exact .val hg (key B off hev) (.ptr B id _ hB) h
            · rename_i cs
              obtain ⟨B, off, vals, hev, hc, hrl⟩ := rep_cptr hrep
              refine .val hg (key B off hev) (.cptr B _ _ (vals.drop f.offset) (hrl.drop _).1 (fun j u hu => ?_) (hrl.drop _).2) h
              have := hc (f.offset + j) u (by simpa [List.getElem?_drop] using hu)
              rwa [← Nat.add_assoc] at this
            · cases h
          · cases h
        · cases h

/-- the cells of an element -/
theorem flat_elem {z : Nat} : ∀ {l : List AV} {i : Nat} {c : AV}, (∀ x ∈ l, x.cells.length = z) → l[i]? = some c → ((l.flatMap AV.cells).drop (i * z)).take z = c.cells
  | [], i, c, _, h => by simp at h
  | x :: l, 0, c, hz, h => by
    simp at h
    subst h
    have hx := hz x (by simp)
    simp [List.flatMap_cons, ← hx]
  | x :: l, i + 1, c, hz, h => by
    have hx := hz x (by simp)
    have ih := flat_elem (l := l) (i := i) (c := c) (fun y hy => hz y (List.mem_cons_of_mem _ hy)) (by simpa using h)
    rw [List.flatMap_cons, show (i + 1) * z = x.cells.length + i * z by rw [hx, Nat.succ_mul]; omega, ← List.drop_drop, List.drop_left]
    exact ih

theorem flat_len {z : Nat} : ∀ {l : List AV}, (∀ x ∈ l, x.cells.length = z) → (l.flatMap AV.cells).length = l.length * z
  | [], _ => by simp
  | x :: l, h => by
    rw [List.flatMap_cons, List.length_append, h x (by simp), flat_len (l := l) (fun y hy => h y (List.mem_cons_of_mem _ hy)), List.length_cons, Nat.succ_mul]; omega

theorem opIndexAddr_step {t : TypeId} {x ix : Operand} {k : St → Option R} (ho : o.op = .indexAddr t x ix) (h : opIndexAddr P o t x ix S k = some r) (hg : Rel g0 w0 Ex g S a w) :
    StepTo P o a w g0 w0 Ex k r := by
  unfold opIndexAddr at h
  obtain ⟨ik, i, hix, h1⟩ := int?_some h
  clear h
  have hi := hg.ev ix
  rw [hix] at hi
  have hi' := rep_int hi
  split at h1
  · rename_i e hu
    split at h1
    · cases h1
    · rename_i hz
      have hz' : tSize P e ≠ 0 := fun e => by rw [e] at hz; cases hz
      have hx := hg.ev x
      have key : ∀ ad len cap, a.eval x = .slice (some ad) len cap → 0 ≤ i → i < (len : Int) → (execOp a.eval o).run P w = .ok (.value (.pointer (some (ad.add (i.toNat * tSize P e))))) w := by
        intro ad len cap he h0 h1
        simp only [execOp, ho, Instr.indexAt, hi', asIntOf, Sem.run_bind, Sem.run_pure, Result.andThen_ok, run_und hu, he, if_pos (And.intro h0 h1), Sem.run_ite, run_sizeOf_pos hz']
      split at h1
      · rename_i z tg l hev
        rw [hev] at hx
        split at h1
        · rename_i hzz
          obtain rfl := beq_true hzz
          obtain ⟨h0, h2⟩ := br_left h1
          obtain ⟨h3, h4⟩ := br_left h2
          obtain ⟨c, hc, h5⟩ := bind_some' h4
          rw [nth_get] at hc
          have h0' : 0 ≤ i := by simpa using h0
          have h3' : i < (l.length : Int) := by simpa using h3
          rcases rep_vs hx with ⟨_, rfl⟩ | ⟨B, off, cap, vals, he, hsz, _, _, hcell, hrl⟩
          · simp at hc
          · have hk := key _ _ _ he h0' h3'
            rw [Addr.add_lit] at hk
            have hfl := flat_elem hsz hc
            have hrl' := (hrl.drop (i.toNat * tSize P e)).take (tSize P e)
            rw [hfl] at hrl'
            refine .val hg hk (.cptr B _ _ ((vals.drop (i.toNat * tSize P e)).take (tSize P e)) hrl'.1 (fun j u hu => ?_) hrl'.2) h5
            rw [List.getElem?_take] at hu
            split at hu
            · have := hcell (i.toNat * tSize P e + j) u (by simpa [List.getElem?_drop] using hu)
              rwa [← Nat.add_assoc] at this
            · cases hu
        · cases h1
      · rename_i id off len z hev
        rw [hev] at hx
        split at h1
        · rename_i hzz
          obtain rfl := beq_true hzz
          obtain ⟨h0, h2⟩ := br_left h1
          obtain ⟨h3, h4⟩ := br_left h2
          have h0' : 0 ≤ i := by simpa using h0
          have h3' : i < (len : Int) := by simpa using h3
          obtain ⟨B, cap, hB, he, _⟩ := rep_arr hx
          have hk := key _ _ _ he h0' h3'
          rw [Addr.add_lit] at hk
          exact .val hg hk (.ptr B id _ hB) h4
        · cases h1
      · cases h1
  · rename_i len e hu
    split at h1
    · rename_i tx
      split at h1
      · cases h1
      · rename_i hz
        have hz' : tSize P e ≠ 0 := fun e => by rw [e] at hz; cases hz
        have key : ∀ ad, a.eval (.tmp tx) = .pointer (some ad) → 0 ≤ i → i < (len : Int) → (execOp a.eval o).run P w = .ok (.value (.pointer (some (ad.add (i.toNat * tSize P e))))) w := by
          intro ad he h0 h1
          simp only [execOp, ho, Instr.indexAt, hi', asIntOf, Sem.run_bind, Sem.run_pure, Result.andThen_ok, run_und hu, he, Instr.sureAddr, if_pos (And.intro h0 h1), Sem.run_ite, run_sizeOf_pos hz']
        split at h1
        · rename_i d off hs
          obtain ⟨h0, h2⟩ := br_left h1
          obtain ⟨h3, h4⟩ := br_left h2
          have h0' : 0 ≤ i := by simpa using h0
          have h3' : i < (len : Int) := by simpa using h3
          have h5 := hg.sl tx
          rw [hs] at h5
          obtain ⟨B, hB, hev⟩ := h5
          have hk := key _ hev h0' h3'
          rw [Addr.add_lit] at hk
          exact .mk hk ⟨g, hg.putlp o.dst (.inr (.inl ⟨d, _, B, rfl, hB, rfl⟩))⟩ h4
        · rename_i v fl hs
          have hrep := (hg.slotv hs).1
          split at h1
          · rename_i id off
            obtain ⟨h0, h2⟩ := br_left h1
            obtain ⟨h3, h4⟩ := br_left h2
            have h0' : 0 ≤ i := by simpa using h0
            have h3' : i < (len : Int) := by simpa using h3
            obtain ⟨B, hB, hev⟩ := rep_ptr hrep
            have hk := key _ hev h0' h3'
            rw [Addr.add_lit] at hk
            exact .val hg hk (.ptr B id _ hB) h4
          · cases h1
        · cases h1
    · cases h1
  · cases h1

end
end Go.Vai
