/- The soundness of the interpreter: code, and calls. -/
import Derived.Test.YtjipknfohmgjaaaVNrm
import Derived.Scope
namespace Go.Vai

section
variable {g0 : G} {w0 : World} {Ex : Nat → Prop} {g g' : G} {S : St} {a : Act} {w w' : World} {P : Program} {A : List (Nat × Ann)}

def packV : List Value → Value
  | [v] => v
  | l => .tuple l.toArray

def resVal (tmps : Array Value) : ResultVar → Sem Value
  | .tmp t => pure (tmps.getD t undef)
  | .cell a t => do loadVar t (← asAddr (tmps.getD a undef))

theorem results_eq (fn : Func) (tmps : Array Value) : results fn tmps = (do
    let vs ← fn.results.mapM (resVal tmps)
    pure (if h : vs.size = 1 then vs[0] else .tuple vs)) := rfl

theorem results_run (fn : Func) (tmps : Array Value) {us : List Value} (h : (fn.results.toList.mapM (resVal tmps)).run P w = .ok us w) :
    (results fn tmps).run P w = .ok (packV us) w := by
  rw [results_eq, Array.mapM_eq_mapM_toList]
  simp only [Sem.run_bind, Sem.run_map, h, Result.andThen_ok, Sem.run_pure]
  match us with
  | [] => rfl
  | [t] => rfl
  | t :: t2 :: l => simp [packV]

theorem resVals_ok (hg : Rel g0 w0 Ex g S a w) : ∀ {rs : List ResultVar} {vs : List AV}, resVals P S rs = some vs → ∃ us : List Value, RepL g w us vs ∧
    (rs.mapM (resVal a.tmps)).run P w = .ok us w ∧
    (∀ (j t : Nat), rs[j]? = some (.tmp t) → us[j]? = some (a.tmps.getD t undef) ∧ vs[j]? = some (S.slot t).av) ∧ rs.length = us.length
  | [], vs, h => by
    simp only [resVals, Option.some.injEq] at h
    subst h
    exact ⟨[], ⟨rfl, by simp⟩, by simp, by simp, rfl⟩
  | .tmp t :: rs, vs, h => by
    unfold resVals at h
    split at h
    · rename_i v f hs
      obtain ⟨r, h1, h2⟩ := bind_some' h
      obtain ⟨us, hr, hrun, hget, hlen⟩ := resVals_ok hg h1
      injection h2 with h2
      subst h2
      have hv := (hg.slotv hs).1
      refine ⟨a.tmps.getD t undef :: us, ⟨by simp [hr.1], fun j u c hu hc => ?_⟩, ?_, fun j t' hj => ?_, by simp [hlen]⟩
      · cases j with
        | zero => simp only [List.getElem?_cons_zero, Option.some.injEq] at hu hc; subst hu hc; exact hv
        | succ j => exact hr.2 j u c (by simpa using hu) (by simpa using hc)
      · rw [List.mapM_cons]
        simp only [resVal, Sem.run_bind, Sem.run_pure, Result.andThen_ok, hrun]
      · cases j with
        | zero =>
          simp only [List.getElem?_cons_zero, Option.some.injEq, ResultVar.tmp.injEq] at hj
          subst hj
          exact ⟨rfl, by rw [hs]; rfl⟩
        | succ j => exact hget j t' (by simpa using hj)
    · cases h
  | .cell c ty :: rs, vs, h => by
    unfold resVals at h
    split at h
    · rename_i d off hs
      obtain ⟨b, hb, h1⟩ := bind_some' h
      obtain ⟨ag, dd, hd, hk, hag⟩ := tAggK_some h1
      clear h h1
      have h1 := hg.sl c
      rw [hs] at h1
      obtain ⟨B, hB, hev⟩ := h1
      obtain ⟨B', hB', ⟨us0, e, hheap, hone, hrl⟩, _⟩ := hg.l d b hb
      obtain rfl := hg.inv.injl B B' d hB hB'
      have hl := loadVar_sound (n := off) hd hag (blk_take hheap hone) hrl.full.part
      have fin : ∀ (u : Value) (v : AV), (loadVar ty ⟨B, 0 + off, none⟩).run P w = .ok u w → Rep g w u v → ((resVals P S rs).bind fun r => some (v :: r)) = some vs → ∃ us : List Value, RepL g w us vs ∧
          ((ResultVar.cell c ty :: rs).mapM (resVal a.tmps)).run P w = .ok us w ∧
          (∀ (j t : Nat), (ResultVar.cell c ty :: rs)[j]? = some (.tmp t) → us[j]? = some (a.tmps.getD t undef) ∧ vs[j]? = some (S.slot t).av) ∧ (ResultVar.cell c ty :: rs).length = us.length := by
        intro u v hu hv hk
        rw [Nat.zero_add] at hu
        obtain ⟨r, h1, h2⟩ := bind_some' hk
        obtain ⟨us, hr, hrun, hget, hlen⟩ := resVals_ok hg h1
        injection h2 with h2
        subst h2
        refine ⟨u :: us, ⟨by simp [hr.1], fun j u' c' hu' hc => ?_⟩, ?_, fun j t' hj => ?_, by simp [hlen]⟩
        · cases j with
          | zero => simp only [List.getElem?_cons_zero, Option.some.injEq] at hu' hc; subst hu' hc; exact hv
          | succ j => exact hr.2 j u' c' (by simpa using hu') (by simpa using hc)
        · rw [List.mapM_cons]
          simp only [resVal, Sem.run_bind, hev, asAddr, Sem.run_pure, Result.andThen_ok, hu, hrun]
        · cases j with
          | zero => simp at hj
          | succ j => exact hget j t' (by simpa using hj)
      cases ag with
      | true =>
        obtain ⟨h0, hk⟩ := br_left hk
        obtain ⟨u, hu, hrep⟩ := hl (ble_true h0)
        exact fin u _ hu hrep hk
      | false =>
        obtain ⟨c', hcc, hk⟩ := bind_some' hk
        rw [nth_get] at hcc
        obtain ⟨u, hu, hrep, _⟩ := hl c' hcc
        exact fin u _ hu hrep hk
    · cases h

theorem resOwn_claims {rs : List ResultVar} : ∀ {rf : List Nat} {S : St} {g : G}, resOwn S rs rf = true → Rel g0 w0 Ex g S a w → ∃ g' S', Rel g0 w0 Ex g' S' a w ∧ S'.H = S.H ∧ S'.nx = S.nx ∧
    (∀ q x y, (∃ j, q = .r j) → OwnAV g w q x y → OwnAV g' w q x y) ∧ (∀ B id, g'.role B = .h id ↔ g.role B = .h id) ∧ g'.pub = g.pub ∧
    ∀ j ∈ rf, ∃ t, rs[j]? = some (.tmp t) ∧ OwnAV g' w (.r j) (a.tmps.getD t undef) (S.slot t).av
  | [], S, g, _, h => ⟨g, S, h, rfl, rfl, fun _ _ _ _ h => h, fun _ _ => Iff.rfl, rfl, by simp⟩
  | j :: l, S, g, hr, h => by
    unfold resOwn at hr
    split at hr
    · rename_i t ht
      have ht' : rs[j]? = some (.tmp t) := ht
      split at hr
      · rename_i v hs
        have hlt : t < S.sl.length := nthS_lt (by show S.slot t ≠ _; rw [hs]; simp)
        have hown := (h.slotv hs).2
        have h1 := h.reflag hs (f' := .no) trivial (by simp) (by simp)
        have hnc : NoClaim (S.put t (.val v .no)) (.s t) := by
          intro v' hv'
          rw [slot_put, if_pos ⟨rfl, hlt⟩] at hv'
          injection hv' with _ e
          cases e
        obtain ⟨g1, h2, h3, h4, h5, h6, h7, _⟩ := h1.retag hnc hown (.r j)
        obtain ⟨g2, S2, h8, h9, h10, h11, h12, h13, h14⟩ := resOwn_claims hr h2
        refine ⟨g2, S2, h8, h9, h10, fun q x y hq hxy => h11 q x y hq (h7 q x y (by obtain ⟨j', rfl⟩ := hq; simp) hxy), fun B id => (h12 B id).trans (h4 B id), h13.trans h6, fun j' hj' => ?_⟩
        rcases List.mem_cons.1 hj' with rfl | hj'
        · refine ⟨t, ht', ?_⟩
          rw [hs]
          exact h11 _ _ _ ⟨j', rfl⟩ h3
        · obtain ⟨t', ht2, h15⟩ := h14 j' hj'
          refine ⟨t', ht2, ?_⟩
          rw [slot_put] at h15
          split at h15
          · rename_i he; rw [he.1, hs]; rw [he.1] at h15; exact h15
          · exact h15
      · cases hr
    · cases hr

theorem absRet_ok {f : Nat} {fn : Func} {out : Out} (hfn : P.funcs[f]? = some fn) (h : absRet P (getA A f) fn.results.toList S = some out) (hg : Rel g0 w0 Ex g S a w) :
    ∃ v, (results fn a.tmps).run P w = .ok v w ∧ ∃ g', Ret (getA A f).rf (oneRes P f) g0 w0 Ex out v g' w := by
  unfold absRet at h
  split at h
  · cases h
  · rename_i hro
    obtain ⟨vs, hvs, h2⟩ := bind_some' h
    obtain ⟨us, hrl, hrun0, hget, hlen⟩ := resVals_ok hg hvs
    obtain ⟨g1, S1, h3, hH, hnx, _, hh, hp, hcl⟩ := resOwn_claims hro hg
    have hrun := results_run (P := P) (w := w) fn a.tmps hrun0
    -- the ghost that the caller sees
    let g2 : G := ⟨fun B => match g1.role B with
      | .h id => .h id
      | .c (.h id off) => .c (.h id off)
      | .c (.r i) => .c (.r i)
      | _ => .ext, g1.pub⟩
    have r2 : ∀ B, g2.role B = match g1.role B with
      | .h id => .h id
      | .c (.h id off) => .c (.h id off)
      | .c (.r i) => .c (.r i)
      | _ => .ext := fun _ => rfl
    have h2h : ∀ B id, g2.role B = .h id ↔ g1.role B = .h id := by
      intro B id
      rw [r2]
      cases hr : g1.role B with
      | c p => cases p <;> simp
      | _ => simp
    have h2ne : ∀ B, g2.role B ≠ .ext → g1.role B ≠ .ext := by
      intro B hB he
      apply hB
      rw [r2, he]
    have hE : Ext g1 w g2 w := ⟨fun B id hB => (h2h B id).2 hB, fun _ => Nat.le_refl _, fun _ _ _ => rfl⟩
    have own2 : ∀ p u c, ((∃ id off, p = .h id off) ∨ ∃ i, p = .r i) → OwnAV g1 w p u c → OwnAV g2 w p u c := by
      intro p u c hp hc
      cases c with
      | vs sz tg l =>
        rcases hc with h | h | ⟨B, n, cap, us, e, h1, h2, h3⟩
        · exact .inl h
        · exact .inr (.inl h)
        · refine .inr (.inr ⟨B, n, cap, us, e, h1, ?_, h3⟩)
          rw [r2, h2]
          rcases hp with ⟨id, off, rfl⟩ | ⟨i, rfl⟩ <;> rfl
      | _ => trivial
    have hE0 : Ext g w g1 w := ⟨fun B id hB => (hh B id).2 hB, fun B => by rw [hp]; exact Nat.le_refl _, fun _ _ _ => rfl⟩
    have hrepl : RepL g2 w us vs := (hrl.ext hE0).ext hE
    have hcl' : ∀ i ∈ (getA A f).rf, ∃ u v, us[i]? = some u ∧ vs[i]? = some v ∧ OwnAV g2 w (.r i) u v := fun i hi => by
      obtain ⟨t, ht, ho⟩ := hcl i hi
      obtain ⟨k1, k2⟩ := hget i t ht
      exact ⟨_, _, k1, k2, own2 _ _ _ (.inr ⟨i, rfl⟩) ho⟩
    have base : ∀ (v : Value) (o : Out), o.H = S.H → o.nx = S.nx → Rep g2 w v o.v → (oneRes P f = true → 0 ∈ (getA A f).rf → OwnAV g2 w (.r 0) v o.v) →
        (oneRes P f = false → ∀ i ∈ (getA A f).rf, ∀ us vs ui vi, v = .tuple us → o.v = .tuple vs → us[i]? = some ui → vs[i]? = some vi → OwnAV g2 w (.r i) ui vi) → Ret (getA A f).rf (oneRes P f) g0 w0 Ex o v g2 w := by
      intro v o e1 e2 hrep ho1 ho
      refine ⟨⟨fun B hB => ?_, fun B id hB => h3.inv.ph B id ((h2h B id).1 hB), fun B d hB => ?_, fun B B' id h1 h2 => h3.inv.injh B B' id ((h2h _ _).1 h1) ((h2h _ _).1 h2), fun B B' d h1 _ => ?_⟩, ?_, hrep, ?_, fun B hB => ?_, ho1, ho⟩
      · obtain ⟨h1, h2⟩ := h3.inv.new B hB
        exact ⟨by rw [r2, h1], h2⟩
      · rw [r2] at hB; cases hr : g1.role B with
        | c p => rw [hr] at hB; cases p <;> cases hB
        | _ => rw [hr] at hB; cases hB
      · rw [r2] at h1; cases hr : g1.role B with
        | c p => rw [hr] at h1; cases p <;> cases h1
        | _ => rw [hr] at h1; cases h1
      · rw [e1, e2, ← hH, ← hnx]
        refine ⟨fun id b hb => ?_, fun B id hB => h3.h.lt B id ((h2h B id).1 hB)⟩
        obtain ⟨B, hB, ⟨us, e, k1, k2, k3⟩, hf⟩ := h3.h.blk id b hb
        exact ⟨B, (h2h B id).2 hB, ⟨us, e, k1, k2, k3.ext hE⟩, fun off hoff u v hu hv => own2 _ _ _ (.inl ⟨id, off, rfl⟩) (hf off hoff u v hu hv)⟩
      · exact ⟨h3.fr.ext.trans hE, h3.fr.os, h3.fr.tape, h3.fr.output, h3.fr.size, fun B hB hx => h3.fr.same B hB hx, fun B hB => h3.fr.role B (h2ne B hB)⟩
      · rw [r2] at hB
        cases hr : g1.role B with
        | c p => rw [hr] at hB; cases p <;> simp at hB
        | _ => rw [hr] at hB; simp at hB
    have hone : oneRes P f = Nat.beq us.length 1 := by
      unfold oneRes
      rw [hfn]
      simp only
      rw [← Array.length_toList, hlen]
    refine ⟨_, hrun, g2, ?_⟩
    match us, vs, hone, hrepl, hcl', h2 with
    | [], [], hone, hrepl, hcl', h2 =>
      injection h2 with h2
      subst h2
      refine base _ _ rfl rfl (.tuple [] [] rfl (by simp)) (fun h => by rw [hone] at h; cases h) (fun _ i _ us vs ui vi e1 _ e3 _ => ?_)
      have e1' : (#[] : Array Value) = us := by injection e1
      subst e1'
      simp at e3
    | [], _ :: _, _, hrepl, _, _ => have := hrepl.1; simp at this
    | [u], [v], hone, hrepl, hcl', h2 =>
      injection h2 with h2
      subst h2
      refine base _ _ rfl rfl (hrepl.2 0 _ _ rfl rfl) (fun _ h0 => ?_) (fun h => by rw [hone] at h; cases h)
      obtain ⟨u', v', hu', hv', ho⟩ := hcl' 0 h0
      simp at hu' hv'
      subst hu' hv'
      exact ho
    | [_], [], _, hrepl, _, _ => have := hrepl.1; simp at this
    | [_], _ :: _ :: _, _, hrepl, _, _ => have := hrepl.1; simp at this
    | u :: u2 :: l, [], _, hrepl, _, _ => have := hrepl.1; simp at this
    | u :: u2 :: l, [_], _, hrepl, _, _ => have := hrepl.1; simp at this
    | u :: u2 :: l, v :: v2 :: m, hone, hrepl, hcl', h2 =>
      injection h2 with h2
      subst h2
      refine base _ _ rfl rfl (.tuple _ _ hrepl.1 hrepl.2) (fun h => by rw [hone] at h; cases h) (fun _ i hi us vs ui vi e1 e2 e3 e4 => ?_)
      obtain ⟨u', v', hu', hv', ho⟩ := hcl' i hi
      have e1' : (u :: u2 :: l).toArray = us := by injection e1
      have e2' : (v :: v2 :: m) = vs := by injection e2
      subst e1' e2'
      rw [List.getElem?_toArray, hu'] at e3
      rw [hv'] at e4
      injection e3 with e3
      injection e4 with e4
      subst e3 e4
      exact ho

theorem keepS_get : ∀ (l : List Slot) (m i t : Nat), nthS (keepS m i l) t = .und ∨ nthS (keepS m i l) t = keepSlot (i + t) (nthS l t)
  | [], m, i, t => .inl (by simp [keepS, nthS])
  | s :: l, m, i, t => by
    cases t with
    | zero =>
      simp only [keepS]
      split
      · exact .inr rfl
      · exact .inl rfl
    | succ t =>
      have ih := keepS_get l (m / 2) (i + 1) t
      rw [show i + 1 + t = i + (t + 1) by omega] at ih
      simp only [keepS]
      split <;> exact ih

theorem keepS_length : ∀ (l : List Slot) (m i : Nat), (keepS m i l).length = l.length
  | [], _, _ => rfl
  | s :: l, m, i => by
    simp only [keepS]
    split <;> simp [keepS_length l]

theorem Rel.keepm (h : Rel g0 w0 Ex g S a w) (m : Nat) : Rel g0 w0 Ex g (S.keep m) a w := by
  refine ⟨h.inv, h.h, h.l, h.m, by show (keepS m 0 S.sl).length = _; rw [keepS_length]; exact h.len, fun t => ?_, h.fr, h.nodef⟩
  have h1 := (h.sl t).c
  have e : (S.keep m).slot t = nthS (keepS m 0 S.sl) t := rfl
  rcases keepS_get S.sl m 0 t with h2 | h2
  · rw [e, h2]; trivial
  · rw [e, h2, Nat.zero_add]
    have e2 : nthS S.sl t = S.slot t := rfl
    rw [e2]
    cases hs : S.slot t with
    | und => trivial
    | lp d off =>
      rw [hs] at h1
      simp only [keepSlot]
      cases h3 : Nat.beq d t with
      | false => trivial
      | true =>
        cases h4 : Nat.beq off 0 with
        | false => trivial
        | true =>
          obtain rfl := beq_true h4
          exact h1
    | mp d =>
      rw [hs] at h1
      exact h1
    | val v f =>
      rw [hs] at h1
      exact SlotC.rel h1 _

/-- where the code arrives -/
def Goes (P : Program) (A : List (Nat × Ann)) (f : Nat) (g0 : G) (w0 : World) (Ex : Nat → Prop) (out : Out) (todo : List Item) (a : Act) (w : World) : Prop :=
  ∀ (b : Frame) (cs : List Frame), b.fn = f → b.kind = .normal → ∃ v w' fr, (∃ g', Ret (getA A f).rf (oneRes P f) g0 w0 Ex out v g' w') ∧ Steps P (lone (b.at a todo) cs w) (lone fr cs w') ∧ fr.fn = f ∧ fr.leaving P w' (.returned v)

theorem Goes.step {f : Nat} {out : Out} {todo todo' : List Item} {a' : Act} (h : Goes P A f g0 w0 Ex out todo' a' w') (hs : ∀ (b : Frame) (cs : List Frame), step P (lone (b.at a todo) cs w) = .next (lone (b.at a' todo') cs w')) : Goes P A f g0 w0 Ex out todo a w := by
  intro b cs hb hk
  obtain ⟨v, w2, fr, h1, h2, h3⟩ := h b cs hb hk
  exact ⟨v, w2, fr, h1, .head (hs b cs) h2, h3⟩

theorem start_get : ∀ (n : Nat) (l : List AV) (t : Nat), nthS (start n l) t = .und ∨ ∃ v, l[t]? = some v ∧ nthS (start n l) t = .val v .no
  | 0, _, t => .inl (by simp [start, nthS])
  | n + 1, [], t => by
    cases t with
    | zero => exact .inl rfl
    | succ t =>
      rcases start_get n [] t with h | ⟨v, h, _⟩
      · exact .inl h
      · simp at h
  | n + 1, a :: l, t => by
    cases t with
    | zero => exact .inr ⟨a, rfl, rfl⟩
    | succ t => exact start_get n l t

theorem start_length : ∀ (n : Nat) (l : List AV), (start n l).length = n
  | 0, _ => rfl
  | n + 1, [] => by simp [start, start_length n]
  | n + 1, a :: l => by simp [start, start_length n]

end

section main
variable {P : Program} {A : List (Nat × Ann)} {cal : Oracle}

/-- what one level of fuel gives -/
def RunOk (P : Program) (A : List (Nat × Ann)) (cal : Oracle) (n : Nat) : Prop :=
  ∀ f todo S out, run P A cal n f todo S = some out → ∀ g0 w0 Ex a w, ((getA A f).imp = false → Fresh0 g0 w0 Ex) → GlobOk A g0 w0 → Good g0 w0 Ex S a w → Goes P A f g0 w0 Ex out todo a w

theorem calOk_of_run {n : Nat} (h : RunOk P A cal n) : CalOk P A (calN P A cal n) := by
  intro f args H nx out hc
  unfold calN at hc
  split at hc
  · rename_i fn hfn
    split at hc
    · rename_i c hb
      split at hc
      · rename_i hle
        have hle' := ble_true hle
        refine ⟨⟨fn, c, hfn, hb⟩, fun g w cargs hi hH hsh himp hgl hargs => ?_⟩
        have hal := hargs.1
        have hgood : Good g w (fun B => g.role B ≠ .ext) ⟨start fn.ntmps args, [], H, nx, []⟩ { tmps := cargs.toArray ++ Array.replicate (fn.ntmps - cargs.toArray.size) undef, defers := [] } w := by
          refine ⟨g, hi, hH, fun d b hb => (by cases hb), fun d b hb => (by cases hb), ?_, fun t => ?_, ⟨Ext.refl _ _, rfl, rfl, rfl, Nat.le_refl _, fun _ _ _ => ⟨rfl, rfl⟩, fun B hB => .inr hB⟩, rfl⟩
          · show (start fn.ntmps args).length = _
            rw [start_length]
            simp only [Array.size_append, List.size_toArray, Array.size_replicate]
            omega
          · show SlotRel g _ _ w t (nthS (start fn.ntmps args) t)
            rcases start_get fn.ntmps args t with h1 | ⟨v, h1, h2⟩
            · rw [h1]; trivial
            · rw [h2]
              refine ⟨?_, trivial⟩
              obtain ⟨u, hu, hr⟩ := hargs.get h1
              have hlt : t < cargs.length := (List.getElem?_eq_some_iff.1 hu).1
              have : (cargs.toArray ++ Array.replicate (fn.ntmps - cargs.toArray.size) undef).getD t undef = u := by
                rw [Array.getD_eq_getD_getElem?, Array.getElem?_append_left (by simpa using hlt)]
                simp [hu]
              show Rep g w ((cargs.toArray ++ Array.replicate (fn.ntmps - cargs.toArray.size) undef).getD t undef) v
              rw [this]
              exact hr
        intro cs
        let b : Frame := { (default : Frame) with fn := f, kind := .normal }
        have henter : Frame.enter P f cargs.toArray .normal = b.at { tmps := cargs.toArray ++ Array.replicate (fn.ntmps - cargs.toArray.size) undef, defers := [] } [.code c] := by
          simp [Frame.enter, Frame.at, hfn, hb, b]
        obtain ⟨v, w', fr, ⟨g', hret⟩, hs, hf, hl⟩ := h f [.code c] _ out hc g w (fun B => g.role B ≠ .ext) _ w (fun h0 => ⟨hi, fun B hB => hB (himp h0 B)⟩) hgl hgood b cs rfl rfl
        rw [henter]
        exact ⟨.returned v, w', fr, ⟨v, g', rfl, hret⟩, hs, hf, hl⟩
      · cases hc
    · cases hc
  · cases hc

theorem run_ok (hM : P.follows .mixedOrders = true) (hN : ∀ (f : Nat) (fn : Func), P.funcs[f]? = some fn → fn.name ≠ "runtime.NumGoroutine") (hcal : CalOk P A cal) : ∀ n, RunOk P A cal n
  | 0 => by
    intro f todo S out h
    cases h
  | n + 1 => by
    have ih := run_ok hM hN hcal n
    intro f todo S out h g0 w0 Ex a w hfr hgl hgood
    simp only [run] at h
    split at h
    · cases h
    · rename_i fn hfn
      have ret : absRet P (getA A f) fn.results.toList S = some out → ∀ todo, (∀ (b : Frame) (cs : List Frame), step P (lone (b.at a todo) cs w) = .next (lone { b.at a todo with mode := .returning } cs w)) → Goes P A f g0 w0 Ex out todo a w := by
        intro hr todo hs b cs hb hk
        obtain ⟨g, hg⟩ := hgood
        obtain ⟨v, hrun, hret⟩ := absRet_ok hfn hr hg
        refine ⟨v, w, _, hret, .one (hs b cs), hb, rfl, hg.nodef, hk, fn, by show P.funcs[b.fn]? = _; rw [hb]; exact hfn, hrun⟩
      split at h
      · exact ret h _ (fun b cs => step_end)
      · exact (ih _ _ _ _ h _ _ _ _ _ hfr hgl hgood).step fun b cs => step_inBlock
      · exact (ih _ _ _ _ h _ _ _ _ _ hfr hgl hgood).step fun b cs => step_inScope
      · exact (ih _ _ _ _ h _ _ _ _ _ hfr hgl hgood).step fun b cs => step_inLoop
      · rename_i c k
        split at h
        · exact ret h _ (fun b cs => step_ret)
        · exact (ih _ _ _ _ h _ _ _ _ _ hfr hgl hgood).step fun b cs => step_skip
        · exact (ih _ _ _ _ h _ _ _ _ _ hfr hgl hgood).step fun b cs => step_label
        · exact (ih _ _ _ _ h _ _ _ _ _ hfr hgl hgood).step fun b cs => step_seq
        · rename_i x t e
          obtain ⟨bv, hb, h2⟩ := bool?_some h
          obtain ⟨g, hg⟩ := hgood
          have hx := hg.ev x
          rw [hb] at hx
          have hx' := rep_bool hx
          have hlit : Rel g0 w0 Ex g (S.lit x bv) a w := by
            cases x with
            | tmp d => exact hg.lit hb
            | _ => exact hg
          rcases br_some h2 with ⟨rfl, h3⟩ | ⟨rfl, h3⟩
          · exact (ih _ _ _ _ h3 _ _ _ _ _ hfr hgl ⟨g, hlit⟩).step fun b cs => step_cond hx'
          · exact (ih _ _ _ _ h3 _ _ _ _ _ hfr hgl ⟨g, hlit⟩).step fun b cs => step_cond hx'
        · exact (ih _ _ _ _ h _ _ _ _ _ hfr hgl hgood).step fun b cs => step_block
        · exact (ih _ _ _ _ h _ _ _ _ _ hfr hgl hgood).step fun b cs => step_loop
        · exact (ih _ _ _ _ h _ _ _ _ _ hfr hgl hgood).step fun b cs => step_scope
        · split at h
          · rename_i k' hk'
            exact (ih _ _ _ _ h _ _ _ _ _ hfr hgl hgood).step fun b cs => step_exit hk'
          · cases h
        · split at h
          · rename_i k' hk'
            exact (ih _ _ _ _ h _ _ _ _ _ hfr hgl hgood).step fun b cs => step_goto hk'
          · cases h
        · rename_i id ops draw
          split at h
          · -- the operations in their order
            have hw := ops_ok (g0 := g0) (w0 := w0) (Ex := Ex) (k := fun S' => behind (getA A f) id (S'.keep (nthN (getA A f).K id)) fun S'' => run P A cal n f k S'') (r := out) hN hcal hgl hfr (fun e a' w' => e = .normal ∧ ∃ S', Good g0 w0 Ex S' a' w' ∧ (behind (getA A f) id (S'.keep (nthN (getA A f).K id)) fun S'' => run P A cal n f k S'') = some out)
              (fun S' a' w' hgd hk => ⟨rfl, S', hgd, hk⟩) ops.size 0 S a w (Nat.add_zero _) (by rw [List.drop_zero]; exact h) hgood
            rw [List.drop_zero] at hw
            intro b cs hb hk
            obtain ⟨e, a', w', ⟨rfl, S', hgd, hrun⟩, harr⟩ := wp_ops _ a w hw b k cs
            obtain ⟨g', hg'⟩ := hgd
            obtain ⟨S2, hgd2, hrun2⟩ := behind_ok hfr hrun ⟨g', hg'.keepm _⟩
            obtain ⟨v, w2, fr, h1, h2, h3⟩ := ih _ _ _ _ hrun2 _ _ _ _ _ hfr hgl hgd2 b cs hb hk
            exact ⟨v, w2, fr, h1, .head step_region (harr.trans h2), h3⟩
          · -- in every order that the edges allow
            obtain ⟨g, hg⟩ := hgood
            have hg2 : Good g0 w0 Ex S a { w with drawn := w.drawn + 1 } := ⟨g, hg.world rfl rfl rfl rfl⟩
            have hw := draw_ok (k := fun S' => behind (getA A f) id (S'.keep (nthN (getA A f).K id)) fun S'' => run P A cal n f k S'') (r := out) hN hcal hgl (fun e a' w' => e = .normal ∧ ∃ S', Good g0 w0 Ex S' a' w' ∧ (behind (getA A f) id (S'.keep (nthN (getA A f).K id)) fun S'' => run P A cal n f k S'') = some out)
              (fun S' a' w' hgd hk => ⟨rfl, S', hgd, hk⟩) h hg2
            intro b cs hb hk
            obtain ⟨e, a', w', ⟨rfl, S', hgd, hrun⟩, harr⟩ := wp_region_any (id := id) hM hw b k cs
            obtain ⟨g', hg'⟩ := hgd
            obtain ⟨S2, hgd2, hrun2⟩ := behind_ok hfr hrun ⟨g', hg'.keepm _⟩
            obtain ⟨v, w2, fr, h1, h2, h3⟩ := ih _ _ _ _ hrun2 _ _ _ _ _ hfr hgl hgd2 b cs hb hk
            exact ⟨v, w2, fr, h1, harr.trans h2, h3⟩
        · cases h
      · cases h

/-- THE SOUNDNESS: what the interpreter says of a call holds of the machine. -/
theorem calN_ok (hM : P.follows .mixedOrders = true) (hN : ∀ (f : Nat) (fn : Func), P.funcs[f]? = some fn → fn.name ≠ "runtime.NumGoroutine") (hcal : CalOk P A cal) (n : Nat) : CalOk P A (calN P A cal n) := calOk_of_run (run_ok hM hN hcal n)

/-- nothing is said of any call -/
theorem calOk_none : CalOk P A fun _ _ _ _ => Option.none := fun _ _ _ _ _ h => by cases h

/-- one function more -/
def addCal (g : Nat) (spec : List AV → Option AV) (cal : Oracle) : Oracle := fun f args H nx => match Nat.beq f g with
  | true => match spec args with
    | some v => some ⟨v, H, nx⟩
    | Option.none => Option.none
  | false => cal f args H nx

theorem calOk_add {g : Nat} {spec : List AV → Option AV} (hM : P.follows .mixedOrders = true) (hN : ∀ (f : Nat) (fn : Func), P.funcs[f]? = some fn → fn.name ≠ "runtime.NumGoroutine") (hcal : CalOk P A cal)
    (h : ∀ args v, spec args = some v → ∀ H nx, ∃ n, calN P A cal n g args H nx = some ⟨v, H, nx⟩) : CalOk P A (addCal g spec cal) := by
  intro f args H nx out hc
  unfold addCal at hc
  split at hc
  · rename_i hf
    obtain rfl := Nat.eq_of_beq_eq_true hf
    split at hc
    · rename_i v hv
      injection hc with hc
      subst hc
      obtain ⟨n, hn⟩ := h args v hv H nx
      exact calN_ok hM hN hcal n _ _ _ _ _ hn
    · cases hc
  · exact hcal _ _ _ _ _ hc

end main
end Go.Vai
