/- The soundness of the interpreter: code, and calls. -/
import Derived.Test.YtjipknfohmgjaaaVFrz
import Derived.Scope
namespace Go.Vai

section
variable {g0 : G} {w0 : World} {Ex : Nat → Prop} {g g' : G} {S : St} {a : Act} {w w' : World} {P : Program} {A : List (Nat × Ann)}

theorem results_run (fn : Func) (tmps : Array Value) (ts : List Nat) (h : fn.results.toList = ts.map ResultVar.tmp) :
    (results fn tmps).run P w = .ok (match ts.map fun t => tmps.getD t undef with
      | [v] => v
      | l => .tuple l.toArray) w := by
  have key : ∀ (F : ResultVar → Sem Value), (∀ t, (F (.tmp t)).run P w = .ok (tmps.getD t undef) w) → ∀ (ts : List Nat), ((ts.map ResultVar.tmp).mapM F).run P w = .ok (ts.map fun t => tmps.getD t undef) w := by
    intro F hF ts
    induction ts with
    | nil => simp
    | cons t ts ih => rw [List.map_cons, List.mapM_cons]; simp only [Sem.run_bind, hF, Result.andThen_ok, ih, Sem.run_pure, List.map_cons]
  unfold results
  rw [Array.mapM_eq_mapM_toList, h]
  simp only [Sem.run_bind, Sem.run_map]
  rw [key _ (fun t => rfl) ts]
  simp only [Result.andThen_ok, Sem.run_pure]
  match ts with
  | [] => rfl
  | [t] => rfl
  | t :: t2 :: l => simp

theorem resVals_some : ∀ {rs : List ResultVar} {vs : List AV}, resVals S rs = some vs → ∃ ts : List Nat, rs = ts.map ResultVar.tmp ∧ vs = ts.map (fun t => (S.slot t).av) ∧ ∀ t ∈ ts, ∃ v f, S.slot t = .val v f
  | [], vs, h => by simp [resVals] at h; exact ⟨[], rfl, by simp [h], by simp⟩
  | .tmp t :: rs, vs, h => by
    unfold resVals at h
    split at h
    · rename_i v f hs
      obtain ⟨r, h1, h2⟩ := bind_some' h
      obtain ⟨ts, rfl, rfl, h3⟩ := resVals_some h1
      injection h2 with h2
      refine ⟨t :: ts, rfl, ?_, ?_⟩
      · rw [← h2, List.map_cons, hs]; rfl
      · intro t' ht'
        rcases List.mem_cons.1 ht' with rfl | ht'
        · exact ⟨v, f, hs⟩
        · exact h3 t' ht'
    · cases h
  | .cell _ _ :: rs, vs, h => by simp [resVals] at h

theorem resOwn_claims {ts : List Nat} : ∀ {rf : List Nat} {S : St} {g : G}, resOwn S (ts.map ResultVar.tmp) rf = true → Rel g0 w0 Ex g S a w → ∃ g' S', Rel g0 w0 Ex g' S' a w ∧ S'.H = S.H ∧ S'.nx = S.nx ∧
    (∀ q x y, (∃ j, q = .r j) → OwnAV g w q x y → OwnAV g' w q x y) ∧ (∀ B id, g'.role B = .h id ↔ g.role B = .h id) ∧ g'.pub = g.pub ∧
    ∀ j ∈ rf, ∃ t, ts[j]? = some t ∧ OwnAV g' w (.r j) (a.tmps.getD t undef) (S.slot t).av
  | [], S, g, _, h => ⟨g, S, h, rfl, rfl, fun _ _ _ _ h => h, fun _ _ => Iff.rfl, rfl, by simp⟩
  | j :: l, S, g, hr, h => by
    unfold resOwn at hr
    split at hr
    · rename_i t ht
      have ht' : ts[j]? = some t := by
        rw [List.getElem?_map] at ht
        cases hj : ts[j]? with
        | none => rw [hj] at ht; cases ht
        | some t' => rw [hj] at ht; injection ht with ht; injection ht with ht; rw [ht]
      split at hr
      · rename_i v hs
        have hlt : t < S.sl.length := nthS_lt (by show S.slot t ≠ _; rw [hs]; simp)
        have hown := (h.slotv hs).2
        have h1 := h.reflag hs (f' := .no) trivial (by simp) (by simp)
        have hnc : NoClaim (S.put t (.val v .no)) (.s t) := by
          intro v' hv'
          rw [slot_put, if_pos ⟨rfl, hlt⟩] at hv'
          injection hv' with _ e
          cases e
        obtain ⟨g1, h2, h3, h4, h5, h6, h7, _⟩ := h1.retag hnc hown (.r j)
        obtain ⟨g2, S2, h8, h9, h10, h11, h12, h13, h14⟩ := resOwn_claims hr h2
        refine ⟨g2, S2, h8, h9, h10, fun q x y hq hxy => h11 q x y hq (h7 q x y (by obtain ⟨j', rfl⟩ := hq; simp) hxy), fun B id => (h12 B id).trans (h4 B id), h13.trans h6, fun j' hj' => ?_⟩
        rcases List.mem_cons.1 hj' with rfl | hj'
        · refine ⟨t, ht', ?_⟩
          rw [hs]
          exact h11 _ _ _ ⟨j', rfl⟩ h3
        · obtain ⟨t', ht2, h15⟩ := h14 j' hj'
          refine ⟨t', ht2, ?_⟩
          rw [slot_put] at h15
          split at h15
          · rename_i he; rw [he.1, hs]; rw [he.1] at h15; exact h15
          · exact h15
      · cases hr
    · cases hr

theorem absRet_ok {f : Nat} {fn : Func} {out : Out} (hfn : P.funcs[f]? = some fn) (h : absRet (getA A f) fn.results.toList S = some out) (hg : Rel g0 w0 Ex g S a w) :
    ∃ v, (results fn a.tmps).run P w = .ok v w ∧ ∃ g', Ret (getA A f).rf (oneRes P f) g0 w0 Ex out v g' w := by
  unfold absRet at h
  split at h
  · cases h
  · rename_i hro
    obtain ⟨vs, hvs, h2⟩ := bind_some' h
    obtain ⟨ts, hts, rfl, hsl⟩ := resVals_some hvs
    rw [hts] at hro
    obtain ⟨g1, S1, h3, hH, hnx, _, hh, hp, hcl⟩ := resOwn_claims hro hg
    have hrun := results_run (P := P) (w := w) fn a.tmps ts hts
    -- the ghost that the caller sees
    let g2 : G := ⟨fun B => match g1.role B with
      | .h id => .h id
      | .c (.h id off) => .c (.h id off)
      | .c (.r i) => .c (.r i)
      | _ => .ext, g1.pub⟩
    have r2 : ∀ B, g2.role B = match g1.role B with
      | .h id => .h id
      | .c (.h id off) => .c (.h id off)
      | .c (.r i) => .c (.r i)
      | _ => .ext := fun _ => rfl
    have h2h : ∀ B id, g2.role B = .h id ↔ g1.role B = .h id := by
      intro B id
      rw [r2]
      cases hr : g1.role B with
      | c p => cases p <;> simp
      | _ => simp
    have h2ne : ∀ B, g2.role B ≠ .ext → g1.role B ≠ .ext := by
      intro B hB he
      apply hB
      rw [r2, he]
    have hE : Ext g1 w g2 w := ⟨fun B id hB => (h2h B id).2 hB, fun _ => Nat.le_refl _, fun _ _ _ => rfl⟩
    have own2 : ∀ p u c, ((∃ id off, p = .h id off) ∨ ∃ i, p = .r i) → OwnAV g1 w p u c → OwnAV g2 w p u c := by
      intro p u c hp hc
      cases c with
      | vs sz tg l =>
        rcases hc with h | h | ⟨B, n, cap, us, e, h1, h2, h3⟩
        · exact .inl h
        · exact .inr (.inl h)
        · refine .inr (.inr ⟨B, n, cap, us, e, h1, ?_, h3⟩)
          rw [r2, h2]
          rcases hp with ⟨id, off, rfl⟩ | ⟨i, rfl⟩ <;> rfl
      | _ => trivial
    have hrepl : RepL g2 w (ts.map fun t => a.tmps.getD t undef) (ts.map fun t => (S.slot t).av) := by
      refine ⟨by simp, fun j u c hu hc => ?_⟩
      rw [List.getElem?_map] at hu hc
      cases hj : ts[j]? with
      | none => rw [hj] at hu; cases hu
      | some t =>
        rw [hj] at hu hc
        injection hu with hu
        injection hc with hc
        subst hu hc
        have hE0 : Ext g w g1 w := ⟨fun B id hB => (hh B id).2 hB, fun B => by rw [hp]; exact Nat.le_refl _, fun _ _ _ => rfl⟩
        have : Rep g w (a.eval (.tmp t)) (S.ev (.tmp t)) := hg.ev (.tmp t)
        exact (this.ext hE0).ext hE
    have base : ∀ (v : Value) (o : Out), o.H = S.H → o.nx = S.nx → Rep g2 w v o.v → (oneRes P f = true → 0 ∈ (getA A f).rf → OwnAV g2 w (.r 0) v o.v) →
        (oneRes P f = false → ∀ i ∈ (getA A f).rf, ∀ us vs ui vi, v = .tuple us → o.v = .tuple vs → us[i]? = some ui → vs[i]? = some vi → OwnAV g2 w (.r i) ui vi) → Ret (getA A f).rf (oneRes P f) g0 w0 Ex o v g2 w := by
      intro v o e1 e2 hrep ho1 ho
      refine ⟨⟨fun B hB => ?_, fun B id hB => h3.inv.ph B id ((h2h B id).1 hB), fun B d hB => ?_, fun B B' id h1 h2 => h3.inv.injh B B' id ((h2h _ _).1 h1) ((h2h _ _).1 h2), fun B B' d h1 _ => ?_⟩, ?_, hrep, ?_, fun B hB => ?_, ho1, ho⟩
      · obtain ⟨h1, h2⟩ := h3.inv.new B hB
        exact ⟨by rw [r2, h1], h2⟩
      · rw [r2] at hB; cases hr : g1.role B with
        | c p => rw [hr] at hB; cases p <;> cases hB
        | _ => rw [hr] at hB; cases hB
      · rw [r2] at h1; cases hr : g1.role B with
        | c p => rw [hr] at h1; cases p <;> cases h1
        | _ => rw [hr] at h1; cases h1
      · rw [e1, e2, ← hH, ← hnx]
        refine ⟨fun id b hb => ?_, fun B id hB => h3.h.lt B id ((h2h B id).1 hB)⟩
        obtain ⟨B, hB, ⟨us, e, k1, k2, k3⟩, hf⟩ := h3.h.blk id b hb
        exact ⟨B, (h2h B id).2 hB, ⟨us, e, k1, k2, k3.ext hE⟩, fun off hoff u v hu hv => own2 _ _ _ (.inl ⟨id, off, rfl⟩) (hf off hoff u v hu hv)⟩
      · exact ⟨h3.fr.ext.trans hE, h3.fr.os, h3.fr.tape, h3.fr.output, h3.fr.size, fun B hB hx => h3.fr.same B hB hx, fun B hB => h3.fr.role B (h2ne B hB)⟩
      · rw [r2] at hB
        cases hr : g1.role B with
        | c p => rw [hr] at hB; cases p <;> simp at hB
        | _ => rw [hr] at hB; simp at hB
    have hone : oneRes P f = Nat.beq ts.length 1 := by
      unfold oneRes
      rw [hfn]
      simp only
      rw [← Array.length_toList, hts, List.length_map]
    refine ⟨_, hrun, g2, ?_⟩
    match ts, hone, hrepl, hcl, h2 with
    | [], hone, hrepl, hcl, h2 =>
      injection h2 with h2
      subst h2
      refine base _ _ rfl rfl (.tuple [] [] rfl (by simp)) (fun h => by rw [hone] at h; cases h) (fun _ i _ us vs ui vi e1 _ e3 _ => ?_)
      have e1' : (#[] : Array Value) = us := by injection e1
      subst e1'
      simp at e3
    | [t], hone, hrepl, hcl, h2 =>
      injection h2 with h2
      subst h2
      refine base _ _ rfl rfl (hrepl.2 0 _ _ rfl rfl) (fun _ h0 => ?_) (fun h => by rw [hone] at h; cases h)
      obtain ⟨t', ht', ho⟩ := hcl 0 h0
      simp at ht'
      subst ht'
      exact own2 _ _ _ (.inr ⟨0, rfl⟩) ho
    | t :: t2 :: l, hone, hrepl, hcl, h2 =>
      injection h2 with h2
      subst h2
      refine base _ _ rfl rfl (.tuple _ _ hrepl.1 hrepl.2) (fun h => by rw [hone] at h; cases h) (fun _ i hi us vs ui vi e1 e2 e3 e4 => ?_)
      obtain ⟨t', ht', ho⟩ := hcl i hi
      have e1' : ((t :: t2 :: l).map fun t => a.tmps.getD t undef).toArray = us := by injection e1
      have e2' : ((t :: t2 :: l).map fun t => (S.slot t).av) = vs := by injection e2
      subst e1' e2'
      rw [List.getElem?_toArray, List.getElem?_map, ht'] at e3
      rw [List.getElem?_map, ht'] at e4
      injection e3 with e3
      injection e4 with e4
      subst e3 e4
      exact own2 _ _ _ (.inr ⟨i, rfl⟩) ho

theorem keepS_get : ∀ (l : List Slot) (m i t : Nat), nthS (keepS m i l) t = .und ∨ nthS (keepS m i l) t = keepSlot (i + t) (nthS l t)
  | [], m, i, t => .inl (by simp [keepS, nthS])
  | s :: l, m, i, t => by
    cases t with
    | zero =>
      simp only [keepS]
      split
      · exact .inr rfl
      · exact .inl rfl
    | succ t =>
      have ih := keepS_get l (m / 2) (i + 1) t
      rw [show i + 1 + t = i + (t + 1) by omega] at ih
      simp only [keepS]
      split <;> exact ih

theorem keepS_length : ∀ (l : List Slot) (m i : Nat), (keepS m i l).length = l.length
  | [], _, _ => rfl
  | s :: l, m, i => by
    simp only [keepS]
    split <;> simp [keepS_length l]

theorem Rel.keepm (h : Rel g0 w0 Ex g S a w) (m : Nat) : Rel g0 w0 Ex g (S.keep m) a w := by
  refine ⟨h.inv, h.h, h.l, by show (keepS m 0 S.sl).length = _; rw [keepS_length]; exact h.len, fun t => ?_, h.fr, h.nodef⟩
  have h1 := (h.sl t).c
  have e : (S.keep m).slot t = nthS (keepS m 0 S.sl) t := rfl
  rcases keepS_get S.sl m 0 t with h2 | h2
  · rw [e, h2]; trivial
  · rw [e, h2, Nat.zero_add]
    have e2 : nthS S.sl t = S.slot t := rfl
    rw [e2]
    cases hs : S.slot t with
    | und => trivial
    | lp d off =>
      rw [hs] at h1
      simp only [keepSlot]
      cases h3 : Nat.beq d t with
      | false => trivial
      | true =>
        cases h4 : Nat.beq off 0 with
        | false => trivial
        | true =>
          obtain rfl := beq_true h4
          exact h1
    | val v f =>
      rw [hs] at h1
      exact SlotC.rel h1 _

/-- where the code arrives -/
def Goes (P : Program) (A : List (Nat × Ann)) (f : Nat) (g0 : G) (w0 : World) (Ex : Nat → Prop) (out : Out) (todo : List Item) (a : Act) (w : World) : Prop :=
  ∀ (b : Frame) (cs : List Frame), b.fn = f → b.kind = .normal → ∃ v w' fr, (∃ g', Ret (getA A f).rf (oneRes P f) g0 w0 Ex out v g' w') ∧ Steps P (lone (b.at a todo) cs w) (lone fr cs w') ∧ fr.fn = f ∧ fr.leaving P w' (.returned v)

theorem Goes.step {f : Nat} {out : Out} {todo todo' : List Item} {a' : Act} (h : Goes P A f g0 w0 Ex out todo' a' w') (hs : ∀ (b : Frame) (cs : List Frame), step P (lone (b.at a todo) cs w) = .next (lone (b.at a' todo') cs w')) : Goes P A f g0 w0 Ex out todo a w := by
  intro b cs hb hk
  obtain ⟨v, w2, fr, h1, h2, h3⟩ := h b cs hb hk
  exact ⟨v, w2, fr, h1, .head (hs b cs) h2, h3⟩

theorem start_get : ∀ (n : Nat) (l : List AV) (t : Nat), nthS (start n l) t = .und ∨ ∃ v, l[t]? = some v ∧ nthS (start n l) t = .val v .no
  | 0, _, t => .inl (by simp [start, nthS])
  | n + 1, [], t => by
    cases t with
    | zero => exact .inl rfl
    | succ t =>
      rcases start_get n [] t with h | ⟨v, h, _⟩
      · exact .inl h
      · simp at h
  | n + 1, a :: l, t => by
    cases t with
    | zero => exact .inr ⟨a, rfl, rfl⟩
    | succ t => exact start_get n l t

theorem start_length : ∀ (n : Nat) (l : List AV), (start n l).length = n
  | 0, _ => rfl
  | n + 1, [] => by simp [start, start_length n]
  | n + 1, a :: l => by simp [start, start_length n]

end

section main
variable {P : Program} {A : List (Nat × Ann)} {cal : Oracle}

/-- what one level of fuel gives -/
def RunOk (P : Program) (A : List (Nat × Ann)) (cal : Oracle) (n : Nat) : Prop :=
  ∀ f todo S out, run P A cal n f todo S = some out → ∀ g0 w0 Ex a w, ((getA A f).imp = false → Fresh0 g0 w0 Ex) → Good g0 w0 Ex S a w → Goes P A f g0 w0 Ex out todo a w

theorem calOk_of_run {n : Nat} (h : RunOk P A cal n) : CalOk P A (calN P A cal n) := by
  intro f args H nx out hc
  unfold calN at hc
  split at hc
  · rename_i fn hfn
    split at hc
    · rename_i c hb
      split at hc
      · rename_i hle
        have hle' := ble_true hle
        refine ⟨⟨fn, c, hfn, hb⟩, fun g w cargs hi hH hsh himp hargs => ?_⟩
        have hal := hargs.1
        have hgood : Good g w (fun B => g.role B ≠ .ext) ⟨start fn.ntmps args, [], H, nx⟩ { tmps := cargs.toArray ++ Array.replicate (fn.ntmps - cargs.toArray.size) undef, defers := [] } w := by
          refine ⟨g, hi, hH, fun d b hb => (by cases hb), ?_, fun t => ?_, ⟨Ext.refl _ _, rfl, rfl, rfl, Nat.le_refl _, fun _ _ _ => ⟨rfl, rfl⟩, fun B hB => .inr hB⟩, rfl⟩
          · show (start fn.ntmps args).length = _
            rw [start_length]
            simp only [Array.size_append, List.size_toArray, Array.size_replicate]
            omega
          · show SlotRel g _ _ w t (nthS (start fn.ntmps args) t)
            rcases start_get fn.ntmps args t with h1 | ⟨v, h1, h2⟩
            · rw [h1]; trivial
            · rw [h2]
              refine ⟨?_, trivial⟩
              obtain ⟨u, hu, hr⟩ := hargs.get h1
              have hlt : t < cargs.length := (List.getElem?_eq_some_iff.1 hu).1
              have : (cargs.toArray ++ Array.replicate (fn.ntmps - cargs.toArray.size) undef).getD t undef = u := by
                rw [Array.getD_eq_getD_getElem?, Array.getElem?_append_left (by simpa using hlt)]
                simp [hu]
              show Rep g w ((cargs.toArray ++ Array.replicate (fn.ntmps - cargs.toArray.size) undef).getD t undef) v
              rw [this]
              exact hr
        intro cs
        let b : Frame := { (default : Frame) with fn := f, kind := .normal }
        have henter : Frame.enter P f cargs.toArray .normal = b.at { tmps := cargs.toArray ++ Array.replicate (fn.ntmps - cargs.toArray.size) undef, defers := [] } [.code c] := by
          simp [Frame.enter, Frame.at, hfn, hb, b]
        obtain ⟨v, w', fr, ⟨g', hret⟩, hs, hf, hl⟩ := h f [.code c] _ out hc g w (fun B => g.role B ≠ .ext) _ w (fun h0 => ⟨hi, fun B hB => hB (himp h0 B)⟩) hgood b cs rfl rfl
        rw [henter]
        exact ⟨.returned v, w', fr, ⟨v, g', rfl, hret⟩, hs, hf, hl⟩
      · cases hc
    · cases hc
  · cases hc

theorem run_ok (hM : P.follows .mixedOrders = true) (hN : ∀ (f : Nat) (fn : Func), P.funcs[f]? = some fn → fn.name ≠ "runtime.NumGoroutine") (hcal : CalOk P A cal) : ∀ n, RunOk P A cal n
  | 0 => by
    intro f todo S out h
    cases h
  | n + 1 => by
    have ih := run_ok hM hN hcal n
    intro f todo S out h g0 w0 Ex a w hfr hgood
    simp only [run] at h
    split at h
    · cases h
    · rename_i fn hfn
      have ret : absRet (getA A f) fn.results.toList S = some out → ∀ todo, (∀ (b : Frame) (cs : List Frame), step P (lone (b.at a todo) cs w) = .next (lone { b.at a todo with mode := .returning } cs w)) → Goes P A f g0 w0 Ex out todo a w := by
        intro hr todo hs b cs hb hk
        obtain ⟨g, hg⟩ := hgood
        obtain ⟨v, hrun, hret⟩ := absRet_ok hfn hr hg
        refine ⟨v, w, _, hret, .one (hs b cs), hb, rfl, hg.nodef, hk, fn, by show P.funcs[b.fn]? = _; rw [hb]; exact hfn, hrun⟩
      split at h
      · exact ret h _ (fun b cs => step_end)
      · exact (ih _ _ _ _ h _ _ _ _ _ hfr hgood).step fun b cs => step_inBlock
      · exact (ih _ _ _ _ h _ _ _ _ _ hfr hgood).step fun b cs => step_inScope
      · exact (ih _ _ _ _ h _ _ _ _ _ hfr hgood).step fun b cs => step_inLoop
      · rename_i c k
        split at h
        · exact ret h _ (fun b cs => step_ret)
        · exact (ih _ _ _ _ h _ _ _ _ _ hfr hgood).step fun b cs => step_skip
        · exact (ih _ _ _ _ h _ _ _ _ _ hfr hgood).step fun b cs => step_label
        · exact (ih _ _ _ _ h _ _ _ _ _ hfr hgood).step fun b cs => step_seq
        · rename_i x t e
          obtain ⟨bv, hb, h2⟩ := bool?_some h
          obtain ⟨g, hg⟩ := hgood
          have hx := hg.ev x
          rw [hb] at hx
          have hx' := rep_bool hx
          have hlit : Rel g0 w0 Ex g (S.lit x bv) a w := by
            cases x with
            | tmp d => exact hg.lit hb
            | _ => exact hg
          rcases br_some h2 with ⟨rfl, h3⟩ | ⟨rfl, h3⟩
          · exact (ih _ _ _ _ h3 _ _ _ _ _ hfr ⟨g, hlit⟩).step fun b cs => step_cond hx'
          · exact (ih _ _ _ _ h3 _ _ _ _ _ hfr ⟨g, hlit⟩).step fun b cs => step_cond hx'
        · exact (ih _ _ _ _ h _ _ _ _ _ hfr hgood).step fun b cs => step_block
        · exact (ih _ _ _ _ h _ _ _ _ _ hfr hgood).step fun b cs => step_loop
        · exact (ih _ _ _ _ h _ _ _ _ _ hfr hgood).step fun b cs => step_scope
        · split at h
          · rename_i k' hk'
            exact (ih _ _ _ _ h _ _ _ _ _ hfr hgood).step fun b cs => step_exit hk'
          · cases h
        · split at h
          · rename_i k' hk'
            exact (ih _ _ _ _ h _ _ _ _ _ hfr hgood).step fun b cs => step_goto hk'
          · cases h
        · rename_i id ops draw
          split at h
          · -- the operations in their order
            have hw := ops_ok (g0 := g0) (w0 := w0) (Ex := Ex) (k := fun S' => frzAll (getA A f).imp (getA A f).frz id (S'.keep (nthN (getA A f).K id)) fun S'' => run P A cal n f k S'') (r := out) hN hcal hfr (fun e a' w' => e = .normal ∧ ∃ S', Good g0 w0 Ex S' a' w' ∧ (frzAll (getA A f).imp (getA A f).frz id (S'.keep (nthN (getA A f).K id)) fun S'' => run P A cal n f k S'') = some out)
              (fun S' a' w' hgd hk => ⟨rfl, S', hgd, hk⟩) ops.size 0 S a w (Nat.add_zero _) (by rw [List.drop_zero]; exact h) hgood
            rw [List.drop_zero] at hw
            intro b cs hb hk
            obtain ⟨e, a', w', ⟨rfl, S', hgd, hrun⟩, harr⟩ := wp_ops _ a w hw b k cs
            obtain ⟨g', hg'⟩ := hgd
            obtain ⟨S2, hgd2, hrun2⟩ := frzAll_ok hfr hrun ⟨g', hg'.keepm _⟩
            obtain ⟨v, w2, fr, h1, h2, h3⟩ := ih _ _ _ _ hrun2 _ _ _ _ _ hfr hgd2 b cs hb hk
            exact ⟨v, w2, fr, h1, .head step_region (harr.trans h2), h3⟩
          · -- in every order that the edges allow
            obtain ⟨g, hg⟩ := hgood
            have hg2 : Good g0 w0 Ex S a { w with drawn := w.drawn + 1 } := ⟨g, hg.world rfl rfl rfl rfl⟩
            have hw := draw_ok (k := fun S' => frzAll (getA A f).imp (getA A f).frz id (S'.keep (nthN (getA A f).K id)) fun S'' => run P A cal n f k S'') (r := out) hN hcal (fun e a' w' => e = .normal ∧ ∃ S', Good g0 w0 Ex S' a' w' ∧ (frzAll (getA A f).imp (getA A f).frz id (S'.keep (nthN (getA A f).K id)) fun S'' => run P A cal n f k S'') = some out)
              (fun S' a' w' hgd hk => ⟨rfl, S', hgd, hk⟩) h hg2
            intro b cs hb hk
            obtain ⟨e, a', w', ⟨rfl, S', hgd, hrun⟩, harr⟩ := wp_region_any (id := id) hM hw b k cs
            obtain ⟨g', hg'⟩ := hgd
            obtain ⟨S2, hgd2, hrun2⟩ := frzAll_ok hfr hrun ⟨g', hg'.keepm _⟩
            obtain ⟨v, w2, fr, h1, h2, h3⟩ := ih _ _ _ _ hrun2 _ _ _ _ _ hfr hgd2 b cs hb hk
            exact ⟨v, w2, fr, h1, harr.trans h2, h3⟩
        · cases h
      · cases h

/-- THE SOUNDNESS: what the interpreter says of a call holds of the machine. -/
theorem calN_ok (hM : P.follows .mixedOrders = true) (hN : ∀ (f : Nat) (fn : Func), P.funcs[f]? = some fn → fn.name ≠ "runtime.NumGoroutine") (hcal : CalOk P A cal) (n : Nat) : CalOk P A (calN P A cal n) := calOk_of_run (run_ok hM hN hcal n)

/-- nothing is said of any call -/
theorem calOk_none : CalOk P A fun _ _ _ _ => Option.none := fun _ _ _ _ _ h => by cases h

/-- one function more -/
def addCal (g : Nat) (spec : List AV → Option AV) (cal : Oracle) : Oracle := fun f args H nx => match Nat.beq f g with
  | true => match spec args with
    | some v => some ⟨v, H, nx⟩
    | Option.none => Option.none
  | false => cal f args H nx

theorem calOk_add {g : Nat} {spec : List AV → Option AV} (hM : P.follows .mixedOrders = true) (hN : ∀ (f : Nat) (fn : Func), P.funcs[f]? = some fn → fn.name ≠ "runtime.NumGoroutine") (hcal : CalOk P A cal)
    (h : ∀ args v, spec args = some v → ∀ H nx, ∃ n, calN P A cal n g args H nx = some ⟨v, H, nx⟩) : CalOk P A (addCal g spec cal) := by
  intro f args H nx out hc
  unfold addCal at hc
  split at hc
  · rename_i hf
    obtain rfl := Nat.eq_of_beq_eq_true hf
    split at hc
    · rename_i v hv
      injection hc with hc
      subst hc
      obtain ⟨n, hn⟩ := h args v hv H nx
      exact calN_ok hM hN hcal n _ _ _ _ _ hn
    · cases hc
  · exact hcal _ _ _ _ _ hc

end main
end Go.Vai
