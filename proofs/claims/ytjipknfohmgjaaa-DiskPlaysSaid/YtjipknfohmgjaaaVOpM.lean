/- append whose block is memory that may be written. -/
import Derived.Test.YtjipknfohmgjaaaVOp12
namespace Go.Vai

section
variable {X : Nat → Prop} {g0 : G} {w0 : World} {Ex : Nat → Prop} {g g' : G} {S : St} {a : Act} {w w' : World} {P : Program} {R : Type} {r : R} {o : Oper} {A : List (Nat × Ann)} {cal : Oracle}

/-- a call that began with nothing of its caller's -/
def Fresh0 (g0 : G) (w0 : World) (Ex : Nat → Prop) : Prop := Inv g0 w0 ∧ ∀ B, ¬ Ex B

theorem rep_flat {u : Value} {c : AV} (h : Rep g w u c) (hc : c.flat = true) (g' : G) (w' : World) : Rep g' w' u c := by
  cases h <;> first | (cases hc; done) | skip
  · exact .bool _
  · exact .int _ _
  · exact .str _
  · exact .nilp
  · exact .nilI
theorem flat_cells {l : List AV} (h : flatL l = true) : l.flatMap AV.cells = l := by
  induction l with
  | nil => rfl
  | cons x l ih =>
    simp only [flatL] at h
    split at h
    · rename_i hx
      rw [List.flatMap_cons, ih h]
      cases x <;> first | rfl | cases hx
    · cases h
theorem flat_mem {l : List AV} (h : flatL l = true) {j : Nat} {c : AV} (hc : l[j]? = some c) : c.flat = true := by
  induction l generalizing j with
  | nil => simp at hc
  | cons x l ih =>
    simp only [flatL] at h
    split at h
    · rename_i hx
      cases j with
      | zero => simp at hc; rw [← hc]; exact hx
      | succ j => exact ih h (by simpa using hc)
    · cases h

/-- a block of one's own becomes memory that may be written: where nothing else is known of memory -/
theorem Rel.thaw (h : Rel g0 w0 Ex g S a w) (hf : Fresh0 g0 w0 Ex) {u : Value} {tg : Bool} {l : List AV} (hB : OwnB g w (.r 0) 1 u) (hr : Rep g w u (.vs 1 tg l)) (hfl : flatL l = true) (hH : ∀ i, S.H i = none) (id nx' : Nat) :
    ∃ g', Rel g0 w0 Ex g' ⟨S.sl.map Slot.purge, [], Hp.none.set id ⟨l, []⟩, nx', []⟩ a w ∧ Rep g' w u (.arr id 0 l.length 1) := by
  obtain ⟨B, n, cap, us, e, rfl, hrole, hheap, hsz, hle, hpub⟩ := hB
  have hBlt := heap_lt hheap
  have hw0 : w0.heap.size ≤ B := by
    rcases h.fr.role B (by rw [hrole]; simp) with h1 | h1
    · exact h1
    · exact absurd h1 (hf.2 B)
  have noh : ∀ b i, g.role b ≠ .h i := fun b i he => h.h.lt b i he (hH i)
  let g1 : G := ⟨fun b => if b = B then .h id else g.role b, fun b => if b = B then 0 else g.pub b⟩
  have r1 : ∀ b, g1.role b = if b = B then .h id else g.role b := fun _ => rfl
  have p1 : ∀ b, g1.pub b = if b = B then 0 else g.pub b := fun _ => rfl
  have hset : ∀ i, Hp.none.set id ⟨l, []⟩ i = if i = id then some ⟨l, []⟩ else none := fun i => by
    rw [Hp_set]; rfl
  have hone : ∀ b d, g1.role b = .l d → b ≠ B ∧ g.role b = .l d := fun b d hb => by
    rw [r1] at hb
    split at hb
    · cases hb
    · rename_i hne; exact ⟨hne, hb⟩
  have honeh : ∀ b i, g1.role b = .h i → b = B ∧ i = id := fun b i hb => by
    rw [r1] at hb
    split at hb
    · rename_i he; injection hb with hb; exact ⟨he, hb.symm⟩
    · exact absurd hb (noh b i)
  have hr2 : ∃ B2 off cap' vals, Value.slice (some ⟨B, 0, none⟩) n cap = .slice (some ⟨B2, off, none⟩) l.length cap' ∧ (∀ x ∈ l, x.cells.length = 1) ∧ (tg = true → cap' = l.length) ∧ l.length ≤ cap' ∧
      (∀ (j : Nat) (u : Value), vals[j]? = some u → w.cell? ⟨B2, off + j, none⟩ = some u ∧ off + j < g.pub B2 ∧ u.oneCell' = true) ∧ RepL g w vals (l.flatMap AV.cells) := by
    rcases rep_vs hr with ⟨⟨q, hu⟩, hl0⟩ | h
    · subst hl0
      injection hu with e1 e2 e3
      subst e2 e3
      exact ⟨B, 0, 0, [], rfl, by simp, fun _ => rfl, Nat.le_refl _, fun j u hu => by simp at hu, ⟨rfl, fun j u c hu => by simp at hu⟩⟩
    · exact h
  obtain ⟨B2, off, cap', vals, hu, hs, _, hc, hcell, hrl⟩ := hr2
  injection hu with e1 e2 e3
  injection e1 with e1
  injection e1 with e1 e4 _
  subst e1 e2 e3 e4
  rw [flat_cells hfl] at hrl
  have hus : us.toList.toArray = us := by simp
  have hval : ∀ j x, j < l.length → us.toList[j]? = some x → vals[j]? = some x ∧ x.oneCell' = true := fun j x hj hx => by
    have hjv : j < vals.length := by rw [hrl.1]; exact hj
    have h1 := hcell j vals[j] (List.getElem?_eq_getElem hjv)
    have h2 := h1.1
    rw [Nat.zero_add] at h2
    simp only [World.cell?, hheap] at h2
    have h3 : us[j]? = some vals[j] := by simpa using h2
    have h4 : us[j]? = some x := by simpa using hx
    rw [h3] at h4
    injection h4 with h4
    rw [← h4]
    exact ⟨List.getElem?_eq_getElem hjv, h1.2.2⟩
  have hul : l.length ≤ us.toList.length := by
    have h7 : us.toList.length = us.size := Array.length_toList
    omega
  refine ⟨g1, ⟨⟨fun b hb => ?_, fun b i hb => ?_, fun b d hb => ?_, fun b b' i k1 k2 => ?_, fun b b' d k1 k2 => ?_⟩, ⟨fun i b hb => ?_, fun b i hb => ?_⟩, fun d b hb => (by cases hb), fun d b hb => (by cases hb), ?_, fun t => ?_, ?_, h.nodef⟩, ?_⟩
  · rw [r1, p1, if_neg (by omega), if_neg (by omega)]
    exact h.inv.new b hb
  · rw [p1, if_pos (honeh b i hb).1]
  · rw [p1, if_neg (hone b d hb).1]
    exact h.inv.pl b d (hone b d hb).2
  · rw [(honeh b i k1).1, (honeh b' i k2).1]
  · exact h.inv.injl b b' d (hone b d k1).2 (hone b' d k2).2
  · have hb' : Hp.none.set id ⟨l, []⟩ i = some b := hb
    rw [hset] at hb'
    split at hb'
    · rename_i hi
      subst hi
      injection hb' with hb'
      subst hb'
      refine ⟨B, by rw [r1, if_pos rfl], ⟨us.toList, e, by rw [hus]; exact hheap, fun j x hj hx => (hval j x hj hx).2, hul, fun j x c hx hcj => ?_⟩, fun off hoff => (by cases hoff)⟩
      have hj : j < l.length := (List.getElem?_eq_some_iff.1 hcj).1
      exact rep_flat (hrl.2 j x c (hval j x hj hx).1 hcj) (flat_mem hfl hcj) _ _
    · cases hb'
  · show Hp.none.set id ⟨l, []⟩ i ≠ none
    rw [hset, if_pos (honeh b i hb).2]
    simp
  · show (S.sl.map Slot.purge).length = _
    rw [List.length_map]; exact h.len
  · show SlotRel g1 _ a w t (nthS (S.sl.map Slot.purge) t)
    rw [nthS_map _ rfl]
    have h1 := h.sl t
    have e0 : nthS S.sl t = S.slot t := rfl
    rw [e0]
    cases hst : S.slot t with
    | und => trivial
    | lp d off => trivial
    | mp d => trivial
    | val v f =>
      rw [hst] at h1
      simp only [Slot.purge]
      split
      · rename_i hv
        exact ⟨rep_flat h1.1 hv _ _, trivial⟩
      · trivial
  · refine ⟨⟨fun b i hb => absurd (h.fr.ext.1 b i hb) (noh b i), fun b => ?_, h.fr.ext.3⟩, h.fr.os, h.fr.tape, h.fr.output, h.fr.size, fun b hb hx => ?_, fun b hb => ?_⟩
    · rw [p1]
      split
      · rename_i hbB
        rw [hbB, (hf.1.new B hw0).2]
        exact Nat.le_refl _
      · exact h.fr.ext.2 b
    · rw [p1, if_neg (by omega)]
      exact h.fr.same b hb hx
    · rw [r1] at hb
      split at hb
      · rename_i hbB; exact .inl (hbB ▸ hw0)
      · exact h.fr.role b hb
  · exact .arr B id 0 l.length cap 1 (by rw [r1, if_pos rfl]) hc

theorem setS_twice : ∀ (l : List Slot) (d : Nat) (s s' : Slot), setS (setS l d s) d s' = setS l d s'
  | [], _, _, _ => rfl
  | _ :: _, 0, _, _ => rfl
  | y :: l, d + 1, s, s' => by simp only [setS, setS_twice l d s s']
theorem purge_putown (S : St) (d : Nat) (v : AV) (x : Slot) (H : Hp) (n : Nat) :
    ((⟨(S.putown (some d) v .own).sl.map Slot.purge, [], H, n, []⟩ : St).put d x) = ((⟨S.sl.map Slot.purge, [], H, n, []⟩ : St).put d x) := by
  have e1 : ∀ (l : List Slot) (s : Slot), (setS l d s).map Slot.purge = setS (l.map Slot.purge) d s.purge := by
    intro l s
    induction l generalizing d with
    | nil => rfl
    | cons y l ih => cases d with
      | zero => rfl
      | succ d => simp only [setS, List.map_cons, ih]
  have e2 : (S.sl.map (Slot.unS d)).map Slot.purge = S.sl.map Slot.purge := by
    rw [List.map_map]
    congr 1
    funext s
    cases s with
    | val v f =>
      cases f with
      | lS q =>
        simp only [Function.comp, Slot.unS]
        split <;> rfl
      | _ => rfl
    | _ => rfl
  show (⟨setS ((setS (S.sl.map (Slot.unS d)) d (.val v .own)).map Slot.purge) d x, [], H, n, []⟩ : St) = ⟨setS (S.sl.map Slot.purge) d x, [], H, n, []⟩
  rw [e1, e2, setS_twice]

theorem opAppendT_step {an : Ann} {st st2 : TypeId} {x y : Operand} {k : St → Option R} (ho : o.op = .call { callee := .builtin .append, args := #[x, y], argTypes := #[st, st2] })
    (hf : an.imp = false → Fresh0 g0 w0 Ex) (h : opAppendT P an o st st2 x y S k = some r) (hg : Rel g0 w0 Ex g S a w) : StepTo P o a w g0 w0 Ex k r := by
  unfold opAppendT at h
  split at h
  · cases h
  · rename_i himp
    split at h
    · cases h
    · rename_i d hd
      obtain ⟨sz, tg, l, hva, S0, l2, u', w', g', hrun, hrel, hrep, _, hB, _, hk⟩ := opAppend_mid ho h hg
      rw [hd] at hk
      simp only at hk
      split at hk
      · rename_i z tg1 l1 hav
        have hlt : d < (St.unlent S0).sl.length := by
          rcases Nat.lt_or_ge d (St.unlent S0).sl.length with hlt | hge
          · exact hlt
          · exfalso
            have : ((St.unlent S0).putown (some d) (.vs sz false (l ++ l2)) .own).slot d = .und := by
              show nthS (setS ((St.unlent S0).sl.map (Slot.unS d)) d _) d = .und
              cases hn : nthS (setS ((St.unlent S0).sl.map (Slot.unS d)) d (.val (.vs sz false (l ++ l2)) .own)) d with
              | und => rfl
              | _ =>
                have := nthS_lt (l := setS ((St.unlent S0).sl.map (Slot.unS d)) d (.val (.vs sz false (l ++ l2)) .own)) (t := d) (by rw [hn]; simp)
                rw [setS_length, List.length_map] at this
                omega
            rw [this] at hav
            cases hav
        have hsl : ((St.unlent S0).putown (some d) (.vs sz false (l ++ l2)) .own).slot d = .val (.vs sz false (l ++ l2)) .own := by
          show (({ (St.unlent S0) with sl := (St.unlent S0).sl.map (Slot.unS d) } : St).put d _).slot d = _
          rw [slot_put, if_pos ⟨rfl, by show d < ((St.unlent S0).sl.map _).length; rw [List.length_map]; exact hlt⟩]
        rw [hsl] at hav
        injection hav with e1 e2 e3
        subst e1 e2 e3
        obtain ⟨hc, hk⟩ := br_left hk
        rw [Bool.and_eq_true, Bool.and_eq_true] at hc
        obtain ⟨hz, hfl, hlen⟩ := hc
        obtain rfl := beq_true hz
        have hne : l2 ≠ [] := fun e => by
          subst e
          rw [hva, List.append_nil] at hlen
          rw [Nat.blt_eq] at hlen
          exact Nat.lt_irrefl _ hlen
        split at hk
        · rename_i hH
          have hH' : (St.unlent S0).H = [] := hH
          obtain ⟨g1, h1, h2⟩ := hrel.thaw (hf himp) (hB hne) hrep hfl (fun i => by rw [hH']; rfl) ((St.unlent S0).putown (some d) (.vs 1 false (l ++ l2)) .own).nx (((St.unlent S0).putown (some d) (.vs 1 false (l ++ l2)) .own).nx + 1)
          refine .mk hrun ⟨g1, ?_⟩ hk
          rw [purge_putown, hd]
          exact h1.putv (f := .no) (some d) h2 (fun _ _ => trivial) (by simp) (by simp)
        · cases hk
      · cases hk

theorem mem_zeroCells {z : Array Value} {n : Nat} (h : ∀ u ∈ z.toList, u.oneCell' = true) : ∀ u ∈ (Builtin.zeroCells z n).toList, u.oneCell' = true := by
  intro u hu
  unfold Builtin.zeroCells at hu
  simp at hu
  obtain ⟨j, hj, hu⟩ := hu
  have hs : 0 < z.size := by
    rcases Nat.eq_zero_or_pos z.size with h0 | h0
    · rw [h0, Nat.mul_zero] at hj; omega
    · exact h0
  have hlt : j % z.size < z.size := Nat.mod_lt _ hs
  rw [getElem!_pos z _ hlt] at hu
  exact h u (by rw [← hu]; simp)

theorem opAppendM_step {st st2 : TypeId} {x y : Operand} {k : St → Option R} (ho : o.op = .call { callee := .builtin .append, args := #[x, y], argTypes := #[st, st2] })
    (h : opAppendM P o st st2 x y S k = some r) (hg : Rel g0 w0 Ex g S a w) : StepTo P o a w g0 w0 Ex k r := by
  unfold opAppendM at h
  split at h
  · cases h
  rename_i d hd
  split at h
  · rename_i e he hzo
    have hu : P.underlying st = some (.slice e) := by
      unfold tElem at he
      split at he
      · rename_i e' hu; injection he with he; rw [hu, he]
      · cases he
    split at h
    · rename_i hag hz1 hst
      have hz1' := beq_true hz1
      have hz : tSize P e ≠ 0 := by omega
      obtain ⟨i, hi, hisz, hiby⟩ := info_of_pos hz
      obtain ⟨zv, hzv, hzone⟩ : ∃ zv, i.zero = some zv ∧ ∀ u ∈ zv.cells.toList, u.oneCell' = true := by
        unfold zeroOk at hzo
        rw [he] at hzo
        simp only at hzo
        split at hzo
        · rename_i z hzz
          obtain ⟨i', v, hi', hv, _, h1⟩ := zeroCells_some (g := g) (w := w) hzz
          rw [hi] at hi'
          injection hi' with hi'
          subst hi'
          exact ⟨v, hv, h1⟩
        · cases hzo
      have ht2 : (∃ e2, P.underlying st2 = some (.slice e2)) ∨ P.underlying st2 = some .string := by
        unfold srcType at hst
        split at hst
        · exact .inl ⟨_, ‹_›⟩
        · exact .inr ‹_›
        · cases hst
      obtain ⟨l2, news, h1, hsrc⟩ := elemsOf_sound (P := P) hg h (hg.evT (P := P) st y)
      clear h
      obtain ⟨z, tg, l, hva, h2⟩ := vs?_some h1
      clear h1
      have hra := hg.evT (P := P) st x
      rw [hva] at hra
      split at h2
      · obtain ⟨h3, h4⟩ := br_left h2
        clear h2
        rw [Bool.and_eq_true] at h3
        obtain ⟨htg, hz3⟩ := h3
        obtain rfl := beq_true hz3
        subst htg
        obtain ⟨hb1, h5⟩ := br_left h4
        clear h4
        obtain ⟨hb2, h6⟩ := br_left h5
        clear h5
        have hb1' := ble_true hb1
        have hb2' := ble_true hb2
        have hmx : maxBytes = 140737488355328 := rfl
        have his1 : i.size = 1 := by omega
        rw [← hiby] at hb1'
        have hfc : ∀ w', (∀ B o, B < w.heap.size → w'.cell? ⟨B, o, none⟩ = w.cell? ⟨B, o, none⟩) → (Builtin.firstCells i.size l2.length (a.eval y)).run P w' = .ok news.toArray w' := fun w' hw => by
          have h := hsrc.cells l2.length w' (Nat.le_refl _) hw
          rw [his1]
          rwa [List.take_of_length_le (by rw [hsrc.rep.1, flat_len hsrc.sizes]; exact Nat.le_refl _)] at h
        have hnl : news.length = l2.length := by rw [hsrc.rep.1, flat_len hsrc.sizes, Nat.mul_one]
        -- the base: nil, or without room
        obtain ⟨base, hbase⟩ : ∃ base : Option Addr, a.eval x = .slice base 0 0 := by
          rcases rep_vs hra with ⟨h, _⟩ | ⟨B, off, cap, vals, h, _, ht, _⟩
          · exact h
          · have := ht rfl
            subst this
            exact ⟨_, h⟩
        have hexe : ∀ u' w', (Builtin.append_ #[st, st2] o.type #[a.eval x, a.eval y]).run P w = .ok u' w' → (execOp a.eval o).run P w = .ok (.value u') w' := fun u' w' hrun => by
          simp only [execOp, ho, resolve, invoke, builtin, Sem.run_bind, Sem.run_pure, Result.andThen_ok, List.map_toArray, List.map_cons, List.map_nil, hrun]
        rcases br_some h6 with ⟨h0, h3⟩ | ⟨h0, h3⟩
        · have h0' := beq_true h0
          have hl0 : l2 = [] := List.eq_nil_of_length_eq_zero h0'
          subst hl0
          have hn0 : news = [] := List.eq_nil_of_length_eq_zero (by simpa using hnl)
          subst hn0
          have hrun := run_append_base (ty := o.type) (base := base) (n := 0) (cap := 0) (m := 0) hu ht2 hi (hsrc.len w) (hfc w (fun _ _ _ => rfl)) (Nat.le_refl _)
          refine .mk (u := .slice base 0 0) (w' := w) (hexe _ _ ?_) ⟨g, ?_⟩ h3
          · rw [hbase, hrun]
            cases base <;> rfl
          · rw [hd]
            refine hg.unlent.putv (f := .no) (some d) ?_ (fun _ _ => trivial) (by simp) (by simp)
            rw [← hbase]
            exact hra
        · have hne : l2.length ≠ 0 := fun e => by rw [e] at h0; cases h0
          obtain ⟨hn, h4⟩ := new?_some h3
          have hfo : (Builtin.firstCells i.size 0 (.slice base 0 0)).run P w.drew = .ok ([] : List Value).toArray w.drew := by
            cases base with
            | none => simp [Builtin.firstCells]
            | some ad =>
              have := run_loadCells_list (P := P) w.drew ad [] (fun j v hv => by simp at hv)
              simpa [Builtin.firstCells] using this
          have hrun := run_append_grow' (ty := o.type) (base := base) (n := 0) (cap := 0) (m := l2.length) (olds := []) hu ht2 hi hzv (hsrc.len w) (hfc w.drew (fun _ _ _ => rfl)) hfo (by omega) (by omega) (by rw [Nat.zero_add]; omega)
          have hge := grownCap_ge w (0 + l2.length) 0 e
          have hoz := mem_zeroCells (z := zv.cells) (n := grownCap w (0 + l2.length) 0 e - (0 + l2.length)) hzone
          generalize (Builtin.zeroCells zv.cells (grownCap w (0 + l2.length) 0 e - (0 + l2.length))).toList = zs at hrun hoz
          have hfl : (l2.flatMap AV.cells).length = l2.length := by rw [flat_len hsrc.sizes, Nat.mul_one]
          have hrl : RepP g w.drew (news ++ zs) (l2.flatMap AV.cells) := by
            refine ⟨by rw [List.length_append, hfl]; omega, fun j u c hu hc => ?_⟩
            have hj : j < news.length := by have := (List.getElem?_eq_some_iff.1 hc).1; omega
            rw [List.getElem?_append_left hj] at hu
            exact Rep.ext (w := w) (g := g) (hsrc.rep.2 j u c hu hc) (⟨fun _ _ h => h, fun _ => Nat.le_refl _, fun _ _ _ => rfl⟩ : Ext g w g w.drew)
          have hone : ∀ u ∈ news ++ zs, u.oneCell' = true := fun u hu => by
            rcases List.mem_append.1 hu with h | h
            · exact hsrc.one u h
            · exact hoz u h
          have hnew := hg.drew.newHf (us := news ++ zs) (cells := l2.flatMap AV.cells) (free := []) e hn (S.nx + 1) (oneP_of hone _) hrl (by simp)
          rw [hbase] at hexe
          refine .mk (hexe _ _ hrun) ⟨g.new w.drew.heap.size (.h S.nx) 0, ?_⟩ h4
          rw [hd]
          refine hnew.putv (f := .no) (some d) ?_ (fun _ _ => trivial) (by simp) (by simp)
          have := Rep.arr (g := g.new w.drew.heap.size (.h S.nx) 0) (w := w.drew.alloc (.cells (news ++ zs).toArray e)) w.heap.size S.nx 0 (0 + l2.length) (grownCap w (0 + l2.length) 0 e) 1 (by rw [new_role]; exact if_pos rfl) hge
          rw [Nat.zero_add] at this
          rw [Nat.zero_add]
          exact this
      · cases h2
    · cases h
  · cases h

/-- append to nil, of what is in memory: the rights of the other slots stay -/
theorem opCat_ok {k : AV → Option R} {d : Nat} (h : opCat P o S k = some r) (hd : o.dst = some d) (hg : Rel g0 w0 Ex g S a w) :
    ∃ u w' g' v, (execOp a.eval o).run P w = .ok (.value u) w' ∧ k v = some r ∧ Rel g0 w0 Ex g' (S.put d (.val v .no)) (a.put (some d) u) w' := by
  unfold opCat at h
  split at h
  · rename_i c hop
    split at h
    · rename_i bi hbi
      split at h
      · split at h
        · rename_i st st2 x y hty har
          have ho : o.op = .call { callee := .builtin .append, args := #[x, y], argTypes := #[st, st2] } := by
            rw [hop]
            congr 1
            obtain ⟨cal, args, tys⟩ := c
            simp only at hbi hty har
            have e1 : args = #[x, y] := by rw [← Array.toArray_toList (xs := args), har]
            have e2 : tys = #[st, st2] := by rw [← Array.toArray_toList (xs := tys), hty]
            rw [hbi, e1, e2]
          split at h
          · rename_i cc
            split at h
            · rename_i e he hzo
              have hu : P.underlying st = some (.slice e) := by
                unfold tElem at he
                split at he
                · rename_i e' hu; injection he with he; rw [hu, he]
                · cases he
              split at h
              · rename_i hag hz1 hst
                have hz1' := beq_true hz1
                have hz : tSize P e ≠ 0 := by omega
                obtain ⟨i, hi, hisz, hiby⟩ := info_of_pos hz
                obtain ⟨zv, hzv⟩ : ∃ zv, i.zero = some zv := by
                  unfold zeroOk at hzo
                  rw [he] at hzo
                  simp only at hzo
                  split at hzo
                  · rename_i z hzz
                    obtain ⟨i', v, hi', hv, _⟩ := zeroCells_some (g := g) (w := w) hzz
                    rw [hi] at hi'
                    injection hi' with hi'
                    subst hi'
                    exact ⟨v, hv⟩
                  · cases hzo
                have ht2 : (∃ e2, P.underlying st2 = some (.slice e2)) ∨ P.underlying st2 = some .string := by
                  unfold srcType at hst
                  split at hst
                  · exact .inl ⟨_, ‹_›⟩
                  · exact .inr ‹_›
                  · cases hst
                obtain ⟨l2, news, h1, hsrc⟩ := elemsOf_sound (P := P) hg h (hg.evT (P := P) st y)
                clear h
                obtain ⟨z, tg, l, hva, h2⟩ := vs?_some h1
                clear h1
                have hra := hg.evT (P := P) st (.const cc)
                rw [hva] at hra
                split at h2
                · obtain ⟨h3, h2⟩ := br_left h2
                  rw [Bool.and_eq_true] at h3
                  obtain ⟨hb1, h2⟩ := br_left h2
                  obtain ⟨hb2, h2⟩ := br_left h2
                  have hb1' := ble_true hb1
                  have hb2' := ble_true hb2
                  have hmx : maxBytes = 140737488355328 := rfl
                  have his1 : i.size = 1 := by omega
                  rw [← hiby] at hb1'
                  have hfc : ∀ w', (∀ B o, B < w.heap.size → w'.cell? ⟨B, o, none⟩ = w.cell? ⟨B, o, none⟩) → (Builtin.firstCells i.size l2.length (a.eval y)).run P w' = .ok news.toArray w' := fun w' hw => by
                    have h := hsrc.cells l2.length w' (Nat.le_refl _) hw
                    rw [his1]
                    rwa [List.take_of_length_le (by rw [hsrc.rep.1, flat_len hsrc.sizes]; exact Nat.le_refl _)] at h
                  have hnl : news.length = l2.length := by rw [hsrc.rep.1, flat_len hsrc.sizes, Nat.mul_one]
                  have hbase : a.eval (.const cc) = .slice none 0 0 := by
                    rcases rep_vs hra with ⟨⟨q, h⟩, _⟩ | ⟨B, off, cap, vals, h, _⟩
                    · cases q with
                      | none => exact h
                      | some ad =>
                        exfalso
                        have hc : a.eval (.const cc) = cc := rfl
                        rw [hc] at h
                        subst h
                        have : evT P S st (.const (Value.slice (some ad) 0 0)) = .undef := rfl
                        rw [this] at hva
                        cases hva
                    · exfalso
                      have hc : a.eval (.const cc) = cc := rfl
                      rw [hc] at h
                      subst h
                      have : evT P S st (.const (Value.slice (some ⟨B, off, none⟩) ([] : List AV).length cap)) = .undef := rfl
                      rw [this] at hva
                      cases hva
                  have hexe : ∀ u' w', (Builtin.append_ #[st, st2] o.type #[a.eval (.const cc), a.eval y]).run P w = .ok u' w' → (execOp a.eval o).run P w = .ok (.value u') w' := fun u' w' hrun => by
                    simp only [execOp, ho, resolve, invoke, builtin, Sem.run_bind, Sem.run_pure, Result.andThen_ok, List.map_toArray, List.map_cons, List.map_nil, hrun]
                  rw [hbase] at hexe
                  by_cases hne : l2.length = 0
                  · have hl0 : l2 = [] := List.eq_nil_of_length_eq_zero hne
                    subst hl0
                    have hn0 : news = [] := List.eq_nil_of_length_eq_zero (by simpa using hnl)
                    subst hn0
                    have hrun := run_append_base (ty := o.type) (base := none) (n := 0) (cap := 0) (m := 0) hu ht2 hi (hsrc.len w) (hfc w (fun _ _ _ => rfl)) (Nat.le_refl _)
                    exact ⟨.slice none 0 0, w, g, _, hexe _ _ hrun, h2, hg.putv (f := .no) (some d) (.vsnil _ _ _) (fun _ _ => trivial) (by simp) (by simp)⟩
                  · have hfo : (Builtin.firstCells i.size 0 (.slice none 0 0)).run P w.drew = .ok ([] : List Value).toArray w.drew := by
                      simp [Builtin.firstCells]
                    have hrun := run_append_grow' (ty := o.type) (base := none) (n := 0) (cap := 0) (m := l2.length) (olds := []) hu ht2 hi hzv (hsrc.len w) (hfc w.drew (fun _ _ _ => rfl)) hfo (by omega) (by omega) (by rw [Nat.zero_add]; omega)
                    have hge := grownCap_ge w (0 + l2.length) 0 e
                    generalize hcells : ([] : List Value) ++ (news ++ (Builtin.zeroCells zv.cells (grownCap w (0 + l2.length) 0 e - (0 + l2.length))).toList) = cells at hrun
                    have hd' := hg.drew
                    have hr := hd'.newblk (w' := w.drew.alloc (.cells cells.toArray e)) (fun B hB => heap_alloc_lt w.drew _ hB) (size_alloc' w.drew _) rfl rfl rfl .ext l2.length (.inl rfl)
                    have hk := keep_new (w' := w.drew.alloc (.cells cells.toArray e)) hd'.inv (fun B hB => heap_alloc_lt w.drew _ hB) (by simp) rfl rfl rfl .ext l2.length
                    have hat := heap_alloc_at w.drew (.cells cells.toArray e)
                    have hrl := (hsrc.rep.ext (⟨fun _ _ h => h, fun _ => Nat.le_refl _, fun _ _ _ => rfl⟩ : Ext g w g w.drew)).ext hk.ext
                    have hcat : ∀ (j : Nat) (u : Value), news[j]? = some u → cells[j]? = some u := fun j u hu => by
                      rw [← hcells, List.nil_append, List.getElem?_append_left (List.getElem?_eq_some_iff.1 hu).1]; exact hu
                    refine ⟨_, _, _, _, hexe _ _ hrun, h2, hr.putv (f := .no) (some d) ?_ (fun _ _ => trivial) (by simp) (by simp)⟩
                    have := Rep.vs (g := g.new w.drew.heap.size .ext l2.length) (w := w.drew.alloc (.cells cells.toArray e)) w.heap.size 0 (grownCap w (0 + l2.length) 0 e) 1 false l2 news hrl.1 hsrc.sizes (by simp) (by omega)
                      (fun j u hu => by
                        have h1 := hcat j u hu
                        refine ⟨?_, ?_, hsrc.one u (List.mem_of_getElem? hu)⟩
                        · rw [Nat.zero_add]; simp only [World.cell?]; rw [show (w.drew.alloc (Obj.cells cells.toArray e)).heap[w.heap.size]? = some (Obj.cells cells.toArray e) from hat]; simpa using h1
                        · rw [Nat.zero_add, new_pub, if_pos (show w.heap.size = w.drew.heap.size from rfl)]
                          have := (List.getElem?_eq_some_iff.1 hu).1
                          omega) hrl.2
                    rw [Nat.zero_add] at this ⊢
                    exact this
                · cases h2
              · cases h
            · cases h
          · cases h
        · cases h
      · cases h
    · cases h
  · cases h

end
end Go.Vai
