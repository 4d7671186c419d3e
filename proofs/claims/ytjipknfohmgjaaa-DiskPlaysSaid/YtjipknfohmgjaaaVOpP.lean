/- Maps that stay in the frame. -/
import Derived.Test.YtjipknfohmgjaaaVOpN
import Derived.MapKept
import Derived.Carry
namespace Go.Vai
open MapKept

section
variable {X : Nat → Prop} {g0 : G} {w0 : World} {Ex : Nat → Prop} {g g' : G} {S : St} {a : Act} {w w' : World} {P : Program} {R : Type} {r : R} {o : Oper} {A : List (Nat × Ann)} {cal : Oracle}

/-- a value that may be a key -/
theorem scal_key {t : TypeId} {v : AV} {u : Value} (h : scal P t v = true) (hr : Rep g w u v) : ∃ d, P.underlying t = some d ∧ IsKey d u := by
  cases v with
  | int i n => obtain rfl := rep_int hr; exact ⟨_, scal_int' h, rfl⟩
  | str s => obtain ⟨b, rfl, _⟩ := rep_str hr; exact ⟨_, scal_str h, trivial⟩
  | bool b => obtain rfl := rep_bool hr; exact ⟨_, scal_bool h, trivial⟩
  | _ => cases h

/-- the comparison of two keys -/
theorem eq1_key {t : TypeId} {x y : AV} {ux uy : Value} {k : Bool → Option R} (h : eq1 x y k = some r) (hx : Rep g w ux x) (hy : Rep g w uy y) (h1 : scal P t x = true) (h2 : scal P t y = true) :
    ∃ b, k b = some r ∧ (b = true ↔ ux = uy) ∧ ∀ (R' : Type) (k' : Bool → Option R'), eq1 x y k' = k' b := by
  cases x with
  | int i a =>
    simp only [eq1] at h
    obtain ⟨j, b, rfl, h3⟩ := int?_some h
    obtain ⟨h0, h4⟩ := br_left h3
    clear h h3
    obtain rfl := rep_int hx
    obtain rfl := rep_int hy
    have e := sameKind_eq h0
    subst e
    exact ⟨_, h4, by simp, fun R' k' => by simp only [eq1, AV.int?, h0, br]⟩
  | str a =>
    simp only [eq1] at h
    obtain ⟨b, rfl, h3⟩ := str?_some h
    clear h
    obtain ⟨s1, rfl, rfl⟩ := rep_str hx
    obtain ⟨s2, rfl, rfl⟩ := rep_str hy
    refine ⟨_, h3, ?_, fun R' k' => rfl⟩
    rw [eqS_eq, beq_iff_eq]
    constructor
    · intro e
      have : s1 = s2 := by
        apply ByteArray.ext; apply Array.toList_inj.1; exact e
      rw [this]
    · intro e; injection e with e; rw [e]
  | bool a =>
    simp only [eq1] at h
    obtain ⟨b, rfl, h3⟩ := bool?_some h
    clear h
    obtain rfl := rep_bool hx
    obtain rfl := rep_bool hy
    exact ⟨_, h3, by simp, fun R' k' => rfl⟩
  | _ => cases h

theorem mScal_keys {t : TypeId} : ∀ {l : List (AV × AV)} {es : List MapEntry}, mScal P t l = true → MapRep g w es l → ∀ {d : TypeDesc}, P.underlying t = some d → ∀ x ∈ es, IsKey d x.key
  | [], es, _, hr, d, _, x, hx => by
    have : es = [] := List.eq_nil_of_length_eq_zero hr.1
    subst this
    cases hx
  | (a, v) :: l, [], h, hr, _, _, x, hx => by cases hx
  | (a, v) :: l, e :: es, h, hr, d, hd, x, hx => by
    simp only [mScal] at h
    split at h
    · rename_i hs
      rcases List.mem_cons.1 hx with rfl | hx
      · obtain ⟨d', hd', hk⟩ := scal_key hs (hr.2 0 _ _ rfl rfl).1
        rw [hd] at hd'
        injection hd' with hd'
        rw [hd']; exact hk
      · exact mScal_keys h ⟨by simpa using hr.1, fun j e' p he hp => hr.2 (j + 1) e' p (by simpa using he) (by simpa using hp)⟩ hd x hx
    · cases h

/-- the key is found, or it is new -/
theorem mFind_sound {t : TypeId} {d : TypeDesc} {key v : AV} {uk : Value} (hd : P.underlying t = some d) (hk : scal P t key = true) (hrk : Rep g w uk key) : ∀ {l : List (AV × AV)} {es : List MapEntry} {kk : Option AV → Option R} (i : Nat),
    mScal P t l = true → MapRep g w es l → mFind key l kk = some r →
    (Instr.findNow d uk es i = some none ∧ kk none = some r ∧ mIns key v l = l ++ [(key, v)]) ∨
    ∃ j e p, Instr.findNow d uk es i = some (some (i + j, e.val)) ∧ es[j]? = some e ∧ l[j]? = some p ∧ e.key = uk ∧ kk (some p.2) = some r ∧ mIns key v l = l.set j (key, v)
  | [], [], kk, i, _, _, h => .inl ⟨rfl, h, rfl⟩
  | [], _ :: _, _, _, _, hr, _ => by have := hr.1; simp at this
  | (a, x) :: l, [], _, _, _, hr, _ => by have := hr.1; simp at this
  | (a, x) :: l, e :: es, kk, i, hs, hr, h => by
    simp only [mScal] at hs
    split at hs
    · rename_i hsa
      have h0 := hr.2 0 _ _ rfl rfl
      simp only [mFind] at h
      obtain ⟨b, hb, hiff, hall⟩ := eq1_key h hrk h0.1 hk hsa
      obtain ⟨d1, hd1, hkey⟩ := scal_key hk hrk
      obtain ⟨d2, hd2, hkey2⟩ := scal_key hsa h0.1
      rw [hd] at hd1 hd2
      injection hd1 with hd1
      injection hd2 with hd2
      subst hd1
      rw [← hd2] at hkey2
      obtain ⟨q, hq, hqi⟩ := sameNow_of_keys hkey hkey2
      have hbq : b = q := by
        have := hiff.trans hqi.symm
        cases b <;> cases q <;> simp_all
      subst hbq
      cases b with
      | true =>
        refine .inr ⟨0, e, (a, x), by simp [Instr.findNow, hq], rfl, rfl, (hiff.1 rfl).symm, hb, ?_⟩
        simp only [mIns, hall]
        rfl
      | false =>
        rcases mFind_sound (v := v) hd hk hrk (i + 1) hs ⟨by simpa using hr.1, fun j e' p he hp => hr.2 (j + 1) e' p (by simpa using he) (by simpa using hp)⟩ hb with ⟨h1, h2, h3⟩ | ⟨j, e', p, h1, h2, h3, h4, h5, h6⟩
        · refine .inl ⟨by simp [Instr.findNow, hq, h1], h2, ?_⟩
          simp only [mIns, hall, h3]
          rfl
        · refine .inr ⟨j + 1, e', p, by simp [Instr.findNow, hq, h1]; omega, by simpa using h2, by simpa using h3, h4, h5, ?_⟩
          simp only [mIns, hall, h6]
          rfl
    · cases hs

/-- a map of the frame is written -/
theorem Rel.writeM (h : Rel g0 w0 Ex g S a w) {d B ck ck' : Nat} {es es' : Array MapEntry} {l l' : List (AV × AV)} (_hl : getM S.M d = some l) (hB : g.role B = .l d) (hheap : w.heap[B]? = some (.map es ck))
    (hn : MapRep g w es'.toList l') : Rel g0 w0 Ex g { S with M := setM S.M d l' } a { w with heap := w.heap.setIfInBounds B (.map es' ck') } := by
  have hset := heap_set (o' := .map es' ck') hheap
  have k : Keep (fun b => b = B) g w g { w with heap := w.heap.setIfInBounds B (.map es' ck') } := by
    refine ⟨⟨fun _ _ h => h, fun _ => Nat.le_refl _, fun B' o ho => ?_⟩, rfl, rfl, rfl, by simp, fun B' _ hne => ⟨hset.2 B' hne, rfl, rfl⟩⟩
    by_cases hb : B' = B
    · subst hb; have := h.inv.pl B' d hB; omega
    · exact cell_keep (hset.2 B' hb)
  have hX : ∀ B' p, g.role B' = .c p → ¬ B' = B := fun B' p hp e => by subst e; rw [hB] at hp; cases hp
  have hi : Inv g { w with heap := w.heap.setIfInBounds B (.map es' ck') } := ⟨fun B' hB' => h.inv.new B' (by simpa using hB'), h.inv.ph, h.inv.pl, h.inv.injh, h.inv.injl⟩
  refine ⟨hi, h.h.keep k (fun B' id b' hB' _ e => by subst e; rw [hB] at hB'; cases hB') (fun B' id off hB' => hX B' _ hB') h.h.lt,
    h.l.keep k (fun B' d' b' hB' hb' e => ?_) (fun B' d' off hB' => hX B' _ hB'), fun d' l2 hl2 => ?_, h.len, fun t => ?_, h.fr.keep k ?_ ?_, h.nodef⟩
  · subst e
    obtain ⟨B2, h2, ⟨us, e, h3, _⟩, _⟩ := h.l d' b' hb'
    obtain rfl := h.inv.injl B' B2 d' hB' h2
    rw [hheap] at h3
    cases h3
  · have hl3 : getM (setM S.M d l') d' = some l2 := hl2
    rw [getM_setM] at hl3
    split at hl3
    · rename_i hd
      subst hd
      injection hl3 with hl3
      subst hl3
      exact ⟨B, es', ck', hB, hset.1, hn.ext k.ext⟩
    · rename_i hd
      obtain ⟨B2, es2, ck2, h2, h3, h4⟩ := h.m d' l2 hl3
      have hne : B2 ≠ B := fun e => by subst e; rw [hB] at h2; injection h2 with e; exact hd e.symm
      exact ⟨B2, es2, ck2, h2, by rw [← h3]; exact hset.2 B2 hne, h4.ext k.ext⟩
  · have h1 := h.sl t
    cases hst : S.slot t with
    | und => show SlotRel _ _ _ _ t (S.slot t); rw [hst]; trivial
    | lp d off => show SlotRel _ _ _ _ t (S.slot t); rw [hst] at h1 ⊢; exact h1
    | mp d => show SlotRel _ _ _ _ t (S.slot t); rw [hst] at h1 ⊢; exact h1
    | val v f =>
      show SlotRel _ _ _ _ t (S.slot t)
      rw [hst] at h1 ⊢
      refine ⟨h1.1.ext k.ext, ?_⟩
      cases f with
      | no => trivial
      | own => exact OwnAV.keep h1.2 k fun B' hB' => hX B' _ hB'
      | lS q => exact h1.2
      | lL d' off =>
        intro b hb hoff
        obtain ⟨B', h2, h3, h4⟩ := h1.2 b hb hoff
        refine ⟨B', h2, ?_, h4⟩
        have hne : B' ≠ B := fun e => by subst e; simp [World.cell?, hheap] at h3
        rw [cell_keep (hset.2 B' hne)]; exact h3
      | lH id off =>
        intro b hb hoff
        obtain ⟨B', h2, h3, h4⟩ := h1.2 b hb hoff
        refine ⟨B', h2, ?_, h4⟩
        have hne : B' ≠ B := fun e => by subst e; simp [World.cell?, hheap] at h3
        rw [cell_keep (hset.2 B' hne)]; exact h3
      | comps cs => exact fun i hi us vs ui vi e1 e2 e3 e4 => OwnAV.keep (h1.2 i hi us vs ui vi e1 e2 e3 e4) k fun B' hB' => hX B' _ hB'
  · rintro B' rfl
    exact h.fr.role B' (by rw [hB]; simp)
  · rintro B' hlt rfl _
    rcases h.fr.role B' (by rw [hB]; simp) with hx | hx
    · omega
    · exact hx

theorem keyStays {d : TypeDesc} {k : Value} (h : IsKey d k) : (Instr.keyThatStays k k).run P w = .ok k w := by
  have : Instr.sameBits 10000 k k = true := by
    cases d <;> cases k <;> simp_all [IsKey, Instr.sameBits]
    exact (bytes_beq _ _).2 rfl
  simp [Instr.keyThatStays, this]
theorem run_mapUpdate {t kt et : TypeId} {B ck : Nat} {es : Array MapEntry} {uk uv : Value} {d : TypeDesc} (hu : P.underlying t = some (.map kt et)) (hd : P.underlying kt = some d) (hk : IsKey d uk) (hheap : w.heap[B]? = some (.map es ck)) :
    (Instr.findNow d uk es.toList 0 = some none → (Instr.mapUpdate t (.map (some B)) uk uv).run P w = .ok () { w with heap := w.heap.setIfInBounds B (.map (es.push { key := uk, val := uv, born := ck }) (ck + 1)) }) ∧
    ∀ j e, Instr.findNow d uk es.toList 0 = some (some (0 + j, e.val)) → es[j]? = some e → e.key = uk → (Instr.mapUpdate t (.map (some B)) uk uv).run P w = .ok () { w with heap := w.heap.setIfInBounds B (.map (es.modify j fun e => { e with key := uk, val := uv }) ck) } := by
  refine ⟨fun h => ?_, fun j e h he hek => ?_⟩
  · simp only [Instr.mapUpdate, Sem.run_bind, run_underlying hu, Result.andThen_ok, Go.MapKept.run_getObj_map hheap, run_checkKey hd hk, run_findKey hd h, Go.MapKept.run_setObj_map _ hheap]
  · rw [Nat.zero_add] at h
    simp only [Instr.mapUpdate, Sem.run_bind, run_underlying hu, Result.andThen_ok, Go.MapKept.run_getObj_map hheap, run_checkKey hd hk, run_findKey hd h, he, Option.map_some, Option.getD_some, hek, keyStays hk, Go.MapKept.run_setObj_map _ hheap]

theorem opMapUpdate_step {t : TypeId} {m key v : Operand} {k : St → Option R} (ho : o.op = .insert t m key v ∨ o.op = .mapUpdate t m key v) (hod : o.dst = none) (h : opMapUpdate P t m key v S k = some r) (hg : Rel g0 w0 Ex g S a w) :
    StepTo P o a w g0 w0 Ex k r := by
  unfold opMapUpdate at h
  split at h
  · rename_i kt et hu
    split at h
    · rename_i tm
      split at h
      · rename_i d hs
        obtain ⟨l, hl, h1⟩ := bind_some' h
        clear h
        obtain ⟨h2, h3⟩ := br_left h1
        rw [Bool.and_eq_true] at h2
        have hsl := hg.sl tm
        rw [hs] at hsl
        obtain ⟨B, hB, hev⟩ := hsl
        have hev' : a.eval (.tmp tm) = .map (some B) := hev
        obtain ⟨B2, es, ck, h4, hheap, hmr⟩ := hg.m d l hl
        obtain rfl := hg.inv.injl B B2 d hB h4
        have hrk := hg.evT (P := P) kt key
        have hrv := hg.evT (P := P) et v
        obtain ⟨dd, hdd, hkey⟩ := scal_key h2.1 hrk
        have hrun := run_mapUpdate (w := w) (uv := a.eval v) hu hdd hkey hheap
        have hex : ∀ w', (Instr.mapUpdate t (.map (some B)) (a.eval key) (a.eval v)).run P w = .ok () w' → (execOp a.eval o).run P w = .ok .skip w' := by
          intro w' hw
          rcases ho with ho | ho <;> simp only [execOp, ho, hev', Sem.run_bind, hw, Result.andThen_ok, Sem.run_pure]
        have fin : ∀ (es' : Array MapEntry) (ck' : Nat) (l' : List (AV × AV)), MapRep g w es'.toList l' → (Instr.mapUpdate t (.map (some B)) (a.eval key) (a.eval v)).run P w = .ok () { w with heap := w.heap.setIfInBounds B (.map es' ck') } →
            k { S with M := setM S.M d l' } = some r → StepTo P o a w g0 w0 Ex k r := by
          intro es' ck' l' hm hw hk
          refine ⟨.skip, undef, _, _, hex _ hw, .inr ⟨rfl, rfl⟩, ⟨g, ?_⟩, hk⟩
          rw [hod]
          exact hg.writeM hl hB hheap hm
        rcases mFind_sound (v := evT P S et v) hdd h2.1 hrk 0 h2.2 hmr h3 with ⟨h5, h6, h7⟩ | ⟨j, e, p, h5, h6, h7, h8, h9, h10⟩
        · rw [h7] at h6
          refine fin _ _ _ ?_ (hrun.1 h5) h6
          rw [Array.toList_push]
          refine ⟨by simp [hmr.1], fun j x q hx hq => ?_⟩
          rcases Nat.lt_trichotomy j es.toList.length with hj | hj | hj
          · rw [List.getElem?_append_left hj] at hx
            rw [List.getElem?_append_left (by rw [← hmr.1]; exact hj)] at hq
            exact hmr.2 j x q hx hq
          · subst hj
            rw [List.getElem?_append_right (Nat.le_refl _), Nat.sub_self] at hx
            rw [List.getElem?_append_right (by rw [hmr.1]; exact Nat.le_refl _), hmr.1, Nat.sub_self] at hq
            simp at hx hq
            subst hx hq
            exact ⟨hrk, hrv⟩
          · rw [List.getElem?_append_right (by omega), List.getElem?_eq_none (by rw [List.length_singleton]; omega)] at hx
            cases hx
        · rw [h10] at h9
          have he' : es[j]? = some e := by simpa using h6
          refine fin _ _ _ ?_ (hrun.2 j e h5 he' h8) h9
          refine ⟨by simp [hmr.1], fun i x q hx hq => ?_⟩
          rw [Array.getElem?_toList, Array.getElem?_modify] at hx
          rw [List.getElem?_set] at hq
          by_cases hij : j = i
          · subst hij
            have hlt : j < l.length := (List.getElem?_eq_some_iff.1 h7).1
            rw [if_pos rfl, he'] at hx
            rw [if_pos rfl, if_pos hlt] at hq
            simp at hx hq
            subst hx hq
            exact ⟨hrk, hrv⟩
          · rw [if_neg hij] at hx hq
            exact hmr.2 i x q (by simpa using hx) hq
      · cases h
    · cases h
  · cases h

theorem zeroAV_sound {t : TypeId} {k : AV → Option R} (h : zeroAV P t k = some r) : ∃ u v, (zeroValue t).run P w = .ok u w ∧ Rep g w u v ∧ k v = some r := by
  unfold zeroAV at h
  split at h
  · rename_i i hi
    split at h
    · rename_i z hz
      exact ⟨z, _, by simp [zeroValue, typeInfo, hi, hz], ofConst_rep _ _, h⟩
    · cases h
  · cases h

theorem opLookup_step {t : TypeId} {x ix : Operand} {ok : Bool} {k : St → Option R} (ho : o.op = .lookup t x ix ok) (h : opLookup P o t x ix ok S k = some r) (hg : Rel g0 w0 Ex g S a w) : StepTo P o a w g0 w0 Ex k r := by
  unfold opLookup at h
  split at h
  · rename_i kt et hu
    split at h
    · rename_i tm
      split at h
      · rename_i d hs
        obtain ⟨l, hl, h1⟩ := bind_some' h
        clear h
        obtain ⟨h2, h3⟩ := br_left h1
        rw [Bool.and_eq_true] at h2
        have hsl := hg.sl tm
        rw [hs] at hsl
        obtain ⟨B, hB, hev⟩ := hsl
        have hev' : a.eval (.tmp tm) = .map (some B) := hev
        obtain ⟨B2, es, ck, h4, hheap, hmr⟩ := hg.m d l hl
        obtain rfl := hg.inv.injl B B2 d hB h4
        have hrk := hg.evT (P := P) kt ix
        obtain ⟨dd, hdd, hkey⟩ := scal_key h2.1 hrk
        have fin : ∀ (u : Value) (v : AV) (b : Bool), Rep g w u v → (Instr.lookup t (.map (some B)) (a.eval ix) ok).run P w = .ok (if ok then .tuple #[u, .bool b] else u) w →
            lookRes o ok S v b k = some r → StepTo P o a w g0 w0 Ex k r := by
          intro u v b hr hw hk
          have hex : (execOp a.eval o).run P w = .ok (.value (if ok then .tuple #[u, .bool b] else u)) w := by
            simp only [execOp, ho, hev', Sem.run_bind, hw, Result.andThen_ok, Sem.run_pure]
          cases ok with
          | true =>
            refine .val hg hex ?_ hk
            refine .tuple [u, .bool b] _ rfl fun j x c hx hc => ?_
            match j with
            | 0 => simp at hx hc; subst hx hc; exact hr
            | 1 => simp at hx hc; subst hx hc; exact .bool b
            | j + 2 => simp at hx
          | false => exact .val hg hex hr hk
        rcases mFind_sound (v := .undef) hdd h2.1 hrk 0 h2.2 hmr h3 with ⟨h5, h6, h7⟩ | ⟨j, e, p, h5, h6, h7, h8, h9, h10⟩
        · obtain ⟨u, v, hz, hr, hk⟩ := zeroAV_sound (w := w) (g := g) h6
          refine fin u v false hr ?_ hk
          simp only [Instr.lookup, Sem.run_bind, run_underlying hu, Result.andThen_ok, Go.MapKept.run_getObj_map hheap, Sem.run_pure, run_checkKey hdd hkey, run_findKey hdd h5, hz]
        · rw [Nat.zero_add] at h5
          refine fin e.val p.2 true (hmr.2 j e p h6 h7).2 ?_ h9
          simp only [Instr.lookup, Sem.run_bind, run_underlying hu, Result.andThen_ok, Go.MapKept.run_getObj_map hheap, Sem.run_pure, run_checkKey hdd hkey, run_findKey hdd h5]
      · cases h
    · cases h
  · cases h

theorem opMakeMap_step {t : TypeId} {k : St → Option R} (ho : o.op = .makeMap t none) (h : opMakeMap P o t S k = some r) (hg : Rel g0 w0 Ex g S a w) : StepTo P o a w g0 w0 Ex k r := by
  unfold opMakeMap at h
  have hold : ∀ B, B < w.heap.size → (w.alloc (.map #[] 0)).heap[B]? = w.heap[B]? := fun B hB => heap_alloc_lt w _ hB
  have hat := heap_alloc_at w (.map #[] 0)
  split at h
  · rename_i d hd
    split at h
    · rename_i hLn
      let g1 : G := ⟨fun b => if g.role b = .l d then .ext else g.role b, g.pub⟩
      have r1 : ∀ b, g1.role b = if g.role b = .l d then .ext else g.role b := fun _ => rfl
      have r1ne : ∀ b x, g.role b = x → x ≠ .l d → g1.role b = x := fun b x hb hx => by rw [r1, if_neg (by rw [hb]; exact hx), hb]
      have r1inv : ∀ b x, g1.role b = x → x ≠ .ext → g.role b = x ∧ x ≠ .l d := fun b x hb hx => by
        rw [r1] at hb
        split at hb
        · exact absurd hb.symm hx
        · rename_i hn; subst hb; exact ⟨rfl, hn⟩
      have hE1 : Ext g w g1 w := ⟨fun B id hB => r1ne B _ hB (by simp), fun _ => Nat.le_refl _, fun _ _ _ => rfl⟩
      have own1 : ∀ p u c, OwnAV g w p u c → OwnAV g1 w p u c := by
        intro p u c hc
        cases c with
        | vs sz tg l =>
          rcases hc with hc | hc | ⟨B, n, cap, us, e, h1, h2, h3⟩
          · exact .inl hc
          · exact .inr (.inl hc)
          · exact .inr (.inr ⟨B, n, cap, us, e, h1, r1ne B _ h2 (by simp), h3⟩)
        | _ => trivial
      have hg1 : Rel g0 w0 Ex g1 ({ S with M := [], sl := S.sl.map (dropLp d) } : St).unlent a w := by
        refine ⟨⟨fun B hB => ?_, fun B id hB => hg.inv.ph B id (r1inv B _ hB (by simp)).1, fun B d' hB => hg.inv.pl B d' (r1inv B _ hB (by simp)).1, fun B B' id hB hB' => hg.inv.injh B B' id (r1inv B _ hB (by simp)).1 (r1inv B' _ hB' (by simp)).1, fun B B' id hB hB' => hg.inv.injl B B' id (r1inv B _ hB (by simp)).1 (r1inv B' _ hB' (by simp)).1⟩, ?_, ?_, fun d' l hl => (by cases hl), ?_, fun t => ?_, ?_, hg.nodef⟩
        · obtain ⟨h2, h3⟩ := hg.inv.new B hB
          exact ⟨r1ne B _ h2 (by simp), h3⟩
        · refine ⟨fun id b hb => ?_, fun B id hB => hg.h.lt B id (r1inv B _ hB (by simp)).1⟩
          obtain ⟨B, hB, ⟨us', e', hh, ho', hr'⟩, hf⟩ := hg.h.blk id b hb
          exact ⟨B, r1ne B _ hB (by simp), ⟨us', e', hh, ho', hr'.ext hE1⟩, fun off hoff u v hu hv => own1 _ _ _ (hf off hoff u v hu hv)⟩
        · intro d' b hb
          have hb' : getL S.L d' = some b := hb
          obtain ⟨B, hB, ⟨us', e', hh, ho', hr'⟩, hf⟩ := hg.l d' b hb'
          exact ⟨B, r1ne B _ hB (by intro e; injection e with e; rw [e, hLn] at hb'; cases hb'), ⟨us', e', hh, ho', hr'.ext hE1⟩, fun off hoff u v hu hv => own1 _ _ _ (hf off hoff u v hu hv)⟩
        · show ((S.sl.map (dropLp d)).map Slot.unlent).length = _
          rw [List.length_map, List.length_map]; exact hg.len
        · have hs := hg.sl t
          rw [slot_unlent]
          have e1 : ({ S with M := [], sl := S.sl.map (dropLp d) } : St).slot t = dropLp d (S.slot t) := nthS_map _ rfl _ _
          rw [e1]
          cases hst : S.slot t with
          | und => trivial
          | lp d' off =>
            rw [hst] at hs
            obtain ⟨B, h2, h3⟩ := hs
            simp only [dropLp]
            cases hb : Nat.beq d' d with
            | true => trivial
            | false =>
              have hne : d' ≠ d := fun e => by subst e; rw [show Nat.beq d' d' = true from Nat.beq_refl d'] at hb; cases hb
              exact ⟨B, r1ne B _ h2 (by intro e; injection e with e; exact hne e), h3⟩
          | mp d' =>
            rw [hst] at hs
            obtain ⟨B, h2, h3⟩ := hs
            simp only [dropLp]
            cases hb : Nat.beq d' d with
            | true => trivial
            | false =>
              have hne : d' ≠ d := fun e => by subst e; rw [show Nat.beq d' d' = true from Nat.beq_refl d'] at hb; cases hb
              exact ⟨B, r1ne B _ h2 (by intro e; injection e with e; exact hne e), h3⟩
          | val v f =>
            rw [hst] at hs
            refine SlotC.rel (s := .val v f) ⟨hs.1.ext hE1, ?_⟩ _
            cases f with
            | own => exact own1 _ _ _ hs.2
            | comps cs => exact fun i hi us vs ui vi e1 e2 e3 e4 => own1 _ _ _ (hs.2 i hi us vs ui vi e1 e2 e3 e4)
            | _ => trivial
        · exact ⟨hg.fr.ext.trans hE1, hg.fr.os, hg.fr.tape, hg.fr.output, hg.fr.size, fun B hB hx => hg.fr.same B hB hx, fun B hB => hg.fr.role B fun e => hB (r1ne B _ e (by simp))⟩
      have hk := keep_new (w' := w.alloc (.map #[] 0)) hg1.inv hold (by simp) rfl rfl rfl (.l d) 0
      have hi := inv_new (w' := w.alloc (.map #[] 0)) hg1.inv (size_alloc' w _) (.l d) 0 (fun _ => rfl) (fun id B e => by cases e) (fun d' B e he => by
        injection e with e; subst e; exact (r1inv B _ he (by simp)).2 rfl)
      have hr := hg1.grow hk hi (fun B id hB => by
        rw [new_role] at hB
        split at hB
        · cases hB
        · exact hg1.h.lt B id hB)
      have hrun : (execOp a.eval o).run P w = .ok (.value (.map (some w.heap.size))) (w.alloc (.map #[] 0)) := by
        have hmk : (Instr.makeMap t none).run P w = .ok (.map (some w.heap.size)) (w.alloc (.map #[] 0)) := rfl
        simp only [execOp, ho, Option.map_none, Sem.run_bind, hmk, Result.andThen_ok, Sem.run_pure]
      refine .mk hrun ⟨g1.new w.heap.size (.l d) 0, ?_⟩ h
      rw [hd]
      have hr2 : Rel g0 w0 Ex (g1.new w.heap.size (.l d) 0) ({ S with M := setM S.M d [], sl := S.sl.map (dropLp d) } : St).unlent a (w.alloc (.map #[] 0)) := by
        refine ⟨hr.inv, hr.h, hr.l, fun d' l hl => ?_, hr.len, fun t => ?_, hr.fr, hr.nodef⟩
        · have hl' : getM (setM S.M d []) d' = some l := hl
          rw [getM_setM] at hl'
          split at hl'
          · rename_i hid
            subst hid
            injection hl' with hl'
            subst hl'
            exact ⟨w.heap.size, #[], 0, by rw [new_role, if_pos rfl], hat, rfl, fun j e p he => by simp at he⟩
          · rename_i hne
            obtain ⟨B, es, ck, h1, h2, h3⟩ := hg.m d' l hl'
            have hB1 : g1.role B = .l d' := r1ne B _ h1 (by intro e; injection e with e; exact hne e)
            have hBlt := heap_lt h2
            exact ⟨B, es, ck, by rw [new_role, if_neg (by omega)]; exact hB1, by rw [hold B hBlt]; exact h2, (h3.ext hE1).ext hk.ext⟩
        · have := hr.sl t
          have e1 : (({ S with M := setM S.M d [], sl := S.sl.map (dropLp d) } : St).unlent.slot t) = ({ S with M := [], sl := S.sl.map (dropLp d) } : St).unlent.slot t := rfl
          rw [e1]
          have e2 : (({ S with M := [], sl := S.sl.map (dropLp d) } : St).unlent.slot t).unlent = ({ S with M := [], sl := S.sl.map (dropLp d) } : St).unlent.slot t := by
            rw [slot_unlent]
            cases ({ S with M := [], sl := S.sl.map (dropLp d) } : St).slot t with
            | val v f => cases f <;> rfl
            | _ => rfl
          rw [← e2]
          exact (SlotRel.c this).rel _
      exact hr2.putlp (some d) (.inr (.inr ⟨d, w.heap.size, rfl, by rw [new_role, if_pos rfl], rfl⟩))
    · cases h
  · cases h

end
end Go.Vai
