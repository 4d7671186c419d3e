/- Regions whose order is drawn, second part: the values, and every order. -/
import Derived.Test.YtfdijfnmloddcaaVDraw
namespace Go.Vai

section
variable {g0 : G} {w0 : World} {Ex : Nat → Prop} {g g' : G} {S : St} {a : Act} {w w' : World} {P : Program} {R : Type} {r : R} {o : Oper} {A : List (Nat × Ann)} {cal : Oracle} {an : Ann} {isRes : Nat → Bool} {all : Array Oper} {m : Nat}

theorem dstIs_iff {j t : Nat} : dstIs all j t = true ↔ ∃ o, all[j]? = some o ∧ o.dst = some t := by
  unfold dstIs
  cases h : all[j]? with
  | none => simp
  | some o =>
    cases hd : o.dst with
    | none => simp [hd]
    | some d => simp [hd]

/-- the state before value i -/
structure At (all : Array Oper) (m : Nat) (S : St) (V : Nat → AV) (i : Nat) (T : St) : Prop where
  L : T.L = S.L
  H : T.H = S.H
  nx : T.nx = S.nx
  len : T.sl.length = S.sl.length
  old : ∀ j, j < i → ∀ d, dstIs all j d = true → T.slot d = .val (V j) .no
  rest : ∀ t, (∀ j, j < m → dstIs all j t = false) → T.slot t = S.slot t

theorem At.congr {V V' : Nat → AV} {i : Nat} {T : St} (h : At all m S V i T) (hv : ∀ j, j < i → V' j = V j) : At all m S V' i T :=
  ⟨h.L, h.H, h.nx, h.len, fun j hj d hd => by rw [hv j hj]; exact h.old j hj d hd, h.rest⟩

/-- what gives value i -/
def Fact (P : Program) (A : List (Nat × Ann)) (an : Ann) (isRes : Nat → Bool) (cal : Oracle) (all : Array Oper) (m : Nat) (S : St) (V : Nat → AV) (i : Nat) : Prop :=
  ∃ o T, all[i]? = some o ∧ At all m S V i T ∧
    ((o.guard = none ∧ vOp P A an isRes cal o (o.looksAt all) T = some (V i)) ∨
     ∃ j want d, o.guard = some (j, want) ∧ j < i ∧ dstIs all j d = true ∧
      ((∃ b, V j = .bool b ∧ (b = want → vOp P A an isRes cal o (o.looksAt all) T = some (V i)) ∧ (b ≠ want → V i = .tuple [])) ∨ (V j = .tuple [] ∧ V i = .tuple [])))

structure Ok (all : Array Oper) (m len : Nat) : Prop where
  le : m ≤ all.size
  back : ∀ i (o : Oper), all[i]? = some o → ∀ e ∈ o.after, e.on < i
  dst : ∀ i (o : Oper), i < m → all[i]? = some o → ∃ d, o.dst = some d ∧ d < len ∧ (∀ j, j < i → dstIs all j d = false) ∧
    (∀ t ∈ o.looksAt all, ∀ j, j < m → dstIs all j t = true → j < i ∧ bindsOn o j = true) ∧ ∀ j want, o.guard = some (j, want) → j < i ∧ bindsOn o j = true
  tail : ∀ i (o : Oper), m ≤ i → all[i]? = some o → ∀ j, j < i → bindsOn o j = true

theorem drawOk_ok {len : Nat} (h : drawOk all m len = true) : Ok all m len := by
  unfold drawOk at h
  rw [Bool.and_eq_true] at h
  obtain ⟨hle, h⟩ := h
  have hle' := ble_true hle
  rw [List.all_eq_true] at h
  have h1 : ∀ i (o : Oper), all[i]? = some o → (o.after.toList.all (fun e => Nat.blt e.on i) = true) ∧ (match Nat.blt i m with
      | true => valOk all m len i o
      | false => (List.range i).all fun j => bindsOn o j) = true := by
    intro i o ho
    have hlt : i < all.size := (Array.getElem?_eq_some_iff.1 ho).1
    have h2 := h i (List.mem_range.2 hlt)
    rw [ho] at h2
    simp only [Bool.and_eq_true] at h2
    exact h2
  refine ⟨hle', fun i o ho e he => ?_, fun i o hi ho => ?_, fun i o hi ho j hj => ?_⟩
  · have := (h1 i o ho).1
    rw [List.all_eq_true] at this
    have := this e (Array.mem_toList_iff.2 he)
    simpa [Nat.blt_eq] using this
  · have h3 := (h1 i o ho).2
    rw [show Nat.blt i m = true by simpa [Nat.blt_eq] using hi] at h3
    simp only at h3
    unfold valOk at h3
    cases hd : o.dst with
    | none => rw [hd] at h3; cases h3
    | some d =>
      rw [hd] at h3
      simp only [Bool.and_eq_true] at h3
      obtain ⟨hg, h4, h5, h6⟩ := h3
      rw [List.all_eq_true] at h5 h6
      refine ⟨d, rfl, by simpa [Nat.blt_eq] using h4, fun j hj => ?_, fun t ht j hj hjt => ?_, fun j want hgu => ?_⟩
      · have := h5 j (List.mem_range.2 hj)
        simpa using this
      · have := h6 t ht
        rw [List.all_eq_true] at this
        have := this j (List.mem_range.2 hj)
        rw [hjt] at this
        simpa [Nat.blt_eq] using this
      · rw [hgu] at hg
        simpa [Nat.blt_eq] using hg
  · have h3 := (h1 i o ho).2
    rw [show Nat.blt i m = false by cases hb : Nat.blt i m with | false => rfl | true => (have : i < m := by simpa [Nat.blt_eq] using hb); omega] at h3
    simp only at h3
    rw [List.all_eq_true] at h3
    exact h3 j (List.mem_range.2 hj)

theorem At.put {len : Nat} (ok : Ok all m len) (hlen : len = S.sl.length) {V : Nat → AV} {i : Nat} {T : St} (h : At all m S V i T) (hi : i < m) (ho : all[i]? = some o) {e : Nat} (he : o.dst = some e) (v : AV) :
    At all m S (fun j => if j = i then v else V j) (i + 1) (T.put e (.val v .no)) := by
  obtain ⟨d, hd, hlt, hdis, _, _⟩ := ok.dst i o hi ho
  rw [he] at hd
  injection hd with hd
  subst hd
  have hei : dstIs all i e = true := dstIs_iff.2 ⟨o, ho, he⟩
  refine ⟨h.L, h.H, h.nx, by show (setS T.sl e _).length = _; rw [setS_length]; exact h.len, fun j hj d hd => ?_, fun t ht => ?_⟩
  · rw [slot_put]
    rcases Nat.lt_or_ge j i with hji | hji
    · have hne : d ≠ e := fun x => by rw [x, hdis j hji] at hd; cases hd
      rw [if_neg (fun x => hne x.1)]
      simp only [if_neg (show j ≠ i by omega)]
      exact h.old j hji d hd
    · have hje : j = i := by omega
      subst hje
      obtain ⟨o', ho', hd'⟩ := dstIs_iff.1 hd
      rw [ho] at ho'
      injection ho' with ho'
      subst ho'
      rw [he] at hd'
      injection hd' with hd'
      subst hd'
      rw [if_pos ⟨rfl, by rw [h.len, ← hlen]; exact hlt⟩, if_pos rfl]
  · rw [slot_put, if_neg, h.rest t ht]
    rintro ⟨rfl, _⟩
    rw [ht i hi] at hei
    cases hei

theorem absVal_trace {len : Nat} (ok : Ok all m len) (hlen : len = S.sl.length) {k : St → Option R} :
    ∀ (n i : Nat) (T : St) (V : Nat → AV), n + i = m → At all m S V i T → absVal P A an isRes cal all ((all.toList.take m).drop i) T k = some r →
      ∃ V' SF, (∀ j, j < i → V' j = V j) ∧ (∀ j, i ≤ j → j < m → Fact P A an isRes cal all m S V' j) ∧ At all m S V' m SF ∧ k SF = some r
  | 0, i, T, V, hi, hat, h => by
    have : (all.toList.take m).drop i = [] := List.drop_eq_nil_of_le (by rw [List.length_take]; omega)
    rw [this] at h
    obtain rfl : i = m := by omega
    exact ⟨V, T, fun _ _ => rfl, fun j h1 h2 => by omega, hat, h⟩
  | n + 1, i, T, V, hi, hat, h => by
    have hlt : i < m := by omega
    have hlt' : i < all.size := Nat.lt_of_lt_of_le hlt ok.le
    have ho : all[i]? = some all[i] := by rw [Array.getElem?_eq_getElem hlt']
    generalize all[i] = o at ho
    have e1 : (all.toList.take m).drop i = o :: (all.toList.take m).drop (i + 1) := by
      rw [List.drop_eq_getElem_cons (by rw [List.length_take, Array.length_toList]; omega)]
      have e0 : (all.toList.take m)[i]? = some o := by rw [List.getElem?_take, if_pos hlt, Array.getElem?_toList]; exact ho
      rw [List.getElem?_eq_getElem (by rw [List.length_take, Array.length_toList]; omega)] at e0
      injection e0 with e0
      rw [e0]
    rw [e1] at h
    have upd : ∀ (v : AV) (T1 : St), At all m S V i T1 → absVal P A an isRes cal all ((all.toList.take m).drop (i + 1)) (T1.put (o.dst.getD 0) (.val v .no)) k = some r → o.dst.isSome →
        (∀ V' : Nat → AV, (∀ j, j < i → V' j = V j) → V' i = v → Fact P A an isRes cal all m S V' i) →
        ∃ V' SF, (∀ j, j < i → V' j = V j) ∧ (∀ j, i ≤ j → j < m → Fact P A an isRes cal all m S V' j) ∧ At all m S V' m SF ∧ k SF = some r := by
      intro v T1 hat1 hk hsome hfact
      obtain ⟨e, he⟩ := Option.isSome_iff_exists.1 hsome
      rw [he] at hk
      simp only [Option.getD_some] at hk
      obtain ⟨V', SF, h1, h2, h3, h4⟩ := absVal_trace ok hlen n (i + 1) _ _ (by omega) (hat1.put ok hlen hlt ho he v) hk
      have hVi : V' i = v := by rw [h1 i (by omega), if_pos rfl]
      have hVj : ∀ j, j < i → V' j = V j := fun j hj => by rw [h1 j (by omega), if_neg (by omega)]
      refine ⟨V', SF, hVj, fun j hj hjm => ?_, h3, h4⟩
      rcases Nat.lt_or_ge i j with hij | hij
      · exact h2 j hij hjm
      · obtain rfl : j = i := by omega
        exact hfact V' hVj hVi
    obtain ⟨e, he, _, _, _, hguard⟩ := ok.dst i o hlt ho
    unfold absVal at h
    rw [he] at h
    simp only at h
    have he' : o.dst.getD 0 = e := by rw [he]; rfl
    cases hgd : o.guard with
    | none =>
      rw [hgd] at h
      simp only at h
      obtain ⟨v, hv, hk⟩ := bind_some' h
      exact upd v T hat (by rw [he']; exact hk) (by rw [he]; rfl) fun V' hV hVi => ⟨o, T, ho, hat.congr hV, .inl ⟨hgd, by rw [hVi]; exact hv⟩⟩
    | some jw =>
      obtain ⟨j, want⟩ := jw
      obtain ⟨hji, _⟩ := hguard j want hgd
      rw [hgd] at h
      simp only at h
      cases hd : dstOf all.toList j with
      | none => rw [hd] at h; cases h
      | some d =>
        rw [hd] at h
        simp only at h
        have hdj : dstIs all j d = true := by
          rw [dstOf_get] at hd
          obtain ⟨o', h1, h2⟩ := Option.bind_eq_some_iff.1 hd
          exact dstIs_iff.2 ⟨o', h1, h2⟩
        have hTd := hat.old j hji d hdj
        rcases guard?_some h with ⟨b, hb, h2⟩ | ⟨hb, h2⟩
        · rw [hTd] at hb
          have hVj : V j = .bool b := hb
          have hsame : At all m S V i (T.put d (.val (.bool b) .no)) := by
            refine ⟨hat.L, hat.H, hat.nx, by show (setS T.sl d _).length = _; rw [setS_length]; exact hat.len, fun j' hj' d' hd' => ?_, fun t ht => ?_⟩
            · rw [slot_put]
              split
              · rename_i hx
                have := hat.old j' hj' d' hd'
                rw [hx.1, hTd] at this
                injection this with e1 _
                rw [← e1, hVj]
              · exact hat.old j' hj' d' hd'
            · rw [slot_put, if_neg, hat.rest t ht]
              rintro ⟨rfl, _⟩
              rw [ht j (by omega)] at hdj
              cases hdj
          have fin : ∀ v, (b = want → vOp P A an isRes cal o (o.looksAt all) (T.put d (.val (.bool b) .no)) = some v) → (b ≠ want → v = .tuple []) →
              absVal P A an isRes cal all ((all.toList.take m).drop (i + 1)) ((T.put d (.val (.bool b) .no)).put e (.val v .no)) k = some r →
              ∃ V' SF, (∀ j, j < i → V' j = V j) ∧ (∀ j, i ≤ j → j < m → Fact P A an isRes cal all m S V' j) ∧ At all m S V' m SF ∧ k SF = some r := by
            intro v h3 h4 hk
            refine upd v _ hsame (by rw [he']; exact hk) (by rw [he]; rfl) fun V' hV hVi => ⟨o, _, ho, hsame.congr hV, .inr ⟨j, want, d, hgd, hji, hdj, .inl ⟨b, (hV j hji).trans hVj, ?_, ?_⟩⟩⟩
            · rw [hVi]; exact h3
            · rw [hVi]; exact h4
          rcases br_some h2 with ⟨rfl, h3⟩ | ⟨rfl, h3⟩
          · cases want with
            | true =>
              obtain ⟨v, hv, hk⟩ := bind_some' h3
              exact fin v (fun _ => hv) (fun h => absurd rfl h) hk
            | false => exact fin _ (fun h => by cases h) (fun _ => rfl) h3
          · cases want with
            | false =>
              obtain ⟨v, hv, hk⟩ := bind_some' h3
              exact fin v (fun _ => hv) (fun h => absurd rfl h) hk
            | true => exact fin _ (fun h => by cases h) (fun _ => rfl) h3
        · rw [hTd] at hb
          have hVj : V j = .tuple [] := hb
          exact upd _ T hat (by rw [he']; exact h2) (by rw [he]; rfl) fun V' hV hVi => ⟨o, T, ho, hat.congr hV, .inr ⟨j, want, d, hgd, hji, hdj, .inr ⟨(hV j hji).trans hVj, hVi⟩⟩⟩

/-- the values' slots say nothing -/
def undS (f : Nat → Bool) : Nat → List Slot → List Slot
  | _, [] => []
  | i, s :: l => (match f i with
    | true => .und
    | false => s) :: undS f (i + 1) l
theorem nthS_undS (f : Nat → Bool) : ∀ (l : List Slot) (i t : Nat), nthS (undS f i l) t = match f (i + t) with
    | true => .und
    | false => nthS l t
  | [], i, t => by cases h : f (i + t) <;> simp [undS, nthS]
  | s :: l, i, 0 => by simp [undS, nthS]
  | s :: l, i, t + 1 => by
    have := nthS_undS f l (i + 1) t
    rw [show i + 1 + t = i + (t + 1) by omega] at this
    simpa [undS, nthS] using this
theorem undS_length (f : Nat → Bool) : ∀ (l : List Slot) (i : Nat), (undS f i l).length = l.length
  | [], _ => rfl
  | _ :: l, i => by simp [undS, undS_length f l (i + 1)]

def base (all : Array Oper) (m : Nat) (S : St) : St := { S with sl := undS (fun t => (List.range m).any fun j => dstIs all j t) 0 S.sl }
theorem base_und {t j : Nat} (hj : j < m) (h : dstIs all j t = true) : (base all m S).slot t = .und := by
  have := nthS_undS (fun t => (List.range m).any fun j => dstIs all j t) S.sl 0 t
  rw [Nat.zero_add, show ((List.range m).any fun j => dstIs all j t) = true from List.any_eq_true.2 ⟨j, List.mem_range.2 hj, h⟩] at this
  exact this
theorem base_rest {t : Nat} (h : ∀ j, j < m → dstIs all j t = false) : (base all m S).slot t = S.slot t := by
  have := nthS_undS (fun t => (List.range m).any fun j => dstIs all j t) S.sl 0 t
  rw [Nat.zero_add, show ((List.range m).any fun j => dstIs all j t) = false from List.any_eq_false.2 fun j hj => by rw [h j (List.mem_range.1 hj)]; simp] at this
  exact this
theorem base_len : (base all m S).sl.length = S.sl.length := undS_length _ _ _

/-- the values that are there -/
def Inv2 (all : Array Oper) (m : Nat) (S : St) (V : Nat → AV) (g0 : G) (w0 : World) (Ex : Nat → Prop) (listed : Array Bool) (a : Act) (w : World) : Prop :=
  ∃ g, Rel g0 w0 Ex g (base all m S) a w ∧ ∀ j, j < m → listed.getD j true = true → ∀ d, dstIs all j d = true → Rep g w (a.tmps.getD d undef) (V j)

theorem lookAll_mem {o : Oper} {t : Nat} (ht : t ∈ o.looksAt all ∨ o.dst = some t) (l : List Oper) (ho : o ∈ l) : t ∈ lookAll all l := by
  induction l with
  | nil => cases ho
  | cons x l ih =>
    unfold lookAll
    rcases List.mem_cons.1 ho with h | h
    · subst h
      rcases ht with ht | ht
      · exact List.mem_append_left _ ht
      · rw [ht]; exact List.mem_append_right _ (List.mem_append_left _ (List.mem_singleton.2 rfl))
    · exact List.mem_append_right _ (List.mem_append_right _ (ih h))

theorem take_mem {i : Nat} (hi : i < m) (ho : all[i]? = some o) : o ∈ all.toList.take m := by
  have : (all.toList.take m)[i]? = some o := by rw [List.getElem?_take, if_pos hi, Array.getElem?_toList]; exact ho
  exact List.mem_of_getElem? this

theorem yield_tmp {d j : Nat} (hd : dstIs all j d = true) (a : Act) : (∀ b, a.tmps.getD d undef = .bool b → yielded all a.tmps j = some b) ∧ ((∀ b, a.tmps.getD d undef ≠ .bool b) → yielded all a.tmps j = none) := by
  obtain ⟨o, ho, hd'⟩ := dstIs_iff.1 hd
  have e : (all[j]?).bind (·.dst) = some d := by rw [ho]; exact hd'
  unfold yielded
  rw [e]
  simp only [Option.bind_some]
  rw [Array.getD_eq_getD_getElem?]
  cases ht : a.tmps[d]? with
  | none => exact ⟨fun b hb => (by cases hb), fun _ => rfl⟩
  | some u =>
    simp only [Option.getD_some]
    refine ⟨fun b hb => by subst hb; rfl, fun hn => ?_⟩
    cases u <;> first | rfl | exact absurd rfl (hn _)

/-- one value, whatever else is there -/
theorem val_step {len : Nat} (ok : Ok all m len) (hlen : len = S.sl.length) {V : Nat → AV} {SF : St} (hN : ∀ (f : Nat) (fn : Func), P.funcs[f]? = some fn → fn.name ≠ "runtime.NumGoroutine") (hcal : CalOk P A cal)
    (hfact : ∀ j, j < m → Fact P A an isRes cal all m S V j) (hSF : At all m S V m SF) (hp : pureL ((lookAll all (all.toList.take m)).map fun t => (SF.slot t).av) = true)
    {listed : Array Bool} (_hls : listed.size = all.size) {i : Nat} (hi : i < m) (hr : i ∈ Region.ready .any all listed) (hinv : Inv2 all m S V g0 w0 Ex listed a w) (Q : Exit → Act → World → Prop) (K : Act → World → Prop)
    (hK : ∀ a' w', Inv2 all m S V g0 w0 Ex (listed.setIfInBounds i true) a' w' → K a' w') : wpOp P all Q i K a w := by
  obtain ⟨o, T, ho, hat, hcase⟩ := hfact i hi
  obtain ⟨d, hd, hdlt, hdis, hlook, hgu⟩ := ok.dst i o hi ho
  obtain ⟨hun, o', ho', hall⟩ := mem_ready.1 hr
  rw [ho] at ho'
  injection ho' with ho'
  subst ho'
  have hid : dstIs all i d = true := dstIs_iff.2 ⟨o, ho, hd⟩
  have hlisted : ∀ j, bindsOn o j = true → listed.getD j true = true := by
    intro j hj
    unfold bindsOn at hj
    obtain ⟨e, he, h2⟩ := List.any_eq_true.1 hj
    rw [Bool.and_eq_true] at h2
    have h3 := hall e (Array.mem_toList_iff.1 he) h2.1
    rw [Nat.eq_of_beq_eq_true h2.2] at h3
    rcases Nat.lt_or_ge j listed.size with h' | h'
    · simp [h'] at h3 ⊢; exact h3
    · simp [Array.getElem?_eq_none h'] at h3
  have hpureSlot : ∀ t, (t ∈ o.looksAt all ∨ o.dst = some t) → (SF.slot t).av.pure = true := by
    intro t ht
    have hm : (SF.slot t).av ∈ (lookAll all (all.toList.take m)).map fun t => (SF.slot t).av := List.mem_map.2 ⟨t, lookAll_mem ht _ (take_mem hi ho), rfl⟩
    obtain ⟨n, hn⟩ := List.getElem?_of_mem hm
    exact pureL_get hp n _ hn
  have hpV : (V i).pure = true := by
    have := hpureSlot d (.inr hd)
    rw [hSF.old i hi d hid] at this
    exact this
  obtain ⟨g, hg, hreps⟩ := hinv
  have hbd : (base all m S).slot d = .und := base_und hi hid
  have done : ∀ {g' : G} {u : Value} {w' : World}, Rel g0 w0 Ex g' (base all m S) (a.put o.dst u) w' → Ext g w g' w' → Rep g' w' u (V i) → K (a.put o.dst u) w' := by
    intro g' u w' h1 h2 h3
    refine hK _ _ ⟨g', h1, fun j hj hl d' hd' => ?_⟩
    rw [hd, getD_put]
    rcases Classical.em (j = i) with rfl | hne
    · obtain ⟨o2, ho2, hd2⟩ := dstIs_iff.1 hd'
      rw [ho] at ho2
      injection ho2 with ho2
      subst ho2
      rw [hd] at hd2
      injection hd2 with hd2
      subst hd2
      rw [if_pos ⟨rfl, by rw [← hg.len, base_len, ← hlen]; exact hdlt⟩]
      exact h3
    · have hl' : listed.getD j true = true := by
        rw [getD_set_ne true (fun h => hne h.symm)] at hl
        exact hl
      have hdd : d' ≠ d := by
        rintro rfl
        rcases Nat.lt_or_ge j i with h | h
        · rw [hdis j h] at hd'; cases hd'
        · have hjs : j < all.size := Nat.lt_of_lt_of_le hj ok.le
          obtain ⟨oj, hoj, hdj⟩ := dstIs_iff.1 hd'
          obtain ⟨dj, hdj2, _, hdisj, _, _⟩ := ok.dst j oj hj hoj
          rw [hdj] at hdj2
          injection hdj2 with hdj2
          subst hdj2
          rw [hdisj i (by omega)] at hid
          cases hid
      rw [if_neg (fun h => hdd h.1)]
      exact (hreps j hj hl' d' hd').ext h2
  have hvop : vOp P A an isRes cal o (o.looksAt all) T = some (V i) → o.wp P a w K Q := by
    intro hv
    refine vOp_ok hN hcal hv hpV (S := base all m S) (by rw [base_len]; exact hat.len) (fun t ht => ?_) hd hbd (by rw [base_len, ← hlen]; exact hdlt) hg Q K (fun g' u w' => done)
    rcases Classical.em (∃ j, j < m ∧ dstIs all j t = true) with ⟨j, hj, hjt⟩ | hno
    · obtain ⟨hji, hb⟩ := hlook t ht j hj hjt
      refine .inl ⟨V j, .no, hat.old j hji t hjt, ?_, hreps j hj (hlisted j hb) t hjt⟩
      have := hpureSlot t (.inl ht)
      rw [hSF.old j hj t hjt] at this
      exact this
    · have hall' : ∀ j, j < m → dstIs all j t = false := fun j hj => by
        cases h : dstIs all j t with
        | false => rfl
        | true => exact absurd ⟨j, hj, h⟩ hno
      rw [hat.rest t hall']
      cases hs : S.slot t with
      | und => exact .inr (by simp)
      | lp e off => exact .inr (by simp)
      | val x f =>
        refine .inl ⟨x, f, rfl, ?_, ?_⟩
        · have := hpureSlot t (.inl ht)
          rw [hSF.rest t hall', hs] at this
          exact this
        · have := hg.sl t
          rw [base_rest hall', hs] at this
          exact this.1
  have hskip : V i = .tuple [] → K (a.put o.dst undef) w := by
    intro hv
    refine done (g' := g) (by rw [hd]; exact hg.put_und hbd _) (Ext.refl _ _) ?_
    rw [hv]
    exact .tuple [] [] rfl (by simp)
  unfold wpOp
  rw [ho]
  simp only
  rcases hcase with ⟨hgd, hv⟩ | ⟨j, want, dj, hgd, hji, hdj, hcase⟩
  · rw [if_pos (by simp [Region.wanted, hgd])]
    exact .inl (hvop hv)
  · obtain ⟨_, hb⟩ := hgu j want hgd
    have hrep := hreps j (by omega) (hlisted j hb) dj hdj
    obtain ⟨hy1, hy2⟩ := yield_tmp hdj a
    rcases hcase with ⟨b, hVj, h1, h2⟩ | ⟨hVj, h2⟩
    · rw [hVj] at hrep
      have hyb := hy1 b (rep_bool hrep)
      rcases Classical.em (b = want) with h | h
      · rw [if_pos (by simp [Region.wanted, hgd, hyb, h])]
        exact .inl (hvop (h1 h))
      · rw [if_neg (by simp [Region.wanted, hgd, hyb, h])]
        exact hskip (h2 h)
    · rw [hVj] at hrep
      obtain ⟨us, hvt, _⟩ := rep_tuple hrep
      have hyn := hy2 (fun b => by rw [hvt]; simp)
      rw [if_neg (by simp [Region.wanted, hgd, hyn])]
      exact hskip h2

end
end Go.Vai
