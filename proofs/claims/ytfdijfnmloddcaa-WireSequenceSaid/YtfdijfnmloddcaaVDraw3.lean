/- Regions whose order is drawn, third part: the whole region. -/
import Derived.Test.YtfdijfnmloddcaaVDraw2
namespace Go.Vai

section
variable {g0 : G} {w0 : World} {Ex : Nat → Prop} {g g' : G} {S : St} {a : Act} {w w' : World} {P : Program} {R : Type} {r : R} {o : Oper} {A : List (Nat × Ann)} {cal : Oracle} {an : Ann} {isRes : Nat → Bool} {all : Array Oper} {m : Nat}

theorem getD_both {listed : Array Bool} {i : Nat} (h : i < listed.size) (b c : Bool) : listed.getD i b = listed.getD i c := by simp [h]

theorem binds_get {listed : Array Bool} {j : Nat} (hb : bindsOn o j = true) (hall : ∀ e ∈ o.after, Region.binds .any e = true → listed.getD e.on false = true) : listed.getD j false = true := by
  unfold bindsOn at hb
  obtain ⟨e, he, h2⟩ := List.any_eq_true.1 hb
  rw [Bool.and_eq_true] at h2
  have h3 := hall e (Array.mem_toList_iff.1 he) h2.1
  rwa [Nat.eq_of_beq_eq_true h2.2] at h3

/-- the last operations, each behind all before it -/
theorem seq_ok {len : Nat} (ok : Ok all m len) {k : St → Option R} (hN : ∀ (f : Nat) (fn : Func), P.funcs[f]? = some fn → fn.name ≠ "runtime.NumGoroutine") (hcal : CalOk P A cal) (Q : Exit → Act → World → Prop)
    (hQ : ∀ S' a' w', Good g0 w0 Ex S' a' w' → k S' = some r → Q .normal a' w') :
    ∀ (fuel i : Nat) (T : St) (listed : Array Bool) (a : Act) (w : World), all.size ≤ fuel + i → m ≤ i → i ≤ all.size → listed.size = all.size → (∀ j, j < i → listed.getD j false = true) → (∀ j, i ≤ j → j < all.size → listed.getD j true = false) →
      absOps P A an isRes cal all.toList (all.toList.drop i) T k = some r → Good g0 w0 Ex T a w → wpAny P .any all Q fuel listed a w := by
  intro fuel
  have full : ∀ (i : Nat) (T : St) (listed : Array Bool) (a : Act) (w : World), i = all.size → listed.size = all.size → (∀ j, j < i → listed.getD j false = true) →
      absOps P A an isRes cal all.toList (all.toList.drop i) T k = some r → Good g0 w0 Ex T a w → ∀ fuel, wpAny P .any all Q fuel listed a w := by
    intro i T listed a w hi hls h1 h hg fuel
    subst hi
    have e1 : all.toList.drop all.size = [] := List.drop_eq_nil_of_le (by rw [Array.length_toList]; exact Nat.le_refl _)
    rw [e1] at h
    refine wpAny_done ?_ (hQ T a w hg h) fuel
    cases hr : Region.ready .any all listed with
    | nil => rfl
    | cons x l =>
      have : x ∈ Region.ready .any all listed := by rw [hr]; exact List.mem_cons_self
      obtain ⟨h2, o, ho, _⟩ := mem_ready.1 this
      have hx : x < all.size := (Array.getElem?_eq_some_iff.1 ho).1
      rw [getD_both (by omega) true false, h1 x hx] at h2
      cases h2
  induction fuel with
  | zero =>
    intro i T listed a w hf hm hi hls h1 h2 h hg
    exact full i T listed a w (by omega) hls h1 h hg 0
  | succ fuel ih =>
    intro i T listed a w hf hm hi hls h1 h2 h hg
    rcases Nat.lt_or_ge i all.size with hlt | hge
    · have ho : all[i]? = some all[i] := by rw [Array.getElem?_eq_getElem hlt]
      have e1 : all.toList.drop i = all[i] :: all.toList.drop (i + 1) := by
        rw [List.drop_eq_getElem_cons (by rw [Array.length_toList]; exact hlt)]; simp
      rw [e1, absOps_cons] at h
      have hmem : i ∈ Region.ready .any all listed := mem_ready.2 ⟨h2 i (Nat.le_refl _) hlt, _, ho, fun e he _ => h1 _ (ok.back i _ ho e he)⟩
      refine ⟨fun h0 => (by rw [h0] at hmem; cases hmem), fun x hx => ?_⟩
      obtain ⟨hun, ox, hox, hall⟩ := mem_ready.1 hx
      have hxs : x < all.size := (Array.getElem?_eq_some_iff.1 hox).1
      have hxi : x = i := by
        rcases Nat.lt_trichotomy x i with hh | hh | hh
        · rw [getD_both (by omega) true false, h1 x hh] at hun; cases hun
        · exact hh
        · have := binds_get (ok.tail x ox (by omega) hox i hh) hall
          rw [getD_both (by omega) false true, h2 i (Nat.le_refl _) hlt] at this
          cases this
      subst hxi
      obtain ⟨g, hg⟩ := hg
      refine guarded_ok hN hcal ho h hg Q _ fun S' a' w' hgd hk => ih (x + 1) S' _ a' w' (by omega) (by omega) (by omega) (by simpa using hls) (fun j hj => ?_) (fun j hj hjs => ?_) hk hgd
      · rcases Nat.lt_or_ge j x with hjx | hjx
        · exact getD_set_true (h1 j hjx)
        · obtain rfl : j = x := by omega
          simp [hls, hlt]
      · rw [getD_set_ne true (by omega)]
        exact h2 j (by omega) hjs
    · exact full i T listed a w (by omega) hls h1 h hg _

theorem count_set {l : List Bool} {i : Nat} (h : l[i]? = some false) : (l.set i true).count false + 1 = l.count false := by
  induction l generalizing i with
  | nil => simp at h
  | cons x l ih =>
    cases i with
    | zero => simp at h; subst h; simp
    | succ i =>
      simp only [List.set_cons_succ, List.count_cons]
      have := ih (i := i) (by simpa using h)
      omega

theorem first_un {listed : Array Bool} : ∀ (n : Nat), (∀ j, j < n → listed.getD j false = true) ∨ ∃ j, j < n ∧ listed.getD j false = false ∧ ∀ i, i < j → listed.getD i false = true
  | 0 => .inl fun j hj => by omega
  | n + 1 => by
    rcases first_un (listed := listed) n with h | ⟨j, h1, h2, h3⟩
    · cases hb : listed.getD n false with
      | true =>
        refine .inl fun j hj => ?_
        rcases Nat.lt_or_ge j n with hh | hh
        · exact h j hh
        · obtain rfl : j = n := by omega
          exact hb
      | false => exact .inr ⟨n, by omega, hb, h⟩
    · exact .inr ⟨j, by omega, h2, h3⟩

/-- every order -/
theorem any_ok {len : Nat} (ok : Ok all m len) (hlen : len = S.sl.length) {V : Nat → AV} {SF : St} {k : St → Option R} (hN : ∀ (f : Nat) (fn : Func), P.funcs[f]? = some fn → fn.name ≠ "runtime.NumGoroutine") (hcal : CalOk P A cal) (Q : Exit → Act → World → Prop)
    (hQ : ∀ S' a' w', Good g0 w0 Ex S' a' w' → k S' = some r → Q .normal a' w')
    (hfact : ∀ j, j < m → Fact P A an isRes cal all m S V j) (hSF : At all m S V m SF) (hp : pureL ((lookAll all (all.toList.take m)).map fun t => (SF.slot t).av) = true)
    (hk : absOps P A an isRes cal all.toList (all.toList.drop m) SF k = some r) :
    ∀ (fuel : Nat) (listed : Array Bool) (a : Act) (w : World), listed.size = all.size → listed.toList.count false ≤ fuel → (∀ j, m ≤ j → j < all.size → listed.getD j true = false) → Inv2 all m S V g0 w0 Ex listed a w → wpAny P .any all Q fuel listed a w := by
  intro fuel
  have full : ∀ (listed : Array Bool) (a : Act) (w : World) (fuel : Nat), listed.size = all.size → listed.toList.count false ≤ fuel → (∀ j, m ≤ j → j < all.size → listed.getD j true = false) → (∀ j, j < m → listed.getD j false = true) → Inv2 all m S V g0 w0 Ex listed a w → wpAny P .any all Q fuel listed a w := by
    intro listed a w fuel hls hc h2 h1 hinv
    obtain ⟨g, hg, hreps⟩ := hinv
    have hgSF : Rel g0 w0 Ex g SF a w := by
      refine hg.reslot hSF.L hSF.H hSF.nx (by rw [base_len]; exact hSF.len) fun t => ?_
      rcases Classical.em (∃ j, j < m ∧ dstIs all j t = true) with ⟨j, hj, hjt⟩ | hno
      · exact .inr (.inr ⟨V j, hSF.old j hj t hjt, hreps j hj (by rw [getD_both (by have := ok.le; omega) true false]; exact h1 j hj) t hjt⟩)
      · have hall' : ∀ j, j < m → dstIs all j t = false := fun j hj => by
          cases h : dstIs all j t with
          | false => rfl
          | true => exact absurd ⟨j, hj, h⟩ hno
        exact .inl (by rw [hSF.rest t hall', base_rest hall'])
    have hcnt : all.size ≤ fuel + m := by
      have : ∀ (n : Nat) (l : List Bool), (∀ j, n ≤ j → j < l.length → l[j]? = some false) → l.length ≤ l.count false + n := by
        intro n
        induction n with
        | zero =>
          intro l hl
          have : l.count false = l.length := List.count_eq_length.2 fun b hb => by
            obtain ⟨j, hj⟩ := List.getElem?_of_mem hb
            have h5 := hl j (Nat.zero_le _) (List.getElem?_eq_some_iff.1 hj).1
            rw [hj] at h5
            injection h5 with h5
            exact h5.symm
          omega
        | succ n ih =>
          intro l hl
          cases l with
          | nil => simp
          | cons x l =>
            have := ih l (fun j hj hjl => by
              have := hl (j + 1) (by omega) (by simpa using hjl)
              simpa using this)
            simp only [List.length_cons, List.count_cons]
            omega
      have := this m listed.toList (fun j hj hjl => by
        rw [Array.length_toList] at hjl
        have h5 := h2 j hj (by omega)
        rw [Array.getElem?_toList]
        rw [Array.getD_eq_getD_getElem?, Array.getElem?_eq_getElem hjl] at h5
        rw [Array.getElem?_eq_getElem hjl]
        simpa using h5)
      rw [Array.length_toList] at this
      omega
    exact seq_ok ok hN hcal Q hQ fuel m SF listed a w hcnt (Nat.le_refl _) ok.le hls h1 h2 hk ⟨g, hgSF⟩
  induction fuel with
  | zero =>
    intro listed a w hls hc h2 hinv
    refine full listed a w 0 hls hc h2 (fun j hj => ?_) hinv
    have hjs : j < listed.size := by have := ok.le; omega
    cases hb : listed.getD j false with
    | true => rfl
    | false =>
      have : listed.toList.count false = 0 := by omega
      rw [List.count_eq_zero] at this
      refine absurd ?_ this
      rw [Array.getD_eq_getD_getElem?, Array.getElem?_eq_getElem hjs, Option.getD_some] at hb
      rw [← hb]
      exact Array.getElem_mem_toList hjs
  | succ fuel ih =>
    intro listed a w hls hc h2 hinv
    rcases first_un (listed := listed) m with h | ⟨j, hj, hun, hbef⟩
    · exact full listed a w _ hls hc h2 h hinv
    · have hle := ok.le
      have hjs : j < all.size := by omega
      have ho : all[j]? = some all[j] := by rw [Array.getElem?_eq_getElem hjs]
      have hmem : j ∈ Region.ready .any all listed := mem_ready.2 ⟨by rw [getD_both (by omega) true false]; exact hun, _, ho, fun e he _ => hbef _ (ok.back j _ ho e he)⟩
      refine ⟨fun h0 => (by rw [h0] at hmem; cases hmem), fun x hx => ?_⟩
      obtain ⟨hunx, ox, hox, hall⟩ := mem_ready.1 hx
      have hxs : x < all.size := (Array.getElem?_eq_some_iff.1 hox).1
      have hxm : x < m := by
        rcases Nat.lt_or_ge x m with hh | hh
        · exact hh
        · have := binds_get (ok.tail x ox hh hox j (by omega)) hall
          rw [hun] at this
          cases this
      refine val_step ok hlen hN hcal hfact hSF hp hls hxm hx hinv Q _ fun a' w' hinv' => ih _ a' w' (by simpa using hls) ?_ (fun j' hj' hjs' => ?_) hinv'
      · have hx' : listed.toList[x]? = some false := by
          rw [Array.getElem?_toList]
          rw [Array.getD_eq_getD_getElem?, Array.getElem?_eq_getElem (by omega)] at hunx
          rw [Array.getElem?_eq_getElem (by omega)]
          simpa using hunx
        have := count_set hx'
        rw [Array.toList_setIfInBounds]
        omega
      · rw [getD_set_ne true (by omega)]
        exact h2 j' hj' hjs'

theorem draw_ok {k : St → Option R} (hN : ∀ (f : Nat) (fn : Func), P.funcs[f]? = some fn → fn.name ≠ "runtime.NumGoroutine") (hcal : CalOk P A cal) (Q : Exit → Act → World → Prop)
    (hQ : ∀ S' a' w', Good g0 w0 Ex S' a' w' → k S' = some r → Q .normal a' w')
    (h : absDraw P A an isRes cal all m S k = some r) (hg : Good g0 w0 Ex S a w) : wpAny P .any all Q all.size (Array.replicate all.size false) a w := by
  unfold absDraw at h
  obtain ⟨h1, h2⟩ := br_left h
  have ok := drawOk_ok h1
  obtain ⟨V, SF, _, hfact, hSF, hk⟩ := absVal_trace ok rfl m 0 S (fun _ => .undef) (by omega) ⟨rfl, rfl, rfl, rfl, fun j hj => by omega, fun _ _ => rfl⟩ (by rw [List.drop_zero]; exact h2)
  obtain ⟨hp, hk⟩ := br_left hk
  obtain ⟨g, hg⟩ := hg
  refine any_ok ok rfl hN hcal Q hQ (fun j hj => hfact j (Nat.zero_le _) hj) hSF hp hk all.size _ a w (by simp) ?_ (fun j _ hj => by simp [hj]) ⟨g, ?_, fun j hj hl => ?_⟩
  · rw [Array.toList_replicate]
    simp
  · refine hg.reslot rfl rfl rfl base_len fun t => ?_
    rcases Classical.em (∃ j, j < m ∧ dstIs all j t = true) with ⟨j, hj, hjt⟩ | hno
    · exact .inr (.inl (base_und hj hjt))
    · exact .inl (base_rest fun j hj => by
        cases h : dstIs all j t with
        | false => rfl
        | true => exact absurd ⟨j, hj, h⟩ hno)
  · have : j < all.size := Nat.lt_of_lt_of_le hj ok.le
    simp [this] at hl

end
end Go.Vai
