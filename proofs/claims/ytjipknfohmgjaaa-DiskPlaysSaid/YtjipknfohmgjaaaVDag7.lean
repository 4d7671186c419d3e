/- Two steps that no edge orders may be exchanged. -/
import Derived.Test.YtjipknfohmgjaaaVDag6
namespace Go.Vai

section
variable {eb ebj ebi : Bool} {P : Program} {A : List (Nat × Ann)} {an : Ann} {isRes : Nat → Bool} {cal : Oracle} {S S' T T' : St} {d e : Nat} {R : Type} {r : R}

theorem st_ext {S S' : St} (hL : S'.L = S.L) (hH : S'.H = S.H) (hM : S'.M = S.M) (hnx : S'.nx = S.nx) (hlen : S'.sl.length = S.sl.length) (h : ∀ t, S'.slot t = S.slot t) : S' = S := by
  obtain ⟨sl, L, H, nx, M⟩ := S
  obtain ⟨sl', L', H', nx', M'⟩ := S'
  simp only at hL hH hM hnx hlen
  have : sl' = sl := nthS_ext hlen h
  subst this hL hH hM hnx
  rfl

abbrev Step := St → ∀ R : Type, (St → Option R) → Option R

/-- a step that gives a value -/
def IsV (F : Step) (fx fh : Bool) (dst : Option Nat) (lk : List Nat) : Prop := ∀ S S', Sim fx fh S S' lk → TwoF fx (F S) (F S') dst S S'
/-- a step that changes the state -/
def IsC (F : Step) (d : Nat) (dst : Option Nat) : Prop := ∀ S S', Off d S S' → TwoC d (F S) (F S') dst S S'

theorem Sim.refl (fx fh : Bool) (S : St) (l : List Nat) : Sim fx fh S S l := ⟨⟨fun _ _ => rfl, fun _ _ _ _ _ => rfl, rfl⟩, fun _ => .of rfl, fun _ => ⟨fun _ _ => rfl, rfl, rfl⟩⟩
theorem putd_len (S : St) (d : Option Nat) (s : Slot) : (S.putd d s).sl.length = S.sl.length := by
  cases d with
  | none => rfl
  | some d => show (setS S.sl d s).length = _; rw [setS_length]
theorem Sim.putd {fx fh : Bool} {l : List Nat} {dst : Option Nat} (S : St) (s : Slot) (h : ∀ q, dst = some q → q ∉ l) : Sim fx fh S (S.putd dst s) l := by
  have e : ∀ t ∈ l, (S.putd dst s).slot t = S.slot t := fun t ht => slot_putd_ne S s fun hq => h t hq ht
  have eL : (S.putd dst s).L = S.L := by cases dst <;> rfl
  have eH : (S.putd dst s).H = S.H := by cases dst <;> rfl
  exact ⟨⟨fun t ht => by rw [e t ht], fun _ _ q _ _ => by rw [eL], putd_len _ _ _⟩, fun _ => .of eH, fun _ => ⟨e, eL, eH⟩⟩
theorem Sim.putd' {fx fh : Bool} {l : List Nat} {dst : Option Nat} (S : St) (s : Slot) (h : ∀ q, dst = some q → q ∉ l) : Sim fx fh (S.putd dst s) S l := by
  have e : ∀ t ∈ l, S.slot t = (S.putd dst s).slot t := fun t ht => (slot_putd_ne S s fun hq => h t hq ht).symm
  have eL : S.L = (S.putd dst s).L := by cases dst <;> rfl
  have eH : S.H = (S.putd dst s).H := by cases dst <;> rfl
  exact ⟨⟨fun t ht => by rw [← e t ht], fun _ _ q _ _ => by rw [← eL], (putd_len _ _ _).symm⟩, fun _ => .of eH, fun _ => ⟨e, eL, eH⟩⟩

theorem exVV {F G : Step} {f g fh gh : Bool} {dF dG : Option Nat} {lF lG : List Nat} (hF : IsV F f fh dF lF) (hG : IsV G g gh dG lG) (h1 : ∀ q, dF = some q → q ∉ lG) (h2 : ∀ q, dF = some q → dG ≠ some q) (h3 : ∀ q, dG = some q → q ∉ lF)
    {K : St → Option R} (h : F T R (fun X => G X R K) = some r) : G T R (fun X => F X R K) = some r := by
  rcases hF T T (.refl f fh T lF) with hn | ⟨s, e1, _, _⟩
  · rw [hn] at h; cases h
  · rw [e1] at h
    rcases hG (T.putd dF s) T (.putd' T s h1) with hn | ⟨u, e2, e3, _⟩
    · rw [hn] at h; cases h
    · rw [e2] at h
      rw [e3]
      rcases hF T (T.putd dG u) (.putd T u h3) with hn | ⟨s', e4, e5, _⟩
      · have := hn St some
        rw [e1] at this
        cases this
      · rw [e5]
        have : T.putd dF s = T.putd dF s' := by
          have h4 := e1 St some
          rw [e4 St some] at h4
          injection h4 with h4
          exact h4.symm
        rw [← putd_comm T s' u h2, ← this]
        exact h

theorem exVC {F G : Step} {d : Nat} {fh : Bool} {dG : Option Nat} {lF : List Nat} (hF : IsV F false fh (some d) lF) (hG : IsC G d dG) (hm : fh = true → ∀ S T, (∀ R k, G S R k = k T) → SameH S T) (h3 : ∀ q, dG = some q → q ∉ lF)
    {K : St → Option R} (h : F T R (fun X => G X R K) = some r) : G T R (fun X => F X R K) = some r := by
  rcases hF T T (.refl false fh T lF) with hn | ⟨s, e1, _, _⟩
  · rw [hn] at h; cases h
  · rw [e1] at h
    have hoff : Off d (T.putd (some d) s) T := ⟨rfl, rfl, rfl, rfl, (putd_len _ _ _).symm, fun t ht => (slot_put_ne T s ht).symm⟩
    rcases hG _ _ hoff with hn | ⟨X, X', e2, e3, fr⟩
    · rw [hn] at h; cases h
    · rw [e2] at h
      rw [e3]
      have hsame : Sim false fh T X' lF := ⟨⟨fun t ht => fr.pres2 t fun hq => h3 t hq ht, fun _ _ q _ _ => fr.L2 q, by rw [fr.off.len, fr.len1, putd_len]⟩, fun hh => hm hh _ _ e3, fun hh => by cases hh⟩
      rcases hF T X' hsame with hn | ⟨s', e4, e5, hb⟩
      · have := hn St some
        rw [e1] at this
        cases this
      · rw [e5]
        have hput : T.putd (some d) s = T.putd (some d) s' := by
          have h4 := e1 St some
          rw [e4 St some] at h4
          injection h4 with h4
          exact h4.symm
        have : X'.putd (some d) s' = X := by
          refine st_ext (S := X) (S' := X'.putd (some d) s') fr.off.L fr.off.H fr.off.M fr.off.nx (by rw [putd_len]; exact fr.off.len) fun t => ?_
          show (X'.put d s').slot t = X.slot t
          rw [slot_put]
          split
          · rename_i hh
            obtain ⟨rfl, hlt⟩ := hh
            have hlt' : t < T.sl.length := by rw [fr.off.len, fr.len1, putd_len] at hlt; exact hlt
            have hs : (T.putd (some t) s).slot t = s' := by
              rw [hput]
              show (T.put t s').slot t = s'
              rw [slot_put, if_pos ⟨rfl, hlt'⟩]
            rw [fr.at1 (by rw [hs]; exact hb rfl), hs]
          · rename_i hh
            by_cases ht : t = d
            · subst ht
              have hge : ¬ t < X'.sl.length := fun hl => hh ⟨rfl, hl⟩
              have hz : ∀ (Y : St), ¬ t < Y.sl.length → Y.slot t = .und := fun Y hY => by
                cases hy : Y.slot t with
                | und => rfl
                | _ => exact absurd (nthS_lt (by show Y.slot t ≠ _; rw [hy]; simp)) hY
              rw [hz X' hge, hz X (by rw [← fr.off.len]; exact hge)]
            · exact fr.off.sl t ht
        rw [this]
        exact h

theorem exCV {F G : Step} {d : Nat} {fh : Bool} {dG : Option Nat} {lF : List Nat} (hF : IsV F false fh (some d) lF) (hG : IsC G d dG) (hm : fh = true → ∀ S T, (∀ R k, G S R k = k T) → SameH S T) (h3 : ∀ q, dG = some q → q ∉ lF)
    {K : St → Option R} (h : G T R (fun X => F X R K) = some r) : F T R (fun X => G X R K) = some r := by
  rcases hG T T ⟨rfl, rfl, rfl, rfl, rfl, fun _ _ => rfl⟩ with hn | ⟨X, _, e1, _, fr⟩
  · rw [hn] at h; cases h
  · rw [e1] at h
    have hsame : Sim false fh X T lF := ⟨⟨fun t ht => (fr.pres t fun hq => h3 t hq ht).symm, fun _ _ q _ _ => (fr.L1 q).symm, fr.len1.symm⟩, fun hh => (hm hh _ _ e1).symm, fun hh => by cases hh⟩
    rcases hF X T hsame with hn | ⟨u, e2, e3, hb⟩
    · rw [hn] at h; cases h
    · rw [e2] at h
      rw [e3]
      have hoff : Off d T (T.putd (some d) u) := ⟨rfl, rfl, rfl, rfl, putd_len _ _ _, fun t ht => slot_put_ne T u ht⟩
      rcases hG _ _ hoff with hn | ⟨Y, Y', e4, e5, fr2⟩
      · have := hn St some
        rw [e1] at this
        cases this
      · rw [e5]
        have hXY : X = Y := by
          have h4 := e1 St some
          rw [e4 St some] at h4
          injection h4 with h4
          exact h4.symm
        subst hXY
        have : Y' = X.putd (some d) u := by
          refine st_ext (S := X.putd (some d) u) (S' := Y') fr2.off.L fr2.off.H fr2.off.M fr2.off.nx (by rw [putd_len]; exact fr2.off.len) fun t => ?_
          show Y'.slot t = (X.put d u).slot t
          rw [slot_put]
          split
          · rename_i hh
            obtain ⟨rfl, hlt⟩ := hh
            have hlt' : t < T.sl.length := by rw [← fr.len1]; exact hlt
            have hs : (T.putd (some t) u).slot t = u := by
              show (T.put t u).slot t = u
              rw [slot_put, if_pos ⟨rfl, hlt'⟩]
            rw [fr2.at2 (by rw [hs]; exact hb rfl), hs]
          · rename_i hh
            by_cases ht : t = d
            · subst ht
              have hge : ¬ t < X.sl.length := fun hl => hh ⟨rfl, hl⟩
              have hz : ∀ (Y : St), ¬ t < Y.sl.length → Y.slot t = .und := fun Y hY => by
                cases hy : Y.slot t with
                | und => rfl
                | _ => exact absurd (nthS_lt (by show Y.slot t ≠ _; rw [hy]; simp)) hY
              rw [hz X hge, hz Y' (by rw [fr2.off.len]; exact hge)]
            · exact fr2.off.sl t ht
        rw [this]
        exact h

/-- a store, a new variable -/
def IsW (F : Step) (hz : Bool) (wb : List Nat) (d : Nat) (dst : Option Nat) : Prop := ∀ S S', Off d S S' → TwoW hz wb d (F S) (F S') dst S S'
/-- a step that looks at none of these boxes, and hands none on -/
def NoW (F : Step) (wb : List Nat) (d : Nat) (lk : List Nat) : Prop := ∀ S T, (∀ R k, F S R k = k T) → (∀ t ∈ lk, NoB wb (S.slot t)) ∧ NoB wb (T.slot d)

theorem exVW {F G : Step} {d : Nat} {fh hz : Bool} {wb : List Nat} {dG : Option Nat} {lF : List Nat} (hF : IsV F false fh (some d) lF) (hB : NoW F wb d lF) (hG : IsW G hz wb d dG) (hm : fh = true → hz = false) (h3 : ∀ q, dG = some q → q ∉ lF)
    {K : St → Option R} (h : F T R (fun X => G X R K) = some r) : G T R (fun X => F X R K) = some r := by
  rcases hF T T (.refl false fh T lF) with hn | ⟨s, e1, _, hs0⟩
  · rw [hn] at h; cases h
  · rw [e1] at h
    obtain ⟨b1, b2⟩ := hB T _ e1
    have hoff : Off d (T.putd (some d) s) T := ⟨rfl, rfl, rfl, rfl, (putd_len _ _ _).symm, fun t ht => (slot_put_ne T s ht).symm⟩
    rcases hG _ _ hoff with hn | ⟨X, X', e2, e3, fr⟩
    · rw [hn] at h; cases h
    · rw [e2] at h
      rw [e3]
      have hsame : Sim false fh T X' lF := ⟨⟨fun t ht => fr.pres2 t (fun hq => h3 t hq ht) (b1 t ht), fun t ht q off hq => fr.L2 q (b1 t ht q off (.inl hq)), by rw [fr.off.len, fr.len1, putd_len]⟩, fun hh => .of (fr.H2 (hm hh)), fun hh => by cases hh⟩
      rcases hF T X' hsame with hn | ⟨s', e4, e5, hb⟩
      · have := hn St some
        rw [e1] at this
        cases this
      · rw [e5]
        have hput : T.putd (some d) s = T.putd (some d) s' := by
          have h4 := e1 St some
          rw [e4 St some] at h4
          injection h4 with h4
          exact h4.symm
        have : X'.putd (some d) s' = X := by
          refine st_ext (S := X) (S' := X'.putd (some d) s') fr.off.L fr.off.H fr.off.M fr.off.nx (by rw [putd_len]; exact fr.off.len) fun t => ?_
          show (X'.put d s').slot t = X.slot t
          rw [slot_put]
          split
          · rename_i hh
            obtain ⟨rfl, hlt⟩ := hh
            have hlt' : t < T.sl.length := by rw [fr.off.len, fr.len1, putd_len] at hlt; exact hlt
            have hs : (T.putd (some t) s).slot t = s' := by
              rw [hput]
              show (T.put t s').slot t = s'
              rw [slot_put, if_pos ⟨rfl, hlt'⟩]
            rw [fr.at1 (by rw [hs]; exact hb rfl) b2, hs]
          · rename_i hh
            by_cases ht : t = d
            · subst ht
              have hge : ¬ t < X'.sl.length := fun hl => hh ⟨rfl, hl⟩
              have hz : ∀ (Y : St), ¬ t < Y.sl.length → Y.slot t = .und := fun Y hY => by
                cases hy : Y.slot t with
                | und => rfl
                | _ => exact absurd (nthS_lt (by show Y.slot t ≠ _; rw [hy]; simp)) hY
              rw [hz X' hge, hz X (by rw [← fr.off.len]; exact hge)]
            · exact fr.off.sl t ht
        rw [this]
        exact h

/-- what a make does -/
def mkRes (S : St) (i : Nat) (d : Nat) (cells : List AV) (len sz : Nat) : St := ({ S with H := S.H.set (S.nx + i) ⟨cells, []⟩ } : St).unlent.put d (.val (.arr (S.nx + i) 0 len sz) .no)
theorem make_shape {o : Oper} {D : List Nat} {i : Nat} {fz : Fx} {x : OI} (hx : x.cl = 4) (hop : clOf A eb o = 4) (hl : ∀ t, Operand.tmp t ∈ o.op.operands → t ∈ x.lk) (S : St) :
    (∀ R k, dop P A an isRes cal D i fz x o S (R := R) k = none) ∨ ∃ d cells len sz, o.dst = some d ∧ ∀ S' : St, (∀ t ∈ x.lk, (S'.slot t).bare = (S.slot t).bare) → S'.sl.length = S.sl.length → ∀ (R : Type) (k : St → Option R), dop P A an isRes cal D i fz x o S' k = S'.H.new? (S'.nx + i) (k (mkRes S' i d cells len sz)) := by
  obtain ⟨t, n, c, ho⟩ : ∃ t n c, o.op = .makeSlice t n c := by
    cases ho : o.op with
    | makeSlice t n c => exact ⟨t, n, c, rfl⟩
    | move x => simp only [clOf, ho] at hop; split at hop <;> cases hop
    | alloc _ => simp only [clOf, ho] at hop; split at hop <;> cases hop
    | call c =>
      simp only [clOf, ho] at hop
      repeat' split at hop
      all_goals cases hop
    | _ => simp [clOf, ho] at hop
  have evs : ∀ S' : St, (∀ t ∈ x.lk, (S'.slot t).bare = (S.slot t).bare) → S'.ev n = S.ev n ∧ S'.ev c = S.ev c := by
    intro S' hs
    have key : ∀ y, y ∈ o.op.operands → S'.ev y = S.ev y := fun y hy => by
      cases y with
      | tmp t => show (S'.slot t).av = (S.slot t).av; rw [← bare_av, hs t (hl t hy), bare_av]
      | _ => rfl
    exact ⟨key n (by simp [ho, Op.operands]), key c (by simp [ho, Op.operands])⟩
  unfold dop
  rw [hx]
  simp only
  cases hd : o.dst with
  | none => exact .inl fun R k => rfl
  | some d =>
    simp only [absOp, ho]
    unfold opMake
    cases tElem P t with
    | none => exact .inl fun R k => rfl
    | some e =>
      simp only
      cases zeroCells P e with
      | none => exact .inl fun R k => rfl
      | some z =>
        simp only
        cases Nat.beq (tSize P e) 0 with
        | true => exact .inl fun R k => rfl
        | false =>
          cases Nat.beq z.length (tSize P e) with
          | false => exact .inl fun R k => rfl
          | true =>
            simp only
            have h1 : ∀ (S : St) (m : Nat), ({ S with nx := m } : St).ev n = S.ev n := fun S m => by cases n <;> rfl
            have h2 : ∀ (S : St) (m : Nat), ({ S with nx := m } : St).ev c = S.ev c := fun S m => by cases c <;> rfl
            simp only [h1, h2, hd]
            cases hn : S.ev n with
            | int k1 len =>
              cases hc : S.ev c with
              | int k2 cap =>
                have main : decide (0 ≤ len) = true → decide (len ≤ cap) = true → decide (cap * (tBytes P e : Int) ≤ 281474976710656) = true → decide (cap ≤ 281474976710656) = true → decide (len = cap) = true → d < S.sl.length →
                    ∃ d' cells len' sz, some d = some d' ∧ ∀ S' : St, (∀ t ∈ x.lk, (S'.slot t).bare = (S.slot t).bare) → S'.sl.length = S.sl.length → ∀ (R : Type) (k : St → Option R), ((S'.ev n).int? fun _ len => (S'.ev c).int? fun _ cap =>
                      br (decide (0 ≤ len)) (br (decide (len ≤ cap)) (br (decide (cap * (tBytes P e : Int) ≤ 281474976710656)) (br (decide (cap ≤ 281474976710656))
                        (br (decide (len = cap))
                          (S'.H.new? (S'.nx + i) (match (({ S' with H := S'.H.set (S'.nx + i) ⟨replC z len.toNat, []⟩, nx := S'.nx + i + 1 } : St).unlent.putd (some d) (.val (.arr (S'.nx + i) 0 len.toNat (tSize P e)) .no)).slot d with
                            | .val v _ => match v with
                              | .arr _ _ _ _ => k { (({ S' with H := S'.H.set (S'.nx + i) ⟨replC z len.toNat, []⟩, nx := S'.nx + i + 1 } : St).unlent.putd (some d) (.val (.arr (S'.nx + i) 0 len.toNat (tSize P e)) .no)) with nx := S'.nx }
                              | _ => none
                            | _ => none))
                          (br (decide (len = 0)) (match (({ S' with nx := S'.nx + i } : St).putown (some d) (.vs (tSize P e) false []) .own).slot d with
                            | .val v _ => match v with
                              | .arr _ _ _ _ => k { (({ S' with nx := S'.nx + i } : St).putown (some d) (.vs (tSize P e) false []) .own) with nx := S'.nx }
                              | _ => none
                            | _ => none) none)) none) none) none) none) = S'.H.new? (S'.nx + i) (k (mkRes S' i d' cells len' sz)) := by
                  intro g1 g2 g3 g4 g5 hlt
                  refine ⟨d, replC z len.toNat, len.toNat, tSize P e, rfl, fun S' hs hlen R k => ?_⟩
                  obtain ⟨q1, q2⟩ := evs S' hs
                  rw [q1, q2, hn, hc]
                  simp only [AV.int?, g1, g2, g3, g4, g5, br]
                  have hsl : (({ S' with H := S'.H.set (S'.nx + i) ⟨replC z len.toNat, []⟩, nx := S'.nx + i + 1 } : St).unlent.put d (.val (.arr (S'.nx + i) 0 len.toNat (tSize P e)) .no)).slot d = .val (.arr (S'.nx + i) 0 len.toNat (tSize P e)) .no := by
                    rw [slot_put, if_pos ⟨rfl, by show d < (S'.sl.map _).length; rw [List.length_map, hlen]; exact hlt⟩]
                  show Hp.new? S'.H (S'.nx + i) (match (({ S' with H := S'.H.set (S'.nx + i) ⟨replC z len.toNat, []⟩, nx := S'.nx + i + 1 } : St).unlent.put d (.val (.arr (S'.nx + i) 0 len.toNat (tSize P e)) .no)).slot d with
                    | .val v _ => match v with
                      | .arr _ _ _ _ => _
                      | _ => none
                    | _ => none) = _
                  rw [hsl]
                  rfl
                have dead : (∀ (R : Type) (k : St → Option R), ((S.ev n).int? fun _ len => (S.ev c).int? fun _ cap =>
                      br (decide (0 ≤ len)) (br (decide (len ≤ cap)) (br (decide (cap * (tBytes P e : Int) ≤ 281474976710656)) (br (decide (cap ≤ 281474976710656))
                        (br (decide (len = cap))
                          (S.H.new? (S.nx + i) (match (({ S with H := S.H.set (S.nx + i) ⟨replC z len.toNat, []⟩, nx := S.nx + i + 1 } : St).unlent.putd (some d) (.val (.arr (S.nx + i) 0 len.toNat (tSize P e)) .no)).slot d with
                            | .val v _ => match v with
                              | .arr _ _ _ _ => k { (({ S with H := S.H.set (S.nx + i) ⟨replC z len.toNat, []⟩, nx := S.nx + i + 1 } : St).unlent.putd (some d) (.val (.arr (S.nx + i) 0 len.toNat (tSize P e)) .no)) with nx := S.nx }
                              | _ => none
                            | _ => none))
                          (br (decide (len = 0)) (match (({ S with nx := S.nx + i } : St).putown (some d) (.vs (tSize P e) false []) .own).slot d with
                            | .val v _ => match v with
                              | .arr _ _ _ _ => k { (({ S with nx := S.nx + i } : St).putown (some d) (.vs (tSize P e) false []) .own) with nx := S.nx }
                              | _ => none
                            | _ => none) none)) none) none) none) none) = none) ∨ (decide (0 ≤ len) = true ∧ decide (len ≤ cap) = true ∧ decide (cap * (tBytes P e : Int) ≤ 281474976710656) = true ∧ decide (cap ≤ 281474976710656) = true ∧ decide (len = cap) = true ∧ d < S.sl.length) := by
                  by_cases g1 : decide (0 ≤ len) = true
                  · by_cases g2 : decide (len ≤ cap) = true
                    · by_cases g3 : decide (cap * (tBytes P e : Int) ≤ 281474976710656) = true
                      · by_cases g4 : decide (cap ≤ 281474976710656) = true
                        · by_cases g5 : decide (len = cap) = true
                          · by_cases hlt : d < S.sl.length
                            · exact .inr ⟨g1, g2, g3, g4, g5, hlt⟩
                            · refine .inl fun R k => ?_
                              rw [hn, hc]
                              simp only [AV.int?, g1, g2, g3, g4, g5, br]
                              have hz : (({ S with H := S.H.set (S.nx + i) ⟨replC z len.toNat, []⟩, nx := S.nx + i + 1 } : St).unlent.putd (some d) (.val (.arr (S.nx + i) 0 len.toNat (tSize P e)) .no)).slot d = .und := by
                                generalize hY : (({ S with H := S.H.set (S.nx + i) ⟨replC z len.toNat, []⟩, nx := S.nx + i + 1 } : St).unlent.putd (some d) (.val (.arr (S.nx + i) 0 len.toNat (tSize P e)) .no)) = Y
                                have hYl : Y.sl.length = S.sl.length := by rw [← hY, putd_len]; show (S.sl.map _).length = _; rw [List.length_map]
                                cases hy : Y.slot d with
                                | und => rfl
                                | _ => exact absurd (nthS_lt (by show Y.slot d ≠ _; rw [hy]; simp)) (by rw [hYl]; exact hlt)
                              unfold Hp.new?
                              cases S.H.get (S.nx + i) with
                              | none => simp only [hz]
                              | some b => rfl
                          · refine .inl fun R k => ?_
                            rw [hn, hc]
                            have g5' : decide (len = cap) = false := by simpa using g5
                            simp only [AV.int?, g1, g2, g3, g4, g5', br]
                            cases decide (len = 0) with
                            | false => rfl
                            | true =>
                              simp only
                              generalize hY : (({ S with nx := S.nx + i } : St).putown (some d) (.vs (tSize P e) false []) .own) = Y
                              cases hy : Y.slot d with
                              | und => rfl
                              | lp a b => rfl
                              | mp a => rfl
                              | val v f =>
                                have hlt : d < Y.sl.length := nthS_lt (by show Y.slot d ≠ _; rw [hy]; simp)
                                have hlt3 : d < (S.sl.map (Slot.unS d)).length := by
                                  have h3 := hlt
                                  rw [← hY] at h3
                                  have e : (({ S with nx := S.nx + i } : St).putown (some d) (.vs (tSize P e) false []) .own).sl.length = (S.sl.map (Slot.unS d)).length := by
                                    show (setS (S.sl.map (Slot.unS d)) d _).length = _
                                    rw [setS_length]
                                  rw [e] at h3
                                  exact h3
                                have : Y.slot d = .val (.vs (tSize P e) false []) .own := by
                                  rw [← hY]
                                  show (({ ({ S with nx := S.nx + i } : St) with sl := S.sl.map (Slot.unS d) } : St).put d (.val (.vs (tSize P e) false []) .own)).slot d = _
                                  rw [slot_put, if_pos ⟨rfl, hlt3⟩]
                                rw [hy] at this
                                injection this with h1 h2
                                subst h1
                                rfl
                        · exact .inl fun R k => by rw [hn, hc]; simp only [AV.int?, g1, g2, g3, br]; rw [show decide (cap ≤ 281474976710656) = false by simpa using g4]
                      · exact .inl fun R k => by rw [hn, hc]; simp only [AV.int?, g1, g2, br]; rw [show decide (cap * (tBytes P e : Int) ≤ 281474976710656) = false by simpa using g3]
                    · exact .inl fun R k => by rw [hn, hc]; simp only [AV.int?, g1, br]; rw [show decide (len ≤ cap) = false by simpa using g2]
                  · exact .inl fun R k => by rw [hn, hc]; simp only [AV.int?, br]; rw [show decide (0 ≤ len) = false by simpa using g1]
                rcases dead with h | ⟨g1, g2, g3, g4, g5, hlt⟩
                · rw [hn, hc] at h
                  exact .inl fun R k => h R k
                · exact .inr (main g1 g2 g3 g4 g5 hlt)
              | _ => exact .inl fun R k => rfl
            | _ => exact .inl fun R k => rfl

end
end Go.Vai
