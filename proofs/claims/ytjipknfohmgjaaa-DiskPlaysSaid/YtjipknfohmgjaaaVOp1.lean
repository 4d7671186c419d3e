/- The operations that only compute. -/
import Derived.Test.YtjipknfohmgjaaaVOp0
import Derived.Laws.Small
import Derived.Laws.Pointers
import Derived.Orders
import Derived.Laws.StructEq
namespace Go.Vai

section inversions
variable {g : G} {w : World} {u : Value}

theorem rep_int {k : IntKind} {n : Int} (h : Rep g w u (.int k n)) : u = .int k n := by cases h; rfl
theorem rep_bool {b : Bool} (h : Rep g w u (.bool b)) : u = .bool b := by cases h; rfl
theorem rep_str {l : List UInt8} (h : Rep g w u (.str l)) : ∃ s : ByteArray, u = .string s ∧ s.data.toList = l := by cases h; exact ⟨_, rfl, rfl⟩
theorem rep_nilp (h : Rep g w u .nilp) : u = .pointer none := by cases h; rfl
theorem rep_ptr {id off : Nat} (h : Rep g w u (.ptr id off)) : ∃ B, g.role B = .h id ∧ u = .pointer (some ⟨B, off, none⟩) := by cases h; exact ⟨_, ‹_›, rfl⟩
theorem rep_agg {cs : List AV} (h : Rep g w u (.agg cs)) : ∃ us : List Value, u = .agg us.toArray ∧ (∀ x ∈ us, x.oneCell' = true) ∧ RepL g w us cs := by
  cases h; exact ⟨_, rfl, ‹_›, ‹_›, ‹_›⟩
theorem rep_tuple {cs : List AV} (h : Rep g w u (.tuple cs)) : ∃ us : List Value, u = .tuple us.toArray ∧ RepL g w us cs := by
  cases h; exact ⟨_, rfl, ‹_›, ‹_›⟩
theorem rep_nilI (h : Rep g w u .nilI) : u = .nilIface := by cases h; rfl
theorem rep_iface {t : Nat} {v : AV} (h : Rep g w u (.iface t v)) : ∃ x, u = .iface t x ∧ Rep g w x v := by cases h; exact ⟨_, rfl, ‹_›⟩
theorem rep_func {f : Nat} {cs : List AV} (h : Rep g w u (.func f cs)) : ∃ us : List Value, u = .func (.func f) #[] us.toArray ∧ RepL g w us cs := by
  cases h; exact ⟨_, rfl, ‹_›, ‹_›⟩

end inversions

section br
variable {R : Type}
theorem br_some {b : Bool} {x y : Option R} {r : R} (h : br b x y = some r) : (b = true ∧ x = some r) ∨ (b = false ∧ y = some r) := by
  cases b
  · exact .inr ⟨rfl, h⟩
  · exact .inl ⟨rfl, h⟩
theorem br_left {b : Bool} {x : Option R} {r : R} (h : br b x Option.none = some r) : b = true ∧ x = some r := by
  rcases br_some h with h | ⟨_, h⟩
  · exact h
  · cases h
theorem br_right {b : Bool} {x : Option R} {r : R} (h : br b Option.none x = some r) : b = false ∧ x = some r := by
  rcases br_some h with ⟨_, h⟩ | h
  · cases h
  · exact h
theorem int?_some {v : AV} {k : IntKind → Int → Option R} {r : R} (h : v.int? k = some r) : ∃ i n, v = .int i n ∧ k i n = some r := by
  unfold AV.int? at h
  split at h
  · exact ⟨_, _, rfl, h⟩
  · cases h
theorem bool?_some {v : AV} {k : Bool → Option R} {r : R} (h : v.bool? k = some r) : ∃ b, v = .bool b ∧ k b = some r := by
  unfold AV.bool? at h
  split at h
  · exact ⟨_, rfl, h⟩
  · cases h
theorem str?_some {v : AV} {k : List UInt8 → Option R} {r : R} (h : v.str? k = some r) : ∃ s, v = .str s ∧ k s = some r := by
  unfold AV.str? at h
  split at h
  · exact ⟨_, rfl, h⟩
  · cases h
theorem vs?_some {v : AV} {k : Nat → Bool → List AV → Option R} {r : R} (h : v.vs? k = some r) : ∃ a b c, v = .vs a b c ∧ k a b c = some r := by
  unfold AV.vs? at h
  split at h
  · exact ⟨_, _, _, rfl, h⟩
  · cases h
theorem agg?_some {v : AV} {k : List AV → Option R} {r : R} (h : v.agg? k = some r) : ∃ cs, v = .agg cs ∧ k cs = some r := by
  unfold AV.agg? at h
  split at h
  · exact ⟨_, rfl, h⟩
  · cases h
theorem tup?_some {v : AV} {k : List AV → Option R} {r : R} (h : v.tup? k = some r) : ∃ cs, v = .tuple cs ∧ k cs = some r := by
  unfold AV.tup? at h
  split at h
  · exact ⟨_, rfl, h⟩
  · cases h
theorem func?_some {v : AV} {k : Nat → List AV → Option R} {r : R} (h : v.func? k = some r) : ∃ f c, v = .func f c ∧ k f c = some r := by
  unfold AV.func? at h
  split at h
  · exact ⟨_, _, rfl, h⟩
  · cases h
theorem bind_some' {α : Type} {x : Option α} {k : α → Option R} {r : R} (h : x.bind k = some r) : ∃ y, x = some y ∧ k y = some r := by
  cases x with
  | none => cases h
  | some y => exact ⟨y, rfl, h⟩
end br

theorem eqS_eq : ∀ (a b : List UInt8), eqS a b = (a == b)
  | [], [] => rfl
  | [], _ :: _ => rfl
  | _ :: _, [] => rfl
  | a :: l, b :: m => by
    rw [eqS, eqS_eq l m]
    by_cases h : a = b
    · subst h; simp
    · have h' : Nat.beq a.toNat b.toNat = false := by
        cases hb : Nat.beq a.toNat b.toNat with
        | false => rfl
        | true => exact absurd (UInt8.toNat_inj.1 (Nat.eq_of_beq_eq_true hb)) h
      rw [h']
      simp [h]

theorem mk_toList (s : ByteArray) : (⟨s.data.toList.toArray⟩ : ByteArray) = s := by cases s; simp

theorem rep_str_mk {g : G} {w : World} (l : List UInt8) : Rep g w (.string ⟨l.toArray⟩) (.str l) := by
  have := Rep.str (g := g) (w := w) ⟨l.toArray⟩
  simpa using this

theorem sameKind_eq {i j : IntKind} (h : sameKind i j = true) : i = j := by cases i <;> cases j <;> first | rfl | cases h

theorem nth_get : ∀ (l : List AV) (n : Nat), nth l n = l[n]?
  | [], n => by simp [nth]
  | x :: l, 0 => by simp [nth]
  | x :: l, n + 1 => by simp [nth, nth_get l n]

section getl
variable {g : G} {w : World}
theorem RepL.get {us : List Value} {cs : List AV} (h : RepL g w us cs) {j : Nat} {c : AV} (hc : cs[j]? = some c) : ∃ u, us[j]? = some u ∧ Rep g w u c := by
  have hj : j < us.length := by rw [h.1]; exact (List.getElem?_eq_some_iff.1 hc).1
  exact ⟨us[j], List.getElem?_eq_getElem hj, h.2 j _ c (List.getElem?_eq_getElem hj) hc⟩
end getl

def eqb (o : BinOp) (b : Bool) : Bool := match o with
  | .neq => !b
  | _ => b

section ops
variable {P : Program} {g : G} {w : World} {R : Type} {r : R}

theorem opInt_sound {op : BinOp} {i : IntKind} {x y : Int} {k : AV → Option R} (t : TypeId) (h : opInt op i x y k = some r) :
    ∃ u v, (binOp op t (.int i x) (.int i y)).run P w = .ok u w ∧ Rep g w u v ∧ k v = some r := by
  cases op <;> simp only [opInt] at h
  case add => exact ⟨_, _, by simp [binOp, Op.intArith], .int _ _, h⟩
  case sub => exact ⟨_, _, by simp [binOp, Op.intArith], .int _ _, h⟩
  case mul => exact ⟨_, _, by simp [binOp, Op.intArith], .int _ _, h⟩
  case quo =>
    obtain ⟨h0, h⟩ := br_right h
    have h0' : ¬ y = 0 := by simpa using h0
    exact ⟨_, _, by simp [binOp, Op.intDiv, h0'], .int _ _, h⟩
  case rem =>
    obtain ⟨h0, h⟩ := br_right h
    have h0' : ¬ y = 0 := by simpa using h0
    exact ⟨_, _, by simp [binOp, Op.intDiv, h0'], .int _ _, h⟩
  case and => exact ⟨_, _, by simp [binOp, Op.intBits, bits], .int _ _, h⟩
  case or => exact ⟨_, _, by simp [binOp, Op.intBits, bits], .int _ _, h⟩
  case xor => exact ⟨_, _, by simp [binOp, Op.intBits, bits], .int _ _, h⟩
  case andNot => exact ⟨_, _, by simp [binOp, Op.intBits, bits], .int _ _, h⟩
  case eql => exact ⟨_, _, by simp only [binOp, Op.intCmp, ne_eq, not_true_eq_false, ↓reduceIte, Sem.run_pure]; rfl, .bool (decide (x = y)), h⟩
  case neq => exact ⟨_, _, by simp only [binOp, Op.intCmp, ne_eq, not_true_eq_false, ↓reduceIte, Sem.run_pure, bne]; rfl, .bool (!decide (x = y)), h⟩
  case lss => exact ⟨_, _, by simp [binOp, Op.intCmp], .bool (decide (x < y)), h⟩
  case leq => exact ⟨_, _, by simp [binOp, Op.intCmp], .bool (decide (x ≤ y)), h⟩
  case gtr => exact ⟨_, _, by simp [binOp, Op.intCmp], .bool (decide (y < x)), h⟩
  case geq => exact ⟨_, _, by simp [binOp, Op.intCmp], .bool (decide (y ≤ x)), h⟩
  all_goals cases h

theorem opStr_sound {op : BinOp} {x y : ByteArray} {k : AV → Option R} (t : TypeId) (h : opStr op x.data.toList y.data.toList k = some r) :
    ∃ u v, (binOp op t (.string x) (.string y)).run P w = .ok u w ∧ Rep g w u v ∧ k v = some r := by
  have hx := ByteArray.toList_eq x
  have hy := ByteArray.toList_eq y
  have he := eqS_eq x.data.toList y.data.toList
  cases op <;> simp only [opStr] at h
  case add =>
    obtain ⟨h0, h⟩ := br_left h
    have h0' := Nat.le_of_ble_eq_true h0
    have hs : ¬ (((x.size + y.size : Nat) : Int) > IntKind.i64.max) := by
      have e1 : x.size = x.data.toList.length := by rw [Array.length_toList]; rfl
      have e2 : y.size = y.data.toList.length := by rw [Array.length_toList]; rfl
      have e3 : IntKind.i64.max = 9223372036854775807 := rfl
      omega
    refine ⟨.string (x ++ y), .str (x.data.toList ++ y.data.toList), ?_, ?_, h⟩
    · simp only [binOp, Op.stringOp, if_neg hs, Sem.run_pure]
    · have := Rep.str (g := g) (w := w) (x ++ y)
      rw [ByteArray.data_append, Array.toList_append] at this
      exact this
  case eql => exact ⟨_, _, by rw [binOp_string_eql, Sem.run_pure, hx, hy], .bool _, by rw [← he]; exact h⟩
  case neq => exact ⟨_, _, by rw [binOp_string_neq, Sem.run_pure, hx, hy, ← he], .bool _, h⟩
  case lss => exact ⟨_, _, by rw [binOp_string_lss, Sem.run_pure, hx, hy], .bool _, h⟩
  case leq => exact ⟨_, _, by rw [show binOp .leq t (.string x) (.string y) = pure (.bool (Op.bytesLess x.toList y.toList || x.toList == y.toList)) from by simp [binOp, Op.stringOp], Sem.run_pure, hx, hy, ← he], .bool _, h⟩
  case gtr => exact ⟨_, _, by rw [show binOp .gtr t (.string x) (.string y) = pure (.bool !(Op.bytesLess x.toList y.toList || x.toList == y.toList)) from by simp [binOp, Op.stringOp], Sem.run_pure, hx, hy, ← he], .bool _, h⟩
  case geq => exact ⟨_, _, by rw [show binOp .geq t (.string x) (.string y) = pure (.bool !(Op.bytesLess x.toList y.toList)) from by simp [binOp, Op.stringOp], Sem.run_pure, hx, hy], .bool _, h⟩
  all_goals cases h

theorem eqGuard_skip {op : BinOp} {t : TypeId} {x y : Operand} {a b : Value} (h : ∀ cs, a ≠ .agg cs) (h2 : a ≠ .nilIface) : (eqGuard op t x y a b).run P w = .ok () w := by
  unfold eqGuard
  cases op <;> first
    | (simp; done)
    | (cases a <;> first | exact absurd rfl (h _) | exact absurd rfl h2 | (simp; done) | (cases b <;> simp))

theorem scal_int' {t : TypeId} {i : IntKind} {n : Int} (h : scal P t (.int i n) = true) : P.underlying t = some (.int i) := by
  simp only [scal] at h
  split at h
  · rename_i k hk; rw [hk, sameKind_eq h]
  · cases h
theorem scal_int {t : TypeId} {i : IntKind} {n : Int} (h : scal P t (.int i n) = true) : ∃ k, P.underlying t = some (.int k) := ⟨i, scal_int' h⟩
theorem scal_str {t : TypeId} {s : List UInt8} (h : scal P t (.str s) = true) : P.underlying t = some .string := by
  simp only [scal] at h
  split at h
  · rename_i hk; exact hk
  · cases h
theorem scal_bool {t : TypeId} {b : Bool} (h : scal P t (.bool b) = true) : P.underlying t = some .bool := by
  simp only [scal] at h
  split at h
  · rename_i hk; exact hk
  · cases h

theorem eq1_sound {t : TypeId} {ux uy : Value} {x y : AV} {k : Bool → Option R} (h : eq1 x y k = some r) (h1 : scal P t x = true) (hx : Rep g w ux x) (hy : Rep g w uy y) :
    ∃ b, (∀ d, (Op.equalIn (d + 1) t ux uy).run P w = .ok b w) ∧ k b = some r := by
  cases x with
  | int i a =>
    simp only [eq1] at h
    obtain ⟨j, b, rfl, h2⟩ := int?_some h
    obtain ⟨h0, h3⟩ := br_left h2
    clear h h2
    obtain rfl := sameKind_eq h0
    obtain rfl := rep_int hx
    obtain rfl := rep_int hy
    obtain ⟨kk, hu⟩ := scal_int h1
    exact ⟨_, fun d => run_equalIn_int w d t i kk a b hu, h3⟩
  | str a =>
    simp only [eq1] at h
    obtain ⟨b, rfl, h2⟩ := str?_some h
    clear h
    obtain ⟨s1, rfl, rfl⟩ := rep_str hx
    obtain ⟨s2, rfl, rfl⟩ := rep_str hy
    have hu := scal_str h1
    refine ⟨_, fun d => run_equalIn_string w d t s1 s2 hu, ?_⟩
    rw [ByteArray.toList_eq, ByteArray.toList_eq, ← eqS_eq]
    exact h2
  | bool a =>
    simp only [eq1] at h
    obtain ⟨b, rfl, h2⟩ := bool?_some h
    clear h
    obtain rfl := rep_bool hx
    obtain rfl := rep_bool hy
    exact ⟨_, fun d => run_equalIn_bool' w d t a b (scal_bool h1), h2⟩
  | _ => cases h

theorem eqlK_sound {op : BinOp} {t : TypeId} {ux uy : Value} {b : Bool} {k : AV → Option R} (hu : ∀ o : BinOp, o = .eql ∨ o = .neq → (binOp o t ux uy).run P w = .ok (.bool (eqb o b)) w) (h : eqlK op b k = some r) : ∃ u v, (binOp op t ux uy).run P w = .ok u w ∧ Rep g w u v ∧ k v = some r := by
  unfold eqlK at h
  split at h
  · exact ⟨_, _, hu _ (.inl rfl), .bool _, h⟩
  · exact ⟨_, _, hu _ (.inr rfl), .bool _, h⟩
  · cases h

theorem eqIface_sound {t : TypeId} {ms : Array (String × TypeId)} {ux uy : Value} {x y : AV} {k : Bool → Option R} (hu : P.underlying t = some (.interface ms)) (h : eqIface P x y k = some r) (hx : Rep g w ux x) (hy : Rep g w uy y) :
    ∃ b, (∀ d, (Op.equalIn (d + 2) t ux uy).run P w = .ok b w) ∧ k b = some r := by
  unfold eqIface at h
  split at h
  · rename_i tx v
    obtain ⟨vx, rfl, hvx⟩ := rep_iface hx
    split at h
    · rename_i ty v'
      obtain ⟨vy, rfl, hvy⟩ := rep_iface hy
      rcases br_some h with ⟨h0, h5⟩ | ⟨h0, h5⟩
      · clear h
        obtain rfl := Nat.eq_of_beq_eq_true h0
        obtain ⟨h2, h6⟩ := br_left h5
        simp only [Bool.and_eq_true] at h2
        obtain ⟨hc, h3, h4⟩ := h2
        obtain ⟨b, hb, hk⟩ := eq1_sound h6 h3 hvx hvy
        refine ⟨b, fun d => ?_, hk⟩
        unfold tComp at hc
        split at hc
        · rename_i i hi
          have := hb d
          rw [Op.equalIn]
          simp only [Sem.run_bind, run_underlying hu, Result.andThen_ok, ne_eq, not_true_eq_false, if_false, typeInfo, run_program, hi, hc, Sem.run_pure, Bool.not_true, Bool.false_eq_true]
          exact this
        · cases hc
      · have hne : tx ≠ ty := fun e => by subst e; rw [show Nat.beq tx tx = true from Nat.beq_refl tx] at h0; cases h0
        exact ⟨false, fun d => by simp [Op.equalIn, run_underlying hu, hne], h5⟩
    · obtain rfl := rep_nilI hy
      exact ⟨false, fun d => by simp [Op.equalIn, run_underlying hu], h⟩
    · cases h
  · obtain rfl := rep_nilI hx
    split at h
    · obtain ⟨vy, rfl, _⟩ := rep_iface hy
      exact ⟨false, fun d => by simp [Op.equalIn, run_underlying hu], h⟩
    · cases h
  · cases h

theorem iface_bin {t : TypeId} {ux uy : Value} {b : Bool} {o : BinOp} (ho : o = .eql ∨ o = .neq) (hb : ∀ d, (Op.equalIn (d + 2) t ux uy).run P w = .ok b w) (hs : (∃ tx v, ux = .iface tx v) ∨ ux = .nilIface) :
    (binOp o t ux uy).run P w = .ok (.bool (eqb o b)) w := by
  have e : (Op.equal t ux uy).run P w = .ok b w := hb 9998
  rcases ho with rfl | rfl <;> rcases hs with ⟨tx, v, rfl⟩ | rfl <;> simp only [binOp, Sem.run_bind, Sem.run_map, e, Result.andThen_ok, Sem.run_pure, eqb]

theorem part_one {us : List Value} {t : TypeId} {f : Nat} {u : Value} {d : TypeDesc} (hu : P.underlying t = some d) (hd : (∀ fs, d ≠ .struct fs) ∧ ∀ n e, d ≠ .array n e) (hj : us[f]? = some u) : (part t us.toArray f).run P w = .ok u w := by
  have ha : (isAgg t).run P w = .ok false w := by
    simp only [isAgg, Sem.run_bind, run_underlying hu, Result.andThen_ok]
    cases d <;> first | exact absurd rfl (hd.1 _) | exact absurd rfl (hd.2 _ _) | rfl
  simp only [part, Sem.run_bind, ha, Result.andThen_ok, Bool.false_eq_true, if_false, List.getElem?_toArray, hj, Sem.run_pure]

theorem eqFs_sound {xs ys : List AV} {uxs uys : List Value} {k : Bool → Option R} : ∀ (fs : List Field), eqFs P xs ys fs k = some r → noBlank fs = true → RepL g w uxs xs → RepL g w uys ys →
    ∃ b, (∀ d, (Op.eqFields (d + 1) uxs.toArray uys.toArray fs).run P w = .ok b w) ∧ k b = some r := by
  intro fs
  induction fs with
  | nil => intro h _ _ _; exact ⟨true, fun d => rfl, h⟩
  | cons f fs ih =>
    intro h hn hx hy
    simp only [eqFs] at h
    obtain ⟨a, ha, h1⟩ := bind_some' h
    obtain ⟨b, hb, h2⟩ := bind_some' h1
    obtain ⟨h3, h4⟩ := br_left h2
    clear h h1 h2
    rw [Bool.and_eq_true] at h3
    rw [nth_get] at ha hb
    obtain ⟨ua, hua, hra⟩ := hx.get ha
    obtain ⟨ub, hub, hrb⟩ := hy.get hb
    obtain ⟨e, he, h5⟩ := eq1_sound h4 h3.1 hra hrb
    have hnb : f.name ≠ "_" ∧ noBlank fs = true := by
      unfold noBlank at hn
      split at hn
      · cases hn
      · rename_i hh; exact ⟨by simpa using hh, hn⟩
    have hund : ∃ d, P.underlying f.type = some d ∧ (∀ fs, d ≠ .struct fs) ∧ ∀ n e, d ≠ .array n e := by
      have h3' := h3.1
      cases a with
      | int i n => obtain ⟨kk, hk⟩ := scal_int h3'; exact ⟨_, hk, by simp, by simp⟩
      | str s => exact ⟨_, scal_str h3', by simp, by simp⟩
      | bool s => exact ⟨_, scal_bool h3', by simp, by simp⟩
      | _ => cases h3'
    obtain ⟨dd, hd1, hd2⟩ := hund
    have pa := part_one (w := w) hd1 hd2 hua
    have pb := part_one (w := w) hd1 hd2 hub
    cases e with
    | true =>
      obtain ⟨b', hb', hk⟩ := ih h5 hnb.2 hx hy
      refine ⟨b', fun d => ?_, hk⟩
      simp only [Op.eqFields, ne_eq, hnb.1, not_false_eq_true, if_true, Sem.run_bind, pa, pb, he d, Result.andThen_ok, Bool.not_true, Bool.false_eq_true, if_false]
      exact hb' d
    | false =>
      refine ⟨false, fun d => ?_, h5⟩
      simp only [Op.eqFields, ne_eq, hnb.1, not_false_eq_true, if_true, Sem.run_bind, pa, pb, he d, Result.andThen_ok, Bool.not_false, Sem.run_pure]

theorem opBinT_sound {op : BinOp} {t : TypeId} {xo yo : Operand} {ux uy : Value} {x y : AV} {k : AV → Option R} (h : opBinT P op t (isConst xo) (isConst yo) x y k = some r)
    (hx : Rep g w ux x) (hy : Rep g w uy y) : ∃ u v, (do eqGuard op t xo yo ux uy; binOp op t ux uy : Sem Value).run P w = .ok u w ∧ Rep g w u v ∧ k v = some r := by
  cases x with
  | bool b1 =>
    simp only [opBinT] at h
    obtain ⟨b2, rfl, h⟩ := bool?_some h
    obtain rfl := rep_bool hx
    obtain rfl := rep_bool hy
    simp only [Sem.run_bind, eqGuard_skip (P := P) (w := w) (a := Value.bool b1) (by simp) (by simp), Result.andThen_ok]
    split at h
    · rename_i hu
      split at h
      · exact ⟨_, _, run_eql_bool w t b1 b2 hu, .bool _, h⟩
      · exact ⟨_, _, run_neq_bool w t b1 b2 hu, .bool _, h⟩
      · cases h
    · cases h
  | nilp =>
    obtain rfl := rep_nilp hx
    simp only [Sem.run_bind, eqGuard_skip (P := P) (w := w) (a := Value.pointer none) (by simp) (by simp), Result.andThen_ok]
    cases y with
    | nilp =>
      simp only [opBinT] at h
      obtain rfl := rep_nilp hy
      split at h
      · rename_i e hu
        have hu' : P.underlying t = some (.pointer (P.pointee t)) := by rw [hu]; simp [Program.pointee, hu]
        split at h
        · exact ⟨_, _, run_eql_pointer_nil w t none hu', .bool true, h⟩
        · exact ⟨_, _, run_neq_pointer_nil w t none hu', .bool false, h⟩
        · cases h
      · cases h
    | _ => cases h
  | ptr id off =>
    obtain ⟨B, hB, rfl⟩ := rep_ptr hx
    simp only [Sem.run_bind, eqGuard_skip (P := P) (w := w) (a := Value.pointer (some ⟨B, off, none⟩)) (by simp) (by simp), Result.andThen_ok]
    cases y with
    | nilp =>
      simp only [opBinT] at h
      obtain rfl := rep_nilp hy
      split at h
      · rename_i e hu
        have hu' : P.underlying t = some (.pointer (P.pointee t)) := by rw [hu]; simp [Program.pointee, hu]
        split at h
        · exact ⟨_, _, run_eql_pointer_nil w t (some ⟨B, off, none⟩) hu', .bool false, h⟩
        · exact ⟨_, _, run_neq_pointer_nil w t (some ⟨B, off, none⟩) hu', .bool true, h⟩
        · cases h
      · cases h
    | _ => cases h
  | int i a =>
    simp only [opBinT, opBin] at h
    obtain ⟨j, b, rfl, h⟩ := int?_some h
    obtain rfl := rep_int hx
    obtain rfl := rep_int hy
    simp only [Sem.run_bind, eqGuard_skip (P := P) (w := w) (a := Value.int i a) (by simp) (by simp), Result.andThen_ok]
    split at h
    · obtain ⟨h0, h⟩ := br_right h
      have h0' : ¬ b < 0 := by simpa using h0
      exact ⟨_, _, by simp [binOp, Op.shift, h0']; rfl, .int _ _, h⟩
    · obtain ⟨h0, h⟩ := br_right h
      have h0' : ¬ b < 0 := by simpa using h0
      exact ⟨_, _, by simp [binOp, Op.shift, h0']; rfl, .int _ _, h⟩
    · obtain ⟨h0, h1⟩ := br_left (show br (sameKind i j) (opInt op i a b k) Option.none = some r from h)
      obtain rfl := sameKind_eq h0
      exact opInt_sound t h1
  | str s =>
    simp only [opBinT, opBin] at h
    obtain ⟨b, rfl, h⟩ := str?_some h
    obtain ⟨s1, rfl, rfl⟩ := rep_str hx
    obtain ⟨s2, rfl, rfl⟩ := rep_str hy
    simp only [Sem.run_bind, eqGuard_skip (P := P) (w := w) (a := Value.string s1) (by simp) (by simp), Result.andThen_ok]
    exact opStr_sound t h
  | iface tx v =>
    obtain ⟨vx, rfl, hvx⟩ := rep_iface hx
    simp only [Sem.run_bind, eqGuard_skip (P := P) (w := w) (a := Value.iface tx vx) (by simp) (by simp), Result.andThen_ok]
    simp only [opBinT] at h
    split at h
    · rename_i ms hu
      obtain ⟨b, hb, hk⟩ := eqIface_sound (w := w) (g := g) hu h (.iface tx vx v hvx) hy
      exact eqlK_sound (fun o ho => iface_bin ho hb (.inl ⟨_, _, rfl⟩)) hk
    · cases h
  | nilI =>
    obtain rfl := rep_nilI hx
    simp only [opBinT] at h
    split at h
    · rename_i ms hu
      split at h
      · obtain rfl := rep_nilI hy
        obtain ⟨h0, h1⟩ := br_left h
        have hg : (eqGuard op t xo yo Value.nilIface Value.nilIface).run P w = .ok () w := by
          have hc : (isConst xo || isConst yo) = true := h0
          cases op <;> simp only [eqGuard] <;> first | (simp; done) | skip
          all_goals
            cases xo <;> cases yo <;> simp [isConst] at hc ⊢
        simp only [Sem.run_bind, hg, Result.andThen_ok]
        have hq : ∀ d, (Op.equalIn (d + 2) t Value.nilIface Value.nilIface).run P w = .ok true w := fun d => by simp [Op.equalIn, run_underlying hu]
        exact eqlK_sound (fun o ho => iface_bin ho hq (.inr rfl)) h1
      · have hg : ∀ uy', Rep g w uy' y → uy' ≠ .nilIface → (eqGuard op t xo yo Value.nilIface uy').run P w = .ok () w := by
          intro uy' _ hne
          cases op <;> simp only [eqGuard] <;> first | (simp; done) | skip
          all_goals
            cases uy' <;> first | exact absurd rfl hne | (simp; done)
        have hne : uy ≠ .nilIface := by
          rintro rfl
          rename_i hny
          cases hy <;> first | exact hny rfl | (cases h; done)
        simp only [Sem.run_bind, hg uy hy hne, Result.andThen_ok]
        obtain ⟨b, hb, hk⟩ := eqIface_sound (w := w) (g := g) hu h .nilI hy
        exact eqlK_sound (fun o ho => iface_bin ho hb (.inr rfl)) hk
    · cases h
  | agg xs =>
    simp only [opBinT] at h
    obtain ⟨ys, rfl, h1⟩ := agg?_some h
    clear h
    obtain ⟨uxs, rfl, _, hrx⟩ := rep_agg hx
    obtain ⟨uys, rfl, _, hry⟩ := rep_agg hy
    split at h1
    · rename_i fs hfs
      obtain ⟨h2, h3⟩ := br_left h1
      simp only [Bool.and_eq_true, Bool.not_eq_true'] at h2
      obtain ⟨h4, h5, h6⟩ := h2
      have hu : P.underlying t = some (.struct (P.fieldsOf t)) ∧ (P.fieldsOf t).toList = fs := by
        unfold tFields at hfs
        unfold Program.fieldsOf
        split at hfs
        · rename_i fa hu
          injection hfs with hfs
          rw [hu]
          exact ⟨rfl, hfs⟩
        · cases hfs
      simp only [Sem.run_bind, run_eqGuard_agg w op t xo yo uxs.toArray uys.toArray h4, Result.andThen_ok]
      obtain ⟨b, hb, hk⟩ := eqFs_sound fs h3 h6 hrx hry
      have he : ∀ d, (Op.equalIn (d + 2) t (.agg uxs.toArray) (.agg uys.toArray)).run P w = .ok b w := fun d => by
        rw [run_equalIn_struct w (d + 1) t _ _ hu.1 h5, hu.2]; exact hb d
      refine eqlK_sound (fun o ho => ?_) hk
      rcases ho with rfl | rfl
      · rw [run_eql_struct, he 9998]; rfl
      · rw [run_neq_struct, he 9998]; rfl
    · cases h1
  | _ => cases h

theorem opUn_sound {op : UnOp} {ux : Value} {x : AV} {k : AV → Option R} (h : opUn op x k = some r) (hx : Rep g w ux x) :
    ∃ u v, (Op.unary op ux).run P w = .ok u w ∧ Rep g w u v ∧ k v = some r := by
  unfold opUn at h
  split at h
  · obtain ⟨i, n, rfl, h⟩ := int?_some h
    obtain rfl := rep_int hx
    exact ⟨_, _, by simp [Op.unary, Op.intArith], .int i (i.wrap (0 - n)), h⟩
  · obtain ⟨i, n, rfl, h⟩ := int?_some h
    obtain rfl := rep_int hx
    exact ⟨_, _, by simp [Op.unary, Op.intBits, bits], .int i (bits .xor i (if i.signed then -1 else i.max) n), h⟩
  · obtain ⟨b, rfl, h⟩ := bool?_some h
    obtain rfl := rep_bool hx
    exact ⟨_, _, by simp [Op.unary], .bool _, h⟩
  · cases h

end ops
end Go.Vai
