/- The operations that only compute. -/
import Derived.Test.YtjipknfohmgjaaaVOp0
import Derived.Laws.Small
import Derived.Laws.Pointers
import Derived.Orders
namespace Go.Vai

section inversions
variable {g : G} {w : World} {u : Value}

theorem rep_int {k : IntKind} {n : Int} (h : Rep g w u (.int k n)) : u = .int k n := by cases h; rfl
theorem rep_bool {b : Bool} (h : Rep g w u (.bool b)) : u = .bool b := by cases h; rfl
theorem rep_str {l : List UInt8} (h : Rep g w u (.str l)) : ∃ s : ByteArray, u = .string s ∧ s.data.toList = l := by cases h; exact ⟨_, rfl, rfl⟩
theorem rep_nilp (h : Rep g w u .nilp) : u = .pointer none := by cases h; rfl
theorem rep_ptr {id off : Nat} (h : Rep g w u (.ptr id off)) : ∃ B, g.role B = .h id ∧ u = .pointer (some ⟨B, off, none⟩) := by cases h; exact ⟨_, ‹_›, rfl⟩
theorem rep_agg {cs : List AV} (h : Rep g w u (.agg cs)) : ∃ us : List Value, u = .agg us.toArray ∧ (∀ x ∈ us, x.oneCell' = true) ∧ RepL g w us cs := by
  cases h; exact ⟨_, rfl, ‹_›, ‹_›, ‹_›⟩
theorem rep_tuple {cs : List AV} (h : Rep g w u (.tuple cs)) : ∃ us : List Value, u = .tuple us.toArray ∧ RepL g w us cs := by
  cases h; exact ⟨_, rfl, ‹_›, ‹_›⟩
theorem rep_func {f : Nat} {cs : List AV} (h : Rep g w u (.func f cs)) : ∃ us : List Value, u = .func (.func f) #[] us.toArray ∧ RepL g w us cs := by
  cases h; exact ⟨_, rfl, ‹_›, ‹_›⟩

end inversions

section br
variable {R : Type}
theorem br_some {b : Bool} {x y : Option R} {r : R} (h : br b x y = some r) : (b = true ∧ x = some r) ∨ (b = false ∧ y = some r) := by
  cases b
  · exact .inr ⟨rfl, h⟩
  · exact .inl ⟨rfl, h⟩
theorem br_left {b : Bool} {x : Option R} {r : R} (h : br b x Option.none = some r) : b = true ∧ x = some r := by
  rcases br_some h with h | ⟨_, h⟩
  · exact h
  · cases h
theorem br_right {b : Bool} {x : Option R} {r : R} (h : br b Option.none x = some r) : b = false ∧ x = some r := by
  rcases br_some h with ⟨_, h⟩ | h
  · cases h
  · exact h
theorem int?_some {v : AV} {k : IntKind → Int → Option R} {r : R} (h : v.int? k = some r) : ∃ i n, v = .int i n ∧ k i n = some r := by
  unfold AV.int? at h
  split at h
  · exact ⟨_, _, rfl, h⟩
  · cases h
theorem bool?_some {v : AV} {k : Bool → Option R} {r : R} (h : v.bool? k = some r) : ∃ b, v = .bool b ∧ k b = some r := by
  unfold AV.bool? at h
  split at h
  · exact ⟨_, rfl, h⟩
  · cases h
theorem str?_some {v : AV} {k : List UInt8 → Option R} {r : R} (h : v.str? k = some r) : ∃ s, v = .str s ∧ k s = some r := by
  unfold AV.str? at h
  split at h
  · exact ⟨_, rfl, h⟩
  · cases h
theorem vs?_some {v : AV} {k : Nat → Bool → List AV → Option R} {r : R} (h : v.vs? k = some r) : ∃ a b c, v = .vs a b c ∧ k a b c = some r := by
  unfold AV.vs? at h
  split at h
  · exact ⟨_, _, _, rfl, h⟩
  · cases h
theorem agg?_some {v : AV} {k : List AV → Option R} {r : R} (h : v.agg? k = some r) : ∃ cs, v = .agg cs ∧ k cs = some r := by
  unfold AV.agg? at h
  split at h
  · exact ⟨_, rfl, h⟩
  · cases h
theorem tup?_some {v : AV} {k : List AV → Option R} {r : R} (h : v.tup? k = some r) : ∃ cs, v = .tuple cs ∧ k cs = some r := by
  unfold AV.tup? at h
  split at h
  · exact ⟨_, rfl, h⟩
  · cases h
theorem func?_some {v : AV} {k : Nat → List AV → Option R} {r : R} (h : v.func? k = some r) : ∃ f c, v = .func f c ∧ k f c = some r := by
  unfold AV.func? at h
  split at h
  · exact ⟨_, _, rfl, h⟩
  · cases h
theorem bind_some' {α : Type} {x : Option α} {k : α → Option R} {r : R} (h : x.bind k = some r) : ∃ y, x = some y ∧ k y = some r := by
  cases x with
  | none => cases h
  | some y => exact ⟨y, rfl, h⟩
end br

theorem eqS_eq : ∀ (a b : List UInt8), eqS a b = (a == b)
  | [], [] => rfl
  | [], _ :: _ => rfl
  | _ :: _, [] => rfl
  | a :: l, b :: m => by
    rw [eqS, eqS_eq l m]
    by_cases h : a = b
    · subst h; simp
    · have h' : Nat.beq a.toNat b.toNat = false := by
        cases hb : Nat.beq a.toNat b.toNat with
        | false => rfl
        | true => exact absurd (UInt8.toNat_inj.1 (Nat.eq_of_beq_eq_true hb)) h
      rw [h']
      simp [h]

theorem mk_toList (s : ByteArray) : (⟨s.data.toList.toArray⟩ : ByteArray) = s := by cases s; simp

theorem rep_str_mk {g : G} {w : World} (l : List UInt8) : Rep g w (.string ⟨l.toArray⟩) (.str l) := by
  have := Rep.str (g := g) (w := w) ⟨l.toArray⟩
  simpa using this

theorem sameKind_eq {i j : IntKind} (h : sameKind i j = true) : i = j := by cases i <;> cases j <;> first | rfl | cases h

section ops
variable {P : Program} {g : G} {w : World} {R : Type} {r : R}

theorem opInt_sound {op : BinOp} {i : IntKind} {x y : Int} {k : AV → Option R} (t : TypeId) (h : opInt op i x y k = some r) :
    ∃ u v, (binOp op t (.int i x) (.int i y)).run P w = .ok u w ∧ Rep g w u v ∧ k v = some r := by
  cases op <;> simp only [opInt] at h
  case add => exact ⟨_, _, by simp [binOp, Op.intArith], .int _ _, h⟩
  case sub => exact ⟨_, _, by simp [binOp, Op.intArith], .int _ _, h⟩
  case mul => exact ⟨_, _, by simp [binOp, Op.intArith], .int _ _, h⟩
  case quo =>
    obtain ⟨h0, h⟩ := br_right h
    have h0' : ¬ y = 0 := by simpa using h0
    exact ⟨_, _, by simp [binOp, Op.intDiv, h0'], .int _ _, h⟩
  case rem =>
    obtain ⟨h0, h⟩ := br_right h
    have h0' : ¬ y = 0 := by simpa using h0
    exact ⟨_, _, by simp [binOp, Op.intDiv, h0'], .int _ _, h⟩
  case and => exact ⟨_, _, by simp [binOp, Op.intBits, bits], .int _ _, h⟩
  case or => exact ⟨_, _, by simp [binOp, Op.intBits, bits], .int _ _, h⟩
  case xor => exact ⟨_, _, by simp [binOp, Op.intBits, bits], .int _ _, h⟩
  case andNot => exact ⟨_, _, by simp [binOp, Op.intBits, bits], .int _ _, h⟩
  case eql => exact ⟨_, _, by simp only [binOp, Op.intCmp, ne_eq, not_true_eq_false, ↓reduceIte, Sem.run_pure]; rfl, .bool (decide (x = y)), h⟩
  case neq => exact ⟨_, _, by simp only [binOp, Op.intCmp, ne_eq, not_true_eq_false, ↓reduceIte, Sem.run_pure, bne]; rfl, .bool (!decide (x = y)), h⟩
  case lss => exact ⟨_, _, by simp [binOp, Op.intCmp], .bool (decide (x < y)), h⟩
  case leq => exact ⟨_, _, by simp [binOp, Op.intCmp], .bool (decide (x ≤ y)), h⟩
  case gtr => exact ⟨_, _, by simp [binOp, Op.intCmp], .bool (decide (y < x)), h⟩
  case geq => exact ⟨_, _, by simp [binOp, Op.intCmp], .bool (decide (y ≤ x)), h⟩
  all_goals cases h

theorem opStr_sound {op : BinOp} {x y : ByteArray} {k : AV → Option R} (t : TypeId) (h : opStr op x.data.toList y.data.toList k = some r) :
    ∃ u v, (binOp op t (.string x) (.string y)).run P w = .ok u w ∧ Rep g w u v ∧ k v = some r := by
  have hx := ByteArray.toList_eq x
  have hy := ByteArray.toList_eq y
  have he := eqS_eq x.data.toList y.data.toList
  cases op <;> simp only [opStr] at h
  case add =>
    obtain ⟨h0, h⟩ := br_left h
    have h0' := Nat.le_of_ble_eq_true h0
    have hs : ¬ (((x.size + y.size : Nat) : Int) > IntKind.i64.max) := by
      have e1 : x.size = x.data.toList.length := by rw [Array.length_toList]; rfl
      have e2 : y.size = y.data.toList.length := by rw [Array.length_toList]; rfl
      have e3 : IntKind.i64.max = 9223372036854775807 := rfl
      omega
    refine ⟨.string (x ++ y), .str (x.data.toList ++ y.data.toList), ?_, ?_, h⟩
    · simp only [binOp, Op.stringOp, if_neg hs, Sem.run_pure]
    · have := Rep.str (g := g) (w := w) (x ++ y)
      rw [ByteArray.data_append, Array.toList_append] at this
      exact this
  case eql => exact ⟨_, _, by rw [binOp_string_eql, Sem.run_pure, hx, hy], .bool _, by rw [← he]; exact h⟩
  case neq => exact ⟨_, _, by rw [binOp_string_neq, Sem.run_pure, hx, hy, ← he], .bool _, h⟩
  case lss => exact ⟨_, _, by rw [binOp_string_lss, Sem.run_pure, hx, hy], .bool _, h⟩
  case leq => exact ⟨_, _, by rw [show binOp .leq t (.string x) (.string y) = pure (.bool (Op.bytesLess x.toList y.toList || x.toList == y.toList)) from by simp [binOp, Op.stringOp], Sem.run_pure, hx, hy, ← he], .bool _, h⟩
  case gtr => exact ⟨_, _, by rw [show binOp .gtr t (.string x) (.string y) = pure (.bool !(Op.bytesLess x.toList y.toList || x.toList == y.toList)) from by simp [binOp, Op.stringOp], Sem.run_pure, hx, hy, ← he], .bool _, h⟩
  case geq => exact ⟨_, _, by rw [show binOp .geq t (.string x) (.string y) = pure (.bool !(Op.bytesLess x.toList y.toList)) from by simp [binOp, Op.stringOp], Sem.run_pure, hx, hy], .bool _, h⟩
  all_goals cases h

theorem eqGuard_skip {op : BinOp} {t : TypeId} {x y : Operand} {a b : Value} (h : ∀ cs, a ≠ .agg cs) (h2 : a ≠ .nilIface) : (eqGuard op t x y a b).run P w = .ok () w := by
  unfold eqGuard
  cases op <;> first
    | (simp; done)
    | (cases a <;> first | exact absurd rfl (h _) | exact absurd rfl h2 | (simp; done) | (cases b <;> simp))

theorem opBinT_sound {op : BinOp} {t : TypeId} {xo yo : Operand} {ux uy : Value} {x y : AV} {k : AV → Option R} (h : opBinT P op t x y k = some r)
    (hx : Rep g w ux x) (hy : Rep g w uy y) : ∃ u v, (do eqGuard op t xo yo ux uy; binOp op t ux uy : Sem Value).run P w = .ok u w ∧ Rep g w u v ∧ k v = some r := by
  cases x with
  | bool b1 =>
    simp only [opBinT] at h
    obtain ⟨b2, rfl, h⟩ := bool?_some h
    obtain rfl := rep_bool hx
    obtain rfl := rep_bool hy
    simp only [Sem.run_bind, eqGuard_skip (P := P) (w := w) (a := Value.bool b1) (by simp) (by simp), Result.andThen_ok]
    split at h
    · rename_i hu
      split at h
      · exact ⟨_, _, run_eql_bool w t b1 b2 hu, .bool _, h⟩
      · exact ⟨_, _, run_neq_bool w t b1 b2 hu, .bool _, h⟩
      · cases h
    · cases h
  | nilp =>
    obtain rfl := rep_nilp hx
    simp only [Sem.run_bind, eqGuard_skip (P := P) (w := w) (a := Value.pointer none) (by simp) (by simp), Result.andThen_ok]
    cases y with
    | nilp =>
      simp only [opBinT] at h
      obtain rfl := rep_nilp hy
      split at h
      · rename_i e hu
        have hu' : P.underlying t = some (.pointer (P.pointee t)) := by rw [hu]; simp [Program.pointee, hu]
        split at h
        · exact ⟨_, _, run_eql_pointer_nil w t none hu', .bool true, h⟩
        · exact ⟨_, _, run_neq_pointer_nil w t none hu', .bool false, h⟩
        · cases h
      · cases h
    | _ => cases h
  | ptr id off =>
    obtain ⟨B, hB, rfl⟩ := rep_ptr hx
    simp only [Sem.run_bind, eqGuard_skip (P := P) (w := w) (a := Value.pointer (some ⟨B, off, none⟩)) (by simp) (by simp), Result.andThen_ok]
    cases y with
    | nilp =>
      simp only [opBinT] at h
      obtain rfl := rep_nilp hy
      split at h
      · rename_i e hu
        have hu' : P.underlying t = some (.pointer (P.pointee t)) := by rw [hu]; simp [Program.pointee, hu]
        split at h
        · exact ⟨_, _, run_eql_pointer_nil w t (some ⟨B, off, none⟩) hu', .bool false, h⟩
        · exact ⟨_, _, run_neq_pointer_nil w t (some ⟨B, off, none⟩) hu', .bool true, h⟩
        · cases h
      · cases h
    | _ => cases h
  | int i a =>
    simp only [opBinT, opBin] at h
    obtain ⟨j, b, rfl, h⟩ := int?_some h
    obtain rfl := rep_int hx
    obtain rfl := rep_int hy
    simp only [Sem.run_bind, eqGuard_skip (P := P) (w := w) (a := Value.int i a) (by simp) (by simp), Result.andThen_ok]
    split at h
    · obtain ⟨h0, h⟩ := br_right h
      have h0' : ¬ b < 0 := by simpa using h0
      exact ⟨_, _, by simp [binOp, Op.shift, h0']; rfl, .int _ _, h⟩
    · obtain ⟨h0, h⟩ := br_right h
      have h0' : ¬ b < 0 := by simpa using h0
      exact ⟨_, _, by simp [binOp, Op.shift, h0']; rfl, .int _ _, h⟩
    · obtain ⟨h0, h1⟩ := br_left (show br (sameKind i j) (opInt op i a b k) Option.none = some r from h)
      obtain rfl := sameKind_eq h0
      exact opInt_sound t h1
  | str s =>
    simp only [opBinT, opBin] at h
    obtain ⟨b, rfl, h⟩ := str?_some h
    obtain ⟨s1, rfl, rfl⟩ := rep_str hx
    obtain ⟨s2, rfl, rfl⟩ := rep_str hy
    simp only [Sem.run_bind, eqGuard_skip (P := P) (w := w) (a := Value.string s1) (by simp) (by simp), Result.andThen_ok]
    exact opStr_sound t h
  | _ => cases h

theorem opUn_sound {op : UnOp} {ux : Value} {x : AV} {k : AV → Option R} (h : opUn op x k = some r) (hx : Rep g w ux x) :
    ∃ u v, (Op.unary op ux).run P w = .ok u w ∧ Rep g w u v ∧ k v = some r := by
  unfold opUn at h
  split at h
  · obtain ⟨i, n, rfl, h⟩ := int?_some h
    obtain rfl := rep_int hx
    exact ⟨_, _, by simp [Op.unary, Op.intArith], .int i (i.wrap (0 - n)), h⟩
  · obtain ⟨i, n, rfl, h⟩ := int?_some h
    obtain rfl := rep_int hx
    exact ⟨_, _, by simp [Op.unary, Op.intBits, bits], .int i (bits .xor i (if i.signed then -1 else i.max) n), h⟩
  · obtain ⟨b, rfl, h⟩ := bool?_some h
    obtain rfl := rep_bool hx
    exact ⟨_, _, by simp [Op.unary], .bool _, h⟩
  · cases h

end ops
end Go.Vai
