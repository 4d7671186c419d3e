/- WireSequence: what the law computes is true. -/
import Derived.Test.YtfdijfnmloddcaaWPs
import Derived.Test.YtfdijfnmloddcaaWP11
import Derived.Test.YtfdijfnmloddcaaWLaw12
namespace Go.Proofs.Ytfdijfnmloddcaa
open Go Go.Vai

def intAV (x : Int) : AV := .int .i64 x
def strAV (s : List UInt8) : AV := .str s
def boolAV (c : Bool) : AV := .bool c
/-- what is written -/
def e1 (l : List Int) : List UInt8 := l.flatMap fun x => encB (zz x)
def e2 (l : List (List UInt8)) : List UInt8 := l.flatMap encS
def e3 (l : List Bool) : List UInt8 := l.flatMap oneByte

theorem e1_len : ∀ l : List Int, (∀ x ∈ l, I64 x) → (e1 l).length ≤ 10 * l.length
  | [], _ => Nat.le_refl _
  | x :: l, h => by
    have h1 := e1_len l fun y hy => h y (List.mem_cons_of_mem _ hy)
    have h2 := len_le 9 (zz x) (by have := zz_lt (h x List.mem_cons_self); omega)
    unfold e1 at *
    simp only [List.flatMap_cons, List.length_append, List.length_cons]
    omega
theorem encS_len {s : List UInt8} (h : s.length ≤ 300) : (encS s).length ≤ 310 := by
  have := len_le 9 s.length (by omega)
  simp only [encS, List.length_append]
  omega
theorem e2_len : ∀ l : List (List UInt8), (∀ s ∈ l, s.length ≤ 300) → (e2 l).length ≤ 310 * l.length
  | [], _ => Nat.le_refl _
  | x :: l, h => by
    have h1 := e2_len l fun y hy => h y (List.mem_cons_of_mem _ hy)
    have h2 := encS_len (h x List.mem_cons_self)
    unfold e2 at *
    simp only [List.flatMap_cons, List.length_append, List.length_cons]
    omega
theorem e3_len : ∀ l : List Bool, (e3 l).length = l.length
  | [] => rfl
  | x :: l => by
    have h1 := e3_len l
    unfold e3 at *
    have h2 : (oneByte x).length = 1 := by cases x <;> rfl
    simp only [List.flatMap_cons, List.length_append, List.length_cons]
    omega
theorem e1_snoc (p : List Int) (x : Int) : e1 (p ++ [x]) = e1 p ++ encB (zz x) := by simp [e1]
theorem e2_snoc (p : List (List UInt8)) (x : List UInt8) : e2 (p ++ [x]) = e2 p ++ encS x := by simp [e2]
theorem e3_snoc (p : List Bool) (x : Bool) : e3 (p ++ [x]) = e3 p ++ oneByte x := by simp [e3]

theorem nth_mid {T : Type} (f : T → AV) (p : List T) (x : T) (r : List T) : nth ((p ++ x :: r).map f) (Int.toNat (p.length : Int)) = some (f x) := by
  rw [Int.toNat_natCast, nth_get]
  simp
theorem rest_of (p q : List UInt8) : List.drop (Int.toNat (p.length : Int)) (List.take ((p ++ q).map byteAV).length ((p ++ q).map byteAV)) = q.map byteAV := by
  rw [Int.toNat_natCast, List.take_length, ← List.map_drop, List.drop_left' rfl]
theorem decBool_one (c : Bool) (q : List UInt8) : decBool (oneByte c ++ q) = .tuple [.bool c, .int .i64 1, .int .i64 0] := by
  cases c <;> rfl
theorem next_i64 (n : Nat) (h : n < 1000000) : IntKind.wrap .i64 ((n : Int) + 1) = ((n + 1 : Nat) : Int) := by
  rw [show ((n : Int) + 1) = ((n + 1 : Nat) : Int) by omega]; exact wrap_i64 _ (by omega)
theorem sum_i64 (n m : Nat) (h : n + m < 1000000000000) : IntKind.wrap .i64 ((n : Int) + (m : Int)) = ((n + m : Nat) : Int) := by
  rw [show ((n : Int) + (m : Int)) = ((n + m : Nat) : Int) by omega]; exact wrap_i64 _ (by omega)
theorem dif_i64 (n m : Nat) (h : n < 1000000000000) (hm : m ≤ n) : IntKind.wrap .i64 ((n : Int) - (m : Int)) = ((n - m : Nat) : Int) := by
  rw [show ((n : Int) - (m : Int)) = ((n - m : Nat) : Int) by omega]; exact wrap_i64 _ (by omega)

attribute [local irreducible] midRun goTo bodyOf mkS run

/-- the bools are read -/
theorem q6 (cal : Oracle) (h13 : Has13 cal) (h26 : Has26 26 cal) (H : Hp) (nx : Nat) (tg2 tg7 : Bool) (pre : List UInt8) (hpre : pre.length ≤ 20000) : ∀ (r p : List Bool), (p ++ r).length ≤ 40 →
    Ev cal 12 (goTo [0, 5, 0, 0, 5, 7, 5, 0, 5, 0, 0, 5, 2, 3, 0, 0, 5, 7, 5, 5, 5, 5, 0, 0, 5, 2, 3, 0, 0, 5, 7, 5, 5, 5, 5, 0, 0, 5, 2, 3, 0, 0, 5, 7, 5, 5, 5, 5, 0, 5, 0, 0, 5, 2, 3, 0, 0, 5, 7, 5, 5, 5, 5, 0, 0, 5, 2, 3, 0, 0, 5, 7, 5, 5, 5, 5, 0, 0, 5, 2, 3] (bodyOf 12)) (mkS 205 [(2, .val (.vs 1 tg2 ((p ++ r).map boolAV)) .no), (7, .val (.vs 1 tg7 ((pre ++ e3 (p ++ r)).map byteAV)) .own), (11, .val (.int .i64 (((pre ++ e3 p).length : Nat) : Int)) .no), (20, .val (.int .i64 (p.length : Int)) .no)] H nx) ⟨.bool true, H, nx⟩
  | [], p, hl => by
    have h13' : cal 13 [] Hp.none 0 = some ⟨.bool true, Hp.none, 0⟩ := h13
    refine Ev.stage 9 (fun n => s12_18 cal n H nx _ _ _ _ _ _) ?_
    refine EvF.congr (EvF.mid (r := 2) 1 (fun n => s12_21 cal n H nx tg2 ((p ++ []).map boolAV) tg7 ((pre ++ e3 (p ++ [])).map byteAV) (((pre ++ e3 p).length : Nat) : Int) (p.length : Int)) (EvF.stage fun n => rfl)) fun n => ?_
    rw [br_df (by simp), br_dt (by simp), br_t (by rfl), h13', Option.bind_some, br_t (by rfl)]
  | x :: r, p, hl => by
    have he := e3_len (p ++ x :: r)
    have hep := e3_len p
    have hsplit : pre ++ e3 (p ++ x :: r) = (pre ++ e3 p) ++ (oneByte x ++ e3 r) := by simp [e3]
    have h1 : (oneByte x).length = 1 := by cases x <;> rfl
    have hat : (pre ++ e3 p).length = pre.length + p.length := by rw [List.length_append, hep]
    have hbl : ((pre ++ e3 (p ++ x :: r)).map byteAV).length = pre.length + (p.length + (r.length + 1)) := by rw [List.length_map, List.length_append, he, List.length_append, List.length_cons]
    have hpl : p.length + (r.length + 1) ≤ 40 := by simpa using hl
    have ih := q6 cal h13 h26 H nx tg2 tg7 pre hpre r (p ++ [x]) (by simpa using hl)
    rw [List.append_assoc, List.singleton_append] at ih
    have hcal := h26 (oneByte x ++ e3 r) tg7
    rw [decBool_one] at hcal
    have a3 := EvF.mid (r := 0) 6 (fun n => s12_22 cal n H nx tg2 ((p ++ x :: r).map boolAV) tg7 ((pre ++ e3 (p ++ x :: r)).map byteAV) (((pre ++ e3 p).length : Nat) : Int) (p.length : Int) x 1 0 x) ((ih.at 0).congr fun n => by
      rw [br_f (by simp), br_f (by simp), br_df (by rw [hbl, hat, dif_i64 _ _ (by omega) (by omega)]; omega), br_f (by simp)]
      rw [next_i64 p.length (by omega), next_i64 (pre ++ e3 p).length (by omega), e3_snoc]
      simp only [List.length_append, h1, List.length_singleton, Nat.add_assoc]
      rfl)
    have a2 := EvF.mid (r := 0) 3 (fun n => s12_20 cal n H nx tg2 ((p ++ x :: r).map boolAV) tg7 ((pre ++ e3 (p ++ x :: r)).map byteAV) (((pre ++ e3 p).length : Nat) : Int) (p.length : Int) x 1 0) (a3.congr fun n => by
      rw [br_dt (by omega), br_dt (by simp; omega), nth_mid, Option.bind_some]
      rfl)
    refine Ev.stage 9 (fun n => s12_18 cal n H nx _ _ _ _ _ _) (a2.congr fun n => ?_)
    rw [br_dt (by simp; omega), br_dt (by omega), br_dt (by rw [hbl, hat]; omega)]
    rw [show List.drop (Int.toNat (((pre ++ e3 p).length : Nat) : Int)) (List.take ((pre ++ e3 (p ++ x :: r)).map byteAV).length ((pre ++ e3 (p ++ x :: r)).map byteAV)) = (oneByte x ++ e3 r).map byteAV by rw [hsplit]; exact rest_of _ _]
    rw [br_t (by exact pureL_vs (pure_bytes _) rfl), hcal, Option.bind_some, br_t (by rfl)]
    rfl

/-- the strings are read -/
theorem q5 (cal : Oracle) (h13 : Has13 cal) (h23 : HasS 23 cal) (h26 : Has26 26 cal) (H : Hp) (nx : Nat) (tg1 tg2 tg7 : Bool) (pre : List UInt8) (hpre : pre.length ≤ 400) (vs : List Bool) (hvs : vs.length ≤ 40) : ∀ (r p : List (List UInt8)), (p ++ r).length ≤ 40 → (∀ s ∈ p ++ r, s.length ≤ 300) →
    Ev cal 12 (goTo [0, 5, 0, 0, 5, 7, 5, 0, 5, 0, 0, 5, 2, 3, 0, 0, 5, 7, 5, 5, 5, 5, 0, 0, 5, 2, 3, 0, 0, 5, 7, 5, 5, 5, 5, 0, 0, 5, 2, 3, 0, 0, 5, 7, 5, 5, 5, 5, 0, 5, 0, 0, 5, 2, 3, 0, 0, 5, 7, 5, 5, 5, 5, 0, 0, 5, 2, 3] (bodyOf 12)) (mkS 205 [(1, .val (.vs 1 tg1 ((p ++ r).map strAV)) .no), (2, .val (.vs 1 tg2 (vs.map boolAV)) .no), (7, .val (.vs 1 tg7 ((pre ++ e2 (p ++ r) ++ e3 vs).map byteAV)) .own), (11, .val (.int .i64 (((pre ++ e2 p).length : Nat) : Int)) .no), (16, .val (.int .i64 (p.length : Int)) .no)] H nx) ⟨.bool true, H, nx⟩
  | [], p, hl, hs => by
    have hlen := e2_len (p ++ []) hs
    rw [List.append_nil] at hlen hs hl ⊢
    refine Ev.stage 10 (fun n => s12_15 cal n H nx _ _ _ _ _ _ _ _) ?_
    have := q6 cal h13 h26 H nx tg2 tg7 (pre ++ e2 p) (by simp; omega) vs [] (by simpa using hvs)
    refine (this.at 0).congr fun n => ?_
    rw [br_df (by simp)]
    simp only [List.nil_append, e3, List.flatMap_nil, List.append_nil, List.length_nil]
    rfl
  | x :: r, p, hl, hs => by
    have he := e2_len (p ++ x :: r) hs
    have hep := e2_len p fun s h => hs s (List.mem_append_left _ h)
    have hx : x.length ≤ 300 := hs x (List.mem_append_right _ List.mem_cons_self)
    have hsplit : pre ++ e2 (p ++ x :: r) ++ e3 vs = (pre ++ e2 p) ++ (encS x ++ (e2 r ++ e3 vs)) := by simp [e2]
    have h1 : 1 ≤ (encS x).length := by have := len_pos x.length; simp [encS]; omega
    have h2 := encS_len hx
    have hlenx : (e2 (p ++ x :: r)).length = (e2 p).length + (encS x).length + (e2 r).length := by simp [e2]; omega
    have hv := e3_len vs
    have hpl : (p ++ x :: r).length ≤ 40 := hl
    have ih := q5 cal h13 h23 h26 H nx tg1 tg2 tg7 pre hpre vs hvs r (p ++ [x]) (by simpa using hl) (by simpa using hs)
    rw [List.append_assoc p [x] r, List.singleton_append] at ih
    have hcal := h23 (encS x ++ (e2 r ++ e3 vs)) tg7 (by simp only [List.length_append, List.length_cons] at *; have : maxBytes = 140737488355328 := rfl; omega)
    rw [duS_enc x (by omega)] at hcal
    have hbl : ((pre ++ e2 (p ++ x :: r) ++ e3 vs).map byteAV).length = pre.length + (e2 p).length + (encS x).length + (e2 r).length + vs.length := by
      rw [List.length_map, List.length_append, List.length_append, hlenx, hv]; omega
    have hat : (pre ++ e2 p).length = pre.length + (e2 p).length := List.length_append
    have a3 := EvF.mid (r := 0) 6 (fun n => s12_19 cal n H nx tg1 ((p ++ x :: r).map strAV) tg2 (vs.map boolAV) tg7 ((pre ++ e2 (p ++ x :: r) ++ e3 vs).map byteAV) (((pre ++ e2 p).length : Nat) : Int) (p.length : Int) x (((encS x).length : Nat) : Int) 0 x) ((ih.at 0).congr fun n => by
      rw [br_f (by rw [eqS_refl]; rfl), br_df (by omega), br_df (by rw [hbl, hat, dif_i64 _ _ (by omega) (by omega)]; omega), br_f (by simp)]
      rw [next_i64 p.length (by simp at hpl; omega), sum_i64 _ _ (by omega), e2_snoc]
      simp only [List.length_append, List.length_singleton, Nat.add_assoc]
      rfl)
    have a2 := EvF.mid (r := 1) 3 (fun n => s12_17 cal n H nx tg1 ((p ++ x :: r).map strAV) tg2 (vs.map boolAV) tg7 ((pre ++ e2 (p ++ x :: r) ++ e3 vs).map byteAV) (((pre ++ e2 p).length : Nat) : Int) (p.length : Int) x (((encS x).length : Nat) : Int) 0) (a3.congr fun n => by
      rw [br_dt (by omega), br_dt (by simp; omega), nth_mid, Option.bind_some]
      rfl)
    refine Ev.stage 10 (fun n => s12_15 cal n H nx _ _ _ _ _ _ _ _) (a2.congr fun n => ?_)
    rw [br_dt (by simp; omega), br_dt (by omega), br_dt (by rw [hbl, hat]; omega)]
    rw [show List.drop (Int.toNat (((pre ++ e2 p).length : Nat) : Int)) (List.take ((pre ++ e2 (p ++ x :: r) ++ e3 vs).map byteAV).length ((pre ++ e2 (p ++ x :: r) ++ e3 vs).map byteAV)) = (encS x ++ (e2 r ++ e3 vs)).map byteAV by rw [hsplit]; exact rest_of _ _]
    rw [br_t (by exact pureL_vs (pure_bytes _) rfl), hcal, Option.bind_some, br_t (by rfl)]
    rfl

/-- the numbers are read -/
theorem q4 (cal : Oracle) (h13 : Has13 cal) (h19 : HasI 19 cal) (h23 : HasS 23 cal) (h26 : Has26 26 cal) (H : Hp) (nx : Nat) (tg0 tg1 tg2 tg7 : Bool) (ss : List (List UInt8)) (hss : ss.length ≤ 40) (hs3 : ∀ s ∈ ss, s.length ≤ 300) (vs : List Bool) (hvs : vs.length ≤ 40) : ∀ (r p : List Int), (p ++ r).length ≤ 40 → (∀ x ∈ p ++ r, I64 x) →
    Ev cal 12 (goTo [0, 5, 0, 0, 5, 7, 5, 0, 5, 0, 0, 5, 2, 3, 0, 0, 5, 7, 5, 5, 5, 5, 0, 0, 5, 2, 3, 0, 0, 5, 7, 5, 5, 5, 5, 0, 0, 5, 2, 3, 0, 0, 5, 7, 5, 5, 5, 5, 0, 5, 0, 0, 5, 2, 3] (bodyOf 12)) (mkS 205 [(0, .val (.vs 1 tg0 ((p ++ r).map intAV)) .no), (1, .val (.vs 1 tg1 (ss.map strAV)) .no), (2, .val (.vs 1 tg2 (vs.map boolAV)) .no), (7, .val (.vs 1 tg7 ((e1 (p ++ r) ++ e2 ss ++ e3 vs).map byteAV)) .own), (11, .val (.int .i64 (((e1 p).length : Nat) : Int)) .no), (12, .val (.int .i64 (p.length : Int)) .no)] H nx) ⟨.bool true, H, nx⟩
  | [], p, hl, hi => by
    have hlen := e1_len (p ++ []) hi
    rw [List.append_nil] at hlen hi hl ⊢
    refine Ev.stage 10 (fun n => s12_11 cal n H nx _ _ _ _ _ _ _ _ _ _) ?_
    have := q5 cal h13 h23 h26 H nx tg1 tg2 tg7 (e1 p) (by omega) vs hvs ss [] (by simpa using hss) (by simpa using hs3)
    refine (this.at 0).congr fun n => ?_
    rw [br_df (by simp)]
    simp only [List.nil_append, e2, List.flatMap_nil, List.append_nil, List.length_nil]
    rfl
  | x :: r, p, hl, hi => by
    have he := e1_len (p ++ x :: r) hi
    have he2 := e2_len ss hs3
    have hx : I64 x := hi x (List.mem_append_right _ List.mem_cons_self)
    have hsplit : e1 (p ++ x :: r) ++ e2 ss ++ e3 vs = e1 p ++ (encB (zz x) ++ (e1 r ++ e2 ss ++ e3 vs)) := by simp [e1]
    have h1 : 1 ≤ (encB (zz x)).length := len_pos _
    have hlenx : (e1 (p ++ x :: r)).length = (e1 p).length + (encB (zz x)).length + (e1 r).length := by simp [e1]; omega
    have hv := e3_len vs
    have hpl : (p ++ x :: r).length ≤ 40 := hl
    have ih := q4 cal h13 h19 h23 h26 H nx tg0 tg1 tg2 tg7 ss hss hs3 vs hvs r (p ++ [x]) (by simpa using hl) (by simpa using hi)
    rw [List.append_assoc p [x] r, List.singleton_append] at ih
    have hcal := h19 (encB (zz x) ++ (e1 r ++ e2 ss ++ e3 vs)) tg7
    rw [duI_enc x hx] at hcal
    have hbl : ((e1 (p ++ x :: r) ++ e2 ss ++ e3 vs).map byteAV).length = (e1 p).length + (encB (zz x)).length + (e1 r).length + (e2 ss).length + vs.length := by
      rw [List.length_map, List.length_append, List.length_append, hlenx, hv]
    have a3 := EvF.mid (r := 0) 6 (fun n => s12_16 cal n H nx tg0 ((p ++ x :: r).map intAV) tg1 (ss.map strAV) tg2 (vs.map boolAV) tg7 ((e1 (p ++ x :: r) ++ e2 ss ++ e3 vs).map byteAV) (((e1 p).length : Nat) : Int) (p.length : Int) x (((encB (zz x)).length : Nat) : Int) 0 x) ((ih.at 0).congr fun n => by
      rw [br_f (by simp), br_df (by omega), br_df (by rw [hbl, dif_i64 _ _ (by omega) (by omega)]; omega), br_f (by simp)]
      rw [next_i64 p.length (by simp at hpl; omega), sum_i64 _ _ (by omega), e1_snoc]
      simp only [List.length_append, List.length_singleton]
      rfl)
    have a2 := EvF.mid (r := 1) 3 (fun n => s12_14 cal n H nx tg0 ((p ++ x :: r).map intAV) tg1 (ss.map strAV) tg2 (vs.map boolAV) tg7 ((e1 (p ++ x :: r) ++ e2 ss ++ e3 vs).map byteAV) (((e1 p).length : Nat) : Int) (p.length : Int) x (((encB (zz x)).length : Nat) : Int) 0) (a3.congr fun n => by
      rw [br_dt (by omega), br_dt (by simp; omega), nth_mid, Option.bind_some]
      rfl)
    refine Ev.stage 10 (fun n => s12_11 cal n H nx _ _ _ _ _ _ _ _ _ _) (a2.congr fun n => ?_)
    rw [br_dt (by simp; omega), br_dt (by omega), br_dt (by rw [hbl]; omega)]
    rw [show List.drop (Int.toNat (((e1 p).length : Nat) : Int)) (List.take ((e1 (p ++ x :: r) ++ e2 ss ++ e3 vs).map byteAV).length ((e1 (p ++ x :: r) ++ e2 ss ++ e3 vs).map byteAV)) = (encB (zz x) ++ (e1 r ++ e2 ss ++ e3 vs)).map byteAV by rw [hsplit]; exact rest_of _ _]
    rw [br_t (by exact pureL_vs (pure_bytes _) rfl), hcal, Option.bind_some, br_t (by rfl)]
    rfl

/-- the bools are written -/
theorem q3 (cal : Oracle) (h13 : Has13 cal) (h19 : HasI 19 cal) (h23 : HasS 23 cal) (h26 : Has26 26 cal) (h28 : Has28 28 cal) (H : Hp) (nx : Nat) (tg0 tg1 tg2 : Bool) (l : List Int) (hl1 : l.length ≤ 40) (hl2 : ∀ x ∈ l, I64 x) (ss : List (List UInt8)) (hss : ss.length ≤ 40) (hs3 : ∀ s ∈ ss, s.length ≤ 300) : ∀ (r p : List Bool) (tg7 : Bool), (p ++ r).length ≤ 40 →
    Ev cal 12 (goTo [0, 5, 0, 0, 5, 7, 5, 0, 5, 0, 0, 5, 2, 3, 0, 0, 5, 7, 5, 5, 5, 5, 0, 0, 5, 2, 3, 0, 0, 5, 7, 5, 5, 5, 5, 0, 0, 5, 2, 3] (bodyOf 12)) (mkS 205 [(0, .val (.vs 1 tg0 (l.map intAV)) .no), (1, .val (.vs 1 tg1 (ss.map strAV)) .no), (2, .val (.vs 1 tg2 ((p ++ r).map boolAV)) .no), (7, .val (.vs 1 tg7 ((e1 l ++ e2 ss ++ e3 p).map byteAV)) .own), (10, .val (.int .i64 (p.length : Int)) .no)] H nx) ⟨.bool true, H, nx⟩
  | [], p, tg7, hl => by
    rw [List.append_nil] at hl ⊢
    refine Ev.stage 12 (fun n => s12_7 cal n H nx _ _ _ _ _ _ _ _ _) ?_
    have := q4 cal h13 h19 h23 h26 H nx tg0 tg1 tg2 tg7 ss hss hs3 p hl l [] (by simpa using hl1) (by simpa using hl2)
    refine (this.at 0).congr fun n => ?_
    rw [br_df (by simp)]
    simp only [List.nil_append, e1, List.flatMap_nil, List.length_nil]
    rfl
  | x :: r, p, tg7, hl => by
    have ih := q3 cal h13 h19 h23 h26 h28 H nx tg0 tg1 tg2 l hl1 hl2 ss hss hs3 r (p ++ [x]) false (by simpa using hl)
    rw [List.append_assoc p [x] r, List.singleton_append] at ih
    have he := e1_len l hl2
    have he2 := e2_len ss hs3
    have hv := e3_len p
    have hpl : (p ++ x :: r).length ≤ 40 := hl
    have hcal := h28 ((e1 l ++ e2 ss ++ e3 p).map byteAV) tg7 x (by simp at *; have : maxBytes = 140737488355328 := rfl; omega)
    have a3 := EvF.mid (r := 0) 3 (fun n => s12_13 cal n H nx tg0 (l.map intAV) tg1 (ss.map strAV) tg2 ((p ++ x :: r).map boolAV) tg7 ((e1 l ++ e2 ss ++ e3 p).map byteAV) (p.length : Int) x ((e1 l ++ e2 ss ++ e3 p).map byteAV ++ (oneByte x).map byteAV)) ((ih.at 0).congr fun n => by
      rw [next_i64 p.length (by simp at hpl; omega), e3_snoc, ← List.map_append, List.append_assoc]
      simp only [List.length_append, List.length_singleton, List.append_assoc]
      rfl)
    have a2 := EvF.mid (r := 4) 0 (fun n => s12_10 cal n H nx tg0 (l.map intAV) tg1 (ss.map strAV) tg2 ((p ++ x :: r).map boolAV) tg7 ((e1 l ++ e2 ss ++ e3 p).map byteAV) (p.length : Int) x) (a3.congr fun n => by
      rw [br_t (by exact pureL_vs (pure_bytes _) (pureL_bool rfl)), hcal, Option.bind_some, br_t (by exact pure_app _ _)]
      rfl)
    refine Ev.stage 12 (fun n => s12_7 cal n H nx _ _ _ _ _ _ _ _ _) (a2.congr fun n => ?_)
    rw [br_dt (by simp; omega), br_dt (by omega), br_dt (by simp; omega), nth_mid, Option.bind_some]
    rfl

/-- the strings are written -/
theorem q2 (cal : Oracle) (h13 : Has13 cal) (h19 : HasI 19 cal) (h22 : HasAS 22 cal) (h23 : HasS 23 cal) (h26 : Has26 26 cal) (h28 : Has28 28 cal) (H : Hp) (nx : Nat) (tg0 tg1 tg2 : Bool) (l : List Int) (hl1 : l.length ≤ 40) (hl2 : ∀ x ∈ l, I64 x) (vs : List Bool) (hvs : vs.length ≤ 40) : ∀ (r p : List (List UInt8)) (tg7 : Bool), (p ++ r).length ≤ 40 → (∀ s ∈ p, s.length ≤ 300) →
    Ev cal 12 (goTo [0, 5, 0, 0, 5, 7, 5, 0, 5, 0, 0, 5, 2, 3, 0, 0, 5, 7, 5, 5, 5, 5, 0, 0, 5, 2, 3] (bodyOf 12)) (mkS 205 [(0, .val (.vs 1 tg0 (l.map intAV)) .no), (1, .val (.vs 1 tg1 ((p ++ r).map strAV)) .no), (2, .val (.vs 1 tg2 (vs.map boolAV)) .no), (7, .val (.vs 1 tg7 ((e1 l ++ e2 p).map byteAV)) .own), (9, .val (.int .i64 (p.length : Int)) .no)] H nx) ⟨.bool true, H, nx⟩
  | [], p, tg7, hl, hp => by
    rw [List.append_nil] at hl ⊢
    refine Ev.stage 10 (fun n => s12_4 cal n H nx _ _ _ _ _ _ _ _ _) ?_
    have := q3 cal h13 h19 h23 h26 h28 H nx tg0 tg1 tg2 l hl1 hl2 p hl hp vs [] tg7 (by simpa using hvs)
    refine (this.at 0).congr fun n => ?_
    rw [br_df (by simp)]
    simp only [List.nil_append, e3, List.flatMap_nil, List.append_nil, List.length_nil]
    rfl
  | x :: r, p, tg7, hl, hp => by
    have h13' : cal 13 [] Hp.none 0 = some ⟨.bool true, Hp.none, 0⟩ := h13
    refine Ev.stage 10 (fun n => s12_4 cal n H nx _ _ _ _ _ _ _ _ _) ?_
    have tail : EvF (fun n => midRun cal (n + 0) 12 (goTo [0, 5, 0, 0, 5, 7, 5, 0, 5, 0, 0, 5, 2, 3, 0, 0, 5, 7, 5, 5, 5, 5, 0, 0, 5, 2, 3, 0, 0, 5, 6, 5, 0, 2, 0, 0] (bodyOf 12)) 3 (mkS 205 [(0, .val (.vs 1 tg0 (l.map intAV)) .no), (1, .val (.vs 1 tg1 ((p ++ x :: r).map strAV)) .no), (2, .val (.vs 1 tg2 (vs.map boolAV)) .no), (7, .val (.vs 1 tg7 ((e1 l ++ e2 p).map byteAV)) .own), (9, .val (.int .i64 (p.length : Int)) .no), (53, .val (.bool true) .no), (56, .val (.vs 1 tg1 ((p ++ x :: r).map strAV)) .no), (57, .val (.int .i64 (p.length : Int)) .no), (58, .val (.cptr [(.str x)]) .no)] H nx)) ⟨.bool true, H, nx⟩ := by
      refine EvF.mid 3 (fun n => s12_6 cal n H nx tg0 (l.map intAV) tg1 ((p ++ x :: r).map strAV) tg2 (vs.map boolAV) tg7 ((e1 l ++ e2 p).map byteAV) (p.length : Int) x) ?_ 0
      by_cases h : 300 < x.length
      · refine EvF.congr (EvF.mid (r := 0) 1 (fun n => s12_8 cal n H nx tg0 (l.map intAV) tg1 ((p ++ x :: r).map strAV) tg2 (vs.map boolAV) tg7 ((e1 l ++ e2 p).map byteAV) (p.length : Int)) (EvF.stage fun n => rfl)) fun n => ?_
        rw [br_dt (by omega), br_t (by rfl), h13', Option.bind_some, br_t (by rfl)]
        rfl
      · have hp' : ∀ s ∈ p ++ [x], s.length ≤ 300 := fun s hs => by
          rcases List.mem_append.1 hs with hs | hs
          · exact hp s hs
          · rw [List.mem_singleton.1 hs]; omega
        have ih := q2 cal h13 h19 h22 h23 h26 h28 H nx tg0 tg1 tg2 l hl1 hl2 vs hvs r (p ++ [x]) false (by simpa using hl) hp'
        rw [List.append_assoc p [x] r, List.singleton_append] at ih
        have he := e1_len l hl2
        have he2 := e2_len p hp
        have hpl : (p ++ x :: r).length ≤ 40 := hl
        have hcal := h22 ((e1 l ++ e2 p).map byteAV) tg7 x (by simp at *; have : maxBytes = 140737488355328 := rfl; omega) (pure_bytes _)
        have a3 := EvF.mid (r := 0) 3 (fun n => s12_12 cal n H nx tg0 (l.map intAV) tg1 ((p ++ x :: r).map strAV) tg2 (vs.map boolAV) tg7 ((e1 l ++ e2 p).map byteAV) (p.length : Int) x ((e1 l ++ e2 p).map byteAV ++ (encS x).map byteAV)) ((ih.at 0).congr fun n => by
          rw [next_i64 p.length (by simp at hpl; omega), e2_snoc, ← List.map_append]
          simp only [List.length_append, List.length_singleton, List.append_assoc]
          rfl)
        have a2 := EvF.mid (r := 0) 0 (fun n => s12_9 cal n H nx tg0 (l.map intAV) tg1 ((p ++ x :: r).map strAV) tg2 (vs.map boolAV) tg7 ((e1 l ++ e2 p).map byteAV) (p.length : Int) x) (a3.congr fun n => by
          rw [br_t (by exact pureL_vs (pure_bytes _) (pureL_str rfl)), hcal, Option.bind_some, br_t (by exact pure_app _ _)]
          rfl)
        refine a2.congr fun n => ?_
        rw [br_df (by omega), br_dt (by omega), br_dt (by simp; omega), nth_mid, Option.bind_some]
        rfl
    refine tail.congr fun n => ?_
    rw [br_dt (by simp; omega), br_dt (by omega), br_dt (by simp; omega), nth_mid, Option.bind_some]
    rfl

/-- the numbers are written -/
theorem q1 (cal : Oracle) (h13 : Has13 cal) (h18 : HasAI 18 cal) (h19 : HasI 19 cal) (h22 : HasAS 22 cal) (h23 : HasS 23 cal) (h26 : Has26 26 cal) (h28 : Has28 28 cal) (H : Hp) (nx : Nat) (tg0 tg1 tg2 : Bool) (ss : List (List UInt8)) (hss : ss.length ≤ 40) (vs : List Bool) (hvs : vs.length ≤ 40) : ∀ (r p : List Int) (tg7 : Bool), (p ++ r).length ≤ 40 → (∀ x ∈ p ++ r, I64 x) →
    Ev cal 12 (goTo [0, 5, 0, 0, 5, 7, 5, 0, 5, 0, 0, 5, 2, 3] (bodyOf 12)) (mkS 205 [(0, .val (.vs 1 tg0 ((p ++ r).map intAV)) .no), (1, .val (.vs 1 tg1 (ss.map strAV)) .no), (2, .val (.vs 1 tg2 (vs.map boolAV)) .no), (7, .val (.vs 1 tg7 ((e1 p).map byteAV)) .own), (8, .val (.int .i64 (p.length : Int)) .no)] H nx) ⟨.bool true, H, nx⟩
  | [], p, tg7, hl, hi => by
    rw [List.append_nil] at hl hi ⊢
    refine Ev.stage 10 (fun n => s12_2 cal n H nx _ _ _ _ _ _ _ _ _) ?_
    have := q2 cal h13 h19 h22 h23 h26 h28 H nx tg0 tg1 tg2 p hl hi vs hvs ss [] tg7 (by simpa using hss) (by simp)
    refine (this.at 0).congr fun n => ?_
    rw [br_df (by simp)]
    simp only [List.nil_append, e2, List.flatMap_nil, List.append_nil, List.length_nil]
    rfl
  | x :: r, p, tg7, hl, hi => by
    have ih := q1 cal h13 h18 h19 h22 h23 h26 h28 H nx tg0 tg1 tg2 ss hss vs hvs r (p ++ [x]) false (by simpa using hl) (by simpa using hi)
    rw [List.append_assoc p [x] r, List.singleton_append] at ih
    have he := e1_len p fun x h => hi x (List.mem_append_left _ h)
    have hx : I64 x := hi x (List.mem_append_right _ List.mem_cons_self)
    have hpl : (p ++ x :: r).length ≤ 40 := hl
    have hcal := h18 ((e1 p).map byteAV) tg7 x (by simp at *; have : maxBytes = 140737488355328 := rfl; omega) (pure_bytes _) hx
    have a3 := EvF.mid (r := 0) 3 (fun n => s12_5 cal n H nx tg0 ((p ++ x :: r).map intAV) tg1 (ss.map strAV) tg2 (vs.map boolAV) tg7 ((e1 p).map byteAV) (p.length : Int) x ((e1 p).map byteAV ++ (encB (zz x)).map byteAV)) ((ih.at 0).congr fun n => by
      rw [next_i64 p.length (by simp at hpl; omega), e1_snoc, ← List.map_append]
      simp only [List.length_append, List.length_singleton]
      rfl)
    have a2 := EvF.mid (r := 2) 0 (fun n => s12_3 cal n H nx tg0 ((p ++ x :: r).map intAV) tg1 (ss.map strAV) tg2 (vs.map boolAV) tg7 ((e1 p).map byteAV) (p.length : Int) x) (a3.congr fun n => by
      rw [br_t (by exact pureL_vs (pure_bytes _) (pureL_int rfl)), hcal, Option.bind_some, br_t (by exact pure_app _ _)]
      rfl)
    refine Ev.stage 10 (fun n => s12_2 cal n H nx _ _ _ _ _ _ _ _ _) (a2.congr fun n => ?_)
    rw [br_dt (by simp; omega), br_dt (by omega), br_dt (by simp; omega), nth_mid, Option.bind_some]
    rfl

theorem c12 (cal : Oracle) (h13 : Has13 cal) (h18 : HasAI 18 cal) (h19 : HasI 19 cal) (h22 : HasAS 22 cal) (h23 : HasS 23 cal) (h26 : Has26 26 cal) (h28 : Has28 28 cal) (H : Hp) (nx : Nat) (tg0 tg1 tg2 : Bool) (l : List Int) (hi : ∀ x ∈ l, I64 x) (ss : List (List UInt8)) (vs : List Bool) :
    Ev cal 12 (bodyOf 12) (mkS 205 [(0, .val (.vs 1 tg0 (l.map intAV)) .no), (1, .val (.vs 1 tg1 (ss.map strAV)) .no), (2, .val (.vs 1 tg2 (vs.map boolAV)) .no)] H nx) ⟨.bool true, H, nx⟩ := by
  have h13' : cal 13 [] Hp.none 0 = some ⟨.bool true, Hp.none, 0⟩ := h13
  refine Ev.stage 14 (fun n => s12_0 cal n H nx _ tg0 _ tg1 _ tg2) ?_
  have out := EvF.mid (r := 6) 1 (fun n => s12_1 cal n H nx (l.map intAV) tg0 (ss.map strAV) tg1 (vs.map boolAV) tg2) (EvF.stage (out := ⟨.bool true, H, nx⟩) fun n => rfl)
  by_cases h1 : 40 < l.length
  · refine out.congr fun n => ?_
    rw [br_dt (by simp; omega), br_t (by rfl), h13', Option.bind_some, br_t (by rfl)]
  by_cases h2 : 40 < ss.length
  · refine out.congr fun n => ?_
    rw [br_df (by simp; omega), br_dt (by simp; omega), br_t (by rfl), h13', Option.bind_some, br_t (by rfl)]
  by_cases h3 : 40 < vs.length
  · refine out.congr fun n => ?_
    rw [br_df (by simp; omega), br_df (by simp; omega), br_dt (by simp; omega), br_t (by rfl), h13', Option.bind_some, br_t (by rfl)]
  · refine ((q1 cal h13 h18 h19 h22 h23 h26 h28 H nx tg0 tg1 tg2 ss (by omega) vs (by omega) l [] true (by simp; omega) (by simpa using hi)).at 0).congr fun n => ?_
    rw [br_df (by simp; omega), br_df (by simp; omega), br_df (by simp; omega)]
    rfl

end Go.Proofs.Ytfdijfnmloddcaa
