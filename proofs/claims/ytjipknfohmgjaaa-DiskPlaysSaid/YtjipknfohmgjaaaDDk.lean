/- A disk, its state. -/
import Derived.Test.YtjipknfohmgjaaaDLaw
import Derived.Test.YtjipknfohmgjaaaDHp
namespace Go.Proofs.Ytjipknfohmgjaaa
open Go Go.Vai

structure Dk where
  n : Nat
  tg : Bool
  q : Q
  ar : Bool
  lf : Int
  dn : Bool
  D : List UInt8
  C : List UInt8
structure Dk.Ok (k : Dk) : Prop where
  d : k.D.length = k.n
  c : k.C.length = k.n
  n : k.n ≤ 65536
  l0 : 0 ≤ k.lf
  l1 : k.lf ≤ 9223372036854775807
  q : Qin k.n k.q
  ql : k.q.length ≤ 1099511627776
def Dk.hp (b : Nat) (k : Dk) (T : Hp) : Hp := hdk b k.n k.tg (k.q.map qAV) k.ar k.lf k.dn (k.D.map byteAV) (k.C.map byteAV) T
/-- the error of an access -/
def chk (k : Dk) (x y : Int) : Int := if k.dn = true then 15 else if x < 0 then 9 else if y < 0 then 9 else if (k.n : Int) < x then 9 else if (k.n : Int) - x < y then 9 else 0
theorem chk_ok {k : Dk} {o m : Nat} (h : k.dn = false) (h2 : o + m ≤ k.n) : chk k o m = 0 := by
  unfold chk
  rw [if_neg (by rw [h]; decide), if_neg (by omega), if_neg (by omega), if_neg (by omega), if_neg (by omega)]

/-- the number of sectors -/
def clampS (x : Int) : Int := if 1 < (if 2048 < x then 2048 else x) then (if 2048 < x then 2048 else x) else 1
theorem clampS_1 (x : Int) : 1 ≤ clampS x := by unfold clampS; split <;> omega
theorem clampS_2 (x : Int) : clampS x ≤ 2048 := by unfold clampS; split <;> (try split) <;> omega
theorem replC_zero (n : Nat) : replC [.int .u8 0] n = (List.replicate n (0 : UInt8)).map byteAV := by
  induction n with
  | zero => rfl
  | succ n ih =>
    show .int .u8 0 :: replC [.int .u8 0] n = _
    rw [ih]
    rfl
/-- a new disk of n bytes -/
def dk0 (n : Nat) : Dk := ⟨n, true, [], false, 0, false, List.replicate n 0, List.replicate n 0⟩
theorem dk0_ok {n : Nat} (h : n ≤ 65536) : (dk0 n).Ok := ⟨by simp [dk0], by simp [dk0], h, by simp [dk0], by simp [dk0], (fun e he => (by cases he)), by simp [dk0]⟩
/-- all writes made durable -/
def Dk.sync (k : Dk) : Dk := { k with tg := true, q := [], D := ap k.q k.D }
theorem Dk.Ok.sync {k : Dk} (h : k.Ok) : k.sync.Ok := ⟨by show (ap k.q k.D).length = _; rw [ap_length (by rw [h.d]; exact h.q)]; exact h.d, h.c, h.n, h.l0, h.l1, (fun e he => (by cases he)), by simp [Dk.sync]⟩
/-- a failure armed -/
def Dk.fail (k : Dk) (x : Int) : Dk := match k.dn with
  | true => k
  | false => { k with ar := true, lf := if x < 0 then 0 else x }
theorem fail_t {k : Dk} {x : Int} (h : k.dn = true) : k.fail x = k := by unfold Dk.fail; rw [h]
theorem fail_f {k : Dk} {x : Int} (h : k.dn = false) : k.fail x = { k with ar := true, lf := if x < 0 then 0 else x } := by unfold Dk.fail; rw [h]
theorem Dk.Ok.fail {k : Dk} (h : k.Ok) {x : Int} (hx : x ≤ 9223372036854775807) : (k.fail x).Ok := by
  unfold Dk.fail
  split
  · exact h
  · exact ⟨h.d, h.c, h.n, by show 0 ≤ (if x < 0 then 0 else x); split <;> omega, by show (if x < 0 then 0 else x) ≤ _; split <;> omega, h.q, h.ql⟩
def clampI (x n : Int) : Int := if 0 < (if n < x then n else x) then (if n < x then n else x) else 0
theorem clampI_0 (x n : Int) : 0 ≤ clampI x n := by unfold clampI; split <;> omega
theorem clampI_le (x : Int) {n : Int} (h : 0 ≤ n) : clampI x n ≤ n := by unfold clampI; split <;> (try split) <;> omega
/-- the durable bytes behind a crash -/
def Dk.crD (k : Dk) (x y : Int) : List UInt8 := match k.q[(clampI x k.q.length).toNat]? with
  | some e => wb (ap (k.q.take (clampI x k.q.length).toNat) k.D) e.1 (e.2.take (clampI y e.2.length).toNat)
  | none => ap (k.q.take (clampI x k.q.length).toNat) k.D
theorem crD_len {k : Dk} (h : k.Ok) (x y : Int) : (k.crD x y).length = k.n := by
  have h1 : (ap (k.q.take (clampI x k.q.length).toNat) k.D).length = k.n := by rw [ap_length (by rw [h.d]; exact h.q.take _)]; exact h.d
  unfold Dk.crD
  split
  · rename_i e he
    have := (h.q e (List.mem_of_getElem? he)).2
    rw [wb_length (by rw [h1, List.length_take]; omega)]
    exact h1
  · exact h1
/-- the first bytes of the write that a crash tears -/
def torn (q : Q) (j : Nat) (y : Int) (D : List UInt8) : List UInt8 := match q[j]? with
  | some e => wb D e.1 (e.2.take (clampI y e.2.length).toNat)
  | none => D
theorem copy_all {E C : List UInt8} {n : Nat} (hE : E.length = n) (hC : C.length = n) : patch (C.map byteAV) 0 (List.flatMap AV.cells (List.take (Nat.min (List.length (List.take n (List.drop 0 (E.map byteAV)))) n) (List.take n (List.drop 0 (E.map byteAV))))) = E.map byteAV := by
  have e1 : List.take n (List.drop 0 (E.map byteAV)) = E.map byteAV := by rw [List.drop_zero]; exact List.take_of_length_le (by rw [List.length_map]; omega)
  rw [e1, show Nat.min (List.length (E.map byteAV)) n = E.length by rw [List.length_map]; exact Nat.min_eq_left (by omega), List.take_of_length_le (by rw [List.length_map]; omega), flat_bytes', patch_go _ _ _ (by omega)]
  unfold wb
  rw [List.drop_of_length_le (by omega)]
  simp
def Dk.crash (k : Dk) (x y : Int) : Dk := ⟨k.n, true, [], false, 0, false, k.crD x y, k.crD x y⟩
theorem Dk.Ok.crash {k : Dk} (h : k.Ok) (x y : Int) : (k.crash x y).Ok := ⟨crD_len h x y, crD_len h x y, h.n, by simp [Dk.crash], by simp [Dk.crash], (fun e he => (by cases he)), by simp [Dk.crash]⟩
/-- a sector write buffered -/
def Dk.put (k : Dk) (o : Nat) (w : List UInt8) : Dk := { k with tg := false, q := k.q ++ [(o, w)], lf := if k.ar = true then k.lf - 1 else k.lf, C := wb k.C o w }
/-- a write, as the code does it -/
def wrF : Nat → Dk → Nat → List UInt8 → Dk × Int
  | 0, k, _, _ => (k, 0)
  | f + 1, k, o, b => if b.length = 0 then (k, 0) else if k.ar = true ∧ k.lf = 0 then ({ k with dn := true }, 15) else
    wrF f (k.put o (b.take (min b.length (32 - o % 32)))) (o + min b.length (32 - o % 32)) (b.drop (min b.length (32 - o % 32)))
theorem Dk.Ok.put {k : Dk} (h : k.Ok) {o : Nat} {w : List UInt8} (h1 : 1 ≤ w.length) (h2 : o + w.length ≤ k.n) (h3 : k.q.length + 1 ≤ 1099511627776) (h4 : k.ar = true → k.lf ≠ 0) : (k.put o w).Ok := by
  have h0 := h.l0
  have hl1 := h.l1
  refine ⟨h.d, by show (wb k.C o w).length = k.n; rw [wb_length (by rw [h.c]; exact h2)]; exact h.c, h.n, ?_, ?_, h.q.app fun e he => ?_, ?_⟩
  · show 0 ≤ (if k.ar = true then k.lf - 1 else k.lf)
    split
    · rename_i ha
      have := h4 ha
      omega
    · exact h0
  · show (if k.ar = true then k.lf - 1 else k.lf) ≤ _
    split <;> omega
  · rw [List.mem_singleton.1 he]
    exact ⟨h1, h2⟩
  · show (k.q ++ [(o, w)]).length ≤ _
    simp
    omega
/-- what a write does, when all of it is done -/
theorem wrF_all : ∀ (f : Nat) (k : Dk) (o : Nat) (b : List UInt8), b.length ≤ f → o + b.length ≤ k.C.length → (k.ar = true → ((ps f o b).length : Int) ≤ k.lf) →
    wrF f k o b = ({ k with tg := k.tg && decide (b.length = 0), q := k.q ++ ps f o b, lf := if k.ar = true then k.lf - (ps f o b).length else k.lf, C := wb k.C o b }, 0)
  | 0, k, o, b, hf, _, _ => by
    have : b = [] := List.length_eq_zero_iff.1 (by omega)
    subst this
    simp [wrF, ps, wb_nil]
  | f + 1, k, o, b, hf, h, hl => by
    unfold wrF
    split
    · rename_i hb
      have : b = [] := List.length_eq_zero_iff.1 hb
      subst this
      simp [ps, wb_nil]
    · rename_i hb
      have hm : 1 ≤ 32 - o % 32 := by omega
      have hp : ps (f + 1) o b = (o, b.take (min b.length (32 - o % 32))) :: ps f (o + min b.length (32 - o % 32)) (b.drop (min b.length (32 - o % 32))) := by
        conv => lhs; unfold ps
        rw [if_neg hb]
      rw [hp] at hl ⊢
      have hw : o + (b.take (min b.length (32 - o % 32))).length ≤ k.C.length := by simp; omega
      rw [if_neg (fun hc => by have := hl hc.1; simp at this; omega)]
      rw [wrF_all f _ _ _ (by simp; omega) (by show _ ≤ (wb k.C o _).length; rw [wb_length hw]; simp; omega) (fun ha => by
        have ha' : k.ar = true := ha
        have := hl ha'
        show _ ≤ (if k.ar = true then k.lf - 1 else k.lf)
        rw [if_pos ha']
        simp at this
        omega)]
      have e1 : wb (wb k.C o (b.take (min b.length (32 - o % 32)))) (o + min b.length (32 - o % 32)) (b.drop (min b.length (32 - o % 32))) = wb k.C o b := wb_wb h (by omega)
      unfold Dk.put
      simp only [e1, List.append_assoc, List.singleton_append, List.length_cons, Bool.false_and, decide_eq_false hb, Bool.and_false]
      by_cases ha : k.ar = true
      · simp only [if_pos ha]
        congr 2
        omega
      · simp only [if_neg ha]
/-- what a write does that a failure stops -/
theorem wrF_stop : ∀ (f : Nat) (k : Dk) (o : Nat) (b : List UInt8), b.length ≤ f → o + b.length ≤ k.C.length → k.ar = true → 0 ≤ k.lf → k.lf < ((ps f o b).length : Int) →
    wrF f k o b = ({ k with tg := k.tg && decide (k.lf = 0), q := k.q ++ (ps f o b).take k.lf.toNat, lf := 0, C := ap ((ps f o b).take k.lf.toNat) k.C, dn := true }, 15)
  | 0, k, o, b, hf, _, _, h0, hl => by
    simp [ps] at hl
    omega
  | f + 1, k, o, b, hf, h, ha, h0, hl => by
    unfold wrF
    split
    · rename_i hb
      have : ps (f + 1) o b = [] := by unfold ps; rw [if_pos hb]
      rw [this] at hl
      simp at hl
      omega
    · rename_i hb
      have hm : 1 ≤ 32 - o % 32 := by omega
      have hp : ps (f + 1) o b = (o, b.take (min b.length (32 - o % 32))) :: ps f (o + min b.length (32 - o % 32)) (b.drop (min b.length (32 - o % 32))) := by
        conv => lhs; unfold ps
        rw [if_neg hb]
      rw [hp] at hl ⊢
      have hw : o + (b.take (min b.length (32 - o % 32))).length ≤ k.C.length := by simp; omega
      by_cases hz : k.lf = 0
      · rw [if_pos ⟨ha, hz⟩]
        simp [hz, ap]
      · rw [if_neg (fun hc => hz hc.2)]
        have e0 : (k.put o (b.take (min b.length (32 - o % 32)))).lf = k.lf - 1 := by show (if k.ar = true then k.lf - 1 else k.lf) = _; rw [if_pos ha]
        rw [wrF_stop f (k.put o (b.take (min b.length (32 - o % 32)))) _ _ (by simp; omega) (by show _ ≤ (wb k.C o _).length; rw [wb_length hw]; simp; omega) ha (by rw [e0]; omega) (by rw [e0]; simp at hl; omega), e0]
        obtain ⟨j, hj⟩ : ∃ j : Nat, k.lf = (j : Int) + 1 := ⟨(k.lf - 1).toNat, by omega⟩
        have e1 : k.lf.toNat = j + 1 := by omega
        have e2 : (k.lf - 1).toNat = j := by omega
        rw [e1, e2, List.take_succ_cons]
        unfold Dk.put
        simp [ap, decide_eq_false hz]

end Go.Proofs.Ytjipknfohmgjaaa
