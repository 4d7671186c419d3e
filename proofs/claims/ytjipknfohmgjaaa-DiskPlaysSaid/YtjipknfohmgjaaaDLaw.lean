/- The bytes that a queue of sector writes stands for: plain laws. -/
import Derived.Test.YtjipknfohmgjaaaDTool
namespace Go.Proofs.Ytjipknfohmgjaaa
open Go Go.Vai

/-- w over the bytes from o on -/
def wb (C : List UInt8) (o : Nat) (w : List UInt8) : List UInt8 := C.take o ++ (w ++ C.drop (o + w.length))
abbrev Q := List (Nat × List UInt8)
/-- the writes, one after the other -/
def ap : Q → List UInt8 → List UInt8
  | [], D => D
  | e :: q, D => ap q (wb D e.1 e.2)
/-- a write, sector by sector -/
def ps : Nat → Nat → List UInt8 → Q
  | 0, _, _ => []
  | f + 1, o, b => if b.length = 0 then [] else (o, b.take (min b.length (32 - o % 32))) :: ps f (o + min b.length (32 - o % 32)) (b.drop (min b.length (32 - o % 32)))
/-- every write is of a byte at least, and lies in the disk -/
def Qin (n : Nat) (q : Q) : Prop := ∀ e ∈ q, 1 ≤ e.2.length ∧ e.1 + e.2.length ≤ n

theorem wb_length {C : List UInt8} {o : Nat} {w : List UInt8} (h : o + w.length ≤ C.length) : (wb C o w).length = C.length := by
  unfold wb
  simp
  omega
theorem wb_nil (C : List UInt8) (o : Nat) : wb C o [] = C := by
  unfold wb
  simp
theorem wb_get {C : List UInt8} {o : Nat} {w : List UInt8} (h : o + w.length ≤ C.length) (i : Nat) : (wb C o w)[i]? = if o ≤ i ∧ i < o + w.length then w[i - o]? else C[i]? := by
  unfold wb
  rw [List.getElem?_append, List.getElem?_append, List.length_take, Nat.min_eq_left (by omega)]
  split
  · rename_i h1
    rw [if_neg (by omega), List.getElem?_take, if_pos h1]
  · rename_i h1
    split
    · rename_i h2
      rw [if_pos (by omega)]
    · rename_i h2
      rw [if_neg (by omega), List.getElem?_drop]
      congr 1
      omega
theorem ap_app (p q : Q) : ∀ D, ap (p ++ q) D = ap q (ap p D) := by
  induction p with
  | nil => intro D; rfl
  | cons e p ih => intro D; exact ih _
theorem ap_length {q : Q} : ∀ {D : List UInt8}, Qin D.length q → (ap q D).length = D.length := by
  induction q with
  | nil => intro D _; rfl
  | cons e q ih =>
    intro D h
    have h1 := (h e (by simp)).2
    have h2 := wb_length h1
    show (ap q (wb D e.1 e.2)).length = _
    rw [ih (by rw [h2]; exact fun e' he' => h e' (by simp [he'])), h2]
theorem Qin.take {n : Nat} {q : Q} (h : Qin n q) (k : Nat) : Qin n (q.take k) := fun e he => h e (List.mem_of_mem_take he)
theorem Qin.app {n : Nat} {p q : Q} (h : Qin n p) (h2 : Qin n q) : Qin n (p ++ q) := fun e he => by
  rcases List.mem_append.1 he with h' | h'
  · exact h e h'
  · exact h2 e h'
/-- what lies before every write stays -/
theorem ap_get {q : Q} {k : Nat} : ∀ {D : List UInt8}, Qin D.length q → (∀ e ∈ q, k ≤ e.1) → ∀ i, i < k → (ap q D)[i]? = D[i]? := by
  induction q with
  | nil => intro D _ _ i _; rfl
  | cons e q ih =>
    intro D h hk i hi
    have h1 := (h e (by simp)).2
    show (ap q (wb D e.1 e.2))[i]? = _
    rw [ih (by rw [wb_length h1]; exact fun e' he' => h e' (by simp [he'])) (fun e' he' => hk e' (by simp [he'])) i hi, wb_get h1, if_neg]
    have := hk e (by simp)
    omega
theorem ps_in : ∀ (f o : Nat) (b : List UInt8), ∀ e ∈ ps f o b, 1 ≤ e.2.length ∧ o ≤ e.1 ∧ e.1 + e.2.length ≤ o + b.length
  | 0, _, _, e, he => by cases he
  | f + 1, o, b, e, he => by
    unfold ps at he
    split at he
    · cases he
    · rename_i hb
      have hm : 1 ≤ 32 - o % 32 := by omega
      rcases List.mem_cons.1 he with rfl | he
      · simp only [List.length_take]
        omega
      · have := ps_in f _ _ e he
        rw [List.length_drop] at this
        omega
theorem ps_qin {f o n : Nat} {b : List UInt8} (h : o + b.length ≤ n) : Qin n (ps f o b) := fun e he => by
  have := ps_in f o b e he
  omega
theorem ps_len : ∀ (f o : Nat) (b : List UInt8), (ps f o b).length ≤ b.length
  | 0, _, _ => by simp [ps]
  | f + 1, o, b => by
    unfold ps
    split
    · simp
    · rename_i hb
      have := ps_len f (o + min b.length (32 - o % 32)) (b.drop (min b.length (32 - o % 32)))
      rw [List.length_drop] at this
      simp only [List.length_cons]
      omega
theorem wb_wb {C : List UInt8} {o m : Nat} {b : List UInt8} (h : o + b.length ≤ C.length) (hm : m ≤ b.length) : wb (wb C o (b.take m)) (o + m) (b.drop m) = wb C o b := by
  have h1 : o + (b.take m).length ≤ C.length := by simp; omega
  apply List.ext_getElem?
  intro i
  rw [wb_get (by rw [wb_length h1]; simp; omega), wb_get h1, wb_get h]
  simp only [List.length_take, List.length_drop, List.getElem?_drop, List.getElem?_take]
  by_cases h2 : o ≤ i ∧ i < o + b.length
  · rw [if_pos h2]
    by_cases h3 : i < o + m
    · rw [if_neg (by omega), if_pos (by omega), if_pos (by omega)]
    · rw [if_pos (by omega)]
      congr 1
      omega
  · rw [if_neg h2, if_neg (by omega), if_neg (by omega)]
theorem ap_ps : ∀ (f o : Nat) (b C : List UInt8), b.length ≤ f → o + b.length ≤ C.length → ap (ps f o b) C = wb C o b
  | 0, o, b, C, hf, _ => by
    have : b = [] := List.length_eq_zero_iff.1 (by omega)
    subst this
    rw [wb_nil]
    rfl
  | f + 1, o, b, C, hf, h => by
    unfold ps
    split
    · rename_i hb
      have : b = [] := List.length_eq_zero_iff.1 hb
      subst this
      rw [wb_nil]
      rfl
    · rename_i hb
      have hm : 1 ≤ 32 - o % 32 := by omega
      have h1 : o + (b.take (min b.length (32 - o % 32))).length ≤ C.length := by simp; omega
      show ap (ps f _ _) (wb C o (b.take _)) = _
      rw [ap_ps f _ _ _ (by simp; omega) (by rw [wb_length h1]; simp; omega), wb_wb h (by omega)]
theorem wb_read {C : List UInt8} {o : Nat} {w : List UInt8} (h : o + w.length ≤ C.length) : ((wb C o w).drop o).take w.length = w := by
  unfold wb
  rw [List.drop_append, List.drop_of_length_le (by simp; omega), List.length_take, Nat.min_eq_left (by omega)]
  simp
/-- of a write at a sector's begin: the number of sectors -/
theorem ps_count : ∀ (f o : Nat) (b : List UInt8), b.length ≤ f → o % 32 = 0 → (ps f o b).length = (b.length + 31) / 32
  | 0, o, b, hf, _ => by
    have : b.length = 0 := by omega
    simp [ps, this]
  | f + 1, o, b, hf, ho => by
    unfold ps
    split
    · rename_i hb
      simp [hb]
    · rename_i hb
      rw [List.length_cons]
      by_cases h : 32 ≤ b.length
      · rw [ps_count f _ _ (by simp; omega) (by omega)]
        simp
        omega
      · have : (b.drop (min b.length (32 - o % 32))) = [] := by
          apply List.length_eq_zero_iff.1
          simp
          omega
        rw [this]
        have : ps f (o + min b.length (32 - o % 32)) [] = [] := List.length_eq_zero_iff.1 (by have := ps_len f (o + min b.length (32 - o % 32)) []; simpa using this)
        rw [this]
        simp
        omega

theorem patch_go : ∀ (C : List UInt8) (o : Nat) (w : List UInt8), o ≤ C.length → patch (C.map byteAV) o (w.map byteAV) = (wb C o w).map byteAV
  | C, 0, w, _ => by
    unfold wb
    cases C <;> simp [patch]
  | [], o + 1, w, h => by simp at h
  | c :: C, o + 1, w, h => by
    show byteAV c :: patch (C.map byteAV) o (w.map byteAV) = _
    rw [patch_go C o w (by simpa using h)]
    unfold wb
    simp [show o + 1 + w.length = (o + w.length) + 1 by omega]
theorem flat_bytes' (l : List UInt8) : (l.map byteAV).flatMap AV.cells = l.map byteAV := by
  induction l with
  | nil => rfl
  | cons x l ih => rw [List.map_cons, List.flatMap_cons, ih]; rfl
theorem patch_wb {C w : List UInt8} {o k : Nat} (h : o ≤ C.length) : patch (C.map byteAV) (0 + o * 1) (List.flatMap AV.cells (List.take k (w.map byteAV))) = (wb C o (w.take k)).map byteAV := by
  rw [← List.map_take, flat_bytes', Nat.mul_one, Nat.zero_add, patch_go _ _ _ h]

theorem patch_wb' {C w : List UInt8} {o : Nat} (h : o ≤ C.length) : patch (C.map byteAV) (0 + o * 1) (List.flatMap AV.cells (w.map byteAV)) = (wb C o w).map byteAV := by
  rw [flat_bytes', Nat.mul_one, Nat.zero_add, patch_go _ _ _ h]
theorem blt_t {a b : Nat} (h : a < b) : Nat.blt a b = true := by rw [Nat.blt_eq]; exact h
theorem blt_f {a b : Nat} (h : ¬ a < b) : Nat.blt a b = false := by
  cases hb : Nat.blt a b with
  | false => rfl
  | true => rw [Nat.blt_eq] at hb; exact absurd hb h
theorem EvF.bnd {α : Type} {x : Option α} {v : α} {out : Out} {K : Nat → α → Option Out} (h : x = some v) (hK : EvF (fun n => K n v) out) :
    EvF (fun n => x.bind (K n)) out := hK.congr fun n => by rw [h]; rfl
theorem EvF.nth {l : List AV} {i : Nat} {c : AV} {out : Out} {K : Nat → AV → Option Out} (h : Go.Vai.nth l i = some c) (hK : EvF (fun n => K n c) out) :
    EvF (fun n => (Go.Vai.nth l i).bind (K n)) out := hK.congr fun n => by rw [h]; rfl

/-- an entry of the queue -/
def qAV (e : Nat × List UInt8) : AV := .agg [.int .i64 (e.1 : Int), .vs 1 false (e.2.map byteAV)]

theorem nth_map {α : Type} (f : α → AV) (p : List α) (x : α) (r : List α) : nth ((p ++ x :: r).map f) p.length = some (f x) := by
  induction p with
  | nil => rfl
  | cons y p ih => exact ih
theorem nth_map' {α : Type} (f : α → AV) : ∀ (l : List α) (i : Nat) (x : α), l[i]? = some x → nth (l.map f) i = some (f x)
  | [], i, x, h => by simp at h
  | y :: l, 0, x, h => by simp at h; subst h; rfl
  | y :: l, i + 1, x, h => nth_map' f l i x (by simpa using h)

theorem wrap64 {x : Int} (h : -9223372036854775808 ≤ x) (h2 : x < 9223372036854775808) : IntKind.wrap .i64 x = x := by
  simp [IntKind.wrap, IntKind.bits, IntKind.signed]
  omega

end Go.Proofs.Ytjipknfohmgjaaa
