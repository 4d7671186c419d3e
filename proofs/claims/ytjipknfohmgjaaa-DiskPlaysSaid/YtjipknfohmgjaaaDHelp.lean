/- Helpers for the laws of the disk: the verifier's small functions; what every write keeps. -/
import Derived.Test.YtjipknfohmgjaaaDSp0
import Derived.Test.YtjipknfohmgjaaaDNil
namespace Go.Proofs.Ytjipknfohmgjaaa
open Go Go.Vai

theorem EvF.pcall {cal : Oracle} {g : Nat} {args : List AV} {o out : Out} {K : Nat → Out → Option Out} (hp : pureL args = true) (h : cal g args Hp.none 0 = some o) (hv : o.v.pure = true) (hK : EvF (fun n => K n o) out) :
    EvF (fun n => br (pureL args) ((cal g args Hp.none 0).bind fun r => br r.v.pure (K n r) none) none) out :=
  EvF.brt hp (EvF.call (K := fun n r => br r.v.pure (K n r) none) h (EvF.brt hv hK))

/-- kit.Index -/
def idx (x m : Int) : Int := Int.tmod (Int.tmod x m + m) m
theorem idx_0 (x : Int) {m : Int} (h : 1 ≤ m) : 0 ≤ idx x m := by
  unfold idx
  have h1 : -m < Int.tmod x m := by have := Int.lt_tmod_of_pos x (b := m) (by omega); omega
  exact Int.tmod_nonneg _ (by omega)
theorem idx_lt (x : Int) {m : Int} (h : 1 ≤ m) : idx x m < m := by
  unfold idx
  exact Int.tmod_lt_of_pos _ (by omega)

attribute [local irreducible] midRun goTo bodyOf mkS run in
theorem n18 (d : Nat) (H : Hp) (nx : Nat) (x m : Int) (h : 1 ≤ m) (h2 : m ≤ 4611686018427387904) : CW (d + 1) 18 [.int .i64 x, .int .i64 m] H nx = some ⟨.int .i64 (idx x m), H, nx⟩ := by
  refine cw rfl (Ev.stage 10 (fun n => z18_0 _ n H nx x m) ?_) (fun n => by kernel_rfl)
  have h1 : -m < Int.tmod x m := by have := Int.lt_tmod_of_pos x (b := m) (by omega); omega
  have h3 : Int.tmod x m < m := Int.tmod_lt_of_pos _ (by omega)
  rw [wrap64 (by omega) (by omega)]
  exact EvF.bdf (by omega) (EvF.bdf (by omega) (EvF.bdf (by omega) EvF.ret))

/-- what a write keeps -/
theorem wrF_inv : ∀ (f : Nat) (k : Dk) (o : Nat) (b : List UInt8), k.Ok → o + b.length ≤ k.n → k.q.length + b.length ≤ 1099511627776 →
    (wrF f k o b).1.Ok ∧ (wrF f k o b).1.n = k.n ∧ (wrF f k o b).1.D = k.D ∧ ∀ e ∈ (wrF f k o b).1.q, e ∈ k.q ∨ o ≤ e.1
  | 0, k, o, b, ok, _, _ => ⟨ok, rfl, rfl, fun e he => .inl he⟩
  | f + 1, k, o, b, ok, h, hq => by
    unfold wrF
    by_cases hb : b.length = 0
    · rw [if_pos hb]
      exact ⟨ok, rfl, rfl, fun e he => .inl he⟩
    rw [if_neg hb]
    by_cases hc : k.ar = true ∧ k.lf = 0
    · rw [if_pos hc]
      exact ⟨⟨ok.d, ok.c, ok.n, ok.l0, ok.l1, ok.q, ok.ql⟩, rfl, rfl, fun e he => .inl he⟩
    rw [if_neg hc]
    have hm : 1 ≤ 32 - o % 32 := by omega
    have h1 : (b.take (min b.length (32 - o % 32))).length = min b.length (32 - o % 32) := by rw [List.length_take]; omega
    obtain ⟨i1, i2, i3, i4⟩ := wrF_inv f (k.put o (b.take (min b.length (32 - o % 32)))) (o + min b.length (32 - o % 32)) (b.drop (min b.length (32 - o % 32)))
      (ok.put (by omega) (by omega) (by omega) (fun ha hz => hc ⟨ha, hz⟩)) (by show _ ≤ k.n; rw [List.length_drop]; omega) (by show (k.q ++ [_]).length + _ ≤ _; simp; omega)
    refine ⟨i1, i2, i3, fun e he => ?_⟩
    rcases i4 e he with h' | h'
    · have h'' : e ∈ k.q ++ [(o, b.take (min b.length (32 - o % 32)))] := h'
      rcases List.mem_append.1 h'' with h3 | h3
      · exact .inl h3
      · rw [List.mem_singleton.1 h3]
        exact .inr (Nat.le_refl _)
    · exact .inr (by omega)
theorem crD_get {k : Dk} (ok : k.Ok) (x y : Int) {m : Nat} (h : ∀ e ∈ k.q, m ≤ e.1) (i : Nat) (hi : i < m) : (k.crD x y)[i]? = k.D[i]? := by
  have hd := ok.d
  have hq : Qin k.D.length (k.q.take (clampI x k.q.length).toNat) := by rw [hd]; exact ok.q.take _
  have h1 : (ap (k.q.take (clampI x k.q.length).toNat) k.D)[i]? = k.D[i]? := ap_get hq (fun e he => h e (List.mem_of_mem_take he)) i hi
  unfold Dk.crD
  split
  · rename_i e he
    have h2 := h e (List.mem_of_getElem? he)
    have h3 := (ok.q e (List.mem_of_getElem? he)).2
    rw [wb_get (by rw [ap_length hq, hd, List.length_take]; omega), if_neg (by omega)]
    exact h1
  · exact h1

end Go.Proofs.Ytjipknfohmgjaaa
