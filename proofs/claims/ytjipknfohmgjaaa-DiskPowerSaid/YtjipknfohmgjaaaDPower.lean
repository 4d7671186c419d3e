/- DiskPower: what the law computes is true. -/
import Derived.Test.YtjipknfohmgjaaaDHelp
import Derived.Test.YtjipknfohmgjaaaDW9
namespace Go.Proofs.Ytjipknfohmgjaaa
open Go Go.Vai

attribute [local irreducible] midRun goTo bodyOf mkS run

theorem c9 (x : Int) (_ : -9223372036854775808 ≤ x ∧ x ≤ 9223372036854775807) (b : List UInt8) (tb : Bool) (_ : b.length ≤ 140737488351232) (keep : Int) (_ : -9223372036854775808 ≤ keep ∧ keep ≤ 9223372036854775807) :
    ∃ d H nx, CW d 9 [.int .i64 x, .vs 1 tb (b.map byteAV), .int .i64 keep] Hp.none 0 = some ⟨.bool true, H, nx⟩ := by
  obtain ⟨o, ho, haw⟩ := cw_awake 2
  have i0 := idx_0 x (m := 6) (by omega)
  have i1 := idx_lt x (m := 6) (by omega)
  obtain ⟨N, hN⟩ := Int.eq_ofNat_of_zero_le i0
  have hB : (b.take 200).length ≤ 200 := by rw [List.length_take]; omega
  generalize hB' : b.take 200 = B at hB
  have h11 : CW 2 11 [.int .i64 16] Hp.none 0 = some ⟨.ptr 0 0, (dk0 512).hp 0 Hp.none, 8⟩ := s0_11 1 16
  have ok0 : (dk0 512).Ok := dk0_ok (by omega)
  have hn17 := n17 1 Hp.none 0 b tb 200
  rw [hB'] at hn17
  -- armed
  obtain ⟨k1, hk1⟩ : ∃ k1, k1 = (dk0 512).fail (N : Int) := ⟨_, rfl⟩
  have s1 := s0_27 1 Hp.none 8 (dk0 512) (N : Int)
  have ok1 := ok0.fail (x := (N : Int)) (by omega)
  rw [← hk1] at s1 ok1
  rw [fail_f rfl, if_neg (by omega)] at hk1
  have hn1 : k1.n = 512 := by rw [hk1]; rfl
  have hq1 : k1.q = [] := by rw [hk1]; rfl
  have hdn1 : k1.dn = false := by rw [hk1]; rfl
  have har1 : k1.ar = true := by rw [hk1]
  have hlf1 : k1.lf = (N : Int) := by rw [hk1]
  have hc1 := ok1.c
  -- the write
  obtain ⟨P, hP⟩ : ∃ P, P = (B.length + 31) / 32 := ⟨_, rfl⟩
  have hps : (ps B.length 0 B).length = P := by rw [ps_count _ _ _ (Nat.le_refl _) rfl, hP]
  have s2 : CW 2 19 [.ptr 0 0, .int .i64 0, .vs 1 false (B.map byteAV)] (k1.hp 0 Hp.none) 8 = some ⟨.int .i64 (wrF B.length k1 0 B).2, (wrF B.length k1 0 B).1.hp 0 Hp.none, 8⟩ :=
    s0_19 0 Hp.none 8 k1 ok1 false 0 B hdn1 (by omega) (by rw [hq1]; simp; omega)
  obtain ⟨ok2, hn2, _, _⟩ := wrF_inv B.length k1 0 B ok1 (by omega) (by rw [hq1]; simp; omega)
  have ep : IntKind.wrap IntKind.i64 (Int.tdiv (IntKind.wrap IntKind.i64 (IntKind.wrap IntKind.i64 ((B.length : Int) + 32) - 1)) 32) = (P : Int) := by
    rw [wrap64 (x := (B.length : Int) + 32) (by omega) (by omega), wrap64 (x := (B.length : Int) + 32 - 1) (by omega) (by omega), Int.tdiv_eq_ediv_of_nonneg (by omega), wrap64 (by omega) (by omega), hP]
    omega
  by_cases hle : P ≤ N
  · have hw := wrF_all B.length k1 0 B (Nat.le_refl _) (by omega) (fun _ => by rw [hps, hlf1]; omega)
    have e2 : (wrF B.length k1 0 B).2 = 0 := by rw [hw]
    have hq2 : (wrF B.length k1 0 B).1.q.length = P := by rw [hw, hq1]; simpa using hps
    have hdn2 : (wrF B.length k1 0 B).1.dn = false := by rw [hw]; exact hdn1
    rw [e2] at s2
    generalize (wrF B.length k1 0 B).1 = k2 at s2 ok2 hn2 hq2 hdn2
    refine ⟨3, ?_⟩
    apply Exists.intro
    apply Exists.intro
    refine cw rfl (Ev.stage 4 (fun n => w9_0 _ n (x_1 := x) (l_2 := b.map byteAV) (tg_3 := tb) (x_4 := keep)) ?_) (fun n => by kernel_rfl)
    refine EvF.call h11 (EvF.mid 7 (fun n => w9_1 _ n) ?_ 0)
    refine EvF.pcall rfl (n18 1 _ _ x 6 (by omega) (by omega)) rfl ?_
    rw [hN]
    refine EvF.mid 2 (fun n => w9_2 _ n) ?_ 0
    refine EvF.pcall (pureL_vs (pure_bytes _) rfl) hn17 (pure_bytes _) (EvF.mid 4 (fun n => w9_3 _ n) ?_ 0)
    rw [List.length_map, ep]
    refine EvF.call s1 (EvF.mid 2 (fun n => w9_4 _ n) ?_ 0)
    refine EvF.call s2 (EvF.mid 7 (fun n => w9_5 _ n) ?_ 0)
    refine EvF.brf (by simp; omega) (EvF.bnf rfl (EvF.call (s0_15 1 Hp.none 8 k2) ?_))
    rw [hq2]
    refine EvF.mid 4 (fun n => w9_7 _ n) ?_ 4
    refine EvF.bnf (by split <;> omega) (EvF.call (s0_14 1 Hp.none 8 k2) ?_)
    rw [hdn2]
    refine EvF.mid 5 (fun n => w9_9 _ n) ?_ 4
    refine EvF.brf (by simp; omega) (EvF.call (s0_14 1 Hp.none 8 k2) ?_)
    rw [hdn2]
    refine EvF.mid 4 (fun n => w9_10 _ n) ?_ 0
    refine EvF.brt rfl (EvF.pcall rfl haw (by rw [ho]; rfl) ?_)
    rw [ho]
    exact EvF.mid 1 (fun n => w9_11 _ n) EvF.ret 1
  · have hw := wrF_stop B.length k1 0 B (Nat.le_refl _) (by omega) har1 (by omega) (by rw [hps, hlf1]; omega)
    have e2 : (wrF B.length k1 0 B).2 = 15 := by rw [hw]
    have hq2 : (wrF B.length k1 0 B).1.q.length = N := by
      rw [hw, hq1, hlf1]
      show ([] ++ (ps B.length 0 B).take (N : Int).toNat).length = N
      rw [List.nil_append, List.length_take, hps, Int.toNat_natCast]
      omega
    have hdn2 : (wrF B.length k1 0 B).1.dn = true := by rw [hw]
    rw [e2] at s2
    generalize (wrF B.length k1 0 B).1 = k2 at s2 ok2 hn2 hq2 hdn2
    have hck : ∀ u v, chk k2 u v = 15 := fun u v => by unfold chk; rw [if_pos hdn2]
    have ok3 := ok2.crash keep 0
    have hn3 : (k2.crash keep 0).n = 512 := by show k2.n = 512; omega
    have hc3 := ok3.c
    have hw3 := wrF_all B.length (k2.crash keep 0) 0 B (Nat.le_refl _) (by omega) (fun h => by cases h)
    have s4 : CW 2 19 [.ptr 0 0, .int .i64 0, .vs 1 false (B.map byteAV)] ((k2.crash keep 0).hp 0 Hp.none) 8 = some ⟨.int .i64 (wrF B.length (k2.crash keep 0) 0 B).2, (wrF B.length (k2.crash keep 0) 0 B).1.hp 0 Hp.none, 8⟩ :=
      s0_19 0 Hp.none 8 (k2.crash keep 0) ok3 false 0 B rfl (by omega) (by simp [Dk.crash]; omega)
    obtain ⟨ok4, _, _, _⟩ := wrF_inv B.length (k2.crash keep 0) 0 B ok3 (by omega) (by simp [Dk.crash]; omega)
    have e4 : (wrF B.length (k2.crash keep 0) 0 B).2 = 0 := by rw [hw3]
    have hdn4 : (wrF B.length (k2.crash keep 0) 0 B).1.dn = false := by rw [hw3]; rfl
    rw [e4] at s4
    generalize (wrF B.length (k2.crash keep 0) 0 B).1 = k4 at s4 ok4 hdn4
    refine ⟨3, ?_⟩
    apply Exists.intro
    apply Exists.intro
    refine cw rfl (Ev.stage 4 (fun n => w9_0 _ n (x_1 := x) (l_2 := b.map byteAV) (tg_3 := tb) (x_4 := keep)) ?_) (fun n => by kernel_rfl)
    refine EvF.call h11 (EvF.mid 7 (fun n => w9_1 _ n) ?_ 0)
    refine EvF.pcall rfl (n18 1 _ _ x 6 (by omega) (by omega)) rfl ?_
    rw [hN]
    refine EvF.mid 2 (fun n => w9_2 _ n) ?_ 0
    refine EvF.pcall (pureL_vs (pure_bytes _) rfl) hn17 (pure_bytes _) (EvF.mid 4 (fun n => w9_3 _ n) ?_ 0)
    rw [List.length_map, ep]
    refine EvF.call s1 (EvF.mid 2 (fun n => w9_4 _ n) ?_ 0)
    refine EvF.call s2 (EvF.mid 7 (fun n => w9_5 _ n) ?_ 0)
    refine EvF.brf (by simp; omega) (EvF.bnt (by decide) (EvF.bnf rfl (EvF.call (s0_15 1 Hp.none 8 k2) ?_)))
    rw [hq2]
    refine EvF.mid 4 (fun n => w9_6 _ n) ?_ 4
    refine EvF.bnf (by split <;> omega) (EvF.call (s0_14 1 Hp.none 8 k2) ?_)
    rw [hdn2]
    refine EvF.mid 5 (fun n => w9_8 _ n) ?_ 4
    refine EvF.brf (by simp; omega) (EvF.call (s0_14 1 Hp.none 8 k2) ?_)
    rw [hdn2]
    refine EvF.mid 4 (fun n => w9_10 _ n) ?_ 0
    refine EvF.brf rfl (EvF.call (s0_13e 0 Hp.none 8 k2 ok2 0 1 (by rw [hck]; decide)) ?_)
    rw [hck]
    refine EvF.mid 2 (fun n => w9_12 _ n) ?_ 0
    have s3 := s0_27 1 Hp.none 8 k2 9
    rw [fail_t hdn2] at s3
    refine EvF.call s3 (EvF.mid 2 (fun n => w9_13 _ n) ?_ 0)
    refine EvF.call (s0_19e 0 Hp.none 8 k2 ok2 true 0 [.int .u8 1] (by rw [hck]; decide)) ?_
    rw [hck]
    refine EvF.mid 0 (fun n => w9_14 _ n) ?_ 0
    refine EvF.call (s0_20e 0 Hp.none 8 k2 ok2 hdn2) (EvF.mid 7 (fun n => w9_15 _ n) ?_ 0)
    refine EvF.bnf rfl (EvF.bnf rfl (EvF.bnf rfl (EvF.call (s0_15 1 Hp.none 8 k2) ?_)))
    rw [hq2]
    refine EvF.mid 4 (fun n => w9_16 _ n) ?_ 4
    refine EvF.bnf rfl (EvF.call (s0_14 1 Hp.none 8 k2) ?_)
    rw [hdn2]
    refine EvF.mid 4 (fun n => w9_17 _ n) ?_ 4
    refine EvF.brf rfl (EvF.call (s0_21 1 Hp.none 8 k2 ok2 keep 0) (EvF.mid 2 (fun n => w9_18 _ n) ?_ 0))
    refine EvF.call (s0_14 1 Hp.none 8 (k2.crash keep 0)) (EvF.mid 1 (fun n => w9_19 _ n) ?_ 0)
    refine EvF.brt rfl (EvF.call s4 (EvF.mid 1 (fun n => w9_20 _ n) ?_ 1))
    refine EvF.bdt rfl (EvF.call (s0_20 0 Hp.none 8 k4 ok4 hdn4) (EvF.mid 1 (fun n => w9_21 _ n) ?_ 1))
    refine EvF.bdt rfl (EvF.call (s0_15 1 Hp.none 8 k4.sync) (EvF.mid 1 (fun n => w9_22 _ n) ?_ 1))
    refine EvF.bdt rfl (EvF.pcall rfl haw (by rw [ho]; rfl) ?_)
    rw [ho]
    exact EvF.mid 1 (fun n => w9_23 _ n) EvF.ret 1

end Go.Proofs.Ytjipknfohmgjaaa
