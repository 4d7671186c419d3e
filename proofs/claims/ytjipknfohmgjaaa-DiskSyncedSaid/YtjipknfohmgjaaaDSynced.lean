/- DiskSynced: what the law computes is true. -/
import Derived.Test.YtjipknfohmgjaaaDHelp
import Derived.Test.YtjipknfohmgjaaaDW8
namespace Go.Proofs.Ytjipknfohmgjaaa
open Go Go.Vai

attribute [local irreducible] midRun goTo bodyOf mkS run

theorem c8 (a : List UInt8) (ta : Bool) (_ : a.length ≤ 140737488351232) (b : List UInt8) (tb : Bool) (_ : b.length ≤ 140737488351232) (x : Int) (_ : -9223372036854775808 ≤ x ∧ x ≤ 9223372036854775807)
    (keep : Int) (_ : -9223372036854775808 ≤ keep ∧ keep ≤ 9223372036854775807) (tn : Int) (_ : -9223372036854775808 ≤ tn ∧ tn ≤ 9223372036854775807) (fl : Int) (_ : -9223372036854775808 ≤ fl ∧ fl ≤ 9223372036854775807) :
    ∃ d H nx, CW d 8 [.vs 1 ta (a.map byteAV), .vs 1 tb (b.map byteAV), .int .i64 x, .int .i64 keep, .int .i64 tn, .int .i64 fl] Hp.none 0 = some ⟨.bool true, H, nx⟩ := by
  obtain ⟨o, ho, haw⟩ := cw_awake 2
  have i0 := idx_0 x (m := 20) (by omega)
  have i1 := idx_lt x (m := 20) (by omega)
  have f0 := idx_0 fl (m := 6) (by omega)
  have f1 := idx_lt fl (m := 6) (by omega)
  have j0 := idx_0 x (m := 40) (by omega)
  have j1 := idx_lt x (m := 40) (by omega)
  obtain ⟨i, hi⟩ := Int.eq_ofNat_of_zero_le i0
  obtain ⟨j, hj⟩ := Int.eq_ofNat_of_zero_le j0
  have hA : (a.take 90).length ≤ 90 := by rw [List.length_take]; omega
  have hB : (b.take 90).length ≤ 90 := by rw [List.length_take]; omega
  generalize hA' : a.take 90 = A at hA
  generalize hB' : b.take 90 = B at hB
  have h11 : CW 2 11 [.int .i64 8] Hp.none 0 = some ⟨.ptr 0 0, (dk0 256).hp 0 Hp.none, 8⟩ := s0_11 1 8
  have hz : (List.replicate 256 (0 : UInt8)).length = 256 := List.length_replicate
  have ok0 : (dk0 256).Ok := dk0_ok (by omega)
  have hn17a := n17 1 Hp.none 0 a ta 90
  have hn17b := n17 1 Hp.none 0 b tb 90
  rw [hA'] at hn17a
  rw [hB'] at hn17b
  -- the first write
  obtain ⟨k1, hk1⟩ : ∃ k1, k1 = (wrF A.length (dk0 256) i A).1 := ⟨_, rfl⟩
  have hw1 := wrF_all A.length (dk0 256) i A (Nat.le_refl _) (by rw [ok0.c]; show _ ≤ 256; omega) (fun h => by cases h)
  have hi1 := wrF_inv A.length (dk0 256) i A ok0 (by show _ ≤ 256; omega) (by show 0 + _ ≤ _; omega)
  have e1 : (wrF A.length (dk0 256) i A).2 = 0 := by rw [hw1]
  rw [← hk1] at hi1
  have hC1 : k1.C = wb (List.replicate 256 0) i A := by rw [hk1, hw1]; rfl
  have hq1 : k1.q = ps A.length i A := by rw [hk1, hw1]; rfl
  have hdn1 : k1.dn = false := by rw [hk1, hw1]; rfl
  have hD1 : k1.D = List.replicate 256 0 := hi1.2.2.1
  have s1 := s0_19 0 Hp.none 8 (dk0 256) ok0 false i A rfl (by show _ ≤ 256; omega) (by show 0 + _ ≤ _; omega)
  rw [e1, ← hk1] at s1
  -- synced
  obtain ⟨k2, hk2⟩ : ∃ k2, k2 = k1.sync := ⟨_, rfl⟩
  have s2 := s0_20 0 Hp.none 8 k1 hi1.1 hdn1
  have ok2 := hi1.1.sync
  rw [← hk2] at s2 ok2
  have hD2 : k2.D = wb (List.replicate 256 0) i A := by
    rw [hk2]
    show ap k1.q k1.D = _
    rw [hq1, hD1]
    exact ap_ps _ _ _ _ (Nat.le_refl _) (by rw [hz]; omega)
  have hq2 : k2.q = [] := by rw [hk2]; rfl
  have hn2 : k2.n = 256 := by rw [hk2]; exact hi1.2.1
  have hdn2 : k2.dn = false := by rw [hk2]; exact hdn1
  -- armed
  obtain ⟨k3, hk3⟩ : ∃ k3, k3 = k2.fail (idx fl 6) := ⟨_, rfl⟩
  have s3 := s0_27 1 Hp.none 8 k2 (idx fl 6)
  have ok3 := ok2.fail (x := idx fl 6) (by omega)
  rw [← hk3] at s3 ok3
  rw [fail_f hdn2] at hk3
  have hD3 : k3.D = wb (List.replicate 256 0) i A := by rw [hk3]; exact hD2
  have hq3 : k3.q = [] := by rw [hk3]; exact hq2
  have hn3 : k3.n = 256 := by rw [hk3]; exact hn2
  have hdn3 : k3.dn = false := by rw [hk3]; exact hdn2
  -- the second write
  have s4 := s0_19 0 Hp.none 8 k3 ok3 false (120 + j) B hdn3 (by omega) (by rw [hq3]; simp; omega)
  obtain ⟨ok4, hn4, hD4, hq4⟩ := wrF_inv B.length k3 (120 + j) B ok3 (by omega) (by rw [hq3]; simp; omega)
  generalize (wrF B.length k3 (120 + j) B).1 = k4 at s4 ok4 hn4 hD4 hq4
  generalize (wrF B.length k3 (120 + j) B).2 = e4 at s4
  have hge : ∀ e ∈ k4.q, 120 ≤ e.1 := fun e he => by
    rcases hq4 e he with h | h
    · rw [hq3] at h; cases h
    · omega
  -- the crash
  have s5 := s0_21 1 Hp.none 8 k4 ok4 keep tn
  have ok5 := ok4.crash keep tn
  have s6 := s0_13 0 Hp.none 8 (k4.crash keep tn) ok5 i A.length rfl (by show _ ≤ k4.n; omega)
  have hread : ((k4.crash keep tn).C.drop i).take A.length = A := by
    apply List.ext_getElem?
    intro t
    rw [List.getElem?_take]
    by_cases ht : t < A.length
    · rw [if_pos ht, List.getElem?_drop]
      show (k4.crD keep tn)[i + t]? = _
      rw [crD_get ok4 keep tn hge (i + t) (by omega), hD4, hD3, wb_get (by rw [hz]; omega), if_pos (by omega)]
      congr 1
      omega
    · rw [if_neg ht, List.getElem?_eq_none (by omega)]
  rw [hread] at s6
  refine ⟨3, ?_⟩
  apply Exists.intro
  apply Exists.intro
  refine cw rfl (Ev.stage 4 (fun n => w8_0 _ n (l_1 := a.map byteAV) (tg_2 := ta) (l_3 := b.map byteAV) (tg_4 := tb) (x_5 := x) (x_6 := keep) (x_7 := tn) (x_8 := fl)) ?_) (fun n => by kernel_rfl)
  refine EvF.pcall (pureL_vs (pure_bytes _) rfl) hn17a (pure_bytes _) (EvF.mid 0 (fun n => w8_1 _ n) ?_ 0)
  refine EvF.pcall (pureL_vs (pure_bytes _) rfl) hn17b (pure_bytes _) (EvF.mid 2 (fun n => w8_2 _ n) ?_ 0)
  refine EvF.call h11 (EvF.mid 3 (fun n => w8_3 _ n) ?_ 0)
  refine EvF.pcall rfl (n18 1 _ _ x 20 (by omega) (by omega)) rfl ?_
  rw [hi]
  refine EvF.mid 0 (fun n => w8_4 _ n) ?_ 0
  refine EvF.call s1 (EvF.mid 4 (fun n => w8_5 _ n) ?_ 0)
  refine EvF.bnf rfl (EvF.call s2 (EvF.mid 4 (fun n => w8_6 _ n) ?_ 4))
  refine EvF.bnf rfl (EvF.pcall rfl (n18 1 _ _ fl 6 (by omega) (by omega)) rfl (EvF.mid 0 (fun n => w8_7 _ n) ?_ 0))
  refine EvF.call s3 (EvF.mid 2 (fun n => w8_8 _ n) ?_ 0)
  refine EvF.pcall rfl (n18 1 _ _ x 40 (by omega) (by omega)) rfl ?_
  rw [hj]
  refine EvF.mid 0 (fun n => w8_9 _ n) ?_ 0
  have ew : IntKind.wrap IntKind.i64 (120 + (j : Int)) = ((120 + j : Nat) : Int) := by rw [wrap64 (by omega) (by omega)]; omega
  rw [ew]
  refine EvF.call s4 (EvF.mid 2 (fun n => w8_10 _ n) ?_ 0)
  refine EvF.call s5 (EvF.mid 2 (fun n => w8_11 _ n) ?_ 0)
  refine EvF.pcall rfl (n18 1 _ _ x 20 (by omega) (by omega)) rfl ?_
  rw [hi]
  refine EvF.mid 0 (fun n => w8_12 _ n) ?_ 0
  rw [List.length_map]
  refine EvF.call s6 (EvF.mid 3 (fun n => w8_13 _ n) ?_ 0)
  refine EvF.bdt rfl (EvF.bnd (bytesOf_map _) (EvF.bnd (bytesOf_map _) (EvF.brt (eqS_refl _) ?_)))
  refine EvF.call (s0_14 1 _ 8 (k4.crash keep tn)) (EvF.mid 1 (fun n => w8_14 _ n) ?_ 1)
  refine EvF.brt rfl (EvF.pcall rfl haw (by rw [ho]; rfl) ?_)
  rw [ho]
  exact EvF.mid 1 (fun n => w8_15 _ n) EvF.ret 1

end Go.Proofs.Ytjipknfohmgjaaa
