/- DiskParts: what the law computes is true. -/
import Derived.Test.YtjipknfohmgjaaaDHelp
import Derived.Test.YtjipknfohmgjaaaDWh0
import Derived.Test.YtjipknfohmgjaaaDWh8
import Derived.Test.YtjipknfohmgjaaaDW6
namespace Go.Proofs.Ytjipknfohmgjaaa
open Go Go.Vai

attribute [local irreducible] midRun goTo bodyOf mkS run

/-- a disk as the blocks before another -/
def Dk.zz (k : Dk) : Blk × Blk × Blk := (⟨[.arr 1 0 k.n 1, .arr 3 0 k.n 1, .vs 2 k.tg (k.q.map qAV), .bool k.ar, .int .i64 k.lf, .bool k.dn], [2]⟩, ⟨k.D.map byteAV, []⟩, ⟨k.C.map byteAV, []⟩)
theorem pre_zz (k : Dk) (T : Hp) : pre k.zz T = k.hp 0 T := rfl

theorem c6 (b : List UInt8) (tb : Bool) (_ : b.length ≤ 140737488351232) (x : Int) (_ : -9223372036854775808 ≤ x ∧ x ≤ 9223372036854775807) (y : Int) (_ : -9223372036854775808 ≤ y ∧ y ≤ 9223372036854775807) :
    ∃ d H nx, CW d 6 [.vs 1 tb (b.map byteAV), .int .i64 x, .int .i64 y] Hp.none 0 = some ⟨.bool true, H, nx⟩ := by
  obtain ⟨o, ho, haw⟩ := cw_awake 3
  have hB : (b.take 150).length ≤ 150 := by rw [List.length_take]; omega
  have hn17 := n17 2 Hp.none 0 b tb 150
  generalize hB' : b.take 150 = B at hB hn17
  have i0 := idx_0 x (m := 100) (by omega)
  have i1 := idx_lt x (m := 100) (by omega)
  obtain ⟨i, hi⟩ := Int.eq_ofNat_of_zero_le i0
  have j0 := idx_0 y (m := (B.length : Int) + 1) (by omega)
  have j1 := idx_lt y (m := (B.length : Int) + 1) (by omega)
  obtain ⟨j, hj⟩ := Int.eq_ofNat_of_zero_le j0
  have ok0 : (dk0 256).Ok := dk0_ok (by omega)
  have hz : (dk0 256).C.length = 256 := ok0.c
  have h11 : CW 3 11 [.int .i64 8] Hp.none 0 = some ⟨.ptr 0 0, (dk0 256).hp 0 Hp.none, 8⟩ := s0_11 2 8
  have h12 : CW 3 11 [.int .i64 8] ((dk0 256).hp 0 Hp.none) 8 = some ⟨.ptr 8 0, (dk0 256).hp 0 ((dk0 256).hp 8 Hp.none), 16⟩ := s8_11 2 (dk0 256).zz 8
  -- the first disk
  have hw1 := wrF_all B.length (dk0 256) i B (Nat.le_refl _) (by rw [hz]; omega) (fun h => by cases h)
  obtain ⟨ok1, hn1, _, _⟩ := wrF_inv B.length (dk0 256) i B ok0 (by show _ ≤ 256; omega) (by show 0 + _ ≤ _; omega)
  have e1 : (wrF B.length (dk0 256) i B).2 = 0 := by rw [hw1]
  have hC1 : (wrF B.length (dk0 256) i B).1.C = wb (dk0 256).C i B := by rw [hw1]
  have hdn1 : (wrF B.length (dk0 256) i B).1.dn = false := by rw [hw1]; rfl
  have s1 := s0_19 1 ((dk0 256).hp 8 Hp.none) 16 (dk0 256) ok0 false i B rfl (by show _ ≤ 256; omega) (by show 0 + _ ≤ _; omega)
  rw [e1] at s1
  generalize (wrF B.length (dk0 256) i B).1 = k1 at s1 ok1 hn1 hC1 hdn1
  -- the second disk
  have hA : (B.take j).length = j := by rw [List.length_take]; omega
  have hR : (B.drop j).length = B.length - j := by rw [List.length_drop]
  have hw2 := wrF_all (B.take j).length (dk0 256) i (B.take j) (Nat.le_refl _) (by rw [hz]; omega) (fun h => by cases h)
  obtain ⟨ok2, hn2, _, _⟩ := wrF_inv (B.take j).length (dk0 256) i (B.take j) ok0 (by show _ ≤ 256; omega) (by show 0 + _ ≤ _; omega)
  have e2 : (wrF (B.take j).length (dk0 256) i (B.take j)).2 = 0 := by rw [hw2]
  have hC2 : (wrF (B.take j).length (dk0 256) i (B.take j)).1.C = wb (dk0 256).C i (B.take j) := by rw [hw2]
  have hdn2 : (wrF (B.take j).length (dk0 256) i (B.take j)).1.dn = false := by rw [hw2]; rfl
  have har2 : (wrF (B.take j).length (dk0 256) i (B.take j)).1.ar = false := by rw [hw2]; rfl
  have hq2 : (wrF (B.take j).length (dk0 256) i (B.take j)).1.q.length ≤ 150 := by
    rw [hw2]
    show ([] ++ ps (B.take j).length i (B.take j)).length ≤ _
    have := ps_len (B.take j).length i (B.take j)
    rw [List.nil_append]
    omega
  have s2 := s8_19 1 k1.zz Hp.none 16 (dk0 256) ok0 false i (B.take j) rfl (by show _ ≤ 256; omega) (by show 0 + _ ≤ _; omega)
  rw [e2, pre_zz, pre_zz] at s2
  generalize (wrF (B.take j).length (dk0 256) i (B.take j)).1 = k2 at s2 ok2 hn2 hC2 hdn2 har2 hq2
  have hc2 := ok2.c
  have hn2' : k2.n = 256 := hn2
  have hw3 := wrF_all (B.drop j).length k2 (i + j) (B.drop j) (Nat.le_refl _) (by omega) (fun h => by rw [har2] at h; cases h)
  obtain ⟨ok3, hn3, _, _⟩ := wrF_inv (B.drop j).length k2 (i + j) (B.drop j) ok2 (by omega) (by omega)
  have e3 : (wrF (B.drop j).length k2 (i + j) (B.drop j)).2 = 0 := by rw [hw3]
  have hC3 : (wrF (B.drop j).length k2 (i + j) (B.drop j)).1.C = wb (dk0 256).C i B := by
    rw [hw3]
    show wb k2.C (i + j) (B.drop j) = _
    rw [hC2]
    exact wb_wb (by omega) (by omega)
  have hdn3 : (wrF (B.drop j).length k2 (i + j) (B.drop j)).1.dn = false := by rw [hw3]; exact hdn2
  have s3 := s8_19 1 k1.zz Hp.none 16 k2 ok2 false (i + j) (B.drop j) hdn2 (by omega) (by omega)
  rw [e3, pre_zz, pre_zz] at s3
  generalize (wrF (B.drop j).length k2 (i + j) (B.drop j)).1 = k3 at s3 ok3 hn3 hC3 hdn3
  -- all bytes
  have s4 := s0_22 0 (k3.hp 8 Hp.none) 16 k1 ok1 8 hn1 hdn1
  have s5 := s8_22 0 k1.zz Hp.none 16 k3 ok3 8 (hn3.trans hn2') hdn3
  have s6 := s0_20 1 (k3.hp 8 Hp.none) 16 k1 ok1 hdn1
  have s7 := s8_20 1 k1.sync.zz Hp.none 16 k3 ok3 hdn3
  have s8 := s0_22 0 (k3.sync.hp 8 Hp.none) 16 k1.sync ok1.sync 8 hn1 hdn1
  have s9 := s8_22 0 k1.sync.zz Hp.none 16 k3.sync ok3.sync 8 (hn3.trans hn2') hdn3
  have hcc1 : k1.sync.C = wb (dk0 256).C i B := hC1
  have hcc3 : k3.sync.C = wb (dk0 256).C i B := hC3
  rw [hC1] at s4
  rw [hC3, pre_zz] at s5
  rw [pre_zz, pre_zz] at s7
  rw [hcc1] at s8
  rw [hcc3, pre_zz] at s9
  have hn1' : k1.sync.n = 256 := hn1
  have sa := s0_13 1 (k3.sync.hp 8 Hp.none) 16 k1.sync ok1.sync i j hdn1 (by omega)
  have sb := s0_13 1 (k3.sync.hp 8 Hp.none) 16 k1.sync ok1.sync (i + j) (B.length - j) hdn1 (by omega)
  have hall : ((wb (dk0 256).C i B).drop i).take B.length = B := wb_read (by omega)
  have ra : (k1.sync.C.drop i).take j = B.take j := by
    rw [hcc1]
    conv => rhs; rw [← hall]
    rw [List.take_take, Nat.min_eq_left (by omega)]
  have rb : (k1.sync.C.drop (i + j)).take (B.length - j) = B.drop j := by
    rw [hcc1]
    conv => rhs; rw [← hall]
    rw [List.drop_take, List.drop_drop]
  rw [ra] at sa
  rw [rb] at sb
  refine ⟨4, ?_⟩
  apply Exists.intro
  apply Exists.intro
  refine cw rfl (Ev.stage 4 (fun n => w6_0 _ n (l_1 := b.map byteAV) (tg_2 := tb) (x_3 := x) (x_4 := y)) ?_) (fun n => by kernel_rfl)
  refine EvF.pcall (pureL_vs (pure_bytes _) rfl) hn17 (pure_bytes _) (EvF.mid 2 (fun n => w6_1 _ n) ?_ 0)
  refine EvF.pcall rfl (n18 2 _ _ x 100 (by omega) (by omega)) rfl ?_
  rw [hi]
  refine EvF.mid 2 (fun n => w6_2 _ n) ?_ 0
  have el : IntKind.wrap IntKind.i64 (((List.length (B.map byteAV) : Nat) : Int) + 1) = (B.length : Int) + 1 := by rw [List.length_map, wrap64 (by omega) (by omega)]
  rw [el]
  refine EvF.pcall rfl (n18 2 _ _ y ((B.length : Int) + 1) (by omega) (by omega)) rfl ?_
  rw [hj]
  refine EvF.mid 2 (fun n => w6_3 _ n) ?_ 0
  refine EvF.call h11 (EvF.mid 0 (fun n => w6_4 _ n) ?_ 0)
  refine EvF.call h12 (EvF.mid 3 (fun n => w6_5 _ n) ?_ 0)
  refine EvF.call s1 (EvF.mid 4 (fun n => w6_6 _ n) ?_ 0)
  refine EvF.bnf rfl (EvF.bdt (by omega) (EvF.bdt (by rw [List.length_map]; omega) ?_))
  rw [Int.toNat_natCast, List.drop_zero, ← List.map_take]
  refine EvF.call s2 (EvF.mid 4 (fun n => w6_7 _ n) ?_ 4)
  refine EvF.bnf rfl (EvF.bdt (by omega) (EvF.bdt (by rw [List.length_map]; omega) ?_))
  have ew : IntKind.wrap IntKind.i64 ((i : Int) + (j : Int)) = ((i + j : Nat) : Int) := by rw [wrap64 (by omega) (by omega)]; omega
  rw [ew, Int.toNat_natCast, List.take_length, ← List.map_drop]
  refine EvF.call s3 (EvF.mid 5 (fun n => w6_8 _ n) ?_ 4)
  refine EvF.bnf rfl (EvF.call s4 (EvF.mid 0 (fun n => w6_9 _ n) ?_ 0))
  refine EvF.call s5 (EvF.mid 4 (fun n => w6_10 _ n) ?_ 0)
  refine EvF.brf (by rw [eqS_refl]; rfl) (EvF.call s6 (EvF.mid 4 (fun n => w6_11 _ n) ?_ 4))
  refine EvF.bnf rfl (EvF.call s7 (EvF.mid 4 (fun n => w6_12 _ n) ?_ 4))
  refine EvF.bnf rfl (EvF.call s8 (EvF.mid 0 (fun n => w6_13 _ n) ?_ 4))
  refine EvF.call s9 (EvF.mid 4 (fun n => w6_14 _ n) ?_ 0)
  refine EvF.brf (by rw [eqS_refl]; rfl) (EvF.call sa (EvF.mid 2 (fun n => w6_15 _ n) ?_ 0))
  have es : IntKind.wrap IntKind.i64 (((List.length (B.map byteAV) : Nat) : Int) - (j : Int)) = ((B.length - j : Nat) : Int) := by rw [List.length_map, wrap64 (by omega) (by omega)]; omega
  rw [ew, es]
  refine EvF.call sb (EvF.mid 3 (fun n => w6_16 _ n) ?_ 0)
  refine EvF.bdt rfl (EvF.bdt rfl (EvF.bnd (bytesOf_map _) (EvF.bnd (bytesOf_map _) (EvF.brt (ble_t (by omega)) (EvF.bnd (bytesOf_map _) (EvF.brt (by rw [List.take_append_drop]; exact eqS_refl _) ?_))))))
  refine EvF.pcall rfl haw (by rw [ho]; rfl) ?_
  rw [ho]
  exact EvF.mid 1 (fun n => w6_17 _ n) EvF.ret 1

end Go.Proofs.Ytjipknfohmgjaaa
