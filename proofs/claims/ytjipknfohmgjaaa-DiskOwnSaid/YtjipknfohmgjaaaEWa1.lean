/- Write of bytes that lie in memory: a disk at the base 1. -/
import Derived.Test.YtjipknfohmgjaaaESp1
import Derived.Test.YtjipknfohmgjaaaESta1
import Derived.Test.YtjipknfohmgjaaaEHelp
namespace Go.Proofs.Ytjipknfohmgjaaa
open Go Go.Vai

attribute [local irreducible] midRun goTo bodyOf mkS run

theorem la1_19 (cal : Oracle) (T : Hp) (nx : Nat) (W : List UInt8) : ∀ (f len off o : Nat) (k : Dk), len ≤ f → off + len ≤ W.length → k.Ok → o + len ≤ k.n → k.q.length + len ≤ 1099511627776 →
    Ev cal 19 (goTo [0, 5, 0, 0, 5, 0, 5, 7, 5, 0, 2, 3] (bodyOf 19)) (mkS 86 [(0, .val (.ptr 1 0) .no), (1, .val (.int .i64 (o : Int)) .no), (2, .val (.arr 0 off len 1) .no)] [] (pre1 (W.map byteAV) ((k).hp 1 T)) nx) ⟨.int .i64 (wrF f k o ((W.drop off).take len)).2, (pre1 (W.map byteAV) (((wrF f k o ((W.drop off).take len)).1).hp 1 T)), nx⟩ := by
  have hm : maxBytes = 140737488355328 := rfl
  intro f
  induction f with
  | zero =>
    intro len off o k hf hW ok _ _
    refine Ev.stage 25 (fun n => a1_19_3 cal n (W.map byteAV) T nx _ _ _ _ _ _ _ _ _ _ _) ?_
    exact EvF.bdf (by omega) EvF.ret
  | succ f ih =>
    intro len off o k hf hW ok ho hq
    have hn := ok.n
    have hc := ok.c
    have hl0 := ok.l0
    have hl1 := ok.l1
    refine Ev.stage 25 (fun n => a1_19_3 cal n (W.map byteAV) T nx _ _ _ _ _ _ _ _ _ _ _) ?_
    obtain ⟨b, hbe⟩ : ∃ b, b = (W.drop off).take len := ⟨_, rfl⟩
    have hbl : b.length = len := by rw [hbe]; simp; omega
    rw [← hbe]
    unfold wrF
    by_cases hb : b.length = 0
    · simp only [if_pos hb]
      exact EvF.bdf (by omega) EvF.ret
    simp only [if_neg hb]
    refine EvF.bdt (by omega) ?_
    have hp : 1 ≤ 32 - o % 32 := by omega
    obtain ⟨m, hme⟩ : ∃ m, m = min b.length (32 - o % 32) := ⟨_, rfl⟩
    have hm1 : 1 ≤ m := by omega
    have hm2 : m ≤ len := by omega
    rw [← hme]
    have et : Int.tmod (o : Int) 32 = ((o % 32 : Nat) : Int) := by rw [Int.tmod_eq_emod_of_nonneg (by omega)]; omega
    have ew : IntKind.wrap IntKind.i64 (32 - Int.tmod (o : Int) 32) = ((32 - o % 32 : Nat) : Int) := by rw [et, wrap64 (by omega) (by omega)]; omega
    have e1 : (if IntKind.wrap IntKind.i64 (32 - Int.tmod (o : Int) 32) < ((len : Nat) : Int) then IntKind.wrap IntKind.i64 (32 - Int.tmod (o : Int) 32) else ((len : Nat) : Int)) = (m : Int) := by
      rw [ew]
      split <;> omega
    rw [e1]
    have e2 : IntKind.wrap IntKind.i64 ((o : Int) + (m : Int)) = ((o + m : Nat) : Int) := by rw [wrap64 (by omega) (by omega)]; omega
    rw [e2]
    simp only [Int.toNat_natCast]
    have eA : List.take len (List.drop off (W.map byteAV)) = b.map byteAV := by rw [hbe, List.map_take, List.map_drop]
    have eB : List.take (m - 0) (List.drop (off + 0) (W.map byteAV)) = (b.take m).map byteAV := by
      rw [hbe, List.take_take, Nat.min_eq_left hm2, List.map_take, List.map_drop]
      rfl
    have e3 : Nat.min (List.length (b.map byteAV)) (o + m - o) = m := by rw [List.length_map]; show min _ _ = _; omega
    rw [eA, eB, e3, ← List.map_take, patch_wb' (by omega)]
    have hw : (b.take m).length = m := by rw [List.length_take]; omega
    have hrest : b.drop m = (W.drop (off + m)).take (len - m) := by rw [hbe, List.drop_take, List.drop_drop]
    have eq1 : k.q.map qAV ++ [.agg [.int .i64 (o : Int), .vs 1 false ((b.take m).map byteAV)]] = (k.q ++ [(o, b.take m)]).map qAV := by rw [List.map_append]; rfl
    rw [eq1]
    by_cases ha : k.ar = true
    · refine EvF.brt ha ?_
      by_cases hz : k.lf = 0
      · rw [if_pos ⟨ha, hz⟩]
        exact EvF.bdt hz EvF.ret
      rw [if_neg (fun h => hz h.2)]
      refine EvF.bdf hz (EvF.brt ha ?_)
      refine EvF.bdt (by omega) (EvF.bdt (by omega) (EvF.bdt (by omega) (EvF.bdt (by omega) (EvF.bdt trivial (EvF.brt (blt_t (by omega)) (EvF.brt (ble_t (by rw [List.length_map]; omega)) (EvF.brt (ble_t (by rw [List.length_map]; omega)) ?_)))))))
      refine EvF.bdt (by omega) (EvF.bdt (by omega) (EvF.brt (blt_t (by omega)) (EvF.brt (ble_t (by rw [List.length_map]; omega)) (EvF.brt (pure_bytes _) (EvF.brt (ble_t (by simp; omega)) (EvF.brt (ble_t (by simp; omega)) ?_))))))
      refine EvF.brt (ble_t (by simp; omega)) (EvF.brt (ble_t (by simp; omega)) (EvF.bdt (by omega) (EvF.bdt (by omega) ?_)))
      have hput : k.put o (b.take m) = ⟨k.n, false, k.q ++ [(o, b.take m)], k.ar, k.lf - 1, k.dn, k.D, wb k.C o (b.take m)⟩ := by unfold Dk.put; rw [if_pos ha]
      have okp := ok.put (o := o) (w := b.take m) (by omega) (by omega) (by omega) (fun _ => hz)
      rw [wrap64 (by omega) (by omega)]
      by_cases hlast : m < len
      · refine EvF.brt (blt_t hlast) ?_
        have := ih (len - m) (off + m) (o + m) (k.put o (b.take m)) (by omega) (by omega) okp (by show _ ≤ k.n; omega) (by show (k.q ++ [_]).length + _ ≤ _; simp; omega)
        rw [← hrest] at this
        refine EvF.congr (this.at 0) fun n => ?_
        rw [hput]
        show run _ _ _ _ _ _ (mkS 86 [_, _, (2, .val (.arr 0 (off + m * 1) _ 1) .no)] _ _ _) = _
        rw [Nat.mul_one]
        rfl
      · refine EvF.brf (blt_f hlast) ?_
        have hnil : b.drop m = [] := List.drop_eq_nil_of_le (by omega)
        rw [hnil]
        have := l1_19 cal (W.map byteAV) T nx false f [] (o + m) (k.put o (b.take m)) (by simp) okp (by show _ ≤ k.n; simp; omega) (by show (k.q ++ [_]).length + _ ≤ _; simp; omega)
        refine EvF.congr (this.at 0) fun n => ?_
        rw [hput]
        rfl
    · rw [if_neg (fun h => ha h.1)]
      refine EvF.brf (by simpa using ha) (EvF.brf (by simpa using ha) ?_)
      refine EvF.bdt (by omega) (EvF.bdt (by omega) (EvF.bdt (by omega) (EvF.bdt (by omega) (EvF.bdt trivial (EvF.brt (blt_t (by omega)) (EvF.brt (ble_t (by rw [List.length_map]; omega)) (EvF.brt (ble_t (by rw [List.length_map]; omega)) ?_)))))))
      refine EvF.bdt (by omega) (EvF.bdt (by omega) (EvF.brt (blt_t (by omega)) (EvF.brt (ble_t (by rw [List.length_map]; omega)) (EvF.brt (pure_bytes _) (EvF.brt (ble_t (by simp; omega)) (EvF.brt (ble_t (by simp; omega)) ?_))))))
      refine EvF.brt (ble_t (by simp; omega)) (EvF.brt (ble_t (by simp; omega)) (EvF.bdt (by omega) (EvF.bdt (by omega) ?_)))
      have hput : k.put o (b.take m) = ⟨k.n, false, k.q ++ [(o, b.take m)], k.ar, k.lf, k.dn, k.D, wb k.C o (b.take m)⟩ := by unfold Dk.put; rw [if_neg ha]
      have okp := ok.put (o := o) (w := b.take m) (by omega) (by omega) (by omega) (fun h => absurd h ha)
      by_cases hlast : m < len
      · refine EvF.brt (blt_t hlast) ?_
        have := ih (len - m) (off + m) (o + m) (k.put o (b.take m)) (by omega) (by omega) okp (by show _ ≤ k.n; omega) (by show (k.q ++ [_]).length + _ ≤ _; simp; omega)
        rw [← hrest] at this
        refine EvF.congr (this.at 0) fun n => ?_
        rw [hput]
        show run _ _ _ _ _ _ (mkS 86 [_, _, (2, .val (.arr 0 (off + m * 1) _ 1) .no)] _ _ _) = _
        rw [Nat.mul_one]
        rfl
      · refine EvF.brf (blt_f hlast) ?_
        have hnil : b.drop m = [] := List.drop_eq_nil_of_le (by omega)
        rw [hnil]
        have := l1_19 cal (W.map byteAV) T nx false f [] (o + m) (k.put o (b.take m)) (by simp) okp (by show _ ≤ k.n; simp; omega) (by show (k.q ++ [_]).length + _ ≤ _; simp; omega)
        refine EvF.congr (this.at 0) fun n => ?_
        rw [hput]
        rfl

theorem sa1_19 (d : Nat) (T : Hp) (nx : Nat) (W : List UInt8) (k : Dk) (ok : k.Ok) (o off len : Nat) (hW : off + len ≤ W.length) (hdn : k.dn = false) (h : o + len ≤ k.n) (hq : k.q.length + len ≤ 1099511627776) :
    CW (d + 2) 19 [.ptr 1 0, .int .i64 (o : Int), .arr 0 off len 1] (pre1 (W.map byteAV) ((k).hp 1 T)) nx = some ⟨.int .i64 (wrF len k o ((W.drop off).take len)).2, (pre1 (W.map byteAV) (((wrF len k o ((W.drop off).take len)).1).hp 1 T)), nx⟩ := by
  refine cw (S := mkS 86 [(0, .val (.ptr 1 0) .no), (1, .val (.int .i64 (o : Int)) .no), (2, .val (.arr 0 off len 1) .no)] [] (pre1 (W.map byteAV) ((k).hp 1 T)) nx) rfl (Ev.stage 5 (fun n => a1_19_0 _ n (W.map byteAV) T nx _ _ _ _ _ _ _ _ _ _ _) ?_) (fun n => by kernel_rfl)
  refine EvF.call (s1_28 d (W.map byteAV) T nx k ok o len) ?_
  rw [chk_ok hdn h]
  refine EvF.mid 7 (fun n => a1_19_1 _ n (W.map byteAV) T nx _ _ _ _ _ _ _ _ _ _ _ 0) (EvF.bnf rfl ?_) 0
  exact (Ev.same 25 (fun n => a1_19_3 (CW (d + 1)) n (W.map byteAV) T nx _ _ _ _ _ _ _ _ _ _ _) (fun n => a1_19_2 (CW (d + 1)) n (W.map byteAV) T nx _ _ _ _ 0 false _ _ _ _ _ _ _) (la1_19 (CW (d + 1)) T nx W len len off o k (Nat.le_refl _) hW ok h hq)).at 0

end Go.Proofs.Ytjipknfohmgjaaa
