/- What the methods of the reference disk do. -/
import Derived.Test.YtjipknfohmgjaaaDHelp
import Derived.Test.YtjipknfohmgjaaaPSt
namespace Go.Proofs.Ytjipknfohmgjaaa
open Go Go.Vai

attribute [local irreducible] midRun goTo bodyOf mkS run

/-- the reference's blocks: the same state as the disk's -/
def rdk (k : Dk) (T : Hp) : Hp := hrf k.n k.tg (k.q.map qAV) k.dn k.ar k.lf (k.D.map byteAV) T
/-- the error of an access of a reference that has power -/
def chkR (k : Dk) (x y : Int) : Int := if x < 0 then 9 else if y < 0 then 9 else if (k.n : Int) < x then 9 else if (k.n : Int) - x < y then 9 else 0
theorem chk_r (k : Dk) (x y : Int) : chk k x y = if k.dn = true then 15 else chkR k x y := rfl
theorem chkR_9 (k : Dk) (x y : Int) : chkR k x y = 0 ∨ chkR k x y = 9 := by
  unfold chkR
  split
  · exact .inr rfl
  split
  · exact .inr rfl
  split
  · exact .inr rfl
  split
  · exact .inr rfl
  exact .inl rfl
theorem chkR_0 {k : Dk} {x y : Int} (h : chkR k x y = 0) : ∃ o m : Nat, x = o ∧ y = m ∧ o + m ≤ k.n := by
  unfold chkR at h
  split at h
  · omega
  split at h
  · omega
  split at h
  · omega
  split at h
  · omega
  exact ⟨x.toNat, y.toNat, by omega, by omega, by omega⟩

theorem r25 (d : Nat) (Z : Blk × Blk × Blk) (m : Nat) (T : Hp) (nx n : Nat) (tg off ar : Bool) (q : List AV) (ct : Int) : CW (d + 1) 25 [.ptr 8 0] (pre Z ((8, ⟨[.arr m 0 n 1, .vs 2 tg q, .bool off, .bool ar, .int .i64 ct], [1]⟩) :: T)) nx =
    some ⟨.int .i64 (IntKind.wrap IntKind.i64 (Int.tdiv (n : Int) 32)), pre Z ((8, ⟨[.arr m 0 n 1, .vs 2 tg q, .bool off, .bool ar, .int .i64 ct], [1]⟩) :: T), nx⟩ :=
  cw rfl (Ev.stage 5 (fun n' => rf_25_0 _ n' Z m T nx n tg q off ar ct) EvF.ret) (fun n => by kernel_rfl)

theorem r34 (d : Nat) (Z : Blk × Blk × Blk) (k : Dk) (ok : k.Ok) (x y : Int) (hx : -9223372036854775808 ≤ x ∧ x ≤ 9223372036854775807) : CW (d + 1) 34 [.ptr 8 0, .int .i64 x, .int .i64 y] (pre Z (rdk k Hp.none)) 16 = some ⟨.bool (decide (chkR k x y = 0)), pre Z (rdk k Hp.none), 16⟩ := by
  refine cw rfl (Ev.stage 5 (fun n => rf_34_0 _ n Z x y k.n k.tg (k.q.map qAV) k.dn k.ar k.lf (k.D.map byteAV)) ?_) (fun n => by kernel_rfl)
  have hn := ok.n
  unfold chkR
  by_cases h2 : x < 0
  · rw [if_pos h2]; exact EvF.bdf (by omega) EvF.ret
  rw [if_neg h2]
  refine EvF.bdt (by omega) ?_
  by_cases h3 : y < 0
  · rw [if_pos h3]; exact EvF.bdf (by omega) EvF.ret
  rw [if_neg h3]
  refine EvF.bdt (by omega) ?_
  by_cases h4 : (k.n : Int) < x
  · rw [if_pos h4]; exact EvF.bdf (by omega) EvF.ret
  rw [if_neg h4]
  refine EvF.bdt (by omega) (EvF.ret' ?_)
  rw [wrap64 (by omega) (by omega)]
  by_cases h5 : (k.n : Int) - x < y
  · rw [if_pos h5, decide_eq_false (by omega), decide_eq_false (by omega)]; rfl
  · rw [if_neg h5, decide_eq_true (by omega), decide_eq_true rfl]; rfl

theorem r31 (d : Nat) (Z : Blk × Blk × Blk) (k : Dk) (x : Int) : CW (d + 1) 31 [.ptr 8 0, .int .i64 x] (pre Z (rdk k Hp.none)) 16 = some ⟨.tuple [], pre Z (rdk (k.fail x) Hp.none), 16⟩ := by
  refine cw rfl (Ev.stage 7 (fun n => rf_31_0 _ n Z x k.n k.tg (k.q.map qAV) k.dn k.ar k.lf (k.D.map byteAV)) ?_) (fun n => by kernel_rfl)
  by_cases h : k.dn = true
  · rw [fail_t h]; exact EvF.brf (by rw [h]; rfl) EvF.ret
  · rw [fail_f (by simpa using h)]
    refine EvF.brt (by simpa using h) (EvF.ret' ?_)
    rw [show (if 0 < x then x else 0) = (if x < 0 then 0 else x) by split <;> split <;> omega]
    rfl

/-- View's loop -/
theorem l26 (cal : Oracle) (Z : Blk × Blk × Blk) (k : Dk) (ok : k.Ok) : ∀ (r p : Q) (B : List UInt8), k.q = p ++ r → B.length = k.n →
    Ev cal 26 (goTo [0, 5, 0, 5, 0, 0, 5, 2, 3] (bodyOf 26)) (mkS 40 [(0, .val (.ptr 8 0) .no), (3, .val (.arr 16 0 k.n 1) .no), (4, .val (.int .i64 (p.length : Int)) .no)] [] (pre Z (rdk k ((16, ⟨B.map byteAV, []⟩) :: Hp.none))) 17)
      ⟨.arr 16 0 k.n 1, pre Z (rdk k ((16, ⟨(ap r B).map byteAV, []⟩) :: Hp.none)), 17⟩ := by
  have hql := ok.ql
  intro r
  induction r with
  | nil =>
    intro p B hp hB
    refine Ev.stage 8 (fun n => rf_26_2 cal n Z k.n 0 k.n (p.length : Int) k.tg (k.q.map qAV) k.dn k.ar k.lf (k.D.map byteAV) (B.map byteAV)) ?_
    exact EvF.bdf (by rw [hp]; simp) EvF.ret
  | cons e r ih =>
    intro p B hp hB
    have he := ok.q e (by rw [hp]; simp)
    have hlen : p.length < k.q.length := by rw [hp]; simp
    have hnth : nth (k.q.map qAV) (Int.toNat (p.length : Int)) = some (qAV e) := by rw [hp, Int.toNat_natCast]; exact nth_map qAV p e r
    refine Ev.stage 8 (fun n => rf_26_2 cal n Z k.n 0 k.n (p.length : Int) k.tg (k.q.map qAV) k.dn k.ar k.lf (k.D.map byteAV) (B.map byteAV)) ?_
    refine EvF.bdt (by rw [List.length_map]; omega) (EvF.bdt (by omega) (EvF.bdt (by rw [List.length_map]; omega) (EvF.nth hnth ?_)))
    refine EvF.mid 0 (fun n => rf_26_3 cal n Z k.n 0 k.n (p.length : Int) k.tg (k.q.map qAV) k.dn k.ar k.lf (k.D.map byteAV) (B.map byteAV) (e.1 : Int) (e.2.map byteAV)) ?_ 0
    refine EvF.bdt (by omega) (EvF.bdt (by omega) (EvF.brt (blt_t (by omega)) (EvF.bdt (by omega) (EvF.bdt (by rw [List.length_map]; omega) (EvF.nth hnth ?_)))))
    refine EvF.mid 3 (fun n => rf_26_4 cal n Z k.n 0 k.n (p.length : Int) k.tg (k.q.map qAV) k.dn k.ar k.lf (k.D.map byteAV) (B.map byteAV) (e.1 : Int) (e.2.map byteAV) (e.1 : Int) (e.2.map byteAV)) ?_ 0
    rw [Int.toNat_natCast, show Nat.min (List.length (e.2.map byteAV)) (k.n - e.1) = e.2.length by rw [List.length_map]; exact Nat.min_eq_left (by omega), patch_wb (by omega), List.take_length]
    refine EvF.brt (ble_t (by rw [List.length_map]; omega)) ?_
    have := ih (p ++ [e]) (wb B e.1 e.2) (by rw [hp]; simp) (by rw [wb_length (by omega)]; exact hB)
    rw [wrap64 (by omega) (by omega), show (p.length : Int) + 1 = (((p ++ [e]).length : Nat) : Int) by simp]
    exact this.at 0
theorem r26 (d : Nat) (Z : Blk × Blk × Blk) (k : Dk) (ok : k.Ok) (h1 : 1 ≤ k.n) : CW (d + 1) 26 [.ptr 8 0] (pre Z (rdk k Hp.none)) 16 = some ⟨.arr 16 0 k.n 1, pre Z (rdk k ((16, ⟨(ap k.q k.D).map byteAV, []⟩) :: Hp.none)), 17⟩ := by
  have hm : maxBytes = 140737488355328 := rfl
  have hn := ok.n
  have hd := ok.d
  refine cw rfl (Ev.stage 4 (fun n => rf_26_0 _ n Z k.n k.tg (k.q.map qAV) k.dn k.ar k.lf (k.D.map byteAV)) ?_) (fun n => by kernel_rfl)
  have e1 : List.take k.n (List.drop 0 (k.D.map byteAV)) = k.D.map byteAV := by rw [List.drop_zero]; exact List.take_of_length_le (by rw [List.length_map]; omega)
  have hmid : EvF (fun n => midRun (CW d) (n + 0) 26 (goTo [0, 5, 0] (bodyOf 26)) 6 (mkS 40 [(0, .val (.ptr 8 0) .no), (5, .val (.vs 1 true []) .no), (6, .val (.ptr 8 0) .no), (7, .val (.ptr 8 0) .no), (8, .val (.ptr 8 0) .no), (9, .val (.arr 9 0 k.n 1) .no), (10, .val (.arr 16 0 (List.length (List.take k.n (List.drop 0 (k.D.map byteAV)))) 1) .no)] [] (pre Z (hrf k.n k.tg (k.q.map qAV) k.dn k.ar k.lf (k.D.map byteAV) ((16, ⟨(List.flatMap AV.cells (List.take k.n (List.drop 0 (k.D.map byteAV)))), []⟩) :: Hp.none))) 17)) ⟨.arr 16 0 k.n 1, pre Z (rdk k ((16, ⟨(ap k.q k.D).map byteAV, []⟩) :: Hp.none)), 17⟩ := by
    refine EvF.mid 5 (fun n => rf_26_1 _ n Z k.n k.tg (k.q.map qAV) k.dn k.ar k.lf (k.D.map byteAV)) ?_ 0
    rw [e1, flat_bytes', List.length_map, hd]
    exact (l26 (CW d) Z k ok k.q [] k.D rfl hd).at 0
  refine EvF.brt (ble_t (by rw [List.length_map]; omega)) (EvF.brt (ble_t (by rw [e1, List.length_map]; omega)) (EvF.brt (ble_t (by rw [e1, List.length_map]; omega)) (EvF.brf (by
    rw [e1, List.length_map, hd]
    cases hb : Nat.beq k.n 0 with
    | false => rfl
    | true => have := Nat.eq_of_beq_eq_true hb; omega) ?_)))
  exact hmid

theorem r29e (d : Nat) (Z : Blk × Blk × Blk) (k : Dk) (ok : k.Ok) (x y : Int) (hx : -9223372036854775808 ≤ x ∧ x ≤ 9223372036854775807) (h : chk k x y ≠ 0) :
    CW (d + 2) 29 [.ptr 8 0, .int .i64 x, .int .i64 y] (pre Z (rdk k Hp.none)) 16 = some ⟨.tuple [.vs 1 true [], .int .i64 (chk k x y)], pre Z (rdk k Hp.none), 16⟩ := by
  refine cw rfl (Ev.stage 10 (fun n => rf_29_0 _ n Z x y k.n k.tg (k.q.map qAV) k.dn k.ar k.lf (k.D.map byteAV)) ?_) (fun n => by kernel_rfl)
  rw [chk_r] at h ⊢
  by_cases hd : k.dn = true
  · rw [if_pos hd]
    exact EvF.brt hd EvF.ret
  · rw [if_neg hd] at h ⊢
    refine EvF.brf (by simpa using hd) (EvF.call (r34 d Z k ok x y hx) ?_)
    rw [decide_eq_false h]
    refine EvF.mid 4 (fun n => rf_29_1 _ n Z x y k.n k.tg (k.q.map qAV) k.dn k.ar k.lf (k.D.map byteAV) false) (EvF.brt rfl (EvF.ret' ?_)) 0
    rcases chkR_9 k x y with h0 | h0
    · exact absurd h0 h
    · rw [h0]; rfl
/-- what Read gives: a part of the view's block -/
def rdAV (o m : Nat) : AV := if m = 0 then .vs 1 false [] else .arr 16 o m 1
theorem r29 (d : Nat) (Z : Blk × Blk × Blk) (k : Dk) (ok : k.Ok) (h1 : 1 ≤ k.n) (o m : Nat) (hdn : k.dn = false) (h : o + m ≤ k.n) :
    CW (d + 2) 29 [.ptr 8 0, .int .i64 (o : Int), .int .i64 (m : Int)] (pre Z (rdk k Hp.none)) 16 = some ⟨.tuple [rdAV o m, .int .i64 0], pre Z (rdk k ((16, ⟨(ap k.q k.D).map byteAV, []⟩) :: Hp.none)), 17⟩ := by
  have hn := ok.n
  refine cw rfl (Ev.stage 10 (fun n => rf_29_0 _ n Z (o : Int) (m : Int) k.n k.tg (k.q.map qAV) k.dn k.ar k.lf (k.D.map byteAV)) ?_) (fun n => by kernel_rfl)
  have hc : chkR k (o : Int) (m : Int) = 0 := by
    unfold chkR
    rw [if_neg (by omega), if_neg (by omega), if_neg (by omega), if_neg (by omega)]
  refine EvF.brf hdn (EvF.call (r34 d Z k ok o m (by omega)) ?_)
  rw [decide_eq_true hc]
  refine EvF.mid 4 (fun n => rf_29_1 _ n Z (o : Int) (m : Int) k.n k.tg (k.q.map qAV) k.dn k.ar k.lf (k.D.map byteAV) true) (EvF.brf rfl (EvF.call (r26 d Z k ok h1) ?_)) 0
  refine EvF.mid 1 (fun n => rf_29_2 _ n Z (o : Int) (m : Int) k.n k.tg (k.q.map qAV) k.dn k.ar k.lf (k.D.map byteAV) k.n ((ap k.q k.D).map byteAV)) ?_ 0
  have e2 : IntKind.wrap IntKind.i64 ((o : Int) + (m : Int)) = ((o + m : Nat) : Int) := by rw [wrap64 (by omega) (by omega)]; omega
  rw [e2]
  simp only [Int.toNat_natCast]
  refine EvF.bdt (by omega) (EvF.bdt (by omega) (EvF.bdt (by omega) (EvF.bdt (by omega) ?_)))
  unfold rdAV
  by_cases h0 : m = 0
  · rw [if_pos h0]
    exact EvF.brf (blt_f (by omega)) EvF.ret
  · rw [if_neg h0]
    refine EvF.brt (blt_t (by omega)) (EvF.ret' ?_)
    rw [show o + m - o = m by omega, show 0 + o * 1 = o by omega]
    rfl

theorem r30e (d : Nat) (Z : Blk × Blk × Blk) (k : Dk) (h : k.dn = true) : CW (d + 1) 30 [.ptr 8 0] (pre Z (rdk k Hp.none)) 16 = some ⟨.int .i64 15, pre Z (rdk k Hp.none), 16⟩ :=
  cw rfl (Ev.stage 9 (fun n => rf_30_0 _ n Z k.n k.tg (k.q.map qAV) k.dn k.ar k.lf (k.D.map byteAV)) (EvF.brt h EvF.ret)) (fun n => by kernel_rfl)
theorem r30 (d : Nat) (Z : Blk × Blk × Blk) (k : Dk) (ok : k.Ok) (h1 : 1 ≤ k.n) (h : k.dn = false) : CW (d + 2) 30 [.ptr 8 0] (pre Z (rdk k Hp.none)) 16 =
    some ⟨.int .i64 0, pre Z ((8, ⟨[.arr 16 0 k.n 1, .vs 2 true [], .bool k.dn, .bool k.ar, .int .i64 k.lf], [1]⟩) :: (9, ⟨k.D.map byteAV, []⟩) :: (16, ⟨(ap k.q k.D).map byteAV, []⟩) :: Hp.none), 17⟩ := by
  refine cw rfl (Ev.stage 9 (fun n => rf_30_0 _ n Z k.n k.tg (k.q.map qAV) k.dn k.ar k.lf (k.D.map byteAV)) ?_) (fun n => by kernel_rfl)
  exact EvF.brf h (EvF.call (r26 d Z k ok h1) (EvF.mid 5 (fun n => rf_30_1 _ n Z k.n k.tg (k.q.map qAV) k.dn k.ar k.lf (k.D.map byteAV) k.n ((ap k.q k.D).map byteAV)) EvF.ret 0))

/-- Write's loop -/
theorem l33 (cal : Oracle) (Z : Blk × Blk × Blk) (tg : Bool) : ∀ (f : Nat) (b : List UInt8) (o : Nat) (k : Dk), b.length ≤ f → k.Ok → o + b.length ≤ k.n → k.q.length + b.length ≤ 1099511627776 →
    Ev cal 33 (goTo [0, 5, 0, 0, 5, 7, 5, 0, 0, 5, 7, 5, 0, 2, 3] (bodyOf 33)) (mkS 74 [(0, .val (.ptr 8 0) .no), (1, .val (.int .i64 (o : Int)) .no), (2, .val (.vs 1 tg (b.map byteAV)) .no)] [] (pre Z (rdk k Hp.none)) 16) ⟨.int .i64 (wrF f k o b).2, pre Z (rdk (wrF f k o b).1 Hp.none), 16⟩ := by
  have hm : maxBytes = 140737488355328 := rfl
  intro f
  induction f with
  | zero =>
    intro b o k hf ok _ _
    refine Ev.stage 25 (fun n => rf_33_3 cal n Z k.n (o : Int) tg (b.map byteAV) k.tg (k.q.map qAV) k.dn k.ar k.lf (k.D.map byteAV)) ?_
    exact EvF.bdf (by rw [List.length_map]; omega) EvF.ret
  | succ f ih =>
    intro b o k hf ok ho hq
    have hn := ok.n
    have hl0 := ok.l0
    have hl1 := ok.l1
    refine Ev.stage 25 (fun n => rf_33_3 cal n Z k.n (o : Int) tg (b.map byteAV) k.tg (k.q.map qAV) k.dn k.ar k.lf (k.D.map byteAV)) ?_
    unfold wrF
    by_cases hb : b.length = 0
    · simp only [if_pos hb]
      exact EvF.bdf (by rw [List.length_map]; omega) EvF.ret
    simp only [if_neg hb]
    refine EvF.bdt (by rw [List.length_map]; omega) ?_
    have hp : 1 ≤ 32 - o % 32 := by omega
    obtain ⟨m, hme⟩ : ∃ m, m = min b.length (32 - o % 32) := ⟨_, rfl⟩
    have hm1 : 1 ≤ m := by omega
    have hm2 : m ≤ b.length := by omega
    rw [← hme]
    have et : Int.tmod (o : Int) 32 = ((o % 32 : Nat) : Int) := by rw [Int.tmod_eq_emod_of_nonneg (by omega)]; omega
    have ew : IntKind.wrap IntKind.i64 (32 - Int.tmod (o : Int) 32) = ((32 - o % 32 : Nat) : Int) := by rw [et, wrap64 (by omega) (by omega)]; omega
    have e1 : (if IntKind.wrap IntKind.i64 (32 - Int.tmod (o : Int) 32) < ((List.length (b.map byteAV) : Nat) : Int) then IntKind.wrap IntKind.i64 (32 - Int.tmod (o : Int) 32) else ((List.length (b.map byteAV) : Nat) : Int)) = (m : Int) := by
      rw [ew, List.length_map]
      split <;> omega
    rw [e1]
    have e2 : IntKind.wrap IntKind.i64 ((o : Int) + (m : Int)) = ((o + m : Nat) : Int) := by rw [wrap64 (by omega) (by omega)]; omega
    rw [e2]
    simp only [Int.toNat_natCast]
    have e4 : List.take (List.length (b.map byteAV)) (b.map byteAV) = b.map byteAV := List.take_length
    rw [e4, List.drop_zero, ← List.map_take, ← List.map_drop]
    have hpu : pureL [.vs 1 true [], .vs 1 false ((b.take m).map byteAV)] = true := pureL_vs rfl (pureL_vs (pure_bytes _) rfl)
    have hpv : AV.pure (.vs 1 false ([] ++ (b.take m).map byteAV)) = true := pure_bytes _
    have eq1 : k.q.map qAV ++ [.agg [.int .i64 (o : Int), .vs 1 false ([] ++ (b.take m).map byteAV)]] = (k.q ++ [(o, b.take m)]).map qAV := by rw [List.map_append]; rfl
    rw [eq1]
    have hw : (b.take m).length = m := by rw [List.length_take]; omega
    by_cases ha : k.ar = true
    · refine EvF.brt ha ?_
      by_cases hz : k.lf = 0
      · rw [if_pos ⟨ha, hz⟩]
        exact EvF.bdt hz EvF.ret
      rw [if_neg (fun h => hz h.2)]
      refine EvF.bdf hz (EvF.brt ha ?_)
      refine EvF.bdt (by omega) (EvF.bdt (by rw [List.length_map]; omega) (EvF.brt hpu (EvF.brt (ble_t (by simp; omega)) (EvF.brt (ble_t (by simp; omega)) (EvF.brt hpv ?_)))))
      refine EvF.brt (ble_t (by simp; omega)) (EvF.brt (ble_t (by simp; omega)) (EvF.bdt (by omega) (EvF.bdt (by rw [List.length_map]; omega) ?_)))
      have hput : k.put o (b.take m) = ⟨k.n, false, k.q ++ [(o, b.take m)], k.ar, k.lf - 1, k.dn, k.D, wb k.C o (b.take m)⟩ := by unfold Dk.put; rw [if_pos ha]
      have := ih (b.drop m) (o + m) (k.put o (b.take m)) (by simp; omega) (ok.put (by omega) (by omega) (by omega) (fun _ => hz)) (by show _ ≤ k.n; simp; omega) (by show (k.q ++ [_]).length + _ ≤ _; simp; omega)
      rw [wrap64 (by omega) (by omega)]
      refine EvF.congr (this.at 0) fun n => ?_
      rw [hput]
      rfl
    · rw [if_neg (fun h => ha h.1)]
      refine EvF.brf (by simpa using ha) (EvF.brf (by simpa using ha) ?_)
      refine EvF.bdt (by omega) (EvF.bdt (by rw [List.length_map]; omega) (EvF.brt hpu (EvF.brt (ble_t (by simp; omega)) (EvF.brt (ble_t (by simp; omega)) (EvF.brt hpv ?_)))))
      refine EvF.brt (ble_t (by simp; omega)) (EvF.brt (ble_t (by simp; omega)) (EvF.bdt (by omega) (EvF.bdt (by rw [List.length_map]; omega) ?_)))
      have hput : k.put o (b.take m) = ⟨k.n, false, k.q ++ [(o, b.take m)], k.ar, k.lf, k.dn, k.D, wb k.C o (b.take m)⟩ := by unfold Dk.put; rw [if_neg ha]
      have := ih (b.drop m) (o + m) (k.put o (b.take m)) (by simp; omega) (ok.put (by omega) (by omega) (by omega) (fun h => absurd h ha)) (by show _ ≤ k.n; simp; omega) (by show (k.q ++ [_]).length + _ ≤ _; simp; omega)
      refine EvF.congr (this.at 0) fun n => ?_
      rw [hput]
      rfl

theorem r33 (d : Nat) (Z : Blk × Blk × Blk) (k : Dk) (ok : k.Ok) (tg : Bool) (o : Nat) (b : List UInt8) (hdn : k.dn = false) (h : o + b.length ≤ k.n) (hq : k.q.length + b.length ≤ 1099511627776) :
    CW (d + 2) 33 [.ptr 8 0, .int .i64 (o : Int), .vs 1 tg (b.map byteAV)] (pre Z (rdk k Hp.none)) 16 = some ⟨.int .i64 (wrF b.length k o b).2, pre Z (rdk (wrF b.length k o b).1 Hp.none), 16⟩ := by
  have hn := ok.n
  refine cw rfl (Ev.stage 10 (fun n => rf_33_0 _ n Z (o : Int) (b.map byteAV) tg k.n k.tg (k.q.map qAV) k.dn k.ar k.lf (k.D.map byteAV)) ?_) (fun n => by kernel_rfl)
  have hc : chkR k (o : Int) ((b.map byteAV).length : Int) = 0 := by
    unfold chkR
    rw [List.length_map, if_neg (by omega), if_neg (by omega), if_neg (by omega), if_neg (by omega)]
  refine EvF.brf hdn (EvF.call (r34 d Z k ok o (b.map byteAV).length (by omega)) ?_)
  rw [decide_eq_true hc]
  refine EvF.mid 5 (fun n => rf_33_1 _ n Z (o : Int) (b.map byteAV) tg k.n k.tg (k.q.map qAV) k.dn k.ar k.lf (k.D.map byteAV) true) (EvF.brf rfl ?_) 0
  exact (Ev.same 25 (fun n => rf_33_3 _ n Z k.n (o : Int) tg (b.map byteAV) k.tg (k.q.map qAV) k.dn k.ar k.lf (k.D.map byteAV)) (fun n => rf_33_2 _ n Z k.n (o : Int) tg (b.map byteAV) false k.tg (k.q.map qAV) k.dn k.ar k.lf (k.D.map byteAV)) (l33 (CW (d + 1)) Z tg b.length b o k (Nat.le_refl _) ok h hq)).at 0
theorem r33e (d : Nat) (Z : Blk × Blk × Blk) (k : Dk) (ok : k.Ok) (tg : Bool) (x : Int) (hx : -9223372036854775808 ≤ x ∧ x ≤ 9223372036854775807) (b : List AV) (h : chk k x (b.length : Int) ≠ 0) :
    CW (d + 2) 33 [.ptr 8 0, .int .i64 x, .vs 1 tg b] (pre Z (rdk k Hp.none)) 16 = some ⟨.int .i64 (chk k x (b.length : Int)), pre Z (rdk k Hp.none), 16⟩ := by
  refine cw rfl (Ev.stage 10 (fun n => rf_33_0 _ n Z x b tg k.n k.tg (k.q.map qAV) k.dn k.ar k.lf (k.D.map byteAV)) ?_) (fun n => by kernel_rfl)
  rw [chk_r] at h ⊢
  by_cases hd : k.dn = true
  · rw [if_pos hd]
    exact EvF.brt hd EvF.ret
  · rw [if_neg hd] at h ⊢
    refine EvF.brf (by simpa using hd) (EvF.call (r34 d Z k ok x b.length hx) ?_)
    rw [decide_eq_false h]
    refine EvF.mid 5 (fun n => rf_33_1 _ n Z x b tg k.n k.tg (k.q.map qAV) k.dn k.ar k.lf (k.D.map byteAV) false) (EvF.brt rfl (EvF.ret' ?_)) 0
    rcases chkR_9 k x (b.length : Int) with h0 | h0
    · exact absurd h0 h
    · rw [h0]; rfl

/-- Crash's loop -/
theorem l32 (cal : Oracle) (Z : Blk × Blk × Blk) (k : Dk) (ok : k.Ok) (y : Int) (j : Nat) (hj : j ≤ k.q.length) : ∀ (r p : Q) (D : List UInt8), k.q.take j = p ++ r → D.length = k.n →
    Ev cal 32 (goTo [0, 5, 0, 0, 5, 2, 3] (bodyOf 32)) (mkS 86 [(0, .val (.ptr 8 0) .no), (1, .val (.int .i64 (j : Int)) .no), (2, .val (.int .i64 y) .no), (6, .val (.int .i64 (p.length : Int)) .no)] [] (pre Z (hrf k.n k.tg (k.q.map qAV) k.dn k.ar k.lf (D.map byteAV) Hp.none)) 16)
      ⟨.tuple [], pre Z (hrf k.n true [] false false 0 ((torn k.q j y (ap r D)).map byteAV) Hp.none), 16⟩ := by
  have hql := ok.ql
  have htl : (k.q.take j).length = j := by rw [List.length_take]; omega
  intro r
  induction r with
  | nil =>
    intro p D hp hD
    rw [List.append_nil] at hp
    have hpl : p.length = j := by rw [← hp]; exact htl
    show Ev cal 32 _ _ ⟨.tuple [], pre Z (hrf k.n true [] false false 0 ((torn k.q j y D).map byteAV) Hp.none), 16⟩
    refine Ev.stage 18 (fun n => rf_32_1 cal n Z k.n (j : Int) y (p.length : Int) k.tg (k.q.map qAV) k.dn k.ar k.lf (D.map byteAV)) ?_
    refine EvF.bdf (by omega) ?_
    by_cases hjl : j < k.q.length
    · obtain ⟨e, he⟩ : ∃ e, k.q[j]? = some e := ⟨k.q[j], List.getElem?_eq_getElem hjl⟩
      have hi := ok.q e (List.mem_of_getElem? he)
      have h0 := clampI_0 y (e.2.length : Int)
      have h1 := clampI_le y (n := (e.2.length : Int)) (by omega)
      obtain ⟨t, ht⟩ := Int.eq_ofNat_of_zero_le h0
      refine EvF.bdt (by rw [List.length_map]; omega) (EvF.bdt (by omega) (EvF.bdt (by rw [List.length_map]; omega) (EvF.nth (c := qAV e) (by rw [Int.toNat_natCast]; exact nth_map' qAV k.q j e he) ?_)))
      refine EvF.mid 9 (fun n => rf_32_3 cal n Z k.n (j : Int) y k.tg (k.q.map qAV) k.dn k.ar k.lf (D.map byteAV) (e.1 : Int) (e.2.map byteAV)) ?_ 7
      have ec : (if 0 < (if ((List.length (e.2.map byteAV) : Nat) : Int) < y then ((List.length (e.2.map byteAV) : Nat) : Int) else y) then (if ((List.length (e.2.map byteAV) : Nat) : Int) < y then ((List.length (e.2.map byteAV) : Nat) : Int) else y) else 0) = (t : Int) := by
        rw [List.length_map]; exact ht
      have et : torn k.q j y D = wb D e.1 (e.2.take t) := by unfold torn; rw [he]; simp only [ht, Int.toNat_natCast]
      rw [ec, et]
      simp only [Int.toNat_natCast]
      rw [List.drop_zero, ← List.map_take, show Nat.min (List.length ((e.2.take t).map byteAV)) (k.n - e.1) = (e.2.take t).length by rw [List.length_map]; exact Nat.min_eq_left (by simp; omega), patch_wb (by omega), List.take_length]
      exact EvF.bdt (by omega) (EvF.bdt (by omega) (EvF.brt (blt_t (by omega)) (EvF.bdt (by omega) (EvF.bdt (by rw [List.length_map]; omega) (EvF.brt (ble_t (by rw [List.length_map]; omega)) EvF.ret)))))
    · have et : torn k.q j y D = D := by unfold torn; rw [List.getElem?_eq_none (by omega)]
      rw [et]
      exact EvF.bdf (by rw [List.length_map]; omega) EvF.ret
  | cons e r ih =>
    intro p D hp hD
    have hmem : e ∈ k.q := List.mem_of_mem_take (i := j) (by rw [hp]; simp)
    have he := ok.q e hmem
    have hlen : p.length < j := by rw [← htl, hp]; simp
    have hnth : nth (k.q.map qAV) (Int.toNat (p.length : Int)) = some (qAV e) := by
      rw [Int.toNat_natCast]
      refine nth_map' qAV k.q p.length e ?_
      have h1 : (k.q.take j)[p.length]? = some e := by rw [hp]; simp
      rw [List.getElem?_take, if_pos hlen] at h1
      exact h1
    refine Ev.stage 18 (fun n => rf_32_1 cal n Z k.n (j : Int) y (p.length : Int) k.tg (k.q.map qAV) k.dn k.ar k.lf (D.map byteAV)) ?_
    refine EvF.bdt (by omega) (EvF.bdt (by omega) (EvF.bdt (by rw [List.length_map]; omega) (EvF.nth hnth ?_)))
    refine EvF.mid 0 (fun n => rf_32_2 cal n Z k.n (j : Int) y (p.length : Int) k.tg (k.q.map qAV) k.dn k.ar k.lf (D.map byteAV) (e.1 : Int) (e.2.map byteAV)) ?_ 10
    refine EvF.bdt (by omega) (EvF.bdt (by omega) (EvF.brt (blt_t (by omega)) (EvF.bdt (by omega) (EvF.bdt (by rw [List.length_map]; omega) (EvF.nth hnth ?_)))))
    refine EvF.mid 3 (fun n => rf_32_4 cal n Z k.n (j : Int) y (p.length : Int) k.tg (k.q.map qAV) k.dn k.ar k.lf (D.map byteAV) (e.1 : Int) (e.2.map byteAV) (e.1 : Int) (e.2.map byteAV)) ?_ 0
    rw [Int.toNat_natCast, show Nat.min (List.length (e.2.map byteAV)) (k.n - e.1) = e.2.length by rw [List.length_map]; exact Nat.min_eq_left (by omega), patch_wb (by omega), List.take_length]
    refine EvF.brt (ble_t (by rw [List.length_map]; omega)) ?_
    have := ih (p ++ [e]) (wb D e.1 e.2) (by rw [hp]; simp) (by rw [wb_length (by omega)]; exact hD)
    rw [wrap64 (by omega) (by omega), show (p.length : Int) + 1 = (((p ++ [e]).length : Nat) : Int) by simp]
    exact this.at 0
theorem r32 (d : Nat) (Z : Blk × Blk × Blk) (k : Dk) (ok : k.Ok) (x y : Int) : CW (d + 1) 32 [.ptr 8 0, .int .i64 x, .int .i64 y] (pre Z (rdk k Hp.none)) 16 = some ⟨.tuple [], pre Z (rdk (k.crash x y) Hp.none), 16⟩ := by
  have c0 := clampI_0 x (k.q.length : Int)
  have c1 := clampI_le x (n := (k.q.length : Int)) (by omega)
  obtain ⟨j, hj⟩ := Int.eq_ofNat_of_zero_le c0
  refine cw rfl (Ev.stage 7 (fun n => rf_32_0 _ n Z x y k.n k.tg (k.q.map qAV) k.dn k.ar k.lf (k.D.map byteAV)) ?_) (fun n => by kernel_rfl)
  have ec : (if 0 < (if ((List.length (k.q.map qAV) : Nat) : Int) < x then ((List.length (k.q.map qAV) : Nat) : Int) else x) then (if ((List.length (k.q.map qAV) : Nat) : Int) < x then ((List.length (k.q.map qAV) : Nat) : Int) else x) else 0) = (j : Int) := by
    rw [List.length_map]; exact hj
  rw [ec]
  have hcr : k.crD x y = torn k.q j y (ap (k.q.take j) k.D) := by unfold Dk.crD torn; rw [hj, Int.toNat_natCast]
  have hk : rdk (k.crash x y) Hp.none = hrf k.n true [] false false 0 ((torn k.q j y (ap (k.q.take j) k.D)).map byteAV) Hp.none := by rw [← hcr]; rfl
  rw [hk]
  exact (l32 (CW d) Z k ok y j (by omega) (k.q.take j) [] k.D rfl ok.d).at 0

end Go.Proofs.Ytjipknfohmgjaaa
