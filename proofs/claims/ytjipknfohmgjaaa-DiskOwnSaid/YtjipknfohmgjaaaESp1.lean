/- What the methods of a disk do: a disk at the base 1. -/
import Derived.Test.YtjipknfohmgjaaaEDk
import Derived.Test.YtjipknfohmgjaaaESt1
namespace Go.Proofs.Ytjipknfohmgjaaa
open Go Go.Vai

attribute [local irreducible] midRun goTo bodyOf mkS run

theorem s1_28 (d : Nat) (W : List AV) (T : Hp) (nx : Nat) (k : Dk) (ok : k.Ok) (x y : Int) : CW (d + 1) 28 [.ptr 1 0, .int .i64 x, .int .i64 y] (pre1 W ((k).hp 1 T)) nx = some ⟨.int .i64 (chk k x y), (pre1 W ((k).hp 1 T)), nx⟩ := by
  refine cw rfl (Ev.stage 18 (fun n => d1_28_0 _ n W T nx x y k.n k.tg (k.q.map qAV) k.ar k.lf k.dn (k.D.map byteAV) (k.C.map byteAV)) ?_) (fun n => by kernel_rfl)
  have hn := ok.n
  unfold chk
  by_cases h1 : k.dn = true
  · rw [if_pos h1]; exact EvF.brt h1 EvF.ret
  rw [if_neg h1]
  refine EvF.brf (by simpa using h1) ?_
  by_cases h2 : x < 0
  · rw [if_pos h2]; exact EvF.bdt h2 EvF.ret
  rw [if_neg h2]
  refine EvF.bdf h2 ?_
  by_cases h3 : y < 0
  · rw [if_pos h3]; exact EvF.bdt h3 EvF.ret
  rw [if_neg h3]
  refine EvF.bdf h3 ?_
  by_cases h4 : (k.n : Int) < x
  · rw [if_pos h4]; exact EvF.bdt h4 EvF.ret
  rw [if_neg h4]
  refine EvF.bdf h4 ?_
  rw [wrap64 (by omega) (by omega)]
  by_cases h5 : (k.n : Int) - x < y
  · rw [if_pos h5]; exact EvF.bdt h5 EvF.ret
  rw [if_neg h5]
  exact EvF.bdf h5 EvF.ret

/-- Sync's loop -/
theorem l1_20 (cal : Oracle) (W : List AV) (T : Hp) (nx n : Nat) (tg tg2 ar dn : Bool) (lf : Int) (q2 : List AV) (C : List AV) (all : Q) (hq : Qin n all) (hl : all.length ≤ 1099511627776) : ∀ (r p : Q) (D : List UInt8) (x : Int) (l : List AV), all = p ++ r → D.length = n →
    Ev cal 20 (goTo [0, 5, 0, 0, 5, 0, 5, 7, 5, 0, 0, 5, 2, 3] (bodyOf 20)) (mkS 34 [(0, .val (.ptr 1 0) .no), (14, .val (.vs 2 tg (all.map qAV)) .no), (15, .val (.int .i64 (all.length : Int)) .no), (16, .val (.int .i64 (p.length : Int)) .no)] [(5, ⟨[.int .i64 x, .vs 1 false l], []⟩)] ((pre1 W (hdk 1 n tg2 q2 ar lf dn (D.map byteAV) C T))) nx)
      ⟨.int .i64 0, (pre1 W (hdk 1 n true [] ar lf dn ((ap r D).map byteAV) C T)), nx⟩ := by
  intro r
  induction r with
  | nil =>
    intro p D x l hp hD
    refine Ev.stage 10 (fun n' => d1_20_4 cal n' W T nx n x l _ _ _ _ _ _ _ _ _ _ _) ?_
    subst hp
    exact EvF.bdf (by simp) EvF.ret
  | cons e r ih =>
    intro p D x l hp hD
    have he := hq e (by rw [hp]; simp)
    have hlen : p.length < all.length := by rw [hp]; simp
    refine Ev.stage 10 (fun n' => d1_20_4 cal n' W T nx n x l _ _ _ _ _ _ _ _ _ _ _) ?_
    refine EvF.bdt (by omega) (EvF.bdt (by omega) (EvF.bdt (by rw [List.length_map]; omega) (EvF.nth (c := qAV e) (by rw [hp, Int.toNat_natCast]; exact nth_map qAV p e r) ?_)))
    refine EvF.mid 4 (fun n' => d1_20_5 cal n' W T nx n x l _ _ _ _ _ _ _ _ _ _ _ (e.1 : Int) (e.2.map byteAV)) ?_ 1
    rw [Int.toNat_natCast, show Nat.min (List.length (e.2.map byteAV)) (n - e.1) = e.2.length by rw [List.length_map]; exact Nat.min_eq_left (by omega), patch_wb (by omega), List.take_length]
    refine EvF.bdt (by omega) (EvF.bdt (by omega) (EvF.brt (blt_t (by omega)) (EvF.brt (ble_t (by rw [List.length_map]; omega)) ?_)))
    have := ih (p ++ [e]) (wb D e.1 e.2) e.1 (e.2.map byteAV) (by rw [hp]; simp) (by rw [wb_length (by omega)]; exact hD)
    rw [wrap64 (by omega) (by omega), show (p.length : Int) + 1 = (((p ++ [e]).length : Nat) : Int) by simp]
    exact this.at 0
theorem l1_20' (cal : Oracle) (W : List AV) (T : Hp) (nx n : Nat) (tg tg2 ar dn : Bool) (lf : Int) (q2 : List AV) (C : List AV) (all : Q) (hq : Qin n all) (hl : all.length ≤ 1099511627776) (D : List UInt8) (hD : D.length = n) :
    Ev cal 20 (goTo [0, 5, 0, 0, 5, 0, 5, 7, 5, 0, 0, 5, 2, 3] (bodyOf 20)) (mkS 34 [(0, .val (.ptr 1 0) .no), (14, .val (.vs 2 tg (all.map qAV)) .no), (15, .val (.int .i64 (all.length : Int)) .no), (16, .val (.int .i64 0) .no)] [] ((pre1 W (hdk 1 n tg2 q2 ar lf dn (D.map byteAV) C T))) nx)
      ⟨.int .i64 0, (pre1 W (hdk 1 n true [] ar lf dn ((ap all D).map byteAV) C T)), nx⟩ := by
  cases all with
  | nil =>
    refine Ev.stage 10 (fun n' => d1_20_2 cal n' W T nx n _ _ _ _ _ _ _ _ _ _ _) ?_
    exact EvF.bdf (by simp) EvF.ret
  | cons e r =>
    have he := hq e (by simp)
    refine Ev.stage 10 (fun n' => d1_20_2 cal n' W T nx n _ _ _ _ _ _ _ _ _ _ _) ?_
    refine EvF.bdt (by simp) (EvF.bdt (by omega) (EvF.bdt (by simp) (EvF.nth (c := qAV e) rfl ?_)))
    refine EvF.mid 4 (fun n' => d1_20_3 cal n' W T nx n _ _ _ _ _ _ _ _ _ _ _ (e.1 : Int) (e.2.map byteAV)) ?_ 1
    rw [Int.toNat_natCast, show Nat.min (List.length (e.2.map byteAV)) (n - e.1) = e.2.length by rw [List.length_map]; exact Nat.min_eq_left (by omega), patch_wb (by omega), List.take_length]
    refine EvF.bdt (by omega) (EvF.bdt (by omega) (EvF.brt (blt_t (by omega)) (EvF.brt (ble_t (by rw [List.length_map]; omega)) ?_)))
    exact (l1_20 cal W T nx n tg tg2 ar dn lf q2 C (e :: r) hq hl r [e] (wb D e.1 e.2) e.1 (e.2.map byteAV) rfl (by rw [wb_length (by omega)]; exact hD)).at 0
theorem s1_20e (d : Nat) (W : List AV) (T : Hp) (nx : Nat) (k : Dk) (ok : k.Ok) (h : k.dn = true) : CW (d + 2) 20 [.ptr 1 0] (pre1 W ((k).hp 1 T)) nx = some ⟨.int .i64 15, (pre1 W ((k).hp 1 T)), nx⟩ := by
  have hc : chk k 0 0 = 15 := by unfold chk; rw [if_pos h]
  refine cw rfl (Ev.stage 5 (fun n => d1_20_0 _ n W T nx k.n k.tg (k.q.map qAV) k.ar k.lf k.dn (k.D.map byteAV) (k.C.map byteAV)) ?_) (fun n => by kernel_rfl)
  refine EvF.call (s1_28 d W T nx k ok 0 0) ?_
  rw [hc]
  exact EvF.mid 9 (fun n => d1_20_1 _ n W T nx k.n k.tg (k.q.map qAV) k.ar k.lf k.dn (k.D.map byteAV) (k.C.map byteAV) 15) (EvF.bnt (by decide) EvF.ret) 0
theorem s1_20 (d : Nat) (W : List AV) (T : Hp) (nx : Nat) (k : Dk) (ok : k.Ok) (h : k.dn = false) : CW (d + 2) 20 [.ptr 1 0] (pre1 W ((k).hp 1 T)) nx = some ⟨.int .i64 0, (pre1 W ((k.sync).hp 1 T)), nx⟩ := by
  have hc : chk k 0 0 = 0 := chk_ok (o := 0) (m := 0) h (by omega)
  refine cw rfl (Ev.stage 5 (fun n => d1_20_0 _ n W T nx k.n k.tg (k.q.map qAV) k.ar k.lf k.dn (k.D.map byteAV) (k.C.map byteAV)) ?_) (fun n => by kernel_rfl)
  refine EvF.call (s1_28 d W T nx k ok 0 0) ?_
  rw [hc]
  refine EvF.mid 9 (fun n => d1_20_1 _ n W T nx k.n k.tg (k.q.map qAV) k.ar k.lf k.dn (k.D.map byteAV) (k.C.map byteAV) 0) (EvF.bnf rfl ?_) 0
  rw [List.length_map]
  exact (l1_20' (CW (d + 1)) W T nx k.n k.tg k.tg k.ar k.dn k.lf (k.q.map qAV) (k.C.map byteAV) k.q ok.q ok.ql k.D ok.d).at 0

/-- Write's loop -/
theorem l1_19 (cal : Oracle) (W : List AV) (T : Hp) (nx : Nat) (tg : Bool) : ∀ (f : Nat) (b : List UInt8) (o : Nat) (k : Dk), b.length ≤ f → k.Ok → o + b.length ≤ k.n → k.q.length + b.length ≤ 1099511627776 →
    Ev cal 19 (goTo [0, 5, 0, 0, 5, 0, 5, 7, 5, 0, 2, 3] (bodyOf 19)) (mkS 86 [(0, .val (.ptr 1 0) .no), (1, .val (.int .i64 (o : Int)) .no), (2, .val (.vs 1 tg (b.map byteAV)) .no)] [] (pre1 W ((k).hp 1 T)) nx) ⟨.int .i64 (wrF f k o b).2, (pre1 W (((wrF f k o b).1).hp 1 T)), nx⟩ := by
  have hm : maxBytes = 140737488355328 := rfl
  intro f
  induction f with
  | zero =>
    intro b o k hf ok _ _
    refine Ev.stage 25 (fun n => d1_19_3 cal n W T nx k.n (o : Int) tg (b.map byteAV) k.tg (k.q.map qAV) k.ar k.lf k.dn (k.D.map byteAV) (k.C.map byteAV)) ?_
    exact EvF.bdf (by rw [List.length_map]; omega) EvF.ret
  | succ f ih =>
    intro b o k hf ok ho hq
    have hn := ok.n
    have hc := ok.c
    have hl0 := ok.l0
    have hl1 := ok.l1
    refine Ev.stage 25 (fun n => d1_19_3 cal n W T nx k.n (o : Int) tg (b.map byteAV) k.tg (k.q.map qAV) k.ar k.lf k.dn (k.D.map byteAV) (k.C.map byteAV)) ?_
    unfold wrF
    by_cases hb : b.length = 0
    · simp only [if_pos hb]
      exact EvF.bdf (by rw [List.length_map]; omega) EvF.ret
    simp only [if_neg hb]
    refine EvF.bdt (by rw [List.length_map]; omega) ?_
    have hp : 1 ≤ 32 - o % 32 := by omega
    obtain ⟨m, hme⟩ : ∃ m, m = min b.length (32 - o % 32) := ⟨_, rfl⟩
    have hm1 : 1 ≤ m := by omega
    have hm2 : m ≤ b.length := by omega
    rw [← hme]
    have et : Int.tmod (o : Int) 32 = ((o % 32 : Nat) : Int) := by rw [Int.tmod_eq_emod_of_nonneg (by omega)]; omega
    have ew : IntKind.wrap IntKind.i64 (32 - Int.tmod (o : Int) 32) = ((32 - o % 32 : Nat) : Int) := by rw [et, wrap64 (by omega) (by omega)]; omega
    have e1 : (if IntKind.wrap IntKind.i64 (32 - Int.tmod (o : Int) 32) < ((List.length (b.map byteAV) : Nat) : Int) then IntKind.wrap IntKind.i64 (32 - Int.tmod (o : Int) 32) else ((List.length (b.map byteAV) : Nat) : Int)) = (m : Int) := by
      rw [ew, List.length_map]
      split <;> omega
    rw [e1]
    have e2 : IntKind.wrap IntKind.i64 ((o : Int) + (m : Int)) = ((o + m : Nat) : Int) := by rw [wrap64 (by omega) (by omega)]; omega
    rw [e2]
    simp only [Int.toNat_natCast]
    have e3 : Nat.min (List.length (b.map byteAV)) (o + m - o) = m := by rw [List.length_map]; show min _ _ = _; omega
    rw [e3]
    have e4 : List.take (List.length (b.map byteAV)) (b.map byteAV) = b.map byteAV := List.take_length
    rw [e4, List.drop_zero, ← List.map_take, ← List.map_drop, patch_wb' (by omega)]
    have hpu : pureL [.vs 1 false ((b.take m).map byteAV)] = true := pureL_vs (pure_bytes _) rfl
    have hpv : AV.pure (.vs 1 false ([] ++ (b.take m).map byteAV)) = true := pure_bytes _
    have eq1 : k.q.map qAV ++ [.agg [.int .i64 (o : Int), .vs 1 false ([] ++ (b.take m).map byteAV)]] = (k.q ++ [(o, b.take m)]).map qAV := by rw [List.map_append]; rfl
    rw [eq1]
    have hw : (b.take m).length = m := by rw [List.length_take]; omega
    by_cases ha : k.ar = true
    · refine EvF.brt ha ?_
      by_cases hz : k.lf = 0
      · rw [if_pos ⟨ha, hz⟩]
        exact EvF.bdt hz EvF.ret
      rw [if_neg (fun h => hz h.2)]
      refine EvF.bdf hz (EvF.brt ha ?_)
      refine EvF.bdt (by omega) (EvF.bdt (by omega) (EvF.bdt (by omega) (EvF.bdt (by omega) (EvF.bdt trivial (EvF.brt (blt_t (by omega)) (EvF.brt (ble_t (by rw [List.length_map]; omega)) ?_))))))
      refine EvF.bdt (by omega) (EvF.bdt (by rw [List.length_map]; omega) (EvF.brt hpu (EvF.brt (ble_t (by simp; omega)) (EvF.brt (ble_t (by simp; omega)) (EvF.brt hpv ?_)))))
      refine EvF.brt (ble_t (by simp; omega)) (EvF.brt (ble_t (by simp; omega)) (EvF.bdt (by omega) (EvF.bdt (by rw [List.length_map]; omega) ?_)))
      have hput : k.put o (b.take m) = ⟨k.n, false, k.q ++ [(o, b.take m)], k.ar, k.lf - 1, k.dn, k.D, wb k.C o (b.take m)⟩ := by unfold Dk.put; rw [if_pos ha]
      have := ih (b.drop m) (o + m) (k.put o (b.take m)) (by simp; omega) (ok.put (by omega) (by omega) (by omega) (fun _ => hz)) (by show _ ≤ k.n; simp; omega) (by show (k.q ++ [_]).length + _ ≤ _; simp; omega)
      rw [wrap64 (by omega) (by omega)]
      refine EvF.congr (this.at 0) fun n => ?_
      rw [hput]
      rfl
    · rw [if_neg (fun h => ha h.1)]
      refine EvF.brf (by simpa using ha) (EvF.brf (by simpa using ha) ?_)
      refine EvF.bdt (by omega) (EvF.bdt (by omega) (EvF.bdt (by omega) (EvF.bdt (by omega) (EvF.bdt trivial (EvF.brt (blt_t (by omega)) (EvF.brt (ble_t (by rw [List.length_map]; omega)) ?_))))))
      refine EvF.bdt (by omega) (EvF.bdt (by rw [List.length_map]; omega) (EvF.brt hpu (EvF.brt (ble_t (by simp; omega)) (EvF.brt (ble_t (by simp; omega)) (EvF.brt hpv ?_)))))
      refine EvF.brt (ble_t (by simp; omega)) (EvF.brt (ble_t (by simp; omega)) (EvF.bdt (by omega) (EvF.bdt (by rw [List.length_map]; omega) ?_)))
      have hput : k.put o (b.take m) = ⟨k.n, false, k.q ++ [(o, b.take m)], k.ar, k.lf, k.dn, k.D, wb k.C o (b.take m)⟩ := by unfold Dk.put; rw [if_neg ha]
      have := ih (b.drop m) (o + m) (k.put o (b.take m)) (by simp; omega) (ok.put (by omega) (by omega) (by omega) (fun h => absurd h ha)) (by show _ ≤ k.n; simp; omega) (by show (k.q ++ [_]).length + _ ≤ _; simp; omega)
      refine EvF.congr (this.at 0) fun n => ?_
      rw [hput]
      rfl

/-- New -/
theorem s1_11 (d : Nat) (W : List AV) (x : Int) : CW (d + 1) 11 [.int .i64 x] (pre1 W (Hp.none)) 1 = some ⟨.ptr 1 0, (pre1 W ((dk0 ((clampS x).toNat * 32)).hp 1 Hp.none)), 1 + 8⟩ := by
  refine cw rfl (Ev.stage 7 (fun n => d1_11_0 _ n W x) ?_) (fun n => by kernel_rfl)
  have c1 := clampS_1 x
  have c2 := clampS_2 x
  obtain ⟨m, hm⟩ := Int.eq_ofNat_of_zero_le (a := clampS x) (by omega)
  have e1 : (if 1 < (if 2048 < x then 2048 else x) then (if 2048 < x then 2048 else x) else 1) = (m : Int) := hm
  have e2 : IntKind.wrap IntKind.i64 ((m : Int) * 32) = ((m * 32 : Nat) : Int) := by rw [wrap64 (by omega) (by omega)]; omega
  rw [e1, e2, Int.toNat_natCast, hm, Int.toNat_natCast, replC_zero]
  exact EvF.bdt (by omega) (EvF.bdt (by omega) (EvF.bdt (by omega) (EvF.bdt (by omega) (EvF.bdt rfl (EvF.bdt (by omega) (EvF.bdt (by omega) (EvF.bdt (by omega) (EvF.bdt (by omega) (EvF.bdt rfl EvF.ret)))))))))

end Go.Proofs.Ytjipknfohmgjaaa
