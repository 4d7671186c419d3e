/- What the methods of a disk do: a disk at the base 0. -/
import Derived.Test.YtjipknfohmgjaaaDDk
import Derived.Test.YtjipknfohmgjaaaDSt0
namespace Go.Proofs.Ytjipknfohmgjaaa
open Go Go.Vai

attribute [local irreducible] midRun goTo bodyOf mkS run

theorem s0_28 (d : Nat) (T : Hp) (nx : Nat) (k : Dk) (ok : k.Ok) (x y : Int) : CW (d + 1) 28 [.ptr 0 0, .int .i64 x, .int .i64 y] ((k).hp 0 T) nx = some ⟨.int .i64 (chk k x y), ((k).hp 0 T), nx⟩ := by
  refine cw rfl (Ev.stage 18 (fun n => d0_28_0 _ n T nx x y k.n k.tg (k.q.map qAV) k.ar k.lf k.dn (k.D.map byteAV) (k.C.map byteAV)) ?_) (fun n => by kernel_rfl)
  have hn := ok.n
  unfold chk
  by_cases h1 : k.dn = true
  · rw [if_pos h1]; exact EvF.brt h1 EvF.ret
  rw [if_neg h1]
  refine EvF.brf (by simpa using h1) ?_
  by_cases h2 : x < 0
  · rw [if_pos h2]; exact EvF.bdt h2 EvF.ret
  rw [if_neg h2]
  refine EvF.bdf h2 ?_
  by_cases h3 : y < 0
  · rw [if_pos h3]; exact EvF.bdt h3 EvF.ret
  rw [if_neg h3]
  refine EvF.bdf h3 ?_
  by_cases h4 : (k.n : Int) < x
  · rw [if_pos h4]; exact EvF.bdt h4 EvF.ret
  rw [if_neg h4]
  refine EvF.bdf h4 ?_
  rw [wrap64 (by omega) (by omega)]
  by_cases h5 : (k.n : Int) - x < y
  · rw [if_pos h5]; exact EvF.bdt h5 EvF.ret
  rw [if_neg h5]
  exact EvF.bdf h5 EvF.ret

theorem s0_12 (d : Nat) (T : Hp) (nx : Nat) (k : Dk) : CW (d + 1) 12 [.ptr 0 0] ((k).hp 0 T) nx = some ⟨.int .i64 (IntKind.wrap IntKind.i64 (Int.tdiv (k.n : Int) 32)), ((k).hp 0 T), nx⟩ :=
  cw rfl (Ev.stage 10 (fun n => d0_12_0 _ n T nx k.n k.tg (k.q.map qAV) k.ar k.lf k.dn (k.D.map byteAV) (k.C.map byteAV)) EvF.ret) (fun n => by kernel_rfl)
theorem s0_14 (d : Nat) (T : Hp) (nx : Nat) (k : Dk) : CW (d + 1) 14 [.ptr 0 0] ((k).hp 0 T) nx = some ⟨.bool k.dn, ((k).hp 0 T), nx⟩ :=
  cw rfl (Ev.stage 5 (fun n => d0_14_0 _ n T nx k.n k.tg (k.q.map qAV) k.ar k.lf k.dn (k.D.map byteAV) (k.C.map byteAV)) EvF.ret) (fun n => by kernel_rfl)
theorem s0_15 (d : Nat) (T : Hp) (nx : Nat) (k : Dk) : CW (d + 1) 15 [.ptr 0 0] ((k).hp 0 T) nx = some ⟨.int .i64 (k.q.length : Int), ((k).hp 0 T), nx⟩ :=
  by
  refine cw rfl (Ev.stage 10 (fun n => d0_15_0 _ n T nx k.n k.tg (k.q.map qAV) k.ar k.lf k.dn (k.D.map byteAV) (k.C.map byteAV)) ?_) (fun n => by kernel_rfl)
  rw [List.length_map]
  exact EvF.ret
theorem s0_27 (d : Nat) (T : Hp) (nx : Nat) (k : Dk) (x : Int) : CW (d + 1) 27 [.ptr 0 0, .int .i64 x] ((k).hp 0 T) nx = some ⟨.tuple [], ((k.fail x).hp 0 T), nx⟩ := by
  refine cw rfl (Ev.stage 7 (fun n => d0_27_0 _ n T nx x k.n k.tg (k.q.map qAV) k.ar k.lf k.dn (k.D.map byteAV) (k.C.map byteAV)) ?_) (fun n => by kernel_rfl)
  by_cases h : k.dn = true
  · rw [fail_t h]; exact EvF.brt h EvF.ret
  · rw [fail_f (by simpa using h)]; exact EvF.brf (by simpa using h) EvF.ret

/-- Read: what it refuses -/
theorem s0_13e (d : Nat) (T : Hp) (nx : Nat) (k : Dk) (ok : k.Ok) (x y : Int) (h : chk k x y ≠ 0) : CW (d + 2) 13 [.ptr 0 0, .int .i64 x, .int .i64 y] ((k).hp 0 T) nx = some ⟨.tuple [.vs 1 true [], .int .i64 (chk k x y)], ((k).hp 0 T), nx⟩ := by
  refine cw rfl (Ev.stage 5 (fun n => d0_13_0 _ n T nx x y k.n k.tg (k.q.map qAV) k.ar k.lf k.dn (k.D.map byteAV) (k.C.map byteAV)) ?_) (fun n => by kernel_rfl)
  exact EvF.call (s0_28 d T nx k ok x y) (EvF.mid 7 (fun n => d0_13_1 _ n T nx x y k.n k.tg (k.q.map qAV) k.ar k.lf k.dn (k.D.map byteAV) (k.C.map byteAV) (chk k x y)) (EvF.bnt h EvF.ret) 0)
/-- Read: what it gives -/
theorem s0_13 (d : Nat) (T : Hp) (nx : Nat) (k : Dk) (ok : k.Ok) (o m : Nat) (hdn : k.dn = false) (h : o + m ≤ k.n) : CW (d + 2) 13 [.ptr 0 0, .int .i64 (o : Int), .int .i64 (m : Int)] ((k).hp 0 T) nx = some ⟨.tuple [.vs 1 false (((k.C.drop o).take m).map byteAV), .int .i64 0], ((k).hp 0 T), nx⟩ := by
  have hn := ok.n
  have hc := ok.c
  have hm : maxBytes = 140737488355328 := rfl
  refine cw rfl (Ev.stage 5 (fun n => d0_13_0 _ n T nx (o : Int) (m : Int) k.n k.tg (k.q.map qAV) k.ar k.lf k.dn (k.D.map byteAV) (k.C.map byteAV)) ?_) (fun n => by kernel_rfl)
  refine EvF.call (s0_28 d T nx k ok o m) ?_
  rw [chk_ok hdn h]
  refine EvF.mid 7 (fun n => d0_13_1 _ n T nx (o : Int) (m : Int) k.n k.tg (k.q.map qAV) k.ar k.lf k.dn (k.D.map byteAV) (k.C.map byteAV) 0) ?_ 0
  refine EvF.bnf rfl ?_
  rw [show IntKind.wrap IntKind.i64 ((o : Int) + (m : Int)) = ((o + m : Nat) : Int) by rw [wrap64 (by omega) (by omega)]; omega]
  simp only [Int.toNat_natCast]
  rw [show o + m - o = m by omega, show 0 + o * 1 = o by omega]
  refine EvF.bdt (by omega) (EvF.bdt (by omega) (EvF.bdt (by omega) (EvF.bdt (by omega) ?_)))
  by_cases h0 : m = 0
  · subst h0
    refine EvF.brf (blt_f (by omega)) (EvF.brt (ble_t (by omega)) (EvF.brt (ble_t (by omega)) (EvF.ret' ?_)))
    simp only [List.take_zero, List.map_nil]
    rfl
  · refine EvF.brt (ble_t (by omega)) (EvF.brt (ble_t (by simp; omega)) (EvF.brt (ble_t (by simp; omega)) (EvF.brt (ble_t (by simp; omega)) (EvF.ret' ?_))))
    rw [List.map_take, List.map_drop]
    rfl

/-- Sync's loop -/
theorem l0_20 (cal : Oracle) (T : Hp) (nx n : Nat) (tg tg2 ar dn : Bool) (lf : Int) (q2 : List AV) (C : List AV) (all : Q) (hq : Qin n all) (hl : all.length ≤ 1099511627776) : ∀ (r p : Q) (D : List UInt8) (x : Int) (l : List AV), all = p ++ r → D.length = n →
    Ev cal 20 (goTo [0, 5, 0, 0, 5, 0, 5, 7, 5, 0, 0, 5, 2, 3] (bodyOf 20)) (mkS 34 [(0, .val (.ptr 0 0) .no), (14, .val (.vs 2 tg (all.map qAV)) .no), (15, .val (.int .i64 (all.length : Int)) .no), (16, .val (.int .i64 (p.length : Int)) .no)] [(5, ⟨[.int .i64 x, .vs 1 false l], []⟩)] ((hdk 0 n tg2 q2 ar lf dn (D.map byteAV) C T)) nx)
      ⟨.int .i64 0, (hdk 0 n true [] ar lf dn ((ap r D).map byteAV) C T), nx⟩ := by
  intro r
  induction r with
  | nil =>
    intro p D x l hp hD
    refine Ev.stage 10 (fun n' => d0_20_4 cal n' T nx n x l _ _ _ _ _ _ _ _ _ _ _) ?_
    subst hp
    exact EvF.bdf (by simp) EvF.ret
  | cons e r ih =>
    intro p D x l hp hD
    have he := hq e (by rw [hp]; simp)
    have hlen : p.length < all.length := by rw [hp]; simp
    refine Ev.stage 10 (fun n' => d0_20_4 cal n' T nx n x l _ _ _ _ _ _ _ _ _ _ _) ?_
    refine EvF.bdt (by omega) (EvF.bdt (by omega) (EvF.bdt (by rw [List.length_map]; omega) (EvF.nth (c := qAV e) (by rw [hp, Int.toNat_natCast]; exact nth_map qAV p e r) ?_)))
    refine EvF.mid 4 (fun n' => d0_20_5 cal n' T nx n x l _ _ _ _ _ _ _ _ _ _ _ (e.1 : Int) (e.2.map byteAV)) ?_ 1
    rw [Int.toNat_natCast, show Nat.min (List.length (e.2.map byteAV)) (n - e.1) = e.2.length by rw [List.length_map]; exact Nat.min_eq_left (by omega), patch_wb (by omega), List.take_length]
    refine EvF.bdt (by omega) (EvF.bdt (by omega) (EvF.brt (blt_t (by omega)) (EvF.brt (ble_t (by rw [List.length_map]; omega)) ?_)))
    have := ih (p ++ [e]) (wb D e.1 e.2) e.1 (e.2.map byteAV) (by rw [hp]; simp) (by rw [wb_length (by omega)]; exact hD)
    rw [wrap64 (by omega) (by omega), show (p.length : Int) + 1 = (((p ++ [e]).length : Nat) : Int) by simp]
    exact this.at 0
theorem l0_20' (cal : Oracle) (T : Hp) (nx n : Nat) (tg tg2 ar dn : Bool) (lf : Int) (q2 : List AV) (C : List AV) (all : Q) (hq : Qin n all) (hl : all.length ≤ 1099511627776) (D : List UInt8) (hD : D.length = n) :
    Ev cal 20 (goTo [0, 5, 0, 0, 5, 0, 5, 7, 5, 0, 0, 5, 2, 3] (bodyOf 20)) (mkS 34 [(0, .val (.ptr 0 0) .no), (14, .val (.vs 2 tg (all.map qAV)) .no), (15, .val (.int .i64 (all.length : Int)) .no), (16, .val (.int .i64 0) .no)] [] ((hdk 0 n tg2 q2 ar lf dn (D.map byteAV) C T)) nx)
      ⟨.int .i64 0, (hdk 0 n true [] ar lf dn ((ap all D).map byteAV) C T), nx⟩ := by
  cases all with
  | nil =>
    refine Ev.stage 10 (fun n' => d0_20_2 cal n' T nx n _ _ _ _ _ _ _ _ _ _ _) ?_
    exact EvF.bdf (by simp) EvF.ret
  | cons e r =>
    have he := hq e (by simp)
    refine Ev.stage 10 (fun n' => d0_20_2 cal n' T nx n _ _ _ _ _ _ _ _ _ _ _) ?_
    refine EvF.bdt (by simp) (EvF.bdt (by omega) (EvF.bdt (by simp) (EvF.nth (c := qAV e) rfl ?_)))
    refine EvF.mid 4 (fun n' => d0_20_3 cal n' T nx n _ _ _ _ _ _ _ _ _ _ _ (e.1 : Int) (e.2.map byteAV)) ?_ 1
    rw [Int.toNat_natCast, show Nat.min (List.length (e.2.map byteAV)) (n - e.1) = e.2.length by rw [List.length_map]; exact Nat.min_eq_left (by omega), patch_wb (by omega), List.take_length]
    refine EvF.bdt (by omega) (EvF.bdt (by omega) (EvF.brt (blt_t (by omega)) (EvF.brt (ble_t (by rw [List.length_map]; omega)) ?_)))
    exact (l0_20 cal T nx n tg tg2 ar dn lf q2 C (e :: r) hq hl r [e] (wb D e.1 e.2) e.1 (e.2.map byteAV) rfl (by rw [wb_length (by omega)]; exact hD)).at 0
theorem s0_20e (d : Nat) (T : Hp) (nx : Nat) (k : Dk) (ok : k.Ok) (h : k.dn = true) : CW (d + 2) 20 [.ptr 0 0] ((k).hp 0 T) nx = some ⟨.int .i64 15, ((k).hp 0 T), nx⟩ := by
  have hc : chk k 0 0 = 15 := by unfold chk; rw [if_pos h]
  refine cw rfl (Ev.stage 5 (fun n => d0_20_0 _ n T nx k.n k.tg (k.q.map qAV) k.ar k.lf k.dn (k.D.map byteAV) (k.C.map byteAV)) ?_) (fun n => by kernel_rfl)
  refine EvF.call (s0_28 d T nx k ok 0 0) ?_
  rw [hc]
  exact EvF.mid 9 (fun n => d0_20_1 _ n T nx k.n k.tg (k.q.map qAV) k.ar k.lf k.dn (k.D.map byteAV) (k.C.map byteAV) 15) (EvF.bnt (by decide) EvF.ret) 0
theorem s0_20 (d : Nat) (T : Hp) (nx : Nat) (k : Dk) (ok : k.Ok) (h : k.dn = false) : CW (d + 2) 20 [.ptr 0 0] ((k).hp 0 T) nx = some ⟨.int .i64 0, ((k.sync).hp 0 T), nx⟩ := by
  have hc : chk k 0 0 = 0 := chk_ok (o := 0) (m := 0) h (by omega)
  refine cw rfl (Ev.stage 5 (fun n => d0_20_0 _ n T nx k.n k.tg (k.q.map qAV) k.ar k.lf k.dn (k.D.map byteAV) (k.C.map byteAV)) ?_) (fun n => by kernel_rfl)
  refine EvF.call (s0_28 d T nx k ok 0 0) ?_
  rw [hc]
  refine EvF.mid 9 (fun n => d0_20_1 _ n T nx k.n k.tg (k.q.map qAV) k.ar k.lf k.dn (k.D.map byteAV) (k.C.map byteAV) 0) (EvF.bnf rfl ?_) 0
  rw [List.length_map]
  exact (l0_20' (CW (d + 1)) T nx k.n k.tg k.tg k.ar k.dn k.lf (k.q.map qAV) (k.C.map byteAV) k.q ok.q ok.ql k.D ok.d).at 0

/-- Write's loop -/
theorem l0_19 (cal : Oracle) (T : Hp) (nx : Nat) (tg : Bool) : ∀ (f : Nat) (b : List UInt8) (o : Nat) (k : Dk), b.length ≤ f → k.Ok → o + b.length ≤ k.n → k.q.length + b.length ≤ 1099511627776 →
    Ev cal 19 (goTo [0, 5, 0, 0, 5, 0, 5, 7, 5, 0, 2, 3] (bodyOf 19)) (mkS 86 [(0, .val (.ptr 0 0) .no), (1, .val (.int .i64 (o : Int)) .no), (2, .val (.vs 1 tg (b.map byteAV)) .no)] [] ((k).hp 0 T) nx) ⟨.int .i64 (wrF f k o b).2, (((wrF f k o b).1).hp 0 T), nx⟩ := by
  have hm : maxBytes = 140737488355328 := rfl
  intro f
  induction f with
  | zero =>
    intro b o k hf ok _ _
    refine Ev.stage 25 (fun n => d0_19_3 cal n T nx k.n (o : Int) tg (b.map byteAV) k.tg (k.q.map qAV) k.ar k.lf k.dn (k.D.map byteAV) (k.C.map byteAV)) ?_
    exact EvF.bdf (by rw [List.length_map]; omega) EvF.ret
  | succ f ih =>
    intro b o k hf ok ho hq
    have hn := ok.n
    have hc := ok.c
    have hl0 := ok.l0
    have hl1 := ok.l1
    refine Ev.stage 25 (fun n => d0_19_3 cal n T nx k.n (o : Int) tg (b.map byteAV) k.tg (k.q.map qAV) k.ar k.lf k.dn (k.D.map byteAV) (k.C.map byteAV)) ?_
    unfold wrF
    by_cases hb : b.length = 0
    · simp only [if_pos hb]
      exact EvF.bdf (by rw [List.length_map]; omega) EvF.ret
    simp only [if_neg hb]
    refine EvF.bdt (by rw [List.length_map]; omega) ?_
    have hp : 1 ≤ 32 - o % 32 := by omega
    obtain ⟨m, hme⟩ : ∃ m, m = min b.length (32 - o % 32) := ⟨_, rfl⟩
    have hm1 : 1 ≤ m := by omega
    have hm2 : m ≤ b.length := by omega
    rw [← hme]
    have et : Int.tmod (o : Int) 32 = ((o % 32 : Nat) : Int) := by rw [Int.tmod_eq_emod_of_nonneg (by omega)]; omega
    have ew : IntKind.wrap IntKind.i64 (32 - Int.tmod (o : Int) 32) = ((32 - o % 32 : Nat) : Int) := by rw [et, wrap64 (by omega) (by omega)]; omega
    have e1 : (if IntKind.wrap IntKind.i64 (32 - Int.tmod (o : Int) 32) < ((List.length (b.map byteAV) : Nat) : Int) then IntKind.wrap IntKind.i64 (32 - Int.tmod (o : Int) 32) else ((List.length (b.map byteAV) : Nat) : Int)) = (m : Int) := by
      rw [ew, List.length_map]
      split <;> omega
    rw [e1]
    have e2 : IntKind.wrap IntKind.i64 ((o : Int) + (m : Int)) = ((o + m : Nat) : Int) := by rw [wrap64 (by omega) (by omega)]; omega
    rw [e2]
    simp only [Int.toNat_natCast]
    have e3 : Nat.min (List.length (b.map byteAV)) (o + m - o) = m := by rw [List.length_map]; show min _ _ = _; omega
    rw [e3]
    have e4 : List.take (List.length (b.map byteAV)) (b.map byteAV) = b.map byteAV := List.take_length
    rw [e4, List.drop_zero, ← List.map_take, ← List.map_drop, patch_wb' (by omega)]
    have hpu : pureL [.vs 1 false ((b.take m).map byteAV)] = true := pureL_vs (pure_bytes _) rfl
    have hpv : AV.pure (.vs 1 false ([] ++ (b.take m).map byteAV)) = true := pure_bytes _
    have eq1 : k.q.map qAV ++ [.agg [.int .i64 (o : Int), .vs 1 false ([] ++ (b.take m).map byteAV)]] = (k.q ++ [(o, b.take m)]).map qAV := by rw [List.map_append]; rfl
    rw [eq1]
    have hw : (b.take m).length = m := by rw [List.length_take]; omega
    by_cases ha : k.ar = true
    · refine EvF.brt ha ?_
      by_cases hz : k.lf = 0
      · rw [if_pos ⟨ha, hz⟩]
        exact EvF.bdt hz EvF.ret
      rw [if_neg (fun h => hz h.2)]
      refine EvF.bdf hz (EvF.brt ha ?_)
      refine EvF.bdt (by omega) (EvF.bdt (by omega) (EvF.bdt (by omega) (EvF.bdt (by omega) (EvF.bdt trivial (EvF.brt (blt_t (by omega)) (EvF.brt (ble_t (by rw [List.length_map]; omega)) ?_))))))
      refine EvF.bdt (by omega) (EvF.bdt (by rw [List.length_map]; omega) (EvF.brt hpu (EvF.brt (ble_t (by simp; omega)) (EvF.brt (ble_t (by simp; omega)) (EvF.brt hpv ?_)))))
      refine EvF.brt (ble_t (by simp; omega)) (EvF.brt (ble_t (by simp; omega)) (EvF.bdt (by omega) (EvF.bdt (by rw [List.length_map]; omega) ?_)))
      have hput : k.put o (b.take m) = ⟨k.n, false, k.q ++ [(o, b.take m)], k.ar, k.lf - 1, k.dn, k.D, wb k.C o (b.take m)⟩ := by unfold Dk.put; rw [if_pos ha]
      have := ih (b.drop m) (o + m) (k.put o (b.take m)) (by simp; omega) (ok.put (by omega) (by omega) (by omega) (fun _ => hz)) (by show _ ≤ k.n; simp; omega) (by show (k.q ++ [_]).length + _ ≤ _; simp; omega)
      rw [wrap64 (by omega) (by omega)]
      refine EvF.congr (this.at 0) fun n => ?_
      rw [hput]
      rfl
    · rw [if_neg (fun h => ha h.1)]
      refine EvF.brf (by simpa using ha) (EvF.brf (by simpa using ha) ?_)
      refine EvF.bdt (by omega) (EvF.bdt (by omega) (EvF.bdt (by omega) (EvF.bdt (by omega) (EvF.bdt trivial (EvF.brt (blt_t (by omega)) (EvF.brt (ble_t (by rw [List.length_map]; omega)) ?_))))))
      refine EvF.bdt (by omega) (EvF.bdt (by rw [List.length_map]; omega) (EvF.brt hpu (EvF.brt (ble_t (by simp; omega)) (EvF.brt (ble_t (by simp; omega)) (EvF.brt hpv ?_)))))
      refine EvF.brt (ble_t (by simp; omega)) (EvF.brt (ble_t (by simp; omega)) (EvF.bdt (by omega) (EvF.bdt (by rw [List.length_map]; omega) ?_)))
      have hput : k.put o (b.take m) = ⟨k.n, false, k.q ++ [(o, b.take m)], k.ar, k.lf, k.dn, k.D, wb k.C o (b.take m)⟩ := by unfold Dk.put; rw [if_neg ha]
      have := ih (b.drop m) (o + m) (k.put o (b.take m)) (by simp; omega) (ok.put (by omega) (by omega) (by omega) (fun h => absurd h ha)) (by show _ ≤ k.n; simp; omega) (by show (k.q ++ [_]).length + _ ≤ _; simp; omega)
      refine EvF.congr (this.at 0) fun n => ?_
      rw [hput]
      rfl

/-- Write: a write in the disk -/
theorem s0_19 (d : Nat) (T : Hp) (nx : Nat) (k : Dk) (ok : k.Ok) (tg : Bool) (o : Nat) (b : List UInt8) (hdn : k.dn = false) (h : o + b.length ≤ k.n) (hq : k.q.length + b.length ≤ 1099511627776) :
    CW (d + 2) 19 [.ptr 0 0, .int .i64 (o : Int), .vs 1 tg (b.map byteAV)] ((k).hp 0 T) nx = some ⟨.int .i64 (wrF b.length k o b).2, (((wrF b.length k o b).1).hp 0 T), nx⟩ := by
  refine cw rfl (Ev.stage 5 (fun n => d0_19_0 _ n T nx (o : Int) (b.map byteAV) tg k.n k.tg (k.q.map qAV) k.ar k.lf k.dn (k.D.map byteAV) (k.C.map byteAV)) ?_) (fun n => by kernel_rfl)
  refine EvF.call (s0_28 d T nx k ok o (b.map byteAV).length) ?_
  rw [show chk k o ((b.map byteAV).length : Int) = 0 by rw [List.length_map]; exact chk_ok hdn h]
  refine EvF.mid 7 (fun n => d0_19_1 _ n T nx (o : Int) (b.map byteAV) tg k.n k.tg (k.q.map qAV) k.ar k.lf k.dn (k.D.map byteAV) (k.C.map byteAV) 0) (EvF.bnf rfl ?_) 0
  exact (Ev.same 25 (fun n => d0_19_3 _ n T nx k.n (o : Int) tg (b.map byteAV) k.tg (k.q.map qAV) k.ar k.lf k.dn (k.D.map byteAV) (k.C.map byteAV)) (fun n => d0_19_2 _ n T nx k.n (o : Int) tg (b.map byteAV) 0 false k.tg (k.q.map qAV) k.ar k.lf k.dn (k.D.map byteAV) (k.C.map byteAV)) (l0_19 (CW (d + 1)) T nx tg b.length b o k (Nat.le_refl _) ok h hq)).at 0
theorem s0_19e (d : Nat) (T : Hp) (nx : Nat) (k : Dk) (ok : k.Ok) (tg : Bool) (x : Int) (b : List AV) (h : chk k x (b.length : Int) ≠ 0) :
    CW (d + 2) 19 [.ptr 0 0, .int .i64 x, .vs 1 tg b] ((k).hp 0 T) nx = some ⟨.int .i64 (chk k x (b.length : Int)), ((k).hp 0 T), nx⟩ := by
  refine cw rfl (Ev.stage 5 (fun n => d0_19_0 _ n T nx x b tg k.n k.tg (k.q.map qAV) k.ar k.lf k.dn (k.D.map byteAV) (k.C.map byteAV)) ?_) (fun n => by kernel_rfl)
  exact EvF.call (s0_28 d T nx k ok x b.length) (EvF.mid 7 (fun n => d0_19_1 _ n T nx x b tg k.n k.tg (k.q.map qAV) k.ar k.lf k.dn (k.D.map byteAV) (k.C.map byteAV) (chk k x (b.length : Int))) (EvF.bnt h EvF.ret) 0)

/-- Crash: behind its loop -/
theorem t0_21_a (cal : Oracle) (T : Hp) (nx n : Nat) (tg tgl ar dn : Bool) (lf keep y : Int) (q L0 : Q) (hq : Qin n q) (D C : List UInt8) (hD : D.length = n) (hC : C.length = n) (j : Nat) :
    Ev cal 21 (goTo [0, 5, 0, 0, 5, 7, 5, 0, 5, 0, 0, 5, 2, 3] (bodyOf 21)) (mkS 94 [(0, .val (.ptr 0 0) .no), (3, .lp 3 0), (4, .val (.int .i64 (j : Int)) .no), (24, .val (.vs 2 tgl (L0.map qAV)) .no), (25, .val (.int .i64 (L0.length : Int)) .no), (26, .val (.int .i64 (L0.length : Int)) .no)] [(3, ⟨[.int .i64 keep, .int .i64 y], []⟩)] ((hdk 0 n tg (q.map qAV) ar lf dn (D.map byteAV) (C.map byteAV) T)) nx)
      ⟨.tuple [], (hdk 0 n true [] false 0 false ((torn q j y D).map byteAV) ((torn q j y D).map byteAV) T), nx⟩ := by
  refine Ev.stage 14 (fun n' => d0_21_1 cal n' T nx keep y n _ _ _ _ _ _ _ _ _ _ _ _) ?_
  refine EvF.bdf (by omega) ?_
  by_cases hj : j < q.length
  · obtain ⟨e, he⟩ : ∃ e, q[j]? = some e := ⟨q[j], List.getElem?_eq_getElem hj⟩
    have hi := hq e (List.mem_of_getElem? he)
    have h0 := clampI_0 y (e.2.length : Int)
    have h1 := clampI_le y (n := (e.2.length : Int)) (by omega)
    obtain ⟨t, ht⟩ := Int.eq_ofNat_of_zero_le h0
    refine EvF.bdt (by rw [List.length_map]; omega) (EvF.bdt (by omega) (EvF.bdt (by rw [List.length_map]; omega) (EvF.nth (c := qAV e) (by rw [Int.toNat_natCast]; exact nth_map' qAV q j e he) ?_)))
    refine EvF.mid 5 (fun n' => d0_21_3 cal n' T nx keep y n _ _ _ _ _ _ _ _ (e.1 : Int) (e.2.map byteAV)) ?_ 3
    have ec : (if 0 < (if ((List.length (e.2.map byteAV) : Nat) : Int) < y then ((List.length (e.2.map byteAV) : Nat) : Int) else y) then (if ((List.length (e.2.map byteAV) : Nat) : Int) < y then ((List.length (e.2.map byteAV) : Nat) : Int) else y) else 0) = (t : Int) := by
      rw [List.length_map]; exact ht
    have et : torn q j y D = wb D e.1 (e.2.take t) := by unfold torn; rw [he]; simp only [ht, Int.toNat_natCast]
    have hw : e.1 + (e.2.take t).length ≤ D.length := by rw [List.length_take]; omega
    have hwl := wb_length hw
    rw [ec, et]
    simp only [Int.toNat_natCast]
    rw [List.drop_zero, ← List.map_take, show Nat.min (List.length ((e.2.take t).map byteAV)) (n - e.1) = (e.2.take t).length by rw [List.length_map]; exact Nat.min_eq_left (by omega), patch_wb (by omega), List.take_length]
    rw [copy_all (by omega) hC]
    exact EvF.bdt (by omega) (EvF.bdt (by omega) (EvF.brt (blt_t (by omega)) (EvF.bdt (by omega) (EvF.bdt (by rw [List.length_map]; omega) (EvF.brt (ble_t (by rw [List.length_map]; omega)) (EvF.brt (ble_t (by rw [List.length_map]; omega)) (EvF.brt (ble_t (by rw [List.length_map]; omega)) EvF.ret)))))))
  · have et : torn q j y D = D := by unfold torn; rw [List.getElem?_eq_none (by omega)]
    rw [et]
    refine EvF.bdf (by rw [List.length_map]; omega) ?_
    rw [copy_all hD hC]
    exact EvF.brt (ble_t (by rw [List.length_map]; omega)) (EvF.brt (ble_t (by rw [List.length_map]; omega)) EvF.ret)
/-- Crash: behind its loop -/
theorem t0_21_b (cal : Oracle) (T : Hp) (nx n : Nat) (tg tgl ar dn : Bool) (lf keep y z : Int) (zl : List AV) (q L0 : Q) (hq : Qin n q) (D C : List UInt8) (hD : D.length = n) (hC : C.length = n) (j : Nat) :
    Ev cal 21 (goTo [0, 5, 0, 0, 5, 7, 5, 0, 5, 0, 0, 5, 2, 3] (bodyOf 21)) (mkS 94 [(0, .val (.ptr 0 0) .no), (3, .lp 3 0), (4, .val (.int .i64 (j : Int)) .no), (24, .val (.vs 2 tgl (L0.map qAV)) .no), (25, .val (.int .i64 (L0.length : Int)) .no), (26, .val (.int .i64 (L0.length : Int)) .no)] [(3, ⟨[.int .i64 keep, .int .i64 y], []⟩), (6, ⟨[.int .i64 z, .vs 1 false zl], []⟩)] ((hdk 0 n tg (q.map qAV) ar lf dn (D.map byteAV) (C.map byteAV) T)) nx)
      ⟨.tuple [], (hdk 0 n true [] false 0 false ((torn q j y D).map byteAV) ((torn q j y D).map byteAV) T), nx⟩ := by
  refine Ev.stage 14 (fun n' => d0_21_4 cal n' T nx keep y n z zl _ _ _ _ _ _ _ _ _ _ _ _) ?_
  refine EvF.bdf (by omega) ?_
  by_cases hj : j < q.length
  · obtain ⟨e, he⟩ : ∃ e, q[j]? = some e := ⟨q[j], List.getElem?_eq_getElem hj⟩
    have hi := hq e (List.mem_of_getElem? he)
    have h0 := clampI_0 y (e.2.length : Int)
    have h1 := clampI_le y (n := (e.2.length : Int)) (by omega)
    obtain ⟨t, ht⟩ := Int.eq_ofNat_of_zero_le h0
    refine EvF.bdt (by rw [List.length_map]; omega) (EvF.bdt (by omega) (EvF.bdt (by rw [List.length_map]; omega) (EvF.nth (c := qAV e) (by rw [Int.toNat_natCast]; exact nth_map' qAV q j e he) ?_)))
    refine EvF.mid 5 (fun n' => d0_21_6 cal n' T nx keep y n z zl _ _ _ _ _ _ _ _ (e.1 : Int) (e.2.map byteAV)) ?_ 3
    have ec : (if 0 < (if ((List.length (e.2.map byteAV) : Nat) : Int) < y then ((List.length (e.2.map byteAV) : Nat) : Int) else y) then (if ((List.length (e.2.map byteAV) : Nat) : Int) < y then ((List.length (e.2.map byteAV) : Nat) : Int) else y) else 0) = (t : Int) := by
      rw [List.length_map]; exact ht
    have et : torn q j y D = wb D e.1 (e.2.take t) := by unfold torn; rw [he]; simp only [ht, Int.toNat_natCast]
    have hw : e.1 + (e.2.take t).length ≤ D.length := by rw [List.length_take]; omega
    have hwl := wb_length hw
    rw [ec, et]
    simp only [Int.toNat_natCast]
    rw [List.drop_zero, ← List.map_take, show Nat.min (List.length ((e.2.take t).map byteAV)) (n - e.1) = (e.2.take t).length by rw [List.length_map]; exact Nat.min_eq_left (by omega), patch_wb (by omega), List.take_length]
    rw [copy_all (by omega) hC]
    exact EvF.bdt (by omega) (EvF.bdt (by omega) (EvF.brt (blt_t (by omega)) (EvF.bdt (by omega) (EvF.bdt (by rw [List.length_map]; omega) (EvF.brt (ble_t (by rw [List.length_map]; omega)) (EvF.brt (ble_t (by rw [List.length_map]; omega)) (EvF.brt (ble_t (by rw [List.length_map]; omega)) EvF.ret)))))))
  · have et : torn q j y D = D := by unfold torn; rw [List.getElem?_eq_none (by omega)]
    rw [et]
    refine EvF.bdf (by rw [List.length_map]; omega) ?_
    rw [copy_all hD hC]
    exact EvF.brt (ble_t (by rw [List.length_map]; omega)) (EvF.brt (ble_t (by rw [List.length_map]; omega)) EvF.ret)
/-- Crash's loop -/
theorem l0_21 (cal : Oracle) (T : Hp) (nx n : Nat) (tg tgl ar dn : Bool) (lf keep y : Int) (q L0 : Q) (hq : Qin n q) (hn : n ≤ 65536) (h0 : Qin n L0) (h0l : L0.length ≤ 1099511627776) (C : List UInt8) (hC : C.length = n) (j : Nat) : ∀ (r p : Q) (D : List UInt8) (z : Int) (zl : List AV), L0 = p ++ r → D.length = n →
    Ev cal 21 (goTo [0, 5, 0, 0, 5, 7, 5, 0, 5, 0, 0, 5, 2, 3] (bodyOf 21)) (mkS 94 [(0, .val (.ptr 0 0) .no), (3, .lp 3 0), (4, .val (.int .i64 (j : Int)) .no), (24, .val (.vs 2 tgl (L0.map qAV)) .no), (25, .val (.int .i64 (L0.length : Int)) .no), (26, .val (.int .i64 (p.length : Int)) .no)] [(3, ⟨[.int .i64 keep, .int .i64 y], []⟩), (6, ⟨[.int .i64 z, .vs 1 false zl], []⟩)] ((hdk 0 n tg (q.map qAV) ar lf dn (D.map byteAV) (C.map byteAV) T)) nx)
      ⟨.tuple [], (hdk 0 n true [] false 0 false ((torn q j y (ap r D)).map byteAV) ((torn q j y (ap r D)).map byteAV) T), nx⟩ := by
  intro r
  induction r with
  | nil =>
    intro p D z zl hp hD
    rw [List.append_nil] at hp
    subst hp
    exact t0_21_b cal T nx n tg tgl ar dn lf keep y z zl q L0 hq D C hD hC j
  | cons e r ih =>
    intro p D z zl hp hD
    have he := h0 e (by rw [hp]; simp)
    have hlen : p.length < L0.length := by rw [hp]; simp
    refine Ev.stage 14 (fun n' => d0_21_4 cal n' T nx keep y n z zl _ _ _ _ _ _ _ _ _ _ _ _) ?_
    refine EvF.bdt (by omega) (EvF.bdt (by omega) (EvF.bdt (by rw [List.length_map]; omega) (EvF.nth (c := qAV e) (by rw [hp, Int.toNat_natCast]; exact nth_map qAV p e r) ?_)))
    refine EvF.mid 4 (fun n' => d0_21_5 cal n' T nx keep y n z zl _ _ _ _ _ _ _ _ _ _ _ _ (e.1 : Int) (e.2.map byteAV)) ?_ 5
    rw [Int.toNat_natCast, show Nat.min (List.length (e.2.map byteAV)) (n - e.1) = e.2.length by rw [List.length_map]; exact Nat.min_eq_left (by omega), patch_wb (by omega), List.take_length]
    refine EvF.bdt (by omega) (EvF.bdt (by omega) (EvF.brt (blt_t (by omega)) (EvF.brt (ble_t (by rw [List.length_map]; omega)) ?_)))
    have := ih (p ++ [e]) (wb D e.1 e.2) e.1 (e.2.map byteAV) (by rw [hp]; simp) (by rw [wb_length (by omega)]; exact hD)
    rw [wrap64 (by omega) (by omega), show (p.length : Int) + 1 = (((p ++ [e]).length : Nat) : Int) by simp]
    exact this.at 0
theorem s0_21 (d : Nat) (T : Hp) (nx : Nat) (k : Dk) (ok : k.Ok) (x y : Int) : CW (d + 1) 21 [.ptr 0 0, .agg [.int .i64 x, .int .i64 y]] ((k).hp 0 T) nx = some ⟨.tuple [], ((k.crash x y).hp 0 T), nx⟩ := by
  have hn := ok.n
  have hql := ok.ql
  have c0 := clampI_0 x (k.q.length : Int)
  have c1 := clampI_le x (n := (k.q.length : Int)) (by omega)
  obtain ⟨j, hj⟩ := Int.eq_ofNat_of_zero_le c0
  refine cw rfl (Ev.stage 14 (fun n => d0_21_0 _ n T nx x y k.n k.tg (k.q.map qAV) k.ar k.lf k.dn (k.D.map byteAV) (k.C.map byteAV)) ?_) (fun n => by kernel_rfl)
  have ec : (if 0 < (if ((List.length (k.q.map qAV) : Nat) : Int) < x then ((List.length (k.q.map qAV) : Nat) : Int) else x) then (if ((List.length (k.q.map qAV) : Nat) : Int) < x then ((List.length (k.q.map qAV) : Nat) : Int) else x) else 0) = (j : Int) := by
    rw [List.length_map]; exact hj
  rw [ec, Int.toNat_natCast, List.drop_zero, ← List.map_take, List.length_map, List.length_map]
  have hcr : k.crD x y = torn k.q j y (ap (k.q.take j) k.D) := by unfold Dk.crD torn; rw [hj, Int.toNat_natCast]
  have hk : k.crash x y = ⟨k.n, true, [], false, 0, false, torn k.q j y (ap (k.q.take j) k.D), torn k.q j y (ap (k.q.take j) k.D)⟩ := by unfold Dk.crash; rw [hcr]
  rw [hk]
  refine EvF.bdt (by omega) (EvF.bdt (by omega) ?_)
  have hqt := ok.q.take j
  cases hL : k.q.take j with
  | nil =>
    have := t0_21_a (CW d) T nx k.n k.tg false k.ar k.dn k.lf x y k.q [] ok.q k.D k.C ok.d ok.c j
    exact this.at 0
  | cons e r =>
    rw [hL] at hqt
    have hlen : (e :: r).length ≤ 1099511627776 := by rw [← hL, List.length_take]; omega
    have he := hqt e (by simp)
    have hd := ok.d
    have this : Ev (CW d) 21 (goTo [0, 5, 0, 0, 5, 7, 5, 0, 5, 0, 0, 5, 2, 3] (bodyOf 21)) (mkS 94 [(0, .val (.ptr 0 0) .no), (3, .lp 3 0), (4, .val (.int .i64 (j : Int)) .no), (24, .val (.vs 2 false ((e :: r).map qAV)) .no), (25, .val (.int .i64 ((e :: r).length : Int)) .no), (26, .val (.int .i64 0) .no)] [(3, ⟨[.int .i64 x, .int .i64 y], []⟩)] ((k).hp 0 T) nx)
        ⟨.tuple [], (hdk 0 k.n true [] false 0 false ((torn k.q j y (ap (e :: r) k.D)).map byteAV) ((torn k.q j y (ap (e :: r) k.D)).map byteAV) T), nx⟩ := by
      refine Ev.stage 14 (fun n' => d0_21_1 (CW d) n' T nx x y k.n _ _ _ _ _ _ _ _ _ _ _ _) ?_
      refine EvF.bdt (by simp) (EvF.bdt (by omega) (EvF.bdt (by simp) (EvF.nth (c := qAV e) rfl ?_)))
      refine EvF.mid 4 (fun n' => d0_21_2 (CW d) n' T nx x y k.n _ _ _ _ _ _ _ _ _ _ _ _ (e.1 : Int) (e.2.map byteAV)) ?_ 5
      rw [Int.toNat_natCast, show Nat.min (List.length (e.2.map byteAV)) (k.n - e.1) = e.2.length by rw [List.length_map]; exact Nat.min_eq_left (by omega), patch_wb (by omega), List.take_length]
      refine EvF.bdt (by omega) (EvF.bdt (by omega) (EvF.brt (blt_t (by omega)) (EvF.brt (ble_t (by rw [List.length_map]; omega)) ?_)))
      exact (l0_21 (CW d) T nx k.n k.tg false k.ar k.dn k.lf x y k.q (e :: r) ok.q ok.n hqt hlen k.C ok.c j r [e] (wb k.D e.1 e.2) e.1 (e.2.map byteAV) rfl (by rw [wb_length (by omega)]; exact hd)).at 0
    exact this.at 0

/-- New -/
theorem s0_11 (d : Nat) (x : Int) : CW (d + 1) 11 [.int .i64 x] Hp.none 0 = some ⟨.ptr 0 0, ((dk0 ((clampS x).toNat * 32)).hp 0 Hp.none), 0 + 8⟩ := by
  refine cw rfl (Ev.stage 7 (fun n => d0_11_0 _ n x) ?_) (fun n => by kernel_rfl)
  have c1 := clampS_1 x
  have c2 := clampS_2 x
  obtain ⟨m, hm⟩ := Int.eq_ofNat_of_zero_le (a := clampS x) (by omega)
  have e1 : (if 1 < (if 2048 < x then 2048 else x) then (if 2048 < x then 2048 else x) else 1) = (m : Int) := hm
  have e2 : IntKind.wrap IntKind.i64 ((m : Int) * 32) = ((m * 32 : Nat) : Int) := by rw [wrap64 (by omega) (by omega)]; omega
  rw [e1, e2, Int.toNat_natCast, hm, Int.toNat_natCast, replC_zero]
  exact EvF.bdt (by omega) (EvF.bdt (by omega) (EvF.bdt (by omega) (EvF.bdt (by omega) (EvF.bdt rfl (EvF.bdt (by omega) (EvF.bdt (by omega) (EvF.bdt (by omega) (EvF.bdt (by omega) (EvF.bdt rfl EvF.ret)))))))))

end Go.Proofs.Ytjipknfohmgjaaa
