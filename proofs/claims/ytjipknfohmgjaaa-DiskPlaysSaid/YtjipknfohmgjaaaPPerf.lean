/- perform: both disks do the same. -/
import Derived.Test.YtjipknfohmgjaaaPSp
import Derived.Test.YtjipknfohmgjaaaPPt
namespace Go.Proofs.Ytjipknfohmgjaaa
open Go Go.Vai

attribute [local irreducible] midRun goTo bodyOf mkS run
set_option linter.unusedSectionVars false

/-- the bytes that are read are the durable ones behind the queue -/
def Coh (k : Dk) : Prop := k.C = ap k.q k.D
/-- the reference, its durable bytes in block m -/
def rr (k : Dk) (m : Nat) (T : Hp) : Hp := ((8, ⟨[.arr m 0 k.n 1, .vs 2 k.tg (k.q.map qAV), .bool k.dn, .bool k.ar, .int .i64 k.lf], [1]⟩) :: (T : List (Nat × Blk)) : List (Nat × Blk))
/-- where the durable bytes are -/
def Tail (k : Dk) (m : Nat) (T : Hp) : Prop := (m = 9 ∧ T = [(9, ⟨k.D.map byteAV, []⟩)]) ∨ (m = 9 ∧ ∃ V, T = [(9, ⟨k.D.map byteAV, []⟩), (16, ⟨V, []⟩)]) ∨ (m = 16 ∧ ∃ V, T = [(9, ⟨V, []⟩), (16, ⟨k.D.map byteAV, []⟩)])
structure Aft (k k' : Dk) (H : Hp) : Prop where
  ok : k'.Ok
  coh : Coh k'
  n : k'.n = k.n
  q : k'.q.length ≤ k.q.length + 100
  H : ∃ m T, H = k'.hp 0 (rr k' m T) ∧ Tail k' m T
/-- a disk's blocks -/
def zk (k : Dk) : Blk × Blk × Blk := (⟨[.arr 1 0 k.n 1, .arr 3 0 k.n 1, .vs 2 k.tg (k.q.map qAV), .bool k.ar, .int .i64 k.lf, .bool k.dn], [2]⟩, ⟨k.D.map byteAV, []⟩, ⟨k.C.map byteAV, []⟩)
theorem pre_zk (k : Dk) (T : Hp) : pre (zk k) T = k.hp 0 T := rfl
theorem aft_9 {k k' : Dk} (ok : k'.Ok) (coh : Coh k') (n : k'.n = k.n) (q : k'.q.length ≤ k.q.length + 100) : Aft k k' (k'.hp 0 (rdk k' Hp.none)) := ⟨ok, coh, n, q, 9, _, rfl, .inl ⟨rfl, rfl⟩⟩
theorem aft_v {k k' : Dk} (ok : k'.Ok) (coh : Coh k') (n : k'.n = k.n) (q : k'.q.length ≤ k.q.length + 100) (V : List AV) : Aft k k' (k'.hp 0 (rdk k' ((16, ⟨V, []⟩) :: Hp.none))) := ⟨ok, coh, n, q, 9, _, rfl, .inr (.inl ⟨rfl, V, rfl⟩)⟩

theorem Coh.put {k : Dk} (h : Coh k) (o : Nat) (w : List UInt8) : Coh (k.put o w) := by
  show wb k.C o w = ap (k.q ++ [(o, w)]) k.D
  rw [ap_app, h]
  rfl
theorem Coh.wrF : ∀ (f : Nat) (k : Dk) (o : Nat) (b : List UInt8), Coh k → Coh (wrF f k o b).1
  | 0, k, o, b, h => h
  | f + 1, k, o, b, h => by
    unfold Go.Proofs.Ytjipknfohmgjaaa.wrF
    split
    · exact h
    · split
      · exact h
      · exact Coh.wrF f _ _ _ (h.put _ _)
theorem wrF_q : ∀ (f : Nat) (k : Dk) (o : Nat) (b : List UInt8), (wrF f k o b).1.q.length ≤ k.q.length + b.length
  | 0, k, o, b => by unfold wrF; exact Nat.le_add_right _ _
  | f + 1, k, o, b => by
    unfold wrF
    split
    · exact Nat.le_add_right _ _
    · split
      · exact Nat.le_add_right _ _
      · rename_i hb _
        have := wrF_q f (k.put o (b.take (min b.length (32 - o % 32)))) (o + min b.length (32 - o % 32)) (b.drop (min b.length (32 - o % 32)))
        have e : (k.put o (b.take (min b.length (32 - o % 32)))).q.length = k.q.length + 1 := by show (k.q ++ [_]).length = _; simp
        rw [e, List.length_drop] at this
        have hm : 1 ≤ 32 - o % 32 := by omega
        omega
theorem Coh.sync {k : Dk} (h : Coh k) : Coh k.sync := h
theorem Coh.fail {k : Dk} (h : Coh k) (x : Int) : Coh (k.fail x) := by
  unfold Dk.fail
  split <;> exact h
theorem Coh.crash (k : Dk) (x y : Int) : Coh (k.crash x y) := rfl

theorem bytesOf_nil : bytesOf [] = some [] := rfl
/-- an access: refused, or in the disk -/
theorem chk_cases (k : Dk) (x y : Int) : chk k x y ≠ 0 ∨ k.dn = false ∧ ∃ o m : Nat, x = o ∧ y = m ∧ o + m ≤ k.n := by
  by_cases h : chk k x y = 0
  · right
    rw [chk_r] at h
    by_cases hd : k.dn = true
    · rw [if_pos hd] at h; cases h
    · rw [if_neg hd] at h
      exact ⟨by simpa using hd, chkR_0 h⟩
  · exact .inl h

variable (d : Nat) (k : Dk) (ok : k.Ok) (coh : Coh k) (h1 : 1 ≤ k.n) (hq : k.q.length + 100 ≤ 1099511627776) (K A B : Int) (hA : -9223372036854775808 ≤ A ∧ A ≤ 9223372036854775807) (b : List UInt8)

/-- what perform is asked to show -/
def Perf (d : Nat) (k : Dk) (K A B : Int) (b : List UInt8) : Prop := ∃ k' H nx, CW (d + 3) 24 [.ptr 0 0, .ptr 8 0, .agg [.int .i64 K, .int .i64 A, .int .i64 B, .vs 1 false (b.map byteAV)]] (k.hp 0 (rdk k Hp.none)) 16 = some ⟨.bool true, H, nx⟩ ∧ Aft k k' H

/-- the first step -/
theorem perf_of {d : Nat} {k : Dk} {K A B : Int} {b : List UInt8} {out : Out} (h : EvF (fun n => midRun (CW (d + 2)) (n + 0) 24 (goTo [0, 5, 0, 0] (bodyOf 24)) 3 (mkS 167 [(0, .val (.ptr 0 0) .no), (1, .val (.ptr 8 0) .no), (5, .lp 5 0), (18, .lp 5 0), (19, .val (.int .i64 K) .no), (20, .val (.int .i64 (idx K 8)) .no)] [(5, ⟨[.int .i64 K, .int .i64 A, .int .i64 B, .vs 1 false (b.map byteAV)], []⟩)] (k.hp 0 (rdk k Hp.none)) 16)) out) :
    CW (d + 3) 24 [.ptr 0 0, .ptr 8 0, .agg [.int .i64 K, .int .i64 A, .int .i64 B, .vs 1 false (b.map byteAV)]] (k.hp 0 (rdk k Hp.none)) 16 = some out := by
  refine cw rfl (Ev.stage 5 (fun n => pa_24_0 _ n (x_6 := K) (x_7 := A) (x_8 := B) (l_9 := b.map byteAV) (n_10 := k.n) (tg_11 := k.tg) (q_12 := k.q.map qAV) (ar_13 := k.ar) (lf_14 := k.lf) (dn_15 := k.dn) (D_16 := k.D.map byteAV) (C_17 := k.C.map byteAV) (tg_19 := k.tg) (q_20 := k.q.map qAV) (off_21 := k.dn) (ar_22 := k.ar) (ct_23 := k.lf) (D_24 := k.D.map byteAV)) ?_) (fun n => by kernel_rfl)
  exact EvF.pcall rfl (n18 (d + 1) _ _ K 8 (by omega) (by omega)) rfl h

include ok coh h1 hq hA

/-- 0: Read -/
theorem perf_0 (h : idx K 8 = 0) : Perf d k K A B b := by
  rcases chk_cases k A B with hc | ⟨hdn, o, m, rfl, rfl, hom⟩
  · refine ⟨k, _, 16, perf_of ?_, aft_9 ok coh rfl (by omega)⟩
    rw [h]
    refine EvF.mid 21 (fun n => pa_24_1 _ n) (EvF.bdt rfl ?_) 0
    refine EvF.call (s0_13e d (rdk k Hp.none) 16 k ok A B hc) (EvF.mid 2 (fun n => pa_24_2 _ n) ?_ 15)
    have hr : CW (d + 2) 29 [.ptr 8 0, .int .i64 A, .int .i64 B] (k.hp 0 (rdk k Hp.none)) 16 = _ := r29e d (zk k) k ok A B hA hc
    refine EvF.call hr (EvF.mid 3 (fun n => pa_24_9 _ n) ?_ 0)
    exact EvF.bdt rfl (EvF.bnd bytesOf_nil (EvF.bnd bytesOf_nil EvF.ret))
  · have hk : ((k.C.drop o).take m) = ((ap k.q k.D).drop o).take m := by rw [coh]
    have hr : CW (d + 2) 29 [.ptr 8 0, .int .i64 (o : Int), .int .i64 (m : Int)] (k.hp 0 (rdk k Hp.none)) 16 = _ := r29 d (zk k) k ok h1 o m hdn hom
    have hl : (ap k.q k.D).length = k.n := by rw [ap_length (by rw [ok.d]; exact ok.q)]; exact ok.d
    refine ⟨k, _, 17, perf_of ?_, aft_v ok coh rfl (by omega) ((ap k.q k.D).map byteAV)⟩
    rw [h]
    refine EvF.mid 21 (fun n => pa_24_1 _ n) (EvF.bdt rfl ?_) 0
    refine EvF.call (s0_13 d (rdk k Hp.none) 16 k ok o m hdn hom) (EvF.mid 2 (fun n => pa_24_2 _ n) ?_ 15)
    unfold rdAV at hr
    by_cases hm : m = 0
    · subst hm
      rw [if_pos rfl] at hr
      refine EvF.call hr (EvF.mid 3 (fun n => pa_24_9 _ n) ?_ 0)
      rw [List.take_zero]
      exact EvF.bdt rfl (EvF.bnd bytesOf_nil (EvF.bnd bytesOf_nil EvF.ret))
    · rw [if_neg hm] at hr
      refine EvF.call hr (EvF.mid 3 (fun n => pb_24_9 _ n) ?_ 0)
      rw [hk]
      refine EvF.bdt rfl (EvF.bnd (bytesOf_map _) (EvF.brt (ble_t (by rw [List.length_map]; omega)) ?_))
      rw [← List.map_drop, ← List.map_take]
      exact EvF.bnd (bytesOf_map _) (EvF.ret' (by rw [eqS_refl]; rfl))

/-- 1: Read, mostly in the disk -/
theorem perf_1 (h : idx K 8 = 1) : Perf d k K A B b := by
  have hn := ok.n
  have en : IntKind.wrap IntKind.i64 ((k.n : Int) + 2) = (k.n : Int) + 2 := wrap64 (by omega) (by omega)
  have i0 := idx_0 A (m := (k.n : Int) + 2) (by omega)
  have i1 := idx_lt A (m := (k.n : Int) + 2) (by omega)
  have j0 := idx_0 B (m := 80) (by omega)
  have j1 := idx_lt B (m := 80) (by omega)
  obtain ⟨x, hx⟩ : ∃ x, x = idx A ((k.n : Int) + 2) - 1 := ⟨_, rfl⟩
  obtain ⟨y, hy⟩ : ∃ y, y = idx B 80 - 1 := ⟨_, rfl⟩
  have ex : IntKind.wrap IntKind.i64 (idx A ((k.n : Int) + 2) - 1) = x := by rw [hx]; exact wrap64 (by omega) (by omega)
  have ey : IntKind.wrap IntKind.i64 (idx B 80 - 1) = y := by rw [hy]; exact wrap64 (by omega) (by omega)
  have hxr : -9223372036854775808 ≤ x ∧ x ≤ 9223372036854775807 := by omega
  have h18 : CW (d + 2) 18 [.int .i64 A, .int .i64 (IntKind.wrap IntKind.i64 ((k.n : Int) + 2))] Hp.none 0 = some ⟨.int .i64 (idx A ((k.n : Int) + 2)), Hp.none, 0⟩ := by rw [en]; exact n18 (d + 1) Hp.none 0 A ((k.n : Int) + 2) (by omega) (by omega)
  have h18b := n18 (d + 1) Hp.none 0 B 80 (by omega) (by omega)
  rcases chk_cases k x y with hc | ⟨hdn, o, m, hxo, hym, hom⟩
  · refine ⟨k, _, 16, perf_of ?_, aft_9 ok coh rfl (by omega)⟩
    rw [h]
    refine EvF.mid 21 (fun n => pa_24_1 _ n) (EvF.bdf (by decide) (EvF.bdt rfl ?_)) 0
    refine EvF.pcall rfl h18 rfl (EvF.brt rfl (EvF.mid 2 (fun n => pa_24_3 _ n) ?_ 12))
    refine EvF.pcall rfl h18b rfl (EvF.mid 2 (fun n => pa_24_10 _ n) ?_ 0)
    have hd := s0_13e d (rdk k Hp.none) 16 k ok x y hc
    have hr : CW (d + 2) 29 [.ptr 8 0, .int .i64 x, .int .i64 y] (k.hp 0 (rdk k Hp.none)) 16 = some ⟨.tuple [.vs 1 true [], .int .i64 (chk k x y)], k.hp 0 (rdk k Hp.none), 16⟩ := r29e d (zk k) k ok x y hxr hc
    generalize chk k x y = c at hd hr
    rw [← ex, ← ey] at hd hr
    refine EvF.call hd (EvF.mid 2 (fun n => pa_24_16 _ n) ?_ 0)
    refine EvF.call hr (EvF.mid 3 (fun n => pa_24_20 _ n) ?_ 0)
    exact EvF.bdt rfl (EvF.bnd bytesOf_nil (EvF.bnd bytesOf_nil EvF.ret))
  · have hk : ((k.C.drop o).take m) = ((ap k.q k.D).drop o).take m := by rw [coh]
    have hr : CW (d + 2) 29 [.ptr 8 0, .int .i64 (o : Int), .int .i64 (m : Int)] (k.hp 0 (rdk k Hp.none)) 16 = some ⟨.tuple [rdAV o m, .int .i64 0], k.hp 0 (rdk k ((16, ⟨(ap k.q k.D).map byteAV, []⟩) :: Hp.none)), 17⟩ := r29 d (zk k) k ok h1 o m hdn hom
    have hd := s0_13 d (rdk k Hp.none) 16 k ok o m hdn hom
    have hl : (ap k.q k.D).length = k.n := by rw [ap_length (by rw [ok.d]; exact ok.q)]; exact ok.d
    rw [← hxo, ← hym, ← ex, ← ey] at hd hr
    refine ⟨k, _, 17, perf_of ?_, aft_v ok coh rfl (by omega) ((ap k.q k.D).map byteAV)⟩
    rw [h]
    refine EvF.mid 21 (fun n => pa_24_1 _ n) (EvF.bdf (by decide) (EvF.bdt rfl ?_)) 0
    refine EvF.pcall rfl h18 rfl (EvF.brt rfl (EvF.mid 2 (fun n => pa_24_3 _ n) ?_ 12))
    refine EvF.pcall rfl h18b rfl (EvF.mid 2 (fun n => pa_24_10 _ n) ?_ 0)
    refine EvF.call hd (EvF.mid 2 (fun n => pa_24_16 _ n) ?_ 0)
    unfold rdAV at hr
    by_cases hm : m = 0
    · subst hm
      rw [if_pos rfl] at hr
      refine EvF.call hr (EvF.mid 3 (fun n => pa_24_20 _ n) ?_ 0)
      rw [List.take_zero]
      exact EvF.bdt rfl (EvF.bnd bytesOf_nil (EvF.bnd bytesOf_nil EvF.ret))
    · rw [if_neg hm] at hr
      refine EvF.call hr (EvF.mid 3 (fun n => pb_24_20 _ n) ?_ 0)
      rw [hk]
      refine EvF.bdt rfl (EvF.bnd (bytesOf_map _) (EvF.brt (ble_t (by rw [List.length_map]; omega)) ?_))
      rw [← List.map_drop, ← List.map_take]
      exact EvF.bnd (bytesOf_map _) (EvF.ret' (by rw [eqS_refl]; rfl))

/-- 2: Sync -/
theorem perf_2 (h : idx K 8 = 2) : Perf d k K A B b := by
  by_cases hdn : k.dn = true
  · refine ⟨k, _, 16, perf_of ?_, aft_9 ok coh rfl (by omega)⟩
    rw [h]
    refine EvF.mid 21 (fun n => pa_24_1 _ n) (EvF.bdf (by decide) (EvF.bdf (by decide) (EvF.bdt rfl ?_))) 0
    refine EvF.call (s0_20e d (rdk k Hp.none) 16 k ok hdn) (EvF.mid 0 (fun n => pa_24_4 _ n) ?_ 9)
    have hr : CW (d + 2) 30 [.ptr 8 0] (k.hp 0 (rdk k Hp.none)) 16 = _ := r30e (d + 1) (zk k) k hdn
    exact EvF.call hr (EvF.mid 1 (fun n => pa_24_11 _ n) EvF.ret 0)
  · have hdn : k.dn = false := by simpa using hdn
    have hl : (ap k.q k.D).length = k.n := by rw [ap_length (by rw [ok.d]; exact ok.q)]; exact ok.d
    refine ⟨k.sync, k.sync.hp 0 (rr k.sync 16 [(9, ⟨k.D.map byteAV, []⟩), (16, ⟨k.sync.D.map byteAV, []⟩)]), 17, perf_of ?_, ⟨ok.sync, coh.sync, rfl, by show 0 ≤ _; omega, 16, _, rfl, .inr (.inr ⟨rfl, k.D.map byteAV, rfl⟩)⟩⟩
    rw [h]
    refine EvF.mid 21 (fun n => pa_24_1 _ n) (EvF.bdf (by decide) (EvF.bdf (by decide) (EvF.bdt rfl ?_))) 0
    refine EvF.call (s0_20 d (rdk k Hp.none) 16 k ok hdn) (EvF.mid 0 (fun n => pa_24_4 _ n) ?_ 9)
    have hr : CW (d + 2) 30 [.ptr 8 0] (k.sync.hp 0 (rdk k Hp.none)) 16 = _ := r30 d (zk k.sync) k ok h1 hdn
    exact EvF.call hr (EvF.mid 1 (fun n => pa_24_11 _ n) EvF.ret 0)

/-- 3: FailAfter -/
theorem perf_3 (h : idx K 8 = 3) : Perf d k K A B b := by
  have i0 := idx_0 A (m := 8) (by omega)
  have i1 := idx_lt A (m := 8) (by omega)
  have h18 := n18 (d + 1) Hp.none 0 A 8 (by omega) (by omega)
  refine ⟨k.fail (IntKind.wrap IntKind.i64 (idx A 8 - 1)), _, 16, perf_of ?_, aft_9 (ok.fail (by rw [wrap64 (by omega) (by omega)]; omega)) (coh.fail _) (by unfold Dk.fail; split <;> rfl) (by unfold Dk.fail; split <;> exact Nat.le_add_right _ _)⟩
  rw [h]
  refine EvF.mid 21 (fun n => pa_24_1 _ n) (EvF.bdf (by decide) (EvF.bdf (by decide) (EvF.bdf (by decide) (EvF.bdt rfl ?_)))) 0
  refine EvF.pcall rfl h18 rfl (EvF.mid 0 (fun n => pa_24_5 _ n) ?_ 6)
  have e : (k.fail (IntKind.wrap IntKind.i64 (idx A 8 - 1))).n = k.n := by unfold Dk.fail; split <;> rfl
  have hd := s0_27 (d + 1) (rdk k Hp.none) 16 k (IntKind.wrap IntKind.i64 (idx A 8 - 1))
  have hr : CW (d + 2) 31 [.ptr 8 0, .int .i64 (IntKind.wrap IntKind.i64 (idx A 8 - 1))] ((k.fail (IntKind.wrap IntKind.i64 (idx A 8 - 1))).hp 0 (rdk k Hp.none)) 16 = _ := r31 (d + 1) (zk (k.fail (IntKind.wrap IntKind.i64 (idx A 8 - 1)))) k (IntKind.wrap IntKind.i64 (idx A 8 - 1))
  generalize k.fail (IntKind.wrap IntKind.i64 (idx A 8 - 1)) = k2 at hd hr e ⊢
  unfold Dk.hp at hd hr
  rw [e] at hd hr
  refine EvF.call hd (EvF.mid 1 (fun n => pa_24_12 _ n) ?_ 0)
  refine EvF.pcall rfl h18 rfl (EvF.mid 0 (fun n => pa_24_17 _ n) ?_ 0)
  refine EvF.call hr (EvF.mid 4 (fun n => pa_24_21 _ n) (EvF.ret' ?_) 0)
  rw [show pre (zk k2) (rdk k2 Hp.none) = k2.hp 0 (rdk k2 Hp.none) from rfl]

/-- 4: Crash -/
theorem perf_4 (h : idx K 8 = 4) : Perf d k K A B b := by
  refine ⟨k.crash A B, _, 16, perf_of ?_, aft_9 (ok.crash A B) (.crash k A B) rfl (by show 0 ≤ _; omega)⟩
  rw [h]
  refine EvF.mid 21 (fun n => pa_24_1 _ n) (EvF.bdf (by decide) (EvF.bdf (by decide) (EvF.bdf (by decide) (EvF.bdf (by decide) (EvF.bdt rfl ?_))))) 0
  refine EvF.call (s0_21 (d + 1) (rdk k Hp.none) 16 k ok A B) (EvF.mid 1 (fun n => pa_24_6 _ n) ?_ 3)
  have hr : CW (d + 2) 32 [.ptr 8 0, .int .i64 A, .int .i64 B] ((k.crash A B).hp 0 (rdk k Hp.none)) 16 = _ := r32 (d + 1) (zk (k.crash A B)) k ok A B
  exact EvF.call hr (EvF.mid 4 (fun n => pa_24_13 _ n) EvF.ret 0)

omit h1 hA in
/-- both writes -/
theorem two_writes (x : Int) (hx : -9223372036854775808 ≤ x ∧ x ≤ 9223372036854775807) (w : List UInt8) (hw : w.length ≤ 100) : ∃ k' e, k'.n = k.n ∧ k'.Ok ∧ Coh k' ∧ k'.q.length ≤ k.q.length + 100 ∧
    CW (d + 2) 19 [.ptr 0 0, .int .i64 x, .vs 1 false (w.map byteAV)] (k.hp 0 (rdk k Hp.none)) 16 = some ⟨.int .i64 e, k'.hp 0 (rdk k Hp.none), 16⟩ ∧
    CW (d + 2) 33 [.ptr 8 0, .int .i64 x, .vs 1 false (w.map byteAV)] (k'.hp 0 (rdk k Hp.none)) 16 = some ⟨.int .i64 e, k'.hp 0 (rdk k' Hp.none), 16⟩ := by
  rcases chk_cases k x (w.length : Int) with hc | ⟨hdn, o, m, rfl, hm, hom⟩
  · have hc' : chk k x ((w.map byteAV).length : Int) ≠ 0 := by rw [List.length_map]; exact hc
    exact ⟨k, _, rfl, ok, coh, by omega, s0_19e d (rdk k Hp.none) 16 k ok false x (w.map byteAV) hc', r33e d (zk k) k ok false x hx (w.map byteAV) hc'⟩
  · have hm' : w.length = m := by omega
    obtain ⟨i1, i2, _, _⟩ := wrF_inv w.length k o w ok (by omega) (by omega)
    have := wrF_q w.length k o w
    exact ⟨(wrF w.length k o w).1, (wrF w.length k o w).2, i2, i1, coh.wrF _ _ _ _, by omega, s0_19 d (rdk k Hp.none) 16 k ok false o w hdn (by omega) (by omega), r33 d (zk (wrF w.length k o w).1) k ok false o w hdn (by omega) (by omega)⟩

/-- 5: Write -/
theorem perf_5 (h : idx K 8 = 5) : Perf d k K A B b := by
  obtain ⟨k', e, en, ok', coh', hq', hd, hr⟩ := two_writes d k ok coh hq A hA (b.take 100) (by rw [List.length_take]; omega)
  have h17 := n17 (d + 1) Hp.none 0 b false 100
  refine ⟨k', _, 16, perf_of ?_, aft_9 ok' coh' en hq'⟩
  rw [h]
  refine EvF.mid 21 (fun n => pa_24_1 _ n) (EvF.bdf (by decide) (EvF.bdf (by decide) (EvF.bdf (by decide) (EvF.bdf (by decide) (EvF.bdf (by decide) (EvF.bdt rfl ?_)))))) 0
  unfold Dk.hp at hd hr
  rw [en] at hd hr
  refine EvF.brt (pureL_vs (pure_bytes _) rfl) (EvF.pcall (pureL_vs (pure_bytes _) rfl) h17 (pure_bytes _) (EvF.brt (pure_bytes _) (EvF.mid 0 (fun n => pa_24_7 _ n) ?_ 0)))
  refine EvF.call hd (EvF.mid 0 (fun n => pa_24_14 _ n) ?_ 0)
  refine EvF.brt (pureL_vs (pure_bytes _) rfl) (EvF.pcall (pureL_vs (pure_bytes _) rfl) h17 (pure_bytes _) (EvF.brt (pure_bytes _) (EvF.mid 0 (fun n => pa_24_18 _ n) ?_ 0)))
  refine EvF.call hr (EvF.mid 1 (fun n => pa_24_22 _ n) (EvF.ret' ?_) 0)
  rw [decide_eq_true rfl]
  unfold Dk.hp
  rw [en]

/-- 6, 7: Write, mostly in the disk -/
theorem perf_6 (h : 6 ≤ idx K 8) : Perf d k K A B b := by
  have hn := ok.n
  have en2 : IntKind.wrap IntKind.i64 ((k.n : Int) + 2) = (k.n : Int) + 2 := wrap64 (by omega) (by omega)
  have i0 := idx_0 A (m := (k.n : Int) + 2) (by omega)
  have i1 := idx_lt A (m := (k.n : Int) + 2) (by omega)
  have ew : IntKind.wrap IntKind.i64 (idx A ((k.n : Int) + 2) - 1) = idx A ((k.n : Int) + 2) - 1 := wrap64 (by omega) (by omega)
  have h18 : CW (d + 2) 18 [.int .i64 A, .int .i64 (IntKind.wrap IntKind.i64 ((k.n : Int) + 2))] Hp.none 0 = some ⟨.int .i64 (idx A ((k.n : Int) + 2)), Hp.none, 0⟩ := by rw [en2]; exact n18 (d + 1) Hp.none 0 A ((k.n : Int) + 2) (by omega) (by omega)
  obtain ⟨k', e, en, ok', coh', hq', hd, hr⟩ := two_writes d k ok coh hq (idx A ((k.n : Int) + 2) - 1) (by omega) (b.take 100) (by rw [List.length_take]; omega)
  have h17 := n17 (d + 1) Hp.none 0 b false 100
  refine ⟨k', _, 16, perf_of ?_, aft_9 ok' coh' en hq'⟩
  refine EvF.mid 21 (fun n => pa_24_1 _ n) (EvF.bdf (by omega) (EvF.bdf (by omega) (EvF.bdf (by omega) (EvF.bdf (by omega) (EvF.bdf (by omega) (EvF.bdf (by omega) ?_)))))) 0
  unfold Dk.hp at hd hr
  rw [en, ← ew] at hd hr
  refine EvF.pcall rfl h18 rfl (EvF.brt rfl (EvF.mid 2 (fun n => pa_24_8 _ n) ?_ 0))
  refine EvF.brt (pureL_vs (pure_bytes _) rfl) (EvF.pcall (pureL_vs (pure_bytes _) rfl) h17 (pure_bytes _) (EvF.brt (pure_bytes _) (EvF.mid 0 (fun n => pa_24_15 _ n) ?_ 0)))
  refine EvF.call hd (EvF.mid 0 (fun n => pa_24_19 _ n) ?_ 0)
  refine EvF.brt (pureL_vs (pure_bytes _) rfl) (EvF.pcall (pureL_vs (pure_bytes _) rfl) h17 (pure_bytes _) (EvF.brt (pure_bytes _) (EvF.mid 0 (fun n => pa_24_23 _ n) ?_ 0)))
  refine EvF.call hr (EvF.mid 1 (fun n => pa_24_24 _ n) (EvF.ret' ?_) 0)
  rw [decide_eq_true rfl]
  unfold Dk.hp
  rw [en]

theorem perf : Perf d k K A B b := by
  have i0 := idx_0 K (m := 8) (by omega)
  have i1 := idx_lt K (m := 8) (by omega)
  by_cases h0 : idx K 8 = 0
  · exact perf_0 d k ok coh h1 hq K A B hA b h0
  by_cases h2 : idx K 8 = 1
  · exact perf_1 d k ok coh h1 hq K A B hA b h2
  by_cases h3 : idx K 8 = 2
  · exact perf_2 d k ok coh h1 hq K A B hA b h3
  by_cases h4 : idx K 8 = 3
  · exact perf_3 d k ok coh h1 hq K A B hA b h4
  by_cases h5 : idx K 8 = 4
  · exact perf_4 d k ok coh h1 hq K A B hA b h5
  by_cases h6 : idx K 8 = 5
  · exact perf_5 d k ok coh h1 hq K A B hA b h6
  exact perf_6 d k ok coh h1 hq K A B hA b (by omega)

end Go.Proofs.Ytjipknfohmgjaaa
