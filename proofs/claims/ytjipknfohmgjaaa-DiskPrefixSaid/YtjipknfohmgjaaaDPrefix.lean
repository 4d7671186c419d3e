/- DiskPrefix: what the law computes is true. -/
import Derived.Test.YtjipknfohmgjaaaDWa0
import Derived.Test.YtjipknfohmgjaaaDWh0
import Derived.Test.YtjipknfohmgjaaaDW4
namespace Go.Proofs.Ytjipknfohmgjaaa
open Go Go.Vai

/-- one sector's end further -/
def adv (i len n : Nat) : Nat := min len (n + 32 - (i + n) % 32)
def advs (i len : Nat) : Nat → Nat → Nat
  | 0, n => n
  | K + 1, n => if n < len then advs i len K (adv i len n) else n
theorem adv_eq {i len n : Nat} (h : n ≤ len) : adv i len n = n + min (len - n) (32 - (i + n) % 32) := by unfold adv; omega
theorem advs_le (i len : Nat) : ∀ (K n : Nat), n ≤ len → n ≤ advs i len K n ∧ advs i len K n ≤ len
  | 0, n, h => ⟨Nat.le_refl _, h⟩
  | K + 1, n, h => by
    unfold advs
    split
    · have := advs_le i len K (adv i len n) (by unfold adv; omega)
      rw [adv_eq h] at this ⊢
      omega
    · exact ⟨Nat.le_refl _, h⟩

theorem wb_next {C : List UInt8} {i n m : Nat} {b : List UInt8} (h : i + b.length ≤ C.length) (hm : n + m ≤ b.length) : wb (wb C i (b.take n)) (i + n) ((b.drop n).take m) = wb C i (b.take (n + m)) := by
  have := wb_wb (C := C) (o := i) (m := n) (b := b.take (n + m)) (by rw [List.length_take]; omega) (by rw [List.length_take]; omega)
  rw [List.take_take, Nat.min_eq_left (by omega), List.drop_take, Nat.add_sub_cancel_left] at this
  exact this

theorem crash_pos {C : List UInt8} {i : Nat} {b : List UInt8} (h : i + b.length ≤ C.length) : ∀ (K f n : Nat), n ≤ b.length → b.length - n ≤ f →
    ap ((ps f (i + n) (b.drop n)).take K) (wb C i (b.take n)) = wb C i (b.take (advs i b.length K n)) ∧
    (ps f (i + n) (b.drop n))[K]? = if advs i b.length K n < b.length then some (i + advs i b.length K n, (b.drop (advs i b.length K n)).take (min (b.length - advs i b.length K n) (32 - (i + advs i b.length K n) % 32))) else none
  | 0, f, n, hn, hf => by
    refine ⟨rfl, ?_⟩
    show _ = if n < b.length then _ else _
    split
    · rename_i hlt
      obtain ⟨f', rfl⟩ : ∃ f', f = f' + 1 := ⟨f - 1, by omega⟩
      unfold ps
      rw [if_neg (by rw [List.length_drop]; omega)]
      show some _ = some _
      rw [List.length_drop]
      rfl
    · have : b.drop n = [] := List.drop_eq_nil_of_le (by omega)
      rw [this]
      have : ps f (i + n) [] = [] := List.length_eq_zero_iff.1 (by have := ps_len f (i + n) []; simpa using this)
      rw [this]
      rfl
  | K + 1, f, n, hn, hf => by
    by_cases hlt : n < b.length
    · obtain ⟨f', rfl⟩ : ∃ f', f = f' + 1 := ⟨f - 1, by omega⟩
      have he : advs i b.length (K + 1) n = advs i b.length K (n + min (b.length - n) (32 - (i + n) % 32)) := by
        show (if n < b.length then _ else _) = _
        rw [if_pos hlt, adv_eq hn]
      have hp : ps (f' + 1) (i + n) (b.drop n) = (i + n, (b.drop n).take (min (b.length - n) (32 - (i + n) % 32))) :: ps f' (i + (n + min (b.length - n) (32 - (i + n) % 32))) (b.drop (n + min (b.length - n) (32 - (i + n) % 32))) := by
        conv => lhs; unfold ps
        rw [if_neg (by rw [List.length_drop]; omega), List.length_drop, List.drop_drop, Nat.add_assoc]
      have h32 : 1 ≤ 32 - (i + n) % 32 := by omega
      obtain ⟨h1, h2⟩ := crash_pos h K f' (n + min (b.length - n) (32 - (i + n) % 32)) (by omega) (by omega)
      rw [he, hp]
      refine ⟨?_, ?_⟩
      · rw [List.take_succ_cons]
        show ap _ (wb (wb C i (b.take n)) (i + n) ((b.drop n).take _)) = _
        rw [wb_next h (by omega)]
        exact h1
      · rw [List.getElem?_cons_succ]
        exact h2
    · have hnb : n = b.length := by omega
      have he : advs i b.length (K + 1) n = n := by
        show (if n < b.length then _ else _) = _
        rw [if_neg hlt]
      have : b.drop n = [] := List.drop_eq_nil_of_le (by omega)
      rw [this]
      have : ps f (i + n) [] = [] := List.length_eq_zero_iff.1 (by have := ps_len f (i + n) []; simpa using this)
      rw [this, he, if_neg hlt]
      exact ⟨rfl, rfl⟩

theorem cellsI_bytes (id : Nat) (l : List UInt8) : cellsI id (l.map byteAV) = true := by
  induction l with
  | nil => rfl
  | cons x l ih => rw [List.map_cons]; simp only [cellsI, byteAV, AV.keepI, AV.pure, ih]
theorem flatL_bytes (l : List UInt8) : flatL (l.map byteAV) = true := by
  induction l with
  | nil => rfl
  | cons x l ih => rw [List.map_cons]; simp only [flatL, byteAV, AV.flat, ih]
theorem blksI_dk (k : Dk) (W X : List UInt8) (hq : k.q = []) : blksI 9 (k.hp 0 (((8, ⟨W.map byteAV, []⟩) :: ((9, ⟨X.map byteAV, []⟩) :: Hp.none)) : List (Nat × Blk))) = true := by
  unfold Dk.hp hdk
  rw [hq]
  simp only [blksI, cellsI_bytes]
  simp [cellsI, AV.keepI, AV.pure, pureL, Hp.none, blksI]
  rfl

/-- the crash of one write -/
theorem crash_one {k : Dk} {C : List UInt8} {i : Nat} {b : List UInt8} (hC : C.length = k.n) (hi : i + b.length ≤ C.length) (hq : k.q = ps b.length i b) (hD : k.D = C) (K t : Nat) :
    k.crD K t = wb C i (b.take (min b.length (advs i b.length K 0 + min t (32 - (i + advs i b.length K 0) % 32)))) := by
  obtain ⟨h1, h2⟩ := crash_pos hi K b.length 0 (Nat.zero_le _) (by omega)
  rw [Nat.add_zero, List.drop_zero, List.take_zero, wb_nil] at h1
  rw [Nat.add_zero, List.drop_zero] at h2
  obtain ⟨N, hN⟩ : ∃ N, N = advs i b.length K 0 := ⟨_, rfl⟩
  rw [← hN] at h1 h2 ⊢
  have hNle : N ≤ b.length := by rw [hN]; exact (advs_le i b.length K 0 (Nat.zero_le _)).2
  have hcl : (clampI (K : Int) k.q.length).toNat = min K k.q.length := by unfold clampI; split <;> (try split) <;> omega
  have htk : k.q.take (min K k.q.length) = k.q.take K := by
    rw [← List.take_take]
    exact congrArg (List.take K) (List.take_length)
  have hget : k.q[min K k.q.length]? = k.q[K]? := by
    rcases Nat.lt_or_ge K k.q.length with hlt | hge
    · rw [Nat.min_eq_left (by omega)]
    · rw [Nat.min_eq_right hge, List.getElem?_eq_none (Nat.le_refl _), List.getElem?_eq_none hge]
  unfold Dk.crD
  rw [hcl, htk, hget, hD]
  rw [← hq] at h1 h2
  rw [h1, h2]
  split
  · rename_i e he
    split at he
    · rename_i hlt
      injection he with he
      subst he
      have hl : ((b.drop N).take (min (b.length - N) (32 - (i + N) % 32))).length = min (b.length - N) (32 - (i + N) % 32) := by
        rw [List.length_take, List.length_drop]; omega
      have hct : (clampI (t : Int) (((b.drop N).take (min (b.length - N) (32 - (i + N) % 32))).length : Int)).toNat = min t (min (b.length - N) (32 - (i + N) % 32)) := by
        rw [hl]; unfold clampI; split <;> (try split) <;> omega
      simp only [hct]
      rw [List.take_take, Nat.min_assoc, Nat.min_self, wb_next hi (by omega)]
      congr 2
      omega
    · cases he
  · rename_i he
    split at he
    · cases he
    · have hNb : N = b.length := by omega
      rw [hNb]
      congr 2
      omega

attribute [local irreducible] midRun goTo bodyOf mkS run

/-- the law's own loop -/
theorem l4 (cal : Oracle) (W B : List UInt8) (k : Dk) (i t K : Nat) (hi : i < 120) (hB : B.length ≤ 120) (hK : K < 6) (out : Out) : ∀ (r c n : Nat), c + r = K → n ≤ B.length →
    (∀ c' : Int, Ev cal 4 (goTo [0, 5, 0, 5, 0, 0, 5, 7, 5, 0, 5, 0, 5, 0, 5, 0, 5, 0, 0, 5, 7, 5, 0, 5, 0, 5, 0, 5, 0, 5, 0, 0, 5, 2, 3, 0, 0, 5, 7, 5, 5, 5, 5] (bodyOf 4)) (mkS 103 [(1, .val (.vs 1 false (B.map byteAV)) .no), (2, .val (.int .i64 (i : Int)) .no), (3, .val (.int .i64 (K : Int)) .no), (4, .val (.int .i64 (t : Int)) .no), (11, .val (.ptr 0 0) .no), (12, .val (.arr 8 0 256 1) .no), (13, .val (.int .i64 (advs i B.length r n : Int)) .no), (14, .val (.int .i64 c') .no), (60, .val (.bool false) .no)] [] (k.hp 0 ((8, ⟨W.map byteAV, []⟩) :: Hp.none)) 9) out) →
    Ev cal 4 (goTo [0, 5, 0, 5, 0, 0, 5, 7, 5, 0, 5, 0, 5, 0, 5, 0, 5, 0, 0, 5, 7, 5, 0, 5, 0, 5, 0, 5, 0, 5, 0, 0, 5, 2, 3] (bodyOf 4)) (mkS 103 [(1, .val (.vs 1 false (B.map byteAV)) .no), (2, .val (.int .i64 (i : Int)) .no), (3, .val (.int .i64 (K : Int)) .no), (4, .val (.int .i64 (t : Int)) .no), (11, .val (.ptr 0 0) .no), (12, .val (.arr 8 0 256 1) .no), (13, .val (.int .i64 (n : Int)) .no), (14, .val (.int .i64 (c : Int)) .no)] [] (k.hp 0 ((8, ⟨W.map byteAV, []⟩) :: Hp.none)) 9) out := by
  intro r
  induction r with
  | zero =>
    intro c n hc hn hex
    refine Ev.stage 11 (fun n' => w4_10 cal n') ?_
    exact EvF.bdf (by omega) ((hex c).at 6)
  | succ r ih =>
    intro c n hc hn hex
    refine Ev.stage 11 (fun n' => w4_10 cal n') ?_
    refine EvF.bdt (by omega) ?_
    rw [List.length_map]
    by_cases hlt : n < B.length
    · have he : advs i B.length (r + 1) n = advs i B.length r (adv i B.length n) := by
        show (if n < B.length then _ else _) = _
        rw [if_pos hlt]
      have e0 : IntKind.wrap IntKind.i64 ((i : Int) + (n : Int)) = ((i + n : Nat) : Int) := by rw [wrap64 (by omega) (by omega)]; omega
      have e1 : Int.tmod ((i + n : Nat) : Int) 32 = (((i + n) % 32 : Nat) : Int) := by rw [Int.tmod_eq_emod_of_nonneg (by omega)]; omega
      have e2 : IntKind.wrap IntKind.i64 ((n : Int) + 32) = ((n + 32 : Nat) : Int) := by rw [wrap64 (by omega) (by omega)]; omega
      have e3 : IntKind.wrap IntKind.i64 (((n + 32 : Nat) : Int) - (((i + n) % 32 : Nat) : Int)) = ((n + 32 - (i + n) % 32 : Nat) : Int) := by rw [wrap64 (by omega) (by omega)]; omega
      have e4 : (if ((n + 32 - (i + n) % 32 : Nat) : Int) < ((B.length : Nat) : Int) then ((n + 32 - (i + n) % 32 : Nat) : Int) else ((B.length : Nat) : Int)) = (adv i B.length n : Int) := by
        unfold adv; split <;> omega
      rw [e0, e1, e2, e3, e4, wrap64 (x := (c : Int) + 1) (by omega) (by omega), show (c : Int) + 1 = ((c + 1 : Nat) : Int) by omega]
      rw [he] at hex
      exact EvF.bdt (by omega) ((ih (c + 1) (adv i B.length n) (by omega) (by unfold adv; omega) hex).at 0)
    · have he : advs i B.length (r + 1) n = n := by
        show (if n < B.length then _ else _) = _
        rw [if_neg hlt]
      rw [he] at hex
      exact EvF.bdf (by omega) ((hex c).at 6)

theorem c4 (old : List UInt8) (to : Bool) (_ : old.length ≤ 140737488351232) (b : List UInt8) (tb : Bool) (_ : b.length ≤ 140737488351232) (x : Int) (_ : -9223372036854775808 ≤ x ∧ x ≤ 9223372036854775807)
    (keep : Int) (_ : -9223372036854775808 ≤ keep ∧ keep ≤ 9223372036854775807) (tn : Int) (_ : -9223372036854775808 ≤ tn ∧ tn ≤ 9223372036854775807) :
    ∃ d H nx, CW d 4 [.vs 1 to (old.map byteAV), .vs 1 tb (b.map byteAV), .int .i64 x, .int .i64 keep, .int .i64 tn] Hp.none 0 = some ⟨.bool true, H, nx⟩ := by
  obtain ⟨o, ho, haw⟩ := cw_awake 3
  have hm : maxBytes = 140737488355328 := rfl
  have i0 := idx_0 x (m := 120) (by omega)
  have i1 := idx_lt x (m := 120) (by omega)
  have k0 := idx_0 keep (m := 6) (by omega)
  have k1 := idx_lt keep (m := 6) (by omega)
  have t0 := idx_0 tn (m := 40) (by omega)
  have t1 := idx_lt tn (m := 40) (by omega)
  obtain ⟨i, hi⟩ := Int.eq_ofNat_of_zero_le i0
  obtain ⟨K, hK⟩ := Int.eq_ofNat_of_zero_le k0
  obtain ⟨t, ht⟩ := Int.eq_ofNat_of_zero_le t0
  have hB : (b.take 120).length ≤ 120 := by rw [List.length_take]; omega
  have hn17 := n17 2 Hp.none 0 b tb 120
  generalize hB' : b.take 120 = B at hB hn17
  have h11 : CW 3 11 [.int .i64 8] Hp.none 0 = some ⟨.ptr 0 0, (dk0 256).hp 0 Hp.none, 8⟩ := s0_11 2 8
  have ok0 : (dk0 256).Ok := dk0_ok (by omega)
  have hz : (List.replicate 256 (0 : UInt8)).length = 256 := List.length_replicate
  -- what is written first
  obtain ⟨W, hWe⟩ : ∃ W, W = wb (List.replicate 256 0) 0 (old.take (min old.length 256)) := ⟨_, rfl⟩
  have hW : W.length = 256 := by rw [hWe, wb_length (by rw [List.length_take, hz]; omega)]; exact hz
  have eW : patch (replC [.int .u8 0] 256) 0 (List.flatMap AV.cells (List.take (Nat.min (List.length (old.map byteAV)) 256) (old.map byteAV))) = W.map byteAV := by
    rw [replC_zero, List.length_map, hWe, ← List.map_take, flat_bytes', patch_go _ _ _ (by rw [hz]; omega)]
  have hWW : wb (dk0 256).C 0 W = W := by
    unfold wb
    rw [List.take_zero, List.nil_append, List.drop_of_length_le (by show (List.replicate 256 (0 : UInt8)).length ≤ _; omega), List.append_nil]
  have hc0 : (dk0 256).C.length = 256 := hz
  have hW0 : (W.drop 0).take 256 = W := by rw [List.drop_zero]; exact List.take_of_length_le (by omega)
  have hw1 := wrF_all 256 (dk0 256) 0 W (by omega) (by omega) (fun h => by cases h)
  obtain ⟨ok1, hn1, hD1, _⟩ := wrF_inv 256 (dk0 256) 0 W ok0 (by show _ ≤ 256; omega) (by show 0 + _ ≤ _; omega)
  have e1 : (wrF 256 (dk0 256) 0 W).2 = 0 := by rw [hw1]
  have hC1 : (wrF 256 (dk0 256) 0 W).1.C = W := by rw [hw1]; exact hWW
  have hq1 : (wrF 256 (dk0 256) 0 W).1.q = ps 256 0 W := by rw [hw1]; rfl
  have hdn1 : (wrF 256 (dk0 256) 0 W).1.dn = false := by rw [hw1]; rfl
  have har1 : (wrF 256 (dk0 256) 0 W).1.ar = false := by rw [hw1]; rfl
  have s1 : CW 3 19 [.ptr 0 0, .int .i64 0, .arr 8 0 256 1] ((dk0 256).hp 0 ((8, ⟨W.map byteAV, []⟩) :: Hp.none)) 9 = some ⟨.int .i64 (wrF 256 (dk0 256) 0 W).2, (wrF 256 (dk0 256) 0 W).1.hp 0 ((8, ⟨W.map byteAV, []⟩) :: Hp.none), 9⟩ := by
    have := sa0_19 1 Hp.none 9 W (dk0 256) ok0 0 0 256 (by omega) rfl (by show _ ≤ 256; omega) (by show 0 + _ ≤ _; omega)
    rw [hW0] at this
    exact this
  rw [e1] at s1
  generalize (wrF 256 (dk0 256) 0 W).1 = k1 at s1 ok1 hn1 hD1 hC1 hq1 hdn1 har1
  -- synced
  have s2 := s0_20 1 ((8, ⟨W.map byteAV, []⟩) :: Hp.none) 9 k1 ok1 hdn1
  have ok2 := ok1.sync
  have hD2 : k1.sync.D = W := by
    show ap k1.q k1.D = W
    rw [hq1, hD1, ap_ps _ _ _ _ (by omega) (by have : (dk0 256).D.length = 256 := hz; omega)]
    exact hWW
  have hC2 : k1.sync.C = W := hC1
  have hn2 : k1.sync.n = 256 := hn1
  have hdn2 : k1.sync.dn = false := hdn1
  have har2 : k1.sync.ar = false := har1
  have hq2 : k1.sync.q = [] := rfl
  generalize k1.sync = k2 at s2 ok2 hD2 hC2 hn2 hdn2 har2 hq2
  -- the write that is torn
  have hw3 := wrF_all B.length k2 i B (Nat.le_refl _) (by rw [hC2]; omega) (fun h => by rw [har2] at h; cases h)
  obtain ⟨ok3, hn3, hD3, _⟩ := wrF_inv B.length k2 i B ok2 (by omega) (by rw [hq2]; show 0 + _ ≤ _; omega)
  have e3 : (wrF B.length k2 i B).2 = 0 := by rw [hw3]
  have hq3 : (wrF B.length k2 i B).1.q = ps B.length i B := by rw [hw3, hq2]; rfl
  have s3 := s0_19 1 ((8, ⟨W.map byteAV, []⟩) :: Hp.none) 9 k2 ok2 false i B hdn2 (by omega) (by rw [hq2]; show 0 + _ ≤ _; omega)
  rw [e3] at s3
  generalize (wrF B.length k2 i B).1 = k3 at s3 ok3 hn3 hD3 hq3
  -- the crash
  have s4 := s0_21 2 ((8, ⟨W.map byteAV, []⟩) :: Hp.none) 9 k3 ok3 (K : Int) (t : Int)
  have ok4 := ok3.crash (K : Int) (t : Int)
  obtain ⟨N, hN⟩ : ∃ N, N = advs i B.length K 0 := ⟨_, rfl⟩
  have hNle : N ≤ B.length := by rw [hN]; exact (advs_le i B.length K 0 (Nat.zero_le _)).2
  obtain ⟨M, hM⟩ : ∃ M, M = min B.length (N + min t (32 - (i + N) % 32)) := ⟨_, rfl⟩
  have hcr : (k3.crash (K : Int) (t : Int)).C = wb W i (B.take M) := by
    rw [hM, hN]
    exact crash_one (C := W) (by omega) (by omega) hq3 (hD3.trans hD2) K t
  have hX : (wb W i (B.take M)).length = 256 := by rw [wb_length (by rw [List.length_take]; omega)]; exact hW
  have s5 := s0_22 0 ((8, ⟨W.map byteAV, []⟩) :: Hp.none) 10 (k3.crash (K : Int) (t : Int)) ok4 8 (by show k3.n = 256; omega) rfl
  rw [hcr] at s5
  have hbl := blksI_dk (k3.crash (K : Int) (t : Int)) W (wb W i (B.take M)) rfl
  generalize k3.crash (K : Int) (t : Int) = k4 at s4 s5 hbl
  refine ⟨4, ?_⟩
  apply Exists.intro
  apply Exists.intro
  refine cw rfl (Ev.stage 4 (fun n => w4_0 _ n (l_1 := old.map byteAV) (tg_2 := to) (l_3 := b.map byteAV) (tg_4 := tb) (x_5 := x) (x_6 := keep) (x_7 := tn)) ?_) (fun n => by kernel_rfl)
  refine EvF.call h11 (EvF.mid 11 (fun n => w4_1 _ n) ?_ 0)
  rw [eW]
  refine EvF.brt (ble_t (by rw [replC_zero, List.length_map, hz]; omega)) (EvF.pcall (pureL_vs (pure_bytes _) rfl) hn17 (pure_bytes _) (EvF.mid 2 (fun n => w4_2 _ n) ?_ 0))
  refine EvF.pcall rfl (n18 2 _ _ x 120 (by omega) (by omega)) rfl ?_
  rw [hi]
  refine EvF.mid 3 (fun n => w4_3 _ n) ?_ 0
  refine EvF.call s1 (EvF.mid 4 (fun n => w4_4 _ n) ?_ 0)
  refine EvF.bnf rfl (EvF.call s2 (EvF.mid 4 (fun n => w4_5 _ n) ?_ 4))
  refine EvF.bnf rfl (EvF.call s3 (EvF.mid 4 (fun n => w4_6 _ n) ?_ 4))
  refine EvF.bnf rfl (EvF.pcall rfl (n18 2 _ _ keep 6 (by omega) (by omega)) rfl ?_)
  rw [hK]
  refine EvF.mid 2 (fun n => w4_7 _ n) ?_ 0
  refine EvF.pcall rfl (n18 2 _ _ tn 40 (by omega) (by omega)) rfl ?_
  rw [ht]
  refine EvF.mid 2 (fun n => w4_8 _ n) ?_ 0
  refine EvF.call s4 (EvF.mid 7 (fun n => w4_9 _ n) ?_ 0)
  refine (l4 _ W B k4 i t K (by omega) hB (by omega) _ K 0 0 (by omega) (Nat.zero_le _) fun c' => ?_).at 0
  rw [← hN]
  have eWt : List.take 256 (List.drop 0 (W.map byteAV)) = W.map byteAV := by rw [List.drop_zero]; exact List.take_of_length_le (by rw [List.length_map]; omega)
  refine Ev.stage 4 (fun n => w4_11 _ n) ?_
  rw [eWt, List.length_map, hW, flat_bytes']
  have f0 : IntKind.wrap IntKind.i64 ((i : Int) + (N : Int)) = ((i + N : Nat) : Int) := by rw [wrap64 (by omega) (by omega)]; omega
  have f1 : Int.tmod ((i + N : Nat) : Int) 32 = (((i + N) % 32 : Nat) : Int) := by rw [Int.tmod_eq_emod_of_nonneg (by omega)]; omega
  have f2 : IntKind.wrap IntKind.i64 (32 - (((i + N) % 32 : Nat) : Int)) = ((32 - (i + N) % 32 : Nat) : Int) := by rw [wrap64 (by omega) (by omega)]; omega
  have f3 : (if ((32 - (i + N) % 32 : Nat) : Int) < (t : Int) then ((32 - (i + N) % 32 : Nat) : Int) else (t : Int)) = ((min t (32 - (i + N) % 32) : Nat) : Int) := by split <;> omega
  have f4 : IntKind.wrap IntKind.i64 ((N : Int) + ((min t (32 - (i + N) % 32) : Nat) : Int)) = ((N + min t (32 - (i + N) % 32) : Nat) : Int) := by rw [wrap64 (by omega) (by omega)]; omega
  have f5 : (if ((N + min t (32 - (i + N) % 32) : Nat) : Int) < ((List.length (B.map byteAV) : Nat) : Int) then ((N + min t (32 - (i + N) % 32) : Nat) : Int) else ((List.length (B.map byteAV) : Nat) : Int)) = (M : Int) := by
    rw [List.length_map, hM]; split <;> omega
  rw [f0, f1, f2, f3, f4, f5]
  refine EvF.brt rfl (EvF.brt (ble_t (by omega)) (EvF.brt (ble_t (by omega)) (EvF.brf rfl (EvF.mid 4 (fun n => w4_12 _ n) ?_ 0))))
  rw [Int.toNat_natCast, Int.toNat_natCast, List.drop_zero, ← List.map_take, List.length_map, show Nat.min (List.length ((B.take M).map byteAV)) (256 - i) = (B.take M).length from by rw [List.length_map]; exact Nat.min_eq_left (by rw [List.length_take]; omega), patch_wb (by omega), List.take_length, List.drop_zero]
  have eX : List.take 256 ((wb W i (B.take M)).map byteAV) = (wb W i (B.take M)).map byteAV := List.take_of_length_le (by rw [List.length_map]; omega)
  rw [eX]
  refine EvF.bdt (by omega) (EvF.bdt (by omega) (EvF.brt (blt_t (by omega)) (EvF.bdt (by omega) (EvF.bdt (by omega) (EvF.brt (ble_t (by rw [List.length_map]; omega)) (EvF.brt ?_ ?_))))))
  · rw [Bool.and_eq_true, Bool.and_eq_true, Bool.and_eq_true]
    exact ⟨rfl, ble_t (by rw [List.length_map]; omega), flatL_bytes _, hbl⟩
  refine EvF.call s5 (EvF.mid 1 (fun n => w4_13 _ n) ?_ 0)
  refine EvF.bnd (bytesOf_map _) (EvF.brt (eqS_refl _) (EvF.brt rfl (EvF.call haw (EvF.brt (by rw [ho]; rfl) (EvF.brt (by rw [ho]; rfl) ?_)))))
  rw [ho]
  exact EvF.mid 1 (fun n => w4_15 _ n) EvF.ret 1

end Go.Proofs.Ytjipknfohmgjaaa
