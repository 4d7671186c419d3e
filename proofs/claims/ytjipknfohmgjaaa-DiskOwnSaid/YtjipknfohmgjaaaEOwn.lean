/- DiskOwn: what the law computes is true. -/
import Derived.Test.YtjipknfohmgjaaaEWa1
import Derived.Test.YtjipknfohmgjaaaEStr
import Derived.Test.YtjipknfohmgjaaaEW5
namespace Go.Proofs.Ytjipknfohmgjaaa
open Go Go.Vai

attribute [local irreducible] midRun goTo bodyOf mkS run

theorem sr1_13 (d : Nat) (W : List AV) (k : Dk) (ok : k.Ok) (o m : Nat) (hm1 : 1 ≤ m) (hdn : k.dn = false) (h : o + m ≤ k.n) : CW (d + 2) 13 [.ptr 1 0, .int .i64 (o : Int), .int .i64 (m : Int)] (pre1 W (k.hp 1 Hp.none)) 9 =
    some ⟨.tuple [.arr 9 0 m 1, .int .i64 0], pre1 W (k.hp 1 ((9, ⟨((k.C.drop o).take m).map byteAV, []⟩) :: Hp.none)), 10⟩ := by
  have hn := ok.n
  have hc := ok.c
  have hm : maxBytes = 140737488355328 := rfl
  refine cw rfl (Ev.stage 5 (fun n => read1_13_0 _ n W (o : Int) (m : Int) k.n k.tg (k.q.map qAV) k.ar k.lf k.dn (k.D.map byteAV) (k.C.map byteAV)) ?_) (fun n => by kernel_rfl)
  refine EvF.call (s1_28 d W Hp.none 9 k ok o m) ?_
  rw [chk_ok hdn h]
  refine EvF.mid 6 (fun n => read1_13_1 _ n W (o : Int) (m : Int) k.n k.tg (k.q.map qAV) k.ar k.lf k.dn (k.D.map byteAV) (k.C.map byteAV) 0) ?_ 0
  refine EvF.bnf rfl ?_
  have hl : List.length (((k.C.drop o).take m).map byteAV) = m := by rw [List.length_map, List.length_take, List.length_drop]; omega
  have e1 : IntKind.wrap IntKind.i64 ((o : Int) + (m : Int)) = ((o + m : Nat) : Int) := by rw [wrap64 (by omega) (by omega)]; omega
  rw [e1]
  simp only [Int.toNat_natCast]
  rw [show o + m - o = m by omega, show 0 + o * 1 = o by omega, ← List.map_drop, ← List.map_take, hl]
  refine EvF.bdt (by omega) (EvF.bdt (by omega) (EvF.bdt (by omega) (EvF.bdt (by omega) (EvF.brt (blt_t (by omega)) (EvF.brt (ble_t (by rw [List.length_map]; omega)) (EvF.brt (ble_t (by omega)) (EvF.brt (ble_t (by omega)) ?_)))))))
  refine EvF.brf (by cases hb : Nat.beq m 0 with
    | false => rfl
    | true => have := Nat.eq_of_beq_eq_true hb; omega) ?_
  rw [flat_bytes']
  have := EvF.mid (cal := CW (d + 1)) 1 (fun n => read1_13_2 _ n W (o : Int) (m : Int) k.n k.tg (k.q.map qAV) k.ar k.lf k.dn (k.D.map byteAV) (k.C.map byteAV) 0) EvF.ret 0
  rw [e1] at this
  simp only [Int.toNat_natCast] at this
  rw [show o + m - o = m by omega, show 0 + o * 1 = o by omega, ← List.map_drop, ← List.map_take, hl, flat_bytes'] at this
  exact this

theorem sr2_13 (d : Nat) (W l : List AV) (k : Dk) (ok : k.Ok) (o m : Nat) (hm1 : 1 ≤ m) (hdn : k.dn = false) (h : o + m ≤ k.n) : CW (d + 2) 13 [.ptr 1 0, .int .i64 (o : Int), .int .i64 (m : Int)] (pre1 W (k.hp 1 ((9, ⟨l, []⟩) :: Hp.none))) 10 =
    some ⟨.tuple [.arr 10 0 m 1, .int .i64 0], pre1 W (k.hp 1 ((9, ⟨l, []⟩) :: (10, ⟨((k.C.drop o).take m).map byteAV, []⟩) :: Hp.none)), 11⟩ := by
  have hn := ok.n
  have hc := ok.c
  have hm : maxBytes = 140737488355328 := rfl
  refine cw rfl (Ev.stage 5 (fun n => read2_13_0 _ n W (o : Int) (m : Int) k.n k.tg (k.q.map qAV) k.ar k.lf k.dn (k.D.map byteAV) (k.C.map byteAV) l) ?_) (fun n => by kernel_rfl)
  refine EvF.call (s1_28 d W ((9, ⟨l, []⟩) :: Hp.none) 10 k ok o m) ?_
  rw [chk_ok hdn h]
  refine EvF.mid 6 (fun n => read2_13_1 _ n W (o : Int) (m : Int) k.n k.tg (k.q.map qAV) k.ar k.lf k.dn (k.D.map byteAV) (k.C.map byteAV) l 0) ?_ 0
  refine EvF.bnf rfl ?_
  have hl : List.length (((k.C.drop o).take m).map byteAV) = m := by rw [List.length_map, List.length_take, List.length_drop]; omega
  have e1 : IntKind.wrap IntKind.i64 ((o : Int) + (m : Int)) = ((o + m : Nat) : Int) := by rw [wrap64 (by omega) (by omega)]; omega
  rw [e1]
  simp only [Int.toNat_natCast]
  rw [show o + m - o = m by omega, show 0 + o * 1 = o by omega, ← List.map_drop, ← List.map_take, hl]
  refine EvF.bdt (by omega) (EvF.bdt (by omega) (EvF.bdt (by omega) (EvF.bdt (by omega) (EvF.brt (blt_t (by omega)) (EvF.brt (ble_t (by rw [List.length_map]; omega)) (EvF.brt (ble_t (by omega)) (EvF.brt (ble_t (by omega)) ?_)))))))
  refine EvF.brf (by cases hb : Nat.beq m 0 with
    | false => rfl
    | true => have := Nat.eq_of_beq_eq_true hb; omega) ?_
  rw [flat_bytes']
  have := EvF.mid (cal := CW (d + 1)) 1 (fun n => read2_13_2 _ n W (o : Int) (m : Int) k.n k.tg (k.q.map qAV) k.ar k.lf k.dn (k.D.map byteAV) (k.C.map byteAV) l 0) EvF.ret 0
  rw [e1] at this
  simp only [Int.toNat_natCast] at this
  rw [show o + m - o = m by omega, show 0 + o * 1 = o by omega, ← List.map_drop, ← List.map_take, hl, flat_bytes'] at this
  exact this

theorem flatL_bytes (l : List UInt8) : flatL (l.map byteAV) = true := by
  induction l with
  | nil => rfl
  | cons x l ih => rw [List.map_cons]; simp only [flatL, byteAV, AV.flat, ih]

theorem c5 (b : List UInt8) (tb : Bool) (_ : b.length ≤ 140737488351232) (x : Int) (_ : -9223372036854775808 ≤ x ∧ x ≤ 9223372036854775807) (y : Int) (_ : 0 ≤ y ∧ y ≤ 255) :
    ∃ d H nx, CW d 5 [.vs 1 tb (b.map byteAV), .int .i64 x, .int .u8 y] Hp.none 0 = some ⟨.bool true, H, nx⟩ := by
  obtain ⟨o, ho, haw⟩ := cw_awake 2
  have hm : maxBytes = 140737488355328 := rfl
  have i0 := idx_0 x (m := 60) (by omega)
  have i1 := idx_lt x (m := 60) (by omega)
  obtain ⟨i, hi⟩ := Int.eq_ofNat_of_zero_le i0
  have hF : (b.take 60).length ≤ 60 := by rw [List.length_take]; omega
  have hn17 := n17 1 Hp.none 0 b tb 60
  generalize hF' : b.take 60 = F at hF hn17
  obtain ⟨W, hWe⟩ : ∃ W, W = F ++ [7] := ⟨_, rfl⟩
  have hWl : W.length = F.length + 1 := by rw [hWe]; simp
  have eW : ([] ++ F.map byteAV) ++ [.int .u8 7] = W.map byteAV := by rw [hWe, List.nil_append, List.map_append]; rfl
  obtain ⟨w0, W', hWc⟩ : ∃ w0 W', W = w0 :: W' := by
    cases W with
    | nil => simp at hWl
    | cons w0 W' => exact ⟨w0, W', rfl⟩
  obtain ⟨L, hL⟩ : ∃ L, L = W.length := ⟨_, rfl⟩
  have h11 : CW 2 11 [.int .i64 4] (pre1 (W.map byteAV) Hp.none) 1 = some ⟨.ptr 1 0, pre1 (W.map byteAV) ((dk0 128).hp 1 Hp.none), 9⟩ := s1_11 1 (W.map byteAV) 4
  have ok0 : (dk0 128).Ok := dk0_ok (by omega)
  have hz : (dk0 128).C.length = 128 := ok0.c
  have hW0 : (W.drop 0).take L = W := by rw [List.drop_zero]; exact List.take_of_length_le (by omega)
  have hw1 := wrF_all L (dk0 128) i W (by omega) (by omega) (fun h => by cases h)
  obtain ⟨ok1, hn1, _, _⟩ := wrF_inv L (dk0 128) i W ok0 (by show _ ≤ 128; omega) (by show 0 + _ ≤ _; omega)
  have e1 : (wrF L (dk0 128) i W).2 = 0 := by rw [hw1]
  have hC1 : (wrF L (dk0 128) i W).1.C = wb (dk0 128).C i W := by rw [hw1]
  have hdn1 : (wrF L (dk0 128) i W).1.dn = false := by rw [hw1]; rfl
  have s1 := sa1_19 0 Hp.none 9 W (dk0 128) ok0 i 0 L (by omega) rfl (by show _ ≤ 128; omega) (by show 0 + _ ≤ _; omega)
  rw [hW0, e1] at s1
  generalize (wrF L (dk0 128) i W).1 = k1 at s1 ok1 hn1 hC1 hdn1
  have hn1' : k1.n = 128 := hn1
  have hread : (k1.C.drop i).take L = W := by rw [hC1, hL]; exact wb_read (by omega)
  have s2 := sr1_13 0 (patch (W.map byteAV) 0 [.int .u8 (IntKind.wrap IntKind.u8 ((w0.toNat : Int) + 1))]) k1 ok1 i L (by omega) hdn1 (by omega)
  rw [hread] at s2
  obtain ⟨V, hV⟩ : ∃ V, V = patch (W.map byteAV) 0 [.int .u8 (IntKind.wrap IntKind.u8 ((IntKind.wrap IntKind.u8 ((w0.toNat : Int) + y)) + 1))] := ⟨_, rfl⟩
  have s3 := s1_20 0 (patch (W.map byteAV) 0 [.int .u8 (IntKind.wrap IntKind.u8 ((w0.toNat : Int) + 1))]) ((9, ⟨V, []⟩) :: Hp.none) 10 k1 ok1 hdn1
  have s4 := sr2_13 0 (patch (W.map byteAV) 0 [.int .u8 (IntKind.wrap IntKind.u8 ((w0.toNat : Int) + 1))]) V k1.sync ok1.sync i L (by omega) hdn1 (by show _ ≤ k1.n; omega)
  have hread2 : (k1.sync.C.drop i).take L = W := hread
  rw [hread2] at s4
  have hnth : nth (W.map byteAV) 0 = some (.int .u8 (w0.toNat : Int)) := by rw [hWc]; rfl
  have htake : List.take L (List.drop 0 (W.map byteAV)) = W.map byteAV := by rw [List.drop_zero]; exact List.take_of_length_le (by rw [List.length_map]; omega)
  refine ⟨3, ?_⟩
  apply Exists.intro
  apply Exists.intro
  refine cw rfl (Ev.stage 4 (fun n => w5_0 _ n (l_1 := b.map byteAV) (tg_2 := tb) (x_3 := x) (x_4 := y)) ?_) (fun n => by kernel_rfl)
  refine EvF.pcall (pureL_vs (pure_bytes _) rfl) hn17 (pure_bytes _) (EvF.mid 2 (fun n => w5_1 _ n) ?_ 0)
  have lW : (W.map byteAV).length = L := by rw [List.length_map]; exact hL.symm
  rw [eW, List.length_map, List.nil_append, List.length_map, lW]
  refine EvF.brt (ble_t (by omega)) (EvF.brt (ble_t (by omega)) (EvF.brt (ble_t (by omega)) (EvF.brt (ble_t (by omega)) (EvF.brt ?_ ?_))))
  · rw [Bool.and_eq_true]
    exact ⟨flatL_bytes _, blt_t (by omega)⟩
  refine EvF.call h11 (EvF.mid 2 (fun n => w5_2 _ n) ?_ 0)
  refine EvF.pcall rfl (n18 1 _ _ x 60 (by omega) (by omega)) rfl ?_
  rw [hi]
  refine EvF.mid 3 (fun n => w5_3 _ n) ?_ 0
  refine EvF.call s1 (EvF.mid 6 (fun n => w5_4 _ n) ?_ 0)
  rw [htake, hnth]
  refine EvF.bnf rfl (EvF.brt (ble_t (by rw [List.length_map]; omega)) (EvF.bnd (bytesOf_map _) (EvF.bdt (by omega) (EvF.bnd (v := .int .u8 (w0.toNat : Int)) rfl ?_))))
  refine EvF.mid 2 (fun n => w5_5 _ n) ?_ 0
  rw [← hL]
  refine EvF.bdt (by omega) (EvF.brt (ble_t (by rw [List.length_map]; omega)) (EvF.call s2 (EvF.mid 7 (fun n => w5_6 _ n) ?_ 0)))
  rw [htake, hnth]
  refine EvF.bnf rfl (EvF.brt (ble_t (by rw [List.length_map]; omega)) (EvF.bnd (bytesOf_map _) (EvF.brf (by rw [eqS_refl]; rfl) (EvF.bdt (by omega) (EvF.bnd (v := .int .u8 (w0.toNat : Int)) rfl ?_)))))
  refine EvF.mid 3 (fun n => w5_7 _ n) ?_ 0
  rw [← hV]
  refine EvF.bdt (by omega) (EvF.brt (ble_t (by rw [List.length_map]; omega)) (EvF.call s3 (EvF.mid 4 (fun n => w5_8 _ n) ?_ 0)))
  rw [← hL]
  refine EvF.bnf rfl (EvF.call s4 (EvF.mid 3 (fun n => w5_9 _ n) ?_ 0))
  rw [htake]
  refine EvF.bdt rfl (EvF.brt (ble_t (by rw [List.length_map]; omega)) (EvF.bnd (bytesOf_map _) (EvF.brt (eqS_refl _) (EvF.pcall rfl haw (by rw [ho]; rfl) ?_))))
  rw [ho]
  exact EvF.mid 1 (fun n => w5_10 _ n) EvF.ret 1

end Go.Proofs.Ytjipknfohmgjaaa
