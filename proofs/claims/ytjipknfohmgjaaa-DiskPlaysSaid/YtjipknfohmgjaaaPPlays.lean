/- DiskPlays: what the law computes is true. -/
import Derived.Test.YtjipknfohmgjaaaPPerf
import Derived.Test.YtjipknfohmgjaaaPW7
namespace Go.Proofs.Ytjipknfohmgjaaa
open Go Go.Vai

attribute [local irreducible] midRun goTo bodyOf run

theorem pure_q (q : Q) : pureL (q.map qAV) = true := by
  induction q with
  | nil => rfl
  | cons e q ih =>
    rw [List.map_cons, pureL_cons, ih, Bool.and_true]
    show pureL [.int .i64 (e.1 : Int), .vs 1 false (e.2.map byteAV)] = true
    exact pureL_int (pureL_vs (pure_bytes _) rfl)
theorem cells_bytes (l : List UInt8) : cellsN (l.map byteAV) = true := by
  induction l with
  | nil => rfl
  | cons x l ih => exact ih
theorem ren_bytes (π : List (Nat × Nat)) (l : List UInt8) : (l.map byteAV).map (renV π) = l.map byteAV := by
  rw [List.map_map]
  exact List.map_congr_left fun x _ => rfl
def slotN (s : Slot) : Bool := match s with
  | .val v _ => v.okN
  | _ => true
theorem slots_mkL : ∀ (n i : Nat) (l : List (Nat × Slot)), (∀ p ∈ l, slotN p.2 = true) → slotsN (mkL l n i) = true
  | 0, i, l, _ => by cases l <;> rfl
  | n + 1, i, [], h => slots_mkL n (i + 1) [] h
  | n + 1, i, (t, s) :: l, h => by
    simp only [mkL]
    cases Nat.beq t i with
    | true =>
      have h1 : slotN s = true := h (t, s) (by simp)
      have h2 := slots_mkL n (i + 1) l fun p hp => h p (by simp [hp])
      simp only [slotsN]
      cases s with
      | val v f =>
        have h1' : v.okN = true := h1
        simp only [h1']
        exact h2
      | _ => exact h2
    | false => exact slots_mkL n (i + 1) ((t, s) :: l) h
theorem map_mkL (π : List (Nat × Nat)) : ∀ (n i : Nat) (l : List (Nat × Slot)), (mkL l n i).map (renS π) = mkL (l.map fun p => (p.1, renS π p.2)) n i
  | 0, i, l => by cases l <;> rfl
  | n + 1, i, [] => by
    show renS π .und :: (mkL [] n (i + 1)).map (renS π) = _
    rw [map_mkL π n (i + 1) []]
    rfl
  | n + 1, i, (t, s) :: l => by
    simp only [mkL, List.map_cons]
    cases Nat.beq t i with
    | true =>
      simp only [List.map_cons]
      rw [map_mkL π n (i + 1) l]
    | false =>
      simp only [List.map_cons]
      rw [map_mkL π n (i + 1) ((t, s) :: l)]
      rfl

def nst : List (Nat × Nat × Nat) := [(0, 0, 6), (1, 1, 0), (3, 1, 1), (8, 0, 7), (9, 9, 0)]
theorem beh_4 (S : St) (k : St → Option Out) : behind (getA ann 7) 4 S k = S.nrm 16 nst [(8, 1)] k := by kernel_rfl
theorem beh_10 (S : St) (k : St → Option Out) : behind (getA ann 7) 10 S k = S.nrm 16 nst [] k := by kernel_rfl
theorem beh_13 (S : St) (k : St → Option Out) : behind (getA ann 7) 13 S k = S.nrm 16 nst [] k := by kernel_rfl

def pim (m : Nat) : List (Nat × Nat) := [(m, 9), (8, 8), (3, 3), (1, 1), (0, 0)]
theorem nrmH_T (k : Dk) (m : Nat) (T : Hp) (hT : Tail k m T) (k0 : Hp → Option Out) : nrmH (pim m) (k.hp 0 (rr k m T)) (pim m) Hp.none k0 = k0 (k.hp 0 (rdk k Hp.none)) := by
  have c8 : ∀ m, cellsN [.arr m 0 k.n 1, .vs 2 k.tg (k.q.map qAV), .bool k.dn, .bool k.ar, .int .i64 k.lf] = true := fun m => by
    simp only [cellsN, AV.okN, AV.pure, pure_q]
  have c0 : cellsN [.arr 1 0 k.n 1, .arr 3 0 k.n 1, .vs 2 k.tg (k.q.map qAV), .bool k.ar, .int .i64 k.lf, .bool k.dn] = true := by
    simp only [cellsN, AV.okN, AV.pure, pure_q]
  rcases hT with ⟨rfl, rfl⟩ | ⟨rfl, V, rfl⟩ | ⟨rfl, V, rfl⟩
  · have e : nrmH (pim 9) (k.hp 0 (rr k 9 [(9, ⟨k.D.map byteAV, []⟩)])) (pim 9) Hp.none k0 = br (cellsN (k.D.map byteAV)) (br (cellsN [.arr 9 0 k.n 1, .vs 2 k.tg (k.q.map qAV), .bool k.dn, .bool k.ar, .int .i64 k.lf]) (br (cellsN (k.C.map byteAV)) (br (cellsN (k.D.map byteAV)) (br (cellsN [.arr 1 0 k.n 1, .arr 3 0 k.n 1, .vs 2 k.tg (k.q.map qAV), .bool k.ar, .int .i64 k.lf, .bool k.dn])
        (k0 (hdk 0 k.n k.tg (k.q.map qAV) k.ar k.lf k.dn ((k.D.map byteAV).map (renV (pim 9))) ((k.C.map byteAV).map (renV (pim 9))) (hrf k.n k.tg (k.q.map qAV) k.dn k.ar k.lf ((k.D.map byteAV).map (renV (pim 9))) Hp.none))) none) none) none) none) none := by kernel_rfl
    rw [e, br_t (cells_bytes _), br_t (c8 9), br_t (cells_bytes _), br_t (cells_bytes _), br_t c0, ren_bytes, ren_bytes]
    rfl
  · have e : nrmH (pim 9) (k.hp 0 (rr k 9 [(9, ⟨k.D.map byteAV, []⟩), (16, ⟨V, []⟩)])) (pim 9) Hp.none k0 = br (cellsN (k.D.map byteAV)) (br (cellsN [.arr 9 0 k.n 1, .vs 2 k.tg (k.q.map qAV), .bool k.dn, .bool k.ar, .int .i64 k.lf]) (br (cellsN (k.C.map byteAV)) (br (cellsN (k.D.map byteAV)) (br (cellsN [.arr 1 0 k.n 1, .arr 3 0 k.n 1, .vs 2 k.tg (k.q.map qAV), .bool k.ar, .int .i64 k.lf, .bool k.dn])
        (k0 (hdk 0 k.n k.tg (k.q.map qAV) k.ar k.lf k.dn ((k.D.map byteAV).map (renV (pim 9))) ((k.C.map byteAV).map (renV (pim 9))) (hrf k.n k.tg (k.q.map qAV) k.dn k.ar k.lf ((k.D.map byteAV).map (renV (pim 9))) Hp.none))) none) none) none) none) none := by kernel_rfl
    rw [e, br_t (cells_bytes _), br_t (c8 9), br_t (cells_bytes _), br_t (cells_bytes _), br_t c0, ren_bytes, ren_bytes]
    rfl
  · have e : nrmH (pim 16) (k.hp 0 (rr k 16 [(9, ⟨V, []⟩), (16, ⟨k.D.map byteAV, []⟩)])) (pim 16) Hp.none k0 = br (cellsN (k.D.map byteAV)) (br (cellsN [.arr 16 0 k.n 1, .vs 2 k.tg (k.q.map qAV), .bool k.dn, .bool k.ar, .int .i64 k.lf]) (br (cellsN (k.C.map byteAV)) (br (cellsN (k.D.map byteAV)) (br (cellsN [.arr 1 0 k.n 1, .arr 3 0 k.n 1, .vs 2 k.tg (k.q.map qAV), .bool k.ar, .int .i64 k.lf, .bool k.dn])
        (k0 (hdk 0 k.n k.tg (k.q.map qAV) k.ar k.lf k.dn ((k.D.map byteAV).map (renV (pim 16))) ((k.C.map byteAV).map (renV (pim 16))) (hrf k.n k.tg (k.q.map qAV) k.dn k.ar k.lf ((k.D.map byteAV).map (renV (pim 16))) Hp.none))) none) none) none) none) none := by kernel_rfl
    rw [e, br_t (cells_bytes _), br_t (c8 16), br_t (cells_bytes _), br_t (cells_bytes _), br_t c0, ren_bytes, ren_bytes]
    rfl

/-- the slots behind such a region -/
def sls (tg : Bool) (l : List AV) (rest : List (Nat × Slot)) : List (Nat × Slot) := (1, .val (.vs 4 tg l) .no) :: (6, .val (.ptr 0 0) .no) :: (7, .val (.ptr 8 0) .no) :: rest
theorem nrm_S (k : Dk) (m : Nat) (T : Hp) (hT : Tail k m T) (nx : Nat) (tg : Bool) (l : List AV) (hl : pureL l = true) (rest : List (Nat × Slot)) (hr : ∀ p ∈ rest, slotN p.2 = true ∧ renS (pim m) p.2 = p.2) (k0 : St → Option Out) :
    (mkS 81 (sls tg l rest) [] (k.hp 0 (rr k m T)) nx).nrm 16 nst [] k0 = k0 (mkS 81 (sls tg l rest) [] (k.hp 0 (rdk k Hp.none)) 16) := by
  have e : ∀ k1 : List (Nat × Nat) → Option Out, nrmIds (mkS 81 (sls tg l rest) [] (k.hp 0 (rr k m T)) nx) nst [] k1 = k1 (pim m) := fun k1 => by kernel_rfl
  unfold St.nrm
  rw [e]
  have hs : slotsN (mkL (sls tg l rest) 81 0) = true := slots_mkL _ _ _ fun p hp => by
    rcases List.mem_cons.1 hp with rfl | hp
    · exact hl
    rcases List.mem_cons.1 hp with rfl | hp
    · rfl
    rcases List.mem_cons.1 hp with rfl | hp
    · rfl
    exact (hr p hp).1
  have hn : nodupN (fstN (pim m)) = true := by
    rcases hT with ⟨rfl, _⟩ | ⟨rfl, _⟩ | ⟨rfl, _⟩ <;> rfl
  rw [br_t (by
    show (nodupN (fstN (pim m)) && (nodupN (sndN (pim m)) && slotsN (mkL (sls tg l rest) 81 0))) = true
    rw [hn, hs]; rfl)]
  have h2 := nrmH_T k m T hT (fun H' => tightH [] H' fun H2 => k0 ⟨(mkS 81 (sls tg l rest) [] (k.hp 0 (rr k m T)) nx).sl.map (renS (pim m)), [], H2, 16, []⟩)
  refine h2.trans ?_
  show k0 ⟨(mkL (sls tg l rest) 81 0).map (renS (pim m)), [], k.hp 0 (rdk k Hp.none), 16, []⟩ = k0 ⟨mkL (sls tg l rest) 81 0, [], k.hp 0 (rdk k Hp.none), 16, []⟩
  rw [map_mkL]
  have : (sls tg l rest).map (fun p => (p.1, renS (pim m) p.2)) = sls tg l rest := by
    unfold sls
    have hrest : rest.map (fun p => (p.1, renS (pim m) p.2)) = rest := by
      have : rest.map (fun p => (p.1, renS (pim m) p.2)) = rest.map id := List.map_congr_left fun p hp => by rw [(hr p hp).2]; rfl
      rw [this, List.map_id]
    simp only [List.map_cons, hrest]
    have h8 : renS (pim m) (.val (.ptr 8 0) .no) = .val (.ptr 8 0) .no := by
      rcases hT with ⟨rfl, _⟩ | ⟨rfl, _⟩ | ⟨rfl, _⟩ <;> rfl
    have h0 : renS (pim m) (.val (.ptr 0 0) .no) = .val (.ptr 0 0) .no := by
      rcases hT with ⟨rfl, _⟩ | ⟨rfl, _⟩ | ⟨rfl, _⟩ <;> rfl
    rw [h8, h0]
    rfl
  rw [this]

/-- at first: the reference's variable is block 9, its bytes block 8 -/
theorem nrm_0 (n : Nat) (Z : List UInt8) (hZ : Z.length = n) (tg : Bool) (l : List AV) (hl : pureL l = true) (k0 : St → Option Out) :
    (mkS 81 [(1, .val (.vs 4 tg l) .no), (6, .val (.ptr 0 0) .no), (7, .val (.ptr 9 0) .no)] [] (hdk 0 n true [] false 0 false (Z.map byteAV) (Z.map byteAV) ((8, ⟨Z.map byteAV, []⟩) :: ((9, ⟨[.arr 8 0 n 1, .vs 2 true [], .bool false, .bool false, .int .i64 0], []⟩) :: Hp.none))) 10).nrm 16 nst [(8, 1)] k0 =
      k0 (mkS 81 (sls tg l []) [] (hdk 0 n true [] false 0 false (Z.map byteAV) (Z.map byteAV) (hrf n true [] false false 0 (Z.map byteAV) Hp.none)) 16) := by
  let π : List (Nat × Nat) := [(8, 9), (9, 8), (3, 3), (1, 1), (0, 0)]
  have e : ∀ k1 : List (Nat × Nat) → Option Out, nrmIds (mkS 81 [(1, .val (.vs 4 tg l) .no), (6, .val (.ptr 0 0) .no), (7, .val (.ptr 9 0) .no)] [] (hdk 0 n true [] false 0 false (Z.map byteAV) (Z.map byteAV) ((8, ⟨Z.map byteAV, []⟩) :: ((9, ⟨[.arr 8 0 n 1, .vs 2 true [], .bool false, .bool false, .int .i64 0], []⟩) :: Hp.none))) 10) nst [] k1 = k1 π := fun k1 => by kernel_rfl
  unfold St.nrm
  rw [e]
  have hs : slotsN (mkL [(1, .val (.vs 4 tg l) .no), (6, .val (.ptr 0 0) .no), (7, .val (.ptr 9 0) .no)] 81 0) = true := slots_mkL _ _ _ fun p hp => by
    rcases List.mem_cons.1 hp with rfl | hp
    · exact hl
    rcases List.mem_cons.1 hp with rfl | hp
    · rfl
    rcases List.mem_cons.1 hp with rfl | hp
    · rfl
    cases hp
  rw [br_t (by
    show (nodupN (fstN π) && (nodupN (sndN π) && slotsN (mkL [(1, .val (.vs 4 tg l) .no), (6, .val (.ptr 0 0) .no), (7, .val (.ptr 9 0) .no)] 81 0))) = true
    rw [hs]; rfl)]
  have h2 : ∀ k1 : Hp → Option Out, nrmH π (hdk 0 n true [] false 0 false (Z.map byteAV) (Z.map byteAV) ((8, ⟨Z.map byteAV, []⟩) :: ((9, ⟨[.arr 8 0 n 1, .vs 2 true [], .bool false, .bool false, .int .i64 0], []⟩) :: Hp.none))) π Hp.none (fun H' => tightH [(8, 1)] H' k1) =
      br (cellsN (Z.map byteAV)) (br (cellsN (Z.map byteAV)) (br (cellsN (Z.map byteAV)) (k1 (hdk 0 n true [] false 0 false ((Z.map byteAV).map (renV π)) ((Z.map byteAV).map (renV π)) (hrf n true [] false false 0 ((Z.map byteAV).map (renV π)) Hp.none))) none) none) none := fun k1 => by kernel_rfl
  refine (h2 _).trans ?_
  rw [br_t (cells_bytes _), br_t (cells_bytes _), br_t (cells_bytes _), ren_bytes]
  show k0 ⟨(mkL [(1, .val (.vs 4 tg l) .no), (6, .val (.ptr 0 0) .no), (7, .val (.ptr 9 0) .no)] 81 0).map (renS π), [], _, 16, []⟩ = _
  rw [map_mkL]
  rfl

end Go.Proofs.Ytjipknfohmgjaaa

namespace Go.Proofs.Ytjipknfohmgjaaa
open Go Go.Vai

attribute [local irreducible] midRun goTo bodyOf mkS run

abbrev ActT := Int × Int × Int × List UInt8
def actAV (a : ActT) : AV := .agg [.int .i64 a.1, .int .i64 a.2.1, .int .i64 a.2.2.1, .vs 1 false (a.2.2.2.map byteAV)]
theorem pure_acts (l : List ActT) : pureL (l.map actAV) = true := by
  induction l with
  | nil => rfl
  | cons a l ih =>
    rw [List.map_cons, pureL_cons, ih, Bool.and_true]
    show pureL [.int .i64 a.1, .int .i64 a.2.1, .int .i64 a.2.2.1, .vs 1 false (a.2.2.2.map byteAV)] = true
    exact pureL_int (pureL_int (pureL_int (pureL_vs (pure_bytes _) rfl)))

theorem EvF.bro {p : Prop} {F G : Nat → Option Out} {out : Out} (h : p) (hF : EvF F out) : EvF (fun n => br (@decide p (Classical.propDecidable p)) (F n) (G n)) out := hF.congr fun _ => br_t (@decide_eq_true _ (Classical.propDecidable p) h)
theorem beh10 {cal : Oracle} {todo : List Item} {k : Dk} {m : Nat} {T : Hp} {nx : Nat} {tg : Bool} {l : List AV} {rest : List (Nat × Slot)} {out : Out} (hT : Tail k m T) (hl : pureL l = true) (hr : ∀ p ∈ rest, slotN p.2 = true ∧ renS (pim m) p.2 = p.2)
    (h : EvF (fun n => run Try.prog ann cal n 7 todo (mkS 81 (sls tg l rest) [] (k.hp 0 (rdk k Hp.none)) 16)) out) : EvF (fun n => behind (getA ann 7) 10 (mkS 81 (sls tg l rest) [] (k.hp 0 (rr k m T)) nx) fun S' => run Try.prog ann cal n 7 todo S') out :=
  h.congr fun n => (beh_10 _ _).trans (nrm_S k m T hT nx tg l hl rest hr _)
theorem beh13 {cal : Oracle} {todo : List Item} {k : Dk} {m : Nat} {T : Hp} {nx : Nat} {tg : Bool} {l : List AV} {rest : List (Nat × Slot)} {out : Out} (hT : Tail k m T) (hl : pureL l = true) (hr : ∀ p ∈ rest, slotN p.2 = true ∧ renS (pim m) p.2 = p.2)
    (h : EvF (fun n => run Try.prog ann cal n 7 todo (mkS 81 (sls tg l rest) [] (k.hp 0 (rdk k Hp.none)) 16)) out) : EvF (fun n => behind (getA ann 7) 13 (mkS 81 (sls tg l rest) [] (k.hp 0 (rr k m T)) nx) fun S' => run Try.prog ann cal n 7 todo S') out :=
  h.congr fun n => (beh_13 _ _).trans (nrm_S k m T hT nx tg l hl rest hr _)

/-- behind the comparison of what is read -/
theorem tail7 (d : Nat) (k : Dk) (ok : k.Ok) (coh : Coh k) (h1 : 1 ≤ k.n) (tg : Bool) (l : List AV) (hl : pureL l = true) (i : Int) (out : Out)
    (h : EvF (fun n => run Try.prog ann (CW (d + 3)) (n + 0) 7 (goTo [0, 5, 0, 0, 5, 7, 5, 0, 5, 0, 5, 0, 0, 5, 7, 5, 0, 0, 5, 2, 3] (bodyOf 7)) (mkS 81 [(1, .val (.vs 4 tg l) .no), (6, .val (.ptr 0 0) .no), (7, .val (.ptr 8 0) .no), (8, .val (.int .i64 (IntKind.wrap IntKind.i64 (i + 1))) .no)] [] (k.hp 0 (rdk k Hp.none)) 16)) out) :
    EvF (fun n => run Try.prog ann (CW (d + 3)) (n + 0) 7 (goTo [0, 5, 0, 0, 5, 7, 5, 0, 5, 0, 5, 0, 0, 5, 7, 5, 0, 0, 5, 2, 3, 0, 0, 5, 6, 5, 0, 2, 0, 0, 5] (bodyOf 7)) (mkS 81 [(1, .val (.vs 4 tg l) .no), (6, .val (.ptr 0 0) .no), (7, .val (.ptr 8 0) .no), (8, .val (.int .i64 i) .no), (57, .val (.bool false) .no)] [] (k.hp 0 (rdk k Hp.none)) 16)) out := by
  have hn := ok.n
  have last : EvF (fun n => run Try.prog ann (CW (d + 3)) (n + 0) 7 (goTo [0, 5, 0, 0, 5, 7, 5, 0, 5, 0, 5, 0, 0, 5, 7, 5, 0, 0, 5, 2, 3, 0, 0, 5, 6, 5, 0, 2, 0, 0, 5, 7, 5, 0, 5, 0, 5] (bodyOf 7)) (mkS 81 (sls tg l [(8, .val (.int .i64 i) .no), (79, .val (.bool false) .no)]) [] (k.hp 0 (rdk k Hp.none)) 16)) out :=
    (Ev.stage 5 (fun n => w7_15 _ n) (EvF.brf rfl h)).at 0
  have hr : ∀ (m : Nat), ∀ p ∈ [((8 : Nat), Slot.val (.int .i64 i) .no), (79, .val (.bool false) .no)], slotN p.2 = true ∧ renS (pim m) p.2 = p.2 := fun m p hp => by
    rcases List.mem_cons.1 hp with rfl | hp
    · exact ⟨rfl, rfl⟩
    rcases List.mem_cons.1 hp with rfl | hp
    · exact ⟨rfl, rfl⟩
    cases hp
  refine (Ev.stage 4 (fun n => w7_11 _ n) (EvF.brf rfl ?_)).at 0
  by_cases hdn : k.dn = true
  · have hc : chk k 0 (k.n : Int) ≠ 0 := by rw [chk_r, if_pos hdn]; decide
    refine EvF.call (s0_13e (d + 1) (rdk k Hp.none) 16 k ok 0 (k.n : Int) hc) (EvF.mid 2 (fun n => w7_13 _ n) ?_ 0)
    refine EvF.brf (by rw [hdn]; rfl) ?_
    exact beh13 (m := 9) (T := [(9, ⟨k.D.map byteAV, []⟩)]) (.inl ⟨rfl, rfl⟩) hl (hr 9) last
  · have hdn : k.dn = false := by simpa using hdn
    have hC : (k.C.drop 0).take k.n = ap k.q k.D := by rw [List.drop_zero, List.take_of_length_le (by rw [ok.c]; omega), coh]
    have hlen : (ap k.q k.D).length = k.n := by rw [ap_length (by rw [ok.d]; exact ok.q)]; exact ok.d
    have h13 := s0_13 (d + 1) (rdk k Hp.none) 16 k ok 0 k.n hdn (by omega)
    rw [hC] at h13
    refine EvF.call h13 (EvF.mid 2 (fun n => w7_13 _ n) ?_ 0)
    have h26 : CW (d + 3) 26 [.ptr 8 0] (k.hp 0 (rdk k Hp.none)) 16 = _ := r26 (d + 2) (zk k) k ok h1
    refine EvF.brt (by rw [hdn]; rfl) (EvF.bnf rfl (EvF.bnd (bytesOf_map _) (EvF.call h26 (EvF.mid 0 (fun n => w7_16 _ n) ?_ 0))))
    have e1 : List.take k.n (List.drop 0 ((ap k.q k.D).map byteAV)) = (ap k.q k.D).map byteAV := by rw [List.drop_zero]; exact List.take_of_length_le (by rw [List.length_map]; omega)
    rw [e1]
    refine EvF.brt (ble_t (by rw [List.length_map]; omega)) (EvF.bnd (bytesOf_map _) ?_)
    rw [eqS_refl]
    exact beh13 (m := 9) (T := [(9, ⟨k.D.map byteAV, []⟩), (16, ⟨(ap k.q k.D).map byteAV, []⟩)]) (.inr (.inl ⟨rfl, _, rfl⟩)) hl (hr 9) last

/-- the loop -/
theorem l7 (d : Nat) (tg : Bool) (all : List ActT) (hall : all.length ≤ 60) (hrange : ∀ a ∈ all, -9223372036854775808 ≤ a.2.1 ∧ a.2.1 ≤ 9223372036854775807) : ∀ (r p : List ActT) (k : Dk), all = p ++ r → k.Ok → Coh k → 1 ≤ k.n → k.q.length + 100 * r.length ≤ 1099511627776 →
    ∃ H nx, Ev (CW (d + 3)) 7 (goTo [0, 5, 0, 0, 5, 7, 5, 0, 5, 0, 5, 0, 0, 5, 7, 5, 0, 0, 5, 2, 3] (bodyOf 7)) (mkS 81 [(1, .val (.vs 4 tg (all.map actAV)) .no), (6, .val (.ptr 0 0) .no), (7, .val (.ptr 8 0) .no), (8, .val (.int .i64 (p.length : Int)) .no)] [] (k.hp 0 (rdk k Hp.none)) 16) ⟨.bool true, H, nx⟩ := by
  intro r
  induction r with
  | nil =>
    intro p k hp ok coh h1 hq
    rw [List.append_nil] at hp
    obtain ⟨o, ho, haw⟩ := cw_awake (d + 3)
    refine ⟨k.hp 0 (rdk k Hp.none), 16, Ev.stage 10 (fun n => w7_6 _ n) (EvF.bdf (by rw [List.length_map, hp]; omega) ((Ev.stage 2 (fun n => w7_8 _ n) (EvF.pcall rfl haw (by rw [ho]; rfl) ?_)).at 5))⟩
    rw [ho]
    exact EvF.mid 1 (fun n => w7_10 _ n) EvF.ret 0
  | cons a r ih =>
    intro p k hp ok coh h1 hq
    have hmem : a ∈ all := by rw [hp]; simp
    have hlt : p.length < all.length := by rw [hp]; simp
    rw [List.length_cons] at hq
    obtain ⟨k', H', nx', hperf, aft⟩ := perf d k ok coh h1 (by omega) a.1 a.2.1 a.2.2.1 (hrange a hmem) a.2.2.2
    obtain ⟨m, T, rfl, hT⟩ := aft.H
    have ok' := aft.ok
    have hn' : 1 ≤ k'.n := by rw [aft.n]; exact h1
    obtain ⟨H2, nx2, hrest⟩ := ih (p ++ [a]) k' (by rw [hp]; simp) ok' aft.coh hn' (by have := aft.q; omega)
    refine ⟨H2, nx2, Ev.stage 10 (fun n => w7_6 _ n) ?_⟩
    have hnth : nth (all.map actAV) (Int.toNat (p.length : Int)) = some (actAV a) := by
      rw [Int.toNat_natCast, hp]
      exact nth_map actAV p a r
    refine EvF.bdt (by rw [List.length_map]; omega) (EvF.bdt (by omega) (EvF.bdt (by rw [List.length_map]; omega) (EvF.nth hnth (EvF.mid 0 (fun n => w7_7 _ n) ?_ 0))))
    refine EvF.call hperf (EvF.mid 0 (fun n => w7_9 _ n) (EvF.brf rfl ?_) 0)
    have h15 := s0_15 (d + 2) (rr k' m T) nx' k'
    have h14 := s0_14 (d + 2) (rr k' m T) nx' k'
    have h12 := s0_12 (d + 2) (rr k' m T) nx' k'
    have h25 : CW (d + 3) 25 [.ptr 8 0] (k'.hp 0 (rr k' m T)) nx' = some ⟨.int .i64 (IntKind.wrap IntKind.i64 (Int.tdiv (k'.n : Int) 32)), k'.hp 0 (rr k' m T), nx'⟩ := r25 (d + 2) (zk k') m T nx' k'.n k'.tg k'.dn k'.ar (k'.q.map qAV) k'.lf
    refine EvF.call h15 (EvF.bro rfl (EvF.mid 0 (fun n => w7_12 _ n) ?_ 0))
    refine EvF.brf (by rw [List.length_map, decide_eq_true rfl]; rfl) ?_
    refine EvF.call h14 (EvF.bro rfl (EvF.mid 0 (fun n => w7_14 _ n) ?_ 0))
    refine EvF.brf (by simp) ?_
    refine EvF.call h12 (EvF.bro rfl (EvF.mid 0 (fun n => w7_17 _ n) ?_ 0))
    refine EvF.call h25 (EvF.bro rfl (EvF.mid 0 (fun n => w7_18 _ n) ?_ 0))
    rw [show (!(decide (IntKind.wrap IntKind.i64 (Int.tdiv (k'.n : Int) 32) = IntKind.wrap IntKind.i64 (Int.tdiv (k'.n : Int) 32)))) = false by rw [decide_eq_true rfl]; rfl]
    refine beh10 (rest := [(8, .val (.int .i64 (p.length : Int)) .no), (57, .val (.bool false) .no)]) hT (pure_acts all) (fun q hq => ?_) ?_
    · rcases List.mem_cons.1 hq with rfl | hq
      · exact ⟨rfl, rfl⟩
      rcases List.mem_cons.1 hq with rfl | hq
      · exact ⟨rfl, rfl⟩
      cases hq
    refine tail7 d k' ok' aft.coh hn' tg (all.map actAV) (pure_acts all) (p.length : Int) _ ?_
    rw [wrap64 (by omega) (by omega), show (p.length : Int) + 1 = (((p ++ [a]).length : Nat) : Int) by simp]
    exact hrest.at 0

/-- NewDisk -/
theorem r23 (d : Nat) (Z : Blk × Blk × Blk) (x : Int) : CW (d + 1) 23 [.int .i64 x] (pre Z Hp.none) 8 =
    some ⟨.agg [.arr 8 0 ((clampS x).toNat * 32) 1, .vs 2 true [], .bool false, .bool false, .int .i64 0], pre Z ((8, ⟨(List.replicate ((clampS x).toNat * 32) (0 : UInt8)).map byteAV, []⟩) :: Hp.none), 9⟩ := by
  refine cw rfl (Ev.stage 5 (fun n => rf_23_0 _ n Z x) ?_) (fun n => by kernel_rfl)
  have c1 := clampS_1 x
  have c2 := clampS_2 x
  obtain ⟨m, hm⟩ := Int.eq_ofNat_of_zero_le (a := clampS x) (by omega)
  have e1 : (if 1 < (if x < 2048 then x else 2048) then (if x < 2048 then x else 2048) else 1) = (m : Int) := by
    rw [← hm]
    unfold clampS
    split <;> split <;> (try split) <;> (try split) <;> omega
  have e2 : IntKind.wrap IntKind.i64 (32 * (m : Int)) = ((m * 32 : Nat) : Int) := by rw [wrap64 (by omega) (by omega)]; omega
  rw [e1, e2, Int.toNat_natCast, hm, Int.toNat_natCast, replC_zero]
  exact EvF.bdt (by omega) (EvF.bdt (by omega) (EvF.bdt (by omega) (EvF.bdt (by omega) (EvF.bdt rfl EvF.ret))))

theorem c7 (x : Int) (_ : -9223372036854775808 ≤ x ∧ x ≤ 9223372036854775807) (tg : Bool) (all : List ActT) (hlen : all.length ≤ 140737488351232) (hrange : ∀ a ∈ all, -9223372036854775808 ≤ a.2.1 ∧ a.2.1 ≤ 9223372036854775807) :
    ∃ d H nx, CW d 7 [.int .i64 x, .vs 4 tg (all.map actAV)] Hp.none 0 = some ⟨.bool true, H, nx⟩ := by
  by_cases h60 : 60 < all.length
  · obtain ⟨o, ho, haw⟩ := cw_awake 3
    refine ⟨4, ?_⟩
    apply Exists.intro
    apply Exists.intro
    refine cw rfl (Ev.stage 9 (fun n => w7_0 _ n (x_1 := x) (l_2 := all.map actAV) (tg_3 := tg)) ?_) (fun n => by kernel_rfl)
    refine EvF.bdt (by rw [List.length_map]; omega) (EvF.pcall rfl haw (by rw [ho]; rfl) ?_)
    rw [ho]
    exact EvF.mid 1 (fun n => w7_1 _ n) EvF.ret 1
  · have i0 := idx_0 x (m := 14) (by omega)
    have i1 := idx_lt x (m := 14) (by omega)
    have h18 := n18 2 Hp.none 0 x 14 (by omega) (by omega)
    obtain ⟨y, hy⟩ : ∃ y, y = IntKind.wrap IntKind.i64 (idx x 14 - 2) := ⟨_, rfl⟩
    obtain ⟨N, hN⟩ : ∃ N, N = (clampS y).toNat * 32 := ⟨_, rfl⟩
    have c1 := clampS_1 y
    have c2 := clampS_2 y
    have h11 := s0_11 2 y
    have h23 : CW 3 23 [.int .i64 y] ((dk0 N).hp 0 Hp.none) 8 = _ := r23 2 (zk (dk0 N)) y
    rw [← hN] at h11 h23
    have ok0 : (dk0 N).Ok := dk0_ok (by omega)
    obtain ⟨H, nx, hloop⟩ := l7 0 tg all (by omega) hrange all [] (dk0 N) rfl ok0 rfl (by show 1 ≤ N; omega) (by show 0 + _ ≤ _; omega)
    refine ⟨4, H, nx, cw rfl (Ev.stage 9 (fun n => w7_0 _ n (x_1 := x) (l_2 := all.map actAV) (tg_3 := tg)) ?_) (fun n => by kernel_rfl)⟩
    refine EvF.bdf (by rw [List.length_map]; omega) (EvF.pcall rfl h18 rfl (EvF.mid 2 (fun n => w7_2 _ n) ?_ 0))
    rw [← hy]
    refine EvF.call h11 (EvF.mid 0 (fun n => w7_3 _ n) ?_ 0)
    refine EvF.call h23 (EvF.mid 0 (fun n => w7_4 _ n) ?_ 0)
    refine EvF.congr ?_ (fun n => (beh_4 _ _).trans (nrm_0 N (List.replicate N 0) (by simp) tg (all.map actAV) (pure_acts all) _))
    exact (Ev.stage 10 (fun n => w7_5 _ n) (hloop.at 0)).at 0

end Go.Proofs.Ytjipknfohmgjaaa
