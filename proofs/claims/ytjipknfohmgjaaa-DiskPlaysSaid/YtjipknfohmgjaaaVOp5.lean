/- Slice expressions, conversions, composite literals. -/
import Derived.Test.YtjipknfohmgjaaaVOp4
namespace Go.Vai

section
variable {g0 : G} {w0 : World} {Ex : Nat → Prop} {g : G} {S : St} {a : Act} {w : World} {P : Program} {R : Type} {r : R} {o : Oper}

theorem bound?_some {v : AV} {y : Nat} {k : Nat → Option R} (h : v.bound? y k = some r) : ∃ ik i, v = .int ik i ∧ 0 ≤ i ∧ i ≤ (y : Int) ∧ k i.toNat = some r := by
  unfold AV.bound? at h
  obtain ⟨ik, i, rfl, h1⟩ := int?_some h
  obtain ⟨h2, h3⟩ := br_left h1
  obtain ⟨h4, h5⟩ := br_left h3
  exact ⟨ik, i, rfl, by simpa using h2, by simpa using h4, h5⟩

theorem run_bound {ik : IntKind} {i : Int} {y y' : Nat} (code : BoundsCode) (h0 : 0 ≤ i) (h1 : i ≤ (y : Int)) (hy : y ≤ y') : (Instr.sliceBound (.int ik i) y' code).run P w = .ok i.toNat w :=
  run_sliceBound w ik i y' code h0 (by omega)

theorem opBounds_sound {len cap : Nat} {lo hi : Option Operand} {k : Nat → Nat → Option R} (hg : Rel g0 w0 Ex g S a w) (hlc : len ≤ cap) (h : opBounds S len lo hi k = some r) (sl : Bool) :
    ∃ l hh, k l hh = some r ∧ l ≤ hh ∧ hh ≤ len ∧ (hi = none → hh = len) ∧ (Instr.sliceBounds sl len cap (lo.map a.eval) (hi.map a.eval) none).run P w = .ok (l, hh, cap) w ∧
      (∀ m : Operand, ∀ jk, a.eval m = .int jk (hh : Int) → hi ≠ none → (Instr.sliceBounds sl len cap (lo.map a.eval) (hi.map a.eval) (some (a.eval m))).run P w = .ok (l, hh, hh) w) := by
  unfold opBounds at h
  simp only at h
  cases hi with
  | some x =>
    simp only at h
    obtain ⟨ik, i, hx, h0, h1, h2⟩ := bound?_some h
    have hix := hg.ev x
    rw [hx] at hix
    have hix' := rep_int hix
    cases lo with
    | some y =>
      simp only at h2
      obtain ⟨jk, j, hy, h3, h4, h5⟩ := bound?_some h2
      have hjy := hg.ev y
      rw [hy] at hjy
      have hjy' := rep_int hjy
      refine ⟨j.toNat, i.toNat, h5, by omega, by omega, by simp, ?_, ?_⟩
      · simp only [Instr.sliceBounds, Option.map_some, hix', hjy', Sem.run_bind, Sem.run_pure, Result.andThen_ok, run_bound (P := P) (w := w) _ h0 h1 hlc, run_bound (P := P) (w := w) (y' := i.toNat) _ h3 h4 (Nat.le_refl _)]
      · intro m mk hm _
        have hci : ((i.toNat : Nat) : Int) ≤ (cap : Int) := by omega
        simp only [Instr.sliceBounds, Option.map_some, hm, hix', hjy', Sem.run_bind, Sem.run_pure, Result.andThen_ok, run_bound (P := P) (w := w) (y := cap) (y' := cap) _ (by omega : (0:Int) ≤ (i.toNat : Int)) hci (Nat.le_refl _), Int.toNat_natCast, run_bound (P := P) (w := w) (y := i.toNat) (y' := i.toNat) (i := i) _ h0 (by omega) (Nat.le_refl _), run_bound (P := P) (w := w) (y' := i.toNat) _ h3 h4 (Nat.le_refl _)]
    | none =>
      simp only at h2
      refine ⟨0, i.toNat, h2, by omega, by omega, by simp, ?_, ?_⟩
      · simp only [Instr.sliceBounds, Option.map_some, Option.map_none, hix', Sem.run_bind, Sem.run_pure, Result.andThen_ok, run_bound (P := P) (w := w) _ h0 h1 hlc]
      · intro m mk hm _
        have hci : ((i.toNat : Nat) : Int) ≤ (cap : Int) := by omega
        simp only [Instr.sliceBounds, Option.map_some, Option.map_none, hm, hix', Sem.run_bind, Sem.run_pure, Result.andThen_ok, run_bound (P := P) (w := w) (y := cap) (y' := cap) _ (by omega : (0:Int) ≤ (i.toNat : Int)) hci (Nat.le_refl _), Int.toNat_natCast, run_bound (P := P) (w := w) (y := i.toNat) (y' := i.toNat) (i := i) _ h0 (by omega) (Nat.le_refl _)]
  | none =>
    simp only at h
    cases lo with
    | some y =>
      simp only at h
      obtain ⟨jk, j, hy, h3, h4, h5⟩ := bound?_some h
      have hjy := hg.ev y
      rw [hy] at hjy
      have hjy' := rep_int hjy
      refine ⟨j.toNat, len, h5, by omega, by omega, by simp, ?_, ?_⟩
      · simp only [Instr.sliceBounds, Option.map_some, Option.map_none, hjy', Sem.run_bind, Sem.run_pure, Result.andThen_ok, run_bound (P := P) (w := w) (y' := len) _ h3 h4 (Nat.le_refl _)]
      · intro m mk hm hn; exact absurd rfl hn
    | none =>
      simp only at h
      refine ⟨0, len, h, by omega, by omega, by simp, ?_, ?_⟩
      · simp only [Instr.sliceBounds, Option.map_none, Sem.run_bind, Sem.run_pure, Result.andThen_ok]
      · intro m mk hm hn; exact absurd rfl hn

theorem flatMap_drop {z : Nat} : ∀ {l : List AV} (n : Nat), (∀ x ∈ l, x.cells.length = z) → (l.drop n).flatMap AV.cells = (l.flatMap AV.cells).drop (n * z)
  | [], n, _ => by simp
  | x :: l, 0, _ => by simp
  | x :: l, n + 1, h => by
    have hx := h x (by simp)
    have ih := flatMap_drop (l := l) n (fun y hy => h y (List.mem_cons_of_mem _ hy))
    rw [List.drop_succ_cons, ih, List.flatMap_cons, show (n + 1) * z = x.cells.length + n * z by rw [hx, Nat.succ_mul]; omega, ← List.drop_drop, List.drop_left]

theorem flatMap_take {z : Nat} : ∀ {l : List AV} (n : Nat), (∀ x ∈ l, x.cells.length = z) → (l.take n).flatMap AV.cells = (l.flatMap AV.cells).take (n * z)
  | [], n, _ => by simp
  | x :: l, 0, _ => by simp
  | x :: l, n + 1, h => by
    have hx := h x (by simp)
    have ih := flatMap_take (l := l) n (fun y hy => h y (List.mem_cons_of_mem _ hy))
    rw [List.take_succ_cons, List.flatMap_cons, ih, List.flatMap_cons, show (n + 1) * z = x.cells.length + n * z by rw [hx, Nat.succ_mul]; omega, List.take_length_add_append]

/-- a part of a slice -/
theorem rep_sub {u : Option Addr} {len cap z : Nat} {tg : Bool} {v : List AV} {l h m : Nat} (hr : Rep g w (.slice u len cap) (.vs z tg v)) (hl : l ≤ h) (hh : h ≤ v.length) (hm : h ≤ m) (hmc : m ≤ cap)
    (tg' : Bool) (htg : tg' = true → m = h) : Rep g w (.slice (if m = l then u else u.map (·.add (l * z))) (h - l) (m - l)) (.vs z tg' ((v.take h).drop l)) := by
  rcases rep_vs hr with ⟨⟨p, he⟩, rfl⟩ | ⟨B, off, cap', vals, he, hsz, htg0, hcap, hcell, hrl⟩
  · injection he with e1 e2 e3
    subst e1 e2 e3
    have h1 : h = 0 := by simpa using hh
    have h2 : m = 0 := by omega
    have h3 : l = 0 := by omega
    subst h1 h2 h3
    simp
    exact .vsnil _ _ _
  · injection he with e1 e2 e3
    subst e1 e2 e3
    have hlen : ((v.take h).drop l).length = h - l := by simp only [List.length_drop, List.length_take]; omega
    by_cases hml : m = l
    · rw [if_pos hml]
      have h0 : (v.take h).drop l = [] := List.eq_nil_of_length_eq_zero (by rw [hlen]; omega)
      rw [h0, show h - l = ([] : List AV).length by simp; omega]
      exact .vs B off _ z tg' [] [] (by simp) (by simp) (fun _ => by simp; omega) (by simp) (by simp) (by simp)
    · rw [if_neg hml, ← hlen]
      show Rep g w (.slice (some (Addr.add ⟨B, off, none⟩ (l * z))) _ _) _
      rw [Addr.add_lit]
      have hszt : ∀ x ∈ v.take h, x.cells.length = z := fun x hx => hsz x (List.mem_of_mem_take hx)
      have e1 : ((v.take h).drop l).flatMap AV.cells = ((v.flatMap AV.cells).take (h * z)).drop (l * z) := by
        rw [flatMap_drop l hszt, flatMap_take h hsz]
      have hrl' := (hrl.take (h * z)).drop (l * z)
      rw [← e1] at hrl'
      refine .vs B (off + l * z) (m - l) z tg' _ ((vals.take (h * z)).drop (l * z)) hrl'.1 (fun x hx => hszt x (List.mem_of_mem_drop hx)) (fun ht => by rw [hlen, htg ht]) (by rw [hlen]; omega) (fun j u hu => ?_) hrl'.2
      rw [List.getElem?_drop, List.getElem?_take] at hu
      split at hu
      · have := hcell (l * z + j) u hu
        rwa [← Nat.add_assoc] at this
      · cases hu

theorem opSlice_step {t : TypeId} {x : Operand} {lo hi mx : Option Operand} {k : St → Option R} (ho : o.op = .slice t x lo hi mx) (h : opSlice P o t x lo hi mx S k = some r) (hg : Rel g0 w0 Ex g S a w) :
    StepTo P o a w g0 w0 Ex k r := by
  unfold opSlice opSliceV at h
  have hx := hg.ev x
  split at h
  · rename_i hu
    split at h
    · cases h
    · obtain ⟨s, hs, h1⟩ := str?_some h
      clear h
      rw [hs] at hx
      obtain ⟨bs, hbs, rfl⟩ := rep_str hx
      have hsz : bs.data.toList.length = bs.size := by rw [Array.length_toList]; rfl
      obtain ⟨l, hh, hk, hl, hle, _, hrun, _⟩ := opBounds_sound (P := P) (cap := bs.size) hg (by omega) h1 false
      refine .val hg (u := .string (bs.extract l hh)) ?_ ?_ hk
      · have hrun' := hrun
        rw [hsz] at hrun'
        simp only [execOp, ho, Instr.sliceAt, Sem.run_bind, run_und hu, Result.andThen_ok, Instr.slice, hbs, Option.map_none, Sem.run_pure, Option.isSome_none, Bool.false_eq_true, if_false]
        rw [hrun']
        rfl
      · have := Rep.str (g := g) (w := w) (bs.extract l hh)
        have e : (bs.extract l hh).data.toList = (bs.data.toList.take hh).drop l := by
          rw [ByteArray.data_extract, Array.toList_extract]
          simp [List.take_drop, Nat.add_sub_of_le hl]
        rw [e] at this
        exact this
  · rename_i e hu
    split at h
    · cases h
    · rename_i hz
      have hz' : tSize P e ≠ 0 := fun e => by rw [e] at hz; cases hz
      have key : ∀ ad len cap l hh m, a.eval x = .slice ad len cap → (Instr.sliceBounds true len cap (lo.map a.eval) (hi.map a.eval) (mx.map a.eval)).run P w = .ok (l, hh, m) w →
          (execOp a.eval o).run P w = .ok (.value (.slice (if m = l then ad else ad.map (·.add (l * tSize P e))) (hh - l) (m - l))) w := by
        intro ad len cap l hh m he hb
        simp only [execOp, ho, Instr.sliceAt, Sem.run_bind, run_und hu, Result.andThen_ok, Instr.slice, he, hb, run_sizeOf_pos hz', Sem.run_pure]
      split at h
      · rename_i z tg v hv
        rw [hv] at hx
        split at h
        · cases h
        · rename_i hzz
          obtain rfl := beq_true hzz
          obtain ⟨p, cap, he, hcap⟩ := rep_vs_len hx
          rw [he] at hx
          split at h
          · obtain ⟨l, hh, hk, hl, hle, hnone, hrun, _⟩ := opBounds_sound (P := P) hg hcap h true
            refine .val hg (key _ _ _ _ _ _ he hrun) (rep_sub hx hl hle (Nat.le_trans hle hcap) (Nat.le_refl _) _ ?_) hk
            intro ht
            cases hi with
            | some _ => cases ht
            | none =>
              have ht' : tg = true := ht
              rw [hnone rfl]
              rcases rep_vs hx with ⟨⟨p2, he2⟩, rfl⟩ | ⟨B, off, cap', vals, he2, _, htg0, _⟩
              · injection he2
              · injection he2 with _ _ e3; rw [e3]; exact htg0 ht'
          · rename_i mo
            split at h
            · cases h
            · rename_i hio
              obtain ⟨l, hh, hk, hl, hle, _, _, hrun⟩ := opBounds_sound (P := P) hg hcap h true
              obtain ⟨jk, j, hm, hk2⟩ := int?_some hk
              obtain ⟨hj, hk3⟩ := br_left hk2
              have hj' : j = (hh : Int) := by simpa using hj
              subst hj'
              have hmr := hg.ev mo
              rw [hm] at hmr
              have hmr' := rep_int hmr
              refine .val hg (key _ _ _ _ _ _ he (hrun mo jk hmr' (by simp))) (rep_sub hx hl hle (Nat.le_refl _) (Nat.le_trans hle hcap) _ (fun _ => rfl)) hk3
      · rename_i id off len z hv
        rw [hv] at hx
        split at h
        · cases h
        · rename_i hzz
          obtain rfl := beq_true hzz
          obtain ⟨B, cap, hB, he, hcap⟩ := rep_arr hx
          have fin : ∀ (l hh m : Nat) (tg : Bool), l ≤ hh → hh ≤ len → hh ≤ m → m ≤ cap → (tg = true → m = hh) → (Instr.sliceBounds true len cap (lo.map a.eval) (hi.map a.eval) (mx.map a.eval)).run P w = .ok (l, hh, m) w →
              br (Nat.blt l hh) (k (S.putd o.dst (.val (.arr id (off + l * tSize P e) (hh - l) (tSize P e)) .no))) (k (S.putd o.dst (.val (.vs (tSize P e) tg []) .no))) = some r → StepTo P o a w g0 w0 Ex k r := by
            intro l hh m tg hl hle hm hmc htg hrun hk
            have hkk := key _ _ _ _ _ _ he hrun
            rcases br_some hk with ⟨hlt, hk⟩ | ⟨hlt, hk⟩
            · have hlt' : l < hh := Nat.le_of_ble_eq_true hlt
              rw [if_neg (by omega)] at hkk
              have : (some (⟨B, off, none⟩ : Addr)).map (·.add (l * tSize P e)) = some ⟨B, off + l * tSize P e, none⟩ := by
                show some (Addr.add _ _) = _; rw [Addr.add_lit]
              rw [this] at hkk
              exact .val hg hkk (.arr B id _ _ _ _ hB (by omega)) hk
            · have hge : hh ≤ l := by
                rcases Nat.lt_or_ge l hh with h | h
                · have : Nat.blt l hh = true := Nat.ble_eq_true_of_le h
                  rw [this] at hlt; cases hlt
                · exact h
              have e0 : hh - l = ([] : List AV).length := by simp; omega
              refine .val hg hkk ?_ hk
              rw [e0]
              split
              · exact .vs B off _ _ tg [] [] (by simp) (by simp) (fun ht => by have := htg ht; simp; omega) (by simp) (by simp) (by simp)
              · show Rep g w (.slice (some (Addr.add ⟨B, off, none⟩ _)) _ _) _
                rw [Addr.add_lit]
                exact .vs B _ _ _ tg [] [] (by simp) (by simp) (fun ht => by have := htg ht; simp; omega) (by simp) (by simp) (by simp)
          split at h
          · obtain ⟨l, hh, hk, hl, hle, hnone, hrun, _⟩ := opBounds_sound (P := P) hg hcap h true
            exact fin l hh cap false hl hle (Nat.le_trans hle hcap) (Nat.le_refl _) (by simp) hrun hk
          · rename_i mo
            split at h
            · cases h
            · rename_i hio
              obtain ⟨l, hh, hk, hl, hle, _, _, hrun⟩ := opBounds_sound (P := P) hg hcap h true
              obtain ⟨jk, j, hm, hk2⟩ := int?_some hk
              obtain ⟨hj, hk3⟩ := br_left hk2
              have hj' : j = (hh : Int) := by simpa using hj
              subst hj'
              have hmr := hg.ev mo
              rw [hm] at hmr
              have hmr' := rep_int hmr
              exact fin l hh hh true hl hle (Nat.le_refl _) (Nat.le_trans hle hcap) (fun _ => rfl) (hrun mo jk hmr' (by simp)) hk3
      · cases h
  · cases h

/-! ### the elements of a source -/

/-- the value reads as these elements, cell by cell -/
structure Src (P : Program) (g : G) (w : World) (sz : Nat) (u : Value) (l : List AV) (news : List Value) : Prop where
  rep : RepL g w news (l.flatMap AV.cells)
  one : ∀ x ∈ news, x.oneCell' = true
  sizes : ∀ x ∈ l, x.cells.length = sz
  len : ∀ w' : World, (Builtin.lenOf u).run P w' = .ok l.length w'
  shape : ((∃ p, u = .slice p 0 0) ∧ l = []) ∨ (∃ B off cap, u = .slice (some ⟨B, off, none⟩) l.length cap ∧ CellsAt w B off news) ∨ ∃ s, u = .string s
  cells : ∀ (n : Nat) (w' : World), n ≤ l.length → (∀ B o, B < w.heap.size → w'.cell? ⟨B, o, none⟩ = w.cell? ⟨B, o, none⟩) → (Builtin.firstCells sz n u).run P w' = .ok (news.take (n * sz)).toArray w'

theorem cell_lt {B o : Nat} {u : Value} (h : w.cell? ⟨B, o, none⟩ = some u) : B < w.heap.size := World.block_lt_of_cell? w ⟨B, o, none⟩ h

theorem src_mem {B off cap sz : Nat} {l : List AV} {vals : List Value} (hsz : ∀ x ∈ l, x.cells.length = sz) (hrl : RepL g w vals (l.flatMap AV.cells)) (hc : CellsAt w B off vals) :
    Src P g w sz (.slice (some ⟨B, off, none⟩) l.length cap) l vals := by
  refine ⟨hrl, hc.one, hsz, fun w' => by simp [Builtin.lenOf], .inr (.inl ⟨B, off, cap, rfl, hc⟩), fun n w' hn hw => ?_⟩
  have hlen : (vals.take (n * sz)).length = n * sz := by
    rw [List.length_take, hrl.1, flat_len hsz]
    exact Nat.min_eq_left (Nat.mul_le_mul_right _ hn)
  have hc' : CellsAt w' B off (vals.take (n * sz)) := fun j u hu => by
    obtain ⟨h1, h2⟩ := hc.take (n * sz) j u hu
    exact ⟨by rw [hw B _ (cell_lt h1)]; exact h1, h2⟩
  simp only [Builtin.firstCells]
  exact hc'.run hlen

theorem src_nil (p : Option Addr) (sz : Nat) : Src P g w sz (.slice p 0 0) [] [] := by
  refine ⟨⟨rfl, by simp⟩, by simp, by simp, fun w' => by simp [Builtin.lenOf], .inl ⟨⟨p, rfl⟩, rfl⟩, fun n w' hn _ => ?_⟩
  cases p with
  | none => simp [Builtin.firstCells]
  | some a =>
    have h0 : n = 0 := by simpa using hn
    subst h0
    have := run_loadCells_list (P := P) w' a [] (fun j v hv => by simp at hv)
    simpa [Builtin.firstCells] using this

theorem byte_cells (l : List UInt8) : (l.map byteAV).flatMap AV.cells = l.map byteAV := by
  induction l with
  | nil => rfl
  | cons b l ih => simp only [List.map_cons, List.flatMap_cons, ih]; rfl

theorem src_str (s : ByteArray) : Src P g w 1 (.string s) (s.data.toList.map byteAV) (s.data.toList.map fun b => Value.int .u8 b.toNat) := by
  refine ⟨⟨by rw [byte_cells]; simp, fun j u c hu hc => ?_⟩, ?_, ?_, fun w' => ?_, .inr (.inr ⟨s, rfl⟩), fun n w' hn _ => ?_⟩
  · rw [byte_cells] at hc
    rw [List.getElem?_map] at hu hc
    cases hb : s.data.toList[j]? with
    | none => rw [hb] at hu; cases hu
    | some b =>
      rw [hb] at hu hc
      injection hu with hu
      injection hc with hc
      subst hu hc
      exact .int _ _
  · intro x hx
    obtain ⟨b, _, rfl⟩ := List.mem_map.1 hx
    rfl
  · intro x hx
    obtain ⟨b, _, rfl⟩ := List.mem_map.1 hx
    rfl
  · have e : s.size = (s.data.toList.map byteAV).length := by rw [List.length_map, Array.length_toList]; rfl
    simp only [Builtin.lenOf, Sem.run_pure, e]
  · simp only [Builtin.firstCells, Sem.run_pure, Nat.mul_one]
    congr 1
    apply Array.ext'
    simp [ByteArray.data_extract, List.extract_eq_take_drop]

theorem elemsOf_sound {ag : Bool} {sz : Nat} {u : Value} {v : AV} {k : List AV → Option R} (hg : Rel g0 w0 Ex g S a w) (h : elemsOf ag sz v S k = some r) (hr : Rep g w u v) :
    ∃ l news, k l = some r ∧ Src P g w sz u l news := by
  unfold elemsOf at h
  split at h
  · rename_i z tg l
    rcases rep_vs hr with ⟨⟨p, rfl⟩, rfl⟩ | ⟨B, off, cap, vals, rfl, hsz, _, _, hc, hrl⟩
    · refine ⟨[], [], ?_, src_nil p sz⟩
      split at h <;> exact h
    · split at h
      · rename_i hz
        obtain rfl := beq_true hz
        exact ⟨l, vals, h, src_mem hsz hrl fun j u hu => ⟨(hc j u hu).1, (hc j u hu).2.2⟩⟩
      · split at h
        · have hv : vals = [] := List.eq_nil_of_length_eq_zero (by simpa using hrl.1)
          subst hv
          exact ⟨[], [], h, src_mem (by simp) hrl (fun j u hu => by simp at hu)⟩
        · cases h
  · rename_i id off len z
    split at h
    · rename_i e1 e2 e3
      obtain ⟨b, hb, h2⟩ := bind_some' h
      obtain ⟨h3, h4⟩ := br_left h2
      have hle := ble_true h3
      obtain rfl := beq_true e3
      obtain ⟨B, cap, hB, rfl, hcap⟩ := rep_arr hr
      obtain ⟨B', hB', ⟨us, e, hheap, hone, hrl⟩, _⟩ := hg.h.blk id b hb
      obtain rfl := hg.inv.injh B B' id hB hB'
      have hlen : ((b.cells.drop off).take len).length = len := by simp only [List.length_take, List.length_drop]; omega
      have hc1 : ∀ x ∈ b.cells, x.cells.length = 1 := by
        intro x hx
        obtain ⟨j, hj⟩ := List.mem_iff_getElem?.1 hx
        obtain ⟨y, hy, hyr⟩ := hrl.get hj
        have := hone j y (List.getElem?_eq_some_iff.1 hj).1 hy
        cases x <;> first | rfl | skip
        obtain ⟨zs, rfl, _⟩ := rep_agg hyr
        cases this
      have hflat : ∀ l : List AV, (∀ x ∈ l, x ∈ b.cells) → l.flatMap AV.cells = l := by
        intro l
        induction l with
        | nil => intro _; rfl
        | cons x l ih =>
          intro hm
          have hx := hc1 x (hm x (by simp))
          have : x.cells = [x] := by
            obtain ⟨j, hj⟩ := List.mem_iff_getElem?.1 (hm x (by simp))
            obtain ⟨y, hy, hyr⟩ := hrl.get hj
            have h1 := hone j y (List.getElem?_eq_some_iff.1 hj).1 hy
            cases x <;> first | rfl | skip
            obtain ⟨zs, rfl, _⟩ := rep_agg hyr
            cases h1
          rw [List.flatMap_cons, this, ih fun y hy => hm y (List.mem_cons_of_mem _ hy)]
          rfl
      have hsub : ∀ x ∈ (b.cells.drop off).take len, x ∈ b.cells := fun x hx => List.mem_of_mem_drop (List.mem_of_mem_take hx)
      have hcells := ((blk_take hheap hone).drop off).take len
      rw [Nat.zero_add] at hcells
      have := src_mem (P := P) (cap := cap) (sz := 1) (l := (b.cells.drop off).take len) (fun x hx => hc1 x (hsub x hx)) (by rw [hflat _ hsub]; exact (hrl.full.drop off).take len) hcells
      rw [hlen] at this
      exact ⟨_, _, h4, this⟩
    · cases h
  · split at h
    · rename_i hz
      obtain rfl := beq_true hz
      obtain ⟨s, rfl, rfl⟩ := rep_str hr
      exact ⟨_, _, h, src_str s⟩
    · cases h
  · cases h

theorem bytesOf_ints : ∀ {l : List AV} {s : List UInt8}, bytesOf l = some s → ∃ ns : List Int, l = ns.map (fun x => AV.int .u8 x) ∧ s = ns.map fun x => UInt8.ofNat x.toNat
  | [], s, h => by simp [bytesOf] at h; exact ⟨[], rfl, by simp [h]⟩
  | .int ik n :: l, s, h => by
    cases ik with
    | u8 =>
      simp only [bytesOf] at h
      obtain ⟨r, h1, h2⟩ := bind_some' h
      obtain ⟨ns, rfl, rfl⟩ := bytesOf_ints h1
      injection h2 with h2
      exact ⟨n :: ns, rfl, by simp [← h2]⟩
    | _ => cases h
  | .undef :: _, _, h => by cases h
  | .bool _ :: _, _, h => by cases h
  | .str _ :: _, _, h => by cases h
  | .nilp :: _, _, h => by cases h
  | .ptr _ _ :: _, _, h => by cases h
  | .cptr _ :: _, _, h => by cases h
  | .vs _ _ _ :: _, _, h => by cases h
  | .arr _ _ _ _ :: _, _, h => by cases h
  | .agg _ :: _, _, h => by cases h
  | .tuple _ :: _, _, h => by cases h
  | .func _ _ :: _, _, h => by cases h
  | .iface _ _ :: _, _, h => by cases h
  | .nilI :: _, _, h => by cases h

theorem ints_flat (ns : List Int) (k : IntKind) : (ns.map (fun x => AV.int k x)).flatMap AV.cells = ns.map fun x => AV.int k x := by
  induction ns with
  | nil => rfl
  | cons n ns ih => simp only [List.map_cons, List.flatMap_cons, ih]; rfl

theorem rep_ints {news : List Value} {ns : List Int} {k : IntKind} (h : RepL g w news (ns.map fun x => AV.int k x)) : news = ns.map (Value.int k) := by
  apply List.ext_getElem?
  intro j
  rw [List.getElem?_map]
  have hl := h.1
  rw [List.length_map] at hl
  cases hn : ns[j]? with
  | none =>
    rw [List.getElem?_eq_none_iff] at hn
    exact List.getElem?_eq_none (by omega)
  | some n =>
    have hc : (ns.map fun x => AV.int k x)[j]? = some (.int k n) := by rw [List.getElem?_map, hn]; rfl
    obtain ⟨u, hu, hr⟩ := h.get hc
    rw [hu, rep_int hr]
    rfl

end
end Go.Vai
