/- append. -/
import Derived.Test.YtjipknfohmgjaaaVOp9
namespace Go.Vai

section
variable {X : Nat → Prop} {g0 : G} {w0 : World} {Ex : Nat → Prop} {g g' : G} {S : St} {a : Act} {w w' : World} {P : Program} {R : Type} {r : R} {o : Oper}

/-- a block whose right is held by nobody in the state is written, or grows -/
theorem Rel.keepX (h : Rel g0 w0 Ex g S a w) (k : Keep X g w g' w') (hi : Inv g' w') (hX : ∀ B, X B → g.role B = .c (.r 0)) (hrole : ∀ B, B < w.heap.size → g'.role B = g.role B) (hlt : ∀ B id, g'.role B = .h id → S.H id ≠ none) :
    Rel g0 w0 Ex g' S.unlent a w' := by
  have nX : ∀ B p, g.role B = .c p → p ≠ .r 0 → ¬ X B := fun B p hp hne hx => by rw [hX B hx] at hp; injection hp with e; exact hne e.symm
  refine ⟨hi, h.h.keep k (fun B id b hB _ hx => by rw [hX B hx] at hB; cases hB) (fun B id off hB => nX B _ hB (by simp)) hlt, h.l.keep k (fun B id b hB _ hx => by rw [hX B hx] at hB; cases hB) (fun B id off hB => nX B _ hB (by simp)), h.m.keep k (fun B d l hB _ hx => by rw [hX B hx] at hB; cases hB),
    by show (S.sl.map Slot.unlent).length = _; rw [List.length_map]; exact h.len, fun t => ?_, h.fr.keep k (fun B hx => h.fr.role B (by rw [hX B hx]; simp)) (fun B hB hx _ => ?_), h.nodef⟩
  · rw [slot_unlent]
    refine SlotC.rel ?_ _
    have h1 := (h.sl t).c
    cases hst : S.slot t with
    | und => trivial
    | lp d off =>
      rw [hst] at h1
      obtain ⟨B, h2, h3⟩ := h1
      refine ⟨B, ?_, h3⟩
      have hB : B < w.heap.size := by
        rcases Nat.lt_or_ge B w.heap.size with hl | hl
        · exact hl
        · rw [(h.inv.new B hl).1] at h2; cases h2
      rw [hrole B hB]; exact h2
    | mp d =>
      rw [hst] at h1
      obtain ⟨B, h2, h3⟩ := h1
      refine ⟨B, ?_, h3⟩
      have hB : B < w.heap.size := by
        rcases Nat.lt_or_ge B w.heap.size with hl | hl
        · exact hl
        · rw [(h.inv.new B hl).1] at h2; cases h2
      rw [hrole B hB]; exact h2
    | val v f =>
      rw [hst] at h1
      refine ⟨h1.1.ext k.ext, ?_⟩
      cases f with
      | own => exact OwnAV.keep h1.2 k fun B hB => nX B _ hB (by simp)
      | comps cs => exact fun i hi us vs ui vi e1 e2 e3 e4 => OwnAV.keep (h1.2 i hi us vs ui vi e1 e2 e3 e4) k fun B hB => nX B _ hB (by simp)
      | _ => trivial
  · rcases h.fr.role B (by rw [hX B hx]; simp) with h1 | h1
    · omega
    · exact h1

theorem run_append_base {t t2 ty e : TypeId} {i : TypeInfo} {x : Value} {base : Option Addr} {n cap m : Nat} {news : List Value} (ht : P.underlying t = some (.slice e)) (ht2 : (∃ e2, P.underlying t2 = some (.slice e2)) ∨ P.underlying t2 = some .string)
    (hi : P.info? e = some i) (hlen : (Builtin.lenOf x).run P w = .ok m w) (hfc : (Builtin.firstCells i.size m x).run P w = .ok news.toArray w) (hroom : n + m ≤ cap) :
    (Builtin.append_ #[t, t2] ty #[.slice base n cap, x]).run P w = (match base with
      | some a => (storeCells (a.add (n * i.size)) news).run P w
      | none => Result.ok () w).andThen fun _ w' => .ok (.slice base (n + m) cap) w' := by
  rcases ht2 with ⟨e2, ht2⟩ | ht2 <;> cases base <;> simp [Builtin.append_, run_und ht, run_und ht2, sizeOf, typeInfo, hi, hlen, hroom, hfc]

theorem run_append_grow' {t t2 ty e : TypeId} {i : TypeInfo} {z x : Value} {base : Option Addr} {n cap m : Nat} {olds news : List Value} (ht : P.underlying t = some (.slice e)) (ht2 : (∃ e2, P.underlying t2 = some (.slice e2)) ∨ P.underlying t2 = some .string)
    (hi : P.info? e = some i) (hz : i.zero = some z) (hlen : (Builtin.lenOf x).run P w = .ok m w) (hfc : (Builtin.firstCells i.size m x).run P w.drew = .ok news.toArray w.drew)
    (hfo : (Builtin.firstCells i.size n (.slice base n cap)).run P w.drew = .ok olds.toArray w.drew) (hgrow : cap < n + m) (h63 : n + m ≤ 140737488355328) (hb : (n + m) * i.bytes ≤ 140737488355328) :
    (Builtin.append_ #[t, t2] ty #[.slice base n cap, x]).run P w =
      .ok (.slice (some ⟨w.heap.size, 0, none⟩) (n + m) (grownCap w (n + m) cap e)) (w.drew.alloc (.cells (olds ++ (news ++ (Builtin.zeroCells z.cells (grownCap w (n + m) cap e - (n + m))).toList)).toArray e)) := by
  have hn : ¬ (n + m ≤ cap) := by omega
  have h63' : ¬ (9223372036854775807 < ((n : Int) + (m : Int))) := by omega
  have hfit := growslice_fits hgrow hb
  have h48' : ¬ (281474976710656 < Builtin.nextslicecap (n + m) cap * i.bytes) := by omega
  rcases ht2 with ⟨e2, ht2⟩ | ht2 <;>
    (simp [Builtin.append_, run_und ht, run_und ht2, sizeOf, typeInfo, zeroValue, hi, hz, hlen, hn, h63', h48', Question.forced, hfc, hfo, newRow, grownCap]; try (congr 2; apply Array.ext'; simp))

theorem rep_vs_own {u : Value} {sz : Nat} {tg : Bool} {l : List AV} (h : Rep g w u (.vs sz tg l)) (ho : OwnV g w (.r 0) sz u ∨ tg = true) : OwnV g w (.r 0) sz u := by
  rcases ho with ho | ho
  · exact ho
  · rcases rep_vs h with ⟨⟨q, rfl⟩, _⟩ | ⟨B, off, cap, vals, rfl, _, ht, _⟩
    · cases q with
      | none => exact .inl rfl
      | some a => exact .inr (.inl ⟨_, _, rfl⟩)
    · have := ht ho
      subst this
      exact .inr (.inl ⟨_, _, rfl⟩)

/-- the appending itself: the right of the first operand is with place '.r 0' -/
theorem append_core {st st2 ty e : TypeId} {ua ub : Value} {z : Nat} {tg : Bool} {l l2 : List AV} {news : List Value} {i : TypeInfo} {zv : Value} (hg : Rel g0 w0 Ex g S a w)
    (ht : P.underlying st = some (.slice e)) (ht2 : (∃ e2, P.underlying st2 = some (.slice e2)) ∨ P.underlying st2 = some .string) (hi : P.info? e = some i) (hzv : i.zero = some zv) (hzc : zv.cells.size = i.size) (_hsz : i.size ≠ 0)
    (hra : Rep g w ua (.vs z tg l)) (hz : z = i.size ∨ l = []) (ho : OwnV g w (.r 0) i.size ua) (hsrc : Src P g w i.size ub l2 news)
    (hb1 : (l.length + l2.length) * i.bytes ≤ 140737488355328) (hb2 : l.length + l2.length ≤ 140737488355328) :
    ∃ u' w' g', (Builtin.append_ #[st, st2] ty #[ua, ub]).run P w = .ok u' w' ∧ Rel g0 w0 Ex g' S.unlent a w' ∧ Rep g' w' u' (.vs i.size false (l ++ l2)) ∧ OwnV g' w' (.r 0) i.size u' ∧ (l2 ≠ [] → OwnB g' w' (.r 0) i.size u') := by
  have hszs : ∀ x ∈ l, x.cells.length = i.size := by
    rcases hz with rfl | rfl
    · rcases rep_vs hra with ⟨_, rfl⟩ | ⟨_, _, _, _, _, h, _⟩
      · simp
      · exact h
    · simp
  have hszs2 : ∀ x ∈ l ++ l2, x.cells.length = i.size := fun x hx => by
    rcases List.mem_append.1 hx with h | h
    · exact hszs x h
    · exact hsrc.sizes x h
  have hfc : ∀ w', (∀ B o, B < w.heap.size → w'.cell? ⟨B, o, none⟩ = w.cell? ⟨B, o, none⟩) → (Builtin.firstCells i.size l2.length ub).run P w' = .ok news.toArray w' := fun w' hw => by
    have h := hsrc.cells l2.length w' (Nat.le_refl _) hw
    rwa [List.take_of_length_le (by rw [hsrc.rep.1, flat_len hsrc.sizes]; exact Nat.le_refl _)] at h
  have hnl : news.length = l2.length * i.size := by rw [hsrc.rep.1, flat_len hsrc.sizes]
  -- the new block, where there is no room
  have grow : ∀ (base : Option Addr) (cap : Nat) (olds : List Value), ua = .slice base l.length cap → cap < l.length + l2.length → RepL g w olds (l.flatMap AV.cells) → (∀ u ∈ olds, u.oneCell' = true) →
      (Builtin.firstCells i.size l.length (.slice base l.length cap)).run P w.drew = .ok olds.toArray w.drew →
      ∃ u' w' g', (Builtin.append_ #[st, st2] ty #[ua, ub]).run P w = .ok u' w' ∧ Rel g0 w0 Ex g' S.unlent a w' ∧ Rep g' w' u' (.vs i.size false (l ++ l2)) ∧ OwnV g' w' (.r 0) i.size u' ∧ (l2 ≠ [] → OwnB g' w' (.r 0) i.size u') := by
    intro base cap olds hua hgr holds hone hfo
    subst hua
    have hrun := run_append_grow' (ty := ty) ht ht2 hi hzv (hsrc.len w) (hfc w.drew (fun _ _ _ => rfl)) hfo hgr hb2 hb1
    have hge := grownCap_ge w (l.length + l2.length) cap e
    generalize hcells : olds ++ (news ++ (Builtin.zeroCells zv.cells (grownCap w (l.length + l2.length) cap e - (l.length + l2.length))).toList) = cells at hrun
    have hd := hg.drew
    have hr := hd.newblk (w' := w.drew.alloc (.cells cells.toArray e)) (fun B hB => heap_alloc_lt w.drew _ hB) (size_alloc' w.drew _) rfl rfl rfl (.c (.r 0)) ((l.length + l2.length) * i.size) (.inr ⟨_, rfl⟩)
    have hk := keep_new (w' := w.drew.alloc (.cells cells.toArray e)) hd.inv (fun B hB => heap_alloc_lt w.drew _ hB) (by simp) rfl rfl rfl (.c (.r 0)) ((l.length + l2.length) * i.size)
    have hol : olds.length = l.length * i.size := by rw [holds.1, flat_len hszs]
    have hcl : cells.length = grownCap w (l.length + l2.length) cap e * i.size := by
      rw [← hcells]
      simp only [List.length_append, Array.length_toList, size_zeroCells, hzc, hol, hnl, ← Nat.add_mul]
      congr 1; omega
    have hat := heap_alloc_at w.drew (.cells cells.toArray e)
    have hB : OwnB (g.new w.drew.heap.size (.c (.r 0)) ((l.length + l2.length) * i.size)) (w.drew.alloc (.cells cells.toArray e)) (.r 0) i.size (.slice (some ⟨w.heap.size, 0, none⟩) (l.length + l2.length) (grownCap w (l.length + l2.length) cap e)) := ⟨w.heap.size, _, _, cells.toArray, e, rfl, by rw [new_role]; exact if_pos rfl, hat, by simpa using hcl, hge, by rw [new_pub]; exact if_pos rfl⟩
    refine ⟨_, _, _, hrun, hr.unlent, ?_, hB.v, fun _ => hB⟩
    have hrl := ((holds.append hsrc.rep).ext (⟨fun _ _ h => h, fun _ => Nat.le_refl _, fun _ _ _ => rfl⟩ : Ext g w g w.drew)).ext hk.ext
    rw [← List.flatMap_append] at hrl
    have hcat : ∀ (j : Nat) (u : Value), (olds ++ news)[j]? = some u → cells[j]? = some u := fun j u hu => by
      rw [← hcells, ← List.append_assoc, List.getElem?_append_left (List.getElem?_eq_some_iff.1 hu).1]; exact hu
    have := Rep.vs (g := g.new w.drew.heap.size (.c (.r 0)) ((l.length + l2.length) * i.size)) (w := w.drew.alloc (.cells cells.toArray e)) w.heap.size 0 (grownCap w (l.length + l2.length) cap e) i.size false (l ++ l2) (olds ++ news) hrl.1 hszs2 (by simp) (by rw [List.length_append]; exact hge)
      (fun j u hu => by
        have h1 := hcat j u hu
        refine ⟨?_, ?_, ?_⟩
        · rw [Nat.zero_add]; simp only [World.cell?]; rw [show (w.drew.alloc (Obj.cells cells.toArray e)).heap[w.heap.size]? = some (Obj.cells cells.toArray e) from hat]; simpa using h1
        · rw [Nat.zero_add, new_pub, if_pos (show w.heap.size = w.drew.heap.size from rfl)]
          have := (List.getElem?_eq_some_iff.1 hu).1
          rw [List.length_append, hol, hnl, ← Nat.add_mul] at this
          exact this
        · rcases List.mem_append.1 (List.mem_of_getElem? hu) with h | h
          · exact hone u h
          · exact hsrc.one u h) hrl.2
    rw [List.length_append] at this
    exact this
  -- nothing to write
  have none' : ∀ (base : Option Addr) (cap : Nat), ua = .slice base l.length cap → l2 = [] → l.length ≤ cap → 
      ∃ u' w' g', (Builtin.append_ #[st, st2] ty #[ua, ub]).run P w = .ok u' w' ∧ Rel g0 w0 Ex g' S.unlent a w' ∧ Rep g' w' u' (.vs i.size false (l ++ l2)) ∧ OwnV g' w' (.r 0) i.size u' ∧ (l2 ≠ [] → OwnB g' w' (.r 0) i.size u') := by
    intro base cap hua hl2 hle
    subst hl2 hua
    have hn0 : news = [] := List.eq_nil_of_length_eq_zero (by simpa using hnl)
    subst hn0
    have hrun := run_append_base (ty := ty) (base := base) ht ht2 hi (hsrc.len w) (hfc w (fun _ _ _ => rfl)) (by simpa using hle)
    refine ⟨.slice base l.length cap, w, g, ?_, hg.unlent, ?_, ho, fun h => absurd rfl h⟩
    · rw [hrun]; cases base <;> rfl
    · rw [List.append_nil]
      rcases rep_vs hra with ⟨⟨p0, hu⟩, rfl⟩ | ⟨B, off, cap', vals, hu, hs, ht', hc, hcell, hrl⟩
      · injection hu with e1 e2 e3; subst e1 e3; exact .vsnil _ _ _
      · injection hu with e1 e2 e3; subst e1 e3; exact .vs B off _ _ false l vals hrl.1 hszs (by simp) hle hcell hrl.2
  -- an empty one without room
  have odd : ∀ p, ua = .slice p 0 0 → l = [] →
      ∃ u' w' g', (Builtin.append_ #[st, st2] ty #[ua, ub]).run P w = .ok u' w' ∧ Rel g0 w0 Ex g' S.unlent a w' ∧ Rep g' w' u' (.vs i.size false (l ++ l2)) ∧ OwnV g' w' (.r 0) i.size u' ∧ (l2 ≠ [] → OwnB g' w' (.r 0) i.size u') := by
    intro p hp hl
    subst hl
    by_cases hm : l2 = []
    · exact none' p 0 hp hm (Nat.le_refl _)
    · refine grow p 0 [] hp ?_ ⟨rfl, by simp⟩ (by simp) ?_
      · have : l2.length ≠ 0 := fun h => hm (List.eq_nil_of_length_eq_zero h)
        simp only [List.length_nil]; omega
      · cases p with
        | none => simp [Builtin.firstCells]
        | some ad =>
          have := run_loadCells_list (P := P) w.drew ad [] (fun j v hv => by simp at hv)
          simpa [Builtin.firstCells] using this
  rcases ho with hnil | ⟨ad, n, htight⟩ | ⟨B, n, cap, us, e', hu, hrole, hheap, hus, hncap, hpub⟩
  · -- nil
    obtain ⟨p, cap, he, hcap⟩ := rep_vs_len hra
    have hl0 : l = [] := by
      rw [hnil] at he; injection he with _ e2 _; exact List.eq_nil_of_length_eq_zero e2.symm
    subst hl0
    by_cases hm : l2 = []
    · exact none' none 0 (by rw [hnil]; rfl) hm (Nat.le_refl _)
    · refine grow none 0 [] (by rw [hnil]; rfl) ?_ ⟨rfl, by simp⟩ (by simp) (by simp [Builtin.firstCells])
      have : l2.length ≠ 0 := fun h => hm (List.eq_nil_of_length_eq_zero h)
      simp only [List.length_nil]; omega
  · -- no room
    rcases rep_vs hra with ⟨⟨p0, hu⟩, hl0⟩ | ⟨B, off, cap', vals, hu, hs, ht', hc, hcell, hrl⟩
    · exact odd p0 hu hl0
    · have hcap : cap' = l.length := by rw [htight] at hu; injection hu with _ e2 e3; rw [← e3, e2]
      subst hcap
      by_cases hm : l2 = []
      · exact none' _ _ hu hm (Nat.le_refl _)
      · have hca : CellsAt w B off vals := fun j u hu => ⟨(hcell j u hu).1, (hcell j u hu).2.2⟩
        refine grow _ _ vals hu ?_ hrl hca.one ?_
        · have : l2.length ≠ 0 := fun h => hm (List.eq_nil_of_length_eq_zero h)
          omega
        · simp only [Builtin.firstCells]
          have hca' : CellsAt w.drew B off vals := hca
          exact hca'.run (by rw [hrl.1, flat_len hszs])
  · -- a block of one's own
    rcases rep_vs hra with ⟨⟨p0, hu2⟩, hl0⟩ | ⟨B2, off, cap', vals, hu2, hs, ht', hc, hcell, hrl⟩
    · exact odd p0 hu2 hl0
    · have h3 := hu2
      rw [hu] at h3
      injection h3 with e1 e2 e3
      injection e1 with e1
      injection e1 with e1 e4 _
      subst e1 e2 e3 e4
      have hvl : vals.length = l.length * i.size := by rw [hrl.1, flat_len hszs]
      have hul : us.toList.length = us.size := Array.length_toList
      by_cases hroom : l.length + l2.length ≤ cap
      · -- in place
        have hrun := run_append_base (ty := ty) (base := some ⟨B, 0, none⟩) ht ht2 hi (hsrc.len w) (hfc w (fun _ _ _ => rfl)) hroom
        have hle : l.length * i.size + news.length ≤ us.size := by rw [hnl, hus, ← Nat.add_mul]; exact Nat.mul_le_mul_right _ hroom
        have hst := run_storeCells_at P B (l.length * i.size) e' news 0 us w hheap (by simpa using hle) hsrc.one
        simp only [Nat.add_zero, List.append_assoc] at hst
        generalize hrow : (us.toList.take (l.length * i.size) ++ (news ++ us.toList.drop (l.length * i.size + news.length))).toArray = row at hst
        have hrun2 : (Builtin.append_ #[st, st2] ty #[ua, ub]).run P w = .ok (.slice (some ⟨B, 0, none⟩) (l.length + l2.length) cap) (w.setRow B row) := by
          rw [hu, hrun]
          simp only [Addr.add_lit, Nat.zero_add]
          rw [hst]
          rfl
        let g2 : G := ⟨g.role, fun b => if b = B then (l.length + l2.length) * i.size else g.pub b⟩
        have hp2 : ∀ b, g2.pub b = if b = B then (l.length + l2.length) * i.size else g.pub b := fun _ => rfl
        have hat := setRow_heap w B us row e' (0, 0) hheap
        have hlow : ∀ o, o < l.length * i.size → row[o]? = us[o]? := fun o ho => by
          rw [← hrow]
          simp only [List.getElem?_toArray]
          rw [List.getElem?_append_left (by rw [List.length_take, hul]; omega), List.getElem?_take, if_pos ho]
          simp
        have hrow_size : row.size = us.size := by
          rw [← hrow]
          simp only [List.size_toArray, List.length_append, List.length_take, List.length_drop, hul]; omega
        have hext : Ext g w g2 (w.setRow B row) := by
          refine ⟨fun _ _ h => h, fun b => ?_, fun b o hb => ?_⟩
          · rw [hp2]; split
            · rename_i hbB; subst hbB; rw [hpub]; exact Nat.mul_le_mul_right _ (Nat.le_add_right _ _)
            · exact Nat.le_refl _
          · by_cases hbB : b = B
            · subst hbB
              rw [hpub] at hb
              simp only [World.cell?, hat, hheap]
              simp [hlow o hb]
            · exact cell_keep (setRow_other w B b _ hbB)
        have hk : Keep (fun b => b = B) g w g2 (w.setRow B row) := ⟨hext, rfl, rfl, rfl, by simp, fun b _ hne => ⟨setRow_other w B b _ hne, rfl, by rw [hp2, if_neg hne]⟩⟩
        have hinv : Inv g2 (w.setRow B row) := by
          have hBl := heap_lt hheap
          refine ⟨fun b hb => ?_, fun b id hb => ?_, fun b d hb => ?_, hg.inv.injh, hg.inv.injl⟩
          · have hb' : w.heap.size ≤ b := by simpa using hb
            rw [hp2, if_neg (by omega)]; exact hg.inv.new b hb'
          · rw [hp2, if_neg (fun e => by subst e; rw [show g2.role b = g.role b from rfl, hrole] at hb; cases hb)]; exact hg.inv.ph b id hb
          · rw [hp2, if_neg (fun e => by subst e; rw [show g2.role b = g.role b from rfl, hrole] at hb; cases hb)]; exact hg.inv.pl b d hb
        have hrel := hg.keepX hk hinv (fun b hb => by subst hb; exact hrole) (fun _ _ => rfl) hg.h.lt
        have hB : OwnB g2 (w.setRow B row) (.r 0) i.size (.slice (some ⟨B, 0, none⟩) (l.length + l2.length) cap) := ⟨B, _, cap, row, e', rfl, hrole, hat, by rw [hrow_size]; exact hus, hroom, by rw [hp2]; exact if_pos rfl⟩
        refine ⟨_, _, g2, hrun2, hrel, ?_, hB.v, fun _ => hB⟩
        have hrl2 := (hrl.append hsrc.rep).ext hext
        rw [← List.flatMap_append] at hrl2
        have := Rep.vs (g := g2) (w := w.setRow B row) B 0 cap i.size false (l ++ l2) (vals ++ news) hrl2.1 hszs2 (by simp) (by rw [List.length_append]; exact hroom)
          (fun j u hu => by
            have hj : j < (l.length + l2.length) * i.size := by
              have := (List.getElem?_eq_some_iff.1 hu).1
              rw [List.length_append, hvl, hnl, ← Nat.add_mul] at this
              exact this
            refine ⟨?_, by rw [Nat.zero_add, hp2, if_pos rfl]; exact hj, ?_⟩
            · rw [Nat.zero_add]
              by_cases hjl : j < l.length * i.size
              · rw [List.getElem?_append_left (by omega)] at hu
                have h1 := (hcell j u hu).1
                rw [Nat.zero_add] at h1
                simp only [World.cell?, hheap] at h1
                simp only [World.cell?, hat]
                simpa [hlow j hjl] using h1
              · rw [List.getElem?_append_right (by omega)] at hu
                simp only [World.cell?, hat]
                rw [← hrow]
                simp only [List.getElem?_toArray, Option.isSome_none, Bool.false_eq_true, if_false]
                rw [List.getElem?_append_right (by rw [List.length_take, hul]; omega), List.length_take, hul, Nat.min_eq_left (by omega), List.getElem?_append_left (by have := (List.getElem?_eq_some_iff.1 hu).1; omega)]
                rw [hvl] at hu
                exact hu
            · rcases List.mem_append.1 (List.mem_of_getElem? hu) with h | h
              · obtain ⟨j', hj'⟩ := List.mem_iff_getElem?.1 h
                exact (hcell j' u hj').2.2
              · exact hsrc.one u h) hrl2.2
        rw [List.length_append] at this
        exact this
      · have hca : CellsAt w B 0 vals := fun j u hu => ⟨(hcell j u hu).1, (hcell j u hu).2.2⟩
        refine grow _ _ vals hu (by omega) hrl hca.one ?_
        simp only [Builtin.firstCells]
        have hca' : CellsAt w.drew B 0 vals := hca
        exact hca'.run hvl


theorem putown_unlent (S : St) (d : Option Nat) (v : AV) (f : Fl) : S.unlent.unlent.putown d v f = S.unlent.putown d v f := by
  have : S.unlent.unlent = S.unlent := by
    show ({ S.unlent with sl := (S.sl.map Slot.unlent).map Slot.unlent } : St) = _
    rw [List.map_map]
    have : (Slot.unlent ∘ Slot.unlent) = Slot.unlent := by
      funext s
      cases s with
      | val v f => cases f <;> rfl
      | _ => rfl
    rw [this]
    rfl
  rw [this]

/-- an append that is done, its right still with place '.r 0' -/
def AppMid (P : Program) (o : Oper) (g0 : G) (w0 : World) (Ex : Nat → Prop) (a : Act) (w : World) (k : St → Option R) (r : R) (l : List AV) (sz : Nat) : Prop :=
  ∃ S0 l2 u' w' g', (execOp a.eval o).run P w = .ok (.value u') w' ∧ Rel g0 w0 Ex g' (St.unlent S0) a w' ∧ Rep g' w' u' (.vs sz false (l ++ l2)) ∧ OwnV g' w' (.r 0) sz u' ∧
    (l2 ≠ [] → OwnB g' w' (.r 0) sz u') ∧ (∃ d, o.dst = some d) ∧ k ((St.unlent S0).putown o.dst (.vs sz false (l ++ l2)) .own) = some r

theorem opAppend_mid {st st2 : TypeId} {x y : Operand} {k : St → Option R} (ho : o.op = .call { callee := .builtin .append, args := #[x, y], argTypes := #[st, st2] })
    (h : opAppend P o st st2 x y S k = some r) (hg : Rel g0 w0 Ex g S a w) : ∃ sz tg l, evT P S st x = .vs sz tg l ∧ AppMid P o g0 w0 Ex a w k r l sz := by
  unfold opAppend at h
  split at h
  · rename_i e he hzo
    have hu : P.underlying st = some (.slice e) := by
      unfold tElem at he
      split at he
      · rename_i e' hu; injection he with he; rw [hu, he]
      · cases he
    split at h
    · rename_i hz0 hst
      have hz : tSize P e ≠ 0 := fun e => by rw [e] at hz0; cases hz0
      obtain ⟨i, hi, hisz, hiby⟩ := info_of_pos hz
      obtain ⟨zv, hzv, hzc⟩ : ∃ zv, i.zero = some zv ∧ zv.cells.size = i.size := by
        unfold zeroOk at hzo
        rw [he] at hzo
        simp only at hzo
        split at hzo
        · rename_i z hzz
          obtain ⟨i', v, hi', hv, hr, _⟩ := zeroCells_some (g := g) (w := w) hzz
          rw [hi] at hi'
          injection hi' with hi'
          subst hi'
          refine ⟨v, hv, ?_⟩
          have := hr.1
          rw [Array.length_toList] at this
          rw [this, beq_true hzo, hisz]
        · cases hzo
      have ht2 : (∃ e2, P.underlying st2 = some (.slice e2)) ∨ P.underlying st2 = some .string := by
        unfold srcType at hst
        split at hst
        · exact .inl ⟨_, ‹_›⟩
        · exact .inr ‹_›
        · cases hst
      obtain ⟨l2, news, h1, hsrc⟩ := elemsOf_sound (P := P) hg h (hg.evT (P := P) st y)
      clear h
      simp only at h1
      obtain ⟨z, tg, l, hva, h2⟩ := vs?_some h1
      clear h1
      have hra := hg.evT (P := P) st x
      rw [hva] at hra
      split at h2
      · cases h2
      · rename_i hzz
        have hzl : z = i.size := by rw [hisz]; exact beq_true hzz
        subst hzl
        refine ⟨i.size, tg, l, hva, ?_⟩
        -- what is done once the right is at hand
        have fin : ∀ (S1 : St) (g1 : G), Rel g0 w0 Ex g1 S1 a w → Ext g w g1 w → OwnV g1 w (.r 0) i.size (a.eval x) →
            br (Nat.ble ((l.length + l2.length) * tBytes P e) maxBytes) (br (Nat.ble (l.length + l2.length) maxBytes) (match o.dst with
              | some _ => k (S1.unlent.putown o.dst (.vs (tSize P e) false (l ++ l2)) .own)
              | Option.none => Option.none) Option.none) Option.none = some r → AppMid P o g0 w0 Ex a w k r l i.size := by
          intro S1 g1 hr1 hE hown hk
          obtain ⟨hb1, hk⟩ := br_left hk
          obtain ⟨hb2, hk⟩ := br_left hk
          have hb1' := ble_true hb1
          have hb2' := ble_true hb2
          rw [← hiby] at hb1'
          rw [← hisz] at hsrc
          have hsrc1 : Src P g1 w i.size (a.eval y) l2 news := ⟨hsrc.rep.ext hE, hsrc.one, hsrc.sizes, hsrc.len, hsrc.shape, hsrc.cells⟩
          obtain ⟨u', w', g', hrun, hrel, hrep, hown', hB⟩ := append_core (ty := o.type) hr1 hu ht2 hi hzv hzc (by rw [hisz]; exact hz) (hra.ext hE) (.inl rfl) hown hsrc1 hb1' hb2'
          split at hk
          · rename_i d hd
            refine ⟨S1, l2, u', w', g', ?_, hrel, hrep, hown', hB, ⟨d, hd⟩, by rw [hisz]; exact hk⟩
            simp only [execOp, ho, resolve, invoke, builtin, Sem.run_bind, Sem.run_pure, Result.andThen_ok, List.map_toArray, List.map_cons, List.map_nil, hrun]
          · cases hk
        have tight : ∀ (hk : br tg (br (Nat.ble ((l.length + l2.length) * tBytes P e) maxBytes) (br (Nat.ble (l.length + l2.length) maxBytes) (match o.dst with
              | some _ => k (S.unlent.putown o.dst (.vs (tSize P e) false (l ++ l2)) .own)
              | Option.none => Option.none) Option.none) Option.none) Option.none = some r), AppMid P o g0 w0 Ex a w k r l i.size := by
          intro hk
          obtain ⟨htg, hk⟩ := br_left hk
          refine fin S g hg (Ext.refl _ _) ?_ hk
          rcases rep_vs hra with ⟨⟨q, h⟩, _⟩ | ⟨B, off, cap, vals, h, _, ht, _⟩
          · cases q with
            | none => exact .inl h
            | some ad => exact .inr (.inl ⟨_, _, h⟩)
          · have := ht htg
            subst this
            exact .inr (.inl ⟨_, _, h⟩)
        -- the right of a place goes to the appending
        have take : ∀ (S1 : St) (p : Pl), Rel g0 w0 Ex g S1 a w → NoClaim S1 p → OwnAV g w p (a.eval x) (.vs i.size tg l) →
            br (Nat.ble ((l.length + l2.length) * tBytes P e) maxBytes) (br (Nat.ble (l.length + l2.length) maxBytes) (match o.dst with
              | some _ => k (S1.unlent.putown o.dst (.vs (tSize P e) false (l ++ l2)) .own)
              | Option.none => Option.none) Option.none) Option.none = some r → AppMid P o g0 w0 Ex a w k r l i.size := by
          intro S1 p hr1 hnc hown hk
          obtain ⟨g1, h3, h4, h5, h6, h7, _⟩ := hr1.retag hnc hown (.r 0)
          exact fin S1 g1 h3 ⟨fun B id h => (h5 B id).2 h, fun B => by rw [h7]; exact Nat.le_refl _, fun _ _ _ => rfl⟩ h4 hk
        have slotOwn : ∀ (q : Nat) (v : AV), S.slot q = .val v .own → a.tmps.getD q undef = a.eval x → v = .vs i.size tg l →
            br (Nat.ble ((l.length + l2.length) * tBytes P e) maxBytes) (br (Nat.ble (l.length + l2.length) maxBytes) (match o.dst with
              | some _ => k ((S.put q (.val v .no)).unlent.putown o.dst (.vs (tSize P e) false (l ++ l2)) .own)
              | Option.none => Option.none) Option.none) Option.none = some r → AppMid P o g0 w0 Ex a w k r l i.size := by
          intro q v hs heq hv hk
          have hlt : q < S.sl.length := nthS_lt (by show S.slot q ≠ _; rw [hs]; simp)
          have hown := (hg.slotv hs).2
          refine take _ (.s q) (hg.reflag hs (f' := .no) trivial (by simp) (by simp)) ?_ ?_ hk
          · intro v' hv'
            rw [slot_put, if_pos ⟨rfl, hlt⟩] at hv'
            injection hv' with _ e
            cases e
          · have h1 : OwnAV g w (.s q) (a.tmps.getD q undef) v := hown
            rw [heq, hv] at h1
            exact h1
        split at h2
        · rename_i c
          refine fin S g hg (Ext.refl _ _) ?_ h2
          -- a constant slice is nil
          rcases rep_vs hra with ⟨⟨q, h⟩, _⟩ | ⟨B, off, cap, vals, h, _⟩
          · cases q with
            | none => exact .inl h
            | some ad => exact .inr (.inl ⟨_, _, h⟩)
          · exfalso
            have hc : a.eval (.const c) = c := rfl
            rw [hc] at h
            subst h
            have : evT P S st (.const (Value.slice (some ⟨B, off, none⟩) l.length cap)) = .undef := rfl
            rw [this] at hva
            cases hva
        · rename_i t
          have hev : ∀ v f, S.slot t = .val v f → v = .vs i.size tg l := fun v f hs => by
            have : evT P S st (.tmp t) = v := by show (S.slot t).av = v; rw [hs]; rfl
            rw [← this, hva]
          split at h2
          · rename_i v hs
            exact slotOwn t v hs rfl (hev v _ hs) h2
          · rename_i v q hs
            split at h2
            · rename_i u hq
              obtain ⟨h3, h4⟩ := (hg.slotv hs).2 u hq
              exact slotOwn q u hq h3 (h4.trans (hev v _ hs)) h2
            · exact tight h2
          · rename_i v d off hs
            obtain ⟨bl, hbl, h3⟩ := bind_some' h2
            have hv := hev v _ hs
            split at h3
            · rename_i hm
              obtain ⟨B, hB, hcell, hc⟩ := (hg.slotv hs).2 bl hbl (memN_iff.1 hm)
              obtain ⟨B', hB', hblk, hfree⟩ := hg.l d bl hbl
              obtain rfl := hg.inv.injl B B' d hB hB'
              have hown := hfree off (memN_iff.1 hm) _ _ hcell hc
              rw [hv] at hown
              refine take { S with L := setL S.L d ⟨bl.cells, delN off bl.free⟩ } (.l d off) ⟨hg.inv, hg.h, fun d' b' hb' => ?_, hg.m, hg.len, fun t' => ?_, hg.fr, hg.nodef⟩ ?_ hown ?_
              · rw [getL_setL] at hb'
                split at hb'
                · rename_i hd
                  subst hd
                  injection hb' with hb'
                  subst hb'
                  exact ⟨B, hB, hblk, fun off' hoff' => hfree off' (mem_delN.1 hoff').1⟩
                · exact hg.l d' b' hb'
              · have h5 := hg.sl t'
                show SlotRel g _ a w t' (S.slot t')
                cases hst : S.slot t' with
                | und => trivial
                | lp d' off' => rw [hst] at h5; exact h5
                | mp d' => rw [hst] at h5; exact h5
                | val v2 f2 =>
                  rw [hst] at h5
                  refine ⟨h5.1, ?_⟩
                  cases f2 with
                  | lL d2 off2 =>
                    intro b2 hb2 hoff2
                    have hb2' : getL (setL S.L d ⟨bl.cells, delN off bl.free⟩) d2 = some b2 := hb2
                    rw [getL_setL] at hb2'
                    split at hb2'
                    · rename_i hd
                      subst hd
                      injection hb2' with hb2'
                      subst hb2'
                      exact h5.2 bl hbl (mem_delN.1 hoff2).1
                    · exact h5.2 b2 hb2' hoff2
                  | _ => exact h5.2
              · intro b' hb'
                have hb2 : getL (setL S.L d ⟨bl.cells, delN off bl.free⟩) d = some b' := hb'
                rw [getL_setL, if_pos rfl] at hb2
                injection hb2 with hb2
                subst hb2
                intro hh
                exact (mem_delN.1 hh).2 rfl
              · exact h3
            · exact tight h3
          · rename_i v id off hs
            obtain ⟨bl, hbl, h3⟩ := bind_some' h2
            have hv := hev v _ hs
            split at h3
            · rename_i hm
              obtain ⟨B, hB, hcell, hc⟩ := (hg.slotv hs).2 bl hbl (memN_iff.1 hm)
              obtain ⟨B', hB', hblk, hfree⟩ := hg.h.blk id bl hbl
              obtain rfl := hg.inv.injh B B' id hB hB'
              have hown := hfree off (memN_iff.1 hm) _ _ hcell hc
              rw [hv] at hown
              refine take { S with H := S.H.set id ⟨bl.cells, delN off bl.free⟩ } (.h id off) ⟨hg.inv, ⟨fun d' b' hb' => ?_, fun B' id'' hB' => Hp_set_ne (hg.h.lt B' id'' hB')⟩, hg.l, hg.m, hg.len, fun t' => ?_, hg.fr, hg.nodef⟩ ?_ hown ?_
              · have hb2 : S.H.set id ⟨bl.cells, delN off bl.free⟩ d' = some b' := hb'
                rw [Hp_set] at hb2
                split at hb2
                · rename_i hd
                  subst hd
                  injection hb2 with hb2
                  subst hb2
                  exact ⟨B, hB, hblk, fun off' hoff' => hfree off' (mem_delN.1 hoff').1⟩
                · exact hg.h.blk d' b' hb2
              · have h5 := hg.sl t'
                show SlotRel g _ a w t' (S.slot t')
                cases hst : S.slot t' with
                | und => trivial
                | lp d' off' => rw [hst] at h5; exact h5
                | mp d' => rw [hst] at h5; exact h5
                | val v2 f2 =>
                  rw [hst] at h5
                  refine ⟨h5.1, ?_⟩
                  cases f2 with
                  | lH d2 off2 =>
                    intro b2 hb2 hoff2
                    have hb2' : S.H.set id ⟨bl.cells, delN off bl.free⟩ d2 = some b2 := hb2
                    rw [Hp_set] at hb2'
                    split at hb2'
                    · rename_i hd
                      subst hd
                      injection hb2' with hb2'
                      subst hb2'
                      exact h5.2 bl hbl (mem_delN.1 hoff2).1
                    · exact h5.2 b2 hb2' hoff2
                  | _ => exact h5.2
              · intro b' hb'
                have hb2 : S.H.set id ⟨bl.cells, delN off bl.free⟩ id = some b' := hb'
                rw [Hp_set, if_pos rfl] at hb2
                injection hb2 with hb2
                subst hb2
                intro hh
                exact (mem_delN.1 hh).2 rfl
              · exact h3
            · exact tight h3
          · exact tight h2
        · cases h2
    · cases h
  · cases h


theorem opAppend_step {st st2 : TypeId} {x y : Operand} {k : St → Option R} (ho : o.op = .call { callee := .builtin .append, args := #[x, y], argTypes := #[st, st2] })
    (h : opAppend P o st st2 x y S k = some r) (hg : Rel g0 w0 Ex g S a w) : StepTo P o a w g0 w0 Ex k r := by
  obtain ⟨sz, tg, l, _, S0, l2, u', w', g', hrun, hrel, hrep, hown', _, ⟨d, hd⟩, hk⟩ := opAppend_mid ho h hg
  obtain ⟨g2, h3, h4, h5, h6, h7, _⟩ := hrel.retag (p := .r 0) trivial (c := .vs sz false (l ++ l2)) hown' (.s d)
  have hE2 : Ext g' w' g2 w' := ⟨fun B id h => (h5 B id).2 h, fun B => by rw [h7]; exact Nat.le_refl _, fun _ _ _ => rfl⟩
  refine .mk (u := u') (w' := w') hrun ⟨g2, ?_⟩ hk
  rw [hd]
  exact h3.putown (some d) (hrep.ext hE2) (fun d' e => by injection e with e; subst e; exact h4) (.inr (.inl rfl))

end
end Go.Vai
