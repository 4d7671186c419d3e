/- New variables, make, copy. -/
import Derived.Test.YtjipknfohmgjaaaVOp10
namespace Go.Vai

section
variable {X : Nat → Prop} {g0 : G} {w0 : World} {Ex : Nat → Prop} {g g' : G} {S : St} {a : Act} {w w' : World} {P : Program} {R : Type} {r : R} {o : Oper}

theorem ofConst1_vs {sz : Nat} {c : Value} {z : Nat} {tg : Bool} {l : List AV} (h : ofConst1 sz c = .vs z tg l) : c = .slice none 0 0 := by
  unfold ofConst1 at h
  split at h <;> first | rfl | cases h | (split at h <;> cases h)

theorem tightPlaces_spec : ∀ (z : List AV) (n off : Nat), off ∈ tightPlaces n z → ∃ j, off = n + j ∧ ∃ sz l, z[j]? = some (.vs sz true l)
  | [], n, off, h => by simp [tightPlaces] at h
  | x :: l, n, off, h => by
    have rest : off ∈ tightPlaces (n + 1) l → ∃ j, off = n + j ∧ ∃ sz l', (x :: l)[j]? = some (.vs sz true l') := fun h => by
      obtain ⟨j, h1, h2⟩ := tightPlaces_spec l (n + 1) off h
      exact ⟨j + 1, by omega, by simpa using h2⟩
    unfold tightPlaces at h
    split at h
    · rename_i sz tg l'
      split at h
      · rcases List.mem_cons.1 h with e | h
        · exact ⟨0, by omega, sz, l', by rfl⟩
        · exact rest h
      · exact rest h
    · exact rest h
theorem tight0 {z : List AV} : ∀ off ∈ tightPlaces 0 z, ∃ sz l, z[off]? = some (.vs sz true l) := fun off h => by
  obtain ⟨j, h1, h2⟩ := tightPlaces_spec z 0 off h
  rw [Nat.zero_add] at h1
  rw [h1]
  exact h2

theorem alloc_step {A : Ann} {e : TypeId} {z : List AV} {k : St → Option R} (ho : o.op = .alloc e) (hz : zeroCells P e = some z) (h : opNew A o z (tightPlaces 0 z) S k = some r) (hg : Rel g0 w0 Ex g S a w) : StepTo P o a w g0 w0 Ex k r := by
  obtain ⟨i, v, hi, hv, hr, h1⟩ := zeroCells_some (g := g) (w := w) hz
  refine opNew_step (us := v.cells.toList) (e := e) ?_ h1 hr.part tight0 h hg
  simp [execOp, ho, Instr.alloc, zeroValue, typeInfo, hi, hv, newVar, newRow]

theorem box_step {A : Ann} {e : TypeId} {x : Operand} {k : St → Option R} (ho : o.op = .box e x) (h : ((evT P S e x).cells? fun cs => opNew A o cs (tightPlaces 0 cs) S k) = some r) (hg : Rel g0 w0 Ex g S a w) : StepTo P o a w g0 w0 Ex k r := by
  obtain ⟨cs, us, h2, hcells, hr, h1, _⟩ := cells?_sound (hg.evT (P := P) e x) h
  refine opNew_step (us := us) (e := e) ?_ h1 hr.part tight0 h2 hg
  simp [execOp, ho, Instr.box, newVar, newRow, hcells]

theorem wrap_small {n : Int} (h0 : 0 ≤ n) (h1 : n ≤ 281474976710656) : IntKind.i64.wrap n = n := by
  simp [IntKind.wrap, IntKind.bits, IntKind.signed]; omega

theorem opMake_step {t : TypeId} {n c : Operand} {k : St → Option R} (ho : o.op = .makeSlice t n c) (h : opMake P o t n c S k = some r) (hg : Rel g0 w0 Ex g S a w) : StepTo P o a w g0 w0 Ex k r := by
  unfold opMake at h
  split at h
  · cases h
  · rename_i e he
    have hu : P.underlying t = some (.slice e) := by
      unfold tElem at he
      split at he
      · rename_i e' hu; injection he with he; rw [hu, he]
      · cases he
    split at h
    · cases h
    · rename_i z hz
      obtain ⟨i, v, hi, hv, hrz, h1z⟩ := zeroCells_some (g := g) (w := w) hz
      split at h
      · rename_i hz0 hzl
        have hzpos : tSize P e ≠ 0 := fun e => by rw [e] at hz0; cases hz0
        have hsz : i.size = tSize P e := by simp [tSize, hi]
        have hby : i.bytes = tBytes P e := by simp [tBytes, hi]
        have hvl : v.cells.size = tSize P e := by rw [← beq_true hzl, ← hrz.1, Array.length_toList]
        obtain ⟨nk, len, hn, h2⟩ := int?_some h
        obtain ⟨ck, cap, hc, h3⟩ := int?_some h2
        obtain ⟨b1, h4⟩ := br_left h3
        obtain ⟨b2, h5⟩ := br_left h4
        obtain ⟨b3, h6⟩ := br_left h5
        obtain ⟨b4, h7⟩ := br_left h6
        clear h h2 h3 h4 h5 h6
        have c1 : 0 ≤ len := by simpa using b1
        have c2 : len ≤ cap := by simpa using b2
        have c3 : cap * (tBytes P e : Int) ≤ 281474976710656 := by simpa using b3
        have c4 : cap ≤ 281474976710656 := by simpa using b4
        have hnr := hg.ev n
        rw [hn] at hnr
        have hn' := rep_int hnr
        have hcr := hg.ev c
        rw [hc] at hcr
        have hc' := rep_int hcr
        have w1 := wrap_small c1 (by omega : len ≤ 281474976710656)
        have w2 := wrap_small (by omega : 0 ≤ cap) c4
        have hzc : ∀ m : Nat, ((Array.range (m * i.size)).map (v.cells[· % v.cells.size]!)) = ((List.replicate m v.cells.toList).flatten).toArray := by
          intro m
          apply Array.ext'
          rw [Array.toList_map, Array.toList_range, hvl, hsz]
          have := range_repl v.cells.toList (tSize P e) (by rw [Array.length_toList]; exact hvl) (by omega) m
          simpa using this
        have hrun : (execOp a.eval o).run P w = .ok (.value (.slice (some ⟨w.heap.size, 0, none⟩) len.toNat cap.toNat)) (w.alloc (.cells ((List.replicate cap.toNat v.cells.toList).flatten).toArray e)) := by
          have hb' : ¬ (281474976710656 < (i.bytes : Int) * cap) := by rw [hby, Int.mul_comm]; omega
          have hneg : ¬ cap < 0 := by omega
          have hneg2 : ¬ len < 0 := by omega
          have hgt : ¬ cap < len := by omega
          have hn0 : cap.toNat * i.size = 0 ∨ ¬ cap.toNat * i.size = 0 := Classical.em _
          simp only [execOp, ho, Instr.makeSlice, hn', hc', asInt, asIntOf, Sem.run_bind, run_und hu, Result.andThen_ok, typeInfo, run_program, hi, Sem.run_pure, w1, w2, sizeOf]
          rcases hn0 with h0 | h0
          · have hc0 : cap.toNat = 0 := by
              rcases Nat.mul_eq_zero.1 h0 with h | h
              · exact h
              · rw [hsz] at h; exact absurd h hzpos
            have hcap0 : cap = 0 := by omega
            have hlen0 : len = 0 := by omega
            subst hcap0 hlen0
            simp [newRow, hi, show Array.range 0 = #[] from rfl]
          · simp [hb', hneg, hneg2, hgt, h0, zeroValue, typeInfo, hi, hv, newRow, hzc]
        have hrc := hrz.repl (w := w) (g := g) cap.toNat
        have h1c : ∀ u ∈ (List.replicate cap.toNat v.cells.toList).flatten, u.oneCell' = true := fun u hu => by
          obtain ⟨l, hl, hul⟩ := List.mem_flatten.1 hu
          rw [(List.mem_replicate.1 hl).2] at hul
          exact h1z u hul
        rcases br_some h7 with ⟨b5, h8⟩ | ⟨_, h8⟩
        · have e5 : len = cap := by simpa using b5
          subst e5
          obtain ⟨hn, h8⟩ := new?_some h8
          refine .mk hrun ⟨_, (hg.newHf (free := []) e hn (S.nx + 1) (oneP_of h1c _) hrc.part (by simp)).putv (f := .no) o.dst ?_ (fun _ _ => trivial) (by simp) (by simp)⟩ h8
          exact .arr w.heap.size S.nx 0 len.toNat len.toNat (tSize P e) (by rw [new_role, if_pos rfl]) (Nat.le_refl _)
        · obtain ⟨b6, h9⟩ := br_left h8
          have e6 : len = 0 := by simpa using b6
          subst e6
          have hold : ∀ B, B < w.heap.size → (w.alloc (.cells ((List.replicate cap.toNat v.cells.toList).flatten).toArray e)).heap[B]? = w.heap[B]? := fun B hB => heap_alloc_lt w _ hB
          have hat := heap_alloc_at w (.cells ((List.replicate cap.toNat v.cells.toList).flatten).toArray e)
          cases hd : o.dst with
          | none =>
            rw [hd] at h9
            refine .mk hrun ⟨g.new w.heap.size .ext 0, ?_⟩ h9
            rw [hd]
            exact hg.newblk (w' := w.alloc (.cells ((List.replicate cap.toNat v.cells.toList).flatten).toArray e)) hold (size_alloc' w _) rfl rfl rfl .ext 0 (.inl rfl)
          | some d =>
            rw [hd] at h9
            refine .mk hrun ⟨g.new w.heap.size (.c (.s d)) 0, ?_⟩ h9
            rw [hd]
            refine (hg.newblk (w' := w.alloc (.cells ((List.replicate cap.toNat v.cells.toList).flatten).toArray e)) hold (size_alloc' w _) rfl rfl rfl (.c (.s d)) 0 (.inr ⟨_, rfl⟩)).putown (some d) ?_ (fun d' e' => ?_) (.inr (.inl rfl))
            · exact .vs w.heap.size 0 cap.toNat (tSize P e) false [] [] (by simp) (by simp) (by simp) (by simp) (by simp) (by simp)
            · injection e' with e'
              subst e'
              refine .inr (.inr ⟨w.heap.size, _, _, _, e, rfl, by rw [new_role]; exact if_pos rfl, hat, ?_, by omega, ?_⟩)
              · rw [List.size_toArray, hrc.1, replC_eq, List.length_flatten]
                simp [beq_true hzl]
              · rw [new_pub, if_pos rfl]; simp
      · cases h

theorem opCopy_step {dt st : TypeId} {d s : Operand} {k : St → Option R} (ho : o.op = .call { callee := .builtin .copy, args := #[d, s], argTypes := #[dt, st] }) (h : opCopy P o dt d s S k = some r) (hg : Rel g0 w0 Ex g S a w) :
    StepTo P o a w g0 w0 Ex k r := by
  unfold opCopy at h
  split at h
  · cases h
  · rename_i e he
    have hu : P.underlying dt = some (.slice e) := by
      unfold tElem at he
      split at he
      · rename_i e' hu; injection he with he; rw [hu, he]
      · cases he
    split at h
    · rename_i hag h1
      have hsz := beq_true h1
      have hpos : tSize P e ≠ 0 := by omega
      obtain ⟨l, news, h2, hsrc⟩ := elemsOf_sound (P := P) hg h (hg.evT (P := P) dt s)
      clear h
      have hdr := hg.evT (P := P) dt d
      split at h2
      · rename_i id off len z hd
        rw [hd] at hdr
        obtain ⟨B, cap, hB, hev, hcap⟩ := rep_arr hdr
        split at h2
        · obtain ⟨b, hb, h3⟩ := bind_some' h2
          obtain ⟨h4, h5⟩ := br_left h3
          have hle := ble_true h4
          obtain ⟨B', hB', ⟨us, e', hheap, hone, hrl⟩, hfree⟩ := hg.h.blk id b hb
          obtain rfl := hg.inv.injh B B' id hB hB'
          have hmin : Nat.min l.length len ≤ l.length := Nat.min_le_left _ _
          have hfc := hsrc.cells (Nat.min l.length len) w hmin (fun _ _ _ => rfl)
          rw [Nat.mul_one] at hfc
          have hflat := flat_len hsrc.sizes
          rw [Nat.mul_one] at hflat
          have hnl : news.length = l.length := by rw [hsrc.rep.1, hflat]
          have hml : Nat.min l.length len ≤ len := Nat.min_le_right _ _
          have hcl : (news.take (Nat.min l.length len)).length = Nat.min l.length len := by rw [List.length_take, hnl]; exact Nat.min_eq_left hmin
          have hul := hrl.1
          have hst := run_storeCells_at P B off e' (news.take (Nat.min l.length len)) 0 us.toArray w hheap (by rw [hcl]; simp only [List.size_toArray, Nat.add_zero]; omega) (fun v hv => hsrc.one v (List.mem_of_mem_take hv))
          simp only [Nat.add_zero, List.append_assoc] at hst
          have hpv : (us.toArray.toList.take off ++ ((news.take (Nat.min l.length len)) ++ us.toArray.toList.drop (off + (news.take (Nat.min l.length len)).length))) = patchV us off (news.take (Nat.min l.length len)) := rfl
          rw [hpv] at hst
          have hrun : (Builtin.copy_ #[dt, st] o.type #[a.eval d, a.eval s]).run P w = .ok (.int .i64 (Nat.min l.length len : Nat)) (w.setRow B (patchV us off (news.take (Nat.min l.length len))).toArray) := by
            simp only [Builtin.copy_, List.getElem?_toArray, List.getElem?_cons_zero, List.getElem?_cons_succ, Sem.run_bind, run_und hu, Result.andThen_ok, hev, hsrc.len w, run_sizeOf_pos hpos, hsz, hfc, hst, Sem.run_pure, goInt]
          have hfl := flatMap_take (z := 1) (Nat.min l.length len) hsrc.sizes
          rw [Nat.mul_one] at hfl
          have hnr : RepL g w (news.take (Nat.min l.length len)) ((l.take (Nat.min l.length len)).flatMap AV.cells) := by rw [hfl]; exact hsrc.rep.take _
          have hple : off + ((l.take (Nat.min l.length len)).flatMap AV.cells).length ≤ b.cells.length := by rw [← hnr.1, hcl]; omega
          have hw := hg.writeH (id := id) (B := B) (b := b) (us := us) (nus := patchV us off (news.take (Nat.min l.length len))) (e := e') (ncells := patch b.cells off ((l.take (Nat.min l.length len)).flatMap AV.cells)) (nfree := cutN off (off + len) b.free) hb hB hheap
            (hrl.patch hnr hple) (hone.patch hul (fun u hu => hsrc.one u (List.mem_of_mem_take hu)) hnr.1 hple) (fun i hi u v hu hv => by
              obtain ⟨hm, hn⟩ := mem_cutN.1 hi
              rw [patchV_get_out (by rw [hcl]; omega) (by rw [hcl]; omega)] at hu
              rw [patch_get_out hple (by rw [← hnr.1, hcl]; omega)] at hv
              exact hfree i hm u v (by simpa [World.cell?, hheap] using hu) hv)
          exact .mk (by simp only [execOp, ho, resolve, invoke, builtin, Sem.run_bind, Sem.run_pure, Result.andThen_ok, List.map_toArray, List.map_cons, List.map_nil, hrun]) ⟨g, hw.putv (f := .no) o.dst (.int _ _) (fun _ _ => trivial) (by simp) (by simp)⟩ h5
        · cases h2
      · rename_i z tg hd
        rw [hd] at hdr
        obtain ⟨p, cap, hev, hcap⟩ := rep_vs_len hdr
        have hfc := hsrc.cells 0 w (Nat.zero_le _) (fun _ _ _ => rfl)
        rw [Nat.zero_mul] at hfc
        refine .val hg (u := .int .i64 0) ?_ (.int _ _) h2
        have hrun : (Builtin.copy_ #[dt, st] o.type #[a.eval d, a.eval s]).run P w = .ok (.int .i64 0) w := by
          have hm0 : Nat.min l.length ([] : List AV).length = 0 := Nat.min_eq_right (Nat.zero_le _)
          simp only [Builtin.copy_, List.getElem?_toArray, List.getElem?_cons_zero, List.getElem?_cons_succ, Sem.run_bind, run_und hu, Result.andThen_ok, hev, hsrc.len w, run_sizeOf_pos hpos, hsz, hm0, hfc]
          cases p <;> simp [storeCells, goInt]
        simp only [execOp, ho, resolve, invoke, builtin, Sem.run_bind, Sem.run_pure, Result.andThen_ok, List.map_toArray, List.map_cons, List.map_nil, hrun]
      · cases h2
    · cases h

end
end Go.Vai
