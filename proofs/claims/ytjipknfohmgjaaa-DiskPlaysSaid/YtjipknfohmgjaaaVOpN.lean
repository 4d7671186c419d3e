/- Package-level variables, interface values, maps that stay in the frame, constant boxes. -/
import Derived.Test.YtjipknfohmgjaaaVOpM
namespace Go.Vai

section
variable {X : Nat → Prop} {g0 : G} {w0 : World} {Ex : Nat → Prop} {g g' : G} {S : St} {a : Act} {w w' : World} {P : Program} {R : Type} {r : R} {o : Oper} {A : List (Nat × Ann)} {cal : Oracle}

theorem glob_cells {i : Nat} {cs : List AV} (h : GlobOk A g w) (hi : globOf A i = some cs) : ∃ vals, CellsAt w i 0 vals ∧ RepL g w vals cs ∧ ∀ (j : Nat) (u : Value), vals[j]? = some u → j < g.pub i := by
  obtain ⟨B, off, vals, he, hc, hrl⟩ := rep_cptr (h i cs hi).2
  injection he with he
  injection he with he
  injection he with e1 e2 _
  subst e1 e2
  refine ⟨vals, fun j u hu => ⟨(hc j u hu).1, (hc j u hu).2.2⟩, hrl, fun j u hu => ?_⟩
  have := (hc j u hu).2.1
  omega

theorem opLoadA_step {t : TypeId} {x : Operand} {k : St → Option R} (ho : o.op = .load t x) (hgl : GlobOk A g w) (h : opLoadA P A o t x S k = some r) (hg : Rel g0 w0 Ex g S a w) : StepTo P o a w g0 w0 Ex k r := by
  unfold opLoadA at h
  split at h
  · rename_i gi
    obtain ⟨cs, hcs, h1⟩ := bind_some' h
    clear h
    obtain ⟨ag, d, hd, hk, hag⟩ := tAggK_some h1
    obtain ⟨vals, hc, hrl, _⟩ := glob_cells hgl hcs
    have hl := loadVar_sound (n := 0) hd hag hc hrl.part
    have he' : ∀ u, (loadVar t ⟨gi, 0 + 0, none⟩).run P w = .ok u w → (execOp a.eval o).run P w = .ok (.value u) w := by
      intro u hu
      have e : a.eval (.global gi) = .pointer (some ⟨gi, 0, none⟩) := rfl
      simp only [execOp, ho, Instr.loadAt, e, Instr.sureAddr, Sem.run_bind, Sem.run_pure, Result.andThen_ok, hu]
    cases ag with
    | true =>
      obtain ⟨h0, hk⟩ := br_left hk
      obtain ⟨u, hu, hrep⟩ := hl (ble_true h0)
      exact .val hg (he' u hu) hrep hk
    | false =>
      obtain ⟨c, hcc, hk⟩ := bind_some' hk
      rw [nth_get] at hcc
      obtain ⟨u, hu, hrep, _⟩ := hl c hcc
      exact .val hg (he' u hu) hrep hk
  · exact opLoad_step ho h hg

theorem opIndexAddrA_step {t : TypeId} {x ix : Operand} {k : St → Option R} (ho : o.op = .indexAddr t x ix) (hgl : GlobOk A g w) (h : opIndexAddrA P A o t x ix S k = some r) (hg : Rel g0 w0 Ex g S a w) : StepTo P o a w g0 w0 Ex k r := by
  unfold opIndexAddrA at h
  split at h
  · rename_i gi
    obtain ⟨cs, hcs, h1⟩ := bind_some' h
    clear h
    obtain ⟨ik, i, hix, h2⟩ := int?_some h1
    clear h1
    have hi := hg.ev ix
    rw [hix] at hi
    have hi' := rep_int hi
    obtain ⟨vals, hc, hrl, hp⟩ := glob_cells hgl hcs
    unfold idxG at h2
    split at h2
    · rename_i len e hu
      split at h2
      · cases h2
      · rename_i hz
        have hz' : tSize P e ≠ 0 := fun e => by rw [e] at hz; cases hz
        obtain ⟨h3, h4⟩ := br_left h2
        obtain ⟨h5, h6⟩ := br_left h4
        obtain ⟨h7, h8⟩ := br_left h6
        have h0' : 0 ≤ i := by simpa using h3
        have h3' : i < (len : Int) := by simpa using h5
        have h9 := ble_true h7
        have ev : a.eval (.global gi) = .pointer (some ⟨gi, 0, none⟩) := rfl
        have hk : (execOp a.eval o).run P w = .ok (.value (.pointer (some ((⟨gi, 0, none⟩ : Addr).add (i.toNat * tSize P e))))) w := by
          simp only [execOp, ho, Instr.indexAt, hi', asIntOf, Sem.run_bind, Sem.run_pure, Result.andThen_ok, run_und hu, ev, Instr.sureAddr, if_pos (And.intro h0' h3'), Sem.run_ite, run_sizeOf_pos hz']
        rw [Addr.add_lit] at hk
        refine .val hg hk (.cptr gi _ _ (vals.drop (i.toNat * tSize P e)) (hrl.drop _).1 (fun j u hu => ?_) (hrl.drop _).2) h8
        have hj : vals[i.toNat * tSize P e + j]? = some u := by simpa [List.getElem?_drop] using hu
        have := hc _ u hj
        refine ⟨?_, ?_, this.2⟩
        · have e : 0 + i.toNat * tSize P e + j = 0 + (i.toNat * tSize P e + j) := by omega
          rw [e]; exact this.1
        · have := hp _ u hj
          omega
    · cases h2
  · exact opIndexAddr_step ho h hg

theorem opIface_step {t : TypeId} {x : Operand} {k : St → Option R} (ho : o.op = .makeInterface t x) (h : opIface P t (evT P S t x) (fun v => k (S.putd o.dst (.val v .no))) = some r) (hg : Rel g0 w0 Ex g S a w) : StepTo P o a w g0 w0 Ex k r := by
  have hx := hg.evT (P := P) t x
  unfold opIface at h
  split at h
  · cases h
  · rename_i d hd hu
    refine .val hg ?_ (.iface t _ _ hx) h
    have : (Instr.makeInterface t (a.eval x)).run P w = .ok (.iface t (a.eval x)) w := by
      simp only [Instr.makeInterface, Sem.run_bind, run_und hu, Result.andThen_ok]
      cases d <;> first | exact absurd rfl (hd _) | rfl
    simp only [execOp, ho, Sem.run_bind, this, Result.andThen_ok, Sem.run_pure]
  · cases h

theorem cbox_step {e : TypeId} {x : Operand} {k : St → Option R} (ho : o.op = .box e x) (h : ((evT P S e x).cells? fun cs => br (Nat.ble cs.length 16777216) (k (S.putd o.dst (.val (.cptr cs) .no))) Option.none) = some r) (hg : Rel g0 w0 Ex g S a w) : StepTo P o a w g0 w0 Ex k r := by
  obtain ⟨cs, us, h2, hcells, hr, h1, _⟩ := cells?_sound (hg.evT (P := P) e x) h
  obtain ⟨_, h3⟩ := br_left h2
  have hrun : (execOp a.eval o).run P w = .ok (.value (.pointer (some ⟨w.heap.size, 0, none⟩))) (w.alloc (.cells us.toArray e)) := by
    simp [execOp, ho, Instr.box, newVar, newRow, hcells]
  refine .mk hrun ?_ h3
  have hrel := hg.newblk (w' := w.alloc (.cells us.toArray e)) (fun B hB => heap_alloc_lt w _ hB) (size_alloc' w _) rfl rfl rfl .ext us.length (.inl rfl)
  have hk := keep_new (w' := w.alloc (.cells us.toArray e)) hg.inv (fun B hB => heap_alloc_lt w _ hB) (by simp) rfl rfl rfl .ext us.length
  refine ⟨_, hrel.putv (f := .no) o.dst ?_ (fun _ _ => trivial) (by simp) (by simp)⟩
  refine .cptr w.heap.size 0 cs us hr.1 (fun j u hu => ?_) (hr.ext hk.ext).2
  obtain ⟨h7, h8⟩ := blk_cells (heap_alloc_at w _) h1 j u hu
  refine ⟨h7, ?_, h8⟩
  rw [new_pub, if_pos rfl, Nat.zero_add]
  exact (List.getElem?_eq_some_iff.1 hu).1

end
end Go.Vai
