/- The oracle, with the numbers and the strings. -/
import Derived.Test.YtfdijfnmloddcaaWOr3
import Derived.Test.YtfdijfnmloddcaaWPs
namespace Go.Proofs.Ytfdijfnmloddcaa
open Go Go.Vai

theorem hasA_of {f : Nat} {cal : Oracle} (h : Has14 cal) (hf : f = 14) : HasA f cal := by subst hf; exact h

/-- an answer that hangs on the bytes alone, where they are not too many -/
noncomputable def specL (F : List UInt8 → AV) : List AV → Option AV
  | [.vs 1 tg b] => if b.length ≤ maxBytes then specB F [.vs 1 tg b] else none
  | _ => none
theorem specL_at (F : List UInt8 → AV) (bs : List UInt8) (tg : Bool) (hb : bs.length ≤ maxBytes) : specL F [.vs 1 tg (bs.map byteAV)] = some (F bs) := by
  simp only [specL]
  rw [if_pos (by simpa using hb)]
  exact specB_at F bs tg
theorem specL_some {F : List UInt8 → AV} {args : List AV} {v : AV} (h : specL F args = some v) : ∃ bs tg, args = [.vs 1 tg (bs.map byteAV)] ∧ bs.length ≤ maxBytes ∧ v = F bs := by
  unfold specL at h
  split at h
  · split at h
    · rename_i tg b hb
      obtain ⟨bs, tg', e1, e2⟩ := specB_some h
      injection e1 with e1 _
      injection e1 with _ e3 e4
      subst e3 e4
      exact ⟨bs, tg, rfl, by simpa using hb, e2⟩
    · cases h
  · cases h

noncomputable def spec18 : List AV → Option AV
  | [.vs 1 _ b, .int .i64 v] => match Classical.propDecidable (b.length + 10 ≤ maxBytes ∧ pureL b = true ∧ I64 v) with
    | .isTrue _ => some (.vs 1 false (b ++ (encB (zz v)).map byteAV))
    | .isFalse _ => none
  | _ => none
theorem spec18_at {b : List AV} {tg : Bool} {v : Int} (h : b.length + 10 ≤ maxBytes ∧ pureL b = true ∧ I64 v) : spec18 [.vs 1 tg b, .int .i64 v] = some (.vs 1 false (b ++ (encB (zz v)).map byteAV)) := by
  simp only [spec18]
  split
  · rfl
  · rename_i hn _; exact absurd h hn
theorem spec18_some {args : List AV} {x : AV} (h : spec18 args = some x) : ∃ b tg v, args = [.vs 1 tg b, .int .i64 v] ∧ (b.length + 10 ≤ maxBytes ∧ pureL b = true ∧ I64 v) ∧ x = .vs 1 false (b ++ (encB (zz v)).map byteAV) := by
  unfold spec18 at h
  split at h
  · rename_i tg b v
    split at h
    · rename_i hh _
      injection h with h
      exact ⟨b, tg, v, rfl, hh, h.symm⟩
    · cases h
  · cases h

noncomputable def spec20 : List AV → Option AV
  | [.int .i64 v] => match Classical.propDecidable (I64 v) with
    | .isTrue _ => some (.int .u64 ((zz v : Nat) : Int))
    | .isFalse _ => none
  | _ => none
theorem spec20_at {v : Int} (h : I64 v) : spec20 [.int .i64 v] = some (.int .u64 ((zz v : Nat) : Int)) := by
  simp only [spec20]
  split
  · rfl
  · rename_i hn _; exact absurd h hn
theorem spec20_some {args : List AV} {x : AV} (h : spec20 args = some x) : ∃ v, args = [.int .i64 v] ∧ I64 v ∧ x = .int .u64 ((zz v : Nat) : Int) := by
  unfold spec20 at h
  split at h
  · rename_i v
    split at h
    · rename_i hh _
      injection h with h
      exact ⟨v, rfl, hh, h.symm⟩
    · cases h
  · cases h

noncomputable def spec22 : List AV → Option AV
  | [.vs 1 _ b, .str s] => match Classical.propDecidable (b.length + s.length + 10 ≤ maxBytes ∧ pureL b = true) with
    | .isTrue _ => some (.vs 1 false (b ++ (encS s).map byteAV))
    | .isFalse _ => none
  | _ => none
theorem spec22_at {b : List AV} {tg : Bool} {s : List UInt8} (h : b.length + s.length + 10 ≤ maxBytes ∧ pureL b = true) : spec22 [.vs 1 tg b, .str s] = some (.vs 1 false (b ++ (encS s).map byteAV)) := by
  simp only [spec22]
  split
  · rfl
  · rename_i hn _; exact absurd h hn
theorem spec22_some {args : List AV} {x : AV} (h : spec22 args = some x) : ∃ b tg s, args = [.vs 1 tg b, .str s] ∧ (b.length + s.length + 10 ≤ maxBytes ∧ pureL b = true) ∧ x = .vs 1 false (b ++ (encB s.length).map byteAV ++ s.map byteAV) := by
  unfold spec22 at h
  split at h
  · rename_i tg b s
    split at h
    · rename_i hh _
      injection h with h
      refine ⟨b, tg, s, rfl, hh, ?_⟩
      rw [← h, encS, List.map_append, List.append_assoc]
    · cases h
  · cases h

theorem o29_14 : HasA 14 O29 := fun b tg v hb hv => by
  unfold O29 O28 O27 O26
  rw [addCal_miss rfl, addCal_miss rfl, addCal_miss rfl, addCal_miss rfl]
  exact has14' b tg v hb hv
theorem o29_15 : HasA 15 O29 := fun b tg v hb hv => by
  unfold O29 O28 O27 O26
  rw [addCal_miss rfl, addCal_miss rfl, addCal_miss rfl, addCal_miss rfl]
  exact has15 b tg v hb hv

/-! the readers of numbers -/
noncomputable def Q16 : Oracle := addCal 16 (specB fun bs => tupU (du bs 0 0)) O29
theorem qk16 : CalOk Try.prog ann Q16 := calOk_add mixed noNum ok29 fun args v hv H nx => by
  obtain ⟨bs, tg, rfl, rfl⟩ := specB_some hv
  exact calN_of (c16 O29 H nx bs tg) (fun n => by kernel_rfl)
noncomputable def Q17 : Oracle := addCal 17 (specB fun bs => tupU (du bs 0 0)) Q16
theorem qk17 : CalOk Try.prog ann Q17 := calOk_add mixed noNum qk16 fun args v hv H nx => by
  obtain ⟨bs, tg, rfl, rfl⟩ := specB_some hv
  exact calN_of (c17 Q16 H nx bs tg) (fun n => by kernel_rfl)
theorem q17_14 : HasA 14 Q17 := fun b tg v hb hv => by
  unfold Q17 Q16
  rw [addCal_miss rfl, addCal_miss rfl]
  exact o29_14 b tg v hb hv
theorem q17_15 : HasA 15 Q17 := fun b tg v hb hv => by
  unfold Q17 Q16
  rw [addCal_miss rfl, addCal_miss rfl]
  exact o29_15 b tg v hb hv
theorem q17_16 : HasU 16 Q17 := fun bs tg => by
  unfold Q17 Q16
  rw [addCal_miss rfl]
  exact addCal_hit (specB_at _ _ _)
theorem q17_17 : HasU 17 Q17 := fun bs tg => by
  unfold Q17
  exact addCal_hit (specB_at _ _ _)

/-! what hangs on these: all over Q17 -/
noncomputable def Q18 : Oracle := addCal 18 spec18 Q17
theorem qk18 : CalOk Try.prog ann Q18 := calOk_add mixed noNum qk17 fun args v hv H nx => by
  obtain ⟨b, tg, v, rfl, ⟨h1, h2, h3⟩, rfl⟩ := spec18_some hv
  exact calN_of (c18 Q17 q17_14 H nx b tg h1 h2 v h3) (fun n => by kernel_rfl)
theorem q18_14 : HasA 14 Q18 := fun b tg v hb hv => by unfold Q18; rw [addCal_miss rfl]; exact q17_14 b tg v hb hv
theorem q18_15 : HasA 15 Q18 := fun b tg v hb hv => by unfold Q18; rw [addCal_miss rfl]; exact q17_15 b tg v hb hv
theorem q18_16 : HasU 16 Q18 := fun bs tg => by unfold Q18; rw [addCal_miss rfl]; exact q17_16 bs tg
theorem q18_17 : HasU 17 Q18 := fun bs tg => by unfold Q18; rw [addCal_miss rfl]; exact q17_17 bs tg

noncomputable def Q19 : Oracle := addCal 19 (specB fun bs => tupI (duI bs)) Q18
theorem qk19 : CalOk Try.prog ann Q19 := calOk_add mixed noNum qk18 fun args v hv H nx => by
  obtain ⟨bs, tg, rfl, rfl⟩ := specB_some hv
  exact calN_of (c19 Q18 q18_16 H nx bs tg) (fun n => by kernel_rfl)
theorem q19_14 : HasA 14 Q19 := fun b tg v hb hv => by unfold Q19; rw [addCal_miss rfl]; exact q18_14 b tg v hb hv
theorem q19_15 : HasA 15 Q19 := fun b tg v hb hv => by unfold Q19; rw [addCal_miss rfl]; exact q18_15 b tg v hb hv
theorem q19_16 : HasU 16 Q19 := fun bs tg => by unfold Q19; rw [addCal_miss rfl]; exact q18_16 bs tg
theorem q19_17 : HasU 17 Q19 := fun bs tg => by unfold Q19; rw [addCal_miss rfl]; exact q18_17 bs tg

noncomputable def Q20 : Oracle := addCal 20 spec20 Q19
theorem qk20 : CalOk Try.prog ann Q20 := calOk_add mixed noNum qk19 fun args v hv H nx => by
  obtain ⟨v, rfl, h, rfl⟩ := spec20_some hv
  exact calN_of (c20 Q19 H nx v h) (fun n => by kernel_rfl)
theorem q20_14 : HasA 14 Q20 := fun b tg v hb hv => by unfold Q20; rw [addCal_miss rfl]; exact q19_14 b tg v hb hv
theorem q20_15 : HasA 15 Q20 := fun b tg v hb hv => by unfold Q20; rw [addCal_miss rfl]; exact q19_15 b tg v hb hv
theorem q20_16 : HasU 16 Q20 := fun bs tg => by unfold Q20; rw [addCal_miss rfl]; exact q19_16 bs tg
theorem q20_17 : HasU 17 Q20 := fun bs tg => by unfold Q20; rw [addCal_miss rfl]; exact q19_17 bs tg

noncomputable def Q21 : Oracle := addCal 21 (specB fun bs => tupI (duI bs)) Q20
theorem qk21 : CalOk Try.prog ann Q21 := calOk_add mixed noNum qk20 fun args v hv H nx => by
  obtain ⟨bs, tg, rfl, rfl⟩ := specB_some hv
  exact calN_of (c21 Q20 q20_17 H nx bs tg) (fun n => by kernel_rfl)
theorem q21_14 : HasA 14 Q21 := fun b tg v hb hv => by unfold Q21; rw [addCal_miss rfl]; exact q20_14 b tg v hb hv
theorem q21_15 : HasA 15 Q21 := fun b tg v hb hv => by unfold Q21; rw [addCal_miss rfl]; exact q20_15 b tg v hb hv
theorem q21_16 : HasU 16 Q21 := fun bs tg => by unfold Q21; rw [addCal_miss rfl]; exact q20_16 bs tg
theorem q21_17 : HasU 17 Q21 := fun bs tg => by unfold Q21; rw [addCal_miss rfl]; exact q20_17 bs tg

noncomputable def Q22 : Oracle := addCal 22 spec22 Q21
theorem qk22 : CalOk Try.prog ann Q22 := calOk_add mixed noNum qk21 fun args v hv H nx => by
  obtain ⟨b, tg, s, rfl, ⟨h1, h2⟩, rfl⟩ := spec22_some hv
  exact calN_of (c22 Q21 q21_14 H nx b tg s h1 h2) (fun n => by kernel_rfl)
theorem q22_15 : HasA 15 Q22 := fun b tg v hb hv => by unfold Q22; rw [addCal_miss rfl]; exact q21_15 b tg v hb hv
theorem q22_16 : HasU 16 Q22 := fun bs tg => by unfold Q22; rw [addCal_miss rfl]; exact q21_16 bs tg
theorem q22_17 : HasU 17 Q22 := fun bs tg => by unfold Q22; rw [addCal_miss rfl]; exact q21_17 bs tg

noncomputable def Q23 : Oracle := addCal 23 (specL fun bs => tupS (duS bs)) Q22
theorem qk23 : CalOk Try.prog ann Q23 := calOk_add mixed noNum qk22 fun args v hv H nx => by
  obtain ⟨bs, tg, rfl, hb, rfl⟩ := specL_some hv
  exact calN_of (c23 Q22 q22_16 H nx bs tg hb) (fun n => by kernel_rfl)
theorem q23_15 : HasA 15 Q23 := fun b tg v hb hv => by unfold Q23; rw [addCal_miss rfl]; exact q22_15 b tg v hb hv
theorem q23_17 : HasU 17 Q23 := fun bs tg => by unfold Q23; rw [addCal_miss rfl]; exact q22_17 bs tg

noncomputable def Q24 : Oracle := addCal 24 spec22 Q23
theorem qk24 : CalOk Try.prog ann Q24 := calOk_add mixed noNum qk23 fun args v hv H nx => by
  obtain ⟨b, tg, s, rfl, ⟨h1, h2⟩, rfl⟩ := spec22_some hv
  exact calN_of (c24 Q23 q23_15 H nx b tg s h1 h2) (fun n => by kernel_rfl)
theorem q24_17 : HasU 17 Q24 := fun bs tg => by unfold Q24; rw [addCal_miss rfl]; exact q23_17 bs tg

noncomputable def OW : Oracle := addCal 25 (specL fun bs => tupS (duS bs)) Q24
theorem okW : CalOk Try.prog ann OW := calOk_add mixed noNum qk24 fun args v hv H nx => by
  obtain ⟨bs, tg, rfl, hb, rfl⟩ := specL_some hv
  exact calN_of (c25 Q24 q24_17 H nx bs tg hb) (fun n => by kernel_rfl)

theorem w_13 : Has13 OW := by
  unfold Has13 OW Q24 Q23 Q22 Q21 Q20 Q19 Q18 Q17 Q16
  repeat rw [addCal_miss rfl]
  exact o29_13
theorem w_14 : HasA 14 OW := fun b tg v hb hv => by
  unfold OW Q24 Q23 Q22
  repeat rw [addCal_miss rfl]
  exact q21_14 b tg v hb hv
theorem w_15 : HasA 15 OW := fun b tg v hb hv => by
  unfold OW Q24
  repeat rw [addCal_miss rfl]
  exact q23_15 b tg v hb hv
theorem w_16 : HasU 16 OW := fun bs tg => by
  unfold OW Q24 Q23
  repeat rw [addCal_miss rfl]
  exact q22_16 bs tg
theorem w_17 : HasU 17 OW := fun bs tg => by
  unfold OW
  repeat rw [addCal_miss rfl]
  exact q24_17 bs tg
theorem w_18 : HasAI 18 OW := fun b tg v hb hp hv => by
  unfold OW Q24 Q23 Q22 Q21 Q20 Q19 Q18
  repeat rw [addCal_miss rfl]
  exact addCal_hit (spec18_at ⟨hb, hp, hv⟩)
theorem w_19 : HasI 19 OW := fun bs tg => by
  unfold OW Q24 Q23 Q22 Q21 Q20 Q19
  repeat rw [addCal_miss rfl]
  exact addCal_hit (specB_at _ _ _)
theorem w_20 : HasZ 20 OW := fun v hv => by
  unfold OW Q24 Q23 Q22 Q21 Q20
  repeat rw [addCal_miss rfl]
  exact addCal_hit (spec20_at hv)
theorem w_21 : HasI 21 OW := fun bs tg => by
  unfold OW Q24 Q23 Q22 Q21
  repeat rw [addCal_miss rfl]
  exact addCal_hit (specB_at _ _ _)
theorem w_22 : HasAS 22 OW := fun b tg s hb hp => by
  unfold OW Q24 Q23 Q22
  repeat rw [addCal_miss rfl]
  exact addCal_hit (spec22_at ⟨hb, hp⟩)
theorem w_23 : HasS 23 OW := fun bs tg hb => by
  unfold OW Q24 Q23
  repeat rw [addCal_miss rfl]
  exact addCal_hit (specL_at _ _ _ hb)
theorem w_24 : HasAS 24 OW := fun b tg s hb hp => by
  unfold OW Q24
  repeat rw [addCal_miss rfl]
  exact addCal_hit (spec22_at ⟨hb, hp⟩)
theorem w_25 : HasS 25 OW := fun bs tg hb => by
  unfold OW
  exact addCal_hit (specL_at _ _ _ hb)
theorem w_26 : Has26 26 OW := fun bs tg => by
  unfold OW Q24 Q23 Q22 Q21 Q20 Q19 Q18 Q17 Q16
  repeat rw [addCal_miss rfl]
  exact o29_26 bs tg
theorem w_28 : Has28 28 OW := fun b tg c hb => by
  unfold OW Q24 Q23 Q22 Q21 Q20 Q19 Q18 Q17 Q16
  repeat rw [addCal_miss rfl]
  exact o29_28 b tg c hb

end Go.Proofs.Ytfdijfnmloddcaa
