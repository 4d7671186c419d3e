/- The scanner: texts. -/
import Derived.Test.YtfdklpkfpmkgeaaGreatDoorM6
set_option linter.unusedSimpArgs false
set_option linter.unusedVariables false
set_option linter.unusedSectionVars false
set_option linter.unnecessarySimpa false
namespace Go.Proofs.YtfdklpkfpmkgeaaGreatDoor
section
open Go Go.Vai
attribute [local irreducible] goTo zao mkS
def zsu (k : Int) (s : List UInt8) (n a : Int) : AV := .agg [.int .i64 k,.str s,.int .i64 n,.int .i64 a]
def zo6 (p : PS) (i : Nat) (acc : List UInt8) (K : Int) (S : List UInt8) (N A : Int) (T : Hp) (nx : Nat) : Option (List UInt8 × Nat)→Out
 | none=>⟨.tuple [zsu K S N A,.int .i64 11],hp p T,nx⟩
 | some (w,m)=>if 32 < (acc ++ w).length then ⟨.tuple [zsu K S N A,.int .i64 3],hp (p.at (i + m)) T,nx⟩ else ⟨.tuple [zsu K (acc ++ w) N A,.int .i64 0],hp (p.at (i + m)) T,nx⟩
theorem zur (p : PS) (i : Nat) (acc : List UInt8) (K : Int) (S : List UInt8) (N A : Int) (T : Hp) (nx : Nat) (c : UInt8) (j : Nat) (x : Option (List UInt8 × Nat)) :
  zo6 p (i + j) (acc ++ [c]) K S N A T nx x = zo6 p i acc K S N A T nx (x.map fun (s,k)=>(c :: s,k + j)):=by
 cases x with
 | none=>rfl
 | some x =>
  obtain ⟨w,m⟩ := x;simp only [zo6,omS,List.append_assoc,List.singleton_append,show i + j + m = i + (m + j) by omega]
variable {C : Nat→Oracle} (hC : Ext C) {T : Hp} {nx : Nat}
theorem zvc (p : PS) (hl : p.src.length ≤ 4000) (K : Int) (S : List UInt8) (N A : Int) : ∀ (m i : Nat) (acc : List UInt8) (tg : Bool),p.src.length - i = m→i ≤ p.src.length→acc.length ≤ i →
  RL C 145 Q0i (mkS 95 [(0,.val (.ptr 0 0) .no),(3,.lp 3 0),(4,.lp 4 0),(6,.val (.vs 1 tg (acc.map zbq)) .own),(7,.val (.int .i64 (i : Int)) .no)] [(3,⟨[(.int .i64 K),(.str S),(.int .i64 N),(.int .i64 A)],[]⟩),(4,⟨[(.int .i64 (0)),(.str []),(.int .i64 (0)),(.int .i64 (0))],[]⟩)] (hp p T) nx) =
   some (zo6 p i acc K S N A T nx (zcw (p.src.drop i))):=by
 intro m
 induction m using Nat.strongRecOn with
 | _ m ih =>
 intro i acc tg hm hi ha;cases hd : p.src.drop i with
 | nil =>
  have := zal _ _ hi hd;refine p145_1 ?_;simp only [Tr.val,itN];exact bF (by omega) rfl
 | cons c r =>
  obtain ⟨h1,h2,h3⟩ := zat _ _ hd;have hw : w64 ((i : Int) + 1) = ((i + 1 : Nat) : Int) := by rw [zb1 (by omega) (by omega)]; omega
  have hw2 : w64 (((i + 1 : Nat) : Int) + 1) = ((i + 2 : Nat) : Int) := by rw [zb1 (by omega) (by omega)]; omega
  refine p145_1 ?_;simp only [Tr.val,itN,hw,hw2,lnM,zk6,obS];refine bT (by omega) (bT (by omega) (bnd h1 ?_));by_cases e34 : c.toNat = 34
  ·refine bT (by omega) ?_;rw [show zcw (c :: r) = some ([],1) by rw [zcw.eq_def]; simp only [if_pos e34]];simp only [zo6,List.append_nil,PS.at,zsu];by_cases h32 : 32 < acc.length
   ·refine bT (by omega) ?_;rw [if_pos h32]
   ·refine bF (by omega) ?_;rw [if_neg h32]
  refine bF (by omega) ?_;by_cases e92 : c.toNat = 92
  ·refine bT (by omega) ?_;cases hr : r with
   | nil =>
    rw [hr] at h2;have := zal _ _ (by omega) h2;refine bT (by omega) ?_;rw [show zcw [c] = none by rw [zcw.eq_def]; simp only [if_neg e34,if_pos e92]];rfl
   | cons d r' =>
    rw [hr] at h2;obtain ⟨g1,g2,g3⟩ := zat _ _ h2;have go : RL C 145 Q0i (mkS 95 [(0,.val (.ptr 0 0) .no),(3,.lp 3 0),(4,.lp 4 0),(6,.val (.vs 1 false (acc.map zbq ++ [(.int .u8 ((d.toNat : Nat) : Int))])) .own),(7,.val (.int .i64 ((i + 2 : Nat) : Int)) .no)] [(3,⟨[(.int .i64 K),(.str S),(.int .i64 N),(.int .i64 A)],[]⟩),(4,⟨[(.int .i64 (0)),(.str []),(.int .i64 (0)),(.int .i64 (0))],[]⟩)] (hp p T) nx) =
      some (zo6 p i acc K S N A T nx ((zcw r').map fun (s,k)=>(d :: s,k + 2))):=by
     have := ih _ (show p.src.length - (i + 2) < m by omega) (i + 2) (acc ++ [d]) false rfl (by omega) (by simp; omega);rw [mpA,show [d].map zbq = [.int .u8 ((d.toNat : Nat) : Int)] from rfl] at this;rw [this,zur,show p.src.drop (i + 2) = r' from g2]
    refine bF (by omega) (bT (by omega) (bnd g1 ?_));by_cases d34 : d.toNat = 34
    ·refine nF (by omega) (bT (by omega) (bnd g1 (ct (zad (by omega)) (ct (zad (by omega)) (go.trans ?_)))));rw [show zcw (c :: d :: r') = (zcw r').map fun (s,k)=>(d :: s,k + 2) by rw [zcw.eq_def]; simp only [if_neg e34,if_pos e92,if_pos (show d.toNat = 34 ∨ d.toNat = 92 from .inl d34)]]
    ·refine nT (by omega) (bT (by omega) (bnd g1 ?_));by_cases d92 : d.toNat = 92
     ·refine nF (by omega) (bT (by omega) (bnd g1 (ct (zad (by omega)) (ct (zad (by omega)) (go.trans ?_)))));rw [show zcw (c :: d :: r') = (zcw r').map fun (s,k)=>(d :: s,k + 2) by rw [zcw.eq_def]; simp only [if_neg e34,if_pos e92,if_pos (show d.toNat = 34 ∨ d.toNat = 92 from .inr d92)]]
     ·refine nT (by omega) ?_;rw [show zcw (c :: d :: r') = none by rw [zcw.eq_def]; simp only [if_neg e34,if_pos e92,if_neg (show ¬ (d.toNat = 34 ∨ d.toNat = 92) by omega)]];rfl
  refine bF (by omega) ?_;by_cases l32 : c.toNat < 32
  ·refine bT (by omega) ?_;rw [show zcw (c :: r) = none by rw [zcw.eq_def]; simp only [if_neg e34,if_neg e92,if_pos (show c.toNat < 32 ∨ 126 < c.toNat from .inl l32)]];rfl
  refine bF (by omega) ?_;by_cases l126 : 126 < c.toNat
  ·refine bT (by omega) ?_;rw [show zcw (c :: r) = none by rw [zcw.eq_def]; simp only [if_neg e34,if_neg e92,if_pos (show c.toNat < 32 ∨ 126 < c.toNat from .inr l126)]];rfl
  refine bF (by omega) (ct (zad (by omega)) (ct (zad (by omega)) ?_));have := ih _ (show p.src.length - (i + 1) < m by omega) (i + 1) (acc ++ [c]) false rfl (by omega) (by simp; omega);rw [mpA,show [c].map zbq = [.int .u8 ((c.toNat : Nat) : Int)] from rfl] at this;rw [this,zur,h2];rw [show zcw (c :: r) = (zcw r).map fun (s,k)=>(c :: s,k + 1) by rw [zcw.eq_def]; simp only [if_neg e34,if_neg e92,if_neg (show ¬ (c.toNat < 32 ∨ 126 < c.toNat) by omega)]]
include hC
theorem l145 (p : PS) (hl : p.src.length ≤ 4000) (k : Nat) (hk : k < p.src.length) (K : Int) (S : List UInt8) (N A : Int) :
  calL C 145 [.ptr 0 0,.agg [.int .i64 K,.str S,.int .i64 N,.int .i64 A]] (hp (p.at k) T) nx = some (zo6 (p.at k) (k + 1) [] K S N A T nx (zcw (p.src.drop (k + 1)))):=by
 refine p145_c hC (p145_0 ?_);have := zvc (C := C) (T := T) (nx := nx) (p.at k) hl K S N A _ (k + 1) [] true rfl (by show k + 1 ≤ p.src.length; omega) (by simp);simp only [Tr.val,PS.at] at this ⊢;rw [zb1 (by omega) (by omega),show ((k : Int) + 1) = ((k + 1 : Nat) : Int) by omega];exact this
end
section
open Go Go.Vai
attribute [local irreducible] goTo zao mkS
variable {C : Nat → Oracle} {o : Out}
abbrev cC0 : AV := (.vs 1 true [(.str [116,121,112,101]),(.str [114,101,103,105,115,116,101,114]),(.str [99,111,117,110,116,101,114]),(.str [109,97,120]),(.str [115,101,116]),(.str [102,108,97,103]),(.str [111,112]),(.str [113,117,101,114,121]),(.str [105,110,100,101,120]),(.str [119,114,105,116,101]),(.str [97,100,100]),(.str [114,97,105,115,101]),(.str [105,110,115,101,114,116]),(.str [109,97,114,107]),(.str [105,102]),(.str [101,108,115,101]),(.str [105,110,116]),(.str [116,101,120,116]),(.str [98,111,111,108]),(.str [116,114,117,101]),(.str [102,97,108,115,101]),(.str [104,97,115]),(.str [115,105,122,101])])
theorem p147_c (hC : Ext C) {a : List UInt8} : LC C o 147 (mk0 6 [vt 0 a]) [(.str a)] Hp.none 0 := lC hC
theorem p147_0 {a} : LR C o 147 [] (mk0 6 [vt 0 a]) (cl0 185 [(.vs 1 true [(.str [116,121,112,101]),(.str [114,101,103,105,115,116,101,114]),(.str [99,111,117,110,116,101,114]),(.str [109,97,120]),(.str [115,101,116]),(.str [102,108,97,103]),(.str [111,112]),(.str [113,117,101,114,121]),(.str [105,110,100,101,120]),(.str [119,114,105,116,101]),(.str [97,100,100]),(.str [114,97,105,115,101]),(.str [105,110,115,101,114,116]),(.str [109,97,114,107]),(.str [105,102]),(.str [101,108,115,101]),(.str [105,110,116]),(.str [116,101,120,116]),(.str [98,111,111,108]),(.str [116,114,117,101]),(.str [102,97,108,115,101]),(.str [104,97,115]),(.str [115,105,122,101])]),(.str a)] fun b => .br (AV.pure b.v)
(.mid 0 [0,5,0] 3 (mkS 6 [vt 0 a,vv 3 cC0,vt 4 a,vv 5 b.v] [] Hp.none 0)) .none) := lR 4
theorem p147_1 {a b} : LM C o 147 [0,5,0] 3 (mkS 6 [vt 0 a,vv 3 cC0,vt 4 a,vb 5 b] [] Hp.none 0) (rt (.bool b)) := lM 1
theorem p185_c (hC : Ext C) {a : Bool} {b : List AV} {c : List UInt8} : LC C o 185 (mk0 9 [vv 0 (.vs 1 a b),vt 1 c]) [(.vs 1 a b),(.str c)] Hp.none 0 := lC hC
theorem p185_0 {a b c} : LR C o 185 [] (mk0 9 [vv 0 (.vs 1 a b),vt 1 c]) (cl0 212 [(.vs 1 a b),(.str c)] fun d => .br (AV.pure d.v)
(.mid 0 [0,5,0] 3 (mk0 9 [vv 0 (.vs 1 a b),vt 1 c,vv 5 (.vs 1 a b),vt 6 c,vv 7 d.v])) .none) := lR 4
theorem p185_1 {a b c d} : LM C o 185 [0,5,0] 3 (mk0 9 [vv 0 (.vs 1 a b),vt 1 c,vv 5 (.vs 1 a b),vt 6 c,vi 7 d]) (rt (.bool (decide (0 ≤ d)))) := lM 1
theorem p212_c (hC : Ext C) {a : Bool} {b : List AV} {c : List UInt8} : LC C o 212 (mk0 19 [vv 0 (.vs 1 a b),vt 1 c]) [(.vs 1 a b),(.str c)] Hp.none 0 := lC hC
theorem p212_0 {a b c} : LR C o 212 [] (mk0 19 [vv 0 (.vs 1 a b),vt 1 c]) (.run 0 Q0a (mk0 19 [vv 0 (.vs 1 a b),vt 1 c,vi 7 (b.length : Int),vi 8 0])) := lR 7
theorem p212_1 {b c d e a} : LR C o 212 Q0a (mk0 19 [vv 0 (.vs 1 b c),vt 1 d,vi 7 e,vi 8 a]) (.br (decide (a < e))
(ix c a fun f =>
(.mid 0 Q1x 4 (mk0 19 [vv 0 (.vs 1 b c),vt 1 d,vi 5 a,vi 7 e,vi 8 a,vt 11 d,vv 12 (.vs 1 b c),vi 13 a,vv 14 (.cptr (AV.cells f))])))
(rt (i6 (-1)))) := lR 11
theorem p212_2 {b d c e f a} : LM C o 212 Q1x 4 (mk0 19 [vv 0 (.vs 1 b d),vt 1 c,vi 5 a,vi 7 f,vi 8 a,vt 11 c,vv 12 (.vs 1 b d),vi 13 a,vv 14 (.cptr [(.str e)])]) (.br (eqS c e)
(rt (i6 a))
(.run 0 Q0a (mk0 19 [vv 0 (.vs 1 b d),vt 1 c,vi 7 f,vi 8 (w64 (a + 1))]))) := lM 5
theorem p146_c (hC : Ext C) {a b : List UInt8} : LC C o 146 (mk0 8 [vt 0 a,vt 1 b]) [(.str a),(.str b)] Hp.none 0 := lC hC
theorem p146_0 {a b} : LR C o 146 [] (mk0 8 [vt 0 a,vt 1 b]) (cl0 184 [(.str a),(.str b)] fun c => .br (AV.pure c.v)
(.mid 0 [0,5,0] 3 (mk0 8 [vt 0 a,vt 1 b,vt 5 a,vt 6 b,vv 7 c.v])) .none) := lR 4
theorem p146_1 {a b c} : LM C o 146 [0,5,0] 3 (mk0 8 [vt 0 a,vt 1 b,vt 5 a,vt 6 b,vb 7 c]) (rt (.bool c)) := lM 1
theorem p184_c (hC : Ext C) {a b : List UInt8} : LC C o 184 (mk0 18 [vt 0 a,vt 1 b]) [(.str a),(.str b)] Hp.none 0 := lC hC
theorem p184_0 {b a} : LR C o 184 [] (mk0 18 [vt 0 b,vt 1 a]) (.br (decide ((a.length : Int) ≤ (b.length : Int)))
(.br (decide ((0 : Int) ≤ (a.length : Int)))
(.br (decide ((a.length : Int) ≤ (b.length : Int)))
(rt (.bool (eqS (List.drop 0 (List.take (Int.toNat (a.length : Int)) b)) a))) .none) .none)
(rt (.bool false))) := lR 5
theorem p113_c (hC : Ext C) {a : List UInt8} : LC C o 113 (mk0 21 [vt 0 a]) [(.str a)] Hp.none 0 := lC hC
theorem p113_0 {a} : LR C o 113 [] (mk0 21 [vt 0 a]) (.br (eqS a [124,124])
(rt (i6 1))
(.br (eqS a [38,38])
(rt (i6 2))
(.br (eqS a [61,61])
(rt (i6 3))
(.br (eqS a [33,61])
(rt (i6 3))
(.br (eqS a [60])
(rt (i6 3))
(.br (eqS a [60,61])
(rt (i6 3))
(.br (eqS a [62])
(rt (i6 3))
(.br (eqS a [62,61])
(rt (i6 3))
(.br (eqS a [104,97,115])
(rt (i6 3))
(.br (eqS a [43])
(rt (i6 4))
(.br (eqS a [45])
(rt (i6 4))
(.br (eqS a [42])
(rt (i6 5))
(rt (i6 0)))))))))))))) := lR 47
end
section
open Go Go.Vai
attribute [local irreducible] goTo zao mkS
def idxS (s : List UInt8) : List (List UInt8)→Nat→Int
 | [],_=>-1
 | w :: r,i=>if s = w then (i : Int) else idxS s r (i + 1)
theorem zre (s : List UInt8) : ∀ (l : List (List UInt8)) (i : Nat),(0 ≤ idxS s l i) = (s ∈ l)
 | [],i=>by simp [idxS]
 | w :: r,i=>by
  unfold idxS;split
  ·rename_i h; simp [h]
  ·rename_i h; rw [zre s r (i + 1)]; simp [h]
theorem zwr (l : List (List UInt8)) : za3 (l.map AV.str) = true:=by
 induction l with
 | nil=>rfl
 | cons x l ih=>rw [List.map_cons,zc8,ih]; rfl
def hasP (s p : List UInt8) : Bool := eqS (s.take p.length) p
def zh2 (s : List UInt8) : Int :=
 if s = [124,124] then 1 else if s = [38,38] then 2
 else if s = [61,61] ∨ s = [33,61] ∨ s = [60] ∨ s = [60,61] ∨ s = [62] ∨ s = [62,61] ∨ s = [104,97,115] then 3
 else if s = [43] ∨ s = [45] then 4 else if s = [42] then 5 else 0
theorem et {R : Type} {a b : List UInt8} {x y z : Option R} (h : a = b) (e : x = z) : Vai.br (eqS a b) x y = z := (br_t ((zdg a b).2 h)).trans e
theorem ef {R : Type} {a b : List UInt8} {x y z : Option R} (h : ¬ a = b) (e : y = z) : Vai.br (eqS a b) x y = z := (br_f (by rw [Bool.eq_false_iff]; exact fun he=>h ((zdg a b).1 he))).trans e
variable {C : Nat→Oracle} (hC : Ext C) {T : Hp} {nx : Nat}
theorem idx_loop (s : List UInt8) (tg : Bool) (l : List (List UInt8)) (hl : l.length ≤ 4000) : ∀ (r : List (List UInt8)) (i : Nat),l.drop i = r→i ≤ l.length →
  RL C 212 Q0a (mkS 19 [(0,.val (.vs 1 tg (l.map AV.str)) .no),(1,.val (.str s) .no),(7,.val (.int .i64 (l.length : Int)) .no),(8,.val (.int .i64 (i : Int)) .no)] [] Hp.none 0) =
   some ⟨.int .i64 (idxS s r i),Hp.none,0⟩:=by
 intro r
 induction r with
 | nil =>
  intro i hi hil;have := zal _ _ hil hi;refine p212_1 ?_;simp only [Tr.val,idxS];exact bF (by omega) rfl
 | cons w r ih =>
  intro i hi hil;obtain ⟨h1,h2,h3⟩ := zat _ _ hi;refine p212_1 ?_;simp only [Tr.val,idxS,lnM,itN];refine bT (by omega) (bT (by omega) (bT (by omega) (bnd (x := .str w) (by rw [zci,List.getElem?_map,h1]; rfl) ?_)));refine p212_2 ?_;simp only [Tr.val];by_cases h : s = w
  ·rw [if_pos h]; exact et h rfl
  ·rw [if_neg h];refine ef h ?_;rw [zb1 (by omega) (by omega),show ((i : Int) + 1) = ((i + 1 : Nat) : Int) by omega];exact ih (i + 1) h2 (by omega)
include hC
theorem l212 (s : List UInt8) (tg : Bool) (l : List (List UInt8)) (hl : l.length ≤ 4000) : calL C 212 [.vs 1 tg (l.map AV.str),.str s] Hp.none 0 = some ⟨.int .i64 (idxS s l 0),Hp.none,0⟩:=by
 refine p212_c hC (p212_0 ?_);have := idx_loop (C := C) s tg l hl l 0 rfl (Nat.zero_le _);simp only [Tr.val,lnM];exact this
theorem l185 (s : List UInt8) (tg : Bool) (l : List (List UInt8)) (hl : l.length ≤ 4000) : calL C 185 [.vs 1 tg (l.map AV.str),.str s] Hp.none 0 = some ⟨.bool (decide (s ∈ l)),Hp.none,0⟩:=by
 refine p185_c hC (p185_0 ?_);simp only [Tr.val,za3,AV.pure,zwr,za0];rw [l212 hC s tg l hl];simp only [obS,AV.pure,za0];refine p185_1 ?_;simp only [Tr.val,zre]
def kwL : List (List UInt8) := [[116,121,112,101],[114,101,103,105,115,116,101,114],[99,111,117,110,116,101,114],[109,97,120],[115,101,116],[102,108,97,103],[111,112],[113,117,101,114,121],[105,110,100,101,120],[119,114,105,116,101],[97,100,100],[114,97,105,115,101],[105,110,115,101,114,116],[109,97,114,107],[105,102],[101,108,115,101],[105,110,116],[116,101,120,116],[98,111,111,108],[116,114,117,101],[102,97,108,115,101],[104,97,115],[115,105,122,101]]
theorem l147 (s : List UInt8) : calL C 147 [.str s] Hp.none 0 = some ⟨.bool (decide (s ∈ kwL)),Hp.none,0⟩:=by
 refine p147_c hC (p147_0 ?_);simp only [Tr.val,za3,AV.pure,za0];have := l185 hC s true kwL (by decide);refine bnd this ?_;simp only [AV.pure,za0];refine p147_1 ?_;simp only [Tr.val]
theorem l184 (s p : List UInt8) : calL C 184 [.str s,.str p] Hp.none 0 = some ⟨.bool (hasP s p),Hp.none,0⟩:=by
 refine p184_c hC (p184_0 ?_);simp only [Tr.val,hasP];by_cases h : p.length ≤ s.length
 ·exact bT (by omega) (bT (by omega) (bT (by omega) (by rw [itN,List.drop_zero])))
 ·refine bF (by omega) ?_;have : eqS (s.take p.length) p = false:=by
   rw [Bool.eq_false_iff];intro he;have := congrArg List.length ((zdg _ _).1 he);rw [List.length_take] at this;omega
  rw [this]
theorem l146 (s p : List UInt8) : calL C 146 [.str s,.str p] Hp.none 0 = some ⟨.bool (hasP s p),Hp.none,0⟩:=by
 refine p146_c hC (p146_0 ?_);simp only [Tr.val,za3,AV.pure,za0];rw [l184 hC];simp only [obS,AV.pure,za0];refine p146_1 ?_;simp only [Tr.val]
theorem l113 (s : List UInt8) : calL C 113 [.str s] Hp.none 0 = some ⟨.int .i64 (zh2 s),Hp.none,0⟩:=by
 refine p113_c hC (p113_0 ?_);simp only [Tr.val,zh2];by_cases h1 : s = [124,124]
 ·rw [if_pos h1]; exact et h1 rfl
 rw [if_neg h1]; refine ef h1 ?_;by_cases h2 : s = [38,38]
 ·rw [if_pos h2]; exact et h2 rfl
 rw [if_neg h2]; refine ef h2 ?_;by_cases h3 : s = [61,61] ∨ s = [33,61] ∨ s = [60] ∨ s = [60,61] ∨ s = [62] ∨ s = [62,61] ∨ s = [104,97,115]
 ·rw [if_pos h3];rcases h3 with rfl | rfl | rfl | rfl | rfl | rfl | rfl <;> rfl
 rw [if_neg h3];have h3 : ¬ s = [61,61]∧¬ s = [33,61]∧¬ s = [60]∧¬ s = [60,61]∧¬ s = [62]∧¬ s = [62,61]∧¬ s = [104,97,115] := by simpa using h3
 obtain ⟨a1,a2,a3,a4,a5,a6,a7⟩ := h3;refine ef a1 (ef a2 (ef a3 (ef a4 (ef a5 (ef a6 (ef a7 ?_))))));by_cases h4 : s = [43] ∨ s = [45]
 ·rw [if_pos h4];rcases h4 with rfl | rfl <;> rfl
 rw [if_neg h4];have h4 : ¬ s = [43]∧¬ s = [45] := by simpa using h4
 refine ef h4.1 (ef h4.2 ?_);by_cases h5 : s = [42]
 ·rw [if_pos h5]; exact et h5 rfl
 ·rw [if_neg h5]; exact ef h5 rfl
end
section
open Go Go.Vai
attribute [local irreducible] goTo zao mkS
def numS (w : List UInt8) : Option Int := match Lib.parseIntB 64 w with
 | .ok u=>if 1 < w.length∧w.head? = some 48 then none else some u
 | _=>none
structure NT where
 kind : Int
 s : List UInt8
 n : Int
 at_ : Nat
 err : Int
 pos : Nat
def tokS (src : List UInt8) (a : Nat) : NT :=
 match src.drop a with
 | []=>⟨0,[],0,a,0,a⟩
 | c :: r =>
  if zqh c then ⟨1,(c :: r).takeWhile isLD,0,a,0,a + ((c :: r).takeWhile isLD).length⟩
  else if zed c then match numS ((c :: r).takeWhile zed) with
   | some v=>⟨2,[],v,a,0,a + ((c :: r).takeWhile zed).length⟩
   | none=>⟨2,[],0,a,9,a + ((c :: r).takeWhile zed).length⟩
  else if c.toNat = 34 then match zcw r with
   | none=>⟨3,[],0,a,11,a⟩
   | some (w,m)=>if 32 < w.length then ⟨3,[],0,a,3,a + 1 + m⟩ else ⟨3,w,0,a,0,a + 1 + m⟩
  else match zfl.find? (hasP (c :: r)) with
   | some s=>⟨4,s,0,a,0,a + s.length⟩
   | none=>⟨0,[],0,a,11,a⟩
def zb4 (src : List UInt8) (k : Nat) : NT := tokS src (k + zbk false (src.drop k))
variable {C : Nat→Oracle} (hC : Ext C) {T : Hp} {nx : Nat}
def ntO (p : PS) (t : NT) (T : Hp) (nx : Nat) : Out := ⟨.tuple [zsu t.kind t.s t.n t.at_,.int .i64 t.err],hp (p.at t.pos) T,nx⟩
include hC
theorem zv1 (p : PS) (hl : p.src.length ≤ 4000) (a : Nat) (ha : a ≤ p.src.length) : ∀ (r : List (List UInt8)) (i : Nat),zfl.drop i = r→i ≤ 19 →
  RL C 79 Q5a (mkS 114 [(0,.val (.ptr 0 0) .no),(2,.lp 2 0),(4,.lp 4 0),(82,.val (.vs 1 true (zfl.map AV.str)) .no),(83,.val (.int .i64 (19)) .no),(84,.val (.int .i64 (i : Int)) .no)] [(2,⟨[(.int .i64 (0)),(.str []),(.int .i64 (0)),(.int .i64 (0))],[]⟩),(4,⟨[(.int .i64 (0)),(.str []),(.int .i64 (0)),(.int .i64 (a : Int))],[]⟩)] (hp (p.at a) T) nx) =
   some (ntO p (match r.find? (hasP (p.src.drop a)) with
    | some s=>⟨4,s,0,a,0,a + s.length⟩
    | none=>⟨0,[],0,a,11,a⟩) T nx):=by
 intro r
 induction r with
 | nil =>
  intro i hi hil;have := zal zfl i hil hi;have hs : zfl.length = 19 := rfl;refine p79_7 ?_;simp only [Tr.val];exact bF (by omega) rfl
 | cons w r ih =>
  intro i hi hil;obtain ⟨h1,h2,h3⟩ := zat _ _ hi;have hs : zfl.length = 19 := rfl;refine p79_7 ?_;simp only [Tr.val,lnM,itN];refine bT (by omega) (bT (by omega) (bT (by omega) (bnd (x := .str w) (by rw [zci,List.getElem?_map,h1]; rfl) ?_)));refine p79_10 ?_;simp only [Tr.val,PS.at,itN,List.take_length,za3,AV.pure,za0,l146 hC,obS];refine bT (by omega) (bT (by omega) ?_);refine p79_11 ?_;rw [List.find?_cons];have hw : w.length ≤ 2:=by
   have : w ∈ zfl := List.mem_of_mem_drop (by rw [hi]; exact mcS ..);exact (by decide : ∀ w ∈ zfl,w.length ≤ 2) w this
  cases hp : hasP (p.src.drop a) w
  ·simp only [Tr.val,zaw];rw [zb1 (by omega) (by omega),show ((i : Int) + 1) = ((i + 1 : Nat) : Int) by omega];exact ih (i + 1) h2 (by omega)
  ·simp only [Tr.val,za0];rw [zb1 (by omega) (by omega),show ((a : Int) + (w.length : Int)) = ((a + w.length : Nat) : Int) by omega];rfl
theorem l79 (p : PS) (hl : p.src.length ≤ 4000) (k : Nat) (hk : k + zbk false (p.src.drop k) ≤ p.src.length) (hk' : k ≤ p.src.length) :
  calL C 79 [.ptr 0 0] (hp (p.at k) T) nx = some (ntO p (zb4 p.src k) T nx):=by
 refine p79_c hC (p79_0 ?_);simp only [Tr.val,l139 hC p hl k hk',obS];unfold zb4;generalize k + zbk false (p.src.drop k) = a at hk;refine p79_1 ?_;simp only [Tr.val,PS.at,itN];unfold tokS;cases hd : p.src.drop a with
 | nil =>
  have := zal _ _ hk hd;exact bT (by omega) rfl
 | cons c r =>
  obtain ⟨h1,h2,h3⟩ := zat _ _ hd;refine bF (by omega) (bT (by omega) (bnd h1 ?_));simp only [za3,AV.pure,za0,l140 hC,obS];refine p79_2 ?_;have w142 := l141f142 (T := T) (nx := nx) hC p hl a hk;have w143 := l141f143 (T := T) (nx := nx) hC p hl a hk;rw [hd] at w142 w143;simp only [PS.at] at w142 w143;cases hlt : zqh c
  ·simp only [Tr.val,zaw,za3,AV.pure,za0,l143 hC,obS];refine p79_4 ?_;cases hdg : zed c
   ·simp only [Tr.val,zaw,Bool.false_eq_true,if_false];by_cases e34 : c.toNat = 34
    ·refine bT (by omega) ?_;rw [if_pos e34];have := l145 (T := T) (nx := nx) hC p hl a h3 3 [] 0 a;simp only [PS.at,h2] at this;rw [this];cases ht : zcw r with
     | none=>exact p79_6 rfl
     | some x =>
      obtain ⟨w,m⟩ := x;simp only [zo6,List.nil_append,obS];by_cases h32 : 32 < w.length
      ·simp only [if_pos h32,PS.at];exact p79_6 rfl
      ·simp only [if_neg h32,PS.at];exact p79_6 rfl
    ·refine bF (by omega) ?_;rw [if_neg e34];have := zv1 (T := T) (nx := nx) hC p hl a hk zfl 0 rfl (Nat.zero_le _);rw [hd] at this;exact this
   ·simp only [Tr.val,za0,Bool.false_eq_true,if_false,if_true];refine bnd w143 ?_;refine p79_5 ?_;generalize hW : (c :: r).takeWhile zed = W;have hWl : W.length ≤ 4000:=by
     have h4 : (c :: r).length ≤ p.src.length := by rw [← hd,List.length_drop]; omega
     have h5 : W.length ≤ (c :: r).length := by rw [← hW]; exact (List.takeWhile_sublist _).length_le
     omega
    have hW0 : W ≠ [] := by rw [← hW,List.takeWhile_cons,if_pos hdg]; simp
    obtain ⟨v,e,hp1,hp2,hp3⟩ := hC.pint W (by omega);simp only [Tr.val,za3,AV.pure,za0];refine bnd hp1 ?_;simp only [za3,AV.pure,hp2,za0];unfold numS;cases hn : Lib.parseIntB 64 W with
    | ok u =>
     rw [hn] at hp3;obtain ⟨rfl,rfl⟩ := hp3;refine p79_8 ?_;simp only [Tr.val];obtain ⟨x,W',rfl⟩ : ∃ x W',W = x :: W':=by
      cases W with
      | nil=>exact absurd rfl hW0
      | cons x W'=>exact ⟨x,W',rfl⟩
     by_cases hl1 : 1 < (x :: W').length
     ·refine bT (by omega) (bnd (x := x) rfl ?_);by_cases h48 : x.toNat = 48
      ·refine bT (by omega) ?_;rw [if_pos ⟨hl1,by rw [List.head?_cons,show x = 48 from UInt8.toNat_inj.1 h48]⟩];rfl
      ·refine bF (by omega) ?_;rw [if_neg (fun h=>h48 (by rw [List.head?_cons] at h; rw [Option.some.inj h.2]; rfl))];rfl
     ·refine bF (by omega) ?_;rw [if_neg (fun h=>hl1 h.1)];rfl
    | range =>
     rw [hn] at hp3;obtain ⟨t,w,rfl⟩ := hp3;exact p79_9 rfl
    | _ =>
     rw [hn] at hp3;obtain ⟨t,w,rfl⟩ := hp3;exact p79_9 rfl
  ·simp only [Tr.val,za0,if_true];refine bnd w142 ?_;exact p79_3 rfl
end
section
open Go Go.Vai
def PS.fail (p : PS) (e a : Int) : PS := ⟨p.src,p.pos,0,[],0,(p.src.length : Int),p.depth,if p.err = 0 then e else p.err,if p.err = 0 then a else p.eat⟩
def PS.adv (p : PS) : PS :=
 if p.err = 0 then
  if (zb4 p.src p.pos.toNat).err = 0 then ⟨p.src,(zb4 p.src p.pos.toNat).pos,(zb4 p.src p.pos.toNat).kind,(zb4 p.src p.pos.toNat).s,(zb4 p.src p.pos.toNat).n,(zb4 p.src p.pos.toNat).at_,p.depth,p.err,p.eat⟩
  else (p.at (zb4 p.src p.pos.toNat).pos).fail (zb4 p.src p.pos.toNat).err (zb4 p.src p.pos.toNat).at_
 else p
def PS.isW (p : PS) (w : List UInt8) : Bool := decide (p.kind = 1) && eqS p.s w
def PS.isG (p : PS) (w : List UInt8) : Bool := decide (p.kind = 4) && eqS p.s w
def PS.sign (p : PS) (w : List UInt8) : PS := if p.isG w = true then p.adv else p.fail 11 p.tat
def PS.name (p : PS) : PS := if p.kind = 1∧p.s ∉ kwL then if 16 < p.s.length then p.fail 3 p.tat else p.adv else p.fail 11 p.tat
def PS.oneF (p : PS) : List (List UInt8)→Nat→Int × PS
 | [],_=>(0,p.fail 11 p.tat)
 | w :: r,i=>if p.isW w = true then ((i : Int) + 1,p.adv) else p.oneF r (i + 1)
def PS.dep (p : PS) (d : Int) : PS := ⟨p.src,p.pos,p.kind,p.s,p.n,p.tat,p.depth + d,p.err,p.eat⟩
def PS.opn (p : PS) : PS := (if p.depth = 20 then p.fail 3 p.tat else p).dep 1
def PS.cls (p : PS) : PS := p.dep (-1)
theorem zhq : ∀ (b : Bool) (l : List UInt8),zbk b l ≤ l.length
 | b,[]=>by cases b <;> exact Nat.le_refl _
 | false,c :: r=>by
  unfold zbk;split
  ·exact Nat.succ_le_succ (zhq _ _)
  ·split
   ·exact Nat.succ_le_succ (zhq _ _)
   ·exact Nat.zero_le _
 | true,c :: r=>by
  unfold zbk;split
  ·exact Nat.succ_le_succ (zhq _ _)
  ·exact Nat.succ_le_succ (zhq _ _)
theorem zmr : ∀ (m : Nat) (l : List UInt8),l.length ≤ m→∀ w k,zcw l = some (w,k)→k ≤ l.length
 | m,[],_,w,k,h=>by rw [zcw.eq_def] at h; cases h
 | 0,c :: r,hm,w,k,h=>by simp at hm
 | m + 1,c :: r,hm,w,k,h=>by
  rw [zcw.eq_def] at h;simp only at h;split at h
  ·injection h with h; injection h with h1 h2; subst h2; simp
  ·split at h
   ·split at h
    ·cases h
    ·rename_i d r';split at h
     ·obtain ⟨⟨w',k'⟩,h1,h2⟩ := Option.map_eq_some_iff.1 h;have := zmr m r' (by simp at hm; omega) w' k' h1;injection h2 with _ h2;subst h2;simp;omega
     ·cases h
   ·split at h
    ·cases h
    ·obtain ⟨⟨w',k'⟩,h1,h2⟩ := Option.map_eq_some_iff.1 h;have := zmr m r (by simp at hm; omega) w' k' h1;injection h2 with _ h2;subst h2;simp;omega
theorem hasP_le {s p : List UInt8} (h : hasP s p = true) : p.length ≤ s.length:=by
 have := congrArg List.length ((zdg _ _).1 h);rw [List.length_take] at this;omega
theorem sign_len {s : List UInt8} (h : s ∈ zfl) : 1 ≤ s.length∧s.length ≤ 2 := (by decide : ∀ w ∈ zfl,1 ≤ w.length∧w.length ≤ 2) s h
structure TokOk (src : List UInt8) (a : Nat) (t : NT) : Prop where
 le : t.pos ≤ src.length
 ge : a ≤ t.pos
 gt : t.err = 0→t.kind ≠ 0→a < t.pos
 fin : t.err = 0→t.kind = 0→t.pos = src.length
 s0 : t.kind = 0→t.s = []
 at_ : t.at_ = a
 lt : a < src.length ∨ (t.err = 0∧t.kind = 0)
theorem tokS_ok (src : List UInt8) (a : Nat) (ha : a ≤ src.length) : TokOk src a (tokS src a):=by
 unfold tokS;cases hd : src.drop a with
 | nil =>
  have := zal _ _ ha hd;exact ⟨ha,Nat.le_refl _,fun _ h=>absurd rfl h,fun _ _=>this,fun _=>rfl,rfl,.inr ⟨rfl,rfl⟩⟩
 | cons c r =>
  obtain ⟨h1,h2,h3⟩ := zat _ _ hd;have hlen : (c :: r).length = src.length - a := by rw [← hd,List.length_drop]
  have hw : ∀ P : UInt8→Bool,((c :: r).takeWhile P).length ≤ (c :: r).length := fun P=>(List.takeWhile_sublist _).length_le;have hw1 : ∀ P : UInt8→Bool,P c = true→1 ≤ ((c :: r).takeWhile P).length := fun P hP=>by rw [List.takeWhile_cons,if_pos hP]; simp
  dsimp only;split
  ·rename_i hc;have i1 := hw isLD;have i2 := hw1 isLD (by unfold isLD; rw [hc]; rfl);exact ⟨by simp only; omega,by simp only; omega,fun _ _=>by simp only; omega,fun _ h=>(by cases h),fun h=>(by cases h),rfl,.inl h3⟩
  ·split
   ·rename_i hc;have i1 := hw zed;have i2 := hw1 zed hc;split
    ·exact ⟨by simp only; omega,by simp only; omega,fun _ _=>by simp only; omega,fun _ h=>(by cases h),fun h=>(by cases h),rfl,.inl h3⟩
    ·exact ⟨by simp only; omega,by simp only; omega,fun h=>(by cases h),fun h=>(by cases h),fun h=>(by cases h),rfl,.inl h3⟩
   ·split
    ·split
     ·exact ⟨ha,Nat.le_refl _,fun h=>(by cases h),fun h=>(by cases h),fun h=>(by cases h),rfl,.inl h3⟩
     ·rename_i w m ht;have := zmr _ r (Nat.le_refl _) w m ht;simp only [lnC] at hlen;split
      ·exact ⟨by simp only; omega,by simp only; omega,fun h=>(by cases h),fun h=>(by cases h),fun h=>(by cases h),rfl,.inl h3⟩
      ·exact ⟨by simp only; omega,by simp only; omega,fun _ _=>by simp only; omega,fun _ h=>(by cases h),fun h=>(by cases h),rfl,.inl h3⟩
    ·split
     ·rename_i s hs;have i1 := sign_len (List.mem_of_find?_eq_some hs);have i2 := hasP_le (List.find?_some hs);exact ⟨by simp only; omega,by simp only; omega,fun _ _=>by simp only; omega,fun _ h=>(by cases h),fun h=>(by cases h),rfl,.inl h3⟩
     ·exact ⟨ha,Nat.le_refl _,fun h=>(by cases h),fun h=>(by cases h),fun _=>rfl,rfl,.inl h3⟩
theorem zu7 (src : List UInt8) (k : Nat) (hk : k ≤ src.length) : k + zbk false (src.drop k) ≤ src.length:=by
 have := zhq false (src.drop k);rw [List.length_drop] at this;omega
theorem zmx (src : List UInt8) (k : Nat) (hk : k ≤ src.length) : TokOk src (k + zbk false (src.drop k)) (zb4 src k) := tokS_ok _ _ (zu7 _ _ hk)
structure Ok (p : PS) : Prop where
 len : p.src.length ≤ 4000
 pos : ∃ k : Nat,p.pos = k∧k ≤ p.src.length
 tok : p.err ≠ 0→p.kind = 0
 s0 : p.kind = 0→p.s = []
 d0 : 0 ≤ p.depth
 d1 : p.depth ≤ 21
 d2 : p.err = 0→p.depth ≤ 20
theorem Ok.at {p : PS} (h : Ok p) : ∃ k : Nat,p = p.at k∧p.pos.toNat = k∧k ≤ p.src.length:=by
 obtain ⟨k,hk,hl⟩ := h.pos;refine ⟨k,?_,by omega,hl⟩;cases p;simp only [PS.at] at *;rw [hk]
def mu (p : PS) : Nat := if p.err = 0 then 2 * (p.src.length - p.pos.toNat) + (if p.kind = 0 then 1 else 2) else 0
theorem PS.fail_ok {p : PS} (h : Ok p) {e a : Int} (he : e ≠ 0) : Ok (p.fail e a):=by
 refine ⟨h.len,h.pos,fun _=>rfl,fun _=>rfl,h.d0,h.d1,?_⟩;intro h0;simp only [PS.fail] at h0 ⊢;split at h0
 ·exact absurd h0 he
 ·contradiction
theorem zsg {p : PS} (h : p.err ≠ 0) : mu p = 0 := by unfold mu; rw [if_neg h]
theorem PS.fail_err (p : PS) {e : Int} (a : Int) (he : e ≠ 0) : (p.fail e a).err ≠ 0:=by
 simp only [PS.fail];split
 ·exact he
 ·assumption
theorem PS.fail_mu (p : PS) {e : Int} (a : Int) (he : e ≠ 0) : mu (p.fail e a) = 0 := zsg (p.fail_err a he)
theorem zs8 {p : PS} (h : p.err = 0) : 0 < mu p := by unfold mu; rw [if_pos h]; split <;> omega
theorem PS.adv_src (p : PS) : p.adv.src = p.src := by unfold PS.adv; split; · split <;> rfl
                                                      · rfl
theorem PS.adv_depth (p : PS) : p.adv.depth = p.depth := by unfold PS.adv; split; · split <;> rfl
                                                            · rfl
theorem PS.adv_ok {p : PS} (h : Ok p) : Ok p.adv:=by
 obtain ⟨k,hk,hk2,hkl⟩ := h.at;have ht := zmx p.src k hkl;unfold PS.adv;split
 ·rename_i h0;rw [hk2];split
  ·exact ⟨h.len,⟨_,rfl,ht.le⟩,fun hh=>absurd h0 hh,ht.s0,h.d0,h.d1,h.d2⟩
  ·rename_i he;have : Ok (p.at (zb4 p.src k).pos) := ⟨h.len,⟨_,rfl,ht.le⟩,fun hh=>h.tok hh,h.s0,h.d0,h.d1,h.d2⟩;exact PS.fail_ok this he
 ·exact h
theorem PS.adv_mu {p : PS} (h : Ok p) : mu p.adv ≤ mu p∧(p.kind ≠ 0→mu p.adv < mu p):=by
 obtain ⟨k,hk,hk2,hkl⟩ := h.at;have ht := zmx p.src k hkl;unfold PS.adv;split
 ·rename_i h0;rw [hk2];split
  ·rename_i he;have e1 : mu p = 2 * (p.src.length - k) + (if p.kind = 0 then 1 else 2) := by unfold mu; rw [if_pos h0,hk2]
   unfold mu;simp only [if_pos h0] at e1 ⊢;rw [hk2,itN];have i1 := ht.le;have i2 := ht.ge;by_cases hk0 : (zb4 p.src k).kind = 0
   ·rw [if_pos hk0,ht.fin he hk0];constructor
    ·split <;> omega
    ·intro hn; rw [if_neg hn]; omega
   ·rw [if_neg hk0];have i3 := ht.gt he hk0;constructor
    ·split <;> omega
    ·intro hn; rw [if_neg hn]; omega
  ·rename_i he;rw [PS.fail_mu _ _ he];exact ⟨Nat.zero_le _,fun _=>zs8 h0⟩
 ·rename_i h0;exact ⟨Nat.le_refl _,fun hk=>absurd (h.tok h0) hk⟩
end
section
open Go Go.Vai
inductive Ex where
 | mk (kind n : Int) (s : List UInt8) (tg : Bool) (l : List Ex) (a : Int)
mutual
def Ex.av : Ex→AV
 | .mk k n s tg l a=>.agg [.int .i64 k,.int .i64 n,.str s,.vs 5 tg (exs l),.int .i64 a]
def exs : List Ex→List AV
 | []=>[]
 | e :: l=>e.av :: exs l
end
def zwc : List UInt8 := [116,114,117,101]
def zow : List UInt8 := [102,97,108,115,101]
def zwo : List UInt8 := [115,105,122,101]
mutual
def binF : Nat→Nat→PS→Option (Ex × PS)
 | 0,_,_=>none
 | f + 1,n,p=>if n = 6 then unF f p else (binF f (n + 1) p).bind fun r=>binL f n r.1 r.2
def binL : Nat→Nat→Ex→PS→Option (Ex × PS)
 | 0,_,_,_=>none
 | f + 1,n,e,p =>
  if p.kind ≠ 3∧zh2 p.s = (n : Int) then
   (binF f (n + 1) p.adv).bind fun r=>if n = 3 then some (.mk 7 0 p.s false [e,r.1] p.tat,r.2) else binL f n (.mk 7 0 p.s false [e,r.1] p.tat) r.2
  else some (e,p)
def unF : Nat→PS→Option (Ex × PS)
 | 0,_=>none
 | f + 1,p=>if p.isG [45] = true ∨ p.isG [33] = true then (unF f p.opn.adv).bind fun r=>some (.mk 6 0 p.s true [r.1] p.tat,r.2.cls) else priF f p
def priF : Nat→PS→Option (Ex × PS)
 | 0,_=>none
 | f + 1,p =>
  if p.kind = 2 then some (.mk 1 p.n [] true [] p.tat,p.adv)
  else if p.kind = 3 then some (.mk 2 0 p.s true [] p.tat,p.adv)
  else if p.isW zwc = true then some (.mk 3 1 [] true [] p.tat,p.adv)
  else if p.isW zow = true then some (.mk 3 0 [] true [] p.tat,p.adv)
  else if p.isW zwo = true then some (.mk 5 0 (p.adv.sign [40]).s true [] p.tat,(p.adv.sign [40]).name.sign [41])
  else if p.isG [40] = true then (binF f 1 p.opn.adv).bind fun r=>some (r.1,r.2.cls.sign [41])
  else some (.mk 4 0 p.s true [] p.tat,p.name)
end
structure Keep (p q : PS) : Prop where
 ok : Ok q
 src : q.src = p.src
 dep : q.depth = p.depth
 mu : mu q ≤ mu p
theorem Keep.refl {p : PS} (h : Ok p) : Keep p p := ⟨h,rfl,rfl,Nat.le_refl _⟩
theorem Keep.trans {p q r : PS} (a : Keep p q) (b : Keep q r) : Keep p r := ⟨b.ok,b.src.trans a.src,b.dep.trans a.dep,Nat.le_trans b.mu a.mu⟩
theorem Keep.adv {p : PS} (h : Ok p) : Keep p p.adv := ⟨PS.adv_ok h,p.adv_src,p.adv_depth,(PS.adv_mu h).1⟩
theorem Keep.fail {p : PS} (h : Ok p) {e a : Int} (he : e ≠ 0) : Keep p (p.fail e a) := ⟨PS.fail_ok h he,rfl,rfl,by rw [PS.fail_mu _ _ he]; exact Nat.zero_le _⟩
theorem Keep.sign {p : PS} (h : Ok p) (w : List UInt8) : Keep p (p.sign w):=by
 unfold PS.sign;split
 ·exact Keep.adv h
 ·exact Keep.fail h (by decide)
theorem Keep.name {p : PS} (h : Ok p) : Keep p p.name:=by
 unfold PS.name;split
 ·split
  ·exact Keep.fail h (by decide)
  ·exact Keep.adv h
 ·exact Keep.fail h (by decide)
theorem Keep.oneF {p : PS} (h : Ok p) : ∀ (l : List (List UInt8)) (i : Nat),Keep p (p.oneF l i).2
 | [],_=>Keep.fail h (by decide)
 | w :: r,i=>by
  unfold PS.oneF;split
  ·exact Keep.adv h
  ·exact Keep.oneF h r (i + 1)
theorem zbs {p : PS} {w : List UInt8} (h : p.isW w = true) : p.kind = 1:=by
 unfold PS.isW at h;rw [Bool.and_eq_true] at h
 simpa using h.1
theorem zc0 {p : PS} {w : List UInt8} (h : p.isG w = true) : p.kind = 4:=by
 unfold PS.isG at h;rw [Bool.and_eq_true] at h
 simpa using h.1
theorem Ok.err0 {p : PS} (h : Ok p) (hk : p.kind ≠ 0) : p.err = 0:=by
 by_cases he : p.err = 0
 ·exact he
 ·exact absurd (h.tok he) hk
theorem zpd {p : PS} (h : Ok p) (hk : p.kind ≠ 0) : Ok p.opn∧p.opn.src = p.src∧p.opn.depth = p.depth + 1∧mu p.opn ≤ mu p∧(p.opn.kind ≠ 0 ∨ p.opn.err ≠ 0):=by
 have h0 := h.err0 hk;have h2 := h.d2 h0;have h1 := h.d0;unfold PS.opn;split
 ·rename_i hd;have hf := PS.fail_ok h (e := 3) (a := p.tat) (by decide);have he := p.fail_err (e := 3) p.tat (by decide);refine ⟨⟨hf.len,hf.pos,hf.tok,hf.s0,?_,?_,fun h=>absurd h he⟩,rfl,rfl,?_,.inr he⟩
  ·show 0 ≤ p.depth + 1; omega
  ·show p.depth + 1 ≤ 21; omega
  ·rw [zsg (p := (p.fail 3 p.tat).dep 1) he]; exact Nat.zero_le _
 ·rename_i hd;refine ⟨⟨h.len,h.pos,h.tok,h.s0,?_,?_,fun _=>?_⟩,rfl,rfl,Nat.le_refl _,.inl hk⟩
  ·show 0 ≤ p.depth + 1; omega
  ·show p.depth + 1 ≤ 21; omega
  ·show p.depth + 1 ≤ 20; omega
theorem zc9 {p : PS} (h : Ok p) (hk : p.kind ≠ 0) : Ok p.opn.adv∧p.opn.adv.src = p.src∧p.opn.adv.depth = p.depth + 1∧mu p.opn.adv < mu p:=by
 obtain ⟨h1,h2,h3,h4,h5⟩ := zpd h hk;refine ⟨PS.adv_ok h1,p.opn.adv_src.trans h2,p.opn.adv_depth.trans h3,?_⟩;rcases h5 with h5 | h5
 ·exact Nat.lt_of_lt_of_le ((PS.adv_mu h1).2 h5) h4
 ·have : p.opn.adv = p.opn := by unfold PS.adv; rw [if_neg h5]
  rw [this,zsg h5];exact zs8 (h.err0 hk)
theorem zd5 {p q : PS} (h : Ok p) (hq : Ok q) (hs : q.src = p.src) (hd : q.depth = p.depth + 1) (hm : mu q ≤ mu p) : Keep p q.cls:=by
 have h0 := h.d0;have h1 := hq.d1;refine ⟨⟨hq.len,hq.pos,hq.tok,hq.s0,?_,?_,fun he=>?_⟩,hs,?_,hm⟩
 ·show 0 ≤ q.depth + -1; omega
 ·show q.depth + -1 ≤ 21; omega
 ·have := hq.d2 he; show q.depth + -1 ≤ 20; omega
 ·show q.depth + -1 = p.depth; omega
theorem zbp : ∀ f : Nat,(∀ n p r,Ok p→binF f n p = some r→Keep p r.2)∧(∀ n e p r,Ok p→binL f n e p = some r→Keep p r.2)∧(∀ p r,Ok p→unF f p = some r→Keep p r.2)∧(∀ p r,Ok p→priF f p = some r→Keep p r.2)
 | 0=>⟨fun _ _ _ _ h=>(by rw [binF] at h; cases h),fun _ _ _ _ _ h=>(by rw [binL] at h; cases h),fun _ _ _ h=>(by rw [unF] at h; cases h),fun _ _ _ h=>(by rw [priF] at h; cases h)⟩
 | f + 1=>by
  obtain ⟨i1,i2,i3,i4⟩ := zbp f;refine ⟨fun n p r hp h=>?_,fun n e p r hp h=>?_,fun p r hp h=>?_,fun p r hp h=>?_⟩
  ·rw [binF] at h;split at h
   ·exact i3 p r hp h
   ·obtain ⟨x,h1,h2⟩ := za2 h;have k1 := i1 _ _ _ hp h1;exact k1.trans (i2 _ _ _ _ k1.ok h2)
  ·rw [binL] at h;split at h
   ·obtain ⟨x,h1,h2⟩ := za2 h;have k0 := Keep.adv hp;have k1 := k0.trans (i1 _ _ _ k0.ok h1);split at h2
    ·injection h2 with h2; subst h2; exact k1
    ·exact k1.trans (i2 _ _ _ _ k1.ok h2)
   ·injection h with h; subst h; exact Keep.refl hp
  ·rw [unF] at h;split at h
   ·rename_i hg;have hk : p.kind ≠ 0 := by rcases hg with hg | hg <;> rw [zc0 hg] <;> decide
    obtain ⟨x,h1,h2⟩ := za2 h;obtain ⟨a1,a2,a3,a4⟩ := zc9 hp hk;have k1 := i3 _ _ a1 h1;injection h2 with h2;subst h2;exact zd5 hp k1.ok (k1.src.trans a2) (k1.dep.trans a3) (by have := k1.mu; omega)
   ·exact i4 p r hp h
  ·rw [priF] at h;split at h
   ·injection h with h; subst h; exact Keep.adv hp
   split at h
   ·injection h with h; subst h; exact Keep.adv hp
   split at h
   ·injection h with h; subst h; exact Keep.adv hp
   split at h
   ·injection h with h; subst h; exact Keep.adv hp
   split at h
   ·injection h with h; subst h;have k1 := Keep.adv hp;have k2 := k1.trans (Keep.sign k1.ok [40]);have k3 := k2.trans (Keep.name k2.ok);exact k3.trans (Keep.sign k3.ok [41])
   split at h
   ·rename_i hg;obtain ⟨x,h1,h2⟩ := za2 h;obtain ⟨a1,a2,a3,a4⟩ := zc9 hp (by rw [zc0 hg]; decide);have k1 := i1 _ _ _ a1 h1;injection h2 with h2;subst h2;have k2 := zd5 hp k1.ok (k1.src.trans a2) (k1.dep.trans a3) (by have := k1.mu; omega);exact k2.trans (Keep.sign k2.ok [41])
   ·injection h with h; subst h; exact Keep.name hp
end
section
open Go Go.Vai
inductive Stm where
 | mk (kind : Int) (field : List UInt8) (v : List Ex) (tg1 : Bool) (th : List Stm) (tg2 : Bool) (el : List Stm) (a : Int)
mutual
def Stm.av : Stm→AV
 | .mk k s v tg1 th tg2 el a=>.agg [.int .i64 k,.str s,.vs 5 true (exs v),.vs 6 tg1 (stms th),.vs 6 tg2 (stms el),.int .i64 a]
def stms : List Stm→List AV
 | []=>[]
 | e :: l=>e.av :: stms l
end
structure Par where
 name : List UInt8
 type : Int
 at_ : Int
def Par.av (x : Par) : AV := .agg [.str x.name,.int .i64 x.type,.int .i64 x.at_]
def wIf : List UInt8 := [105,102]
def wElse : List UInt8 := [101,108,115,101]
def tyL : List (List UInt8) := [[105,110,116],[116,101,120,116],[98,111,111,108]]
def stL : List (List UInt8) := [[119,114,105,116,101],[114,97,105,115,101],[97,100,100],[105,110,115,101,114,116],[109,97,114,107]]
def parF (p : PS) : Par × PS := (⟨p.s,(p.name.oneF tyL 0).1,p.tat⟩,(p.name.oneF tyL 0).2)
def pasL : Nat→List Par→PS→Option (List Par × PS)
 | 0,_,_=>none
 | f + 1,l,p=>if p.isG [44] = true then pasL f (l ++ [(parF p.adv).1]) (parF p.adv).2 else some (l,p.sign [41])
def pasF (f : Nat) (p : PS) : Option ((Bool × List Par) × PS) :=
 if (p.sign [40]).isG [41] = true then some ((true,[]),(p.sign [40]).sign [41])
 else (pasL f [(parF (p.sign [40])).1] (parF (p.sign [40])).2).map fun x=>((false,x.1),x.2)
mutual
def blkL : Nat→Bool→List Stm→PS→Option ((Bool × List Stm) × PS)
 | 0,_,_,_=>none
 | f + 1,tg,l,p=>if p.err = 0∧p.isG [125] = false then (stF f p).bind fun r=>blkL f false (l ++ [r.1]) r.2 else some ((tg,l),p.sign [125])
def stF : Nat→PS→Option (Stm × PS)
 | 0,_=>none
 | f + 1,p =>
  if p.isW wIf = true then
   (binF f 1 p.opn.adv).bind fun r=>(blkL f true [] (r.2.sign [123])).bind fun b =>
    if b.2.isW wElse = true then (blkL f true [] (b.2.adv.sign [123])).bind fun c=>some (.mk 6 [] [r.1] b.1.1 b.1.2 c.1.1 c.1.2 p.tat,c.2.cls)
    else some (.mk 6 [] [r.1] b.1.1 b.1.2 true [] p.tat,b.2.cls)
  else if (p.oneF stL 0).1 = 5 then some (.mk 5 (p.oneF stL 0).2.s [] true [] true [] p.tat,(p.oneF stL 0).2.name.sign [59])
  else (binF f 1 ((p.oneF stL 0).2.name.sign [61])).bind fun r=>some (.mk (p.oneF stL 0).1 (p.oneF stL 0).2.s [r.1] true [] true [] p.tat,r.2.sign [59])
end
def blkF (f : Nat) (p : PS) : Option ((Bool × List Stm) × PS) := blkL f true [] (p.sign [123])
theorem zj5 {p : PS} (h : Ok p) : mu p ≤ 8002:=by
 have := h.len;unfold mu;split
 ·split <;> omega
 ·omega
theorem zjy {p : PS} (h : Ok p) (h0 : p.err = 0) : ∀ (l : List (List UInt8)) (i : Nat),mu (p.oneF l i).2 < mu p
 | [],i=>by
  unfold PS.oneF;rw [show mu ((0 : Int),p.fail 11 p.tat).2 = 0 from PS.fail_mu _ _ (by decide)];exact zs8 h0
 | w :: r,i=>by
  unfold PS.oneF;split
  ·rename_i hw;exact (PS.adv_mu h).2 (by rw [zbs hw]; decide)
  ·exact zjy h h0 r (i + 1)
theorem zcd {p : PS} (h : Ok p) : Keep p (parF p).2 := (Keep.name h).trans (Keep.oneF (Keep.name h).ok _ _)
theorem zp7 : ∀ f l p r,Ok p→pasL f l p = some r→Keep p r.2
 | 0,_,_,_,_,h=>by cases h
 | f + 1,l,p,r,hO,h=>by
  unfold pasL at h;split at h
  ·have k0 := Keep.adv hO;have k1 := k0.trans (zcd k0.ok);exact k1.trans (zp7 f _ _ _ k1.ok h)
  ·injection h with h; subst h; exact Keep.sign hO _
theorem zbw {f : Nat} {p : PS} {r : (Bool × List Par) × PS} (hO : Ok p) (h : pasF f p = some r) : Keep p r.2:=by
 have k0 := Keep.sign hO [40];unfold pasF at h;split at h
 ·injection h with h; subst h; exact k0.trans (Keep.sign k0.ok _)
 ·obtain ⟨x,h1,h2⟩ := Option.map_eq_some_iff.1 h;subst h2;have k1 := k0.trans (zcd k0.ok);exact k1.trans (zp7 f _ _ _ k1.ok h1)
theorem zdf : ∀ f : Nat,(∀ tg l p r,Ok p→blkL f tg l p = some r→Keep p r.2)∧(∀ p r,Ok p→stF f p = some r→Keep p r.2∧(p.err = 0→mu r.2 < mu p))
 | 0=>⟨fun _ _ _ _ _ h=>(by rw [blkL] at h; cases h),fun _ _ _ h=>(by rw [stF] at h; cases h)⟩
 | f + 1=>by
  obtain ⟨i1,i2⟩ := zdf f;refine ⟨fun tg l p r hO h=>?_,fun p r hO h=>?_⟩
  ·rw [blkL] at h;split at h
   ·obtain ⟨x,h1,h2⟩ := za2 h;have k1 := (i2 _ _ hO h1).1;exact k1.trans (i1 _ _ _ _ k1.ok h2)
   ·injection h with h; subst h; exact Keep.sign hO _
  ·rw [stF] at h;split at h
   ·rename_i hw;have hk : p.kind ≠ 0 := by rw [zbs hw]; decide
    obtain ⟨a1,a2,a3,a4⟩ := zc9 hO hk;obtain ⟨x,h1,h2⟩ := za2 h;have k1 := (zbp f).1 _ _ _ a1 h1;obtain ⟨b,h3,h4⟩ := za2 h2;have k2 := k1.trans (Keep.sign k1.ok [123]);have k3 := k2.trans (i1 _ _ _ _ k2.ok h3);split at h4
    ·obtain ⟨c,h5,h6⟩ := za2 h4;have k4 := k3.trans (Keep.adv k3.ok);have k5 := k4.trans (Keep.sign k4.ok [123]);have k6 := k5.trans (i1 _ _ _ _ k5.ok h5);injection h6 with h6;subst h6;have := k6.mu;refine ⟨zd5 hO k6.ok (k6.src.trans a2) (k6.dep.trans a3) (by omega),fun _=>?_⟩;show mu c.2 < mu p;omega
    ·injection h4 with h4;subst h4;have := k3.mu;refine ⟨zd5 hO k3.ok (k3.src.trans a2) (k3.dep.trans a3) (by omega),fun _=>?_⟩;show mu b.2 < mu p;omega
   ·have k1 := Keep.oneF hO stL 0;have k2 := k1.trans (Keep.name k1.ok);have lt := fun h0=>zjy hO h0 stL 0;split at h
    ·injection h with h;subst h;have k3 := Keep.sign k2.ok [59];refine ⟨k2.trans k3,fun h0=>?_⟩;have := (Keep.name k1.ok).mu;have := k3.mu;have := lt h0;simp only;omega
    ·obtain ⟨x,h1,h2⟩ := za2 h;have k3 := Keep.sign k2.ok [61];have k4 := (zbp f).1 _ _ _ k3.ok h1;have k5 := Keep.sign k4.ok [59];injection h2 with h2;subst h2;refine ⟨((k2.trans k3).trans k4).trans k5,fun h0=>?_⟩;have := (Keep.name k1.ok).mu;have := k3.mu;have := k4.mu;have := k5.mu;have := lt h0;simp only;omega
end
section
open Go Go.Vai
structure Fld where
 name : List UInt8
 kind : Int
 type : Int
 at_ : Int
def Fld.av (x : Fld) : AV := .agg [.str x.name,.int .i64 x.kind,.int .i64 x.type,.int .i64 x.at_]
structure Opn where
 name : List UInt8
 tgP : Bool
 params : List Par
 tgB : Bool
 body : List Stm
 at_ : Int
def Opn.av (x : Opn) : AV := .agg [.str x.name,.vs 3 x.tgP (x.params.map Par.av),.vs 6 x.tgB (stms x.body),.int .i64 x.at_]
structure Qry where
 name : List UInt8
 tgP : Bool
 params : List Par
 res : Ex
 at_ : Int
def Qry.av (x : Qry) : AV := .agg ([.str x.name,.vs 3 x.tgP (x.params.map Par.av)] ++ x.res.av.cells ++ [.int .i64 x.at_])
structure Idx where
 field : List UInt8
 at_ : Int
def Idx.av (x : Idx) : AV := .agg [.str x.field,.int .i64 x.at_]
structure Typ where
 name : List UInt8
 tgF : Bool
 fields : List Fld
 tgO : Bool
 ops : List Opn
 tgQ : Bool
 qrys : List Qry
 tgI : Bool
 idxs : List Idx
 at_ : Int
def Typ.cs (t : Typ) : List AV := [.str t.name,.vs 4 t.tgF (t.fields.map Fld.av),.vs 4 t.tgO (t.ops.map Opn.av),.vs 8 t.tgQ (t.qrys.map Qry.av),.vs 2 t.tgI (t.idxs.map Idx.av),.int .i64 t.at_]
def Typ.av (t : Typ) : AV := .agg t.cs
def memW : List (List UInt8) := [[114,101,103,105,115,116,101,114],[99,111,117,110,116,101,114],[109,97,120],[115,101,116],[102,108,97,103],[111,112],[113,117,101,114,121],[105,110,100,101,120]]
def regW : List (List UInt8) := [[105,110,116],[116,101,120,116]]
def wType : List UInt8 := [116,121,112,101]
def memF (f : Nat) (t : Typ) (p : PS) : Option (Typ × PS) :=
 if (p.oneF memW 0).1 = 1 then
  some ({ t with tgF := false,fields := t.fields ++ [⟨(p.oneF memW 0).2.s,1,((p.oneF memW 0).2.name.oneF regW 0).1,(p.oneF memW 0).2.tat⟩] },((p.oneF memW 0).2.name.oneF regW 0).2.sign [59])
 else if (p.oneF memW 0).1 = 2 ∨ (p.oneF memW 0).1 = 3 ∨ (p.oneF memW 0).1 = 4 ∨ (p.oneF memW 0).1 = 5 then
  some ({ t with tgF := false,fields := t.fields ++ [⟨(p.oneF memW 0).2.s,(p.oneF memW 0).1,0,(p.oneF memW 0).2.tat⟩] },(p.oneF memW 0).2.name.sign [59])
 else if (p.oneF memW 0).1 = 6 then
  (pasF f (p.oneF memW 0).2.name).bind fun a=>(blkF f a.2).bind fun b =>
   some ({ t with tgO := false,ops := t.ops ++ [⟨(p.oneF memW 0).2.s,a.1.1,a.1.2,b.1.1,b.1.2,(p.oneF memW 0).2.tat⟩] },b.2)
 else if (p.oneF memW 0).1 = 7 then
  (pasF f (p.oneF memW 0).2.name).bind fun a=>(binF f 1 (a.2.sign [61])).bind fun r =>
   some ({ t with tgQ := false,qrys := t.qrys ++ [⟨(p.oneF memW 0).2.s,a.1.1,a.1.2,r.1,(p.oneF memW 0).2.tat⟩] },r.2.sign [59])
 else if (p.oneF memW 0).1 = 8 then
  some ({ t with tgI := false,idxs := t.idxs ++ [⟨(p.oneF memW 0).2.s,(p.oneF memW 0).2.tat⟩] },(p.oneF memW 0).2.name.sign [59])
 else some (t,(p.oneF memW 0).2)
def tdL : Nat→Typ→PS→Option (Typ × PS)
 | 0,_,_=>none
 | f + 1,t,p=>if p.err = 0∧p.isG [125] = false then (memF f t p).bind fun r=>tdL f r.1 r.2 else some (t,p.sign [125])
def tdF (f : Nat) (p : PS) : Option (Typ × PS) := tdL f ⟨p.adv.s,true,[],true,[],true,[],true,[],p.adv.tat⟩ (p.adv.name.sign [123])
def paL : Nat→Bool→List Typ→PS→Option ((Bool × List Typ) × PS)
 | 0,_,_,_=>none
 | f + 1,tg,l,p=>if p.isW wType = true then (tdF f p).bind fun r=>paL f false (l ++ [r.1]) r.2 else some ((tg,l),p)
def ps0 (src : List UInt8) : PS := ⟨src,0,0,[],0,0,0,0,0⟩
def PS.fin (p : PS) : PS := if p.kind = 0 then p else p.fail 11 p.tat
theorem zdx {f : Nat} {t : Typ} {p : PS} {r : Typ × PS} (hO : Ok p) (h : memF f t p = some r) : Keep p r.2∧(p.err = 0→mu r.2 < mu p):=by
 have k1 := Keep.oneF hO memW 0;have k2 := Keep.name k1.ok;have lt := fun h0=>zjy hO h0 memW 0;have fin : ∀ q : PS,Keep (p.oneF memW 0).2 q→Keep p q∧(p.err = 0→mu q < mu p) := fun q kq=>⟨k1.trans kq,fun h0=>Nat.lt_of_le_of_lt kq.mu (lt h0)⟩;unfold memF at h;split at h
 ·injection h with h; subst h;have k3 := k2.trans (Keep.oneF k2.ok regW 0);exact fin _ (k3.trans (Keep.sign k3.ok _))
 split at h
 ·injection h with h; subst h;exact fin _ (k2.trans (Keep.sign k2.ok _))
 split at h
 ·obtain ⟨a,h1,h2⟩ := za2 h;obtain ⟨b,h3,h4⟩ := za2 h2;injection h4 with h4; subst h4;have k3 := k2.trans (zbw k2.ok h1);have k4 := k3.trans (Keep.sign k3.ok [123]);exact fin _ (k4.trans ((zdf f).1 _ _ _ _ k4.ok h3))
 split at h
 ·obtain ⟨a,h1,h2⟩ := za2 h;obtain ⟨b,h3,h4⟩ := za2 h2;injection h4 with h4; subst h4;have k3 := k2.trans (zbw k2.ok h1);have k4 := k3.trans (Keep.sign k3.ok [61]);have k5 := k4.trans ((zbp f).1 _ _ _ k4.ok h3);exact fin _ (k5.trans (Keep.sign k5.ok _))
 split at h
 ·injection h with h; subst h;exact fin _ (k2.trans (Keep.sign k2.ok _))
 ·injection h with h; subst h;exact fin _ (Keep.refl k1.ok)
theorem zn7 : ∀ f t p r,Ok p→tdL f t p = some r→Keep p r.2
 | 0,_,_,_,_,h=>by cases h
 | f + 1,t,p,r,hO,h=>by
  unfold tdL at h;split at h
  ·obtain ⟨a,h1,h2⟩ := za2 h;have k1 := (zdx hO h1).1;exact k1.trans (zn7 f _ _ _ k1.ok h2)
  ·injection h with h; subst h; exact Keep.sign hO _
theorem zg8 {f : Nat} {p : PS} {r : Typ × PS} (hO : Ok p) (h : tdF f p = some r) : Keep p r.2:=by
 have k1 := Keep.adv hO;have k2 := k1.trans (Keep.name k1.ok);have k3 := k2.trans (Keep.sign k2.ok [123]);exact k3.trans (zn7 f _ _ _ k3.ok h)
theorem zvl {f : Nat} {p : PS} {r : Typ × PS} (hO : Ok p) (hk : p.kind ≠ 0) (h : tdF f p = some r) : mu r.2 < mu p:=by
 have k1 := Keep.adv hO;have k2 := Keep.name k1.ok;have k3 := Keep.sign k2.ok [123];have k4 := zn7 f _ _ _ k3.ok h;have := (PS.adv_mu hO).2 hk;have := k2.mu;have := k3.mu;have := k4.mu;omega
theorem zk4 {src : List UInt8} (h : src.length ≤ 4000) : Ok (ps0 src) := ⟨h,⟨0,rfl,Nat.zero_le _⟩,fun _=>rfl,fun _=>rfl,by show (0 : Int) ≤ 0; decide,by show (0 : Int) ≤ 21; decide,fun _=>by show (0 : Int) ≤ 20; decide⟩
end
section
open Go Go.Vai
attribute [local irreducible] goTo zao mkS
variable {C : Nat→Oracle} (hC : Ext C) {T : Hp} {nx : Nat}
include hC
theorem l45 (p : PS) (e a : Int) : calL C 45 [.ptr 0 0,.int .i64 e,.int .i64 a] (hp p T) nx = some ⟨.tuple [],hp (p.fail e a) T,nx⟩:=by
 refine p45_c hC (p45_0 ?_);simp only [Tr.val,PS.fail];by_cases h : p.err = 0
 ·rw [if_pos h,if_pos h]; exact bT h rfl
 ·rw [if_neg h,if_neg h]; exact bF h rfl
theorem l42 (p : PS) (h : Ok p) : calL C 42 [.ptr 0 0] (hp p T) nx = some ⟨.tuple [],hp p.adv T,nx⟩:=by
 obtain ⟨k,hk,hk2,hkl⟩ := h.at;refine p42_c hC (p42_0 ?_);simp only [Tr.val,PS.adv];by_cases h0 : p.err = 0
 ·refine nF h0 ?_;rw [if_pos h0,hk2];have := l79 (T := T) (nx := nx) hC p h.len k (zu7 _ _ hkl) hkl;rw [← hk] at this;refine bnd this ?_;simp only [ntO,zsu];refine p42_1 ?_;simp only [Tr.val,PS.at];by_cases he : (zb4 p.src k).err = 0
  ·refine nF he ?_;rw [if_pos he]
  ·refine nT he ?_;rw [if_neg he];refine bnd (l45 hC _ _ _) ?_;exact p42_2 rfl
 ·refine nT h0 ?_;rw [if_neg h0]
theorem l43 (p : PS) (w : List UInt8) : calL C 43 [.ptr 0 0,.str w] (hp p T) nx = some ⟨.bool (p.isW w),hp p T,nx⟩:=by
 refine p43_c hC (p43_0 ?_);simp only [Tr.val,PS.isW];by_cases h : p.kind = 1
 ·refine bT h ?_;rw [decide_eq_true h]; rfl
 ·refine bF h ?_;rw [decide_eq_false h]; rfl
theorem l82 (p : PS) (w : List UInt8) : calL C 82 [.ptr 0 0,.str w] (hp p T) nx = some ⟨.bool (p.isG w),hp p T,nx⟩:=by
 refine p82_c hC (p82_0 ?_);simp only [Tr.val,PS.isG];by_cases h : p.kind = 4
 ·refine bT h ?_;rw [decide_eq_true h]; rfl
 ·refine bF h ?_;rw [decide_eq_false h]; rfl
theorem l81 (p : PS) (h : Ok p) (w : List UInt8) : calL C 81 [.ptr 0 0,.str w] (hp p T) nx = some ⟨.tuple [],hp (p.sign w) T,nx⟩:=by
 refine p81_c hC (p81_0 ?_);refine bnd (l82 hC p w) ?_;refine p81_1 ?_;simp only [Tr.val,PS.sign];cases hg : p.isG w
 ·simp only [bnF,za0,Bool.false_eq_true,if_false];refine bnd (l45 hC _ _ _) ?_;exact p81_2 rfl
 ·simp only [bnT,zaw,if_true];refine bnd (l42 hC p h) ?_;exact p81_3 rfl
theorem l80 (p : PS) (h : Ok p) : calL C 80 [.ptr 0 0] (hp p T) nx = some ⟨.tuple [.str p.s,.int .i64 p.tat],hp p.name T,nx⟩:=by
 refine p80_c hC (p80_0 ?_);simp only [Tr.val,PS.name];by_cases h1 : p.kind = 1
 ·refine nF h1 ?_;simp only [za3,AV.pure,za0];refine bnd (l147 hC p.s) ?_;simp only [AV.pure,za0];refine p80_2 ?_;simp only [Tr.val];by_cases hk : p.s ∈ kwL
  ·rw [decide_eq_true hk,za0,if_neg (fun hh=>hh.2 hk)];refine bnd (l45 hC _ _ _) ?_;exact p80_1 rfl
  ·rw [decide_eq_false hk,zaw,if_pos ⟨h1,hk⟩];by_cases h16 : 16 < p.s.length
   ·refine bT (by omega) ?_;rw [if_pos h16];refine bnd (l45 hC _ _ _) ?_;exact p80_3 rfl
   ·refine bF (by omega) ?_;rw [if_neg h16];refine bnd (l42 hC p h) ?_;exact p80_4 rfl
 ·refine nT h1 ?_;rw [if_neg (fun hh=>h1 hh.1)];refine bnd (l45 hC _ _ _) ?_;exact p80_1 rfl
theorem one_loop (p : PS) (h : Ok p) (tg : Bool) (l : List (List UInt8)) (hl : l.length ≤ 4000) : ∀ (r : List (List UInt8)) (i : Nat),l.drop i = r→i ≤ l.length →
  RL C 148 Q0a (mkS 29 [(0,.val (.ptr 0 0) .no),(7,.val (.vs 1 tg (l.map AV.str)) .no),(8,.val (.int .i64 (l.length : Int)) .no),(9,.val (.int .i64 (i : Int)) .no)] [] (hp p T) nx) =
   some ⟨.int .i64 (p.oneF r i).1,hp (p.oneF r i).2 T,nx⟩:=by
 intro r
 induction r with
 | nil =>
  intro i hi hil;have := zal _ _ hil hi;refine p148_1 ?_;simp only [Tr.val,PS.oneF];refine bF (by omega) (bnd (l45 hC _ _ _) ?_);exact p148_3 rfl
 | cons w r ih =>
  intro i hi hil;obtain ⟨h1,h2,h3⟩ := zat _ _ hi;refine p148_1 ?_;simp only [Tr.val,PS.oneF,lnM,itN];refine bT (by omega) (bT (by omega) (bT (by omega) (bnd (x := .str w) (by rw [zci,List.getElem?_map,h1]; rfl) ?_)));refine p148_2 ?_;refine bnd (l43 hC p w) ?_;refine p148_4 ?_;simp only [Tr.val];rw [zb1 (by omega) (by omega),show ((i : Int) + 1) = ((i + 1 : Nat) : Int) by omega];cases hw : p.isW w
  ·simp only [zaw,Bool.false_eq_true,if_false];exact ih (i + 1) h2 (by omega)
  ·simp only [za0,if_true];refine bnd (l42 hC p h) ?_;refine p148_5 ?_;simp only [Tr.val];rw [zb1 (by omega) (by omega)];rfl
theorem l148 (p : PS) (h : Ok p) (tg : Bool) (l : List (List UInt8)) (hl : l.length ≤ 4000) : calL C 148 [.ptr 0 0,.vs 1 tg (l.map AV.str)] (hp p T) nx = some ⟨.int .i64 (p.oneF l 0).1,hp (p.oneF l 0).2 T,nx⟩:=by
 refine p148_c hC (p148_0 ?_);have := one_loop (T := T) (nx := nx) hC p h tg l hl l 0 rfl (Nat.zero_le _);simp only [Tr.val,lnM];exact this
theorem l213 (p : PS) (h : Ok p) : calL C 213 [.ptr 0 0] (hp p T) nx = some ⟨.tuple [],hp p.opn T,nx⟩:=by
 have i1 := h.d0;have i2 := h.d1;refine p213_c hC (p213_0 ?_);simp only [Tr.val,PS.opn];by_cases h1 : p.depth = 20
 ·refine bT h1 ?_;rw [if_pos h1];refine bnd (l45 hC _ _ _) ?_;refine p213_1 ?_;simp only [Tr.val,PS.fail,PS.dep];rw [zb1 (by omega) (by omega)]
 ·refine bF h1 ?_;rw [if_neg h1];simp only [PS.dep];rw [zb1 (by omega) (by omega)]
theorem l214 (p : PS) (h0 : 0 ≤ p.depth) (h1 : p.depth ≤ 100) : calL C 214 [.ptr 0 0] (hp p T) nx = some ⟨.tuple [],hp p.cls T,nx⟩:=by
 refine p214_c hC (p214_0 ?_);simp only [Tr.val,PS.cls,PS.dep];rw [zb1 (by omega) (by omega)];rfl
end
section
open Go Go.Vai
attribute [local irreducible] goTo zao mkS
variable {C : Nat → Oracle} {o : Out}
abbrev cD0 : Nat × Blk := (2,⟨[(i6 0),(i6 0),(.str []),(.vs 5 true []),(i6 0)],[3]⟩)
abbrev cD1 : Nat × Blk := (2,⟨[(i6 0),(.str []),(.vs 5 true []),(.vs 6 true []),(.vs 6 true []),(i6 0)],[2,3,4]⟩)
abbrev cD2 : Nat × Blk := (4,⟨[(i6 0),(i6 0),(.str []),(.vs 5 true []),(i6 0)],[3]⟩)
abbrev cD3 : Nat × Blk := (2,⟨[(.str []),(i6 0),(i6 0)],[]⟩)
abbrev cD5 : AV := (.vs 1 true [(.str [105,110,116]),(.str [116,101,120,116]),(.str [98,111,111,108])])
abbrev cD6 : AV := (.vs 1 true [(.str [119,114,105,116,101]),(.str [114,97,105,115,101]),(.str [97,100,100]),(.str [105,110,115,101,114,116]),(.str [109,97,114,107])])
abbrev qD0 : List Nat := Q0z
abbrev qD1 : List Nat := Q1d
abbrev qD2 : List Nat := Q2t
abbrev qD3 : List Nat := Q1f
abbrev qD4 : List Nat := Q27
abbrev qD5 : List Nat := Q3j
abbrev qD6 : List Nat := Q3c
abbrev qD7 : List Nat := Q45
abbrev qD8 : List Nat := Q3y
abbrev qD9 : List Nat := Q4l
abbrev qD10 : List Nat := Q4d
abbrev qD11 : List Nat := Q4m
abbrev qD12 : List Nat := Q55
abbrev qD13 : List Nat := Q4w
abbrev qD14 : List Nat := Q5b
abbrev qD15 : List Nat := Q5c
abbrev qD16 : List Nat := Q5r
abbrev qD17 : List Nat := Q5x
abbrev qD18 : List Nat := Q3n
abbrev qD19 : List Nat := Q39
abbrev qD20 : List Nat := Q3k
abbrev qD21 : List Nat := Q3v
abbrev qD22 : List Nat := Q3u
abbrev qD23 : List Nat := Q43
theorem p151_c (hC : Ext C) {T : Hp} {b : Nat} {a : PS} : LC C o 151 (mkS 5 [vv 0 (.ptr 0 0)] [] (hp a T) b) [(.ptr 0 0)] (hp a T) b := lC hC
theorem p151_0 {T : Hp} {c : Nat} {a : PS} : LR C o 151 [] (mkS 5 [vv 0 (.ptr 0 0)] [] (hp a T) c) (.call 188 [(.ptr 0 0),(i6 1)] (hp a T) c fun b =>
(.mid 0 [0,5,0] 2 (mkS 5 [vv 0 (.ptr 0 0),(2,.lp 2 0),vv 3 (.ptr 0 0),vv 4 b.v] [cD0] b.H b.nx))) := lR 4
theorem p151_1 {b c d e a f} {T : Hp} {h : Nat} {g : PS} : LM C o 151 [0,5,0] 2 (mkS 5 [vv 0 (.ptr 0 0),(2,.lp 2 0),vv 3 (.ptr 0 0),vv 4 (.agg [(i6 b),(i6 c),(.str e),(.vs 5 a f),(i6 d)])] [cD0] (hp g T) h) (.ret ⟨(.agg [(i6 b),(i6 c),(.str e),(.vs 5 a f),(i6 d)]),(hp g T),h⟩) := lM 1
theorem p188_c (hC : Ext C) {T : Hp} {c : Nat} {a : Int} {b : PS} : LC C o 188 (mkS 57 [vv 0 (.ptr 0 0),vi 1 a] [] (hp b T) c) [(.ptr 0 0),(i6 a)] (hp b T) c := lC hC
abbrev yS61 := fun a b c (d : Nat) => mkS 57 [vv 0 (.ptr 0 0),vi 1 a,(4,.lp 4 0),vb 7 true,vv 8 (.ptr 0 0),vv 9 b] [cD2] c d
abbrev yS62 := fun a b c d (e : Nat) => mkS 57 [vv 0 (.ptr 0 0),vi 1 a,(4,.lp 4 0),vb 7 false,vv 10 (.ptr 0 0),vi 11 a,vi 12 b,vv 13 c] [cD2] d e
theorem p188_0 {a} {T : Hp} {c : Nat} {b : PS} : LR C o 188 [] (mkS 57 [vv 0 (.ptr 0 0),vi 1 a] [] (hp b T) c) (.br (decide (a = 6))
(.call 215 [(.ptr 0 0)] (hp b T) c fun d =>
(.mid 1 Q0c 2 (yS61 a d.v d.H d.nx)))
(.call 188 [(.ptr 0 0),(i6 (w64 (a + 1)))] (hp b T) c fun e =>
(.mid 0 Q0g 4 (yS62 a (w64 (a + 1)) e.v e.H e.nx)))) := lR 9
theorem p188_1 {h b c d e a f} {T : Hp} {i : Nat} {g : PS} : LM C o 188 Q0c 2 (yS61 h (.agg [(i6 b),(i6 c),(.str e),(.vs 5 a f),(i6 d)]) (hp g T) i) (.ret ⟨(.agg [(i6 b),(i6 c),(.str e),(.vs 5 a f),(i6 d)]),(hp g T),i⟩) := lM 1
theorem p188_2 {a c d e i f b g} {T : Hp} {j : Nat} {h : PS} : LM C o 188 Q0g 4 (yS62 a i (.agg [(i6 c),(i6 d),(.str f),(.vs 5 b g),(i6 e)]) (hp h T) j) (.run 0 qD0 (mkS 57 [vv 0 (.ptr 0 0),vi 1 a,(4,.lp 4 0),(5,.lp 5 0)] [cD2,(5,⟨[(i6 c),(i6 d),(.str f),(.vs 5 b g),(i6 e)],[]⟩)] (hp h T) j)) := lM 3
theorem p188_3 {i j k l c d e m f g b n h} {T : Hp} {p : Nat} {a : PS} : LR C o 188 qD0 (mkS 57 [vv 0 (.ptr 0 0),vi 1 i,(4,.lp 4 0),(5,.lp 5 0)] [(4,⟨[(i6 j),(i6 k),(.str m),(.vs 5 g n),(i6 l)],[3]⟩),(5,⟨[(i6 c),(i6 d),(.str f),(.vs 5 b h),(i6 e)],[]⟩)] (hp a T) p) (.br (!(decide (a.kind = 3)))
(cl0 113 [(.str a.s)] fun q => .br (AV.pure q.v)
(.mid 5 qD1 13 (mkS 57 [vv 0 (.ptr 0 0),vi 1 i,(4,.lp 4 0),(5,.lp 5 0),vv 14 (.ptr 0 0),vv 15 (.ptr 0 0),vv 16 (.ptr 0 2),vv 17 (.ptr 0 2),(18,.val (i6 a.kind) (.lH 0 2)),vb 19 (!(decide (a.kind = 3))),vb 20 true,vv 21 (.ptr 0 0),vv 22 (.ptr 0 0),vv 23 (.ptr 0 2),vv 24 (.ptr 0 3),(25,.val (.str a.s) (.lH 0 3)),vv 26 q.v] [(4,⟨[(i6 j),(i6 k),(.str m),(.vs 5 g n),(i6 l)],[3]⟩),(5,⟨[(i6 c),(i6 d),(.str f),(.vs 5 b h),(i6 e)],[]⟩)] (hp a T) p)) .none)
(.ret ⟨(.agg [(i6 c),(i6 d),(.str f),(.vs 5 b h),(i6 e)]),(hp a T),p⟩)) := lR 8
abbrev yS63 := fun a b (c d : Int) (e : List UInt8) (f : Bool) (g : List AV) (h : Int) (i : List UInt8) (j k : Int) (l : List UInt8) (m : Bool) (n : List AV) (o p : Int) q (r : Nat) => mkS 57 [vv 0 (.ptr 0 0),vi 1 a,(4,.lp 4 0),(5,.lp 5 0),vv 43 (.ptr 0 0),vv 44 b] [(4,⟨[(i6 c),(i6 d),(.str e),(.vs 5 f g),(i6 h)],[3]⟩),(5,⟨[(i6 7),(i6 0),(.str i),(.vs 5 true [(.agg [(i6 j),(i6 k),(.str l),(.vs 5 m n),(i6 o)])]),(i6 p)],[]⟩)] q r
theorem p188_4 {c j k l d e f m q n g r h b t p i} {T : Hp} {u : Nat} {a : PS} : LM C o 188 qD1 13 (mkS 57 [vv 0 (.ptr 0 0),vi 1 c,(4,.lp 4 0),(5,.lp 5 0),vv 14 (.ptr 0 0),vv 15 (.ptr 0 0),vv 16 (.ptr 0 2),vv 17 (.ptr 0 2),(18,.val (i6 q) (.lH 0 2)),vb 19 t,vb 20 true,vv 21 (.ptr 0 0),vv 22 (.ptr 0 0),vv 23 (.ptr 0 2),vv 24 (.ptr 0 3),(25,.val (.str r) (.lH 0 3)),vi 26 m] [(4,⟨[(i6 j),(i6 k),(.str n),(.vs 5 h p),(i6 l)],[3]⟩),(5,⟨[(i6 d),(i6 e),(.str g),(.vs 5 b i),(i6 f)],[]⟩)] (hp a T) u) (.br (decide (m = c))
(.call 42 [(.ptr 0 0)] (hp a T) u fun w =>
(.mid 0 qD2 2 (yS63 c w.v j k n h p l a.s d e g b i f a.tat w.H w.nx)))
(.ret ⟨(.agg [(i6 d),(i6 e),(.str g),(.vs 5 b i),(i6 f)]),(hp a T),u⟩)) := lM 7
abbrev yS64 := fun a (b c : Int) (d : List UInt8) (e : Bool) (f : List AV) (g : Int) h i (j k : Int) (l : List UInt8) (m : Bool) (n : List AV) (o : Int) (p : List UInt8) (q : Int) r (s : Nat) => mkS 57 [vv 0 (.ptr 0 0),vi 1 a,(4,.lp 4 0),(5,.lp 5 0),(45,.lp 5 3),vv 46 (.vs 5 true [(.agg [(i6 b),(i6 c),(.str d),(.vs 5 e f),(i6 g)])]),vv 47 (.ptr 0 0),vi 48 a,vi 49 h,vv 50 i] [(4,⟨[(i6 j),(i6 k),(.str l),(.vs 5 m n),(i6 o)],[3]⟩),(5,⟨[(i6 7),(i6 0),(.str p),(.vs 5 true [(.agg [(i6 b),(i6 c),(.str d),(.vs 5 e f),(i6 g)])]),(i6 q)],[]⟩)] r s
theorem p188_5 {a} {T : Hp} {s : Nat} {i j k c d e l : Int} {m f n : List UInt8} {g b : Bool} {p h : List AV} {q : PS} : LM C o 188 qD2 2 (yS63 a (.tuple []) i j m g p k n c d f b h e l (hp q T) s) (.call 188 [(.ptr 0 0),(i6 (w64 (a + 1)))] (hp q T) s fun r =>
(.mid 0 qD5 6 (yS64 a c d f b h e (w64 (a + 1)) r.v i j m g p k n l r.H r.nx))) := lM 2
theorem p188_6 {c d e f j k l x g n a b h q} {T : Hp} {y : Nat} {s t u i : Int} {v m : List UInt8} {p : Bool} {w : List AV} {r : PS} : LM C o 188 qD5 6 (yS64 c d e g a h f x (.agg [(i6 j),(i6 k),(.str n),(.vs 5 b q),(i6 l)]) s t v p w u m i (hp r T) y) (.br (Nat.ble 128 za5)
(.br (Nat.ble 2 za5)
(.br (decide (c = 3))
(.ret ⟨(.agg [(i6 7),(i6 0),(.str m),(.vs 5 false [(.agg [(i6 d),(i6 e),(.str g),(.vs 5 a h),(i6 f)]),(.agg [(i6 j),(i6 k),(.str n),(.vs 5 b q),(i6 l)])]),(i6 i)]),(hp r T),y⟩)
(.run 1 qD0 (mkS 57 [vv 0 (.ptr 0 0),vi 1 c,(4,.lp 4 0),(5,.lp 5 0),vb 55 false] [(4,⟨[(i6 s),(i6 t),(.str v),(.vs 5 p w),(i6 u)],[3]⟩),(5,⟨[(i6 7),(i6 0),(.str m),(.vs 5 false [(.agg [(i6 d),(i6 e),(.str g),(.vs 5 a h),(i6 f)]),(.agg [(i6 j),(i6 k),(.str n),(.vs 5 b q),(i6 l)])]),(i6 i)],[3]⟩)] (hp r T) y))) .none) .none) := lM 7
theorem p188_7 {i j k l c d e m f b n g p h} {T : Hp} {q : Nat} {a : PS} : LR C o 188 qD0 (mkS 57 [vv 0 (.ptr 0 0),vi 1 i,(4,.lp 4 0),(5,.lp 5 0),vb 55 m] [(4,⟨[(i6 j),(i6 k),(.str n),(.vs 5 f p),(i6 l)],[3]⟩),(5,⟨[(i6 c),(i6 d),(.str g),(.vs 5 b h),(i6 e)],[3]⟩)] (hp a T) q) (.br (!(decide (a.kind = 3)))
(cl0 113 [(.str a.s)] fun r => .br (AV.pure r.v)
(.mid 5 qD1 13 (mkS 57 [vv 0 (.ptr 0 0),vi 1 i,(4,.lp 4 0),(5,.lp 5 0),vv 14 (.ptr 0 0),vv 15 (.ptr 0 0),vv 16 (.ptr 0 2),vv 17 (.ptr 0 2),(18,.val (i6 a.kind) (.lH 0 2)),vb 19 (!(decide (a.kind = 3))),vb 20 true,vv 21 (.ptr 0 0),vv 22 (.ptr 0 0),vv 23 (.ptr 0 2),vv 24 (.ptr 0 3),(25,.val (.str a.s) (.lH 0 3)),vv 26 r.v,vb 55 m] [(4,⟨[(i6 j),(i6 k),(.str n),(.vs 5 f p),(i6 l)],[3]⟩),(5,⟨[(i6 c),(i6 d),(.str g),(.vs 5 b h),(i6 e)],[3]⟩)] (hp a T) q)) .none)
(.ret ⟨(.agg [(i6 c),(i6 d),(.str g),(.vs 5 b h),(i6 e)]),(hp a T),q⟩)) := lR 8
theorem p188_8 {c j k l d e f m q r g b t n h u p i} {T : Hp} {w : Nat} {a : PS} : LM C o 188 qD1 13 (mkS 57 [vv 0 (.ptr 0 0),vi 1 c,(4,.lp 4 0),(5,.lp 5 0),vv 14 (.ptr 0 0),vv 15 (.ptr 0 0),vv 16 (.ptr 0 2),vv 17 (.ptr 0 2),(18,.val (i6 q) (.lH 0 2)),vb 19 t,vb 20 true,vv 21 (.ptr 0 0),vv 22 (.ptr 0 0),vv 23 (.ptr 0 2),vv 24 (.ptr 0 3),(25,.val (.str u) (.lH 0 3)),vi 26 m,vb 55 r] [(4,⟨[(i6 j),(i6 k),(.str n),(.vs 5 g p),(i6 l)],[3]⟩),(5,⟨[(i6 d),(i6 e),(.str h),(.vs 5 b i),(i6 f)],[3]⟩)] (hp a T) w) (.br (decide (m = c))
(.call 42 [(.ptr 0 0)] (hp a T) w fun x =>
(.mid 0 qD2 2 (yS63 c x.v j k n g p l a.s d e h b i f a.tat x.H x.nx)))
(.ret ⟨(.agg [(i6 d),(i6 e),(.str h),(.vs 5 b i),(i6 f)]),(hp a T),w⟩)) := lM 7
theorem p215_c (hC : Ext C) {T : Hp} {b : Nat} {a : PS} : LC C o 215 (mkS 36 [vv 0 (.ptr 0 0)] [] (hp a T) b) [(.ptr 0 0)] (hp a T) b := lC hC
theorem p215_0 {T : Hp} {c : Nat} {a : PS} : LR C o 215 [] (mkS 36 [vv 0 (.ptr 0 0)] [] (hp a T) c) (.call 82 [(.ptr 0 0),(.str [45])] (hp a T) c fun b =>
(.mid 0 Q01 2 (mkS 36 [vv 0 (.ptr 0 0),(2,.lp 2 0),vv 4 (.ptr 0 0),vv 5 b.v] [cD0] b.H b.nx))) := lR 5
abbrev yS68 := fun a b c d (e : Nat) => mkS 36 [vv 0 (.ptr 0 0),(2,.lp 2 0),vv 4 (.ptr 0 0),vb 5 a,vb 6 b,vb 7 true,vv 8 (.ptr 0 0),c] [cD0] d e
abbrev yS69 := fun a (b : List UInt8) (c : Int) d (e : Nat) => mkS 36 [vv 0 (.ptr 0 0),(2,.lp 2 0),(3,.lp 3 0),vv 25 (.ptr 0 0),vv 26 a] [cD0,(3,⟨[(i6 6),(i6 0),(.str b),(.vs 5 true []),(i6 c)],[]⟩)] d e
theorem p215_1 {b} {T : Hp} {c : Nat} {a : PS} : LM C o 215 Q01 2 (mkS 36 [vv 0 (.ptr 0 0),(2,.lp 2 0),vv 4 (.ptr 0 0),vb 5 b] [cD0] (hp a T) c) (.br (!b)
(.call 82 [(.ptr 0 0),(.str [33])] (hp a T) c fun d =>
(.mid 6 Q01 6 (yS68 b (!b) (vv 9 d.v) d.H d.nx)))
(.call 213 [(.ptr 0 0)] (hp a T) c fun e =>
(.mid 0 Q0o 2 (yS69 e.v a.s a.tat e.H e.nx)))) := lM 6
abbrev yS70 := fun a b (c : Nat) => mkS 36 [vv 0 (.ptr 0 0),(2,.lp 2 0),vb 11 true,vv 12 (.ptr 0 0),vv 13 a] [cD0] b c
theorem p215_2 {c b d} {T : Hp} {e : Nat} {a : PS} : LM C o 215 Q01 6 (yS68 c d (vb 9 b) (hp a T) e) (.br (!b)
(.call 231 [(.ptr 0 0)] (hp a T) e fun f =>
(.mid 3 Q0c 2 (yS70 f.v f.H f.nx)))
(.call 213 [(.ptr 0 0)] (hp a T) e fun g =>
(.mid 0 Q0o 2 (yS69 g.v a.s a.tat g.H g.nx)))) := lM 6
abbrev yS71 := fun a (b : List UInt8) (c : Int) d (e : Nat) => mkS 36 [vv 0 (.ptr 0 0),(2,.lp 2 0),(3,.lp 3 0),vv 27 (.ptr 0 0),vv 28 a] [cD0,(3,⟨[(i6 6),(i6 0),(.str b),(.vs 5 true []),(i6 c)],[]⟩)] d e
theorem p215_3 {T : Hp} {e : Nat} {a : List UInt8} {b : Int} {c : PS} : LM C o 215 Q0o 2 (yS69 (.tuple []) a b (hp c T) e) (.call 42 [(.ptr 0 0)] (hp c T) e fun d =>
(.mid 0 Q10 2 (yS71 d.v a b d.H d.nx))) := lM 2
theorem p215_4 {e f b g a c} {T : Hp} {h : Nat} {d : PS} : LM C o 215 Q0c 2 (yS70 (.agg [(i6 e),(i6 f),(.str g),(.vs 5 a c),(i6 b)]) (hp d T) h) (.ret ⟨(.agg [(i6 e),(i6 f),(.str g),(.vs 5 a c),(i6 b)]),(hp d T),h⟩) := lM 1
abbrev yS72 := fun a (b : List UInt8) (c : Int) d (e : Nat) => mkS 36 [vv 0 (.ptr 0 0),(2,.lp 2 0),(3,.lp 3 0),vv 29 (.ptr 0 0),vv 30 a] [cD0,(3,⟨[(i6 6),(i6 0),(.str b),(.vs 5 true []),(i6 c)],[]⟩)] d e
theorem p215_5 {T : Hp} {e : Nat} {b : List UInt8} {c : Int} {a : PS} : LM C o 215 Q10 2 (yS71 (.tuple []) b c (hp a T) e) (.call 215 [(.ptr 0 0)] (hp a T) e fun d =>
(.mid 0 Q1e 2 (yS72 d.v b c d.H d.nx))) := lM 2
abbrev yS73 := fun a (b : List UInt8) (c d : Int) (e : List UInt8) (f : Bool) (g : List AV) (h i : Int) j (k : Nat) => mkS 36 [vv 0 (.ptr 0 0),(2,.lp 2 0),(3,.lp 3 0),vv 33 (.ptr 0 0),vv 34 a] [cD0,(3,⟨[(i6 6),(i6 0),(.str b),(.vs 5 true [(.agg [(i6 c),(i6 d),(.str e),(.vs 5 f g),(i6 h)])]),(i6 i)],[]⟩)] j k
theorem p215_6 {b c d e a f} {T : Hp} {k : Nat} {h : List UInt8} {i : Int} {g : PS} : LM C o 215 Q1e 2 (yS72 (.agg [(i6 c),(i6 d),(.str b),(.vs 5 a f),(i6 e)]) h i (hp g T) k) (.call 214 [(.ptr 0 0)] (hp g T) k fun j =>
(.mid 0 Q1r 2 (yS73 j.v h c d b a f e i j.H j.nx))) := lM 2
theorem p215_7 {T : Hp} {j : Nat} {h b : List UInt8} {i c d e : Int} {a : Bool} {f : List AV} {g : PS} : LM C o 215 Q1r 2 (yS73 (.tuple []) h c d b a f e i (hp g T) j) (.ret ⟨(.agg [(i6 6),(i6 0),(.str h),(.vs 5 true [(.agg [(i6 c),(i6 d),(.str b),(.vs 5 a f),(i6 e)])]),(i6 i)]),(hp g T),j⟩) := lM 3
theorem p231_c (hC : Ext C) {T : Hp} {b : Nat} {a : PS} : LC C o 231 (mkS 82 [vv 0 (.ptr 0 0)] [] (hp a T) b) [(.ptr 0 0)] (hp a T) b := lC hC
abbrev yS75 := fun a (b : Int) (c : List UInt8) (d e : Int) f (g : Nat) => mkS 82 [vv 0 (.ptr 0 0),(2,.lp 2 0),(4,.lp 4 0),vv 27 (.ptr 0 0),vv 28 a] [cD0,(3,⟨[(i6 b),(.str c),(i6 d),(i6 e)],[]⟩),(4,⟨[(i6 1),(i6 d),(.str []),(.vs 5 true []),(i6 e)],[]⟩)] f g
abbrev yS76 := fun a (b : Int) (c : List UInt8) (d e : Int) f (g : Nat) => mkS 82 [vv 0 (.ptr 0 0),(2,.lp 2 0),(4,.lp 4 0),vv 37 (.ptr 0 0),vv 38 a] [cD0,(3,⟨[(i6 b),(.str c),(i6 d),(i6 e)],[]⟩),(4,⟨[(i6 2),(i6 0),(.str c),(.vs 5 true []),(i6 e)],[]⟩)] f g
abbrev yS77 := fun a (b : Int) (c : List UInt8) (d e : Int) f (g : Nat) => mkS 82 [vv 0 (.ptr 0 0),(2,.lp 2 0),(3,.lp 3 0),(4,.lp 4 0),vb 29 false,vv 40 (.ptr 0 0),a] [cD0,(3,⟨[(i6 b),(.str c),(i6 d),(i6 e)],[]⟩),(4,⟨[(i6 0),(i6 0),(.str []),(.vs 5 true []),(i6 e)],[]⟩)] f g
theorem p231_0 {T : Hp} {b : Nat} {a : PS} : LR C o 231 [] (mkS 82 [vv 0 (.ptr 0 0)] [] (hp a T) b) (.br (decide (a.kind = 2))
(.call 42 [(.ptr 0 0)] (hp a T) b fun c =>
(.mid 3 Q1b 2 (yS75 c.v a.kind a.s a.n a.tat c.H c.nx)))
(.br (decide (a.kind = 3))
(.call 42 [(.ptr 0 0)] (hp a T) b fun d =>
(.mid 0 Q1v 2 (yS76 d.v a.kind a.s a.n a.tat d.H d.nx)))
(.call 43 [(.ptr 0 0),(.str [116,114,117,101])] (hp a T) b fun e =>
(.mid 1 Q1m 2 (yS77 (vv 41 e.v) a.kind a.s a.n a.tat e.H e.nx))))) := lR 17
theorem p231_1 {T : Hp} {f : Nat} {d a b : Int} {e : List UInt8} {c : PS} : LM C o 231 Q1b 2 (yS75 (.tuple []) d e a b (hp c T) f) (.ret ⟨(.agg [(i6 1),(i6 a),(.str []),(.vs 5 true []),(i6 b)]),(hp c T),f⟩) := lM 4
theorem p231_2 {T : Hp} {f : Nat} {d e a : Int} {b : List UInt8} {c : PS} : LM C o 231 Q1v 2 (yS76 (.tuple []) d b e a (hp c T) f) (.ret ⟨(.agg [(i6 2),(i6 0),(.str b),(.vs 5 true []),(i6 a)]),(hp c T),f⟩) := lM 4
abbrev yS78 := fun a (b : Int) (c : List UInt8) (d e : Int) f (g : Nat) => mkS 82 [vv 0 (.ptr 0 0),(2,.lp 2 0),(4,.lp 4 0),vv 44 (.ptr 0 0),vv 45 a] [cD0,(3,⟨[(i6 b),(.str c),(i6 d),(i6 e)],[]⟩),(4,⟨[(i6 3),(i6 1),(.str []),(.vs 5 true []),(i6 e)],[]⟩)] f g
abbrev yS79 := fun a (b : Int) (c : List UInt8) (d e : Int) f (g : Nat) => mkS 82 [vv 0 (.ptr 0 0),(2,.lp 2 0),(4,.lp 4 0),vb 39 false,vv 47 (.ptr 0 0),a] [cD0,(3,⟨[(i6 b),(.str c),(i6 d),(i6 e)],[]⟩),(4,⟨[(i6 0),(i6 0),(.str []),(.vs 5 true []),(i6 e)],[]⟩)] f g
theorem p231_3 {f} {T : Hp} {g : Nat} {b c a : Int} {d : List UInt8} {e : PS} : LM C o 231 Q1m 2 (yS77 (vb 41 f) b d c a (hp e T) g) (.br f
(.call 42 [(.ptr 0 0)] (hp e T) g fun h =>
(.mid 0 Q2i 2 (yS78 h.v b d c a h.H h.nx)))
(.call 43 [(.ptr 0 0),(.str [102,97,108,115,101])] (hp e T) g fun i =>
(.mid 1 Q26 2 (yS79 (vv 48 i.v) b d c a i.H i.nx)))) := lM 4
theorem p231_4 {T : Hp} {f : Nat} {c d a : Int} {e : List UInt8} {b : PS} : LM C o 231 Q2i 2 (yS78 (.tuple []) c e d a (hp b T) f) (.ret ⟨(.agg [(i6 3),(i6 1),(.str []),(.vs 5 true []),(i6 a)]),(hp b T),f⟩) := lM 4
abbrev yS80 := fun a (b : Int) (c : List UInt8) (d e : Int) f (g : Nat) => mkS 82 [vv 0 (.ptr 0 0),(2,.lp 2 0),(4,.lp 4 0),vv 50 (.ptr 0 0),vv 51 a] [cD0,(3,⟨[(i6 b),(.str c),(i6 d),(i6 e)],[]⟩),(4,⟨[(i6 3),(i6 0),(.str []),(.vs 5 true []),(i6 e)],[]⟩)] f g
abbrev yS81 := fun a (b : Int) (c : List UInt8) (d e : Int) f (g : Nat) => mkS 82 [vv 0 (.ptr 0 0),(2,.lp 2 0),(4,.lp 4 0),vb 46 false,vv 53 (.ptr 0 0),a] [cD0,(3,⟨[(i6 b),(.str c),(i6 d),(i6 e)],[]⟩),(4,⟨[(i6 0),(i6 0),(.str []),(.vs 5 true []),(i6 e)],[]⟩)] f g
theorem p231_5 {f} {T : Hp} {g : Nat} {b c a : Int} {d : List UInt8} {e : PS} : LM C o 231 Q26 2 (yS79 (vb 48 f) b d c a (hp e T) g) (.br f
(.call 42 [(.ptr 0 0)] (hp e T) g fun h =>
(.mid 0 qD6 2 (yS80 h.v b d c a h.H h.nx)))
(.call 43 [(.ptr 0 0),(.str [115,105,122,101])] (hp e T) g fun i =>
(.mid 1 Q2z 2 (yS81 (vv 54 i.v) b d c a i.H i.nx)))) := lM 4
theorem p231_6 {T : Hp} {f : Nat} {c d a : Int} {e : List UInt8} {b : PS} : LM C o 231 qD6 2 (yS80 (.tuple []) c e d a (hp b T) f) (.ret ⟨(.agg [(i6 3),(i6 0),(.str []),(.vs 5 true []),(i6 a)]),(hp b T),f⟩) := lM 4
abbrev yS82 := fun a (b : Int) (c : List UInt8) (d e : Int) f (g : Nat) => mkS 82 [vv 0 (.ptr 0 0),(2,.lp 2 0),(4,.lp 4 0),vv 56 (.ptr 0 0),vv 57 a] [cD0,(3,⟨[(i6 b),(.str c),(i6 d),(i6 e)],[]⟩),(4,⟨[(i6 5),(i6 0),(.str []),(.vs 5 true []),(i6 e)],[]⟩)] f g
abbrev yS83 := fun a (b : Int) (c : List UInt8) (d e : Int) f (g : Nat) => mkS 82 [vv 0 (.ptr 0 0),(2,.lp 2 0),(4,.lp 4 0),vb 52 false,vv 69 (.ptr 0 0),a] [cD0,(3,⟨[(i6 b),(.str c),(i6 d),(i6 e)],[]⟩),(4,⟨[(i6 0),(i6 0),(.str []),(.vs 5 true []),(i6 e)],[]⟩)] f g
theorem p231_7 {f} {T : Hp} {g : Nat} {b c a : Int} {d : List UInt8} {e : PS} : LM C o 231 Q2z 2 (yS81 (vb 54 f) b d c a (hp e T) g) (.br f
(.call 42 [(.ptr 0 0)] (hp e T) g fun h =>
(.mid 0 qD7 2 (yS82 h.v b d c a h.H h.nx)))
(.call 82 [(.ptr 0 0),(.str [40])] (hp e T) g fun i =>
(.mid 2 qD8 2 (yS83 (vv 70 i.v) b d c a i.H i.nx)))) := lM 5
abbrev yS84 := fun a (b : Int) (c : List UInt8) (d e : Int) f (g : Nat) => mkS 82 [vv 0 (.ptr 0 0),(2,.lp 2 0),(4,.lp 4 0),vv 58 (.ptr 0 0),vv 59 a] [cD0,(3,⟨[(i6 b),(.str c),(i6 d),(i6 e)],[]⟩),(4,⟨[(i6 5),(i6 0),(.str []),(.vs 5 true []),(i6 e)],[]⟩)] f g
theorem p231_8 {T : Hp} {g : Nat} {b c a : Int} {d : List UInt8} {e : PS} : LM C o 231 qD7 2 (yS82 (.tuple []) b d c a (hp e T) g) (.call 81 [(.ptr 0 0),(.str [40])] (hp e T) g fun f =>
(.mid 0 qD9 2 (yS84 f.v b d c a f.H f.nx))) := lM 2
abbrev yS85 := fun a (b : Int) (c : List UInt8) (d e : Int) f (g : Nat) => mkS 82 [vv 0 (.ptr 0 0),(2,.lp 2 0),(4,.lp 4 0),vb 68 true,vv 71 (.ptr 0 0),vv 72 a] [cD0,(3,⟨[(i6 b),(.str c),(i6 d),(i6 e)],[]⟩),(4,⟨[(i6 0),(i6 0),(.str []),(.vs 5 true []),(i6 e)],[]⟩)] f g
abbrev yS86 := fun a (b : Int) (c : List UInt8) (d e : Int) f (g : Nat) => mkS 82 [vv 0 (.ptr 0 0),(2,.lp 2 0),(4,.lp 4 0),vv 14 (.ptr 0 0),vv 15 a] [cD0,(3,⟨[(i6 b),(.str c),(i6 d),(i6 e)],[]⟩),(4,⟨[(i6 4),(i6 0),(.str []),(.vs 5 true []),(i6 e)],[]⟩)] f g
theorem p231_9 {f} {T : Hp} {i : Nat} {b c a : Int} {d : List UInt8} {e : PS} : LM C o 231 qD8 2 (yS83 (vb 70 f) b d c a (hp e T) i) (.br f
(.call 213 [(.ptr 0 0)] (hp e T) i fun g =>
(.mid 1 qD10 2 (yS85 g.v b d c a g.H g.nx)))
(.call 80 [(.ptr 0 0)] (hp e T) i fun h =>
(.mid 0 qD11 2 (yS86 h.v b d c a h.H h.nx)))) := lM 4
abbrev yS87 := fun a (b : Int) (c : List UInt8) (d e : Int) f (g : Nat) => mkS 82 [vv 0 (.ptr 0 0),(2,.lp 2 0),(4,.lp 4 0),vv 61 (.ptr 0 0),vv 62 a] [cD0,(3,⟨[(i6 b),(.str c),(i6 d),(i6 e)],[]⟩),(4,⟨[(i6 5),(i6 0),(.str []),(.vs 5 true []),(i6 e)],[]⟩)] f g
theorem p231_10 {T : Hp} {g : Nat} {b c a : Int} {d : List UInt8} {e : PS} : LM C o 231 qD9 2 (yS84 (.tuple []) b d c a (hp e T) g) (.call 80 [(.ptr 0 0)] (hp e T) g fun f =>
(.mid 0 qD12 2 (yS87 f.v b d c a f.H f.nx))) := lM 2
abbrev yS88 := fun a (b : Int) (c : List UInt8) (d e : Int) f (g : Nat) => mkS 82 [vv 0 (.ptr 0 0),(2,.lp 2 0),(4,.lp 4 0),vv 73 (.ptr 0 0),vv 74 a] [cD0,(3,⟨[(i6 b),(.str c),(i6 d),(i6 e)],[]⟩),(4,⟨[(i6 0),(i6 0),(.str []),(.vs 5 true []),(i6 e)],[]⟩)] f g
theorem p231_11 {T : Hp} {g : Nat} {b c a : Int} {d : List UInt8} {e : PS} : LM C o 231 qD10 2 (yS85 (.tuple []) b d c a (hp e T) g) (.call 42 [(.ptr 0 0)] (hp e T) g fun f =>
(.mid 0 qD13 2 (yS88 f.v b d c a f.H f.nx))) := lM 2
theorem p231_12 {f b} {T : Hp} {h : Nat} {d e a : Int} {g : List UInt8} {c : PS} : LM C o 231 qD11 2 (yS86 (.tuple [(.str b),(i6 f)]) d g e a (hp c T) h) (.ret ⟨(.agg [(i6 4),(i6 0),(.str b),(.vs 5 true []),(i6 a)]),(hp c T),h⟩) := lM 4
abbrev yS89 := fun a (b : Int) (c : List UInt8) (d e : Int) (f : List UInt8) g (h : Nat) => mkS 82 [vv 0 (.ptr 0 0),(2,.lp 2 0),(4,.lp 4 0),vv 66 (.ptr 0 0),vv 67 a] [cD0,(3,⟨[(i6 b),(.str c),(i6 d),(i6 e)],[]⟩),(4,⟨[(i6 5),(i6 0),(.str f),(.vs 5 true []),(i6 e)],[]⟩)] g h
theorem p231_13 {g e} {T : Hp} {i : Nat} {b c a : Int} {d : List UInt8} {f : PS} : LM C o 231 qD12 2 (yS87 (.tuple [(.str e),(i6 g)]) b d c a (hp f T) i) (.call 81 [(.ptr 0 0),(.str [41])] (hp f T) i fun h =>
(.mid 0 qD14 2 (yS89 h.v b d c a e h.H h.nx))) := lM 1
abbrev yS90 := fun a (b : Int) (c : List UInt8) (d e : Int) f (g : Nat) => mkS 82 [vv 0 (.ptr 0 0),(2,.lp 2 0),(4,.lp 4 0),vv 75 (.ptr 0 0),vv 76 a] [cD0,(3,⟨[(i6 b),(.str c),(i6 d),(i6 e)],[]⟩),(4,⟨[(i6 0),(i6 0),(.str []),(.vs 5 true []),(i6 e)],[]⟩)] f g
theorem p231_14 {T : Hp} {g : Nat} {b c a : Int} {d : List UInt8} {e : PS} : LM C o 231 qD13 2 (yS88 (.tuple []) b d c a (hp e T) g) (.call 151 [(.ptr 0 0)] (hp e T) g fun f =>
(.mid 0 qD15 2 (yS90 f.v b d c a f.H f.nx))) := lM 2
theorem p231_15 {T : Hp} {g : Nat} {d e a : Int} {f b : List UInt8} {c : PS} : LM C o 231 qD14 2 (yS89 (.tuple []) d f e a b (hp c T) g) (.ret ⟨(.agg [(i6 5),(i6 0),(.str b),(.vs 5 true []),(i6 a)]),(hp c T),g⟩) := lM 4
theorem p231_16 {e f g i b j} {T : Hp} {m : Nat} {c d a : Int} {h : List UInt8} {k : PS} : LM C o 231 qD15 2 (yS90 (.agg [(i6 e),(i6 f),(.str i),(.vs 5 b j),(i6 g)]) c h d a (hp k T) m) (.call 214 [(.ptr 0 0)] (hp k T) m fun l =>
(.mid 0 qD16 2 (mkS 82 [vv 0 (.ptr 0 0),(2,.lp 2 0),(4,.lp 4 0),vv 77 (.ptr 0 0),vv 78 l.v] [cD0,(3,⟨[(i6 c),(.str h),(i6 d),(i6 a)],[]⟩),(4,⟨[(i6 e),(i6 f),(.str i),(.vs 5 b j),(i6 g)],[]⟩)] l.H l.nx))) := lM 2
theorem p231_17 {b c d e f g h i a j} {T : Hp} {m : Nat} {k : PS} : LM C o 231 qD16 2 (mkS 82 [vv 0 (.ptr 0 0),(2,.lp 2 0),(4,.lp 4 0),vv 77 (.ptr 0 0),vv 78 (.tuple [])] [cD0,(3,⟨[(i6 b),(.str h),(i6 c),(i6 d)],[]⟩),(4,⟨[(i6 e),(i6 f),(.str i),(.vs 5 a j),(i6 g)],[]⟩)] (hp k T) m) (.call 81 [(.ptr 0 0),(.str [41])] (hp k T) m fun l =>
(.mid 0 qD17 2 (mkS 82 [vv 0 (.ptr 0 0),(2,.lp 2 0),(4,.lp 4 0),vv 79 (.ptr 0 0),vv 80 l.v] [cD0,(3,⟨[(i6 b),(.str h),(i6 c),(i6 d)],[]⟩),(4,⟨[(i6 e),(i6 f),(.str i),(.vs 5 a j),(i6 g)],[]⟩)] l.H l.nx))) := lM 1
theorem p231_18 {h i j b c d k e a f} {T : Hp} {l : Nat} {g : PS} : LM C o 231 qD17 2 (mkS 82 [vv 0 (.ptr 0 0),(2,.lp 2 0),(4,.lp 4 0),vv 79 (.ptr 0 0),vv 80 (.tuple [])] [cD0,(3,⟨[(i6 h),(.str k),(i6 i),(i6 j)],[]⟩),(4,⟨[(i6 b),(i6 c),(.str e),(.vs 5 a f),(i6 d)],[]⟩)] (hp g T) l) (.ret ⟨(.agg [(i6 b),(i6 c),(.str e),(.vs 5 a f),(i6 d)]),(hp g T),l⟩) := lM 4
theorem p149_c (hC : Ext C) {T : Hp} {b : Nat} {a : PS} : LC C o 149 (mkS 26 [vv 0 (.ptr 0 0)] [] (hp a T) b) [(.ptr 0 0)] (hp a T) b := lC hC
abbrev yS94 := fun a b (c : Nat) => mkS 26 [vv 0 (.ptr 0 0),(3,.val (.vs 3 true []) .own),vv 4 (.ptr 0 0),vv 5 a] [] b c
theorem p149_0 {T : Hp} {c : Nat} {a : PS} : LR C o 149 [] (mkS 26 [vv 0 (.ptr 0 0)] [] (hp a T) c) (.call 81 [(.ptr 0 0),(.str [40])] (hp a T) c fun b =>
(.mid 0 Q05 2 (yS94 b.v b.H b.nx))) := lR 6
theorem p149_1 {T : Hp} {c : Nat} {a : PS} : LM C o 149 Q05 2 (yS94 (.tuple []) (hp a T) c) (.call 82 [(.ptr 0 0),(.str [41])] (hp a T) c fun b =>
(.mid 0 Q0h 2 (mkS 26 [vv 0 (.ptr 0 0),(3,.val (.vs 3 true []) .own),vv 6 (.ptr 0 0),vv 7 b.v] [] b.H b.nx))) := lM 3
abbrev yS96 := fun a b (c : Nat) => mkS 26 [vv 0 (.ptr 0 0),(3,.val (.vs 3 true []) .own),vb 8 true,(9,.val (.vs 3 true []) (.lS 3)),vv 10 (.ptr 0 0),vv 11 a] [] b c
abbrev yS97 := fun a b (c : Nat) => mkS 26 [vv 0 (.ptr 0 0),(3,.val (.vs 3 true []) .own),vb 8 false,vv 23 (.ptr 0 0),vv 24 a] [] b c
theorem p149_2 {b} {T : Hp} {c : Nat} {a : PS} : LM C o 149 Q0h 2 (mkS 26 [vv 0 (.ptr 0 0),(3,.val (.vs 3 true []) .own),vv 6 (.ptr 0 0),vb 7 b] [] (hp a T) c) (.br (!b)
(.call 186 [(.ptr 0 0)] (hp a T) c fun d =>
(.mid 1 Q0u 3 (yS96 d.v d.H d.nx)))
(.call 81 [(.ptr 0 0),(.str [41])] (hp a T) c fun e =>
(.mid 0 Q14 2 (yS97 e.v e.H e.nx)))) := lM 4
theorem p149_3 {a b c} {T : Hp} {e : Nat} {d : PS} : LM C o 149 Q0u 3 (yS96 (.agg [(.str a),(i6 b),(i6 c)]) (hp d T) e) (.br (Nat.ble 32 za5)
(.br (Nat.ble 1 za5)
(.run 0 qD3 (mkS 26 [vv 0 (.ptr 0 0),(3,.val (.vs 3 false [(.agg [(.str a),(i6 b),(i6 c)])]) .own)] [] (hp d T) e)) .none) .none) := lM 2
theorem p149_4 {T : Hp} {b : Nat} {a : PS} : LM C o 149 Q14 2 (yS97 (.tuple []) (hp a T) b) (.ret ⟨(.vs 3 true []),(hp a T),b⟩) := lM 3
theorem p149_5 {a b} {T : Hp} {e : Nat} {c : PS} : LR C o 149 qD3 (mkS 26 [vv 0 (.ptr 0 0),(3,.val (.vs 3 a b) .own)] [] (hp c T) e) (.call 82 [(.ptr 0 0),(.str [44])] (hp c T) e fun d =>
(.mid 0 Q1t 2 (mkS 26 [vv 0 (.ptr 0 0),(3,.val (.vs 3 a b) .own),vv 14 (.ptr 0 0),vv 15 d.v] [] d.H d.nx))) := lR 3
theorem p149_6 {a d b} {T : Hp} {e : Nat} {c : PS} : LM C o 149 Q1t 2 (mkS 26 [vv 0 (.ptr 0 0),(3,.val (.vs 3 a b) .own),vv 14 (.ptr 0 0),vb 15 d] [] (hp c T) e) (.br d
(.call 42 [(.ptr 0 0)] (hp c T) e fun f =>
(.mid 0 Q2y 2 (mkS 26 [vv 0 (.ptr 0 0),(3,.val (.vs 3 a b) .own),vb 15 true,vv 16 (.ptr 0 0),vv 17 f.v] [] f.H f.nx)))
(.call 81 [(.ptr 0 0),(.str [41])] (hp c T) e fun g =>
(.mid 1 qD18 2 (mkS 26 [vv 0 (.ptr 0 0),(3,.val (.vs 3 a b) .own),vb 15 false,vv 23 (.ptr 0 0),vv 24 g.v] [] g.H g.nx)))) := lM 5
theorem p149_7 {a b} {T : Hp} {e : Nat} {c : PS} : LM C o 149 Q2y 2 (mkS 26 [vv 0 (.ptr 0 0),(3,.val (.vs 3 a b) .own),vb 15 true,vv 16 (.ptr 0 0),vv 17 (.tuple [])] [] (hp c T) e) (.call 186 [(.ptr 0 0)] (hp c T) e fun d =>
(.mid 0 qD19 3 (mkS 26 [vv 0 (.ptr 0 0),(3,.val (.vs 3 a b) .own),(18,.val (.vs 3 a b) (.lS 3)),vv 19 (.ptr 0 0),vv 20 d.v] [] d.H d.nx))) := lM 1
theorem p149_8 {a b} {T : Hp} {d : Nat} {c : PS} : LM C o 149 qD18 2 (mkS 26 [vv 0 (.ptr 0 0),(3,.val (.vs 3 a b) .own),vb 15 false,vv 23 (.ptr 0 0),vv 24 (.tuple [])] [] (hp c T) d) (.ret ⟨(.vs 3 a b),(hp c T),d⟩) := lM 3
theorem p149_9 {b a c d e} {T : Hp} {g : Nat} {f : PS} : LM C o 149 qD19 3 (mkS 26 [vv 0 (.ptr 0 0),(3,.val (.vs 3 b a) .own),(18,.val (.vs 3 b a) (.lS 3)),vv 19 (.ptr 0 0),vv 20 (.agg [(.str c),(i6 d),(i6 e)])] [] (hp f T) g) (.br (Nat.ble ((a.length + 1) * 32) za5)
(.br (Nat.ble (a.length + 1) za5)
(.run 0 qD3 (mkS 26 [vv 0 (.ptr 0 0),(3,.val (.vs 3 false (a ++ [(.agg [(.str c),(i6 d),(i6 e)])])) .own)] [] (hp f T) g)) .none) .none) := lM 2
theorem p186_c (hC : Ext C) {T : Hp} {b : Nat} {a : PS} : LC C o 186 (mkS 16 [vv 0 (.ptr 0 0)] [] (hp a T) b) [(.ptr 0 0)] (hp a T) b := lC hC
abbrev yS102 := fun a b (c : Nat) => mkS 16 [vv 0 (.ptr 0 0),(2,.lp 2 0),(3,.lp 3 0),vv 5 (.ptr 0 0),vv 6 a] [cD3,(3,⟨[(.str []),(i6 0),(i6 0)],[]⟩)] b c
theorem p186_0 {T : Hp} {c : Nat} {a : PS} : LR C o 186 [] (mkS 16 [vv 0 (.ptr 0 0)] [] (hp a T) c) (.call 80 [(.ptr 0 0)] (hp a T) c fun b =>
(.mid 0 Q05 2 (yS102 b.v b.H b.nx))) := lR 6
abbrev yS103 := fun a (b : List UInt8) (c : Int) d (e : Nat) => mkS 16 [vv 0 (.ptr 0 0),(2,.lp 2 0),(3,.lp 3 0),vv 11 (.ptr 0 0),vv 12 cD5,a] [cD3,(3,⟨[(.str b),(i6 0),(i6 c)],[]⟩)] d e
theorem p186_1 {a b} {T : Hp} {e : Nat} {c : PS} : LM C o 186 Q05 2 (yS102 (.tuple [(.str a),(i6 b)]) (hp c T) e) (.call 148 [(.ptr 0 0),(.vs 1 true [(.str [105,110,116]),(.str [116,101,120,116]),(.str [98,111,111,108])])] (hp c T) e fun d =>
(.mid 0 Q0f 3 (yS103 (vv 13 d.v) a b d.H d.nx))) := lM 2
theorem p186_2 {c} {T : Hp} {e : Nat} {a : List UInt8} {b : Int} {d : PS} : LM C o 186 Q0f 3 (yS103 (vi 13 c) a b (hp d T) e) (.ret ⟨(.agg [(.str a),(i6 c),(i6 b)]),(hp d T),e⟩) := lM 3
theorem p150_c (hC : Ext C) {T : Hp} {b : Nat} {a : PS} : LC C o 150 (mkS 24 [vv 0 (.ptr 0 0)] [] (hp a T) b) [(.ptr 0 0)] (hp a T) b := lC hC
abbrev yS105 := fun a b (c : Nat) => mkS 24 [vv 0 (.ptr 0 0),(3,.val (.vs 6 true []) .own),vv 4 (.ptr 0 0),vv 5 a] [] b c
theorem p150_0 {T : Hp} {c : Nat} {a : PS} : LR C o 150 [] (mkS 24 [vv 0 (.ptr 0 0)] [] (hp a T) c) (.call 81 [(.ptr 0 0),(.str [123])] (hp a T) c fun b =>
(.mid 0 Q05 2 (yS105 b.v b.H b.nx))) := lR 6
theorem p150_1 {T : Hp} {b : Nat} {a : PS} : LM C o 150 Q05 2 (yS105 (.tuple []) (hp a T) b) (.run 0 Q0m (mkS 24 [vv 0 (.ptr 0 0),(3,.val (.vs 6 true []) .own)] [] (hp a T) b)) := lM 3
theorem p150_2 {b c} {T : Hp} {d : Nat} {a : PS} : LR C o 150 Q0m (mkS 24 [vv 0 (.ptr 0 0),(3,.val (.vs 6 b c) .own)] [] (hp a T) d) (.br (decide (a.err = 0))
(.call 82 [(.ptr 0 0),(.str [125])] (hp a T) d fun e =>
(.mid 4 Q0v 8 (mkS 24 [vv 0 (.ptr 0 0),(3,.val (.vs 6 b c) .own),vv 6 (.ptr 0 0),vv 7 (.ptr 0 0),vv 8 (.ptr 0 7),vi 9 a.err,vb 10 (decide (a.err = 0)),vb 11 true,vv 12 (.ptr 0 0),vv 13 e.v] [] e.H e.nx)))
(.call 81 [(.ptr 0 0),(.str [125])] (hp a T) d fun f =>
(.mid 0 qD4 2 (mkS 24 [vv 0 (.ptr 0 0),(3,.val (.vs 6 b c) .own),vb 15 false,vv 21 (.ptr 0 0),vv 22 f.v] [] f.H f.nx)))) := lR 7
theorem p150_3 {a d e b f} {T : Hp} {g : Nat} {c : PS} : LM C o 150 Q0v 8 (mkS 24 [vv 0 (.ptr 0 0),(3,.val (.vs 6 a b) .own),vv 6 (.ptr 0 0),vv 7 (.ptr 0 0),vv 8 (.ptr 0 7),vi 9 f,vb 10 e,vb 11 true,vv 12 (.ptr 0 0),vb 13 d] [] (hp c T) g) (.br (!d)
(.call 187 [(.ptr 0 0)] (hp c T) g fun h =>
(.mid 0 Q1n 3 (mkS 24 [vv 0 (.ptr 0 0),(3,.val (.vs 6 a b) .own),vb 15 true,(16,.val (.vs 6 a b) (.lS 3)),vv 17 (.ptr 0 0),vv 18 h.v] [] h.H h.nx)))
(.call 81 [(.ptr 0 0),(.str [125])] (hp c T) g fun i =>
(.mid 0 qD4 2 (mkS 24 [vv 0 (.ptr 0 0),(3,.val (.vs 6 a b) .own),vb 15 false,vv 21 (.ptr 0 0),vv 22 i.v] [] i.H i.nx)))) := lM 4
theorem p150_4 {a b} {T : Hp} {d : Nat} {c : PS} : LM C o 150 qD4 2 (mkS 24 [vv 0 (.ptr 0 0),(3,.val (.vs 6 a b) .own),vb 15 false,vv 21 (.ptr 0 0),vv 22 (.tuple [])] [] (hp c T) d) (.ret ⟨(.vs 6 a b),(hp c T),d⟩) := lM 3
theorem p150_5 {b c d e a f g h i j k} {T : Hp} {m : Nat} {l : PS} : LM C o 150 Q1n 3 (mkS 24 [vv 0 (.ptr 0 0),(3,.val (.vs 6 b a) .own),vb 15 true,(16,.val (.vs 6 b a) (.lS 3)),vv 17 (.ptr 0 0),vv 18 (.agg [(i6 i),(.str k),(.vs 5 c f),(.vs 6 d g),(.vs 6 e h),(i6 j)])] [] (hp l T) m) (.br (Nat.ble ((a.length + 1) * 104) za5)
(.br (Nat.ble (a.length + 1) za5)
(.run 0 Q0m (mkS 24 [vv 0 (.ptr 0 0),(3,.val (.vs 6 false (a ++ [(.agg [(i6 i),(.str k),(.vs 5 c f),(.vs 6 d g),(.vs 6 e h),(i6 j)])])) .own)] [] (hp l T) m)) .none) .none) := lM 2
theorem p187_c (hC : Ext C) {T : Hp} {b : Nat} {a : PS} : LC C o 187 (mkS 56 [vv 0 (.ptr 0 0)] [] (hp a T) b) [(.ptr 0 0)] (hp a T) b := lC hC
abbrev yS108 := fun a (b : Int) c (d : Nat) => mkS 56 [vv 0 (.ptr 0 0),(2,.lp 2 0),(3,.lp 3 0),vv 10 (.ptr 0 0),a] [cD1,(3,⟨[(i6 0),(.str []),(.vs 5 true []),(.vs 6 true []),(.vs 6 true []),(i6 b)],[]⟩)] c d
theorem p187_0 {T : Hp} {c : Nat} {a : PS} : LR C o 187 [] (mkS 56 [vv 0 (.ptr 0 0)] [] (hp a T) c) (.call 43 [(.ptr 0 0),(.str [105,102])] (hp a T) c fun b =>
(.mid 0 Q08 2 (yS108 (vv 11 b.v) a.tat b.H b.nx))) := lR 7
abbrev yS109 := fun a (b : Int) c (d : Nat) => mkS 56 [vv 0 (.ptr 0 0),(2,.lp 2 0),(3,.lp 3 0),vv 13 (.ptr 0 0),vv 14 a] [cD1,(3,⟨[(i6 6),(.str []),(.vs 5 true []),(.vs 6 true []),(.vs 6 true []),(i6 b)],[]⟩)] c d
abbrev yS110 := fun a (b : Int) c (d : Nat) => mkS 56 [vv 0 (.ptr 0 0),(2,.lp 2 0),(3,.lp 3 0),vb 11 false,vv 34 (.ptr 0 0),vv 35 cD6,a] [cD1,(3,⟨[(i6 0),(.str []),(.vs 5 true []),(.vs 6 true []),(.vs 6 true []),(i6 b)],[]⟩)] c d
theorem p187_1 {c} {T : Hp} {d : Nat} {a : Int} {b : PS} : LM C o 187 Q08 2 (yS108 (vb 11 c) a (hp b T) d) (.br c
(.call 213 [(.ptr 0 0)] (hp b T) d fun e =>
(.mid 0 Q0s 2 (yS109 e.v a e.H e.nx)))
(.call 148 [(.ptr 0 0),(.vs 1 true [(.str [119,114,105,116,101]),(.str [114,97,105,115,101]),(.str [97,100,100]),(.str [105,110,115,101,114,116]),(.str [109,97,114,107])])] (hp b T) d fun f =>
(.mid 1 Q0p 3 (yS110 (vv 36 f.v) a f.H f.nx)))) := lM 5
abbrev yS111 := fun a (b : Int) c (d : Nat) => mkS 56 [vv 0 (.ptr 0 0),(2,.lp 2 0),(3,.lp 3 0),vv 15 (.ptr 0 0),vv 16 a] [cD1,(3,⟨[(i6 6),(.str []),(.vs 5 true []),(.vs 6 true []),(.vs 6 true []),(i6 b)],[]⟩)] c d
theorem p187_2 {T : Hp} {d : Nat} {a : Int} {b : PS} : LM C o 187 Q0s 2 (yS109 (.tuple []) a (hp b T) d) (.call 42 [(.ptr 0 0)] (hp b T) d fun c =>
(.mid 0 Q17 2 (yS111 c.v a c.H c.nx))) := lM 2
abbrev yS112 := fun a (b c : Int) d (e : Nat) => mkS 56 [vv 0 (.ptr 0 0),(2,.lp 2 0),(3,.lp 3 0),vv 39 (.ptr 0 0),vv 40 a] [cD1,(3,⟨[(i6 b),(.str []),(.vs 5 true []),(.vs 6 true []),(.vs 6 true []),(i6 c)],[]⟩)] d e
theorem p187_3 {b} {T : Hp} {e : Nat} {a : Int} {c : PS} : LM C o 187 Q0p 3 (yS110 (vi 36 b) a (hp c T) e) (.call 80 [(.ptr 0 0)] (hp c T) e fun d =>
(.mid 0 Q11 2 (yS112 d.v b a d.H d.nx))) := lM 2
abbrev yS113 := fun a (b : Int) c (d : Nat) => mkS 56 [vv 0 (.ptr 0 0),(2,.lp 2 0),(3,.lp 3 0),vv 17 (.ptr 0 0),vv 18 a] [cD1,(3,⟨[(i6 6),(.str []),(.vs 5 true []),(.vs 6 true []),(.vs 6 true []),(i6 b)],[]⟩)] c d
theorem p187_4 {T : Hp} {d : Nat} {a : Int} {b : PS} : LM C o 187 Q17 2 (yS111 (.tuple []) a (hp b T) d) (.call 151 [(.ptr 0 0)] (hp b T) d fun c =>
(.mid 0 Q1l 2 (yS113 c.v a c.H c.nx))) := lM 2
abbrev yS114 := fun a (b : Int) (c : List UInt8) (d : Int) e (f : Nat) => mkS 56 [vv 0 (.ptr 0 0),(2,.lp 2 0),(3,.lp 3 0),vb 46 true,vv 47 (.ptr 0 0),vv 48 a] [cD1,(3,⟨[(i6 b),(.str c),(.vs 5 true []),(.vs 6 true []),(.vs 6 true []),(i6 d)],[]⟩)] e f
abbrev yS115 := fun a (b : Int) (c : List UInt8) (d : Int) e (f : Nat) => mkS 56 [vv 0 (.ptr 0 0),(2,.lp 2 0),(3,.lp 3 0),vb 46 false,vv 53 (.ptr 0 0),vv 54 a] [cD1,(3,⟨[(i6 b),(.str c),(.vs 5 true []),(.vs 6 true []),(.vs 6 true []),(i6 d)],[]⟩)] e f
theorem p187_5 {e c} {T : Hp} {f : Nat} {b a : Int} {d : PS} : LM C o 187 Q11 2 (yS112 (.tuple [(.str c),(i6 e)]) a b (hp d T) f) (.br (!(decide (a = 5)))
(.call 81 [(.ptr 0 0),(.str [61])] (hp d T) f fun g =>
(.mid 1 Q25 2 (yS114 g.v a c b g.H g.nx)))
(.call 81 [(.ptr 0 0),(.str [59])] (hp d T) f fun h =>
(.mid 0 Q2d 2 (yS115 h.v a c b h.H h.nx)))) := lM 7
abbrev yS116 := fun a (b c : Int) (d : List UInt8) (e : Bool) (f : List AV) (g h : Int) i (j : Nat) => mkS 56 [vv 0 (.ptr 0 0),(2,.lp 2 0),(3,.lp 3 0),vv 21 (.ptr 0 0),vv 22 a] [cD1,(3,⟨[(i6 6),(.str []),(.vs 5 true [(.agg [(i6 b),(i6 c),(.str d),(.vs 5 e f),(i6 g)])]),(.vs 6 true []),(.vs 6 true []),(i6 h)],[]⟩)] i j
theorem p187_6 {c d e f a g} {T : Hp} {j : Nat} {b : Int} {h : PS} : LM C o 187 Q1l 2 (yS113 (.agg [(i6 c),(i6 d),(.str f),(.vs 5 a g),(i6 e)]) b (hp h T) j) (.call 150 [(.ptr 0 0)] (hp h T) j fun i =>
(.mid 0 Q21 2 (yS116 i.v c d f a g e b i.H i.nx))) := lM 2
abbrev yS117 := fun a (b : Int) (c : List UInt8) (d : Int) e (f : Nat) => mkS 56 [vv 0 (.ptr 0 0),(2,.lp 2 0),(3,.lp 3 0),vv 49 (.ptr 0 0),vv 50 a] [cD1,(3,⟨[(i6 b),(.str c),(.vs 5 true []),(.vs 6 true []),(.vs 6 true []),(i6 d)],[]⟩)] e f
theorem p187_7 {T : Hp} {f : Nat} {a b : Int} {c : List UInt8} {d : PS} : LM C o 187 Q25 2 (yS114 (.tuple []) b c a (hp d T) f) (.call 151 [(.ptr 0 0)] (hp d T) f fun e =>
(.mid 0 Q2c 2 (yS117 e.v b c a e.H e.nx))) := lM 1
theorem p187_8 {T : Hp} {e : Nat} {a b : Int} {c : List UInt8} {d : PS} : LM C o 187 Q2d 2 (yS115 (.tuple []) b c a (hp d T) e) (.ret ⟨(.agg [(i6 b),(.str c),(.vs 5 true []),(.vs 6 true []),(.vs 6 true []),(i6 a)]),(hp d T),e⟩) := lM 3
theorem p187_9 {b i} {T : Hp} {l : Nat} {c d e f : Int} {g : List UInt8} {a : Bool} {h : List AV} {j : PS} : LM C o 187 Q21 2 (yS116 (.vs 6 b i) d e g a h f c (hp j T) l) (.call 43 [(.ptr 0 0),(.str [101,108,115,101])] (hp j T) l fun k =>
(.mid 0 Q2m 2 (mkS 56 [vv 0 (.ptr 0 0),(2,.lp 2 0),(3,.lp 3 0),vv 24 (.ptr 0 0),vv 25 k.v] [cD1,(3,⟨[(i6 6),(.str []),(.vs 5 true [(.agg [(i6 d),(i6 e),(.str g),(.vs 5 a h),(i6 f)])]),(.vs 6 b i),(.vs 6 true []),(i6 c)],[]⟩)] k.H k.nx))) := lM 3
abbrev yS119 := fun a (b : Int) (c : List UInt8) (d e : Int) (f : List UInt8) (g : Bool) (h : List AV) (i j : Int) k (l : Nat) => mkS 56 [vv 0 (.ptr 0 0),(2,.lp 2 0),(3,.lp 3 0),vv 53 (.ptr 0 0),vv 54 a] [cD1,(3,⟨[(i6 b),(.str c),(.vs 5 true [(.agg [(i6 d),(i6 e),(.str f),(.vs 5 g h),(i6 i)])]),(.vs 6 true []),(.vs 6 true []),(i6 j)],[]⟩)] k l
theorem p187_10 {d e f h a i} {T : Hp} {l : Nat} {b c : Int} {g : List UInt8} {j : PS} : LM C o 187 Q2c 2 (yS117 (.agg [(i6 d),(i6 e),(.str h),(.vs 5 a i),(i6 f)]) c g b (hp j T) l) (.call 81 [(.ptr 0 0),(.str [59])] (hp j T) l fun k =>
(.mid 0 Q2w 2 (yS119 k.v c g d e h a i f b k.H k.nx))) := lM 2
abbrev yS120 := fun a (b c : Int) (d : List UInt8) (e : Bool) (f : List AV) (g : Int) (h : Bool) (i : List AV) (j : Int) k (l : Nat) => mkS 56 [vv 0 (.ptr 0 0),(2,.lp 2 0),(3,.lp 3 0),vb 25 true,vv 26 (.ptr 0 0),vv 27 a] [cD1,(3,⟨[(i6 6),(.str []),(.vs 5 true [(.agg [(i6 b),(i6 c),(.str d),(.vs 5 e f),(i6 g)])]),(.vs 6 h i),(.vs 6 true []),(i6 j)],[]⟩)] k l
abbrev yS121 := fun a (b c : Int) (d : List UInt8) (e : Bool) (f : List AV) (g : Int) (h : Bool) (i : List AV) (j : Int) k (l : Nat) => mkS 56 [vv 0 (.ptr 0 0),(2,.lp 2 0),(3,.lp 3 0),vb 25 false,vv 31 (.ptr 0 0),vv 32 a] [cD1,(3,⟨[(i6 6),(.str []),(.vs 5 true [(.agg [(i6 b),(i6 c),(.str d),(.vs 5 e f),(i6 g)])]),(.vs 6 h i),(.vs 6 true []),(i6 j)],[]⟩)] k l
theorem p187_11 {c d e f g a b k h i} {T : Hp} {n : Nat} {j : PS} : LM C o 187 Q2m 2 (mkS 56 [vv 0 (.ptr 0 0),(2,.lp 2 0),(3,.lp 3 0),vv 24 (.ptr 0 0),vb 25 k] [cD1,(3,⟨[(i6 6),(.str []),(.vs 5 true [(.agg [(i6 d),(i6 e),(.str g),(.vs 5 a h),(i6 f)])]),(.vs 6 b i),(.vs 6 true []),(i6 c)],[]⟩)] (hp j T) n) (.br k
(.call 42 [(.ptr 0 0)] (hp j T) n fun l =>
(.mid 1 qD20 2 (yS120 l.v d e g a h f b i c l.H l.nx)))
(.call 214 [(.ptr 0 0)] (hp j T) n fun m =>
(.mid 0 qD21 2 (yS121 m.v d e g a h f b i c m.H m.nx)))) := lM 4
theorem p187_12 {T : Hp} {k : Nat} {b c d e f : Int} {g h : List UInt8} {a : Bool} {i : List AV} {j : PS} : LM C o 187 Q2w 2 (yS119 (.tuple []) c g d e h a i f b (hp j T) k) (.ret ⟨(.agg [(i6 c),(.str g),(.vs 5 true [(.agg [(i6 d),(i6 e),(.str h),(.vs 5 a i),(i6 f)])]),(.vs 6 true []),(.vs 6 true []),(i6 b)]),(hp j T),k⟩) := lM 3
abbrev yS122 := fun a (b c : Int) (d : List UInt8) (e : Bool) (f : List AV) (g : Int) (h : Bool) (i : List AV) (j : Int) k (l : Nat) => mkS 56 [vv 0 (.ptr 0 0),(2,.lp 2 0),(3,.lp 3 0),vv 28 (.ptr 0 0),vv 29 a] [cD1,(3,⟨[(i6 6),(.str []),(.vs 5 true [(.agg [(i6 b),(i6 c),(.str d),(.vs 5 e f),(i6 g)])]),(.vs 6 h i),(.vs 6 true []),(i6 j)],[]⟩)] k l
theorem p187_13 {T : Hp} {l : Nat} {c d e f : Int} {g : List UInt8} {a b : Bool} {h i : List AV} {j : PS} : LM C o 187 qD20 2 (yS120 (.tuple []) d e g a h f b i c (hp j T) l) (.call 150 [(.ptr 0 0)] (hp j T) l fun k =>
(.mid 0 qD22 2 (yS122 k.v d e g a h f b i c k.H k.nx))) := lM 1
theorem p187_14 {T : Hp} {k : Nat} {c d e f : Int} {g : List UInt8} {a b : Bool} {h i : List AV} {j : PS} : LM C o 187 qD21 2 (yS121 (.tuple []) d e g a h f b i c (hp j T) k) (.ret ⟨(.agg [(i6 6),(.str []),(.vs 5 true [(.agg [(i6 d),(i6 e),(.str g),(.vs 5 a h),(i6 f)])]),(.vs 6 b i),(.vs 6 true []),(i6 c)]),(hp j T),k⟩) := lM 3
theorem p187_15 {c k} {T : Hp} {n : Nat} {d e f g : Int} {h : List UInt8} {a b : Bool} {i j : List AV} {l : PS} : LM C o 187 qD22 2 (yS122 (.vs 6 c k) e f h a i g b j d (hp l T) n) (.call 214 [(.ptr 0 0)] (hp l T) n fun m =>
(.mid 0 qD23 2 (mkS 56 [vv 0 (.ptr 0 0),(2,.lp 2 0),(3,.lp 3 0),vv 31 (.ptr 0 0),vv 32 m.v] [cD1,(3,⟨[(i6 6),(.str []),(.vs 5 true [(.agg [(i6 e),(i6 f),(.str h),(.vs 5 a i),(i6 g)])]),(.vs 6 b j),(.vs 6 c k),(i6 d)],[]⟩)] m.H m.nx))) := lM 2
theorem p187_16 {d e f g h a b c i j k} {T : Hp} {m : Nat} {l : PS} : LM C o 187 qD23 2 (mkS 56 [vv 0 (.ptr 0 0),(2,.lp 2 0),(3,.lp 3 0),vv 31 (.ptr 0 0),vv 32 (.tuple [])] [cD1,(3,⟨[(i6 6),(.str []),(.vs 5 true [(.agg [(i6 e),(i6 f),(.str h),(.vs 5 a i),(i6 g)])]),(.vs 6 b j),(.vs 6 c k),(i6 d)],[]⟩)] (hp l T) m) (.ret ⟨(.agg [(i6 6),(.str []),(.vs 5 true [(.agg [(i6 e),(i6 f),(.str h),(.vs 5 a i),(i6 g)])]),(.vs 6 b j),(.vs 6 c k),(i6 d)]),(hp l T),m⟩) := lM 3
end
section
open Go Go.Vai
attribute [local irreducible] goTo zao mkS
variable {C : Nat→Oracle} (hC : Ext C) {T : Hp} {nx : Nat}
theorem zcm (k n : Int) (s : List UInt8) (tg : Bool) (l : List Ex) (a : Int) : (Ex.mk k n s tg l a).av = .agg [.int .i64 k,.int .i64 n,.str s,.vs 5 tg (exs l),.int .i64 a] := by rw [Ex.av]
theorem zcp : exs [] = [] := by rw [exs]
theorem zf1 (e : Ex) (l : List Ex) : exs (e :: l) = e.av :: exs l := by rw [exs]
def ExW (C : Nat→Oracle) (T : Hp) (nx g : Nat) (args : List AV) (p : PS) (r : Ex × PS) : Prop := calL C g (.ptr 0 0 :: args) (hp p T) nx = some ⟨r.1.av,hp r.2 T,nx⟩
include hC
theorem zu9 : ∀ f : Nat,
  (∀ n p r,Ok p→n ≤ 6→binF f n p = some r→ExW C T nx 188 [.int .i64 (n : Int)] p r) ∧
  (∀ n e p r,Ok p→n ≤ 5→binL f n e p = some r→∀ (x : List (Nat × Slot)) (fr : List Nat) (a b : Int) (c : List UInt8) (d : Bool) (g : List AV) (h : Int),(x = []∧fr = [] ∨ (∃ c,x = [(55,.val (.bool c) .no)])∧fr = [3]) →
   RL C 188 Q0z (mkS 57 ([(0,.val (.ptr 0 0) .no),(1,.val (.int .i64 (n : Int)) .no),(4,.lp 4 0),(5,.lp 5 0)] ++ x) [(4,⟨[(.int .i64 a),(.int .i64 b),(.str c),(.vs 5 d g),(.int .i64 h)],[3]⟩),(5,⟨e.av.cells,fr⟩)] (hp p T) nx) = some ⟨r.1.av,hp r.2 T,nx⟩) ∧
  (∀ p r,Ok p→unF f p = some r→ExW C T nx 215 [] p r) ∧
  (∀ p r,Ok p→priF f p = some r→ExW C T nx 231 [] p r)
 | 0=>⟨fun _ _ _ _ _ h=>(by rw [binF] at h; cases h),fun _ _ _ _ _ _ h=>(by rw [binL] at h; cases h),fun _ _ _ h=>(by rw [unF] at h; cases h),fun _ _ _ h=>(by rw [priF] at h; cases h)⟩
 | f + 1=>by
  obtain ⟨i1,i2,i3,i4⟩ := zu9 f;obtain ⟨j1,j2,j3,j4⟩ := zbp f;unfold ExW at *;refine ⟨fun n p r hO hn h=>?_,fun n e p r hO hn h x fr a b c d g z hx=>?_,fun p r hO h=>?_,fun p r hO h=>?_⟩
  ·
   rw [binF] at h;refine p188_c hC (p188_0 ?_);simp only [Tr.val];split at h
   ·rename_i h6;refine bT (by omega) ?_;refine bnd (i3 _ _ hO h) ?_;obtain ⟨⟨k,m,s,tg,l,q⟩,p'⟩ := r;simp only [zcm];exact p188_1 rfl
   ·rename_i h6;obtain ⟨y,h1,h2⟩ := za2 h;refine bF (by omega) ?_;rw [zb1 (by omega) (by omega),show ((n : Int) + 1) = ((n + 1 : Nat) : Int) by omega];refine bnd (i1 _ _ _ hO (by omega) h1) ?_;obtain ⟨⟨k,m,s,tg,l,q⟩,p'⟩ := y;simp only [zcm];refine p188_2 ?_;have := i2 n _ _ r (j1 _ _ _ hO h1).ok (by omega) h2 [] [] 0 0 [] true [] 0 (.inl ⟨rfl,rfl⟩);simp only [zcm,AV.cells] at this;exact this
  ·
   rw [binL] at h;obtain ⟨k,m,s,tg,l,q⟩ := e;simp only [zcm,AV.cells];rcases hx with ⟨rfl,rfl⟩ | ⟨⟨cc,rfl⟩,rfl⟩
   all_goals
    simp only [List.append_nil,List.cons_append,List.nil_append]
    first | refine p188_3 ?_ | refine p188_7 ?_
    simp only [Tr.val,za3,AV.pure,za0];by_cases h3 : p.kind = 3
    ·refine nF h3 ?_;rw [if_neg (fun hh=>hh.1 h3)] at h;injection h with h;subst h;simp only [zcm]
    ·refine nT h3 (bnd (l113 hC p.s) ?_);simp only [AV.pure,za0]
     first | refine p188_4 ?_ | refine p188_8 ?_
     simp only [Tr.val];by_cases hl : zh2 p.s = (n : Int)
     ·refine bT hl ?_;rw [if_pos ⟨h3,hl⟩] at h;obtain ⟨y,h1,h2⟩ := za2 h;have hA := PS.adv_ok hO;refine bnd (l42 hC p hO) ?_;refine p188_5 ?_;simp only [Tr.val];rw [zb1 (by omega) (by omega),show ((n : Int) + 1) = ((n + 1 : Nat) : Int) by omega];refine bnd (i1 _ _ _ hA (by omega) h1) ?_;have hY := (j1 _ _ _ hA h1).ok;obtain ⟨⟨k',m',s',tg',l',q'⟩,p'⟩ := y;simp only [zcm];refine p188_6 ?_;simp only [Tr.val];refine ct rfl (ct rfl ?_);by_cases hn3 : n = 3
      ·refine bT (by omega) ?_;rw [if_pos hn3] at h2;injection h2 with h2;subst h2;simp only [zcm,zf1,zcp]
      ·refine bF (by omega) ?_;rw [if_neg hn3] at h2;have := i2 n _ _ r hY (by omega) h2 [(55,.val (.bool false) .no)] [3] a b c d g z (.inr ⟨⟨_,rfl⟩,rfl⟩);simp only [zcm,zf1,zcp,AV.cells] at this;exact this
     ·refine bF hl ?_;rw [if_neg (fun hh=>hl hh.2)] at h;injection h with h;subst h;simp only [zcm]
  ·
   rw [unF] at h;refine p215_c hC (p215_0 ?_);refine bnd (l82 hC p [45]) ?_;refine p215_1 ?_;simp only [Tr.val];have go : p.kind ≠ 0→(unF f p.opn.adv).bind (fun r=>some (Ex.mk 6 0 p.s true [r.1] p.tat,r.2.cls)) = some r→ML C 215 Q0o 2 (mkS 36 [(0,.val (.ptr 0 0) .no),(2,.lp 2 0),(3,.lp 3 0),(25,.val (.ptr 0 0) .no),(26,.val (.tuple []) .no)] [(2,⟨[(.int .i64 (0)),(.int .i64 (0)),(.str []),(.vs 5 true []),(.int .i64 (0))],[3]⟩),(3,⟨[(.int .i64 (6)),(.int .i64 (0)),(.str p.s),(.vs 5 true []),(.int .i64 p.tat)],[]⟩)] (hp p.opn T) nx) = some ⟨r.1.av,hp r.2 T,nx⟩:=by
    intro hk h;obtain ⟨y,h1,h2⟩ := za2 h;obtain ⟨a1,a2,a3,a4⟩ := zc9 hO hk;refine p215_3 ?_;refine bnd (l42 hC _ (zpd hO hk).1) ?_;refine p215_5 ?_;refine bnd (i3 _ _ a1 h1) ?_;have kY := j3 _ _ a1 h1;obtain ⟨⟨k',m',s',tg',l',q'⟩,p'⟩ := y;simp only [zcm];refine p215_6 ?_;refine bnd (l214 hC p' kY.ok.d0 (by have := kY.ok.d1; show p'.depth ≤ 100; simp only at this; omega)) ?_;injection h2 with h2;subst h2;simp only [zcm,zf1,zcp];exact p215_7 rfl
   cases h45 : p.isG [45]
   ·simp only [bnF,za0];refine bnd (l82 hC p [33]) ?_;refine p215_2 ?_;simp only [Tr.val];cases h33 : p.isG [33]
    ·simp only [bnF,za0];rw [h45,h33,if_neg (by simp)] at h;refine bnd (i4 _ _ hO h) ?_;obtain ⟨⟨k',m',s',tg',l',q'⟩,p'⟩ := r;simp only [zcm];exact p215_4 rfl
    ·simp only [bnT,zaw];rw [if_pos (.inr h33)] at h;refine bnd (l213 hC p hO) ?_;exact go (by rw [zc0 h33]; decide) h
   ·simp only [bnT,zaw];rw [if_pos (.inl h45)] at h;refine bnd (l213 hC p hO) ?_;exact go (by rw [zc0 h45]; decide) h
  ·
   rw [priF] at h;refine p231_c hC (p231_0 ?_);simp only [Tr.val];by_cases k2 : p.kind = 2
   ·rw [if_pos k2] at h;injection h with h;subst h;refine bT k2 (bnd (l42 hC p hO) ?_);simp only [zcm,zcp];exact p231_1 rfl
   rw [if_neg k2] at h;refine bF k2 ?_;by_cases k3 : p.kind = 3
   ·rw [if_pos k3] at h;injection h with h;subst h;refine bT k3 (bnd (l42 hC p hO) ?_);simp only [zcm,zcp];exact p231_2 rfl
   rw [if_neg k3] at h;refine bF k3 (bnd (l43 hC p zwc) ?_);refine p231_3 ?_;simp only [Tr.val];by_cases kt : p.isW zwc = true
   ·rw [if_pos kt] at h;injection h with h;subst h;refine ct kt (bnd (l42 hC p hO) ?_);simp only [zcm,zcp];exact p231_4 rfl
   rw [if_neg kt] at h;refine cf (by simpa using kt) (bnd (l43 hC p zow) ?_);refine p231_5 ?_;simp only [Tr.val];by_cases kf : p.isW zow = true
   ·rw [if_pos kf] at h;injection h with h;subst h;refine ct kf (bnd (l42 hC p hO) ?_);simp only [zcm,zcp];exact p231_6 rfl
   rw [if_neg kf] at h;refine cf (by simpa using kf) (bnd (l43 hC p zwo) ?_);refine p231_7 ?_;simp only [Tr.val];by_cases ks : p.isW zwo = true
   ·rw [if_pos ks] at h;injection h with h;subst h;have o1 := PS.adv_ok hO;have o2 := (Keep.sign o1 [40]).ok;have o3 := (Keep.name o2).ok;refine ct ks (bnd (l42 hC p hO) ?_);refine p231_8 (bnd (l81 hC _ o1 [40]) ?_);refine p231_10 (bnd (l80 hC _ o2) ?_);refine p231_13 (bnd (l81 hC _ o3 [41]) ?_);simp only [zcm,zcp];exact p231_15 rfl
   rw [if_neg ks] at h;refine cf (by simpa using ks) (bnd (l82 hC p [40]) ?_);refine p231_9 ?_;simp only [Tr.val];by_cases kg : p.isG [40] = true
   ·rw [if_pos kg] at h;obtain ⟨y,h1,h2⟩ := za2 h;have hk : p.kind ≠ 0 := by rw [zc0 kg]; decide
    obtain ⟨a1,a2,a3,a4⟩ := zc9 hO hk;have kY := j1 _ _ _ a1 h1;have kC := zd5 hO kY.ok (kY.src.trans a2) (kY.dep.trans a3) (by have := kY.mu; omega);refine ct kg (bnd (l213 hC p hO) ?_);refine p231_11 (bnd (l42 hC _ (zpd hO hk).1) ?_);have h151 : calL C 151 [.ptr 0 0] (hp p.opn.adv T) nx = some ⟨y.1.av,hp y.2 T,nx⟩:=by
     refine p151_c hC (p151_0 (bnd (i1 _ _ _ a1 (by decide) h1) ?_));obtain ⟨⟨k',m',s',tg',l',q'⟩,p'⟩ := y;simp only [zcm];exact p151_1 rfl
    refine p231_14 (bnd h151 ?_);injection h2 with h2;subst h2;obtain ⟨⟨k',m',s',tg',l',q'⟩,p'⟩ := y;simp only [zcm];refine p231_16 (bnd (l214 hC p' kY.ok.d0 (by have := kY.ok.d1; show p'.depth ≤ 100; simp only at this; omega)) ?_);refine p231_17 (bnd (l81 hC _ kC.ok [41]) ?_);exact p231_18 rfl
   ·rw [if_neg kg] at h;injection h with h;subst h;refine cf (by simpa using kg) (bnd (l80 hC p hO) ?_);simp only [zcm,zcp];exact p231_12 rfl
end
end Go.Proofs.YtfdklpkfpmkgeaaGreatDoor
