/- Sources by tokens: what the parser sees of a source whose tokens are known. -/
import Derived.Test.YtfdklpkfpmkgeaaGreatDoorM5
import Derived.Test.YtfdklpkfpmkgeaaGreatDoorM7
import Derived.Test.YtfdklpkfpmkgeaaGreatDoorM8
set_option linter.unusedSimpArgs false
set_option linter.unusedVariables false
set_option linter.unusedSectionVars false
set_option linter.unnecessarySimpa false
section
namespace Go.Proofs.YtfdklpkfpmkgeaaGreatDoor
open Go Go.Vai
structure Tk where
 kind : Int
 s : List UInt8
 n : Int
def Lx (src : List UInt8) : Nat→List Tk→Prop
 | _,[]=>True
 | k,t :: ts=>(zcf src k).err = 0∧(zcf src k).kind = t.kind∧(zcf src k).s = t.s∧(zcf src k).n = t.n∧Lx src (zcf src k).pos ts
def NT.up (t : NT) (k : Nat) : NT := ⟨t.kind,t.s,t.n,k + t.at_,t.err,k + t.pos⟩
theorem tokS_up (src : List UInt8) (k a : Nat) : tokS src (k + a) = (tokS (src.drop k) a).up k:=by
 unfold tokS
 rw [List.drop_drop]
 cases src.drop (k + a) with
 | nil=>rfl
 | cons c r =>
  simp only
  repeat' split
  all_goals simp only [NT.up,Nat.add_assoc]
theorem nextS_up (src : List UInt8) (k : Nat) : zcf src k = (zcf (src.drop k) 0).up k:=by
 unfold zcf
 rw [tokS_up,List.drop_zero,Nat.zero_add]
def lexN : Nat→List UInt8→Option (List Tk × List UInt8)
 | 0,r=>some ([],r)
 | n + 1,r=>if (zcf r 0).err = 0 then (lexN n (r.drop (zcf r 0).pos)).map fun x=>(⟨(zcf r 0).kind,(zcf r 0).s,(zcf r 0).n⟩ :: x.1,x.2) else none
theorem zt2 (src : List UInt8) : ∀ (n : Nat) (r : List UInt8) (x : List Tk × List UInt8) (k : Nat),lexN n r = some x→src.drop k = r→∃ k',src.drop k' = x.2∧∀ us,Lx src k' us→Lx src k (x.1 ++ us)
 | 0,r,x,k,h,hk=>by
  injection h with h
  subst h
  exact ⟨k,hk,fun us hu=>hu⟩
 | n + 1,r,x,k,h,hk=>by
  rw [lexN] at h
  split at h
  ·rename_i h0
   obtain ⟨y,hy,rfl⟩ := Option.map_eq_some_iff.1 h
   have hn := nextS_up src k
   rw [hk] at hn
   obtain ⟨k',h1,h2⟩ := zt2 src n _ y (k + (zcf r 0).pos) hy (by rw [← List.drop_drop,hk])
   refine ⟨k',h1,fun us hu=>?_⟩
   show Lx src k (_ :: (y.1 ++ us))
   rw [Lx,hn]
   exact ⟨h0,rfl,rfl,rfl,h2 us hu⟩
  ·cases h
theorem zos {src : List UInt8} {n : Nat} {r : List UInt8} {x : List Tk × List UInt8} {k : Nat} (hk : src.drop k = r) (h : lexN n r = some x) {us : List Tk} (hu : ∀ k',src.drop k' = x.2→Lx src k' us) : Lx src k (x.1 ++ us):=by
 obtain ⟨k',h1,h2⟩ := zt2 src n r x k h hk
 exact h2 us (hu k' h1)
def At (p : PS) (l : List Tk) (d : Int) : Prop := match l with
 | []=>False
 | t :: ts=>p.kind = t.kind∧p.s = t.s∧p.n = t.n∧p.err = 0∧p.depth = d∧Lx p.src p.pos.toNat ts
theorem At.adv {p : PS} {t : Tk} {l : List Tk} {d : Int} (h : At p (t :: l) d) (hl : l ≠ []) : At p.adv l d:=by
 cases l with
 | nil=>exact absurd rfl hl
 | cons u ts =>
  obtain ⟨_,_,_,h4,h5,h6⟩ := h
  rw [Lx] at h6
  obtain ⟨l1,l2,l3,l4,l5⟩ := h6
  unfold PS.adv
  rw [if_pos h4,if_pos l1]
  refine ⟨l2,l3,l4,h4,h5,?_⟩
  rw [Int.toNat_natCast]
  exact l5
theorem At.ps0 {src : List UInt8} {l : List Tk} (h : Lx src 0 l) (hl : l ≠ []) : At (ps0 src).adv l 0 :=
 At.adv (t := ⟨0,[],0⟩) (p := Go.Proofs.YtfdklpkfpmkgeaaGreatDoor.ps0 src) ⟨rfl,rfl,rfl,rfl,rfl,h⟩ hl
theorem At.isW {p : PS} {t : Tk} {l : List Tk} {d : Int} (h : At p (t :: l) d) (w : List UInt8) : p.isW w = (decide (t.kind = 1) && eqS t.s w):=by
 unfold PS.isW
 rw [h.1,h.2.1]
theorem At.isG {p : PS} {t : Tk} {l : List Tk} {d : Int} (h : At p (t :: l) d) (w : List UInt8) : p.isG w = (decide (t.kind = 4) && eqS t.s w):=by
 unfold PS.isG
 rw [h.1,h.2.1]
theorem At.sign {p : PS} {w : List UInt8} {l : List Tk} {d : Int} (h : At p (⟨4,w,0⟩ :: l) d) (hl : l ≠ []) : At (p.sign w) l d:=by
 unfold PS.sign
 rw [h.isG,if_pos (by rw [zpa]; rfl)]
 exact h.adv hl
theorem At.name {p : PS} {w : List UInt8} {l : List Tk} {d : Int} (h : At p (⟨1,w,0⟩ :: l) d) (hw : decide (w ∉ kwL∧w.length ≤ 16) = true) (hl : l ≠ []) : At p.name l d∧p.s = w:=by
 have hw := of_decide_eq_true hw
 have h1 : p.kind = 1 := h.1
 have h2 : p.s = w := h.2.1
 unfold PS.name
 rw [h2,if_pos ⟨h1,hw.1⟩,if_neg (by omega)]
 exact ⟨h.adv hl,rfl⟩
def oneK (t : Tk) : List (List UInt8)→Nat→Option Int
 | [],_=>none
 | w :: r,i=>if (decide (t.kind = 1) && eqS t.s w) = true then some ((i : Int) + 1) else oneK t r (i + 1)
theorem At.oneF {p : PS} {t : Tk} {l : List Tk} {d : Int} (h : At p (t :: l) d) (hl : l ≠ []) : ∀ (ws : List (List UInt8)) (i : Nat) (j : Int),oneK t ws i = some j→(p.oneF ws i).1 = j∧At (p.oneF ws i).2 l d
 | [],_,_,e=>by cases e
 | w :: r,i,j,e=>by
  rw [oneK] at e
  rw [PS.oneF,h.isW]
  split
  ·rename_i hc
   rw [if_pos hc] at e
   injection e with e
   exact ⟨e,h.adv hl⟩
  ·rename_i hc
   rw [if_neg hc] at e
   exact h.oneF hl r (i + 1) j e
theorem At.opn {p : PS} {l : List Tk} {d : Int} (h : At p l d) (hd : d ≠ 20) : At p.opn l (d + 1):=by
 cases l with
 | nil=>exact h
 | cons t ts =>
  obtain ⟨h1,h2,h3,h4,h5,h6⟩ := h
  unfold PS.opn
  rw [if_neg (by omega)]
  exact ⟨h1,h2,h3,h4,by rw [← h5]; rfl,h6⟩
theorem At.cls {p : PS} {l : List Tk} {d : Int} (h : At p l (d + 1)) : At p.cls l d:=by
 cases l with
 | nil=>exact h
 | cons t ts =>
  obtain ⟨h1,h2,h3,h4,h5,h6⟩ := h
  exact ⟨h1,h2,h3,h4,by show p.depth + -1 = d; omega,h6⟩
theorem At.err {p : PS} {l : List Tk} {d : Int} (h : At p l d) : p.err = 0:=by
 cases l with
 | nil=>exact h.elim
 | cons t ts=>exact h.2.2.2.1
theorem zpi {p q : PS} {e : Ex} (g : Nat) (h : priF (g + 1) p = some (e,q)) (h1 : p.isG [45] = false) (h2 : p.isG [33] = false) (hl : ziv q.s = 0) : binF (g + 8) 1 p = some (e,q):=by
 have b : ∀ f n,n ≠ 0→binL (f + 1) n e q = some (e,q) := fun f n hn=>by
  rw [binL,hl,if_neg]
  rintro ⟨_,h⟩
  omega
 have u : unF (g + 2) p = some (e,q):=by
  rw [unF,h1,h2,if_neg (by simp)]
  exact h
 have b6 : binF (g + 3) 6 p = some (e,q) := by rw [binF,if_pos rfl]; exact u
 have st : ∀ f n,n ≠ 0→n ≠ 6→binF (f + 1) (n + 1) p = some (e,q)→binF (f + 2) n p = some (e,q) := fun f n h0 h6 h=>by
  rw [binF,if_neg h6,h]
  exact b f n h0
 exact st _ 1 (by decide) (by decide) (st _ 2 (by decide) (by decide) (st _ 3 (by decide) (by decide) (st _ 4 (by decide) (by decide) (st _ 5 (by decide) (by decide) b6))))
theorem At.num {p : PS} {v : Int} {u : Tk} {l : List Tk} {d : Int} (h : At p (⟨2,[],v⟩ :: u :: l) d) (hu : ziv u.s = 0) (g : Nat) : ∃ a q,binF (g + 8) 1 p = some (.mk 1 v [] true [] a,q)∧At q (u :: l) d:=by
 have q := h.adv (List.cons_ne_nil _ _)
 refine ⟨p.tat,p.adv,zpi g ?_ (by rw [h.isG]; rfl) (by rw [h.isG]; rfl) (by rw [q.2.1]; exact hu),q⟩
 rw [priF,if_pos h.1,h.2.2.1]
theorem At.nam {p : PS} {w : List UInt8} {u : Tk} {l : List Tk} {d : Int} (h : At p (⟨1,w,0⟩ :: u :: l) d) (hw : decide (w ∉ kwL∧w.length ≤ 16) = true) (hu : ziv u.s = 0) (g : Nat) : ∃ a q,binF (g + 8) 1 p = some (.mk 4 0 w true [] a,q)∧At q (u :: l) d:=by
 obtain ⟨q,hs⟩ := h.name hw (List.cons_ne_nil _ _)
 have hk := (of_decide_eq_true hw).1
 have no : ∀ x ∈ kwL,p.isW x = false := fun x hx=>by
  rw [h.isW]
  show (true && eqS w x) = false
  rw [Bool.true_and,Bool.eq_false_iff]
  intro e
  exact hk ((zcx _ _).1 e ▸ hx)
 refine ⟨p.tat,p.name,zpi g ?_ (by rw [h.isG]; rfl) (by rw [h.isG]; rfl) (by rw [q.2.1]; exact hu),q⟩
 rw [priF,h.1,if_neg (by show ¬ (1 : Int) = 2; decide),if_neg (by show ¬ (1 : Int) = 3; decide),no wTrue (by decide),no zpu (by decide),no wSize (by decide),h.isG,hs]
 rfl
end Go.Proofs.YtfdklpkfpmkgeaaGreatDoor
end
section
namespace Go.Proofs.YtfdklpkfpmkgeaaGreatDoor
open Go Go.Vai
abbrev tIf : Tk := ⟨1,[105,102],0⟩
abbrev tElse : Tk := ⟨1,[101,108,115,101],0⟩
abbrev zji : Tk := ⟨1,[119,114,105,116,101],0⟩
abbrev zok : Tk := ⟨1,[109,97,114,107],0⟩
abbrev tA : Tk := ⟨1,[97],0⟩
abbrev tX1 : Tk := ⟨1,[120,49],0⟩
abbrev tP : Tk := ⟨1,[112],0⟩
abbrev tOne : Tk := ⟨2,[],1⟩
abbrev tO : Tk := ⟨4,[123],0⟩
abbrev tC : Tk := ⟨4,[125],0⟩
abbrev tEq : Tk := ⟨4,[61],0⟩
abbrev zen : Tk := ⟨4,[59],0⟩
abbrev tEnd : Tk := ⟨0,[],0⟩
abbrev tHdr (l : List Tk) : List Tk := ⟨1,[116,121,112,101],0⟩ :: ⟨1,[116],0⟩ :: tO :: ⟨1,[114,101,103,105,115,116,101,114],0⟩ :: tA :: ⟨1,[105,110,116],0⟩ :: zen :: ⟨1,[102,108,97,103],0⟩ :: tX1 :: zen :: ⟨1,[111,112],0⟩ :: ⟨1,[102],0⟩ :: ⟨4,[40],0⟩ :: tP :: ⟨1,[98,111,111,108],0⟩ :: ⟨4,[41],0⟩ :: tO :: l
def zra : Bool→Bool→List Tk
 | false,false=>[]
 | true,false=>[zji,tA,tEq,tOne,zen]
 | false,true=>[zok,tX1,zen]
 | true,true=>[zji,tA,tEq,tOne,zen,zok,tX1,zen]
def zkx : List (Bool × Bool)→List Tk
 | []=>[]
 | (w,e) :: r=>match r with
  | []=>zra w e
  | _ :: _=>tIf :: tP :: tO :: (zra w e ++ (tC :: tElse :: tO :: (zkx r ++ [tC])))
def IsW (z : Stm) : Prop := ∃ a b,z = .mk 1 [97] [.mk 1 1 [] true [] a] true [] true [] b
def IsM (z : Stm) : Prop := ∃ b,z = .mk 5 [120,49] [] true [] true [] b
def Leaf : Bool→Bool→List Stm→Prop
 | false,false,L=>L = []
 | true,false,L=>∃ z,IsW z∧L = [z]
 | false,true,L=>∃ z,IsM z∧L = [z]
 | true,true,L=>∃ z y,IsW z∧IsM y∧L = [z,y]
def Tree : List (Bool × Bool)→List Stm→Prop
 | [],_=>False
 | (w,e) :: r,L=>match r with
  | []=>Leaf w e L
  | _ :: _=>∃ a b t1 th t2 el,L = [.mk 6 [] [.mk 4 0 [112] true [] a] t1 th t2 el b]∧Leaf w e th∧Tree r el
theorem zj0 {p : PS} {us : List Tk} {d : Int} (h : At p (tC :: us) d) (hu : us ≠ []) (f : Nat) (tg : Bool) (l : List Stm) : blkL (f + 1) tg l p = some ((tg,l),p.sign [125])∧At (p.sign [125]) us d:=by
 refine ⟨?_,h.sign hu⟩
 rw [blkL,if_neg]
 rintro ⟨_,h2⟩
 rw [h.isG] at h2
 exact absurd h2 (by decide)
theorem zg8 {p q : PS} {t : Tk} {us : List Tk} {d : Int} (h : At p (t :: us) d) (ht : (decide (t.kind = 4) && eqS t.s [125]) = false) {f : Nat} {tg : Bool} {l : List Stm} {z : Stm} (hs : stF f p = some (z,q)) : blkL (f + 1) tg l p = blkL f false (l ++ [z]) q:=by
 rw [blkL,if_pos ⟨h.err,(h.isG _).trans ht⟩,hs]
 rfl
theorem zta {p : PS} {us : List Tk} {d : Int} (h : At p (zok :: tX1 :: zen :: us) d) (hu : us ≠ []) (f : Nat) : ∃ z q,stF (f + 1) p = some (z,q)∧IsM z∧At q us d:=by
 obtain ⟨h1,h2⟩ := h.oneF (List.cons_ne_nil _ _) stL 0 5 rfl
 obtain ⟨h3,h4⟩ := h2.name (by decide) (List.cons_ne_nil _ _)
 have h5 := h3.sign hu
 refine ⟨.mk 5 [120,49] [] true [] true [] p.tat,_,?_,⟨_,rfl⟩,h5⟩
 rw [stF,h.isW,if_neg (by decide),if_pos h1,h4]
theorem zpn {p : PS} {us : List Tk} {d : Int} (h : At p (zji :: tA :: tEq :: tOne :: zen :: us) d) (hu : us ≠ []) (f : Nat) : ∃ z q,stF (f + 9) p = some (z,q)∧IsW z∧At q us d:=by
 obtain ⟨h1,h2⟩ := h.oneF (List.cons_ne_nil _ _) stL 0 1 rfl
 obtain ⟨h3,h4⟩ := h2.name (by decide) (List.cons_ne_nil _ _)
 have h5 := h3.sign (List.cons_ne_nil _ _)
 obtain ⟨a,q,h6,h7⟩ := h5.num (by decide) f
 have h8 := h7.sign hu
 refine ⟨.mk 1 [97] [.mk 1 1 [] true [] a] true [] true [] p.tat,_,?_,⟨_,_,rfl⟩,h8⟩
 rw [stF,h.isW,if_neg (by decide),h1,if_neg (by decide),h6,h4]
 rfl
theorem zpg (w e : Bool) {p : PS} {us : List Tk} {d : Int} (h : At p (zra w e ++ tC :: us) d) (hu : us ≠ []) (f : Nat) (tg : Bool) : ∃ tg' L q,blkL (f + 13) tg [] p = some ((tg',L),q)∧Leaf w e L∧At q us d:=by
 cases w <;> cases e
 ·have h : At p (tC :: us) d := h
  obtain ⟨h1,h2⟩ := zj0 h hu (f + 12) tg []
  exact ⟨_,_,_,h1,rfl,h2⟩
 ·have h : At p (zok :: tX1 :: zen :: tC :: us) d := h
  obtain ⟨z,q,h1,h2,h3⟩ := zta h (List.cons_ne_nil _ _) (f + 11)
  obtain ⟨h4,h5⟩ := zj0 h3 hu (f + 11) false ([] ++ [z])
  exact ⟨_,_,_,(zg8 h rfl h1).trans h4,⟨z,h2,rfl⟩,h5⟩
 ·have h : At p (zji :: tA :: tEq :: tOne :: zen :: tC :: us) d := h
  obtain ⟨z,q,h1,h2,h3⟩ := zpn h (List.cons_ne_nil _ _) (f + 3)
  obtain ⟨h4,h5⟩ := zj0 h3 hu (f + 11) false ([] ++ [z])
  exact ⟨_,_,_,(zg8 h rfl h1).trans h4,⟨z,h2,rfl⟩,h5⟩
 ·have h : At p (zji :: tA :: tEq :: tOne :: zen :: zok :: tX1 :: zen :: tC :: us) d := h
  obtain ⟨z,q,h1,h2,h3⟩ := zpn h (List.cons_ne_nil _ _) (f + 3)
  obtain ⟨y,q',g1,g2,g3⟩ := zta h3 (List.cons_ne_nil _ _) (f + 10)
  obtain ⟨h4,h5⟩ := zj0 g3 hu (f + 10) false (([] ++ [z]) ++ [y])
  exact ⟨_,_,_,(zg8 h rfl h1).trans ((zg8 h3 rfl g1).trans h4),⟨z,y,h2,g2,rfl⟩,h5⟩
theorem zr7 {α : Type} (a : List α) (x : α) (b : List α) : a ++ x :: b ≠ [] := by simp
theorem zpz : ∀ (r : List (Bool × Bool)),r ≠ []→∀ (p : PS) (us : List Tk) (d : Int),At p (zkx r ++ tC :: us) d→us ≠ []→d + r.length ≤ 20→∀ f,13 + 2 * r.length ≤ f→∃ tg' L q,blkL f true [] p = some ((tg',L),q)∧Tree r L∧At q us d
 | [],h0,_,_,_,_,_,_,_,_=>absurd rfl h0
 | [(w,e)],_,p,us,d,h,hu,_,f,hf=>by
  obtain ⟨g,rfl⟩ : ∃ g,f = g + 13 := ⟨f - 13,by omega⟩
  exact zpg w e h hu g true
 | (w,e) :: x :: r,_,p,us,d,h,hu,hd,f,hf=>by
  simp only [List.length_cons] at hf hd
  obtain ⟨g,rfl⟩ : ∃ g,f = g + 2 := ⟨f - 2,by omega⟩
  have h : At p (tIf :: tP :: tO :: (zra w e ++ (tC :: tElse :: tO :: (zkx (x :: r) ++ tC :: (tC :: us))))) d:=by
   rw [zkx] at h
   simpa only [List.cons_append,List.append_assoc,List.nil_append] using h
  have h1 := (h.opn (by omega)).adv (List.cons_ne_nil _ _)
  obtain ⟨a,q1,e1,h2⟩ := h1.nam (by decide) (by decide) (g - 8)
  have h3 := h2.sign (zr7 _ _ _)
  obtain ⟨t1,th,q2,e2,hl,h4⟩ := zpg w e h3 (List.cons_ne_nil _ _) (g - 13) true
  have h5 := (h4.adv (List.cons_ne_nil _ _)).sign (zr7 _ _ _)
  obtain ⟨t2,el,q3,e3,ht,h6⟩ := zpz (x :: r) (List.cons_ne_nil _ _) _ (tC :: us) _ h5 (List.cons_ne_nil _ _) (by simp only [List.length_cons]; omega) g (by simp only [List.length_cons]; omega)
  have h7 := h6.cls
  rw [show g - 8 + 8 = g by omega] at e1
  rw [show g - 13 + 13 = g by omega] at e2
  have hst : stF (g + 1) p = some (.mk 6 [] [.mk 4 0 [112] true [] a] t1 th t2 el p.tat,q3.cls):=by
   rw [stF,h.isW,if_pos (by decide),e1,Option.bind_some,e2,Option.bind_some,if_pos (by rw [h4.isW]; decide),e3]
   rfl
  obtain ⟨h8,h9⟩ := zj0 h7 hu g false ([] ++ [.mk 6 [] [.mk 4 0 [112] true [] a] t1 th t2 el p.tat])
  exact ⟨_,_,_,(zg8 h rfl hst).trans h8,⟨a,p.tat,t1,th,t2,el,rfl,hl,ht⟩,h9⟩
def zny (L : List Stm) (tb : Bool) (a b c d e : Int) : Typ := ⟨[116],false,[⟨[97],1,1,b⟩,⟨[120,49],5,0,c⟩],false,[⟨[102],false,[⟨[112],3,d⟩],tb,L,e⟩],true,[],true,[],a⟩
theorem zo9 {p q : PS} {t : Tk} {us : List Tk} {d : Int} (h : At p (t :: us) d) (ht : (decide (t.kind = 4) && eqS t.s [125]) = false) {f : Nat} {x y : Typ} (hs : memF f x p = some (y,q)) : tdL (f + 1) x p = tdL f y q:=by
 rw [tdL,if_pos ⟨h.err,(h.isG _).trans ht⟩,hs]
 rfl
theorem mem_reg {p : PS} {n : List UInt8} {us : List Tk} {d : Int} (h : At p (⟨1,[114,101,103,105,115,116,101,114],0⟩ :: ⟨1,n,0⟩ :: ⟨1,[105,110,116],0⟩ :: zen :: us) d) (hn : decide (n ∉ kwL∧n.length ≤ 16) = true) (hu : us ≠ []) (f : Nat) (t : Typ) : ∃ b q,memF f t p = some ({ t with tgF := false,fields := t.fields ++ [⟨n,1,1,b⟩] },q)∧At q us d:=by
 obtain ⟨o4,h4⟩ := h.oneF (List.cons_ne_nil _ _) memW 0 1 rfl
 obtain ⟨h5,s5⟩ := h4.name hn (List.cons_ne_nil _ _)
 obtain ⟨o6,h6⟩ := h5.oneF (List.cons_ne_nil _ _) regW 0 1 rfl
 refine ⟨(p.oneF memW 0).2.tat,_,?_,h6.sign hu⟩
 rw [memF,if_pos o4,s5,o6]
theorem mem_flag {p : PS} {n : List UInt8} {us : List Tk} {d : Int} (h : At p (⟨1,[102,108,97,103],0⟩ :: ⟨1,n,0⟩ :: zen :: us) d) (hn : decide (n ∉ kwL∧n.length ≤ 16) = true) (hu : us ≠ []) (f : Nat) (t : Typ) : ∃ b q,memF f t p = some ({ t with tgF := false,fields := t.fields ++ [⟨n,5,0,b⟩] },q)∧At q us d:=by
 obtain ⟨o4,h4⟩ := h.oneF (List.cons_ne_nil _ _) memW 0 5 rfl
 obtain ⟨h5,s5⟩ := h4.name hn (List.cons_ne_nil _ _)
 refine ⟨(p.oneF memW 0).2.tat,_,?_,h5.sign hu⟩
 rw [memF,if_neg (by rw [o4]; decide),if_pos (.inr (.inr (.inr o4))),s5,o4]
theorem mem_op {p : PS} {r : List (Bool × Bool)} {us : List Tk} (hr : r ≠ []) (hl : r.length ≤ 6) (h : At p (⟨1,[111,112],0⟩ :: ⟨1,[102],0⟩ :: ⟨4,[40],0⟩ :: tP :: ⟨1,[98,111,111,108],0⟩ :: ⟨4,[41],0⟩ :: tO :: (zkx r ++ tC :: us)) 0) (hu : us ≠ []) (f : Nat) (t : Typ) : ∃ L tb b c q,memF (f + 25) t p = some ({ t with tgO := false,ops := t.ops ++ [⟨[102],false,[⟨[112],3,b⟩],tb,L,c⟩] },q)∧Tree r L∧At q us 0:=by
 obtain ⟨o4,h4⟩ := h.oneF (List.cons_ne_nil _ _) memW 0 6 rfl
 obtain ⟨h5,s5⟩ := h4.name (by decide) (List.cons_ne_nil _ _)
 have h6 := h5.sign (List.cons_ne_nil _ _)
 obtain ⟨h7,s7⟩ := h6.name (by decide) (List.cons_ne_nil _ _)
 obtain ⟨o8,h8⟩ := h7.oneF (List.cons_ne_nil _ _) tyL 0 3 rfl
 have h9 := h8.sign (List.cons_ne_nil _ _)
 have h10 := h9.sign (zr7 _ _ _)
 obtain ⟨tb,L,q,e,ht,hq⟩ := zpz r hr _ us _ h10 hu (by omega) (f + 25) (by omega)
 refine ⟨L,tb,((p.oneF memW 0).2.name.sign [40]).tat,(p.oneF memW 0).2.tat,q,?_,ht,hq⟩
 rw [memF,if_neg (by rw [o4]; decide),if_neg (by rw [o4]; decide),if_pos o4,pasF,if_neg (by rw [h6.isG]; decide),show f + 25 = f + 24 + 1 from rfl,pasL,if_neg (by unfold parF; rw [h8.isG]; decide)]
 rw [Option.map_some,Option.bind_some,blkF]
 simp only [parF]
 rw [e,Option.bind_some,s5,s7,o8]
theorem pa_paths (r : List (Bool × Bool)) (hr : r ≠ []) (hl : r.length ≤ 6) (p : PS) (h : At p (tHdr (zkx r ++ [tC,tC,tEnd])) 0) : ∃ L tb a b c d e q,paL 40 true [] p = some ((false,[zny L tb a b c d e]),q)∧Tree r L∧q.kind = 0∧q.err = 0:=by
 have h1 := h.adv (List.cons_ne_nil _ _)
 obtain ⟨h2,s2⟩ := h1.name (by decide) (List.cons_ne_nil _ _)
 have h3 := h2.sign (List.cons_ne_nil _ _)
 obtain ⟨b,q1,e1,g1⟩ := mem_reg h3 (by decide) (List.cons_ne_nil _ _) 38 ⟨[116],true,[],true,[],true,[],true,[],p.adv.tat⟩
 obtain ⟨c,q2,e2,g2⟩ := mem_flag g1 (by decide) (List.cons_ne_nil _ _) 37 _
 obtain ⟨L,tb,d,e,q3,e3,ht,g3⟩ := mem_op hr hl g2 (List.cons_ne_nil _ _) 11 _
 have g4 := g3.sign (List.cons_ne_nil _ _)
 refine ⟨L,tb,p.adv.tat,b,c,d,e,q3.sign [125],?_,ht,g4.1,g4.err⟩
 have hend : ∀ t,tdL 36 t q3 = some (t,q3.sign [125]) := fun t=>by
  rw [tdL,if_neg]
  rintro ⟨_,x⟩
  rw [g3.isG] at x
  exact absurd x (by decide)
 rw [paL,if_pos (by rw [h.isW]; decide),tdF,s2,zo9 h3 rfl e1,zo9 g1 rfl e2,zo9 g2 rfl e3,hend,Option.bind_some,paL,if_neg (by rw [g4.isW]; decide)]
 rfl
end Go.Proofs.YtfdklpkfpmkgeaaGreatDoor
end
section
namespace Go.Proofs.YtfdklpkfpmkgeaaGreatDoor
open Go Go.Vai
abbrev litIf : List UInt8 := [105,102,32,112,32,123,32]
abbrev znz : List UInt8 := [125,32,101,108,115,101,32,123,32]
abbrev litW : List UInt8 := [119,114,105,116,101,32,97,32,61,32,49,59,32]
abbrev litM : List UInt8 := [109,97,114,107,32,120,49,59,32]
abbrev litC : List UInt8 := [125,32]
abbrev litF : List UInt8 := [125,32,125]
abbrev zm2 : List UInt8 := [116,121,112,101,32,116,32,123,32,114,101,103,105,115,116,101,114,32,97,32,105,110,116,59,32,102,108,97,103,32,120,49,59,32,111,112,32,102,40,112,32,98,111,111,108,41,32,123,32]
def zky (w e : Bool) : List UInt8 := (if w = true then litW else []) ++ (if e = true then litM else [])
def zgi : List (Bool × Bool)→List UInt8
 | []=>[]
 | (w,e) :: r=>match r with
  | []=>zky w e
  | _ :: _=>litIf ++ (zky w e ++ (znz ++ zgi r))
def sCl : Nat→List UInt8
 | 0=>[]
 | n + 1=>litC ++ sCl n
theorem zp9 : ∀ n,sCl (n + 1) = sCl n ++ litC
 | 0=>rfl
 | n + 1=>by
  show litC ++ sCl (n + 1) = (litC ++ sCl n) ++ litC
  rw [zp9 n,List.append_assoc]
theorem lx_if {src X : List UInt8} {k : Nat} {us : List Tk} (hk : src.drop k = 32 :: (litIf ++ X)) (hu : ∀ k',src.drop k' = 32 :: X→Lx src k' us) : Lx src k (tIf :: tP :: tO :: us) :=
 zos (n := 3) (x := ([tIf,tP,tO],32 :: X)) hk (by kernel_rfl) hu
theorem lx_else {src X : List UInt8} {k : Nat} {us : List Tk} (hk : src.drop k = 32 :: (znz ++ X)) (hu : ∀ k',src.drop k' = 32 :: X→Lx src k' us) : Lx src k (tC :: tElse :: tO :: us) :=
 zos (n := 3) (x := ([tC,tElse,tO],32 :: X)) hk (by kernel_rfl) hu
theorem lx_w {src X : List UInt8} {k : Nat} {us : List Tk} (hk : src.drop k = 32 :: (litW ++ X)) (hu : ∀ k',src.drop k' = 32 :: X→Lx src k' us) : Lx src k (zji :: tA :: tEq :: tOne :: zen :: us) :=
 zos (n := 5) (x := ([zji,tA,tEq,tOne,zen],32 :: X)) hk (by kernel_rfl) hu
theorem lx_m {src X : List UInt8} {k : Nat} {us : List Tk} (hk : src.drop k = 32 :: (litM ++ X)) (hu : ∀ k',src.drop k' = 32 :: X→Lx src k' us) : Lx src k (zok :: tX1 :: zen :: us) :=
 zos (n := 3) (x := ([zok,tX1,zen],32 :: X)) hk (by kernel_rfl) hu
theorem lx_c {src X : List UInt8} {k : Nat} {us : List Tk} (hk : src.drop k = 32 :: (litC ++ X)) (hu : ∀ k',src.drop k' = 32 :: X→Lx src k' us) : Lx src k (tC :: us) :=
 zos (n := 1) (x := ([tC],32 :: X)) hk (by kernel_rfl) hu
theorem lx_f {src : List UInt8} {k : Nat} (hk : src.drop k = 32 :: litF) : Lx src k [tC,tC,tEnd] :=
 zos (n := 3) (x := ([tC,tC,tEnd],[])) (us := []) hk (by kernel_rfl) (fun _ _=>trivial)
theorem lx_hdr {src X : List UInt8} {us : List Tk} (hk : src = zm2 ++ X) (hu : ∀ k',src.drop k' = 32 :: X→Lx src k' us) : Lx src 0 (tHdr us) :=
 zos (n := 17) (x := (tHdr [],32 :: X)) (show List.drop 0 src = zm2 ++ X from hk) (by kernel_rfl) hu
theorem zrv (w e : Bool) {src X : List UInt8} {k : Nat} {us : List Tk} (hk : src.drop k = 32 :: (zky w e ++ X)) (hu : ∀ k',src.drop k' = 32 :: X→Lx src k' us) : Lx src k (zra w e ++ us):=by
 cases w <;> cases e
 ·exact hu k hk
 ·exact lx_m hk hu
 ·exact lx_w hk hu
 ·exact lx_w (X := litM ++ X) hk fun k' h=>lx_m h hu
theorem zsx {src : List UInt8} : ∀ (r : List (Bool × Bool)),r ≠ []→∀ (k : Nat) (X : List UInt8) (us : List Tk),src.drop k = 32 :: (zgi r ++ (sCl (r.length - 1) ++ X))→(∀ k',src.drop k' = 32 :: X→Lx src k' us)→Lx src k (zkx r ++ us)
 | [],h,_,_,_,_,_=>absurd rfl h
 | [(w,e)],_,k,X,us,hk,hu=>zrv w e hk hu
 | (w,e) :: x :: r,_,k,X,us,hk,hu=>by
  rw [zkx,zgi] at *
  simp only [List.cons_append,List.append_assoc,List.nil_append]
  simp only [List.length_cons,Nat.add_sub_cancel,zp9,List.append_assoc] at hk
  refine lx_if hk fun k1 h1=>zrv w e h1 fun k2 h2=>lx_else h2 fun k3 h3=>?_
  refine zsx (x :: r) (List.cons_ne_nil _ _) k3 (litC ++ X) (tC :: us) ?_ fun k4 h4=>lx_c h4 hu
  simpa only [List.length_cons,Nat.add_sub_cancel] using h3
def srcP (r : List (Bool × Bool)) : List UInt8 := zm2 ++ (zgi r ++ (sCl (r.length - 1) ++ litF))
theorem lx_src (r : List (Bool × Bool)) (hr : r ≠ []) : Lx (srcP r) 0 (tHdr (zkx r ++ [tC,tC,tEnd])) :=
 lx_hdr rfl fun k h=>zsx r hr k litF _ h fun _ h'=>lx_f h'
theorem zg4 (w e : Bool) : (zky w e).length ≤ 22 := by cases w <;> cases e <;> decide
theorem zj1 : ∀ r : List (Bool × Bool),(zgi r).length ≤ 40 * r.length
 | []=>Nat.le_refl _
 | [(w,e)]=>by
  have := zg4 w e
  rw [zgi]
  simp only [List.length_cons,List.length_nil]
  omega
 | (w,e) :: x :: r=>by
  have := zg4 w e
  have ih := zj1 (x :: r)
  rw [zgi]
  simp only [List.length_cons,List.length_nil,List.length_append] at ih ⊢
  omega
theorem zot : ∀ n,(sCl n).length = 2 * n
 | 0=>rfl
 | n + 1=>by
  have := zot n
  rw [sCl,List.length_append,this]
  simp only [List.length_cons,List.length_nil]
  omega
theorem srcP_len (r : List (Bool × Bool)) (hl : r.length ≤ 6) : (srcP r).length ≤ 1000:=by
 have h1 := zj1 r
 have h2 := zot (r.length - 1)
 unfold srcP
 simp only [List.length_append,List.length_cons,List.length_nil]
 omega
end Go.Proofs.YtfdklpkfpmkgeaaGreatDoor
end
section
namespace Go.Proofs.YtfdklpkfpmkgeaaGreatDoor
open Go Go.Vai
attribute [local irreducible] goTo zaq mkS
variable {C : Nat → Oracle} {o : Out}
theorem p22_c (hC : Ext C) {x_1 x_2 : Int} (ho : RL C 22 [] (mk0 14 [vi 0 x_1,vi 1 x_2]) = some o) : calL C 22 [(i6 x_1),(i6 x_2)] Hp.none 0 = some o := hC.call rfl (fun _ _ => by kernel_rfl) ho
theorem p22_0 {x_1 x_2 : Int} (ho : Tr.val C 22
(.br (decide (x_2 < 1))
(rt (i6 0))
(.br (decide (x_2 = 0)) .none
(.br (decide (x_2 = 0)) .none
(rt (i6 (Int.tmod (w64 ((Int.tmod x_1 x_2) + x_2)) x_2)))))) = some o) : RL C 22 [] (mk0 14 [vi 0 x_1,vi 1 x_2]) = some o := stR C 10 (fun _ _ => by kernel_rfl) ho


















end Go.Proofs.YtfdklpkfpmkgeaaGreatDoor
end
section
namespace Go.Proofs.YtfdklpkfpmkgeaaGreatDoor
open Go Go.Vai
attribute [local irreducible] goTo zaq mkS
def Was (x : Option Out) (Q : Out→Prop) : Prop := ∃ o,x = some o∧Q o
theorem exW {x y : Option Out} {Q : Out→Prop} (h : ∀ o,y = some o→x = some o) (e : Was y Q) : Was x Q:=by
 obtain ⟨o,h1,h2⟩ := e
 exact ⟨o,h o h1,h2⟩
theorem Was.mk {o : Out} {Q : Out→Prop} (h : Q o) : Was (some o) Q := ⟨o,rfl,h⟩
theorem Was.brn {c : Bool} {x y : Option Out} {Q : Out→Prop} (h : c = true) (e : Was x Q) : Was (Vai.br c x y) Q := by rw [br_t h]; exact e
theorem Was.brf {c : Bool} {x y : Option Out} {Q : Out→Prop} (h : c = false) (e : Was y Q) : Was (Vai.br c x y) Q := by rw [br_f h]; exact e
theorem Was.bT {p : Prop} [Decidable p] {x y : Option Out} {Q : Out→Prop} (h : p) (e : Was x Q) : Was (Vai.br (decide p) x y) Q := .brn (decide_eq_true h) e
theorem Was.bF {p : Prop} [Decidable p] {x y : Option Out} {Q : Out→Prop} (h : ¬ p) (e : Was y Q) : Was (Vai.br (decide p) x y) Q := .brf (decide_eq_false h) e
theorem Was.bL {a b : Nat} {x y : Option Out} {Q : Out→Prop} (h : a ≤ b) (e : Was x Q) : Was (Vai.br (Nat.ble a b) x y) Q := .brn (ble_t h) e
theorem Was.dec {p : Prop} [Decidable p] {x y : Option Out} {Q : Out→Prop} (h1 : p→Was x Q) (h2 : ¬ p→Was y Q) : Was (Vai.br (decide p) x y) Q:=by
 by_cases h : p
 ·exact .bT h (h1 h)
 ·exact .bF h (h2 h)
theorem Was.both {c : Bool} {x y : Option Out} {Q : Out→Prop} (h1 : c = true→Was x Q) (h2 : c = false→Was y Q) : Was (Vai.br c x y) Q:=by
 cases h : c
 ·exact h2 h
 ·exact h1 h
theorem Was.call {x : Option Out} {K : Out→Option Out} {Q1 Q : Out→Prop} (h : Was x Q1) (hK : ∀ o,Q1 o→Was (K o) Q) : Was (x.bind K) Q:=by
 obtain ⟨o,h1,h2⟩ := h
 rw [h1]
 exact hK o h2
def QI (k : Int) (o : Out) : Prop := ∃ x,o.v = .int .i64 x∧0 ≤ x∧x < k
variable {C : Nat→Oracle} (hC : Ext C)
include hC
theorem w22 (n k : Int) (h : 1 ≤ k) (h2 : k ≤ 1152921504606846976) : Was (calL C 22 [.int .i64 n,.int .i64 k] Hp.none 0) (QI k):=by
 refine exW (fun o=>p22_c hC) (exW (fun o=>p22_0) ?_)
 simp only [Tr.val]
 refine .bF (by omega) (.bF (by omega) (.bF (by omega) (.mk ⟨_,rfl,?_⟩)))
 have h3 := Int.tmod_lt_of_pos n (show 0 < k by omega)
 have h4 : -k < Int.tmod n k := by have := Int.lt_tmod_of_pos n (show 0 < k by omega); omega
 rw [zb9 (by omega) (by omega)]
 exact ⟨Int.tmod_nonneg _ (by omega),Int.tmod_lt_of_pos _ (by omega)⟩
end Go.Proofs.YtfdklpkfpmkgeaaGreatDoor
end
section
namespace Go.Proofs.YtfdklpkfpmkgeaaGreatDoor
open Go Go.Vai
def Ex.kind : Ex→Int | .mk k _ _ _ _ _=>k
def Ex.n : Ex→Int | .mk _ n _ _ _ _=>n
def Ex.s : Ex→List UInt8 | .mk _ _ s _ _ _=>s
def Ex.tg : Ex→Bool | .mk _ _ _ t _ _=>t
def Ex.l : Ex→List Ex | .mk _ _ _ _ l _=>l
def Ex.at_ : Ex→Int | .mk _ _ _ _ _ a=>a
def Ex.cs (e : Ex) : List AV := [.int .i64 e.kind,.int .i64 e.n,.str e.s,.vs 5 e.tg (exs e.l),.int .i64 e.at_]
theorem Ex.av_cs (e : Ex) : e.av = .agg e.cs := by cases e; rfl
def Stm.kind : Stm→Int | .mk k _ _ _ _ _ _ _=>k
def Stm.field : Stm→List UInt8 | .mk _ s _ _ _ _ _ _=>s
def Stm.value : Stm→List Ex | .mk _ _ v _ _ _ _ _=>v
def Stm.tgT : Stm→Bool | .mk _ _ _ t _ _ _ _=>t
def Stm.thn : Stm→List Stm | .mk _ _ _ _ l _ _ _=>l
def Stm.tgE : Stm→Bool | .mk _ _ _ _ _ t _ _=>t
def Stm.els : Stm→List Stm | .mk _ _ _ _ _ _ l _=>l
def Stm.at_ : Stm→Int | .mk _ _ _ _ _ _ _ a=>a
def Stm.cs (e : Stm) : List AV := [.int .i64 e.kind,.str e.field,.vs 5 true (exs e.value),.vs 6 e.tgT (stms e.thn),.vs 6 e.tgE (stms e.els),.int .i64 e.at_]
theorem Stm.av_cs (e : Stm) : e.av = .agg e.cs := by cases e; rfl
def Par.cs (x : Par) : List AV := [.str x.name,.int .i64 x.type,.int .i64 x.at_]
theorem Par.av_cs (x : Par) : x.av = .agg x.cs := rfl
def Fld.cs (x : Fld) : List AV := [.str x.name,.int .i64 x.kind,.int .i64 x.type,.int .i64 x.at_]
theorem Fld.av_cs (x : Fld) : x.av = .agg x.cs := rfl
def Idx.cs (x : Idx) : List AV := [.str x.field,.int .i64 x.at_]
def Opn.cs (x : Opn) : List AV := [.str x.name,.vs 3 x.tgP (x.params.map Par.av),.vs 6 x.tgB (stms x.body),.int .i64 x.at_]
theorem Opn.av_cs (x : Opn) : x.av = .agg x.cs := rfl
def Qry.cs (y : Qry) : List AV := [.str y.name,.vs 3 y.tgP (y.params.map Par.av),.int .i64 y.res.kind,.int .i64 y.res.n,.str y.res.s,.vs 5 y.res.tg (exs y.res.l),.int .i64 y.res.at_,.int .i64 y.at_]
theorem Qry.av_cs (y : Qry) : y.av = .agg y.cs := by obtain ⟨n,tg,ps,⟨k,m,s,t,l,q⟩,a⟩ := y; rfl
theorem Typ.av_cs (t : Typ) : t.av = .agg t.cs := rfl
structure Sc where
 t : Typ
 tg : Bool
 ps : List Par
 q : Bool
def Sc.cs (x : Sc) : List AV := [.str x.t.name,.vs 4 x.t.tgF (x.t.fields.map Fld.av),.vs 4 x.t.tgO (x.t.ops.map Opn.av),.vs 8 x.t.tgQ (x.t.qrys.map Qry.av),.vs 2 x.t.tgI (x.t.idxs.map Idx.av),.int .i64 x.t.at_,.vs 3 x.tg (x.ps.map Par.av),.bool x.q]
structure Dg where
 at_ : Int
 err : Int
def Dg.cs (d : Dg) : List AV := [.int .i64 d.at_,.int .i64 d.err]
def Dg.av (d : Dg) : AV := .agg d.cs
theorem Dg.av_cs (x : Dg) : x.av = .agg x.cs := rfl
def mkSM (n : Nat) (l : List (Nat × Slot)) (L : List (Nat × Blk)) (H : Hp) (nx : Nat) (M : List (Nat × List (AV × AV))) : St := { mkS n l L H nx with M := M }
theorem zan (l : List Ex) : (exs l).length = l.length := by rw [zoa,List.length_map]
theorem za2 (e : Ex) : zab e.cs = true := by have := zsd e; rw [e.av_cs] at this; exact this
theorem za6 (e : Stm) : zab e.cs = true := by have := zps e; rw [e.av_cs] at this; exact this
theorem za7 (e : Opn) : zab e.cs = true := by have := zib e; rw [e.av_cs] at this; exact this
theorem zgw (e : Fld) : zab e.cs = true := rfl
theorem zaa (w : Sc) : zab w.cs = true:=by
 have := zad w.t
 simp only [Typ.cs,zab,AV.pure] at this
 simp only [Sc.cs,zab,AV.pure,za5,zbi _ (fun x : Fld=>(rfl : x.av.pure = true)),zbi _ zib,zbi _ zl2,zbi _ (fun x : Idx=>(rfl : x.av.pure = true))]
theorem za8 (l : List Fld) : zab (l.map Fld.av) = true := zbi _ (fun _=>rfl) l
theorem zsb (l : List Idx) : zab (l.map Idx.av) = true := zbi _ (fun _=>rfl) l
theorem zr3 (l : List Opn) : zab (l.map Opn.av) = true := zbi _ zib l
theorem zso (l : List Qry) : zab (l.map Qry.av) = true := zbi _ zl2 l
theorem za9 (l : List Dg) : zab (l.map Dg.av) = true := zbi _ (fun _=>rfl) l
theorem zaf (l : List AV) : AV.cells (.agg l) = l := rfl
theorem zal {α : Type} (f : α→AV) (l : List α) (i : Nat) : nth (l.map f) i = l[i]?.map f := by rw [zcc,List.getElem?_map]
theorem zas (l : List Ex) (i : Nat) : nth (exs l) i = l[i]?.map Ex.av := by rw [zoa,zal]
end Go.Proofs.YtfdklpkfpmkgeaaGreatDoor
end
section
namespace Go.Proofs.YtfdklpkfpmkgeaaGreatDoor
open Go Go.Vai
attribute [local irreducible] goTo zaq mkS
variable {C : Nat → Oracle} {o : Out}
abbrev qN0 : List Nat := [0,5,0,0,5,2,3,0,5,0,6,5,0,2,0]
abbrev qN1 : List Nat := [0,5,0,0,5,7,5,0,5,0,5,0,0,5,0,5,6,0]
abbrev qN2 : List Nat := [0,5,0,0,5,2,0,5,7,0,5,7,0,5,7,0,5,7,0,5,7,5,5,0,0,5,0,5,7,5,0,0,5,7,5,0,5,0,5,0,0,5,2,3]
abbrev qN3 : List Nat := [0,5,0,0,5,7,5,0,5,0,5,0,0]
abbrev qN4 : List Nat := [0,5,0,0,5,7,5,0,5,0,5,0,0,5,0,5,7,5,0]
abbrev qN5 : List Nat := [0,5,0,0,5,7,5,0,5,0,5,0,0,5,0,5,6,0,5,0,5,6,5,0]
abbrev qN6 : List Nat := [0,5,0,0,5,7,5,0,5,0,5,0,0,5,0,5,6,0,5,0,5,7,5,0]
abbrev qN7 : List Nat := [0,5,0,0,5,2,0,5,7,0,5,7,0,5,7,0,5,7,0,5,7,5,5,0,0,5,0,5,6,0]
abbrev qN8 : List Nat := [0,5,0,0,5,2,0,5,7,0,5,7,0,5,7,0,5,7,0,5,7,5,5,0,0,5,0,5,7,5,0,0,5,6,0]
abbrev qN9 : List Nat := [0,5,0,0,5,2,3,0,5,0,7,5,5,5,5,0,5,0,0,5,6,0]
abbrev qN10 : List Nat := [0,5,0,0,5,2,3,0,5,0,7,5,5,5,5,0,5,0,0,5,7,5,0,0,5,2,0,5,7,0,0,5,7,5,7,0,5,7,5,5,0]
abbrev qN11 : List Nat := [0,5,0,0,5,2,0,5,7,0,5,7,0,5,7,0,5,7,0,5,6,0]
abbrev qN12 : List Nat := [0,5,0,0,5,2,0,5,7,0,5,7,0,5,7,0,5,7,0,5,7,5,5,0,0,5,0,5,7,5,0,0,5,7,5,0,5,0,5,0,0,5,2,3,0,5,0,6,5,0,2,0]
abbrev qN13 : List Nat := [0,5,0,0,5,2,0,5,7,0,5,7,0,5,7,0,5,7,0,5,7,5,5,0,0,5,0,5,7,5,0,0,5,7,5,0,5,0,5,0,0,5,2,3,0,5,0,7,5,5,5,5,0,0,5,7,5,0,0]
abbrev qN14 : List Nat := [0,5,0,0,5,2,0,5,7,0,5,7,0,5,7,0,5,7,0,5,7,5,5,0,0,5,0,5,7,5,0,0,5,7,5,0,5,0,5,0,0,5,2,3,0,5,0,6,5,0,2,0,5,0]
abbrev qN15 : List Nat := [0,5,0,0,5,2,0,5,7,0,5,7,0,5,7,0,5,7,0,5,7,5,5,0,0,5,0,5,7,5,0,0,5,7,5,0,5,0,5,0,0,5,2,3,0,5,0,7,5,5,5,5,0,0,5,7,5,0,0,5,0,5,7,5,0]
theorem p94_c (hC : Ext C) {t_1 : Typ} {s_2 : List UInt8} (ho : RL C 94 [] (mk0 22 [vv 0 (.agg (Typ.cs t_1)),vt 1 s_2]) = some o) : calL C 94 [(.agg (Typ.cs t_1)),(.str s_2)] Hp.none 0 = some o := hC.call rfl (fun _ _ => by kernel_rfl) ho
theorem p94_0 {t_1 : Typ} {s_2 : List UInt8} (ho : Tr.val C 94
(.run 0 [0,5,0,0,5,2,3] (mkS 22 [vt 1 s_2,(4,.lp 4 0),vv 9 (.vs 4 t_1.tgF (t_1.fields.map Fld.av)),vi 10 ((t_1.fields.map Fld.av).length : Int),vi 11 0] [(4,⟨[(.str []),(i6 0),(i6 0),(i6 0)],[]⟩)] Hp.none 0)) = some o) : RL C 94 [] (mk0 22 [vv 0 (.agg (Typ.cs t_1)),vt 1 s_2]) = some o := stR C 7 (fun _ _ => by kernel_rfl) ho
theorem p94_1 {s_3 s_8 : List UInt8} {tg_4 : Bool} {l_5 : List Fld} {x_6 x_7 x_9 x_10 x_11 : Int} (ho : Tr.val C 94
(.br (decide (x_7 < x_6))
(ix (l_5.map Fld.av) x_7 fun c1 =>
(.mid 0 qN0 1 (mkS 22 [vt 1 s_3,(4,.lp 4 0),vv 9 (.vs 4 tg_4 (l_5.map Fld.av)),vi 10 x_6,vi 11 x_7,vb 12 true,vv 13 (.cptr (AV.cells c1))] [(4,⟨[(.str s_8),(i6 x_9),(i6 x_10),(i6 x_11)],[]⟩)] Hp.none 0)))
(rt (.tuple [(.agg [(.str []),(i6 0),(i6 0),(i6 0)]),(.bool false)]))) = some o) : RL C 94 [0,5,0,0,5,2,3] (mkS 22 [vt 1 s_3,(4,.lp 4 0),vv 9 (.vs 4 tg_4 (l_5.map Fld.av)),vi 10 x_6,vi 11 x_7] [(4,⟨[(.str s_8),(i6 x_9),(i6 x_10),(i6 x_11)],[]⟩)] Hp.none 0) = some o := stR C 9 (fun _ _ => by kernel_rfl) ho
theorem p94_2 {s_3 s_8 : List UInt8} {tg_4 : Bool} {l_5 : List Fld} {x_6 x_7 x_9 x_10 x_11 : Int} {f_12 : Fld} (ho : Tr.val C 94
(.br (eqS f_12.name s_3)
(rt (.tuple [(.agg (Fld.cs f_12)),(.bool true)]))
(.run 0 [0,5,0,0,5,2,3] (mkS 22 [vt 1 s_3,(4,.lp 4 0),vv 9 (.vs 4 tg_4 (l_5.map Fld.av)),vi 10 x_6,vi 11 (w64 (x_7 + 1))] [(4,⟨[(.str s_8),(i6 x_9),(i6 x_10),(i6 x_11)],[]⟩)] Hp.none 0))) = some o) : ML C 94 qN0 1 (mkS 22 [vt 1 s_3,(4,.lp 4 0),vv 9 (.vs 4 tg_4 (l_5.map Fld.av)),vi 10 x_6,vi 11 x_7,vb 12 true,vv 13 (.cptr (Fld.cs f_12))] [(4,⟨[(.str s_8),(i6 x_9),(i6 x_10),(i6 x_11)],[]⟩)] Hp.none 0) = some o := stM C 7 (fun _ _ => by kernel_rfl) ho
theorem p99_c (hC : Ext C) {e_13 : Ex} {x_14 : Int} (ho : RL C 99 [] (mk0 11 [vv 0 (.agg (Ex.cs e_13)),vi 1 x_14]) = some o) : calL C 99 [(.agg (Ex.cs e_13)),(i6 x_14)] Hp.none 0 = some o := hC.call rfl (fun _ _ => by kernel_rfl) ho
theorem p99_0 {e_13 : Ex} {x_14 : Int} (ho : Tr.val C 99
(rt (.tuple [(i6 0),(.vs 2 true [(.agg [(i6 e_13.at_),(i6 x_14)])])])) = some o) : RL C 99 [] (mk0 11 [vv 0 (.agg (Ex.cs e_13)),vi 1 x_14]) = some o := stR C 5 (fun _ _ => by kernel_rfl) ho
theorem p101_c (hC : Ext C) {s_15 : List UInt8} {tg_16 : Bool} {l_17 : List AV} (ho : RL C 101 [] (mk0 59 [vt 0 s_15,vv 1 (.vs 1 tg_16 l_17)]) = some o) : calL C 101 [(.str s_15),(.vs 1 tg_16 l_17)] Hp.none 0 = some o := hC.call rfl (fun _ _ => by kernel_rfl) ho
theorem p101_0 {s_15 : List UInt8} {tg_16 : Bool} {l_17 : List AV} (ho : Tr.val C 101
(.br (decide (0 < (l_17.length : Int)))
(.bind (nth l_17 0) fun c1 =>
(.mid 0 [0,5,0] 2 (mk0 59 [vt 0 s_15,vv 1 (.vs 1 tg_16 l_17),vv 9 (.vs 1 tg_16 l_17),vv 10 (.cptr (AV.cells c1))]))) .none) = some o) : RL C 101 [] (mk0 59 [vt 0 s_15,vv 1 (.vs 1 tg_16 l_17)]) = some o := stR C 4 (fun _ _ => by kernel_rfl) ho
theorem p101_1 {s_15 : List UInt8} {tg_16 : Bool} {l_17 : List AV} {x_18 : Int} (ho : Tr.val C 101
(ix l_17 (w64 ((l_17.length : Int) - 1)) fun c2 =>
(.mid 0 [0,5,0] 8 (mk0 59 [vt 0 s_15,vv 1 (.vs 1 tg_16 l_17),vv 9 (.vs 1 tg_16 l_17),vv 10 (.cptr [(i6 x_18)]),vi 11 x_18,vv 12 (.vs 1 tg_16 l_17),vv 13 (.vs 1 tg_16 l_17),vi 14 (l_17.length : Int),vi 15 (w64 ((l_17.length : Int) - 1)),vv 16 (.cptr (AV.cells c2))]))) = some o) : ML C 101 [0,5,0] 2 (mk0 59 [vt 0 s_15,vv 1 (.vs 1 tg_16 l_17),vv 9 (.vs 1 tg_16 l_17),vv 10 (.cptr [(i6 x_18)])]) = some o := stM C 0 (fun _ _ => by kernel_rfl) ho
theorem p101_2 {s_15 : List UInt8} {tg_16 : Bool} {l_17 : List AV} {x_18 x_19 x_20 x_21 : Int} (ho : Tr.val C 101
(.br (decide (x_18 = 1))
(.br (decide (x_18 = 3))
(.br (eqS s_15 [43])
(.br (decide (x_19 = 1))
(rt (i6 1))
(rt (i6 0)))
(.br (eqS s_15 [45])
(.br (decide (x_19 = 1))
(rt (i6 1))
(rt (i6 0)))
(.br (eqS s_15 [42])
(.br (decide (x_19 = 1))
(rt (i6 1))
(rt (i6 0)))
(.br (eqS s_15 [33])
(.br (decide (x_19 = 3))
(rt (i6 3))
(rt (i6 0)))
(.br (eqS s_15 [38,38])
(.br (decide (x_19 = 3))
(rt (i6 3))
(rt (i6 0)))
(.br (eqS s_15 [124,124])
(.br (decide (x_19 = 3))
(rt (i6 3))
(rt (i6 0)))
(.br (eqS s_15 [61,61])
(.br (decide (x_18 = x_19))
(rt (i6 3))
(rt (i6 0)))
(.br (eqS s_15 [33,61])
(.br (decide (x_18 = x_19))
(rt (i6 3))
(rt (i6 0)))
(.br (eqS s_15 [60])
(.br (decide (x_18 = x_19))
(.br (!(decide (x_19 = 3)))
(rt (i6 3))
(rt (i6 0)))
(rt (i6 0)))
(.br (eqS s_15 [60,61])
(.br (decide (x_18 = x_19))
(.br (!(decide (x_19 = 3)))
(rt (i6 3))
(rt (i6 0)))
(rt (i6 0)))
(.br (eqS s_15 [62])
(.br (decide (x_18 = x_19))
(.br (!(decide (x_19 = 3)))
(rt (i6 3))
(rt (i6 0)))
(rt (i6 0)))
(.br (eqS s_15 [62,61])
(.br (decide (x_18 = x_19))
(.br (!(decide (x_19 = 3)))
(rt (i6 3))
(rt (i6 0)))
(rt (i6 0)))
(rt (i6 0))))))))))))))
(.br (eqS s_15 [43])
(.br (decide (x_19 = 1))
(rt (i6 1))
(rt (i6 0)))
(.br (eqS s_15 [45])
(.br (decide (x_19 = 1))
(rt (i6 1))
(rt (i6 0)))
(.br (eqS s_15 [42])
(.br (decide (x_19 = 1))
(rt (i6 1))
(rt (i6 0)))
(.br (eqS s_15 [33])
(rt (i6 0))
(.br (eqS s_15 [38,38])
(rt (i6 0))
(.br (eqS s_15 [124,124])
(rt (i6 0))
(.br (eqS s_15 [61,61])
(.br (decide (x_18 = x_19))
(rt (i6 3))
(rt (i6 0)))
(.br (eqS s_15 [33,61])
(.br (decide (x_18 = x_19))
(rt (i6 3))
(rt (i6 0)))
(.br (eqS s_15 [60])
(.br (decide (x_18 = x_19))
(rt (i6 3))
(rt (i6 0)))
(.br (eqS s_15 [60,61])
(.br (decide (x_18 = x_19))
(rt (i6 3))
(rt (i6 0)))
(.br (eqS s_15 [62])
(.br (decide (x_18 = x_19))
(rt (i6 3))
(rt (i6 0)))
(.br (eqS s_15 [62,61])
(.br (decide (x_18 = x_19))
(rt (i6 3))
(rt (i6 0)))
(rt (i6 0)))))))))))))))
(.br (decide (x_18 = 3))
(.br (eqS s_15 [43])
(rt (i6 0))
(.br (eqS s_15 [45])
(rt (i6 0))
(.br (eqS s_15 [42])
(rt (i6 0))
(.br (eqS s_15 [33])
(.br (decide (x_19 = 3))
(rt (i6 3))
(rt (i6 0)))
(.br (eqS s_15 [38,38])
(.br (decide (x_19 = 3))
(rt (i6 3))
(rt (i6 0)))
(.br (eqS s_15 [124,124])
(.br (decide (x_19 = 3))
(rt (i6 3))
(rt (i6 0)))
(.br (eqS s_15 [61,61])
(.br (decide (x_18 = x_19))
(rt (i6 3))
(rt (i6 0)))
(.br (eqS s_15 [33,61])
(.br (decide (x_18 = x_19))
(rt (i6 3))
(rt (i6 0)))
(.br (eqS s_15 [60])
(.br (decide (x_18 = x_19))
(.br (!(decide (x_19 = 3)))
(rt (i6 3))
(rt (i6 0)))
(rt (i6 0)))
(.br (eqS s_15 [60,61])
(.br (decide (x_18 = x_19))
(.br (!(decide (x_19 = 3)))
(rt (i6 3))
(rt (i6 0)))
(rt (i6 0)))
(.br (eqS s_15 [62])
(.br (decide (x_18 = x_19))
(.br (!(decide (x_19 = 3)))
(rt (i6 3))
(rt (i6 0)))
(rt (i6 0)))
(.br (eqS s_15 [62,61])
(.br (decide (x_18 = x_19))
(.br (!(decide (x_19 = 3)))
(rt (i6 3))
(rt (i6 0)))
(rt (i6 0)))
(rt (i6 0))))))))))))))
(.br (eqS s_15 [43])
(rt (i6 0))
(.br (eqS s_15 [45])
(rt (i6 0))
(.br (eqS s_15 [42])
(rt (i6 0))
(.br (eqS s_15 [33])
(rt (i6 0))
(.br (eqS s_15 [38,38])
(rt (i6 0))
(.br (eqS s_15 [124,124])
(rt (i6 0))
(.br (eqS s_15 [61,61])
(.br (decide (x_18 = x_19))
(rt (i6 3))
(rt (i6 0)))
(.br (eqS s_15 [33,61])
(.br (decide (x_18 = x_19))
(rt (i6 3))
(rt (i6 0)))
(.br (eqS s_15 [60])
(.br (decide (x_18 = x_19))
(rt (i6 3))
(rt (i6 0)))
(.br (eqS s_15 [60,61])
(.br (decide (x_18 = x_19))
(rt (i6 3))
(rt (i6 0)))
(.br (eqS s_15 [62])
(.br (decide (x_18 = x_19))
(rt (i6 3))
(rt (i6 0)))
(.br (eqS s_15 [62,61])
(.br (decide (x_18 = x_19))
(rt (i6 3))
(rt (i6 0)))
(rt (i6 0)))))))))))))))) = some o) : ML C 101 [0,5,0] 8 (mk0 59 [vt 0 s_15,vv 1 (.vs 1 tg_16 l_17),vv 9 (.vs 1 tg_16 l_17),vv 10 (.cptr [(i6 x_18)]),vi 11 x_18,vv 12 (.vs 1 tg_16 l_17),vv 13 (.vs 1 tg_16 l_17),vi 14 x_20,vi 15 x_21,vv 16 (.cptr [(i6 x_19)])]) = some o := stM C 50 (fun _ _ => by kernel_rfl) ho
theorem p164_c (hC : Ext C) {w_22 : Sc} {s_23 : List UInt8} (ho : RL C 164 [] (mk0 31 [vv 0 (.agg (Sc.cs w_22)),vt 1 s_23]) = some o) : calL C 164 [(.agg (Sc.cs w_22)),(.str s_23)] Hp.none 0 = some o := hC.call rfl (fun _ _ => by kernel_rfl) ho
theorem p164_0 {w_22 : Sc} {s_23 : List UInt8} (ho : Tr.val C 164
(.run 0 [0,5,0,0,5,2,3] (mkS 31 [vt 1 s_23,(2,.lp 2 0),(4,.lp 4 0),vv 9 (.vs 3 w_22.tg (w_22.ps.map Par.av)),vi 10 ((w_22.ps.map Par.av).length : Int),vi 11 0] [(2,⟨(Sc.cs w_22),[]⟩),(4,⟨[(.str []),(i6 0),(i6 0),(i6 0)],[]⟩)] Hp.none 0)) = some o) : RL C 164 [] (mk0 31 [vv 0 (.agg (Sc.cs w_22)),vt 1 s_23]) = some o := stR C 7 (fun _ _ => by kernel_rfl) ho
theorem p164_1 {s_24 s_30 : List UInt8} {tg_25 : Bool} {l_26 : List Par} {x_27 x_28 x_31 x_32 x_33 : Int} {w_29 : Sc} (ho : Tr.val C 164
(.br (decide (x_28 < x_27))
(ix (l_26.map Par.av) x_28 fun c1 =>
(.mid 3 qN0 1 (mkS 31 [vt 1 s_24,(2,.lp 2 0),(4,.lp 4 0),vv 9 (.vs 3 tg_25 (l_26.map Par.av)),vi 10 x_27,vi 11 x_28,vb 12 true,vv 13 (.cptr (AV.cells c1))] [(2,⟨(Sc.cs w_29),[]⟩),(4,⟨[(.str s_30),(i6 x_31),(i6 x_32),(i6 x_33)],[]⟩)] Hp.none 0)))
(.br (!w_29.q)
(rt (.tuple [(.agg [(.str []),(i6 0),(i6 0),(i6 0)]),(.bool false)]))
(cl0 94 [(.agg (Typ.cs w_29.t)),(.str s_24)] fun r2 => .br (AV.pure r2.v)
(.mid 0 [0,5,0,0,5,2,3,0,5,0,7,5,5,5,5,0,0,5,7,5,0] 4 (mkS 31 [vt 1 s_24,(2,.lp 2 0),(4,.lp 4 0),vb 23 false,(25,.lp 2 0),vv 26 (.agg (Typ.cs w_29.t)),vt 27 s_24,vv 28 r2.v] [(2,⟨(Sc.cs w_29),[]⟩),(4,⟨[(.str s_30),(i6 x_31),(i6 x_32),(i6 x_33)],[]⟩)] Hp.none 0)) .none))) = some o) : RL C 164 [0,5,0,0,5,2,3] (mkS 31 [vt 1 s_24,(2,.lp 2 0),(4,.lp 4 0),vv 9 (.vs 3 tg_25 (l_26.map Par.av)),vi 10 x_27,vi 11 x_28] [(2,⟨(Sc.cs w_29),[]⟩),(4,⟨[(.str s_30),(i6 x_31),(i6 x_32),(i6 x_33)],[]⟩)] Hp.none 0) = some o := stR C 12 (fun _ _ => by kernel_rfl) ho
theorem p164_2 {s_24 s_30 : List UInt8} {tg_25 : Bool} {l_26 : List Par} {x_27 x_28 x_31 x_32 x_33 : Int} {w_29 : Sc} {p_34 : Par} (ho : Tr.val C 164
(.br (eqS p_34.name s_24)
(rt (.tuple [(.agg [(.str []),(i6 0),(i6 0),(i6 0)]),(.bool false)]))
(.run 0 [0,5,0,0,5,2,3] (mkS 31 [vt 1 s_24,(2,.lp 2 0),(4,.lp 4 0),vv 9 (.vs 3 tg_25 (l_26.map Par.av)),vi 10 x_27,vi 11 (w64 (x_28 + 1))] [(2,⟨(Sc.cs w_29),[]⟩),(4,⟨[(.str s_30),(i6 x_31),(i6 x_32),(i6 x_33)],[]⟩)] Hp.none 0))) = some o) : ML C 164 qN0 1 (mkS 31 [vt 1 s_24,(2,.lp 2 0),(4,.lp 4 0),vv 9 (.vs 3 tg_25 (l_26.map Par.av)),vi 10 x_27,vi 11 x_28,vb 12 true,vv 13 (.cptr (Par.cs p_34))] [(2,⟨(Sc.cs w_29),[]⟩),(4,⟨[(.str s_30),(i6 x_31),(i6 x_32),(i6 x_33)],[]⟩)] Hp.none 0) = some o := stM C 7 (fun _ _ => by kernel_rfl) ho
theorem p164_3 {s_24 s_30 : List UInt8} {w_29 : Sc} {x_31 x_32 x_33 : Int} {f_35 : Fld} {c_36 : Bool} (ho : Tr.val C 164
(rt (.tuple [(.agg (Fld.cs f_35)),(.bool c_36)])) = some o) : ML C 164 [0,5,0,0,5,2,3,0,5,0,7,5,5,5,5,0,0,5,7,5,0] 4 (mkS 31 [vt 1 s_24,(2,.lp 2 0),(4,.lp 4 0),vb 23 false,(25,.lp 2 0),vv 26 (.agg (Typ.cs w_29.t)),vt 27 s_24,vv 28 (.tuple [(.agg (Fld.cs f_35)),(.bool c_36)])] [(2,⟨(Sc.cs w_29),[]⟩),(4,⟨[(.str s_30),(i6 x_31),(i6 x_32),(i6 x_33)],[]⟩)] Hp.none 0) = some o := stM C 1 (fun _ _ => by kernel_rfl) ho
theorem p97_c (hC : Ext C) {w_37 : Sc} {e_38 : Ex} (ho : RL C 97 [] (mk0 53 [vv 0 (.agg (Sc.cs w_37)),vv 1 (.agg (Ex.cs e_38))]) = some o) : calL C 97 [(.agg (Sc.cs w_37)),(.agg (Ex.cs e_38))] Hp.none 0 = some o := hC.call rfl (fun _ _ => by kernel_rfl) ho
theorem p97_0 {w_37 : Sc} {e_38 : Ex} (ho : Tr.val C 97
(.run 0 [0,5,0,0,5,2,3] (mkS 53 [(2,.lp 2 0),(3,.lp 3 0),vv 11 (.vs 3 w_37.tg (w_37.ps.map Par.av)),vi 12 ((w_37.ps.map Par.av).length : Int),vi 13 0] [(2,⟨(Sc.cs w_37),[]⟩),(3,⟨(Ex.cs e_38),[]⟩)] Hp.none 0)) = some o) : RL C 97 [] (mk0 53 [vv 0 (.agg (Sc.cs w_37)),vv 1 (.agg (Ex.cs e_38))]) = some o := stR C 7 (fun _ _ => by kernel_rfl) ho
theorem p97_1 {tg_39 : Bool} {l_40 : List Par} {x_41 x_42 : Int} {w_43 : Sc} {e_44 : Ex} (ho : Tr.val C 97
(.br (decide (x_42 < x_41))
(ix (l_40.map Par.av) x_42 fun c1 =>
(.mid 0 qN0 1 (mkS 53 [(2,.lp 2 0),(3,.lp 3 0),vv 11 (.vs 3 tg_39 (l_40.map Par.av)),vi 12 x_41,vi 13 x_42,vb 14 true,vv 15 (.cptr (AV.cells c1))] [(2,⟨(Sc.cs w_43),[]⟩),(3,⟨(Ex.cs e_44),[]⟩)] Hp.none 0)))
(cl0 164 [(.agg (Sc.cs w_43)),(.str e_44.s)] fun r2 => .br (AV.pure r2.v)
(.mid 2 [0,5,0,0,5,2,3,0,5,0,7,5,5,5,5,0] 4 (mkS 53 [(2,.lp 2 0),(3,.lp 3 0),vv 11 (.vs 3 tg_39 (l_40.map Par.av)),vi 12 x_41,vi 13 x_42,vb 14 false,vv 26 (.agg (Sc.cs w_43)),(27,.lp 3 2),vt 28 e_44.s,vv 29 r2.v] [(2,⟨(Sc.cs w_43),[]⟩),(3,⟨(Ex.cs e_44),[]⟩)] Hp.none 0)) .none)) = some o) : RL C 97 [0,5,0,0,5,2,3] (mkS 53 [(2,.lp 2 0),(3,.lp 3 0),vv 11 (.vs 3 tg_39 (l_40.map Par.av)),vi 12 x_41,vi 13 x_42] [(2,⟨(Sc.cs w_43),[]⟩),(3,⟨(Ex.cs e_44),[]⟩)] Hp.none 0) = some o := stR C 9 (fun _ _ => by kernel_rfl) ho
theorem p97_2 {tg_39 : Bool} {l_40 : List Par} {x_41 x_42 : Int} {w_43 : Sc} {e_44 : Ex} {p_45 : Par} (ho : Tr.val C 97
(.br (eqS p_45.name e_44.s)
(rt (.tuple [(i6 p_45.type),(.vs 2 true [])]))
(.run 0 [0,5,0,0,5,2,3] (mkS 53 [(2,.lp 2 0),(3,.lp 3 0),vv 11 (.vs 3 tg_39 (l_40.map Par.av)),vi 12 x_41,vi 13 (w64 (x_42 + 1))] [(2,⟨(Sc.cs w_43),[]⟩),(3,⟨(Ex.cs e_44),[]⟩)] Hp.none 0))) = some o) : ML C 97 qN0 1 (mkS 53 [(2,.lp 2 0),(3,.lp 3 0),vv 11 (.vs 3 tg_39 (l_40.map Par.av)),vi 12 x_41,vi 13 x_42,vb 14 true,vv 15 (.cptr (Par.cs p_45))] [(2,⟨(Sc.cs w_43),[]⟩),(3,⟨(Ex.cs e_44),[]⟩)] Hp.none 0) = some o := stM C 7 (fun _ _ => by kernel_rfl) ho
theorem p97_3 {tg_39 c_47 : Bool} {l_40 : List Par} {x_41 x_42 : Int} {w_43 : Sc} {e_44 : Ex} {f_46 : Fld} (ho : Tr.val C 97
(.br (!c_47)
(cl0 99 [(.agg (Ex.cs e_44)),(i6 6)] fun r3 => .br (AV.pure r3.v)
(.mid 19 qN9 2 (mkS 53 [(3,.lp 3 0),(8,.lp 8 0),vb 33 true,vv 34 (.agg (Ex.cs e_44)),(35,.val r3.v (.comps [1]))] [(3,⟨(Ex.cs e_44),[]⟩),(8,⟨(Fld.cs f_46),[]⟩)] Hp.none 0)) .none)
(.br (decide (f_46.kind = 1))
(rt (.tuple [(i6 f_46.type),(.vs 2 true [])]))
(.br (decide (f_46.kind = 2))
(rt (.tuple [(i6 1),(.vs 2 true [])]))
(.br (decide (f_46.kind = 3))
(rt (.tuple [(i6 1),(.vs 2 true [])]))
(.br (decide (f_46.kind = 5))
(rt (.tuple [(i6 3),(.vs 2 true [])]))
(cl0 99 [(.agg (Ex.cs e_44)),(i6 12)] fun r4 => .br (AV.pure r4.v)
(.mid 0 qN10 2 (mkS 53 [(3,.lp 3 0),vb 47 false,vv 49 (.agg (Ex.cs e_44)),(50,.val r4.v (.comps [1]))] [(3,⟨(Ex.cs e_44),[]⟩)] Hp.none 0)) .none)))))) = some o) : ML C 97 [0,5,0,0,5,2,3,0,5,0,7,5,5,5,5,0] 4 (mkS 53 [(2,.lp 2 0),(3,.lp 3 0),vv 11 (.vs 3 tg_39 (l_40.map Par.av)),vi 12 x_41,vi 13 x_42,vb 14 false,vv 26 (.agg (Sc.cs w_43)),(27,.lp 3 2),vt 28 e_44.s,vv 29 (.tuple [(.agg (Fld.cs f_46)),(.bool c_47)])] [(2,⟨(Sc.cs w_43),[]⟩),(3,⟨(Ex.cs e_44),[]⟩)] Hp.none 0) = some o := stM C 25 (fun _ _ => by kernel_rfl) ho
theorem p97_4 {e_44 : Ex} {f_46 : Fld} {x_48 : Int} {tg_49 : Bool} {l_50 : List Dg} (ho : Tr.val C 97
(rt (.tuple [(i6 x_48),(.vs 2 tg_49 (l_50.map Dg.av))])) = some o) : ML C 97 qN9 2 (mkS 53 [(3,.lp 3 0),(8,.lp 8 0),vb 33 true,vv 34 (.agg (Ex.cs e_44)),(35,.val (.tuple [(i6 x_48),(.vs 2 tg_49 (l_50.map Dg.av))]) (.comps [1]))] [(3,⟨(Ex.cs e_44),[]⟩),(8,⟨(Fld.cs f_46),[]⟩)] Hp.none 0) = some o := stM C 1 (fun _ _ => by kernel_rfl) ho
theorem p97_5 {e_44 : Ex} {x_51 : Int} {tg_52 : Bool} {l_53 : List Dg} (ho : Tr.val C 97
(rt (.tuple [(i6 x_51),(.vs 2 tg_52 (l_53.map Dg.av))])) = some o) : ML C 97 qN10 2 (mkS 53 [(3,.lp 3 0),vb 47 false,vv 49 (.agg (Ex.cs e_44)),(50,.val (.tuple [(i6 x_51),(.vs 2 tg_52 (l_53.map Dg.av))]) (.comps [1]))] [(3,⟨(Ex.cs e_44),[]⟩)] Hp.none 0) = some o := stM C 1 (fun _ _ => by kernel_rfl) ho
theorem p98_c (hC : Ext C) {w_54 : Sc} {e_55 : Ex} (ho : RL C 98 [] (mk0 39 [vv 0 (.agg (Sc.cs w_54)),vv 1 (.agg (Ex.cs e_55))]) = some o) : calL C 98 [(.agg (Sc.cs w_54)),(.agg (Ex.cs e_55))] Hp.none 0 = some o := hC.call rfl (fun _ _ => by kernel_rfl) ho
theorem p98_0 {w_54 : Sc} {e_55 : Ex} (ho : Tr.val C 98
(cl0 94 [(.agg (Typ.cs w_54.t)),(.str e_55.s)] fun r1 => .br (AV.pure r1.v)
(.mid 0 [0,5,0] 5 (mkS 39 [(2,.lp 2 0),(3,.lp 3 0),(9,.lp 2 0),vv 10 (.agg (Typ.cs w_54.t)),(11,.lp 3 2),vt 12 e_55.s,vv 13 r1.v] [(2,⟨(Sc.cs w_54),[]⟩),(3,⟨(Ex.cs e_55),[]⟩)] Hp.none 0)) .none) = some o) : RL C 98 [] (mk0 39 [vv 0 (.agg (Sc.cs w_54)),vv 1 (.agg (Ex.cs e_55))]) = some o := stR C 4 (fun _ _ => by kernel_rfl) ho
theorem p98_1 {w_54 : Sc} {e_55 : Ex} {f_56 : Fld} {c_57 : Bool} (ho : Tr.val C 98
(.br (!w_54.q)
(cl0 99 [(.agg (Ex.cs e_55)),(i6 10)] fun r2 => .br (AV.pure r2.v)
(.mid 9 [0,5,0,5,0,2,0,5,6,0] 2 (mkS 39 [(3,.lp 3 0),(6,.lp 6 0),vb 7 c_57,vb 16 true,vv 20 (.agg (Ex.cs e_55)),(21,.val r2.v (.comps [1]))] [(3,⟨(Ex.cs e_55),[]⟩),(6,⟨(Fld.cs f_56),[]⟩)] Hp.none 0)) .none)
(.br (!c_57)
(cl0 99 [(.agg (Ex.cs e_55)),(i6 6)] fun r3 => .br (AV.pure r3.v)
(.mid 6 [0,5,0,5,0,2,0,5,7,0,5,6,0] 2 (mkS 39 [(3,.lp 3 0),(6,.lp 6 0),vb 24 true,vv 27 (.agg (Ex.cs e_55)),(28,.val r3.v (.comps [1]))] [(3,⟨(Ex.cs e_55),[]⟩),(6,⟨(Fld.cs f_56),[]⟩)] Hp.none 0)) .none)
(.br (!(decide (f_56.kind = 4)))
(cl0 99 [(.agg (Ex.cs e_55)),(i6 12)] fun r4 => .br (AV.pure r4.v)
(.mid 3 [0,5,0,5,0,2,0,5,7,0,5,7,0,5,6,0] 2 (mkS 39 [(3,.lp 3 0),vb 31 true,vv 35 (.agg (Ex.cs e_55)),(36,.val r4.v (.comps [1]))] [(3,⟨(Ex.cs e_55),[]⟩)] Hp.none 0)) .none)
(rt (.tuple [(i6 1),(.vs 2 true [])]))))) = some o) : ML C 98 [0,5,0] 5 (mkS 39 [(2,.lp 2 0),(3,.lp 3 0),(9,.lp 2 0),vv 10 (.agg (Typ.cs w_54.t)),(11,.lp 3 2),vt 12 e_55.s,vv 13 (.tuple [(.agg (Fld.cs f_56)),(.bool c_57)])] [(2,⟨(Sc.cs w_54),[]⟩),(3,⟨(Ex.cs e_55),[]⟩)] Hp.none 0) = some o := stM C 16 (fun _ _ => by kernel_rfl) ho
theorem p98_2 {e_55 : Ex} {f_56 : Fld} {c_57 tg_59 : Bool} {x_58 : Int} {l_60 : List Dg} (ho : Tr.val C 98
(rt (.tuple [(i6 x_58),(.vs 2 tg_59 (l_60.map Dg.av))])) = some o) : ML C 98 [0,5,0,5,0,2,0,5,6,0] 2 (mkS 39 [(3,.lp 3 0),(6,.lp 6 0),vb 7 c_57,vb 16 true,vv 20 (.agg (Ex.cs e_55)),(21,.val (.tuple [(i6 x_58),(.vs 2 tg_59 (l_60.map Dg.av))]) (.comps [1]))] [(3,⟨(Ex.cs e_55),[]⟩),(6,⟨(Fld.cs f_56),[]⟩)] Hp.none 0) = some o := stM C 1 (fun _ _ => by kernel_rfl) ho
theorem p98_3 {e_55 : Ex} {f_56 : Fld} {x_61 : Int} {tg_62 : Bool} {l_63 : List Dg} (ho : Tr.val C 98
(rt (.tuple [(i6 x_61),(.vs 2 tg_62 (l_63.map Dg.av))])) = some o) : ML C 98 [0,5,0,5,0,2,0,5,7,0,5,6,0] 2 (mkS 39 [(3,.lp 3 0),(6,.lp 6 0),vb 24 true,vv 27 (.agg (Ex.cs e_55)),(28,.val (.tuple [(i6 x_61),(.vs 2 tg_62 (l_63.map Dg.av))]) (.comps [1]))] [(3,⟨(Ex.cs e_55),[]⟩),(6,⟨(Fld.cs f_56),[]⟩)] Hp.none 0) = some o := stM C 1 (fun _ _ => by kernel_rfl) ho
theorem p98_4 {e_55 : Ex} {x_64 : Int} {tg_65 : Bool} {l_66 : List Dg} (ho : Tr.val C 98
(rt (.tuple [(i6 x_64),(.vs 2 tg_65 (l_66.map Dg.av))])) = some o) : ML C 98 [0,5,0,5,0,2,0,5,7,0,5,7,0,5,6,0] 2 (mkS 39 [(3,.lp 3 0),vb 31 true,vv 35 (.agg (Ex.cs e_55)),(36,.val (.tuple [(i6 x_64),(.vs 2 tg_65 (l_66.map Dg.av))]) (.comps [1]))] [(3,⟨(Ex.cs e_55),[]⟩)] Hp.none 0) = some o := stM C 1 (fun _ _ => by kernel_rfl) ho
theorem p100_c (hC : Ext C) {w_67 : Sc} {e_68 : Ex} (ho : RL C 100 [] (mk0 93 [vv 0 (.agg (Sc.cs w_67)),vv 1 (.agg (Ex.cs e_68))]) = some o) : calL C 100 [(.agg (Sc.cs w_67)),(.agg (Ex.cs e_68))] Hp.none 0 = some o := hC.call rfl (fun _ _ => by kernel_rfl) ho
theorem p100_0 {w_67 : Sc} {e_68 : Ex} (ho : Tr.val C 100
(.br (!w_67.q)
(cl0 99 [(.agg (Ex.cs e_68)),(i6 10)] fun r1 => .br (AV.pure r1.v)
(.mid 6 [0,5,0,0,5,6,0] 2 (mkS 93 [(2,.lp 2 0),(3,.lp 3 0),vb 14 true,vv 15 (.agg (Ex.cs e_68)),(16,.val r1.v (.comps [1]))] [(2,⟨(Sc.cs w_67),[]⟩),(3,⟨(Ex.cs e_68),[]⟩)] Hp.none 0)) .none)
(.br (decide (0 < ((exs e_68.l).length : Int)))
(.bind (nth (exs e_68.l) 0) fun c2 =>
(.mid 0 qN3 4 (mkS 93 [(2,.lp 2 0),(3,.lp 3 0),(6,.val (.vs 2 true []) .own),vb 7 false,vv 20 (.agg (Sc.cs w_67)),(21,.lp 3 3),vv 22 (.vs 5 e_68.tg (exs e_68.l)),vv 23 (.cptr (AV.cells c2))] [(2,⟨(Sc.cs w_67),[]⟩),(3,⟨(Ex.cs e_68),[]⟩)] Hp.none 0))) .none)) = some o) : RL C 100 [] (mk0 93 [vv 0 (.agg (Sc.cs w_67)),vv 1 (.agg (Ex.cs e_68))]) = some o := stR C 14 (fun _ _ => by kernel_rfl) ho
theorem p100_1 {w_67 : Sc} {e_68 : Ex} {x_69 : Int} {tg_70 : Bool} {l_71 : List Dg} (ho : Tr.val C 100
(rt (.tuple [(i6 x_69),(.vs 2 tg_70 (l_71.map Dg.av))])) = some o) : ML C 100 [0,5,0,0,5,6,0] 2 (mkS 93 [(2,.lp 2 0),(3,.lp 3 0),vb 14 true,vv 15 (.agg (Ex.cs e_68)),(16,.val (.tuple [(i6 x_69),(.vs 2 tg_70 (l_71.map Dg.av))]) (.comps [1]))] [(2,⟨(Sc.cs w_67),[]⟩),(3,⟨(Ex.cs e_68),[]⟩)] Hp.none 0) = some o := stM C 1 (fun _ _ => by kernel_rfl) ho
theorem p100_2 {w_67 : Sc} {e_68 e_72 : Ex} (ho : Tr.val C 100
(.br (zab [(.agg (Sc.cs w_67)),(.str e_72.s)])
(cl0 164 [(.agg (Sc.cs w_67)),(.str e_72.s)] fun r3 => .br (AV.pure r3.v)
(.br (AV.pure r3.v)
(.mid 0 qN3 7 (mkS 93 [(2,.lp 2 0),(3,.lp 3 0),(6,.val (.vs 2 true []) .own),vb 7 false,vv 20 (.agg (Sc.cs w_67)),(21,.lp 3 3),vv 22 (.vs 5 e_68.tg (exs e_68.l)),vv 23 (.cptr (Ex.cs e_72)),vv 24 (.cptr [(.str e_72.s),(.vs 5 e_72.tg (exs e_72.l)),(i6 e_72.at_)]),vt 25 e_72.s,vv 26 r3.v] [(2,⟨(Sc.cs w_67),[]⟩),(3,⟨(Ex.cs e_68),[]⟩)] Hp.none 0)) .none) .none) .none) = some o) : ML C 100 qN3 4 (mkS 93 [(2,.lp 2 0),(3,.lp 3 0),(6,.val (.vs 2 true []) .own),vb 7 false,vv 20 (.agg (Sc.cs w_67)),(21,.lp 3 3),vv 22 (.vs 5 e_68.tg (exs e_68.l)),vv 23 (.cptr (Ex.cs e_72))] [(2,⟨(Sc.cs w_67),[]⟩),(3,⟨(Ex.cs e_68),[]⟩)] Hp.none 0) = some o := stM C 0 (fun _ _ => by kernel_rfl) ho
theorem p100_3 {w_67 : Sc} {e_68 e_72 : Ex} {f_73 : Fld} {c_74 : Bool} (ho : Tr.val C 100
(.br (decide (0 < ((exs e_68.l).length : Int)))
(.bind (nth (exs e_68.l) 0) fun c4 =>
(.mid 0 [0,5,0,0,5,7,5,0,5,0,5,0,0,5,0] 3 (mkS 93 [(2,.lp 2 0),(3,.lp 3 0),(6,.val (.vs 2 true []) .own),vb 7 false,(8,.lp 8 0),vb 9 c_74,(29,.lp 3 3),vv 30 (.vs 5 e_68.tg (exs e_68.l)),vv 31 (.cptr (AV.cells c4))] [(2,⟨(Sc.cs w_67),[]⟩),(3,⟨(Ex.cs e_68),[]⟩),(8,⟨(Fld.cs f_73),[]⟩)] Hp.none 0))) .none) = some o) : ML C 100 qN3 7 (mkS 93 [(2,.lp 2 0),(3,.lp 3 0),(6,.val (.vs 2 true []) .own),vb 7 false,vv 20 (.agg (Sc.cs w_67)),(21,.lp 3 3),vv 22 (.vs 5 e_68.tg (exs e_68.l)),vv 23 (.cptr (Ex.cs e_72)),vv 24 (.cptr [(.str e_72.s),(.vs 5 e_72.tg (exs e_72.l)),(i6 e_72.at_)]),vt 25 e_72.s,vv 26 (.tuple [(.agg (Fld.cs f_73)),(.bool c_74)])] [(2,⟨(Sc.cs w_67),[]⟩),(3,⟨(Ex.cs e_68),[]⟩)] Hp.none 0) = some o := stM C 2 (fun _ _ => by kernel_rfl) ho
theorem p100_4 {w_67 : Sc} {e_68 e_75 : Ex} {f_73 : Fld} {c_74 : Bool} (ho : Tr.val C 100
(.br (!(decide (e_75.kind = 4)))
(.br (decide (0 < ((exs e_68.l).length : Int)))
(.bind (nth (exs e_68.l) 0) fun c5 =>
(.mid 1 qN1 4 (mkS 93 [(2,.lp 2 0),(3,.lp 3 0),(6,.val (.vs 2 true []) .own),vb 7 false,vb 43 true,vv 45 (.agg (Sc.cs w_67)),(46,.lp 3 3),vv 47 (.vs 5 e_68.tg (exs e_68.l)),vv 48 (.cptr (AV.cells c5))] [(2,⟨(Sc.cs w_67),[]⟩),(3,⟨(Ex.cs e_68),[]⟩)] Hp.none 0))) .none)
(.br (!c_74)
(.br (decide (0 < ((exs e_68.l).length : Int)))
(.bind (nth (exs e_68.l) 0) fun c6 =>
(.mid 1 qN1 4 (mkS 93 [(2,.lp 2 0),(3,.lp 3 0),(6,.val (.vs 2 true []) .own),vb 7 false,vb 43 true,vv 45 (.agg (Sc.cs w_67)),(46,.lp 3 3),vv 47 (.vs 5 e_68.tg (exs e_68.l)),vv 48 (.cptr (AV.cells c6))] [(2,⟨(Sc.cs w_67),[]⟩),(3,⟨(Ex.cs e_68),[]⟩)] Hp.none 0))) .none)
(.br (!(decide (f_73.kind = 4)))
(.br (decide (0 < ((exs e_68.l).length : Int)))
(.bind (nth (exs e_68.l) 0) fun c7 =>
(.mid 1 qN1 4 (mkS 93 [(2,.lp 2 0),(3,.lp 3 0),(6,.val (.vs 2 true []) .own),vb 7 false,vb 43 true,vv 45 (.agg (Sc.cs w_67)),(46,.lp 3 3),vv 47 (.vs 5 e_68.tg (exs e_68.l)),vv 48 (.cptr (AV.cells c7))] [(2,⟨(Sc.cs w_67),[]⟩),(3,⟨(Ex.cs e_68),[]⟩)] Hp.none 0))) .none)
(.br (decide (1 < ((exs e_68.l).length : Int)))
(.bind (nth (exs e_68.l) 1) fun c8 =>
(.mid 0 qN4 4 (mkS 93 [(2,.lp 2 0),(3,.lp 3 0),(6,.val (.vs 2 true []) .own),vb 7 false,vb 43 false,vv 61 (.agg (Sc.cs w_67)),(62,.lp 3 3),vv 63 (.vs 5 e_68.tg (exs e_68.l)),vv 64 (.cptr (AV.cells c8))] [(2,⟨(Sc.cs w_67),[]⟩),(3,⟨(Ex.cs e_68),[]⟩)] Hp.none 0))) .none)))) = some o) : ML C 100 [0,5,0,0,5,7,5,0,5,0,5,0,0,5,0] 3 (mkS 93 [(2,.lp 2 0),(3,.lp 3 0),(6,.val (.vs 2 true []) .own),vb 7 false,(8,.lp 8 0),vb 9 c_74,(29,.lp 3 3),vv 30 (.vs 5 e_68.tg (exs e_68.l)),vv 31 (.cptr (Ex.cs e_75))] [(2,⟨(Sc.cs w_67),[]⟩),(3,⟨(Ex.cs e_68),[]⟩),(8,⟨(Fld.cs f_73),[]⟩)] Hp.none 0) = some o := stM C 4 (fun _ _ => by kernel_rfl) ho
theorem p100_5 {w_67 : Sc} {e_68 e_76 : Ex} (ho : Tr.val C 100
(cl0 52 [(.agg (Sc.cs w_67)),(.agg (Ex.cs e_76))] fun r9 => .br (AV.pure r9.v)
(.mid 0 qN1 6 (mkS 93 [(2,.lp 2 0),(3,.lp 3 0),(6,.val (.vs 2 true []) .own),vb 7 false,vb 43 true,vv 45 (.agg (Sc.cs w_67)),(46,.lp 3 3),vv 47 (.vs 5 e_68.tg (exs e_68.l)),vv 48 (.cptr (Ex.cs e_76)),vv 49 (.agg (Ex.cs e_76)),(50,.val r9.v (.comps [1]))] [(2,⟨(Sc.cs w_67),[]⟩),(3,⟨(Ex.cs e_68),[]⟩)] Hp.none 0)) .none) = some o) : ML C 100 qN1 4 (mkS 93 [(2,.lp 2 0),(3,.lp 3 0),(6,.val (.vs 2 true []) .own),vb 7 false,vb 43 true,vv 45 (.agg (Sc.cs w_67)),(46,.lp 3 3),vv 47 (.vs 5 e_68.tg (exs e_68.l)),vv 48 (.cptr (Ex.cs e_76))] [(2,⟨(Sc.cs w_67),[]⟩),(3,⟨(Ex.cs e_68),[]⟩)] Hp.none 0) = some o := stM C 0 (fun _ _ => by kernel_rfl) ho
theorem p100_6 {w_67 : Sc} {e_68 e_79 : Ex} (ho : Tr.val C 100
(cl0 52 [(.agg (Sc.cs w_67)),(.agg (Ex.cs e_79))] fun r10 => .br (AV.pure r10.v)
(.mid 0 qN4 6 (mkS 93 [(2,.lp 2 0),(3,.lp 3 0),(6,.val (.vs 2 true []) .own),vb 7 false,vb 43 false,vv 61 (.agg (Sc.cs w_67)),(62,.lp 3 3),vv 63 (.vs 5 e_68.tg (exs e_68.l)),vv 64 (.cptr (Ex.cs e_79)),vv 65 (.agg (Ex.cs e_79)),(66,.val r10.v (.comps [1]))] [(2,⟨(Sc.cs w_67),[]⟩),(3,⟨(Ex.cs e_68),[]⟩)] Hp.none 0)) .none) = some o) : ML C 100 qN4 4 (mkS 93 [(2,.lp 2 0),(3,.lp 3 0),(6,.val (.vs 2 true []) .own),vb 7 false,vb 43 false,vv 61 (.agg (Sc.cs w_67)),(62,.lp 3 3),vv 63 (.vs 5 e_68.tg (exs e_68.l)),vv 64 (.cptr (Ex.cs e_79))] [(2,⟨(Sc.cs w_67),[]⟩),(3,⟨(Ex.cs e_68),[]⟩)] Hp.none 0) = some o := stM C 0 (fun _ _ => by kernel_rfl) ho
theorem p100_7 {w_67 : Sc} {e_68 e_76 : Ex} {x_80 : Int} {tg_81 : Bool} {l_82 : List Dg} (ho : Tr.val C 100
(.br (zab [(.tuple [(i6 x_80),(.vs 2 tg_81 (l_82.map Dg.av))])])
(.br (decide (((l_82.map Dg.av).length : Int) = 0))
(.br (decide (1 < ((exs e_68.l).length : Int)))
(.bind (nth (exs e_68.l) 1) fun c11 =>
(.mid 0 qN5 4 (mkS 93 [(2,.lp 2 0),(3,.lp 3 0),vv 6 (.vs 2 true [(.agg [(i6 e_68.at_),(i6 12)])]),vb 7 true,vv 61 (.agg (Sc.cs w_67)),(62,.lp 3 3),vv 63 (.vs 5 e_68.tg (exs e_68.l)),vv 64 (.cptr (AV.cells c11))] [(2,⟨(Sc.cs w_67),[]⟩),(3,⟨(Ex.cs e_68),[]⟩)] Hp.none 0))) .none)
(.br (decide (1 < ((exs e_68.l).length : Int)))
(.bind (nth (exs e_68.l) 1) fun c12 =>
(.mid 0 qN6 4 (mkS 93 [(2,.lp 2 0),(3,.lp 3 0),(6,.val (.vs 2 tg_81 (l_82.map Dg.av)) .own),vb 7 false,vb 55 false,vv 61 (.agg (Sc.cs w_67)),(62,.lp 3 3),vv 63 (.vs 5 e_68.tg (exs e_68.l)),vv 64 (.cptr (AV.cells c12))] [(2,⟨(Sc.cs w_67),[]⟩),(3,⟨(Ex.cs e_68),[]⟩)] Hp.none 0))) .none)) .none) = some o) : ML C 100 qN1 6 (mkS 93 [(2,.lp 2 0),(3,.lp 3 0),(6,.val (.vs 2 true []) .own),vb 7 false,vb 43 true,vv 45 (.agg (Sc.cs w_67)),(46,.lp 3 3),vv 47 (.vs 5 e_68.tg (exs e_68.l)),vv 48 (.cptr (Ex.cs e_76)),vv 49 (.agg (Ex.cs e_76)),(50,.val (.tuple [(i6 x_80),(.vs 2 tg_81 (l_82.map Dg.av))]) (.comps [1]))] [(2,⟨(Sc.cs w_67),[]⟩),(3,⟨(Ex.cs e_68),[]⟩)] Hp.none 0) = some o := stM C 6 (fun _ _ => by kernel_rfl) ho
theorem p100_8 {w_67 : Sc} {e_68 e_79 : Ex} {x_83 : Int} {tg_84 : Bool} {l_85 : List Dg} (ho : Tr.val C 100
(.br (zab [(.tuple [(i6 x_83),(.vs 2 tg_84 (l_85.map Dg.av))])])
(.br (zab [(.tuple [(i6 x_83),(.vs 2 tg_84 (l_85.map Dg.av))])])
(.br (AV.pure (.vs 2 tg_84 (l_85.map Dg.av)))
(.br (Nat.ble ((0 + (l_85.map Dg.av).length) * 16) za1)
(.br (Nat.ble (0 + (l_85.map Dg.av).length) za1)
(.br (decide (((l_85.map Dg.av).length : Int) = 0))
(.br (!(decide (x_83 = 2)))
(.br (Nat.ble ((([] ++ (l_85.map Dg.av)).length + 1) * 16) za1)
(.br (Nat.ble (([] ++ (l_85.map Dg.av)).length + 1) za1)
(.br (decide (0 < (List.length (([] ++ (l_85.map Dg.av)) ++ [(.agg [(i6 e_68.at_),(i6 12)])]) : Int)))
(rt (.tuple [(i6 0),(.vs 2 false (([] ++ (l_85.map Dg.av)) ++ [(.agg [(i6 e_68.at_),(i6 12)])]))]))
(rt (.tuple [(i6 3),(.vs 2 true [])]))) .none) .none)
(.br (decide (0 < (([] ++ (l_85.map Dg.av)).length : Int)))
(rt (.tuple [(i6 0),(.vs 2 false ([] ++ (l_85.map Dg.av)))]))
(rt (.tuple [(i6 3),(.vs 2 true [])]))))
(.br (decide (0 < (([] ++ (l_85.map Dg.av)).length : Int)))
(rt (.tuple [(i6 0),(.vs 2 false ([] ++ (l_85.map Dg.av)))]))
(rt (.tuple [(i6 3),(.vs 2 true [])])))) .none) .none) .none) .none) .none) = some o) : ML C 100 qN4 6 (mkS 93 [(2,.lp 2 0),(3,.lp 3 0),(6,.val (.vs 2 true []) .own),vb 7 false,vb 43 false,vv 61 (.agg (Sc.cs w_67)),(62,.lp 3 3),vv 63 (.vs 5 e_68.tg (exs e_68.l)),vv 64 (.cptr (Ex.cs e_79)),vv 65 (.agg (Ex.cs e_79)),(66,.val (.tuple [(i6 x_83),(.vs 2 tg_84 (l_85.map Dg.av))]) (.comps [1]))] [(2,⟨(Sc.cs w_67),[]⟩),(3,⟨(Ex.cs e_68),[]⟩)] Hp.none 0) = some o := stM C 15 (fun _ _ => by kernel_rfl) ho
theorem p100_9 {w_67 : Sc} {e_68 e_86 : Ex} (ho : Tr.val C 100
(cl0 52 [(.agg (Sc.cs w_67)),(.agg (Ex.cs e_86))] fun r13 => .br (AV.pure r13.v)
(.mid 0 qN5 6 (mkS 93 [(2,.lp 2 0),(3,.lp 3 0),vv 6 (.vs 2 true [(.agg [(i6 e_68.at_),(i6 12)])]),vb 7 true,vv 61 (.agg (Sc.cs w_67)),(62,.lp 3 3),vv 63 (.vs 5 e_68.tg (exs e_68.l)),vv 64 (.cptr (Ex.cs e_86)),vv 65 (.agg (Ex.cs e_86)),(66,.val r13.v (.comps [1]))] [(2,⟨(Sc.cs w_67),[]⟩),(3,⟨(Ex.cs e_68),[]⟩)] Hp.none 0)) .none) = some o) : ML C 100 qN5 4 (mkS 93 [(2,.lp 2 0),(3,.lp 3 0),vv 6 (.vs 2 true [(.agg [(i6 e_68.at_),(i6 12)])]),vb 7 true,vv 61 (.agg (Sc.cs w_67)),(62,.lp 3 3),vv 63 (.vs 5 e_68.tg (exs e_68.l)),vv 64 (.cptr (Ex.cs e_86))] [(2,⟨(Sc.cs w_67),[]⟩),(3,⟨(Ex.cs e_68),[]⟩)] Hp.none 0) = some o := stM C 0 (fun _ _ => by kernel_rfl) ho
theorem p100_10 {w_67 : Sc} {e_68 e_87 : Ex} {tg_81 : Bool} {l_82 : List Dg} (ho : Tr.val C 100
(cl0 52 [(.agg (Sc.cs w_67)),(.agg (Ex.cs e_87))] fun r14 => .br (AV.pure r14.v)
(.mid 0 qN6 6 (mkS 93 [(2,.lp 2 0),(3,.lp 3 0),(6,.val (.vs 2 tg_81 (l_82.map Dg.av)) .own),vb 7 false,vb 55 false,vv 61 (.agg (Sc.cs w_67)),(62,.lp 3 3),vv 63 (.vs 5 e_68.tg (exs e_68.l)),vv 64 (.cptr (Ex.cs e_87)),vv 65 (.agg (Ex.cs e_87)),(66,.val r14.v (.comps [1]))] [(2,⟨(Sc.cs w_67),[]⟩),(3,⟨(Ex.cs e_68),[]⟩)] Hp.none 0)) .none) = some o) : ML C 100 qN6 4 (mkS 93 [(2,.lp 2 0),(3,.lp 3 0),(6,.val (.vs 2 tg_81 (l_82.map Dg.av)) .own),vb 7 false,vb 55 false,vv 61 (.agg (Sc.cs w_67)),(62,.lp 3 3),vv 63 (.vs 5 e_68.tg (exs e_68.l)),vv 64 (.cptr (Ex.cs e_87))] [(2,⟨(Sc.cs w_67),[]⟩),(3,⟨(Ex.cs e_68),[]⟩)] Hp.none 0) = some o := stM C 0 (fun _ _ => by kernel_rfl) ho
theorem p100_11 {w_67 : Sc} {e_68 e_86 : Ex} {x_88 : Int} {tg_89 : Bool} {l_90 : List Dg} (ho : Tr.val C 100
(.br (zab [(.tuple [(i6 x_88),(.vs 2 tg_89 (l_90.map Dg.av))])])
(.br (zab [(.tuple [(i6 x_88),(.vs 2 tg_89 (l_90.map Dg.av))])])
(.br (AV.pure (.vs 2 tg_89 (l_90.map Dg.av)))
(.br (Nat.ble ((1 + (l_90.map Dg.av).length) * 16) za1)
(.br (Nat.ble (1 + (l_90.map Dg.av).length) za1)
(.br (decide (0 < (List.length ([(.agg [(i6 e_68.at_),(i6 12)])] ++ (l_90.map Dg.av)) : Int)))
(rt (.tuple [(i6 0),(.vs 2 false ([(.agg [(i6 e_68.at_),(i6 12)])] ++ (l_90.map Dg.av)))]))
(rt (.tuple [(i6 3),(.vs 2 true [])]))) .none) .none) .none) .none) .none) = some o) : ML C 100 qN5 6 (mkS 93 [(2,.lp 2 0),(3,.lp 3 0),vv 6 (.vs 2 true [(.agg [(i6 e_68.at_),(i6 12)])]),vb 7 true,vv 61 (.agg (Sc.cs w_67)),(62,.lp 3 3),vv 63 (.vs 5 e_68.tg (exs e_68.l)),vv 64 (.cptr (Ex.cs e_86)),vv 65 (.agg (Ex.cs e_86)),(66,.val (.tuple [(i6 x_88),(.vs 2 tg_89 (l_90.map Dg.av))]) (.comps [1]))] [(2,⟨(Sc.cs w_67),[]⟩),(3,⟨(Ex.cs e_68),[]⟩)] Hp.none 0) = some o := stM C 15 (fun _ _ => by kernel_rfl) ho
theorem p100_12 {w_67 : Sc} {e_68 e_87 : Ex} {tg_81 tg_92 : Bool} {l_82 l_93 : List Dg} {x_91 : Int} (ho : Tr.val C 100
(.br (zab [(.tuple [(i6 x_91),(.vs 2 tg_92 (l_93.map Dg.av))])])
(.br (zab [(.tuple [(i6 x_91),(.vs 2 tg_92 (l_93.map Dg.av))])])
(.br (AV.pure (.vs 2 tg_92 (l_93.map Dg.av)))
(.br (Nat.ble (((l_82.map Dg.av).length + (l_93.map Dg.av).length) * 16) za1)
(.br (Nat.ble ((l_82.map Dg.av).length + (l_93.map Dg.av).length) za1)
(.br (decide (((l_93.map Dg.av).length : Int) = 0))
(.br (!(decide (x_91 = 2)))
(.br (Nat.ble ((((l_82.map Dg.av) ++ (l_93.map Dg.av)).length + 1) * 16) za1)
(.br (Nat.ble (((l_82.map Dg.av) ++ (l_93.map Dg.av)).length + 1) za1)
(.br (decide (0 < (List.length (((l_82.map Dg.av) ++ (l_93.map Dg.av)) ++ [(.agg [(i6 e_68.at_),(i6 12)])]) : Int)))
(rt (.tuple [(i6 0),(.vs 2 false (((l_82.map Dg.av) ++ (l_93.map Dg.av)) ++ [(.agg [(i6 e_68.at_),(i6 12)])]))]))
(rt (.tuple [(i6 3),(.vs 2 true [])]))) .none) .none)
(.br (decide (0 < (((l_82.map Dg.av) ++ (l_93.map Dg.av)).length : Int)))
(rt (.tuple [(i6 0),(.vs 2 false ((l_82.map Dg.av) ++ (l_93.map Dg.av)))]))
(rt (.tuple [(i6 3),(.vs 2 true [])]))))
(.br (decide (0 < (((l_82.map Dg.av) ++ (l_93.map Dg.av)).length : Int)))
(rt (.tuple [(i6 0),(.vs 2 false ((l_82.map Dg.av) ++ (l_93.map Dg.av)))]))
(rt (.tuple [(i6 3),(.vs 2 true [])])))) .none) .none) .none) .none) .none) = some o) : ML C 100 qN6 6 (mkS 93 [(2,.lp 2 0),(3,.lp 3 0),(6,.val (.vs 2 tg_81 (l_82.map Dg.av)) .own),vb 7 false,vb 55 false,vv 61 (.agg (Sc.cs w_67)),(62,.lp 3 3),vv 63 (.vs 5 e_68.tg (exs e_68.l)),vv 64 (.cptr (Ex.cs e_87)),vv 65 (.agg (Ex.cs e_87)),(66,.val (.tuple [(i6 x_91),(.vs 2 tg_92 (l_93.map Dg.av))]) (.comps [1]))] [(2,⟨(Sc.cs w_67),[]⟩),(3,⟨(Ex.cs e_68),[]⟩)] Hp.none 0) = some o := stM C 15 (fun _ _ => by kernel_rfl) ho
theorem p52_c (hC : Ext C) {w_94 : Sc} {e_95 : Ex} (ho : RL C 52 [] (mk0 103 [vv 0 (.agg (Sc.cs w_94)),vv 1 (.agg (Ex.cs e_95))]) = some o) : calL C 52 [(.agg (Sc.cs w_94)),(.agg (Ex.cs e_95))] Hp.none 0 = some o := hC.call rfl (fun _ _ => by kernel_rfl) ho
theorem p52_0 {w_94 : Sc} {e_95 : Ex} (ho : Tr.val C 52
(.br (decide (e_95.kind = 1))
(rt (.tuple [(i6 1),(.vs 2 true [])]))
(.br (decide (e_95.kind = 2))
(rt (.tuple [(i6 2),(.vs 2 true [])]))
(.br (decide (e_95.kind = 3))
(rt (.tuple [(i6 3),(.vs 2 true [])]))
(.br (decide (e_95.kind = 4))
(cl0 97 [(.agg (Sc.cs w_94)),(.agg (Ex.cs e_95))] fun r1 => .br (AV.pure r1.v)
(.mid 24 [0,5,0,0,5,2,0,5,7,0,5,7,0,5,7,0,5,6,0] 3 (mkS 103 [(2,.lp 2 0),(3,.lp 3 0),vi 15 e_95.kind,vb 22 true,vv 24 (.agg (Sc.cs w_94)),vv 25 (.agg (Ex.cs e_95)),(26,.val r1.v (.comps [1]))] [(2,⟨(Sc.cs w_94),[]⟩),(3,⟨(Ex.cs e_95),[]⟩)] Hp.none 0)) .none)
(.br (decide (e_95.kind = 5))
(cl0 98 [(.agg (Sc.cs w_94)),(.agg (Ex.cs e_95))] fun r2 => .br (AV.pure r2.v)
(.mid 21 qN11 3 (mkS 103 [(2,.lp 2 0),(3,.lp 3 0),vb 29 true,vv 31 (.agg (Sc.cs w_94)),vv 32 (.agg (Ex.cs e_95)),(33,.val r2.v (.comps [1]))] [(2,⟨(Sc.cs w_94),[]⟩),(3,⟨(Ex.cs e_95),[]⟩)] Hp.none 0)) .none)
(.br (decide (e_95.kind = 6))
(.br (!(decide (((exs e_95.l).length : Int) = 1)))
(cl0 99 [(.agg (Ex.cs e_95)),(i6 12)] fun r3 => .br (AV.pure r3.v)
(.mid 13 qN7 2 (mkSM 103 [(2,.lp 2 0),(3,.lp 3 0),vb 49 true,vv 50 (.agg (Ex.cs e_95)),(51,.val r3.v (.comps [1]))] [(2,⟨(Sc.cs w_94),[]⟩),(3,⟨(Ex.cs e_95),[]⟩)] Hp.none 0 [(36,[((i6 6),(i6 1)),((i6 7),(i6 2))])])) .none)
(.br (eqS e_95.s [104,97,115])
(.br (decide (e_95.kind = 7))
(cl0 100 [(.agg (Sc.cs w_94)),(.agg (Ex.cs e_95))] fun r4 => .br (AV.pure r4.v)
(.mid 8 qN8 3 (mkSM 103 [(2,.lp 2 0),(3,.lp 3 0),vb 61 true,vv 62 (.agg (Sc.cs w_94)),vv 63 (.agg (Ex.cs e_95)),(64,.val r4.v (.comps [1]))] [(2,⟨(Sc.cs w_94),[]⟩),(3,⟨(Ex.cs e_95),[]⟩)] Hp.none 0 [(36,[((i6 6),(i6 1)),((i6 7),(i6 2))])])) .none)
(.run 0 qN2 (mkSM 103 [(2,.lp 2 0),(3,.lp 3 0),(7,.val (.vs 1 true []) .own),(8,.val (.vs 2 true []) .own),vv 68 (.vs 5 e_95.tg (exs e_95.l)),vi 69 ((exs e_95.l).length : Int),vi 70 0] [(2,⟨(Sc.cs w_94),[]⟩),(3,⟨(Ex.cs e_95),[]⟩)] Hp.none 0 [(36,[((i6 6),(i6 1)),((i6 7),(i6 2))])])))
(.run 0 qN2 (mkSM 103 [(2,.lp 2 0),(3,.lp 3 0),(7,.val (.vs 1 true []) .own),(8,.val (.vs 2 true []) .own),vv 68 (.vs 5 e_95.tg (exs e_95.l)),vi 69 ((exs e_95.l).length : Int),vi 70 0] [(2,⟨(Sc.cs w_94),[]⟩),(3,⟨(Ex.cs e_95),[]⟩)] Hp.none 0 [(36,[((i6 6),(i6 1)),((i6 7),(i6 2))])]))))
(.br (decide (e_95.kind = 7))
(.br (!(decide (((exs e_95.l).length : Int) = 2)))
(cl0 99 [(.agg (Ex.cs e_95)),(i6 12)] fun r5 => .br (AV.pure r5.v)
(.mid 13 qN7 2 (mkSM 103 [(2,.lp 2 0),(3,.lp 3 0),vb 49 true,vv 50 (.agg (Ex.cs e_95)),(51,.val r5.v (.comps [1]))] [(2,⟨(Sc.cs w_94),[]⟩),(3,⟨(Ex.cs e_95),[]⟩)] Hp.none 0 [(36,[((i6 6),(i6 1)),((i6 7),(i6 2))])])) .none)
(.br (eqS e_95.s [104,97,115])
(.br (decide (e_95.kind = 7))
(cl0 100 [(.agg (Sc.cs w_94)),(.agg (Ex.cs e_95))] fun r6 => .br (AV.pure r6.v)
(.mid 8 qN8 3 (mkSM 103 [(2,.lp 2 0),(3,.lp 3 0),vb 61 true,vv 62 (.agg (Sc.cs w_94)),vv 63 (.agg (Ex.cs e_95)),(64,.val r6.v (.comps [1]))] [(2,⟨(Sc.cs w_94),[]⟩),(3,⟨(Ex.cs e_95),[]⟩)] Hp.none 0 [(36,[((i6 6),(i6 1)),((i6 7),(i6 2))])])) .none)
(.run 0 qN2 (mkSM 103 [(2,.lp 2 0),(3,.lp 3 0),(7,.val (.vs 1 true []) .own),(8,.val (.vs 2 true []) .own),vv 68 (.vs 5 e_95.tg (exs e_95.l)),vi 69 ((exs e_95.l).length : Int),vi 70 0] [(2,⟨(Sc.cs w_94),[]⟩),(3,⟨(Ex.cs e_95),[]⟩)] Hp.none 0 [(36,[((i6 6),(i6 1)),((i6 7),(i6 2))])])))
(.run 0 qN2 (mkSM 103 [(2,.lp 2 0),(3,.lp 3 0),(7,.val (.vs 1 true []) .own),(8,.val (.vs 2 true []) .own),vv 68 (.vs 5 e_95.tg (exs e_95.l)),vi 69 ((exs e_95.l).length : Int),vi 70 0] [(2,⟨(Sc.cs w_94),[]⟩),(3,⟨(Ex.cs e_95),[]⟩)] Hp.none 0 [(36,[((i6 6),(i6 1)),((i6 7),(i6 2))])]))))
(cl0 99 [(.agg (Ex.cs e_95)),(i6 12)] fun r7 => .br (AV.pure r7.v)
(.mid 13 qN7 2 (mkSM 103 [(2,.lp 2 0),(3,.lp 3 0),vb 49 true,vv 50 (.agg (Ex.cs e_95)),(51,.val r7.v (.comps [1]))] [(2,⟨(Sc.cs w_94),[]⟩),(3,⟨(Ex.cs e_95),[]⟩)] Hp.none 0 [(36,[((i6 6),(i6 1)),((i6 7),(i6 2))])])) .none)))))))) = some o) : RL C 52 [] (mk0 103 [vv 0 (.agg (Sc.cs w_94)),vv 1 (.agg (Ex.cs e_95))]) = some o := stR C 44 (fun _ _ => by kernel_rfl) ho
theorem p52_1 {w_94 : Sc} {e_95 : Ex} {x_96 : Int} {tg_97 : Bool} {l_98 : List Dg} (ho : Tr.val C 52
(rt (.tuple [(i6 x_96),(.vs 2 tg_97 (l_98.map Dg.av))])) = some o) : ML C 52 [0,5,0,0,5,2,0,5,7,0,5,7,0,5,7,0,5,6,0] 3 (mkS 103 [(2,.lp 2 0),(3,.lp 3 0),vi 15 e_95.kind,vb 22 true,vv 24 (.agg (Sc.cs w_94)),vv 25 (.agg (Ex.cs e_95)),(26,.val (.tuple [(i6 x_96),(.vs 2 tg_97 (l_98.map Dg.av))]) (.comps [1]))] [(2,⟨(Sc.cs w_94),[]⟩),(3,⟨(Ex.cs e_95),[]⟩)] Hp.none 0) = some o := stM C 1 (fun _ _ => by kernel_rfl) ho
theorem p52_2 {w_94 : Sc} {e_95 : Ex} {x_99 : Int} {tg_100 : Bool} {l_101 : List Dg} (ho : Tr.val C 52
(rt (.tuple [(i6 x_99),(.vs 2 tg_100 (l_101.map Dg.av))])) = some o) : ML C 52 qN11 3 (mkS 103 [(2,.lp 2 0),(3,.lp 3 0),vb 29 true,vv 31 (.agg (Sc.cs w_94)),vv 32 (.agg (Ex.cs e_95)),(33,.val (.tuple [(i6 x_99),(.vs 2 tg_100 (l_101.map Dg.av))]) (.comps [1]))] [(2,⟨(Sc.cs w_94),[]⟩),(3,⟨(Ex.cs e_95),[]⟩)] Hp.none 0) = some o := stM C 1 (fun _ _ => by kernel_rfl) ho

theorem p52_4 {w_94 : Sc} {e_95 : Ex} {x_105 : Int} {tg_106 : Bool} {l_107 : List Dg} (ho : Tr.val C 52
(rt (.tuple [(i6 x_105),(.vs 2 tg_106 (l_107.map Dg.av))])) = some o) : ML C 52 qN8 3 (mkSM 103 [(2,.lp 2 0),(3,.lp 3 0),vb 61 true,vv 62 (.agg (Sc.cs w_94)),vv 63 (.agg (Ex.cs e_95)),(64,.val (.tuple [(i6 x_105),(.vs 2 tg_106 (l_107.map Dg.av))]) (.comps [1]))] [(2,⟨(Sc.cs w_94),[]⟩),(3,⟨(Ex.cs e_95),[]⟩)] Hp.none 0 [(36,[((i6 6),(i6 1)),((i6 7),(i6 2))])]) = some o := stM C 1 (fun _ _ => by kernel_rfl) ho
theorem p52_5 {tg_108 tg_110 tg_112 : Bool} {l_109 l_111 : List AV} {l_113 : List Ex} {x_114 x_115 : Int} {w_116 : Sc} {e_117 : Ex} (ho : Tr.val C 52
(.br (decide (x_115 < x_114))
(ix (exs l_113) x_115 fun c8 =>
(.mid 4 qN12 1 (mkSM 103 [(2,.lp 2 0),(3,.lp 3 0),(7,.val (.vs 1 tg_108 l_109) .own),(8,.val (.vs 2 tg_110 l_111) .own),vv 68 (.vs 5 tg_112 (exs l_113)),vi 69 x_114,vi 70 x_115,vb 71 true,vv 72 (.cptr (AV.cells c8))] [(2,⟨(Sc.cs w_116),[]⟩),(3,⟨(Ex.cs e_117),[]⟩)] Hp.none 0 [(36,[((i6 6),(i6 1)),((i6 7),(i6 2))])])))
(.br (decide (0 < (l_111.length : Int)))
(rt (.tuple [(i6 0),(.vs 2 tg_110 l_111)]))
(cl0 101 [(.str e_117.s),(.vs 1 tg_108 l_109)] fun r9 => .br (AV.pure r9.v)
(.mid 0 qN13 4 (mkSM 103 [(3,.lp 3 0),(7,.val (.vs 1 tg_108 l_109) .own),(8,.val (.vs 2 tg_110 l_111) .own),vb 90 false,(92,.lp 3 2),vt 93 e_117.s,(94,.val (.vs 1 tg_108 l_109) (.lS 7)),vv 95 r9.v] [(3,⟨(Ex.cs e_117),[]⟩)] Hp.none 0 [(36,[((i6 6),(i6 1)),((i6 7),(i6 2))])])) .none))) = some o) : RL C 52 qN2 (mkSM 103 [(2,.lp 2 0),(3,.lp 3 0),(7,.val (.vs 1 tg_108 l_109) .own),(8,.val (.vs 2 tg_110 l_111) .own),vv 68 (.vs 5 tg_112 (exs l_113)),vi 69 x_114,vi 70 x_115] [(2,⟨(Sc.cs w_116),[]⟩),(3,⟨(Ex.cs e_117),[]⟩)] Hp.none 0 [(36,[((i6 6),(i6 1)),((i6 7),(i6 2))])]) = some o := stR C 13 (fun _ _ => by kernel_rfl) ho
theorem p52_6 {tg_108 tg_110 tg_112 : Bool} {l_109 l_111 : List AV} {l_113 : List Ex} {x_114 x_115 : Int} {w_116 : Sc} {e_117 e_127 : Ex} (ho : Tr.val C 52
(cl0 52 [(.agg (Sc.cs w_116)),(.agg (Ex.cs e_127))] fun r10 => .br (AV.pure r10.v)
(.mid 0 qN14 3 (mkSM 103 [(2,.lp 2 0),(3,.lp 3 0),(7,.val (.vs 1 tg_108 l_109) .own),(8,.val (.vs 2 tg_110 l_111) .own),(10,.lp 10 0),vv 68 (.vs 5 tg_112 (exs l_113)),vi 69 x_114,vi 70 x_115,vv 75 (.agg (Sc.cs w_116)),vv 76 (.agg (Ex.cs e_127)),(77,.val r10.v (.comps [1]))] [(2,⟨(Sc.cs w_116),[]⟩),(3,⟨(Ex.cs e_117),[]⟩),(10,⟨(Ex.cs e_127),[]⟩)] Hp.none 0 [(36,[((i6 6),(i6 1)),((i6 7),(i6 2))])])) .none) = some o) : ML C 52 qN12 1 (mkSM 103 [(2,.lp 2 0),(3,.lp 3 0),(7,.val (.vs 1 tg_108 l_109) .own),(8,.val (.vs 2 tg_110 l_111) .own),vv 68 (.vs 5 tg_112 (exs l_113)),vi 69 x_114,vi 70 x_115,vb 71 true,vv 72 (.cptr (Ex.cs e_127))] [(2,⟨(Sc.cs w_116),[]⟩),(3,⟨(Ex.cs e_117),[]⟩)] Hp.none 0 [(36,[((i6 6),(i6 1)),((i6 7),(i6 2))])]) = some o := stM C 2 (fun _ _ => by kernel_rfl) ho
theorem p52_7 {tg_108 tg_110 : Bool} {l_109 l_111 : List AV} {e_117 : Ex} {x_128 : Int} (ho : Tr.val C 52
(.br (!(decide (x_128 = 0)))
(rt (.tuple [(i6 x_128),(.vs 2 true [])]))
(cl0 99 [(.agg (Ex.cs e_117)),(i6 12)] fun r11 => .br (AV.pure r11.v)
(.mid 0 qN15 2 (mkSM 103 [(3,.lp 3 0),vi 13 x_128,vb 97 false,vv 99 (.agg (Ex.cs e_117)),(100,.val r11.v (.comps [1]))] [(3,⟨(Ex.cs e_117),[]⟩)] Hp.none 0 [(36,[((i6 6),(i6 1)),((i6 7),(i6 2))])])) .none)) = some o) : ML C 52 qN13 4 (mkSM 103 [(3,.lp 3 0),(7,.val (.vs 1 tg_108 l_109) .own),(8,.val (.vs 2 tg_110 l_111) .own),vb 90 false,(92,.lp 3 2),vt 93 e_117.s,(94,.val (.vs 1 tg_108 l_109) (.lS 7)),vi 95 x_128] [(3,⟨(Ex.cs e_117),[]⟩)] Hp.none 0 [(36,[((i6 6),(i6 1)),((i6 7),(i6 2))])]) = some o := stM C 6 (fun _ _ => by kernel_rfl) ho
theorem p52_8 {tg_108 tg_110 tg_112 tg_130 : Bool} {l_109 l_111 : List AV} {l_113 : List Ex} {x_114 x_115 x_129 : Int} {w_116 : Sc} {e_117 e_127 : Ex} {l_131 : List Dg} (ho : Tr.val C 52
(.br (Nat.ble ((l_109.length + 1) * 8) za1)
(.br (Nat.ble (l_109.length + 1) za1)
(.br (Nat.ble ((l_111.length + (l_131.map Dg.av).length) * 16) za1)
(.br (Nat.ble (l_111.length + (l_131.map Dg.av).length) za1)
(.run 0 qN2 (mkSM 103 [(2,.lp 2 0),(3,.lp 3 0),(7,.val (.vs 1 false (l_109 ++ [(i6 x_129)])) .own),(8,.val (.vs 2 false (l_111 ++ (l_131.map Dg.av))) .own),vv 68 (.vs 5 tg_112 (exs l_113)),vi 69 x_114,vi 70 (w64 (x_115 + 1))] [(2,⟨(Sc.cs w_116),[]⟩),(3,⟨(Ex.cs e_117),[]⟩)] Hp.none 0 [(36,[((i6 6),(i6 1)),((i6 7),(i6 2))])])) .none) .none) .none) .none) = some o) : ML C 52 qN14 3 (mkSM 103 [(2,.lp 2 0),(3,.lp 3 0),(7,.val (.vs 1 tg_108 l_109) .own),(8,.val (.vs 2 tg_110 l_111) .own),(10,.lp 10 0),vv 68 (.vs 5 tg_112 (exs l_113)),vi 69 x_114,vi 70 x_115,vv 75 (.agg (Sc.cs w_116)),vv 76 (.agg (Ex.cs e_127)),(77,.val (.tuple [(i6 x_129),(.vs 2 tg_130 (l_131.map Dg.av))]) (.comps [1]))] [(2,⟨(Sc.cs w_116),[]⟩),(3,⟨(Ex.cs e_117),[]⟩),(10,⟨(Ex.cs e_127),[]⟩)] Hp.none 0 [(36,[((i6 6),(i6 1)),((i6 7),(i6 2))])]) = some o := stM C 4 (fun _ _ => by kernel_rfl) ho
theorem p52_9 {e_117 : Ex} {x_128 x_132 : Int} {tg_133 : Bool} {l_134 : List Dg} (ho : Tr.val C 52
(rt (.tuple [(i6 x_132),(.vs 2 tg_133 (l_134.map Dg.av))])) = some o) : ML C 52 qN15 2 (mkSM 103 [(3,.lp 3 0),vi 13 x_128,vb 97 false,vv 99 (.agg (Ex.cs e_117)),(100,.val (.tuple [(i6 x_132),(.vs 2 tg_133 (l_134.map Dg.av))]) (.comps [1]))] [(3,⟨(Ex.cs e_117),[]⟩)] Hp.none 0 [(36,[((i6 6),(i6 1)),((i6 7),(i6 2))])]) = some o := stM C 1 (fun _ _ => by kernel_rfl) ho


end Go.Proofs.YtfdklpkfpmkgeaaGreatDoor
end
section
namespace Go.Proofs.YtfdklpkfpmkgeaaGreatDoor
open Go Go.Vai
attribute [local irreducible] goTo zaq mkS
variable {C : Nat → Oracle} {o : Out}































end Go.Proofs.YtfdklpkfpmkgeaaGreatDoor
end
section
namespace Go.Proofs.YtfdklpkfpmkgeaaGreatDoor
open Go Go.Vai
attribute [local irreducible] goTo zaq mkS
def fldF (l : List Fld) (s : List UInt8) : Option Fld := l.find? fun f=>eqS f.name s
def parN (l : List Par) (s : List UInt8) : Option Par := l.find? fun p=>eqS p.name s
def fld0 : Fld := ⟨[],0,0,0⟩
def fOut : Option Fld→AV
 | some f=>.tuple [.agg f.cs,.bool true]
 | none=>.tuple [.agg fld0.cs,.bool false]
def denF (w : Sc) (s : List UInt8) : Option Fld := match parN w.ps s with
 | some _=>none
 | none=>if w.q = true then fldF w.t.fields s else none
def RT (r : Int × List Dg) (o : Out) : Prop := ∃ tg,o.v = .tuple [.int .i64 r.1,.vs 2 tg (r.2.map Dg.av)]
def oneD (e : Ex) (err : Int) : Int × List Dg := (0,[⟨e.at_,err⟩])
def nameT (w : Sc) (e : Ex) : Int × List Dg := match parN w.ps e.s with
 | some p=>(p.type,[])
 | none=>match denF w e.s with
  | none=>oneD e 6
  | some f=>if f.kind = 1 then (f.type,[]) else if f.kind = 2 then (1,[]) else if f.kind = 3 then (1,[]) else if f.kind = 5 then (3,[]) else oneD e 12
def zrm (w : Sc) (e : Ex) : Int × List Dg :=
 if w.q = false then oneD e 10 else match fldF w.t.fields e.s with
  | none=>oneD e 6
  | some f=>if f.kind = 4 then (1,[]) else oneD e 12
theorem Was.ndec {p : Prop} [Decidable p] {x y : Option Out} {Q : Out→Prop} (h1 : ¬ p→Was x Q) (h2 : p→Was y Q) : Was (Vai.br (!decide p) x y) Q:=by
 by_cases h : p
 ·rw [decide_eq_true h]; exact h2 h
 ·rw [decide_eq_false h]; exact h1 h
theorem wi64 {i n : Nat} (h : i < n) (hn : n ≤ 1000000) : w64 ((i : Int) + 1) = ((i + 1 : Nat) : Int) := by rw [zb9 (by omega) (by omega)]; omega
variable {C : Nat→Oracle} (hC : Ext C)
theorem w94_loop (tg : Bool) (L : List Fld) (hL : L.length ≤ 1000000) (s z : List UInt8) (a b c : Int) : ∀ (r : List Fld) (i : Nat),L.drop i = r→i ≤ L.length →
  Was (RL C 94 [0,5,0,0,5,2,3] (mkS 22 [(1,.val (.str s) .no),(4,.lp 4 0),(9,.val (.vs 4 tg (List.map Fld.av L)) .no),(10,.val (.int .i64 (L.length : Int)) .no),(11,.val (.int .i64 (i : Int)) .no)] [(4,⟨[(.str z),(.int .i64 a),(.int .i64 b),(.int .i64 c)],[]⟩)] Hp.none 0))
   (fun o=>o.v = fOut (fldF r s)):=by
 intro r
 induction r with
 | nil =>
  intro i hi hil
  have := zaj _ _ hil hi
  refine exW (fun o=>p94_1) ?_
  exact .bF (by omega) (.mk rfl)
 | cons f r ih =>
  intro i hi hil
  obtain ⟨h1,h2,h3⟩ := zau _ _ hi
  refine exW (fun o=>p94_1) ?_
  simp only [Tr.val,List.length_map,Int.toNat_natCast,zal,zas,zan,Option.map_some,Option.bind_some,Fld.av_cs,Par.av_cs,Dg.av_cs,Typ.av_cs,Qry.av_cs,Ex.av_cs,zaf,AV.pure,zab,zaa,za2,zad,za5,za9,zac,za3,za8,za6,za7,za4,za0,h1]
  refine .bT (by omega) (.bT (by omega) (.bT (by omega) ?_))
  refine exW (fun o=>p94_2) ?_
  simp only [Tr.val,List.length_map,Int.toNat_natCast,zal,zas,zan,Option.map_some,Option.bind_some,Fld.av_cs,Par.av_cs,Dg.av_cs,Typ.av_cs,Qry.av_cs,Ex.av_cs,zaf,AV.pure,zab,zaa,za2,zad,za5,za9,zac,za3,za8,za6,za7,za4,za0]
  unfold fldF
  rw [List.find?_cons]
  refine .both (fun h=>.mk (by rw [h]; rfl)) (fun h=>?_)
  rw [wi64 h3 hL,h]
  exact ih (i + 1) h2 (by omega)
include hC
theorem w94 (t : Typ) (hL : t.fields.length ≤ 1000000) (s : List UInt8) : Was (calL C 94 [.agg t.cs,.str s] Hp.none 0) (fun o=>o.v = fOut (fldF t.fields s)):=by
 refine exW (fun o=>p94_c hC) ?_
 refine exW (fun o=>p94_0) ?_
 simp only [Tr.val,List.length_map,Int.toNat_natCast,zal,zas,zan,Option.map_some,Option.bind_some,Fld.av_cs,Par.av_cs,Dg.av_cs,Typ.av_cs,Qry.av_cs,Ex.av_cs,zaf,AV.pure,zab,zaa,za2,zad,za5,za9,zac,za3,za8,za6,za7,za4,za0]
 exact w94_loop _ t.fields hL s _ _ _ _ t.fields 0 rfl (Nat.zero_le _)
theorem w99 (e : Ex) (err : Int) : Was (calL C 99 [.agg e.cs,.int .i64 err] Hp.none 0) (RT (oneD e err)):=by
 refine exW (fun o=>p99_c hC) (exW (fun o=>p99_0) ?_)
 exact .mk ⟨true,rfl⟩
theorem zrr (w : Sc) (hF : w.t.fields.length ≤ 1000000) (tg : Bool) (L : List Par) (hL : L.length ≤ 1000000) (s z : List UInt8) (a b c : Int) : ∀ (r : List Par) (i : Nat),L.drop i = r→i ≤ L.length →
  Was (RL C 164 [0,5,0,0,5,2,3] (mkS 31 [(1,.val (.str s) .no),(2,.lp 2 0),(4,.lp 4 0),(9,.val (.vs 3 tg (List.map Par.av L)) .no),(10,.val (.int .i64 (L.length : Int)) .no),(11,.val (.int .i64 (i : Int)) .no)] [(2,⟨(Sc.cs w),[]⟩),(4,⟨[(.str z),(.int .i64 a),(.int .i64 b),(.int .i64 c)],[]⟩)] Hp.none 0))
   (fun o=>o.v = fOut (match parN r s with
    | some _=>none
    | none=>if w.q = true then fldF w.t.fields s else none)):=by
 intro r
 induction r with
 | nil =>
  intro i hi hil
  have := zaj _ _ hil hi
  refine exW (fun o=>p164_1) ?_
  simp only [Tr.val,List.length_map,Int.toNat_natCast,zal,zas,zan,Option.map_some,Option.bind_some,Fld.av_cs,Par.av_cs,Dg.av_cs,Typ.av_cs,Qry.av_cs,Ex.av_cs,zaf,AV.pure,zab,zaa,za2,zad,za5,za9,zac,za3,za8,za6,za7,za4,za0]
  refine .bF (by omega) ?_
  cases hq : w.q
  ·exact .mk rfl
  ·simp only [Bool.not_true,zam]
   refine .call (w94 hC w.t hF s) ?_
   rintro o e
   have hp : o.v.pure = true := by rw [e]; cases fldF w.t.fields s <;> rfl
   rw [hp,za0,e]
   rw [show parN [] s = none from rfl]
   simp only [if_true]
   cases fldF w.t.fields s with
   | none=>exact exW (fun o=>p164_3 (f_35 := fld0)) (.mk rfl)
   | some f=>exact exW (fun o=>p164_3) (.mk rfl)
 | cons f r ih =>
  intro i hi hil
  obtain ⟨h1,h2,h3⟩ := zau _ _ hi
  refine exW (fun o=>p164_1) ?_
  simp only [Tr.val,List.length_map,Int.toNat_natCast,zal,zas,zan,Option.map_some,Option.bind_some,Fld.av_cs,Par.av_cs,Dg.av_cs,Typ.av_cs,Qry.av_cs,Ex.av_cs,zaf,AV.pure,zab,zaa,za2,zad,za5,za9,zac,za3,za8,za6,za7,za4,za0,h1]
  refine .bT (by omega) (.bT (by omega) (.bT (by omega) ?_))
  refine exW (fun o=>p164_2) ?_
  simp only [Tr.val,List.length_map,Int.toNat_natCast,zal,zas,zan,Option.map_some,Option.bind_some,Fld.av_cs,Par.av_cs,Dg.av_cs,Typ.av_cs,Qry.av_cs,Ex.av_cs,zaf,AV.pure,zab,zaa,za2,zad,za5,za9,zac,za3,za8,za6,za7,za4,za0]
  unfold parN
  rw [List.find?_cons]
  refine .both (fun h=>.mk (by rw [h]; rfl)) (fun h=>?_)
  rw [wi64 h3 hL,h]
  exact ih (i + 1) h2 (by omega)
theorem w164 (w : Sc) (hF : w.t.fields.length ≤ 1000000) (hL : w.ps.length ≤ 1000000) (s : List UInt8) : Was (calL C 164 [.agg w.cs,.str s] Hp.none 0) (fun o=>o.v = fOut (denF w s)):=by
 refine exW (fun o=>p164_c hC) ?_
 refine exW (fun o=>p164_0) ?_
 simp only [Tr.val,List.length_map,Int.toNat_natCast,zal,zas,zan,Option.map_some,Option.bind_some,Fld.av_cs,Par.av_cs,Dg.av_cs,Typ.av_cs,Qry.av_cs,Ex.av_cs,zaf,AV.pure,zab,zaa,za2,zad,za5,za9,zac,za3,za8,za6,za7,za4,za0]
 exact zrr hC w hF w.tg w.ps hL s _ _ _ _ w.ps 0 rfl (Nat.zero_le _)
end Go.Proofs.YtfdklpkfpmkgeaaGreatDoor
end
section
namespace Go.Proofs.YtfdklpkfpmkgeaaGreatDoor
open Go Go.Vai
structure Nm where
 name : List UInt8
 at_ : Int
def Nm.cs (x : Nm) : List AV := [.str x.name,.int .i64 x.at_]
def Nm.av (x : Nm) : AV := .agg x.cs
abbrev hD (tg : Bool) (l : List Dg) (T : Hp) : Hp := (0,⟨[(.vs 2 tg (l.map Dg.av))],[0]⟩) :: T
def kv (s : List UInt8) : AV × AV := (.str s,.bool true)
theorem zqt (s : List UInt8) (l : List (List UInt8)) : zdf Tryz.prog 9 ((s :: l).map kv) = zdf Tryz.prog 9 (l.map kv) := by kernel_rfl
theorem zbh : ∀ l : List (List UInt8),zdf Tryz.prog 9 (l.map kv) = true
 | []=>by kernel_rfl
 | s :: l=>(zqt s l).trans (zbh l)
theorem zku {R : Type} (s : List UInt8) (k : Option AV→Option R) : ∀ l : List (List UInt8),zd2 (.str s) (l.map kv) k = k (if s ∈ l then some (.bool true) else none)
 | []=>rfl
 | a :: l=>by
  show (match eqS s a with | true=>k (some (.bool true)) | false=>zd2 (.str s) (l.map kv) k) = _
  by_cases h : s = a
  ·rw [(zcx s a).2 h,if_pos (by rw [h]; exact List.mem_cons_self)]
  ·rw [show eqS s a = false by rw [Bool.eq_false_iff]; exact fun e=>h ((zcx s a).1 e)]
   show zd2 (.str s) (l.map kv) k = _
   rw [zku s k l]
   by_cases h' : s ∈ l
   ·rw [if_pos h',if_pos (List.mem_cons_of_mem _ h')]
   ·rw [if_neg h',if_neg (fun e=>(List.mem_cons.1 e).elim h h')]
def addK (s : List UInt8) (l : List (List UInt8)) : List (List UInt8) := if s ∈ l then l else l ++ [s]
theorem zdh (s : List UInt8) : ∀ l : List (List UInt8),mIns (.str s) (.bool true) (l.map kv) = (addK s l).map kv
 | []=>rfl
 | a :: l=>by
  have e : mIns (.str s) (.bool true) ((a :: l).map kv) = (match (match eqS s a with | true=>some () | false=>none) with
   | some _=>(AV.str s,AV.bool true) :: l.map kv
   | none=>kv a :: mIns (.str s) (.bool true) (l.map kv)) := rfl
  rw [e]
  unfold addK
  by_cases h : s = a
  ·rw [(zcx s a).2 h,if_pos (by rw [h]; exact List.mem_cons_self)]
   subst h
   rfl
  ·rw [show eqS s a = false by rw [Bool.eq_false_iff]; exact fun e=>h ((zcx s a).1 e)]
   show kv a :: mIns (.str s) (.bool true) (l.map kv) = _
   rw [zdh s l]
   unfold addK
   by_cases h' : s ∈ l
   ·rw [if_pos h',if_pos (List.mem_cons_of_mem _ h')]; rfl
   ·rw [if_neg h',if_neg (fun e=>(List.mem_cons.1 e).elim h h')]; rfl
end Go.Proofs.YtfdklpkfpmkgeaaGreatDoor
end
