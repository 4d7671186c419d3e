/- The operations that only compute. -/
import Derived.Laws.Small
import Derived.Laws.Pointers
import Derived.Orders
import Derived.Laws.StructEq
import Derived.Laws.Cells
import Derived.Laws.BytesArg
import Derived.Lib.ConvBytes
import Derived.Laws.IdiomStrings
import Derived.Test.YtfdklpkfpmkgeaaGreatDoorM0
set_option linter.unusedSimpArgs false
set_option linter.unusedVariables false
set_option linter.unusedSectionVars false
set_option linter.unnecessarySimpa false
namespace Go.Vai
section
section inversions
variable {g : G} {w : World} {u : Value}
theorem zbc {k : IntKind} {n : Int} (h : Rep g w u (.int k n)) : u = .int k n := by cases h; rfl
theorem zc2 {b : Bool} (h : Rep g w u (.bool b)) : u = .bool b := by cases h; rfl
theorem zca {l : List UInt8} (h : Rep g w u (.str l)) : ∃ s : ByteArray,u = .string s∧s.data.toList = l := by cases h; exact ⟨_,rfl,rfl⟩
theorem zn3 (h : Rep g w u .nilp) : u = .pointer none := by cases h; rfl
theorem zfo {id off : Nat} (h : Rep g w u (.ptr id off)) : ∃ B,g.role B = .h id∧u = .pointer (some ⟨B,off,none⟩) := by cases h; exact ⟨_,‹_›,rfl⟩
theorem zfy {cs : List AV} (h : Rep g w u (.agg cs)) : ∃ us : List Value,u = .agg us.toArray∧(∀ x ∈ us,x.oneCell' = true)∧RepL g w us cs:=by
 cases h; exact ⟨_,rfl,‹_›,‹_›,‹_›⟩
theorem zjx {cs : List AV} (h : Rep g w u (.tuple cs)) : ∃ us : List Value,u = .tuple us.toArray∧RepL g w us cs:=by
 cases h; exact ⟨_,rfl,‹_›,‹_›⟩
theorem zjg (h : Rep g w u .nilI) : u = .nilIface := by cases h; rfl
theorem zfq {t : Nat} {v : AV} (h : Rep g w u (.iface t v)) : ∃ x,u = .iface t x∧Rep g w x v := by cases h; exact ⟨_,rfl,‹_›⟩
theorem zs4 {f : Nat} {cs : List AV} (h : Rep g w u (.func f cs)) : ∃ us : List Value,u = .func (.func f) #[] us.toArray∧RepL g w us cs:=by
 cases h; exact ⟨_,rfl,‹_›,‹_›⟩
end inversions
section br
variable {R : Type}
theorem zgs {b : Bool} {x y : Option R} {r : R} (h : br b x y = some r) : (b = true∧x = some r) ∨ (b = false∧y = some r):=by
 cases b
 ·exact .inr ⟨rfl,h⟩
 ·exact .inl ⟨rfl,h⟩
theorem zai {b : Bool} {x : Option R} {r : R} (h : br b x Option.none = some r) : b = true∧x = some r:=by
 rcases zgs h with h | ⟨_,h⟩
 ·exact h
 ·cases h
theorem zjm {b : Bool} {x : Option R} {r : R} (h : br b Option.none x = some r) : b = false∧x = some r:=by
 rcases zgs h with ⟨_,h⟩ | h
 ·cases h
 ·exact h
theorem int?_some {v : AV} {k : IntKind→Int→Option R} {r : R} (h : v.int? k = some r) : ∃ i n,v = .int i n∧k i n = some r:=by
 unfold AV.int? at h;split at h
 ·exact ⟨_,_,rfl,h⟩
 ·cases h
theorem bool?_some {v : AV} {k : Bool→Option R} {r : R} (h : v.bool? k = some r) : ∃ b,v = .bool b∧k b = some r:=by
 unfold AV.bool? at h;split at h
 ·exact ⟨_,rfl,h⟩
 ·cases h
theorem str?_some {v : AV} {k : List UInt8→Option R} {r : R} (h : v.str? k = some r) : ∃ s,v = .str s∧k s = some r:=by
 unfold AV.str? at h;split at h
 ·exact ⟨_,rfl,h⟩
 ·cases h
theorem vs?_some {v : AV} {k : Nat→Bool→List AV→Option R} {r : R} (h : v.vs? k = some r) : ∃ a b c,v = .vs a b c∧k a b c = some r:=by
 unfold AV.vs? at h;split at h
 ·exact ⟨_,_,_,rfl,h⟩
 ·cases h
theorem agg?_some {v : AV} {k : List AV→Option R} {r : R} (h : v.agg? k = some r) : ∃ cs,v = .agg cs∧k cs = some r:=by
 unfold AV.agg? at h;split at h
 ·exact ⟨_,rfl,h⟩
 ·cases h
theorem tup?_some {v : AV} {k : List AV→Option R} {r : R} (h : v.tup? k = some r) : ∃ cs,v = .tuple cs∧k cs = some r:=by
 unfold AV.tup? at h;split at h
 ·exact ⟨_,rfl,h⟩
 ·cases h
theorem func?_some {v : AV} {k : Nat→List AV→Option R} {r : R} (h : v.func? k = some r) : ∃ f c,v = .func f c∧k f c = some r:=by
 unfold AV.func? at h;split at h
 ·exact ⟨_,_,rfl,h⟩
 ·cases h
theorem za2 {α : Type} {x : Option α} {k : α→Option R} {r : R} (h : x.bind k = some r) : ∃ y,x = some y∧k y = some r:=by
 cases x with
 | none=>cases h
 | some y=>exact ⟨y,rfl,h⟩
end br
theorem zs6 : ∀ (a b : List UInt8),eqS a b = (a == b)
 | [],[]=>rfl
 | [],_ :: _=>rfl
 | _ :: _,[]=>rfl
 | a :: l,b :: m=>by
  rw [eqS,zs6 l m];by_cases h : a = b
  ·subst h; simp
  ·have h' : Nat.beq a.toNat b.toNat = false:=by
    cases hb : Nat.beq a.toNat b.toNat with
    | false=>rfl
    | true=>exact absurd (UInt8.toNat_inj.1 (Nat.eq_of_beq_eq_true hb)) h
   rw [h'];simp [h]
theorem ztb {g : G} {w : World} (l : List UInt8) : Rep g w (.string ⟨l.toArray⟩) (.str l):=by
 have := Rep.str (g := g) (w := w) ⟨l.toArray⟩
 simpa using this
theorem zes {i j : IntKind} (h : zdn i j = true) : i = j := by cases i <;> cases j <;> first | rfl | cases h
theorem zci : ∀ (l : List AV) (n : Nat),nth l n = l[n]?
 | [],n=>by simp [nth]
 | x :: l,0=>by simp [nth]
 | x :: l,n + 1=>by simp [nth,zci l n]
section getl
variable {g : G} {w : World}
theorem RepL.get {us : List Value} {cs : List AV} (h : RepL g w us cs) {j : Nat} {c : AV} (hc : cs[j]? = some c) : ∃ u,us[j]? = some u∧Rep g w u c:=by
 have hj : j < us.length := by rw [h.1]; exact (List.getElem?_eq_some_iff.1 hc).1
 exact ⟨us[j],List.getElem?_eq_getElem hj,h.2 j _ c (List.getElem?_eq_getElem hj) hc⟩
end getl
def eqb (o : BinOp) (b : Bool) : Bool := match o with
 | .neq=>!b
 | _=>b
section ops
variable {P : Program} {g : G} {w : World} {R : Type} {r : R}
theorem zq9 {op : BinOp} {i : IntKind} {x y : Int} {k : AV→Option R} (t : TypeId) (h : zsy op i x y k = some r) :
  ∃ u v,(binOp op t (.int i x) (.int i y)).run P w = .ok u w∧Rep g w u v∧k v = some r:=by
 cases op <;> simp only [zsy] at h
 case add=>exact ⟨_,_,by simp [binOp,Op.intArith],.int _ _,h⟩
 case sub=>exact ⟨_,_,by simp [binOp,Op.intArith],.int _ _,h⟩
 case mul=>exact ⟨_,_,by simp [binOp,Op.intArith],.int _ _,h⟩
 case quo =>
  obtain ⟨h0,h⟩ := zjm h;have h0' : ¬ y = 0 := by simpa using h0
  exact ⟨_,_,by simp [binOp,Op.intDiv,h0'],.int _ _,h⟩
 case rem =>
  obtain ⟨h0,h⟩ := zjm h;have h0' : ¬ y = 0 := by simpa using h0
  exact ⟨_,_,by simp [binOp,Op.intDiv,h0'],.int _ _,h⟩
 case and=>exact ⟨_,_,by simp [binOp,Op.intBits,bits],.int _ _,h⟩
 case or=>exact ⟨_,_,by simp [binOp,Op.intBits,bits],.int _ _,h⟩
 case xor=>exact ⟨_,_,by simp [binOp,Op.intBits,bits],.int _ _,h⟩
 case andNot=>exact ⟨_,_,by simp [binOp,Op.intBits,bits],.int _ _,h⟩
 case eql=>exact ⟨_,_,by simp only [binOp,Op.intCmp,ne_eq,not_true_eq_false,↓reduceIte,Sem.run_pure]; rfl,.bool (decide (x = y)),h⟩
 case neq=>exact ⟨_,_,by simp only [binOp,Op.intCmp,ne_eq,not_true_eq_false,↓reduceIte,Sem.run_pure,bne]; rfl,.bool (!decide (x = y)),h⟩
 case lss=>exact ⟨_,_,by simp [binOp,Op.intCmp],.bool (decide (x < y)),h⟩
 case leq=>exact ⟨_,_,by simp [binOp,Op.intCmp],.bool (decide (x ≤ y)),h⟩
 case gtr=>exact ⟨_,_,by simp [binOp,Op.intCmp],.bool (decide (y < x)),h⟩
 case geq=>exact ⟨_,_,by simp [binOp,Op.intCmp],.bool (decide (y ≤ x)),h⟩
 all_goals cases h
theorem zq2 {op : BinOp} {x y : ByteArray} {k : AV→Option R} (t : TypeId) (h : opStr op x.data.toList y.data.toList k = some r) :
  ∃ u v,(binOp op t (.string x) (.string y)).run P w = .ok u w∧Rep g w u v∧k v = some r:=by
 have hx := ByteArray.toList_eq x;have hy := ByteArray.toList_eq y;have he := zs6 x.data.toList y.data.toList;cases op <;> simp only [opStr] at h
 case add =>
  obtain ⟨h0,h⟩ := zai h;have h0' := Nat.le_of_ble_eq_true h0;have hs : ¬ (((x.size + y.size : Nat) : Int) > IntKind.i64.max):=by
   have e1 : x.size = x.data.toList.length := by rw [Array.length_toList]; rfl
   have e2 : y.size = y.data.toList.length := by rw [Array.length_toList]; rfl
   have e3 : IntKind.i64.max = 9223372036854775807 := rfl;omega
  refine ⟨.string (x ++ y),.str (x.data.toList ++ y.data.toList),?_,?_,h⟩
  ·simp only [binOp,Op.stringOp,if_neg hs,Sem.run_pure]
  ·have := Rep.str (g := g) (w := w) (x ++ y);rw [ByteArray.data_append,Array.toList_append] at this;exact this
 case eql=>exact ⟨_,_,by rw [binOp_string_eql,Sem.run_pure,hx,hy],.bool _,by rw [← he]; exact h⟩
 case neq=>exact ⟨_,_,by rw [binOp_string_neq,Sem.run_pure,hx,hy,← he],.bool _,h⟩
 case lss=>exact ⟨_,_,by rw [binOp_string_lss,Sem.run_pure,hx,hy],.bool _,h⟩
 case leq=>exact ⟨_,_,by rw [show binOp .leq t (.string x) (.string y) = pure (.bool (Op.bytesLess x.toList y.toList || x.toList == y.toList)) from by simp [binOp,Op.stringOp],Sem.run_pure,hx,hy,← he],.bool _,h⟩
 case gtr=>exact ⟨_,_,by rw [show binOp .gtr t (.string x) (.string y) = pure (.bool !(Op.bytesLess x.toList y.toList || x.toList == y.toList)) from by simp [binOp,Op.stringOp],Sem.run_pure,hx,hy,← he],.bool _,h⟩
 case geq=>exact ⟨_,_,by rw [show binOp .geq t (.string x) (.string y) = pure (.bool !(Op.bytesLess x.toList y.toList)) from by simp [binOp,Op.stringOp],Sem.run_pure,hx,hy],.bool _,h⟩
 all_goals cases h
theorem zcl {op : BinOp} {t : TypeId} {x y : Operand} {a b : Value} (h : ∀ cs,a ≠ .agg cs) (h2 : a ≠ .nilIface) : (eqGuard op t x y a b).run P w = .ok () w:=by
 unfold eqGuard;cases op <;> first
  | (simp; done)
  | (cases a <;> first | exact absurd rfl (h _) | exact absurd rfl h2 | (simp; done) | (cases b <;> simp))
theorem zpe {t : TypeId} {i : IntKind} {n : Int} (h : scal P t (.int i n) = true) : P.underlying t = some (.int i):=by
 simp only [scal] at h;split at h
 ·rename_i k hk; rw [hk,zes h]
 ·cases h
theorem zsc {t : TypeId} {i : IntKind} {n : Int} (h : scal P t (.int i n) = true) : ∃ k,P.underlying t = some (.int k) := ⟨i,zpe h⟩
theorem zmq {t : TypeId} {s : List UInt8} (h : scal P t (.str s) = true) : P.underlying t = some .string:=by
 simp only [scal] at h;split at h
 ·rename_i hk; exact hk
 ·cases h
theorem zjo {t : TypeId} {b : Bool} (h : scal P t (.bool b) = true) : P.underlying t = some .bool:=by
 simp only [scal] at h;split at h
 ·rename_i hk; exact hk
 ·cases h
theorem zpa {t : TypeId} {ux uy : Value} {x y : AV} {k : Bool→Option R} (h : eq1 x y k = some r) (h1 : scal P t x = true) (hx : Rep g w ux x) (hy : Rep g w uy y) :
  ∃ b,(∀ d,(Op.equalIn (d + 1) t ux uy).run P w = .ok b w)∧k b = some r:=by
 cases x with
 | int i a =>
  simp only [eq1] at h;obtain ⟨j,b,rfl,h2⟩ := int?_some h;obtain ⟨h0,h3⟩ := zai h2;clear h h2;obtain rfl := zes h0;obtain rfl := zbc hx;obtain rfl := zbc hy;obtain ⟨kk,hu⟩ := zsc h1;exact ⟨_,fun d=>run_equalIn_int w d t i kk a b hu,h3⟩
 | str a =>
  simp only [eq1] at h;obtain ⟨b,rfl,h2⟩ := str?_some h;clear h;obtain ⟨s1,rfl,rfl⟩ := zca hx;obtain ⟨s2,rfl,rfl⟩ := zca hy;have hu := zmq h1;refine ⟨_,fun d=>run_equalIn_string w d t s1 s2 hu,?_⟩;rw [ByteArray.toList_eq,ByteArray.toList_eq,← zs6];exact h2
 | bool a =>
  simp only [eq1] at h;obtain ⟨b,rfl,h2⟩ := bool?_some h;clear h;obtain rfl := zc2 hx;obtain rfl := zc2 hy;exact ⟨_,fun d=>run_equalIn_bool' w d t a b (zjo h1),h2⟩
 | _=>cases h
theorem zg9 {op : BinOp} {t : TypeId} {ux uy : Value} {b : Bool} {k : AV→Option R} (hu : ∀ o : BinOp,o = .eql ∨ o = .neq→(binOp o t ux uy).run P w = .ok (.bool (eqb o b)) w) (h : eqlK op b k = some r) : ∃ u v,(binOp op t ux uy).run P w = .ok u w∧Rep g w u v∧k v = some r:=by
 unfold eqlK at h;split at h
 ·exact ⟨_,_,hu _ (.inl rfl),.bool _,h⟩
 ·exact ⟨_,_,hu _ (.inr rfl),.bool _,h⟩
 ·cases h
theorem zhb {t : TypeId} {ms : Array (String × TypeId)} {ux uy : Value} {x y : AV} {k : Bool→Option R} (hu : P.underlying t = some (.interface ms)) (h : zky P x y k = some r) (hx : Rep g w ux x) (hy : Rep g w uy y) :
  ∃ b,(∀ d,(Op.equalIn (d + 2) t ux uy).run P w = .ok b w)∧k b = some r:=by
 unfold zky at h;split at h
 ·rename_i tx v;obtain ⟨vx,rfl,hvx⟩ := zfq hx;split at h
  ·rename_i ty v';obtain ⟨vy,rfl,hvy⟩ := zfq hy;rcases zgs h with ⟨h0,h5⟩ | ⟨h0,h5⟩
   ·clear h;obtain rfl := Nat.eq_of_beq_eq_true h0;obtain ⟨h2,h6⟩ := zai h5;simp only [Bool.and_eq_true] at h2;obtain ⟨hc,h3,h4⟩ := h2;obtain ⟨b,hb,hk⟩ := zpa h6 h3 hvx hvy;refine ⟨b,fun d=>?_,hk⟩;unfold tComp at hc;split at hc
    ·rename_i i hi;have := hb d;rw [Op.equalIn];simp only [Sem.run_bind,run_underlying hu,Result.andThen_ok,ne_eq,not_true_eq_false,if_false,typeInfo,run_program,hi,hc,Sem.run_pure,Bool.not_true,Bool.false_eq_true];exact this
    ·cases hc
   ·have hne : tx ≠ ty := fun e=>by subst e; rw [show Nat.beq tx tx = true from Nat.beq_refl tx] at h0; cases h0
    exact ⟨false,fun d=>by simp [Op.equalIn,run_underlying hu,hne],h5⟩
  ·obtain rfl := zjg hy;exact ⟨false,fun d=>by simp [Op.equalIn,run_underlying hu],h⟩
  ·cases h
 ·obtain rfl := zjg hx;split at h
  ·obtain ⟨vy,rfl,_⟩ := zfq hy;exact ⟨false,fun d=>by simp [Op.equalIn,run_underlying hu],h⟩
  ·cases h
 ·cases h
theorem zkg {t : TypeId} {ux uy : Value} {b : Bool} {o : BinOp} (ho : o = .eql ∨ o = .neq) (hb : ∀ d,(Op.equalIn (d + 2) t ux uy).run P w = .ok b w) (hs : (∃ tx v,ux = .iface tx v) ∨ ux = .nilIface) :
  (binOp o t ux uy).run P w = .ok (.bool (eqb o b)) w:=by
 have e : (Op.equal t ux uy).run P w = .ok b w := hb 9998;rcases ho with rfl | rfl <;> rcases hs with ⟨tx,v,rfl⟩ | rfl <;> simp only [binOp,Sem.run_bind,Sem.run_map,e,Result.andThen_ok,Sem.run_pure,eqb]
theorem zrb {us : List Value} {t : TypeId} {f : Nat} {u : Value} {d : TypeDesc} (hu : P.underlying t = some d) (hd : (∀ fs,d ≠ .struct fs)∧∀ n e,d ≠ .array n e) (hj : us[f]? = some u) : (part t us.toArray f).run P w = .ok u w:=by
 have ha : (isAgg t).run P w = .ok false w:=by
  simp only [isAgg,Sem.run_bind,run_underlying hu,Result.andThen_ok];cases d <;> first | exact absurd rfl (hd.1 _) | exact absurd rfl (hd.2 _ _) | rfl
 simp only [part,Sem.run_bind,ha,Result.andThen_ok,Bool.false_eq_true,if_false,List.getElem?_toArray,hj,Sem.run_pure]
theorem ztu {xs ys : List AV} {uxs uys : List Value} {k : Bool→Option R} : ∀ (fs : List Field),eqFs P xs ys fs k = some r→zjs fs = true→RepL g w uxs xs→RepL g w uys ys →
  ∃ b,(∀ d,(Op.eqFields (d + 1) uxs.toArray uys.toArray fs).run P w = .ok b w)∧k b = some r:=by
 intro fs
 induction fs with
 | nil=>intro h _ _ _; exact ⟨true,fun d=>rfl,h⟩
 | cons f fs ih =>
  intro h hn hx hy;simp only [eqFs] at h;obtain ⟨a,ha,h1⟩ := za2 h;obtain ⟨b,hb,h2⟩ := za2 h1;obtain ⟨h3,h4⟩ := zai h2;clear h h1 h2;rw [Bool.and_eq_true] at h3;rw [zci] at ha hb;obtain ⟨ua,hua,hra⟩ := hx.get ha;obtain ⟨ub,hub,hrb⟩ := hy.get hb;obtain ⟨e,he,h5⟩ := zpa h4 h3.1 hra hrb;have hnb : f.name ≠ "_"∧zjs fs = true:=by
   unfold zjs at hn;split at hn
   ·cases hn
   ·rename_i hh; exact ⟨by simpa using hh,hn⟩
  have hund : ∃ d,P.underlying f.type = some d∧(∀ fs,d ≠ .struct fs)∧∀ n e,d ≠ .array n e:=by
   have h3' := h3.1;cases a with
   | int i n=>obtain ⟨kk,hk⟩ := zsc h3'; exact ⟨_,hk,by simp,by simp⟩
   | str s=>exact ⟨_,zmq h3',by simp,by simp⟩
   | bool s=>exact ⟨_,zjo h3',by simp,by simp⟩
   | _=>cases h3'
  obtain ⟨dd,hd1,hd2⟩ := hund;have pa := zrb (w := w) hd1 hd2 hua;have pb := zrb (w := w) hd1 hd2 hub;cases e with
  | true =>
   obtain ⟨b',hb',hk⟩ := ih h5 hnb.2 hx hy;refine ⟨b',fun d=>?_,hk⟩;simp only [Op.eqFields,ne_eq,hnb.1,not_false_eq_true,if_true,Sem.run_bind,pa,pb,he d,Result.andThen_ok,Bool.not_true,Bool.false_eq_true,if_false];exact hb' d
  | false =>
   refine ⟨false,fun d=>?_,h5⟩;simp only [Op.eqFields,ne_eq,hnb.1,not_false_eq_true,if_true,Sem.run_bind,pa,pb,he d,Result.andThen_ok,Bool.not_false,Sem.run_pure]
theorem zp5 {op : BinOp} {t : TypeId} {xo yo : Operand} {ux uy : Value} {x y : AV} {k : AV→Option R} (h : zdu P op t (zey xo) (zey yo) x y k = some r)
  (hx : Rep g w ux x) (hy : Rep g w uy y) : ∃ u v,(do eqGuard op t xo yo ux uy; binOp op t ux uy : Sem Value).run P w = .ok u w∧Rep g w u v∧k v = some r:=by
 cases x with
 | bool b1 =>
  simp only [zdu] at h;obtain ⟨b2,rfl,h⟩ := bool?_some h;obtain rfl := zc2 hx;obtain rfl := zc2 hy;simp only [Sem.run_bind,zcl (P := P) (w := w) (a := Value.bool b1) (by simp) (by simp),Result.andThen_ok];split at h
  ·rename_i hu;split at h
   ·exact ⟨_,_,run_eql_bool w t b1 b2 hu,.bool _,h⟩
   ·exact ⟨_,_,run_neq_bool w t b1 b2 hu,.bool _,h⟩
   ·cases h
  ·cases h
 | nilp =>
  obtain rfl := zn3 hx;simp only [Sem.run_bind,zcl (P := P) (w := w) (a := Value.pointer none) (by simp) (by simp),Result.andThen_ok];cases y with
  | nilp =>
   simp only [zdu] at h;obtain rfl := zn3 hy;split at h
   ·rename_i e hu;have hu' : P.underlying t = some (.pointer (P.pointee t)) := by rw [hu]; simp [Program.pointee,hu]
    split at h
    ·exact ⟨_,_,run_eql_pointer_nil w t none hu',.bool true,h⟩
    ·exact ⟨_,_,run_neq_pointer_nil w t none hu',.bool false,h⟩
    ·cases h
   ·cases h
  | _=>cases h
 | ptr id off =>
  obtain ⟨B,hB,rfl⟩ := zfo hx;simp only [Sem.run_bind,zcl (P := P) (w := w) (a := Value.pointer (some ⟨B,off,none⟩)) (by simp) (by simp),Result.andThen_ok];cases y with
  | nilp =>
   simp only [zdu] at h;obtain rfl := zn3 hy;split at h
   ·rename_i e hu;have hu' : P.underlying t = some (.pointer (P.pointee t)) := by rw [hu]; simp [Program.pointee,hu]
    split at h
    ·exact ⟨_,_,run_eql_pointer_nil w t (some ⟨B,off,none⟩) hu',.bool false,h⟩
    ·exact ⟨_,_,run_neq_pointer_nil w t (some ⟨B,off,none⟩) hu',.bool true,h⟩
    ·cases h
   ·cases h
  | _=>cases h
 | int i a =>
  simp only [zdu,opBin] at h;obtain ⟨j,b,rfl,h⟩ := int?_some h;obtain rfl := zbc hx;obtain rfl := zbc hy;simp only [Sem.run_bind,zcl (P := P) (w := w) (a := Value.int i a) (by simp) (by simp),Result.andThen_ok];split at h
  ·obtain ⟨h0,h⟩ := zjm h;have h0' : ¬ b < 0 := by simpa using h0
   exact ⟨_,_,by simp [binOp,Op.shift,h0']; rfl,.int _ _,h⟩
  ·obtain ⟨h0,h⟩ := zjm h;have h0' : ¬ b < 0 := by simpa using h0
   exact ⟨_,_,by simp [binOp,Op.shift,h0']; rfl,.int _ _,h⟩
  ·obtain ⟨h0,h1⟩ := zai (show br (zdn i j) (zsy op i a b k) Option.none = some r from h);obtain rfl := zes h0;exact zq9 t h1
 | str s =>
  simp only [zdu,opBin] at h;obtain ⟨b,rfl,h⟩ := str?_some h;obtain ⟨s1,rfl,rfl⟩ := zca hx;obtain ⟨s2,rfl,rfl⟩ := zca hy;simp only [Sem.run_bind,zcl (P := P) (w := w) (a := Value.string s1) (by simp) (by simp),Result.andThen_ok];exact zq2 t h
 | iface tx v =>
  obtain ⟨vx,rfl,hvx⟩ := zfq hx;simp only [Sem.run_bind,zcl (P := P) (w := w) (a := Value.iface tx vx) (by simp) (by simp),Result.andThen_ok];simp only [zdu] at h;split at h
  ·rename_i ms hu;obtain ⟨b,hb,hk⟩ := zhb (w := w) (g := g) hu h (.iface tx vx v hvx) hy;exact zg9 (fun o ho=>zkg ho hb (.inl ⟨_,_,rfl⟩)) hk
  ·cases h
 | nilI =>
  obtain rfl := zjg hx;simp only [zdu] at h;split at h
  ·rename_i ms hu;split at h
   ·obtain rfl := zjg hy;obtain ⟨h0,h1⟩ := zai h;have hg : (eqGuard op t xo yo Value.nilIface Value.nilIface).run P w = .ok () w:=by
     have hc : (zey xo || zey yo) = true := h0;cases op <;> simp only [eqGuard] <;> first | (simp; done) | skip
     all_goals
      cases xo <;> cases yo <;> simp [zey] at hc ⊢
    simp only [Sem.run_bind,hg,Result.andThen_ok];have hq : ∀ d,(Op.equalIn (d + 2) t Value.nilIface Value.nilIface).run P w = .ok true w := fun d=>by simp [Op.equalIn,run_underlying hu]
    exact zg9 (fun o ho=>zkg ho hq (.inr rfl)) h1
   ·have hg : ∀ uy',Rep g w uy' y→uy' ≠ .nilIface→(eqGuard op t xo yo Value.nilIface uy').run P w = .ok () w:=by
     intro uy' _ hne;cases op <;> simp only [eqGuard] <;> first | (simp; done) | skip
     all_goals
      cases uy' <;> first | exact absurd rfl hne | (simp; done)
    have hne : uy ≠ .nilIface:=by
     rintro rfl;rename_i hny;cases hy <;> first | exact hny rfl | (cases h; done)
    simp only [Sem.run_bind,hg uy hy hne,Result.andThen_ok];obtain ⟨b,hb,hk⟩ := zhb (w := w) (g := g) hu h .nilI hy;exact zg9 (fun o ho=>zkg ho hb (.inr rfl)) hk
  ·cases h
 | agg xs =>
  simp only [zdu] at h;obtain ⟨ys,rfl,h1⟩ := agg?_some h;clear h;obtain ⟨uxs,rfl,_,hrx⟩ := zfy hx;obtain ⟨uys,rfl,_,hry⟩ := zfy hy;split at h1
  ·rename_i fs hfs;obtain ⟨h2,h3⟩ := zai h1;simp only [Bool.and_eq_true,Bool.not_eq_true'] at h2;obtain ⟨h4,h5,h6⟩ := h2;have hu : P.underlying t = some (.struct (P.fieldsOf t))∧(P.fieldsOf t).toList = fs:=by
    unfold zf2 at hfs;unfold Program.fieldsOf;split at hfs
    ·rename_i fa hu;injection hfs with hfs;rw [hu];exact ⟨rfl,hfs⟩
    ·cases hfs
   simp only [Sem.run_bind,run_eqGuard_agg w op t xo yo uxs.toArray uys.toArray h4,Result.andThen_ok];obtain ⟨b,hb,hk⟩ := ztu fs h3 h6 hrx hry;have he : ∀ d,(Op.equalIn (d + 2) t (.agg uxs.toArray) (.agg uys.toArray)).run P w = .ok b w := fun d=>by
    rw [run_equalIn_struct w (d + 1) t _ _ hu.1 h5,hu.2]; exact hb d
   refine zg9 (fun o ho=>?_) hk;rcases ho with rfl | rfl
   ·rw [run_eql_struct,he 9998]; rfl
   ·rw [run_neq_struct,he 9998]; rfl
  ·cases h1
 | _=>cases h
theorem zte {op : UnOp} {ux : Value} {x : AV} {k : AV→Option R} (h : opUn op x k = some r) (hx : Rep g w ux x) :
  ∃ u v,(Op.unary op ux).run P w = .ok u w∧Rep g w u v∧k v = some r:=by
 unfold opUn at h;split at h
 ·obtain ⟨i,n,rfl,h⟩ := int?_some h;obtain rfl := zbc hx;exact ⟨_,_,by simp [Op.unary,Op.intArith],.int i (i.wrap (0 - n)),h⟩
 ·obtain ⟨i,n,rfl,h⟩ := int?_some h;obtain rfl := zbc hx;exact ⟨_,_,by simp [Op.unary,Op.intBits,bits],.int i (bits .xor i (if i.signed then -1 else i.max) n),h⟩
 ·obtain ⟨b,rfl,h⟩ := bool?_some h;obtain rfl := zc2 hx;exact ⟨_,_,by simp [Op.unary],.bool _,h⟩
 ·cases h
end ops
end
section
section
variable {g0 : G} {w0 : World} {Ex : Nat→Prop} {g : G} {S : St} {a : Act} {w : World} {P : Program} {R : Type} {r : R} {o : Oper}
def zb3 (P : Program) (o : Oper) (a : Act) (w : World) (g0 : G) (w0 : World) (Ex : Nat→Prop) (k : St→Option R) (r : R) : Prop :=
 ∃ (n : Next) (u : Value) (w' : World) (S' : St),(execOp a.eval o).run P w = .ok n w'∧(n = .value u ∨ (n = .skip∧u = undef))∧Good g0 w0 Ex S' (a.put o.dst u) w'∧k S' = some r
theorem zb3.mk {k : St→Option R} {u : Value} {w' : World} {S' : St} (h : (execOp a.eval o).run P w = .ok (.value u) w') (hg : Good g0 w0 Ex S' (a.put o.dst u) w') (hk : k S' = some r) :
  zb3 P o a w g0 w0 Ex k r := ⟨_,u,w',S',h,.inl rfl,hg,hk⟩
theorem zb3.val (h : Rel g0 w0 Ex g S a w) {k : St→Option R} {u : Value} {v : AV} (he : (execOp a.eval o).run P w = .ok (.value u) w) (hr : Rep g w u v)
  (hk : k (S.putd o.dst (.val v .no)) = some r) : zb3 P o a w g0 w0 Ex k r :=
 .mk he ⟨g,h.putv (f := .no) o.dst hr (fun _ _=>trivial) (by simp) (by simp)⟩ hk
theorem zhx : ∀ {l : List Value},zlq l = true→∀ u ∈ l,u.oneCell' = true
 | [],_,u,hu=>by cases hu
 | x :: l,h,u,hu=>by
  have hx : x.oneCell' = true∧zlq l = true := by cases x <;> simp_all [zlq,Value.oneCell']
  rcases List.mem_cons.1 hu with rfl | hu
  ·exact hx.1
  ·exact zhx hx.2 u hu
theorem zdz (t : TypeId) (c : Value) : Rep g w c (zdp P t c):=by
 unfold zdp;split
 ·rename_i cs;split
  ·rename_i h1;obtain ⟨h2,h3⟩ := zkd (g := g) (w := w) (zk3 P 8 t) cs.toList;have := Rep.agg (g := g) (w := w) cs.toList _ h2 (zhx h1) h3
   simpa using this
  ·exact .undef _
 ·exact zfm _ _
theorem Rel.ev (h : Rel g0 w0 Ex g S a w) (x : Operand) : Rep g w (a.eval x) (S.ev x):=by
 cases x with
 | tmp t =>
  show Rep g w _ (S.slot t).av;cases hs : S.slot t with
  | und=>exact .undef _
  | lp d off=>exact .undef _
  | mp d=>exact .undef _
  | val v f=>exact (h.slotv hs).1
 | const c=>exact zfm 0 c
 | global _=>exact .undef _
 | func f=>exact .func f [] [] rfl (by simp)
theorem Rel.evT (h : Rel g0 w0 Ex g S a w) (t : TypeId) (x : Operand) : Rep g w (a.eval x) (evT P S t x):=by
 cases x with
 | const c=>exact zdz t c
 | tmp t=>exact h.ev (.tmp t)
 | global t=>exact h.ev (.global t)
 | func f=>exact h.ev (.func f)
theorem zb7 {t : TypeId} {d : TypeDesc} (h : P.underlying t = some d) : (underlying t).run P w = .ok d w:=by
 simp [underlying,h]
theorem zgn {t : TypeId} {d : TypeDesc} (h : P.underlying t = some d) : ∃ i,P.info? t = some i:=by
 unfold Program.underlying at h;cases hi : P.info? t with
 | none=>rw [hi] at h; cases h
 | some i=>exact ⟨i,rfl⟩
theorem zgd {t : TypeId} {i : TypeInfo} (h : P.info? t = some i) : (sizeOf t).run P w = .ok (zaj P t) w:=by
 simp [sizeOf,typeInfo,h,zaj]
theorem zbx {t : TypeId} (h : zaj P t ≠ 0) : (sizeOf t).run P w = .ok (zaj P t) w:=by
 cases hi : P.info? t with
 | none=>simp [zaj,hi] at h
 | some i=>exact zgd hi
theorem zqk {t : TypeId} (h : zaj P t ≠ 0) : ∃ i,P.info? t = some i∧i.size = zaj P t∧i.bytes = zcu P t:=by
 cases hi : P.info? t with
 | none=>simp [zaj,hi] at h
 | some i=>exact ⟨i,rfl,by simp [zaj,hi],by simp [zcu,hi]⟩
theorem zeg {t : TypeId} {k : Bool→Option R} (h : zht P t k = some r) : ∃ ag d,P.underlying t = some d∧k ag = some r∧∀ w,(isAgg t).run P w = .ok ag w:=by
 unfold zht at h;split at h
 ·rename_i fs hu; exact ⟨true,_,hu,h,fun w=>by simp [isAgg,zb7 hu]⟩
 ·rename_i n e hu; exact ⟨true,_,hu,h,fun w=>by simp [isAgg,zb7 hu]⟩
 ·rename_i d hn1 hn2 hu;refine ⟨false,d,hu,h,fun w=>?_⟩;simp only [isAgg,Sem.run_bind,zb7 hu,Result.andThen_ok];cases d <;> first | exact absurd rfl (hn1 _) | exact absurd rfl (hn2 _ _) | rfl
 ·cases h
theorem zay {a b : Nat} (h : Nat.beq a b = true) : a = b := beqN h
theorem zc3 {a b : Nat} (h : Nat.ble a b = true) : a ≤ b := Nat.le_of_ble_eq_true h
theorem RepL.drop {us : List Value} {cs : List AV} (h : RepL g w us cs) (n : Nat) : RepL g w (us.drop n) (cs.drop n) :=
 ⟨by simp [h.1],fun j u c hu hc=>h.2 (n + j) u c (by simpa [List.getElem?_drop] using hu) (by simpa [List.getElem?_drop] using hc)⟩
theorem RepL.take {us : List Value} {cs : List AV} (h : RepL g w us cs) (n : Nat) : RepL g w (us.take n) (cs.take n):=by
 refine ⟨by simp [h.1],fun j u c hu hc=>?_⟩;rw [List.getElem?_take] at hu hc;split at hu
 ·rename_i hj; rw [if_pos hj] at hc; exact h.2 j u c hu hc
 ·cases hu
theorem RepL.append {us us' : List Value} {cs cs' : List AV} (h : RepL g w us cs) (h' : RepL g w us' cs') : RepL g w (us ++ us') (cs ++ cs'):=by
 refine ⟨by simp [h.1,h'.1],fun j u c hu hc=>?_⟩;rw [List.getElem?_append] at hu hc;rw [← h.1] at hc;split at hu
 ·rename_i hj; rw [if_pos hj] at hc; exact h.2 j u c hu hc
 ·rename_i hj; rw [if_neg hj] at hc; exact h'.2 _ u c hu hc
theorem zip {t : TypeId} {us : List Value} {cs : List AV} {off : Nat} {k : AV→Option R} {d : TypeDesc} {ag : Bool} (hu : P.underlying t = some d) (hag : ∀ w,(isAgg t).run P w = .ok ag w)
  (h1 : ∀ u ∈ us,u.oneCell' = true) (hr : RepL g w us cs) (h : zh4 ag (zaj P t) cs off k = some r) :
  ∃ u v,(part t us.toArray off).run P w = .ok u w∧Rep g w u v∧k v = some r:=by
 obtain ⟨i,hi⟩ := zgn hu;cases ag with
 | true =>
  simp only [zh4] at h;obtain ⟨h0,h⟩ := zai h;have h0' := zc3 h0;refine ⟨.agg ((us.drop off).take (zaj P t)).toArray,_,?_,.agg _ _ ((hr.drop off).take _).1 (fun u hu=>h1 u (List.mem_of_mem_drop (List.mem_of_mem_take hu))) ((hr.drop off).take _).2,h⟩;simp only [part,Sem.run_bind,hag,Result.andThen_ok,if_true,zgd hi,Sem.run_pure]
  congr 2
  apply Array.ext';simp [List.take_drop]
 | false =>
  simp only [zh4] at h;obtain ⟨c,hc,h⟩ := za2 h;rw [zci] at hc;obtain ⟨u,hu2,hrep⟩ := hr.get hc;refine ⟨u,c,?_,hrep,h⟩;simp [part,hag,hu2]
theorem zin {t : TypeId} {fs : List Field} (h : zf2 P t = some fs) : ∃ a,P.underlying t = some (.struct a)∧a.toList = fs:=by
 unfold zf2 at h;split at h
 ·rename_i a hu; injection h with h; exact ⟨a,hu,h⟩
 ·cases h
theorem znu {t : TypeId} {ux : Value} {x : AV} {fi : Nat} {k : AV→Option R} (h : zkw P t x fi k = some r) (hx : Rep g w ux x) :
  ∃ u v,(Instr.field t ux fi).run P w = .ok u w∧Rep g w u v∧k v = some r:=by
 unfold zkw at h;split at h
 ·cases h
 ·rename_i fs hfs;obtain ⟨fa,hu,rfl⟩ := zin hfs;split at h
  ·cases h
  ·rename_i f hf;obtain ⟨cs,rfl,h3⟩ := agg?_some h;obtain ⟨ag,d,hd,h4,hag⟩ := zeg h3;obtain ⟨us,rfl,h1,hr⟩ := zfy hx;obtain ⟨u,v,he,hrep,hk⟩ := zip hd hag h1 hr h4;refine ⟨u,v,?_,hrep,hk⟩;have hf' : fa[fi]? = some f := by simpa using hf
   simp only [Instr.field,Sem.run_bind,zb7 hu,Result.andThen_ok,hf',asAgg,Sem.run_pure,he]
theorem str_get {s : ByteArray} {i : Nat} : s[i]? = s.data.toList[i]?:=by
 by_cases h : i < s.size
 ·rw [ByteArray.getElem?_lt' s i h];have h2 : i < s.data.toList.length := by rw [Array.length_toList]; exact h
  rw [List.getElem?_eq_getElem h2];simp [ByteArray.getElem_eq_getElem_data]
 ·rw [ByteArray.getElem?_ge' s i h];rw [List.getElem?_eq_none];rw [Array.length_toList]; exact Nat.le_of_not_lt h
theorem zni {t : TypeId} {ux ui : Value} {x ix : AV} {k : AV→Option R} (h : znx P t x ix k = some r) (hx : Rep g w ux x) (hi : Rep g w ui ix) :
  ∃ u v,(Instr.index t ux ui).run P w = .ok u w∧Rep g w u v∧k v = some r:=by
 unfold znx at h;obtain ⟨ik,i,rfl,h3⟩ := int?_some h;obtain rfl := zbc hi;split at h3
 ·rename_i hu;obtain ⟨s,rfl,h4⟩ := str?_some h3;obtain ⟨h0,h5⟩ := zai h4;obtain ⟨b,hb,h6⟩ := za2 h5;obtain ⟨s,rfl,rfl⟩ := zca hx;have h0' : 0 ≤ i := by simpa using h0
  refine ⟨.int .u8 b.toNat,_,?_,.int _ _,h6⟩;have hb' : s[i.toNat]? = some b := by rw [str_get]; exact hb
  simp only [Instr.index,asIntOf,Sem.run_bind,Sem.run_pure,Result.andThen_ok,zb7 hu,if_pos h0',hb']
 ·rename_i len e hu;obtain ⟨cs,rfl,h4⟩ := agg?_some h3;obtain ⟨h0,h5⟩ := zai h4;obtain ⟨h2,h6⟩ := zai h5;obtain ⟨ag,d,hd,h7,hag⟩ := zeg h6;obtain ⟨us,rfl,h1,hr⟩ := zfy hx;have h0' : 0 ≤ i := by simpa using h0
  have h2' : i < len := by simpa using h2
  obtain ⟨inf,hinf⟩ := zgn hd;obtain ⟨u,v,he,hrep,hk⟩ := zip hd hag h1 hr h7;refine ⟨u,v,?_,hrep,hk⟩;simp only [Instr.index,asIntOf,Sem.run_bind,Sem.run_pure,Result.andThen_ok,zb7 hu,if_pos (And.intro h0' h2'),Sem.run_ite,zgd hinf,he]
 ·cases h3
theorem zw3 {c x y : Operand} {k : St→Option R} (ho : o.op = .pick c x y) (h : zot o c x y S k = some r) (hg : Rel g0 w0 Ex g S a w) :
  zb3 P o a w g0 w0 Ex k r:=by
 unfold zot at h;obtain ⟨t,ht,h⟩ := bool?_some h;have hc := hg.ev c;rw [ht] at hc;have hc' := zc2 hc;rcases zgs h with ⟨rfl,h⟩ | ⟨rfl,h⟩
 ·exact .val hg (by simp [execOp,ho,hc',asBool]) (hg.ev x) h
 ·exact .val hg (by simp [execOp,ho,hc',asBool]) (hg.ev y) h
theorem ze4 (mx : Bool) (hg : Rel g0 w0 Ex g S a w) {k : AV→Option R} : ∀ (l : List Operand) (u : Value) (x : AV),Rep g w u x→zh0 mx P S x l k = some r →
  ∃ u' v,((l.map a.eval).foldlM (match mx with | true=>Builtin.max2 | false=>Builtin.min2) u).run P w = .ok u' w∧Rep g w u' v∧k v = some r
 | [],u,x,hr,h=>⟨u,x,by simp,hr,h⟩
 | y :: l,u,x,hr,h=>by
  simp only [zh0] at h;obtain ⟨i,n,hx,h3⟩ := int?_some h;obtain ⟨j,m,hy,h4⟩ := int?_some h3;clear h h3;have h := h4;clear h4;have hry := hg.ev y;rw [hy] at hry;rw [hx] at hr;obtain rfl := zbc hr;have hry' := zbc hry;cases mx with
  | true =>
   obtain ⟨u',v,he,hrep,hk⟩ := ze4 true hg l (.int i (if n < m then m else n)) _ (.int i _) h;refine ⟨u',v,?_,hrep,hk⟩;simp only [List.map_cons,List.foldlM_cons,hry',Builtin.max2,Sem.run_bind,Sem.run_pure,Result.andThen_ok];exact he
  | false =>
   obtain ⟨u',v,he,hrep,hk⟩ := ze4 false hg l (.int i (if m < n then m else n)) _ (.int i _) h;refine ⟨u',v,?_,hrep,hk⟩;simp only [List.map_cons,List.foldlM_cons,hry',Builtin.min2,Sem.run_bind,Sem.run_pure,Result.andThen_ok];exact he
theorem ze2 {u : Value} {sz : Nat} {tg : Bool} {l : List AV} (h : Rep g w u (.vs sz tg l)) : ((∃ p,u = .slice p 0 0)∧l = []) ∨
  ∃ B off cap vals,u = .slice (some ⟨B,off,none⟩) l.length cap∧(∀ x ∈ l,x.cells.length = sz)∧(tg = true→cap = l.length)∧l.length ≤ cap ∧
   (∀ (j : Nat) (u : Value),vals[j]? = some u→w.cell? ⟨B,off + j,none⟩ = some u∧off + j < g.pub B∧u.oneCell' = true)∧RepL g w vals (l.flatMap AV.cells):=by
 cases h
 ·exact .inl ⟨⟨_,rfl⟩,rfl⟩
 ·exact .inr ⟨_,_,_,_,rfl,‹_›,‹_›,‹_›,‹_›,‹_›,‹_›⟩
theorem zg6 {u : Value} {sz : Nat} {tg : Bool} {l : List AV} (h : Rep g w u (.vs sz tg l)) : ∃ p cap,u = .slice p l.length cap∧l.length ≤ cap:=by
 rcases ze2 h with ⟨⟨p,rfl⟩,rfl⟩ | ⟨B,off,cap,vals,rfl,_,_,hc,_⟩
 ·exact ⟨p,0,rfl,Nat.le_refl _⟩
 ·exact ⟨_,cap,rfl,hc⟩
theorem zjr {u : Value} {id off len sz : Nat} (h : Rep g w u (.arr id off len sz)) : ∃ B cap,g.role B = .h id∧u = .slice (some ⟨B,off,none⟩) len cap∧len ≤ cap:=by
 cases h; exact ⟨_,_,‹_›,rfl,‹_›⟩
theorem zqi {t ty : TypeId} {u : Value} {v : AV} {k : Nat→Option R} (h : lenOf P t v k = some r) (hr : Rep g w u v) :
  ∃ n : Nat,(Builtin.len_ #[t] ty #[u]).run P w = .ok (.int .i64 (n : Int)) w∧k n = some r:=by
 unfold lenOf at h;split at h
 ·rename_i hu;obtain ⟨s,rfl,h3⟩ := str?_some h;obtain ⟨s,rfl,rfl⟩ := zca hr;refine ⟨_,?_,h3⟩;have e : s.size = s.data.toList.length := by rw [Array.length_toList]; rfl
  simp only [Builtin.len_,List.getElem?_toArray,List.getElem?_cons_zero,Sem.run_bind,zb7 hu,Result.andThen_ok,goInt,Sem.run_pure,e]
 ·rename_i e hu;split at h
  ·rename_i z tg l;obtain ⟨p,cap,rfl,_⟩ := zg6 hr;exact ⟨l.length,by simp only [Builtin.len_,List.getElem?_toArray,List.getElem?_cons_zero,Sem.run_bind,zb7 hu,Result.andThen_ok,goInt,Sem.run_pure],h⟩
  ·rename_i id off len z;obtain ⟨B,cap,_,rfl,_⟩ := zjr hr;exact ⟨len,by simp only [Builtin.len_,List.getElem?_toArray,List.getElem?_cons_zero,Sem.run_bind,zb7 hu,Result.andThen_ok,goInt,Sem.run_pure],h⟩
  ·cases h
 ·rename_i n e hu;refine ⟨_,?_,h⟩;cases u <;> simp only [Builtin.len_,List.getElem?_toArray,List.getElem?_cons_zero,Sem.run_bind,zb7 hu,Result.andThen_ok,goInt,Sem.run_pure]
 ·cases h
theorem zqx {x : Operand} {k : St→Option R} (ho : o.op = .move x) (h : zhm P o x S k = some r) (hg : Rel g0 w0 Ex g S a w) :
  zb3 P o a w g0 w0 Ex k r:=by
 have he : (execOp a.eval o).run P w = .ok (.value (a.eval x)) w := by simp [execOp,ho]
 unfold zhm at h;split at h
 ·rename_i t;have hs := hg.sl t;unfold zc6 at h;cases hst : S.slot t with
  | und=>rw [hst] at h; exact .mk he ⟨g,hg.putlp o.dst (.inl rfl)⟩ h
  | lp d off =>
   rw [hst] at h hs;obtain ⟨B,h1,h2⟩ := hs;exact .mk he ⟨g,hg.putlp o.dst (.inr (.inl ⟨d,off,B,rfl,h1,h2⟩))⟩ h
  | mp d =>
   rw [hst] at h hs;obtain ⟨B,h1,h2⟩ := hs;exact .mk he ⟨g,hg.putlp o.dst (.inr (.inr ⟨d,B,rfl,h1,h2⟩))⟩ h
  | val v f =>
   rw [hst] at h hs;obtain ⟨h1,h2⟩ := hs;cases f with
   | own =>
    refine .mk he ⟨g,hg.putv o.dst h1 (fun d _=>?_) (by simp) (by simp)⟩ h;intro v' fq _ hv';rw [hst] at hv';injection hv' with e1 e2;exact ⟨rfl,e1.symm⟩
   | ownS=>exact .mk he ⟨g,hg.putv (f := .no) o.dst h1 (fun d _=>trivial) (by simp) (by simp)⟩ h
   | comps cs =>
    refine .mk he ⟨g,hg.putv (f := .lS t) o.dst h1 (fun d _=>?_) (by simp) (by simp)⟩ h;intro v' fq _ hv';rw [hst] at hv';injection hv' with e1 e2;exact ⟨rfl,e1.symm⟩
   | no=>exact .mk he ⟨g,hg.putv (f := .no) o.dst h1 (fun _ _=>trivial) (by simp) (by simp)⟩ h
   | lS q=>exact .mk he ⟨g,hg.putv (f := .lS q) o.dst h1 (fun _ _=>h2) (by simp) (by simp)⟩ h
   | lL d off=>exact .mk he ⟨g,hg.putv (f := .lL d off) o.dst h1 (fun _ _=>h2) (by simp) (by simp)⟩ h
   | lH id off=>exact .mk he ⟨g,hg.putv (f := .lH id off) o.dst h1 (fun _ _=>h2) (by simp) (by simp)⟩ h
 ·exact .val hg he (zdz _ _) h
 ·exact .val hg he (.func _ [] [] rfl (by simp)) h
 ·cases h
theorem zjl {u : Value} {cs : List AV} (h : Rep g w u (.cptr cs)) : ∃ B off vals,u = .pointer (some ⟨B,off,none⟩) ∧
   (∀ (j : Nat) (u : Value),vals[j]? = some u→w.cell? ⟨B,off + j,none⟩ = some u∧off + j < g.pub B∧u.oneCell' = true)∧RepL g w vals cs:=by
 cases h; exact ⟨_,_,_,rfl,‹_›,‹_›,‹_›⟩
theorem zka {x : Operand} {k : St→Option R} (ho : o.op = .nilCheck x) (h : zb6 o x S k = some r) (hg : Rel g0 w0 Ex g S a w) :
  zb3 P o a w g0 w0 Ex k r:=by
 unfold zb6 at h;split at h
 ·rename_i t;have hs := hg.sl t;split at h
  ·rename_i d off hst;rw [hst] at hs;obtain ⟨B,h1,h2⟩ := hs;have h2' : a.eval (.tmp t) = .pointer (some ⟨B,off,none⟩) := h2;exact .mk (by simp [execOp,ho,h2']) ⟨g,hg.putlp o.dst (.inr (.inl ⟨d,off,B,rfl,h1,rfl⟩))⟩ h
  ·rename_i v f hst;rw [hst] at hs;obtain ⟨h1,_⟩ := hs;split at h
   ·obtain ⟨B,hB,h2⟩ := zfo h1;have h2' : a.eval (.tmp t) = _ := h2;rw [h2] at h1;exact .val hg (by simp [execOp,ho,h2']) h1 h
   ·obtain ⟨B,off,vals,hev,_⟩ := zjl h1;have h2' : a.eval (.tmp t) = .pointer (some ⟨B,off,none⟩) := hev;rw [hev] at h1;exact .val hg (by simp [execOp,ho,h2']) h1 h
   ·obtain ⟨us,h2,h4⟩ := zs4 h1;have hn : us = [] := List.eq_nil_of_length_eq_zero (by simpa using h4.1);subst hn;have h2' : a.eval (.tmp t) = _ := h2;rw [h2] at h1;exact .val hg (by simp [execOp,ho,h2']) h1 h
   ·cases h
  ·cases h
 ·rename_i f;exact .val hg (u := .func (.func f) #[] #[]) (by simp [execOp,ho,Act.eval]) (.func f [] [] rfl (by simp)) h
 ·cases h
end
end
section
theorem zbj {n : Nat} : ∀ {l : List Nat},memN n l = true ↔ n ∈ l
 | []=>by simp [memN]
 | m :: l=>by
  have ih := zbj (n := n) (l := l);unfold memN;cases hb : Nat.beq n m with
  | true=>simp [beqN hb]
  | false =>
   have hne : n ≠ m := fun e=>by subst e; rw [show Nat.beq n n = true from Nat.beq_refl n] at hb; cases hb
   simp [hne,ih]
theorem zcx {n m : Nat} : ∀ {l : List Nat},m ∈ delN n l ↔ m ∈ l∧m ≠ n
 | []=>by simp [delN]
 | x :: l=>by
  have ih := zcx (n := n) (m := m) (l := l);unfold delN;cases hb : Nat.beq n x with
  | true =>
   obtain rfl := beqN hb;simp only [ih,List.mem_cons];constructor
   ·rintro ⟨h1,h2⟩; exact ⟨.inr h1,h2⟩
   ·rintro ⟨h1 | h1,h2⟩
    ·exact absurd h1 h2
    ·exact ⟨h1,h2⟩
  | false =>
   have hne : n ≠ x := fun e=>by subst e; rw [show Nat.beq n n = true from Nat.beq_refl n] at hb; cases hb
   simp only [List.mem_cons,ih];constructor
   ·rintro (rfl | ⟨h1,h2⟩)
    ·exact ⟨.inl rfl,fun e=>hne e.symm⟩
    ·exact ⟨.inr h1,h2⟩
   ·rintro ⟨rfl | h1,h2⟩
    ·exact .inl rfl
    ·exact .inr ⟨h1,h2⟩
section
variable {g0 : G} {w0 : World} {Ex : Nat→Prop} {g : G} {S : St} {a : Act} {w : World} {P : Program} {R : Type} {r : R} {o : Oper}
def zfi (S : St) : Pl→Prop
 | .s t=>∀ v,S.slot t ≠ .val v .own
 | .sc t i=>∀ v cs,S.slot t = .val v (.comps cs)→i ∉ cs
 | .l d off=>∀ b,getL S.L d = some b→off ∉ b.free
 | .h id off=>∀ b,S.H id = some b→off ∉ b.free
 | .r _=>True
 | .ss t=>∀ v,S.slot t ≠ .val v .ownS
 | .rs=>True
theorem Rel.retag (h : Rel g0 w0 Ex g S a w) {p : Pl} (hn : zfi S p) {u : Value} {c : AV} (ho : zas g w p u c) (p' : Pl) (hps : p'.str = true→p.str = true := by simp [Pl.str]) :
    ∃ g',Rel g0 w0 Ex g' S a w∧zas g' w p' u c∧(∀ B id,g'.role B = .h id ↔ g.role B = .h id)∧(∀ B d,g'.role B = .l d ↔ g.role B = .l d)∧g'.pub = g.pub ∧
      (∀ q x y,q ≠ p→zas g w q x y→zas g' w q x y)∧(∀ B,g'.role B = .ext ↔ g.role B = .ext):=by
  have trivialCase : zas g w p' u c→∃ g',Rel g0 w0 Ex g' S a w∧zas g' w p' u c∧(∀ B id,g'.role B = .h id ↔ g.role B = .h id)∧(∀ B d,g'.role B = .l d ↔ g.role B = .l d)∧g'.pub = g.pub ∧
      (∀ q x y,q ≠ p→zas g w q x y→zas g' w q x y)∧(∀ B,g'.role B = .ext ↔ g.role B = .ext) :=
    fun hh=>⟨g,h,hh,fun _ _=>Iff.rfl,fun _ _=>Iff.rfl,rfl,fun _ _ _ _ h=>h,fun _=>Iff.rfl⟩
  cases c with
  | vs sz tg l =>
    rcases ho with hnil | ⟨ad,n,htight⟩ | ⟨B,n,cap,us,e,hu,hrole,hheap,hsz,hle,hpub⟩
    · exact trivialCase (.inl hnil)
    · exact trivialCase (.inr (.inl ⟨ad,n,htight.1.imp (fun h=>by cases hb : p'.str with | false=>rfl | true=>rw [hps hb] at h; cases h) id,htight.2⟩))
    · let g' : G := ⟨fun B'=>if B' = B then .c p' else g.role B',g.pub⟩
      have hr : ∀ B',B' ≠ B→g'.role B' = g.role B' := fun B' hne=>by show (if B' = B then _ else _) = _; rw [if_neg hne]
      have hrB : g'.role B = .c p' := by show (if B = B then _ else _) = _; rw [if_pos rfl]
      have hh : ∀ B' id,g'.role B' = .h id ↔ g.role B' = .h id := fun B' id=>by
        by_cases hb : B' = B
        · subst hb; rw [hrB,hrole]; constructor <;> (intro h; cases h)
        · rw [hr B' hb]
      have hl : ∀ B' d,g'.role B' = .l d ↔ g.role B' = .l d := fun B' id=>by
        by_cases hb : B' = B
        · subst hb; rw [hrB,hrole]; constructor <;> (intro h; cases h)
        · rw [hr B' hb]
      have hext : ∀ B',g'.role B' = .ext ↔ g.role B' = .ext := fun B'=>by
        by_cases hb : B' = B
        · subst hb; rw [hrB,hrole]; constructor <;> (intro h; cases h)
        · rw [hr B' hb]
      have hE : Ext g w g' w := ⟨fun B' id h=>(hh B' id).2 h,fun _=>Nat.le_refl _,fun _ _ _=>rfl⟩;have hown : ∀ q x y,q ≠ p→zas g w q x y→zas g' w q x y:=by
        intro q x y hq hy;cases y with
        | vs sz2 tg2 l2 =>
          rcases hy with h1 | h1 | ⟨B2,n2,cap2,us2,e2,hu2,hrole2,rest⟩
          · exact .inl h1
          · exact .inr (.inl h1)
          · refine .inr (.inr ⟨B2,n2,cap2,us2,e2,hu2,?_,rest⟩);rw [hr B2 (fun e=>by subst e; rw [hrole] at hrole2; injection hrole2 with e; exact hq e.symm)];exact hrole2
        | _=>trivial
      have hBlk : ∀ B' cells,zeh g w B' cells→zeh g' w B' cells := fun B' cells ⟨us,e,h1,h2,h3⟩=>⟨us,e,h1,h2,h3.ext hE⟩;refine ⟨g',⟨?_,?_,?_,fun d l hl'=>(by obtain ⟨B',es,ck,k1,k2,k3⟩ := h.m d l hl'; exact ⟨B',es,ck,(hl B' d).2 k1,k2,k3.ext hE⟩),h.len,fun t=>?_,?_,h.nodef⟩,.inr (.inr ⟨B,n,cap,us,e,hu,hrB,hheap,hsz,hle,hpub⟩),hh,hl,rfl,hown,hext⟩
      · have hBlt : B < w.heap.size := (Array.getElem?_eq_some_iff.1 hheap).1;refine ⟨fun B' hB'=>?_,fun B' id hb=>h.inv.ph B' id ((hh B' id).1 hb),fun B' d hb=>h.inv.pl B' d ((hl B' d).1 hb),fun B1 B2 id h1 h2=>h.inv.injh B1 B2 id ((hh _ _).1 h1) ((hh _ _).1 h2),fun B1 B2 id h1 h2=>h.inv.injl B1 B2 id ((hl _ _).1 h1) ((hl _ _).1 h2)⟩;rw [hr B' (by omega)];exact h.inv.new B' hB'
      · refine ⟨fun id b hb=>?_,fun B' id hb=>h.h.lt B' id ((hh B' id).1 hb)⟩;obtain ⟨B',h1,h2,h3⟩ := h.h.blk id b hb;refine ⟨B',(hh _ _).2 h1,hBlk _ _ h2,fun off hoff x y hx hy=>hown _ _ _ ?_ (h3 off hoff x y hx hy)⟩;intro e;subst e;exact hn b hb hoff
      · intro d b hb;obtain ⟨B',h1,h2,h3⟩ := h.l d b hb;refine ⟨B',(hl _ _).2 h1,hBlk _ _ h2,fun off hoff x y hx hy=>hown _ _ _ ?_ (h3 off hoff x y hx hy)⟩;intro e;subst e;exact hn b hb hoff
      · have hs := h.sl t;cases hst : S.slot t with
        | und=>trivial
        | lp d off=>rw [hst] at hs; obtain ⟨B',h1,h2⟩ := hs; exact ⟨B',(hl _ _).2 h1,h2⟩
        | mp d=>rw [hst] at hs; obtain ⟨B',h1,h2⟩ := hs; exact ⟨B',(hl _ _).2 h1,h2⟩
        | val v f =>
          rw [hst] at hs;obtain ⟨h1,h2⟩ := hs;refine ⟨h1.ext hE,?_⟩;cases f with
          | no=>trivial
          | own=>exact hown _ _ _ (fun e=>by subst e; exact hn v hst) h2
          | ownS=>exact hown _ _ _ (fun e=>by subst e; exact hn v hst) h2
          | lS q=>exact h2
          | lL d off=>intro b hb hoff; obtain ⟨B',h3,h4⟩ := h2 b hb hoff; exact ⟨B',(hl _ _).2 h3,h4⟩
          | lH id off=>intro b hb hoff; obtain ⟨B',h3,h4⟩ := h2 b hb hoff; exact ⟨B',(hh _ _).2 h3,h4⟩
          | comps cs=>intro i hi xs vs xi vi e1 e2 e3 e4; exact hown _ _ _ (fun e=>by subst e; exact hn v cs hst hi) (h2 i hi xs vs xi vi e1 e2 e3 e4)
      · refine ⟨h.fr.ext.trans hE,h.fr.os,h.fr.tape,h.fr.output,h.fr.size,fun B' hB' hx=>h.fr.same B' hB' hx,fun B' hB'=>h.fr.role B' fun e=>hB' ((hext B').2 e)⟩
  | _=>exact trivialCase trivial
theorem Rel.reflag (h : Rel g0 w0 Ex g S a w) {t : Nat} {v : AV} {f f' : Fl} (hs : S.slot t = .val v f) (hf : zt4 g S a w t (a.tmps.getD t undef) v f') (hno : f' ≠ .own) (hlS : ∀ q,f' ≠ .lS q) (hcl : f'.claim = true→f.claim = true := by simp [Fl.claim]) :
    Rel g0 w0 Ex g (S.put t (.val v f')) a w:=by
  have hlt : t < S.sl.length := zcb (by show S.slot t ≠ _; rw [hs]; simp);refine ⟨h.inv,h.h,h.l,h.m,by show (setS S.sl t _).length = _; rw [zaz]; exact h.len,fun t'=>?_,h.fr,h.nodef⟩;have key : ∀ q v' fq,Fl.claim fq = true→(S.put t (.val v f')).slot q = .val v' fq→∃ f2,Fl.claim f2 = true∧S.slot q = .val v' f2:=by
    intro q v' fq hcq hq;rw [zam] at hq;split at hq
    · rename_i hqt;injection hq with e1 e2;subst e1 e2;exact ⟨f,hcl hcq,by rw [hqt.1]; exact hs⟩
    · exact ⟨fq,hcq,hq⟩
  rw [zam];by_cases ht : t' = t∧t < S.sl.length
  · rw [if_pos ht];obtain ⟨rfl,_⟩ := ht;have h1 := h.sl t';rw [hs] at h1;refine ⟨h1.1,?_⟩;cases f' with
    | no=>trivial
    | own=>exact absurd rfl hno
    | ownS=>exact hf
    | lS q=>exact absurd rfl (hlS q)
    | lL d off=>exact hf
    | lH id off=>exact hf
    | comps cs=>exact hf
  · rw [if_neg ht];have h1 := h.sl t';cases hst : S.slot t' with
    | und=>trivial
    | lp d off=>rw [hst] at h1; exact h1
    | mp d=>rw [hst] at h1; exact h1
    | val v2 f2 =>
      rw [hst] at h1;refine ⟨h1.1,?_⟩;have h2 := h1.2;cases f2 with
      | lS q=>exact fun v' fq hcq hq=>(by obtain ⟨f2,k1,k2⟩ := key q v' fq hcq hq; exact h2 v' f2 k1 k2)
      | _=>exact h2
theorem zl4 {x : Operand} {i : Nat} {k : St→Option R} (ho : o.op = .extract x i) (h : zdt o x i S k = some r) (hg : Rel g0 w0 Ex g S a w) :
  zb3 P o a w g0 w0 Ex k r:=by
 unfold zdt at h;split at h
 ·rename_i t;split at h
  ·rename_i v f hs;obtain ⟨l,rfl,h3⟩ := tup?_some h;obtain ⟨c,hc,h4⟩ := za2 h3;clear h h3;rw [zci] at hc;obtain ⟨hrep,hfl⟩ := hg.slotv hs;obtain ⟨us,hus,hrl⟩ := zjx hrep;obtain ⟨u,hu,hru⟩ := hrl.get hc;have he : (execOp a.eval o).run P w = .ok (.value u) w:=by
    simp only [execOp,ho,hus,Instr.extract,Sem.run_bind,List.getElem?_toArray,hu,Sem.run_pure,Result.andThen_ok]
   cases f with
   | comps cs =>
    cases hm : memN i cs with
    | false =>
     simp only [hm] at h4;exact .val hg he hru h4
    | true =>
     simp only [hm] at h4;have hmem := zbj.1 hm;have hr1 := hg.reflag hs (f' := .comps (delN i cs)) (fun j hj=>hfl j (zcx.1 hj).1) (by simp) (by simp);have hlt : t < S.sl.length := zcb (by show S.slot t ≠ _; rw [hs]; simp);have hnc : zfi (S.put t (.val (.tuple l) (.comps (delN i cs)))) (.sc t i):=by
      intro v' cs' hv';rw [zam,if_pos ⟨rfl,hlt⟩] at hv';injection hv' with _ e2;injection e2 with e2;subst e2;intro hh;exact (zcx.1 hh).2 rfl
     have hown : zas g w (.sc t i) u c := hfl i hmem us.toArray l u c hus rfl (by simpa using hu) hc;cases hd : o.dst with
     | none =>
      rw [hd] at h4;refine .mk he ⟨g,?_⟩ h4;rw [hd];exact hr1
     | some d =>
      rw [hd] at h4;obtain ⟨g',hr2,hown',hh',hl',hp',_⟩ := hr1.retag hnc hown (.s d);have hE : Ext g w g' w := ⟨fun B id h=>(hh' B id).2 h,fun B=>by rw [hp']; exact Nat.le_refl _,fun _ _ _=>rfl⟩;refine .mk he ⟨g',?_⟩ h4;rw [hd];refine hr2.putown (some d) (hru.ext hE) (fun d' e=>?_) (.inr (.inl rfl));injection e with e;subst e;exact hown'
   | lS q =>
    simp only at h4;split at h4
    ·rename_i u' fu hq;split at h4
     ·rename_i cs;split at h4
      ·rename_i hm;have hmem := zbj.1 hm;obtain ⟨q1,q2⟩ := hfl u' _ rfl hq;have hfq := (hg.slotv hq).2;have hr1 := hg.reflag hq (f' := .comps (delN i cs)) (fun j hj=>hfq j (zcx.1 hj).1) (by simp) (by simp);have hlt : q < S.sl.length := zcb (by show S.slot q ≠ _; rw [hq]; simp);have hnc : zfi (S.put q (.val u' (.comps (delN i cs)))) (.sc q i):=by
        intro v' cs' hv';rw [zam,if_pos ⟨rfl,hlt⟩] at hv';injection hv' with _ e2;injection e2 with e2;subst e2;intro hh;exact (zcx.1 hh).2 rfl
       have hown : zas g w (.sc q i) u c := hfq i hmem us.toArray l u c (q1.trans hus) q2 (by simpa using hu) hc;cases hd : o.dst with
       | none =>
        rw [hd] at h4;refine .mk he ⟨g,?_⟩ h4;rw [hd];exact hr1
       | some d =>
        rw [hd] at h4;obtain ⟨g',hr2,hown',hh',hl',hp',_⟩ := hr1.retag hnc hown (.s d);have hE : Ext g w g' w := ⟨fun B id h=>(hh' B id).2 h,fun B=>by rw [hp']; exact Nat.le_refl _,fun _ _ _=>rfl⟩;refine .mk he ⟨g',?_⟩ h4;rw [hd];refine hr2.putown (some d) (hru.ext hE) (fun d' e=>?_) (.inr (.inl rfl));injection e with e;subst e;exact hown'
      ·exact .val hg he hru h4
     ·exact .val hg he hru h4
    ·exact .val hg he hru h4
   | _=>exact .val hg he hru h4
  ·cases h
 ·cases h
theorem zsw (d : Nat) (s : Slot) : s.unlent.unS d = s.unlent:=by
 cases s with
 | val v f=>cases f <;> rfl
 | _=>rfl
theorem zgl (S : St) (d : Nat) (v : AV) : S.unlent.put d (.val v .own) = S.unlent.putown (some d) v .own:=by
 show _ = ({ S.unlent with sl := S.unlent.sl.map (Slot.unS d) } : St).put d _
 congr 1
 have : S.unlent.sl.map (Slot.unS d) = S.unlent.sl:=by
  show (S.sl.map Slot.unlent).map (Slot.unS d) = S.sl.map Slot.unlent;rw [List.map_map]
  congr 1
  funext s
  exact zsw d s
 rw [this]
theorem zks {S : St} {t : Nat} {v : AV} (h : S.unlent.slot t = .val v .own) : S.slot t = .val v .own:=by
 rw [zb0] at h
 revert h
 cases S.slot t with
 | val v2 f2=>cases f2 <;> (intro h; first | exact h | cases h)
 | _=>exact fun h=>h
theorem Rel.hand (h : Rel g0 w0 Ex g S a w) {t : Nat} {v : AV} (hs : S.slot t = .val v .own) (d : Nat) :
  Good g0 w0 Ex (((S.put t (.val v .no)).unlent).put d (.val v .own)) (a.put (some d) (a.tmps.getD t undef)) w:=by
 obtain ⟨hrep,hown⟩ := h.slotv hs;have hlt : t < S.sl.length := zcb (by show S.slot t ≠ _; rw [hs]; simp);have h1 := (h.reflag hs (f' := .no) trivial (by simp) (by simp)).unlent;have hnc : zfi (S.put t (.val v .no)).unlent (.s t):=by
  intro v' hv';have := zks hv';rw [zam,if_pos ⟨rfl,hlt⟩] at this;injection this with _ e;cases e
 obtain ⟨g',h2,hown',hh',hl',hp',_⟩ := h1.retag hnc hown (.s d);have hE : Ext g w g' w := ⟨fun B id h=>(hh' B id).2 h,fun B=>by rw [hp']; exact Nat.le_refl _,fun _ _ _=>rfl⟩;rw [zgl];refine ⟨g',h2.putown (some d) (hrep.ext hE) (fun d' e=>?_) (.inr (.inl rfl))⟩;injection e with e;subst e;exact hown'
theorem zmv {isRes : Nat→Bool} {x : Operand} {k : St→Option R} (ho : o.op = .assign x) (h : zdk P isRes o x S k = some r) (hg : Rel g0 w0 Ex g S a w) :
  zb3 P o a w g0 w0 Ex k r:=by
 have he : (execOp a.eval o).run P w = .ok (.value (a.eval x)) w := by simp [execOp,ho]
 have plain : ∀ (d : Nat) (v : AV),o.dst = some d→Rep g w (a.eval x) v→k (S.unlent.put d (.val v .no)) = some r→zb3 P o a w g0 w0 Ex k r:=by
  intro d v hd hv hk;refine .mk he ⟨g,?_⟩ hk;rw [hd];exact hg.unlent.putv (f := .no) (some d) hv (fun _ _=>trivial) (by simp) (by simp)
 unfold zdk at h;split at h
 ·cases h
 ·rename_i d hd;split at h
  ·rename_i c;unfold zpb at h;split at h
   ·have e2 : zii (isRes d) (.slice none 0 0) S = S.unlent := by unfold zii; split <;> rfl
    rw [e2] at h;refine .mk he ⟨g,?_⟩ h;rw [hd];have e : zdp P o.type (.slice none 0 0) = .vs (match zj7 P o.type with
     | some e=>zaj P e
     | Option.none=>0) true [] := rfl
    rw [e,zgl];exact hg.unlent.putown (some d) (.vsnil _ _ _) (fun d' _=>.inl rfl) (.inr (.inl rfl))
   ·have e2 : zii (isRes d) c S = S.unlent ∨ zii (isRes d) c S = S:=by
     unfold zii;split
     ·split
      ·exact .inl rfl
      ·exact .inr rfl
     ·exact .inl rfl
    rcases e2 with e2 | e2
    ·rw [e2] at h; exact plain d _ hd (zdz _ _) h
    ·rw [e2] at h;refine .mk he ⟨g,?_⟩ h;rw [hd];exact hg.putv (f := .no) (some d) (zdz _ _) (fun _ _=>trivial) (by simp) (by simp)
  ·exact plain d _ hd (.func _ [] [] rfl (by simp)) h
  ·cases h
  ·rename_i t;split at h
   ·refine .mk he ⟨g,?_⟩ h;rw [hd];exact hg.unlent.putlp (some d) (.inl rfl)
   ·rename_i e off hs;have h1 := hg.sl t;rw [hs] at h1;obtain ⟨B,h1,h2⟩ := h1;refine .mk he ⟨g,?_⟩ h;rw [hd];exact hg.unlent.putlp (some d) (.inr (.inl ⟨e,off,B,rfl,h1,h2⟩))
   ·rename_i e hs;have h1 := hg.sl t;rw [hs] at h1;obtain ⟨B,h1,h2⟩ := h1;refine .mk he ⟨g,?_⟩ h;rw [hd];exact hg.unlent.putlp (some d) (.inr (.inr ⟨e,B,rfl,h1,h2⟩))
   ·rename_i v hs;have := hg.hand hs d;refine .mk he ?_ h;rw [hd];exact this
   ·rename_i v q hs;split at h
    ·exact plain d _ hd (hg.slotv hs).1 h
    ·split at h
     ·rename_i u hq;obtain ⟨h1,h2⟩ := (hg.slotv hs).2 u _ rfl hq;subst h2;have := hg.hand hq d;refine .mk he ?_ h;rw [hd];have e : a.eval (.tmp t) = a.tmps.getD q undef := h1.symm;rw [e];exact this
     ·exact plain d _ hd (hg.slotv hs).1 h
   ·rename_i v f _ _ hs;exact plain d _ hd (hg.slotv hs).1 h
end
end
section
section
variable {g0 : G} {w0 : World} {Ex : Nat→Prop} {g : G} {S : St} {a : Act} {w : World} {P : Program} {R : Type} {r : R} {o : Oper}
def zbg (w : World) (B off : Nat) (vals : List Value) : Prop := ∀ (j : Nat) (u : Value),vals[j]? = some u→w.cell? ⟨B,off + j,none⟩ = some u∧u.oneCell' = true
theorem zbg.drop {B off : Nat} {vals : List Value} (h : zbg w B off vals) (n : Nat) : zbg w B (off + n) (vals.drop n) := fun j u hu=>by
 have := h (n + j) u (by simpa [List.getElem?_drop] using hu)
 rwa [← Nat.add_assoc] at this
theorem zbg.take {B off : Nat} {vals : List Value} (h : zbg w B off vals) (n : Nat) : zbg w B off (vals.take n) := fun j u hu=>by
 rw [List.getElem?_take] at hu;split at hu
 ·exact h j u hu
 ·cases hu
theorem zbg.run {B off : Nat} {vals : List Value} (h : zbg w B off vals) {n : Nat} (hn : vals.length = n) : (loadCells ⟨B,off,none⟩ n).run P w = .ok vals.toArray w:=by
 subst hn;exact run_loadCells_list w _ vals fun j v hv=>by rw [Addr.add_lit]; exact (h j v hv).1
theorem zbg.one {B off : Nat} {vals : List Value} (h : zbg w B off vals) : ∀ u ∈ vals,u.oneCell' = true := fun u hu=>by
 obtain ⟨j,hj⟩ := List.mem_iff_getElem?.1 hu;exact (h j u hj).2
theorem zju {B : Nat} {us : List Value} {e : TypeId} {fr : Nat × Nat} (h : w.heap[B]? = some (.cells us.toArray e fr)) (h1 : ∀ u ∈ us,u.oneCell' = true) : zbg w B 0 us := fun j u hu=>by
 refine ⟨?_,h1 u (List.mem_of_getElem? hu)⟩;simp [World.cell?,h,hu]
theorem zh8 {B : Nat} {us : List Value} {e : TypeId} {fr : Nat × Nat} {n : Nat} (h : w.heap[B]? = some (.cells us.toArray e fr)) (h1 : OneP us n) : zbg w B 0 (us.take n) := fun j u hu=>by
 rw [List.getElem?_take] at hu;split at hu
 ·rename_i hj;refine ⟨?_,h1 j u hj hu⟩;simp [World.cell?,h,hu]
 ·cases hu
theorem zel {t : TypeId} {B off n : Nat} {vals : List Value} {cells : List AV} {d : TypeDesc} {ag : Bool} (hu : P.underlying t = some d) (hag : ∀ w,(isAgg t).run P w = .ok ag w)
  (hc : zbg w B off vals) (hr : RepP g w vals cells) :
  match ag with
  | true=>n + zaj P t ≤ cells.length→∃ u,(loadVar t ⟨B,off + n,none⟩).run P w = .ok u w∧Rep g w u (.agg ((cells.drop n).take (zaj P t)))
  | false=>∀ c,cells[n]? = some c→∃ u,(loadVar t ⟨B,off + n,none⟩).run P w = .ok u w∧Rep g w u c∧w.cell? ⟨B,off + n,none⟩ = some u:=by
 obtain ⟨i,hi⟩ := zgn hu;cases ag with
 | true =>
  intro hle;have hr' := hr.cut hle;have hc' := (hc.drop n).take (zaj P t);refine ⟨.agg ((vals.drop n).take (zaj P t)).toArray,?_,.agg _ _ hr'.1 hc'.one hr'.2⟩;have hlen : ((vals.drop n).take (zaj P t)).length = zaj P t:=by
   rw [hr'.1]; simp only [List.length_take,List.length_drop]; omega
  simp only [loadVar,Sem.run_bind,hag,Result.andThen_ok,if_true,zgd hi,hc'.run hlen,Sem.run_pure]
 | false =>
  intro c hcc;obtain ⟨u,hu2,hrep⟩ := hr.get hcc;have hcell := (hc n u hu2).1;refine ⟨u,?_,hrep,hcell⟩;simp only [loadVar,Sem.run_bind,hag,Result.andThen_ok,Bool.false_eq_true,if_false,run_load,hcell]
theorem zq5 {t : TypeId} {x : Operand} {k : St→Option R} (ho : o.op = .load t x) (h : zlw P o t x S k = some r) (hg : Rel g0 w0 Ex g S a w) :
  zb3 P o a w g0 w0 Ex k r:=by
 unfold zlw at h;have fin : ∀ (B off n : Nat) (vals : List Value) (cells : List AV) (f : Fl),a.eval x = .pointer (some ⟨B,off + n,none⟩)→zbg w B off vals→RepP g w vals cells →
   (∀ d u c,cells[n]? = some c→w.cell? ⟨B,off + n,none⟩ = some u→zt4 g S a w d u c f)→f ≠ .own→(∀ cs,f ≠ .comps cs) →
   (zht P t fun ag=>match ag with
    | true=>br (Nat.ble (n + zaj P t) cells.length) (k (S.putd o.dst (.val (.agg ((cells.drop n).take (zaj P t))) .no))) Option.none
    | false=>(nth cells n).bind fun c=>k (S.putd o.dst (.val c f))) = some r→zb3 P o a w g0 w0 Ex k r:=by
  intro B off n vals cells f he hc hr hf hno hnc hk;obtain ⟨ag,d,hd,hk,hag⟩ := zeg hk;have hl := zel (n := n) hd hag hc hr;have he' : ∀ u,(loadVar t ⟨B,off + n,none⟩).run P w = .ok u w→(execOp a.eval o).run P w = .ok (.value u) w:=by
   intro u hu;simp only [execOp,ho,Instr.loadAt,he,Instr.sureAddr,Sem.run_bind,Sem.run_pure,Result.andThen_ok,hu]
  cases ag with
  | true =>
   obtain ⟨h0,hk⟩ := zai hk;obtain ⟨u,hu,hrep⟩ := hl (zc3 h0);exact .val hg (he' u hu) hrep hk
  | false =>
   obtain ⟨c,hcc,hk⟩ := za2 hk;rw [zci] at hcc;obtain ⟨u,hu,hrep,hcell⟩ := hl c hcc;exact .mk (he' u hu) ⟨g,hg.putv o.dst hrep (fun d _=>hf d u c hcc hcell) hno hnc⟩ hk
 simp only at h;split at h
 ·rename_i ta;split at h
  ·rename_i d off hs;obtain ⟨b,hb,h2⟩ := za2 h;clear h;have h1 := hg.sl ta;rw [hs] at h1;obtain ⟨B,hB,hev⟩ := h1;obtain ⟨B',hB',⟨us,e,hheap,hone,hrl⟩,hfree⟩ := hg.l d b hb;obtain rfl := hg.inv.injl B B' d hB hB';refine fin B 0 off (us.take b.cells.length) b.cells _ (by rw [Nat.zero_add]; exact hev) (zh8 hheap hone) hrl.full.part ?_ ?_ ?_ h2
   ·intro d' u c hc hcell;rw [Nat.zero_add] at hcell;split
    ·intro b' hb' _;rw [hb] at hb';injection hb' with hb';subst hb';exact ⟨B,hB,hcell,hc⟩
    ·trivial
   ·split <;> simp
   ·intro cs; split <;> simp
  ·rename_i v f hs;have hrep := (hg.slotv hs).1;split at h
   ·rename_i id off;obtain ⟨b,hb,h2⟩ := za2 h;clear h;obtain ⟨B,hB,hev⟩ := zfo hrep;obtain ⟨B',hB',⟨us,e,hheap,hone,hrl⟩,hfree⟩ := hg.h.blk id b hb;obtain rfl := hg.inv.injh B B' id hB hB';refine fin B 0 off (us.take b.cells.length) b.cells (.lH id off) (by rw [Nat.zero_add]; exact hev) (zh8 hheap hone) hrl.full.part ?_ (by simp) (by simp) h2;intro d' u c hc hcell b' hb' _;rw [hb] at hb';injection hb' with hb';subst hb';rw [Nat.zero_add] at hcell;exact ⟨B,hB,hcell,hc⟩
   ·rename_i cs;obtain ⟨B,off,vals,hev,hc,hrl⟩ := zjl hrep;refine fin B off 0 vals cs .no hev (fun j u hu=>⟨(hc j u hu).1,(hc j u hu).2.2⟩) hrl.part (fun _ _ _ _ _=>trivial) (by simp) (by simp) h
   ·cases h
  ·cases h
 ·cases h
theorem zj8 {t : TypeId} {x : Operand} {fi : Nat} {k : St→Option R} (ho : o.op = .fieldAddr t x fi) (h : zdr P o t x fi S k = some r) (hg : Rel g0 w0 Ex g S a w) :
  zb3 P o a w g0 w0 Ex k r:=by
 unfold zdr at h;split at h
 ·cases h
 ·rename_i fs hfs;obtain ⟨fa,hu,rfl⟩ := zin hfs;split at h
  ·cases h
  ·rename_i f hf;split at h
   ·cases h
   ·rename_i hz;have hz' : zaj P f.type ≠ 0 := fun e=>by rw [e] at hz; cases hz
    have hf' : fa[fi]? = some f := by simpa using hf
    have key : ∀ B off,a.eval x = .pointer (some ⟨B,off,none⟩)→(execOp a.eval o).run P w = .ok (.value (.pointer (some ⟨B,off + f.offset,none⟩))) w:=by
     intro B off he;simp only [execOp,ho,Instr.fieldAt,Sem.run_bind,zb7 hu,Result.andThen_ok,hf',he,Instr.sureAddr,Sem.run_pure,fieldPlace,zbx hz',if_neg hz',Addr.add_lit]
    split at h
    ·rename_i tx;split at h
     ·rename_i d off hs;have h1 := hg.sl tx;rw [hs] at h1;obtain ⟨B,hB,hev⟩ := h1;exact .mk (key B off hev) ⟨g,hg.putlp o.dst (.inr (.inl ⟨d,_,B,rfl,hB,rfl⟩))⟩ h
     ·rename_i v fl hs;have hrep := (hg.slotv hs).1;split at h
      ·rename_i id off;obtain ⟨B,hB,hev⟩ := zfo hrep;exact .val hg (key B off hev) (.ptr B id _ hB) h
      ·rename_i cs;obtain ⟨B,off,vals,hev,hc,hrl⟩ := zjl hrep;refine .val hg (key B off hev) (.cptr B _ _ (vals.drop f.offset) (hrl.drop _).1 (fun j u hu=>?_) (hrl.drop _).2) h;have := hc (f.offset + j) u (by simpa [List.getElem?_drop] using hu)
       rwa [← Nat.add_assoc] at this
      ·cases h
     ·cases h
    ·cases h
theorem zok {z : Nat} : ∀ {l : List AV} {i : Nat} {c : AV},(∀ x ∈ l,x.cells.length = z)→l[i]? = some c→((l.flatMap AV.cells).drop (i * z)).take z = c.cells
 | [],i,c,_,h=>by simp at h
 | x :: l,0,c,hz,h=>by
  simp at h;subst h;have hx := hz x (by simp);simp [List.flatMap_cons,← hx]
 | x :: l,i + 1,c,hz,h=>by
  have hx := hz x (by simp);have ih := zok (l := l) (i := i) (c := c) (fun y hy=>hz y (mcM _ hy)) (by simpa using h);rw [List.flatMap_cons,show (i + 1) * z = x.cells.length + i * z by rw [hx,Nat.succ_mul]; omega,← List.drop_drop,List.drop_left];exact ih
theorem zbi {z : Nat} : ∀ {l : List AV},(∀ x ∈ l,x.cells.length = z)→(l.flatMap AV.cells).length = l.length * z
 | [],_=>by simp
 | x :: l,h=>by
  rw [List.flatMap_cons,lnA,h x (by simp),zbi (l := l) (fun y hy=>h y (mcM _ hy)),lnC,Nat.succ_mul]; omega
theorem zja {t : TypeId} {x ix : Operand} {k : St→Option R} (ho : o.op = .indexAddr t x ix) (h : zdw P o t x ix S k = some r) (hg : Rel g0 w0 Ex g S a w) :
  zb3 P o a w g0 w0 Ex k r:=by
 unfold zdw at h;obtain ⟨ik,i,hix,h1⟩ := int?_some h;clear h;have hi := hg.ev ix;rw [hix] at hi;have hi' := zbc hi;split at h1
 ·rename_i e hu;split at h1
  ·cases h1
  ·rename_i hz;have hz' : zaj P e ≠ 0 := fun e=>by rw [e] at hz; cases hz
   have hx := hg.ev x;have key : ∀ ad len cap,a.eval x = .slice (some ad) len cap→0 ≤ i→i < (len : Int)→(execOp a.eval o).run P w = .ok (.value (.pointer (some (ad.add (i.toNat * zaj P e))))) w:=by
    intro ad len cap he h0 h1;simp only [execOp,ho,Instr.indexAt,hi',asIntOf,Sem.run_bind,Sem.run_pure,Result.andThen_ok,zb7 hu,he,if_pos (And.intro h0 h1),Sem.run_ite,zbx hz']
   split at h1
   ·rename_i z tg l hev;rw [hev] at hx;split at h1
    ·rename_i hzz;obtain rfl := zay hzz;obtain ⟨h0,h2⟩ := zai h1;obtain ⟨h3,h4⟩ := zai h2;obtain ⟨c,hc,h5⟩ := za2 h4;rw [zci] at hc;have h0' : 0 ≤ i := by simpa using h0
     have h3' : i < (l.length : Int) := by simpa using h3
     rcases ze2 hx with ⟨_,rfl⟩ | ⟨B,off,cap,vals,he,hsz,_,_,hcell,hrl⟩
     ·simp at hc
     ·have hk := key _ _ _ he h0' h3';rw [Addr.add_lit] at hk;have hfl := zok hsz hc;have hrl' := (hrl.drop (i.toNat * zaj P e)).take (zaj P e);rw [hfl] at hrl';refine .val hg hk (.cptr B _ _ ((vals.drop (i.toNat * zaj P e)).take (zaj P e)) hrl'.1 (fun j u hu=>?_) hrl'.2) h5;rw [List.getElem?_take] at hu;split at hu
      ·have := hcell (i.toNat * zaj P e + j) u (by simpa [List.getElem?_drop] using hu)
       rwa [← Nat.add_assoc] at this
      ·cases hu
    ·cases h1
   ·rename_i id off len z hev;rw [hev] at hx;split at h1
    ·rename_i hzz;obtain rfl := zay hzz;obtain ⟨h0,h2⟩ := zai h1;obtain ⟨h3,h4⟩ := zai h2;have h0' : 0 ≤ i := by simpa using h0
     have h3' : i < (len : Int) := by simpa using h3
     obtain ⟨B,cap,hB,he,_⟩ := zjr hx;have hk := key _ _ _ he h0' h3';rw [Addr.add_lit] at hk;exact .val hg hk (.ptr B id _ hB) h4
    ·cases h1
   ·cases h1
 ·rename_i len e hu;split at h1
  ·rename_i tx;split at h1
   ·cases h1
   ·rename_i hz;have hz' : zaj P e ≠ 0 := fun e=>by rw [e] at hz; cases hz
    have key : ∀ ad,a.eval (.tmp tx) = .pointer (some ad)→0 ≤ i→i < (len : Int)→(execOp a.eval o).run P w = .ok (.value (.pointer (some (ad.add (i.toNat * zaj P e))))) w:=by
     intro ad he h0 h1;simp only [execOp,ho,Instr.indexAt,hi',asIntOf,Sem.run_bind,Sem.run_pure,Result.andThen_ok,zb7 hu,he,Instr.sureAddr,if_pos (And.intro h0 h1),Sem.run_ite,zbx hz']
    split at h1
    ·rename_i d off hs;obtain ⟨h0,h2⟩ := zai h1;obtain ⟨h3,h4⟩ := zai h2;have h0' : 0 ≤ i := by simpa using h0
     have h3' : i < (len : Int) := by simpa using h3
     have h5 := hg.sl tx;rw [hs] at h5;obtain ⟨B,hB,hev⟩ := h5;have hk := key _ hev h0' h3';rw [Addr.add_lit] at hk;exact .mk hk ⟨g,hg.putlp o.dst (.inr (.inl ⟨d,_,B,rfl,hB,rfl⟩))⟩ h4
    ·rename_i v fl hs;have hrep := (hg.slotv hs).1;split at h1
     ·rename_i id off;obtain ⟨h0,h2⟩ := zai h1;obtain ⟨h3,h4⟩ := zai h2;have h0' : 0 ≤ i := by simpa using h0
      have h3' : i < (len : Int) := by simpa using h3
      obtain ⟨B,hB,hev⟩ := zfo hrep;have hk := key _ hev h0' h3';rw [Addr.add_lit] at hk;exact .val hg hk (.ptr B id _ hB) h4
     ·cases h1
    ·cases h1
  ·cases h1
 ·cases h1
end
end
section
section
variable {g0 : G} {w0 : World} {Ex : Nat→Prop} {g : G} {S : St} {a : Act} {w : World} {P : Program} {R : Type} {r : R} {o : Oper}
theorem bound?_some {v : AV} {y : Nat} {k : Nat→Option R} (h : v.bound? y k = some r) : ∃ ik i,v = .int ik i∧0 ≤ i∧i ≤ (y : Int)∧k i.toNat = some r:=by
 unfold AV.bound? at h;obtain ⟨ik,i,rfl,h1⟩ := int?_some h;obtain ⟨h2,h3⟩ := zai h1;obtain ⟨h4,h5⟩ := zai h3;exact ⟨ik,i,rfl,by simpa using h2,by simpa using h4,h5⟩
theorem zcv {ik : IntKind} {i : Int} {y y' : Nat} (code : BoundsCode) (h0 : 0 ≤ i) (h1 : i ≤ (y : Int)) (hy : y ≤ y') : (Instr.sliceBound (.int ik i) y' code).run P w = .ok i.toNat w :=
 run_sliceBound w ik i y' code h0 (by omega)
theorem zcc {len cap : Nat} {lo hi : Option Operand} {k : Nat→Nat→Option R} (hg : Rel g0 w0 Ex g S a w) (hlc : len ≤ cap) (h : zbu S len lo hi k = some r) (sl : Bool) :
  ∃ l hh,k l hh = some r∧l ≤ hh∧hh ≤ len∧(hi = none→hh = len)∧(Instr.sliceBounds sl len cap (lo.map a.eval) (hi.map a.eval) none).run P w = .ok (l,hh,cap) w ∧
   (∀ m : Operand,∀ jk,a.eval m = .int jk (hh : Int)→hi ≠ none→(Instr.sliceBounds sl len cap (lo.map a.eval) (hi.map a.eval) (some (a.eval m))).run P w = .ok (l,hh,hh) w):=by
 unfold zbu at h;simp only at h;cases hi with
 | some x =>
  simp only at h;obtain ⟨ik,i,hx,h0,h1,h2⟩ := bound?_some h;have hix := hg.ev x;rw [hx] at hix;have hix' := zbc hix;cases lo with
  | some y =>
   simp only at h2;obtain ⟨jk,j,hy,h3,h4,h5⟩ := bound?_some h2;have hjy := hg.ev y;rw [hy] at hjy;have hjy' := zbc hjy;refine ⟨j.toNat,i.toNat,h5,by omega,by omega,by simp,?_,?_⟩
   ·simp only [Instr.sliceBounds,omS,hix',hjy',Sem.run_bind,Sem.run_pure,Result.andThen_ok,zcv (P := P) (w := w) _ h0 h1 hlc,zcv (P := P) (w := w) (y' := i.toNat) _ h3 h4 (Nat.le_refl _)]
   ·intro m mk hm _;have hci : ((i.toNat : Nat) : Int) ≤ (cap : Int) := by omega
    simp only [Instr.sliceBounds,omS,hm,hix',hjy',Sem.run_bind,Sem.run_pure,Result.andThen_ok,zcv (P := P) (w := w) (y := cap) (y' := cap) _ (by omega : (0:Int) ≤ (i.toNat : Int)) hci (Nat.le_refl _),itN,zcv (P := P) (w := w) (y := i.toNat) (y' := i.toNat) (i := i) _ h0 (by omega) (Nat.le_refl _),zcv (P := P) (w := w) (y' := i.toNat) _ h3 h4 (Nat.le_refl _)]
  | none =>
   simp only at h2;refine ⟨0,i.toNat,h2,by omega,by omega,by simp,?_,?_⟩
   ·simp only [Instr.sliceBounds,omS,Option.map_none,hix',Sem.run_bind,Sem.run_pure,Result.andThen_ok,zcv (P := P) (w := w) _ h0 h1 hlc]
   ·intro m mk hm _;have hci : ((i.toNat : Nat) : Int) ≤ (cap : Int) := by omega
    simp only [Instr.sliceBounds,omS,Option.map_none,hm,hix',Sem.run_bind,Sem.run_pure,Result.andThen_ok,zcv (P := P) (w := w) (y := cap) (y' := cap) _ (by omega : (0:Int) ≤ (i.toNat : Int)) hci (Nat.le_refl _),itN,zcv (P := P) (w := w) (y := i.toNat) (y' := i.toNat) (i := i) _ h0 (by omega) (Nat.le_refl _)]
 | none =>
  simp only at h;cases lo with
  | some y =>
   simp only at h;obtain ⟨jk,j,hy,h3,h4,h5⟩ := bound?_some h;have hjy := hg.ev y;rw [hy] at hjy;have hjy' := zbc hjy;refine ⟨j.toNat,len,h5,by omega,by omega,by simp,?_,?_⟩
   ·simp only [Instr.sliceBounds,omS,Option.map_none,hjy',Sem.run_bind,Sem.run_pure,Result.andThen_ok,zcv (P := P) (w := w) (y' := len) _ h3 h4 (Nat.le_refl _)]
   ·intro m mk hm hn; exact absurd rfl hn
  | none =>
   simp only at h;refine ⟨0,len,h,by omega,by omega,by simp,?_,?_⟩
   ·simp only [Instr.sliceBounds,Option.map_none,Sem.run_bind,Sem.run_pure,Result.andThen_ok]
   ·intro m mk hm hn; exact absurd rfl hn
theorem zj0 {z : Nat} : ∀ {l : List AV} (n : Nat),(∀ x ∈ l,x.cells.length = z)→(l.drop n).flatMap AV.cells = (l.flatMap AV.cells).drop (n * z)
 | [],n,_=>by simp
 | x :: l,0,_=>by simp
 | x :: l,n + 1,h=>by
  have hx := h x (by simp);have ih := zj0 (l := l) n (fun y hy=>h y (mcM _ hy));rw [List.drop_succ_cons,ih,List.flatMap_cons,show (n + 1) * z = x.cells.length + n * z by rw [hx,Nat.succ_mul]; omega,← List.drop_drop,List.drop_left]
theorem zij {z : Nat} : ∀ {l : List AV} (n : Nat),(∀ x ∈ l,x.cells.length = z)→(l.take n).flatMap AV.cells = (l.flatMap AV.cells).take (n * z)
 | [],n,_=>by simp
 | x :: l,0,_=>by simp
 | x :: l,n + 1,h=>by
  have hx := h x (by simp);have ih := zij (l := l) n (fun y hy=>h y (mcM _ hy));rw [List.take_succ_cons,List.flatMap_cons,ih,List.flatMap_cons,show (n + 1) * z = x.cells.length + n * z by rw [hx,Nat.succ_mul]; omega,List.take_length_add_append]
theorem zwu {u : Option Addr} {len cap z : Nat} {tg : Bool} {v : List AV} {l h m : Nat} (hr : Rep g w (.slice u len cap) (.vs z tg v)) (hl : l ≤ h) (hh : h ≤ v.length) (hm : h ≤ m) (hmc : m ≤ cap)
  (tg' : Bool) (htg : tg' = true→m = h) : Rep g w (.slice (if m = l then u else u.map (·.add (l * z))) (h - l) (m - l)) (.vs z tg' ((v.take h).drop l)):=by
 rcases ze2 hr with ⟨⟨p,he⟩,rfl⟩ | ⟨B,off,cap',vals,he,hsz,htg0,hcap,hcell,hrl⟩
 ·injection he with e1 e2 e3;subst e1 e2 e3;have h1 : h = 0 := by simpa using hh
  have h2 : m = 0 := by omega
  have h3 : l = 0 := by omega
  subst h1 h2 h3;simp;exact .vsnil _ _ _
 ·injection he with e1 e2 e3;subst e1 e2 e3;have hlen : ((v.take h).drop l).length = h - l := by simp only [List.length_drop,List.length_take]; omega
  by_cases hml : m = l
  ·rw [if_pos hml];have h0 : (v.take h).drop l = [] := List.eq_nil_of_length_eq_zero (by rw [hlen]; omega);rw [h0,show h - l = ([] : List AV).length by simp; omega];exact .vs B off _ z tg' [] [] (by simp) (by simp) (fun _=>by simp; omega) (by simp) (by simp) (by simp)
  ·rw [if_neg hml,← hlen];show Rep g w (.slice (some (Addr.add ⟨B,off,none⟩ (l * z))) _ _) _;rw [Addr.add_lit];have hszt : ∀ x ∈ v.take h,x.cells.length = z := fun x hx=>hsz x (List.mem_of_mem_take hx);have e1 : ((v.take h).drop l).flatMap AV.cells = ((v.flatMap AV.cells).take (h * z)).drop (l * z):=by
    rw [zj0 l hszt,zij h hsz]
   have hrl' := (hrl.take (h * z)).drop (l * z);rw [← e1] at hrl';refine .vs B (off + l * z) (m - l) z tg' _ ((vals.take (h * z)).drop (l * z)) hrl'.1 (fun x hx=>hszt x (List.mem_of_mem_drop hx)) (fun ht=>by rw [hlen,htg ht]) (by rw [hlen]; omega) (fun j u hu=>?_) hrl'.2;rw [List.getElem?_drop,List.getElem?_take] at hu;split at hu
   ·have := hcell (l * z + j) u hu
    rwa [← Nat.add_assoc] at this
   ·cases hu
theorem zoh {t : TypeId} {x : Operand} {lo hi mx : Option Operand} {k : St→Option R} (ho : o.op = .slice t x lo hi mx) (h : zl0 P o t x lo hi mx S k = some r) (hg : Rel g0 w0 Ex g S a w) :
  zb3 P o a w g0 w0 Ex k r:=by
 unfold zl0 zh1 at h;have hx := hg.ev x;split at h
 ·rename_i hu;split at h
  ·cases h
  ·obtain ⟨s,hs,h1⟩ := str?_some h;clear h;rw [hs] at hx;obtain ⟨bs,hbs,rfl⟩ := zca hx;have hsz : bs.data.toList.length = bs.size := by rw [Array.length_toList]; rfl
   obtain ⟨l,hh,hk,hl,hle,_,hrun,_⟩ := zcc (P := P) (cap := bs.size) hg (by omega) h1 false;refine .val hg (u := .string (bs.extract l hh)) ?_ ?_ hk
   ·have hrun' := hrun;rw [hsz] at hrun';simp only [execOp,ho,Instr.sliceAt,Sem.run_bind,zb7 hu,Result.andThen_ok,Instr.slice,hbs,Option.map_none,Sem.run_pure,Option.isSome_none,Bool.false_eq_true,if_false];rw [hrun'];rfl
   ·have := Rep.str (g := g) (w := w) (bs.extract l hh);have e : (bs.extract l hh).data.toList = (bs.data.toList.take hh).drop l:=by
     rw [ByteArray.data_extract,Array.toList_extract];simp [List.take_drop,Nat.add_sub_of_le hl]
    rw [e] at this;exact this
 ·rename_i e hu;split at h
  ·cases h
  ·rename_i hz;have hz' : zaj P e ≠ 0 := fun e=>by rw [e] at hz; cases hz
   have key : ∀ ad len cap l hh m,a.eval x = .slice ad len cap→(Instr.sliceBounds true len cap (lo.map a.eval) (hi.map a.eval) (mx.map a.eval)).run P w = .ok (l,hh,m) w →
     (execOp a.eval o).run P w = .ok (.value (.slice (if m = l then ad else ad.map (·.add (l * zaj P e))) (hh - l) (m - l))) w:=by
    intro ad len cap l hh m he hb;simp only [execOp,ho,Instr.sliceAt,Sem.run_bind,zb7 hu,Result.andThen_ok,Instr.slice,he,hb,zbx hz',Sem.run_pure]
   split at h
   ·rename_i z tg v hv;rw [hv] at hx;split at h
    ·cases h
    ·rename_i hzz;obtain rfl := zay hzz;obtain ⟨p,cap,he,hcap⟩ := zg6 hx;rw [he] at hx;split at h
     ·obtain ⟨l,hh,hk,hl,hle,hnone,hrun,_⟩ := zcc (P := P) hg hcap h true;refine .val hg (key _ _ _ _ _ _ he hrun) (zwu hx hl hle (Nat.le_trans hle hcap) (Nat.le_refl _) _ ?_) hk;intro ht;cases hi with
      | some _=>cases ht
      | none =>
       have ht' : tg = true := ht;rw [hnone rfl];rcases ze2 hx with ⟨⟨p2,he2⟩,rfl⟩ | ⟨B,off,cap',vals,he2,_,htg0,_⟩
       ·injection he2
       ·injection he2 with _ _ e3; rw [e3]; exact htg0 ht'
     ·rename_i mo;split at h
      ·cases h
      ·rename_i hio;obtain ⟨l,hh,hk,hl,hle,_,_,hrun⟩ := zcc (P := P) hg hcap h true;obtain ⟨jk,j,hm,hk2⟩ := int?_some hk;obtain ⟨hj,hk3⟩ := zai hk2;have hj' : j = (hh : Int) := by simpa using hj
       subst hj';have hmr := hg.ev mo;rw [hm] at hmr;have hmr' := zbc hmr;refine .val hg (key _ _ _ _ _ _ he (hrun mo jk hmr' (by simp))) (zwu hx hl hle (Nat.le_refl _) (Nat.le_trans hle hcap) _ (fun _=>rfl)) hk3
   ·rename_i id off len z hv;rw [hv] at hx;split at h
    ·cases h
    ·rename_i hzz;obtain rfl := zay hzz;obtain ⟨B,cap,hB,he,hcap⟩ := zjr hx;have fin : ∀ (l hh m : Nat) (tg : Bool),l ≤ hh→hh ≤ len→hh ≤ m→m ≤ cap→(tg = true→m = hh)→(Instr.sliceBounds true len cap (lo.map a.eval) (hi.map a.eval) (mx.map a.eval)).run P w = .ok (l,hh,m) w →
       br (Nat.blt l hh) (k (S.putd o.dst (.val (.arr id (off + l * zaj P e) (hh - l) (zaj P e)) .no))) (k (S.putd o.dst (.val (.vs (zaj P e) tg []) .no))) = some r→zb3 P o a w g0 w0 Ex k r:=by
      intro l hh m tg hl hle hm hmc htg hrun hk;have hkk := key _ _ _ _ _ _ he hrun;rcases zgs hk with ⟨hlt,hk⟩ | ⟨hlt,hk⟩
      ·have hlt' : l < hh := Nat.le_of_ble_eq_true hlt;rw [if_neg (by omega)] at hkk;have : (some (⟨B,off,none⟩ : Addr)).map (·.add (l * zaj P e)) = some ⟨B,off + l * zaj P e,none⟩:=by
        show some (Addr.add _ _) = _; rw [Addr.add_lit]
       rw [this] at hkk;exact .val hg hkk (.arr B id _ _ _ _ hB (by omega)) hk
      ·have hge : hh ≤ l:=by
        rcases Nat.lt_or_ge l hh with h | h
        ·have : Nat.blt l hh = true := Nat.ble_eq_true_of_le h;rw [this] at hlt; cases hlt
        ·exact h
       have e0 : hh - l = ([] : List AV).length := by simp; omega
       refine .val hg hkk ?_ hk;rw [e0];split
       ·exact .vs B off _ _ tg [] [] (by simp) (by simp) (fun ht=>by have := htg ht; simp; omega) (by simp) (by simp) (by simp)
       ·show Rep g w (.slice (some (Addr.add ⟨B,off,none⟩ _)) _ _) _;rw [Addr.add_lit];exact .vs B _ _ _ tg [] [] (by simp) (by simp) (fun ht=>by have := htg ht; simp; omega) (by simp) (by simp) (by simp)
     split at h
     ·obtain ⟨l,hh,hk,hl,hle,hnone,hrun,_⟩ := zcc (P := P) hg hcap h true;exact fin l hh cap false hl hle (Nat.le_trans hle hcap) (Nat.le_refl _) (by simp) hrun hk
     ·rename_i mo;split at h
      ·cases h
      ·rename_i hio;obtain ⟨l,hh,hk,hl,hle,_,_,hrun⟩ := zcc (P := P) hg hcap h true;obtain ⟨jk,j,hm,hk2⟩ := int?_some hk;obtain ⟨hj,hk3⟩ := zai hk2;have hj' : j = (hh : Int) := by simpa using hj
       subst hj';have hmr := hg.ev mo;rw [hm] at hmr;have hmr' := zbc hmr;exact fin l hh hh true hl hle (Nat.le_refl _) (Nat.le_trans hle hcap) (fun _=>rfl) (hrun mo jk hmr' (by simp)) hk3
   ·cases h
 ·cases h
structure Src (P : Program) (g : G) (w : World) (sz : Nat) (u : Value) (l : List AV) (news : List Value) : Prop where
 rep : RepL g w news (l.flatMap AV.cells)
 one : ∀ x ∈ news,x.oneCell' = true
 sizes : ∀ x ∈ l,x.cells.length = sz
 len : ∀ w' : World,(Builtin.lenOf u).run P w' = .ok l.length w'
 shape : ((∃ p,u = .slice p 0 0)∧l = []) ∨ (∃ B off cap,u = .slice (some ⟨B,off,none⟩) l.length cap∧zbg w B off news) ∨ ∃ s,u = .string s
 cells : ∀ (n : Nat) (w' : World),n ≤ l.length→(∀ B o,B < w.heap.size→w'.cell? ⟨B,o,none⟩ = w.cell? ⟨B,o,none⟩)→(Builtin.firstCells sz n u).run P w' = .ok (news.take (n * sz)).toArray w'
theorem zqe {B o : Nat} {u : Value} (h : w.cell? ⟨B,o,none⟩ = some u) : B < w.heap.size := World.block_lt_of_cell? w ⟨B,o,none⟩ h
theorem zr5 {B off cap sz : Nat} {l : List AV} {vals : List Value} (hsz : ∀ x ∈ l,x.cells.length = sz) (hrl : RepL g w vals (l.flatMap AV.cells)) (hc : zbg w B off vals) :
  Src P g w sz (.slice (some ⟨B,off,none⟩) l.length cap) l vals:=by
 refine ⟨hrl,hc.one,hsz,fun w'=>by simp [Builtin.lenOf],.inr (.inl ⟨B,off,cap,rfl,hc⟩),fun n w' hn hw=>?_⟩;have hlen : (vals.take (n * sz)).length = n * sz:=by
  rw [List.length_take,hrl.1,zbi hsz];exact Nat.min_eq_left (Nat.mul_le_mul_right _ hn)
 have hc' : zbg w' B off (vals.take (n * sz)) := fun j u hu=>by
  obtain ⟨h1,h2⟩ := hc.take (n * sz) j u hu;exact ⟨by rw [hw B _ (zqe h1)]; exact h1,h2⟩
 simp only [Builtin.firstCells];exact hc'.run hlen
theorem src_nil (p : Option Addr) (sz : Nat) : Src P g w sz (.slice p 0 0) [] []:=by
 refine ⟨⟨rfl,by simp⟩,by simp,by simp,fun w'=>by simp [Builtin.lenOf],.inl ⟨⟨p,rfl⟩,rfl⟩,fun n w' hn _=>?_⟩;cases p with
 | none=>simp [Builtin.firstCells]
 | some a =>
  have h0 : n = 0 := by simpa using hn
  subst h0;have := run_loadCells_list (P := P) w' a [] (fun j v hv=>by simp at hv)
  simpa [Builtin.firstCells] using this
theorem zg0 (l : List UInt8) : (l.map zbq).flatMap AV.cells = l.map zbq:=by
 induction l with
 | nil=>rfl
 | cons b l ih=>simp only [List.map_cons,List.flatMap_cons,ih]; rfl
theorem src_str (s : ByteArray) : Src P g w 1 (.string s) (s.data.toList.map zbq) (s.data.toList.map fun b=>Value.int .u8 b.toNat):=by
 refine ⟨⟨by rw [zg0]; simp,fun j u c hu hc=>?_⟩,?_,?_,fun w'=>?_,.inr (.inr ⟨s,rfl⟩),fun n w' hn _=>?_⟩
 ·rw [zg0] at hc;rw [List.getElem?_map] at hu hc;cases hb : s.data.toList[j]? with
  | none=>rw [hb] at hu; cases hu
  | some b =>
   rw [hb] at hu hc;injection hu with hu;injection hc with hc;subst hu hc;exact .int _ _
 ·intro x hx;obtain ⟨b,_,rfl⟩ := List.mem_map.1 hx;rfl
 ·intro x hx;obtain ⟨b,_,rfl⟩ := List.mem_map.1 hx;rfl
 ·have e : s.size = (s.data.toList.map zbq).length := by rw [lnM,Array.length_toList]; rfl
  simp only [Builtin.lenOf,Sem.run_pure,e]
 ·simp only [Builtin.firstCells,Sem.run_pure,Nat.mul_one]
  congr 1
  apply Array.ext';simp [ByteArray.data_extract,List.extract_eq_take_drop]
theorem zha {ag : Bool} {sz : Nat} {u : Value} {v : AV} {k : List AV→Option R} (hg : Rel g0 w0 Ex g S a w) (h : zby ag sz v S k = some r) (hr : Rep g w u v) :
  ∃ l news,k l = some r∧Src P g w sz u l news:=by
 unfold zby at h;split at h
 ·rename_i z tg l;rcases ze2 hr with ⟨⟨p,rfl⟩,rfl⟩ | ⟨B,off,cap,vals,rfl,hsz,_,_,hc,hrl⟩
  ·refine ⟨[],[],?_,src_nil p sz⟩;split at h <;> exact h
  ·split at h
   ·rename_i hz;obtain rfl := zay hz;exact ⟨l,vals,h,zr5 hsz hrl fun j u hu=>⟨(hc j u hu).1,(hc j u hu).2.2⟩⟩
   ·split at h
    ·have hv : vals = [] := List.eq_nil_of_length_eq_zero (by simpa using hrl.1);subst hv;exact ⟨[],[],h,zr5 (by simp) hrl (fun j u hu=>by simp at hu)⟩
    ·cases h
 ·rename_i id off len z;split at h
  ·rename_i e1 e2 e3;obtain ⟨b,hb,h2⟩ := za2 h;obtain ⟨h3,h4⟩ := zai h2;have hle := zc3 h3;obtain rfl := zay e3;obtain ⟨B,cap,hB,rfl,hcap⟩ := zjr hr;obtain ⟨B',hB',⟨us,e,hheap,hone,hrl⟩,_⟩ := hg.h.blk id b hb;obtain rfl := hg.inv.injh B B' id hB hB';have hlen : ((b.cells.drop off).take len).length = len := by simp only [List.length_take,List.length_drop]; omega
   have hc1 : ∀ x ∈ b.cells,x.cells.length = 1:=by
    intro x hx;obtain ⟨j,hj⟩ := List.mem_iff_getElem?.1 hx;obtain ⟨y,hy,hyr⟩ := hrl.get hj;have := hone j y (List.getElem?_eq_some_iff.1 hj).1 hy;cases x <;> first | rfl | skip
    obtain ⟨zs,rfl,_⟩ := zfy hyr;cases this
   have hflat : ∀ l : List AV,(∀ x ∈ l,x ∈ b.cells)→l.flatMap AV.cells = l:=by
    intro l
    induction l with
    | nil=>intro _; rfl
    | cons x l ih =>
     intro hm;have hx := hc1 x (hm x (by simp));have : x.cells = [x]:=by
      obtain ⟨j,hj⟩ := List.mem_iff_getElem?.1 (hm x (by simp));obtain ⟨y,hy,hyr⟩ := hrl.get hj;have h1 := hone j y (List.getElem?_eq_some_iff.1 hj).1 hy;cases x <;> first | rfl | skip
      obtain ⟨zs,rfl,_⟩ := zfy hyr;cases h1
     rw [List.flatMap_cons,this,ih fun y hy=>hm y (mcM _ hy)];rfl
   have hsub : ∀ x ∈ (b.cells.drop off).take len,x ∈ b.cells := fun x hx=>List.mem_of_mem_drop (List.mem_of_mem_take hx);have hcells := ((zh8 hheap hone).drop off).take len;rw [Nat.zero_add] at hcells;have := zr5 (P := P) (cap := cap) (sz := 1) (l := (b.cells.drop off).take len) (fun x hx=>hc1 x (hsub x hx)) (by rw [hflat _ hsub]; exact (hrl.full.drop off).take len) hcells;rw [hlen] at this;exact ⟨_,_,h4,this⟩
  ·cases h
 ·split at h
  ·rename_i hz;obtain rfl := zay hz;obtain ⟨s,rfl,rfl⟩ := zca hr;exact ⟨_,_,h,src_str s⟩
  ·cases h
 ·cases h
theorem zil : ∀ {l : List AV} {s : List UInt8},zbz l = some s→∃ ns : List Int,l = ns.map (fun x=>AV.int .u8 x)∧s = ns.map fun x=>UInt8.ofNat x.toNat
 | [],s,h=>by simp [zbz] at h; exact ⟨[],rfl,by simp [h]⟩
 | .int ik n :: l,s,h=>by
  cases ik with
  | u8 =>
   simp only [zbz] at h;obtain ⟨r,h1,h2⟩ := za2 h;obtain ⟨ns,rfl,rfl⟩ := zil h1;injection h2 with h2;exact ⟨n :: ns,rfl,by simp [← h2]⟩
  | _=>cases h
 | .undef :: _,_,h=>by cases h
 | .bool _ :: _,_,h=>by cases h
 | .str _ :: _,_,h=>by cases h
 | .nilp :: _,_,h=>by cases h
 | .ptr _ _ :: _,_,h=>by cases h
 | .cptr _ :: _,_,h=>by cases h
 | .vs _ _ _ :: _,_,h=>by cases h
 | .arr _ _ _ _ :: _,_,h=>by cases h
 | .agg _ :: _,_,h=>by cases h
 | .tuple _ :: _,_,h=>by cases h
 | .func _ _ :: _,_,h=>by cases h
 | .iface _ _ :: _,_,h=>by cases h
 | .nilI :: _,_,h=>by cases h
theorem zuz (ns : List Int) (k : IntKind) : (ns.map (fun x=>AV.int k x)).flatMap AV.cells = ns.map fun x=>AV.int k x:=by
 induction ns with
 | nil=>rfl
 | cons n ns ih=>simp only [List.map_cons,List.flatMap_cons,ih]; rfl
theorem rep_ints {news : List Value} {ns : List Int} {k : IntKind} (h : RepL g w news (ns.map fun x=>AV.int k x)) : news = ns.map (Value.int k):=by
 apply List.ext_getElem?;intro j;rw [List.getElem?_map];have hl := h.1;rw [lnM] at hl;cases hn : ns[j]? with
 | none =>
  rw [List.getElem?_eq_none_iff] at hn;exact List.getElem?_eq_none (by omega)
 | some n =>
  have hc : (ns.map fun x=>AV.int k x)[j]? = some (.int k n) := by rw [List.getElem?_map,hn]; rfl
  obtain ⟨u,hu,hr⟩ := h.get hc;rw [hu,zbc hr];rfl
end
end
section
structure Keep (X : Nat→Prop) (g : G) (w : World) (g' : G) (w' : World) : Prop where
 ext : Ext g w g' w'
 os : w'.os = w.os
 tape : w'.tape = w.tape
 output : w'.output = w.output
 size : w.heap.size ≤ w'.heap.size
 blk : ∀ B,B < w.heap.size→¬ X B→w'.heap[B]? = w.heap[B]?∧g'.role B = g.role B∧g'.pub B = g.pub B
section
variable {X : Nat→Prop} {g0 : G} {w0 : World} {Ex : Nat→Prop} {g g' : G} {S : St} {a : Act} {w w' : World} {P : Program} {R : Type} {r : R} {o : Oper}
theorem zdh {B : Nat} {x : Obj} (h : w.heap[B]? = some x) : B < w.heap.size := (Array.getElem?_eq_some_iff.1 h).1
theorem zeh.keep {B : Nat} {cells : List AV} (h : zeh g w B cells) (k : Keep X g w g' w') (hX : ¬ X B) : zeh g' w' B cells:=by
 obtain ⟨us,e,h1,h2,h3⟩ := h;exact ⟨us,e,by rw [(k.blk B (zdh h1) hX).1]; exact h1,h2,h3.ext k.ext⟩
theorem zas.keep {p : Pl} {u : Value} {c : AV} (h : zas g w p u c) (k : Keep X g w g' w') (hX : ∀ B,g.role B = .c p→¬ X B) : zas g' w' p u c:=by
 cases c with
 | vs sz tg l =>
  rcases h with h | h | ⟨B,n,cap,us,e,h1,h2,h3,h4,h5,h6⟩
  ·exact .inl h
  ·exact .inr (.inl h)
  ·obtain ⟨k1,k2,k3⟩ := k.blk B (zdh h3) (hX B h2);exact .inr (.inr ⟨B,n,cap,us,e,h1,by rw [k2]; exact h2,by rw [k1]; exact h3,h4,h5,by rw [k3]; exact h6⟩)
 | _=>trivial
theorem zb8 {B o : Nat} (h : w'.heap[B]? = w.heap[B]?) : w'.cell? ⟨B,o,none⟩ = w.cell? ⟨B,o,none⟩ := by simp [World.cell?,h]
theorem RelH.keep {H : Hp} {nx nx' : Nat} (h : RelH g H nx w) (k : Keep X g w g' w') (h1 : ∀ B id b,g.role B = .h id→H id = some b→¬ X B) (h2 : ∀ B id off,g.role B = .c (.h id off)→¬ X B)
  (h3 : ∀ B id,g'.role B = .h id→H id ≠ none) : RelH g' H nx' w':=by
 refine ⟨fun id b hb=>?_,h3⟩;obtain ⟨B,hB,hblk,hfree⟩ := h.blk id b hb;have hn := h1 B id b hB hb;obtain ⟨us,e,hheap,_⟩ := hblk;obtain ⟨k1,k2,k3⟩ := k.blk B (zdh hheap) hn;refine ⟨B,by rw [k2]; exact hB,zeh.keep (by exact (h.blk id b hb).elim fun B' hh=>by obtain ⟨hB',hb',_⟩ := hh; exact (show zeh g w B b.cells from ⟨us,e,hheap,‹_›⟩)) k hn,fun off hoff u v hu hv=>?_⟩;rw [zb8 k1] at hu;exact (hfree off hoff u v hu hv).keep k fun B' hB'=>h2 B' id off hB'
theorem RelL.keep {L : List (Nat × Blk)} (h : RelL g L w) (k : Keep X g w g' w') (h1 : ∀ B d b,g.role B = .l d→getL L d = some b→¬ X B) (h2 : ∀ B d off,g.role B = .c (.l d off)→¬ X B) : RelL g' L w':=by
 intro d b hb;obtain ⟨B,hB,hblk,hfree⟩ := h d b hb;have hn := h1 B d b hB hb;obtain ⟨us,e,hheap,hrest⟩ := hblk;obtain ⟨k1,k2,k3⟩ := k.blk B (zdh hheap) hn;refine ⟨B,by rw [k2]; exact hB,zeh.keep ⟨us,e,hheap,hrest⟩ k hn,fun off hoff u v hu hv=>?_⟩;rw [zb8 k1] at hu;exact (hfree off hoff u v hu hv).keep k fun B' hB'=>h2 B' d off hB'
theorem RelM.keep {M : List (Nat × List (AV × AV))} (h : RelM g M w) (k : Keep X g w g' w') (h1 : ∀ B d l,g.role B = .l d→getM M d = some l→¬ X B) : RelM g' M w':=by
 intro d l hl;obtain ⟨B,es,ck,hB,hheap,hr⟩ := h d l hl;obtain ⟨k1,k2,k3⟩ := k.blk B (zdh hheap) (h1 B d l hB hl);exact ⟨B,es,ck,by rw [k2]; exact hB,by rw [k1]; exact hheap,hr.ext k.ext⟩
theorem RelM.nocells {M : List (Nat × List (AV × AV))} (h : RelM g M w) (hi : Inv g w) {B : Nat} {us : Array Value} {e : TypeId} {fz : Nat × Nat} (hheap : w.heap[B]? = some (.cells us e fz)) :
  ∀ B' d l,g.role B' = .l d→getM M d = some l→¬ B' = B:=by
 rintro B' d l hB' hl rfl;obtain ⟨B2,es,ck,h2,h3,_⟩ := h d l hl;obtain rfl := hi.injl B' B2 d hB' h2;rw [hheap] at h3;cases h3
theorem Fr.keep (h : Fr g0 w0 Ex g w) (k : Keep X g w g' w') (hX : ∀ B,X B→w0.heap.size ≤ B ∨ Ex B) (hr : ∀ B,B < w0.heap.size→X B→g'.role B ≠ .ext→Ex B) : Fr g0 w0 Ex g' w':=by
 refine ⟨h.ext.trans k.ext,k.os.trans h.os,k.tape.trans h.tape,k.output.trans h.output,Nat.le_trans h.size k.size,fun B hB hE=>?_,fun B hB=>?_⟩
 ·have hn : ¬ X B := fun hx=>by
   rcases hX B hx with h1 | h1
   ·omega
   ·exact hE h1
  obtain ⟨k1,k2,k3⟩ := k.blk B (Nat.lt_of_lt_of_le hB h.size) hn;obtain ⟨h1,h2⟩ := h.same B hB hE;exact ⟨k1.trans h1,k3.trans h2⟩
 ·rcases Nat.lt_or_ge B w0.heap.size with hlt | hge
  ·rcases Classical.em (X B) with hx | hx
   ·exact .inr (hr B hlt hx hB)
   ·obtain ⟨_,k2,_⟩ := k.blk B (Nat.lt_of_lt_of_le hlt h.size) hx;rw [k2] at hB;exact h.role B hB
  ·exact .inl hge
theorem Rel.grow (h : Rel g0 w0 Ex g S a w) (k : Keep (fun _=>False) g w g' w') (hi : Inv g' w') (h3 : ∀ B id,g'.role B = .h id→S.H id ≠ none) : Rel g0 w0 Ex g' S a w':=by
 refine ⟨hi,h.h.keep k (fun _ _ _ _ _=>id) (fun _ _ _ _=>id) h3,h.l.keep k (fun _ _ _ _ _=>id) (fun _ _ _ _=>id),h.m.keep k (fun _ _ _ _ _=>id),h.len,fun t=>?_,h.fr.keep k (fun _ hx=>hx.elim) (fun _ _ hx=>hx.elim),h.nodef⟩;have hs := h.sl t;have role : ∀ B d,g.role B = .l d→g'.role B = .l d := fun B d hB=>by
  rcases Nat.lt_or_ge B w.heap.size with hlt | hge
  ·rw [(k.blk B hlt id).2.1]; exact hB
  ·rw [(h.inv.new B hge).1] at hB; cases hB
 cases hst : S.slot t with
 | und=>trivial
 | lp d off =>
  rw [hst] at hs;obtain ⟨B,h1,h2⟩ := hs;exact ⟨B,role B d h1,h2⟩
 | mp d =>
  rw [hst] at hs;obtain ⟨B,h1,h2⟩ := hs;exact ⟨B,role B d h1,h2⟩
 | val v f =>
  rw [hst] at hs;obtain ⟨h1,h2⟩ := hs;refine ⟨h1.ext k.ext,?_⟩;cases f with
  | no=>trivial
  | own=>exact zas.keep h2 k fun _ _=>id
  | ownS=>exact zas.keep h2 k fun _ _=>id
  | lS q=>exact h2
  | lL d off =>
   intro b hb hoff;obtain ⟨B,h4,h5,h6⟩ := h2 b hb hoff;exact ⟨B,role B d h4,by rw [zb8 (k.blk B (zqe h5) id).1]; exact h5,h6⟩
  | lH id off =>
   intro b hb hoff;obtain ⟨B,h4,h5,h6⟩ := h2 b hb hoff;exact ⟨B,k.ext.hrole B id h4,by rw [zb8 (k.blk B (zqe h5) (fun x=>x)).1]; exact h5,h6⟩
  | comps cs=>exact fun i hi us vs ui vi e1 e2 e3 e4=>zas.keep (h2 i hi us vs ui vi e1 e2 e3 e4) k fun _ _=>id
theorem Rel.drew (h : Rel g0 w0 Ex g S a w) : Rel g0 w0 Ex g S a w.drew :=
 h.grow ⟨⟨fun _ _ h=>h,fun _=>Nat.le_refl _,fun _ _ _=>rfl⟩,rfl,rfl,rfl,Nat.le_refl _,fun _ _ _=>⟨rfl,rfl,rfl⟩⟩ ⟨h.inv.new,h.inv.ph,h.inv.pl,h.inv.injh,h.inv.injl⟩ h.h.lt
def G.new (g : G) (B : Nat) (r : Role) (p : Nat) : G := ⟨fun b=>if b = B then r else g.role b,fun b=>if b = B then p else g.pub b⟩
theorem zba {B b : Nat} {r : Role} {p : Nat} : (g.new B r p).role b = if b = B then r else g.role b := rfl
theorem ze8 {B b : Nat} {r : Role} {p : Nat} : (g.new B r p).pub b = if b = B then p else g.pub b := rfl
theorem zem (hi : Inv g w) (hold : ∀ B,B < w.heap.size→w'.heap[B]? = w.heap[B]?) (hsz : w.heap.size ≤ w'.heap.size) (ho : w'.os = w.os) (ht : w'.tape = w.tape) (hu : w'.output = w.output) (r : Role) (p : Nat) :
  Keep (fun _=>False) g w (g.new w.heap.size r p) w':=by
 have hne : ∀ B,B < w.heap.size→¬ B = w.heap.size := fun B h=>by omega
 refine ⟨⟨fun B id hB=>?_,fun B=>?_,fun B o hB=>?_⟩,ho,ht,hu,hsz,fun B hB _=>⟨hold B hB,by rw [zba,if_neg (hne B hB)],by rw [ze8,if_neg (hne B hB)]⟩⟩
 ·rw [zba,if_neg ?_]; exact hB;intro e; subst e; rw [(hi.new _ (Nat.le_refl _)).1] at hB; cases hB
 ·rw [ze8];split
  ·rename_i e; subst e; rw [(hi.new _ (Nat.le_refl _)).2]; exact Nat.zero_le _
  ·exact Nat.le_refl _
 ·have hlt : B < w.heap.size:=by
   rcases Nat.lt_or_ge B w.heap.size with h | h
   ·exact h
   ·rw [(hi.new B h).2] at hB; omega
  exact zb8 (hold B hlt)
theorem zmo (hi : Inv g w) (hsz : w'.heap.size = w.heap.size + 1) (r : Role) (p : Nat) (hp : (∃ id,r = .h id) ∨ (∃ d,r = .l d)→p = 0) (hfh : ∀ id B,r = .h id→g.role B ≠ .h id) (hfl : ∀ d B,r = .l d→g.role B ≠ .l d) :
  Inv (g.new w.heap.size r p) w':=by
 refine ⟨fun B hB=>?_,fun B id hB=>?_,fun B d hB=>?_,fun B B' id h1 h2=>?_,fun B B' d h1 h2=>?_⟩
 ·rw [zba,ze8,if_neg (by omega),if_neg (by omega)]; exact hi.new B (by omega)
 ·rw [zba] at hB;rw [ze8];split at hB
  ·rename_i e; rw [if_pos e]; exact hp (.inl ⟨id,hB⟩)
  ·rename_i e; rw [if_neg e]; exact hi.ph B id hB
 ·rw [zba] at hB;rw [ze8];split at hB
  ·rename_i e; rw [if_pos e]; exact hp (.inr ⟨d,hB⟩)
  ·rename_i e; rw [if_neg e]; exact hi.pl B d hB
 ·rw [zba] at h1 h2;split at h1 <;> split at h2
  ·rename_i e1 e2; rw [e1,e2]
  ·exact absurd h2 (hfh id B' h1)
  ·exact absurd h1 (hfh id B h2)
  ·exact hi.injh B B' id h1 h2
 ·rw [zba] at h1 h2;split at h1 <;> split at h2
  ·rename_i e1 e2; rw [e1,e2]
  ·exact absurd h2 (hfl d B' h1)
  ·exact absurd h1 (hfl d B h2)
  ·exact hi.injl B B' d h1 h2
theorem Rel.newblk (h : Rel g0 w0 Ex g S a w) (hold : ∀ B,B < w.heap.size→w'.heap[B]? = w.heap[B]?) (hsz : w'.heap.size = w.heap.size + 1) (ho : w'.os = w.os) (ht : w'.tape = w.tape) (hu : w'.output = w.output)
  (r : Role) (p : Nat) (hr : r = .ext ∨ ∃ q,r = .c q) : Rel g0 w0 Ex (g.new w.heap.size r p) S a w':=by
 refine h.grow (zem h.inv hold (by omega) ho ht hu r p) (zmo h.inv hsz r p ?_ ?_ ?_) ?_
 ·rintro (⟨id,e⟩ | ⟨d,e⟩) <;> rcases hr with rfl | ⟨q,rfl⟩ <;> cases e
 ·intro id B e; rcases hr with rfl | ⟨q,rfl⟩ <;> cases e
 ·intro id B e; rcases hr with rfl | ⟨q,rfl⟩ <;> cases e
 ·intro B id hB;rw [zba] at hB;split at hB
  ·rcases hr with rfl | ⟨q,rfl⟩ <;> cases hB
  ·exact h.h.lt B id hB
theorem zn2 {wn : World} {B : Nat} {l : List UInt8} (hc : ∀ (j : Nat) (b : UInt8),l[j]? = some b→wn.cell? ⟨B,j,none⟩ = some (.int .u8 b.toNat)) (hp : g'.pub B = l.length) (cap : Nat) (hcap : l.length ≤ cap) :
  Rep g' wn (.slice (some ⟨B,0,none⟩) l.length cap) (.vs 1 false (l.map zbq)):=by
 have := Rep.vs (g := g') (w := wn) B 0 cap 1 false (l.map zbq) (l.map fun b=>Value.int .u8 b.toNat) (by rw [zg0]; simp) (fun x hx=>by obtain ⟨b,_,rfl⟩ := List.mem_map.1 hx; rfl) (by simp) (by simpa using hcap) (fun j u hu=>?_) (fun j u c hu hc=>?_)
 ·simpa using this
 ·rw [List.getElem?_map] at hu;cases hb : l[j]? with
  | none=>rw [hb] at hu; cases hu
  | some b =>
   rw [hb] at hu;injection hu with hu;subst hu;rw [Nat.zero_add];exact ⟨hc j b hb,by rw [hp]; exact (List.getElem?_eq_some_iff.1 hb).1,rfl⟩
 ·rw [zg0] at hc;rw [List.getElem?_map] at hu hc;cases hb : l[j]? with
  | none=>rw [hb] at hu; cases hu
  | some b =>
   rw [hb] at hu hc;injection hu with hu;injection hc with hc;subst hu hc;exact .int _ _
theorem zld {s d : TypeId} {x : Operand} {k : St→Option R} (ho : o.op = .convert s d x) (h : zar P o s d (evT P S s x) S k = some r) (hg : Rel g0 w0 Ex g S a w) :
  zb3 P o a w g0 w0 Ex k r:=by
 unfold zar at h;have hx := hg.evT (P := P) s x;split at h
 ·rename_i j1 j2 hs hd;obtain ⟨ik,n,hv,h1⟩ := int?_some h;rw [hv] at hx;have hx' := zbc hx;exact .val hg (by simp only [execOp,ho,hx',convert,Sem.run_bind,zb7 hs,zb7 hd,Result.andThen_ok,Conv.intToInt,Sem.run_pure]) (.int _ _) h1
 ·rename_i hs hd;obtain ⟨l,hv,h1⟩ := str?_some h;rw [hv] at hx;obtain ⟨bs,hbs,rfl⟩ := zca hx;exact .val hg (by simp only [execOp,ho,hbs,convert,Sem.run_bind,zb7 hs,zb7 hd,Result.andThen_ok,Sem.run_pure]) (.str bs) h1
 ·rename_i e hs hd;obtain ⟨l,hv,h1⟩ := str?_some h;clear h;rw [hv] at hx;obtain ⟨bs,hbs,rfl⟩ := zca hx;split at h1
  ·rename_i he;split at h1
   ·have hrun := Lib.run_convert_string_bytes (P := P) w s d e bs hs hd he;have hsz : bs.data.toList.length = bs.size := by rw [Array.length_toList]; rfl
    refine .mk (w' := Lib.bytesWorld w e bs) (u := .slice (some ⟨w.heap.size,0,none⟩) bs.size (grownCap w bs.size 0 e)) (by simp only [execOp,ho,hbs,Sem.run_bind,hrun,Result.andThen_ok,Sem.run_pure]) ?_ h1;have hr := hg.newblk (w' := Lib.bytesWorld w e bs) (fun B hB=>Lib.bytesWorld_at_old w e bs B hB) (Lib.bytesWorld_size w e bs) rfl rfl rfl .ext bs.size (.inl rfl);refine ⟨_,hr.putv (f := .no) o.dst ?_ (fun _ _=>trivial) (by simp) (by simp)⟩;rw [← hsz];refine zn2 (fun j b hb=>?_) (by rw [ze8,if_pos rfl]) _ (by rw [hsz]; exact grownCap_ge w bs.size 0 e);have hj : j < bs.size := by rw [← hsz]; exact (List.getElem?_eq_some_iff.1 hb).1
    rw [Lib.bytesWorld_cell w e bs j hj];simp [List.getD,hb]
   ·cases h1
  ·cases h1
 ·rename_i e hs hd;split at h
  ·rename_i he;split at h
   ·cases h
   ·rename_i y hny;obtain ⟨l,news,h1,hsrc⟩ := zha (P := P) hg h hx;obtain ⟨str,hstr,h2⟩ := za2 h1;obtain ⟨ns,rfl,rfl⟩ := zil hstr;have hrl := hsrc.rep;rw [zuz] at hrl;have hnews := rep_ints hrl;have hstr' : Rep g w (.string ⟨(ns.map fun x=>UInt8.ofNat x.toNat).toArray⟩) (.str (ns.map fun x=>UInt8.ofNat x.toNat)) := ztb _;refine .val hg (u := .string (strOfNums ns)) ?_ hstr' h2;rcases hsrc.shape with ⟨hu,hn⟩ | ⟨B,off,cap,hu,hc⟩ | ⟨bs,hu⟩
    ·have hn' : ns = [] := by simpa using hn
     subst hn';obtain ⟨p,hu⟩ := hu;cases p with
     | none =>
      simp only [execOp,ho,hu,Sem.run_bind,run_convert_bytes_nil w s e hs he 0 0 d hd,Result.andThen_ok,Sem.run_pure];rfl
     | some ad =>
      have hrun : (convert s d (.slice (some ad) 0 0)).run P w = .ok (.string ⟨([] : List UInt8).toArray⟩) w := run_convert_bytes_back w s d e ad 0 [] hs he hd (fun j hj=>by simp at hj);simp only [execOp,ho,hu,Sem.run_bind,hrun,Result.andThen_ok,Sem.run_pure];rfl
    ·have hrun := run_convert_bytes_arg (P := P) w s e hs he B off (ns.map fun x=>AV.int .u8 x).length cap ns (by simp) (fun i hi=>by
      rw [lnM] at hi;refine (hc i _ ?_).1;rw [hnews,List.getElem?_map,List.getElem?_eq_getElem hi];simp [List.getD,List.getElem?_eq_getElem hi]) d hd
     simp only [execOp,ho,hu,Sem.run_bind,hrun,Result.andThen_ok,Sem.run_pure]
    ·rw [hu] at hx;exfalso;cases hev : evT P S s x <;> rw [hev] at hx <;> first | (cases hx; done) | skip
     ·rw [hev] at h; cases h
     ·exact hny _ hev
  ·cases h
 ·cases h
end
end
end Go.Vai
