/- A region that draws its order, walked once, in the text's order: each operation is shown to do what it does in whatever world has come of those that it waits for. A region that draws its order, walked in the text's order: its first operations write nothing that is there; each is shown to do what it does wherever what it waits for has been done. A region that draws its order: the rule. Drawn regions: what shows a step of one (DStep): an operation without memory, one that makes an object, a call. Drawn regions, state by state. Ranges over functions: yields in an iterator's walk; an iterator's co -/
import Derived.Orders
import Derived.Below
import Derived.Deep.Draws
import Derived.OrdersIn
import Derived.RangeFuncIn
import Derived.Deep.AppendSrc
import Derived.Lib.AppendZerosOnto
import Derived.Test.YtgdmkpikkfakdaaGreatDoorProg
import Derived.Test.YtgdmkpikkfakdaaGreatDoorBunModel1
namespace Go.Proofs.YtgdmkpikkfakdaaGreatDoor
open Go.RowKit
set_option maxRecDepth 100000
set_option linter.unusedVariables false
set_option linter.unusedSimpArgs false
set_option linter.unusedSectionVars false
section
def StepOk (P:Program) (s:Sem Next) (w:World) (R:Value→World→Prop):Prop:=
 match s.run P w with
 | .ok (.value v) w'=>R v w'
 | .ok .skip w'=>R undef w'
 | .ok (.enter f args) w'=>Calls P f args w' fun e w''=>match e with| .returned v=>R v w''|_=>False
 | .ok (.row row args) w'=>Rows P row args w' R
 |_=>False
theorem StepOk.wp {P:Program} {o:Oper} {a:Act} {w:World} {R:Value→World→Prop} {K:Act→World→Prop} {Q:Exit→Act→World→Prop}
 (h:StepOk P (execOp a.eval o) w R) (hk: ∀v w',R v w'→K (a.put o.dst v) w'):o.wp P a w K Q:=by
 unfold StepOk at h;unfold Oper.wp;generalize (execOp a.eval o).run P w=r at*;cases r with
 |ok n w'=>
  cases n <;>simp only [Oper.upon] at h ⊢
  case value v=>exact hk _ _ h
  case skip=>exact hk _ _ h
  case enter f args=>exact h.mono fun e w'' he=>by cases e <;>first|exact hk _ _ he|exact he.elim
  case row row args=>exact h.mono fun v w'' he=>hk _ _ he
 |halt x w'=>exact h.elim
structure PG where
 G:Value→World→Prop
 ok:Value→Prop:=fun _=>True
 imp: ∀v w,G v w→ok v:=by intros;trivial
 x0:Value:=undef
 hx0:ok x0:=by trivial
abbrev Js:=Nat→Option PG
def anc (ops:Array Oper) (k j:Nat):Bool:=((Region.before ops).getD k 0).testBit j
def wpS (P:Program) (E:World→World→Prop) (w0:World) (ops:Array Oper) (plan:Js) (F:Act→World→Prop):List Nat→Act→List (Nat×(World→Prop))→Prop
 |[],a,kn=> ∀w,E w0 w→(∀p∈kn,p.2 w)→F a w
 |k::rest,a,kn=>
  match ops[k]? with
  |none=>False
  |some o=>
   if Region.wanted o (yielded ops a.tmps)=true then
    match plan k with
    |some G=>(∀w,E w0 w→(∀p∈kn,anc ops k p.1=true→p.2 w)→StepOk P (execOp a.eval o) w fun v w'=>E w w'∧G.G v w')∧ ∀x,G.ok x→wpS P E w0 ops plan F rest (a.put o.dst x) ((k,G.G x)::kn)
    |none=> ∃v,(∀w,E w0 w→(∀p∈kn,anc ops k p.1=true→p.2 w)→(execOp a.eval o).run P w= .ok (.value v) w)∧wpS P E w0 ops plan F rest (a.put o.dst v) kn
   else wpS P E w0 ops plan F rest (a.put o.dst undef) kn
def zfc (ops:Array Oper) (i j:Nat):Bool:=
 match ops[i]?,ops[j]? with
 |some x,some y=>anc ops i j||anc ops j i||x.apart ops y
 |_,_=>false
def okS (ops:Array Oper) (m:Nat):Bool:=
 ((List.range ops.size).all fun i=>(List.range i).all fun j=>zfc ops j i && !anc ops j i) &&
 ((List.range ops.size).all fun i=> !anc ops i i) &&
 (ops.toList.all fun o=>match o.op with| .select .. =>false|_=>true) &&
 ((List.range ops.size).all fun i=>i<m||(List.range i).all fun j=>anc ops i j) &&
 ((List.range ops.size).all fun i=>match ops[i]? with|some o=>o.after.all fun e=> !Region.binds .any e||decide (e.on<i)|none=>false) && decide (m≤ops.size)
section
variable {P:Program} {E:World→World→Prop} {w0:World} {ops:Array Oper} {plan:Js} {F:Act→World→Prop}
theorem vM: ∀{R:List Nat} {a:Act} {kn kn':List (Nat×(World→Prop))},(∀p,p∈kn↔p∈kn')→wpS P E w0 ops plan F R a kn→wpS P E w0 ops plan F R a kn'
 |[],a,kn,kn',hp,h=>fun w hE hk=>h w hE fun p hm=>hk p ((hp p).1 hm)
 |k::R,a,kn,kn',hp,h=>by
  unfold wpS at h ⊢;cases ho:ops[k]? with
  |none=>rw [ho] at h;exact h
  |some o=>
   rw [ho] at h;simp only at h ⊢;split
   ·rename_i hw;rw [if_pos hw] at h;cases hpl:plan k with
    |some G=>
     rw [hpl] at h;exact ⟨fun w hE hk=>h.1 w hE fun p hm=>hk p ((hp p).1 hm),fun x hx=>vM (fun p=>by simp only [List.mem_cons,hp p]) (h.2 x hx)⟩
    |none=>
     rw [hpl] at h;obtain ⟨v,h1,h2⟩:=h;exact ⟨v,fun w hE hk=>h1 w hE fun p hm=>hk p ((hp p).1 hm),vM hp h2⟩
   ·rename_i hw;rw [if_neg hw] at h;exact vM hp h
def zaj (o:Oper):Prop:= ∀cs b,o.op≠ .select cs b
def VC (P:Program) (E:World→World→Prop) (w:World) (ops:Array Oper) (plan:Js) (i:Nat) (o:Oper) (a:Act) (kn:List (Nat×(World→Prop))) (K:Value→List (Nat×(World→Prop))→Prop):Prop:=
 if Region.wanted o (yielded ops a.tmps)=true then
  match plan i with
  |some G=>StepOk P (execOp a.eval o) w (fun v w'=>E w w'∧G.G v w')∧ ∀x,G.ok x→K x ((i,G.G x)::kn)
  |none=> ∃v,(execOp a.eval o).run P w= .ok (.value v) w∧K v kn
 else K undef kn
structure zkm (ops:Array Oper) (oi:Oper) (i j:Nat) where
 oj:Oper
 at_:ops[j]?=some oj
 ij:anc ops i j=false
 ji:anc ops j i=false
 ap:oj.apart ops oi=true
 ap':oi.apart ops oj=true
 sel:zaj oj
theorem zbY {P:Program} {s:Sem Next} {w:World} {v v':Value} (h:s.run P w= .ok (.value v) w) (h':s.run P w= .ok (.value v') w):v=v':=by
 rw [h] at h';injection h' with h'
 injection h'
theorem jF {i:Nat} {oi:Oper} (hi:ops[i]?=some oi) (hsi:zaj oi) {w:World} (hE:E w0 w) (R2:List Nat): ∀(R1:List Nat) (a:Act) (kn:List (Nat×(World→Prop))),
 wpS P E w0 ops plan F (R1++i::R2) a kn→(∀p∈kn,anc ops i p.1=true→p.2 w)→(∀j∈R1,Nonempty (zkm ops oi i j))→
 VC P E w ops plan i oi a kn fun v kn'=>wpS P E w0 ops plan F (R1++R2) (a.put oi.dst v) kn'
 |[],a,kn,h,hk,_=>by
  rw [List.nil_append,wpS,hi] at h;unfold VC;simp only at h;split
  ·rename_i hw;rw [if_pos hw] at h;cases hpl:plan i with
   |some G=>rw [hpl] at h;exact ⟨h.1 w hE hk,h.2⟩
   |none=>rw [hpl] at h;obtain ⟨v,h1,h2⟩:=h;exact ⟨v,h1 w hE hk,h2⟩
  ·rename_i hw;rw [if_neg hw] at h;exact h
 |j::R1,a,kn,h,hk,hf=>by
  obtain ⟨oj,hj,hij,hji,hap,hap',hsj⟩:=hf j (by simp);have hf': ∀j∈R1,Nonempty (zkm ops oi i j):=fun j hj=>hf j (by simp [hj])
  obtain ⟨p1,p2,p3⟩:=Oper.apart_spec hap;obtain ⟨q1,q2,q3⟩:=Oper.apart_spec hap';have ei: ∀x,execOp (a.put oj.dst x).eval oi=execOp a.eval oi:=fun x=>execOp_put oi hsi a oj.dst x p1
  have wi: ∀x,Region.wanted oi (yielded ops (a.put oj.dst x).tmps)=Region.wanted oi (yielded ops a.tmps):=fun x=>wanted_put (ops:=ops) oi a oj.dst x p1
  have ej: ∀y,execOp (a.put oi.dst y).eval oj=execOp a.eval oj:=fun y=>execOp_put oj hsj a oi.dst y q1
  have wj: ∀y,Region.wanted oj (yielded ops (a.put oi.dst y).tmps)=Region.wanted oj (yielded ops a.tmps):=fun y=>wanted_put (ops:=ops) oj a oi.dst y q1
  have cm: ∀x y,(a.put oi.dst y).put oj.dst x=(a.put oj.dst x).put oi.dst y:=fun x y=>Act.put_comm a y x q2
  rw [List.cons_append,wpS,hj] at h;simp only at h
  have goal: ∀(y:Value) (q:List (Nat×(World→Prop))),(∀p∈q,p.1=i)→
   (if Region.wanted oj (yielded ops a.tmps)=true then
    match plan j with
    |some G=>(∀w,E w0 w→(∀p∈kn,anc ops j p.1=true→p.2 w)→StepOk P (execOp a.eval oj) w fun v w'=>E w w'∧G.G v w')∧ ∀x,G.ok x→wpS P E w0 ops plan F (R1++R2) ((a.put oj.dst x).put oi.dst y) (q++(j,G.G x)::kn)
    |none=> ∃v,(∀w,E w0 w→(∀p∈kn,anc ops j p.1=true→p.2 w)→(execOp a.eval oj).run P w= .ok (.value v) w)∧wpS P E w0 ops plan F (R1++R2) ((a.put oj.dst v).put oi.dst y) (q++kn)
   else wpS P E w0 ops plan F (R1++R2) ((a.put oj.dst undef).put oi.dst y) (q++kn))→wpS P E w0 ops plan F (j::R1++R2) (a.put oi.dst y) (q++kn):=by
   intro y q hq hh;have hkn: ∀w,(∀p∈q++kn,anc ops j p.1=true→p.2 w)→ ∀p∈kn,anc ops j p.1=true→p.2 w:=fun w hk p hm=>hk p (by simp [hm])
   rw [List.cons_append,wpS,hj];simp only [wj,ej];split
   ·rename_i hw;rw [if_pos hw] at hh;cases hpl:plan j with
    |some G=>
     rw [hpl] at hh;exact ⟨fun w hE hk=>hh.1 w hE (hkn w hk),fun x hx=>by rw [cm];exact vM (fun p=>by simp only [List.mem_append,List.mem_cons];constructor <;>(rintro (h|h|h) <;>simp [h])) (hh.2 x hx)⟩
    |none=>
     rw [hpl] at hh;obtain ⟨v,h1,h2⟩:=hh;exact ⟨v,fun w hE hk=>h1 w hE (hkn w hk),by rw [cm];exact h2⟩
   ·rename_i hw;rw [if_neg hw] at hh;rw [cm];exact hh
  unfold VC;by_cases hwj:Region.wanted oj (yielded ops a.tmps)=true
  ·rw [if_pos hwj] at h;cases hpj:plan j with
   |some Gj=>
    rw [hpj] at h
    have ih:=fun x (hx:Gj.ok x)=>jF hi hsi hE R2 R1 (a.put oj.dst x) ((j,Gj.G x)::kn) (h.2 x hx) (fun p hm ha=>by
     rcases List.mem_cons.1 hm with rfl|hm
     ·rw [hij] at ha;cases ha
     ·exact hk p hm ha) hf'
    unfold VC at ih;simp only [ei,wi] at ih;split
    ·rename_i hw;simp only [if_pos hw] at ih;cases hpi:plan i with
     |some G=>
      simp only [hpi] at ih;refine ⟨(ih _ Gj.hx0).1,fun y hy=>goal y [(i,G.G y)] (by simp) ?_⟩;rw [if_pos hwj,hpj];exact ⟨h.1,fun x hx=>(ih x hx).2 y hy⟩
     |none=>
      simp only [hpi] at ih;obtain ⟨v,h1,_⟩:=ih _ Gj.hx0;refine ⟨v,h1,goal v [] (by simp) ?_⟩;rw [if_pos hwj,hpj];refine ⟨h.1,fun x hx=> ?_⟩;obtain ⟨v',h1',h2'⟩:=ih x hx;rw [zbY h1 h1'];exact h2'
    ·rename_i hw;simp only [if_neg hw] at ih;refine goal undef [] (by simp) ?_;rw [if_pos hwj,hpj];exact ⟨h.1,fun x hx=>ih x hx⟩
   |none=>
    rw [hpj] at h;obtain ⟨vj,hj1,hj2⟩:=h;have ih:=jF hi hsi hE R2 R1 (a.put oj.dst vj) kn hj2 hk hf';unfold VC at ih;simp only [ei,wi] at ih;split
    ·rename_i hw;simp only [if_pos hw] at ih;cases hpi:plan i with
     |some G=>
      simp only [hpi] at ih;refine ⟨ih.1,fun y hy=>goal y [(i,G.G y)] (by simp) ?_⟩;rw [if_pos hwj,hpj];exact ⟨vj,hj1,ih.2 y hy⟩
     |none=>
      simp only [hpi] at ih;obtain ⟨v,h1,h2⟩:=ih;refine ⟨v,h1,goal v [] (by simp) ?_⟩;rw [if_pos hwj,hpj];exact ⟨vj,hj1,h2⟩
    ·rename_i hw;simp only [if_neg hw] at ih;refine goal undef [] (by simp) ?_;rw [if_pos hwj,hpj];exact ⟨vj,hj1,ih⟩
  ·rw [if_neg hwj] at h;have ih:=jF hi hsi hE R2 R1 (a.put oj.dst undef) kn h hk hf';unfold VC at ih;simp only [ei,wi] at ih;split
   ·rename_i hw;simp only [if_pos hw] at ih;cases hpi:plan i with
    |some G=>
     simp only [hpi] at ih;refine ⟨ih.1,fun y hy=>goal y [(i,G.G y)] (by simp) ?_⟩;rw [if_neg hwj];exact ih.2 y hy
    |none=>
     simp only [hpi] at ih;obtain ⟨v,h1,h2⟩:=ih;refine ⟨v,h1,goal v [] (by simp) ?_⟩;rw [if_neg hwj];exact h2
   ·rename_i hw;simp only [if_neg hw] at ih;refine goal undef [] (by simp) ?_;rw [if_neg hwj];exact ih
end
def vi (acc:Array Nat) (o:Oper):Nat:=o.after.foldl (fun s e=>if Region.binds .any e then s|||2^e.on|||acc.getD e.on 0 else s) 0
def bef (l:List Oper):Array Nat:=l.foldl (fun acc o=>acc.push (vi acc o)) #[]
theorem zaL (ops:Array Oper):Region.before ops=bef ops.toList:=by
 unfold Region.before bef vi;rw [←Array.foldl_toList]
theorem TF: ∀(l:List Oper) (acc:Array Nat),
 (l.foldl (fun acc o=>acc.push (vi acc o)) acc).size=acc.size+l.length∧
 (∀k,k<acc.size→(l.foldl (fun acc o=>acc.push (vi acc o)) acc)[k]?=acc[k]?)∧
 (∀i o,l[i]?=some o→ ∃acc':Array Nat,acc'.size=acc.size+i∧(∀k,k<acc'.size→(l.foldl (fun acc o=>acc.push (vi acc o)) acc)[k]?=acc'[k]?)∧
  (l.foldl (fun acc o=>acc.push (vi acc o)) acc)[acc.size+i]?=some (vi acc' o))
 |[],acc=>⟨rfl,fun _ _=>rfl,fun i o h=>by simp at h⟩
 |x::l,acc=>by
  obtain ⟨h1,h2,h3⟩:=TF l (acc.push (vi acc x));simp only [List.foldl_cons];refine ⟨by rw [h1];simp;omega,fun k hk=>by rw [h2 k (by simp;omega),Array.getElem?_push,if_neg (by omega)],fun i o hi=> ?_⟩;cases i with
  |zero=>
   simp at hi
   subst hi;exact ⟨acc,rfl,fun k hk=>by rw [h2 k (by simp;omega),Array.getElem?_push,if_neg (by omega)],by rw [Nat.add_zero,h2 _ (by simp),Array.getElem?_push,if_pos rfl]⟩
  |succ i=>
   obtain ⟨acc',g1,g2,g3⟩:=h3 i o (by simpa using hi);exact ⟨acc',by rw [g1];simp;omega,g2,by rw [←g3];congr 1;simp;omega⟩
theorem uX (acc:Array Nat) (j:Nat): ∀(l:List Edge) (s:Nat),(l.foldl (fun s e=>if Region.binds .any e then s|||2^e.on|||acc.getD e.on 0 else s) s).testBit j=true↔
 s.testBit j=true∨ ∃e∈l,Region.binds .any e=true∧(e.on=j∨(acc.getD e.on 0).testBit j=true)
 |[],s=>by simp
 |e::l,s=>by
  rw [List.foldl_cons,uX acc j l];by_cases hb:Region.binds .any e=true
  ·rw [if_pos hb,Nat.testBit_or,Nat.testBit_or,Nat.testBit_two_pow];simp only [Bool.or_eq_true,decide_eq_true_eq,List.mem_cons,exists_eq_or_imp,hb,true_and];constructor
   ·rintro ((h|h)|h)
    ·rcases h with h|h
     ·exact .inl h
     ·exact .inr (.inl (.inl h))
    ·exact .inr (.inl (.inr h))
    ·exact .inr (.inr h)
   ·rintro (h|(h|h)|h)
    ·exact .inl (.inl (.inl h))
    ·exact .inl (.inl (.inr h))
    ·exact .inl (.inr h)
    ·exact .inr h
  ·rw [if_neg hb];simp only [List.mem_cons,exists_eq_or_imp,hb,false_and,false_or,Bool.false_eq_true]
theorem GN (acc:Array Nat) (o:Oper) (j:Nat):(vi acc o).testBit j=true↔ ∃e∈o.after,Region.binds .any e=true∧(e.on=j∨(acc.getD e.on 0).testBit j=true):=by
 unfold vi;rw [←Array.foldl_toList,uX];simp only [Nat.zero_testBit,Bool.false_eq_true,false_or,Array.mem_toList_iff]
theorem Wl {ops:Array Oper} {i:Nat} {o:Oper} (hi:ops[i]?=some o) (hlt: ∀e∈o.after,Region.binds .any e=true→e.on<i) (j:Nat):
 anc ops i j=true↔ ∃e∈o.after,Region.binds .any e=true∧(e.on=j∨anc ops e.on j=true):=by
 obtain ⟨_,_,h3⟩:=TF ops.toList #[];obtain ⟨acc',g1,g2,g3⟩:=h3 i o (by simpa using hi);have hb:Region.before ops=ops.toList.foldl (fun acc o=>acc.push (vi acc o)) #[]:=zaL ops
 rw [←hb] at g2 g3;simp only [List.size_toArray,List.length_nil,Nat.zero_add] at g1 g3;have key: ∀k,anc ops k j=(((Region.before ops)[k]?).getD 0).testBit j:=fun k=>by unfold anc;rw [Array.getD_eq_getD_getElem?]
 rw [key i,g3,Option.getD_some,GN];constructor
 ·rintro ⟨e,he,hbi,h⟩
  refine ⟨e,he,hbi,h.imp id fun h=> ?_⟩;have:=hlt e he hbi
  rw [key,g2 _ (by omega),←Array.getD_eq_getD_getElem?];exact h
 ·rintro ⟨e,he,hbi,h⟩
  refine ⟨e,he,hbi,h.imp id fun h=> ?_⟩;have:=hlt e he hbi
  rw [key,g2 _ (by omega),←Array.getD_eq_getD_getElem?] at h;exact h
structure OkS (ops:Array Oper) (m:Nat):Prop where
 lt: ∀(i:Nat) (o:Oper),ops[i]?=some o→ ∀e∈o.after,Region.binds .any e=true→e.on<i
 free: ∀(i j:Nat) (oi oj:Oper),ops[i]?=some oi→ops[j]?=some oj→j<i→anc ops j i=false∧(anc ops i j=true∨oj.apart ops oi=true)
 sel: ∀(i:Nat) (o:Oper),ops[i]?=some o→zaj o
 tail: ∀(i j:Nat),m≤i→i<ops.size→j<i→anc ops i j=true
 le:m≤ops.size
theorem js {ops:Array Oper} {m:Nat} (h:okS ops m=true):OkS ops m:=by
 unfold okS at h;simp only [Bool.and_eq_true,List.all_eq_true,List.mem_range,decide_eq_true_eq] at h;obtain ⟨⟨⟨⟨⟨h1,h2⟩,h3⟩,h4⟩,h5⟩,h6⟩:=h;refine ⟨fun i o ho e he hb=> ?_,fun i j oi oj hi hj hlt=> ?_,fun i o ho cs b hop=> ?_,fun i j hm hi hj=> ?_,h6⟩
 ·have:=h5 i (Array.getElem?_eq_some_iff.1 ho).1
  rw [ho] at this;simp only [Array.all_eq_true_iff_forall_mem,Bool.or_eq_true,Bool.not_eq_true',decide_eq_true_eq] at this;exact (this e he).resolve_left (by rw [hb];simp)
 ·obtain ⟨h,hn⟩:=h1 i (Array.getElem?_eq_some_iff.1 hi).1 j hlt;have hn:anc ops j i=false:=by simpa using hn
  refine ⟨hn, ?_⟩;unfold zfc at h;rw [hj,hi] at h;simp only [Bool.or_eq_true,hn,Bool.false_eq_true,false_or] at h;exact h
 ·have:=h3 o (by rw [Array.mem_toList_iff];exact Array.mem_of_getElem? ho)
  rw [hop] at this;cases this
 ·have:=h4 i hi
  simp only [Bool.or_eq_true,decide_eq_true_eq,List.all_eq_true,List.mem_range] at this;exact this.resolve_left (by omega) j hj
theorem gP {ops:Array Oper} {x y:Oper} (h:x.apart ops y=true):y.apart ops x=true:=by
 unfold Oper.apart at*;cases hx:x.dst <;>cases hy:y.dst <;>simp_all
 exact fun e=>h.1.2 e.symm
section
variable {P:Program} {Q:Exit→Act→World→Prop} {ops:Array Oper} {m:Nat}
theorem JP (ok:OkS ops m): ∀(fuel k:Nat) (listed:Array Bool) (a:Act) (w:World),listed.size=ops.size→(∀j,listed.getD j false=decide (j<k))→m≤k→k≤ops.size→ops.size - k≤fuel→
 wpList P ops Q (ops.toList.drop k) a w→wpAny P .any ops Q fuel listed a w:=by
 intro fuel;induction fuel with
 |zero=>
  intro k listed a w hs hl hm hk hf h;have:k=ops.size:=by omega
  subst this;rw [List.drop_eq_nil_of_le (by simp)] at h;refine ⟨?_,h⟩;rw [List.eq_nil_iff_forall_not_mem];intro i hi;obtain ⟨h0,o,ho,_⟩:=mem_ready.1 hi;have hlt:=(Array.getElem?_eq_some_iff.1 ho).1
  have:=hl i
  rw [Array.getD_eq_getD_getElem?,Array.getElem?_eq_getElem (by omega)] at h0 this;simp only [Option.getD_some] at h0 this;rw [h0] at this;simp [hlt] at this
 |succ fuel ih=>
  intro k listed a w hs hl hm hk hf h
  have hgd: ∀i,i<ops.size→listed.getD i true=decide (i<k):=fun i hi=>by
   have:=hl i
   rw [Array.getD_eq_getD_getElem?,Array.getElem?_eq_getElem (by omega)] at this ⊢;exact this
  have only: ∀i,i∈Region.ready .any ops listed→i=k:=by
   intro i hi;obtain ⟨h0,o,ho,ha⟩:=mem_ready.1 hi;have hlt:=(Array.getElem?_eq_some_iff.1 ho).1
   rw [hgd i hlt] at h0;have h0:k≤i:=by simpa using h0
   rcases Nat.lt_or_ge k i with h1|h1
   ·exfalso
    obtain ⟨e,he,hb,hh⟩:=(Wl ho (ok.lt i o ho) k).1 (ok.tail i k (by omega) hlt h1);have h2:=ha e he hb;rw [hl] at h2;have h2:e.on<k:=by simpa using h2
    rcases hh with hh|hh
    ·omega
    ·cases hoe:ops[e.on]? with
     |none=>have:=ok.lt i o ho e he hb;simp at hoe;omega
     |some oe=>
      cases hok:ops[k]? with
      |none=>simp at hok;omega
      |some okk=>
       rw [(ok.free k e.on okk oe hok hoe h2).1] at hh;cases hh
   ·omega
  refine ⟨fun hr=> ?_,fun i hi=> ?_⟩
  ·have:k=ops.size:=by
    rcases Nat.lt_or_ge k ops.size with h1|h1
    ·exfalso
     have:k∈Region.ready .any ops listed:=by
      rw [mem_ready];refine ⟨by rw [hgd k h1];simp,ops[k],Array.getElem?_eq_getElem h1,fun e he hb=> ?_⟩;rw [hl];simpa using ok.lt k _ (Array.getElem?_eq_getElem h1) e he hb
     rw [hr] at this;cases this
    ·omega
   subst this;rw [List.drop_eq_nil_of_le (by simp)] at h;exact h
  ·obtain rfl:=only i hi;obtain ⟨_,o,ho,_⟩:=mem_ready.1 hi;have hlt:=(Array.getElem?_eq_some_iff.1 ho).1
   have hd:ops.toList.drop i=o::ops.toList.drop (i+1):=by
    rw [List.drop_eq_getElem_cons (by simpa using hlt)];congr 1
    have:=(Array.getElem?_eq_some_iff.1 ho).2
    simpa using this
   rw [hd] at h
   have h2:wpOp P ops Q i (wpList P ops Q (ops.toList.drop (i+1))) a w:=by
    unfold wpOp;rw [ho];unfold wpList at h;exact h
   refine wpOp_mono (fun a' w' h'=>ih (i+1) _ a' w' (by simpa using hs) (fun j=> ?_) (by omega) (by omega) (by omega) h') h2;by_cases hj:i=j
   ·subst hj;rw [Array.getD_eq_getD_getElem?,Array.getElem?_setIfInBounds_self];rw [if_pos (by omega)];simp
   ·rw [getD_set_ne _ hj,hl];simp only [decide_eq_decide];omega
end
section
variable {P:Program} {Q:Exit→Act→World→Prop} {ops:Array Oper} {m:Nat} {E:World→World→Prop} {w0:World} {plan:Js}
def gM (E:World→World→Prop) (G:World→Prop):Prop:= ∀w w',E w w'→G w→G w'
theorem qa {R1 R2:List Nat} {i m:Nat} {p:Nat→Bool} (h:(List.range m).filter p=R1++i::R2):(List.range m).filter (fun j=>(j !=i) && p j)=R1++R2:=by
 have hn:((List.range m).filter p).Nodup:=List.Pairwise.filter _ (List.nodup_range)
 rw [←List.filter_filter,h];rw [h,List.nodup_append] at hn;obtain ⟨h1,h2,h3⟩:=hn;rw [List.nodup_cons] at h2;rw [List.filter_append,List.filter_cons,if_neg (by simp)];congr 1
 ·rw [List.filter_eq_self];intro x hx;simpa using h3 x hx i (by simp)
 ·rw [List.filter_eq_self];intro x hx;simp;rintro rfl;exact h2.1 hx
theorem zN {listed:Array Bool} {j:Nat} (h:j<listed.size):listed.getD j true=listed.getD j false:=by
 simp [Array.getD_eq_getD_getElem?,h]
theorem zeX (ok:OkS ops m) (hrf: ∀w,E w w) (htr: ∀a b c,E a b→E b c→E a c) (hmono: ∀(i:Nat) (G:PG),plan i=some G→ ∀v,gM E (G.G v)): ∀(fuel:Nat) (listed:Array Bool) (a:Act) (w:World) (kn:List (Nat×(World→Prop))),
 listed.size=ops.size→(∀i,listed.getD i false=true→ ∀j,anc ops i j=true→listed.getD j false=true)→(∀j,m≤j→listed.getD j false=false)→
 ((List.range m).filter fun j=> !listed.getD j true).length+(ops.size - m)≤fuel→E w0 w→(∀p∈kn,p.2 w)→(∀p∈kn,gM E p.2)→
 wpS P E w0 ops plan (fun a w=>wpList P ops Q (ops.toList.drop m) a w) ((List.range m).filter fun j=> !listed.getD j true) a kn→wpAny P .any ops Q fuel listed a w:=by
 intro fuel;induction fuel with
 |zero=>
  intro listed a w kn hs hcl htl hf hE hk hmk h;have hR:(List.range m).filter (fun j=> !listed.getD j true)=[]:=List.eq_nil_of_length_eq_zero (by omega)
  rw [hR] at h;refine JP ok 0 m listed a w hs (fun j=> ?_) (Nat.le_refl _) ok.le (by omega) (h w hE hk);by_cases hj:j<m
  ·have:=List.filter_eq_nil_iff.1 hR j (List.mem_range.2 hj)
   rw [←zN (by have:=ok.le;omega)];simpa [hj] using this
  ·rw [htl j (by omega)];simp [hj]
 |succ fuel ih=>
  intro listed a w kn hs hcl htl hf hE hk hmk h;by_cases hR:(List.range m).filter (fun j=> !listed.getD j true)=[]
  ·rw [hR] at h hf;refine JP ok (fuel+1) m listed a w hs (fun j=> ?_) (Nat.le_refl _) ok.le (by simpa using hf) (h w hE hk);by_cases hj:j<m
   ·have:=List.filter_eq_nil_iff.1 hR j (List.mem_range.2 hj)
    rw [←zN (by have:=ok.le;omega)];simpa [hj] using this
   ·rw [htl j (by omega)];simp [hj]
  have hle:=ok.le;have hpw:((List.range m).filter fun j=> !listed.getD j true).Pairwise (· < ·):=List.Pairwise.filter _ List.pairwise_lt_range
  have hmem: ∀j,j∈(List.range m).filter (fun j=> !listed.getD j true)↔j<m∧listed.getD j true=false:=fun j=>by simp
  have hanc: ∀i,i∈Region.ready .any ops listed→ ∀j,anc ops i j=true→listed.getD j false=true:=by
   intro i hi j hj;obtain ⟨_,o,ho,ha⟩:=mem_ready.1 hi;obtain ⟨e,he,hb,hh⟩:=(Wl ho (ok.lt i o ho) j).1 hj;rcases hh with rfl|hh
   ·exact ha e he hb
   ·exact hcl _ (ha e he hb) j hh
  refine ⟨fun hr=> ?_,fun i hi=> ?_⟩
  ·exfalso
   obtain ⟨i,R',hRe⟩: ∃i R',(List.range m).filter (fun j=> !listed.getD j true)=i::R':=by
    cases hc:(List.range m).filter (fun j=> !listed.getD j true) with
    |nil=>exact absurd hc hR
    |cons i R'=>exact ⟨i,R',rfl⟩
   have him:=(hmem i).1 (by rw [hRe];simp)
   have hlow: ∀j,j<i→listed.getD j false=true:=by
    intro j hj;rw [←zN (by omega)];cases hc:listed.getD j true with
    |true=>rfl
    |false=>
     have:j∈i::R':=by rw [←hRe];exact (hmem j).2 ⟨by omega,hc⟩
     rw [hRe,List.pairwise_cons] at hpw;rcases List.mem_cons.1 this with h1|h1
     ·omega
     ·have:=hpw.1 j h1;omega
   have:i∈Region.ready .any ops listed:=by
    rw [mem_ready];exact ⟨him.2,ops[i]'(by omega),Array.getElem?_eq_getElem (by omega),fun e he hb=>hlow _ (ok.lt i _ (Array.getElem?_eq_getElem (by omega)) e he hb)⟩
   rw [hr] at this;cases this
  ·obtain ⟨h0,o,ho,_⟩:=mem_ready.1 hi;have hlt:=(Array.getElem?_eq_some_iff.1 ho).1
   have him:i<m:=by
    rcases Nat.lt_or_ge i m with h1|h1
    ·exact h1
    ·exfalso
     obtain ⟨r,hr⟩: ∃r,r∈(List.range m).filter (fun j=> !listed.getD j true):=by
      cases hc:(List.range m).filter (fun j=> !listed.getD j true) with
      |nil=>exact absurd hc hR
      |cons r R'=>exact ⟨r,by simp⟩
     have hr:=(hmem r).1 hr
     have:=hanc i hi r (ok.tail i r h1 hlt (by omega))
     rw [←zN (by omega),hr.2] at this;cases this
   obtain ⟨R1,R2,hsp⟩:=List.append_of_mem ((hmem i).2 ⟨him,h0⟩);rw [hsp] at h
   have hfree: ∀j∈R1,Nonempty (zkm ops o i j):=by
    intro j hj;have hjm:=(hmem j).1 (by rw [hsp];simp [hj])
    have hji:j<i:=by
     rw [hsp,List.pairwise_append] at hpw;exact hpw.2.2 j hj i (by simp)
    have hoj:ops[j]?=some (ops[j]'(by omega)):=Array.getElem?_eq_getElem (by omega)
    obtain ⟨g1,g2⟩:=ok.free i j o _ ho hoj hji
    have g3:anc ops i j=false:=by
     cases hc:anc ops i j with
     |false=>rfl
     |true=>
      have:=hanc i hi j hc
      rw [←zN (by omega),hjm.2] at this;cases this
    have g4:=g2.resolve_left (by rw [g3];simp);exact ⟨⟨_,hoj,g3,g1,g4,gP g4,ok.sel j _ hoj⟩⟩
   have hst:=jF ho (ok.sel i o ho) hE R2 R1 a kn h (fun p hp _=>hk p hp) hfree
   have hnext: ∀(a':Act) (w':World) (kn':List (Nat×(World→Prop))),E w w'→(∀p∈kn',p.2 w')→(∀p∈kn',gM E p.2)→
    wpS P E w0 ops plan (fun a w=>wpList P ops Q (ops.toList.drop m) a w) (R1++R2) a' kn'→wpAny P .any ops Q fuel (listed.setIfInBounds i true) a' w':=by
    intro a' w' kn' hE' hk' hm' h'
    have hfil:(List.range m).filter (fun j=> !(listed.setIfInBounds i true).getD j true)=R1++R2:=by
     rw [←qa hsp];congr 1
     funext j
     by_cases hj:i=j
     ·subst hj;rw [Array.getD_eq_getD_getElem?,Array.getElem?_setIfInBounds_self,if_pos (by omega)];simp
     ·rw [getD_set_ne _ hj];have:(j !=i)=true:=by simp;omega
      rw [this,Bool.true_and]
    refine ih _ a' w' kn' (by simpa using hs) ?_ ?_ ?_ (htr _ _ _ hE hE') hk' hm' (by rw [hfil];exact h')
    ·intro k hk1 j hj;by_cases hkj:i=j
     ·subst hkj;rw [Array.getD_eq_getD_getElem?,Array.getElem?_setIfInBounds_self,if_pos (by omega)];rfl
     ·rw [getD_set_ne _ hkj];by_cases hki:i=k
      ·subst hki;exact hanc i hi j hj
      ·rw [getD_set_ne _ hki] at hk1;exact hcl k hk1 j hj
    ·intro j hj;rw [getD_set_ne _ (by omega)];exact htl j hj
    ·rw [hfil];have:((List.range m).filter fun j=> !listed.getD j true).length=(R1++R2).length+1:=by rw [hsp];simp;omega
     omega
   unfold VC at hst;unfold wpOp;rw [ho];simp only;split
   ·rename_i hw;rw [if_pos hw] at hst;refine .inl ?_;cases hpl:plan i with
    |some G=>
     rw [hpl] at hst;refine hst.1.wp fun v w' hh=>hnext _ _ _ hh.1 ?_ ?_ (hst.2 v (G.imp _ _ hh.2))
     ·intro p hp;rcases List.mem_cons.1 hp with rfl|hp
      ·exact hh.2
      ·exact hmk p hp w w' hh.1 (hk p hp)
     ·intro p hp;rcases List.mem_cons.1 hp with rfl|hp
      ·exact hmono i G hpl v
      ·exact hmk p hp
    |none=>
     rw [hpl] at hst;obtain ⟨v,h1,h2⟩:=hst;unfold Oper.wp;rw [h1];exact hnext _ _ _ (hrf w) hk hmk h2
   ·rename_i hw;rw [if_neg hw] at hst;exact hnext _ _ _ (hrf w) hk hmk hst
theorem Tj {id:Nat} {a:Act} {w:World} (m:Nat) (plan:Js) (E:World→World→Prop) (hm:P.follows .mixedOrders=true) (hok:okS ops m=true)
 (hrf: ∀w,E w w) (htr: ∀a b c,E a b→E b c→E a c) (hmono: ∀(i:Nat) (G:PG),plan i=some G→ ∀v,gM E (G.G v))
 (hdr:E w w.drew) (h:wpS P E w ops plan (fun a w=>wpList P ops Q (ops.toList.drop m) a w) (List.range m) a []):(Code.region id ops true).wp P Q a w:=by
 have ok:=js hok;refine wp_region_any hm ?_
 have hfil:(List.range m).filter (fun j=> !(Array.replicate ops.size false).getD j true)=List.range m:=by
  rw [List.filter_eq_self];intro j hj;have:=List.mem_range.1 hj
  have:=ok.le
  simp [Array.getD_eq_getD_getElem?,Array.getElem?_replicate,show j<ops.size by omega]
 have hno: ∀j,(Array.replicate ops.size false).getD j false=false:=fun j=>by
  simp only [Array.getD_eq_getD_getElem?,Array.getElem?_replicate];split <;>rfl
 refine zeX ok hrf htr hmono ops.size _ a w.drew [] (by simp) (fun i hi=>by rw [hno] at hi;cases hi) (fun j _=>hno j) ?_ hdr (by simp) (by simp) (by rw [hfil];exact h);rw [hfil,List.length_range];have:=ok.le
 omega
def Bel (w w':World):Prop:=Below w.heap.size w w'
theorem Bel.refl (w:World):Bel w w:=Below.refl _ w
theorem Bel.trans (a b c:World) (h:Bel a b) (h':Bel b c):Bel a c:=Below.trans h (Below.mono h' h.size)
theorem T1 {id:Nat} {l:List Oper} {a:Act} {w:World} (m:Nat) (plan:Js) (hm:P.follows .mixedOrders=true) (hok:okS l.toArray m=true)
 (hmono: ∀(i:Nat) (G:PG),plan i=some G→ ∀v,gM Bel (G.G v))
 (h:wpS P Bel w l.toArray plan (fun a w=>wpList P l.toArray Q (l.drop m) a w) (List.range m) a []):(Code.region id l.toArray true).wp P Q a w:=
 Tj m plan Bel hm hok Bel.refl Bel.trans hmono ⟨rfl,rfl,rfl,Nat.le_refl _,fun _ _=>rfl⟩ (by simpa using h)
structure MG where
 pg:PG
 mono: ∀v,gM Bel (pg.G v)
def MG.val (x:Value):MG:=⟨{G:=fun v _=>v=x,ok:=fun v=>v=x,imp:=fun _ _ h=>h,x0:=x,hx0:=rfl},fun _ _ _ _ h=>h⟩
def JS:List (Nat×MG)→Nat→Option PG
 |[],_=>none
 |p::r,k=>if p.1=k then some p.2.pg else JS r k
theorem uj: ∀(l:List (Nat×MG)) (k:Nat) (G:PG),JS l k=some G→ ∀v,gM Bel (G.G v)
 |[],_,_,h,_=>by cases h
 |p::r,k,G,h,v=>by
  unfold JS at h;split at h
  ·injection h with h;subst h;exact p.2.mono v
  ·exact uj r k G h v
def wpL (P:Program) (w0:World) (ops:Array Oper) (plan:Js) (F:Act→World→Prop):Nat→List Oper→Act→List (Nat×(World→Prop))→Prop
 |_,[],a,kn=> ∀w,Bel w0 w→(∀p∈kn,p.2 w)→F a w
 |k,o::rest,a,kn=>
  if Region.wanted o (yielded ops a.tmps)=true then
   match plan k with
   |some G=>(∀w,Bel w0 w→(∀p∈kn,anc ops k p.1=true→p.2 w)→StepOk P (execOp a.eval o) w fun v w'=>Bel w w'∧G.G v w')∧ ∀x,G.ok x→wpL P w0 ops plan F (k+1) rest (a.put o.dst x) ((k,G.G x)::kn)
   |none=> ∃v,(∀w,Bel w0 w→(∀p∈kn,anc ops k p.1=true→p.2 w)→(execOp a.eval o).run P w= .ok (.value v) w)∧wpL P w0 ops plan F (k+1) rest (a.put o.dst v) kn
  else wpL P w0 ops plan F (k+1) rest (a.put o.dst undef) kn
theorem tH {w0:World} {ops:Array Oper} {plan:Js} {F:Act→World→Prop}: ∀(r:List Oper) (k:Nat) (a:Act) (kn:List (Nat×(World→Prop))),(∀j o,r[j]?=some o→ops[k+j]?=some o)→wpL P w0 ops plan F k r a kn→
 wpS P Bel w0 ops plan F (List.range' k r.length) a kn
 |[],k,a,kn,_,h=>h
 |o::r,k,a,kn,hr,h=>by
  have ih:=fun a kn=>tH (w0:=w0) (plan:=plan) (F:=F) r (k+1) a kn (fun j o' hj=>by have:=hr (j+1) o' (by simpa using hj);rw [←this];congr 1;omega)
  rw [List.length_cons,List.range'_succ,wpS,show ops[k]?=some o from hr 0 o rfl];unfold wpL at h;simp only;split
  ·rename_i hw;rw [if_pos hw] at h;cases hp:plan k with
   |some G=>rw [hp] at h;exact ⟨h.1,fun x hx=>ih _ _ (h.2 x hx)⟩
   |none=>rw [hp] at h;obtain ⟨v,h1,h2⟩:=h;exact ⟨v,h1,ih _ _ h2⟩
  ·rename_i hw;rw [if_neg hw] at h;exact ih _ _ h
theorem JW {id:Nat} {l:List Oper} {a:Act} {w:World} (l1 l2:List Oper) (hl:l=l1++l2) (plan:List (Nat×MG)) (hm:P.follows .mixedOrders=true) (hok:okS l.toArray l1.length=true)
 (h: ∀(ops:Array Oper) (F:Act→World→Prop) (w0:World) (pl:Js),Hid (ops=l.toArray)→Hid (pl=JS plan)→Hid (w0=w)→Hid (∀a w,wpList P l.toArray Q l2 a w→F a w)→wpL P w0 ops pl F 0 l1 a []):(Code.region id l.toArray true).wp P Q a w:=by
 refine T1 l1.length (JS plan) hm hok (fun i G hG v=>uj _ _ _ hG v) ?_
 have:=tH l1 0 a [] (fun j o hj=>by
  subst hl;have hlt:=(List.getElem?_eq_some_iff.1 hj).1
  simp only [Nat.zero_add,List.getElem?_toArray];rw [List.getElem?_append_left hlt];exact hj) (h l.toArray (fun a w=>wpList P l.toArray Q l2 a w) w (JS plan) rfl rfl rfl fun _ _ h=>h)
 rw [List.range_eq_range'];subst hl;simpa using this
theorem WQ {id:Nat} {l:List Oper} {a:Act} {w:World} (k:Nat) (plan:List (Nat×MG)) (hm:P.follows .mixedOrders=true) (hok:okS l.toArray (l.take k).length=true)
 (h: ∀(ops:Array Oper) (F:Act→World→Prop) (w0:World) (pl:Js),Hid (ops=l.toArray)→Hid (pl=JS plan)→Hid (w0=w)→Hid (∀a w,wpList P l.toArray Q (l.drop k) a w→F a w)→wpL P w0 ops pl F 0 (l.take k) a []):(Code.region id l.toArray true).wp P Q a w:=
 JW (l.take k) (l.drop k) (List.take_append_drop k l).symm plan hm hok h
theorem XF {id:Nat} {l:List Oper} {a:Act} {w:World} (plan:List (Nat×MG)) (hm:P.follows .mixedOrders=true) (hok:okS l.toArray l.length=true)
 (h: ∀(ops:Array Oper) (F:Act→World→Prop) (w0:World) (pl:Js),Hid (ops=l.toArray)→Hid (pl=JS plan)→Hid (w0=w)→Hid (∀a w,Q .normal a w→F a w)→wpL P w0 ops pl F 0 l a []):(Code.region id l.toArray true).wp P Q a w:=
 JW l [] (by simp) plan hm hok fun ops F w0 pl h1 h2 h3 h4=>h ops F w0 pl h1 h2 h3 h4
end
section
variable {P:Program} {w0:World} {ops:Array Oper} {plan:Js} {F:Act→World→Prop} {k:Nat} {R:List Oper} {a:Act} {kn:List (Nat×(World→Prop))} {o:Oper}
theorem zX (hw:Region.wanted o (yielded ops a.tmps)=true) (hp:plan k=none) (v:Value)
 (h1: ∀w,Bel w0 w→(∀p∈kn,anc ops k p.1=true→p.2 w)→(execOp a.eval o).run P w= .ok (.value v) w) (h2:wpL P w0 ops plan F (k+1) R (a.put o.dst v) kn):wpL P w0 ops plan F k (o::R) a kn:=by
 rw [wpL,if_pos hw,hp];exact ⟨v,h1,h2⟩
theorem zeg (hw:Region.wanted o (yielded ops a.tmps)=true) {G:PG} (hp:plan k=some G)
 (h1: ∀w,Bel w0 w→(∀p∈kn,anc ops k p.1=true→p.2 w)→StepOk P (execOp a.eval o) w fun v w'=>Bel w w'∧G.G v w') (h2: ∀x,G.ok x→wpL P w0 ops plan F (k+1) R (a.put o.dst x) ((k,G.G x)::kn)):wpL P w0 ops plan F k (o::R) a kn:=by
 rw [wpL,if_pos hw,hp];exact ⟨h1,h2⟩
theorem zdt (hw:Region.wanted o (yielded ops a.tmps)=false) (h2:wpL P w0 ops plan F (k+1) R (a.put o.dst undef) kn):wpL P w0 ops plan F k (o::R) a kn:=by
 rw [wpL,if_neg (by rw [hw];simp)];exact h2
theorem wo (h: ∀w,Bel w0 w→(∀p∈kn,p.2 w)→F a w):wpL P w0 ops plan F k [] a kn:=h
end
end
section
variable {P:Program} {tab:Tab} {X:Nat→Prop} {H H':List zb} {μ μ':Mu} {w w':World} {O O':Nat→Prop}
structure DR where
 x:AV
 N:Option zb
def DR.news (d:DR) (b:Bool):List zb:=match d.N with|none=>[]|some ob=>[match b with|true=>ob|false=>{ob with st:=2}]
def Z6 (s:List AV) (t:Option Tmp) (x:AV):List AV:=match t with|some t=>setn s t x|none=>s
def zk (S:Nat→Bool):Nat→List (Oper×DR)→List AV→List AV
 |_,[],s=>s
 |k,p::r,s=>zk S (k+1) r (match S k with|true=>Z6 s p.1.dst p.2.x|false=>s)
def ym (S:Nat→Bool):Nat→List (Oper×DR)→List zb
 |_,[]=>[]
 |k,p::r=>p.2.news (S k)++ym S (k+1) r
def σS (σ:St) (D:List (Oper×DR)) (S:Nat→Bool):St:=⟨zk S 0 D σ.s,σ.H++ym S 0 D,σ.fg,σ.nb⟩
def X0:List (Oper×DR)→Nat
 |[]=>0
 |p::r=>(match p.2.N with|none=>0|some _=>1)+X0 r
theorem vd (d:DR) (b:Bool):(d.news b).length=(match d.N with|none=>0|some _=>1):=by unfold DR.news;cases d.N <;>rfl
theorem Jh (S:Nat→Bool): ∀(k:Nat) (D:List (Oper×DR)),(ym S k D).length=X0 D
 |_,[]=>rfl
 |k,p::r=>by simp [ym,X0,vd,Jh S (k+1) r]
theorem xt (s:List AV) (t:Option Tmp) (x:AV):(Z6 s t x).length=s.length:=by cases t <;>simp [Z6,Zx]
theorem Yg (S:Nat→Bool): ∀(k:Nat) (D:List (Oper×DR)) (s:List AV),(zk S k D s).length=s.length
 |_,[],_=>rfl
 |k,p::r,s=>by
  simp only [zk];rw [Yg S (k+1) r];split <;>simp [xt]
theorem Wd {s:List AV} {d:Option Tmp} {x:AV} {t:Nat} (h:d≠some t):(Z6 s d x)[t]?=s[t]?:=by
 cases d with
 |none=>rfl
 |some d=>simp only [Z6,Zx];exact List.getElem?_set_ne (by rintro rfl;exact h rfl)
theorem Wg {s:List AV} {x:AV} {t:Nat} (h:t<s.length):(Z6 s (some t) x)[t]?=some x:=by simp only [Z6,Zx];exact List.getElem?_set_self h
theorem JC (S:Nat→Bool) (t:Nat): ∀(k:Nat) (D:List (Oper×DR)) (s:List AV),(∀(j:Nat) p,D[j]?=some p→S (k+j)=true→p.1.dst≠some t)→(zk S k D s)[t]?=s[t]?
 |_,[],_,_=>rfl
 |k,p::r,s,h=>by
  simp only [zk];rw [JC S t (k+1) r _ fun j q hq hs=>h (j+1) q (by simpa using hq) (by rw [←hs];congr 1;omega)];split
  ·rename_i hs;exact Wd (h 0 p rfl (by simpa using hs))
  ·rfl
theorem uZ (S:Nat→Bool) (t:Nat): ∀(k:Nat) (D:List (Oper×DR)) (s:List AV) (j:Nat) (p:Oper×DR),D[j]?=some p→S (k+j)=true→p.1.dst=some t→t<s.length→(∀(j':Nat) q,D[j']?=some q→j'≠j→q.1.dst≠some t)→(zk S k D s)[t]?=some p.2.x
 |_,[],_,j,p,h,_,_,_,_=>by simp at h
 |k,p0::r,s,0,p,h,hs,hd,hl,hu=>by
  simp at h;subst h
  simp only [zk];simp only [Nat.add_zero] at hs;rw [JC S t (k+1) r _ fun j q hq _=>hu (j+1) q (by simpa using hq) (by omega),hs];simp only;rw [hd];exact Wg hl
 |k,p0::r,s,j+1,p,h,hs,hd,hl,hu=>by
  simp only [zk];refine uZ S t (k+1) r _ j p (by simpa using h) (by rw [←hs];congr 1;omega) hd (by split <;>simp [xt,hl]) fun j' q hq hne=>hu (j'+1) q (by simpa using hq) (by omega)
def idD (n:Nat) (D:List (Oper×DR)) (k:Nat):Nat:=n+X0 (D.take k)
theorem Uw (S:Nat→Bool): ∀(k:Nat) (D:List (Oper×DR)) (j:Nat) (p:Oper×DR) (ob:zb),D[j]?=some p→p.2.N=some ob→(ym S k D)[X0 (D.take j)]?=some (match S (k+j) with|true=>ob|false=>{ob with st:=2})
 |_,[],j,p,ob,h,_=>by simp at h
 |k,p0::r,0,p,ob,h,hN=>by
  simp at h;subst h
  simp [ym,X0,DR.news,hN]
 |k,p0::r,j+1,p,ob,h,hN=>by
  simp only [ym,List.take_succ_cons,X0];rw [List.getElem?_append_right (by rw [vd];omega),vd,Nat.add_sub_cancel_left];have:=Uw S (k+1) r j p ob (by simpa using h) hN
  rw [this,show k+1+j=k+(j+1) by omega]
theorem vG (S:Nat→Bool): ∀(k:Nat) (D:List (Oper×DR)) (i:Nat) (o:zb),(ym S k D)[i]?=some o→ ∃(j:Nat) (p:Oper×DR) (ob:zb),D[j]?=some p∧p.2.N=some ob∧i=X0 (D.take j)∧o=(match S (k+j) with|true=>ob|false=>{ob with st:=2})
 |_,[],i,o,h=>by simp [ym] at h
 |k,p0::r,i,o,h=>by
  simp only [ym] at h;by_cases hlt:i<(p0.2.news (S k)).length
  ·rw [List.getElem?_append_left hlt] at h;unfold DR.news at h;cases hN:p0.2.N with
   |none=>rw [hN] at h;simp at h
   |some ob=>
    rw [hN] at h;have:i=0:=by rw [vd,hN] at hlt;simp only at hlt;omega
    subst this;simp at h
    exact ⟨0,p0,ob,rfl,hN,rfl,h.symm⟩
  ·rw [List.getElem?_append_right (by omega)] at h;obtain ⟨j,p,ob,h1,h2,h3,h4⟩:=vG S (k+1) r _ o h;refine ⟨j+1,p,ob,by simpa using h1,h2, ?_,by rw [h4,show k+1+j=k+(j+1) by omega]⟩;rw [vd] at h3 hlt;simp only [List.take_succ_cons,X0];omega
theorem Uj: ∀(D:List (Oper×DR)) (i j:Nat) (p q:Oper×DR) (a b:zb),D[i]?=some p→D[j]?=some q→p.2.N=some a→q.2.N=some b→X0 (D.take i)=X0 (D.take j)→i=j
 |[],i,j,p,q,a,b,h,_,_,_,_=>by simp at h
 |p0::r,0,0,p,q,a,b,h1,h2,h3,h4,h5=>rfl
 |p0::r,0,j+1,p,q,a,b,h1,h2,h3,h4,h5=>by
  simp at h1;subst h1
  simp [X0,h3] at h5
  omega
 |p0::r,i+1,0,p,q,a,b,h1,h2,h3,h4,h5=>by
  simp at h2;subst h2
  simp [X0,h4] at h5
 |p0::r,i+1,j+1,p,q,a,b,h1,h2,h3,h4,h5=>by
  simp only [List.take_succ_cons,X0] at h5;have:=Uj r i j p q a b (by simpa using h1) (by simpa using h2) h3 h4 (by omega)
  omega
def Vd (P:Program) (ev:Operand→AV) (H0:List zb) (id:Nat) (o:Oper) (d:DR):Prop:=
 ∀(w:World) (X:Nat→Prop) (μ:Mu) (H:List zb) (ρ:Operand→Value),HRel μ X H w→(∀(i:Nat) ob,H0[i]?=some ob→H[i]?=some ob)→(∀y∈o.op.operands,RV (OO X H μ) w μ (ev y) (ρ y))→
  StepOk P (execOp ρ o) w fun u w'=>Below w.heap.size w w'∧match d.N with
   |none=>RV (OO X H μ) w' μ d.x u
   |some ob=> ∃b m cur,w.heap.size≤b∧b<w'.heap.size∧0<ob.sz∧ob.st=0∧J6 (fun c=>OO X H μ c∨c=b) w' μ b m ob cur∧ ∀(O':Nat→Prop) (μ':Mu),(∀c,O' c→OO X H μ c∨c=b)→(∀i l,μ i=some l→μ' i=some l)→μ' id=some (some (b,m))→RV O' w' μ' d.x u
def qO (o:Oper):List Nat:=o.op.operands.toList.filterMap fun| .tmp t=>some t|_=>none
def okP (l:List Oper) (m:Nat):Bool:=
 (List.range m).all fun k=>match nth l k with
  |some o=>(List.range m).all (fun j=>match nth l j with
   |some oj=>match oj.dst with
    |some t=>(k==j||o.dst !=some t) && (!(qO o).contains t||anc l.toArray k j)
    |none=>true
   |none=>false) && (match o.guard with|some (j,_)=>anc l.toArray k j && Nat.blt j m|none=>true)
  |none=>false
def okD (l:List Oper) (m:Nat):Bool:=okS l.toArray m && okP l m
structure za2 (ops:Array Oper) (m:Nat):Prop where
 lt: ∀(i:Nat) (o:Oper),ops[i]?=some o→ ∀e∈o.after,Region.binds .any e=true→e.on<i
 free: ∀(i j:Nat) (oi oj:Oper),ops[i]?=some oi→ops[j]?=some oj→j<i→anc ops j i=false∧(anc ops i j=true∨oj.apart ops oi=true)
 sel: ∀(i:Nat) (o:Oper),ops[i]?=some o→zaj o
 le:m≤ops.size
theorem OkS.s0 {ops:Array Oper} {m:Nat} (h:OkS ops m):za2 ops m:=⟨h.lt,h.free,h.sel,h.le⟩
structure OkD (l:List Oper) (m:Nat):Prop where
 s:za2 l.toArray m
 dst: ∀(k j:Nat) o oj t,k<m→j<m→l[k]?=some o→l[j]?=some oj→oj.dst=some t→k≠j→o.dst≠some t
 rd: ∀(k j:Nat) o oj t,k<m→j<m→l[k]?=some o→l[j]?=some oj→oj.dst=some t→t∈qO o→anc l.toArray k j=true
 gd: ∀(k:Nat) o j b,k<m→l[k]?=some o→o.guard=some (j,b)→anc l.toArray k j=true∧j<m
theorem KX {l:List Oper} {m:Nat} (h1:za2 l.toArray m) (h2:okP l m=true):OkD l m:=by
 unfold okP at h2;have h2: ∀k,k<m→_:=fun k hk=>List.all_eq_true.1 h2 k (List.mem_range.2 hk)
 have key: ∀(k j:Nat) o oj t,k<m→j<m→l[k]?=some o→l[j]?=some oj→oj.dst=some t→(k==j||o.dst !=some t)=true∧(!(qO o).contains t||anc l.toArray k j)=true:=by
  intro k j o oj t hk hj ho hoj ht;have:=h2 k hk
  rw [zH,ho] at this;simp only [Bool.and_eq_true] at this;have:=List.all_eq_true.1 this.1 j (List.mem_range.2 hj)
  rw [zH,hoj] at this;simp only [ht,Bool.and_eq_true] at this;exact this
 refine ⟨h1,fun k j o oj t hk hj ho hoj ht hne=> ?_,fun k j o oj t hk hj ho hoj ht hm=> ?_,fun k o j b hk ho hg=> ?_⟩
 ·have:=(key k j o oj t hk hj ho hoj ht).1
  simp only [Bool.or_eq_true,beq_iff_eq,bne_iff_ne] at this;exact this.resolve_left hne
 ·have:=(key k j o oj t hk hj ho hoj ht).2
  simp only [Bool.or_eq_true,Bool.not_eq_true',List.contains_iff_mem] at this;rcases this with h|h
  ·have:(qO o).contains t=true:=by simpa using hm
   rw [h] at this;cases this
  ·exact h
 ·have:=h2 k hk
  rw [zH,ho] at this;simp only [Bool.and_eq_true,hg] at this;have:=this.2
  rw [Nat.blt_eq] at this;exact this
theorem zfa {l:List Oper} {m:Nat} (h:okD l m=true):OkD l m:=by
 unfold okD at h;rw [Bool.and_eq_true] at h;exact KX (js h.1).s0 h.2
theorem zkK {l:List Oper} {m:Nat} (h:okD l m=true):OkS l.toArray m:=by
 unfold okD at h;rw [Bool.and_eq_true] at h;exact js h.1
def txt (k:Nat):Nat→Bool:=fun j=>Nat.blt j k
def add (S:Nat→Bool) (k:Nat):Nat→Bool:=fun j=>j==k||S j
def HR (P:Program) (l:List Oper) (σ:St) (D:List (Oper×DR)) (k:Nat):Prop:=
 ∀p,D[k]?=some p→(zS l (σS σ D (txt k)) p.1=some true∧Vd P (σS σ D (txt k)).ev σ.H (idD σ.H.length D k) p.1 p.2)∨(zS l (σS σ D (txt k)) p.1=some false∧p.2=⟨.lit undef,none⟩)
structure DOk (l:List Oper) (m:Nat) (D:List (Oper×DR)):Prop where
 ok:OkD l m
 len:D.length=m
 op: ∀(k:Nat) p,D[k]?=some p→l[k]?=some p.1
section
variable {l:List Oper} {m:Nat} {D:List (Oper×DR)} {σ:St} {S:Nat→Bool} {B:Base P} {a:Act}
theorem DOk.lt (h:DOk l m D) {k:Nat} {p:Oper×DR} (hk:D[k]?=some p):k<m:=by rw [←h.len];exact (List.getElem?_eq_some_iff.1 hk).1
theorem DOk.uniq (h:DOk l m D) {j j':Nat} {p q:Oper×DR} {t:Nat} (hp:D[j]?=some p) (hq:D[j']?=some q) (hne:j'≠j) (hd:p.1.dst=some t):q.1.dst≠some t:=
 h.ok.dst j' j q.1 p.1 t (h.lt hq) (h.lt hp) (h.op _ _ hq) (h.op _ _ hp) hd hne
theorem Wj (h:DOk l m D) {j:Nat} {p:Oper×DR} {t:Nat} (hp:D[j]?=some p) (hs:S j=true) (hd:p.1.dst=some t) (hl:t<σ.s.length):(σS σ D S).s[t]?=some p.2.x:=
 uZ S t 0 D σ.s j p hp (by simpa using hs) hd hl fun j' q hq hne=>h.uniq hp hq hne hd
theorem jm {t:Nat} (hn: ∀(j:Nat) p,D[j]?=some p→S j=true→p.1.dst≠some t):(σS σ D S).s[t]?=σ.s[t]?:=
 JC S t 0 D σ.s fun j p hp hs=>hn j p hp (by simpa using hs)
theorem Xa:(σS σ D S).s.length=σ.s.length:=Yg S 0 D σ.s
theorem HH (h:za2 l.toArray m) (j:Nat): ∀(k:Nat),k<l.toArray.size→anc l.toArray k j=true→j<k:=by
 intro k;induction k using Nat.strongRecOn with
 |_ k ih=>
  intro hk ha;obtain ⟨e,he,hb,hh⟩:=(Wl (Array.getElem?_eq_getElem hk) (h.lt k _ (Array.getElem?_eq_getElem hk)) j).1 ha;have h1:=h.lt k _ (Array.getElem?_eq_getElem hk) e he hb;rcases hh with hh|hh
  ·omega
  ·have:=ih e.on h1 (by omega) hh;omega
theorem zjz (h:DOk l m D) {k j:Nat} (hk:k<m) (ha:anc l.toArray k j=true):j≤k:=by
 have:=HH h.ok.s j k (Nat.lt_of_lt_of_le hk h.ok.s.le) ha
 omega
theorem Ue (h:DOk l m D) {k t:Nat} (hk:k<m) (hS:S k=false) (hanc: ∀j,anc l.toArray k j=true→S j=true) (hr: ∀(j:Nat) p,D[j]?=some p→p.1.dst=some t→anc l.toArray k j=true):
 (σS σ D S).s[t]?=(σS σ D (txt k)).s[t]?:=by
 by_cases hl:t<σ.s.length
 ·by_cases he: ∃(j:Nat) (p:Oper×DR),D[j]?=some p∧p.1.dst=some t
  ·obtain ⟨j,p,hp,hd⟩:=he;have ha:=hr j p hp hd;have hj:=zjz h hk ha;have hne:j≠k:=by rintro rfl;rw [hanc j ha] at hS;cases hS
   rw [Wj h hp (hanc j ha) hd hl,Wj h hp (by unfold txt;rw [Nat.blt_eq];omega) hd hl]
  ·rw [jm fun j p hp _ hd=>he ⟨j,p,hp,hd⟩,jm fun j p hp _ hd=>he ⟨j,p,hp,hd⟩]
 ·rw [List.getElem?_eq_none (by rw [Xa];omega),List.getElem?_eq_none (by rw [Xa];omega)]
theorem UG (h:DOk l m D) {k:Nat} {p:Oper×DR} (hp:D[k]?=some p) (hS:S k=false) (hanc: ∀j,anc l.toArray k j=true→S j=true):zS l (σS σ D S) p.1=zS l (σS σ D (txt k)) p.1:=by
 unfold zS;cases hg:p.1.guard with
 |none=>rfl
 |some g=>
  obtain ⟨j,b⟩:=g;simp only;cases hj:nth l j with
  |none=>rfl
  |some oj=>
   simp only;cases hd:oj.dst with
   |none=>rfl
   |some t=>
    simp only [zH];have hjm:=(h.ok.gd k p.1 j b (h.lt hp) (h.op k p hp) hg)
    rw [Ue h (h.lt hp) hS hanc fun j' q hq hdq=>by
     have:j'=j:=by
      apply Classical.byContradiction
      intro hne;rw [zH] at hj;exact h.ok.dst j' j q.1 oj t (h.lt hq) hjm.2 (h.op _ _ hq) hj hd hne hdq
     rw [this];exact hjm.1]
theorem vP (h:DOk l m D) {k:Nat} {p:Oper×DR} (hp:D[k]?=some p) (hS:S k=false) (hanc: ∀j,anc l.toArray k j=true→S j=true): ∀y∈p.1.op.operands,(σS σ D S).ev y=(σS σ D (txt k)).ev y:=by
 intro y hy;cases y with
 |tmp t=>
  simp only [St.ev,zH]
  rw [Ue h (h.lt hp) hS hanc fun j q hq hd=>h.ok.rd k j p.1 q.1 t (h.lt hp) (h.lt hq) (h.op _ _ hp) (h.op _ _ hq) hd (by
   unfold qO;rw [List.mem_filterMap];exact ⟨_,Array.mem_toList_iff.2 hy,rfl⟩)]
 |const|func|global=>rfl
def Un (μ:Mu) (n:Nat) (D:List (Oper×DR)) (S:Nat→Bool):Prop:= ∀(k:Nat) p ob,D[k]?=some p→p.2.N=some ob→S k=false→μ (idD n D k)=none
theorem te (i:Nat) (ob:zb) (hi:σ.H[i]?=some ob):(σS σ D S).H[i]?=some ob:=by
 have hlt:=(List.getElem?_eq_some_iff.1 hi).1
 simp only [σS];rw [List.getElem?_append_left hlt];exact hi
theorem JL:(σS σ D S).H.length=σ.H.length+X0 D:=by simp [σS,Jh]
theorem Gg {k:Nat} {p:Oper×DR} {ob:zb} (hp:D[k]?=some p) (hN:p.2.N=some ob):(σS σ D S).H[idD σ.H.length D k]?=some (match S k with|true=>ob|false=>{ob with st:=2}):=by
 simp only [σS,idD];rw [List.getElem?_append_right (by omega),Nat.add_sub_cancel_left];have:=Uw S 0 D k p ob hp hN
 rw [Nat.zero_add] at this;exact this
theorem zay {i:Nat} {o:zb} (hi:(σS σ D S).H[i]?=some o):(i<σ.H.length∧σ.H[i]?=some o)∨ ∃(k:Nat) (p:Oper×DR) (ob:zb),D[k]?=some p∧p.2.N=some ob∧i=idD σ.H.length D k∧o=(match S k with|true=>ob|false=>{ob with st:=2}):=by
 simp only [σS] at hi;by_cases hlt:i<σ.H.length
 ·rw [List.getElem?_append_left hlt] at hi;exact .inl ⟨hlt,hi⟩
 ·rw [List.getElem?_append_right (by omega)] at hi;obtain ⟨k,p,ob,h1,h2,h3,h4⟩:=vG S 0 D _ o hi;exact .inr ⟨k,p,ob,h1,h2,by unfold idD;omega,by rw [Nat.zero_add] at h4;exact h4⟩
theorem yA {k j:Nat} (h:j≠k):add S k j=S j:=by simp [add,h]
theorem Yr {k:Nat}:add S k k=true:=by simp [add]
theorem qB (h:DOk l m D) {k:Nat} {p:Oper×DR} (hp:D[k]?=some p) (hS:S k=false) {t:Nat} (ht:p.1.dst≠some t):(σS σ D (add S k)).s[t]?=(σS σ D S).s[t]?:=by
 by_cases hl:t<σ.s.length
 ·by_cases he: ∃(j:Nat) (q:Oper×DR),D[j]?=some q∧S j=true∧q.1.dst=some t
  ·obtain ⟨j,q,hq,hs,hd⟩:=he;rw [Wj h hq (by simp [add,hs]) hd hl,Wj h hq hs hd hl]
  ·rw [jm (S:=S) fun j q hq hs hd=>he ⟨j,q,hq,hs,hd⟩,jm fun j q hq hs hd=> ?_];by_cases hj:j=k
   ·subst hj;rw [hp] at hq;injection hq with hq;subst hq;exact ht hd
   ·rw [yA hj] at hs;exact he ⟨j,q,hq,hs,hd⟩
 ·rw [List.getElem?_eq_none (by rw [Xa];omega),List.getElem?_eq_none (by rw [Xa];omega)]
theorem WC (h:DOk l m D) {k:Nat} {p:Oper×DR} (hp:D[k]?=some p) (hS:S k=false) (hN:p.2.N=none) (hr:SRel B μ (σS σ D S) a w) (hb:Below w.heap.size w w') {u:Value} (hu:RV (OO B.X (σS σ D S).H μ) w' μ p.2.x u):
 SRel B μ (σS σ D (add S k)) (a.put p.1.dst u) w':=by
 have hH:(σS σ D (add S k)).H=(σS σ D S).H:=by
  have: ∀i:Nat,(σS σ D (add S k)).H[i]?=(σS σ D S).H[i]?:=by
   intro i;cases hi:(σS σ D S).H[i]? with
   |none=>rw [List.getElem?_eq_none_iff] at hi ⊢;rw [JL] at hi ⊢;exact hi
   |some o=>
    rcases zay hi with ⟨hlt,h1⟩|⟨j,q,ob,h1,h2,h3,h4⟩
    ·exact te i o h1
    ·have hj:j≠k:=by rintro rfl;rw [hp] at h1;injection h1 with h1;subst h1;rw [hN] at h2;cases h2
     rw [h3,Gg h1 h2,yA hj,h4]
  exact List.ext_getElem? this
 refine ⟨?_,fun t x v hx hv=> ?_,by rw [hH];exact hr.H.below hb,by have:=hr.df.step (Chg.of_below hb) (Ext.refl _ _) (hr.H.below hb).lt;cases hd:p.1.dst <;>exact this,hr.chg.trans hr.ext (.of_below hb),hr.ext.trans hr.chg.size (Ext.refl _ _),hr.nb,by rw [hH];exact hr.le,fun j x v hj hx=>by rw [hH];exact (hr.pres j x v hj hx).later hb⟩
 ·rw [Xa,←Xa (S:=S) (D:=D),hr.size];cases p.1.dst <;>simp [Act.put]
 ·rw [hH];by_cases hd:p.1.dst=some t
  ·have hl:t<σ.s.length:=by rw [←Xa (S:=add S k) (D:=D)];exact (List.getElem?_eq_some_iff.1 hx).1
   rw [Wj h hp Yr hd hl] at hx;injection hx with hx;subst hx
   rw [hd] at hv;simp only [Act.put] at hv;rw [Array.getElem?_setIfInBounds_self] at hv;split at hv
   ·injection hv with hv;subst hv;exact hu
   ·cases hv
  ·rw [qB h hp hS hd] at hx;refine (hr.slot t x v hx ?_).later hb;rw [←hv];cases hd':p.1.dst with
   |none=>rfl
   |some t'=>simp only [Act.put];rw [Array.getElem?_setIfInBounds_ne];rintro rfl;exact hd hd'
theorem PO (h:DOk l m D) {k:Nat} {p:Oper×DR} (hp:D[k]?=some p) (hS:S k=false) {ob:zb} (hN:p.2.N=some ob) (hr:SRel B μ (σS σ D S) a w) (hun:Un μ σ.H.length D S) (hb:Below w.heap.size w w') {u:Value} {b mb:Nat} {cur:Array Value}
 (h1:w.heap.size≤b) (h2:b<w'.heap.size) (hz:0<ob.sz) (hst:ob.st=0) (hin:J6 (fun c=>OO B.X (σS σ D S).H μ c∨c=b) w' μ b mb ob cur) (hu: ∀(O':Nat→Prop) (μ':Mu),(∀c,O' c→OO B.X (σS σ D S).H μ c∨c=b)→(∀i l,μ i=some l→μ' i=some l)→μ' (idD σ.H.length D k)=some (some (b,mb))→RV O' w' μ' p.2.x u):
 ∃μ',SRel B μ' (σS σ D (add S k)) (a.put p.1.dst u) w'∧Un μ' σ.H.length D (add S k):=by
 let id:=idD σ.H.length D k
 let μ':Mu:=fun i=>if i=id then some (some (b,mb)) else μ i
 have hid:μ id=none:=hun k p ob hp hN hS
 have hmu: ∀i l,μ i=some l→μ' i=some l:=fun i l hi=>by simp only [μ'];rw [if_neg (by rintro rfl;rw [hid] at hi;cases hi)];exact hi
 have hHne: ∀i:Nat,i≠id→(σS σ D (add S k)).H[i]?=(σS σ D S).H[i]?:=by
  intro i hne;cases hi:(σS σ D S).H[i]? with
  |none=>rw [List.getElem?_eq_none_iff] at hi ⊢;rw [JL] at hi ⊢;exact hi
  |some o=>
   rcases zay hi with ⟨hlt,h1⟩|⟨j,q,ob',g1,g2,g3,g4⟩
   ·exact te i o h1
   ·have hj:j≠k:=by rintro rfl;exact hne g3
    rw [g3,Gg g1 g2,yA hj,g4]
 have hHid:(σS σ D (add S k)).H[id]?=some ob:=by
  have:=Gg (σ:=σ) (S:=add S k) hp hN
  rw [Yr] at this;exact this
 have hidlt:id<(σS σ D S).H.length:=by rw [JL,←JL (S:=add S k)];exact (List.getElem?_eq_some_iff.1 hHid).1
 have hoo: ∀c,c<w.heap.size→OO B.X (σS σ D (add S k)).H μ' c→OO B.X (σS σ D S).H μ c:=by
  rintro c hc (hx|⟨i,o,m',hi,hs,hm'⟩)
  ·exact .inl hx
  ·simp only [μ'] at hm';split at hm'
   ·injection hm' with hm';injection hm' with hm';injection hm' with e1 e2;omega
   ·rename_i hne;rw [hHne i hne] at hi;exact .inr ⟨i,o,m',hi,hs,hm'⟩
 have up: ∀{ν ν':Mu} {x:AV} {v:Value},RV (OO B.X (σS σ D S).H μ) w ν x v→(∀i l,ν i=some l→ν' i=some l)→RV (OO B.X (σS σ D (add S k)).H μ') w' ν' x v:=fun hx hn=>hx.mono hoo (fun c hc _=>hb.block c hc) _ hn
 have hoo': ∀c,OO B.X (σS σ D (add S k)).H μ' c→OO B.X (σS σ D S).H μ c∨c=b:=by
  rintro c (hx|⟨i,o,m',hi,hs,hm'⟩)
  ·exact .inl (.inl hx)
  ·simp only [μ'] at hm';split at hm'
   ·injection hm' with hm';injection hm' with hm';injection hm' with e1 e2;exact .inr e1.symm
   ·rename_i hne;rw [hHne i hne] at hi;exact .inl (.inr ⟨i,o,m',hi,hs,hm'⟩)
 have hext:Ext μ w μ':=fun i c m1 hi=>by
  simp only [μ'] at hi;split at hi
  ·injection hi with hi;injection hi with hi;injection hi with e1 e2
   exact .inr (by omega)
  ·exact .inl ⟨i,m1,hi⟩
 have hlt': ∀i c m1,μ' i=some (some (c,m1))→c<w'.heap.size∧ ¬B.X c:=fun i c m1 hi=>by
  simp only [μ'] at hi;split at hi
  ·injection hi with hi;injection hi with hi;injection hi with e1 e2
   subst e1;exact ⟨h2,fun hx=>by have:=hr.H.xlt _ hx;omega⟩
  ·have:=hr.H.lt i c m1 hi
   exact ⟨Nat.lt_of_lt_of_le this.1 hb.size,this.2⟩
 refine ⟨μ',⟨?_,fun t x v hx hv=> ?_,⟨fun i l hi=> ?_,fun i j c m1 m2 hi hj=> ?_,fun i c m1 hi=> ?_,fun i o hi hs=> ?_,fun c hx=>Nat.lt_of_lt_of_le (hr.H.xlt c hx) hb.size,hr.H.gl.step hb.size (fun b hlt _ _=>hb.block b hlt) (fun _ h=> .inl h) fun i b m hi=>(hext i b m hi).imp (fun h=>h) .inr,hr.H.mp.mono hoo (fun c hc _=>hb.block c hc) fun i o ho hs=>(by
  by_cases hne:i=id
  ·rw [hne,hHid] at ho;injection ho with ho;subst ho;omega
  ·rw [hHne i hne] at ho;exact ⟨i,o,ho, .refl o,hmu i,fun c m1 h1=>hb.block c (hr.H.lt i c m1 h1).1⟩)⟩,by have:=hr.df.step (Chg.of_below hb) hext hlt';cases hd:p.1.dst <;>exact this,hr.chg.trans hr.ext (.of_below hb),fun i c m1 hi=> ?_,hr.nb, ?_,fun j x v hj hx=>up (hr.pres j x v hj hx) (xd hmu)⟩,fun j q ob' hq hN' hs=> ?_⟩
 ·rw [Xa,←Xa (S:=S) (D:=D),hr.size];cases p.1.dst <;>simp [Act.put]
 ·by_cases hd:p.1.dst=some t
  ·have hl:t<σ.s.length:=by rw [←Xa (S:=add S k) (D:=D)];exact (List.getElem?_eq_some_iff.1 hx).1
   rw [Wj h hp Yr hd hl] at hx;injection hx with hx;subst hx
   rw [hd] at hv;simp only [Act.put] at hv;rw [Array.getElem?_setIfInBounds_self] at hv;split at hv
   ·injection hv with hv;subst hv;exact hu _ _ hoo' hmu (by simp [μ',id])
   ·cases hv
  ·rw [qB h hp hS hd] at hx;refine up (hr.slot t x v hx ?_) hmu;rw [←hv];cases hd':p.1.dst with
   |none=>rfl
   |some t'=>simp only [Act.put];rw [Array.getElem?_setIfInBounds_ne];rintro rfl;exact hd hd'
 ·simp only [μ'] at hi;rw [JL,←JL (S:=S)];split at hi
  ·subst i;exact hidlt
  ·exact hr.H.dom i l hi
 ·simp only [μ'] at hi hj;split at hi <;>split at hj
  ·omega
  ·injection hi with hi;injection hi with hi;injection hi with e1 e2
   have:=(hr.H.lt j c m2 hj).1;omega
  ·injection hj with hj;injection hj with hj;injection hj with e1 e2
   have:=(hr.H.lt i c m1 hi).1;omega
  ·exact hr.H.inj i j c m1 m2 hi hj
 ·simp only [μ'] at hi;split at hi
  ·injection hi with hi;injection hi with hi;injection hi with e1 e2
   subst e1;exact ⟨h2,fun hx=>by have:=hr.H.xlt _ hx;omega⟩
  ·have:=hr.H.lt i c m1 hi
   exact ⟨Nat.lt_of_lt_of_le this.1 hb.size,this.2⟩
 ·by_cases hne:i=id
  ·subst hne;rw [hHid] at hi;injection hi with hi;subst hi;refine ⟨hz, .inr ⟨b,mb,cur,by simp [μ'],⟨hin.blk,hin.size,hin.le,hin.nle,hin.one,hin.flen,fun k j a v hk ha hv=> ?_⟩⟩⟩;refine (hin.cell k j a v hk ha hv).mono (fun c _ hc=>hoo' c hc) (fun _ _ _=>rfl) _ fun i l hi=> ?_
   split
   ·rename_i hpu;rw [if_pos hpu] at hi;exact hi
   ·rename_i hpu;rw [if_neg hpu] at hi;exact hmu i l hi
  ·rw [hHne i hne] at hi;exact (hr.H.obj i o hi hs).mono hoo (fun c hc _=>hb.block c hc) hmu fun c m1 hm1=>hb.block c (hr.H.lt i c m1 hm1).1
 ·simp only [μ'] at hi;split at hi
  ·injection hi with hi;injection hi with hi;injection hi with e1 e2
   exact .inr (by have:=hr.chg.size;omega)
  ·exact hr.ext i c m1 hi
 ·rw [JL,←JL (S:=S)];exact hr.le
 ·have hj:j≠k:=by rintro rfl;rw [Yr] at hs;cases hs
  rw [yA hj] at hs;simp only [μ'];rw [if_neg]
  ·exact hun j q ob' hq hN' hs
  ·intro he;unfold id idD at he;exact hj (Uj D j k q p ob' ob hq hp hN' hN (by omega))
end
end
section
variable {P:Program} {tab:Tab} {r:Option Nat} {Q:Exit→St→Prop}
section
variable {F:Fence} {n:Nat} {Q:Exit→Act→World→Prop} {ops:Array Oper} {m:Nat}
theorem Vb (ok:za2 ops m) (tl: ∀i j,m≤j→i<ops.size→j<i→anc ops i j=true): ∀(fuel k:Nat) (listed:Array Bool) (a:Act) (w:World),listed.size=ops.size→(∀j,listed.getD j false=decide (j<k))→m≤k→k≤ops.size→ops.size - k≤fuel→
 wpListIn F n P ops Q (ops.toList.drop k) a w→wpAnyIn F n P .any ops Q fuel listed a w:=by
 intro fuel;induction fuel with
 |zero=>
  intro k listed a w hs hl hm hk hf h;have:k=ops.size:=by omega
  subst this;rw [List.drop_eq_nil_of_le (by simp)] at h;refine ⟨?_,h⟩;rw [List.eq_nil_iff_forall_not_mem];intro i hi;obtain ⟨h0,o,ho,_⟩:=mem_ready.1 hi;have hlt:=(Array.getElem?_eq_some_iff.1 ho).1
  have:=hl i
  rw [Array.getD_eq_getD_getElem?,Array.getElem?_eq_getElem (by omega)] at h0 this;simp only [Option.getD_some] at h0 this;rw [h0] at this;simp [hlt] at this
 |succ fuel ih=>
  intro k listed a w hs hl hm hk hf h
  have hgd: ∀i,i<ops.size→listed.getD i true=decide (i<k):=fun i hi=>by
   have:=hl i
   rw [Array.getD_eq_getD_getElem?,Array.getElem?_eq_getElem (by omega)] at this ⊢;exact this
  have only: ∀i,i∈Region.ready .any ops listed→i=k:=by
   intro i hi;obtain ⟨h0,o,ho,ha⟩:=mem_ready.1 hi;have hlt:=(Array.getElem?_eq_some_iff.1 ho).1
   rw [hgd i hlt] at h0;have h0:k≤i:=by simpa using h0
   rcases Nat.lt_or_ge k i with h1|h1
   ·exfalso
    obtain ⟨e,he,hb,hh⟩:=(Wl ho (ok.lt i o ho) k).1 (tl i k hm hlt h1);have h2:=ha e he hb;rw [hl] at h2;have h2:e.on<k:=by simpa using h2
    rcases hh with hh|hh
    ·omega
    ·cases hoe:ops[e.on]? with
     |none=>have:=ok.lt i o ho e he hb;simp at hoe;omega
     |some oe=>
      cases hok:ops[k]? with
      |none=>simp at hok;omega
      |some okk=>
       rw [(ok.free k e.on okk oe hok hoe h2).1] at hh;cases hh
   ·omega
  refine ⟨fun hr=> ?_,fun i hi=> ?_⟩
  ·have:k=ops.size:=by
    rcases Nat.lt_or_ge k ops.size with h1|h1
    ·exfalso
     have:k∈Region.ready .any ops listed:=by
      rw [mem_ready];refine ⟨by rw [hgd k h1];simp,ops[k],Array.getElem?_eq_getElem h1,fun e he hb=> ?_⟩;rw [hl];simpa using ok.lt k _ (Array.getElem?_eq_getElem h1) e he hb
     rw [hr] at this;cases this
    ·omega
   subst this;rw [List.drop_eq_nil_of_le (by simp)] at h;exact h
  ·obtain rfl:=only i hi;obtain ⟨_,o,ho,_⟩:=mem_ready.1 hi;have hlt:=(Array.getElem?_eq_some_iff.1 ho).1
   have hd:ops.toList.drop i=o::ops.toList.drop (i+1):=by
    rw [List.drop_eq_getElem_cons (by simpa using hlt)];congr 1
    have:=(Array.getElem?_eq_some_iff.1 ho).2
    simpa using this
   rw [hd] at h
   have h2:wpOpIn F n P ops Q i (wpListIn F n P ops Q (ops.toList.drop (i+1))) a w:=by
    unfold wpOpIn;rw [ho];unfold wpListIn at h;exact h
   refine wpOpIn_mono (fun a' w' h'=>ih (i+1) _ a' w' (by simpa using hs) (fun j=> ?_) (by omega) (by omega) (by omega) h') h2;by_cases hj:i=j
   ·subst hj;rw [Array.getD_eq_getD_getElem?,Array.getElem?_setIfInBounds_self];rw [if_pos (by omega)];simp
   ·rw [getD_set_ne _ hj,hl];simp only [decide_eq_decide];omega
end
theorem JX {o:Oper} {a:Act} {w:World} {R:Value→World→Prop} {K:Act→World→Prop} {Q:Exit→Act→World→Prop} (hd: ∀c,o.op≠ .defer c)
 (h:StepOk P (execOp a.eval o) w R) (hk: ∀v w',R v w'→K (a.put o.dst v) w'):o.wpIn (fw r) 0 P a w K Q:=by
 refine ⟨fun f _=>QZ r f, ?_⟩;rw [Oper.semAt_eq _ _ _ hd];unfold StepOk at h;generalize (execOp a.eval o).run P w=rr at*;cases rr with
 |ok n w'=>
  cases n <;>simp only [Oper.uponIn] at h ⊢
  case value v=>exact hk _ _ h
  case skip=>exact hk _ _ h
  case enter f args=>exact ⟨fun hd=>by simp [fw,Fence.wide] at hd,(show CallsIn (fw r) (0 - 1) P f args w' _ from callsIn_wide.2 h).mono fun e w'' he=>by cases e <;>first|exact hk _ _ he|exact he.elim⟩
  case row row args=>
   refine ⟨fun hd=>by simp [fw,Fence.wide] at hd,fun c cs _=> ?_⟩;obtain ⟨v,w'',h1,h2⟩:=h c cs;refine ⟨v,w'',hk _ _ h1, ?_⟩;exact (StepsIn.of_steps h2).mono fun m _=>(fenced_wide P m:Machine.fenced P Fence.wide m)
 |halt x w'=>exact h.elim
def qi (o:Oper):Bool:=match o.op with| .defer _=>false|_=>true
theorem zcp {l:List Oper} {m:Nat} {D:List (Oper×DR)} {σ:St} {B:Base P} (hS0:OkS l.toArray m) (h:DOk l m D) (hnd:l.all qi=true) (hc: ∀k,k<m→HR P l σ D k)
 (ht:AL P r l Q (l.drop m) (σS σ D fun _=>true)): ∀(fuel:Nat) (listed:Array Bool) (a:Act) (w:World) (μ:Mu),listed.size=l.length→(∀i,listed.getD i false=true→ ∀j,anc l.toArray i j=true→listed.getD j false=true)→(∀j,m≤j→listed.getD j false=false)→
 ((List.range m).filter fun j=> !listed.getD j true).length+(l.length - m)≤fuel→SRel B μ (σS σ D fun j=>listed.getD j false) a w→Un μ σ.H.length D (fun j=>listed.getD j false)→
 wpAnyIn (fw r) 0 P .any l.toArray (Post B Q) fuel listed a w:=by
 have hml:m≤l.length:=by have:=h.ok.s.le;simpa using this
 have done: ∀{fuel:Nat} {listed:Array Bool} {a:Act} {w:World} {μ:Mu},listed.size=l.length→(∀j,m≤j→listed.getD j false=false)→((List.range m).filter fun j=> !listed.getD j true)=[]→l.length - m≤fuel→SRel B μ (σS σ D fun j=>listed.getD j false) a w→
  wpAnyIn (fw r) 0 P .any l.toArray (Post B Q) fuel listed a w:=by
  intro fuel listed a w μ hs htl hR hf hr
  have hall: ∀j,j<m→listed.getD j false=true:=fun j hj=>by
   have:=List.filter_eq_nil_iff.1 hR j (List.mem_range.2 hj)
   rw [←zN (by omega)];simpa using this
  have hsame:(σS σ D fun j=>listed.getD j false)=σS σ D fun _=>true:=by
   have key: ∀(D':List (Oper×DR)) (k:Nat),k+D'.length=m→(∀s,zk (fun j=>listed.getD j false) k D' s=zk (fun _=>true) k D' s)∧ym (fun j=>listed.getD j false) k D'=ym (fun _=>true) k D':=by
    intro D';induction D' with
    |nil=>intro k _;exact ⟨fun s=>rfl,rfl⟩
    |cons p D' ih=>
     intro k hk;simp only [List.length_cons] at hk;obtain ⟨i1,i2⟩:=ih (k+1) (by omega);exact ⟨fun s=>by simp only [zk];rw [i1,hall k (by omega)],by simp only [ym];rw [i2,hall k (by omega)]⟩
   obtain ⟨k1,k2⟩:=key D 0 (by rw [h.len];omega);unfold σS;rw [k1,k2]
  rw [hsame] at hr;refine Vb hS0.s0 (fun i j hj hi hlt=>hS0.tail i j (by omega) hi hlt) fuel m listed a w (by simpa using hs) (fun j=> ?_) (Nat.le_refl _) (by simpa using hml) (by simpa using hf) (by simpa using ht B μ a w hr);by_cases hj:j<m
  ·rw [hall j hj];simp [hj]
  ·rw [htl j (by omega)];simp [hj]
 intro fuel;induction fuel with
 |zero=>
  intro listed a w μ hs hcl htl hf hr hun;exact done hs htl (List.eq_nil_of_length_eq_zero (by omega)) (by omega) hr
 |succ fuel ih=>
  intro listed a w μ hs hcl htl hf hr hun;by_cases hR:(List.range m).filter (fun j=> !listed.getD j true)=[]
  ·rw [hR] at hf;exact done hs htl hR (by simp at hf;omega) hr
  have hmem: ∀j,j∈(List.range m).filter (fun j=> !listed.getD j true)↔j<m∧listed.getD j true=false:=fun j=>by simp
  have hpw:((List.range m).filter fun j=> !listed.getD j true).Pairwise (· < ·):=List.Pairwise.filter _ List.pairwise_lt_range
  have hanc: ∀i,i∈Region.ready .any l.toArray listed→ ∀j,anc l.toArray i j=true→listed.getD j false=true:=by
   intro i hi j hj;obtain ⟨_,o,ho,ha⟩:=mem_ready.1 hi;obtain ⟨e,he,hb,hh⟩:=(Wl ho (h.ok.s.lt i o ho) j).1 hj;rcases hh with rfl|hh
   ·exact ha e he hb
   ·exact hcl _ (ha e he hb) j hh
  refine ⟨fun hrd=> ?_,fun i hi=> ?_⟩
  ·exfalso
   obtain ⟨i,R',hRe⟩: ∃i R',(List.range m).filter (fun j=> !listed.getD j true)=i::R':=by
    cases hc':(List.range m).filter (fun j=> !listed.getD j true) with
    |nil=>exact absurd hc' hR
    |cons i R'=>exact ⟨i,R',rfl⟩
   have him:=(hmem i).1 (by rw [hRe];simp)
   have hlow: ∀j,j<i→listed.getD j false=true:=by
    intro j hj;rw [←zN (by omega)];cases hc':listed.getD j true with
    |true=>rfl
    |false=>
     have:j∈i::R':=by rw [←hRe];exact (hmem j).2 ⟨by omega,hc'⟩
     rw [hRe,List.pairwise_cons] at hpw;rcases List.mem_cons.1 this with h1|h1
     ·omega
     ·have:=hpw.1 j h1;omega
   have hil:i<l.toArray.size:=by simp;omega
   have:i∈Region.ready .any l.toArray listed:=by
    rw [mem_ready];exact ⟨him.2,l.toArray[i],Array.getElem?_eq_getElem hil,fun e he hb=>hlow _ (h.ok.s.lt i _ (Array.getElem?_eq_getElem hil) e he hb)⟩
   rw [hrd] at this;cases this
  ·obtain ⟨h0,o,ho,_⟩:=mem_ready.1 hi;have hlt:=(Array.getElem?_eq_some_iff.1 ho).1
   have him:i<m:=by
    rcases Nat.lt_or_ge i m with h1|h1
    ·exact h1
    ·exfalso
     obtain ⟨q,hq⟩: ∃q,q∈(List.range m).filter (fun j=> !listed.getD j true):=by
      cases hc':(List.range m).filter (fun j=> !listed.getD j true) with
      |nil=>exact absurd hc' hR
      |cons q R'=>exact ⟨q,by simp⟩
     have hq:=(hmem q).1 hq
     have:=hanc i hi q (hS0.tail i q h1 hlt (by omega))
     rw [←zN (by omega),hq.2] at this;cases this
   have hS:listed.getD i false=false:=by rw [←zN (by omega)];exact h0
   have hDi:i<D.length:=by rw [h.len];exact him
   have hp:D[i]?=some D[i]:=List.getElem?_eq_getElem hDi
   have hop:=h.op i _ hp
   have hoe:o=D[i].1:=by
    simp only [List.getElem?_toArray] at ho;rw [hop] at ho;injection ho with ho;exact ho.symm
   have hset:(fun j=>(listed.setIfInBounds i true).getD j false)=add (fun j=>listed.getD j false) i:=by
    funext j
    by_cases hj:i=j
    ·subst hj;rw [Yr,Array.getD_eq_getD_getElem?,Array.getElem?_setIfInBounds_self,if_pos (by omega)];rfl
    ·rw [getD_set_ne _ hj,yA (Ne.symm hj)]
   have hnext: ∀(a':Act) (w':World) (μ':Mu),SRel B μ' (σS σ D (add (fun j=>listed.getD j false) i)) a' w'→Un μ' σ.H.length D (add (fun j=>listed.getD j false) i)→
    wpAnyIn (fw r) 0 P .any l.toArray (Post B Q) fuel (listed.setIfInBounds i true) a' w':=by
    intro a' w' μ' hr' hun';refine ih _ a' w' μ' (by simpa using hs) ?_ ?_ ?_ (by rw [hset];exact hr') (by rw [hset];exact hun')
    ·intro k hk1 j hj;by_cases hkj:i=j
     ·subst hkj;rw [Array.getD_eq_getD_getElem?,Array.getElem?_setIfInBounds_self,if_pos (by omega)];rfl
     ·rw [getD_set_ne _ hkj];by_cases hki:i=k
      ·subst hki;exact hanc i hi j hj
      ·rw [getD_set_ne _ hki] at hk1;exact hcl k hk1 j hj
    ·intro j hj;rw [getD_set_ne _ (by omega)];exact htl j hj
    ·obtain ⟨R1,R2,hsp⟩:=List.append_of_mem ((hmem i).2 ⟨him,h0⟩)
     have hfil:(List.range m).filter (fun j=> !(listed.setIfInBounds i true).getD j true)=R1++R2:=by
      rw [←qa hsp];congr 1
      funext j
      by_cases hj:i=j
      ·subst hj;rw [Array.getD_eq_getD_getElem?,Array.getElem?_setIfInBounds_self,if_pos (by omega)];simp
      ·rw [getD_set_ne _ hj];have:(j !=i)=true:=by simp;omega
       rw [this,Bool.true_and]
     rw [hfil];have:((List.range m).filter fun j=> !listed.getD j true).length=(R1++R2).length+1:=by rw [hsp];simp;omega
     omega
   unfold wpOpIn;rw [ho];simp only;have hw:=UG (σ:=σ) h hp hS (hanc i hi);rcases hc i him _ hp with ⟨hw1,hd⟩|⟨hw1,hd⟩
   ·rw [hw1] at hw;rw [hoe,if_pos (Y9 hw hr)]
    have hnd': ∀c,D[i].1.op≠ .defer c:=fun c hc'=>by
     have:=List.all_eq_true.1 hnd D[i].1 (List.mem_of_getElem? hop)
     unfold qi at this;rw [hc'] at this;cases this
    have hstep:=hd w B.X μ (σS σ D fun j=>listed.getD j false).H a.eval hr.H (fun i ob hi=>te i ob hi) (fun y hy=>by rw [←vP h hp hS (hanc i hi) y hy];exact hr.ev y);refine JX hnd' hstep fun u w' ⟨hb,hres⟩=> ?_
    cases hN:D[i].2.N with
    |none=>
     rw [hN] at hres;refine hnext _ _ μ (WC h hp hS hN hr hb hres) fun k p ob hk hN' hs'=> ?_
     refine hun k p ob hk hN' ?_;have:k≠i:=by rintro rfl;rw [Yr] at hs';cases hs'
     rw [yA this] at hs';exact hs'
    |some ob=>
     rw [hN] at hres;obtain ⟨b,mb,cur,e1,e2,e3,e4,e5,e6⟩:=hres;obtain ⟨μ',g1,g2⟩:=PO h hp hS hN hr hun hb e1 e2 e3 e4 e5 e6;exact hnext _ _ μ' g1 g2
   ·rw [hw1] at hw;rw [hoe,if_neg (by rw [Y9 hw hr];simp)];refine ⟨fun f _=>QZ r f, ?_⟩;have hN:D[i].2.N=none:=by rw [hd]
    refine hnext _ _ μ (WC h hp hS hN hr (Below.refl _ _) (by rw [hd];exact .lit _)) fun k p ob hk hN' hs'=> ?_
    refine hun k p ob hk hN' ?_;have:k≠i:=by rintro rfl;rw [Yr] at hs';cases hs'
    rw [yA this] at hs';exact hs'
def AD (P:Program) (l:List Oper) (σ:St) (T:List (Oper×DR)→Prop):List Oper→List (Oper×DR)→Prop
 |[],D=>T D
 |o::rest,D=> ∃d:DR,((zS l (σS σ D fun _=>true) o=some true∧Vd P (σS σ D fun _=>true).ev σ.H (σ.H.length+X0 D) o d)∨(zS l (σS σ D fun _=>true) o=some false∧d=⟨.lit undef,none⟩))∧AD P l σ T rest (D++[(o,d)])
theorem VJ (S:Nat→Bool): ∀(k:Nat) (D E:List (Oper×DR)) (s:List AV),(∀j,j<D.length→S (k+j)=true)→(∀j,D.length≤j→S (k+j)=false)→zk S k (D++E) s=zk (fun _=>true) k D s∧ym S k (D++E)=ym (fun _=>true) k D++ym (fun _=>false) (k+D.length) E
 |k,[],E,s,h1,h2=>by
  have key: ∀(E:List (Oper×DR)) (k:Nat) (s:List AV),(∀j,S (k+j)=false)→zk S k E s=s∧ym S k E=ym (fun _=>false) k E:=by
   intro E;induction E with
   |nil=>intro k s _;exact ⟨rfl,rfl⟩
   |cons p E ih=>
    intro k s hs;obtain ⟨i1,i2⟩:=ih (k+1) s fun j=>by rw [←hs (j+1)];congr 1;omega
    have h0:S k=false:=hs 0
    exact ⟨by simp only [zk];rw [h0];exact i1,by simp only [ym];rw [h0,i2]⟩
  obtain ⟨k1,k2⟩:=key E k s fun j=>h2 j (Nat.zero_le _)
  exact ⟨by simpa [zk] using k1,by simpa [ym] using k2⟩
 |k,p::D,E,s,h1,h2=>by
  have h0:S k=true:=h1 0 (by simp)
  obtain ⟨i1,i2⟩:=VJ S (k+1) D E (Z6 s p.1.dst p.2.x) (fun j hj=>by rw [←h1 (j+1) (by simp;omega)];congr 1;omega) (fun j hj=>by rw [←h2 (j+1) (by simp;omega)];congr 1;omega);refine ⟨by simp only [List.cons_append,zk,h0];exact i1, ?_⟩;simp only [List.cons_append,ym];rw [i2,h0];simp only [List.append_assoc,List.length_cons];congr 3
  omega
theorem zf7 (hm:P.follows .mixedOrders=true) {id:Nat} {l:List Oper} {σ:St} (m:Nat) (hok:okD l m=true) (hnd:l.all qi=true)
 (h:AD P l σ (fun D=>AL P r l Q (l.drop m) (σS σ D fun _=>true)) (l.take m) []):AW P r (.region id l.toArray true) Q σ:=by
 have ok:=zfa hok;have hml:m≤l.length:=by have:=ok.s.le;simpa using this
 have key: ∀(R:List Oper) (D0:List (Oper×DR)),D0.length+R.length=m→(∀(k:Nat) p,D0[k]?=some p→l[k]?=some p.1)→(∀(j:Nat) o,R[j]?=some o→l[D0.length+j]?=some o)→AD P l σ (fun D=>AL P r l Q (l.drop m) (σS σ D fun _=>true)) R D0→
  ∃E,(D0++E).length=m∧(∀(k:Nat) p,(D0++E)[k]?=some p→l[k]?=some p.1)∧AL P r l Q (l.drop m) (σS σ (D0++E) fun _=>true)∧ ∀k,D0.length≤k→k<m→HR P l σ (D0++E) k:=by
  intro R;induction R with
  |nil=>
   intro D0 hl h0 hR h;exact ⟨[],by simpa using hl,by simpa using h0,by simpa [AD] using h,fun k hk hk'=>by simp at hl;omega⟩
  |cons o R ih=>
   intro D0 hl h0 hR h;simp only [AD] at h;obtain ⟨d,hd,hrest⟩:=h
   obtain ⟨E,e1,e2,e3,e4⟩:=ih (D0++[(o,d)]) (by simp at hl ⊢;omega) (fun k p hk=>by
    by_cases hlt:k<D0.length
    ·rw [List.getElem?_append_left hlt] at hk;exact h0 k p hk
    ·rw [List.getElem?_append_right (by omega)] at hk;have:k - D0.length=0:=by have:=(List.getElem?_eq_some_iff.1 hk).1;simp at this;omega
     rw [this] at hk;simp at hk;subst hk
     have:=hR 0 o rfl
     rw [show k=D0.length+0 by omega];exact this) (fun j o' hj=>by
    have:=hR (j+1) o' (by simpa using hj)
    rw [←this];congr 1;simp;omega) hrest
   refine ⟨(o,d)::E,by simpa using e1,by simpa using e2,by simpa using e3,fun k hk hk'=> ?_⟩;rcases Nat.eq_or_lt_of_le hk with he|hlt
   ·subst he;intro p hp;have hpe:p=(o,d):=by simpa using hp.symm
    subst hpe
    have hpre:=VJ (txt D0.length) 0 D0 ((o,d)::E) σ.s (fun j hj=>by unfold txt;rw [Nat.blt_eq];omega) (fun j hj=>by
     unfold txt;cases hb:Nat.blt (0+j) D0.length with
     |false=>rfl
     |true=>rw [Nat.blt_eq] at hb;omega)
    have hslots:(σS σ (D0++(o,d)::E) (txt D0.length)).s=(σS σ D0 fun _=>true).s:=hpre.1
    have hev:(σS σ (D0++(o,d)::E) (txt D0.length)).ev=(σS σ D0 fun _=>true).ev:=by
     funext y
     cases y <;>simp only [St.ev,hslots]
    have hwant:zS l (σS σ (D0++(o,d)::E) (txt D0.length)) o=zS l (σS σ D0 fun _=>true) o:=by
     unfold zS;rw [hslots]
    have hidd:idD σ.H.length (D0++(o,d)::E) D0.length=σ.H.length+X0 D0:=by simp [idD]
    simp only;rw [hwant,hev,hidd];exact hd
   ·have:=e4 k (by simp;omega) hk'
    simpa using this
 obtain ⟨E,e1,e2,e3,e4⟩:=key (l.take m) [] (by simp;omega) (fun k p hk=>by simp at hk) (fun j o hj=>by
  rw [List.getElem?_take] at hj;split at hj
  ·simpa using hj
  ·cases hj) h
 simp only [List.nil_append] at e1 e2 e3 e4;have hD:DOk l m E:=⟨ok,e1,e2⟩
 intro B μ a w hr;refine wpIn_region_any hm ?_
 have hno: ∀j,(Array.replicate l.toArray.size false).getD j false=false:=fun j=>by
  simp only [Array.getD_eq_getD_getElem?,Array.getElem?_replicate];split <;>rfl
 have hS0:(fun j=>(Array.replicate l.toArray.size false).getD j false)=fun _=>false:=by funext j;exact hno j
 have hslots0: ∀(D:List (Oper×DR)) (k:Nat) (s:List AV),zk (fun _=>false) k D s=s:=by
  intro D;induction D with
  |nil=>intro k s;rfl
  |cons p D ih=>intro k s;simp only [zk];exact ih (k+1) s
 have hun0:Un μ σ.H.length E (fun _=>false):=fun k p ob hk hN _=>by
  cases hm:μ (idD σ.H.length E k) with
  |none=>rfl
  |some l=>have:=hr.H.dom _ l hm;unfold idD at this;omega
 have hdead: ∀(i:Nat) o,(ym (fun _=>false) 0 E)[i]?=some o→o.st=2:=fun i o hi=>by
  obtain ⟨j,p,ob,_,_,_,h4⟩:=vG _ 0 E i o hi;rw [h4]
 have hr0:SRel B μ (σS σ E fun _=>false) a w.drew:=by
  have hoo: ∀b,OO B.X (σ.H++ym (fun _=>false) 0 E) μ b→OO B.X σ.H μ b:=by
   rintro b (hx|⟨i,o,m',hi,hs,hm'⟩)
   ·exact .inl hx
   ·by_cases hlt:i<σ.H.length
    ·rw [List.getElem?_append_left hlt] at hi;exact .inr ⟨i,o,m',hi,hs,hm'⟩
    ·rw [List.getElem?_append_right (by omega)] at hi;have:=hdead _ o hi;omega
  have up: ∀{ν:Mu} {x:AV} {v:Value},RV (OO B.X σ.H μ) w ν x v→RV (OO B.X (σ.H++ym (fun _=>false) 0 E) μ) w.drew ν x v:=fun {ν x v} hx=>RV.mono (w:=w) (w':=w.drew) (fun b _ hb=>hoo b hb) (fun _ _ _=>rfl) hx ν fun _ _ h=>h
  refine ⟨by simp only [σS,hslots0];exact hr.size,fun t x v hx hv=> ?_,⟨fun i l hi=>by simp only [σS,List.length_append];have:=hr.H.dom i l hi;omega,hr.H.inj,hr.H.lt,fun i o hi hs=> ?_,hr.H.xlt,hr.H.gl.step (Nat.le_refl _) (fun _ _ _ _=>rfl) (fun _ h=> .inl h) fun i b m h=> .inl ⟨i,m,h⟩,MapsOk.mono (w:=w) (w':=w.drew) hr.H.mp (fun b _ hb=>hoo b hb) (fun _ _ _=>rfl) fun i o hi hs=>(by
   simp only [σS] at hi;by_cases hlt:i<σ.H.length
   ·rw [List.getElem?_append_left hlt] at hi;exact ⟨i,o,hi, .refl o,fun _ h=>h,fun _ _ _=>rfl⟩
   ·rw [List.getElem?_append_right (by omega)] at hi;have:=hdead _ o hi;omega)⟩,hr.df.step (Chg.drew _ _) (Ext.refl _ _) hr.H.lt,hr.chg.trans hr.ext (Chg.drew _ _),hr.ext,hr.nb,by simp only [σS,List.length_append];have:=hr.le;omega,fun k x v hk hx=>up (hr.pres k x v hk hx)⟩
  ·simp only [σS,hslots0] at hx;exact up (hr.slot t x v hx hv)
  ·simp only [σS] at hi;by_cases hlt:i<σ.H.length
   ·rw [List.getElem?_append_left hlt] at hi;exact ObjAt.mono (w:=w) (w':=w.drew) (fun b _ hb=>hoo b hb) (fun _ _ _=>rfl) (fun _ _ h=>h) (fun _ _ _=>rfl) (hr.H.obj i o hi hs)
   ·rw [List.getElem?_append_right (by omega)] at hi;have:=hdead _ o hi;omega
 refine zcp (zkK hok) hD hnd (fun k hk=>e4 k (by simp) hk) e3 l.toArray.size _ a w.drew μ (by simp) (fun i hi=>by rw [hno] at hi;cases hi) (fun j _=>hno j) ?_ (by rw [hS0];exact hr0) (by rw [hS0];exact hun0)
 have hfil:(List.range m).filter (fun j=> !(Array.replicate l.toArray.size false).getD j true)=List.range m:=by
  rw [List.filter_eq_self];intro j hj;have:=List.mem_range.1 hj
  simp [Array.getD_eq_getD_getElem?,Array.getElem?_replicate,show j<l.length by omega]
 rw [hfil,List.length_range];simp;omega
end
section
variable {P:Program} {tab:Tab} {X:Nat→Prop} {H H':List zb} {μ μ':Mu} {w w':World} {O O':Nat→Prop}
theorem wb {α β:Type} {f g:α→β}: ∀{l:List α},(∀x∈l,f x=g x)→l.map f=l.map g
 |[],_=>rfl
 |a::l,h=>by simp only [List.map_cons];rw [h a (by simp),wb fun x hx=>h x (by simp [hx])]
theorem WT {ev ev':Operand→AV} (op:Op) (h: ∀y∈op.operands,ev y=ev' y):Xh tab H ev op=Xh tab H ev' op:=by
 cases op
 case call c=>
  obtain ⟨callee,⟨args⟩,⟨ts⟩⟩:=c;cases callee with
  |value f=>rfl
  |invoke r m=>rfl
  |builtin b=>
   have hx: ∀x∈args,ev x=ev' x:=fun x hx=>h x (by simp [Op.operands,Call.operands,hx])
   cases b <;>first
    |rfl
    |(rcases args with _|⟨x,_|⟨y,_|⟨z,args⟩⟩⟩ <;>rcases ts with _|⟨t,_|⟨t',ts⟩⟩ <;>first
     |rfl
     |(simp only [List.mem_cons,List.not_mem_nil,or_false,forall_eq_or_imp,forall_eq] at hx;simp only [Xh,hx];done))
 case slice t x lo hi mx=>
  have h1:ev x=ev' x:=h x (by simp [Op.operands])
  have h2:lo.map ev=lo.map ev':=by cases lo;rfl;simp only [Option.map_some];rw [h _ (by simp [Op.operands])]
  have h3:hi.map ev=hi.map ev':=by cases hi;rfl;simp only [Option.map_some];rw [h _ (by simp [Op.operands])]
  have h4:mx.map ev=mx.map ev':=by cases mx;rfl;simp only [Option.map_some];rw [h _ (by simp [Op.operands])]
  simp only [Xh,h1,h2,h3,h4]
 case build t ps=>
  have:ps.toList.map (fun p=>(p.1,ev p.2))=ps.toList.map (fun p=>(p.1,ev' p.2)):=wb fun p hp=>by rw [h p.2 (by simp [Op.operands];exact ⟨_,Array.mem_toList_iff.1 hp⟩)]
  simp only [Xh,this]
 case makeFunc fn a b=>
  have h1:a.toList.map ev=a.toList.map ev':=wb fun y hy=>h y (by simp [Op.operands];exact .inl (Array.mem_toList_iff.1 hy))
  have h2:b.toList.map ev=b.toList.map ev':=wb fun y hy=>h y (by simp [Op.operands];exact .inr (Array.mem_toList_iff.1 hy))
  simp only [Xh,h1,h2]
 all_goals first
  |rfl
  |(simp only [Op.operands,List.mem_toArray,List.mem_cons,List.not_mem_nil,or_false,forall_eq_or_imp,forall_eq] at h;simp only [Xh,h];done)
theorem gS (hle: ∀(i:Nat) ob,H[i]?=some ob→H'[i]?=some ob) {t:TypeId} {p:AV} {r:Prop×AV} (h:jf tab t p H=some r):jf tab t p H'=some r:=by
 unfold jf at h ⊢;cases ht:tab t with
 |none=>rw [ht] at h;cases h
 |some i=>
  rw [ht] at h;simp only at h ⊢;cases p <;>simp only at h ⊢ <;>try exact h
  rename_i id sz k o;cases hn:nth H id with
  |none=>rw [hn] at h;cases h
  |some ob=>
   rw [hn] at h;rw [zH] at hn;rw [zH,hle _ _ hn];exact h
theorem P7 (hle: ∀(i:Nat) ob,H[i]?=some ob→H'[i]?=some ob) {t:TypeId} {x:AV} {lo hi mx:Option AV} {r:Prop×AV} (h:qR tab H t x lo hi mx=some r):qR tab H' t x lo hi mx=some r:=by
 cases x
 case ptr id sz k o=>
  unfold qR at h ⊢;cases h1:tab t <;>cases h2:x_ lo <;>cases h3:x_ hi <;>cases h4:x_ mx <;>simp only [h1,h2,h3,h4] at h ⊢ <;>first|(cases h;done)|skip
  rename_i i _ _ _;cases hk:i.k <;>(try simp only [hk] at h) <;>(try simp only [hk]) <;>first|(cases h;done)|skip
  cases hn:nth H id with
  |none=>rw [hn] at h;split at h <;>first|(cases h;done)|(rename_i he;cases he)
  |some ob=>
   rw [hn] at h;rw [zH] at hn;rw [zH,hle _ _ hn];exact h
 all_goals
  rw [←h];unfold qR;cases h1:tab t <;>cases h2:x_ lo <;>cases h3:x_ hi <;>cases h4:x_ mx <;>simp only [h1,h2,h3,h4]
  rename_i i _ _ _
  cases hk:i.k <;>first
   |rfl
   |(rename_i x _ _ _ _;rcases x <;>first
    |rfl
    |(rename_i A n c;rcases A with _|A <;>rcases n with _|n <;>rcases c with _|c <;>rfl))
   |(rename_i x _ _ _ _ _;rcases x <;>first
    |rfl
    |(rename_i A n c;rcases A with _|A <;>rcases n with _|n <;>rcases c with _|c <;>rfl))
   |(rename_i x _ _ _;rcases x <;>first
    |rfl
    |(rename_i A n c;rcases A with _|A <;>rcases n with _|n <;>rcases c with _|c <;>rfl))
theorem uD (hle: ∀(i:Nat) ob,H[i]?=some ob→H'[i]?=some ob) {ev:Operand→AV} {op:Op} {r:Prop×AV} (h:Xh tab H ev op=some r):Xh tab H' ev op=some r:=by
 cases op
 case load t x=>exact gS hle h
 case slice t x lo hi mx=>exact P7 hle h
 case call c=>
  rw [←h];obtain ⟨callee,⟨args⟩,⟨ts⟩⟩:=c;cases callee with
  |value f=>rfl
  |invoke r m=>rfl
  |builtin b=>
   cases b <;>first
    |rfl
    |(rcases args with _|⟨x,_|⟨y,_|⟨z,args⟩⟩⟩ <;>rcases ts with _|⟨t,_|⟨t',ts⟩⟩ <;>rfl)
 all_goals exact h
open Classical in
noncomputable def only (op:Op) (ev:Operand→AV):Operand→AV:=fun y=>if y∈op.operands then ev y else .junk
theorem Pu {op:Op} {ev:Operand→AV}: ∀y∈op.operands,ev y=only op ev y:=fun y hy=>by unfold only;rw [if_pos hy]
theorem pS {op:Op} {ev:Operand→AV} {ρ:Operand→Value} (h: ∀y∈op.operands,RV O w μ (ev y) (ρ y)) (y:Operand):RV O w μ (only op ev y) (ρ y):=by
 unfold only;split
 ·exact h y ‹_›
 ·exact .junk _
theorem gu (hT:zI P tab) {ev:Operand→AV} {H0:List zb} {id:Nat} {o:Oper} {q:Prop} {x:AV} (h:Xh tab H0 ev o.op=some (q,x)) (hq:q):Vd P ev H0 id o ⟨x,none⟩:=by
 intro w X μ H ρ hH hle hr;obtain ⟨u,h1,h2⟩:=KW hT ((WT o.op Pu).symm.trans (uD hle h)) hq hH (pS hr);unfold StepOk;rw [h1];exact ⟨Below.refl _ _,h2⟩
theorem qp {ev ev':Operand→AV} {sz:Nat}: ∀{l:List (Nat×Operand)} {k:Nat},(∀p∈l,ev p.2=ev' p.2)→YL ev sz k l=YL ev' sz k l
 |[],k,h=>rfl
 |(i,x)::l,k,h=>by simp only [YL];rw [h (i,x) (by simp),qp fun p hp=>h p (by simp [hp])]
theorem Vn {ev ev':Operand→AV} {id:Nat} (op:Op) (h: ∀y∈op.operands,ev y=ev' y):Vs tab ev id op=Vs tab ev' id op:=by
 cases op
 case buildSlice t len ps=>
  simp only [Vs,W7];have: ∀sz,YL ev sz 0 ps.toList=YL ev' sz 0 ps.toList:=fun sz=>qp fun p hp=>h p.2 (by simp [Op.operands];exact ⟨_,Array.mem_toList_iff.1 hp⟩)
  simp only [this]
 all_goals first
  |rfl
  |(simp only [Op.operands,List.mem_toArray,List.mem_cons,List.not_mem_nil,or_false,forall_eq_or_imp,forall_eq] at h;simp only [Vs,h];done)
theorem zbv (hT:zI P tab) {ev:Operand→AV} {H0:List zb} {id:Nat} {o:Oper} {q:Prop} {x:AV} {ob:zb} (h:Vs tab ev id o.op=some (q,x,ob)) (hq:q):Vd P ev H0 id o ⟨x,some ob⟩:=by
 intro w X μ H ρ hH hle hr;have hn:=Pz (μ:=μ) hT (pS hr) ((Vn o.op Pu).symm.trans h) hq;obtain ⟨u,cur,h1,h2,h3,h4,h5⟩:=hn.run;unfold StepOk;rw [h1];have hal:Below w.heap.size w (w.alloc (.cells cur ob.T)):=Below.alloc (Below.refl _ _) (Nat.le_refl _) _
 refine ⟨hal,w.heap.size,ob.n,cur,Nat.le_refl _,by simp,hn.sz,hn.st,⟨heap_alloc_new w _,h2,hn.le,Nat.le_refl _,h3,hn.flen,fun k j a v hk ha hv=> ?_⟩,fun O' μ' _ _ hm=>h5 O' _ μ' hm⟩;refine (h4 k j a v hk ha hv).mono (fun b hb hb'=> ?_) (fun b hb _=>hal.block b hb) _ (fun _ _ h=>h);rcases hb' with h|h
 ·exact h
 ·omega
theorem QN {ρ:Operand→Value} {o:Oper} {fo:Operand} {ao:List Operand} {ts:Array TypeId} (ho:o.op= .call {callee:= .value fo,args:=ao.toArray,argTypes:=ts}) {f:FuncId} {vs us:List Value} (hf:ρ fo= .func (.func f) vs.toArray us.toArray)
 {fn : Func} {c : Code} (hfn : P.funcs[f]? = some fn) (hnm : (fn.name == "runtime.NumGoroutine") = false) (hb : fn.body = some c) {R : Value → World → Prop}
 (h:Calls P f (vs++ao.map ρ++us).toArray w fun e w'=> ∃v,e= .returned v∧R v w'):StepOk P (execOp ρ o) w R:=by
 have hrun:(execOp ρ o).run P w= .ok (.enter f (vs++ao.map ρ++us).toArray) w:=by
  unfold execOp;rw [ho];simp only [resolve,hf,Deferred.ofValue,Sem.run_bind,Sem.run_pure,Result.andThen_ok,invoke,vE hfn hnm hb];simp
 unfold StepOk;rw [hrun];exact h.mono fun e w' ⟨v,he,hr⟩=>by subst he;exact hr
theorem zil {ev:Operand→AV} {ρ:Operand→Value} {o:Oper} {fo:Operand} {ao:List Operand} {ts:Array TypeId} (ho:o.op= .call {callee:= .value fo,args:=ao.toArray,argTypes:=ts}) {f:FuncId} {fa ca:List AV} (hf:ev fo= .fn (.func f) fa ca)
 {fn : Func} {c : Code} (hfn : P.funcs[f]? = some fn) (hnm : (fn.name == "runtime.NumGoroutine") = false) (hb : fn.body = some c) (hid : (fa ++ ao.map ev ++ ca).all (zB 4) = true) {x : AV} {N : List zb} (h : APure P f (fa ++ ao.map ev ++ ca) x N)
 (hX: ∀b,O b→b<w.heap.size) (hgl:GlobOk O noMu w) (hr: ∀y∈o.op.operands,RV O w μ (ev y) (ρ y)) {R:Value→World→Prop} (hR: ∀v w' μ',HRel μ' O N w'→RV (OO O N μ') w' μ' x v→Below w.heap.size w w'→(∀i b m,μ' i=some (some (b,m))→w.heap.size≤b)→R v w'):StepOk P (execOp ρ o) w R:=by
 have hfv:=hr fo (by rw [ho];simp [Op.operands,Call.operands]);rw [hf] at hfv;generalize hg:ρ fo=fv at hfv;cases hfv with
 |fn h1 h2 h3 h4=>
  rename_i vs us
  have hargs:RVs O w μ (ao.map ev) (ao.map ρ):=⟨by simp,fun j x v hx hv=>by
   simp only [List.getElem?_map,Option.map_eq_some_iff] at hx hv;obtain ⟨p,hp,rfl⟩:=hx;obtain ⟨p',hp',rfl⟩:=hv;rw [hp] at hp';injection hp' with hp';subst hp';exact hr p (by rw [ho];simp only [Op.operands,Call.operands];exact Array.mem_append.2 (.inr (by simpa using List.mem_of_getElem? hp)))⟩
  have hall:=((show RVs O w μ fa vs from ⟨h1,h2⟩).append hargs).append (show RVs O w μ ca us from ⟨h3,h4⟩)
  have hall0:RVs (OO O [] noMu) w noMu (fa++ao.map ev++ca) (vs++ao.map ρ++us):=⟨hall.1,fun j a v ha hv=>(Yd 4 (List.all_eq_true.1 hid a (List.mem_of_getElem? ha)) (hall.2 j a v ha hv)).mono (fun b _ hb=>hb.elim id fun ⟨i,o,m,hi,_⟩=>(by simp at hi)) (fun _ _ _=>rfl) _ fun _ _ h=>h⟩
  refine QN ho hg hfn hnm hb ((h w O noMu _ ⟨fun i l h=>(by cases h),fun i j b m m' h=>(by cases h),fun i b m h=>(by cases h),fun i o h=>(by simp at h),hX,hgl, .none fun o h=>(by cases h)⟩ hall0).mono fun e w' he=> ?_);obtain ⟨v,r',H1,fg1,μ1,rfl,⟨rfl,rfl⟩,g1,g2,g3,g4,_,_⟩:=he
  exact ⟨v,rfl,hR v w' μ1 g1 g2 g3.below fun i b m hi=>by
   rcases g4 i b m hi with ⟨j,m',hj⟩|h
   ·cases hj
   ·exact h⟩
theorem GF {ev:Operand→AV} {H0:List zb} {id:Nat} {o:Oper} {fo:Operand} {ao:List Operand} {ts:Array TypeId} (ho:o.op= .call {callee:= .value fo,args:=ao.toArray,argTypes:=ts}) {f:FuncId} {fa ca:List AV} (hf:ev fo= .fn (.func f) fa ca)
 {fn : Func} {c : Code} (hfn : P.funcs[f]? = some fn) (hnm : (fn.name == "runtime.NumGoroutine") = false) (hb : fn.body = some c) (hid : (fa ++ ao.map ev ++ ca).all (zB 4) = true) {x y : AV} {N : List zb} {q : Prop} {used : List Nat} (h : APure P f (fa ++ ao.map ev ++ ca) x N)
 (ht:thaw N 4 x=some (q,y,used)) (hq:q):Vd P ev H0 id o ⟨y,none⟩:=by
 intro w X μ H ρ hH hle hr;refine zil ho hf hfn hnm hb hid h (fun b hb=> ?_) hH.glO hr fun v w' μ1 g1 g2 g3 g4=>⟨g3, ?_⟩
 ·rcases hb with h|⟨i,o,m,hi,hs,hm⟩
  ·exact hH.xlt b h
  ·exact (hH.lt i b m hm).1
 ·refine (XN g1 4 ht hq g2).mono (fun b _ hb=>⟨.inl hb,fun i _ m hm=>(g1.lt i b m hm).2 hb⟩) (fun _ _ _=>rfl) _ fun _ _ h=>by cases h
theorem zf' {i id sz off n b m:Nat} {cap:Option Nat} {v:Value} (h:RV O w μ (.row i sz off n cap) v) (hm:μ i=some (some (b,m))) (hm':μ' id=some (some (b,m))):RV O' w' μ' (.row id sz off n cap) v:=by
 cases h with
 |rowNil h hc=>rw [hm] at h;cases h
 |row h e1 e2 e3 e4=>
  rw [hm] at h;injection h with h;injection h with h;injection h with k1 k2;subst k1 k2;exact .row hm' e1 e2 e3 e4
 |rowE h e1 e2=>
  rw [hm] at h;injection h with h;injection h with h;injection h with k1 k2;subst k1 k2;exact .rowE hm' e1 e2
theorem za3 {ev:Operand→AV} {H0:List zb} {id:Nat} {o:Oper} {fo:Operand} {ao:List Operand} {ts:Array TypeId} (ho:o.op= .call {callee:= .value fo,args:=ao.toArray,argTypes:=ts}) {f:FuncId} {fa ca:List AV} (hf:ev fo= .fn (.func f) fa ca)
 {fn : Func} {c : Code} (hfn : P.funcs[f]? = some fn) (hnm : (fn.name == "runtime.NumGoroutine") = false) (hb : fn.body = some c) (hid : (fa ++ ao.map ev ++ ca).all (zB 4) = true) {sz off n : Nat} {cap : Option Nat} {ob : zb} (h : APure P f (fa ++ ao.map ev ++ ca) (.row 0 sz off n cap) [ob])
 (hst:ob.st=0) (hp:ob.pure=true) (hn:0<ob.n):Vd P ev H0 id o ⟨.row id sz off n cap,some ob⟩:=by
 intro w X μ H ρ hH hle hr;refine zil ho hf hfn hnm hb hid h (fun b hb=> ?_) hH.glO hr fun v w' μ1 g1 g2 g3 g4=>⟨g3, ?_⟩
 ·rcases hb with h|⟨i,o,m,hi,hs,hm⟩
  ·exact hH.xlt b h
  ·exact (hH.lt i b m hm).1
 ·obtain ⟨hz,⟨_,h0⟩|⟨b,m,cur,hm,hin⟩⟩:=g1.obj 0 ob rfl (by omega)
  ·omega
  ·refine ⟨b,m,cur,g4 0 b m hm,(g1.lt 0 b m hm).1,hz,hst,⟨hin.blk,hin.size,hin.le,hin.nle,hin.one,hin.flen,fun k j a v hk ha hv=> ?_⟩,fun O' μ' _ _ hm'=> ?_⟩
   ·have:=hin.cell k j a v hk ha hv
    refine this.mono (fun b' _ hb'=> ?_) (fun _ _ _=>rfl) _ ?_
    ·rcases hb' with h|h
     ·exact .inl h
     ·subst h;exact .inr ⟨0,ob,m,rfl,by omega,hm⟩
    ·rw [hp];exact fun _ _ h=>h
   ·exact zf' g2 hm hm'
end
section
variable {P:Program} {tab:Tab} {r:Option Nat} {l R:List Oper} {Q:Exit→St→Prop} {σ σ':St} {o:Oper} {m:Nat}
theorem Vh (S:Nat→Bool): ∀(D E:List (Oper×DR)) (k:Nat) (s:List AV),zk S k (D++E) s=zk S (k+D.length) E (zk S k D s)
 |[],E,k,s=>rfl
 |p::D,E,k,s=>by
  simp only [List.cons_append,zk,List.length_cons];rw [Vh S D E (k+1)];congr 1;omega
theorem jq (S:Nat→Bool): ∀(D E:List (Oper×DR)) (k:Nat),ym S k (D++E)=ym S k D++ym S (k+D.length) E
 |[],E,k=>rfl
 |p::D,E,k=>by
  simp only [List.cons_append,ym,List.length_cons,List.append_assoc];rw [jq S D E (k+1),show k+1+D.length=k+(D.length+1) by omega]
def St.got (σ:St) (t:Option Tmp) (d:DR):St:=⟨Z6 σ.s t d.x,σ.H++d.news true,σ.fg,σ.nb⟩
theorem H7 (D:List (Oper×DR)) (o:Oper) (d:DR):σS σ (D++[(o,d)]) (fun _=>true)=(σS σ D fun _=>true).got o.dst d:=by
 simp only [σS,Vh,jq,St.got,zk,ym,List.append_nil,List.append_assoc]
def ADr (P:Program) (r:Option Nat) (l:List Oper) (Q:Exit→St→Prop) (m:Nat) (σ0:St) (R:List Oper) (σ':St):Prop:=
 ∀D,σS σ0 D (fun _=>true)=σ'→AD P l σ0 (fun D=>AL P r l Q (l.drop m) (σS σ0 D fun _=>true)) R D
theorem wL (hm:P.follows .mixedOrders=true) {id:Nat} (m:Nat) (hok:okD l m=true) (hnd:l.all qi=true) (h:ADr P r l Q m σ (l.take m) σ):AW P r (.region id l.toArray true) Q σ:=
 zf7 hm m hok hnd (h [] (by simp [σS,zk,ym]))
theorem Q2 (h:AL P r l Q (l.drop m) σ'):ADr P r l Q m σ [] σ':=fun D hD=>by
 simp only [AD];rw [hD];exact h
theorem Qm {d:DR} (hd:zS l σ' o=some true) (h:Vd P σ'.ev σ.H σ'.H.length o d) (next:ADr P r l Q m σ R (σ'.got o.dst d)):ADr P r l Q m σ (o::R) σ':=fun D hD=>by
 have hl:σ'.H.length=σ.H.length+X0 D:=by rw [←hD];simp [σS,Jh]
 exact ⟨d, .inl ⟨by rw [hD];exact hd,by rw [hD,←hl];exact h⟩,next _ (by rw [H7,hD])⟩
theorem vF (hd:zS l σ' o=some false) (next:ADr P r l Q m σ R (σ'.put o.dst (.lit undef))):ADr P r l Q m σ (o::R) σ':=fun D hD=>by
 refine ⟨⟨.lit undef,none⟩, .inr ⟨by rw [hD];exact hd,rfl⟩,next _ ?_⟩;rw [H7,hD];cases hd':o.dst <;>simp [St.got,St.put,DR.news,Z6]
theorem vn {t:Option Tmp} {x:AV}:σ'.got t ⟨x,none⟩=σ'.put t x:=by cases t <;>simp [St.got,St.put,DR.news,Z6]
theorem PJ {t:Option Tmp} {x:AV} {ob:zb}:σ'.got t ⟨x,some ob⟩=St.put ⟨σ'.s,σ'.H++[ob],σ'.fg,σ'.nb⟩ t x:=by cases t <;>simp [St.got,St.put,DR.news,Z6]
theorem wm (hT:zI P tab) (hw:zS l σ' o=some true) {q:Prop} {x:AV} (h:Xh tab σ.H σ'.ev o.op=some (q,x)) (hq:q) (next:ADr P r l Q m σ R (σ'.put o.dst x)):ADr P r l Q m σ (o::R) σ':=
 Qm hw (gu hT h hq) (by rw [vn];exact next)
theorem JD (hT:zI P tab) (hw:zS l σ' o=some true) {q:Prop} {x:AV} {ob:zb} (h:Vs tab σ'.ev σ'.H.length o.op=some (q,x,ob)) (hq:q) (next:ADr P r l Q m σ R (St.put ⟨σ'.s,σ'.H++[ob],σ'.fg,σ'.nb⟩ o.dst x)):ADr P r l Q m σ (o::R) σ':=
 Qm hw (zbv hT h hq) (by rw [PJ];exact next)
theorem zhL (hw:zS l σ' o=some true) {fo:Operand} {ao:List Operand} {ts:Array TypeId} (ho:o.op= .call {callee:= .value fo,args:=ao.toArray,argTypes:=ts}) {f:FuncId} {fa ca:List AV} (hf:σ'.ev fo= .fn (.func f) fa ca) (hg:ze P f)
 (hid:(fa++ao.map σ'.ev++ca).all (zB 4)=true) {x y:AV} {N:List zb} {q:Prop} {used:List Nat} (h:APure P f (fa++ao.map σ'.ev++ca) x N) (ht:thaw N 4 x=some (q,y,used)) (hq:q) (next:ADr P r l Q m σ R (σ'.put o.dst y)):ADr P r l Q m σ (o::R) σ':=by
 obtain ⟨fn,c,h1,h2,h3⟩:=hg;exact Qm hw (GF ho hf h1 h2 h3 hid h ht hq) (by rw [vn];exact next)
theorem zkc (hw:zS l σ' o=some true) {fo:Operand} {ao:List Operand} {ts:Array TypeId} (ho:o.op= .call {callee:= .value fo,args:=ao.toArray,argTypes:=ts}) {f:FuncId} {fa ca:List AV} (hf:σ'.ev fo= .fn (.func f) fa ca) (hg:ze P f)
 (hid:(fa++ao.map σ'.ev++ca).all (zB 4)=true) {sz off n:Nat} {cap:Option Nat} {ob:zb} (h:APure P f (fa++ao.map σ'.ev++ca) (.row 0 sz off n cap) [ob]) (hst:ob.st=0) (hp:ob.pure=true) (hn:0<ob.n)
 (next:ADr P r l Q m σ R (St.put ⟨σ'.s,σ'.H++[ob],σ'.fg,σ'.nb⟩ o.dst (.row σ'.H.length sz off n cap))):ADr P r l Q m σ (o::R) σ':=by
 obtain ⟨fn,c,h1,h2,h3⟩:=hg;exact Qm hw (za3 ho hf h1 h2 h3 hid h hst hp hn) (by rw [PJ];exact next)
theorem Xg (h:ADr P r l Q m σ (o::R) σ'):ADr P r l Q m σ (o::R) σ':=h
end
section
variable {P:Program} {tab:Tab} {X:Nat→Prop} {H H':List zb} {μ μ':Mu} {w w':World} {r:Option Nat} {l R:List Oper} {Q:Exit→St→Prop} {σ:St} {o:Oper}
theorem uB {F:Fence} {n:Nat} {o:Oper} {a:Act} {w:World} {K K':Act→World→Prop} {Q Q':Exit→Act→World→Prop} (hq: ∀e a w,Q e a w→Q' e a w) (h: ∀a w,K a w→K' a w) (hh:o.wpIn F n P a w K Q):o.wpIn F n P a w K' Q':=by
 unfold Oper.wpIn at*;refine ⟨hh.1, ?_⟩;have hh:=hh.2;have hlo:LetsOut Q→LetsOut Q':=fun ⟨a,w,h⟩=>⟨a,w,hq _ _ _ h⟩
 generalize (o.semAt F.round a.eval).run P w=r at*;cases r with
 |ok x w'=>
  cases x <;>simp only [Oper.uponIn] at hh ⊢ <;>
   first
    |exact h _ _ hh
    |exact ⟨hh.1,CallsIn.mono hh.2 (fun e w'' he=>by cases e <;>first|exact h _ _ he|exact hq _ _ _ he|exact hlo he)⟩
    |exact ⟨hh.1,RowsIn.mono hh.2 (fun _ _ he=>h _ _ he)⟩
    |exact ⟨hh.1,RoundIn.mono hh.2 (fun e w'' he=>by cases e <;>first|exact h _ _ he|exact hq _ _ _ he|exact hlo he)⟩
 |halt x w'=>cases x <;>simp only [Oper.uponIn] at hh ⊢ <;>first|exact hh|exact hq _ _ _ hh
theorem wl {F:Fence} {n:Nat} {ops:Array Oper} {Q Q':Exit→Act→World→Prop} (hq: ∀e a w,Q e a w→Q' e a w): ∀{R:List Oper} {a:Act} {w:World},wpListIn F n P ops Q R a w→wpListIn F n P ops Q' R a w
 |[],a,w,h=>hq _ _ _ h
 |o::R,a,w,h=>by
  unfold wpListIn at h ⊢;split
  ·rename_i hw;rw [if_pos hw] at h;exact uB hq (fun _ _ h=>wl hq h) h
  ·rename_i hw;rw [if_neg hw] at h;exact ⟨h.1,wl hq h.2⟩
def live (H:List zb):Bool:=H.all fun o=>Nat.beq o.st 0
theorem vL (hl:live H=true) (hH:HRel μ X H w) {b:Nat} (h:ZM μ b):OO X H μ b:=by
 obtain ⟨i,m,hi⟩:=h;have hlt:=hH.dom i _ hi;have:=List.all_eq_true.1 hl _ (List.getElem_mem hlt)
 exact .inr ⟨i,_,m,List.getElem?_eq_getElem hlt,by rw [Nat.eq_of_beq_eq_true this],hi⟩
theorem TN (hw:zS l σ o=some true) {fo:Operand} {ao:List Operand} {ts:Array TypeId} (ho:o.op= .call {callee:= .value fo,args:=ao.toArray,argTypes:=ts}) {L:Nat} (hf:σ.ev fo= .fn (.yield L) [] [])
 {xs:Nat→List AV} {n:Nat} (hsp:σ.nb.sp=some (L,xs,n)) (hst:σ.nb.stop=false) (hnm:σ.nb.nm=true) (hy:σ.nb.y<n) (hlive:live σ.H=true) (hid:(xs σ.nb.y).all (zB 4)=true) (hle:LeS (ao.map σ.ev) (xs σ.nb.y))
 (next: ∀t:Bool,AL P r l Q R (St.put ⟨σ.s,σ.H,σ.fg,⟨σ.nb.n,σ.nb.y+1, !t,σ.nb.sp,σ.nb.nm⟩⟩ o.dst (.lit (.bool t)))):AL P r l Q (o::R) σ:=by
 intro B μ a w hr;unfold wpListIn;rw [if_pos (Y9 hw hr)];refine ⟨fun f _=>QZ r f, ?_⟩;rw [Oper.semAt_eq _ _ _ (fun c hc=>by rw [ho] at hc;cases hc)];have hfv:=hr.ev fo;rw [hf] at hfv;generalize hg:a.eval fo=fv at hfv;cases hfv with
 |fn h1 h2 h3 h4=>
  rename_i vs us;obtain rfl:vs=[]:=by simpa using h1.symm
  obtain rfl:us=[]:=by simpa using h3.symm
  have hds:a.defers=[]:=hr.df.nm hnm
  have hargs:RVs (fun b=>B.X b∨p_ μ a.defers b) w noMu (xs σ.nb.y) (ao.map a.eval):=by
   refine ⟨by rw [←hle.len];simp,fun j x v hx hv=> ?_⟩;have hlt:j<(ao.map σ.ev).length:=by rw [hle.len];exact (List.getElem?_eq_some_iff.1 hx).1
   obtain ⟨y,hy1,hy2⟩:=hle.at_ hx;simp only [List.getElem?_map,Option.map_eq_some_iff] at hy1 hv;obtain ⟨p,hp,rfl⟩:=hy1;obtain ⟨p',hp',rfl⟩:=hv;rw [hp] at hp';injection hp' with hp';subst hp';refine (Yd 4 (List.all_eq_true.1 hid x (List.mem_of_getElem? hx)) (hy2 _ _ _ _ (hr.ev p))).mono (fun b _ hb=> ?_) (fun _ _ _=>rfl) _ fun _ _ h=>h
   rcases hb with hb|hb|hb
   ·exact .inl hb
   ·exact vL hlive hr.H hb
   ·rw [hds] at hb;cases hb
  have hspB:B.sp=some (L,xs,n):=by rw [←hr.df.sp];exact hsp
  have hjr:=hr.df.jr;rw [hst] at hjr;obtain ⟨fn,tmps,assign,body,hy1,hround⟩:=hr.df.ok.yl L xs n hspB _ _ _ w (ao.map a.eval) hjr hy hargs r
  have hrun:(execOp a.eval o).run P w= .ok (.round L fn tmps assign body) w:=by
   rw [←hy1];unfold execOp;rw [ho];simp [resolve,hg,Deferred.ofValue,invoke]
  rw [hrun];refine ⟨fun hd=>by simp [fw,Fence.wide] at hd,hround.mono fun e w' ⟨t,C',he,hj,hX1,hX2,hs⟩=> ?_⟩;subst he;let X':ye:=(fun b=>B.X b∨C' b,C')
  have hXn: ∀b,X'.1 b→(B.X b∨w.heap.size≤b)∧b<w'.heap.size:=fun b hb=>hb.elim (fun hb=>⟨.inl hb,Nat.lt_of_lt_of_le (hr.H.xlt b hb) hs.size⟩) fun hb=>⟨(hX2 b hb).1.imp (hr.df.cx b) id,(hX2 b hb).2⟩
  have hg:Grows B X':=⟨fun b hb=> .inl hb,fun b hb=>(hXn b hb).1.imp id fun h=>Nat.le_trans hr.chg.size h,hX1,fun b hb=>(hX2 b hb).1.imp id fun h=>Nat.le_trans hr.chg.size h⟩
  have hoo: ∀b,b<w.heap.size→OO X'.1 σ.H μ b→OO B.X σ.H μ b:=fun b hb h=>h.imp (fun h=>(hXn b h).1.elim id fun h=>by omega) id
  have hnx: ∀b,b<w.heap.size→ ¬OO B.X σ.H μ b→w'.heap[b]?=w.heap[b]?:=fun b hb hn=>hs.block b hb fun h=>hn (.inl (hr.df.cx b h))
  have hlt: ∀i b m,μ i=some (some (b,m))→b<w'.heap.size∧ ¬X'.1 b:=fun i b m hi=>⟨Nat.lt_of_lt_of_le (hr.H.lt i b m hi).1 hs.size,fun h=>(hXn b h).1.elim (hr.H.lt i b m hi).2 fun h=>by have:=(hr.H.lt i b m hi).1;omega⟩
  have hsr:SRel (B.at_ X') μ ⟨σ.s,σ.H,σ.fg,⟨σ.nb.n,σ.nb.y+1, !t,σ.nb.sp,σ.nb.nm⟩⟩ a w':=by
   refine ⟨hr.size,fun k x v hx hv=>(hr.slot k x v hx hv).mono hoo hnx _ fun _ _ h=>h,⟨hr.H.dom,hr.H.inj,hlt,fun i o hi hs'=>(hr.H.obj i o hi hs').mono hoo hnx (fun _ _ h=>h) fun b m hb=>hs.block b (hr.H.lt i b m hb).1 fun h=>(hr.H.lt i b m hb).2 (hr.df.cx b h),fun b hb=>(hXn b hb).2,hr.H.gl.step hs.size (fun b hb hn _=>hs.block b hb fun h=>hn (hr.df.cx b h)) (fun b hb=>(hXn b hb).1.imp id .inr) fun i b m hi=> .inl ⟨i,m,hi⟩,hr.H.mp.mono hoo hnx fun i o hi _=>⟨i,o,hi, .refl o,fun _ h=>h,fun b m hb=>hs.block b (hr.H.lt i b m hb).1 fun h=>(hr.H.lt i b m hb).2 (hr.df.cx b h)⟩⟩,
    ⟨hr.df.sp,⟨hr.df.ok.dm,hr.df.ok.keep,hr.df.ok.more,hr.df.ok.yl⟩,hj,fun d hd=>(by rw [hds] at hd;cases hd),hr.df.apart,hr.df.nm,fun k hk hlt=>hr.df.xy k ((hX2 k hk).1.elim id fun h=>by have h1:=hr.chg.size;have h2:k<B.w.heap.size:=hlt;omega) hlt,fun D o ho=>(let ⟨e1,e2,e3,e4⟩:=hr.df.kp D o ho;⟨(hs.block D (Array.getElem?_eq_some_iff.1 e1).1 e3).trans e1,e2,fun hx=>(hX2 D hx).1.elim e3 fun h=>by have:=(Array.getElem?_eq_some_iff.1 e1).1;omega,e4⟩),fun b hb=> .inr hb⟩,
    ⟨hs.os.trans hr.chg.os,hs.tape.trans hr.chg.tape,hs.output.trans hr.chg.output,Nat.le_trans hr.chg.size hs.size,fun k hk hn hyk=>(hs.block k (Nat.lt_of_lt_of_le hk hr.chg.size) fun hx=>hyk (hr.df.xy k hx hk)).trans (hr.chg.block k hk hn hyk)⟩,hr.ext,hr.nb,hr.le,
    fun k x v hk hx=>(hr.pres k x v hk (hx.mono (fun b _ hb=>hb.imp (hg.le b) id) (fun _ _ _=>rfl) _ fun _ _ h=>h)).mono hoo hnx _ fun _ _ h=>h⟩
  exact wl (fun _ _ _ h=>h.trans hg) (next t (B.at_ X') μ _ w' (hsr.put (.lit _) o.dst))
def Jl (P:Program) (gf:FuncId) (lb:List AV) (Hi:List zb) (xs:Nat→List AV) (n:Nat):Prop:=
 ∀(B:Base P) (L:Nat) (vs:List Value),B.H=Hi→B.Y=B.X→B.C=B.X→B.sp=some (L,xs,n)→B.kp=none→B.Ok→B.J 0 false (B.X,B.X) (ZM B.μ) B.w→HRel B.μ B.X Hi B.w→RVs (OO B.X Hi B.μ) B.w B.μ lb vs→
  CallsIn (fw none) 0 P gf (Value.func (.yield L) #[] #[]::vs).toArray B.w fun e w'=> ∃v y t X',e= .returned v∧B.J y t X' (fun _=>False) w'∧(t=false→y=n)
abbrev QF (P:Program) (gf:FuncId) (lb:List AV) (xs:Nat→List AV) (n:Nat):Prop:=Jl P gf lb [] xs n
theorem P3 {O:Nat→Prop} {args:List AV} {vs:List Value} {k k':Nat} (hargs:RVs O w μ args vs): ∀(t:Nat) x v,(args++List.replicate k (.lit undef))[t]?=some x→(vs.toArray++Array.replicate k' undef)[t]?=some v→RV O w μ x v:=by
 intro t x v hx hv;by_cases hlt:t<args.length
 ·rw [List.getElem?_append_left hlt] at hx;rw [Array.getElem?_append_left (by simpa [←hargs.1] using hlt)] at hv;exact hargs.2 t x v hx (by simpa using hv)
 ·rw [List.getElem?_append_right (by omega)] at hx;rw [Array.getElem?_append_right (by simp [←hargs.1];omega)] at hv;rw [List.getElem?_replicate] at hx;rw [Array.getElem?_replicate] at hv;split at hx
  ·injection hx with hx;subst hx
   split at hv
   ·injection hv with hv;subst hv;exact .lit _
   ·cases hv
  ·cases hx
def zt (n:Nat):Exit→St→Prop
 | .normal,σ| .ret,σ=>σ.nb.stop=false→σ.nb.y=n
 |_,_=>False
theorem KM (hT:zI P tab) {gf:FuncId} {fn:Func} {c:Code} (hf:P.funcs[gf]?=some fn) (hb:fn.body=some c) (hres:fn.results.toList=[]) {lb:List AV} {Hi:List zb} {xs:Nat→List AV} {n:Nat}
 (h: ∀L,AW P none c (zt n) ⟨.fn (.yield L) [] []::lb++List.replicate (fn.ntmps - (lb.length+1)) (.lit undef),Hi,[],⟨Hi.length,0,false,some (L,xs,n),true⟩⟩):Jl P gf lb Hi xs n:=by
 intro B L vs hH hY hC hsp hkp hok hJ hX hv;refine callsIn_of_wp_marks (F:=fw none) (n:=0) hf hb trivial ?_;have hall:RVs (OO B.X Hi B.μ) B.w B.μ (.fn (.yield L) [] []::lb) (Value.func (.yield L) #[] #[]::vs):= .cons (.fn (vs:=[]) (us:=[]) rfl (fun j a v h=>by simp at h) rfl (fun j a v h=>by simp at h)) hv
 have hr:SRel B B.μ ⟨.fn (.yield L) [] []::lb++List.replicate (fn.ntmps - (lb.length+1)) (.lit undef),Hi,[],⟨Hi.length,0,false,some (L,xs,n),true⟩⟩ {tmps:=(Value.func (.yield L) #[] #[]::vs).toArray++Array.replicate (fn.ntmps - (Value.func (.yield L) #[] #[]::vs).toArray.size) undef,defers:=[]} B.w:=by
  refine ⟨by simp [hv.1];omega,P3 hall,hX,
   ⟨hsp.symm,hok,(by rw [hC];exact hok.keep _ _ _ _ B.w _ _ hJ ⟨rfl,rfl,rfl,Nat.le_refl _,fun _ _ _=>rfl⟩ fun k hk=>hk.elim (fun ⟨i,m,h⟩=>⟨.inl ⟨i,m,h⟩,(hX.lt i k m h).2,(hX.lt i k m h).1⟩) fun h=>(by cases h)),fun d hd=>(by simp at hd), .nil,fun _=>rfl,fun k hk _=>(by rw [hY,←hC];exact hk),fun D o h=>(by rw [hkp] at h;cases h),fun b hb=>(by rw [←hC];exact hb)⟩,
   ⟨rfl,rfl,rfl,Nat.le_refl _,fun _ _ _ _=>rfl⟩,Ext.refl _ _,by rw [hH],Nat.le_refl _,fun k x v hk hx=> ?_⟩
  rw [hH] at hx;exact hx
 refine wpIn_mono (h L B _ _ B.w hr) fun e a' w' ⟨σ',h1,μ',X',hg,h2⟩=> ?_
 have fin:(σ'.nb.stop=false→σ'.nb.y=n)→LeavesInM Fence.wide 0 P fn a'.tmps (fun e w'=> ∃v y t X',e= .returned v∧B.J y t X' (fun _=>False) w'∧(t=false→y=n)) a'.defers .returning w':=fun hn=>by
  refine Wb a'.defers h2 fun w' h2=> ?_
  obtain ⟨us,g4,g5⟩:=QG (fn:=fn) hT h2 (q:=True) (l:=[]) (by rw [hres];rfl) trivial;exact ⟨_,g4,_,σ'.nb.y,σ'.nb.stop,X',rfl,h2.df.ok.keep _ _ _ _ w' w' _ h2.df.jr ⟨rfl,rfl,rfl,Nat.le_refl _,fun _ _ _=>rfl⟩ fun k hk=>hk.elim,hn⟩
 cases e <;>simp only [zt] at h1 <;>first|exact h1.elim|exact fin h1
theorem Qe (hT:zI P tab) {gf:FuncId} {fn:Func} {c:Code} (hf:P.funcs[gf]?=some fn) (hb:fn.body=some c) (hres:fn.results.toList=[]) {lb:List AV} {xs:Nat→List AV} {n:Nat}
 (h: ∀L,AW P none c (zt n) ⟨.fn (.yield L) [] []::lb++List.replicate (fn.ntmps - (lb.length+1)) (.lit undef),[],[],⟨0,0,false,some (L,xs,n),true⟩⟩):QF P gf lb xs n:=KM hT hf hb hres h
def Base.kept (B:Base P) (k:Option (Nat×Obj)):Base P:={B with kp:=k}
theorem Ex.rekp {B:Base P} {nb:YB} {ds:List Deferred} (h:Ex B μ nb ds w) (k:Option (Nat×Obj)) (hk: ∀D o,k=some (D,o)→w.heap[D]?=some o∧ ¬ZM μ D∧ ¬B.C D∧D<B.w.heap.size):Ex (B.kept k) μ nb ds w:=
 ⟨h.sp,⟨h.ok.dm,h.ok.keep,h.ok.more,h.ok.yl⟩,h.jr,h.marks,h.apart,h.nm,h.xy,hk,h.cx⟩
theorem SRel.rekp {B:Base P} {a:Act} (h:SRel B μ σ a w) (k:Option (Nat×Obj)) (hk: ∀D o,k=some (D,o)→w.heap[D]?=some o∧ ¬ZM μ D∧ ¬B.C D∧D<B.w.heap.size):SRel (B.kept k) μ σ a w:=
 ⟨h.size,h.slot,h.H,h.df.rekp k hk,h.chg,h.ext,h.nb,h.le,h.pres⟩
def wP (s:List AV):List Tmp→List AV→List AV
 |p::ps,x::xs=>wP (setn s p x) ps xs
 |_,_=>s
theorem u9: ∀(ps:List Tmp) (xs s:List AV),(wP s ps xs).length=s.length
 |[],_,_=>by simp [wP]
 |_::_,[],_=>by simp [wP]
 |p::ps,x::xs,s=>by simp only [wP];rw [u9 ps xs];simp [Zx]
theorem Tm {O:Nat→Prop}: ∀(ps:List Tmp) {xs s:List AV} {vs:List Value} {t:Array Value},RVs O w μ xs vs→(∀(k:Nat) x v,s[k]?=some x→t[k]?=some v→RV O w μ x v)→s.length=t.size→
 ((ps.zip vs).foldl (fun t p=>t.setIfInBounds p.1 p.2) t).size=s.length∧ ∀(k:Nat) x v,(wP s ps xs)[k]?=some x→((ps.zip vs).foldl (fun t p=>t.setIfInBounds p.1 p.2) t)[k]?=some v→RV O w μ x v
 |[],xs,s,vs,t,h,hs,hl=>⟨by simpa using hl.symm,by simpa [wP] using hs⟩
 |p::ps,[],s,vs,t,h,hs,hl=>by
  obtain rfl:=h.unnil;exact ⟨by simpa using hl.symm,by simpa [wP] using hs⟩
 |p::ps,x::xs,s,vs,t,h,hs,hl=>by
  obtain ⟨v,us,rfl,g1,g2⟩:=h.uncons;simp only [wP,List.zip_cons_cons,List.foldl_cons]
  have:=Tm ps (s:=setn s p x) (t:=t.setIfInBounds p v) g2 (fun k y u hy hu=>by
   simp only [Zx] at hy;rw [Array.getElem?_setIfInBounds] at hu;by_cases he:p=k
   ·subst he;rw [if_pos rfl] at hu;split at hu
    ·rename_i hlt;injection hu with hu;subst hu
     rw [List.getElem?_set_self (by rw [hl];exact hlt)] at hy;injection hy with hy;subst hy
     exact g1
    ·cases hu
   ·rw [if_neg he] at hu;rw [List.getElem?_set_ne he] at hy;exact hs k y u hy hu) (by simp [Zx,hl])
  exact ⟨by rw [this.1];simp [Zx],this.2⟩
structure Mid (B:Base P) (s:List AV) (fg:List Nat) (n0:Nat) (t:Array Value) (ds:List Deferred) (l:Nat) (F:ye) (O:Nat→Prop) (μ:Mu) (H:List zb) (y:Nat) (st:Bool) (W:World):Prop where
 slot: ∀(k:Nat) x v,s[k]?=some x→t[k]?=some v→RV (OO (fun b=>F.1 b∨O b) H μ) W μ x v
 hr:HRel μ (fun b=>F.1 b∨O b) H W
 jr:B.J y st F (fun b=>p_ μ ds b∨O b∨b=l) W
 marks: ∀d∈ds,∃D,d={target:= .collected D,args:= #[]}∧W.heap[D]?=some (.deferred (some []))∧ ¬ZM μ D∧ ¬F.2 D∧F.1 D∧ ¬O D∧B.w.heap.size≤D
 kp: ∀D o,B.kp=some (D,o)→W.heap[D]?=some o∧ ¬ZM μ D∧ ¬F.2 D∧D<B.w.heap.size
 chg:ChgY B.Y B.μ B.w W
 ext:Ext B.μ B.w μ
 le:n0≤H.length
 pres: ∀k x v,k≤n0→RV (OO F.1 B.H B.μ) B.w (upto k B.μ) x v→RV (OO (fun b=>F.1 b∨O b) H μ) W (upto k μ) (fgs (fgk k fg) x) v
 gr:Grows B F
 cx: ∀b,F.2 b→F.1 b
 xy: ∀k,F.2 k→k<B.w.heap.size→B.Y k
 li:F.1 l∧ ¬F.2 l∧ ¬ZM μ l∧B.w.heap.size≤l
theorem SRel.mine {B:Base P} {a:Act} (h:SRel B μ σ a w): ∀k,p_ μ a.defers k→ ¬B.C k∧k<w.heap.size:=fun k hk=>by
 rcases hk with ⟨i,m,hi⟩|hk
 ·exact ⟨fun hc=>(h.H.lt i k m hi).2 (h.df.cx k hc),(h.H.lt i k m hi).1⟩
 ·obtain ⟨D,e1,e2,e3,e4,e5,e6⟩:=h.df.marks _ hk;injection e1 with e1
  injection e1 with e1
  subst e1;exact ⟨e4,(Array.getElem?_eq_some_iff.1 e2).1⟩
section
variable {B:Base P} {s:List AV} {fg:List Nat} {n0:Nat} {t:Array Value} {ds:List Deferred} {L:Nat} {F:ye} {O O':Nat→Prop} {y:Nat} {st:Bool} {W W':World}
theorem Mid.lt (h:Mid B s fg n0 t ds L F O μ H y st W):L<W.heap.size:=h.hr.xlt L (.inl h.li.1)
theorem Mid.own (h:Mid B s fg n0 t ds L F O μ H y st W) (hO: ∀b,O b→ ¬F.2 b∧ ¬ZM μ b∧b≠L∧B.w.heap.size≤b): ∀k,(p_ μ ds k∨O k∨k=L)→ ¬F.2 k∧k<W.heap.size:=fun k hk=>by
 rcases hk with (⟨i,m,hi⟩|hk)|hk|rfl
 ·exact ⟨fun hc=>(h.hr.lt i k m hi).2 (.inl (h.cx k hc)),(h.hr.lt i k m hi).1⟩
 ·obtain ⟨D,e1,e2,e3,e4,_⟩:=h.marks _ hk;injection e1 with e1
  injection e1 with e1
  subst e1;exact ⟨e4,(Array.getElem?_eq_some_iff.1 e2).1⟩
 ·exact ⟨(hO k hk).1,h.hr.xlt k (.inr hk)⟩
 ·exact ⟨h.li.2.1,h.lt⟩
theorem Mid.keep (hok:B.Ok) (h:Mid B s fg n0 t ds L F O μ H y st W) (hO: ∀b,O b→ ¬F.2 b∧ ¬ZM μ b∧b≠L∧B.w.heap.size≤b) (hs:zhb O W W') (hO': ∀k,O' k→(O k∨W.heap.size≤k)∧ ¬F.2 k∧ ¬ZM μ k∧k<W'.heap.size):Mid B s fg n0 t ds L F O' μ H y st W':=by
 have hoo: ∀b,b<W.heap.size→OO (fun b=>F.1 b∨O' b) H μ b→OO (fun b=>F.1 b∨O b) H μ b:=fun b hb hx=>hx.imp (fun h=>h.imp id fun h=>(hO' b h).1.elim id fun h=>by omega) id
 have hnx: ∀b,b<W.heap.size→ ¬OO (fun b=>F.1 b∨O b) H μ b→W'.heap[b]?=W.heap[b]?:=fun b hb hn=>hs.block b hb fun hx=>hn (.inl (.inr hx))
 have hmu: ∀{i b m},μ i=some (some (b,m))→W'.heap[b]?=W.heap[b]?:=fun {i b m} hi=>hs.block b (h.hr.lt i b m hi).1 fun hx=>(hO b hx).2.1 ⟨i,m,hi⟩
 have hlt:=h.lt;have hown:=h.own hO
 refine ⟨fun k x v hx hv=>(h.slot k x v hx hv).mono hoo hnx _ fun _ _ h=>h,⟨h.hr.dom,h.hr.inj,fun i b m hi=>⟨Nat.lt_of_lt_of_le (h.hr.lt i b m hi).1 hs.size,fun hx=>hx.elim (fun hx=>(h.hr.lt i b m hi).2 (.inl hx)) fun hx=>(hO' b hx).2.2.1 ⟨i,m,hi⟩⟩,fun i o hi hst=>(h.hr.obj i o hi hst).mono hoo hnx (fun _ _ h=>h) fun b m hb=>hmu hb,fun b hx=>hx.elim (fun hx=>Nat.lt_of_lt_of_le (h.hr.xlt b (.inl hx)) hs.size) fun hx=>(hO' b hx).2.2.2,
  h.hr.gl.step hs.size (fun b hb hn _=>hs.block b hb fun hx=>hn (.inr hx)) (fun b hb=>hb.elim (fun h=> .inl (.inl h)) fun h=>(hO' b h).1.elim (fun h=> .inl (.inr h)) fun h=> .inr (.inr h)) fun i b m hi=> .inl ⟨i,m,hi⟩,h.hr.mp.mono hoo hnx fun i o hi _=>⟨i,o,hi, .refl o,fun _ h=>h,fun b m hb=>hmu hb⟩⟩,
  hok.keep _ _ _ _ W W' _ h.jr ⟨hs.os,hs.tape,hs.output,hs.size,fun k hk hn=>hs.block k hk fun hx=>hn (.inr (.inl hx))⟩ fun k hk=> ?_,fun d hd=> ?_,fun D o ho=> ?_,⟨hs.os.trans h.chg.os,hs.tape.trans h.chg.tape,hs.output.trans h.chg.output,Nat.le_trans h.chg.size hs.size,fun k hk hn hy=>(hs.block k (Nat.lt_of_lt_of_le hk h.chg.size) fun hx=>by have:=(hO k hx).2.2.2;omega).trans (h.chg.block k hk hn hy)⟩,h.ext,h.le,
  fun k x v hk hx=>(h.pres k x v hk hx).mono hoo hnx _ fun _ _ h=>h,h.gr,h.cx,h.xy,h.li⟩
 ·rcases hk with hk|hk|rfl
  ·exact ⟨.inl (.inl hk),(hown k (.inl hk)).1,Nat.lt_of_lt_of_le (hown k (.inl hk)).2 hs.size⟩
  ·exact ⟨(hO' k hk).1.imp (fun h=> .inr (.inl h)) id,(hO' k hk).2.1,(hO' k hk).2.2.2⟩
  ·exact ⟨.inl (.inr (.inr rfl)),h.li.2.1,Nat.lt_of_lt_of_le hlt hs.size⟩
 ·obtain ⟨D,e1,e2,e3,e4,e5,e6,e7⟩:=h.marks d hd;have hD:=(Array.getElem?_eq_some_iff.1 e2).1
  exact ⟨D,e1,(hs.block D hD e6).trans e2,e3,e4,e5,fun hx=>(hO' D hx).1.elim e6 fun h=>by omega,e7⟩
 ·obtain ⟨e1,e2,e3,e4⟩:=h.kp D o ho;exact ⟨(hs.block D (Array.getElem?_eq_some_iff.1 e1).1 fun hx=>by have:=(hO D hx).2.2.2;omega).trans e1,e2,e3,e4⟩
theorem Mid.put (hok:B.Ok) (h:Mid B s fg n0 t ds L F O μ H y st W) (hO: ∀b,O b→ ¬F.2 b∧ ¬ZM μ b∧b≠L∧B.w.heap.size≤b) {r0:Loop} (hL:W.heap[L]?=some (.loop r0)) (o':Obj):Mid B s fg n0 t ds L F O μ H y st (W.putObj L o'):=by
 have hc: ∀b,∀o1 u,W.cell? ⟨b,o1,none⟩=some u→(W.putObj L o').cell? ⟨b,o1,none⟩=some u:=fun b o1 u hu=>by
  by_cases hb:b=L
  ·subst hb;unfold World.cell? at hu;simp only [hL] at hu;cases hu
  ·rw [World.cell?_of_block (w:=W) (World.putObj_heap_other hb)];exact hu
 have hown:=h.own hO;have hne: ∀{k},k≠L→(W.putObj L o').heap[k]?=W.heap[k]?:=fun hk=>World.putObj_heap_other hk
 refine ⟨fun k x v hx hv=>(h.slot k x v hx hv).monoC (fun _ _ h=>h) (by simp) (fun b _ _=>hc b) _ fun _ _ h=>h,⟨h.hr.dom,h.hr.inj,fun i b m hi=>by simpa using h.hr.lt i b m hi,fun i o1 hi hs=>(h.hr.obj i o1 hi hs).monoC (fun _ _ h=>h) (by simp) (fun b _ _=>hc b) fun b m hb=>hne (by rintro rfl;exact h.li.2.2.1 ⟨i,m,hb⟩),fun b hx=>by simpa using h.hr.xlt b hx,h.hr.gl.stepC (by simp) (fun b _ _ _=>hc b) (fun _ h=> .inl h) fun i b m hi=> .inl ⟨i,m,hi⟩,fun i o1 hi=>(h.hr.mp i o1 hi).monoR (fun hx=>hx.monoC (fun _ _ h=>h) (by simp) (fun b _ _=>hc b) _ fun _ _ h=>h) (fun b es c h1 h2=>⟨h1,(hne (by rintro rfl;rw [hL] at h2;cases h2)).trans h2⟩) (.refl _) (fun _ h=>h) fun b m hb=>hne (by rintro rfl;exact h.li.2.2.1 ⟨i,m,hb⟩)⟩,
  hok.keep _ _ _ _ W _ _ h.jr ⟨rfl,rfl,rfl,by simp,fun k hk hn=>hne (by rintro rfl;exact hn (.inr (.inr rfl)))⟩ fun k hk=>⟨.inl hk,(hown k hk).1,by simpa using (hown k hk).2⟩,fun d hd=> ?_,fun D o ho=> ?_,⟨h.chg.os,h.chg.tape,h.chg.output,by simpa using h.chg.size,fun k hk hn hy=>(hne (by rintro rfl;have:=h.li.2.2.2;omega)).trans (h.chg.block k hk hn hy)⟩,h.ext,h.le,
  fun k x v hk hx=>(h.pres k x v hk hx).monoC (fun _ _ h=>h) (by simp) (fun b _ _=>hc b) _ fun _ _ h=>h,h.gr,h.cx,h.xy,h.li⟩
 ·obtain ⟨D,e1,e2,e3⟩:=h.marks d hd;exact ⟨D,e1,(hne (by rintro rfl;rw [hL] at e2;cases e2)).trans e2,e3⟩
 ·obtain ⟨e1,e2,e3,e4⟩:=h.kp D o ho;exact ⟨(hne (by rintro rfl;have:=h.li.2.2.2;omega)).trans e1,e2,e3,e4⟩
def zkM (ds:List Deferred) (O:Nat→Prop) (L b:Nat):Prop:=({target:= .collected b,args:= #[]}:Deferred)∈ds∨O b∨b=L
def Gk (B:Base P) (ds:List Deferred) (O:Nat→Prop) (L:Nat):Nat→Bool→ye→(Nat→Prop)→World→Prop:=fun y t G O1 W'=>B.J y t G (fun b=>O1 b∨zkM ds O L b) W'∧ ∀b,zkM ds O L b→G.1 b∧ ¬O1 b∧ ¬G.2 b∧b<W'.heap.size
def Kj (B:Base P) (ds:List Deferred) (L:Nat) (F:ye) (O:Nat→Prop) (μ:Mu) (H:List zb) (W:World) (k:Option (Nat×Obj)):Base P:=⟨W,fun b=>F.1 b∨O b,μ,H,fun b=>F.2 b∨b=L,B.sp,Gk B ds O L,k,F.2⟩
theorem zcm (hok:B.Ok) (hdm: ∀i l,μ i=some l→i<H.length) (k:Option (Nat×Obj)):(Kj B ds L F O μ H W k).Ok:=by
 refine ⟨hdm, ?_, ?_, ?_⟩
 ·rintro y t G O1 w w' O2 ⟨j,hk⟩ hs hO2
  refine ⟨hok.keep _ _ _ _ w w' _ j ⟨hs.os,hs.tape,hs.output,hs.size,fun k hk hn=>hs.block k hk fun hx=>hn (.inl hx)⟩ fun k hk'=> ?_,fun b hb=>⟨(hk b hb).1,fun h=>(hO2 b h).1.elim (hk b hb).2.1 fun h'=>(by have:=(hk b hb).2.2.2;omega),(hk b hb).2.2.1,Nat.lt_of_lt_of_le (hk b hb).2.2.2 hs.size⟩⟩;rcases hk' with hk'|hk'
  ·exact ⟨(hO2 k hk').1.imp .inl id,(hO2 k hk').2⟩
  ·exact ⟨.inl (.inr hk'),(hk k hk').2.2.1,Nat.lt_of_lt_of_le (hk k hk').2.2.2 hs.size⟩
 ·rintro y t G O1 w G' ⟨j,hk⟩ hG
  exact ⟨hok.more _ _ _ _ _ _ j fun b hb=>(hG b hb).imp id .inl,fun b hb=>⟨(hG b (hk b hb).1).elim id fun h=>((hk b hb).2.1 h).elim,(hk b hb).2⟩⟩
 ·rintro l' xs' n' hsp y G O1 w vs ⟨j,hk⟩ hy hv r'
  obtain ⟨fn,tmps,assign,body,hy1,hround⟩:=hok.yl l' xs' n' hsp y G _ w vs j hy (hv.mono (fun b _ hb=>hb.elim .inl fun h=>h.elim .inr fun h=> .inl (hk b h).1) (fun _ _ _=>rfl) fun _ _ h=>h) r';refine ⟨fn,tmps,assign,body,hy1,hround.mono fun e w' ⟨t,C',he,hj,hX1,hX2,hs⟩=>⟨t,C',he,⟨hj,fun b hb=>⟨.inl (hk b hb).1,(hk b hb).2.1,fun hc=>(hX2 b hc).1.elim (hk b hb).2.2.1 fun h=>by have:=(hk b hb).2.2.2;omega,Nat.lt_of_lt_of_le (hk b hb).2.2.2 hs.size⟩⟩,hX1,hX2,hs⟩⟩
theorem Mid.begin (hok:B.Ok) (h:Mid B s fg n0 t ds L F O μ H y st W) (hO: ∀b,O b→ ¬F.2 b∧ ¬ZM μ b∧b≠L∧B.w.heap.size≤b) {rc:Obj} (hL:W.heap[L]?=some rc) {s1:List AV} {t1:Array Value} (hsz:s1.length=t1.size)
 (hsl: ∀(k:Nat) x v,s1[k]?=some x→t1[k]?=some v→RV (OO (fun b=>F.1 b∨O b) H μ) W μ x v):SRel (Kj B ds L F O μ H W (some (L,rc))) μ ⟨s1,H,[],⟨H.length,y,st,B.sp,true⟩⟩ {tmps:=t1,defers:=[]} W:=by
 have hown:=h.own hO;refine ⟨hsz,hsl,h.hr,⟨rfl,zcm hok h.hr.dom _,⟨?_,fun b hb=> ?_⟩,fun d hd=>(by cases hd), .nil,fun _=>rfl,fun k hk _=> .inl hk,fun D o ho=> ?_,fun b hb=> .inl (h.cx b hb)⟩,⟨rfl,rfl,rfl,Nat.le_refl _,fun _ _ _ _=>rfl⟩,Ext.refl _ _,rfl,Nat.le_refl _,fun k x v _ hx=>hx⟩
 ·refine hok.more _ _ F _ _ _ (hok.keep _ _ _ _ W W _ h.jr ⟨rfl,rfl,rfl,Nat.le_refl _,fun _ _ _=>rfl⟩ fun k hk=> ?_) fun b hb=> .inl (.inl hb)
  have hk':p_ μ ds k∨O k∨k=L:=by
   rcases hk with (hk|hk)|hk|hk
   ·exact .inl (.inl hk)
   ·cases hk
   ·exact .inl (.inr hk)
   ·exact .inr hk
  exact ⟨.inl hk',hown k hk'⟩
 ·have hk':p_ μ ds b∨O b∨b=L:=hb.elim (fun h=> .inl (.inr h)) .inr
  refine ⟨?_,fun hm=> ?_,hown b hk'⟩
  case refine_2=>
   rcases hm with hm|hm
   ·rcases hb with hb|hb|rfl
    ·obtain ⟨D,e1,e2,e3,_⟩:=h.marks _ hb;injection e1 with e1
     injection e1 with e1
     subst e1;exact e3 hm
    ·exact (hO b hb).2.1 hm
    ·exact h.li.2.2.1 hm
   ·cases hm
  rcases hb with hb|hb|rfl
  ·obtain ⟨D,e1,e2,e3,e4,e5,_⟩:=h.marks _ hb;injection e1 with e1
   injection e1 with e1
   subst e1;exact .inl e5
  ·exact .inr hb
  ·exact .inl h.li.1
 ·injection ho with ho;injection ho with e1 e2;subst e1 e2
  exact ⟨hL,h.li.2.2.1,h.li.2.1,h.lt⟩
theorem Mid.done (hok:B.Ok) (h:Mid B s fg n0 t ds L F O μ H y st W) (hO: ∀b,O b→ ¬F.2 b∧ ¬ZM μ b∧b≠L∧B.w.heap.size≤b) {rc0 rc:Obj} (hrc: ∃r0,W.heap[L]?=some (.loop r0)) {μ5:Mu} {σ5:St} {a5:Act} {w5:World} {G:ye}
 (h5:SRel ((Kj B ds L F O μ H W (some (L,rc))).at_ G) μ5 σ5 a5 w5) (hg:Grows (Kj B ds L F O μ H W (some (L,rc))) G) (hs:LeS (s.map (fgs (fgk H.length σ5.fg))) s) (hfg:(σ5.fg.all fun i=>Nat.ble n0 i)=true):
 Mid B s fg n0 t ds L G O μ5 σ5.H σ5.nb.y σ5.nb.stop w5:=by
 have hnb:σ5.nb.n=H.length:=h5.nb
 have hup: ∀{ν:Mu} {x:AV} {v:Value},RV (OO G.1 σ5.H μ5) w5 ν x v→RV (OO (fun b=>G.1 b∨O b) σ5.H μ5) w5 ν x v:=fun {ν x v} hx=>hx.mono (fun b _ hb=>hb.imp (fun h=>h.elim id fun h=>hg.le b (.inr h)) id) (fun _ _ _=>rfl) ν fun _ _ h=>h
 have hp: ∀k x v,k≤H.length→RV (OO (fun b=>F.1 b∨O b) H μ) W (upto k μ) x v→RV (OO G.1 σ5.H μ5) w5 (upto k μ5) (fgs (fgk k σ5.fg) x) v:=fun k x v hk hx=>h5.pres k x v (by rw [hnb];exact hk) (hx.mono (fun b hb hb'=>hb'.imp (fun hx=>(hg.new b hx).elim id fun h=>by have h2:W.heap.size≤b:=h;omega) id) (fun _ _ _=>rfl) _ fun _ _ h=>h)
 have hin: ∀b,ZM μ5 b→ZM μ b∨W.heap.size≤b:=fun b ⟨i,m,hi⟩=>(h5.ext i b m hi).imp (fun ⟨j,m',hj⟩=>⟨j,m',hj⟩) id
 have hchg: ∀k,k<W.heap.size→ ¬ZM μ k→ ¬F.2 k→k≠L→w5.heap[k]?=W.heap[k]?:=fun k hk hn hf hne=>h5.chg.block k hk (fun i m hi=>hn ⟨i,m,hi⟩) fun h=>h.elim hf hne
 have hG2: ∀b,G.2 b→F.2 b∨W.heap.size≤b:=fun b hb=>hg.cnew b hb
 have hws:W.heap.size≤w5.heap.size:=h5.chg.size
 obtain ⟨hj,hjk⟩:=h5.df.jr;obtain ⟨c1,c2,c3,c4⟩:=h5.df.kp L rc rfl;have hcx: ∀b,G.2 b→G.1 b:=h5.df.cx
 refine ⟨fun k x v hx hv=> ?_,⟨h5.H.dom,h5.H.inj,fun i b m hi=>⟨(h5.H.lt i b m hi).1,fun hx=>(h5.H.lt i b m hi).2 (hx.elim id fun h=>hg.le b (.inr h))⟩,fun i o hi hst=>(h5.H.obj i o hi hst).mono (fun b _ hb=>hb.imp (fun h=>h.elim id fun h=>hg.le b (.inr h)) id) (fun _ _ _=>rfl) (fun _ _ h=>h) fun _ _ _=>rfl,fun b hx=>h5.H.xlt b (hx.elim id fun h=>hg.le b (.inr h)),h5.H.gl.step (Nat.le_refl _) (fun _ _ _ _=>rfl) (fun b hb=> .inl (hb.elim id fun h=>hg.le b (.inr h))) fun i b m hi=> .inl ⟨i,m,hi⟩,h5.H.mp.mono (fun b _ hb=>hb.imp (fun h=>h.elim id fun h=>hg.le b (.inr h)) id) (fun _ _ _=>rfl) fun i o hi _=>⟨i,o,hi, .refl o,fun _ h=>h,fun _ _ _=>rfl⟩⟩,
  hok.keep _ _ _ _ w5 w5 _ hj ⟨rfl,rfl,rfl,Nat.le_refl _,fun _ _ _=>rfl⟩ fun k hk=> ?_,fun d hd=> ?_,fun D o ho=> ?_,⟨h5.chg.os.trans h.chg.os,h5.chg.tape.trans h.chg.tape,h5.chg.output.trans h.chg.output,Nat.le_trans h.chg.size hws,fun k hk hn hy=> ?_⟩,h.ext.trans h.chg.size h5.ext,Nat.le_trans h.le (by have:=h5.le;rw [hnb] at this;exact this),fun k x v hk hx=> ?_,
  ⟨fun b hb=>hg.le b (.inl (h.gr.le b hb)),fun b hb=>(hg.new b hb).elim (fun hb=>hb.elim (h.gr.new b) fun hb=> .inr (hO b hb).2.2.2) fun h'=> .inr (Nat.le_trans h.chg.size h'),fun b hb=>hg.cle b (h.gr.cle b hb),fun b hb=>(hG2 b hb).elim (h.gr.cnew b) fun h'=> .inr (Nat.le_trans h.chg.size h')⟩,hcx,fun k hk hlt=>(hG2 k hk).elim (fun hk=>h.xy k hk hlt) fun h'=>by have:=h.chg.size;omega,⟨hg.le L (.inl h.li.1),c3,c2,h.li.2.2.2⟩⟩
 ·have h1:=hp H.length x v (Nat.le_refl _) (by rw [KF h.hr.dom];exact h.slot k x v hx hv);obtain ⟨z,hz,hle⟩:=hs.at_ hx;simp only [List.getElem?_map,hx,Option.map_some,Option.some.injEq] at hz;subst hz;exact (hup (hle _ _ _ _ h1)).mono (fun _ _ h=>h) (fun _ _ _=>rfl) _ (Po _ _)
 ·rcases hk with (⟨i,m,hi⟩|hk)|hk
  ·exact ⟨.inl (.inl (.inl ⟨i,m,hi⟩)),fun hc=>(h5.H.lt i k m hi).2 (hcx k hc),(h5.H.lt i k m hi).1⟩
  ·exact ⟨.inl (.inr (.inl hk)),(hjk k (.inl hk)).2.2⟩
  ·exact ⟨.inl (.inr (.inr hk)),(hjk k (.inr hk)).2.2⟩
 ·obtain ⟨D,e1,e2,e3,e4,e5,e6,e7⟩:=h.marks d hd;have hD:=(Array.getElem?_eq_some_iff.1 e2).1
  exact ⟨D,e1,(hchg D hD e3 e4 (by rintro rfl;obtain ⟨r0,hr0⟩:=hrc;rw [hr0] at e2;cases e2)).trans e2,fun hx=>(hin D hx).elim e3 fun h=>by omega,fun hc=>(hG2 D hc).elim e4 fun h=>by omega,hg.le D (.inl e5),e6,e7⟩
 ·obtain ⟨e1,e2,e3,e4⟩:=h.kp D o ho;have hD:=(Array.getElem?_eq_some_iff.1 e1).1
  exact ⟨(hchg D hD e2 e3 (by rintro rfl;have:=h.li.2.2.2;omega)).trans e1,fun hx=>(hin D hx).elim e2 fun h=>by omega,fun hc=>(hG2 D hc).elim e3 fun h=>by omega,e4⟩
 ·refine (hchg k (Nat.lt_of_lt_of_le hk h.chg.size) (fun ⟨i,m,hi⟩=> ?_) (fun hf=>hy (h.xy k hf hk)) (by rintro rfl;have:=h.li.2.2.2;omega)).trans (h.chg.block k hk hn hy);rcases h.ext i k m hi with ⟨j,m',hj⟩|hge
  ·exact hn j m' hj
  ·omega
 ·have h1:=hp k _ v (Nat.le_trans hk h.le) (h.pres k x v hk (hx.mono (fun b _ hb=>hb.imp (fun h=>hg.le b (.inl h)) id) (fun _ _ _=>rfl) _ fun _ _ h=>h))
  have:fgk k σ5.fg=[]:=by
   unfold fgk;rw [List.filter_eq_nil_iff];intro i hi hb;rw [Nat.blt_eq] at hb;have:=Nat.ble_eq.mp (List.all_eq_true.1 hfg i hi)
   omega
  rw [this] at h1;exact hup h1
theorem g8 (hok:B.Ok) {G:ye} {O1:Nat→Prop} {b:Bool} (h:Gk B ds O L y b G O1 W) (hO1: ∀k,O1 k→ ¬G.2 k∧k<W.heap.size) (o':Obj):Gk B ds O L y b G O1 (W.putObj L o'):=by
 obtain ⟨j,hk⟩:=h;refine ⟨hok.keep _ _ _ _ W _ _ j ⟨rfl,rfl,rfl,by simp,fun k _ hn=>World.putObj_heap_other (by rintro rfl;exact hn (.inr (.inr (.inr rfl))))⟩ fun k hk'=>⟨.inl hk', ?_⟩,fun b hb=>⟨(hk b hb).1,(hk b hb).2.1,(hk b hb).2.2.1,by simpa using (hk b hb).2.2.2⟩⟩;rcases hk' with hk'|hk'
 ·exact ⟨(hO1 k hk').1,by simpa using (hO1 k hk').2⟩
 ·exact ⟨(hk k hk').2.2.1,by simpa using (hk k hk').2.2.2⟩
theorem Mid.shrink (hok:B.Ok) (h:Mid B s fg n0 t ds L F O μ H y st W) (hO: ∀b,O b→ ¬F.2 b∧ ¬ZM μ b∧b≠L∧B.w.heap.size≤b) (hX: ∀b,O b→ ¬B.X b):Mid B s fg n0 t ds L (fun b=>F.1 b∧ ¬O b,F.2) O μ H y st W:=by
 have hs: ∀b,((F.1 b∧ ¬O b)∨O b)↔(F.1 b∨O b):=fun b=>⟨fun h=>h.elim (fun h=> .inl h.1) .inr,fun h=>(Classical.em (O b)).elim .inr fun hn=>h.elim (fun h=> .inl ⟨h,hn⟩) .inr⟩
 have hf:(fun b=>(F.1 b∧ ¬O b)∨O b)=(fun b=>F.1 b∨O b):=funext fun b=>propext (hs b)
 refine ⟨?_, ?_,hok.more _ _ _ _ _ _ h.jr fun b hb=>(Classical.em (O b)).elim (fun h=> .inr (.inr (.inl h))) fun hn=> .inl ⟨hb,hn⟩,fun d hd=> ?_,h.kp,h.chg,h.ext,h.le, ?_,⟨fun b hb=>⟨h.gr.le b hb,fun ho=>hX b ho hb⟩,fun b hb=>h.gr.new b hb.1,h.gr.cle,h.gr.cnew⟩,fun b hb=>⟨h.cx b hb,fun ho=>(hO b ho).1 hb⟩,h.xy,⟨h.li.1,fun ho=>(hO L ho).2.2.1 rfl⟩,h.li.2⟩
 ·simp only [hf];exact h.slot
 ·simp only [hf];exact h.hr
 ·obtain ⟨D,e1,e2,e3,e4,e5,e6,e7⟩:=h.marks d hd;exact ⟨D,e1,e2,e3,e4,⟨e5,e6⟩,e6,e7⟩
 ·simp only [hf];exact fun k x v hk hx=>h.pres k x v hk (hx.mono (fun b hb hb'=>hb'.imp (fun h1=>⟨h1,fun ho=>by have:=(hO b ho).2.2.2;omega⟩) id) (fun _ _ _=>rfl) _ fun _ _ h=>h)
theorem Mid.srel (hok:B.Ok) (hsz:s.length=t.size) (hn:n0=B.H.length) (hap:ds.Pairwise (· ≠ ·)) (h:Mid B s fg n0 t ds L F (fun _=>False) μ H y st W):SRel (B.at_ F) μ ⟨s,H,fg,⟨n0,y,st,B.sp,false⟩⟩ {tmps:=t,defers:=ds} W:=by
 have hf:(fun b=>F.1 b∨False)=F.1:=by funext b;simp
 have hs:=h.slot;have hh:=h.hr;have hp:=h.pres;simp only [hf] at hs hh hp;refine ⟨hsz,hs,hh,⟨rfl,⟨hok.dm,hok.keep,hok.more,hok.yl⟩,hok.keep _ _ _ _ W W _ h.jr ⟨rfl,rfl,rfl,Nat.le_refl _,fun _ _ _=>rfl⟩ fun k hk=>⟨.inl (.inl hk), ?_⟩,fun d hd=> ?_,hap,fun h=>(by cases h),h.xy,h.kp,h.cx⟩,h.chg,h.ext,hn,h.le,hp⟩
 ·exact h.own (fun _ h=>h.elim) k (.inl hk)
 ·obtain ⟨D,e1,e2,e3,e4,e5,e6,e7⟩:=h.marks d hd;exact ⟨D,e1,e2,e3,e4,e5,e7⟩
end
def zii (e:Exit) (c:Code):Prop:=(e= .ret∧c= .ret)∨ ∃id,e= .exit id∧c= .exit id
structure Turn (B:Base P) (σ:St) (Hs:Nat→List zb) (ys:Nat→Nat) (Q:Exit→St→Prop) (rec:LoopState→Option Code→Loop) (t0:Array Value) (ds:List Deferred) (L n1:Nat) (y:Nat) (t:Bool) (F':ye) (O:Nat→Prop) (W:World) (F:ye) (μc:Mu) (Hc:List zb) (y':Nat) (st':Bool):Prop where
 og: ∀b,O b→n1≤b∧ ¬F'.2 b∧ ¬F.1 b
 zl:F'.2 L
 zs: ∀b,F'.2 b→b<W.heap.size
 f2: ∀b,F.2 b→F'.2 b
 f1: ∀b,F.1 b→F'.1 b
 mz: ∀b,ZM μc b→F'.2 b
 m1: ∀b,ZM μc b→F'.1 b
 n1:n1≤W.heap.size∧B.w.heap.size≤n1
 mid:Mid B σ.s σ.fg σ.nb.n t0 ds L F O μc Hc y' st' W
 cas:(t=false∧Hc=Hs y∧y'=ys y∧st'=σ.nb.stop∧W.heap[L]?=some (.loop (rec .ready none)))∨(t=true∧ ∃e c,zii e c∧Q e ⟨σ.s,Hc,σ.fg,⟨σ.nb.n,y',st',σ.nb.sp,false⟩⟩∧W.heap[L]?=some (.loop (rec .done (some c))))
theorem Turn.hO {B:Base P} {Hs:Nat→List zb} {ys:Nat→Nat} {rec:LoopState→Option Code→Loop} {t0:Array Value} {ds:List Deferred} {L n1 y:Nat} {t:Bool} {F':ye} {O:Nat→Prop} {W:World} {F:ye} {μc:Mu} {Hc:List zb} {y':Nat} {st':Bool} (h:Turn B σ Hs ys Q rec t0 ds L n1 y t F' O W F μc Hc y' st'):
 ∀b,O b→ ¬F.2 b∧ ¬ZM μc b∧b≠L∧B.w.heap.size≤b:=fun b hb=>by
 obtain ⟨h1,h2,h3⟩:=h.og b hb;exact ⟨fun hf=>h2 (h.f2 b hf),fun hf=>h2 (h.mz b hf),fun e=>h2 (e▸h.zl),Nat.le_trans h.n1.2 h1⟩
def uk (σ:St) (k:Nat) (H':List zb) (y':Nat) (Q:Exit→St→Prop):Exit→St→Prop
 | .normal,σ'=> ∃σ'',Tells σ' σ''∧σ''.H=H'∧LeS (σ.s.map (fgs (fgk k σ''.fg))) σ.s∧(σ''.fg.all fun i=>Nat.ble σ.nb.n i)=true∧σ''.nb.y=y'∧σ''.nb.stop=σ.nb.stop
 | .ret,σ'=> ∃σ'',Tells σ' σ''∧LeS (σ.s.map (fgs (fgk k σ''.fg))) σ.s∧(σ''.fg.all fun i=>Nat.ble σ.nb.n i)=true∧Q .ret ⟨σ.s,σ''.H,σ.fg,⟨σ.nb.n,σ''.nb.y,σ''.nb.stop,σ.nb.sp,false⟩⟩
 | .exit id,σ'=> ∃σ'',Tells σ' σ''∧LeS (σ.s.map (fgs (fgk k σ''.fg))) σ.s∧(σ''.fg.all fun i=>Nat.ble σ.nb.n i)=true∧Q (.exit id) ⟨σ.s,σ''.H,σ.fg,⟨σ.nb.n,σ''.nb.y,σ''.nb.stop,σ.nb.sp,false⟩⟩
 |_,_=>False
structure zgm {P:Program} (B:Base P) (μ:Mu) (σ:St) (s1:List AV) (H1 Hi:List zb) (lb lb':List AV) (a:Act) (w:World) (μ1 μi:Mu):Prop where
 k1: ∀b,ZM μ1 b→ZM μ b
 ki: ∀b,ZM μi b→ZM μ b
 kd: ∀b,ZM μ1 b→ ¬ZM μi b
 kn: ∀b,ZM μi b→B.w.heap.size≤b
 h1:HRel μ1 (fun b=>B.X b∨ZM μi b) H1 w
 hi:HRel μi (fun b=>B.X b∨ZM μ1 b) Hi w
 slot: ∀(k:Nat) x v,s1[k]?=some x→a.tmps[k]?=some v→RV (OO (fun b=>B.X b∨ZM μi b) H1 μ1) w μ1 x v
 cap: ∀us,RVs (OO B.X σ.H μ) w μ lb us→RVs (OO (fun b=>B.X b∨ZM μ1 b) Hi μi) w μi lb' us
 pres: ∀k x v,k≤σ.nb.n→RV (OO B.X B.H B.μ) B.w (upto k B.μ) x v→RV (OO (fun b=>B.X b∨ZM μi b) H1 μ1) w (upto k μ1) (fgs (fgk k σ.fg) x) v
 le:σ.nb.n≤H1.length
structure tW (σ:St) (s1:List AV) (H1 Hi:List zb) (lb lb':List AV):Prop where
 len:s1.length=σ.s.length
 sp: ∀(P:Program) (B:Base P) (μ:Mu) (a:Act) (w:World),SRel B μ σ a w→ ∃μ1 μi,zgm B μ σ s1 H1 Hi lb lb' a w μ1 μi
theorem XE {g:Operand} {ps:List Tmp} {assign body:Code} {s1:List AV} {H1 Hi:List zb} {lb lb':List AV} (hsplit:tW σ s1 H1 Hi lb lb') {gf:FuncId} (hg:σ.ev g= .fn (.func gf) [] lb) (hgf:ze P gf)
 {xs:Nat→List AV} {n:Nat} (hit:Jl P gf lb' Hi xs n) (hps: ∀i,i<n→(xs i).length=ps.length) (Hs:Nat→List zb) (ys:Nat→Nat) (h0:Hs 0=H1) (hy0:ys 0=σ.nb.y)
 (round: ∀i,i<n→ ∀L,AW P (some L) assign (zF (AW P (some L) body (uk ⟨s1,H1,σ.fg,σ.nb⟩ (Hs i).length (Hs (i+1)) (ys (i+1)) Q)) (fun _ _=>False)) ⟨wP s1 ps (xs i),Hs i,[],⟨(Hs i).length,ys i,σ.nb.stop,σ.nb.sp,true⟩⟩)
 (next:Q .normal ⟨s1,Hs n,σ.fg,⟨σ.nb.n,ys n,σ.nb.stop,σ.nb.sp,false⟩⟩):AW P none (.rangeFunc g ps.toArray assign body) Q σ:=by
 intro B μ a w hr;obtain ⟨μ1,μi,hsp⟩:=hsplit.sp P B μ a w hr;have hsz1:s1.length=a.tmps.size:=hsplit.len.trans hr.size
 obtain ⟨fn,c,hfn,hnm,hb⟩:=hgf;refine wpIn_rangeFunc fun fi _=> ?_
 obtain ⟨rec,hrec⟩: ∃rec:LoopState→Option Code→Loop,rec=fun st pe=>{state:=st,pending:=pe,fn:=fi,tmps:=a.tmps,params:=ps.toArray,assign,body,defers:=w.heap.size}:=⟨_,rfl⟩
 obtain ⟨l,hl⟩: ∃l,l=w.heap.size+1:=⟨_,rfl⟩;obtain ⟨W1,hW1⟩: ∃W1,(w.alloc (.deferred (some []))).alloc (.loop (rec .ready none))=W1:=⟨_,rfl⟩;have hs1:W1.heap.size=w.heap.size+2:=by rw [←hW1];simp
 have hL1:W1.heap[l]?=some (.loop (rec .ready none)):=by
  rw [←hW1,hl];have:=World.alloc_heap_new (w.alloc (.deferred (some []))) (.loop (rec .ready none));rwa [World.size_alloc] at this
 have hK1:W1.heap[w.heap.size]?=some (.deferred (some [])):=by
  rw [←hW1];exact (Below.heap_alloc _ _ _ (by simp)).trans (World.alloc_heap_new w _)
 have hbel:Below w.heap.size w W1:=by
  rw [←hW1];exact ((Below.refl _ w).alloc (Nat.le_refl _) _).alloc (by simp) _
 have hgv:=hr.ev g;rw [hg] at hgv;have hgv0:=hgv;generalize hge:a.eval g=gv at hgv;cases hgv with
 |fn h1 h2 h3 h4=>
  rename_i vs us;obtain rfl:vs=[]:=by simpa using h1.symm
  let mark:Deferred:={target:= .collected w.heap.size,args:= #[]}
  refine ⟨l,[mark],W1,{target:= .fn (.func gf) us.toArray,args:= #[.func (.yield l) #[] #[]]},W1,gf,(Value.func (.yield l) #[] #[]::us).toArray,W1, ?_, ?_,fun _ _=>trivial, ?_,fun h=>by simp [fw,Fence.wide] at h, ?_⟩
  ·rw [←hW1,hrec,hl];exact run_enterLoop_outer _ _ _ _ _
  ·simp only [resolve,hge];simp [go_sem]
  ·simp [invoke,go_sem,vE hfn hnm hb]
  obtain ⟨ds,hds⟩: ∃ds:List Deferred,ds=mark::a.defers:=⟨_,rfl⟩;have hsz:=hr.chg.size;have hok:=hr.df.ok;have hnin: ∀b,ZM μ b→b<w.heap.size:=fun b ⟨i,m,hi⟩=>(hr.H.lt i b m hi).1
  have hap:ds.Pairwise (· ≠ ·):=by
   rw [hds];refine List.pairwise_cons.2 ⟨fun d hd he=> ?_,hr.df.apart⟩;obtain ⟨D,e1,e2,e3,e4,e5,e6⟩:=hr.df.marks d hd;have hlt:=(Array.getElem?_eq_some_iff.1 e2).1
   rw [e1] at he;injection he with he
   injection he with he
   omega
  let F0:ye:=(fun b=>B.X b∨b=w.heap.size∨b=l,B.C)
  have hF0: ∀b,b<w.heap.size→F0.1 b→B.X b:=fun b hb h=>h.elim id fun h=>by omega
  have hmine: ∀k,p_ μ ds k→p_ μ a.defers k∨k=w.heap.size:=fun k hk=>hk.elim (fun h=> .inl (.inl h)) fun h=>by
   rw [hds] at h;rcases List.mem_cons.1 h with h|h
   ·injection h with h;injection h with h;exact .inr h
   ·exact .inl (.inr h)
  have hmk:=hr.mine;have hCw: ∀b,B.C b→b<w.heap.size:=fun b h=>hr.H.xlt b (hr.df.cx b h)
  have hnx: ∀{O:Nat→Prop},∀b,b<w.heap.size→ ¬O b→W1.heap[b]?=w.heap[b]?:=fun b hb _=>hbel.block b hb
  have hoo: ∀b,b<w.heap.size→OO (fun b=>F0.1 b∨ZM μi b) H1 μ1 b→OO (fun b=>B.X b∨ZM μi b) H1 μ1 b:=fun b hb h=>h.imp (fun h=>h.imp (fun h=>hF0 b hb h) id) id
  have hooi: ∀b,b<w.heap.size→OO (fun b=>F0.1 b∨ZM μ1 b) Hi μi b→OO (fun b=>B.X b∨ZM μ1 b) Hi μi b:=fun b hb h=>h.imp (fun h=>h.imp (fun h=>hF0 b hb h) id) id
  have hmi: ∀b,ZM μi b→b<w.heap.size:=fun b hb=>hnin b (hsp.ki b hb)
  have hm1': ∀b,ZM μ1 b→b<w.heap.size:=fun b hb=>hnin b (hsp.k1 b hb)
  have hmx: ∀b,ZM μ b→ ¬B.X b:=fun b ⟨i,m,hi⟩=>(hr.H.lt i b m hi).2
  have hm1:Mid B s1 σ.fg σ.nb.n a.tmps ds l F0 (ZM μi) μ1 (Hs 0) (ys 0) σ.nb.stop W1:=by
   rw [h0,hy0]
   refine ⟨fun k x v hx hv=>(hsp.slot k x v hx hv).mono hoo hnx _ fun _ _ h=>h,⟨hsp.h1.dom,hsp.h1.inj,fun i b m hi=>⟨by have:=(hsp.h1.lt i b m hi).1;omega,fun hx=>(hsp.h1.lt i b m hi).2 (hx.imp (hF0 b (hsp.h1.lt i b m hi).1) id)⟩,fun i o hi hst=>(hsp.h1.obj i o hi hst).mono hoo hnx (fun _ _ h=>h) fun b m hb=>hbel.block b (hsp.h1.lt i b m hb).1,fun b hx=> ?_,hsp.h1.gl.step (by omega) (fun b hb _ _=>hbel.block b hb) (fun b hb=> ?_) fun i b m hi=> .inl ⟨i,m,hi⟩,hsp.h1.mp.mono hoo hnx fun i o hi _=>⟨i,o,hi, .refl o,fun _ h=>h,fun b m hb=>hbel.block b (hsp.h1.lt i b m hb).1⟩⟩,
    hok.keep _ _ _ _ w W1 _ (hok.more _ _ _ _ _ F0.1 hr.df.jr fun b hb=> .inl (.inl hb)) ⟨hbel.os,hbel.tape,hbel.output,hbel.size,fun k hk _=>hbel.block k hk⟩ fun k hk=> ?_,fun d hd=> ?_,fun D o ho=> ?_,hr.chg.trans hr.ext (.of_below hbel),fun i b m hi=> ?_,hsp.le,
    fun k x v hk hx=>(hsp.pres k x v hk (hx.mono (fun b _ hb=>hb.imp .inl id) (fun _ _ _=>rfl) _ fun _ _ h=>h)).mono hoo hnx _ fun _ _ h=>h,⟨fun b hb=> .inl hb,fun b hb=>hb.imp id fun h=>by omega,fun b hb=>hb,fun b hb=> .inl hb⟩,fun b hb=> .inl (hr.df.cx b hb),hr.df.xy,⟨.inr (.inr rfl),fun h=>by have:=hCw _ h;omega,fun h=>by have:=hm1' _ h;omega,by omega⟩⟩
   ·rcases hx with (h|h|h)|h
    ·have:=hr.H.xlt b h;omega
    ·omega
    ·omega
    ·have:=hmi b h;omega
   ·rcases hb with (h|h|h)|h
    ·exact .inl (.inl h)
    ·exact .inr (.inr (by omega))
    ·exact .inr (.inr (by omega))
    ·exact .inl (.inr h)
   ·rcases hk with (hk|hk)|hk|hk
    ·have h2:=hmk k (.inl (hsp.k1 k hk));exact ⟨.inl (.inl (hsp.k1 k hk)),h2.1,by have:=h2.2;omega⟩
    ·rcases hmine k (.inr hk) with hk|hk
     ·exact ⟨.inl hk,(hmk k hk).1,by have:=(hmk k hk).2;omega⟩
     ·exact ⟨.inr (by omega),fun h=>by have:=hCw _ h;omega,by omega⟩
    ·have h2:=hmk k (.inl (hsp.ki k hk));exact ⟨.inl (.inl (hsp.ki k hk)),h2.1,by have:=h2.2;omega⟩
    ·exact ⟨.inr (by omega),fun h=>by have:=hCw _ h;omega,by omega⟩
   ·rw [hds] at hd;rcases List.mem_cons.1 hd with rfl|hd
    ·exact ⟨_,rfl,hK1,fun h=>by have:=hm1' _ h;omega,fun h=>by have:=hCw _ h;omega, .inr (.inl rfl),fun h=>by have:=hmi _ h;omega,hsz⟩
    ·obtain ⟨D,e1,e2,e3,e4,e5,e6⟩:=hr.df.marks d hd;exact ⟨D,e1,(hbel.block D (Array.getElem?_eq_some_iff.1 e2).1).trans e2,fun h=>e3 (hsp.k1 D h),e4, .inl e5,fun h=>e3 (hsp.ki D h),e6⟩
   ·obtain ⟨e1,e2,e3,e4⟩:=hr.df.kp D o ho;exact ⟨(hbel.block D (Array.getElem?_eq_some_iff.1 e1).1).trans e1,fun h=>e2 (hsp.k1 D h),e3,e4⟩
   ·obtain ⟨j,m',hj⟩:=hsp.k1 b ⟨i,m,hi⟩;exact hr.ext j b m' hj
  let J:Nat→Bool→ye→(Nat→Prop)→World→Prop:=fun y t F' O W=> ∃F μc Hc y' st',Turn B ⟨s1,H1,σ.fg,σ.nb⟩ Hs ys Q rec a.tmps ds l B.w.heap.size y t F' O W F μc Hc y' st'
  let X2:Nat→Prop:=fun b=>F0.1 b∨ZM μ1 b
  have hok2:Base.Ok (⟨W1,X2,μi,Hi,X2,some (l,xs,n),J,none,X2⟩:Base P):=by
   refine ⟨hsp.hi.dom, ?_, ?_, ?_⟩
   ·rintro y t F' O W W' O' ⟨F,μc,Hc,y',st',h⟩ hs hO'
    have hll: ¬O l:=fun ho=>(h.hO l ho).2.2.1 rfl
    have hwl:W'.heap[l]?=W.heap[l]?:=hs.block l (h.zs l h.zl) hll
    refine ⟨F,μc,Hc,y',st',fun b hb=>⟨(hO' b hb).1.elim (fun h1=>(h.og b h1).1) fun h1=>Nat.le_trans h.n1.1 h1,(hO' b hb).2.1,fun hf=>(hO' b hb).1.elim (fun h1=>(h.og b h1).2.2 hf) fun h1=>by have:=h.mid.hr.xlt b (.inl hf);omega⟩,h.zl,fun b hb=>Nat.lt_of_lt_of_le (h.zs b hb) hs.size,h.f2,h.f1,h.mz,h.m1,⟨Nat.le_trans h.n1.1 hs.size,h.n1.2⟩,
     h.mid.keep hok h.hO hs (fun k hk=>⟨(hO' k hk).1,fun hf=>(hO' k hk).2.1 (h.f2 k hf),fun hf=>(hO' k hk).2.1 (h.mz k hf),(hO' k hk).2.2⟩), ?_⟩
    rw [hwl];exact h.cas
   ·rintro y t F' O W G ⟨F,μc,Hc,y',st',h⟩ hG
    refine ⟨F,μc,Hc,y',st',h.og,h.zl,h.zs,h.f2,fun b hb=> ?_,h.mz,fun b hb=> ?_,h.n1,h.mid,h.cas⟩
    ·exact (hG b (h.f1 b hb)).elim id fun ho=>((h.og b ho).2.2 hb).elim
    ·exact (hG b (h.m1 b hb)).elim id fun ho=>((h.hO b ho).2.1 hb).elim
   ·rintro l' xs' n' he y F' O W vs ⟨F,μc,Hc,y',st',h⟩ hy hv r'
    injection he with he;injection he with e1 e2;injection e2 with e2 e3
    subst e1 e2 e3;have hvl:vs.length=ps.length:=by rw [←hv.1];exact hps y hy
    obtain ⟨_,hHc,hy',hst',j10⟩:=h.cas.resolve_right fun h=>by cases h.1
    subst hHc hy' hst';have hyl:=run_yield (P:=P) (args:=vs.toArray) j10 (by rw [hrec];simpa using hvl);rw [hrec] at hyl;refine ⟨fi,_,assign,body,hyl,roundIn_of_wpIn trivial ?_⟩
    have hargs:RVs (OO (fun b=>F.1 b∨O b) (Hs y) μc) W μc (xs y) vs:=hv.mono (fun b _ hb=>by
     rcases hb with (hb|hb)|⟨i,o,m,_,_,hm⟩
     ·exact .inl (h.f1 b hb)
     ·exact .inr hb
     ·exact .inl (h.m1 b ⟨i,m,hm⟩)) (fun _ _ _=>rfl) fun i l h=>by cases h
    have hset:=Tm ps hargs (fun k x v hx hv=>h.mid.slot k x v hx hv) hsz1;have hzip:(ps.toArray.zip vs.toArray).foldl (fun tmps x=>tmps.setIfInBounds x.1 x.2) a.tmps=(ps.zip vs).foldl (fun t p=>t.setIfInBounds p.1 p.2) a.tmps:=by simp
    have hr0:=h.mid.begin hok h.hO j10 (s1:=wP s1 ps (xs y)) (t1:=(ps.zip vs).foldl (fun t p=>t.setIfInBounds p.1 p.2) a.tmps) (by rw [u9];exact hset.1.symm) hset.2;rw [←hr.df.sp] at hr0;have hA:=round y hy l _ μc _ W hr0;rw [←hzip] at hA;refine wpIn_mono hA fun e a1 w1 ⟨σ1,q1,μ1,X1,hg1,hr2⟩=> ?_
    cases e <;>simp only [zF] at q1
    simp only [Exit.then];obtain ⟨t1,d1⟩:=a1;obtain ⟨c1,c2,c3,c4⟩:=hr2.df.kp l _ rfl;refine ⟨_,run_beginRound c1 (by rw [hrec]), ?_⟩;have hr3:=(hr2.rekp none fun D o h=>by cases h)
    have hr3:=hr3.obj (o':= .loop {rec .ready none with state:= .busy}) (ds':=d1) c1 rfl c2 (.inr (.inr rfl)) ⟨hr3.df.sp,hr3.df.ok,g8 hok hr2.df.jr hr2.mine _,fun d hd=>(by
     obtain ⟨D,e1,e2,e3,e4,e5⟩:=hr3.df.marks d hd;exact ⟨D,e1,(World.putObj_heap_other (by rintro rfl;rw [c1] at e2;cases e2)).trans e2,e3,e4,e5⟩),hr3.df.apart,hr3.df.nm,hr3.df.xy,(fun D o h=>by cases h),hr3.df.cx⟩
    have hr3:=hr3.rekp (some (l, .loop {rec .ready none with state:= .busy})) fun D o h=>by
     injection h with h;injection h with e1 e2;subst e1 e2
     exact ⟨World.putObj_heap_same (Array.getElem?_eq_some_iff.1 c1).1,c2,c3,c4⟩
    refine wpIn_mono (q1 _ μ1 _ _ hr3) fun e a3 w3 ⟨σ3,q3,μ3,X3,hg3,hr4⟩=> ?_
    have key: ∀(σ4:St) (jump:Option Code),Tells σ3 σ4→LeS (s1.map (fgs (fgk (Hs y).length σ4.fg))) s1→(σ4.fg.all fun i=>Nat.ble σ.nb.n i)=true→
     (((!jump.isNone)=false∧σ4.H=Hs (y+1)∧σ4.nb.y=ys (y+1)∧σ4.nb.stop=σ.nb.stop∧jump=none)∨((!jump.isNone)=true∧ ∃e c,zii e c∧Q e ⟨s1,σ4.H,σ.fg,⟨σ.nb.n,σ4.nb.y,σ4.nb.stop,σ.nb.sp,false⟩⟩∧jump=some c))→
     ∃v w',(Instr.endRound l jump).run P w3= .ok v w'∧ ∃(t:Bool) (C':Nat→Prop),Ending.returned v= .returned (.bool t)∧J (y+1) (!t) (fun b=>F'.1 b∨C' b,C') O w'∧(∀b,F'.2 b→C' b)∧(∀b,C' b→(F'.2 b∨W.heap.size≤b)∧b<w'.heap.size)∧zhb F'.2 W w':=by
     intro σ4 jump ht hs4 hfg4 hcas;obtain ⟨μ4,hr5⟩:=ht P _ μ3 a3 w3 hr4;obtain ⟨d1,d2,d3,d4⟩:=hr5.df.kp l _ rfl;have hgg:Grows (Kj B ds l F O μc (Hs y) W (some (l, .loop {rec .ready none with state:= .busy}))) X3:=⟨fun b hb=>hg3.le b (hg1.le b hb),fun b hb=>(hg3.new b hb).elim (fun h=>hg1.new b h) .inr,fun b hb=>hg3.cle b (hg1.cle b hb),fun b hb=>(hg3.cnew b hb).elim (fun h=>hg1.cnew b h) .inr⟩
     have hm5:=h.mid.done hok h.hO (rc0:= .loop (rec .ready none)) ⟨_,j10⟩ (rc:= .loop {rec .ready none with state:= .busy}) (G:=X3) hr5 hgg hs4 hfg4;have hws:W.heap.size≤w3.heap.size:=hr5.chg.size
     have hin: ∀b,ZM μ4 b→ZM μc b∨W.heap.size≤b:=fun b ⟨i,m,hi⟩=>(hr5.ext i b m hi).imp (fun ⟨j,m',hj⟩=>⟨j,m',hj⟩) id
     have hX3: ∀b,X3.2 b→F.2 b∨W.heap.size≤b:=fun b hb=>hgg.cnew b hb
     have hOlt: ∀b,O b→b<W.heap.size:=fun b hb=>h.mid.hr.xlt b (.inr hb)
     have hO5: ∀b,O b→ ¬X3.2 b∧ ¬ZM μ4 b∧b≠l∧B.w.heap.size≤b:=fun b hb=>by
      have h5:=h.hO b hb;have h6:=hOlt b hb;exact ⟨fun hx=>(hX3 b hx).elim h5.1 fun h=>by omega,fun hx=>(hin b hx).elim h5.2.1 fun h=>by omega,h5.2.2⟩
     have hm6:=hm5.shrink hok hO5 fun b hb hx=>(h.og b hb).2.2 (h.mid.gr.le b hx)
     have hm7:=hm6.put hok hO5 d1 (.loop {rec .ready none with state:=(if jump.isNone then .ready else .done),pending:=jump});have hl3:=(Array.getElem?_eq_some_iff.1 d1).1
     refine ⟨_,_,run_endRound jump d1,jump.isNone,fun b=>F'.2 b∨ZM μ4 b∨X3.2 b∨(W.heap.size≤b∧X3.1 b),rfl,⟨(fun b=>X3.1 b∧ ¬O b,X3.2),μ4,σ4.H,σ4.nb.y,σ4.nb.stop,fun b hb=>⟨(h.og b hb).1,fun hc=> ?_,fun hx=>hx.2 hb⟩, .inl h.zl,fun b hb=> ?_,fun b hb=> .inr (.inr (.inl hb)),fun b hb=> ?_,fun b hb=> .inr (.inl hb),fun b hb=> .inr (.inr (.inl hb)),⟨by have:=h.n1.1;simp;omega,h.n1.2⟩,hm7, ?_⟩,fun b hb=> .inl hb,fun b hb=> ?_, ?_⟩
     ·have h5:=hO5 b hb;have h6:=hOlt b hb;rcases hc with hc|hc|hc|hc
      ·exact (h.og b hb).2.1 hc
      ·exact h5.2.1 hc
      ·exact h5.1 hc
      ·omega
     ·simp only [World.putObj_size];rcases hb with hb|⟨i,m,hi⟩|hb|hb
      ·have:=h.zs b hb;omega
      ·exact (hr5.H.lt i b m hi).1
      ·exact hr5.H.xlt b (hr5.df.cx b hb)
      ·exact hr5.H.xlt b hb.2
     ·rcases hgg.new b hb.1 with (h5|h5)|h5
      ·exact .inl (h.f1 b h5)
      ·exact (hb.2 h5).elim
      ·exact .inr (.inr (.inr (.inr ⟨h5,hb.1⟩)))
     ·have hh:(w3.putObj l (.loop {rec .ready none with state:=(if jump.isNone then .ready else .done),pending:=jump})).heap[l]?=some (.loop {rec .ready none with state:=(if jump.isNone then .ready else .done),pending:=jump}):=World.putObj_heap_same hl3
      rcases hcas with ⟨e0,e1,e2,e3,rfl⟩|⟨e0,e,c,hj,hq,rfl⟩
      ·exact .inl ⟨e0,e1,e2,e3,hh.trans (by rw [hrec];rfl)⟩
      ·exact .inr ⟨e0,e,c,hj,hq,hh.trans (by rw [hrec];rfl)⟩
     ·simp only [World.putObj_size];rcases hb with hb|hb|hb|hb
      ·exact ⟨.inl hb,by have:=h.zs b hb;omega⟩
      ·obtain ⟨i,m,hi⟩:=hb;exact ⟨(hin b ⟨i,m,hi⟩).imp (h.mz b) id,(hr5.H.lt i b m hi).1⟩
      ·exact ⟨(hX3 b hb).imp (h.f2 b) id,hr5.H.xlt b (hr5.df.cx b hb)⟩
      ·exact ⟨.inr hb.1,hr5.H.xlt b hb.2⟩
     ·refine ⟨hr5.chg.os,hr5.chg.tape,hr5.chg.output,by simpa using hws,fun k hk hz=> ?_⟩;have hkl:k≠l:=by rintro rfl;exact hz h.zl
      exact (World.putObj_heap_other hkl).trans (hr5.chg.block k hk (fun i m hi=>hz (h.mz k ⟨i,m,hi⟩)) fun h5=>h5.elim (fun h5=>hz (h.f2 k h5)) hkl)
    cases e <;>simp only [uk] at q3 <;>simp only [roundPost]
    ·obtain ⟨σ4,ht,hH4,hs4,hfg4,hy4,hst4⟩:=q3;exact key σ4 none ht hs4 hfg4 (.inl ⟨rfl,hH4,hy4,hst4,rfl⟩)
    ·obtain ⟨σ4,ht,hs4,hfg4,hq⟩:=q3;exact key σ4 _ ht hs4 hfg4 (.inr ⟨rfl,_,_, .inr ⟨_,rfl,rfl⟩,hq,rfl⟩)
    ·obtain ⟨σ4,ht,hs4,hfg4,hq⟩:=q3;exact key σ4 _ ht hs4 hfg4 (.inr ⟨rfl,_,_, .inl ⟨rfl,rfl⟩,hq,rfl⟩)
  have hargs:RVs (OO X2 Hi μi) W1 μi lb' us:=by
   have h5:=hsp.cap us ⟨h3,h4⟩;exact ⟨h5.1,fun j x v hx hv=>(h5.2 j x v hx hv).mono hooi hnx _ fun _ _ h=>h⟩
  have hX2: ∀b,X2 b→b<W1.heap.size:=fun b hb=>by
   rcases hb with (h|h|h)|h
   ·have:=hr.H.xlt b h;omega
   ·omega
   ·omega
   ·have:=hm1' b h;omega
  have hHi:HRel μi X2 Hi W1:=⟨hsp.hi.dom,hsp.hi.inj,fun i b m hi=>⟨by have:=(hsp.hi.lt i b m hi).1;omega,fun hx=>(hsp.hi.lt i b m hi).2 (hx.imp (hF0 b (hsp.hi.lt i b m hi).1) id)⟩,fun i o hi hst=>(hsp.hi.obj i o hi hst).mono hooi hnx (fun _ _ h=>h) fun b m hb=>hbel.block b (hsp.hi.lt i b m hb).1,hX2,hsp.hi.gl.step (by omega) (fun b hb _ _=>hbel.block b hb) (fun b hb=>(by
   rcases hb with (h|h|h)|h
   ·exact .inl (.inl h)
   ·exact .inr (.inr (by omega))
   ·exact .inr (.inr (by omega))
   ·exact .inl (.inr h))) fun i b m hi=> .inl ⟨i,m,hi⟩,hsp.hi.mp.mono hooi hnx fun i o hi _=>⟨i,o,hi, .refl o,fun _ h=>h,fun b m hb=>hbel.block b (hsp.hi.lt i b m hb).1⟩⟩
  have hcall:=hit (⟨W1,X2,μi,Hi,X2,some (l,xs,n),J,none,X2⟩:Base P) l us rfl rfl rfl rfl rfl hok2
   ⟨F0,μ1,Hs 0,ys 0,σ.nb.stop,fun b h=>⟨hsp.kn b h,fun hx=> ?_,fun hx=> ?_⟩, .inl (.inr (.inr rfl)),hX2,fun b h=> .inl (.inl (hr.df.cx b h)),fun b h=> .inl h,fun b h=> .inr h,fun b h=> .inr h,⟨by show B.w.heap.size≤W1.heap.size;omega,Nat.le_refl _⟩,hm1, .inl ⟨rfl,rfl,rfl,rfl,hL1⟩⟩
   hHi hargs
  rotate_left
  ·rcases hx with (h'|h'|h')|h'
   ·exact hmx b (hsp.ki b h) h'
   ·have:=hmi b h;omega
   ·have:=hmi b h;omega
   ·exact hsp.kd b h' h
  ·rcases hx with h'|h'|h'
   ·exact hmx b (hsp.ki b h) h'
   ·have:=hmi b h;omega
   ·have:=hmi b h;omega
  refine hcall.mono fun e w' he=> ?_
  obtain ⟨v,y,t,X',rfl,⟨F,μc,Hc,y',st',h⟩,k2⟩:=he
  have hfin: ∀{st0:LoopState} {pe:Option Code},w'.heap[l]?=some (.loop (rec st0 pe))→SRel (B.at_ F) μc ⟨s1,Hc,σ.fg,⟨σ.nb.n,y',st',σ.nb.sp,false⟩⟩ {tmps:=a.tmps,defers:=ds} (w'.putObj l (.loop {rec st0 pe with state:= .exhausted})):=fun {st0 pe} hw=>by
   rw [hr.df.sp];exact (h.mid.put hok h.hO hw _).srel hok hsz1 hr.nb hap
  rcases h.cas with ⟨ht,hHc,hy',hst',hw⟩|⟨ht,e,c,hj,hq,hw⟩
  ·obtain rfl:=k2 ht;refine ⟨none,_,by have:=run_endLoop (P:=P) hw (by rw [hrec];simp);rw [hrec] at this;exact this, ?_⟩;have:=hfin hw
   subst hHc hy' hst';rw [hds,hrec] at this;exact ⟨_,next,μc,F,h.mid.gr,this⟩
  ·refine ⟨some c,_,by have:=run_endLoop (P:=P) hw (by rw [hrec];simp);rw [hrec] at this;exact this, ?_⟩;have:=hfin hw
   rw [hds,hrec] at this;rcases hj with ⟨rfl,rfl⟩|⟨id,rfl,rfl⟩
   ·exact wpIn_ret ⟨_,hq,μc,F,h.mid.gr,this⟩
   ·exact wpIn_exit ⟨_,hq,μc,F,h.mid.gr,this⟩
theorem Kt (hlive:live σ.H=true) {lb:List AV} (hlb:lb.all (zB 4)=true):tW σ σ.s σ.H [] lb lb:=⟨rfl,fun P B μ a w hr=>by
 have hX:(fun b=>B.X b∨ZM noMu b)=B.X:=funext fun b=>propext ⟨fun h=>h.elim id fun ⟨i,m,h⟩=>(by cases h), .inl⟩
 refine ⟨μ,noMu,fun _ h=>h,fun _ ⟨i,m,h⟩=>(by cases h),fun _ _ ⟨i,m,h⟩=>(by cases h),fun _ ⟨i,m,h⟩=>(by cases h),by rw [hX];exact hr.H,⟨fun i l h=>(by cases h),fun i j b m m' h=>(by cases h),fun i b m h=>(by cases h),fun i o h=>(by simp at h),fun b hb=>hb.elim (hr.H.xlt b) fun ⟨i,m,h⟩=>(hr.H.lt i b m h).1,hr.H.gl.step (Nat.le_refl _) (fun _ _ _ _=>rfl) (fun b hb=>hb.elim .inl fun ⟨i,m,h⟩=> .inr (.inl ⟨i,m,h⟩)) fun i b m h=>(by cases h), .none fun o h=>(by cases h)⟩,by rw [hX];exact hr.slot,fun us hv=>⟨hv.1,fun j x v hx hu=> ?_⟩,by rw [hX];exact hr.pres,hr.le⟩;exact (Yd 4 (List.all_eq_true.1 hlb x (List.mem_of_getElem? hx)) (hv.2 j x v hx hu)).mono (fun b _ hb=>hb.elim (fun h=>h.elim .inl fun h=>vL hlive hr.H h) fun ⟨i,o,m,h,_⟩=>(by simp at h)) (fun _ _ _=>rfl) _ fun _ _ h=>h⟩
theorem zbG {g:Operand} {ps:List Tmp} {assign body:Code} (hlive:live σ.H=true) {gf:FuncId} {lb:List AV} (hg:σ.ev g= .fn (.func gf) [] lb) (hgf:ze P gf) (hlb:lb.all (zB 4)=true)
 {xs:Nat→List AV} {n:Nat} (hit:QF P gf lb xs n) (hps: ∀i,i<n→(xs i).length=ps.length) (Hs:Nat→List zb) (ys:Nat→Nat) (h0:Hs 0=σ.H) (hy0:ys 0=σ.nb.y)
 (round: ∀i,i<n→ ∀L,AW P (some L) assign (zF (AW P (some L) body (uk σ (Hs i).length (Hs (i+1)) (ys (i+1)) Q)) (fun _ _=>False)) ⟨wP σ.s ps (xs i),Hs i,[],⟨(Hs i).length,ys i,σ.nb.stop,σ.nb.sp,true⟩⟩)
 (next:Q .normal ⟨σ.s,Hs n,σ.fg,⟨σ.nb.n,ys n,σ.nb.stop,σ.nb.sp,false⟩⟩):AW P none (.rangeFunc g ps.toArray assign body) Q σ:=
 XE (Kt hlive hlb) hg hgf hit hps Hs ys h0 hy0 round next
theorem HRel.selX {w:World} (hH:HRel μ X H w) (hlive:live H=true) {ks ks':List Nat} {H':List zb} (hs:Pk (idx ks) H ks=some H') (hnd:ks.Nodup) (hd: ∀k∈ks,k∉ks'):
 HRel (fun j=>(ks[j]?).bind μ) (fun b=>X b∨ZM (fun j=>(ks'[j]?).bind μ) b) H' w∧ ∀(ν ν':Mu) {a:AV} {v:Value},RV (OO X H μ) w ν a v→(∀i j l,idx ks i=some j→ν i=some l→ν' j=some l)→RV (OO (fun b=>X b∨ZM (fun j=>(ks'[j]?).bind μ) b) H' (fun j=>(ks[j]?).bind μ)) w ν' (ren (idx ks) 4 a) v:=by
 obtain ⟨s1,s2⟩:=PB hs
 have hmu: ∀{ks:List Nat} (j:Nat) (l:Loc),(ks[j]?).bind μ=some l→ ∃k,ks[j]?=some k∧μ k=some l:=fun j l hj=>by
  simp only [Option.bind_eq_some_iff] at hj;exact hj
 have hin: ∀{ks:List Nat} b,ZM (fun j=>(ks[j]?).bind μ) b→ZM μ b:=fun b ⟨i,m,hi⟩=>(let ⟨k,_,hk2⟩:=hmu _ _ hi;⟨k,m,hk2⟩)
 have hoo: ∀b,OO (fun b=>X b∨ZM (fun j=>(ks'[j]?).bind μ) b) H' (fun j=>(ks[j]?).bind μ) b→OO X H μ b:=by
  rintro b ((hx|hx)|⟨j,o',m,hj,hst,hm⟩)
  ·exact .inl hx
  ·exact vL hlive hH (hin b hx)
  ·exact vL hlive hH (hin b ⟨j,m,hm⟩)
 have hst0: ∀o∈H,o.st=0:=fun o ho=>Nat.eq_of_beq_eq_true (List.all_eq_true.1 hlive o ho)
 refine ⟨⟨fun j l hj=> ?_,fun i j b m m2 hi hj=> ?_,fun i b m hi=> ?_,fun j o' hj hst=> ?_,fun b hb=>hb.elim (hH.xlt b) fun h=>(let ⟨i,m,hi⟩:=hin b h;(hH.lt i b m hi).1),hH.gl.step (Nat.le_refl _) (fun _ _ _ _=>rfl) (fun b hb=>hb.imp id fun h=> .inl (hin b h)) fun i b m hi=> .inl (hin b ⟨i,m,hi⟩), .none fun o ho=> ?_⟩,fun ν ν' a v hr hn=>Vl hn (fun b _ hb=>hoo b hb) (fun _ _ _=>rfl) 4 hr⟩
 ·obtain ⟨k,hk1,_⟩:=hmu _ _ hj;rw [s1];exact (List.getElem?_eq_some_iff.1 hk1).1
 ·obtain ⟨k,hk1,hk2⟩:=hmu _ _ hi;obtain ⟨k',hk1',hk2'⟩:=hmu _ _ hj;have:=hH.inj k k' b m m2 hk2 hk2'
  subst this;have h1:=List.getElem?_eq_some_iff.1 hk1;have h2:=List.getElem?_eq_some_iff.1 hk1';have hp:=List.pairwise_iff_getElem.1 hnd;rcases Nat.lt_trichotomy i j with hlt|heq|hgt
  ·exact (hp i j h1.1 h2.1 hlt (by rw [h1.2,h2.2])).elim
  ·exact heq
  ·exact (hp j i h2.1 h1.1 hgt (by rw [h1.2,h2.2])).elim
 ·obtain ⟨k,hk1,hk2⟩:=hmu _ _ hi;refine ⟨(hH.lt k b m hk2).1,fun hx=>hx.elim (hH.lt k b m hk2).2 fun ⟨i',m',h'⟩=> ?_⟩;obtain ⟨k',hk1',hk2'⟩:=hmu _ _ h';have:=hH.inj k k' b m m' hk2 hk2'
  subst this;exact hd k (List.mem_of_getElem? hk1) (List.mem_of_getElem? hk1')
 ·obtain ⟨k,o,hk,ho,rfl⟩:=s2 j o' hj;have hat:=hH.obj k o ho (by rw [hst0 o (List.mem_of_getElem? ho)];decide);exact Jz (fun i j l hi hm=>by simp [p9 hi,hm]) (fun b _ hb=>hoo b hb) (fun _ _ _=>rfl) hat (fun l hl=>by simp [hk,hl]) fun _ _ _=>rfl
 ·obtain ⟨j,hj⟩:=List.mem_iff_getElem?.1 ho;obtain ⟨k,o1,hk,ho1,rfl⟩:=s2 j o hj;rw [(YX (idx ks) o1).1,hst0 o1 (List.mem_of_getElem? ho1)];decide
theorem Wq (ks1 ks2:List Nat) {lb:List AV} {H1 Hi:List zb} (h1:Pk (idx ks1) σ.H ks1=some H1) (h2:Pk (idx ks2) σ.H ks2=some Hi) (hk:(ks1++ks2).Nodup) (hn:σ.nb.n=0) (hlive:live σ.H=true):
 tW σ (σ.s.map (ren (idx ks1) 4)) H1 Hi lb (lb.map (ren (idx ks2) 4)):=⟨by simp,fun P B μ a w hr=>by
 obtain ⟨n1,n2,n3⟩:=List.nodup_append.1 hk;obtain ⟨g1,g2⟩:=hr.H.selX hlive h1 n1 (ks':=ks2) fun k hk hk'=>n3 k hk k hk' rfl
 obtain ⟨g3,g4⟩:=hr.H.selX hlive h2 n2 (ks':=ks1) fun k hk hk'=>n3 k hk' k hk rfl
 have hin: ∀{ks:List Nat} b,ZM (fun j=>(ks[j]?).bind μ) b→ZM μ b:=fun b ⟨i,m,hi⟩=>by
  simp only [Option.bind_eq_some_iff] at hi;obtain ⟨k,_,hk⟩:=hi;exact ⟨k,m,hk⟩
 have hren: ∀{ks:List Nat} (i j:Nat) (l:Loc),idx ks i=some j→μ i=some l→(ks[j]?).bind μ=some l:=fun i j l hi hm=>by simp [p9 hi,hm]
 refine ⟨_,_,hin,hin,fun b hb hb'=> ?_,fun b hb=> ?_,g1,g3,fun k x v hx hv=> ?_,fun us hv=>⟨by simpa using hv.1,fun j x v hx hu=> ?_⟩,fun k x v hk hx=> ?_,by rw [hn];exact Nat.zero_le _⟩
 ·obtain ⟨i,m,hi⟩:=hb;obtain ⟨i',m',hi'⟩:=hb';simp only [Option.bind_eq_some_iff] at hi hi';obtain ⟨k,hk1,hk2⟩:=hi;obtain ⟨k',hk1',hk2'⟩:=hi';have:=hr.H.inj k k' b m m' hk2 hk2'
  exact n3 k (List.mem_of_getElem? hk1) k' (List.mem_of_getElem? hk1') this
 ·obtain ⟨i,m,hi⟩:=hin b hb;rcases hr.ext i b m hi with ⟨j,m',hj⟩|h
  ·have:=hr.df.ok.dm j _ hj
   have:=hr.nb
   omega
  ·exact h
 ·simp only [List.getElem?_map,Option.map_eq_some_iff] at hx;obtain ⟨y,hy,rfl⟩:=hx;exact g2 _ _ (hr.slot k y v hy hv) hren
 ·simp only [List.getElem?_map,Option.map_eq_some_iff] at hx;obtain ⟨y,hy,rfl⟩:=hx;exact g4 _ _ (hv.2 j y v hy hu) hren
 ·have h5:=hr.pres k x v hk hx;have h6:k=0:=by omega
  subst h6;refine h5.mono (fun b _ hb=> ?_) (fun _ _ _=>rfl) _ fun i l hi=> ?_
  ·rcases hb with (hx|hx)|⟨j,o',m,hj,hst,hm⟩
   ·exact .inl hx
   ·exact vL hlive hr.H (hin b hx)
   ·exact vL hlive hr.H (hin b ⟨j,m,hm⟩)
  ·simp [upto] at hi⟩
def zo (s:List AV) (k0 k:Nat) (H':List zb):Exit→St→Prop
 | .normal,σ'=> ∃σ'',Tells σ' σ''∧σ''.H=H'∧LeS (s.map (fgs (fgk k σ''.fg))) s∧(σ''.fg.all fun i=>Nat.ble k0 i)=true∧σ''.nb.y=0∧σ''.nb.stop=false
 |_,_=>False
theorem zcV {g:Operand} {ps:List Tmp} {assign body:Code} (hsp:(σ.nb.y,σ.nb.stop,σ.nb.sp)=(0,false,none)) (hlive:live σ.H=true) {gf:FuncId} {lb:List AV} (hg:σ.ev g= .fn (.func gf) [] lb) (hgf:ze P gf) (hlb:lb.all (zB 4)=true)
 {xs:Nat→List AV} {n:Nat} (hit:QF P gf lb xs n) (hps: ∀i,i<n→(xs i).length=ps.length) (Hs:Nat→List zb) (h0:Hs 0=σ.H)
 (round: ∀i,i<n→ ∀L,AW P (some L) assign (zF (AW P (some L) body (zo σ.s σ.nb.n (Hs i).length (Hs (i+1)))) (fun _ _=>False)) ⟨wP σ.s ps (xs i),Hs i,[],⟨(Hs i).length,0,false,none,true⟩⟩)
 (next:Q .normal ⟨σ.s,Hs n,σ.fg,⟨σ.nb.n,σ.nb.y,σ.nb.stop,σ.nb.sp,false⟩⟩):AW P none (.rangeFunc g ps.toArray assign body) Q σ:=by
 obtain ⟨s,H0,fg,n0,y0,st0,sp0,nm0⟩:=σ;injection hsp with e1 e2
 injection e2 with e2 e3
 simp only at e1 e2 e3;subst e1 e2 e3;refine zbG hlive hg hgf hlb hit hps Hs (fun _=>0) h0 rfl (fun i hi L=> ?_) next;refine ky (round i hi L) fun e σ' h=>⟨σ', .refl _, ?_⟩
 cases e <;>simp only [zF] at h ⊢
 refine ky h fun e σ' h=>⟨σ', .refl _, ?_⟩
 cases e <;>simp only [zo] at h
 obtain ⟨σ'',h1,h2,h3,h4,h5,h6⟩:=h;exact ⟨σ'',h1,h2,h3,h4,h5,h6⟩
end
section
variable {P:Program} {X:Nat→Prop} {H H':List zb} {μ μ':Mu} {w w':World} {O O':Nat→Prop}
theorem Ph {α:Type} {d:Kd α}: ∀{xs:List α} {cs:List Value},Reps d w O xs cs→cs.length=xs.length*d.sz∧ ∀(k:Nat) x,xs[k]?=some x→ ∃c,d.rel w O x c∧ ∀j,j<d.sz→cs[k*d.sz+j]?=c[j]?
 |[],cs,h=>by
  have:cs=[]:=h
  subst this;exact ⟨by simp,fun k x h=>by simp at h⟩
 |x::xs,cs,h=>by
  obtain ⟨c,r,rfl,h1,h2⟩:=h;obtain ⟨g1,g2⟩:=Ph h2;have hl:=d.len h1;refine ⟨by simp [hl,g1,Nat.add_mul,Nat.add_comm],fun k y hk=> ?_⟩;cases k with
  |zero=>
   simp at hk;subst hk
   exact ⟨c,h1,fun j hj=>by rw [List.getElem?_append_left (by omega)];simp⟩
  |succ k=>
   obtain ⟨c',e1,e2⟩:=g2 k y (by simpa using hk);refine ⟨c',e1,fun j hj=> ?_⟩;rw [List.getElem?_append_right (by rw [Nat.add_mul];omega),←e2 j hj];congr 1
   rw [Nat.add_mul];omega
theorem T3 {α:Type} {d:Kd α}: ∀{xs:List α} {cs:List Value},Reps d w O xs cs→ ∀u∈cs,u.oneCell'=true
 |[],cs,h,u,hu=>by
  have:cs=[]:=h
  subst this;cases hu
 |x::xs,cs,h,u,hu=>by
  obtain ⟨c,r,rfl,h1,h2⟩:=h;rcases List.mem_append.1 hu with h|h
  ·exact d.one h1 u h
  ·exact T3 h2 u h
theorem zb_ {a:Addr} {u:Value} (h:w.cell? a=some u):a.spot=none:=by
 unfold World.cell? at h;split at h
 ·cases hs:a.spot with
  |none=>rfl
  |some s=>rw [hs] at h;simp at h
 ·cases h
theorem U2 {α:Type} {d:Kd α} {enc:α→List AV} (z:α) (he: ∀x cs,d.rel w O x cs→RVs O w noMu (enc x) cs) (hl: ∀x,(enc x).length=d.sz) (hz:0<d.sz) {v:Value} {xs:List α} (h:Sl d w O v xs):
 RV O w μ (.sl d.sz xs.length false fun k=>enc (xs.getD k z)) v:=by
 obtain ⟨A,c,rfl,h1,h2,h3⟩:=h;by_cases hx:xs=[]
 ·subst hx;exact .sl (vs:=[]) (by simp) h1 h2 (fun h=>by cases h) (by simp) (fun k hk=>by simp at hk) (fun k j a v hk=>by simp at hk) hz fun h=>(h rfl).elim
 ·obtain ⟨a,cs,rfl,h4,h5,h6⟩:=h3 hx;obtain ⟨g1,g2⟩:=Ph h5;refine .sl (vs:=cs) (T3 h5) h1 h2 (fun h=>by cases h) g1 (fun k hk=>hl _) (fun k j a v hk ha hv=> ?_) hz fun _=> ?_
  ·obtain ⟨c',e1,e2⟩:=g2 k _ (List.getElem?_eq_getElem hk);have hj:j<d.sz:=by rw [←hl (xs.getD k z)];exact (List.getElem?_eq_some_iff.1 ha).1
   rw [e2 j hj] at hv;have:xs.getD k z=xs[k]:=by simp [List.getD_eq_getElem?_getD,hk]
   rw [this] at ha;exact (he _ _ e1).2 j a v ha hv
  ·have hlen:0<cs.length:=by
    rw [g1];exact Nat.mul_pos (List.length_pos_iff.2 hx) hz
   have h0:=h6 0 _ (List.getElem?_eq_getElem hlen);have hs:=zb_ h0
   have ha:a=⟨a.block,a.off,none⟩:=by
    simp only [Addr.add,if_pos] at hs;cases a;simp_all
   refine ⟨a.block,a.off,by rw [←ha],h4,fun j u hu=> ?_⟩;have:=h6 j u hu
   unfold Addr.add at this;split at this
   ·rename_i hj;subst hj;rw [ha] at this;exact this
   ·exact this
theorem run_apure {f:FuncId} {args:List AV} {N:List zb} {v:Value} (h:APure P f args (.lit v) N) (hgl:GlobOk (fun _=>False) noMu w) {vs:List Value} (hv:RVs (fun _=>False) w noMu args vs):Calls P f vs.toArray w fun e w'=>e= .returned v∧Below w.heap.size w w':=by
 refine (h w (fun _=>False) noMu vs ⟨fun i l h=>(by cases h),fun i j b m m' h=>(by cases h),fun i b m h=>(by cases h),fun i o h=>(by simp at h),fun b h=>h.elim,hgl, .none fun o h=>(by cases h)⟩ ⟨hv.1,fun j a v ha hu=>(hv.2 j a v ha hu).mono (fun b _ hb=>hb.elim id fun ⟨i,o,m,hi,_⟩=>(by simp at hi)) (fun _ _ _=>rfl) _ fun _ _ h=>h⟩).mono fun e w' he=> ?_
 obtain ⟨u,r',H1,fg1,μ1,rfl,⟨rfl,rfl⟩,g1,g2,g3,g4,_,_⟩:=he;cases g2
 exact ⟨rfl,g3.below⟩
theorem LeS.setn: ∀{s:List AV} {t:Nat} {x y:AV},nth s t=some x→AV.Le x y→LeS s (setn s t y)
 |[],t,x,y,h,_=>by simp [nth] at h
 |a::s,0,x,y,h,hl=>by simp only [nth] at h;injection h with h;subst h;exact .cons hl (.refl _)
 |a::s,t+1,x,y,h,hl=> .cons (.refl _) (LeS.setn (s:=s) (t:=t) h hl)
theorem Tells.slot (t:Nat) (y:AV) {s:List AV} {H:List zb} {fg:List Nat} {nb:YB} {x:AV} (h:nth s t=some x) (hl:AV.Le x y):Tells ⟨s,H,fg,nb⟩ ⟨setn s t y,H,fg,nb⟩:=Tells.le (LeS.setn h hl) (.refl _)
theorem gi {P:Program} {r:Option Nat} {Q:Exit→St→Prop} {c:Code} {ι:Type} {s:List AV} {H0:List zb} {fg:List Nat} {nb:YB} (ws:List Nat) (g:ι→List (Nat×AV)) (Hs:ι→List zb) (nbs:ι→YB) (m:ι→Nat) (i0:ι) (h0:Tells ⟨s,H0,fg,nb⟩ (lst s fg (nbs i0) ws (g i0) (Hs i0)))
 (round: ∀i,AW P r c (zF (fun σ'=> ∃j,m j<m i∧Tells σ' (lst s fg (nbs j) ws (g j) (Hs j))) Q) (lst s fg (nbs i) ws (g i) (Hs i))):AW P r (.loop c) Q ⟨s,H0,fg,nb⟩:=
 H3 (fun i=>lst s fg (nbs i) ws (g i) (Hs i)) m i0 h0 round
theorem zin {n:Nat} {σ:St} (h:σ.nb.stop=false→σ.nb.y=n):zt n .normal σ∧zt n .ret σ:=⟨h,h⟩
theorem qL {s:List AV} {k0 k:Nat} {H':List zb} {σ':St} (σ'':St) (ht:Tells σ' σ'') (hH:σ''.H=H') (hs:LeS (s.map (fgs (fgk k σ''.fg))) s) (hf:(σ''.fg.all fun i=>Nat.ble k0 i)=true) (hn:σ''.nb.y=0∧σ''.nb.stop=false:=by exact ⟨rfl,rfl⟩):zo s k0 k H' .normal σ':=⟨σ'',ht,hH,hs,hf,hn⟩
theorem wg {n:St→Prop} {Q:Exit→St→Prop} {σ:St} (h:n σ):zF n Q .normal σ:=h
theorem qo {tab:Tab} {r:Option Nat} {l R:List Oper} {Q:Exit→St→Prop} {σ:St} {o:Oper} (hT:zI P tab) (hw:zS l σ o=some true) {x:AV} (h: ∃q,Xh tab σ.H σ.ev o.op=some (q,x)∧q) (next:AL P r l Q R (σ.put o.dst x)):AL P r l Q (o::R) σ:=by
 obtain ⟨q,h,hq⟩:=h;exact Yk hT hw h hq next
end
section
variable {P:Program} {tab:Tab} {r:Option Nat} {Q:Exit→St→Prop}
def PK:Op→Bool
 | .extract _ _=>true
 | .move _=>true
 | .assign _=>true
 |_=>false
theorem zcR {ρ:Operand→Value} {o:Oper} (h:PK o.op=true) {w:World} {R:Value→World→Prop} (hs:StepOk P (execOp ρ o) w R): ∃v,(∀w',(execOp ρ o).run P w'= .ok (.value v) w')∧R v w:=by
 unfold StepOk at hs;cases ho:o.op <;>rw [ho] at h <;>first|cases h|skip
 ·rename_i x;have e: ∀w',(execOp ρ o).run P w'= .ok (.value (ρ x)) w':=fun w'=>by unfold execOp;rw [ho];rfl
  rw [e] at hs;exact ⟨_,e,hs⟩
 ·rename_i x;have e: ∀w',(execOp ρ o).run P w'= .ok (.value (ρ x)) w':=fun w'=>by unfold execOp;rw [ho];rfl
  rw [e] at hs;exact ⟨_,e,hs⟩
 ·rename_i x k;have e: ∀w',(execOp ρ o).run P w'=(do pure (.value (←Instr.extract (ρ x) k)):Sem Next).run P w':=fun w'=>by unfold execOp;rw [ho]
  rw [e] at hs
  have tup: ∃vs v,ρ x= .tuple vs∧vs[k]?=some v:=by
   unfold Instr.extract at hs
   cases hx:ρ x <;>rw [hx] at hs <;>first
    |(simp [stuck] at hs;done)
    |(rename_i vs
      cases hv:vs[k]? with
      |none=>simp [hv,stuck] at hs
      |some v=>exact ⟨vs,v,rfl,hv⟩)
  obtain ⟨vs,v,hx,hv⟩:=tup
  have e2: ∀w',(execOp ρ o).run P w'= .ok (.value v) w':=fun w'=>by
   rw [e];unfold Instr.extract;rw [hx];simp only [hv];rfl
  rw [←e,e2] at hs;exact ⟨v,e2,hs⟩
theorem gG {o:Oper} (h:PK o.op=true) (w:World) (ρ:Operand→Value):o.about P w ρ=none:=by
 unfold Oper.about;cases ho:o.op <;>rw [ho] at h <;>first|cases h|rfl
def tV (l:List Oper) (m j:Nat):Bool:=
 Nat.blt j m && match nth l j with
  |some o=>o.guard.isNone && PK o.op && (List.range l.length).all fun k=>k==j||match nth l k with
   |some ok=>ok.after.toList.any (fun e=>Region.binds .any e && e.on==j)||anc l.toArray j k||o.apart l.toArray ok
   |none=>false
  |none=>false
theorem KQ {l:List Oper} {m j:Nat} (h:tV l m j=true):j<m∧ ∃o,l[j]?=some o∧o.guard=none∧PK o.op=true∧
 ∀(k:Nat) ok,l[k]?=some ok→k≠j→(∃e∈ok.after,Region.binds .any e=true∧e.on=j)∨anc l.toArray j k=true∨o.apart l.toArray ok=true:=by
 unfold tV at h;rw [Bool.and_eq_true,Nat.blt_eq] at h;refine ⟨h.1, ?_⟩;have h2:=h.2;rw [zH] at h2;cases ho:l[j]? with
 |none=>rw [ho] at h2;cases h2
 |some o=>
  rw [ho] at h2;simp only [Bool.and_eq_true] at h2;refine ⟨o,rfl,by simpa using h2.1.1,h2.1.2,fun k ok hk hne=> ?_⟩;have hlt:=(List.getElem?_eq_some_iff.1 hk).1
  have:=List.all_eq_true.1 h2.2 k (List.mem_range.2 hlt)
  rw [zH,hk] at this;simp only [Bool.or_eq_true,beq_iff_eq] at this;rcases this with h|(h|h)|h
  ·exact absurd h hne
  ·obtain ⟨e,he,hb⟩:=List.any_eq_true.1 h;simp only [Bool.and_eq_true,beq_iff_eq] at hb;exact .inl ⟨e,by simpa using he,hb.1,hb.2⟩
  ·exact .inr (.inl h)
  ·exact .inr (.inr h)
structure OkL (l:List Oper) (m:Nat):Prop where
 tail: ∀i j,m≤i→i<l.length→j<i→anc l.toArray i j=true∨tV l m j=true
def G1 (ops:Array Oper) (m:Nat):Bool:=okS ops ops.size && decide (m≤ops.size)
theorem Qn {ops:Array Oper} {m:Nat} (h:G1 ops m=true):za2 ops m:=by
 unfold G1 at h;rw [Bool.and_eq_true,decide_eq_true_eq] at h;have:=js h.1
 exact ⟨this.lt,this.free,this.sel,h.2⟩
def zfi (l:List Oper) (m:Nat):Bool:=G1 l.toArray m && okP l m && (List.range l.length).all fun i=>Nat.blt i m||(List.range i).all fun j=>anc l.toArray i j||tV l m j
theorem zbg {l:List Oper} {m:Nat} (h:zfi l m=true):OkD l m∧OkL l m:=by
 unfold zfi at h;simp only [Bool.and_eq_true] at h;refine ⟨KX (Qn h.1.1) h.1.2,⟨fun i j hi hl hj=> ?_⟩⟩;have:=List.all_eq_true.1 h.2 i (List.mem_range.2 hl)
 rw [Bool.or_eq_true,Nat.blt_eq] at this;rcases this with h|h
 ·omega
 ·have:=List.all_eq_true.1 h j (List.mem_range.2 hj)
  rwa [Bool.or_eq_true] at this
theorem zbw {l:List Oper} {m:Nat} {D:List (Oper×DR)} {σ:St} {B:Base P} (hL:OkL l m) (hq: ∀c σ,Q (.panic c) σ→False) (h:DOk l m D) (hnd:l.all qi=true) (hc: ∀k,k<m→HR P l σ D k)
 (ht:AL P none l Q (l.drop m) (σS σ D fun _=>true)): ∀(fuel:Nat) (listed:Array Bool) (a:Act) (w:World) (μ:Mu),listed.size=l.length→(∀i,listed.getD i false=true→ ∀j,anc l.toArray i j=true→listed.getD j false=true)→(∀j,m≤j→listed.getD j false=false)→
 ((List.range m).filter fun j=> !listed.getD j true).length+(l.length - m)≤fuel→SRel B μ (σS σ D fun j=>listed.getD j false) a w→Un μ σ.H.length D (fun j=>listed.getD j false)→
 wpAnyIn (fw none) 0 P .any l.toArray (Post B Q) fuel listed a w:=by
 have hml:m≤l.length:=by have:=h.ok.s.le;simpa using this
 have done: ∀{fuel:Nat} {listed:Array Bool} {a:Act} {w:World} {μ:Mu},listed.size=l.length→(∀j,m≤j→listed.getD j false=false)→((List.range m).filter fun j=> !listed.getD j true)=[]→l.length - m≤fuel→SRel B μ (σS σ D fun j=>listed.getD j false) a w→
  wpAnyIn (fw none) 0 P .any l.toArray (Post B Q) fuel listed a w:=by
  intro fuel listed a w μ hs htl hR hf hr
  have hall: ∀j,j<m→listed.getD j false=true:=fun j hj=>by
   have:=List.filter_eq_nil_iff.1 hR j (List.mem_range.2 hj)
   rw [←zN (by omega)];simpa using this
  have hsame:(σS σ D fun j=>listed.getD j false)=σS σ D fun _=>true:=by
   have key: ∀(D':List (Oper×DR)) (k:Nat),k+D'.length=m→(∀s,zk (fun j=>listed.getD j false) k D' s=zk (fun _=>true) k D' s)∧ym (fun j=>listed.getD j false) k D'=ym (fun _=>true) k D':=by
    intro D';induction D' with
    |nil=>intro k _;exact ⟨fun s=>rfl,rfl⟩
    |cons p D' ih=>
     intro k hk;simp only [List.length_cons] at hk;obtain ⟨i1,i2⟩:=ih (k+1) (by omega);exact ⟨fun s=>by simp only [zk];rw [i1,hall k (by omega)],by simp only [ym];rw [i2,hall k (by omega)]⟩
   obtain ⟨k1,k2⟩:=key D 0 (by rw [h.len];omega);unfold σS;rw [k1,k2]
  rw [hsame] at hr;refine Vb h.ok.s (fun i j hj hi hlt=>(hL.tail i j (by omega) (by simpa using hi) hlt).elim id fun hb=>by have:=(KQ hb).1;omega) fuel m listed a w (by simpa using hs) (fun j=> ?_) (Nat.le_refl _) (by simpa using hml) (by simpa using hf) (by simpa using ht B μ a w hr);by_cases hj:j<m
  ·rw [hall j hj];simp [hj]
  ·rw [htl j (by omega)];simp [hj]
 intro fuel;induction fuel with
 |zero=>
  intro listed a w μ hs hcl htl hf hr hun;exact done hs htl (List.eq_nil_of_length_eq_zero (by omega)) (by omega) hr
 |succ fuel ih=>
  intro listed a w μ hs hcl htl hf hr hun;by_cases hR:(List.range m).filter (fun j=> !listed.getD j true)=[]
  ·rw [hR] at hf;exact done hs htl hR (by simp at hf;omega) hr
  have hmem: ∀j,j∈(List.range m).filter (fun j=> !listed.getD j true)↔j<m∧listed.getD j true=false:=fun j=>by simp
  have hpw:((List.range m).filter fun j=> !listed.getD j true).Pairwise (· < ·):=List.Pairwise.filter _ List.pairwise_lt_range
  have hanc: ∀i,i∈Region.ready .any l.toArray listed→ ∀j,anc l.toArray i j=true→listed.getD j false=true:=by
   intro i hi j hj;obtain ⟨_,o,ho,ha⟩:=mem_ready.1 hi;obtain ⟨e,he,hb,hh⟩:=(Wl ho (h.ok.s.lt i o ho) j).1 hj;rcases hh with rfl|hh
   ·exact ha e he hb
   ·exact hcl _ (ha e he hb) j hh
  obtain ⟨i0,R0,hRe0⟩: ∃i R',(List.range m).filter (fun j=> !listed.getD j true)=i::R':=by
   cases hc':(List.range m).filter (fun j=> !listed.getD j true) with
   |nil=>exact absurd hc' hR
   |cons i R'=>exact ⟨i,R',rfl⟩
  have him0:=(hmem i0).1 (by rw [hRe0];simp)
  have hlow0: ∀j,j<i0→listed.getD j false=true:=by
   intro j hj;rw [←zN (by omega)];cases hc':listed.getD j true with
   |true=>rfl
   |false=>
    have:j∈i0::R0:=by rw [←hRe0];exact (hmem j).2 ⟨by omega,hc'⟩
    rw [hRe0,List.pairwise_cons] at hpw;rcases List.mem_cons.1 this with h1|h1
    ·omega
    ·have:=hpw.1 j h1;omega
  have hil0:i0<l.toArray.size:=by simp;omega
  have hrd0:i0∈Region.ready .any l.toArray listed:=by
   rw [mem_ready];exact ⟨him0.2,l.toArray[i0],Array.getElem?_eq_getElem hil0,fun e he hb=>hlow0 _ (h.ok.s.lt i0 _ (Array.getElem?_eq_getElem hil0) e he hb)⟩
  by_cases hlate:tV l m i0=true
  ·obtain ⟨_,o,hoo,hgd,hlo,hap⟩:=KQ hlate;have hDi:i0<D.length:=by rw [h.len];exact him0.1
   have hp:D[i0]?=some D[i0]:=List.getElem?_eq_getElem hDi
   have hoe:o=D[i0].1:=by
    have:=h.op i0 _ hp
    rw [hoo] at this;injection this
   have hS:listed.getD i0 false=false:=by rw [←zN (by omega)];exact him0.2
   have hw1: ∀S,zS l (σS σ D S) D[i0].1=some true:=fun S=>by unfold zS;rw [←hoe,hgd]
   rcases hc i0 him0.1 _ hp with ⟨_,hd⟩|⟨hw2,_⟩
   ·have hstep:=hd w B.X μ (σS σ D fun j=>listed.getD j false).H a.eval hr.H (fun i ob hi=>te i ob hi) (fun y hy=>by rw [←vP h hp hS (hanc i0 hrd0) y hy];exact hr.ev y);rw [←hoe] at hstep;obtain ⟨v,hv,hb,hres⟩:=zcR hlo hstep
    have hN:D[i0].2.N=none:=by
     cases hN:D[i0].2.N with
     |none=>rfl
     |some ob=>
      rw [hN] at hres;obtain ⟨b,mb,cur,e1,e2,_⟩:=hres;omega
    rw [hN] at hres
    have hset:(fun j=>(listed.setIfInBounds i0 true).getD j false)=add (fun j=>listed.getD j false) i0:=by
     funext j
     by_cases hj:i0=j
     ·subst hj;rw [Yr,Array.getD_eq_getD_getElem?,Array.getElem?_setIfInBounds_self,if_pos (by omega)];rfl
     ·rw [getD_set_ne _ hj,yA (Ne.symm hj)]
    have hy:YieldsFenced P l.toArray o v a:=⟨.inl ⟨by unfold Region.wanted;rw [hgd],hv⟩,fun w=>gG hlo w _⟩
    refine wpAnyIn_first (oi:=o) (v:=v) rfl (by simpa using hoo) (fun j o' cs b hj=>h.ok.s.sel j o' hj cs b) (fun c a' w' ⟨σ',h1,_⟩=>(hq c σ' h1).elim) fuel listed a w (fun j oj hj hne hls hno=> ?_) hrd0 hy ?_
    ·have:=hap j oj (by simpa using hj) hne
     rcases this with ⟨e,he,hb,hon⟩|han|hap
     ·exact (hno e he hb hon).elim
     ·have h1:=hanc i0 hrd0 j han;have hjl:j<l.toArray.size:=(Array.getElem?_eq_some_iff.1 hj).1
      rw [←zN (by simp at hjl;omega),hls] at h1;cases h1
     ·exact hap
    ·have hsr:=WC h hp hS hN hr hb (by rw [hN] at*;exact hres);rw [←hoe] at hsr
     refine ih _ _ w μ (by simpa using hs) ?_ ?_ ?_ (by rw [hset];exact hsr) (by
      rw [hset];intro k p ob hk hN' hs';refine hun k p ob hk hN' ?_;have:k≠i0:=by rintro rfl;rw [Yr] at hs';cases hs'
      rw [yA this] at hs';exact hs')
     ·intro k hk1 j hj;by_cases hkj:i0=j
      ·subst hkj;rw [Array.getD_eq_getD_getElem?,Array.getElem?_setIfInBounds_self,if_pos (by omega)];rfl
      ·rw [getD_set_ne _ hkj];by_cases hki:i0=k
       ·subst hki;exact hanc i0 hrd0 j hj
       ·rw [getD_set_ne _ hki] at hk1;exact hcl k hk1 j hj
     ·intro j hj;rw [getD_set_ne _ (by omega)];exact htl j hj
     ·obtain ⟨R1,R2,hsp⟩:=List.append_of_mem ((hmem i0).2 ⟨him0.1,him0.2⟩)
      have hfil:(List.range m).filter (fun j=> !(listed.setIfInBounds i0 true).getD j true)=R1++R2:=by
       rw [←qa hsp];congr 1
       funext j
       by_cases hj:i0=j
       ·subst hj;rw [Array.getD_eq_getD_getElem?,Array.getElem?_setIfInBounds_self,if_pos (by omega)];simp
       ·rw [getD_set_ne _ hj];have:(j !=i0)=true:=by simp;omega
        rw [this,Bool.true_and]
      rw [hfil];have:((List.range m).filter fun j=> !listed.getD j true).length=(R1++R2).length+1:=by rw [hsp];simp;omega
      omega
   ·rw [hw1] at hw2;cases hw2
  refine ⟨fun hrd=> ?_,fun i hi=> ?_⟩
  ·exfalso
   obtain ⟨i,R',hRe⟩: ∃i R',(List.range m).filter (fun j=> !listed.getD j true)=i::R':=by
    cases hc':(List.range m).filter (fun j=> !listed.getD j true) with
    |nil=>exact absurd hc' hR
    |cons i R'=>exact ⟨i,R',rfl⟩
   have him:=(hmem i).1 (by rw [hRe];simp)
   have hlow: ∀j,j<i→listed.getD j false=true:=by
    intro j hj;rw [←zN (by omega)];cases hc':listed.getD j true with
    |true=>rfl
    |false=>
     have:j∈i::R':=by rw [←hRe];exact (hmem j).2 ⟨by omega,hc'⟩
     rw [hRe,List.pairwise_cons] at hpw;rcases List.mem_cons.1 this with h1|h1
     ·omega
     ·have:=hpw.1 j h1;omega
   have hil:i<l.toArray.size:=by simp;omega
   have:i∈Region.ready .any l.toArray listed:=by
    rw [mem_ready];exact ⟨him.2,l.toArray[i],Array.getElem?_eq_getElem hil,fun e he hb=>hlow _ (h.ok.s.lt i _ (Array.getElem?_eq_getElem hil) e he hb)⟩
   rw [hrd] at this;cases this
  ·obtain ⟨h0,o,ho,_⟩:=mem_ready.1 hi;have hlt:=(Array.getElem?_eq_some_iff.1 ho).1
   have him:i<m:=by
    rcases Nat.lt_or_ge i m with h1|h1
    ·exact h1
    ·exfalso
     have:=hanc i hi i0 ((hL.tail i i0 h1 (by simpa using hlt) (by omega)).resolve_right hlate)
     rw [←zN (by omega),him0.2] at this;cases this
   have hS:listed.getD i false=false:=by rw [←zN (by omega)];exact h0
   have hDi:i<D.length:=by rw [h.len];exact him
   have hp:D[i]?=some D[i]:=List.getElem?_eq_getElem hDi
   have hop:=h.op i _ hp
   have hoe:o=D[i].1:=by
    simp only [List.getElem?_toArray] at ho;rw [hop] at ho;injection ho with ho;exact ho.symm
   have hset:(fun j=>(listed.setIfInBounds i true).getD j false)=add (fun j=>listed.getD j false) i:=by
    funext j
    by_cases hj:i=j
    ·subst hj;rw [Yr,Array.getD_eq_getD_getElem?,Array.getElem?_setIfInBounds_self,if_pos (by omega)];rfl
    ·rw [getD_set_ne _ hj,yA (Ne.symm hj)]
   have hnext: ∀(a':Act) (w':World) (μ':Mu),SRel B μ' (σS σ D (add (fun j=>listed.getD j false) i)) a' w'→Un μ' σ.H.length D (add (fun j=>listed.getD j false) i)→
    wpAnyIn (fw none) 0 P .any l.toArray (Post B Q) fuel (listed.setIfInBounds i true) a' w':=by
    intro a' w' μ' hr' hun';refine ih _ a' w' μ' (by simpa using hs) ?_ ?_ ?_ (by rw [hset];exact hr') (by rw [hset];exact hun')
    ·intro k hk1 j hj;by_cases hkj:i=j
     ·subst hkj;rw [Array.getD_eq_getD_getElem?,Array.getElem?_setIfInBounds_self,if_pos (by omega)];rfl
     ·rw [getD_set_ne _ hkj];by_cases hki:i=k
      ·subst hki;exact hanc i hi j hj
      ·rw [getD_set_ne _ hki] at hk1;exact hcl k hk1 j hj
    ·intro j hj;rw [getD_set_ne _ (by omega)];exact htl j hj
    ·obtain ⟨R1,R2,hsp⟩:=List.append_of_mem ((hmem i).2 ⟨him,h0⟩)
     have hfil:(List.range m).filter (fun j=> !(listed.setIfInBounds i true).getD j true)=R1++R2:=by
      rw [←qa hsp];congr 1
      funext j
      by_cases hj:i=j
      ·subst hj;rw [Array.getD_eq_getD_getElem?,Array.getElem?_setIfInBounds_self,if_pos (by omega)];simp
      ·rw [getD_set_ne _ hj];have:(j !=i)=true:=by simp;omega
       rw [this,Bool.true_and]
     rw [hfil];have:((List.range m).filter fun j=> !listed.getD j true).length=(R1++R2).length+1:=by rw [hsp];simp;omega
     omega
   unfold wpOpIn;rw [ho];simp only;have hw:=UG (σ:=σ) h hp hS (hanc i hi);rcases hc i him _ hp with ⟨hw1,hd⟩|⟨hw1,hd⟩
   ·rw [hw1] at hw;rw [hoe,if_pos (Y9 hw hr)]
    have hnd': ∀c,D[i].1.op≠ .defer c:=fun c hc'=>by
     have:=List.all_eq_true.1 hnd D[i].1 (List.mem_of_getElem? hop)
     unfold qi at this;rw [hc'] at this;cases this
    have hstep:=hd w B.X μ (σS σ D fun j=>listed.getD j false).H a.eval hr.H (fun i ob hi=>te i ob hi) (fun y hy=>by rw [←vP h hp hS (hanc i hi) y hy];exact hr.ev y);refine JX hnd' hstep fun u w' ⟨hb,hres⟩=> ?_
    cases hN:D[i].2.N with
    |none=>
     rw [hN] at hres;refine hnext _ _ μ (WC h hp hS hN hr hb hres) fun k p ob hk hN' hs'=> ?_
     refine hun k p ob hk hN' ?_;have:k≠i:=by rintro rfl;rw [Yr] at hs';cases hs'
     rw [yA this] at hs';exact hs'
    |some ob=>
     rw [hN] at hres;obtain ⟨b,mb,cur,e1,e2,e3,e4,e5,e6⟩:=hres;obtain ⟨μ',g1,g2⟩:=PO h hp hS hN hr hun hb e1 e2 e3 e4 e5 e6;exact hnext _ _ μ' g1 g2
   ·rw [hw1] at hw;rw [hoe,if_neg (by rw [Y9 hw hr];simp)];refine ⟨fun f _=>QZ none f, ?_⟩;have hN:D[i].2.N=none:=by rw [hd]
    refine hnext _ _ μ (WC h hp hS hN hr (Below.refl _ _) (by rw [hd];exact .lit _)) fun k p ob hk hN' hs'=> ?_
    refine hun k p ob hk hN' ?_;have:k≠i:=by rintro rfl;rw [Yr] at hs';cases hs'
    rw [yA this] at hs';exact hs'
theorem zeB (hq: ∀c σ,Q (.panic c) σ→False) (hm:P.follows .mixedOrders=true) {id:Nat} {l:List Oper} {σ:St} (m:Nat) (hok:zfi l m=true) (hnd:l.all qi=true)
 (h:AD P l σ (fun D=>AL P none l Q (l.drop m) (σS σ D fun _=>true)) (l.take m) []):AW P none (.region id l.toArray true) Q σ:=by
 obtain ⟨ok,hL⟩:=zbg hok;have hml:m≤l.length:=by have:=ok.s.le;simpa using this
 have key: ∀(R:List Oper) (D0:List (Oper×DR)),D0.length+R.length=m→(∀(k:Nat) p,D0[k]?=some p→l[k]?=some p.1)→(∀(j:Nat) o,R[j]?=some o→l[D0.length+j]?=some o)→AD P l σ (fun D=>AL P none l Q (l.drop m) (σS σ D fun _=>true)) R D0→
  ∃E,(D0++E).length=m∧(∀(k:Nat) p,(D0++E)[k]?=some p→l[k]?=some p.1)∧AL P none l Q (l.drop m) (σS σ (D0++E) fun _=>true)∧ ∀k,D0.length≤k→k<m→HR P l σ (D0++E) k:=by
  intro R;induction R with
  |nil=>
   intro D0 hl h0 hR h;exact ⟨[],by simpa using hl,by simpa using h0,by simpa [AD] using h,fun k hk hk'=>by simp at hl;omega⟩
  |cons o R ih=>
   intro D0 hl h0 hR h;simp only [AD] at h;obtain ⟨d,hd,hrest⟩:=h
   obtain ⟨E,e1,e2,e3,e4⟩:=ih (D0++[(o,d)]) (by simp at hl ⊢;omega) (fun k p hk=>by
    by_cases hlt:k<D0.length
    ·rw [List.getElem?_append_left hlt] at hk;exact h0 k p hk
    ·rw [List.getElem?_append_right (by omega)] at hk;have:k - D0.length=0:=by have:=(List.getElem?_eq_some_iff.1 hk).1;simp at this;omega
     rw [this] at hk;simp at hk;subst hk
     have:=hR 0 o rfl
     rw [show k=D0.length+0 by omega];exact this) (fun j o' hj=>by
    have:=hR (j+1) o' (by simpa using hj)
    rw [←this];congr 1;simp;omega) hrest
   refine ⟨(o,d)::E,by simpa using e1,by simpa using e2,by simpa using e3,fun k hk hk'=> ?_⟩;rcases Nat.eq_or_lt_of_le hk with he|hlt
   ·subst he;intro p hp;have hpe:p=(o,d):=by simpa using hp.symm
    subst hpe
    have hpre:=VJ (txt D0.length) 0 D0 ((o,d)::E) σ.s (fun j hj=>by unfold txt;rw [Nat.blt_eq];omega) (fun j hj=>by
     unfold txt;cases hb:Nat.blt (0+j) D0.length with
     |false=>rfl
     |true=>rw [Nat.blt_eq] at hb;omega)
    have hslots:(σS σ (D0++(o,d)::E) (txt D0.length)).s=(σS σ D0 fun _=>true).s:=hpre.1
    have hev:(σS σ (D0++(o,d)::E) (txt D0.length)).ev=(σS σ D0 fun _=>true).ev:=by
     funext y
     cases y <;>simp only [St.ev,hslots]
    have hwant:zS l (σS σ (D0++(o,d)::E) (txt D0.length)) o=zS l (σS σ D0 fun _=>true) o:=by
     unfold zS;rw [hslots]
    have hidd:idD σ.H.length (D0++(o,d)::E) D0.length=σ.H.length+X0 D0:=by simp [idD]
    simp only;rw [hwant,hev,hidd];exact hd
   ·have:=e4 k (by simp;omega) hk'
    simpa using this
 obtain ⟨E,e1,e2,e3,e4⟩:=key (l.take m) [] (by simp;omega) (fun k p hk=>by simp at hk) (fun j o hj=>by
  rw [List.getElem?_take] at hj;split at hj
  ·simpa using hj
  ·cases hj) h
 simp only [List.nil_append] at e1 e2 e3 e4;have hD:DOk l m E:=⟨ok,e1,e2⟩
 intro B μ a w hr;refine wpIn_region_any hm ?_
 have hno: ∀j,(Array.replicate l.toArray.size false).getD j false=false:=fun j=>by
  simp only [Array.getD_eq_getD_getElem?,Array.getElem?_replicate];split <;>rfl
 have hS0:(fun j=>(Array.replicate l.toArray.size false).getD j false)=fun _=>false:=by funext j;exact hno j
 have hslots0: ∀(D:List (Oper×DR)) (k:Nat) (s:List AV),zk (fun _=>false) k D s=s:=by
  intro D;induction D with
  |nil=>intro k s;rfl
  |cons p D ih=>intro k s;simp only [zk];exact ih (k+1) s
 have hun0:Un μ σ.H.length E (fun _=>false):=fun k p ob hk hN _=>by
  cases hm:μ (idD σ.H.length E k) with
  |none=>rfl
  |some l=>have:=hr.H.dom _ l hm;unfold idD at this;omega
 have hdead: ∀(i:Nat) o,(ym (fun _=>false) 0 E)[i]?=some o→o.st=2:=fun i o hi=>by
  obtain ⟨j,p,ob,_,_,_,h4⟩:=vG _ 0 E i o hi;rw [h4]
 have hr0:SRel B μ (σS σ E fun _=>false) a w.drew:=by
  have hoo: ∀b,OO B.X (σ.H++ym (fun _=>false) 0 E) μ b→OO B.X σ.H μ b:=by
   rintro b (hx|⟨i,o,m',hi,hs,hm'⟩)
   ·exact .inl hx
   ·by_cases hlt:i<σ.H.length
    ·rw [List.getElem?_append_left hlt] at hi;exact .inr ⟨i,o,m',hi,hs,hm'⟩
    ·rw [List.getElem?_append_right (by omega)] at hi;have:=hdead _ o hi;omega
  have up: ∀{ν:Mu} {x:AV} {v:Value},RV (OO B.X σ.H μ) w ν x v→RV (OO B.X (σ.H++ym (fun _=>false) 0 E) μ) w.drew ν x v:=fun {ν x v} hx=>RV.mono (w:=w) (w':=w.drew) (fun b _ hb=>hoo b hb) (fun _ _ _=>rfl) hx ν fun _ _ h=>h
  refine ⟨by simp only [σS,hslots0];exact hr.size,fun t x v hx hv=> ?_,⟨fun i l hi=>by simp only [σS,List.length_append];have:=hr.H.dom i l hi;omega,hr.H.inj,hr.H.lt,fun i o hi hs=> ?_,hr.H.xlt,hr.H.gl.step (Nat.le_refl _) (fun _ _ _ _=>rfl) (fun _ h=> .inl h) fun i b m h=> .inl ⟨i,m,h⟩,MapsOk.mono (w:=w) (w':=w.drew) hr.H.mp (fun b _ hb=>hoo b hb) (fun _ _ _=>rfl) fun i o hi hs=>(by
   simp only [σS] at hi;by_cases hlt:i<σ.H.length
   ·rw [List.getElem?_append_left hlt] at hi;exact ⟨i,o,hi, .refl o,fun _ h=>h,fun _ _ _=>rfl⟩
   ·rw [List.getElem?_append_right (by omega)] at hi;have:=hdead _ o hi;omega)⟩,hr.df.step (Chg.drew _ _) (Ext.refl _ _) hr.H.lt,hr.chg.trans hr.ext (Chg.drew _ _),hr.ext,hr.nb,by simp only [σS,List.length_append];have:=hr.le;omega,fun k x v hk hx=>up (hr.pres k x v hk hx)⟩
  ·simp only [σS,hslots0] at hx;exact up (hr.slot t x v hx hv)
  ·simp only [σS] at hi;by_cases hlt:i<σ.H.length
   ·rw [List.getElem?_append_left hlt] at hi;exact ObjAt.mono (w:=w) (w':=w.drew) (fun b _ hb=>hoo b hb) (fun _ _ _=>rfl) (fun _ _ h=>h) (fun _ _ _=>rfl) (hr.H.obj i o hi hs)
   ·rw [List.getElem?_append_right (by omega)] at hi;have:=hdead _ o hi;omega
 refine zbw hL hq hD hnd (fun k hk=>e4 k (by simp) hk) e3 l.toArray.size _ a w.drew μ (by simp) (fun i hi=>by rw [hno] at hi;cases hi) (fun j _=>hno j) ?_ (by rw [hS0];exact hr0) (by rw [hS0];exact hun0)
 have hfil:(List.range m).filter (fun j=> !(Array.replicate l.toArray.size false).getD j true)=List.range m:=by
  rw [List.filter_eq_self];intro j hj;have:=List.mem_range.1 hj
  simp [Array.getD_eq_getD_getElem?,Array.getElem?_replicate,show j<l.length by omega]
 rw [hfil,List.length_range];simp;omega
theorem zby (hq: ∀c σ,Q (.panic c) σ→False) (hm:P.follows .mixedOrders=true) {id:Nat} {l:List Oper} {σ:St} (m:Nat) (hok:zfi l m=true) (hnd:l.all qi=true) (h:ADr P none l Q m σ (l.take m) σ):AW P none (.region id l.toArray true) Q σ:=
 zeB hq hm m hok hnd (h [] (by simp [σS,zk,ym]))
class NoPanic (Q:Exit→St→Prop):Prop where
 no: ∀c σ,Q (.panic c) σ→False
instance noPanic_ret {tab:Tab} {rs:List ResultVar} {K:AV→List zb→List Nat→Prop}:NoPanic (zU tab rs K):=⟨fun _ _ h=>h⟩
instance noPanic_then {n:St→Prop} {Q:Exit→St→Prop} [h:NoPanic Q]:NoPanic (zF n Q):=⟨fun c σ hq=>h.no c σ hq⟩
instance noPanic_block {id:Nat} {Q:Exit→St→Prop} [h:NoPanic Q]:NoPanic (zh id Q):=⟨fun c σ hq=>h.no c σ hq⟩
theorem gC {F:Fence} {n:Nat} {o:Oper} {a:Act} {w:World} {K K':Act→World→Prop} {Q Q':Exit→Act→World→Prop} (hq: ∀e a w,e≠ .normal→Q e a w→Q' e a w) (h: ∀a w,K a w→K' a w) (hh:o.wpIn F n P a w K Q):o.wpIn F n P a w K' Q':=by
 unfold Oper.wpIn at*;refine ⟨hh.1, ?_⟩;have hh:=hh.2;have hlo:LetsOut Q→LetsOut Q':=fun ⟨a,w,h⟩=>⟨a,w,hq _ _ _ (by simp) h⟩
 generalize (o.semAt F.round a.eval).run P w=r at*;cases r with
 |ok x w'=>
  cases x <;>simp only [Oper.uponIn] at hh ⊢ <;>
   first
    |exact h _ _ hh
    |exact ⟨hh.1,CallsIn.mono hh.2 (fun e w'' he=>by cases e <;>first|exact h _ _ he|exact hq _ _ _ (by simp) he|exact hlo he)⟩
    |exact ⟨hh.1,RowsIn.mono hh.2 (fun _ _ he=>h _ _ he)⟩
    |exact ⟨hh.1,RoundIn.mono hh.2 (fun e w'' he=>by cases e <;>first|exact h _ _ he|exact hq _ _ _ (by simp) he|exact hlo he)⟩
 |halt x w'=>cases x <;>simp only [Oper.uponIn] at hh ⊢ <;>first|exact hh|exact hq _ _ _ (by simp) hh
theorem wn {F:Fence} {n:Nat} {md:Region.Mode} {ops:Array Oper} {Q Q':Exit→Act→World→Prop} (hq: ∀e a w,Q e a w→Q' e a w): ∀{f:Nat} {ls:Array Bool} {a:Act} {w:World},wpAnyIn F n P md ops Q f ls a w→wpAnyIn F n P md ops Q' f ls a w
 |0,ls,a,w,h=>⟨h.1,hq _ _ _ h.2⟩
 |f+1,ls,a,w,h=>by
  refine ⟨fun he=>hq _ _ _ (h.1 he),fun i hi=> ?_⟩;have:=h.2 i hi
  unfold wpOpIn at this ⊢;split
  ·rename_i hn;rw [hn] at this;exact wn hq this
  ·rename_i o ho;rw [ho] at this;simp only at this;split
   ·rename_i hw;rw [if_pos hw] at this;exact uB hq (fun _ _ h=>wn hq h) this
   ·rename_i hw;rw [if_neg hw] at this;exact ⟨this.1,wn hq this.2⟩
def AO (P:Program) (r:Option Nat) (l:List Oper) (Q:Exit→St→Prop):Nat→List Bool→St→Prop
 |0,ls,σ=>Region.ready .any l.toArray ls.toArray=[]∧Q .normal σ
 |f+1,ls,σ=>(Region.ready .any l.toArray ls.toArray=[]→Q .normal σ)∧ ∀i∈Region.ready .any l.toArray ls.toArray,∀o,l[i]?=some o→AL P r l (zF (AO P r l Q f (ls.set i true)) Q) [o] σ
theorem SRel.drew {B:Base P} {μ:Mu} {σ:St} {a:Act} {w:World} (hr:SRel B μ σ a w):SRel B μ σ a w.drew:=by
 have up: ∀{ν:Mu} {x:AV} {v:Value},RV (OO B.X σ.H μ) w ν x v→RV (OO B.X σ.H μ) w.drew ν x v:=fun {ν x v} hx=>RV.mono (w:=w) (w':=w.drew) (fun b _ hb=>hb) (fun _ _ _=>rfl) hx ν fun _ _ h=>h
 exact ⟨hr.size,fun t x v hx hv=>up (hr.slot t x v hx hv),⟨hr.H.dom,hr.H.inj,hr.H.lt,fun i o hi hs=>ObjAt.mono (w:=w) (w':=w.drew) (fun b _ hb=>hb) (fun _ _ _=>rfl) (fun _ _ h=>h) (fun _ _ _=>rfl) (hr.H.obj i o hi hs),hr.H.xlt,hr.H.gl.step (w':=w.drew) (Nat.le_refl _) (fun _ _ _ _=>rfl) (fun _ h=> .inl h) fun i b m h=> .inl ⟨i,m,h⟩,MapsOk.mono (w:=w) (w':=w.drew) hr.H.mp (fun _ _ h=>h) (fun _ _ _=>rfl) fun i o hi _=>⟨i,o,hi, .refl o,fun _ h=>h,fun _ _ _=>rfl⟩⟩,hr.df.step (Chg.drew _ _) (Ext.refl _ _) hr.H.lt,hr.chg.trans hr.ext (Chg.drew _ _),hr.ext,hr.nb,hr.le,fun k x v hk hx=>up (hr.pres k x v hk hx)⟩
theorem tD {l:List Oper}: ∀(f:Nat) (ls:List Bool) (σ:St) (B:Base P) (μ:Mu) (a:Act) (w:World),AO P r l Q f ls σ→SRel B μ σ a w→wpAnyIn (fw r) 0 P .any l.toArray (Post B Q) f ls.toArray a w
 |0,ls,σ,B,μ,a,w,h,hr=>⟨h.1,σ,h.2,hr.sx⟩
 |f+1,ls,σ,B,μ,a,w,h,hr=>by
  refine ⟨fun he=>⟨σ,h.1 he,hr.sx⟩,fun i hi=> ?_⟩;obtain ⟨_,o,ho,_⟩:=mem_ready.1 hi;have hl:l[i]?=some o:=by simpa using ho
  have:=h.2 i hi o hl B μ a w hr
  have hp: ∀e a w,e≠ .normal→Post B (zF (AO P r l Q f (ls.set i true)) Q) e a w→Post B Q e a w:=fun e a w hne ⟨σ',h1,h2⟩=>⟨σ',by cases e <;>first|exact absurd rfl hne|exact h1,h2⟩
  have hk: ∀a' w',wpListIn (fw r) 0 P l.toArray (Post B (zF (AO P r l Q f (ls.set i true)) Q)) [] a' w'→wpAnyIn (fw r) 0 P .any l.toArray (Post B Q) f (ls.toArray.setIfInBounds i true) a' w':=by
   rintro a' w' ⟨σ',h1,μ',X',hg,h3⟩
   have e:ls.toArray.setIfInBounds i true=(ls.set i true).toArray:=by simp
   rw [e];exact wn (fun e a w h=>h.trans hg) (tD f _ σ' (B.at_ X') μ' a' w' h1 h3)
  unfold wpOpIn;rw [ho];unfold wpListIn at this;simp only;split
  ·rename_i hw;rw [if_pos hw] at this;exact gC hp hk this
  ·rename_i hw;rw [if_neg hw] at this;exact ⟨this.1,hk _ _ this.2⟩
theorem vK (hm:P.follows .mixedOrders=true) {id:Nat} {l:List Oper} {b:Bool} (hb:b=true) {σ:St} (h:AO P r l Q l.length (List.replicate l.length false) σ):AW P r (.region id l.toArray b) Q σ:=by
 subst hb;intro B μ a w hr;refine wpIn_region_any hm ?_;have:=tD l.length _ σ B μ a w.drew h hr.drew
 simpa using this
def zA (P:Program) (r:Option Nat) (l:List Oper) (Q:Exit→St→Prop) (f:Nat) (ls:List Bool) (σ:St):Nat→List Oper→Prop
 |_,[]=>True
 |k,o::R=>((Region.ready .any l.toArray ls.toArray).contains k=true→AL P r l (zF (AO P r l Q f (ls.set k true)) Q) [o] σ)∧zA P r l Q f ls σ (k+1) R
theorem TT {l:List Oper} {f:Nat} {ls:List Bool} {σ:St}: ∀(R:List Oper) (k:Nat),zA P r l Q f ls σ k R→ ∀(j:Nat) o,R[j]?=some o→(Region.ready .any l.toArray ls.toArray).contains (k+j)=true→AL P r l (zF (AO P r l Q f (ls.set (k+j) true)) Q) [o] σ
 |[],k,_,j,o,hj,_=>by simp at hj
 |o'::R,k,h,0,o,hj,hc=>by simp at hj;subst hj;exact h.1 hc
 |o'::R,k,h,j+1,o,hj,hc=>by
  have:=TT R (k+1) h.2 j o (by simpa using hj)
  rw [show k+1+j=k+(j+1) by omega] at this;exact this hc
theorem zgi {l:List Oper} {f:Nat} {ls:List Bool} {σ:St} {k:Nat} {o:Oper} {R:List Oper} (h:(Region.ready .any l.toArray ls.toArray).contains k=false) (next:zA P r l Q f ls σ (k+1) R):zA P r l Q f ls σ k (o::R):=⟨fun hc=>(by rw [h] at hc;cases hc),next⟩
theorem zhQ {l:List Oper} {f:Nat} {ls:List Bool} {σ:St} {k:Nat} {o:Oper} {R:List Oper} (h:AL P r l (zF (AO P r l Q f (ls.set k true)) Q) [o] σ) (next:zA P r l Q f ls σ (k+1) R):zA P r l Q f ls σ k (o::R):=⟨fun _=>h,next⟩
theorem zjY {l:List Oper} {f:Nat} {ls:List Bool} {σ:St} {k:Nat}:zA P r l Q f ls σ k []:=trivial
theorem zg1 {l:List Oper} {f:Nat} {ls:List Bool} {σ:St} (hne:(Region.ready .any l.toArray ls.toArray).isEmpty=false) (h:zA P r l Q f ls σ 0 l):AO P r l Q (f+1) ls σ:=by
 unfold AO
 exact ⟨fun he=>(by rw [he] at hne;cases hne),fun i hi o ho=>by
  have:=TT l 0 h i o ho (by simpa using hi)
  simpa using this⟩
theorem ziC {l:List Oper} {f:Nat} {ls:List Bool} {σ:St} (hr:Region.ready .any l.toArray ls.toArray=[]) (h:Q .normal σ):AO P r l Q f ls σ:=by
 cases f with
 |zero=>exact ⟨hr,h⟩
 |succ f=>exact ⟨fun _=>h,by rw [hr];intro i hi;cases hi⟩
theorem WU {l:List Oper} {f:Nat} {ls:List Bool} {Q':Exit→St→Prop} {σ:St} (h:AO P r l Q f ls σ):zF (AO P r l Q f ls) Q' .normal σ:=h
end
section
variable {P:Program} {tab:Tab} {r:Option Nat} {l R:List Oper} {Q:Exit→St→Prop} {σ σ':St} {o:Oper} {m:Nat}
class BoolP (b:Bool) (p:outParam Prop):Prop where
 iff:b=true↔p
instance (priority:=low) boolP_var (b:Bool):BoolP b (b=true):=⟨Iff.rfl⟩
instance boolP_dec (p:Prop) [h:Decidable p]:BoolP (decide p) p:=⟨decide_eq_true_iff⟩
instance boolP_beqI (a b:Int):BoolP (a==b) (a=b):=⟨beq_iff_eq⟩
instance boolP_bneI (a b:Int):BoolP (a !=b) (a≠b):=⟨bne_iff_ne⟩
instance boolP_beqB (a b:List UInt8):BoolP (a==b) (a=b):=⟨beq_iff_eq⟩
instance boolP_beqC (a b:Bool):BoolP (a==b) (a=b):=⟨beq_iff_eq⟩
instance boolP_not (b:Bool) (p:Prop) [h:BoolP b p]:BoolP (!b) (¬p):=⟨by rw [←h.iff];cases b <;>simp⟩
instance boolP_and (a b:Bool) (p q:Prop) [h:BoolP a p] [h':BoolP b q]:BoolP (a && b) (p∧q):=⟨by rw [←h.iff,←h'.iff];simp⟩
instance boolP_or (a b:Bool) (p q:Prop) [h:BoolP a p] [h':BoolP b q]:BoolP (a||b) (p∨q):=⟨by rw [←h.iff,←h'.iff];simp⟩
theorem BoolP.no {b:Bool} {p:Prop} (h:BoolP b p):b=false↔ ¬p:=by rw [←h.iff];cases b <;>simp
theorem zj {c:Operand} {x y:Code} {b:Bool} {p:Prop} (hc:σ.ev c= .lit (.bool b)) [hb:BoolP b p] (ht:p→AW P r x Q σ) (hf: ¬p→AW P r y Q σ):AW P r (.cond c x y) Q σ:=
 ZJ hc (fun h=>ht (hb.iff.1 h)) (fun h=>hf (hb.no.1 h))
theorem zcE {c:Operand} {x y:Code} {b:Bool} {p:Prop} (hc:σ.ev c= .lit (.bool b)) [hb:BoolP b p] (hp:p) (ht:AW P r x Q σ):AW P r (.cond c x y) Q σ:=
 zj hc (fun _=>ht) (fun h=>(h hp).elim)
theorem zdV {c:Operand} {x y:Code} {b:Bool} {p:Prop} (hc:σ.ev c= .lit (.bool b)) [hb:BoolP b p] (hp: ¬p) (hf:AW P r y Q σ):AW P r (.cond c x y) Q σ:=
 zj hc (fun h=>(hp h).elim) (fun _=>hf)
def Vf (l:List Oper) (o:Oper):Option Nat:=
 match o.guard with
 |some (j,_)=>match nth l j with
  |some oj=>oj.dst
  |none=>none
 |none=>none
theorem qw {α:Type}: ∀{l:List α} {n:Nat} {y:α},nth l n=some y→setn l n y=l
 |[],_,_,h=>by cases h
 |x::l,0,y,h=>by simp only [nth,Option.some.injEq] at h;rw [setn,h]
 |x::l,n+1,y,h=>by rw [setn,qw (l:=l) h]
theorem H4 {t:Nat} {b:Bool} {p:Prop} (hg:Vf l o=some t) (hs:nth σ.s t=some (.lit (.bool b))) [hb:BoolP b p] (ht:p→AL P r l Q (o::R) ⟨setn σ.s t (.lit (.bool true)),σ.H,σ.fg,σ.nb⟩)
 (hf: ¬p→AL P r l Q (o::R) ⟨setn σ.s t (.lit (.bool false)),σ.H,σ.fg,σ.nb⟩):AL P r l Q (o::R) σ:=by
 cases hv:b with
 |true=>subst hv;have:=ht (hb.iff.1 rfl);rwa [qw hs] at this
 |false=>subst hv;have:=hf (hb.no.1 rfl);rwa [qw hs] at this
theorem zax {t:Nat} {b:Bool} {p:Prop} (hg:Vf l o=some t) (hs:nth σ'.s t=some (.lit (.bool b))) [hb:BoolP b p] (ht:p→ADr P r l Q m σ (o::R) ⟨setn σ'.s t (.lit (.bool true)),σ'.H,σ'.fg,σ'.nb⟩)
 (hf: ¬p→ADr P r l Q m σ (o::R) ⟨setn σ'.s t (.lit (.bool false)),σ'.H,σ'.fg,σ'.nb⟩):ADr P r l Q m σ (o::R) σ':=by
 cases hv:b with
 |true=>subst hv;have:=ht (hb.iff.1 rfl);rwa [qw hs] at this
 |false=>subst hv;have:=hf (hb.no.1 rfl);rwa [qw hs] at this
theorem zaB {t:Nat} (hg:Vf l o=some t) (hs:nth σ.s t=some (.lit (.bool true))) (h:AL P r l Q (o::R) σ):AL P r l Q (o::R) σ:=h
theorem zar {t:Nat} (hg:Vf l o=some t) (hs:nth σ.s t=some (.lit (.bool false))) (h:AL P r l Q (o::R) σ):AL P r l Q (o::R) σ:=h
theorem zaJ {t:Nat} (hg:Vf l o=some t) (hs:nth σ'.s t=some (.lit (.bool true))) (h:ADr P r l Q m σ (o::R) σ'):ADr P r l Q m σ (o::R) σ':=h
theorem zag {t:Nat} (hg:Vf l o=some t) (hs:nth σ'.s t=some (.lit (.bool false))) (h:ADr P r l Q m σ (o::R) σ'):ADr P r l Q m σ (o::R) σ':=h
theorem zeR {t:Nat} {b:Bool} {p:Prop} (hg:Vf l o=some t) (hs:nth σ.s t=some (.lit (.bool b))) [hb:BoolP b p] (hp:p) (ht:AL P r l Q (o::R) ⟨setn σ.s t (.lit (.bool true)),σ.H,σ.fg,σ.nb⟩):AL P r l Q (o::R) σ:=H4 hg hs (fun _=>ht) (fun h=>(h hp).elim)
theorem zel {t:Nat} {b:Bool} {p:Prop} (hg:Vf l o=some t) (hs:nth σ.s t=some (.lit (.bool b))) [hb:BoolP b p] (hp: ¬p) (ht:AL P r l Q (o::R) ⟨setn σ.s t (.lit (.bool false)),σ.H,σ.fg,σ.nb⟩):AL P r l Q (o::R) σ:=H4 hg hs (fun h=>(hp h).elim) (fun _=>ht)
theorem zcG {t:Nat} {b:Bool} {p:Prop} (hg:Vf l o=some t) (hs:nth σ'.s t=some (.lit (.bool b))) [hb:BoolP b p] (hp:p) (ht:ADr P r l Q m σ (o::R) ⟨setn σ'.s t (.lit (.bool true)),σ'.H,σ'.fg,σ'.nb⟩):ADr P r l Q m σ (o::R) σ':=zax hg hs (fun _=>ht) (fun h=>(h hp).elim)
theorem zdb {t:Nat} {b:Bool} {p:Prop} (hg:Vf l o=some t) (hs:nth σ'.s t=some (.lit (.bool b))) [hb:BoolP b p] (hp: ¬p) (ht:ADr P r l Q m σ (o::R) ⟨setn σ'.s t (.lit (.bool false)),σ'.H,σ'.fg,σ'.nb⟩):ADr P r l Q m σ (o::R) σ':=zax hg hs (fun h=>(hp h).elim) (fun _=>ht)
def xH:Op→Bool
 | .store .. =>false
 | .call c=>match c.callee with| .builtin .append=>false|_=>true
 |_=>true
def xA:List Oper→List Oper
 |[]=>[]
 |o::l=>bif xH o.op then o::xA l else []
def VZ:List Oper→List Oper
 |[]=>[]
 |o::l=>bif xH o.op then VZ l else o::l
theorem Vp: ∀l:List Oper,l.take (xA l).length=xA l
 |[]=>rfl
 |o::l=>by rw [xA];cases xH o.op <;>simp [Vp l]
theorem k8: ∀l:List Oper,l.drop (xA l).length=VZ l
 |[]=>rfl
 |o::l=>by rw [xA,VZ];cases xH o.op <;>simp [k8 l]
theorem wR (hm:P.follows .mixedOrders=true) {id:Nat} {l:List Oper} {b:Bool} (hb:b=true) (hok:okD l (xA l).length=true) (hnd:l.all qi=true) (h:ADr P r l Q (xA l).length σ (xA l) σ):AW P r (.region id l.toArray b) Q σ:=by
 subst hb;exact wL hm (xA l).length hok hnd (by rwa [Vp])
theorem XD {Q:Exit→St→Prop} [np:NoPanic Q] (hm:P.follows .mixedOrders=true) {id:Nat} {l:List Oper} {b:Bool} (hb:b=true) (hok:zfi l (xA l).length=true) (hnd:l.all qi=true) (h:ADr P none l Q (xA l).length σ (xA l) σ):AW P none (.region id l.toArray b) Q σ:=by
 subst hb;exact zby np.no hm (xA l).length hok hnd (by rwa [Vp])
theorem VN (h:AL P r l Q (VZ l) σ'):ADr P r l Q (xA l).length σ [] σ':=Q2 (by rwa [k8])
def u5:List Oper→List Nat
 |[]=>[]
 |o::r=>match o.dst with|some d=>d::u5 r|none=>u5 r
def wrC:Code→List Nat
 | .region _ ops _=>u5 ops.toList
 | .seq a b=>wrC a++wrC b
 | .cond _ a b=>wrC a++wrC b
 | .block _ b=>wrC b
 | .loop b=>wrC b
 | .scope b=>wrC b
 | .rangeFunc _ ps a b=>ps.toList++wrC a++wrC b
 |_=>[]
theorem zfM {c:Code} {ι:Type} {s:List AV} {H0:List zb} {fg:List Nat} {nb:YB} {ws:List Nat} (hws:wrC c=ws) (g:ι→List (Nat×AV)) (Hs:ι→List zb) (m:ι→Nat) (i0:ι) (h0:Tells ⟨s,H0,fg,nb⟩ (lst s fg nb ws (g i0) (Hs i0)))
 (round: ∀i,AW P r c (zF (fun σ'=> ∃j,m j<m i∧Tells σ' (lst s fg nb ws (g j) (Hs j))) Q) (lst s fg nb ws (g i) (Hs i))):AW P r (.loop c) Q ⟨s,H0,fg,nb⟩:=qz ws g Hs m i0 h0 round
theorem zeb {x y:Code} {Q':Exit→St→Prop} {s:List AV} {H0:List zb} {fg:List Nat} {nb:YB} {ws:List Nat} (hws:wrC x=ws) (g:List (Nat×AV)) (H1:List zb)
 (h1:AW P r x (zF (fun σ'=>Tells σ' (lst s fg nb ws g H1)) Q') ⟨s,H0,fg,nb⟩) (h2:AW P r y Q (lst s fg nb ws g H1)):AW P r x (zF (AW P r y Q) Q') ⟨s,H0,fg,nb⟩:=
 h1.mono fun e σ' h=>by
  cases e <;>first|exact zr h h2|exact h
theorem APure.data {f:FuncId} {args:List AV} {x y:AV} {N:List zb} {q:Prop} {used:List Nat} (h:APure P f args x N) (ht:thaw N 4 x=some (q,y,used)) (hq:q):APure P f args y []:=by
 intro w X μ vs hH hv;refine (h w X μ vs hH hv).mono fun e w' he=> ?_
 obtain ⟨v,r',H',fg,μ',e1,⟨rfl,rfl⟩,g1,g2,g3,g4,g5,g6⟩:=he;refine ⟨v,y,[],[],noMu,e1,⟨rfl,rfl⟩,⟨fun i l h=>(by cases h),fun i j b m m' h=>(by cases h),fun i b m h=>(by cases h),fun i o h=>(by simp at h),g1.xlt,g1.gl.sub fun b ⟨i,m,h⟩=>(by cases h), .none fun o h=>(by cases h)⟩, ?_,g3,fun i b m h=>(by cases h),Nat.le_refl _,fun k x u hk hx=> ?_⟩
 ·refine (XN g1 4 ht hq g2).mono (fun b _ hb=>⟨?_,fun i hi m hm=> ?_⟩) (fun _ _ _=>rfl) _ fun _ _ h=>by cases h
  ·rcases hb with hb|⟨i,o,m,hi,_⟩
   ·exact .inl hb
   ·simp at hi
  ·rcases hb with hb|⟨i',o,m',hi',_⟩
   ·exact (g1.lt i b m hm).2 hb
   ·simp at hi'
 ·have hk0:k=0:=by simpa using hk
  subst hk0;have e0: ∀μ:Mu,upto 0 μ=noMu:=fun μ=>by funext i;simp [upto,noMu]
  rw [e0] at hx ⊢
  have hno: ∀i,μ i=none:=fun i=>by
   cases hm:μ i with
   |none=>rfl
   |some l=>have:=hH.dom i l hm;simp at this
  have:=hx.mono (O':=OO X [] noMu) (w':=w') (fun b _ hb=>hb.imp id fun ⟨i,o,m,hi,_⟩=>(by simp at hi)) (fun b hb _=>g3.block b hb fun i m hi=>by rw [hno] at hi;cases hi) noMu fun _ _ h=>h
  exact this
variable {α:Type}
structure Enc (α:Type) where
 sz:Nat
 z:α
 enc:α→List AV
section
variable {α:Type} {e:Enc α}
abbrev fE (e:Enc α) (xs:List α):Nat→List AV:=fun k=>e.enc (xs.getD k e.z)
abbrev slE (e:Enc α) (xs:List α):AV:= .sl e.sz xs.length false (fE e xs)
theorem WB {xs ys:List α} {n k:Nat} (hn:n=xs.length) (hk:k<n+ys.length):fE e (xs++ys) k=xY n (fE e xs) (fE e ys) k:=by
 subst hn;unfold fE;by_cases h:k<xs.length
 ·rw [xU h];simp [List.getD_eq_getElem?_getD,List.getElem?_append_left h]
 ·rw [Ym (by omega)];simp [List.getD_eq_getElem?_getD,List.getElem?_append_right (show xs.length≤k by omega)]
theorem ZZ {xs:List α} {y:α} {g:Nat→List AV} {n k:Nat} (hn:n=xs.length) (hg:g 0=e.enc y) (hk:k<n+1):fE e (xs++[y]) k=xY n (fE e xs) g k:=by
 rw [WB hn (by simpa using hk)];by_cases h:k<n
 ·rw [xU h,xU h]
 ·rw [Ym (by omega),Ym (by omega)];have:k - n=0:=by omega
  rw [this,hg];rfl
theorem ziU {xs:List α} {css:List (List AV)} (h:css=xs.map e.enc) {k:Nat} (hk:k<xs.length):fE e xs k=WH css k:=by
 subst h;simp [fE,WH,zH,List.getD_eq_getElem?_getD,List.getElem?_eq_getElem hk]
end
theorem AV.Le.bool {a b:Bool} (h:a=b):AV.Le (.lit (.bool a)) (.lit (.bool b)):= .lit (by rw [h])
theorem WJ {th:AV→Option (Prop×AV×List Nat)}: ∀{l:List AV},(∀a∈l,∃q,th a=some (q,a,[])∧q)→ ∃q,Yf th l=some (q,l,[])∧q
 |[],_=>⟨True,rfl,trivial⟩
 |a::l,h=>by
  obtain ⟨q,h1,h2⟩:=h a (List.mem_cons_self ..);obtain ⟨q',h3,h4⟩:=WJ (l:=l) fun x hx=>h x (List.mem_cons_of_mem _ hx)
  exact ⟨q∧q',by rw [Yf,h1,h3];rfl,h2,h4⟩
theorem q9 (H:List zb): ∀(n:Nat) {a:AV},zB n a=true→ ∃q,thaw H n a=some (q,a,[])∧q
 |0,a,h=>by cases h
 |n+1,a,h=>by
  cases a with
  |row=>cases h
  |ptr=>cases h
  |junk=>exact ⟨True,rfl,trivial⟩
  |lit=>exact ⟨True,rfl,trivial⟩
  |arr=>exact ⟨True,rfl,trivial⟩
  |sl=>exact ⟨True,rfl,trivial⟩
  |ip=>exact ⟨True,rfl,trivial⟩
  |agg cs=>
   obtain ⟨q,h1,h2⟩:=WJ (th:=thaw H n) (l:=cs) fun x hx=>q9 H n (List.all_eq_true.1 h x hx)
   exact ⟨q,by rw [thaw,h1],h2⟩
  |tup cs=>
   obtain ⟨q,h1,h2⟩:=WJ (th:=thaw H n) (l:=cs) fun x hx=>q9 H n (List.all_eq_true.1 h x hx)
   exact ⟨q,by rw [thaw,h1],h2⟩
  |fn f xs ys=>
   rw [zB,Bool.and_eq_true] at h;obtain ⟨q,h1,h2⟩:=WJ (th:=thaw H n) (l:=xs) fun x hx=>q9 H n (List.all_eq_true.1 h.1 x hx)
   obtain ⟨q',h3,h4⟩:=WJ (th:=thaw H n) (l:=ys) fun x hx=>q9 H n (List.all_eq_true.1 h.2 x hx)
   exact ⟨q∧q',by rw [thaw,h1,h3];rfl,h2,h4⟩
  |iface t x=>
   obtain ⟨q,h1,h2⟩:=q9 H n (a:=x) h;exact ⟨q,by rw [thaw,h1],h2⟩
theorem K_: ∀(k:Nat) (l:List zb),Z' [] k l=l
 |_,[]=>rfl
 |k,o::l=>by rw [Z',K_];rfl
theorem qv: ∀(n:Nat) {a:AV},zB n a=true→zB (n+1) a=true
 |0,a,h=>by cases h
 |n+1,a,h=>by
  cases a with
  |row=>cases h
  |ptr=>cases h
  |junk|lit|arr|sl|ip=>rfl
  |agg cs|tup cs=>exact List.all_eq_true.2 fun x hx=>qv n (List.all_eq_true.1 h x hx)
  |fn f xs ys=>
   rw [zB,Bool.and_eq_true] at h ⊢;exact ⟨List.all_eq_true.2 fun x hx=>qv n (List.all_eq_true.1 h.1 x hx),List.all_eq_true.2 fun x hx=>qv n (List.all_eq_true.1 h.2 x hx)⟩
  |iface t x=>exact qv n (a:=x) h
theorem xC {n:Nat} {l:List AV} (h:l.all (zB n)=true):l.all (zB (n+1))=true:=List.all_eq_true.2 fun x hx=>qv n (List.all_eq_true.1 h x hx)
theorem LeS.id {a b:List AV} (h:LeS a b):LeS a b:=h
theorem LeS.app: ∀{a b:List AV} (c:List AV),LeS a b→LeS (a++c) (b++c)
 |_,_,c, .nil=>LeS.refl c
 |_,_,c, .cons h hs=> .cons h (LeS.app c hs)
theorem x8 (hw:zS l σ o=some true) {fo:Operand} {ao:List Operand} {ts:Array TypeId} (ho:o.op= .call {callee:= .value fo,args:=ao.toArray,argTypes:=ts}) {f:FuncId} {fa ca:List AV} (hf:σ.ev fo= .fn (.func f) fa ca) (hg:ze P f)
 (hid:(fa++ao.map σ.ev).all (zB 4)=true) (hic:ca.all (zB 4)=true) {args'':List AV} {x:AV} {N:List zb} (h:APure P f (args''++ca) x N) (hl:LeS (fa++ao.map σ.ev) args'')
 (next:AL P r l Q R (St.put ⟨σ.s,σ.H++N.map (Z4 (sh σ.H.length)),σ.fg,σ.nb⟩ o.dst (ren (sh σ.H.length) 4 x))):AL P r l Q (o::R) σ:=by
 obtain ⟨q,h1,h2⟩:=WJ (th:=thaw σ.H 4) (l:=fa++ao.map σ.ev++ca) fun x hx=>q9 σ.H 4 (by
  rcases List.mem_append.1 hx with hx|hx
  ·exact List.all_eq_true.1 hid x hx
  ·exact List.all_eq_true.1 hic x hx)
 exact xB hw ho hf hg h1 h2 (h.le (hl.app ca)) (by rw [K_];exact next)
theorem LeS.rvs {O:Nat→Prop} {w:World} {μ:Mu} {a b:List AV} (h:LeS a b) {vs:List Value} (hv:RVs O w μ a vs):RVs O w μ b vs:=
 ⟨h.len▸hv.1,fun j y v hy hj=>by
  obtain ⟨x,hx,hl⟩:=h.at_ hy;exact hl _ _ _ _ (hv.2 j x v hx hj)⟩
theorem AV.Le.agg {cs ds:List AV} (h:LeS cs ds):AV.Le (.agg cs) (.agg ds):=fun O w μ v hv=>by
 cases hv with
 |agg h1 h2=>
  have:=h.rvs (show RVs O w μ cs _ from ⟨h1,h2⟩)
  exact .agg this.1 this.2
theorem AV.Le.ip {cs ds:List AV} (h:LeS cs ds):AV.Le (.ip cs) (.ip ds):=fun O w μ v hv=>by
 cases hv with
 |ip h1 h2 hg hl hA=>
  have:=h.rvs (show RVs O w noMu cs _ from ⟨h1,h2⟩)
  exact .ip this.1 this.2 hg hl hA
theorem ObjLe.les {T sz n n' st:Nat} {f f':Nat→List AV} {p bx bx':Bool} (hn:n'≤n) (h: ∀k,k<n'→LeS (f k) (f' k)) (hm:st<3:=by decide):ObjLe ⟨T,sz,n,f,st,p,bx⟩ ⟨T,sz,n',f',st,p,bx'⟩:=
 ⟨Nat.le_refl _,fun _=>rfl,fun _=>rfl,fun _=>hn,fun _ h=>h, .inl ⟨rfl,fun h=>absurd h (by simp only;omega)⟩,fun _ k hk=> .inr ⟨(h k hk).len.symm,fun j x y hx hy=>by
  obtain ⟨x',hx',hl⟩:=(h k hk).at_ hy;rw [hx] at hx';injection hx' with hx';subst hx';exact hl⟩⟩
theorem Wc {rs:List ResultVar} {K:AV→List zb→List Nat→Prop} {q:Prop} {y x:AV} {H':List zb} (h:QA tab σ rs=some (q,[y])) (hq:q) (hk:K x H' σ.fg) (ht:Tells ⟨[y],σ.H,σ.fg,σ.nb⟩ ⟨[x],H',σ.fg,σ.nb⟩):zU tab rs K .ret σ:=Z9 h hq [x] H' ht hk
theorem zV (hw:zS l σ o=some true) {fo:Operand} {ao:List Operand} {ts:Array TypeId} (ho:o.op= .call {callee:= .value fo,args:=ao.toArray,argTypes:=ts}) {f:FuncId} {fa ca:List AV} (hf:σ.ev fo= .fn (.func f) fa ca) (hg:ze P f)
 {x:AV} {H':List zb} (h:ACall P f (fa++ao.map σ.ev++ca) σ.H fun r H1 fg=>r=x∧H1=H'∧fg=[])
 (next:AL P r l Q R (St.put ⟨σ.s,H',σ.fg,σ.nb⟩ o.dst x)):AL P r l Q (o::R) σ:=by
 obtain ⟨fn,c,h1,h2,h3⟩:=hg;refine Pc hw ho hf h1 h2 h3 h fun x H' fg hk=> ?_
 obtain ⟨rfl,rfl,rfl⟩:=hk
 have e:σ.s.map (fgs (fgk σ.H.length []))=σ.s:=by
  have:(fgs (fgk σ.H.length []))=id:=by funext a;rfl
  rw [this,List.map_id]
 rw [e,show fgk σ.nb.n []=[] from rfl,List.append_nil];exact next
theorem zcW (g:AV→AV) (css:List (List AV)) (k:Nat):(WH css k).map g=WH (css.map (List.map g)) k:=by
 unfold WH;rw [zH,zH,List.getElem?_map];cases css[k]? <;>rfl
theorem uQ (i:Nat) {ob:zb} {cs:List AV} {q:Prop} {used:List Nat} (ho:nth σ.H i=some ob) (hn:ob.n=1) (hst:ob.st<2) (h:Yf (thaw σ.H 4) (ob.f 0)=some (q,cs,used)) (hq:q):
 Tells σ ⟨σ.s,Z' used 0 (setn σ.H i {ob with f:=fun _=>cs,pure:=true}),σ.fg,σ.nb⟩:=by
 intro P B μ a w hr;rw [zH] at ho;rw [Zx];have hil:i<σ.H.length:=(List.getElem?_eq_some_iff.1 ho).1
 have hset: ∀(k:Nat) o,(σ.H.set i {ob with f:=fun _=>cs,pure:=true})[k]?=some o→ ∃o1,σ.H[k]?=some o1∧o.st=o1.st:=fun k o hk=>by
  by_cases he:i=k
  ·subst he;rw [List.getElem?_set_self hil] at hk;injection hk with hk;subst hk;exact ⟨ob,ho,rfl⟩
  ·rw [List.getElem?_set_ne he] at hk;exact ⟨o,hk,rfl⟩
 have hoo: ∀b,OO B.X (Z' used 0 (σ.H.set i {ob with f:=fun _=>cs,pure:=true})) μ b→Less (OO B.X σ.H μ) μ used b:=by
  rintro b (hb|⟨k,o,m,hi,hs,hm⟩)
  ·exact ⟨.inl hb,fun i _ m hm=>(hr.H.lt i b m hm).2 hb⟩
  ·rw [WK] at hi;simp only [Option.map_eq_some_iff,Nat.zero_add] at hi;obtain ⟨o1,h1,h2⟩:=hi;obtain ⟨o2,h3,h4⟩:=hset k o1 h1
   have hnu:used.any (Nat.beq k)=false:=by
    cases hc:used.any (Nat.beq k) with
    |false=>rfl
    |true=>
     rw [hc] at h2;simp only at h2;rw [←h2] at hs;obtain ⟨i',hi',he'⟩:=List.any_eq_true.1 hc;have he':k=i':=Nat.eq_of_beq_eq_true he'
     subst he';obtain ⟨ob',ho1,ho2⟩:=Xs (R:=fun i=> ∃ob,σ.H[i]?=some ob∧ob.st<2) (XI 4) h k hi';rw [h3] at ho1;injection ho1 with ho1;subst ho1;simp only at hs;omega
   rw [hnu] at h2;simp only at h2;subst h2;refine ⟨.inr ⟨k,o2,m,h3,h4▸hs,hm⟩,fun k' hk m' hm'=> ?_⟩;have:=hr.H.inj _ _ _ _ _ hm hm'
   subst this;have:used.any (Nat.beq k)=true:=List.any_eq_true.2 ⟨k,hk,by simp⟩
   rw [hnu] at this;cases this
 have up: ∀{ν:Mu} {a:AV} {v:Value},RV (OO B.X σ.H μ) w ν a v→RV (OO B.X (Z' used 0 (σ.H.set i {ob with f:=fun _=>cs,pure:=true})) μ) w ν a v:=fun h=>h.mono (fun b _ hb=>(hoo b hb).1) (fun _ _ _=>rfl) _ fun _ _ h=>h
 refine ⟨μ,hr.size,fun k z v hz hv=>up (hr.slot k z v hz hv),⟨fun i l hi=>by simp only [YT,List.length_set];exact hr.H.dom i l hi,hr.H.inj,hr.H.lt,fun k o hi hs=> ?_,hr.H.xlt,hr.H.gl,hr.H.mp.mono (fun b _ hb=>(hoo b hb).1) (fun _ _ _=>rfl) fun k o hi hs=>(by
  obtain ⟨j,o1,h1,hsm,h2,h3⟩:=uT (w:=w) (μ:=μ) hi hs;by_cases hji:i=j
  ·subst hji;rw [List.getElem?_set_self hil] at h1;injection h1 with h1
   have:=hsm.st;rw [←h1] at this;simp only at this;omega
  ·rw [List.getElem?_set_ne hji] at h1;exact ⟨j,o1,h1,hsm,h2,h3⟩)⟩,hr.df,hr.chg,hr.ext,hr.nb,by simp only [YT,List.length_set];exact hr.le,fun k z v hk hz=>up (hr.pres k z v hk hz)⟩
 simp only [WK,Option.map_eq_some_iff,Nat.zero_add] at hi;obtain ⟨o1,h1,h2⟩:=hi
 have hfin:ObjAt (OO B.X (Z' used 0 (σ.H.set i {ob with f:=fun _=>cs,pure:=true})) μ) w μ k o1:=by
  by_cases he:i=k
  ·subst he;rw [List.getElem?_set_self hil] at h1;injection h1 with h1
   have hat:=hr.H.obj i ob ho hst;obtain ⟨hz,hc⟩:=hat;rcases hc with ⟨_,h0⟩|⟨b,m,cur,e1,e2⟩
   ·omega
   ·obtain ⟨vs,g1,g2,g3,_⟩:=qW hz e2 (k:=0) (by omega);have g5:=Xk (fun h hq=>XN hr.H 4 h hq) h hq g1.opt;have hle:1≤m:=by have:=e2.nle;omega
    subst h1;refine ⟨hz, .inr ⟨b,m,cur,e1,⟨e2.blk,e2.size,e2.le,e2.nle,e2.one,fun k hk=>by simp only;rw [g5.1,g2],fun k j a v hk ha hv=> ?_⟩⟩⟩;have hk:k<ob.n:=hk
    obtain rfl:k=0:=by omega
    have hj:j<vs.length:=by rw [←g5.1];exact (List.getElem?_eq_some_iff.1 ha).1
    have hv':=g3 j _ (List.getElem?_eq_getElem hj)
    simp only at hv;rw [hv'] at hv;injection hv with hv
    subst hv;exact (g5.2 j a _ ha (List.getElem?_eq_getElem hj)).mono (fun b _ hb=>hoo b hb) (fun _ _ _=>rfl) _ fun _ _ h=>h
  ·rw [List.getElem?_set_ne he] at h1
   have hst':o1.st<2:=by
    split at h2 <;>rw [←h2] at hs
    ·simp at hs;omega
    ·exact hs
   exact (hr.H.obj k o1 h1 hst').mono (fun b _ hb=>(hoo b hb).1) (fun _ _ _=>rfl) (fun _ _ h=>h) fun _ _ _=>rfl
 split at h2 <;>rw [←h2]
 ·obtain ⟨hz,hc⟩:=hfin;exact ⟨hz,hc.imp (fun h=>h) fun ⟨b,m,cur,e1,e2⟩=>⟨b,m,cur,e1,⟨e2.blk,e2.size,e2.le,e2.nle,e2.one,e2.flen,e2.cell⟩⟩⟩
 ·exact hfin
theorem Y' (x:Value):zB 4 (.lit x)=true:=rfl
theorem Xl (a b:Nat) (t:Bool) (f:Nat→List AV):zB 4 (.sl a b t f)=true:=rfl
theorem Xn (c:List AV):zB 4 (.ip c)=true:=rfl
theorem Y8 (a b:Nat) (f:Nat→List AV):zB 4 (.arr a b f)=true:=rfl
theorem xa (a b c d:Nat) (e:Option Nat):zB 4 (.row a b c d e)=false:=rfl
theorem Y7 (a b c d:Nat):zB 4 (.ptr a b c d)=false:=rfl
theorem Xm (f:Fn) (a b:List AV):zB 4 (.fn f a b)=(a.all (zB 3) && b.all (zB 3)):=rfl
theorem xb (x:Value):zB 3 (.lit x)=true:=rfl
theorem Xq (a b:Nat) (t:Bool) (f:Nat→List AV):zB 3 (.sl a b t f)=true:=rfl
theorem Xr (c:List AV):zB 3 (.ip c)=true:=rfl
theorem Y2 (a b c d:Nat) (e:Option Nat):zB 3 (.row a b c d e)=false:=rfl
theorem Y6 (a b c d:Nat):zB 3 (.ptr a b c d)=false:=rfl
theorem W_ (id T sz n st:Nat) (f:Nat→List AV) (b:Bool):z7 id ⟨T,sz,n,f,st,true,b⟩=⟨T,sz,n,f,st,true,b⟩:=rfl
theorem W0 (id T sz n st:Nat) (f:Nat→List AV) (b:Bool):z7 id ⟨T,sz,n,f,st,false,b⟩=⟨T,sz,n,fun k=>(f k).map (ZO id 4),st,false,b⟩:=rfl
theorem yS (g:Nat→Option Nat) (T sz n st:Nat) (f:Nat→List AV) (b:Bool):Z4 g ⟨T,sz,n,f,st,true,b⟩=⟨T,sz,n,f,st,true,b⟩:=rfl
theorem Yt (g:Nat→Option Nat) (T sz n st:Nat) (f:Nat→List AV) (b:Bool):Z4 g ⟨T,sz,n,f,st,false,b⟩=⟨T,sz,n,fun k=>(f k).map (ren g 4),st,false,b⟩:=rfl
theorem Wf (a b:Nat):Nat.beq a b=(a==b):=by rw [Bool.eq_iff_iff,beq_iff_eq];exact Nat.beq_eq▸Iff.rfl
theorem QP (hw:zS l σ o=some true) {fo:Operand} {ao:List Operand} {ts:Array TypeId} (ho:o.op= .call {callee:= .value fo,args:=ao.toArray,argTypes:=ts}) {f:FuncId} {fa ca:List AV} (hf:σ.ev fo= .fn (.func f) fa ca) (hg:ze P f)
 {q:Prop} {args' args'':List AV} {used:List Nat} (ht:Yf (thaw σ.H 4) (fa++ao.map σ.ev++ca)=some (q,args',used)) (hq:q) {x:AV} {N:List zb} (h:APure P f args'' x N) (hl:LeS args' args'')
 (next:AL P r l Q R (St.put ⟨σ.s,Z' used 0 σ.H++N.map (Z4 (sh σ.H.length)),σ.fg,σ.nb⟩ o.dst (ren (sh σ.H.length) 4 x))):AL P r l Q (o::R) σ:=xB hw ho hf hg ht hq (h.le hl) next
theorem zdx (hw:zS l σ' o=some true) {fo:Operand} {ao:List Operand} {ts:Array TypeId} (ho:o.op= .call {callee:= .value fo,args:=ao.toArray,argTypes:=ts}) {f:FuncId} {fa ca:List AV} (hf:σ'.ev fo= .fn (.func f) fa ca) (hg:ze P f)
 (hid:(fa++ao.map σ'.ev++ca).all (zB 4)=true) {args'':List AV} {x y:AV} {N:List zb} {q:Prop} {used:List Nat} (h:APure P f args'' x N) (hl:LeS (fa++ao.map σ'.ev++ca) args'') (ht:thaw N 4 x=some (q,y,used)) (hq:q) (next:ADr P r l Q m σ R (σ'.put o.dst y)):ADr P r l Q m σ (o::R) σ':=
 zhL hw ho hf hg hid (h.le hl) ht hq next
theorem uM {rs:List ResultVar} {q:Prop} {x y:AV} {N:List zb} (h:QA tab σ rs=some (q,[y])) (hq:q) (ht:Tells ⟨[y],σ.H,σ.fg,σ.nb⟩ ⟨[x],N,σ.fg,σ.nb⟩):zU tab rs (fun r' H' _=>r'=x∧H'=N) .ret σ:=Z9 h hq [x] N ht ⟨rfl,rfl⟩
theorem zfq {rs:List ResultVar} {q:Prop} {l l':List AV} {N:List zb} (h:QA tab σ rs=some (q,l)) (hq:q) (hl:qJ l'= .tup l') (ht:Tells ⟨l,σ.H,σ.fg,σ.nb⟩ ⟨l',N,σ.fg,σ.nb⟩):zU tab rs (fun r' H' _=>r'= .tup l'∧H'=N) .ret σ:=Z9 h hq l' N ht ⟨hl,rfl⟩
theorem Tells.all {s:List AV} {H:List zb} {fg:List Nat} {nb:YB} {s':List AV} (hk:zaw [] nb.n=true) (hl:LeS (s.map (ren (idx []) 4)) s'):Tells ⟨s,H,fg,nb⟩ ⟨s',[],fg,nb⟩:=(Tells.sel [] rfl hk).trans (Tells.le hl .nil)
theorem JR {e:Enc α} {sz n:Nat} {t:Bool} {xs:List α} {css:List (List AV)} (h:css=xs.map e.enc) (hn:n=xs.length):AV.Le (.sl sz n t (WH css)) (.sl sz xs.length false (fE e xs)):=
 .sl hn (fun h=>by cases h) fun k hk=>ziU h (hn▸hk)
theorem u4 {e:Enc α} {sz n:Nat} {lo hi:Option Int} {t t':Bool} {xs ys:List α} (hn:n=xs.length) (hok:Zh hi n≤n) (ht:t'=true→t=true) (hy:ys=(xs.take (Zh hi n)).drop (zK lo)):
 AV.Le (.sl sz (zO lo hi n) t (vV lo (fE e xs))) (.sl sz ys.length t' (fE e ys)):=by
 subst hn hy;refine .sl ?_ ht fun k hk=> ?_
 ·rw [YR,List.length_drop,List.length_take,Nat.min_eq_left hok]
 ·rw [YR] at hk;rw [kr];simp only [fE,List.getD_eq_getElem?_getD,List.getElem?_drop,List.getElem?_take];rw [if_pos (by omega)]
def ziF (P:Program) (f g:FuncId) (T:TypeId):Prop:= ∀(p:Option Addr) (v:Value) (w:World),Calls P f #[.pointer p,v] w fun e w'=>e= .returned (.func (.func g) #[] #[v, .pointer (some ⟨w.heap.size,0,none⟩)])∧w'=w.alloc (.cells #[.pointer p] T)
theorem zb' {ev:Operand→AV} {H0:List zb} {id:Nat} {o:Oper} {fo x:Operand} {ts:Array TypeId} (ho:o.op= .call {callee:= .value fo,args:= #[x],argTypes:=ts}) {f g:FuncId} {c:AV} (hf:ev fo= .fn (.func f) [] [c]) (hg:ze P f)
 {i sz k off:Nat} (hx:ev x= .ptr i sz k off) {T:TypeId} (hc:ziF P f g T):Vd P ev H0 id o ⟨.fn (.func g) [] [c, .ptr id 1 0 0],some {T:=T,sz:=1,n:=1,f:=fun _=>[.ptr i sz k off],pure:=false,box:=true}⟩:=by
 obtain ⟨fn,cd,hfn,hnm,hb⟩:=hg;intro w X μ H ρ hH hle hr;have hfv:=hr fo (by rw [ho];simp [Op.operands,Call.operands]);have hxv:=hr x (by rw [ho];simp [Op.operands,Call.operands]);rw [hf] at hfv;rw [hx] at hxv;generalize hgv:ρ fo=fv at hfv;generalize hpv:ρ x=pv at hxv;cases hxv with
 |ptr hp=>
  rename_i b0 m0;cases hfv with
  |fn h1 h2 h3 h4=>
   rename_i vs us;cases vs with
   |cons=>simp at h1
   |nil=>
    match us,h3 with
    |[v2],_=>
     have hv2:=h4 0 c v2 rfl rfl;refine QN (ao:=[x]) ho hgv hfn hnm hb ?_;have:=hc (some ⟨b0,k*sz+off,none⟩) v2 w
     have he:([]++[x].map ρ++[v2]).toArray= #[.pointer (some ⟨b0,k*sz+off,none⟩),v2]:=by rw [←hpv];rfl
     rw [he];refine this.mono fun e w' he=> ?_
     obtain ⟨rfl,rfl⟩:=he;have hal:Below w.heap.size w (w.alloc (.cells #[.pointer (some ⟨b0,k*sz+off,none⟩)] T)):=Below.alloc (Below.refl _ _) (Nat.le_refl _) _
     refine ⟨_,rfl,hal,w.heap.size,1,#[.pointer (some ⟨b0,k*sz+off,none⟩)],Nat.le_refl _, ?_,Nat.zero_lt_one,rfl,⟨heap_alloc_new w _,rfl, ?_,Nat.le_refl _,fun k j v hk hj hv=> ?_,fun k hk=>rfl,fun k j a v hk ha hv=> ?_⟩,fun O' μ' hO hμ hm=> ?_⟩
     ·simp
     ·unfold maxLen;omega
     ·have hk:k<1:=hk
      have hj:j<1:=hj
      obtain rfl:k=0:=by omega
      obtain rfl:j=0:=by omega
      have hv:some (Value.pointer (some ⟨b0,_,none⟩))=some v:=hv
      injection hv with hv;subst hv;rfl
     ·have hk:k<1:=hk
      obtain rfl:k=0:=by omega
      match j with
      |0=>
       have ha:some (AV.ptr i sz _ off)=some a:=ha
       have hv:some (Value.pointer (some ⟨b0,_,none⟩))=some v:=hv
       injection ha with ha;injection hv with hv;subst ha hv
       exact .ptr hp
      |j+1=>cases ha
     ·refine .fn (vs:=[]) (us:=[v2,_]) rfl (fun j a v ha=>by simp at ha) rfl fun j a v ha hv=> ?_
      match j with
      |0=>
       simp at ha hv;subst ha hv
       exact hv2.mono (fun b hb hb'=>(hO b hb').elim (fun h=>h) fun h=>by omega) (fun b hb _=>hal.block b hb) _ hμ
      |1=>
       simp at ha hv;subst ha hv
       exact (show RV O' _ μ' (.ptr id 1 0 0) (.pointer (some ⟨w.heap.size,0*1+0,none⟩)) from .ptr hm)
      |j+2=>simp at ha
theorem zco (hw:zS l σ' o=some true) {fo x:Operand} {ts:Array TypeId} (ho:o.op= .call {callee:= .value fo,args:= #[x],argTypes:=ts}) {f g:FuncId} {c:AV} (hf:σ'.ev fo= .fn (.func f) [] [c]) (hg:ze P f)
 {i sz k off:Nat} (hx:σ'.ev x= .ptr i sz k off) {T:TypeId} (hc:ziF P f g T)
 (next:ADr P r l Q m σ R (St.put ⟨σ'.s,σ'.H++[{T:=T,sz:=1,n:=1,f:=fun _=>[.ptr i sz k off],pure:=false,box:=true}],σ'.fg,σ'.nb⟩ o.dst (.fn (.func g) [] [c, .ptr σ'.H.length 1 0 0]))):ADr P r l Q m σ (o::R) σ':=
 Qm hw (zb' ho hf hg hx hc) (by rw [PJ];exact next)
theorem Qg {q:Prop} {y:AV} {H':List zb} {id:Nat} {ob:zb} {t:TypeId} {sx xx:Operand} (f':Nat→List AV) (hT:zI P tab) (hw:zS l σ o=some true) (ho:o.op= .call {callee:= .builtin .append,args:= #[sx,xx],argTypes:= #[t,t]})
 (h:jK tab σ.H t (σ.ev sx) (σ.ev xx)=some (q,y,H',some id)) (hob:nth H' id=some ob) (hq:q) (hf: ∀k,k<ob.n→f' k=ob.f k)
 (next:AL P r l Q R ((σ.behind (setn H' id {ob with f:=f'}) (some id)).put o.dst y)):AL P r l Q (o::R) σ:=by
 refine ZT hT hw ho h hq ?_;refine zz (σ':=(σ.behind (setn H' id {ob with f:=f'}) (some id)).put o.dst y) ?_ next;cases hd:o.dst <;>exact Tells.objf id f' hob hf
end
section
variable {P:Program} {tab:Tab} {X:Nat→Prop} {H H':List zb} {μ μ':Mu} {w w':World} {r:Option Nat} {l R:List Oper} {Q:Exit→St→Prop} {σ:St} {o:Oper}
theorem HRel.drew (h:HRel μ X H w):HRel μ X H w.drew:=
 ⟨h.dom,h.inj,h.lt,fun i o hi hs=>ObjAt.mono (w:=w) (w':=w.drew) (fun _ _ h=>h) (fun _ _ _=>rfl) (fun _ _ h=>h) (fun _ _ _=>rfl) (h.obj i o hi hs),h.xlt,h.gl.step (w':=w.drew) (Nat.le_refl _) (fun _ _ _ _=>rfl) (fun _ h=> .inl h) fun i b m h=> .inl ⟨i,m,h⟩,MapsOk.mono (w:=w) (w':=w.drew) h.mp (fun _ _ h=>h) (fun _ _ _=>rfl) fun i o hi _=>⟨i,o,hi, .refl o,fun _ h=>h,fun _ _ _=>rfl⟩⟩
theorem RV.drew {O:Nat→Prop} {a:AV} {v:Value} (h:RV O w μ a v):RV O w.drew μ a v:=RV.mono (w:=w) (w':=w.drew) (fun _ _ h=>h) (fun _ _ _=>rfl) h _ fun _ _ h=>h
theorem Je (hH:HRel μ X H w) {S:Sem Next} {T sz n cap:Nat} {f:Nat→List AV} {cur:Array Value} (hz:0<sz) (hrun:S.run P w= .ok (.value (.slice (some ⟨w.heap.size,0,none⟩) n cap)) (w.drew.alloc (.cells cur T))) (hn:n≤cap) (hm:cap≤maxLen) (hsz:cur.size=cap*sz)
 (h1: ∀(k j:Nat) v,k<n→j<sz→cur[k*sz+j]?=some v→v.oneCell'=true) (hf: ∀k,k<n→(f k).length=sz) (hc: ∀(k j:Nat) a v,k<n→(f k)[j]?=some a→cur[k*sz+j]?=some v→RV (OO X H μ) w noMu a v):
 wY P S X μ H w (.row H.length sz 0 n none) (H++[{T:=T,sz:=sz,n:=n,f:=f}]) none:=by
 have hH':=hH.drew
 obtain ⟨g1,g2,g3,g4,g5⟩:=hH'.new (o:={T:=T,sz:=sz,n:=n,f:=f}) (m:=cap) (cur:=cur) hz hsz hm hn h1 hf (hst:=rfl) fun k j a v hk ha hv=>(hc k j a v hk ha hv).drew
 refine ⟨_,_,_,_,hrun, .inl rfl,g1,fun i b m hi=>(g3 i b m hi),(Chg.drew μ w).trans (Ext.refl _ _) g4, ?_,fun k a v h=>⟨g5 k h.drew,fun _=>g5 k h.drew⟩⟩;have:=RV.row (O:=OO X (H++[{T:=T,sz:=sz,n:=n,f:=f}]) (fun i=>if i=H.length then some (some (w.drew.heap.size,cap)) else μ i)) (w:=w.drew.alloc (.cells cur T)) (μ:=fun i=>if i=H.length then some (some (w.drew.heap.size,cap)) else μ i) (i:=H.length) (sz:=sz) (off:=0) (n:=n) (b:=w.heap.size) (m:=cap) (c:=cap) (cap:=none) (by simp) hn (by omega) (fun q hq=>by cases hq) (fun _=>by omega)
 simpa using this
def kG (sz:Nat):AV→Option (Nat×(Nat→List AV))
 | .sl sz' n true f=>match Nat.beq sz' sz with|true=>some (n,f)|false=>none
 | .lit (.slice none 0 0)=>some (0,fun _=>[])
 |_=>none
theorem Tg {sz n:Nat} {f:Nat→List AV} {y:AV} (hz:0<sz) (h:kG sz y=some (n,f)) {v:Value} (hv:RV (OO X H μ) w μ y v): ∃(A:Option Addr) (olds:List Value),v= .slice A n n∧n≤maxLen∧olds.length=n*sz∧(∀u∈olds,u.oneCell'=true)∧
 (Builtin.firstCells sz n (.slice A n n)).run P w.drew= .ok olds.toArray w.drew∧(∀k,k<n→(f k).length=sz)∧ ∀(k j:Nat) a v,k<n→(f k)[j]?=some a→olds[k*sz+j]?=some v→RV (OO X H μ) w noMu a v:=by
 unfold kG at h;split at h
 ·rename_i sz1 n1 f1;split at h
  ·rename_i hb;injection h with h;injection h with e1 e2;subst e1 e2
   have hb:=ZD hb;subst hb;cases hv with
   |sl ho hc hm ht h1 h2 h3 hz' hA=>
    rename_i A c vs;obtain rfl:=ht rfl;refine ⟨A,vs,rfl,hm,h1,ho, ?_,h2,h3⟩;by_cases hn:c=0
    ·subst hn;obtain rfl:vs=[]:=List.eq_nil_of_length_eq_zero (by simpa using h1);cases A with
     |none=>exact run_firstCells_none w.drew sz1 0 0 0
     |some a=>exact run_firstCells_some w.drew sz1 0 a 0 0 [] (by simp) (by simp)
    ·obtain ⟨g,q,rfl,_,hcell⟩:=hA hn;refine run_firstCells_some w.drew sz1 c ⟨g,q,none⟩ c c vs h1 fun j u hu=> ?_
     have hadd:(⟨g,q,none⟩:Addr).add j=⟨g,q+j,none⟩:=by simp [Addr.add_lit]
     rw [hadd];simpa using hcell j u hu
  ·cases h
 ·injection h with h;injection h with e1 e2;subst e1 e2
  cases hv
  exact ⟨none,[],rfl,Nat.zero_le _,by simp,fun u hu=>by simp at hu,run_firstCells_none w.drew sz 0 0 0,fun k hk=>by omega,fun k j a v hk=>by omega⟩
 ·cases h
def zaa (tab:Tab) (H:List zb) (t:TypeId) (s x:AV):Option (Prop×AV×zb):=
 match tab t with
 |some i=>match i.k with
  | .slice e=>match tab e with
    |some ei=>match JV H ei.sz x,kG ei.sz s,Nat.blt 0 ei.sz with
     |some (q,m,g),some (n,f),true=>some (q∧0<m∧(n+m)*ei.by_≤140737488355328∧n+m≤140737488355328, .row H.length ei.sz 0 (n+m) none,{T:=e,sz:=ei.sz,n:=n+m,f:=xY n f g})
     |_,_,_=>none
    |none=>none
  |_=>none
 |none=>none
def tO (tab:Tab) (H:List zb) (t ti:TypeId) (s x:AV):Option (Prop×AV×zb):=
 match tab t,tab ti,x with
 |some i,some ii, .lit (.int _ z)=>match i.k,ii.k with
  | .slice e, .int _=>match tab e with
    |some ei=>match kG ei.sz s,Nat.blt 0 ei.sz with
     |some (n,f),true=>some (0<z∧(n+z.toNat)*ei.by_≤140737488355328∧n+z.toNat≤140737488355328, .row H.length ei.sz 0 (n+z.toNat) none,{T:=e,sz:=ei.sz,n:=n+z.toNat,f:=xY n f fun _=>lits ei.zeroCells})
     |_,_=>none
    |none=>none
  |_,_=>none
 |_,_,_=>none
theorem KJ {sz n m:Nat} {f g:Nat→List AV} {olds news:List Value} {cur:Array Value} {rest:List Value} (hcur:cur.toList=olds++news++rest) (h1:olds.length=n*sz) (h2: ∀u∈olds,u.oneCell'=true) (h3: ∀k,k<n→(f k).length=sz) (h4: ∀(k j:Nat) a v,k<n→(f k)[j]?=some a→olds[k*sz+j]?=some v→RV (OO X H μ) w noMu a v)
 (g1:news.length=m*sz) (g2: ∀u∈news,u.oneCell'=true) (g3: ∀k,k<m→(g k).length=sz) (g4: ∀(k j:Nat) a v,k<m→(g k)[j]?=some a→news[k*sz+j]?=some v→RV (OO X H μ) w noMu a v):
 (∀(k j:Nat) v,k<n+m→j<sz→cur[k*sz+j]?=some v→v.oneCell'=true)∧(∀k,k<n+m→(xY n f g k).length=sz)∧ ∀(k j:Nat) a v,k<n+m→(xY n f g k)[j]?=some a→cur[k*sz+j]?=some v→RV (OO X H μ) w noMu a v:=by
 have hlen: ∀k,k<n+m→(xY n f g k).length=sz:=fun k hk=>by
  by_cases hkn:k<n
  ·rw [xU hkn];exact h3 k hkn
  ·rw [Ym (by omega)];exact g3 _ (by omega)
 have hat: ∀(k j:Nat) v,k<n+m→j<sz→cur[k*sz+j]?=some v→(k<n∧olds[k*sz+j]?=some v)∨(n≤k∧news[(k - n)*sz+j]?=some v):=fun k j v hk hj hv=>by
  rw [←Array.getElem?_toList,hcur,List.append_assoc] at hv;by_cases hkn:k<n
  ·have:(k+1)*sz≤n*sz:=Nat.mul_le_mul_right _ hkn
   rw [Nat.add_mul] at this;rw [List.getElem?_append_left (by omega)] at hv;exact .inl ⟨hkn,hv⟩
  ·have h5:n*sz≤k*sz:=Nat.mul_le_mul_right _ (by omega)
   rw [List.getElem?_append_right (by omega)] at hv;have h6:k*sz+j - olds.length=(k - n)*sz+j:=by rw [h1,Nat.sub_mul];omega
   rw [h6] at hv;have h7:(k - n+1)*sz≤m*sz:=Nat.mul_le_mul_right _ (by omega)
   rw [Nat.add_mul] at h7;rw [List.getElem?_append_left (by omega)] at hv;exact .inr ⟨by omega,hv⟩
 refine ⟨fun k j v hk hj hv=> ?_,hlen,fun k j a v hk ha hv=> ?_⟩
 ·rcases hat k j v hk hj hv with ⟨_,h⟩|⟨_,h⟩
  ·exact h2 v (List.mem_of_getElem? h)
  ·exact g2 v (List.mem_of_getElem? h)
 ·have hj:j<sz:=by rw [←hlen k hk];exact (List.getElem?_eq_some_iff.1 ha).1
  rcases hat k j v hk hj hv with ⟨hkn,h⟩|⟨hkn,h⟩
  ·rw [xU hkn] at ha;exact h4 k j a v hkn ha h
  ·rw [Ym hkn] at ha;exact g4 _ j a v (by omega) ha h
theorem al_appnew (hT:zI P tab) (hw:zS l σ o=some true) {t:TypeId} {sx xx:Operand} (ho:o.op= .call {callee:= .builtin .append,args:= #[sx,xx],argTypes:= #[t,t]}) {q:Prop} {y:AV} {ob:zb}
 (h:zaa tab σ.H t (σ.ev sx) (σ.ev xx)=some (q,y,ob)) (hq:q) (next:AL P r l Q R (St.put ⟨σ.s,σ.H++[ob],σ.fg,σ.nb⟩ o.dst y)):AL P r l Q (o::R) σ:=by
 refine xu (H':=σ.H++[ob]) (fg:=none) hw (fun c hc=>by rw [ho] at hc;cases hc) (fun B μ a w hr=>⟨?_,by simp⟩) next
 have hex:execOp a.eval o=(do pure (.value (←Builtin.append_ #[t,t] o.type #[a.eval sx,a.eval xx])):Sem Next):=by
  unfold execOp;rw [ho];simp [resolve,invoke,builtin]
 rw [hex];have hs:=hr.ev sx;have hx:=hr.ev xx;unfold zaa at h;split at h
 ·rename_i i hi;split at h
  ·rename_i e hk;split at h
   ·rename_i ei he;split at h
    ·rename_i q' m g n f hsrc hti hz;injection h with h;injection h with e0 h;injection h with e1 e2
     subst e0 e1 e2;obtain ⟨q1,q2,q3,q4⟩:=hq;rw [Nat.blt_eq] at hz;obtain ⟨A,c,news,g1,g2,g3,g4,g5,g6⟩:=um hr.H hsrc q1 hx;obtain ⟨A',olds,k1,k2,k3,k4,k5,k6,k7⟩:=Tg (P:=P) hz hti hs;obtain ⟨a',rfl,gc⟩:=g4 (by omega);have hu:=(hT t i hi).und
     rw [hk] at hu;simp only [yz] at hu;obtain ⟨fi,hf,hfs,hfb,zv,hzv,hzc⟩:=(hT e ei he).info;have hzs:zv.cells.size=ei.sz:=by rw [←Array.length_toList,hzc,(hT e ei he).zlen]
     have hsrc':Src P fi.size t (.slice (some a') m c) m news w:=Src.ofSlice w hu a' m c news (by rw [hfs];exact g2) gc g3
     have hrun:=run_append_grow_src (P:=P) w t t o.type e fi zv hu hf hzv A' n n olds (by rw [hfs];exact k5) _ m news hsrc' (by omega) (by omega) (by rw [hfb];exact growslice_fits (by omega) q3);rw [k1,g1];have hge:=grownCap_ge w (n+m) n e;obtain ⟨c1,c2,c3⟩:=KJ (cur:=(olds++news).toArray++Builtin.zeroCells zv.cells (grownCap w (n+m) n e - (n+m))) (rest:=(Builtin.zeroCells zv.cells (grownCap w (n+m) n e - (n+m))).toList) (by simp) k3 k4 k6 k7 g2 g3 g5 g6;refine Je hr.H hz (cap:=grownCap w (n+m) n e) (by rw [Sem.run_bind,hrun];rfl) hge (grownCap_le_maxLen w _ _ _ (by unfold maxLen;omega)) ?_ c1 c2 c3;simp only [Array.size_append,List.size_toArray,List.length_append,size_zeroCells,hzs,k3,g2,←Nat.add_mul];congr 1;omega
    ·cases h
   ·cases h
  ·cases h
 ·cases h
theorem kX (hT:zI P tab) (hw:zS l σ o=some true) {t ti:TypeId} {sx xx:Operand} (ho:o.op= .call {callee:= .builtin .append,args:= #[sx,xx],argTypes:= #[t,ti]}) {q:Prop} {y:AV} {ob:zb}
 (h:tO tab σ.H t ti (σ.ev sx) (σ.ev xx)=some (q,y,ob)) (hq:q) (next:AL P r l Q R (St.put ⟨σ.s,σ.H++[ob],σ.fg,σ.nb⟩ o.dst y)):AL P r l Q (o::R) σ:=by
 refine xu (H':=σ.H++[ob]) (fg:=none) hw (fun c hc=>by rw [ho] at hc;cases hc) (fun B μ a w hr=>⟨?_,by simp⟩) next
 have hex:execOp a.eval o=(do pure (.value (←Builtin.append_ #[t,ti] o.type #[a.eval sx,a.eval xx])):Sem Next):=by
  unfold execOp;rw [ho];simp [resolve,invoke,builtin]
 rw [hex];have hs:=hr.ev sx;have hx:=hr.ev xx;unfold tO at h;split at h
 ·rename_i i ii kz z hi hii hxe;split at h
  ·rename_i e kn hk hkn;split at h
   ·rename_i ei he;split at h
    ·rename_i n f hti hz;injection h with h;injection h with e0 h;injection h with e1 e2
     subst e0 e1 e2;obtain ⟨q1,q2,q3⟩:=hq;rw [Nat.blt_eq] at hz;rw [hxe] at hx;obtain ⟨A',olds,k1,k2,k3,k4,k5,k6,k7⟩:=Tg (P:=P) hz hti hs;have hu:=(hT t i hi).und
     rw [hk] at hu;simp only [yz] at hu;have hui:=(hT ti ii hii).und
     rw [hkn] at hui;simp only [yz] at hui;obtain ⟨fi,hf,hfs,hfb,zv,hzv,hzc⟩:=(hT e ei he).info;have hzs:zv.cells.size=ei.sz:=by rw [←Array.length_toList,hzc,(hT e ei he).zlen]
     have hzz:((z.toNat:Nat):Int)=z:=by omega
     have hrun:=Lib.run_append_grow_zeros (P:=P) w t ti o.type e fi zv kz kn hu hui hf hzv A' n n olds (by rw [hfs];exact k5) z.toNat (by omega) (by rw [hfs];exact hz) (by omega) (by omega) (by
      rw [hfb];have:z.toNat*ei.by_≤(n+z.toNat)*ei.by_:=Nat.mul_le_mul_right _ (by omega)
      omega) (by rw [hfb];exact growslice_fits (by omega) q2)
     rw [hzz] at hrun;rw [k1,hx.lit_eq];have hge:=grownCap_ge w (n+z.toNat) n e
     have hzcell: ∀(m k j:Nat),k<m→j<ei.sz→(Builtin.zeroCells zv.cells m)[k*ei.sz+j]?=ei.zeroCells[j]?:=fun m k j hk hj=>by
      have h1:k*ei.sz+j<m*ei.sz:=by
       have:(k+1)*ei.sz≤m*ei.sz:=Nat.mul_le_mul_right _ hk
       rw [Nat.add_mul] at this;omega
      simp only [Builtin.zeroCells,hzs];rw [Array.getElem?_map,Array.getElem?_range];simp only [h1,if_true,Option.map_some];have h2:(k*ei.sz+j) % ei.sz=j:=by rw [Nat.mul_comm,Nat.mul_add_mod];exact Nat.mod_eq_of_lt hj
      rw [h2,←hzc];have h3:j<zv.cells.size:=by omega
      simp [h3]
     have hg4: ∀(k j:Nat) a v,k<z.toNat→(lits ei.zeroCells)[j]?=some a→(Builtin.zeroCells zv.cells z.toNat).toList[k*ei.sz+j]?=some v→RV (OO B.X σ.H μ) w noMu a v:=fun k j a v hk ha hv=>by
      simp only [lits,List.getElem?_map,Option.map_eq_some_iff] at ha;obtain ⟨u,hu,rfl⟩:=ha;have hj:j<ei.sz:=by rw [←(hT e ei he).zlen];exact (List.getElem?_eq_some_iff.1 hu).1
      rw [Array.getElem?_toList,hzcell _ _ _ hk hj,hu] at hv;injection hv with hv;subst hv
      exact .lit _
     have hone: ∀u∈(Builtin.zeroCells zv.cells z.toNat).toList,u.oneCell'=true:=fun u hu=>by
      obtain ⟨k,hk⟩:=List.getElem?_of_mem hu;have hlt:k<z.toNat*ei.sz:=by have:=(List.getElem?_eq_some_iff.1 hk).1;simpa [size_zeroCells,hzs] using this
      have hjm:k % ei.sz<ei.sz:=Nat.mod_lt _ hz
      rw [←Nat.div_add_mod' k ei.sz,Array.getElem?_toList,hzcell _ _ _ ((Nat.div_lt_iff_lt_mul hz).2 hlt) hjm] at hk;exact (hT e ei he).zone u (List.mem_of_getElem? hk)
     obtain ⟨c1,c2,c3⟩:=KJ (g:=fun _=>lits ei.zeroCells) (news:=(Builtin.zeroCells zv.cells z.toNat).toList) (m:=z.toNat) (cur:=olds.toArray++Builtin.zeroCells zv.cells z.toNat++Builtin.zeroCells zv.cells (grownCap w (n+z.toNat) n e - (n+z.toNat))) (rest:=(Builtin.zeroCells zv.cells (grownCap w (n+z.toNat) n e - (n+z.toNat))).toList) (by simp) k3 k4 k6 k7 (by simp [size_zeroCells,hzs]) hone (fun k _=>by simp [lits,(hT e ei he).zlen]) hg4;refine Je hr.H hz (cap:=grownCap w (n+z.toNat) n e) (by rw [Sem.run_bind,hrun];rfl) hge (grownCap_le_maxLen w _ _ _ (by unfold maxLen;omega)) ?_ c1 c2 c3;simp only [Array.size_append,List.size_toArray,size_zeroCells,hzs,k3,←Nat.add_mul];congr 1;omega
    ·cases h
   ·cases h
  ·cases h
 ·cases h
theorem zkz {n:Nat} {f g:Nat→List AV} (h: ∀k,k<n→g k=f k):AV.Le (.arr 1 n f) (.arr 1 n g):=fun O w μ v hv=>by
 cases hv with
 |arr h0 h1 h2 h3=>exact .arr h0 h1 (fun k hk=>by rw [h k hk];exact h2 k hk) fun k j a v hk ha hv=>h3 k j a v hk (by rw [←h k hk];exact ha) hv
theorem uJ {a b:AV} (h:AV.Le a b):LeS [a] [b]:= .cons h .nil
theorem zhV {a b c d:AV} (h:AV.Le a b) (h':AV.Le c d):LeS [a,c] [b,d]:= .cons h (uJ h')
theorem zen {rs:List ResultVar} {K:AV→List zb→List Nat→Prop} {q:Prop} {l:List AV} (h:QA tab σ rs=some (q,l)) (hq:q) (l':List AV) (H':List zb) (ht:Tells ⟨l,σ.H,σ.fg,σ.nb⟩ ⟨l',H',σ.fg,σ.nb⟩) (hk:K (qJ l') H' σ.fg):zU tab rs K .normal σ:=⟨q,l,h,hq,l',H',ht,hk⟩
theorem ACall.le {f:FuncId} {args args':List AV} {H:List zb} {K:AV→List zb→List Nat→Prop} (h:ACall P f args' H K) (hl:LeS args args'):ACall P f args H K:=fun w X μ vs hH hv=>h w X μ vs hH (hl.rvs hv)
theorem APure.res {f:FuncId} {args:List AV} {x y:AV} {N:List zb} (h:APure P f args x N) (hl:AV.Le x y):APure P f args y N:=by
 unfold APure ACall at*;intro w X μ vs hH hv;refine (h w X μ vs hH hv).mono fun e w' he=> ?_
 obtain ⟨v,r',H',fg,μ',e1,⟨rfl,e2⟩,g1,g2,g3⟩:=he;exact ⟨v,y,H',fg,μ',e1,⟨rfl,e2⟩,g1,hl _ _ _ _ g2,g3⟩
theorem zkp (hw:zS l σ o=some true) (hd: ∀c,o.op≠ .defer c) {x:AV} (h: ∀(B:Base P) (μ:Mu) (a:Act) (w:World),SRel B μ σ a w→ ∃u,(execOp a.eval o).run P w= .ok (.value u) w∧RV (OO B.X σ.H μ) w μ x u) (next:AL P r l Q R (σ.put o.dst x)):AL P r l Q (o::R) σ:=by
 refine xu (H':=σ.H) (fg:=none) hw hd (fun B μ a w hr=> ?_) (by simpa [St.behind] using next);obtain ⟨u,h1,h2⟩:=h B μ a w hr;exact ⟨⟨_,u,w,μ,h1, .inl rfl,hr.H,Ext.refl _ _,Chg.refl _ _,h2,fun k a v h=>⟨h,fun _=>h⟩⟩,Nat.le_refl _⟩
def zkU:AV→Option Nat
 | .sl _ n true _=>some n
 | .lit (.slice none 0 0)=>some 0
 |_=>none
theorem zdl (hT:zI P tab) (hw:zS l σ o=some true) {t:TypeId} {x:Operand} (ho:o.op= .call {callee:= .builtin .cap,args:= #[x],argTypes:= #[t]}) (ht:kB tab t=true) {n:Nat} (hx:zkU (σ.ev x)=some n)
 (next:AL P r l Q R (σ.put o.dst (.lit (.int .i64 n)))):AL P r l Q (o::R) σ:=by
 refine zkp hw (fun c hc=>by rw [ho] at hc;cases hc) (fun B μ a w hr=> ?_) next;obtain ⟨e,he⟩:=k9 hT ht;have hv:=hr.ev x;refine ⟨.int .i64 n, ?_, .lit _⟩
 have: ∃A m,a.eval x= .slice A m n:=by
  unfold zkU at hx;split at hx
  ·injection hx with hx;subst hx;rename_i hh;rw [hh] at hv
   generalize a.eval x=v at hv;cases hv with
   |sl ho hc hm ht h1 h2 h3 hz hA=>obtain rfl:=ht rfl;exact ⟨_,_,rfl⟩
  ·injection hx with hx;subst hx;rename_i hh;rw [hh] at hv
   exact ⟨_,_,hv.lit_eq⟩
  ·cases hx
 obtain ⟨A,m,hm⟩:=this;unfold execOp;rw [ho];simp [resolve,invoke,builtin,Builtin.cap_,hm,run_underlying he,goInt]
end
section
def ZR (n:Int):UInt8:=UInt8.ofNat (n % 256).toNat
theorem Tr (n:Int):((ZR n).toNat:Int)=n % 256:=by
 unfold ZR;rw [UInt8.toNat_ofNat'];have:=Int.emod_nonneg n (show (256:Int)≠0 by omega)
 have:=Int.emod_lt_of_pos n (show (0:Int)<256 by omega)
 omega
def YY (n:Int):Int:=if n<0∨n>1073741823 then 0 else if n<64 then 1 else if n<16384 then 2 else 4
def qK (n:Int):List UInt8:=
 if n<0∨n>1073741823 then [] else if n<64 then [ZR n] else if n<16384 then [ZR (64+n / 256),ZR n]
 else [ZR (128+n / 16777216),ZR (n / 65536),ZR (n / 256),ZR n]
def Zm (n:Int) (l:List UInt8):Int:=l.foldl (fun n x=>n*256+x.toNat) n
def yV (x:UInt8):Nat:=if x.toNat<64 then 1 else if x.toNat<128 then 2 else if x.toNat<192 then 4 else 0
def XL:List UInt8→Int×List UInt8×Int
 |[]=>(0,[],1)
 |x::r=>
  if yV x=0 then (0,[],2) else if r.length+1<yV x then (0,[],1)
  else if YY (Zm (x.toNat % 64:Int) (r.take (yV x - 1)))≠yV x then (0,[],2)
  else (Zm (x.toNat % 64:Int) (r.take (yV x - 1)),r.drop (yV x - 1),0)
theorem pA (n:Int) (l m:List UInt8):Zm n (l++m)=Zm (Zm n l) m:=by unfold Zm;rw [List.foldl_append]
theorem Qi (n:Int) (l:List UInt8) (j:Nat) (h:j<l.length):Zm n (l.take (j+1))=Zm n (l.take j)*256+(l[j].toNat:Int):=by
 rw [List.take_succ_eq_append_getElem h,pA];rfl
theorem KT: ∀(l:List UInt8) (n m:Int),0≤n→n<m→0≤Zm n l∧Zm n l<m*256^l.length
 |[],n,m,h0,h1=>by simpa [Zm] using ⟨h0,h1⟩
 |x::l,n,m,h0,h1=>by
  have hx:=UInt8.toNat_lt x;have:=KT l (n*256+x.toNat) (m*256) (by omega) (by omega)
  refine ⟨this.1, ?_⟩;have h2:=this.2;rw [List.length_cons,Int.pow_succ,Int.mul_comm (256^l.length),←Int.mul_assoc];exact h2
theorem Ug (n:Int) (l:List UInt8) (h0:0≤n) (h1:n<64) (hl:l.length≤3):0≤Zm n l∧Zm n l<1073741824:=by
 have h:=KT l n 64 h0 h1;refine ⟨h.1,Int.lt_of_lt_of_le h.2 ?_⟩;have:l.length=0∨l.length=1∨l.length=2∨l.length=3:=by omega
 rcases this with h|h|h|h <;>rw [h] <;>decide
theorem JH (x:UInt8) (r:List UInt8):XL (x::r)=if yV x=0 then (0,[],2) else if r.length+1<yV x then (0,[],1)
 else if YY (Zm (x.toNat % 64:Int) (r.take (yV x - 1)))≠yV x then (0,[],2)
 else (Zm (x.toNat % 64:Int) (r.take (yV x - 1)),r.drop (yV x - 1),0):=rfl
theorem kv {x:UInt8} {r:List UInt8} (h1:1≤yV x) (h2:yV x≤r.length+1):
 XL (x::r)=if YY (Zm (x.toNat % 64:Int) (r.take (yV x - 1)))≠yV x then (0,[],2) else (Zm (x.toNat % 64:Int) (r.take (yV x - 1)),(x::r).drop (yV x),0):=by
 obtain ⟨q,hq⟩: ∃q,yV x=q+1:=⟨yV x - 1,by omega⟩;rw [JH,if_neg (by omega),if_neg (by omega),hq,List.drop_succ_cons,Nat.add_sub_cancel]
theorem Q_ {x:UInt8} {r:List UInt8} (h:yV x=0∨r.length+1<yV x):XL (x::r)=(0,[],if yV x=0 then 2 else 1):=by
 rw [JH];by_cases h0:yV x=0
 ·rw [if_pos h0,if_pos h0]
 ·rw [if_neg h0,if_neg h0,if_pos (h.resolve_left h0)]
theorem xE (n:Int) (h:YY n≠0):(0≤n∧n<64∧YY n=1∧qK n=[ZR n])∨(64≤n∧n<16384∧YY n=2∧qK n=[ZR (64+n / 256),ZR n])∨
 (16384≤n∧n≤1073741823∧YY n=4∧qK n=[ZR (128+n / 16777216),ZR (n / 65536),ZR (n / 256),ZR n]):=by
 unfold YY qK at*;by_cases h0:n<0∨n>1073741823
 ·rw [if_pos h0] at h;exact absurd rfl h
 ·by_cases h1:n<64
  ·left;simp [h0,h1];omega
  ·by_cases h2:n<16384
   ·right;left;simp [h0,h1,h2];omega
   ·right;right;simp [h0,h1,h2];omega
theorem JI {n:Int} (h:YY n=0):qK n=[]∧(n<0∨1073741823<n):=by
 unfold YY qK at*;by_cases h0:n<0∨n>1073741823
 ·exact ⟨if_pos h0,h0⟩
 ·rw [if_neg h0] at h;split at h
  ·cases h
  ·split at h <;>cases h
theorem zdz (b:List UInt8):(XL b).2.2=0∨((XL b).1=0∧(XL b).2.1=[]∧((XL b).2.2=1∨(XL b).2.2=2)):=by
 cases b with
 |nil=>exact .inr ⟨rfl,rfl, .inl rfl⟩
 |cons x r=>
  rw [JH];split
  ·exact .inr ⟨rfl,rfl, .inr rfl⟩
  ·split
   ·exact .inr ⟨rfl,rfl, .inl rfl⟩
   ·split
    ·exact .inr ⟨rfl,rfl, .inr rfl⟩
    ·exact .inl rfl
theorem Ks {x:UInt8} {n:Int} (h:(x.toNat:Int)=n % 256):ZR n=x:=by
 apply UInt8.toNat_inj.1
 have:=Tr n
 omega
theorem zeU (b:List UInt8) (h:(XL b).2.2=0):qK (XL b).1++(XL b).2.1=b∧YY (XL b).1≠0:=by
 cases b with
 |nil=>cases h
 |cons x r=>
  have hx:=UInt8.toNat_lt x;by_cases hb:yV x=0∨r.length+1<yV x
  ·rw [Q_ hb] at h;by_cases h0:yV x=0 <;>simp [h0] at h
  ·have h1:1≤yV x:=by omega
   have h2:yV x≤r.length+1:=by omega
   rw [kv h1 h2] at h ⊢;by_cases hv:YY (Zm (x.toNat % 64:Int) (r.take (yV x - 1)))≠yV x
   ·rw [if_pos hv] at h;cases h
   ·rw [if_neg hv];have hv:=Decidable.not_not.1 hv
    have hcs:(x.toNat<64∧yV x=1)∨(64≤x.toNat∧x.toNat<128∧yV x=2)∨(128≤x.toNat∧x.toNat<192∧yV x=4):=by
     revert h1;unfold yV
     (repeat' split) <;>omega
    rcases hcs with ⟨g1,g2⟩|⟨g1,g3,g2⟩|⟨g1,g3,g2⟩
    ·rw [g2] at hv ⊢;simp only [Nat.sub_self,List.take_zero,Zm,List.foldl_nil] at hv ⊢;have hz:YY ((x.toNat:Int) % 64)≠0:=by rw [hv];decide
     rcases xE _ hz with ⟨k0,k1,k2,k3⟩|⟨k0,k1,k2,k3⟩|⟨k0,k1,k2,k3⟩
     ·rw [k3];exact ⟨by simp;exact Ks (by omega),hz⟩
     ·omega
     ·omega
    ·obtain ⟨y,r,rfl⟩: ∃y r',r=y::r':=by cases r with|nil=>simp at h2;omega|cons y r'=>exact ⟨y,r',rfl⟩
     have hy:=UInt8.toNat_lt y;rw [g2] at hv ⊢;simp only [Nat.reduceSub,List.take_succ_cons,List.take_zero,Zm,List.foldl_cons,List.foldl_nil] at hv ⊢;have hz:YY ((x.toNat:Int) % 64*256+y.toNat)≠0:=by rw [hv];decide
     rcases xE _ hz with ⟨k0,k1,k2,k3⟩|⟨k0,k1,k2,k3⟩|⟨k0,k1,k2,k3⟩
     ·rw [k2] at hv;cases hv
     ·rw [k3];exact ⟨by simp;exact ⟨Ks (by omega),Ks (by omega)⟩,hz⟩
     ·rw [k2] at hv;cases hv
    ·obtain ⟨y,z,u,r,rfl⟩: ∃y z u r',r=y::z::u::r':=by
      match r,h2 with
      |[],h=>simp at h;omega
      |[_],h=>simp at h;omega
      |[_,_],h=>simp at h;omega
      |y::z::u::r',_=>exact ⟨y,z,u,r',rfl⟩
     have hy:=UInt8.toNat_lt y;have hz':=UInt8.toNat_lt z
     have hu:=UInt8.toNat_lt u;rw [g2] at hv ⊢;simp only [Nat.reduceSub,List.take_succ_cons,List.take_zero,Zm,List.foldl_cons,List.foldl_nil] at hv ⊢;generalize hn:(((x.toNat:Int) % 64*256+y.toNat)*256+z.toNat)*256+u.toNat=n at*;have hz:YY n≠0:=by rw [hv];decide
     rcases xE _ hz with ⟨k0,k1,k2,k3⟩|⟨k0,k1,k2,k3⟩|⟨k0,k1,k2,k3⟩
     ·rw [k2] at hv;cases hv
     ·rw [k2] at hv;cases hv
     ·rw [k3];exact ⟨by simp;exact ⟨Ks (by omega),Ks (by omega),Ks (by omega),Ks (by omega)⟩,hz⟩
theorem Ji (n:Int):(qK n).length≤4:=by
 by_cases h:YY n=0
 ·rw [(JI h).1];simp
 ·rcases xE n h with ⟨_,_,_,h2⟩|⟨_,_,_,h2⟩|⟨_,_,_,h2⟩ <;>rw [h2] <;>simp
def tyL:List (TypeId×TyI):=[
 (3,⟨.int .i64,1,8,[.int .i64 0]⟩)
 ,(4,⟨.bool,1,1,[.bool false]⟩)
 ,(5,⟨.int .u8,1,1,[.int .u8 0]⟩)
 ,(9,⟨.str,1,16,[.string .empty]⟩)
 ,(26,⟨.slice 5,1,24,[.slice none 0 0]⟩)
 ,(35,⟨.int .i64,1,8,[.int .i64 0]⟩)
 ,(197,⟨.int .u64,1,8,[.int .u64 0]⟩)
 ,(201,⟨.int .u32,1,4,[.int .u32 0]⟩)
 ,(36,⟨.slice 3,1,24,[.slice none 0 0]⟩)
 ,(196,⟨.arr 4 3,4,32,[.int .i64 0]⟩)
 ,(221,⟨.ptr 26,1,8,[.pointer none]⟩)
 ,(29,⟨.slice 26,1,24,[.slice none 0 0]⟩)
 ,(28,⟨.struct [(0,26),(1,26),(2,3),(3,26)],4,80,[.slice none 0 0, .slice none 0 0, .int .i64 0, .slice none 0 0]⟩)
 ,(222,⟨.func,1,8,[.nilFunc]⟩)
 ,(223,⟨.func,1,8,[.nilFunc]⟩)
 ,(190,⟨.func,1,8,[.nilFunc]⟩)
 ,(224,⟨.slice 222,1,24,[.slice none 0 0]⟩)
 ,(246,⟨.slice 201,1,24,[.slice none 0 0]⟩)
 ,(202,⟨.arr 8 201,8,32,[.int .u32 0]⟩)
 ,(244,⟨.arr 64 201,64,256,[.int .u32 0]⟩)
 ,(234,⟨.arr 64 5,64,64,[.int .u8 0]⟩)
 ,(204,⟨.struct [(0,202),(8,26),(9,3)],10,64,[.int .u32 0, .int .u32 0, .int .u32 0, .int .u32 0, .int .u32 0, .int .u32 0, .int .u32 0, .int .u32 0, .slice none 0 0, .int .i64 0]⟩)
 ,(243,⟨.ptr 204,1,8,[.pointer none]⟩)
 ,(213,⟨.struct [(0,202),(8,26),(9,3)],10,64,[.int .u32 0, .int .u32 0, .int .u32 0, .int .u32 0, .int .u32 0, .int .u32 0, .int .u32 0, .int .u32 0, .slice none 0 0, .int .i64 0]⟩)
 ,(231,⟨.func,1,8,[.nilFunc]⟩)
 ,(83,⟨.struct [(0,26),(1,26),(2,36)],3,72,[.slice none 0 0, .slice none 0 0, .slice none 0 0]⟩)
 ,(85,⟨.struct [(0,3),(1,28),(5,83)],8,160,[.int .i64 0, .slice none 0 0, .slice none 0 0, .int .i64 0, .slice none 0 0, .slice none 0 0, .slice none 0 0, .slice none 0 0]⟩)
 ,(22,⟨.slice 85,1,24,[.slice none 0 0]⟩)
 ,(171,⟨.struct [(0,3),(1,28),(5,83)],8,160,[.int .i64 0, .slice none 0 0, .slice none 0 0, .int .i64 0, .slice none 0 0, .slice none 0 0, .slice none 0 0, .slice none 0 0]⟩)
 ,(31,⟨.struct [(0,3),(1,3),(2,28),(6,29),(7,26),(8,3)],9,152,[.int .i64 0, .int .i64 0, .slice none 0 0, .slice none 0 0, .int .i64 0, .slice none 0 0, .slice none 0 0, .slice none 0 0, .int .i64 0]⟩)
 ,(44,⟨.slice 31,1,24,[.slice none 0 0]⟩)
 ,(38,⟨.struct [(0,35),(1,3),(2,36),(3,26),(4,4)],5,72,[.int .i64 0, .int .i64 0, .slice none 0 0, .slice none 0 0, .bool false]⟩)
 ,(46,⟨.slice 38,1,24,[.slice none 0 0]⟩)
 ,(56,⟨.struct [(0,3),(1,22)],2,32,[.int .i64 0, .slice none 0 0]⟩)
 ,(23,⟨.slice 56,1,24,[.slice none 0 0]⟩)
 ,(25,⟨.struct [(0,22),(1,23),(2,3)],3,56,[.slice none 0 0, .slice none 0 0, .int .i64 0]⟩)
 ,(64,⟨.struct [(0,25)],3,56,[.slice none 0 0, .slice none 0 0, .int .i64 0]⟩)
 ,(62,⟨.ptr 64,1,8,[.pointer none]⟩)
 ,(118,⟨.struct [(0,3),(1,114)],2,16,[.int .i64 0, .nilFunc]⟩)
 ,(162,⟨.int .i64,1,8,[.int .i64 0]⟩)
 ,(155,⟨.arr 2 3,2,16,[.int .i64 0]⟩)
 ,(104,⟨.map 3 3,1,8,[.map none]⟩)
 ,(136,⟨.map 3 26,1,8,[.map none]⟩)
 ,(67,⟨.map 3 65,1,8,[.map none]⟩)
 ,(68,⟨.map 3 99,1,8,[.map none]⟩)
 ,(65,⟨.func,1,8,[.nilFunc]⟩)
 ,(99,⟨.func,1,8,[.nilFunc]⟩)
 ,(114,⟨.func,1,8,[.nilFunc]⟩)
 ,(161,⟨.func,1,8,[.nilFunc]⟩)
 ,(174,⟨.func,1,8,[.nilFunc]⟩)
 ,(130,⟨.func,1,8,[.nilFunc]⟩)
 ,(108,⟨.func,1,8,[.nilFunc]⟩)
 ,(86,⟨.func,1,8,[.nilFunc]⟩)
 ,(128,⟨.func,1,8,[.nilFunc]⟩)
 ,(80,⟨.func,1,8,[.nilFunc]⟩)
 ,(131,⟨.func,1,8,[.nilFunc]⟩)
 ,(148,⟨.func,1,8,[.nilFunc]⟩)
 ,(149,⟨.func,1,8,[.nilFunc]⟩)
 ,(168,⟨.func,1,8,[.nilFunc]⟩)
 ,(169,⟨.func,1,8,[.nilFunc]⟩)
 ,(124,⟨.func,1,8,[.nilFunc]⟩)
 ,(125,⟨.func,1,8,[.nilFunc]⟩)
 ,(209,⟨.func,1,8,[.nilFunc]⟩)
 ,(154,⟨.func,1,8,[.nilFunc]⟩)
 ,(106,⟨.func,1,8,[.nilFunc]⟩)
 ]
abbrev tab:Tab:=zcA tyL
theorem hT:zI Tryz.prog tab:=zeJ (by kernel_rfl)
abbrev int (n:Int):AV:= .lit (.int .i64 n)
def eU8 (x:UInt8):List AV:=[.lit (.int .u8 x.toNat)]
def gH (x:Int):List AV:=[.lit (.int .i64 x)]
def fU8 (b:List UInt8):Nat→List AV:=fun k=>eU8 (b.getD k 0)
def yP (b:List Int):Nat→List AV:=fun k=>gH (b.getD k 0)
abbrev bytes (b:List UInt8):AV:= .sl 1 b.length false (fU8 b)
abbrev Zn (b:List Int):AV:= .sl 1 b.length false (yP b)
abbrev oU8 (b:List UInt8):zb:={T:=5,sz:=1,n:=b.length,f:=fU8 b}
abbrev yC (b:List Int):zb:={T:=3,sz:=1,n:=b.length,f:=yP b}
def eBB:Enc (List UInt8):=⟨1,[],fun x=>[bytes x]⟩
theorem Zr (n:Int):((ZR n).toNat:Int)=IntKind.u8.wrap n:=by rw [Tr,IntKind.wrap_u8]
theorem XV {xs ys:List UInt8} {n k:Nat} (hn:n=xs.length) (hk:k<n+ys.length):fU8 (xs++ys) k=xY n (fU8 xs) (fU8 ys) k:=by
 subst hn;unfold fU8;by_cases h:k<xs.length
 ·rw [xU h];simp [List.getD_eq_getElem?_getD,List.getElem?_append_left h]
 ·rw [Ym (by omega)];simp [List.getD_eq_getElem?_getD,List.getElem?_append_right (show xs.length≤k by omega)]
theorem ja {xs ys:List Int} {n k:Nat} (hn:n=xs.length) (hk:k<n+ys.length):yP (xs++ys) k=xY n (yP xs) (yP ys) k:=by
 subst hn;unfold yP;by_cases h:k<xs.length
 ·rw [xU h];simp [List.getD_eq_getElem?_getD,List.getElem?_append_left h]
 ·rw [Ym (by omega)];simp [List.getD_eq_getElem?_getD,List.getElem?_append_right (show xs.length≤k by omega)]
theorem Vr {n k:Nat} {f g g':Nat→List AV} (h: ∀j,n+j=k→g j=g' j):xY n f g k=xY n f g' k:=by
 by_cases hk:k<n
 ·rw [xU hk,xU hk]
 ·rw [Ym (by omega),Ym (by omega)];exact h _ (by omega)
theorem yx (xs:List UInt8) (n:Nat):V4 n (fU8 xs):=fun k hk=>⟨_,rfl⟩
theorem yM (xs:List UInt8):Q9 xs.length (fU8 xs)=xs:=by
 unfold Q9;apply List.ext_getElem
 ·simp
 ·intro i h1 h2;simp only [List.getElem_map,List.getElem_range,fU8,eU8,List.getD_eq_getElem?_getD,List.getElem?_eq_getElem h2,Option.getD_some];simp
theorem kR (m:Int) (k:Nat) (hk:k<63):IntKind.i64.wrap ((BitVec.ofInt IntKind.i64.bits m &&& BitVec.ofInt IntKind.i64.bits (2^k - 1)).toNat:Int)=m % 2^k:=by
 have hp:(2:Nat)^k≤2^62:=Nat.pow_le_pow_right (by decide) (by omega)
 have hp1:0<(2:Nat)^k:=Nat.two_pow_pos k
 have e1:((2:Int)^k - 1)=((2^k - 1:Nat):Int):=by rw [Int.natCast_sub hp1];simp
 have e2:(BitVec.ofInt IntKind.i64.bits ((2:Int)^k - 1)).toNat=2^k - 1:=by
  rw [e1,BitVec.ofInt_natCast,BitVec.toNat_ofNat,Nat.mod_eq_of_lt];show _<2^64
  omega
 rw [BitVec.toNat_and,e2,Nat.and_two_pow_sub_one_eq_mod,BitVec.toNat_ofInt];have hlt:((m % ((2^IntKind.i64.bits:Nat):Int)).toNat % 2^k:Nat)<2^62:=Nat.lt_of_lt_of_le (Nat.mod_lt _ hp1) hp
 have h0:0≤m % ((2^IntKind.i64.bits:Nat):Int):=Int.emod_nonneg _ (by decide)
 have e3:(((m % ((2^IntKind.i64.bits:Nat):Int)).toNat % 2^k:Nat):Int)=m % 2^k:=by
  rw [Int.natCast_emod,Int.toNat_of_nonneg h0];have hd:(((2^k:Nat)):Int) ∣ ((2^IntKind.i64.bits:Nat):Int):=Int.ofNat_dvd.2 (Nat.pow_dvd_pow 2 (by show k≤64;omega))
  rw [Int.emod_emod_of_dvd _ hd];simp
 rw [←e3,IntKind.wrap_i64];omega
def u8s:List Int→List (List AV):=List.map fun x=>[.lit (.int .u8 x)]
theorem pX: ∀{xs:List UInt8} {l:List Int},l=xs.map (fun x=>(x.toNat:Int))→ ∀k,k<xs.length→WH (u8s l) k=fU8 xs k
 |[],l,h,k,hk=>by simp at hk
 |x::xs,l,h,0,hk=>by subst h;rfl
 |x::xs,l,h,k+1,hk=>by
  subst h;have:=pX (xs:=xs) rfl k (by simpa using hk)
  simp only [WH,zH,u8s,List.map_cons,List.getElem?_cons_succ] at this ⊢;rw [this];simp [fU8,List.getD_eq_getElem?_getD]
theorem wS {xs ys:List UInt8} {l:List Int} {n m:Nat} (hn:n=xs.length) (hm:m=ys.length) (h:l=ys.map (fun x=>(x.toNat:Int))): ∀k,k<n+m→fU8 (xs++ys) k=xY n (fU8 xs) (WH (u8s l)) k:=fun k hk=>by
 subst hm;rw [XV hn hk];exact Vr fun j hj=>(pX h j (by omega)).symm
theorem zlx (xs:List UInt8):AV.Le (.sl 1 xs.length false (WH (u8s (xs.map fun x=>(x.toNat:Int))))) (bytes xs):= .sl rfl (fun h=>h) fun k hk=>(pX rfl k hk).symm
def zik:Enc UInt8:=⟨1,0,eU8⟩
def wA:Enc Int:=⟨1,0,gH⟩
theorem ziq {n:Nat} {lo hi:Option Int} {t t':Bool} {xs ys:List UInt8} (hn:n=xs.length) (hok:Zh hi n≤n) (ht:t'=true→t=true) (hy:ys=(xs.take (Zh hi n)).drop (zK lo)):
 AV.Le (.sl 1 (zO lo hi n) t (vV lo (fU8 xs))) (.sl 1 ys.length t' (fU8 ys)):=u4 (e:=zik) hn hok ht hy
theorem zi3 {n:Nat} {lo hi:Option Int} {t t':Bool} {xs ys:List Int} (hn:n=xs.length) (hok:Zh hi n≤n) (ht:t'=true→t=true) (hy:ys=(xs.take (Zh hi n)).drop (zK lo)):
 AV.Le (.sl 1 (zO lo hi n) t (vV lo (yP xs))) (.sl 1 ys.length t' (yP ys)):=u4 (e:=wA) hn hok ht hy
theorem yy (xs:List UInt8) (n:Nat) (lo:Option Int):V4 n (vV lo (fU8 xs)):=fun k hk=>by rw [kr];exact ⟨_,rfl⟩
theorem GB {n:Nat} {t:Bool} {xs:List UInt8} {css:List (List AV)} (h:css=xs.map eU8) (hn:n=xs.length):AV.Le (.sl 1 n t (WH css)) (bytes xs):=JR (e:=zik) h hn
theorem zgw (n:Nat):AV.Le (.sl 1 n false fun _=>[.lit (.int .u8 0)]) (bytes (List.replicate n 0)):= .sl (by simp) (fun h=>h) fun k hk=>by
 simp [fU8,eU8,List.getD_eq_getElem?_getD,hk]
theorem ent {f:FuncId} {fn:Func} {args:List AV} {x:AV} {N:List zb} {m:Nat} {G:Prop} (hf:Tryz.prog.funcs[f]?=some fn) (hm:fn.ntmps=m) (k:Hold G) (h:Tryz.prog.funcs[f]?=some fn→fn.ntmps=m→Hold G→APure Tryz.prog f args x N:=by
 intro hf hm k;refine zfb hT hf rfl ?_;simp only [hm,List.length_cons,List.length_nil,Nat.reduceAdd,Nat.reduceSub,List.replicate,List.cons_append,List.nil_append];exact k.1):APure Tryz.prog f args x N:=h hf hm k
theorem enta {f:FuncId} {fn:Func} {args:List AV} {H:List zb} {K:AV→List zb→List Nat→Prop} {m:Nat} {G:Prop} (hf:Tryz.prog.funcs[f]?=some fn) (hm:fn.ntmps=m) (k:Hold G) (h:Tryz.prog.funcs[f]?=some fn→fn.ntmps=m→Hold G→ACall Tryz.prog f args H K:=by
 intro hf hm k;refine T' hT hf rfl ?_;simp only [hm,List.length_cons,List.length_nil,Nat.reduceAdd,Nat.reduceSub,List.replicate,List.cons_append,List.nil_append];exact k.1):ACall Tryz.prog f args H K:=h hf hm k
end
section
attribute [local irreducible] zA AO zt zo ADr AL AW zF zh zU Tells APure ACall
theorem y8:Tryz.prog.follows .mixedOrders=true:=by kernel_rfl
theorem Qz (n:Nat):Nat.blt n 0=false:=by cases n <;>rfl
theorem mf8 {G A:Prop} (k:Hold G) (h:Hold G→A:=by
 intro k
 (conv=>arg 8;simp only [St.put,St.behind,Qz,St.ev,setn,nth,Option.getD,lits,Y',Xl,Xn,Y8,xa,Y7,Xm,xb,Xq,Xr,Y2,Y6,List.all_cons,List.all_nil,Bool.and_true,Bool.true_and,Bool.and_false,Bool.false_and,Bool.or_false,Bool.false_or,Bool.or_true,Bool.true_or,W_,W0,yS,Yt,Wf,Nat.reduceBEq,Nat.zero_add,Nat.add_zero,List.map_cons,List.map_nil,Int.reduceToNat,Int.toNat_natCast,List.getD_cons_zero,beq_self_eq_true,bne_self_eq_false,Bool.not_true,Bool.not_false,List.drop_zero,List.drop_succ_cons,List.take_succ_cons,List.take_zero,Int.cast_ofNat_Int,cond_true,cond_false,yO,str_append,yM,List.map,ZO,fgs,ren,sh,yS,Yt,Z',Wf,Nat.reduceBEq,Bool.or_false,Bool.false_or,Bool.or_true,Bool.true_or,List.any_nil,List.any_cons,List.nil_append,List.cons_append,List.append_nil,List.length_nil,List.length_cons,Nat.reduceAdd])
 exact k.1):A:=h k
theorem mf3 {G A:Prop} (k:Hold G) (h:Hold G→A:=by
 intro k
 (conv=>arg 6;simp only [St.put,St.behind,Qz,St.ev,setn,nth,Option.getD,lits,Y',Xl,Xn,Y8,xa,Y7,Xm,xb,Xq,Xr,Y2,Y6,List.all_cons,List.all_nil,Bool.and_true,Bool.true_and,Bool.and_false,Bool.false_and,Bool.or_false,Bool.false_or,Bool.or_true,Bool.true_or,W_,W0,yS,Yt,Wf,Nat.reduceBEq,Nat.zero_add,Nat.add_zero,List.map_cons,List.map_nil,Int.reduceToNat,Int.toNat_natCast,List.getD_cons_zero,beq_self_eq_true,bne_self_eq_false,Bool.not_true,Bool.not_false,List.drop_zero,List.drop_succ_cons,List.take_succ_cons,List.take_zero,Int.cast_ofNat_Int,cond_true,cond_false,yO,str_append,yM,List.map,ZO,fgs,ren,sh,yS,Yt,Z',Wf,Nat.reduceBEq,Bool.or_false,Bool.false_or,Bool.or_true,Bool.true_or,List.any_nil,List.any_cons,List.nil_append,List.cons_append,List.append_nil,List.length_nil,List.length_cons,Nat.reduceAdd])
 exact k.1):A:=h k
theorem mf1 {G A:Prop} (k:Hold G) (h:Hold G→A:=by
 intro k
 (conv=>arg 5;simp only [St.put,St.behind,Qz,St.ev,setn,nth,Option.getD,lits,Y',Xl,Xn,Y8,xa,Y7,Xm,xb,Xq,Xr,Y2,Y6,List.all_cons,List.all_nil,Bool.and_true,Bool.true_and,Bool.and_false,Bool.false_and,Bool.or_false,Bool.false_or,Bool.or_true,Bool.true_or,W_,W0,yS,Yt,Wf,Nat.reduceBEq,Nat.zero_add,Nat.add_zero,List.map_cons,List.map_nil,Int.reduceToNat,Int.toNat_natCast,List.getD_cons_zero,beq_self_eq_true,bne_self_eq_false,Bool.not_true,Bool.not_false,List.drop_zero,List.drop_succ_cons,List.take_succ_cons,List.take_zero,Int.cast_ofNat_Int,cond_true,cond_false,yO,str_append,yM,List.map,ZO,fgs,ren,sh,yS,Yt,Z',Wf,Nat.reduceBEq,Bool.or_false,Bool.false_or,Bool.or_true,Bool.true_or,List.any_nil,List.any_cons,List.nil_append,List.cons_append,List.append_nil,List.length_nil,List.length_cons,Nat.reduceAdd])
 exact k.1):A:=h k
theorem mf6 {G A:Prop} (k:Hold G) (h:Hold G→A:=by
 intro k
 (conv=>arg 6;try simp only [St.put,St.behind,Qz,St.ev,setn,nth,Option.getD,lits,Y',Xl,Xn,Y8,xa,Y7,Xm,xb,Xq,Xr,Y2,Y6,List.all_cons,List.all_nil,Bool.and_true,Bool.true_and,Bool.and_false,Bool.false_and,Bool.or_false,Bool.false_or,Bool.or_true,Bool.true_or,W_,W0,yS,Yt,Wf,Nat.reduceBEq,Nat.zero_add,Nat.add_zero,List.map_cons,List.map_nil,Int.reduceToNat,Int.toNat_natCast,List.getD_cons_zero,beq_self_eq_true,bne_self_eq_false,Bool.not_true,Bool.not_false,List.drop_zero,List.drop_succ_cons,List.take_succ_cons,List.take_zero,Int.cast_ofNat_Int,cond_true,cond_false,yO,str_append,yM])
 exact k.1):A:=h k
theorem mf7 {G A:Prop} (k:Hold G) (h:Hold G→A:=by
 intro k
 (conv=>arg 6;try simp only [ZX,St.put,St.behind,Qz,St.ev,setn,nth,Option.getD,lits,Y',Xl,Xn,Y8,xa,Y7,Xm,xb,Xq,Xr,Y2,Y6,List.all_cons,List.all_nil,Bool.and_true,Bool.true_and,Bool.and_false,Bool.false_and,Bool.or_false,Bool.false_or,Bool.or_true,Bool.true_or,W_,W0,yS,Yt,Wf,Nat.reduceBEq,Nat.zero_add,Nat.add_zero,List.map_cons,List.map_nil,Int.reduceToNat,Int.toNat_natCast,List.getD_cons_zero,beq_self_eq_true,bne_self_eq_false,Bool.not_true,Bool.not_false,List.drop_zero,List.drop_succ_cons,List.take_succ_cons,List.take_zero,Int.cast_ofNat_Int,cond_true,cond_false,yO,str_append,yM,List.nil_append,List.cons_append,List.append_nil,List.length_nil,List.length_cons,Nat.reduceAdd])
 exact k.1):A:=h k
theorem mf5 {G A:Prop} (k:Hold G) (h:Hold G→A:=by
 intro k
 (conv=>arg 6;try simp only [St.put,St.behind,Qz,St.ev,setn,nth,Option.getD,lits,Y',Xl,Xn,Y8,xa,Y7,Xm,xb,Xq,Xr,Y2,Y6,List.all_cons,List.all_nil,Bool.and_true,Bool.true_and,Bool.and_false,Bool.false_and,Bool.or_false,Bool.false_or,Bool.or_true,Bool.true_or,W_,W0,yS,Yt,Wf,Nat.reduceBEq,Nat.zero_add,Nat.add_zero,List.map_cons,List.map_nil,Int.reduceToNat,Int.toNat_natCast,List.getD_cons_zero,beq_self_eq_true,bne_self_eq_false,Bool.not_true,Bool.not_false,List.drop_zero,List.drop_succ_cons,List.take_succ_cons,List.take_zero,Int.cast_ofNat_Int,cond_true,cond_false,yO,str_append,yM,List.nil_append,List.cons_append,List.append_nil,List.length_nil,List.length_cons,Nat.reduceAdd])
 exact k.1):A:=h k
theorem mf10 {G A:Prop} (k:Hold G) (h:Hold G→A:=by
 intro k
 (conv=>arg 8;try simp only [St.put,St.behind,Qz,St.ev,setn,nth,Option.getD,lits,Y',Xl,Xn,Y8,xa,Y7,Xm,xb,Xq,Xr,Y2,Y6,List.all_cons,List.all_nil,Bool.and_true,Bool.true_and,Bool.and_false,Bool.false_and,Bool.or_false,Bool.false_or,Bool.or_true,Bool.true_or,W_,W0,yS,Yt,Wf,Nat.reduceBEq,Nat.zero_add,Nat.add_zero,List.map_cons,List.map_nil,Int.reduceToNat,Int.toNat_natCast,List.getD_cons_zero,beq_self_eq_true,bne_self_eq_false,Bool.not_true,Bool.not_false,List.drop_zero,List.drop_succ_cons,List.take_succ_cons,List.take_zero,Int.cast_ofNat_Int,cond_true,cond_false,yO,str_append,yM])
 exact k.1):A:=h k
theorem mf9 {G A:Prop} (k:Hold G) (h:Hold G→A:=by
 intro k
 (conv=>arg 8;try simp only [St.put,St.behind,Qz,St.ev,setn,nth,Option.getD,lits,Y',Xl,Xn,Y8,xa,Y7,Xm,xb,Xq,Xr,Y2,Y6,List.all_cons,List.all_nil,Bool.and_true,Bool.true_and,Bool.and_false,Bool.false_and,Bool.or_false,Bool.false_or,Bool.or_true,Bool.true_or,W_,W0,yS,Yt,Wf,Nat.reduceBEq,Nat.zero_add,Nat.add_zero,List.map_cons,List.map_nil,Int.reduceToNat,Int.toNat_natCast,List.getD_cons_zero,beq_self_eq_true,bne_self_eq_false,Bool.not_true,Bool.not_false,List.drop_zero,List.drop_succ_cons,List.take_succ_cons,List.take_zero,Int.cast_ofNat_Int,cond_true,cond_false,yO,str_append,yM,List.nil_append,List.cons_append,List.append_nil,List.length_nil,List.length_cons,Nat.reduceAdd])
 exact k.1):A:=h k
theorem go {G A:Prop} (k:Hold G) (h:Hold G→A:=by
 intro k;try simp only [lst,Zz,ZB,setn]
 first|(refine mf8 ⟨?_⟩)|(refine mf3 ⟨?_⟩)|(refine mf1 ⟨?_⟩)|skip
 repeat (first
  |with_reducible refine XP ?_|with_reducible refine yL ?_|with_reducible refine XZ ?_|with_reducible refine xm ?_|with_reducible refine ZS ?_|with_reducible refine YD ?_|with_reducible refine xq ?_|with_reducible refine Yy ?_|with_reducible refine xk ?_|with_reducible refine yI ?_|with_reducible refine yj ?_|with_reducible refine YI ?_|(with_reducible refine VN ?_;conv=>arg 5;simp only [VZ,xH,cond_true,cond_false])
  |((with_reducible refine yJ ?_);first|refine YA rfl ?_|refine yH rfl ?_)
  |((with_reducible refine yX ?_);first|refine yG rfl ?_|refine yv rfl ?_)
  |((with_reducible refine yk ?_);first
   |(refine Yk hT rfl rfl (by first|exact True.intro|exact Nat.le_refl _|rfl|decide|omega|exact ⟨rfl,rfl⟩|exact ⟨rfl,by omega⟩|exact yx _ _|exact yy _ _ _|(refine Int.le_trans (b:=9000000000000000000) ?_ (by decide);simp only [Xi,List.length_append,List.length_nil];omega)|(simp only [IntKind.wrap_i64,IntKind.wrap_u64];omega)|(simp only [Yo,zO,and_true,Int.toNat_natCast,List.length_cons,List.length_append,List.length_nil,List.length_take,IntKind.wrap_i64];omega)) ?_;refine mf6 ⟨?_⟩)
   |(refine xr rfl ?_;conv=>arg 6;try simp only [St.put,setn,nth])
   |(refine wN hT rfl rfl rfl (by refine ⟨?_, ?_⟩ <;>first|exact Nat.zero_lt_one|exact ⟨rfl,rfl⟩|exact fun _=>rfl|exact fun h=>by cases h|decide|omega|(simp only [IntKind.wrap_i64];omega)|(simp;omega)) ?_;refine mf7 ⟨?_⟩)
   |(refine Xt hT rfl rfl (by first|exact True.intro|omega|decide|exact ⟨rfl,by decide,by decide,by decide⟩) ?_;refine mf5 ⟨?_⟩))
  |((with_reducible refine Xg ?_);first
   |(refine wm hT rfl rfl (by first|exact True.intro|exact Nat.le_refl _|rfl|decide|omega|exact ⟨rfl,rfl⟩|exact ⟨rfl,by omega⟩|exact yx _ _|exact yy _ _ _|(refine Int.le_trans (b:=9000000000000000000) ?_ (by decide);simp only [Xi,List.length_append,List.length_nil];omega)|(simp only [IntKind.wrap_i64,IntKind.wrap_u64];omega)|(simp only [Yo,zO,and_true,Int.toNat_natCast,List.length_cons,List.length_append,List.length_nil,List.length_take,IntKind.wrap_i64];omega)) ?_;refine mf10 ⟨?_⟩)
   |(refine vF rfl ?_;conv=>arg 8;try simp only [St.put,setn,nth])
   |(refine JD hT rfl rfl (by first|exact True.intro|omega) ?_;refine mf9 ⟨?_⟩))
  |((first|with_reducible refine wR y8 rfl (by decide+kernel) (by decide+kernel) ?_|with_reducible refine XD y8 rfl (by decide+kernel) (by decide+kernel) ?_);conv=>arg 7;simp only [xA,xH,cond_true,cond_false])
  |((with_reducible refine yX ?_);first|refine zcE rfl (by first|assumption|omega) ?_|refine zdV rfl (by first|assumption|omega) ?_)
  |((with_reducible refine yk ?_);first|refine zeR rfl rfl (by first|assumption|omega) ?_|refine zel rfl rfl (by first|assumption|omega) ?_;conv=>arg 6;simp only [setn])
  |((with_reducible refine Xg ?_);first|refine zcG rfl rfl (by first|assumption|omega) ?_|refine zdb rfl rfl (by first|assumption|omega) ?_;conv=>arg 8;simp only [setn]))
 exact k.1):A:=h k
theorem nz {G A:Prop} (k:Hold G) (h:Hold G→A:=by
 intro k
 first
  |(conv=>arg 6;simp only [St.put,St.behind,Qz,St.ev,setn,nth,Option.getD,lits,Y',Xl,Xn,Y8,xa,Y7,Xm,xb,Xq,Xr,Y2,Y6,List.all_cons,List.all_nil,Bool.and_true,Bool.true_and,Bool.and_false,Bool.false_and,Bool.or_false,Bool.false_or,Bool.or_true,Bool.true_or,W_,W0,yS,Yt,Wf,Nat.reduceBEq,Nat.zero_add,Nat.add_zero,List.map_cons,List.map_nil,Int.reduceToNat,Int.toNat_natCast,List.getD_cons_zero,beq_self_eq_true,bne_self_eq_false,Bool.not_true,Bool.not_false,List.drop_zero,List.drop_succ_cons,List.take_succ_cons,List.take_zero,Int.cast_ofNat_Int,cond_true,cond_false,yO,str_append,yM,List.map,ZO,fgs,ren,sh,idx,yS,Yt,Z',Wf,Nat.reduceBEq,Bool.or_false,Bool.false_or,Bool.or_true,Bool.true_or,List.any_nil,List.any_cons,List.nil_append,List.cons_append,List.append_nil,List.length_nil,List.length_cons,Nat.reduceAdd])
  |(conv=>arg 8;simp only [St.put,St.behind,Qz,St.ev,setn,nth,Option.getD,lits,Y',Xl,Xn,Y8,xa,Y7,Xm,xb,Xq,Xr,Y2,Y6,List.all_cons,List.all_nil,Bool.and_true,Bool.true_and,Bool.and_false,Bool.false_and,Bool.or_false,Bool.false_or,Bool.or_true,Bool.true_or,W_,W0,yS,Yt,Wf,Nat.reduceBEq,Nat.zero_add,Nat.add_zero,List.map_cons,List.map_nil,Int.reduceToNat,Int.toNat_natCast,List.getD_cons_zero,beq_self_eq_true,bne_self_eq_false,Bool.not_true,Bool.not_false,List.drop_zero,List.drop_succ_cons,List.take_succ_cons,List.take_zero,Int.cast_ofNat_Int,cond_true,cond_false,yO,str_append,yM,List.map,ZO,fgs,ren,sh,idx,yS,Yt,Z',Wf,Nat.reduceBEq,Bool.or_false,Bool.false_or,Bool.or_true,Bool.true_or,List.any_nil,List.any_cons,List.nil_append,List.cons_append,List.append_nil,List.length_nil,List.length_cons,Nat.reduceAdd])
 exact k.1):A:=h k
theorem les {A:Prop} (h:A:=by
 repeat (first
  |exact .nil
  |refine .cons (.junk _) ?_
  |refine .cons (.refl _) ?_
  |refine .cons (AV.Le.nil rfl rfl) ?_
  |refine .cons (zlx _) ?_
  |refine .cons (zgw _) ?_
  |refine .cons (JR rfl rfl) ?_
  |refine .cons (GB (by first|rfl|decide) rfl) ?_
  |refine .cons (ziq (by first|rfl|(simp;done)|fail) (by simp only [Zh];omega) (fun h=>by first|exact h|cases h) (by first|(simp only [Zh,zK];simp;done)|(simp only [Zh,zK];(repeat rw [List.take_of_length_le (by simp <;>omega)]);simp;done)|fail)) ?_
  |refine .cons (.int (by first|rfl|assumption|omega|(simp only [IntKind.wrap_i64,IntKind.wrap_u64];omega)|(simp;done)|(simp;omega))) ?_
  |refine .cons (AV.Le.bool (by first|rfl|assumption|(simp;done)|(simp;omega)|(simp [*];done)|(rw [Bool.eq_iff_iff];simp [*];done)|(simp [*];omega))) ?_
  |refine .cons (.row (by first|rfl|omega|(simp;done)|(simp;omega))) ?_
  |refine .cons (.sl (by first|rfl|omega|(simp;done)|(simp;omega)) (fun h=>by first|exact h|cases h) (fun k hk=>by first|rfl|(exact (Nat.not_lt_zero _ hk).elim)|(simp [vV,fE,fU8,eU8,yP,gH,List.getD_eq_getElem?_getD];done)|fail)) ?_
  |refine .cons (.eq (by first|rfl|assumption|(simp;done)|fail)) ?_
  |refine .cons (AV.Le.agg ?_) ?_
  |refine .cons (AV.Le.ip ?_) ?_
  |refine .cons (zkz (fun k hk=>by first|rfl|(simp [*];done)|fail)) ?_)
 first|done|fail):A:=h
theorem mf4 {G A:Prop} (k:Hold G) (h:Hold G→A:=by
 intro k
 (conv=>arg 6;try simp only [St.put,St.behind,Qz,St.ev,setn,nth,Option.getD,lits,Y',Xl,Xn,Y8,xa,Y7,Xm,xb,Xq,Xr,Y2,Y6,List.all_cons,List.all_nil,Bool.and_true,Bool.true_and,Bool.and_false,Bool.false_and,Bool.or_false,Bool.false_or,Bool.or_true,Bool.true_or,W_,W0,yS,Yt,Wf,Nat.reduceBEq,Nat.zero_add,Nat.add_zero,List.map_cons,List.map_nil,Int.reduceToNat,Int.toNat_natCast,List.getD_cons_zero,beq_self_eq_true,bne_self_eq_false,Bool.not_true,Bool.not_false,List.drop_zero,List.drop_succ_cons,List.take_succ_cons,List.take_zero,Int.cast_ofNat_Int,cond_true,cond_false,yO,str_append,yM,List.map,ZO,fgs,ren,sh,yS,Yt,Z',Wf,Nat.reduceBEq,Bool.or_false,Bool.false_or,Bool.or_true,Bool.true_or,List.any_nil,List.any_cons,List.nil_append,List.cons_append,List.append_nil,List.length_nil,List.length_cons,Nat.reduceAdd])
 exact k.1):A:=h k
theorem cal {G A C D:Prop} (g:D) (c:C) (k:Hold G) (h:D→C→Hold G→A:=by
 intro g c k
 first
  |(refine QP rfl rfl rfl g rfl (by repeat' (first|exact trivial|exact Nat.le_refl _|exact Nat.le_of_eq (Nat.zero_add _)|refine And.intro ?_ ?_|omega)) c (by exact les) ?_
    refine mf4 ⟨?_⟩)
  |(refine zdx rfl rfl rfl g rfl c (by exact les) rfl (by repeat' (first|exact trivial|exact Nat.le_refl _|exact Nat.le_of_eq (Nat.zero_add _)|refine And.intro ?_ ?_|omega)) ?_
    refine mf10 ⟨?_⟩)
 exact k.1):A:=h g c k
theorem zeT {G A C D E:Prop} (g:D) (c:C) (e:E) (k:Hold G) (h:D→C→E→Hold G→A:=by
 intro g c e k
 first
  |(refine QP rfl rfl rfl g rfl (by repeat' (first|exact trivial|exact Nat.le_refl _|exact Nat.le_of_eq (Nat.zero_add _)|refine And.intro ?_ ?_|omega)) c e ?_
    refine mf4 ⟨?_⟩)
  |(refine zdx rfl rfl rfl g rfl c e rfl (by repeat' (first|exact trivial|exact Nat.le_refl _|exact Nat.le_of_eq (Nat.zero_add _)|refine And.intro ?_ ?_|omega)) ?_
    refine mf10 ⟨?_⟩)
 exact k.1):A:=h g c e k
theorem leh {A:Prop} (h:A:=by
 repeat (first
  |exact .nil
  |refine .cons (.of (by first|rfl|omega|(simp;done)|(simp;omega)|(simp [*];done)|(simp [*];omega)) (fun h=>h) fun k hk=>by first|rfl|(rw [zcW];rfl)|(exact (Nat.not_lt_zero _ hk).elim)|(simp;done)|(simp [*];done)|fail) ?_
  |refine .cons (.les (Nat.le_refl _) (fun k _=>by exact les)) ?_)
 first|done|fail):A:=h
theorem tel {A:Prop} (h:A:=by
 try simp only [lst,Zz,ZB,setn]
 first
  |exact Tells.refl _
  |(refine Tells.le ?_ ?_;exact les;exact leh)
  |(refine (Tells.sel [] rfl rfl).trans (Tells.le ?_ ?_);exact les;exact leh)
  |(refine (Tells.sel [0] rfl rfl).trans (Tells.le ?_ ?_);exact les;exact leh)
  |(refine (Tells.sel [0,1] rfl rfl).trans (Tells.le ?_ ?_);exact les;exact leh)
  |(refine (Tells.sel [1] rfl rfl).trans (Tells.le ?_ ?_);exact les;exact leh)):A:=h
theorem lp {P:Program} {r:Option Nat} {Q:Exit→St→Prop} {c:Code} {ι:Type} {s:List AV} {H0:List zb} {fg:List Nat} {nb:YB} {ws:List Nat} (g:ι→List (Nat×AV)) (Hs:ι→List zb) (m:ι→Nat) (i0:ι)
 (round: ∀i,AW P r c (zF (fun σ'=> ∃j,m j<m i∧Tells σ' (lst s fg nb ws (g j) (Hs j))) Q) (lst s fg nb ws (g i) (Hs i)))
 (hws:wrC c=ws:=by (conv=>lhs;simp only [wrC,u5,List.cons_append,List.nil_append,List.append_nil]) <;>exact rfl)
 (h0:Tells ⟨s,H0,fg,nb⟩ (lst s fg nb ws (g i0) (Hs i0)):=by exact tel):AW P r (.loop c) Q ⟨s,H0,fg,nb⟩:=zfM hws g Hs m i0 h0 round
theorem jn {P:Program} {r:Option Nat} {Q Q':Exit→St→Prop} {x y:Code} {s:List AV} {H0:List zb} {fg:List Nat} {nb:YB} {ws:List Nat} (g:List (Nat×AV)) (H1:List zb)
 (h1:AW P r x (zF (fun σ'=>Tells σ' (lst s fg nb ws g H1)) Q') ⟨s,H0,fg,nb⟩) (h2:AW P r y Q (lst s fg nb ws g H1))
 (hws:wrC x=ws:=by (conv=>lhs;simp only [wrC,u5,List.cons_append,List.nil_append,List.append_nil]) <;>exact rfl):AW P r x (zF (AW P r y Q) Q') ⟨s,H0,fg,nb⟩:=zeb hws g H1 h1 h2
theorem je {n:St→Prop} {Q:Exit→St→Prop} {σ:St} (h:n σ):zF n Q .normal σ:=wg h
theorem app {P:Program} {tab:Tab} {r:Option Nat} {l R:List Oper} {Q:Exit→St→Prop} {σ:St} {o:Oper} {q:Prop} {y:AV} {H':List zb} {id:Nat} {ob:zb} {t:TypeId} {sx xx:Operand} (f':Nat→List AV) (hT:zI P tab) (hw:zS l σ o=some true) (ho:o.op= .call {callee:= .builtin .append,args:= #[sx,xx],argTypes:= #[t,t]})
 (h:jK tab σ.H t (σ.ev sx) (σ.ev xx)=some (q,y,H',some id)) (hob:nth H' id=some ob) (hf: ∀k,k<ob.n→f' k=ob.f k)
 (next:AL P r l Q R ((σ.behind (setn H' id {ob with f:=f'}) (some id)).put o.dst y)) (hq:q:=by first|(refine ⟨trivial,Nat.le_refl _, ?_, ?_⟩ <;>(try dsimp only) <;>omega)|(simp;omega)|(simp [*];omega)|(simp;done)|(refine ⟨?_, ?_, ?_, ?_⟩ <;>first|exact trivial|exact Nat.le_refl _|(simp [*];omega)|omega)):AL P r l Q (o::R) σ:=Qg f' hT hw ho h hob hq hf next
theorem fin {A:Prop} (h:A:=by
 first|refine uM rfl (by repeat' (first|exact trivial|exact Nat.le_refl _|exact Nat.zero_lt_one|refine And.intro ?_ ?_|decide|omega)) ?_|refine zfq rfl (by repeat' (first|exact trivial|exact Nat.le_refl _|exact Nat.zero_lt_one|refine And.intro ?_ ?_|decide|omega)) rfl ?_
 first
  |exact Tells.refl _
  |(refine Tells.le ?_ ?_;exact les;exact leh)
  |(refine Tells.all rfl ?_;exact les)
  |(refine (Tells.thaw (t:=0) rfl rfl (by first|exact Nat.le_refl _|exact Nat.le_of_eq (Nat.zero_add _)|(simp;omega)|omega)).trans ((Tells.sel [] rfl rfl).trans (Tells.le ?_ .nil));exact les)
  |(refine (Tells.thaw (t:=1) rfl rfl (by first|exact Nat.le_refl _|exact Nat.le_of_eq (Nat.zero_add _)|(simp;omega)|omega)).trans ((Tells.sel [] rfl rfl).trans (Tells.le ?_ .nil));exact les)
  |(refine (Tells.sel [0] rfl rfl).trans (Tells.le ?_ ?_);exact les;exact leh)
  |(refine (Tells.sel [1] rfl rfl).trans (Tells.le ?_ ?_);exact les;exact leh)
  |(refine (Tells.sel [2] rfl rfl).trans (Tells.le ?_ ?_);exact les;exact leh)
  |(refine (Tells.sel [3] rfl rfl).trans (Tells.le ?_ ?_);exact les;exact leh)
  |(refine (Tells.sel [4] rfl rfl).trans (Tells.le ?_ ?_);exact les;exact leh)
  |(refine (Tells.sel [5] rfl rfl).trans (Tells.le ?_ ?_);exact les;exact leh)
  | fail "fin: the answer does not read so") : A := h
theorem mf2 {G A:Prop} (k:Hold G) (h:Hold G→A:=by
 intro k
 (conv=>arg 5;simp only [lst,Zz,ZB,setn,St.put,St.behind,Qz,St.ev,nth,Option.getD,lits,Y',Xl,Xn,Y8,xa,Y7,Xm,xb,Xq,Xr,Y2,Y6,List.all_cons,List.all_nil,Bool.and_true,Bool.true_and,Bool.and_false,Bool.false_and,Bool.or_false,Bool.false_or,Bool.or_true,Bool.true_or,W_,W0,yS,Yt,Wf,Nat.reduceBEq,Nat.zero_add,Nat.add_zero,List.map_cons,List.map_nil,Int.reduceToNat,Int.toNat_natCast,List.getD_cons_zero,beq_self_eq_true,bne_self_eq_false,Bool.not_true,Bool.not_false,List.drop_zero,List.drop_succ_cons,List.take_succ_cons,List.take_zero,Int.cast_ofNat_Int,cond_true,cond_false,yO,str_append,yM])
 exact k.1):A:=h k
theorem gW {A:Prop} (h:A:=by
 try (refine mf2 ⟨?_⟩)
 repeat' (first
  |with_reducible refine XP ?_|with_reducible refine yL ?_|with_reducible refine XZ ?_|with_reducible refine xm ?_|with_reducible refine ZS ?_|with_reducible refine YD ?_|with_reducible refine xq ?_|with_reducible refine Yy ?_|with_reducible refine xk ?_|with_reducible refine yI ?_|with_reducible refine yj ?_|with_reducible refine YI ?_|(with_reducible refine VN ?_;conv=>arg 5;simp only [VZ,xH,cond_true,cond_false])
  |((with_reducible refine yJ ?_);first|refine YA rfl ?_|refine yH rfl ?_)
  |((with_reducible refine yX ?_);first|refine yG rfl ?_|refine yv rfl ?_)
  |((with_reducible refine yk ?_);first
   |(refine Yk hT rfl rfl (by first|exact True.intro|exact Nat.le_refl _|rfl|decide|omega|exact ⟨rfl,rfl⟩|exact ⟨rfl,by omega⟩|exact yx _ _|exact yy _ _ _|(refine Int.le_trans (b:=9000000000000000000) ?_ (by decide);simp only [Xi,List.length_append,List.length_nil];omega)|(simp only [IntKind.wrap_i64,IntKind.wrap_u64];omega)|(simp only [Yo,zO,and_true,Int.toNat_natCast,List.length_cons,List.length_append,List.length_nil,List.length_take,IntKind.wrap_i64];omega)) ?_;refine mf6 ⟨?_⟩)
   |(refine xr rfl ?_;conv=>arg 6;try simp only [St.put,setn,nth])
   |(refine wN hT rfl rfl rfl (by refine ⟨?_, ?_⟩ <;>first|exact Nat.zero_lt_one|exact ⟨rfl,rfl⟩|exact fun _=>rfl|exact fun h=>by cases h|decide|omega|(simp only [IntKind.wrap_i64];omega)|(simp;omega)) ?_;refine mf7 ⟨?_⟩)
   |(refine Xt hT rfl rfl (by first|exact True.intro|omega|decide|exact ⟨rfl,by decide,by decide,by decide⟩) ?_;refine mf5 ⟨?_⟩))
  |((with_reducible refine Xg ?_);first
   |(refine wm hT rfl rfl (by first|exact True.intro|exact Nat.le_refl _|rfl|decide|omega|exact ⟨rfl,rfl⟩|exact ⟨rfl,by omega⟩|exact yx _ _|exact yy _ _ _|(refine Int.le_trans (b:=9000000000000000000) ?_ (by decide);simp only [Xi,List.length_append,List.length_nil];omega)|(simp only [IntKind.wrap_i64,IntKind.wrap_u64];omega)|(simp only [Yo,zO,and_true,Int.toNat_natCast,List.length_cons,List.length_append,List.length_nil,List.length_take,IntKind.wrap_i64];omega)) ?_;refine mf10 ⟨?_⟩)
   |(refine vF rfl ?_;conv=>arg 8;try simp only [St.put,setn,nth])
   |(refine JD hT rfl rfl (by first|exact True.intro|omega) ?_;refine mf9 ⟨?_⟩))
  |((first|with_reducible refine wR y8 rfl (by decide+kernel) (by decide+kernel) ?_|with_reducible refine XD y8 rfl (by decide+kernel) (by decide+kernel) ?_);conv=>arg 7;simp only [xA,xH,cond_true,cond_false])
  |((with_reducible refine yk ?_);(fail_if_success (first|refine zaB rfl rfl ?_|refine zar rfl rfl ?_));refine H4 rfl rfl (fun h=> ?_) (fun h=> ?_) <;>conv=>arg 6;simp only [setn])
  |((with_reducible refine Xg ?_);(fail_if_success (first|refine zaJ rfl rfl ?_|refine zag rfl rfl ?_));refine zax rfl rfl (fun h=> ?_) (fun h=> ?_) <;>conv=>arg 8;simp only [setn])
  |refine zj rfl (fun h=> ?_) (fun h=> ?_))
 all_goals first
  |(exfalso;omega)
  |exact fin
  |(refine je ?_;exact tel)
  |(first|refine uM rfl (by repeat' (first|exact trivial|exact Nat.le_refl _|exact Nat.zero_lt_one|refine And.intro ?_ ?_|decide|omega)) ?_|refine zfq rfl (by repeat' (first|exact trivial|exact Nat.le_refl _|exact Nat.zero_lt_one|refine And.intro ?_ ?_|decide|omega)) rfl ?_
    refine Tells.le ?_ .nil
    repeat (first
     |exact .nil
     |refine .cons (.refl _) ?_
     |refine .cons (AV.Le.nil rfl rfl) ?_
     |refine .cons (.int (by (repeat' split) <;>omega)) ?_
     |refine .cons (AV.Le.bool (by first|rfl|assumption|(simp;done)|(simp;omega)|(simp [*];done)|(rw [Bool.eq_iff_iff];simp [*];done)|(simp [*];omega))) ?_
     |refine .cons (.eq (by simp;try omega)) ?_))):A:=h
def NZ (A:Prop):Prop:=A
theorem nzz {A:Prop} (h:NZ A):A:=h
theorem zlv {A:Prop} (h:A):NZ A:=h
theorem zlc {A D C D' C':Prop} (g:D) (c:C) (g':D') (c':C') (h:D→C→D'→C'→A:=by
 intro g c g' c';try (refine mf2 ⟨?_⟩)
 repeat' (first
  |with_reducible refine XP ?_|with_reducible refine yL ?_|with_reducible refine XZ ?_|with_reducible refine xm ?_|with_reducible refine ZS ?_|with_reducible refine YD ?_|with_reducible refine xq ?_|with_reducible refine Yy ?_|with_reducible refine xk ?_|with_reducible refine yI ?_|with_reducible refine yj ?_|with_reducible refine YI ?_|(with_reducible refine VN ?_;conv=>arg 5;simp only [VZ,xH,cond_true,cond_false])
  |((with_reducible refine yJ ?_);first|refine YA rfl ?_|refine yH rfl ?_)
  |((with_reducible refine yX ?_);first|refine yG rfl ?_|refine yv rfl ?_)
  |((with_reducible refine yk ?_);first
   |(refine Yk hT rfl rfl (by first|exact True.intro|exact Nat.le_refl _|rfl|decide|omega|exact ⟨rfl,rfl⟩|exact ⟨rfl,by omega⟩|exact yx _ _|exact yy _ _ _|(refine Int.le_trans (b:=9000000000000000000) ?_ (by decide);simp only [Xi,List.length_append,List.length_nil];omega)|(simp only [IntKind.wrap_i64,IntKind.wrap_u64];omega)|(simp only [Yo,zO,and_true,Int.toNat_natCast,List.length_cons,List.length_append,List.length_nil,List.length_take,IntKind.wrap_i64];omega)) ?_;refine mf6 ⟨?_⟩)
   |(refine xr rfl ?_;conv=>arg 6;try simp only [St.put,setn,nth])
   |(refine wN hT rfl rfl rfl (by refine ⟨?_, ?_⟩ <;>first|exact Nat.zero_lt_one|exact ⟨rfl,rfl⟩|exact fun _=>rfl|exact fun h=>by cases h|decide|omega|(simp only [IntKind.wrap_i64];omega)|(simp;omega)) ?_;refine mf7 ⟨?_⟩)
   |(refine Xt hT rfl rfl (by first|exact True.intro|omega|decide|exact ⟨rfl,by decide,by decide,by decide⟩) ?_;refine mf5 ⟨?_⟩))
  |((with_reducible refine Xg ?_);first
   |(refine wm hT rfl rfl (by first|exact True.intro|exact Nat.le_refl _|rfl|decide|omega|exact ⟨rfl,rfl⟩|exact ⟨rfl,by omega⟩|exact yx _ _|exact yy _ _ _|(refine Int.le_trans (b:=9000000000000000000) ?_ (by decide);simp only [Xi,List.length_append,List.length_nil];omega)|(simp only [IntKind.wrap_i64,IntKind.wrap_u64];omega)|(simp only [Yo,zO,and_true,Int.toNat_natCast,List.length_cons,List.length_append,List.length_nil,List.length_take,IntKind.wrap_i64];omega)) ?_;refine mf10 ⟨?_⟩)
   |(refine vF rfl ?_;conv=>arg 8;try simp only [St.put,setn,nth])
   |(refine JD hT rfl rfl (by first|exact True.intro|omega) ?_;refine mf9 ⟨?_⟩))
  |((first|with_reducible refine wR y8 rfl (by decide+kernel) (by decide+kernel) ?_|with_reducible refine XD y8 rfl (by decide+kernel) (by decide+kernel) ?_);conv=>arg 7;simp only [xA,xH,cond_true,cond_false])
  |(first|refine' QP rfl rfl rfl g rfl ?_ (c _) ?_ (nzz ?_)|refine' QP rfl rfl rfl g rfl ?_ (c _ _) ?_ (nzz ?_)|refine' QP rfl rfl rfl g rfl ?_ (c _ _ _) ?_ (nzz ?_))
  |(first|refine' QP rfl rfl rfl g' rfl ?_ (c' _) ?_ (nzz ?_)|refine' QP rfl rfl rfl g' rfl ?_ (c' _ _) ?_ (nzz ?_)|refine' QP rfl rfl rfl g' rfl ?_ (c' _ _ _) ?_ (nzz ?_))
  |((with_reducible refine yk ?_);(fail_if_success (first|refine zaB rfl rfl ?_|refine zar rfl rfl ?_));refine H4 rfl rfl (fun h=> ?_) (fun h=> ?_) <;>conv=>arg 6;simp only [setn])
  |((with_reducible refine Xg ?_);(fail_if_success (first|refine zaJ rfl rfl ?_|refine zag rfl rfl ?_));refine zax rfl rfl (fun h=> ?_) (fun h=> ?_) <;>conv=>arg 8;simp only [setn])
  |(with_reducible refine zlv ?_;conv=>arg 6;try simp only [St.put,St.behind,Qz,St.ev,setn,nth,Option.getD,List.map,ZO,fgs,ren,sh,yS,Yt,Z',Wf,Nat.reduceBEq,Bool.or_false,Bool.false_or,Bool.or_true,Bool.true_or,List.any_nil,List.any_cons,List.nil_append,List.cons_append,List.append_nil,List.length_nil,List.length_cons,Nat.reduceAdd])
  |((with_reducible refine LeS.id ?_);exact les)
  |refine zj rfl (fun h=> ?_) (fun h=> ?_)
  |exact trivial
  |exact Nat.le_refl _
  |exact Nat.le_of_eq (Nat.zero_add _)
  |refine And.intro ?_ ?_)
 all_goals first
  |(exfalso;omega)
  |exact fin
  |(refine je ?_;exact tel)
  |(first|refine uM rfl (by repeat' (first|exact trivial|exact Nat.le_refl _|exact Nat.zero_lt_one|refine And.intro ?_ ?_|decide|omega)) ?_|refine zfq rfl (by repeat' (first|exact trivial|exact Nat.le_refl _|exact Nat.zero_lt_one|refine And.intro ?_ ?_|decide|omega)) rfl ?_
    refine Tells.le ?_ .nil
    repeat (first
     |exact .nil
     |refine .cons (.refl _) ?_
     |refine .cons (AV.Le.nil rfl rfl) ?_
     |refine .cons (.int (by (repeat' split) <;>omega)) ?_
     |refine .cons (AV.Le.bool (by first|rfl|assumption|(simp;done)|(simp;omega)|(simp [*];done)|(rw [Bool.eq_iff_iff];simp [*];done)|(simp [*];omega))) ?_
     |refine .cons (.eq (by simp;try omega)) ?_))):A:=h g c g' c'
theorem ziZ {A:Prop} (h:A:=by
 refine vK y8 rfl ?_
 repeat' (first
  |with_reducible refine WU ?_
  |(with_reducible refine ziC (by decide+kernel) ?_)
  |(refine zg1 (by decide+kernel) ?_)
  |(refine zgi (by decide+kernel) ?_)
  |(refine zhQ ?_ ?_)
  |exact zjY
  |with_reducible refine XP ?_|with_reducible refine yL ?_|with_reducible refine XZ ?_|with_reducible refine xm ?_|with_reducible refine ZS ?_|with_reducible refine YD ?_|with_reducible refine xq ?_|with_reducible refine Yy ?_|with_reducible refine xk ?_|with_reducible refine yI ?_|with_reducible refine yj ?_|with_reducible refine YI ?_|(with_reducible refine VN ?_;conv=>arg 5;simp only [VZ,xH,cond_true,cond_false])
  |((with_reducible refine yJ ?_);first|refine YA rfl ?_|refine yH rfl ?_)
  |((with_reducible refine yX ?_);first|refine yG rfl ?_|refine yv rfl ?_)
  |((with_reducible refine yk ?_);first
   |(refine Yk hT rfl rfl (by first|exact True.intro|exact Nat.le_refl _|rfl|decide|omega|exact ⟨rfl,rfl⟩|exact ⟨rfl,by omega⟩|exact yx _ _|exact yy _ _ _|(refine Int.le_trans (b:=9000000000000000000) ?_ (by decide);simp only [Xi,List.length_append,List.length_nil];omega)|(simp only [IntKind.wrap_i64,IntKind.wrap_u64];omega)|(simp only [Yo,zO,and_true,Int.toNat_natCast,List.length_cons,List.length_append,List.length_nil,List.length_take,IntKind.wrap_i64];omega)) ?_;refine mf6 ⟨?_⟩)
   |(refine xr rfl ?_;conv=>arg 6;try simp only [St.put,setn,nth])
   |(refine wN hT rfl rfl rfl (by refine ⟨?_, ?_⟩ <;>first|exact Nat.zero_lt_one|exact ⟨rfl,rfl⟩|exact fun _=>rfl|exact fun h=>by cases h|decide|omega|(simp only [IntKind.wrap_i64];omega)|(simp;omega)) ?_;refine mf7 ⟨?_⟩)
   |(refine Xt hT rfl rfl (by first|exact True.intro|omega|decide|exact ⟨rfl,by decide,by decide,by decide⟩) ?_;refine mf5 ⟨?_⟩))
  |((with_reducible refine Xg ?_);first
   |(refine wm hT rfl rfl (by first|exact True.intro|exact Nat.le_refl _|rfl|decide|omega|exact ⟨rfl,rfl⟩|exact ⟨rfl,by omega⟩|exact yx _ _|exact yy _ _ _|(refine Int.le_trans (b:=9000000000000000000) ?_ (by decide);simp only [Xi,List.length_append,List.length_nil];omega)|(simp only [IntKind.wrap_i64,IntKind.wrap_u64];omega)|(simp only [Yo,zO,and_true,Int.toNat_natCast,List.length_cons,List.length_append,List.length_nil,List.length_take,IntKind.wrap_i64];omega)) ?_;refine mf10 ⟨?_⟩)
   |(refine vF rfl ?_;conv=>arg 8;try simp only [St.put,setn,nth])
   |(refine JD hT rfl rfl (by first|exact True.intro|omega) ?_;refine mf9 ⟨?_⟩))
  |((first|with_reducible refine wR y8 rfl (by decide+kernel) (by decide+kernel) ?_|with_reducible refine XD y8 rfl (by decide+kernel) (by decide+kernel) ?_);conv=>arg 7;simp only [xA,xH,cond_true,cond_false]))
 all_goals exact fin):A:=h
theorem gcg {G A C D:Prop} (g:D) (c:C) (k:Hold G) (h:D→C→Hold G→A:=by
 intro g c k;refine go ⟨?_⟩;refine cal g c ⟨?_⟩;refine go ⟨?_⟩;exact k.1):A:=h g c k
theorem gc {G A C D:Prop} (g:D) (c:C) (k:Hold G) (h:D→C→Hold G→A:=by
 intro g c k;refine go ⟨?_⟩;refine cal g c ⟨?_⟩;exact k.1):A:=h g c k
theorem cg {G A C D:Prop} (g:D) (c:C) (k:Hold G) (h:D→C→Hold G→A:=by
 intro g c k;refine cal g c ⟨?_⟩;refine go ⟨?_⟩;exact k.1):A:=h g c k
theorem gcgf {A C D:Prop} (g:D) (c:C) (h:D→C→A:=by
 intro g c;refine go ⟨?_⟩;refine cal g c ⟨?_⟩;refine go ⟨?_⟩;exact fin):A:=h g c
theorem cgf {A C D:Prop} (g:D) (c:C) (h:D→C→A:=by
 intro g c;refine cal g c ⟨?_⟩;refine go ⟨?_⟩;exact fin):A:=h g c
theorem gf {A:Prop} (h:A:=by
 refine go ⟨?_⟩;exact fin):A:=h
theorem ng {G A:Prop} (k:Hold G) (h:Hold G→A:=by
 intro k;refine nz ⟨?_⟩;refine go ⟨?_⟩;exact k.1):A:=h k
def yf (w:Int):Bool:=decide (w=1∨w=3∨w=7∨w=15∨w=31∨w=63∨w=127)
theorem TE: ∀n:Fin 128,0<n.val→(IntKind.i64.wrap ((BitVec.ofInt IntKind.i64.bits (n.val:Int) &&& BitVec.ofInt IntKind.i64.bits (IntKind.i64.wrap ((n.val:Int)+1))).toNat:Int)==0)=yf n.val:=by decide+kernel
theorem uS {w:Int} (h: ¬(w>0∧w≤127)):yf w=false:=by
 unfold yf;simp only [decide_eq_false_iff_not];omega
theorem kq (w:Int):APure Tryz.prog 94 [int w] (.lit (.bool (yf w))) []:=by
 refine ent Tryz.func94 Tryz.ntmps94 ⟨?_⟩;by_cases h1:w>0
 ·by_cases h2:w≤127
  ·obtain ⟨n,rfl⟩:=Int.eq_ofNat_of_zero_le (show 0≤w by omega);have e:=TE ⟨n,by omega⟩ (by simp only;omega);simp only at e;refine go ⟨?_⟩;rw [e];exact fin
  ·rw [uS (by omega)];exact gf
 ·rw [uS (by omega)];exact gf
theorem gfn {f : FuncId} {fn : Func} {c : Code} (h : Tryz.prog.funcs[f]? = some fn) (h2 : (fn.name == "runtime.NumGoroutine") = false := by kernel_rfl) (h3 : fn.body = some c := by exact rfl) : ze Tryz.prog f := ⟨_, _, h, h2, h3⟩
theorem kF:ze Tryz.prog 94:=gfn Tryz.func94
theorem zll (x w:Int):APure Tryz.prog 190 [int x,int w] (.lit (.bool (yf w && decide (0≤x) && decide (x<w)))) []:=by
 refine ent Tryz.func190 Tryz.ntmps190 ⟨?_⟩;refine gc kF (kq w) ⟨?_⟩;cases h:yf w
 ·exact gf
 ·by_cases h1:x≥0
  ·exact gf
  ·exact gf
theorem zla:ze Tryz.prog 190:=gfn Tryz.func190
def Kw:Nat→Nat→Nat
 |0,_=>0
 |k+1,n=>if n % 2=1 then Kw k (n / 2)+1 else 0
def tE (v:Int):Int:=(IntKind.u64.wrap (IntKind.u64.wrap ((BitVec.ofInt IntKind.u64.bits v &&& BitVec.ofInt IntKind.u64.bits (IntKind.u64.wrap (0 - v))).toNat:Int)*285870213051353865)).fdiv (2^min 58 IntKind.u64.bits)
def zdJ:List AV:=(Lib.deBruijn64tab.map fun x:Nat=>Value.int .u8 (x:Int)).map AV.lit
theorem zki (v:Int) (k m:Nat) (R:List AV) (h0: ¬v=0) (e1:tE v=k) (e2:k<64) (hd:List.drop (k*1) zdJ= .lit (.int .u8 (m:Int))::R) (e4:m≤7):APure Tryz.prog 312 [.lit (.int .u64 v)] (int m) []:=by
 refine ent Tryz.func312 Tryz.ntmps312 ⟨?_⟩;have hw:IntKind.i64.wrap (m:Int)=m:=by simp only [IntKind.wrap_i64];omega
 refine go ⟨?_⟩;unfold tE at e1;rw [e1];refine qo hT rfl (x:= .ip (.lit (.int .u8 (m:Int))::R)) ⟨0≤(k:Int)∧(k:Int)<64,by rw [←hd];rfl,by omega⟩ ?_;refine go ⟨?_⟩;first|exact fin|(simp only [hw];exact fin)
theorem zfr: ∀n:Fin 127,tE (18446744073709551615 - (n.val:Int))=((tE (18446744073709551615 - (n.val:Int))).toNat:Int)∧(tE (18446744073709551615 - (n.val:Int))).toNat<64∧Lib.deBruijn64tab[(tE (18446744073709551615 - (n.val:Int))).toNat]?=some (Kw 7 n.val)∧Kw 7 n.val≤7:=by decide+kernel
theorem zj1 (n:Nat) (h:n<127):APure Tryz.prog 312 [.lit (.int .u64 (18446744073709551615 - (n:Int)))] (int (Kw 7 n)) []:=by
 obtain ⟨e1,e2,e3,e4⟩:=zfr ⟨n,h⟩;simp only at e1 e2 e3 e4;refine zki _ _ _ (List.drop ((tE (18446744073709551615 - (n:Int))).toNat+1) zdJ) (by omega) e1 e2 ?_ e4
 ·have hl:(tE (18446744073709551615 - (n:Int))).toNat<zdJ.length:=by simpa [zdJ,Lib.deBruijn64tab] using e2
  rw [Nat.mul_one,List.drop_eq_getElem_cons hl];congr 1
  rw [List.getElem_eq_iff];simp [zdJ,e3]
theorem zi6:ze Tryz.prog 312:=gfn Tryz.func312
theorem zly (n:Nat) (h:n<127):APure Tryz.prog 293 [.lit (.int .u64 (18446744073709551615 - (n:Int)))] (int (Kw 7 n)) []:=by
 have hc:=zj1 n h;generalize (18446744073709551615:Int) - (n:Int)=v at hc ⊢;refine ent Tryz.func293 Tryz.ntmps293 ⟨?_⟩;exact gcgf zi6 hc
theorem zlB:ze Tryz.prog 293:=gfn Tryz.func293
def zZ (x:Int):Int:=if x<0∨x≥127 then -1 else Kw 7 x.toNat
theorem zlA: ∀n:Fin 127,IntKind.u64.wrap ((BitVec.ofInt IntKind.u64.bits (if IntKind.u64.signed=true then -1 else IntKind.u64.max)^^^BitVec.ofInt IntKind.u64.bits (IntKind.u64.wrap (n.val:Int))).toNat:Int)=18446744073709551615 - (n.val:Int):=by decide+kernel
theorem pC (x:Int):APure Tryz.prog 254 [int x] (int (zZ x)) []:=by
 refine ent Tryz.func254 Tryz.ntmps254 ⟨?_⟩;unfold zZ;by_cases h:x<0∨x≥127
 ·rw [if_pos h];by_cases h1:x<0
  ·exact gf
  ·have h2:x≥127:=by omega
   exact gf
 ·rw [if_neg h];have h1: ¬x<0:=by omega
  have h2: ¬x≥127:=by omega
  obtain ⟨n,rfl⟩:=Int.eq_ofNat_of_zero_le (show 0≤x by omega);rw [Int.toNat_natCast];have hc:=zly n (by omega);have hx:=zlA ⟨n,by omega⟩;simp only at hx;generalize (18446744073709551615:Int) - (n:Int)=v at hc hx;refine go ⟨?_⟩;rw [hx];exact cgf zlB hc
theorem pJ:ze Tryz.prog 254:=gfn Tryz.func254
def jV (w:Int):Int:=if yf w=true then w / 2 else -1
theorem qU {w:Int} (h:yf w=true):1≤w∧w≤127:=by
 unfold yf at h;have:=of_decide_eq_true h
 omega
theorem zja (w:Int):APure Tryz.prog 253 [int w] (int (jV w)) []:=by
 refine ent Tryz.func253 Tryz.ntmps253 ⟨?_⟩;refine gc kF (kq w) ⟨?_⟩;unfold jV;cases h:yf w
 ·exact gf
 ·have hb:=qU h
  have e:IntKind.i64.wrap (w.tdiv 2)=w / 2:=by
   rw [Int.tdiv_eq_ediv_of_nonneg (by omega)];simp only [IntKind.wrap_i64];omega
  refine go ⟨?_⟩;first|exact fin|(rw [e];exact fin)
theorem zjW:ze Tryz.prog 253:=gfn Tryz.func253
def TP (x:Int):Int:=if zZ x>0 then x - 2^(zZ x - 1).toNat else -1
def K9 (x:Int):Int:=if zZ x>0 then x+2^(zZ x - 1).toNat else -1
theorem zic: ∀n:Fin 127,zZ (n.val:Int)>0→IntKind.i64.wrap ((n.val:Int) - IntKind.i64.wrap (1*2^min (IntKind.i64.wrap (zZ (n.val:Int) - 1)).toNat IntKind.i64.bits))=(n.val:Int) - 2^(zZ (n.val:Int) - 1).toNat∧
 IntKind.i64.wrap ((n.val:Int)+IntKind.i64.wrap (1*2^min (IntKind.i64.wrap (zZ (n.val:Int) - 1)).toNat IntKind.i64.bits))=(n.val:Int)+2^(zZ (n.val:Int) - 1).toNat∧IntKind.i64.wrap (zZ (n.val:Int) - 1)≥0:=by decide+kernel
theorem zhE (t x:Int) (hx:0≤x∧x<127):APure Tryz.prog 251 [int t,int x] (int (TP x)) []:=by
 refine ent Tryz.func251 Tryz.ntmps251 ⟨?_⟩;obtain ⟨n,rfl⟩:=Int.eq_ofNat_of_zero_le hx.1;have hf:=zic ⟨n,by omega⟩;simp only at hf;refine gc pJ (pC (n:Int)) ⟨?_⟩;unfold TP;generalize zZ (n:Int)=k at hf ⊢;by_cases h:k>0
 ·rw [if_pos h];obtain ⟨e1,e2,e3⟩:=hf h;refine go ⟨?_⟩;rw [e1];exact fin
 ·rw [if_neg h];exact gf
theorem zhh:ze Tryz.prog 251:=gfn Tryz.func251
theorem zfH (t x:Int) (hx:0≤x∧x<127):APure Tryz.prog 252 [int t,int x] (int (K9 x)) []:=by
 refine ent Tryz.func252 Tryz.ntmps252 ⟨?_⟩;obtain ⟨n,rfl⟩:=Int.eq_ofNat_of_zero_le hx.1;have hf:=zic ⟨n,by omega⟩;simp only at hf;refine gc pJ (pC (n:Int)) ⟨?_⟩;unfold K9;generalize zZ (n:Int)=k at hf ⊢;by_cases h:k>0
 ·rw [if_pos h];obtain ⟨e1,e2,e3⟩:=hf h;refine go ⟨?_⟩;rw [e2];exact fin
 ·rw [if_neg h];exact gf
theorem zcY:ze Tryz.prog 252:=gfn Tryz.func252
def iUp (x:Int):Int:=if x / (2*2^(zZ x).toNat) % 2=0 then x+2^(zZ x).toNat else x - 2^(zZ x).toNat
def wt (t x:Int):Int:=if x=jV t then -1 else iUp x
theorem tup: ∀n:Fin 127,IntKind.i64.wrap ((BitVec.ofInt IntKind.i64.bits (IntKind.i64.wrap ((BitVec.ofInt IntKind.i64.bits (n.val:Int)|||BitVec.ofInt IntKind.i64.bits (IntKind.i64.wrap (1*2^min (zZ (n.val:Int)).toNat IntKind.i64.bits))).toNat:Int)) &&& ~~~BitVec.ofInt IntKind.i64.bits (IntKind.i64.wrap (1*2^min (IntKind.i64.wrap (zZ (n.val:Int)+1)).toNat IntKind.i64.bits))).toNat:Int)=iUp (n.val:Int)∧
 zZ (n.val:Int)≥0∧IntKind.i64.wrap (zZ (n.val:Int)+1)≥0:=by decide+kernel
theorem uY (t x:Int) (hx:0≤x∧x<127):APure Tryz.prog 188 [int t,int x] (int (wt t x)) []:=by
 refine ent Tryz.func188 Tryz.ntmps188 ⟨?_⟩;obtain ⟨n,rfl⟩:=Int.eq_ofNat_of_zero_le hx.1;obtain ⟨e1,h3,h4⟩:=tup ⟨n,by omega⟩;simp only at e1 h3 h4;unfold wt;refine gc zjW (zja t) ⟨?_⟩;by_cases h:(n:Int)=jV t
 ·rw [if_pos h];exact gf
 ·rw [if_neg h];refine gcg pJ (pC (n:Int)) ⟨?_⟩;rw [e1];exact fin
theorem U6:ze Tryz.prog 188:=gfn Tryz.func188
def zgc (t x:Int):Int:=if wt t x<0 then -1 else 2*wt t x - x
theorem zjO: ∀n:Fin 127,iUp (n.val:Int)≤1000:=by decide+kernel
theorem zi' (t x:Int) (hx:0≤x∧x<127):APure Tryz.prog 191 [int t,int x] (int (zgc t x)) []:=by
 refine ent Tryz.func191 Tryz.ntmps191 ⟨?_⟩
 have hl:wt t x≤1000:=by
  unfold wt;split
  ·omega
  ·have:=zjO ⟨x.toNat,by omega⟩
   simp only [Int.toNat_of_nonneg hx.1] at this;exact this
 unfold zgc;refine gc U6 (uY t x hx) ⟨?_⟩;generalize wt t x=p at hl ⊢;by_cases h:p<0
 ·rw [if_pos h];exact gf
 ·rw [if_neg h];have e1:IntKind.i64.wrap (2*p)=2*p:=by simp only [IntKind.wrap_i64];omega
  have e2:IntKind.i64.wrap (2*p - x)=2*p - x:=by simp only [IntKind.wrap_i64];omega
  refine go ⟨?_⟩;simp only [e1,e2];exact fin
theorem zjx:ze Tryz.prog 191:=gfn Tryz.func191
def iIs (x w:Int):Bool:=yf w && decide (0≤x) && decide (x<w)
theorem zh4 {x w:Int} (h:iIs x w=true):0≤x∧x<127:=by
 unfold iIs at h;simp only [Bool.and_eq_true,decide_eq_true_eq] at h;have:=qU h.1.1
 omega
theorem zh9 {g:Nat} (p:Int→Int→Int) (hg:ze Tryz.prog g) (hp: ∀t x,0≤x∧x<127→APure Tryz.prog g [int t,int x] (int (p t x)) []) (x w:Int):APure Tryz.prog 187 [.fn (.func g) [] [],int x,int w] (int (if iIs x w=true then p w x else -1)) []:=by
 refine ent Tryz.func187 Tryz.ntmps187 ⟨?_⟩;refine gc zla (zll x w) ⟨?_⟩;rw [show (yf w && decide (0≤x) && decide (x<w))=iIs x w from rfl];cases h:iIs x w
 ·exact gf
 ·refine go ⟨?_⟩;refine x8 rfl rfl rfl hg rfl rfl (hp w x (zh4 h)) (.refl _) ?_;exact gf
theorem zfY:ze Tryz.prog 187:=gfn Tryz.func187
def ZP (x w:Int):Int:=if iIs x w=true then TP x else -1
theorem GK (x w:Int):APure Tryz.prog 182 [int x,int w] (int (ZP x w)) []:=by
 refine ent Tryz.func182 Tryz.ntmps182 ⟨?_⟩;exact gcgf zfY (zh9 (g:=251) (fun _ x=>TP x) zhh zhE x w)
theorem Gs:ze Tryz.prog 182:=gfn Tryz.func182
def Zp (x w:Int):Int:=if iIs x w=true then K9 x else -1
theorem py (x w:Int):APure Tryz.prog 183 [int x,int w] (int (Zp x w)) []:=by
 refine ent Tryz.func183 Tryz.ntmps183 ⟨?_⟩;exact gcgf zfY (zh9 (g:=252) (fun _ x=>K9 x) zcY zfH x w)
theorem Px:ze Tryz.prog 183:=gfn Tryz.func183
def zm (x w:Int):Int:=if iIs x w=true then wt w x else -1
theorem jD (x w:Int):APure Tryz.prog 125 [int x,int w] (int (zm x w)) []:=by
 refine ent Tryz.func125 Tryz.ntmps125 ⟨?_⟩;exact gcgf zfY (zh9 (g:=188) wt U6 uY x w)
theorem jj:ze Tryz.prog 125:=gfn Tryz.func125
def zE (x w:Int):Int:=if iIs x w=true then zgc w x else -1
theorem vp (x w:Int):APure Tryz.prog 127 [int x,int w] (int (zE x w)) []:=by
 refine ent Tryz.func127 Tryz.ntmps127 ⟨?_⟩;exact gcgf zfY (zh9 (g:=191) zgc zjx zi' x w)
theorem vH:ze Tryz.prog 127:=gfn Tryz.func127
theorem jZ (n:Nat) (h:n≤8):APure Tryz.prog 220 [int n] (int (2^n:Nat)) []:=by
 refine ent Tryz.func220 Tryz.ntmps220 ⟨?_⟩;refine go ⟨?_⟩;refine lp (fun i:{i:Nat // i≤n}=>[(3,int (2^i.1:Nat)),(4,int i.1)]) (fun _=>[]) (fun i=>n - i.1) ⟨0,by omega⟩ ?_
 rintro ⟨i,hi⟩
 have hp:2^i≤2^8:=Nat.pow_le_pow_right (by omega) (by omega)
 refine go ⟨?_⟩;refine zj rfl (fun h=> ?_) (fun h=> ?_)
 ·have e:IntKind.i64.wrap (2*((2^i:Nat):Int))=((2^(i+1):Nat):Int):=by
   simp only [IntKind.wrap_i64,Nat.pow_succ];omega
  have e2:IntKind.i64.wrap ((i:Int)+1)=((i+1:Nat):Int):=by simp only [IntKind.wrap_i64];omega
  refine go ⟨?_⟩;simp only [e,e2];refine je ⟨⟨i+1,by omega⟩,by simp only;omega, ?_⟩;exact tel
 ·obtain rfl:i=n:=by omega
  exact gf
theorem QO:ze Tryz.prog 220:=gfn Tryz.func220
theorem zch: ∀n:Fin 127,∀i:Fin 8,n.val % 2^i.val=2^i.val - 1→(n.val / 2^i.val % 2=1→i.val<7∧n.val % 2^(i.val+1)=2^(i.val+1) - 1)∧(¬n.val / 2^i.val % 2=1→Kw 7 n.val=i.val):=by decide+kernel
theorem Q0 (x:Int):APure Tryz.prog 219 [int x] (int (zZ x)) []:=by
 refine ent Tryz.func219 Tryz.ntmps219 ⟨?_⟩;unfold zZ;by_cases h:x<0∨x≥127
 ·rw [if_pos h];by_cases h1:x<0
  ·exact gf
  ·have h2:x>126:=by omega
   exact gf
 ·rw [if_neg h];have h1: ¬x<0:=by omega
  have h2: ¬x>126:=by omega
  obtain ⟨n,rfl⟩:=Int.eq_ofNat_of_zero_le (show 0≤x by omega);rw [Int.toNat_natCast];refine go ⟨?_⟩;refine lp (fun i:{i:Nat // i<8∧n % 2^i=2^i - 1}=>[(0,int (n / 2^i.1:Nat)),(3,int i.1)]) (fun _=>[]) (fun i=>8 - i.1) ⟨0,by simp [Nat.mod_one]⟩ ?_
  rintro ⟨i,hi,hn⟩
  obtain ⟨f1,f2⟩:=zch ⟨n,by omega⟩ ⟨i,hi⟩ hn;simp only at f1 f2;have em:((n / 2^i:Nat):Int).tmod 2=((n / 2^i % 2:Nat):Int):=by generalize n / 2^i=q;rw [Int.tmod_eq_emod_of_nonneg (Int.natCast_nonneg _)];omega
  have ed:IntKind.i64.wrap (((n / 2^i:Nat):Int).tdiv 2)=((n / 2^(i+1):Nat):Int):=by
   rw [Int.tdiv_eq_ediv_of_nonneg (Int.natCast_nonneg _),Nat.pow_succ,←Nat.div_div_eq_div_mul];generalize hq:n / 2^i=q;have:q≤n:=by rw [←hq];exact Nat.div_le_self _ _
   simp only [IntKind.wrap_i64];omega
  have e2:IntKind.i64.wrap ((i:Int)+1)=((i+1:Nat):Int):=by simp only [IntKind.wrap_i64];omega
  refine go ⟨?_⟩;rw [em];by_cases hq:n / 2^i % 2=1
  ·rw [hq];refine go ⟨?_⟩;simp only [ed,e2];refine je ⟨⟨i+1,by have:=f1 hq;omega,(f1 hq).2⟩,by simp only;omega, ?_⟩;exact tel
  ·rw [show n / 2^i % 2=0 by omega,f2 hq];exact gf
theorem ve:ze Tryz.prog 219:=gfn Tryz.func219
end
end Go.Proofs.YtgdmkpikkfakdaaGreatDoor
