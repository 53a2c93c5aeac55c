/- slices.Sort at numbers: the shelf's contract, at this program. clear, of the end of a row of one's own: only what stands ahead of it is known from then on. slices.*: sorted, made thin, cut. slices.DeleteFunc at numbers. Rising lists: plain laws. The document of layer 6, walked: Direct, Copath, has, Under. Layer 8 (parent), walked. The document of layer 8, walked. The document of layer 8: Join. Layer 9 (node), walked. The document of layer 9, walked. The document of layer 9: Get, Same, Few. Layer 10 (shape), walked: Sane, Leaves, Free. The document of layer 10, walked: Sane, As, Leaves, Free, L -/
import Derived.Shelf.Sort.Plain
import Derived.Shelf.Slices.In.SortNone
import Derived.Test.YtgdmkpikkfakdaaGreatDoorBunModel3
namespace Go.Proofs.YtgdmkpikkfakdaaGreatDoor
open Go.RowKit
set_option maxRecDepth 100000
set_option linter.unusedVariables false
set_option linter.unusedSimpArgs false
set_option linter.unusedSectionVars false
section
open Go.RowKit Go.Sort Go.Shelf
def tG:Go.Shelf.Ren:=⟨fun|189=>282|125=>309|257=>308|128=>327|129=>328|294=>318|295=>319|296=>320|297=>321|298=>322|299=>323|216=>324|300=>325|301=>326|328=>333|329=>334|330=>335|331=>336|332=>337|215=>338|343=>341|n=>n,fun|28=>36|3=>3|46=>197|0=>0|51=>201|53=>242|4=>4|183=>251|182=>250|131=>105|5=>5|9=>9|218=>258|222=>262|228=>264|229=>265|n=>n,fun|n=>n⟩
theorem HO:Go.Proofs.Lays.n189 Tryz.prog tG:={
 mixed:=by kernel_rfl
 f125:=Tryz.func309.trans (congrArg some (by kernel_rfl))
 f128:=Tryz.func327.trans (congrArg some (by kernel_rfl))
 f129:=Tryz.func328.trans (congrArg some (by kernel_rfl))
 f189:=Tryz.func282.trans (congrArg some (by kernel_rfl))
 f215:=Tryz.func338.trans (congrArg some (by kernel_rfl))
 f216:=Tryz.func324.trans (congrArg some (by kernel_rfl))
 f257:=Tryz.func308.trans (congrArg some (by kernel_rfl))
 f294:=Tryz.func318.trans (congrArg some (by kernel_rfl))
 f295:=Tryz.func319.trans (congrArg some (by kernel_rfl))
 f296:=Tryz.func320.trans (congrArg some (by kernel_rfl))
 f297:=Tryz.func321.trans (congrArg some (by kernel_rfl))
 f298:=Tryz.func322.trans (congrArg some (by kernel_rfl))
 f299:=Tryz.func323.trans (congrArg some (by kernel_rfl))
 f300:=Tryz.func325.trans (congrArg some (by kernel_rfl))
 f301:=Tryz.func326.trans (congrArg some (by kernel_rfl))
 f328:=Tryz.func333.trans (congrArg some (by kernel_rfl))
 f329:=Tryz.func334.trans (congrArg some (by kernel_rfl))
 f330:=Tryz.func335.trans (congrArg some (by kernel_rfl))
 f331:=Tryz.func336.trans (congrArg some (by kernel_rfl))
 f332:=Tryz.func337.trans (congrArg some (by kernel_rfl))
 f343:=Tryz.func341.trans (congrArg some (by kernel_rfl))
 t0:=Tryz.underlying0
 a0:=Tryz.isAgg0
 z0:=Tryz.sizeOf0
 v0:=Tryz.zeroValue0
 t3:=Tryz.underlying3
 a3:=Tryz.isAgg3
 z3:=Tryz.sizeOf3
 v3:=Tryz.zeroValue3
 t4:=Tryz.underlying4
 a4:=Tryz.isAgg4
 z4:=Tryz.sizeOf4
 v4:=Tryz.zeroValue4
 t5:=Tryz.underlying5
 a5:=Tryz.isAgg5
 z5:=Tryz.sizeOf5
 v5:=Tryz.zeroValue5
 t9:=Tryz.underlying9
 a9:=Tryz.isAgg9
 z9:=Tryz.sizeOf9
 v9:=Tryz.zeroValue9
 t28:=Tryz.underlying36
 a28:=Tryz.isAgg36
 z28:=Tryz.sizeOf36
 v28:=Tryz.zeroValue36
 t46:=Tryz.underlying197
 a46:=Tryz.isAgg197
 z46:=Tryz.sizeOf197
 v46:=Tryz.zeroValue197
 t51:=Tryz.underlying201
 a51:=Tryz.isAgg201
 z51:=Tryz.sizeOf201
 v51:=Tryz.zeroValue201
 t53:=Tryz.underlying242
 a53:=Tryz.isAgg242
 z53:=Tryz.sizeOf242
 v53:=Tryz.zeroValue242
 t131:=Tryz.underlying105
 a131:=Tryz.isAgg105
 z131:=Tryz.sizeOf105
 v131:=Tryz.zeroValue105
 t182:=Tryz.underlying250
 a182:=Tryz.isAgg250
 z182:=Tryz.sizeOf250
 v182:=Tryz.zeroValue250
 t183:=Tryz.underlying251
 a183:=Tryz.isAgg251
 z183:=Tryz.sizeOf251
 v183:=Tryz.zeroValue251
 t218:=Tryz.underlying258
 a218:=Tryz.isAgg258
 z218:=Tryz.sizeOf258
 v218:=Tryz.zeroValue258
 t222:=Tryz.underlying262
 a222:=Tryz.isAgg262
 z222:=Tryz.sizeOf262
 v222:=Tryz.zeroValue262
 t228:=Tryz.underlying264
 a228:=Tryz.isAgg264
 z228:=Tryz.sizeOf264
 v228:=Tryz.zeroValue264
 t229:=Tryz.underlying265
 a229:=Tryz.isAgg265
 z229:=Tryz.sizeOf265
 v229:=Tryz.zeroValue265}
theorem g_ (blk off cap:Nat) (zs:List Int) (w:World) (hH:Holds (Value.int .i64) w blk off zs.toArray) (hblk:blk<w.heap.size) (hsz:zs.length<4611686018427387904):
 Calls Tryz.prog 282 #[.slice (some ⟨blk,off,none⟩) zs.length cap] w fun e w'=>e= .returned (.tuple #[])∧ ∃n os,w'=grow (putRow (Value.int .i64) (Sort.ahead w n) blk off (zs.mergeSort fun x y=>decide (x≤y)).toArray) os:=Any.slices_Sort_int HO blk off cap zs w hH hblk hsz
theorem Tc (p:Option Addr) (cap:Nat) (w:World):Calls Tryz.prog 282 #[.slice p 0 cap] w fun e w'=>e= .returned (.tuple #[])∧w'=w:=Any.slices_Sort_int_none HO p cap w
def qe (l:List Int):List Int:=l.mergeSort fun x y=>decide (x≤y)
theorem Jt (l:List Int):(qe l).length=l.length:=List.length_mergeSort l
theorem zjq (l:List Int) (hl:l.length≤1000000):ACall Tryz.prog 282 [.row 0 1 0 l.length none] [yC l] fun r H' fg=>r= .tup []∧H'=[yC (qe l)]∧fg=[]:=by
 intro w X μ vs hH hv;obtain ⟨v,vs',rfl,h1,h2⟩:=hv.uncons;obtain rfl:=h2.unnil;have hat:=hH.obj 0 _ rfl (show (0:Nat)<2 by decide);generalize hn:l.length=n at h1;cases h1 with
 |rowNil hm hc=>
  have h0:l=[]:=List.length_eq_zero_iff.1 hn
  subst h0;refine (Tc none 0 w).mono fun e w' he=> ?_
  obtain ⟨rfl,rfl⟩:=he;exact ⟨.tuple #[], .tup [],[yC (qe [])],[],μ,rfl,⟨rfl,rfl,rfl⟩,by simpa [qe] using hH, .tup (vs:=[]) rfl fun j a v h=>by simp at h, .refl _ _, .refl _ _,Nat.le_refl _,fun k x u _ hx=>(show RV (OO X [yC (qe [])] μ) _ (upto k μ) x u from (show qe []=[] by simp [qe]).symm▸hx)⟩
 |rowE hm hcap hoff=>exact (hoff rfl).elim
 |row hm hn' hc' hcap hend=>
  rename_i b m c;rcases hat.2 with ⟨e1,_⟩|⟨b',m',cur,e1,hin⟩
  ·rw [hm] at e1;cases e1
  rw [hm] at e1;injection e1 with e1;injection e1 with e1;injection e1 with e1 e2;subst e1 e2;have hblk:b<w.heap.size:=(Array.getElem?_eq_some_iff.1 hin.blk).1
  have hsz:cur.size=m:=by simpa using hin.size
  have hnm:l.length≤m:=hin.nle
  have hcell: ∀j,(hj:j<l.length)→cur[j]?=some (.int .i64 l[j]):=fun j hj=>by
   have hlt:j<cur.size:=by omega
   have h3:=hin.cell j 0 (.lit (.int .i64 (l.getD j 0))) cur[j] hj rfl (by simp);rw [Array.getElem?_eq_getElem hlt,h3.lit_eq];simp [List.getD_eq_getElem?_getD,hj]
  have hhold:Holds (Value.int .i64) w b 0 l.toArray:=fun j hj=>by
   have hj:j<l.length:=by simpa using hj
   refine ⟨?_, ?_⟩
   ·unfold World.cell?;simp only [hin.blk,Nat.zero_add];rw [hcell j hj];simp [hj]
   ·unfold World.frozen?;simp only [hin.blk];simp
  refine (show Calls Tryz.prog 282 #[.slice (some ⟨b,0*1,none⟩) n c] w _ from hn▸(g_ b 0 c l w hhold hblk (by omega)).mono fun e w' he=> ?_);obtain ⟨rfl,q,os,rfl⟩:=he;have hS:=Jt l;unfold qe at hS ⊢;generalize (l.mergeSort fun x y=>decide (x≤y))=S at hS ⊢
  have hold: ∀k,k<w.heap.size→k≠b→(grow (putRow (Value.int .i64) (Sort.ahead w q) b 0 S.toArray) os).heap[k]?=w.heap[k]?:=fun k hk hkb=>by
   rw [show (grow (putRow (Value.int .i64) (Sort.ahead w q) b 0 S.toArray) os).heap[k]?=(putRow (Value.int .i64) (Sort.ahead w q) b 0 S.toArray).heap[k]? from Array.getElem?_append_left (by simpa [Sort.ahead] using hk)];unfold putRow mapBlock;simp [Sort.ahead,Array.getElem?_modify,Ne.symm hkb]
  have hnew:(grow (putRow (Value.int .i64) (Sort.ahead w q) b 0 S.toArray) os).heap[b]?=some (.cells (putCells (Value.int .i64) 0 S.toArray cur) (yC l).T (0,0)):=by
   rw [show (grow (putRow (Value.int .i64) (Sort.ahead w q) b 0 S.toArray) os).heap[b]?=(putRow (Value.int .i64) (Sort.ahead w q) b 0 S.toArray).heap[b]? from Array.getElem?_append_left (by simpa [Sort.ahead] using hblk)];unfold putRow mapBlock;simp [Sort.ahead,Array.getElem?_modify,hin.blk,onCells]
  have hsize:w.heap.size≤(grow (putRow (Value.int .i64) (Sort.ahead w q) b 0 S.toArray) os).heap.size:=by simp [grow,Sort.ahead]
  have hputs: ∀j u,(putCells (Value.int .i64) 0 S.toArray cur)[j]?=some u→j<l.length→u= .int .i64 (S.getD j 0):=fun j u hu hj=>by
   unfold putCells at hu;simp only [Array.getElem?_mapIdx,Option.map_eq_some_iff] at hu;obtain ⟨y,hy,rfl⟩:=hu;rw [if_pos ⟨Nat.zero_le _,by simp;omega⟩];have:j<S.length:=by omega
   simp [List.getD_eq_getElem?_getD,this]
  have hos:(grow (putRow (Value.int .i64) (Sort.ahead w q) b 0 S.toArray) os).os=w.os∧(grow (putRow (Value.int .i64) (Sort.ahead w q) b 0 S.toArray) os).tape=w.tape∧(grow (putRow (Value.int .i64) (Sort.ahead w q) b 0 S.toArray) os).output=w.output:=⟨rfl,rfl,rfl⟩
  generalize grow (putRow (Value.int .i64) (Sort.ahead w q) b 0 S.toArray) os=w' at hold hnew hsize hos ⊢
  have hpu:Puts μ μ X [yC l] [yC S] w w' 0:=
   ⟨⟨yC l,rfl,rfl⟩,rfl,fun i o' hi ho=>(by cases i with|zero=>exact (hi rfl).elim|succ i=>simp at ho),fun _ _=>rfl,fun lc hlc b' m' he=>by
     rw [hm] at hlc;injection hlc with hlc;subst hlc;injection he with he;injection he with g1 g2;subst g1;exact ⟨(Array.getElem?_eq_some_iff.1 hnew).1, .inl ⟨_,hm⟩⟩,hsize,hos.1,hos.2.1,hos.2.2,fun k hk hne=>hold k hk fun he=>hne m (by rw [he];exact hm)⟩
  have hrel:=hpu.rel hH (fun i o' hi ho=>by cases i with|zero=>exact (hi rfl).elim|succ i=>simp at ho) (fun o' ho hst=>by
   simp at ho;subst ho
   refine ⟨Nat.zero_lt_one, .inr ⟨b,m,_,hm,hnew,by simpa [putCells] using hin.size,hin.le,by simp only;omega,fun k j v hk hj hv=> ?_,fun k hk=>rfl,fun k j a v hk ha hv=> ?_⟩⟩
   ·have hj0:j=0:=by have:j<1:=hj;omega
    subst hj0;rw [hputs _ v hv (by have hk:k<S.length:=hk;show k*1+0<_;omega)];rfl
   ·have hj0:j=0:=by have:=(List.getElem?_eq_some_iff.1 ha).1;have:j<1:=this;omega
    subst hj0;have hk:k<S.length:=hk
    have ha:some (AV.lit (.int .i64 (S.getD k 0)))=some a:=ha
    injection ha with ha;subst ha
    rw [hputs _ v hv (by show k*1+0<_;omega),show k*1+0=k by omega];exact .lit _) (.none fun o ho=>by simp at ho;subst ho;exact (show (0:Nat)<3 by decide))
  exact ⟨.tuple #[], .tup [],[yC S],[],μ,rfl,⟨rfl,rfl,rfl⟩,hrel, .tup (vs:=[]) rfl fun j a v h=>by simp at h,hpu.chg,hpu.ext,Nat.le_refl _,fun k x u _ hx=>hx.mono hpu.oo hpu.moved.blk _ fun _ _ h=>h⟩
end
section
variable {P:Program} {tab:Tab} {X:Nat→Prop} {H H':List zb} {μ μ':Mu} {w w':World} {r:Option Nat} {l R:List Oper} {Q:Exit→St→Prop} {σ:St} {o:Oper}
theorem HRel.short (hH:HRel μ X H w) {id:Nat} {ob ob':zb} (hob:H[id]?=some ob) (hst:ob.st=0) (hst':ob'.st=0) (hw:w'.os=w.os∧w'.tape=w.tape∧w'.output=w.output∧w.heap.size≤w'.heap.size) (hmid: ∀b m,μ id=some (some (b,m))→b<w'.heap.size)
 (hblk: ∀b,b<w.heap.size→(∀m,μ id≠some (some (b,m)))→w'.heap[b]?=w.heap[b]?)
 (hnew:(∀b,b<w.heap.size→OO X (H.set id ob') μ b→OO X H μ b)→(∀{ν:Mu} {a:AV} {v:Value},RV (OO X H μ) w ν a v→RV (OO X (H.set id ob') μ) w' ν a v)→ObjAt (OO X (H.set id ob') μ) w' μ id ob'):
 HRel μ X (H.set id ob') w'∧Ext μ w μ∧Chg μ w w'∧ ∀(ν:Mu) {a:AV} {v:Value},RV (OO X H μ) w ν a v→RV (OO X (H.set id ob') μ) w' ν a v:=by
 have hidlt:id<H.length:=(List.getElem?_eq_some_iff.1 hob).1
 have hpu:Puts μ μ X H (H.set id ob') w w' id:=
  ⟨⟨ob,hob,by omega⟩,by simp,fun i o' hi ho=>by rw [List.getElem?_set_ne (Ne.symm hi)] at ho;exact ⟨o',ho,rfl⟩,fun _ _=>rfl,fun l hl' b' m' he=>by
    subst he;exact ⟨hmid b' m' hl', .inl ⟨_,hl'⟩⟩,hw.2.2.2,hw.1,hw.2.1,hw.2.2.1,hblk⟩
 have hup: ∀{ν:Mu} {a:AV} {v:Value},RV (OO X H μ) w ν a v→RV (OO X (H.set id ob') μ) w' ν a v:=fun h=>h.mono hpu.oo hpu.moved.blk _ fun _ _ h=>h
 refine ⟨hpu.rel hH (hpu.others hH fun i hi=>List.getElem?_set_ne (Ne.symm hi)) (fun o1 ho1 h1=> ?_) (hpu.maps hH (fun o1 ho1=> ?_) fun i o' hi ho' _=>(List.getElem?_set_ne (Ne.symm hi)).symm.trans ho'),hpu.ext,hpu.chg,fun ν a v h=>hup h⟩
 ·rw [List.getElem?_set_self hidlt] at ho1;injection ho1 with ho1;subst ho1;exact hnew hpu.oo hup
 ·rw [List.getElem?_set_self hidlt] at ho1;injection ho1 with ho1;subst ho1;omega
theorem uy (hT:zI P tab) (hw:zS l σ o=some true) {t e:TypeId} {x:Operand} (ho:o.op= .call {callee:= .builtin .clear,args:= #[x],argTypes:= #[t]}) {i ei:TyI} (hi:tab t=some i) (hk:i.k= .slice e) (he:tab e=some ei) {id sz off n:Nat} {cap:Option Nat} (hx:σ.ev x= .row id sz off n cap)
 {ob:zb} (hob:nth σ.H id=some ob) (hst:ob.st=0) (hsz:ob.sz=sz∧ei.sz=sz) (hoff:off≤ob.n) (next:AL P r l Q R (St.put ⟨σ.s,setn σ.H id {ob with n:=off},σ.fg,σ.nb⟩ o.dst (.tup []))):AL P r l Q (o::R) σ:=by
 rw [Zx] at next;rw [zH] at hob;obtain ⟨rfl,hes⟩:=hsz;refine xu (H':=σ.H.set id {ob with n:=off}) (fg:=none) hw (fun c hc=>by rw [ho] at hc;cases hc) (fun B μ a w hr=>⟨?_,by simp⟩) next;have hu:P.underlying t=some (.slice e):=by have:=(hT _ _ hi).und;rw [hk] at this;exact this
 have hxv:=hx▸hr.ev x;have hat:=hr.H.obj id ob hob (by omega);have htup: ∀{O:Nat→Prop} {w':World} {ν:Mu},RV O w' ν (.tup []) (.tuple #[]):=fun {O w' ν}=> .tup (vs:=[]) rfl fun j a v h=>by simp at h
 have fin: ∀w':World,(Builtin.clear_ #[t] o.type #[a.eval x]).run P w= .ok (.tuple #[]) w'→w'.os=w.os∧w'.tape=w.tape∧w'.output=w.output∧w.heap.size≤w'.heap.size→(∀b,b<w.heap.size→(∀m,μ id≠some (some (b,m)))→w'.heap[b]?=w.heap[b]?)→
  ((∀{ν:Mu} {a:AV} {v:Value},RV (OO B.X σ.H μ) w ν a v→RV (OO B.X (σ.H.set id {ob with n:=off}) μ) w' ν a v)→ObjAt (OO B.X (σ.H.set id {ob with n:=off}) μ) w' μ id {ob with n:=off})→wY P (execOp a.eval o) B.X μ σ.H w (.tup []) (σ.H.set id {ob with n:=off}) none:=by
  intro w' hrun hos hblk hnew;obtain ⟨h1,h2,h3,h4⟩:=hr.H.short (ob':={ob with n:=off}) hob hst hst hos (fun b m hm=>Nat.lt_of_lt_of_le (hr.H.lt id b m hm).1 hos.2.2.2) hblk (fun _ hup=>hnew hup);refine ⟨.value (.tuple #[]),_,w',μ, ?_, .inl rfl,h1,h2,h3,htup,fun k x v h=>⟨h4 _ h,fun _=>h4 _ h⟩⟩;unfold execOp;rw [ho];simp only [List.map_toArray,List.map_cons,List.map_nil,resolve,invoke,builtin];simp [hrun]
 have same:(Builtin.clear_ #[t] o.type #[a.eval x]).run P w= .ok (.tuple #[]) w→wY P (execOp a.eval o) B.X μ σ.H w (.tup []) (σ.H.set id {ob with n:=off}) none:=fun hrun=>
  fin w hrun ⟨rfl,rfl,rfl,Nat.le_refl _⟩ (fun _ _ _=>rfl) fun hup=>by
   refine ⟨hat.1, ?_⟩;rcases hat.2 with ⟨e1,e2⟩|⟨b,m,cur,e1,e2⟩
   ·exact .inl ⟨e1,by simp only;omega⟩
   ·refine .inr ⟨b,m,cur,e1,e2.blk,e2.size,e2.le, ?_,fun k j v hk'=>e2.one k j v ?_,fun k hk'=>e2.flen k ?_,fun k j a v hk' ha hv=>hup (e2.cell k j a v ?_ ha hv)⟩
    ·have:=e2.nle;simp only;omega
    all_goals (simp only at hk';omega)
 generalize hav:a.eval x=v at hxv;rw [hav] at fin same;cases hxv with
 |rowNil hm hc=>exact same (by simp [Builtin.clear_,run_underlying hu])
 |rowE hm hc ho=>exact same (by simp [Builtin.clear_,run_underlying hu])
 |row hm hn hc hcap hend=>
  rename_i b m c;cases n with
  |zero=>exact same (by simp [Builtin.clear_,run_underlying hu])
  |succ n=>
   rcases hat.2 with ⟨e1,_⟩|⟨b',m',cur,e1,hin⟩
   ·rw [hm] at e1;cases e1
   rw [hm] at e1;injection e1 with e1;injection e1 with e1;injection e1 with e1 e2;subst e1 e2;obtain ⟨z,hz1,hz2⟩:=(hT _ _ he).zero (w:=w);have hzl:z.cells.size=ei.sz:=by have:=(hT _ _ he).zlen;rw [←hz2] at this;simpa using this
   have hlen:(Builtin.zeroCells z.cells (n+1)).toList.length=(n+1)*ob.sz:=by simp [Builtin.zeroCells,hzl,hes]
   have hone: ∀u∈(Builtin.zeroCells z.cells (n+1)).toList,u.oneCell'=true:=fun u hu=>by
    simp only [Builtin.zeroCells,Array.toList_map,List.mem_map] at hu;obtain ⟨j,hj,rfl⟩:=hu;have hj:j<(n+1)*z.cells.size:=by simpa using hj
    have hpos:0<z.cells.size:=by rw [hzl,hes];exact hat.1
    have hlt:j % z.cells.size<z.cells.size:=Nat.mod_lt _ hpos
    rw [getElem!_pos z.cells _ hlt];exact (hT _ _ he).zone _ (by rw [←hz2];exact Array.mem_toList_iff.2 (Array.getElem_mem hlt))
   have hfit:off*ob.sz+(n+1)*ob.sz≤cur.size:=by
    rw [hin.size,←Nat.add_mul];exact Nat.mul_le_mul_right _ (by omega)
   have hrun:=run_storeCells_at P b (off*ob.sz) ob.T (Builtin.zeroCells z.cells (n+1)).toList 0 cur w hin.blk (by rw [hlen];omega) hone
   have hrun2:(Builtin.clear_ #[t] o.type #[.slice (some ⟨b,off*ob.sz,none⟩) (n+1) c]).run P w= .ok (.tuple #[]) (w.setRow b (cur.toList.take (off*ob.sz+0)++(Builtin.zeroCells z.cells (n+1)).toList++cur.toList.drop (off*ob.sz+0+(Builtin.zeroCells z.cells (n+1)).toList.length)).toArray):=by
    simp only [Builtin.clear_];simp [run_underlying hu,hz1,hrun]
   refine fin _ hrun2 ⟨rfl,rfl,rfl,by simp⟩ (fun k hk hne=>setRow_other w b k _ fun h=>hne m (by rw [h];exact hm)) fun hup=> ?_
   have hpre: ∀j,j<off*ob.sz→(cur.toList.take (off*ob.sz+0)++(Builtin.zeroCells z.cells (n+1)).toList++cur.toList.drop (off*ob.sz+0+(Builtin.zeroCells z.cells (n+1)).toList.length)).toArray[j]?=cur[j]?:=fun j hj=>by
    simp only [List.getElem?_toArray];rw [List.append_assoc,List.getElem?_append_left (by simp;omega),List.getElem?_take,if_pos (by omega)];simp
   have hpos:=hat.1
   have hkj: ∀k j,k<off→j<ob.sz→k*ob.sz+j<off*ob.sz:=fun k j hk hj=>by
    have:(k+1)*ob.sz≤off*ob.sz:=Nat.mul_le_mul_right _ hk
    rw [Nat.add_mul] at this;omega
   refine ⟨hat.1, .inr ⟨b,m,_,hm,setRow_heap w b cur _ ob.T (0,0) hin.blk, ?_,hin.le, ?_,fun k j v hk' hj hv=> ?_,fun k hk'=>hin.flen k ?_,fun k j a v hk' ha hv=> ?_⟩⟩
   ·simp only [List.size_toArray,List.length_append,List.length_take,List.length_drop];rw [hlen];have:=hin.size
    simp only [Array.length_toList] at*;omega
   ·have:=hin.nle;simp only;omega
   ·simp only at hk';rw [hpre _ (hkj k j hk' hj)] at hv;exact hin.one k j v (by omega) hj hv
   ·simp only at hk';omega
   ·simp only at hk';have hj:j<ob.sz:=by rw [←hin.flen k (by omega)];exact (List.getElem?_eq_some_iff.1 ha).1
    rw [hpre _ (hkj k j hk' hj)] at hv;exact hup (hin.cell k j a v (by omega) ha hv)
end
section
attribute [local irreducible] zA AO zt zo ADr AL AW zF zh zU Tells APure ACall
theorem zgC:ze Tryz.prog 282:=gfn Tryz.func282
theorem zfG {gf:Nat} {lb:List AV} {l:List Int} (hg:ze Tryz.prog gf) (hlb:lb.all (zB 3)=true) (hit:QF Tryz.prog gf lb (fun i=>[int (l.getD i 0)]) l.length) (hl:l.length≤1000000):
 APure Tryz.prog 237 [.fn (.func gf) [] lb] (.row 0 1 0 l.length none) [yC (qe l)]:=by
 refine ent Tryz.func237 Tryz.ntmps237 ⟨?_⟩;refine go ⟨?_⟩;refine x8 rfl rfl rfl UY (show ((true && lb.all (zB 3)) && true)=true by rw [hlb];rfl) rfl (args'':=[.fn (.func gf) [] lb]) (U4 hg hlb hit (by omega)) (.refl _) ?_;refine ng ⟨?_⟩;refine zV rfl rfl rfl zgC (zjq l hl) ?_;refine ng ⟨?_⟩;exact fin
theorem zeZ:ze Tryz.prog 237:=gfn Tryz.func237
def QS (p:Int):List Int→List Int
 |[]=>[]
 |y::l=>if y=p then QS y l else y::QS y l
def dd:List Int→List Int
 |[]=>[]
 |x::l=>x::QS x l
theorem Ut (y:Int): ∀(l:List Int) (p:Int),(y=(l.getLast?).getD p→QS p (l++[y])=QS p l)∧(y≠(l.getLast?).getD p→QS p (l++[y])=QS p l++[y])
 |[],p=>by
  constructor
  ·intro h;have h:y=p:=h
   simp [QS,h]
  ·intro h;have h: ¬y=p:=h
   simp [QS,h]
 |z::l,p=>by
  obtain ⟨i1,i2⟩:=Ut y l z;have e:((z::l).getLast?).getD p=(l.getLast?).getD z:=by cases l <;>simp [List.getLast?_cons]
  rw [e];constructor
  ·intro h;simp only [List.cons_append,QS,i1 h]
  ·intro h;simp only [List.cons_append,QS,i2 h];by_cases hz:z=p <;>simp [hz]
theorem zhS (y:Int) (l:List Int) (h:l≠[]):(y=(l.getLast?).getD 0→dd (l++[y])=dd l)∧(y≠(l.getLast?).getD 0→dd (l++[y])=dd l++[y]):=by
 cases l with
 |nil=>exact (h rfl).elim
 |cons x l=>
  have e:((x::l).getLast?).getD 0=(l.getLast?).getD x:=by cases l <;>simp [List.getLast?_cons]
  rw [e];obtain ⟨i1,i2⟩:=Ut y l x;exact ⟨fun h=>by simp only [List.cons_append,dd,i1 h],fun h=>by simp only [List.cons_append,dd,i2 h]⟩
theorem Hm (l:List Int) {i:Nat} (h1:1≤i) (h:i<l.length):(l.getD i 0=l.getD (i - 1) 0→dd (l.take (i+1))=dd (l.take i))∧(l.getD i 0≠l.getD (i - 1) 0→dd (l.take (i+1))=dd (l.take i)++[l.getD i 0]):=by
 have hl:(l.take i).length=i:=List.length_take_of_le (by omega)
 rw [zT h]
 have:((l.take i).getLast?).getD 0=l.getD (i - 1) 0:=by
  rw [List.getLast?_eq_getElem?,hl,List.getElem?_take,if_pos (by omega),List.getD_eq_getElem?_getD]
 rw [←this];exact zhS _ _ (by intro h';rw [h'] at hl;simp at hl;omega)
theorem tn (q:List Int) (k:Nat) (x:Int): ∀j,j<q.length→yP (q.set k x) j=upd (yP q) k (AV.lit (.int .i64 x)::List.drop 1 (yP q k)) j:=fun j hj=>by
 unfold upd;by_cases h:j=k
 ·subst h;rw [Nat.beq_refl];simp [yP,gH,List.getD_eq_getElem?_getD,hj]
 ·have hb:Nat.beq j k=false:=by cases hb:Nat.beq j k with|false=>rfl|true=>exact (h (Nat.eq_of_beq_eq_true hb)).elim
  rw [hb];simp [yP,List.getD_eq_getElem?_getD,List.getElem?_set_ne (Ne.symm h)]
theorem zba (l:List Int) (hl:l.length≤1000000):ACall Tryz.prog 236 [.row 0 1 0 l.length none] [yC l] fun r H' fg=>r= .row 0 1 0 (dd l).length none∧H'=[yC (dd l)]∧fg=[]:=by
 refine enta Tryz.func236 Tryz.ntmps236 ⟨?_⟩;refine go ⟨?_⟩;by_cases h2:(l.length:Int)<2
 ·have e:dd l=l:=by
   match l,h2 with
   |[],_=>rfl
   |[x],_=>rfl
   |x::y::l,h=>simp at h;omega
  rw [e];refine go ⟨?_⟩;exact Wc rfl trivial ⟨rfl,rfl,rfl⟩ (.refl _)
 ·have h2': ¬l.length<2:=by omega
  refine go ⟨?_⟩;refine lp (fun k:{k:Nat // 1≤k∧k≤l.length∧dd (l.take k)=l.take k}=>[(3,int k.1)]) (fun _=>[yC l]) (fun k=>l.length - k.1) ⟨1,by omega,by omega,by cases l with|nil=>simp at h2'|cons x l=>rfl⟩ ?_
  rintro ⟨k,hk1,hk,hd⟩
  refine go ⟨?_⟩;by_cases hlt:k<l.length
  ·obtain ⟨d1,d2⟩:=Hm l hk1 hlt;have e1:IntKind.i64.wrap ((k:Int) - 1)=((k - 1:Nat):Int):=by simp only [IntKind.wrap_i64];omega
   refine go ⟨?_⟩;have e2:(IntKind.i64.wrap ((k:Int) - 1)).toNat=k - 1:=by rw [e1];rfl
   rw [e2];by_cases heq:l.getD k 0=l.getD (k - 1) 0
   ·have d1:=d1 heq;have hb:(l.getD k 0==l.getD (k - 1) 0)=true:=beq_iff_eq.2 heq
    rw [hb];refine go ⟨?_⟩;have c1:XR (some (k:Int)) 0=k:=by simp [XR,zK]
    have c2:zO (some (k:Int)) none l.length=l.length - k:=by rw [YR];rfl
    have c3:XU none none (zO (some (k:Int)) none l.length) (zK (some (k:Int)))=none:=rfl
    simp only [c1,c2,c3];refine lp (fun i:{i:Nat // 1≤i∧k+i≤l.length∧(dd (l.take (k+i))).length<k+i}=>[(3,int (dd (l.take (k+i.1))).length),(5,int i.1)]) (fun i=>[yC (dd (l.take (k+i.1))++l.drop (dd (l.take (k+i.1))).length)]) (fun i=>l.length - i.1) ⟨1,by omega,by omega,by rw [d1,hd];simp;omega⟩ ?_ (h0:= ?_)
    ·rintro ⟨i,hi1,hi,hdl⟩
     have hql:(dd (l.take (k+i))++l.drop (dd (l.take (k+i))).length).length=l.length:=by simp;omega
     have hqd: ∀j,(dd (l.take (k+i))).length≤j→(dd (l.take (k+i))++l.drop (dd (l.take (k+i))).length).getD j 0=l.getD j 0:=fun j hj=>by
      rw [List.getD_eq_getElem?_getD,List.getElem?_append_right hj,List.getElem?_drop,List.getD_eq_getElem?_getD,show (dd (l.take (k+i))).length+(j - (dd (l.take (k+i))).length)=j by omega]
     by_cases hlt2:k+i<l.length
     ·obtain ⟨g1,g2⟩:=Hm l (show 1≤k+i by omega) hlt2;have hr1:=hqd (k+i) (by omega);have hr2:=hqd (k+i - 1) (by omega)
      have hst:dd (l.take (k+i))++[l.getD (k+i) 0]++l.drop ((dd (l.take (k+i))).length+1)=(dd (l.take (k+i))++l.drop (dd (l.take (k+i))).length).set (dd (l.take (k+i))).length (l.getD (k+i) 0):=by
       rw [List.set_append_right _ _ (Nat.le_refl _),Nat.sub_self,List.append_assoc];congr 1
       rw [List.drop_eq_getElem_cons (by omega:(dd (l.take (k+i))).length<l.length)];rfl
      generalize hq:(dd (l.take (k+i))++l.drop (dd (l.take (k+i))).length)=q at*;have e3:(IntKind.i64.wrap ((i:Int) - 1))=((i - 1:Nat):Int):=by simp only [IntKind.wrap_i64];omega
      refine go ⟨?_⟩;have e4:k+(IntKind.i64.wrap ((i:Int) - 1)).toNat=k+i - 1:=by rw [e3,Int.toNat_natCast];omega
      rw [e4,hr1,hr2];by_cases h5:l.getD (k+i) 0=l.getD (k+i - 1) 0
      ·have g1:=g1 h5;have hb:(l.getD (k+i) 0 !=l.getD (k+i - 1) 0)=false:=by rw [bne_eq_false_iff_eq];exact h5
       rw [hb];refine go ⟨?_⟩;have e6:dd (l.take (k+(i+1)))=dd (l.take (k+i)):=by rw [←Nat.add_assoc];exact g1
       refine je ⟨⟨i+1,by omega,by omega,by rw [e6];omega⟩,by simp only;omega, ?_⟩;simp only [e6];rw [←hq];exact tel
      ·have g2:=g2 h5;have hb:(l.getD (k+i) 0 !=l.getD (k+i - 1) 0)=true:=bne_iff_ne.2 h5
       rw [hb];refine go ⟨?_⟩;have e6:dd (l.take (k+(i+1)))=dd (l.take (k+i))++[l.getD (k+i) 0]:=by rw [←Nat.add_assoc];exact g2
       have e7:(dd (l.take (k+(i+1)))).length=(dd (l.take (k+i))).length+1:=by rw [e6];simp
       have e8:dd (l.take (k+(i+1)))++l.drop (dd (l.take (k+(i+1)))).length=q.set (dd (l.take (k+i))).length (l.getD (k+i) 0):=by rw [e7,e6,←hst]
       refine je ⟨⟨i+1,by omega,by omega,by omega⟩,by simp only;omega, ?_⟩;simp only [e8];simp only [e7,hr1];refine (Tells.objf 0 (yP (q.set (dd (l.take (k+i))).length (l.getD (k+i) 0))) rfl (tn _ _ _)).trans ?_;simp only [lst,Zz,ZB,setn];refine Tells.le ?_ (.cons (.of (by simp) (fun h=>h) fun _ _=>rfl) .nil);exact les
     ·have h6:k+i=l.length:=by omega
      have e9:dd (l.take (k+i))=dd l:=by rw [h6,List.take_length]
      rw [e9] at hdl hql hqd;simp only [e9];refine go ⟨?_⟩;have c4:XR (some ((dd l).length:Int)) 0=(dd l).length:=by simp [XR,zK]
      refine uy hT rfl rfl rfl rfl rfl rfl rfl rfl ⟨rfl,rfl⟩ (by rw [c4];simp) ?_;simp only [c4];refine ng ⟨?_⟩;refine Wc rfl trivial ⟨rfl,rfl,rfl⟩ (Tells.le (uJ (.eq ?_)) (.cons (.of (Nat.le_refl _) (fun h=>h) fun j hj=> ?_) .nil))
      ·have c5:zO none (some ((dd l).length:Int)) l.length=(dd l).length:=by rw [YR];simp [Zh,zK]
       rw [c5];rfl
      ·simp [yP,List.getD_eq_getElem?_getD,List.getElem?_append_left (show j<(dd l).length from hj)]
    ·have e9:dd (l.take (k+1))++l.drop (dd (l.take (k+1))).length=l:=by rw [d1,hd,List.length_take_of_le (by omega),List.take_append_drop]
     have e10:(dd (l.take (k+1))).length=k:=by rw [d1,hd];simp;omega
     simp only [lst,Zz,ZB,setn,e9];simp only [e10];exact tel
   ·have d2:=d2 heq;have hb:(l.getD k 0==l.getD (k - 1) 0)=false:=beq_eq_false_iff_ne.2 heq
    rw [hb];refine go ⟨?_⟩;refine je ⟨⟨k+1,by omega,by omega,by rw [d2,hd,zT hlt]⟩,by simp only;omega, ?_⟩;exact tel
  ·obtain rfl:k=l.length:=by omega
   rw [List.take_length] at hd;rw [hd];refine go ⟨?_⟩;exact Wc rfl trivial ⟨rfl,rfl,rfl⟩ (.refl _)
theorem GO:ze Tryz.prog 236:=gfn Tryz.func236
theorem zg_ (l:List Int) (hl:l.length≤1000000):APure Tryz.prog 167 [Zn l] (Zn (dd (qe l))) []:=by
 refine ent Tryz.func167 Tryz.ntmps167 ⟨?_⟩;refine gcg zc9 (zed l) ⟨?_⟩;refine x8 rfl rfl rfl zeZ rfl rfl (args'':=[.fn (.func 283) [] [.ip [Zn l]]]) (zfG zbt rfl (tc l (by omega)) hl) (.refl _) ?_;refine nz ⟨?_⟩;have hc:=zba (qe l) (by rw [Jt];exact hl);rw [Jt] at hc;refine go ⟨?_⟩;refine zV rfl rfl rfl GO hc ?_;refine ng ⟨?_⟩;exact fin
theorem zfn:ze Tryz.prog 167:=gfn Tryz.func167
theorem QD {p:Int→Bool} {l:List Int} {i:Nat} (h:i<l.length):(l.take (i+1)).filter (fun x=> !p x)=(l.take i).filter (fun x=> !p x)++if p (l.getD i 0)=true then [] else [l.getD i 0]:=by
 rw [zT h,List.filter_append];congr 1
 cases hp:p (l.getD i 0)
 ·rw [if_neg (by simp)];exact List.filter_cons_of_pos (by rw [hp];rfl)
 ·rw [if_pos rfl];exact List.filter_cons_of_neg (by rw [hp];simp)
theorem Jd {g:Nat} {ca:List AV} {p:Int→Bool} (l:List Int) (hl:l.length≤1000000) (hg:ze Tryz.prog g) (hca:ca.all (zB 3)=true) (hp: ∀x∈l,APure Tryz.prog g ([int x]++ca) (.lit (.bool (p x))) []):
 ACall Tryz.prog 186 [.row 0 1 0 l.length none, .fn (.func g) [] ca] [yC l] fun r H' fg=>r= .row 0 1 0 (l.filter fun x=> !p x).length none∧H'=[yC (l.filter fun x=> !p x)]∧fg=[]:=by
 refine enta Tryz.func186 Tryz.ntmps186 ⟨?_⟩;refine go ⟨?_⟩;obtain ⟨q,hq1,hq2⟩:=WJ (th:=thaw [yC l] 4) (l:=[.fn (.func g) [] ca]) fun x hx=>q9 _ 4 (by rw [List.mem_singleton.1 hx];exact (show (true && ca.all (zB 3))=true by rw [hca];rfl))
 have hcall:ACall Tryz.prog 248 [.row 0 1 0 l.length none, .fn (.func g) [] ca] [yC l] fun r' H' fg=>r'=int (QT p l)∧H'=[yC l]∧fg=[]:=
  (tX l (by omega) hg (xC hca) hp).lit_at (used:=[0]) (q:=(0+l.length≤l.length)∧q) (by rw [Yf,hq1];rfl) ⟨by omega,hq2⟩
 refine zV rfl rfl rfl TG hcall ?_;refine ng ⟨?_⟩;cases hf:l.findIdx? p with
 |none=>
  rw [xK hf];have e:(l.filter fun x=> !p x)=l:=List.filter_eq_self.2 fun x hx=>by rw [List.findIdx?_eq_none_iff.1 hf x hx];rfl
  rw [e];refine go ⟨?_⟩;exact Wc rfl trivial ⟨rfl,rfl,rfl⟩ (.refl _)
 |some i0=>
  rw [xJ hf];obtain ⟨f1,f2,f3⟩:=List.findIdx?_eq_some_iff_getElem.1 hf;have h0: ¬(i0:Int)= -1:=by omega
  have hb:((i0:Int)== -1)=false:=beq_eq_false_iff_ne.2 h0
  refine go ⟨?_⟩;rw [hb];refine go ⟨?_⟩
  have e0:(l.take i0).filter (fun x=> !p x)=l.take i0:=List.filter_eq_self.2 fun x hx=>by
   obtain ⟨j,hj,rfl⟩:=List.mem_take_iff_getElem.1 hx;have:=f3 j (by omega)
   simpa using this
  have e1:(l.take (i0+1)).filter (fun x=> !p x)=l.take i0:=by
   rw [QD f1,e0];have:p (l.getD i0 0)=true:=by rw [List.getD_eq_getElem?_getD,List.getElem?_eq_getElem f1];exact f2
   rw [if_pos this,List.append_nil]
  refine lp (fun j:{j:Nat // j≤l.length∧((l.take j).filter fun x=> !p x).length<j}=>[(5,int ((l.take j.1).filter fun x=> !p x).length),(6,int j.1)]) (fun j=>[yC (((l.take j.1).filter fun x=> !p x)++l.drop ((l.take j.1).filter fun x=> !p x).length)]) (fun j=>l.length - j.1) ⟨i0+1,by omega,by rw [e1];simp;omega⟩ ?_ (h0:= ?_)
  ·rintro ⟨j,hj,hdl⟩
   have hql:(((l.take j).filter fun x=> !p x)++l.drop ((l.take j).filter fun x=> !p x).length).length=l.length:=by rw [List.length_append,List.length_drop];omega
   have hqd: ∀k,((l.take j).filter fun x=> !p x).length≤k→(((l.take j).filter fun x=> !p x)++l.drop ((l.take j).filter fun x=> !p x).length).getD k 0=l.getD k 0:=fun k hk=>by
    rw [List.getD_eq_getElem?_getD,List.getElem?_append_right hk,List.getElem?_drop,List.getD_eq_getElem?_getD,show ((l.take j).filter fun x=> !p x).length+(k - ((l.take j).filter fun x=> !p x).length)=k by omega]
   by_cases hlt:j<l.length
   ·have hs:=QD (p:=p) hlt;have hpj:=hp (l.getD j 0) (by rw [List.getD_eq_getElem?_getD,List.getElem?_eq_getElem hlt];exact List.getElem_mem hlt);have hr:=hqd j (by omega)
    have hst: ∀y,((l.take j).filter fun x=> !p x)++[y]++l.drop (((l.take j).filter fun x=> !p x).length+1)=(((l.take j).filter fun x=> !p x)++l.drop ((l.take j).filter fun x=> !p x).length).set ((l.take j).filter fun x=> !p x).length y:=fun y=>by
     rw [List.set_append_right _ _ (Nat.le_refl _),Nat.sub_self,List.append_assoc];congr 1
     rw [List.drop_eq_getElem_cons (by omega:((l.take j).filter fun x=> !p x).length<l.length)];rfl
    generalize hq:((l.take j).filter fun x=> !p x)++l.drop ((l.take j).filter fun x=> !p x).length=q at*;refine go ⟨?_⟩;rw [hr];refine x8 rfl rfl rfl hg rfl (xC hca) hpj (.refl _) ?_;refine nz ⟨?_⟩;cases hb2:p (l.getD j 0)
    ·rw [hb2] at hs;simp only [Bool.false_eq_true,if_false] at hs;refine go ⟨?_⟩;have e8:((l.take (j+1)).filter fun x=> !p x)++l.drop ((l.take (j+1)).filter fun x=> !p x).length=q.set ((l.take j).filter fun x=> !p x).length (l.getD j 0):=by rw [hs,List.length_append];exact hst _
     have e7:((l.take (j+1)).filter fun x=> !p x).length=((l.take j).filter fun x=> !p x).length+1:=by rw [hs];simp
     refine je ⟨⟨j+1,by omega,by omega⟩,by simp only;omega, ?_⟩;simp only [e8];simp only [e7];refine (Tells.objf 0 (yP (q.set ((l.take j).filter fun x=> !p x).length (l.getD j 0))) rfl (tn _ _ _)).trans ?_;simp only [lst,Zz,ZB,setn];refine Tells.le ?_ (.cons (.of (by simp) (fun h=>h) fun _ _=>rfl) .nil);exact les
    ·rw [hb2] at hs;simp only [if_true,List.append_nil] at hs;refine go ⟨?_⟩;refine je ⟨⟨j+1,by omega,by rw [hs];omega⟩,by simp only;omega, ?_⟩;simp only [hs,hq];exact tel
   ·have h6:j=l.length:=by omega
    have e9:(l.take j).filter (fun x=> !p x)=l.filter fun x=> !p x:=by rw [h6,List.take_length]
    rw [e9] at hdl hql hqd;simp only [e9];refine go ⟨?_⟩;generalize hd:(l.filter fun x=> !p x)=d at*;have c4:XR (some (d.length:Int)) 0=d.length:=by simp [XR,zK]
    refine uy hT rfl rfl rfl rfl rfl rfl rfl rfl ⟨rfl,rfl⟩ (by rw [c4];simp) ?_;simp only [c4];refine ng ⟨?_⟩;refine Wc rfl trivial ⟨rfl,rfl,rfl⟩ (Tells.le (uJ (.eq ?_)) (.cons (.of (Nat.le_refl _) (fun h=>h) fun j hj=> ?_) .nil))
    ·have c5:zO none (some (d.length:Int)) l.length=d.length:=by rw [YR];simp [Zh,zK]
     rw [c5];rfl
    ·simp [yP,List.getD_eq_getElem?_getD,List.getElem?_append_left (show j<d.length from hj)]
  ·have e9:((l.take (i0+1)).filter fun x=> !p x)++l.drop ((l.take (i0+1)).filter fun x=> !p x).length=l:=by rw [e1,List.length_take_of_le (by omega),List.take_append_drop]
   have e10:((l.take (i0+1)).filter fun x=> !p x).length=i0:=by rw [e1];simp;omega
   simp only [lst,Zz,ZB,setn,e9];simp only [e10];exact tel
theorem Jb:ze Tryz.prog 186:=gfn Tryz.func186
end
section
theorem VF: ∀l:List Int,X9 l=true↔l.Pairwise (· < ·)
 |[]=>by simp [X9]
 |[x]=>by simp [X9]
 |x::y::l=>by
  have ih:=VF (y::l);rw [X9];simp only [Bool.and_eq_true,decide_eq_true_eq,ih];constructor
  ·rintro ⟨h1,h2⟩
   refine List.pairwise_cons.2 ⟨fun z hz=> ?_,h2⟩;rcases List.mem_cons.1 hz with rfl|hz
   ·exact h1
   ·have:=(List.pairwise_cons.1 h2).1 z hz;omega
  ·intro h;have:=List.pairwise_cons.1 h
   exact ⟨this.1 y (by simp),this.2⟩
theorem JB: ∀(a b:List Int),a.Pairwise (· < ·)→b.Pairwise (· < ·)→(∀x,x∈a↔x∈b)→a=b
 |[],[],_,_,_=>rfl
 |[],y::b,_,_,h=>by have:=(h y).2 (by simp);simp at this
 |x::a,[],_,_,h=>by have:=(h x).1 (by simp);simp at this
 |x::a,y::b,ha,hb,h=>by
  have h1:=List.pairwise_cons.1 ha;have h2:=List.pairwise_cons.1 hb
  have hxy:x=y:=by
   have e1:=(h x).1 (by simp)
   have e2:=(h y).2 (by simp)
   rcases List.mem_cons.1 e1 with e1|e1
   ·exact e1
   ·rcases List.mem_cons.1 e2 with e2|e2
    ·exact e2.symm
    ·have:=h1.1 y e2;have:=h2.1 x e1;omega
  subst hxy;congr 1
  refine JB a b h1.2 h2.2 fun z=>⟨fun hz=> ?_,fun hz=> ?_⟩
  ·have:=(h z).1 (by simp [hz])
   rcases List.mem_cons.1 this with e|e
   ·have:=h1.1 z hz;omega
   ·exact e
  ·have:=(h z).2 (by simp [hz])
   rcases List.mem_cons.1 this with e|e
   ·have:=h2.1 z hz;omega
   ·exact e
theorem K8: ∀(l:List Int) (p x:Int),x∈p::QS p l↔x∈p::l
 |[],p,x=>by simp [QS]
 |y::l,p,x=>by
  have ih:=K8 l y x;unfold QS;by_cases h:y=p
  ·subst h;rw [if_pos rfl];simp only [List.mem_cons] at ih ⊢;rw [ih];constructor
   ·rintro (h|h) <;>simp [h]
   ·rintro (h|h|h) <;>simp [h]
  ·rw [if_neg h];simp only [List.mem_cons] at ih ⊢;rw [ih]
theorem ziY (l:List Int) (x:Int):x∈dd l↔x∈l:=by
 cases l with
 |nil=>simp [dd]
 |cons y l=>exact K8 l y x
theorem H8: ∀(l:List Int) (p:Int),(p::l).Pairwise (· ≤ ·)→(p::QS p l).Pairwise (· < ·)
 |[],p,_=>by simp [QS]
 |y::l,p,h=>by
  have h1:=List.pairwise_cons.1 h;have ih:=H8 l y h1.2;unfold QS;by_cases e:y=p
  ·subst e;rw [if_pos rfl];exact ih
  ·rw [if_neg e];refine List.pairwise_cons.2 ⟨fun z hz=> ?_,ih⟩;have hz:=(K8 l y z).1 hz
   have h2:=h1.1 y (by simp);rcases List.mem_cons.1 hz with rfl|hz
   ·omega
   ·have:=(List.pairwise_cons.1 h1.2).1 z hz;omega
theorem zld (l:List Int) (h:l.Pairwise (· ≤ ·)):(dd l).Pairwise (· < ·):=by
 cases l with
 |nil=>simp [dd]
 |cons y l=>exact H8 l y h
theorem ze6 (l:List Int):(qe l).Pairwise (· ≤ ·):=by
 have:=List.pairwise_mergeSort (le:=fun x y:Int=>decide (x≤y)) (fun a b c h1 h2=>by simp at*;omega) (fun a b=>by simp;omega) l
 exact this.imp fun h=>by simpa using h
theorem zbU (l:List Int) (x:Int):x∈qe l↔x∈l:=(List.mergeSort_perm l _).mem_iff
theorem Ka (x:Int): ∀(l:List Int) (y:Int),y∈ut x l↔y=x∨y∈l
 |[],y=>by simp [ut]
 |z::l,y=>by
  have ih:=Ka x l y;unfold ut;split
  ·simp
  ·split
   ·rename_i h;subst h;simp
   ·simp only [List.mem_cons,ih];constructor <;>rintro (h|h|h) <;>simp [h]
theorem zad (x:Int): ∀(l:List Int),l.Pairwise (· < ·)→(ut x l).Pairwise (· < ·)
 |[],_=>by simp [ut]
 |z::l,h=>by
  have h1:=List.pairwise_cons.1 h;unfold ut;split
  ·rename_i hx;refine List.pairwise_cons.2 ⟨fun y hy=> ?_,h⟩;rcases List.mem_cons.1 hy with rfl|hy
   ·exact hx
   ·have:=h1.1 y hy;omega
  ·split
   ·exact h
   ·rename_i h2 h3;refine List.pairwise_cons.2 ⟨fun y hy=> ?_,zad x l h1.2⟩;rcases (Ka x l y).1 hy with rfl|hy
    ·omega
    ·exact h1.1 y hy
theorem Wy: ∀(l:List Int) (y:Int),y∈xL l↔y∈l
 |[],y=>by simp [xL]
 |x::l,y=>by
  have ih:=Wy l y;unfold xL at ih ⊢;rw [List.foldr_cons,Ka,ih,List.mem_cons]
theorem WR: ∀(l:List Int),(xL l).Pairwise (· < ·)
 |[]=>by simp [xL]
 |x::l=>by
  have ih:=WR l;unfold xL at ih ⊢;rw [List.foldr_cons];exact zad x _ ih
theorem zhK (l:List Int):dd (qe l)=xL l:=JB _ _ (zld _ (ze6 l)) (WR l) fun x=>by rw [ziY,zbU,Wy]
theorem UO (l:List Int):xL l=l↔X9 l=true:=by
 rw [VF];exact ⟨fun h=>h▸WR l,fun h=>JB _ _ (WR l) h (Wy l)⟩
theorem T5 (x:Int): ∀(l:List Int),(ut x l).length≤l.length+1
 |[]=>by simp [ut]
 |z::l=>by
  have:=T5 x l
  unfold ut;split
  ·simp
  ·split <;>simp <;>omega
theorem KN: ∀(l:List Int),(xL l).length≤l.length
 |[]=>by simp [xL]
 |x::l=>by
  have ih:=KN l;have:=T5 x (xL l)
  unfold xL at ih this ⊢;rw [List.foldr_cons,List.length_cons];omega
end
section
attribute [local irreducible] zA AO zt zo ADr AL AW zF zh zU Tells APure ACall
theorem Xc {k:Nat} {x w:Int} (h: ¬x<0):ups (k+1) x w=x::ups k (zm x w) w:=by
 rw [ups,if_neg h]
theorem ku {k:Nat} {x w:Int} (h:x<0):ups k x w=[]:=by
 cases k with
 |zero=>rfl
 |succ k=>rw [ups,if_pos h]
theorem uh (x w:Int):zy x w=ups 7 (zm x w) w:=by
 unfold zy yE;by_cases h:iIs x w=true
 ·rw [if_pos h];by_cases h0:x<0
  ·obtain ⟨i,n,rfl,rfl,h'⟩:=WF h;omega
  ·rw [Xc h0];rfl
 ·rw [if_neg h];have:zm x w= -1:=by unfold zm;rw [if_neg h]
  rw [this];rfl
theorem zgR: ∀(i:Fin 7) (n:Fin 127),n.val<2^(i.val+1) - 1→
 (0≤zm (n.val:Int) ((2^(i.val+1) - 1:Nat):Int)→iIs (zm (n.val:Int) ((2^(i.val+1) - 1:Nat):Int)) ((2^(i.val+1) - 1:Nat):Int)=true)∧
 (0≤zE (n.val:Int) ((2^(i.val+1) - 1:Nat):Int)↔0≤zm (n.val:Int) ((2^(i.val+1) - 1:Nat):Int)):=by decide+kernel
theorem Hk {x w:Int} (h:iIs x w=true):(0≤zm x w→iIs (zm x w) w=true)∧(0≤zE x w↔0≤zm x w):=by
 obtain ⟨i,n,rfl,rfl,h'⟩:=WF h;exact zgR i n h'
theorem zff (w:Int): ∀(k:Nat) (x:Int),(0≤x→iIs x w=true)→ ∀y∈ups k x w,iIs y w=true
 |0,x,h,y,hy=>by simp [ups] at hy
 |k+1,x,h,y,hy=>by
  by_cases h0:x<0
  ·rw [ku h0] at hy;simp at hy
  ·rw [Xc h0] at hy;rcases List.mem_cons.1 hy with rfl|hy
   ·exact h (by omega)
   ·exact zff w k _ (Hk (h (by omega))).1 y hy
theorem zaG {x w y:Int} (hy:y∈yE x w):iIs y w=true:=by
 unfold yE at hy;split at hy
 ·rename_i h;exact zff w 8 x (fun _=>h) y hy
 ·simp at hy
theorem tx (x w:Int):(ups 7 (zm x w) w).length<7:=by
 have h:=XY x w;unfold yE at h;by_cases hI:iIs x w=true
 ·rw [if_pos hI,Xc (by have:=Z_ hI;omega)] at h;simp only [List.length_cons] at h;omega
 ·have:zm x w= -1:=by unfold zm;rw [if_neg hI]
  rw [this];simp [ups]
theorem Ws (x w:Int):APure Tryz.prog 142 [int x,int w] (Zn (zy x w)) []:=by
 refine ent Tryz.func142 Tryz.ntmps142 ⟨?_⟩;have hd:=tx x w;rw [uh];refine gcg xf (xg x w) ⟨?_⟩;refine zr (Tells.nilRow (t:=5) 3 1 rfl rfl) ?_;generalize zm x w=p0 at*;generalize hu:ups 7 p0 w=u at*;refine lp (fun i:{q:List Int×Nat×Int // q.1++ups q.2.1 q.2.2 w=u∧(ups q.2.1 q.2.2 w).length<q.2.1∧q.2.1≤7∧q.1.length≤7}=>[(5, .row 0 1 0 i.1.1.length none),(6,int i.1.2.2)]) (fun i=>[yC i.1.1]) (fun i=>i.1.2.1) ⟨([],7,p0),by simpa using hu,by simpa [hu] using hd,by simp,by simp⟩ ?_
 rintro ⟨⟨l,k,p⟩,h1,h2,h3,h4⟩
 simp only at h1 h2 h3 h4 ⊢;refine go ⟨?_⟩;refine zj rfl (fun h=> ?_) (fun h=> ?_)
 ·obtain ⟨k,rfl⟩: ∃k',k=k'+1:=⟨k - 1,by omega⟩;rw [Xc (by omega)] at h1 h2;simp only [List.length_cons] at h2;refine go ⟨?_⟩;refine app (yP (l++[p])) hT rfl rfl rfl rfl (fun j hj=>ZZ (e:=wA) rfl rfl hj) ?_;refine ng ⟨?_⟩;refine cg xf (xg p w) ⟨?_⟩;refine je ⟨⟨(l++[p],k,zm p w),by simpa using h1,by simp only;omega,by simp only;omega, ?_⟩,by simp only;omega, ?_⟩
  ·have:l.length+(ups k (zm p w) w).length+1=u.length:=by rw [←h1];simp;omega
   simp only [List.length_append,List.length_cons,List.length_nil];omega
  ·exact tel
 ·rw [ku (by omega),List.append_nil] at h1;subst h1;exact gf
theorem Wt:ze Tryz.prog 142:=gfn Tryz.func142
def cop (u:List Int) (w:Int):List Int:=(u.map fun y=>zE y w).filter fun s=>decide (0≤s)
theorem Jy (x w:Int):APure Tryz.prog 87 [int x,int w] (Zn (Zc x w)) []:=by
 refine ent Tryz.func87 Tryz.ntmps87 ⟨?_⟩;refine go ⟨?_⟩;refine zr (Tells.nilRow (t:=5) 3 1 rfl rfl) ?_;have hc:Zc x w=cop (yE x w) w:=rfl
 by_cases hI:iIs x w=true
 ·have hl:=XY x w;have he:yE x w=ups 8 x w:=by unfold yE;rw [if_pos hI]
  rw [he] at hc hl;rw [hc];generalize hu:cop (ups 8 x w) w=u at*;refine lp (fun i:{q:List Int×Nat×Int // q.1++cop (ups q.2.1 q.2.2 w) w=u∧(ups q.2.1 q.2.2 w).length<q.2.1∧q.1.length+q.2.1≤8∧iIs q.2.2 w=true}=>[(5, .row 0 1 0 i.1.1.length none),(0,int i.1.2.2)]) (fun i=>[yC i.1.1]) (fun i=>i.1.2.1) ⟨([],8,x),by simpa using hu,by simpa using hl,by simp,by simpa using hI⟩ ?_
  rintro ⟨⟨l,k,p⟩,h1,h2,h3,h4⟩
  simp only at h1 h2 h3 h4 ⊢;have hp:=Z_ h4;obtain ⟨k,rfl⟩: ∃k',k=k'+1:=⟨k - 1,by omega⟩;rw [Xc (by omega)] at h1 h2;simp only [List.length_cons] at h2;obtain ⟨p1,p2⟩:=Hk h4;refine gcg xf (xg p w) ⟨?_⟩;refine zj rfl (fun h=> ?_) (fun h=> ?_)
  ·have hs:cop (p::ups k (zm p w) w) w=zE p w::cop (ups k (zm p w) w) w:=by
    exact List.filter_cons_of_pos (decide_eq_true (p2.2 h))
   rw [hs] at h1;refine gcg Qa (qZ p w) ⟨?_⟩;refine app (yP (l++[zE p w])) hT rfl rfl rfl rfl (fun j hj=>ZZ (e:=wA) rfl rfl hj) ?_;refine ng ⟨?_⟩;refine cg xf (xg p w) ⟨?_⟩;refine je ⟨⟨(l++[zE p w],k,zm p w),by simpa using h1,by simp only;omega,by simp only [List.length_append,List.length_cons,List.length_nil];omega,p1 h⟩,by simp only;omega, ?_⟩;exact tel
  ·have hs:cop (p::ups k (zm p w) w) w=[]:=by
    rw [ku (by omega)];exact List.filter_cons_of_neg (by simpa using fun h'=>h (p2.1 h'))
   rw [hs,List.append_nil] at h1;subst h1;exact gf
 ·have:zm x w= -1:=by unfold zm;rw [if_neg hI]
  have he:Zc x w=[]:=by rw [hc];unfold yE;rw [if_neg hI];rfl
  rw [he];refine lp (fun i:Unit=>[(5, .row 0 1 0 0 none),(0,int x)]) (fun i=>[yC []]) (fun i=>0) () ?_
  rintro ⟨⟩
  refine gc xf (xg x w) ⟨?_⟩;rw [this];exact gf
theorem j4:ze Tryz.prog 87:=gfn Tryz.func87
theorem ziT (xs:List Int) (x:Int) (hl:xs.length≤1000000000000):APure Tryz.prog 303 [Zn xs,int x] (.lit (.bool (xs.contains x))) []:=by
 refine ent Tryz.func303 Tryz.ntmps303 ⟨?_⟩;refine go ⟨?_⟩;refine lp (fun i:{i:Nat // i≤xs.length∧x∉xs.take i}=>[(5,int i.1)]) (fun _=>[]) (fun i=>xs.length - i.1) ⟨0,by simp⟩ ?_
 rintro ⟨i,hi,hn⟩
 refine go ⟨?_⟩;refine zj rfl (fun h=> ?_) (fun h=> ?_)
 ·have hlt:i<xs.length:=by omega
  have ex:xs.getD i 0=xs[i]:=by simp [List.getD_eq_getElem?_getD,hlt]
  refine go ⟨?_⟩;by_cases h1:xs.getD i 0=x
  ·have h2:xs.contains x=true:=by rw [List.contains_iff_mem,←h1,ex];exact List.getElem_mem _
   rw [h2,h1,beq_self_eq_true];exact gf
  ·rw [beq_eq_false_iff_ne.2 h1];refine go ⟨?_⟩;refine je ⟨⟨i+1,by omega, ?_⟩,by simp only;omega, ?_⟩
   ·rw [zT hlt,List.mem_append,List.mem_singleton];exact fun h'=>h'.elim hn fun e=>h1 e.symm
   ·exact tel
 ·obtain rfl:i=xs.length:=by omega
  rw [List.take_length] at hn;have h2:xs.contains x=false:=by simpa using hn
  rw [h2];exact gf
theorem zjk:ze Tryz.prog 303:=gfn Tryz.func303
theorem zbA (x y w:Int):Yp x y w=(iIs x w && iIs y w && (x==y||(zy x w).contains y)):=by
 by_cases hI:iIs x w=true
 ·have hp:=Z_ hI;have he:yE x w=x::zy x w:=by unfold zy yE;rw [if_pos hI,Xc (by omega)];rfl
  rw [Bool.eq_iff_iff];unfold Yp;simp only [Bool.and_eq_true,Bool.or_eq_true,beq_iff_eq,List.contains_iff_mem,hI,true_and];rw [he];constructor
  ·intro h;exact ⟨zaG (x:=x) (by rw [he];exact h),(List.mem_cons.1 h).imp (fun e=>e.symm) id⟩
  ·rintro ⟨_,h|h⟩
   ·exact h▸List.mem_cons_self
   ·exact List.mem_cons_of_mem _ h
 ·have h0:iIs x w=false:=by simpa using hI
  rw [h0];unfold Yp yE;rw [if_neg hI];rfl
theorem YC (x w:Int):(zy x w).length≤7:=by rw [uh];have:=tx x w;omega
theorem Tb (x y w:Int):APure Tryz.prog 272 [int x,int y,int w] (.lit (.bool (Yp x y w))) []:=by
 refine ent Tryz.func272 Tryz.ntmps272 ⟨?_⟩;rw [zbA];have hl:=YC x w;refine gc tv (tK x w) ⟨?_⟩;cases h1:iIs x w
 ·exact gf
 refine gc tv (tK y w) ⟨?_⟩;cases h2:iIs y w
 ·exact gf
 refine go ⟨?_⟩;cases h3:x==y
 ·refine gcg Wt (Ws x w) ⟨?_⟩;exact cgf zjk (ziT (zy x w) y (by omega))
 ·exact gf
theorem PY:ze Tryz.prog 272:=gfn Tryz.func272
def td (i:Int):Bool:=decide (i<0∨i>63)
theorem zjT (x:Int):APure Tryz.prog 235 [int x] (.lit (.bool (td x))) []:=by
 refine ent Tryz.func235 Tryz.ntmps235 ⟨?_⟩;unfold td;exact gW
theorem zj5:ze Tryz.prog 235:=gfn Tryz.func235
theorem zey (l:List Int) (hl:l.length≤1000000):APure Tryz.prog 167 [Zn l] (Zn (xL l)) []:=zhK l▸zg_ l hl
theorem uw (n:YS):APure Tryz.prog 162 [j5 n] (int (y9 n)) []:=by
 refine ent Tryz.func162 Tryz.ntmps162 ⟨?_⟩;unfold y9;refine go ⟨?_⟩;refine zj rfl (fun h=> ?_) (fun h=> ?_)
 ·rw [if_pos (by omega)];exact gf
 rw [if_neg (by omega)];refine go ⟨?_⟩;by_cases h1:n.enc.length>200
 ·rw [if_pos (by omega)];exact gf
 by_cases h2:n.hash.length>200
 ·rw [if_pos (by omega)];exact gf
 by_cases h3:n.unm.length>64
 ·rw [if_pos (by omega)];exact gf
 rw [if_neg (by omega)];refine gc zft (zfd (p:=td) (ca:=[]) n.unm (by omega) zj5 rfl fun x _=>zjT x) ⟨?_⟩;have e:n.unm.any (fun i=>decide (i<0∨i>63))=n.unm.any td:=rfl
 rw [e];refine go ⟨?_⟩;refine zj rfl (fun h=> ?_) (fun h=> ?_)
 ·rw [if_pos h];exact gf
 rw [if_neg h];refine gcg zfn (zey n.unm (by omega)) ⟨?_⟩;refine cg Ky (kV (xL n.unm) n.unm (by have:=KN n.unm;omega)) ⟨?_⟩;by_cases h4:xL n.unm=n.unm
 ·rw [decide_eq_true h4,if_neg (by rw [(UO _).1 h4];decide)];exact gf
 ·rw [decide_eq_false h4,if_pos (by rw [←Bool.not_eq_true];exact fun h'=>h4 ((UO _).2 h'))];exact gf
theorem Kg:ze Tryz.prog 162:=gfn Tryz.func162
theorem zke (b:List UInt8) (n:YS) (hb:b.length≤140737470000000):APure Tryz.prog 265 [bytes b,j5 n] (bytes (QJ b n)) []:=by
 refine ent Tryz.func265 Tryz.ntmps265 ⟨?_⟩;unfold QJ;refine gcg Kg (uw n) ⟨?_⟩;refine zj rfl (fun h=> ?_) (fun h=> ?_)
 ·rw [if_pos h];exact gcgf VM ((V1 b (by omega)).data rfl (Nat.le_of_eq (Nat.zero_add _)))
 rw [if_neg h];have h1:=zx b n.enc;have h2:=zx (zi b n.enc) n.hash
 have h3:n.unm.length≤64:=by
  have h:y9 n=0:=by simpa using h
  unfold y9 at h;split at h
  ·omega
  ·split at h
   ·omega
   ·omega
 refine gcg yU ((Yj b n.enc (by omega)).data rfl (Nat.le_of_eq (Nat.zero_add _))) ⟨?_⟩;refine cg yU ((Yj (zi b n.enc) n.hash (by omega)).data rfl (Nat.le_of_eq (Nat.zero_add _))) ⟨?_⟩;exact cgf zaU ((zb1 (zi (zi b n.enc) n.hash) n.unm (by omega) (by omega)).data rfl (Nat.le_of_eq (Nat.zero_add _)))
theorem zi4:ze Tryz.prog 265:=gfn Tryz.func265
theorem ziR (b:List UInt8):APure Tryz.prog 247 [bytes b] (.tup [j5 (Q4 b).1,bytes (Q4 b).2.1,int (Q4 b).2.2]) []:=by
 refine ent Tryz.func247 Tryz.ntmps247 ⟨?_⟩;unfold Q4;refine gc Xu (Xz b) ⟨?_⟩;generalize zd b=x at*;obtain ⟨v1,r1,e1⟩:=x;simp only;refine go ⟨?_⟩;refine zj rfl (fun h=> ?_) (fun h=> ?_)
 ·rw [if_pos h];exact gf
 rw [if_neg h];refine gc Xu (Xz r1) ⟨?_⟩;generalize zd r1=x at*;obtain ⟨v2,r2,e2⟩:=x;simp only;refine go ⟨?_⟩;refine zj rfl (fun h=> ?_) (fun h=> ?_)
 ·rw [if_pos h];exact gf
 rw [if_neg h];refine gc za5 (zaW r2) ⟨?_⟩;generalize yZ r2=x at*;obtain ⟨v3,r3,e3⟩:=x;simp only;refine go ⟨?_⟩;refine zj rfl (fun h=> ?_) (fun h=> ?_)
 ·rw [if_pos h];exact gf
 rw [if_neg h];refine gcg Kg (uw ⟨v1,v2,v3⟩) ⟨?_⟩;refine zj rfl (fun h=> ?_) (fun h=> ?_)
 ·rw [if_pos h];exact gf
 rw [if_neg h];exact gf
theorem zjD:ze Tryz.prog 247:=gfn Tryz.func247
theorem PP {a b:YS}:a=b↔a.enc=b.enc∧a.hash=b.hash∧a.unm=b.unm:=by
 cases a;cases b;simp only [YS.mk.injEq]
theorem Ht (a b:YS) (hb:b.unm.length≤140737488355328):APure Tryz.prog 160 [j5 a,j5 b] (.lit (.bool (decide (a=b)))) []:=by
 refine ent Tryz.func160 Tryz.ntmps160 ⟨?_⟩;simp only [PP];refine gc VS (j0 a.enc b.enc) ⟨?_⟩;by_cases h1:a.enc=b.enc
 ·rw [beq_iff_eq.2 h1];refine gc VS (j0 a.hash b.hash) ⟨?_⟩;by_cases h2:a.hash=b.hash
  ·rw [beq_iff_eq.2 h2];refine gc Ky (kV a.unm b.unm (.inr hb)) ⟨?_⟩;have e:decide (a.unm=b.unm)=decide (a.enc=b.enc∧a.hash=b.hash∧a.unm=b.unm):=by simp [h1,h2]
   rw [←e];exact gf
  ·rw [beq_eq_false_iff_ne.2 h2,decide_eq_false (fun h=>h2 h.2.1)];exact gf
 ·rw [beq_eq_false_iff_ne.2 h1,decide_eq_false (fun h=>h1 h.1)];exact gf
theorem Hl:ze Tryz.prog 160:=gfn Tryz.func160
theorem H6 (l:List Int) (i:Int) (hl:l.length≤100000):APure Tryz.prog 107 [Zn l,int i] (Zn (Va l i)) []:=by
 refine ent Tryz.func107 Tryz.ntmps107 ⟨?_⟩;unfold Va;refine gcg TW (Ta l (by omega)) ⟨?_⟩;refine app (yP (l++[i])) hT rfl rfl rfl rfl (fun j hj=>ZZ (e:=wA) rfl rfl hj) ?_;refine ng ⟨?_⟩;exact cgf zfn (zey (l++[i]) (by simp;omega))
theorem HC:ze Tryz.prog 107:=gfn Tryz.func107
theorem zgX (l:List Int) (x:Int) (hl:l.length≤1000000000000):APure Tryz.prog 300 [int x, .ip [Zn l]] (.lit (.bool (l.contains x))) []:=by
 refine ent Tryz.func300 Tryz.ntmps300 ⟨?_⟩;exact gcgf q8 (Qr l x hl)
theorem zhH:ze Tryz.prog 300:=gfn Tryz.func300
theorem pW (l i:List Int) (hl:l.length≤1000000) (hi:i.length≤1000000000000):APure Tryz.prog 260 [Zn l,Zn i] (Zn (qu l i)) []:=by
 refine ent Tryz.func260 Tryz.ntmps260 ⟨?_⟩;refine gcg TW (Ta l (by omega)) ⟨?_⟩;refine zz (Tells.thaw (t:=7) rfl rfl (by repeat' (first|exact trivial|exact Nat.le_refl _|omega|exact rfl|refine And.intro ?_ ?_))) ?_;refine nz ⟨?_⟩;refine zz (Tells.sel [1] rfl rfl) ?_;refine nz ⟨?_⟩;refine zV rfl rfl rfl Jb (Jd (p:=fun x=>i.contains x) (ca:=[.ip [Zn i]]) l hl zhH rfl fun x _=>zgX i x hi) ?_;refine ng ⟨?_⟩;unfold qu;exact fin
theorem Pj:ze Tryz.prog 260:=gfn Tryz.func260
theorem Vt: ∀l:List Int,X9 l=true↔ ∀j,0<j→j<l.length→l.getD (j - 1) 0<l.getD j 0
 |[]=>by simp [X9]
 |[x]=>by
  simp only [X9,Bool.and_self,List.length_cons,List.length_nil,true_iff];intro j h1 h2;omega
 |x::y::l=>by
  have ih:=Vt (y::l);rw [X9];simp only [Bool.and_eq_true,decide_eq_true_eq,ih];constructor
  ·rintro ⟨h1,h2⟩ j hj hl
   rcases j with _|_|j
   ·omega
   ·exact h1
   ·exact h2 (j+1) (by omega) (by simp only [List.length_cons] at hl ⊢;omega)
  ·intro h;refine ⟨h 1 (by omega) (by simp),fun j hj hl=> ?_⟩;have:=h (j+1) (by omega) (by simp only [List.length_cons] at hl ⊢;omega)
   rcases j with _|j
   ·omega
   ·exact this
theorem zcL {p:Int→Bool} {l:List Int} {i:Nat} (hi:i<l.length) (h:(l.take i).any p=false):(l.take (i+1)).any p=p (l.getD i 0):=by
 rw [zT hi,List.any_append,h];simp
theorem qm (n:YS):APure Tryz.prog 164 [j5 n] (int (y9 n)) []:=by
 refine ent Tryz.func164 Tryz.ntmps164 ⟨?_⟩;unfold y9;refine go ⟨?_⟩;refine zj rfl (fun h=> ?_) (fun h=> ?_)
 ·rw [if_pos (by omega)];exact gf
 rw [if_neg (by omega)];refine go ⟨?_⟩;by_cases h1:n.enc.length>200
 ·rw [if_pos (by omega)];exact gf
 by_cases h2:n.hash.length>200
 ·rw [if_pos (by omega)];exact gf
 by_cases h3:n.unm.length>64
 ·rw [if_pos (by omega)];exact gf
 rw [if_neg (by omega)];refine go ⟨?_⟩;have e:n.unm.any (fun i=>decide (i<0∨i>63))=n.unm.any td:=rfl
 rw [e];refine lp (fun i:{i:Nat // i≤n.unm.length∧(n.unm.take i).any td=false}=>[(3,int i.1)]) (fun i=>[{T:=83,sz:=3,n:=1,f:=fun _=>zji n,box:=true}]) (fun i=>n.unm.length - i.1) ⟨0,by simp⟩ ?_
 rintro ⟨i,hi,hn⟩
 refine go ⟨?_⟩;refine zj rfl (fun h=> ?_) (fun h=> ?_)
 ·have hlt:i<n.unm.length:=by omega
  have ha:=zcL hlt hn;refine go ⟨?_⟩;by_cases h4:n.unm.getD i 0<0
  ·have hb:n.unm.any td=true:=by
    rw [List.any_eq_true];exact ⟨n.unm[i],List.getElem_mem _,decide_eq_true (.inl (by simpa [List.getD_eq_getElem?_getD,hlt] using h4))⟩
   rw [if_pos hb];exact gf
  by_cases h5:n.unm.getD i 0>63
  ·have hb:n.unm.any td=true:=by
    rw [List.any_eq_true];exact ⟨n.unm[i],List.getElem_mem _,decide_eq_true (.inr (by simpa [List.getD_eq_getElem?_getD,hlt] using h5))⟩
   rw [if_pos hb];exact gf
  refine go ⟨?_⟩;refine je ⟨⟨i+1,by omega,by rw [ha];exact decide_eq_false (by omega)⟩,by simp only;omega, ?_⟩;exact tel
 obtain rfl:i=n.unm.length:=by omega
 rw [List.take_length] at hn;rw [if_neg (by rw [hn];decide)];refine go ⟨?_⟩;refine lp (fun i:{i:Nat // 1≤i∧ ∀j,0<j→j<i→j<n.unm.length→n.unm.getD (j - 1) 0<n.unm.getD j 0}=>[(4,int i.1)]) (fun i=>[{T:=83,sz:=3,n:=1,f:=fun _=>zji n,box:=true}]) (fun i=>n.unm.length - i.1) ⟨1,by omega,fun j h1 h2=>by omega⟩ ?_
 rintro ⟨i,hi,hr⟩
 refine go ⟨?_⟩;refine zj rfl (fun h=> ?_) (fun h=> ?_)
 ·have e1:(IntKind.i64.wrap ((i:Int) - 1)).toNat=i - 1:=by simp only [IntKind.wrap_i64];omega
  by_cases h4:n.unm.getD (i - 1) 0≥n.unm.getD i 0
  ·have hb:X9 n.unm=false:=by
    rw [←Bool.not_eq_true];intro h5;have:=(Vt _).1 h5 i (by omega) (by omega)
    omega
   rw [if_pos hb];refine go ⟨?_⟩;rw [e1,decide_eq_true h4];exact gf
  ·refine go ⟨?_⟩;rw [e1,decide_eq_false h4];refine go ⟨?_⟩;refine je ⟨⟨i+1,by omega,fun j h1 h2 h3=> ?_⟩,by simp only;omega, ?_⟩
   ·by_cases hj:j<i
    ·exact hr j h1 hj h3
    ·obtain rfl:j=i:=by omega
     omega
   ·exact tel
 ·rw [if_neg (by rw [(Vt _).2 fun j h1 h2=>hr j h1 (by omega) h2];decide)];exact gf
theorem qC:ze Tryz.prog 164:=gfn Tryz.func164
theorem T6 (a b:YS) (hb:b.unm.length≤140737488355328):APure Tryz.prog 99 [j5 a,j5 b] (.lit (.bool (decide (a=b)))) []:=by
 refine ent Tryz.func99 Tryz.ntmps99 ⟨?_⟩;simp only [PP];refine go ⟨?_⟩;by_cases h1:a.enc=b.enc
 ·by_cases h2:a.hash=b.hash
  ·refine gc Gh (GP a.unm b.unm (.inr hb)) ⟨?_⟩;have e:decide (a.unm=b.unm)=decide (a.enc=b.enc∧a.hash=b.hash∧a.unm=b.unm):=by simp [h1,h2]
   rw [←e];exact gf
  ·rw [decide_eq_false (fun h:a.enc=b.enc∧a.hash=b.hash∧a.unm=b.unm=>h2 h.2.1)];exact gf
 ·rw [decide_eq_false (fun h:a.enc=b.enc∧a.hash=b.hash∧a.unm=b.unm=>h1 h.1)];exact gf
theorem tf:ze Tryz.prog 99:=gfn Tryz.func99
theorem jR (xs:List Int) (x:Int) (hl:xs.length≤1000000000000):APure Tryz.prog 204 [Zn xs,int x] (.lit (.bool (xs.contains x))) []:=by
 refine ent Tryz.func204 Tryz.ntmps204 ⟨?_⟩;refine go ⟨?_⟩;refine lp (fun i:{i:Nat // i≤xs.length∧x∉xs.take i}=>[(5,int i.1)]) (fun _=>[]) (fun i=>xs.length - i.1) ⟨0,by simp⟩ ?_
 rintro ⟨i,hi,hn⟩
 refine go ⟨?_⟩;refine zj rfl (fun h=> ?_) (fun h=> ?_)
 ·have hlt:i<xs.length:=by omega
  have ex:xs.getD i 0=xs[i]:=by simp [List.getD_eq_getElem?_getD,hlt]
  refine go ⟨?_⟩;by_cases h1:xs.getD i 0=x
  ·have h2:xs.contains x=true:=by rw [List.contains_iff_mem,←h1,ex];exact List.getElem_mem _
   rw [h2,h1,beq_self_eq_true];exact gf
  ·rw [beq_eq_false_iff_ne.2 h1];refine go ⟨?_⟩;refine je ⟨⟨i+1,by omega, ?_⟩,by simp only;omega, ?_⟩
   ·rw [zT hlt,List.mem_append,List.mem_singleton];exact fun h'=>h'.elim hn fun e=>h1 e.symm
   ·exact tel
 ·obtain rfl:i=xs.length:=by omega
  rw [List.take_length] at hn;have h2:xs.contains x=false:=by simpa using hn
  rw [h2];exact gf
theorem jg:ze Tryz.prog 204:=gfn Tryz.func204
theorem zbi {l:List Int} (u:List Int) {i:Nat} (h:i<l.length):qu (l.take (i+1)) u=qu (l.take i) u++if u.contains (l.getD i 0)=true then [] else [l.getD i 0]:=by
 unfold qu;exact QD h
theorem pI (l u:List Int) (hl:l.length≤1000000000000) (hu:u.length≤1000000000000):APure Tryz.prog 278 [Zn l,Zn u] (Zn (qu l u)) []:=by
 refine ent Tryz.func278 Tryz.ntmps278 ⟨?_⟩;refine go ⟨?_⟩;refine zr (Tells.nilRow (t:=5) 3 1 rfl rfl) ?_;refine lp (fun i:{q:Nat×List Int // q.1≤l.length∧q.2=qu (l.take q.1) u∧q.2.length≤q.1}=>[(5, .row 0 1 0 i.1.2.length none),(6,int i.1.1)]) (fun i=>[yC i.1.2]) (fun i=>l.length - i.1.1) ⟨(0,[]),by simp,by simp [qu],by simp⟩ ?_
 rintro ⟨⟨i,v⟩,hi,hv,hvl⟩
 simp only at hi hv hvl ⊢;refine go ⟨?_⟩;refine zj rfl (fun h=> ?_) (fun h=> ?_)
 ·have hlt:i<l.length:=by omega
  have hs:=zbi u hlt;rw [←hv] at hs;refine gc jg (jR u (l.getD i 0) hu) ⟨?_⟩;cases hc:u.contains (l.getD i 0)
  ·rw [hc,if_neg (by decide)] at hs;refine go ⟨?_⟩;refine app (yP (v++[l.getD i 0])) hT rfl rfl rfl rfl (fun j hj=>ZZ (e:=wA) rfl rfl hj) ?_;refine ng ⟨?_⟩;refine je ⟨⟨(i+1,v++[l.getD i 0]),hlt,hs.symm,by simp;omega⟩,by simp only;omega, ?_⟩;exact tel
  ·rw [hc,if_pos rfl,List.append_nil] at hs;refine go ⟨?_⟩;refine je ⟨⟨(i+1,v),hlt,hs.symm,by simp only;omega⟩,by simp only;omega, ?_⟩;exact tel
 ·obtain rfl:i=l.length:=by omega
  rw [List.take_length] at hv;subst hv;exact gf
theorem p8:ze Tryz.prog 278:=gfn Tryz.func278
def zk1 (n:YS):Bool:=decide (IntKind.i64.wrap (IntKind.i64.wrap ((n.enc.length:Int)+n.hash.length)+n.unm.length)≤600)
theorem zjM (n:YS):APure Tryz.prog 100 [j5 n] (.lit (.bool (zk1 n))) []:=by
 refine ent Tryz.func100 Tryz.ntmps100 ⟨?_⟩;exact gf
theorem ziv:ze Tryz.prog 100:=gfn Tryz.func100
theorem zav (b:List UInt8) (n:YS) (hb:b.length≤140737470000000):APure Tryz.prog 229 [bytes b,j5 n] (bytes (QJ b n)) []:=by
 refine ent Tryz.func229 Tryz.ntmps229 ⟨?_⟩;unfold QJ;refine go ⟨?_⟩;refine app (fU8 b) hT rfl rfl rfl rfl (fun k hk=>XV (xs:=[]) rfl hk) ?_;refine gcg qC (qm n) ⟨?_⟩;refine zj rfl (fun h=> ?_) (fun h=> ?_)
 ·rw [if_pos h];exact gf
 rw [if_neg h];have h1:=zx b n.enc;have h2:=zx (zi b n.enc) n.hash
 have h3:n.unm.length≤64:=by
  have h:y9 n=0:=by simpa using h
  unfold y9 at h;split at h
  ·omega
  ·split at h
   ·omega
   ·omega
 refine gcg ZQ ((ya b n.enc (by omega)).data rfl (Nat.le_of_eq (Nat.zero_add _))) ⟨?_⟩;refine cg ZQ ((ya (zi b n.enc) n.hash (by omega)).data rfl (Nat.le_of_eq (Nat.zero_add _))) ⟨?_⟩;exact cgf gX ((gB (zi (zi b n.enc) n.hash) n.unm (by omega) (by omega)).data rfl (Nat.le_of_eq (Nat.zero_add _)))
theorem zaq:ze Tryz.prog 229:=gfn Tryz.func229
theorem zgh (b:List UInt8):APure Tryz.prog 213 [bytes b] (.tup [j5 (Q4 b).1,bytes (Q4 b).2.1,int (Q4 b).2.2]) []:=by
 refine ent Tryz.func213 Tryz.ntmps213 ⟨?_⟩;unfold Q4;refine gc xv (xF b) ⟨?_⟩;generalize zd b=x at*;obtain ⟨v1,r1,e1⟩:=x;simp only;refine go ⟨?_⟩;refine zj rfl (fun h=> ?_) (fun h=> ?_)
 ·rw [if_pos h];exact gf
 rw [if_neg h];refine gc xv (xF r1) ⟨?_⟩;generalize zd r1=x at*;obtain ⟨v2,r2,e2⟩:=x;simp only;refine go ⟨?_⟩;refine zj rfl (fun h=> ?_) (fun h=> ?_)
 ·rw [if_pos h];exact gf
 rw [if_neg h];refine gc gn (GS r2) ⟨?_⟩;generalize yZ r2=x at*;obtain ⟨v3,r3,e3⟩:=x;simp only;refine go ⟨?_⟩;refine zj rfl (fun h=> ?_) (fun h=> ?_)
 ·rw [if_pos h];exact gf
 rw [if_neg h];refine gcg qC (qm ⟨v1,v2,v3⟩) ⟨?_⟩;refine zj rfl (fun h=> ?_) (fun h=> ?_)
 ·rw [if_pos h];exact gcgf qC (qm ⟨v1,v2,v3⟩)
 rw [if_neg h];exact gf
theorem zhM:ze Tryz.prog 213:=gfn Tryz.func213
theorem ze8 {u:List Int} (h:u.Pairwise (· < ·)) {m n:Nat} (hm:m<n) (hn:n<u.length):u.getD m 0<u.getD n 0:=by
 have:=List.pairwise_iff_getElem.1 h m n (by omega) hn hm
 simpa [List.getD_eq_getElem?_getD,hn,Nat.lt_trans hm hn] using this
theorem q6 {u:List Int} {k:Nat} {x:Int} (hk:k≤u.length):x∈u.take k↔ ∃m,m<k∧u.getD m 0=x:=by
 rw [List.mem_take_iff_getElem];constructor
 ·rintro ⟨m,hm,rfl⟩
  exact ⟨m,by omega,by simp [List.getD_eq_getElem?_getD,show m<u.length by omega]⟩
 ·rintro ⟨m,hm,rfl⟩
  exact ⟨m,by omega,by simp [List.getD_eq_getElem?_getD,show m<u.length by omega]⟩
theorem G3 {u:List Int} (h:u.Pairwise (· < ·)) {k:Nat} (hk:k<u.length):u.getD k 0∉u.take k:=by
 rw [q6 (by omega)]
 rintro ⟨m,hm,he⟩
 have:=ze8 h hm hk
 omega
def Yi (ps a:List Int) (f:Bool) (x:Int):Prop:=(f=false→ ∀y∈a,y∈ps)∧(f=true→x∈a∧x∉ps∧ ∀y∈a,y∉ps→x≤y)
theorem zf0 {ps a:List Int} {f:Bool} {x z:Int} (h:Yi ps a f x) (hz:z∈ps):Yi ps (a++[z]) f x:=by
 refine ⟨fun hf y hy=> ?_,fun hf=> ?_⟩
 ·rcases List.mem_append.1 hy with hy|hy
  ·exact h.1 hf y hy
  ·rw [List.mem_singleton.1 hy];exact hz
 ·obtain ⟨h1,h2,h3⟩:=h.2 hf;refine ⟨List.mem_append_left _ h1,h2,fun y hy hn=> ?_⟩;rcases List.mem_append.1 hy with hy|hy
  ·exact h3 y hy hn
  ·rw [List.mem_singleton.1 hy] at hn;exact absurd hz hn
theorem zb9 {ps a:List Int} {x z:Int} (h:Yi ps a true x) (hz: ¬z<x):Yi ps (a++[z]) true x:=by
 refine ⟨fun hf=>by simp at hf,fun hf=> ?_⟩;obtain ⟨h1,h2,h3⟩:=h.2 hf;refine ⟨List.mem_append_left _ h1,h2,fun y hy hn=> ?_⟩;rcases List.mem_append.1 hy with hy|hy
 ·exact h3 y hy hn
 ·rw [List.mem_singleton.1 hy];omega
theorem TI {ps a:List Int} {f:Bool} {x z:Int} (h:Yi ps a f x) (hz:z∉ps) (hf:f=true→z<x):Yi ps (a++[z]) true z:=by
 refine ⟨fun hf=>by simp at hf,fun _=>⟨by simp,hz,fun y hy hn=> ?_⟩⟩;rcases List.mem_append.1 hy with hy|hy
 ·cases f with
  |false=>exact absurd (h.1 rfl y hy) hn
  |true=>have:=(h.2 rfl).2.2 y hy hn;have:=hf rfl;omega
 ·rw [List.mem_singleton.1 hy];omega
theorem zaQ {a:List Int} {k:Nat} {x:Int} (hk:k≤(xL a).length) (h:Yi ((xL a).take k) a false x):(xL a).take k=xL a:=by
 by_cases hlt:k<(xL a).length
 ·have h1:(xL a).getD k 0∈a:=(Wy a _).1 (by simp [List.getD_eq_getElem?_getD,hlt])
  exact absurd (h.1 rfl _ h1) (G3 (WR a) hlt)
 ·exact List.take_of_length_le (by omega)
theorem zaS {a:List Int} {k:Nat} {x:Int} (hk:k≤(xL a).length) (h:Yi ((xL a).take k) a true x):k<(xL a).length∧(xL a).take k++[x]=(xL a).take (k+1):=by
 obtain ⟨h1,h2,h3⟩:=h.2 rfl;obtain ⟨m,hm,he⟩:=(q6 (Nat.le_refl _)).1 (by rw [List.take_length];exact (Wy a x).2 h1)
 have hkm:k≤m:=by
  apply Nat.le_of_not_lt
  intro hmk;exact h2 ((q6 hk).2 ⟨m,hmk,he⟩)
 have hlt:k<(xL a).length:=by omega
 refine ⟨hlt, ?_⟩;rw [zT hlt];have h4:=h3 _ ((Wy a _).1 (by simp [List.getD_eq_getElem?_getD,hlt]:(xL a).getD k 0∈xL a)) (G3 (WR a) hlt);by_cases hmk:k=m
 ·rw [hmk,he]
 ·have:=ze8 (WR a) (show k<m by omega) hm
  omega
abbrev T8 (a v:List Int):List zb:=[yC a,yC v]
theorem zge (a u:List Int) (z:Int) (hu:u.length≤1000000000000):ACall Tryz.prog 204 [.row 1 1 0 u.length none,int z] (T8 a u) fun r H' fg=>r= .lit (.bool (u.contains z))∧H'=T8 a u∧fg=[]:=
 (jR u z hu).lit_at (used:=[1]) rfl (by repeat' (first|exact trivial|exact Nat.le_of_eq (Nat.zero_add _)|refine And.intro ?_ ?_))
theorem T4 (l:List Int) (i:Int) (hl:l.length≤100000):APure Tryz.prog 143 [Zn l,int i] (Zn (Va l i)) []:=by
 refine ent Tryz.func143 Tryz.ntmps143 ⟨?_⟩;unfold Va;refine go ⟨?_⟩;refine app (yP l) hT rfl rfl rfl rfl (fun k hk=>ja (xs:=[]) rfl hk) ?_;refine ng ⟨?_⟩;refine app (yP (l++[i])) hT rfl rfl rfl rfl (fun j hj=>ZZ (e:=wA) rfl rfl hj) ?_;refine ng ⟨?_⟩;have ha:(l++[i]).length=l.length+1:=by simp
 rw [←ha];generalize l++[i]=a at*;refine zr (Tells.sel [0] rfl rfl) ?_;refine mc8 ⟨?_⟩;refine zr (Tells.nilRow (t:=6) 3 1 rfl rfl) ?_;simp only [setn,Z4,List.map,ren,idx,List.cons_append,List.nil_append,List.length_cons,List.length_nil,Nat.reduceAdd];have htl:=KN a
 refine lp (fun u:{u:List Int // u=(xL a).take u.length∧u.length≤(xL a).length}=>[(6, .row 1 1 0 u.1.length none)]) (fun u=>T8 a u.1) (fun u=>(xL a).length - u.1.length) ⟨[],by simp,by simp⟩ ?_ (h0:=by
  simp only [lst,Zz,ZB,setn];refine Tells.le ?_ ?_
  ·exact les
  ·exact .cons (.refl _) (.cons (.of (Nat.le_refl _) (fun h=>h) fun k hk=>(Nat.not_lt_zero _ hk).elim) .nil))
 rintro ⟨u,hu,hk⟩
 refine go ⟨?_⟩;refine zj rfl (fun h=> ?_) (fun h=> ?_)
 ·refine go ⟨?_⟩;refine lp (fun q:{q:Nat×Bool×Int // q.1≤a.length∧Yi u (a.take q.1) q.2.1 q.2.2}=>[(7,int q.1.2.2),(8, .lit (.bool q.1.2.1)),(9,int q.1.1)]) (fun q=>T8 a u) (fun q=>a.length - q.1.1) ⟨(0,false,0),by simp,⟨fun _ y hy=>by simp at hy,fun h=>by simp at h⟩⟩ ?_
  rintro ⟨⟨j,f,x⟩,hj,hs⟩
  simp only at hj hs ⊢;refine go ⟨?_⟩;refine zj rfl (fun h=> ?_) (fun h=> ?_)
  ·have hlt:j<a.length:=by omega
   have htk:=zT hlt;refine go ⟨?_⟩;generalize hz:a.getD j 0=z at*;refine zV rfl rfl rfl jg (zge a u z (by omega)) ?_;refine nz ⟨?_⟩;cases hc:u.contains z
   ·have hzn:z∉u:=by simpa using hc
    refine go ⟨?_⟩;cases f
    ·refine go ⟨?_⟩;refine je ⟨⟨(j+1,true,z),hlt,by rw [htk];exact TI hs hzn (by simp)⟩,by simp only;omega, ?_⟩;exact tel
    ·by_cases hzx:z<x
     ·refine go ⟨?_⟩;refine je ⟨⟨(j+1,true,z),hlt,by rw [htk];exact TI hs hzn (fun _=>hzx)⟩,by simp only;omega, ?_⟩;exact tel
     ·refine go ⟨?_⟩;refine je ⟨⟨(j+1,true,x),hlt,by rw [htk];exact zb9 hs hzx⟩,by simp only;omega, ?_⟩;exact tel
   ·have hzn:z∈u:=by simpa using hc
    refine go ⟨?_⟩;refine je ⟨⟨(j+1,f,x),hlt,by rw [htk];exact zf0 hs hzn⟩,by simp only;omega, ?_⟩;exact tel
  ·obtain rfl:j=a.length:=by omega
   rw [List.take_length] at hs;refine go ⟨?_⟩;cases f
   ·have he:=zaQ hk (by rw [←hu];exact hs);rw [←hu] at he;rw [←he];exact gf
   ·obtain ⟨h1,h2⟩:=zaS hk (by rw [←hu];exact hs);rw [←hu] at h2;refine go ⟨?_⟩;refine app (yP (u++[x])) hT rfl rfl rfl rfl (fun j hj=>ZZ (e:=wA) rfl rfl hj) ?_;refine ng ⟨?_⟩;have hl2:(u++[x]).length=u.length+1:=by simp
    refine je ⟨⟨u++[x],by rw [hl2];exact h2,by omega⟩,by simp only;omega, ?_⟩;simp only [T8];exact tel
 ·have he:u=xL a:=by rw [hu];exact List.take_of_length_le (by omega)
  rw [←he];exact gf
theorem tF:ze Tryz.prog 143:=gfn Tryz.func143
theorem TY (n:Zt):APure Tryz.prog 93 [yg n] (int (zC n)) []:=by
 refine ent Tryz.func93 Tryz.ntmps93 ⟨?_⟩;refine go ⟨?_⟩;by_cases h1:n.kind<0
 ·rw [show zC n=7 by unfold zC;simp [h1]];exact gf
 by_cases h2:n.kind>2
 ·rw [show zC n=7 by unfold zC;simp [h1,h2]];exact gf
 refine go ⟨?_⟩;have h3:n.kind=0∨n.kind=1∨n.kind=2:=by omega
 by_cases k1:n.kind=1
 ·rw [k1];refine gc Hl (Ht n.inner yd (by simp)) ⟨?_⟩;by_cases h4:n.inner=yd
  ·rw [decide_eq_true h4,show zC n=YF n.leaf by unfold zC;simp [k1,h4]];exact gcgf kw (kD n.leaf)
  ·rw [decide_eq_false h4,show zC n=2 by unfold zC;simp [k1,h4]];exact gf
 by_cases k2:n.kind=2
 ·rw [k2];refine gc zeA (zeh n.leaf ZF) ⟨?_⟩;by_cases h4:n.leaf=ZF
  ·rw [decide_eq_true h4,show zC n=y9 n.inner by unfold zC;simp [k2,h4]];exact gcgf Kg (uw n.inner)
  ·rw [decide_eq_false h4,show zC n=2 by unfold zC;simp [k2,h4]];exact gf
 have k0:n.kind=0:=by omega
 refine gc zeA (zeh n.leaf ZF) ⟨?_⟩;by_cases h4:n.leaf=ZF
 ·rw [decide_eq_true h4];refine gc Hl (Ht n.inner yd (by simp)) ⟨?_⟩;by_cases h5:n.inner=yd
  ·rw [decide_eq_true h5,show zC n=0 by unfold zC;simp [k0,h4,h5]];exact gf
  ·rw [decide_eq_false h5,show zC n=2 by unfold zC;simp [k0,h4,h5]];exact gf
 ·rw [decide_eq_false h4,show zC n=2 by unfold zC;simp [k0,h4]];exact gf
theorem TK:ze Tryz.prog 93:=gfn Tryz.func93
theorem zaK (b:List UInt8) (n:Zt) (hb:b.length≤140737470000000):APure Tryz.prog 201 [yg n,bytes b] (bytes (kg b n.leaf)) []:=by
 refine ent Tryz.func201 Tryz.ntmps201 ⟨?_⟩;exact gcgf zjU (zir b n.leaf hb)
theorem Tx:ze Tryz.prog 201:=gfn Tryz.func201
theorem tu (b:List UInt8) (n:Zt) (hb:b.length≤140737470000000):APure Tryz.prog 200 [yg n,bytes b] (bytes (QJ b n.inner)) []:=by
 refine ent Tryz.func200 Tryz.ntmps200 ⟨?_⟩;exact gcgf zi4 (zke b n.inner hb)
theorem Up:ze Tryz.prog 200:=gfn Tryz.func200
theorem pT (n:Zt):APure Tryz.prog 197 [yg n] (yg (nAs n)) []:=by
 refine ent Tryz.func197 Tryz.ntmps197 ⟨?_⟩;unfold nAs;refine gcg TK (TY n) ⟨?_⟩;refine zj rfl (fun h=> ?_) (fun h=> ?_)
 ·rw [if_pos h];exact gf
 ·rw [if_neg h];exact gf
theorem pL:ze Tryz.prog 197:=gfn Tryz.func197
theorem Yu (b:List UInt8) (t:Bool):(Yz b t).length=b.length+1:=by
 show (b++nby _ 1).length=_
 rw [List.length_append,qg];rfl
theorem kL {g:Nat} {ca:List AV} {F:List UInt8→List UInt8} (n:Zt) (b:List UInt8) (k:Int) (hb:b.length≤140737460000000) (hg:ze Tryz.prog g) (hca:ca.all (zB 4)=true)
 (hp:APure Tryz.prog g ([yg n,bytes (Yz b true)]++ca) (bytes (F (Yz b true))) []):APure Tryz.prog 198 [yg n,bytes b,int k, .fn (.func g) [] ca] (bytes (if n.kind=k then F (Yz b true) else Yz b false)) []:=by
 refine ent Tryz.func198 Tryz.ntmps198 ⟨?_⟩;refine go ⟨?_⟩;by_cases h1:n.kind=k
 ·rw [if_pos h1];refine go ⟨?_⟩;rw [beq_iff_eq.2 h1];refine cg Uf ((pf b true (by omega)).data rfl (Nat.le_of_eq (Nat.zero_add _))) ⟨?_⟩;refine x8 rfl rfl rfl hg rfl hca hp (.cons (.refl _) (.cons (.refl _) .nil)) ?_;exact gf
 ·rw [if_neg h1];refine go ⟨?_⟩;rw [beq_eq_false_iff_ne.2 h1];exact cgf Uf ((pf b false (by omega)).data rfl (Nat.le_of_eq (Nat.zero_add _)))
theorem jH:ze Tryz.prog 198:=gfn Tryz.func198
theorem zgz (b:List UInt8) (n:Zt) (hb:b.length≤140737460000000):APure Tryz.prog 264 [yg n,bytes b, .ip [.fn (.func 201) [] []]] (bytes (kg (b++nby n.kind 1) n.leaf)) []:=by
 refine ent Tryz.func264 Tryz.ntmps264 ⟨?_⟩;refine go ⟨?_⟩;have c1:=wJ b n.kind 1 (by omega);rw [show Z7 n.kind (max 1 (min (1:Int) 4)).toNat (max 1 (min (1:Int) 4)).toNat=nby n.kind 1 from rfl] at c1;refine cg XM (c1.data rfl (Nat.le_of_eq (Nat.zero_add _))) ⟨?_⟩;have h1:(nby n.kind 1).length=1:=by rw [qg];rfl
 exact cgf Tx (zaK (b++nby n.kind 1) n (by rw [List.length_append];omega))
theorem zf6 (b:List UInt8) (n:Zt) (hb:b.length≤140737460000000):APure Tryz.prog 264 [yg n,bytes b, .ip [.fn (.func 200) [] []]] (bytes (QJ (b++nby n.kind 1) n.inner)) []:=by
 refine ent Tryz.func264 Tryz.ntmps264 ⟨?_⟩;refine go ⟨?_⟩;have c1:=wJ b n.kind 1 (by omega);rw [show Z7 n.kind (max 1 (min (1:Int) 4)).toNat (max 1 (min (1:Int) 4)).toNat=nby n.kind 1 from rfl] at c1;refine cg XM (c1.data rfl (Nat.le_of_eq (Nat.zero_add _))) ⟨?_⟩;have h1:(nby n.kind 1).length=1:=by rw [qg];rfl
 exact cgf Up (tu (b++nby n.kind 1) n (by rw [List.length_append];omega))
theorem zaC:ze Tryz.prog 264:=gfn Tryz.func264
theorem zjJ (g:Nat):APure Tryz.prog 199 [.fn (.func g) [] []] (.fn (.func 264) [] [.ptr 0 1 0 0]) [{T:=174,sz:=1,n:=1,f:=fun _=>[.fn (.func g) [] []],box:=true}]:=by
 refine ent Tryz.func199 Tryz.ntmps199 ⟨?_⟩;exact gf
theorem zdL (g:Nat):APure Tryz.prog 199 [.fn (.func g) [] []] (.fn (.func 264) [] [.ip [.fn (.func g) [] []]]) []:=(zjJ g).data rfl (by repeat' (first|exact trivial|exact Nat.le_refl _|omega|refine And.intro ?_ ?_))
theorem zd3:ze Tryz.prog 199:=gfn Tryz.func199
theorem zku (b:List UInt8) (n:Zt) (hb:b.length≤140737450000000):APure Tryz.prog 134 [bytes b,yg n] (bytes (Pw b n)) []:=by
 refine ent Tryz.func134 Tryz.ntmps134 ⟨?_⟩;unfold Pw;refine gc pL (pT n) ⟨?_⟩;generalize nAs n=m at*;refine go ⟨?_⟩;have fl:=Yu b true;by_cases h2:m.kind=2
 ·rw [beq_iff_eq.2 h2,if_pos h2];refine gcg zd3 (zdL 200) ⟨?_⟩;have c1:=kL (F:=fun x=>QJ (x++nby m.kind 1) m.inner) m b 2 (by omega) zaC rfl (zf6 (Yz b true) m (by omega));rw [if_pos h2] at c1;simp only [h2] at c1;exact cgf jH c1
 ·rw [beq_eq_false_iff_ne.2 h2,if_neg h2];refine gcg zd3 (zdL 201) ⟨?_⟩;have c1:=kL (F:=fun x=>kg (x++nby m.kind 1) m.leaf) m b 1 (by omega) zaC rfl (zgz (Yz b true) m (by omega));by_cases h1:m.kind=1
  ·rw [if_pos h1] at c1 ⊢;simp only [h1] at c1;exact cgf jH c1
  ·rw [if_neg h1] at c1 ⊢;exact cgf jH c1
theorem zi9:ze Tryz.prog 134:=gfn Tryz.func134
theorem Qu (n:Int) (k:Int) (h:(nby n k).length≤4:=by rw [qg];decide):(nby n k).length≤4:=h
theorem zk8 (b:List UInt8) (n:Int) (hb:b.length≤140737488354000):APure Tryz.prog 255 [bytes b,int n,int 1] (bytes (b++nby n 1)) []:=(wJ b n 1 hb).data rfl (Nat.le_of_eq (Nat.zero_add _))
theorem zkD (b:List UInt8) (n:Int) (hb:b.length≤140737488354000):APure Tryz.prog 255 [bytes b,int n,int 4] (bytes (b++nby n 4)) []:=(wJ b n 4 hb).data rfl (Nat.le_of_eq (Nat.zero_add _))
theorem zfh (n:Int):APure Tryz.prog 255 [.lit (.slice none 0 0),int n,int 1] (bytes (nby n 1)) []:=(zk8 [] n (by simp)).le (.cons (AV.Le.nil rfl rfl) (.refl _))
theorem zdu (i:Int) (n:Zt):APure Tryz.prog 192 [int i,yg n] (bytes (XS i n)) []:=by
 refine ent Tryz.func192 Tryz.ntmps192 ⟨?_⟩;unfold XS;have l1:=Qu 1 1;have l4:=Qu i 4;refine gcg XM (zfh 1) ⟨?_⟩;refine cg XM (zkD (nby 1 1) i (by omega)) ⟨?_⟩;refine cal pL (pT n) ⟨?_⟩;generalize nAs n=m at*;refine go ⟨?_⟩;have fl:=Yu (nby 1 1++nby i 4) true;have fl2:(nby 1 1++nby i 4).length=(nby 1 1).length+(nby i 4).length:=List.length_append
 have c1:=kL (ca:=[]) (F:=fun x=>kg x m.leaf) m (nby 1 1++nby i 4) 1 (by omega) Tx rfl (zaK (Yz (nby 1 1++nby i 4) true) m (by omega));exact cgf jH c1
theorem zex:ze Tryz.prog 192:=gfn Tryz.func192
theorem ko (b:List UInt8) (n:YS):(QJ b n).length≤b.length+3145740:=by
 have h1:=zx b n.enc;have h2:=zx (zi b n.enc) n.hash;have h3:=zx (zi (zi b n.enc) n.hash) (Q1 n.unm);unfold QJ;split <;>omega
theorem zb7 (n:Zt) (l r:List UInt8):APure Tryz.prog 193 [yg n,bytes l,bytes r] (bytes (Xp n l r)) []:=by
 refine ent Tryz.func193 Tryz.ntmps193 ⟨?_⟩;unfold Xp;have l1:=Qu 2 1;refine gc pL (pT n) ⟨?_⟩;generalize nAs n=m at*;refine gcg XM (zfh 2) ⟨?_⟩;have fl:=Yu (nby 2 1) true;have fl':=Yu (nby 2 1) false
 have c1:=kL (ca:=[]) (F:=fun x=>QJ x m.inner) m (nby 2 1) 2 (by omega) Up rfl (tu (Yz (nby 2 1) true) m (by omega));refine cal jH c1 ⟨?_⟩
 have h0:(if m.kind=2 then QJ (Yz (nby 2 1) true) m.inner else Yz (nby 2 1) false).length≤10000000:=by
  have:=ko (Yz (nby 2 1) true) m.inner
  split <;>omega
 generalize (if m.kind=2 then QJ (Yz (nby 2 1) true) m.inner else Yz (nby 2 1) false)=b at*;have h1:=zx b l;refine gcg yU ((Yj b l (by omega)).data rfl (Nat.le_of_eq (Nat.zero_add _))) ⟨?_⟩;exact cgf yU ((Yj (zi b l) r (by omega)).data rfl (Nat.le_of_eq (Nat.zero_add _)))
theorem zbx:ze Tryz.prog 193:=gfn Tryz.func193
theorem kO (v:List UInt8):APure Tryz.prog 135 [.lit (.slice none 0 0),bytes v] (bytes (zi [] v)) []:=((Yj [] v (by simp)).data rfl (Nat.le_of_eq (Nat.zero_add _))).le (.cons (AV.Le.nil rfl rfl) (.refl _))
theorem gR (n:YS) (v:List UInt8):APure Tryz.prog 242 [j5 n,bytes v] (bytes (YM n v)) []:=by
 refine ent Tryz.func242 Tryz.ntmps242 ⟨?_⟩;unfold YM;have h1:=zx [] n.enc;have h2:=zx (zi [] n.enc) n.hash;simp only [List.length_nil] at h1;refine gcg yU (kO n.enc) ⟨?_⟩;refine cg yU ((Yj (zi [] n.enc) n.hash (by omega)).data rfl (Nat.le_of_eq (Nat.zero_add _))) ⟨?_⟩;exact cgf yU ((Yj (zi (zi [] n.enc) n.hash) v (by omega)).data rfl (Nat.le_of_eq (Nat.zero_add _)))
theorem Gb:ze Tryz.prog 242:=gfn Tryz.func242
theorem uO {b:List UInt8} (h:(zY b).2.2≠0):(zY b).2.1=[]:=by
 unfold zY at*;split
 ·rfl
 ·rename_i h1;rw [if_neg h1] at h;split
  ·rfl
  ·rename_i h2;rw [if_neg h2] at h;exact absurd rfl h
theorem zjc (b:List UInt8):APure Tryz.prog 176 [bytes b] (.tup [yg (YU b).1,bytes (YU b).2.1,int (YU b).2.2]) []:=by
 refine ent Tryz.func176 Tryz.ntmps176 ⟨?_⟩;unfold YU;refine gc zce (za_ b) ⟨?_⟩;have hr:=uO (b:=b);generalize zY b=x at*;obtain ⟨v1,r1,e1⟩:=x;simp only at hr ⊢;refine go ⟨?_⟩;by_cases h1:e1=0
 ·subst h1;rw [if_neg (by decide)];cases v1
  ·rw [if_pos rfl];exact gf
  rw [if_neg (by decide)];refine gc jQ (VT r1 1) ⟨?_⟩;generalize zD r1 1=x at*;obtain ⟨v2,r2,e2⟩:=x;simp only;refine go ⟨?_⟩;refine zj rfl (fun h=> ?_) (fun h=> ?_)
  ·rw [if_pos h];exact gf
  rw [if_neg h];have h2:e2=0:=by simpa using h
  subst h2;refine go ⟨?_⟩;by_cases k1:v2=1
  ·subst k1;rw [if_pos rfl];refine gc zkj (zgq r2) ⟨?_⟩;generalize vg r2=x at*;obtain ⟨v3,r3,e3⟩:=x;simp only;refine go ⟨?_⟩;refine zj rfl (fun h=> ?_) (fun h=> ?_)
   ·rw [if_pos h];exact gf
   ·rw [if_neg h];exact gf
  by_cases k2:v2=2
  ·subst k2;rw [if_neg (by decide),if_pos rfl];refine gc zjD (ziR r2) ⟨?_⟩;generalize Q4 r2=x at*;obtain ⟨v3,r3,e3⟩:=x;simp only;refine go ⟨?_⟩;refine zj rfl (fun h=> ?_) (fun h=> ?_)
   ·rw [if_pos h];exact gf
   ·rw [if_neg h];exact gf
  rw [if_neg k1,if_neg k2,beq_eq_false_iff_ne.2 k1];refine go ⟨?_⟩;rw [beq_eq_false_iff_ne.2 k2];exact gf
 ·rw [if_pos h1];have:=hr h1
  subst this;exact gf
theorem zjN:ze Tryz.prog 176:=gfn Tryz.func176
theorem Ul (n:Zt):APure Tryz.prog 96 [yg n] (int (zC n)) []:=by
 refine ent Tryz.func96 Tryz.ntmps96 ⟨?_⟩;refine gcg zat (zaF n.leaf ZF) ⟨?_⟩;refine cal tf (T6 n.inner yd (by simp)) ⟨?_⟩;by_cases h1:n.kind<0
 ·rw [show zC n=7 by unfold zC;simp [h1]];exact gf
 by_cases h2:n.kind>2
 ·rw [show zC n=7 by unfold zC;simp [h1,h2]];exact gf
 have h3:n.kind=0∨n.kind=1∨n.kind=2:=by omega
 by_cases k1:n.kind=1
 ·by_cases h4:n.inner=yd
  ·rw [decide_eq_true h4,show zC n=YF n.leaf by unfold zC;simp [k1,h4]];by_cases h5:n.leaf=ZF
   ·rw [decide_eq_true h5];exact gcgf wx (wH n.leaf)
   ·rw [decide_eq_false h5];exact gcgf wx (wH n.leaf)
  ·rw [decide_eq_false h4,show zC n=2 by unfold zC;simp [k1,h4]];by_cases h5:n.leaf=ZF
   ·rw [decide_eq_true h5];exact gf
   ·rw [decide_eq_false h5];exact gf
 by_cases k2:n.kind=2
 ·by_cases h4:n.leaf=ZF
  ·rw [decide_eq_true h4,show zC n=y9 n.inner by unfold zC;simp [k2,h4]];by_cases h5:n.inner=yd
   ·rw [decide_eq_true h5];exact gcgf qC (qm n.inner)
   ·rw [decide_eq_false h5];exact gcgf qC (qm n.inner)
  ·rw [decide_eq_false h4,show zC n=2 by unfold zC;simp [k2,h4]];exact gf
 have k0:n.kind=0:=by omega
 by_cases h4:n.leaf=ZF
 ·rw [decide_eq_true h4];by_cases h5:n.inner=yd
  ·rw [decide_eq_true h5,show zC n=0 by unfold zC;simp [k0,h4,h5]];exact gf
  ·rw [decide_eq_false h5,show zC n=2 by unfold zC;simp [k0,h4,h5]];exact gf
 ·rw [decide_eq_false h4,show zC n=2 by unfold zC;simp [k0,h4]];exact gf
theorem UH:ze Tryz.prog 96:=gfn Tryz.func96
theorem zdd (n:Zt):APure Tryz.prog 225 [yg n] (yg (nAs n)) []:=by
 refine ent Tryz.func225 Tryz.ntmps225 ⟨?_⟩;unfold nAs;refine gcg UH (Ul n) ⟨?_⟩;refine zj rfl (fun h=> ?_) (fun h=> ?_)
 ·rw [if_pos h];exact gf
 ·rw [if_neg h];exact gf
theorem zeI:ze Tryz.prog 225:=gfn Tryz.func225
theorem zdn (b:List UInt8) (n:Int) (hb:b.length≤140737488354000):APure Tryz.prog 227 [bytes b,int n,int 1] (bytes (b++nby n 1)) []:=(Wn b n 1 hb).data rfl (Nat.le_of_eq (Nat.zero_add _))
theorem ziB (b:List UInt8) (n:Int) (hb:b.length≤140737488354000):APure Tryz.prog 227 [bytes b,int n,int 4] (bytes (b++nby n 4)) []:=(Wn b n 4 hb).data rfl (Nat.le_of_eq (Nat.zero_add _))
theorem Hf (n:Int):APure Tryz.prog 227 [.lit (.slice none 0 0),int n,int 1] (bytes (nby n 1)) []:=(zdn [] n (by simp)).le (.cons (AV.Le.nil rfl rfl) (.refl _))
theorem Wv (b:List UInt8) (t:Bool) (hb:b.length≤140737480000000):APure Tryz.prog 226 [bytes b, .lit (.bool t)] (bytes (Yz b t)) []:=(GH b t hb).data rfl (Nat.le_of_eq (Nat.zero_add _))
theorem zfo (n:Zt):(nAs n).kind=0∨(nAs n).kind=1∨(nAs n).kind=2:=by
 unfold nAs;split
 ·exact .inl rfl
 ·rename_i h;unfold zC at h;split at h
  ·simp at h
  ·omega
theorem zhq (b:List UInt8) (n:Zt) (hb:b.length≤140737450000000):APure Tryz.prog 157 [bytes b,yg n] (bytes (Pw b n)) []:=by
 refine ent Tryz.func157 Tryz.ntmps157 ⟨?_⟩;unfold Pw;have hk:=zfo n;refine gc zeI (zdd n) ⟨?_⟩;generalize nAs n=m at*;refine go ⟨?_⟩;have fl:=Yu b true;have l1:=Qu m.kind 1;have fl2:(Yz b true++nby m.kind 1).length=(Yz b true).length+(nby m.kind 1).length:=List.length_append
 by_cases k0:m.kind=0
 ·rw [if_neg (by omega),if_neg (by omega)];rw [show (m.kind !=0)=false from bne_eq_false_iff_eq.2 k0];refine cg wa (Wv b false (by omega)) ⟨?_⟩;rw [show (m.kind !=0)=false from bne_eq_false_iff_eq.2 k0];exact gf
 rw [show (m.kind !=0)=true from bne_iff_ne.2 k0];refine cg wa (Wv b true (by omega)) ⟨?_⟩;rw [show (m.kind !=0)=true from bne_iff_ne.2 k0];refine gcg XG (zdn (Yz b true) m.kind (by omega)) ⟨?_⟩;by_cases k1:m.kind=1
 ·rw [if_neg (by omega),if_pos k1,beq_iff_eq.2 k1];refine gcg h_ (Hg (Yz b true++nby m.kind 1) m.leaf (by omega)) ⟨?_⟩;rw [show (m.kind==2)=false from beq_eq_false_iff_ne.2 (by omega)];refine go ⟨?_⟩;rw [k1];exact fin
 ·have k2:m.kind=2:=by omega
  rw [if_pos k2,beq_eq_false_iff_ne.2 k1];refine go ⟨?_⟩;rw [beq_iff_eq.2 k2];refine gcg zaq (zav (Yz b true++nby m.kind 1) m.inner (by omega)) ⟨?_⟩;rw [k2];exact fin
theorem zf9:ze Tryz.prog 157:=gfn Tryz.func157
theorem zbL (i:Int) (n:Zt):APure Tryz.prog 222 [int i,yg n] (bytes (XS i n)) []:=by
 refine ent Tryz.func222 Tryz.ntmps222 ⟨?_⟩;unfold XS;have l1:=Qu 1 1;have l4:=Qu i 4;refine gc zeI (zdd n) ⟨?_⟩;generalize nAs n=m at*;refine gcg XG (Hf 1) ⟨?_⟩;refine cg XG (ziB (nby 1 1) i (by omega)) ⟨?_⟩;have fl2:(nby 1 1++nby i 4).length=(nby 1 1).length+(nby i 4).length:=List.length_append
 have fl:=Yu (nby 1 1++nby i 4) true;by_cases k1:m.kind=1
 ·rw [if_pos k1,beq_iff_eq.2 k1];refine cg wa (Wv (nby 1 1++nby i 4) true (by omega)) ⟨?_⟩;rw [beq_iff_eq.2 k1];exact gcgf h_ (Hg (Yz (nby 1 1++nby i 4) true) m.leaf (by omega))
 ·rw [if_neg k1,beq_eq_false_iff_ne.2 k1];refine cg wa (Wv (nby 1 1++nby i 4) false (by omega)) ⟨?_⟩;rw [beq_eq_false_iff_ne.2 k1];exact gf
theorem zb0:ze Tryz.prog 222:=gfn Tryz.func222
theorem GE (n:Zt) (l r:List UInt8):APure Tryz.prog 223 [yg n,bytes l,bytes r] (bytes (Xp n l r)) []:=by
 refine ent Tryz.func223 Tryz.ntmps223 ⟨?_⟩;unfold Xp;have l1:=Qu 2 1;refine gc zeI (zdd n) ⟨?_⟩;generalize nAs n=m at*;refine gcg XG (Hf 2) ⟨?_⟩;have fl:=Yu (nby 2 1) true;have fl':=Yu (nby 2 1) false
 have hp:=ko (Yz (nby 2 1) true) m.inner;by_cases k1:m.kind=2
 ·rw [if_pos k1,beq_iff_eq.2 k1];refine cg wa (Wv (nby 2 1) true (by omega)) ⟨?_⟩;rw [beq_iff_eq.2 k1];refine gc zaq (zav (Yz (nby 2 1) true) m.inner (by omega)) ⟨?_⟩;generalize QJ (Yz (nby 2 1) true) m.inner=b at*;have h1:=zx b l;refine gcg ZQ ((ya b l (by omega)).data rfl (Nat.le_of_eq (Nat.zero_add _))) ⟨?_⟩;exact cgf ZQ ((ya (zi b l) r (by omega)).data rfl (Nat.le_of_eq (Nat.zero_add _)))
 ·rw [if_neg k1,beq_eq_false_iff_ne.2 k1];refine cg wa (Wv (nby 2 1) false (by omega)) ⟨?_⟩;rw [beq_eq_false_iff_ne.2 k1];generalize Yz (nby 2 1) false=b at*;have h1:=zx b l;refine gcg ZQ ((ya b l (by omega)).data rfl (Nat.le_of_eq (Nat.zero_add _))) ⟨?_⟩;exact cgf ZQ ((ya (zi b l) r (by omega)).data rfl (Nat.le_of_eq (Nat.zero_add _)))
theorem Gx:ze Tryz.prog 223:=gfn Tryz.func223
theorem ka (v:List UInt8):APure Tryz.prog 158 [.lit (.slice none 0 0),bytes v] (bytes (zi [] v)) []:=((ya [] v (by simp)).data rfl (Nat.le_of_eq (Nat.zero_add _))).le (.cons (AV.Le.nil rfl rfl) (.refl _))
theorem JM (n:YS) (v:List UInt8):APure Tryz.prog 267 [j5 n,bytes v] (bytes (YM n v)) []:=by
 refine ent Tryz.func267 Tryz.ntmps267 ⟨?_⟩;unfold YM;have h1:=zx [] n.enc;have h2:=zx (zi [] n.enc) n.hash;simp only [List.length_nil] at h1;refine gcg ZQ (ka n.enc) ⟨?_⟩;refine cg ZQ ((ya (zi [] n.enc) n.hash (by omega)).data rfl (Nat.le_of_eq (Nat.zero_add _))) ⟨?_⟩;exact cgf ZQ ((ya (zi (zi [] n.enc) n.hash) v (by omega)).data rfl (Nat.le_of_eq (Nat.zero_add _)))
theorem J2:ze Tryz.prog 267:=gfn Tryz.func267
theorem zh3 (b:List UInt8):APure Tryz.prog 149 [bytes b] (.tup [yg (YU b).1,bytes (YU b).2.1,int (YU b).2.2]) []:=by
 refine ent Tryz.func149 Tryz.ntmps149 ⟨?_⟩;unfold YU;refine gc GL (GV b) ⟨?_⟩;generalize zY b=x at*;obtain ⟨v1,r1,e1⟩:=x;simp only;refine go ⟨?_⟩;refine zj rfl (fun h=> ?_) (fun h=> ?_)
 ·rw [if_pos h];exact gf
 rw [if_neg h];refine go ⟨?_⟩;cases v1
 ·rw [if_pos rfl];exact gf
 rw [if_neg (by decide)];refine gc JF (j8 r1 1) ⟨?_⟩;generalize zD r1 1=x at*;obtain ⟨v2,r2,e2⟩:=x;simp only;refine go ⟨?_⟩;refine zj rfl (fun h=> ?_) (fun h=> ?_)
 ·rw [if_pos h];exact gf
 rw [if_neg h];refine go ⟨?_⟩;by_cases k1:v2=1
 ·subst k1;rw [if_pos rfl];refine gc zf8 (zgB r2) ⟨?_⟩;generalize vg r2=x at*;obtain ⟨v3,r3,e3⟩:=x;simp only;refine go ⟨?_⟩;refine zj rfl (fun h=> ?_) (fun h=> ?_)
  ·rw [if_pos h];exact gf
  ·rw [if_neg h];exact gf
 by_cases k2:v2=2
 ·subst k2;rw [if_neg (by decide),if_pos rfl];refine gc zhM (zgh r2) ⟨?_⟩;generalize Q4 r2=x at*;obtain ⟨v3,r3,e3⟩:=x;simp only;refine go ⟨?_⟩;refine zj rfl (fun h=> ?_) (fun h=> ?_)
  ·rw [if_pos h];exact gf
  ·rw [if_neg h];exact gf
 rw [if_neg k1,if_neg k2,bne_iff_ne.2 k1];refine go ⟨?_⟩;rw [bne_iff_ne.2 k2];exact gf
theorem zh8:ze Tryz.prog 149:=gfn Tryz.func149
theorem zhw {a b:Zt}:a=b↔a.kind=b.kind∧a.leaf=b.leaf∧a.inner=b.inner:=by
 cases a;cases b;simp only [Zt.mk.injEq]
theorem zc_ (a b:Zt) (hb:b.inner.unm.length≤140737488355328):APure Tryz.prog 54 [yg a,yg b] (.lit (.bool (decide (a=b)))) []:=by
 refine ent Tryz.func54 Tryz.ntmps54 ⟨?_⟩;simp only [zhw];refine go ⟨?_⟩;by_cases h1:a.kind=b.kind
 ·rw [beq_iff_eq.2 h1];refine gc zat (zaF a.leaf b.leaf) ⟨?_⟩;by_cases h2:a.leaf=b.leaf
  ·rw [decide_eq_true h2];refine gc tf (T6 a.inner b.inner hb) ⟨?_⟩;have e:decide (a.inner=b.inner)=decide (a.kind=b.kind∧a.leaf=b.leaf∧a.inner=b.inner):=by simp [h1,h2]
   rw [←e];exact gf
  ·rw [decide_eq_false h2,decide_eq_false (fun h:a.kind=b.kind∧a.leaf=b.leaf∧a.inner=b.inner=>h2 h.2.1)];exact gf
 ·rw [beq_eq_false_iff_ne.2 h1,decide_eq_false (fun h:a.kind=b.kind∧a.leaf=b.leaf∧a.inner=b.inner=>h1 h.1)];exact gf
theorem zeM:ze Tryz.prog 54:=gfn Tryz.func54
def zbz (n:Zt):Bool:=zbq n.leaf && zk1 n.inner
theorem ziw (n:Zt):APure Tryz.prog 55 [yg n] (.lit (.bool (zbz n))) []:=by
 refine ent Tryz.func55 Tryz.ntmps55 ⟨?_⟩;unfold zbz;refine gc zdG (zdi n.leaf) ⟨?_⟩;cases h:zbq n.leaf
 ·exact gf
 ·exact gcgf ziv (zjM n.inner)
theorem zi5:ze Tryz.prog 55:=gfn Tryz.func55
theorem zaH {α:Type} (d:α) (P:α×Nat→Bool) (l:List α):l.zipIdx.all P=true↔ ∀j,j<l.length→P (l.getD j d,j)=true:=by
 rw [List.all_eq_true];constructor
 ·intro h j hj;have:=h (l[j],j) (by rw [List.mem_zipIdx_iff_getElem?];simp [hj])
  simpa [List.getD_eq_getElem?_getD,hj] using this
 ·rintro h ⟨x,j⟩ hm
  rw [List.mem_zipIdx_iff_getElem?] at hm;obtain ⟨hj,he⟩:=List.getElem?_eq_some_iff.1 hm;have:=h j hj
  simp only [List.getD_eq_getElem?_getD,hm,Option.getD_some] at this;exact this
theorem zev {α:Type} (d:α) (P:α×Nat→Bool) (l:List α) {i:Nat} (hi:i<l.length) (hp:P (l.getD i d,i)=true) (hn: ∀j,j<i→P (l.getD j d,j)=false):l.zipIdx.find? P=some (l.getD i d,i):=by
 rw [List.find?_eq_some_iff_getElem];refine ⟨hp,i,by simpa using hi,by simp [List.getD_eq_getElem?_getD,hi],fun j hj=> ?_⟩;have:=hn j hj
 simpa [List.getD_eq_getElem?_getD,show j<l.length by omega] using this
theorem zde {α:Type} (d:α) (P:α×Nat→Bool) (l:List α) (hn: ∀j,j<l.length→P (l.getD j d,j)=false):l.zipIdx.find? P=none:=by
 rw [List.find?_eq_none]
 rintro ⟨x,j⟩ hm
 rw [List.mem_zipIdx_iff_getElem?] at hm;obtain ⟨hj,he⟩:=List.getElem?_eq_some_iff.1 hm;have:=hn j hj
 simp only [List.getD_eq_getElem?_getD,hm,Option.getD_some] at this;simp [this]
def vW (t:zc) (j:Nat):Bool:=Xf j (t.getD j za).kind && decide (zC (t.getD j za)=0)
theorem yB (t:zc):zW t=true↔(∀j,j<t.length→vW t j=true)∧(t.length=0∨yf t.length=true):=by
 unfold zW;rw [Bool.and_eq_true,zaH za,Bool.or_eq_true,decide_eq_true_iff];rfl
theorem yq {t:zc} (h:zW t=true):t.length≤127:=by
 rcases ((yB t).1 h).2 with h|h
 ·omega
 ·have:=qU h;omega
theorem zR (t:zc):(rAs t).length≤127:=by
 unfold rAs;split
 ·rename_i h;exact yq h
 ·simp
theorem zG (t:zc):zW (rAs t)=true:=by
 unfold rAs;split
 ·rename_i h;exact h
 ·rfl
theorem wU {t:zc} (h:zW t=true):rAs t=t:=by unfold rAs;rw [if_pos h]
theorem W6 (t:zc):rAs (rAs t)=rAs t:=wU (zG t)
theorem WZ (x:Nat):Int.tmod (x:Int) 2=((x % 2:Nat):Int):=by rw [Int.tmod_eq_emod_of_nonneg (Int.natCast_nonneg x)];rfl
theorem WX (x:Nat):Int.tdiv (x:Int) 2=((x / 2:Nat):Int):=by rw [Int.tdiv_eq_ediv_of_nonneg (Int.natCast_nonneg x)];rfl
theorem zjG (x:Nat) (k:Int):APure Tryz.prog 92 [int x,int k] (.lit (.bool (Xf x k))) []:=by
 refine ent Tryz.func92 Tryz.ntmps92 ⟨?_⟩;unfold Xf;refine go ⟨?_⟩;rw [WZ];by_cases h:x % 2=0
 ·rw [if_pos h,h];exact gf
 ·rw [if_neg h,show x % 2=1 by omega];exact gf
theorem zj8:ze Tryz.prog 92:=gfn Tryz.func92
theorem pu (n:Zt):APure Tryz.prog 165 [yg n] (.lit (.bool (decide (n.kind=0)))) []:=by
 refine ent Tryz.func165 Tryz.ntmps165 ⟨?_⟩;exact gf
theorem Pb:ze Tryz.prog 165:=gfn Tryz.func165
theorem QC (t:zc) (ht:t.length≤1000000):APure Tryz.prog 48 [zg t] (.lit (.bool (zW t))) []:=by
 refine ent Tryz.func48 Tryz.ntmps48 ⟨?_⟩;refine go ⟨?_⟩;refine lp (fun i:{i:Nat // i≤t.length∧ ∀j,j<i→vW t j=true}=>[(7,int i.1)]) (fun i=>[]) (fun i=>t.length - i.1) ⟨0,by simp,fun j h=>by omega⟩ ?_
 rintro ⟨i,hi,hk⟩
 refine go ⟨?_⟩;refine zj rfl (fun h=> ?_) (fun h=> ?_)
 ·have hlt:i<t.length:=by omega
  refine gc zj8 (zjG i (t.getD i za).kind) ⟨?_⟩;have hs:vW t i=(Xf i (t.getD i za).kind && decide (zC (t.getD i za)=0)):=rfl
  rw [show fE zf t i=Zb (t.getD i za) from rfl];refine nz ⟨?_⟩;generalize t.getD i za=n at*;cases h1:Xf i n.kind
  ·have hf:zW t=false:=by
    rw [←Bool.not_eq_true,yB]
    rintro ⟨h2,_⟩
    have:=h2 i hlt
    rw [hs,h1] at this;cases this
   rw [hf];exact gf
  refine gcg TK (TY n) ⟨?_⟩;by_cases h2:zC n=0
  ·rw [bne_eq_false_iff_eq.2 h2];refine go ⟨?_⟩;refine je ⟨⟨i+1,hlt,fun j hj=> ?_⟩,by simp only;omega, ?_⟩
   ·by_cases hji:j<i
    ·exact hk j hji
    ·obtain rfl:j=i:=by omega
     rw [hs,h1,decide_eq_true h2];rfl
   ·exact tel
  ·have hf:zW t=false:=by
    rw [←Bool.not_eq_true,yB]
    rintro ⟨h3,_⟩
    have:=h3 i hlt
    rw [hs,h1,decide_eq_false h2] at this;cases this
   rw [hf,bne_iff_ne.2 h2];exact gf
 ·obtain rfl:i=t.length:=by omega
  refine go ⟨?_⟩;by_cases h0:t.length=0
  ·have hf:zW t=true:=(yB t).2 ⟨hk, .inl h0⟩
   rw [hf,h0];exact gf
  ·rw [show ((t.length:Int)==0)=false from beq_eq_false_iff_ne.2 (by omega)];refine gc kF (kq t.length) ⟨?_⟩
   have hf:zW t=yf t.length:=by
    rw [Bool.eq_iff_iff,yB];exact ⟨fun h=>h.2.elim (fun h=>(h0 h).elim) id,fun h=>⟨hk, .inr h⟩⟩
   rw [←hf];exact gf
theorem QM:ze Tryz.prog 48:=gfn Tryz.func48
theorem Wo (t:zc) (ht:t.length≤1000000):APure Tryz.prog 136 [zg t] (zg (rAs t)) []:=by
 refine ent Tryz.func136 Tryz.ntmps136 ⟨?_⟩;unfold rAs;refine gc QM (QC t ht) ⟨?_⟩;cases h:zW t
 ·rw [if_neg (by decide)];exact gf
 ·rw [if_pos rfl];exact gf
theorem Wu:ze Tryz.prog 136:=gfn Tryz.func136
theorem Yc (i:Nat) (hi:i≤1000000000):IntKind.i64.wrap ((i / 2:Nat):Int)=((i / 2:Nat):Int):=by simp only [IntKind.wrap_i64];omega
theorem wz (t:zc) (ht:t.length≤1000000):APure Tryz.prog 78 [zg t] (int (zp t)) []:=by
 refine ent Tryz.func78 Tryz.ntmps78 ⟨?_⟩;have hl:=zR t;refine gc Wu (Wo t ht) ⟨?_⟩;rw [show zp t=(((rAs t).length+1) / 2:Nat) from rfl];generalize rAs t=u at*;have e1:IntKind.i64.wrap ((u.length:Int)+1)=((u.length+1:Nat):Int):=by simp only [IntKind.wrap_i64];omega
 have e2:=Yc (u.length+1) (by omega);refine go ⟨?_⟩;rw [e1,WX,e2];exact fin
theorem wG:ze Tryz.prog 78:=gfn Tryz.func78
def wT (t:zc) (j:Nat):Bool:=decide (j % 2=0) && decide ((t.getD j za).kind=0)
theorem UP {t:zc} {i:Nat} (hi:i<(rAs t).length) (h:wT (rAs t) i=true) (hn: ∀j,j<i→wT (rAs t) j=false):ZI t=((i / 2:Nat):Int):=by
 unfold ZI;rw [zev za _ (rAs t) hi h hn]
theorem U' {t:zc} (hn: ∀j,j<(rAs t).length→wT (rAs t) j=false):ZI t= -1:=by
 unfold ZI;rw [zde za _ (rAs t) hn]
theorem zdT (t:zc) (ht:t.length≤1000000):APure Tryz.prog 103 [zg t] (int (ZI t)) []:=by
 refine ent Tryz.func103 Tryz.ntmps103 ⟨?_⟩;have hl:=zR t;have f1:=fun i=>UP (t:=t) (i:=i)
 have f2:=U' (t:=t);refine gc Wu (Wo t ht) ⟨?_⟩;generalize rAs t=u at*;refine go ⟨?_⟩;refine lp (fun i:{i:Nat // i≤u.length∧ ∀j,j<i→wT u j=false}=>[(8,int i.1)]) (fun i=>[]) (fun i=>u.length - i.1) ⟨0,by simp,fun j h=>by omega⟩ ?_
 rintro ⟨i,hi,hk⟩
 refine go ⟨?_⟩;refine zj rfl (fun h=> ?_) (fun h=> ?_)
 ·have hlt:i<u.length:=by omega
  have f1:=f1 i hlt;have hs:wT u i=(decide (i % 2=0) && decide ((u.getD i za).kind=0)):=rfl
  refine go ⟨?_⟩;rw [show fE zf u i=Zb (u.getD i za) from rfl,WZ];refine nz ⟨?_⟩;generalize u.getD i za=n at*
  have step:wT u i=false→ ∀j,j<i+1→wT u j=false:=fun h j hj=>by
   by_cases hji:j<i
   ·exact hk j hji
   ·obtain rfl:j=i:=by omega
    exact h
  by_cases h1:i % 2=0
  ·rw [h1];refine gcg Pb (pu n) ⟨?_⟩;by_cases h2:n.kind=0
   ·rw [f1 (by rw [hs,decide_eq_true h1,decide_eq_true h2];rfl) hk,decide_eq_true h2];refine go ⟨?_⟩;rw [WX,Yc i (by omega)];exact fin
   ·rw [decide_eq_false h2];refine go ⟨?_⟩;refine je ⟨⟨i+1,hlt,step (by rw [hs,decide_eq_false h2,Bool.and_false])⟩,by simp only;omega, ?_⟩;exact tel
  ·rw [show i % 2=1 by omega];refine go ⟨?_⟩;refine je ⟨⟨i+1,hlt,step (by rw [hs,decide_eq_false h1,Bool.false_and])⟩,by simp only;omega, ?_⟩;exact tel
 ·obtain rfl:i=u.length:=by omega
  rw [f2 hk];exact gf
theorem zdk:ze Tryz.prog 103:=gfn Tryz.func103
theorem zh0 (x:Nat) (k:Int):APure Tryz.prog 97 [int x,int k] (.lit (.bool (Xf x k))) []:=by
 refine ent Tryz.func97 Tryz.ntmps97 ⟨?_⟩;unfold Xf;refine go ⟨?_⟩;rw [WZ];by_cases h:x % 2=0
 ·rw [if_pos h,h];refine go ⟨?_⟩;by_cases h2:k=2
  ·rw [h2];exact gf
  ·rw [decide_eq_true h2,bne_iff_ne.2 h2];refine go ⟨?_⟩;rw [WZ,h];exact gf
 ·rw [if_neg h,show x % 2=1 by omega];refine go ⟨?_⟩;rw [WZ,show x % 2=1 by omega];exact gf
theorem zh7:ze Tryz.prog 97:=gfn Tryz.func97
theorem Pa (t:zc) (ht:t.length≤1000000):APure Tryz.prog 49 [zg t] (.lit (.bool (zW t))) []:=by
 refine ent Tryz.func49 Tryz.ntmps49 ⟨?_⟩;refine go ⟨?_⟩;by_cases h0:t.length=0
 ·rw [(yB t).2 ⟨fun j hj=>by omega, .inl h0⟩,h0];exact gf
 rw [show ((t.length:Int)==0)=false from beq_eq_false_iff_ne.2 (by omega)];refine gc jd (jM t.length) ⟨?_⟩;cases hw:yf t.length
 ·have hf:zW t=false:=by
   rw [←Bool.not_eq_true,yB]
   rintro ⟨_,h|h⟩
   ·exact h0 h
   ·rw [hw] at h;cases h
  rw [hf];exact gf
 refine go ⟨?_⟩;refine lp (fun i:{i:Nat // i≤t.length∧ ∀j,j<i→vW t j=true}=>[(3,int i.1)]) (fun i=>[]) (fun i=>t.length - i.1) ⟨0,by simp,fun j h=>by omega⟩ ?_
 rintro ⟨i,hi,hk⟩
 refine go ⟨?_⟩;refine zj rfl (fun h=> ?_) (fun h=> ?_)
 ·have hlt:i<t.length:=by omega
  have hs:vW t i=(Xf i (t.getD i za).kind && decide (zC (t.getD i za)=0)):=rfl
  refine go ⟨?_⟩;rw [show fE zf t i=Zb (t.getD i za) from rfl];refine nz ⟨?_⟩;refine cg UH (Ul (t.getD i za)) ⟨?_⟩;by_cases h2:zC (t.getD i za)=0
  ·rw [bne_eq_false_iff_eq.2 h2];refine go ⟨?_⟩;rw [show fE zf t i=Zb (t.getD i za) from rfl];refine gc zh7 (zh0 i (t.getD i za).kind) ⟨?_⟩;cases h1:Xf i (t.getD i za).kind
   ·have hf:zW t=false:=by
     rw [←Bool.not_eq_true,yB]
     rintro ⟨h2,_⟩
     have:=h2 i hlt
     rw [hs,h1] at this;cases this
    rw [hf];exact gf
   ·refine go ⟨?_⟩;refine je ⟨⟨i+1,hlt,fun j hj=> ?_⟩,by simp only;omega, ?_⟩
    ·by_cases hji:j<i
     ·exact hk j hji
     ·obtain rfl:j=i:=by omega
      rw [hs,h1,decide_eq_true h2];rfl
    ·exact tel
  ·have hf:zW t=false:=by
    rw [←Bool.not_eq_true,yB]
    rintro ⟨h3,_⟩
    have:=h3 i hlt
    rw [hs,decide_eq_false h2,Bool.and_false] at this;cases this
   rw [hf,bne_iff_ne.2 h2];exact gf
 ·obtain rfl:i=t.length:=by omega
  rw [(yB t).2 ⟨hk, .inr hw⟩];exact gf
theorem pM:ze Tryz.prog 49:=gfn Tryz.func49
theorem ZW (t:zc) (ht:t.length≤1000000):APure Tryz.prog 137 [zg t] (zg (rAs t)) []:=by
 refine ent Tryz.func137 Tryz.ntmps137 ⟨?_⟩;unfold rAs;refine gc pM (Pa t ht) ⟨?_⟩;cases h:zW t
 ·rw [if_neg (by decide)];exact gf
 ·rw [if_pos rfl];exact gf
theorem ZY:ze Tryz.prog 137:=gfn Tryz.func137
theorem XB (t:zc) (ht:t.length≤1000000):APure Tryz.prog 84 [zg t] (int (zp t)) []:=by
 refine ent Tryz.func84 Tryz.ntmps84 ⟨?_⟩;have hl:=zR t;refine gc ZY (ZW t ht) ⟨?_⟩;rw [show zp t=(((rAs t).length+1) / 2:Nat) from rfl];generalize rAs t=u at*;have e1:IntKind.i64.wrap ((u.length:Int)+1)=((u.length+1:Nat):Int):=by simp only [IntKind.wrap_i64];omega
 have e2:=Yc (u.length+1) (by omega);refine go ⟨?_⟩;rw [e1,WX,e2];exact fin
theorem xe:ze Tryz.prog 84:=gfn Tryz.func84
theorem Pt (t:zc) (ht:t.length≤1000000):APure Tryz.prog 139 [zg t] (int (ZI t)) []:=by
 refine ent Tryz.func139 Tryz.ntmps139 ⟨?_⟩;have hl:=zR t;have f1:=fun i=>UP (t:=t) (i:=i)
 have f2:=U' (t:=t);refine gc ZY (ZW t ht) ⟨?_⟩;generalize rAs t=u at*;refine go ⟨?_⟩;refine lp (fun i:{i:Nat // i % 2=0∧i≤128∧ ∀j,j<i→wT u j=false}=>[(4,int i.1)]) (fun i=>[]) (fun i=>129 - i.1) ⟨0,by simp,by simp,fun j h=>by omega⟩ ?_
 rintro ⟨i,h2,hi,hk⟩
 refine go ⟨?_⟩;refine zj rfl (fun h=> ?_) (fun h=> ?_)
 ·have hlt:i<u.length:=by omega
  have f1:=f1 i hlt;have hs:wT u i=(decide (i % 2=0) && decide ((u.getD i za).kind=0)):=rfl
  refine go ⟨?_⟩;rw [show fE zf u i=Zb (u.getD i za) from rfl];refine go ⟨?_⟩;by_cases h3:(u.getD i za).kind=0
  ·rw [f1 (by rw [hs,decide_eq_true h2,decide_eq_true h3];rfl) hk,beq_iff_eq.2 h3];refine go ⟨?_⟩;rw [WX,Yc i (by omega)];exact fin
  ·rw [beq_eq_false_iff_ne.2 h3];refine go ⟨?_⟩;refine je ⟨⟨i+2,by omega,by omega,fun j hj=> ?_⟩,by simp only;omega, ?_⟩
   ·by_cases hji:j<i
    ·exact hk j hji
    ·by_cases hj2:j=i
     ·subst hj2;rw [hs,decide_eq_false h3,Bool.and_false]
     ·have:j % 2≠0:=by omega
      unfold wT;rw [decide_eq_false this,Bool.false_and]
   ·exact tel
 ·rw [f2 (fun j hj=>hk j (by omega))];exact gf
theorem pZ:ze Tryz.prog 139:=gfn Tryz.func139
end
section
theorem z_ (xs:List Int) (t:zc):(Za xs t).length=t.length:=by simp [Za]
theorem qd (xs:List Int) (t:zc) {j:Nat} (hj:j<t.length):(Za xs t)[j]'(by rw [z_];exact hj)=if xs.contains (j:Int) then za else t[j]:=by simp [Za]
theorem wy (t:zc):Za [] t=t:=by
 refine List.ext_getElem (z_ _ _) fun j h1 h2=> ?_
 rw [qd [] t h2];rfl
theorem xN (xs:List Int) (t:zc) (x:Nat):Za (xs++[(x:Int)]) t=(Za xs t).set x za:=by
 refine List.ext_getElem (by simp [z_]) fun j h1 h2=> ?_
 have hj:j<t.length:=by rw [z_] at h1;exact h1
 rw [qd _ t hj,List.getElem_set,qd _ t hj];by_cases h:x=j
 ·subst h;rw [if_pos rfl,if_pos (by simp)]
 ·rw [if_neg h]
  have:(xs++[(x:Int)]).contains (j:Int)=xs.contains (j:Int):=by
   rw [Bool.eq_iff_iff,List.contains_iff_mem,List.contains_iff_mem,List.mem_append,List.mem_singleton];exact ⟨fun h'=>h'.elim id fun e=>absurd (Int.ofNat.inj e).symm h, .inl⟩
  rw [this]
theorem Te {xs ys:List Int} (t:zc) (h: ∀x,x∈xs↔x∈ys):Za xs t=Za ys t:=by
 unfold Za;have: ∀j:Int,xs.contains j=ys.contains j:=fun j=>by rw [Bool.eq_iff_iff,List.contains_iff_mem,List.contains_iff_mem];exact h j
 simp only [this]
theorem UD {t:zc} {i:Nat} (hi:i<(rAs t).length) (h:((rAs t).getD i za).kind≠0) (hn: ∀j,i<j→j<(rAs t).length→((rAs t).getD j za).kind=0):xG t=i:=by
 unfold xG;generalize rAs t=u at*
 have e:u.zipIdx.reverse.find? (fun p=>decide (p.1.kind≠0))=some (u.getD i za,i):=by
  rw [List.find?_eq_some_iff_getElem];refine ⟨decide_eq_true h,u.length - 1 - i,by simp;omega, ?_,fun j hj=> ?_⟩
  ·rw [List.getElem_reverse];simp only [List.getElem_zipIdx,List.length_zipIdx];have e1:u.length - 1 - (u.length - 1 - i)=i:=by omega
   simp [List.getD_eq_getElem?_getD,hi,e1]
  ·rw [List.getElem_reverse];simp only [List.getElem_zipIdx,List.length_zipIdx];have:=hn (u.length - 1 - j) (by omega) (by omega)
   simp only [List.getD_eq_getElem?_getD,show u.length - 1 - j<u.length by omega,List.getElem?_eq_getElem,Option.getD_some] at this;simp [this]
 rw [e]
theorem UB {t:zc} (hn: ∀j,j<(rAs t).length→((rAs t).getD j za).kind=0):xG t= -1:=by
 unfold xG;generalize rAs t=u at*
 have e:u.zipIdx.reverse.find? (fun p=>decide (p.1.kind≠0))=none:=by
  rw [List.find?_eq_none]
  rintro ⟨x,j⟩ hm
  rw [List.mem_reverse,List.mem_zipIdx_iff_getElem?] at hm;obtain ⟨hj,he⟩:=List.getElem?_eq_some_iff.1 hm;have:=hn j hj
  simp only [List.getD_eq_getElem?_getD,hm,Option.getD_some] at this;simp [this]
 rw [e]
theorem ZE {t:zc} (h:zW t=true) (h0:t.length≠0):yf t.length=true:=((yB t).1 h).2.resolve_left h0
theorem YP {x w y:Int} (h:y∈zy x w):iIs y w=true:=by
 refine zaG (x:=x) (w:=w) ?_;unfold zy at h;exact List.mem_of_mem_tail h
end
section
attribute [local irreducible] zA AO zt zo ADr AL AW zF zh zU Tells APure ACall
theorem zgb (w:zc) (h:Nat):AV.Le (.sl 8 (zO (some (h:Int)) none w.length) false (vV (some (h:Int)) (fE zf w))) (zg (w.drop h)):=
 u4 (e:=zf) rfl (Nat.le_refl _) (fun h=>h) (by simp [Zh,zK])
theorem pE (w:zc) (h:Nat) (t:Bool) (hh:h≤w.length):AV.Le (.sl 8 (zO none (some (h:Int)) w.length) t (vV none (fE zf w))) (zg (w.take h)):=
 u4 (e:=zf) rfl (by simp only [Zh];omega) (fun h=>by cases h) (by simp [Zh,zK])
abbrev zdY:List AV:=[.lit (.int .i64 0), .lit (.slice none 0 0), .lit (.slice none 0 0), .lit (.int .i64 0), .lit (.slice none 0 0), .lit (.slice none 0 0), .lit (.slice none 0 0), .lit (.slice none 0 0)]
theorem KU:LeS zdY (Zb za):=by exact les
theorem zhi {n k:Nat} {f g g':Nat→List AV} (h: ∀k,LeS (g k) (g' k)):LeS (xY n f g k) (xY n f g' k):=by
 unfold xY;split
 ·exact .refl _
 ·exact h _
theorem zjp (m:Nat):fE zf (List.replicate m za)=fun _=>Zb za:=by
 funext k
 unfold fE
 have:(List.replicate m za).getD k zf.z=za:=by
  rw [List.getD_eq_getElem?_getD,List.getElem?_replicate];split <;>rfl
 rw [this];rfl
theorem zf4 (t:zc) (ht:t.length≤1000000):APure Tryz.prog 104 [zg t] (.tup [zg (ZN t).1,int (ZN t).2]) []:=by
 refine ent Tryz.func104 Tryz.ntmps104 ⟨?_⟩;have hl:=zR t;unfold ZN;refine gc Wu (Wo t ht) ⟨?_⟩;generalize rAs t=u at*;refine go ⟨?_⟩;by_cases h:u.length=127
 ·rw [if_pos h,h];exact gf
 ·rw [if_neg h,show ((u.length:Int)==127)=false from beq_eq_false_iff_ne.2 (by omega)];refine go ⟨?_⟩;have e1:IntKind.i64.wrap ((u.length:Int)+1)=((u.length+1:Nat):Int):=by simp only [IntKind.wrap_i64];omega
  rw [e1];refine kX hT rfl rfl rfl (by repeat' (first|exact trivial|omega|(simp [zO];omega)|refine And.intro ?_ ?_)) ?_;refine nz ⟨?_⟩;have c1:zO none (some (u.length:Int)) u.length=u.length:=rfl
  have e2:(u++List.replicate (u.length+1) za).length=u.length+(u.length+1):=by simp
  refine zz (Tells.le (H':=[{T:=85,sz:=8,n:=u.length+(u.length+1),f:=fE zf (u++List.replicate (u.length+1) za)}]) (.refl _) (.cons (.les (Nat.le_refl _) (fun k hk=> ?_)) .nil)) ?_
  ·rw [WB (n:=u.length) rfl (by rw [List.length_replicate];exact hk),zjp];exact zhi fun _=>KU
  rw [c1,←e2];generalize u++List.replicate (u.length+1) za=v at*;refine ng ⟨?_⟩;exact fin
theorem zcS:ze Tryz.prog 104:=gfn Tryz.func104
theorem zef (n:Zt):APure Tryz.prog 169 [yg n] (.lit (.bool (decide (n.kind=1)))) []:=by
 refine ent Tryz.func169 Tryz.ntmps169 ⟨?_⟩;exact gf
theorem zc':ze Tryz.prog 169:=gfn Tryz.func169
theorem Pr (t:zc):(t.any fun n=>decide (n.kind=1))= !Xj t:=by
 unfold Xj;rw [List.not_all_eq_any_not];congr 1
 funext n;simp
theorem zj' (t:zc) (ht:t.length≤1000000):APure Tryz.prog 110 [zg t] (zg (WL t)) []:=by
 refine ent Tryz.func110 Tryz.ntmps110 ⟨?_⟩;have hl:=zR t;unfold WL;refine gc Wu (Wo t ht) ⟨?_⟩;generalize rAs t=u at*;refine go ⟨?_⟩;rw [WX];generalize hv:wV 7 u=v;refine lp (fun i:{q:Nat×zc // wV q.1 q.2=v∧q.2.length<2^q.1∧q.2.length≤127}=>[(0,zg i.1.2),(4,int (i.1.2.length / 2:Nat))]) (fun i=>[]) (fun i=>i.1.1) ⟨(7,u),hv,by simp only;omega,hl⟩ ?_
 rintro ⟨⟨k,w⟩,h1,h2,h3⟩
 simp only at h1 h2 h3 ⊢;refine go ⟨?_⟩;by_cases h4:w.length / 2>0
 ·obtain ⟨k,rfl⟩: ∃k',k=k'+1:=⟨k - 1,by
   cases k with
   |zero=>simp at h2;simp [h2] at h4
   |succ k=>rfl⟩
  rw [wV] at h1;have e1:=Yc w.length (by omega);refine go ⟨?_⟩;have c:=zj_ (p:=fun n=>decide (n.kind=1)) (ca:=[]) (w.drop (w.length / 2)) (by simp;omega) zc' rfl fun x _=>zef x
  rw [Pr] at c;refine zeT zje c (LeS.cons (zgb w (w.length / 2)) (LeS.cons (AV.Le.refl _) LeS.nil)) ⟨?_⟩;cases h5:Xj (w.drop (w.length / 2))
  ·rw [h5,if_neg (by simp)] at h1;subst h1;refine go ⟨?_⟩;rw [if_neg (by omega)];rw [show ((w.length:Int)==1)=false from beq_eq_false_iff_ne.2 (by omega)];exact fin
  ·rw [h5,if_pos ⟨h4,rfl⟩] at h1;have hl2:(w.take (w.length / 2)).length=w.length / 2:=List.length_take_of_le (by omega)
   have e3:=Yc (w.length / 2) (by omega);refine go ⟨?_⟩;rw [WX,e3];refine je ⟨⟨(k,w.take (w.length / 2)),h1,by simp only;omega,by simp only;omega⟩,by simp only;omega, ?_⟩;refine (Tells.slot 0 (zg (w.take (w.length / 2))) rfl (pE w (w.length / 2) true (by omega))).trans ?_;simp only [setn,hl2];exact tel
 ·have h5: ¬((w.length / 2:Nat):Int)>0:=by omega
  have hv2:v=w:=by
   rw [←h1];cases k with
   |zero=>rfl
   |succ k=>rw [wV,if_neg (fun h=>h4 h.1)]
  subst hv2;refine go ⟨?_⟩;by_cases h6:v.length=1
  ·rw [h6];refine go ⟨?_⟩;rw [show fE zf v 0=Zb (v.getD 0 za) from rfl];refine nz ⟨?_⟩;refine cal Pb (pu (v.getD 0 za)) ⟨?_⟩;by_cases h7:(v.getD 0 za).kind=0
   ·rw [if_pos ⟨trivial,h7⟩,decide_eq_true h7];exact gf
   ·rw [if_neg (fun h=>h7 h.2),decide_eq_false h7];exact gf
  ·rw [if_neg (fun h=>h6 h.1),show ((v.length:Int)==1)=false from beq_eq_false_iff_ne.2 (by omega)];exact gf
theorem zfT:ze Tryz.prog 110:=gfn Tryz.func110
theorem zhW (t:zc) (ht:t.length≤1000000):APure Tryz.prog 156 [zg t] (int (xG t)) []:=by
 refine ent Tryz.func156 Tryz.ntmps156 ⟨?_⟩;have hl:=zR t;have f1:=fun i=>UD (t:=t) (i:=i)
 have f2:=UB (t:=t);refine gc ZY (ZW t ht) ⟨?_⟩;generalize rAs t=u at*;refine go ⟨?_⟩;have e0:IntKind.i64.wrap ((u.length:Int) - 1)=(u.length:Int) - 1:=by simp only [IntKind.wrap_i64];omega
 rw [e0];refine lp (fun i:{i:Nat // i≤u.length∧ ∀j,i≤j→j<u.length→(u.getD j za).kind=0}=>[(4,int ((i.1:Int) - 1))]) (fun i=>[]) (fun i=>i.1) ⟨u.length,by simp,fun j h h'=>by omega⟩ ?_
 rintro ⟨i,hi,hk⟩
 refine go ⟨?_⟩;cases i with
 |zero=>
  rw [f2 (fun j hj=>hk j (by omega) hj)];exact gf
 |succ i=>
  have h1:((i+1:Nat):Int) - 1=i:=by omega
  rw [h1];refine go ⟨?_⟩;rw [show fE zf u i=Zb (u.getD i za) from rfl];refine go ⟨?_⟩;by_cases h2:(u.getD i za).kind=0
  ·rw [bne_eq_false_iff_eq.2 h2];refine go ⟨?_⟩;refine je ⟨⟨i,by omega,fun j hj hj'=> ?_⟩,by simp only;omega, ?_⟩
   ·by_cases hji:j=i
    ·rw [hji];exact h2
    ·exact hk j (by omega) hj'
   ·exact tel
  ·rw [f1 i (by omega) h2 (fun j hj hj'=>hk j (by omega) hj'),bne_iff_ne.2 h2];exact gf
theorem zhO:ze Tryz.prog 156:=gfn Tryz.func156
theorem TV (t:zc) (k:Nat) (hk:k≤t.length) (ht:t.length≤1000000):APure Tryz.prog 205 [zg t,int k] (.lit (.bool (Xj (t.drop k)))) []:=by
 refine ent Tryz.func205 Tryz.ntmps205 ⟨?_⟩;refine go ⟨?_⟩;generalize hz:Xj (t.drop k)=z;refine lp (fun i:{i:Nat // i≤t.length∧z=Xj (t.drop i)}=>[(5,int i.1)]) (fun i=>[]) (fun i=>t.length - i.1) ⟨k,hk,hz.symm⟩ ?_
 rintro ⟨i,hi,he⟩
 refine go ⟨?_⟩;refine zj rfl (fun h=> ?_) (fun h=> ?_)
 ·have hlt:i<t.length:=by omega
  have hd:t.drop i=t.getD i za::t.drop (i+1):=by rw [List.drop_eq_getElem_cons hlt];simp [List.getD_eq_getElem?_getD,hlt]
  have hs:Xj (t.drop i)=(decide ((t.getD i za).kind≠1) && Xj (t.drop (i+1))):=by rw [hd];rfl
  refine go ⟨?_⟩;rw [show fE zf t i=Zb (t.getD i za) from rfl];refine go ⟨?_⟩;by_cases h1:(t.getD i za).kind=1
  ·rw [decide_eq_false (not_not_intro h1),Bool.false_and] at hs;rw [he,hs,beq_iff_eq.2 h1];exact gf
  ·rw [decide_eq_true h1,Bool.true_and] at hs;rw [beq_eq_false_iff_ne.2 h1];refine go ⟨?_⟩;refine je ⟨⟨i+1,hlt,by rw [he,hs]⟩,by simp only;omega, ?_⟩;exact tel
 ·obtain rfl:i=t.length:=by omega
  rw [he,List.drop_length];exact gf
theorem t_:ze Tryz.prog 205:=gfn Tryz.func205
theorem zha (t:zc) (ht:t.length≤1000000):APure Tryz.prog 146 [zg t] (zg (WL t)) []:=by
 refine ent Tryz.func146 Tryz.ntmps146 ⟨?_⟩;have hl:=zR t;unfold WL;refine gc ZY (ZW t ht) ⟨?_⟩;generalize rAs t=u at*;refine go ⟨?_⟩;generalize hv:wV 7 u=v;refine lp (fun i:{q:Nat×zc // wV q.1 q.2=v∧q.2.length<2^q.1∧q.2.length≤127}=>[(3,zg i.1.2)]) (fun i=>[]) (fun i=>i.1.1) ⟨(7,u),hv,by simp only;omega,hl⟩ ?_
 rintro ⟨⟨k,w⟩,h1,h2,h3⟩
 simp only at h1 h2 h3 ⊢;refine go ⟨?_⟩;by_cases h4:w.length>1
 ·obtain ⟨k,rfl⟩: ∃k',k=k'+1:=⟨k - 1,by
   cases k with
   |zero=>simp at h2;simp [h2] at h4
   |succ k=>rfl⟩
  rw [wV] at h1;have e1:=Yc w.length (by omega);refine go ⟨?_⟩;rw [WX,e1];refine cal t_ (TV w (w.length / 2) (by omega) (by omega)) ⟨?_⟩;cases h5:Xj (w.drop (w.length / 2))
  ·rw [h5,if_neg (by simp)] at h1;subst h1;refine go ⟨?_⟩;rw [if_neg (by omega)];rw [show ((w.length:Int)==1)=false from beq_eq_false_iff_ne.2 (by omega)];exact fin
  ·rw [h5,if_pos ⟨by omega,rfl⟩] at h1;have hl2:(w.take (w.length / 2)).length=w.length / 2:=List.length_take_of_le (by omega)
   refine go ⟨?_⟩;rw [WX,e1];refine go ⟨?_⟩;refine je ⟨⟨(k,w.take (w.length / 2)),h1,by simp only;omega,by simp only;omega⟩,by simp only;omega, ?_⟩;refine (Tells.slot 3 (zg (w.take (w.length / 2))) rfl (pE w (w.length / 2) false (by omega))).trans ?_;simp only [setn,hl2];exact tel
 ·have h5: ¬(w.length:Int)>1:=by omega
  have hv2:v=w:=by
   rw [←h1];cases k with
   |zero=>rfl
   |succ k=>rw [wV,if_neg (fun h=>by omega)]
  subst hv2;refine go ⟨?_⟩;by_cases h6:v.length=1
  ·rw [h6];refine go ⟨?_⟩;rw [show fE zf v 0=Zb (v.getD 0 za) from rfl];refine go ⟨?_⟩;by_cases h7:(v.getD 0 za).kind=0
   ·rw [if_pos ⟨trivial,h7⟩,beq_iff_eq.2 h7];exact gf
   ·rw [if_neg (fun h=>h7 h.2),beq_eq_false_iff_ne.2 h7];exact gf
  ·rw [if_neg (fun h=>h6 h.1),show ((v.length:Int)==1)=false from beq_eq_false_iff_ne.2 (by omega)];exact gf
theorem zgt:ze Tryz.prog 146:=gfn Tryz.func146
theorem zfx {n k:Nat} {f g g':Nat→List AV} (hk:k<n+1) (h:LeS (g 0) (g' 0)):LeS (xY n f g k) (xY n f g' k):=by
 unfold xY;split
 ·exact .refl _
 ·rename_i h1;have:k - n=0:=by omega
  rw [this];exact h
theorem Jx (v:zc) {k:Nat} (hk:k<v.length+1):LeS (xY v.length (fE zf v) (WH [zdY]) k) (fE zf (v++[za]) k):=by
 rw [WB (n:=v.length) rfl (by simpa using hk)];exact zfx hk KU
theorem zht (t:zc) (ht:t.length≤1000000):APure Tryz.prog 140 [zg t] (.tup [zg (ZN t).1,int (ZN t).2]) []:=by
 refine ent Tryz.func140 Tryz.ntmps140 ⟨?_⟩;have hl:=zR t;have hw:=fun h=>ZE (zG t) h
 unfold ZN;have hlv:zp (rAs t)=(((rAs t).length+1) / 2:Nat):=by unfold zp;rw [W6]
 refine gc ZY (ZW t ht) ⟨?_⟩;generalize rAs t=u at*;refine gc xe (XB u (by omega)) ⟨?_⟩;rw [hlv]
 have hodd:u.length=127↔(u.length+1) / 2=64:=by
  constructor
  ·intro h;omega
  ·intro h;have h':u.length≠0:=by omega
   have:=of_decide_eq_true (hw h')
   omega
 refine go ⟨?_⟩;by_cases h:u.length=127
 ·rw [if_pos h,h];exact gf
 ·rw [if_neg h,show ((((u.length+1) / 2:Nat):Int)==64)=false from beq_eq_false_iff_ne.2 (fun h'=>h (hodd.2 (by omega)))];refine go ⟨?_⟩;refine app (fE zf u) hT rfl rfl rfl rfl (fun k hk=>WB (xs:=[]) rfl hk) ?_;refine ng ⟨?_⟩
  refine lp (fun j:{j:Nat // j≤u.length+1}=>[(5, .row 0 8 0 (u++List.replicate j.1 za).length none),(6,int j.1),(14, .junk)]) (fun j=>[W9 (u++List.replicate j.1 za)]) (fun j=>u.length+1 - j.1) ⟨0,by omega⟩ ?_ (h0:=by
   simp only [lst,Zz,ZB,setn,List.replicate_zero,List.append_nil];exact tel)
  rintro ⟨j,hj⟩
  have e1:IntKind.i64.wrap ((u.length:Int)+1)=((u.length+1:Nat):Int):=by simp only [IntKind.wrap_i64];omega
  have e2:u++List.replicate (j+1) za=(u++List.replicate j za)++[za]:=by rw [List.replicate_succ',List.append_assoc]
  have e3:(u++List.replicate j za).length=u.length+j:=by simp
  generalize hv:u++List.replicate j za=v at*;refine go ⟨?_⟩;rw [e1];by_cases hlt:j<u.length+1
  ·refine go ⟨?_⟩;refine ZT hT rfl rfl rfl (by repeat' (first|exact trivial|exact Nat.le_refl _|(show (v.length+1)*160≤_;omega)|omega|refine And.intro ?_ ?_)) ?_;refine nz ⟨?_⟩;refine zz (Tells.sel [0] rfl rfl) ?_;refine nz ⟨?_⟩;simp only [Option.map];refine zz (Tells.le (H':=[{T:=85,sz:=8,n:=v.length+1,f:=fE zf (v++[za])}]) (.refl _) (.cons (.les (Nat.le_refl _) (fun k hk=>Jx v hk)) .nil)) ?_;refine go ⟨?_⟩;have e4:(u++List.replicate (j+1) za).length=v.length+1:=by rw [e2];simp
   refine je ⟨⟨j+1,hlt⟩,by simp only;omega, ?_⟩;simp only [e2,List.length_append,List.length_cons,List.length_nil,Nat.zero_add];exact tel
  ·obtain rfl:j=u.length+1:=by omega
   rw [hv];exact gf
theorem zhd:ze Tryz.prog 140:=gfn Tryz.func140
theorem Pq (a b:zc) (ha:a.length≤1000000) (hb: ∀n∈b,n.inner.unm.length≤140737488355328):APure Tryz.prog 25 [zg a,zg b] (.lit (.bool (decide (a=b)))) []:=by
 refine ent Tryz.func25 Tryz.ntmps25 ⟨?_⟩;refine go ⟨?_⟩;by_cases hlen:a.length=b.length
 ·rw [show ((a.length:Int) !=(b.length:Int))=false from bne_eq_false_iff_eq.2 (by omega)];refine go ⟨?_⟩;refine lp (fun i:{i:Nat // i≤a.length∧a.take i=b.take i}=>[(5,int i.1)]) (fun i=>[]) (fun i=>a.length - i.1) ⟨0,by simp⟩ ?_
  rintro ⟨i,hi,hn⟩
  refine go ⟨?_⟩;refine zj rfl (fun h=> ?_) (fun h=> ?_)
  ·have hlt:i<a.length:=by omega
   have hlt':i<b.length:=by omega
   have ea:a.getD i za=a[i]:=by simp [List.getD_eq_getElem?_getD,hlt]
   have eb:b.getD i za=b[i]:=by simp [List.getD_eq_getElem?_getD,hlt']
   refine go ⟨?_⟩;rw [show fE zf a i=Zb (a.getD i za) from rfl,show fE zf b i=Zb (b.getD i za) from rfl];refine cal zeM (zc_ (a.getD i za) (b.getD i za) (by rw [eb];exact hb _ (List.getElem_mem _))) ⟨?_⟩;by_cases h2:a.getD i za=b.getD i za
   ·rw [decide_eq_true h2];refine go ⟨?_⟩;refine je ⟨⟨i+1,by omega,by rw [List.take_succ_eq_append_getElem hlt,List.take_succ_eq_append_getElem hlt',hn,←ea,←eb,h2]⟩,by simp only;omega, ?_⟩;exact tel
   ·have h4:a≠b:=fun h=>h2 (by subst h;rfl)
    rw [decide_eq_false h2,decide_eq_false h4];exact gf
  ·obtain rfl:i=a.length:=by omega
   have hab:a=b:=by rw [List.take_length] at hn;rw [hn,hlen,List.take_length]
   rw [decide_eq_true hab];exact gf
 ·rw [show ((a.length:Int) !=(b.length:Int))=true from bne_iff_ne.2 (by omega),decide_eq_false (fun h=>hlen (by rw [h]))];exact gf
theorem Pm:ze Tryz.prog 25:=gfn Tryz.func25
def pO (t:zc):Bool:=t.all zbz && decide (t.length≤300)
theorem zdM (t:zc) (ht:t.length≤9223372036854775807):APure Tryz.prog 28 [zg t] (.lit (.bool (pO t))) []:=by
 refine ent Tryz.func28 Tryz.ntmps28 ⟨?_⟩;unfold pO;refine go ⟨?_⟩;refine lp (fun i:{i:Nat // i≤t.length∧(t.take i).all zbz=true}=>[(3,int i.1)]) (fun i=>[]) (fun i=>t.length - i.1) ⟨0,by simp⟩ ?_
 rintro ⟨i,hi,hn⟩
 refine go ⟨?_⟩;refine zj rfl (fun h=> ?_) (fun h=> ?_)
 ·have hlt:i<t.length:=by omega
  have et:t.getD i za=t[i]:=by simp [List.getD_eq_getElem?_getD,hlt]
  refine go ⟨?_⟩;rw [show fE zf t i=Zb (t.getD i za) from rfl];refine cal zi5 (ziw (t.getD i za)) ⟨?_⟩;cases hf:zbz (t.getD i za)
  ·have:t.all zbz=false:=by
    rw [←Bool.not_eq_true,List.all_eq_true];intro h';have:=h' t[i] (List.getElem_mem _)
    rw [←et,hf] at this;cases this
   rw [this];exact gf
  ·refine go ⟨?_⟩;refine je ⟨⟨i+1,by omega,by rw [List.take_succ_eq_append_getElem hlt,List.all_append,hn,←et];simp only [List.all_cons,List.all_nil,hf,Bool.and_true]⟩,by simp only;omega, ?_⟩;exact tel
 ·obtain rfl:i=t.length:=by omega
  rw [List.take_length] at hn;rw [hn];exact gf
theorem zfP:ze Tryz.prog 28:=gfn Tryz.func28
theorem Gz (l:zc) (hl:l.length≤1000000000000):QF Tryz.prog 262 [.ip [zg l]] (fun i=>[int ((l.length - 1 - i:Nat):Int),yg (l.getD (l.length - 1 - i) za)]) l.length:=by
 refine Qe hT Tryz.func262 rfl rfl fun L=> ?_
 simp only [Tryz.ntmps262,List.length_cons,List.length_nil,Nat.reduceAdd,Nat.reduceSub,List.replicate,List.cons_append,List.nil_append];refine go ⟨?_⟩;have e0:IntKind.i64.wrap ((l.length:Int) - 1)=(l.length:Int) - 1:=by simp only [IntKind.wrap_i64];omega
 rw [e0]
 refine lpy (fun i:{i:Nat // i≤l.length}=>[(3,int ((l.length:Int) - 1 - i.1))]) (fun _=>[]) (fun i=>⟨0,i.1,false,some (L,fun i=>[int ((l.length - 1 - i:Nat):Int),yg (l.getD (l.length - 1 - i) za)],l.length),true⟩) (fun i=>l.length - i.1) ⟨0,Nat.zero_le _⟩ ?_ (h0:=by
  simp only [lst,Zz,ZB,setn];refine Tells.le ?_ .nil;repeat (first|exact .nil|refine .cons (.refl _) ?_|refine .cons (.junk _) ?_|refine .cons (.int (by omega)) ?_))
 rintro ⟨i,hi⟩
 refine go ⟨?_⟩;by_cases hlt:i<l.length
 ·have e1:(l.length:Int) - 1 - i=((l.length - 1 - i:Nat):Int):=by omega
  rw [e1];refine go ⟨?_⟩;rw [show fE zf l (l.length - 1 - i)=Zb (l.getD (l.length - 1 - i) za) from rfl];refine go ⟨?_⟩;refine yld rfl hlt (.cons (.refl _) (.cons (.refl _) .nil)) fun t=> ?_
  cases t
  ·refine go ⟨?_⟩;first|exact (its rfl).1|exact (its rfl).2
  ·refine go ⟨?_⟩;have e2:IntKind.i64.wrap (((l.length - 1 - i:Nat):Int) - 1)=(l.length:Int) - 1 - ((i+1:Nat):Int):=by simp only [IntKind.wrap_i64];omega
   rw [e2];refine je ⟨⟨i+1,hlt⟩,by simp only;omega, ?_⟩;exact tel
 ·obtain rfl:i=l.length:=by omega
  have h0: ¬((l.length:Int) - 1 - l.length)≥0:=by omega
  refine go ⟨?_⟩;first|exact itn fun _=>rfl|exact itr fun _=>rfl
theorem zhT:ze Tryz.prog 262:=gfn Tryz.func262
theorem zj9 (l:zc):APure Tryz.prog 196 [zg l] (.fn (.func 262) [] [.ptr 0 1 0 0]) [{T:=22,sz:=1,n:=1,f:=fun _=>[zg l],box:=true}]:=by
 refine ent Tryz.func196 Tryz.ntmps196 ⟨?_⟩;exact gf
theorem zjH (l:zc):APure Tryz.prog 196 [zg l] (.fn (.func 262) [] [.ip [zg l]]) []:=(zj9 l).data rfl (by repeat' (first|exact trivial|exact Nat.le_refl _|omega|refine And.intro ?_ ?_))
theorem zjF:ze Tryz.prog 196:=gfn Tryz.func196
def Wp (u:zc) (k:Nat):Bool:=(u.drop k).all fun n=>decide (n.kind=0)
theorem v8 {u:zc} {k j:Nat} (h:Wp u k=true) (hk:k≤j) (hj:j<u.length):(u.getD j za).kind=0:=by
 have:=List.all_eq_true.1 h u[j] (List.mem_drop_iff_getElem.2 ⟨j - k,by omega,by congr 1;omega⟩)
 simpa [List.getD_eq_getElem?_getD,hj] using this
theorem uq {u:zc} {i:Nat} (hi:i<u.length) (h:Wp u (u.length - i)=true) (h1:(u.getD (u.length - 1 - i) za).kind=0):Wp u (u.length - (i+1))=true:=by
 have e:u.length - (i+1)=u.length - 1 - i:=by omega
 have e2:u.length - 1 - i+1=u.length - i:=by omega
 have hlt:u.length - 1 - i<u.length:=by omega
 unfold Wp at*;rw [e,List.drop_eq_getElem_cons hlt,e2,List.all_cons,h,Bool.and_true];simpa [List.getD_eq_getElem?_getD,hlt] using h1
theorem zj3 (t:zc) (ht:t.length≤1000000):APure Tryz.prog 133 [zg t] (int (xG t)) []:=by
 refine ent Tryz.func133 Tryz.ntmps133 ⟨?_⟩;have hl:=zR t;have f1:=fun i=>UD (t:=t) (i:=i)
 have f2:=UB (t:=t);refine gc Wu (Wo t ht) ⟨?_⟩;generalize rAs t=u at*;refine gcg zjF (zjH u) ⟨?_⟩;refine XE (we rfl rfl) rfl zhT (Gz u (by omega)) (fun i hi=>rfl) (fun i=>QK (Wp u (u.length - i)=true) [bxI 0]) (fun _=>0) (yQ (by simp [Wp]) _) rfl (fun i hi L=> ?_) ?_
 ·refine wO fun hn=> ?_
  rw [yQ hn];refine mc8 ⟨?_⟩;refine gc Pb (pu (u.getD (u.length - 1 - i) za)) ⟨?_⟩;by_cases h1:(u.getD (u.length - 1 - i) za).kind=0
  ·rw [decide_eq_true h1];refine go ⟨?_⟩;refine rqn _ (Tells.sel [0] rfl rfl) (yQ ?_ _).symm ?_ rfl rfl rfl
   ·exact uq hi hn h1
   ·repeat (first|exact .nil|refine .cons (.refl _) ?_)
  ·rw [decide_eq_false h1];refine go ⟨?_⟩;refine rqr _ (Tells.sel [0] rfl rfl) ?_ rfl ?_
   ·repeat (first|exact .nil|refine .cons (.refl _) ?_)
   ·rw [f1 _ (by omega) h1 (fun j hj hj'=>v8 hn (by omega) hj')];exact gf
 ·refine yj (ZS (wO fun hn=> ?_));rw [Nat.sub_self] at hn;rw [f2 (fun j hj=>v8 hn (by omega) hj)];refine mc8 ⟨?_⟩;exact gf
theorem zjX:ze Tryz.prog 133:=gfn Tryz.func133
end
section
variable {P:Program} {tab:Tab} {X:Nat→Prop} {H H':List zb} {μ μ':Mu} {w w':World} {r:Option Nat} {l R:List Oper} {Q:Exit→St→Prop} {σ:St} {o:Oper}
theorem zg' (hw:zS l σ o=some true) (hd: ∀c,o.op≠ .defer c) {x x2:AV} {H' H2:List zb} {fg fg2:Option Nat}
 (h: ∀(B:Base P) (μ:Mu) (a:Act) (w:World),SRel B μ σ a w→(wY P (execOp a.eval o) B.X μ σ.H w x H' fg∧σ.H.length≤H'.length)∨(wY P (execOp a.eval o) B.X μ σ.H w x2 H2 fg2∧σ.H.length≤H2.length))
 (next:AL P r l Q R ((σ.behind H' fg).put o.dst x)) (next2:AL P r l Q R ((σ.behind H2 fg2).put o.dst x2)):AL P r l Q (o::R) σ:=by
 intro B μ a w hr;unfold wpListIn;rw [if_pos (Y9 hw hr)];refine ⟨fun f _=>QZ r f, ?_⟩;rw [Oper.semAt_eq _ _ _ hd];rcases h B μ a w hr with ⟨⟨n,u,w',μ',h1,h2,h3,h4,h5,h6,h7⟩,hle⟩|⟨⟨n,u,w',μ',h1,h2,h3,h4,h5,h6,h7⟩,hle⟩
 ·rw [h1];have hs:=(hr.step hle h3 h4 h5 h7).put (x:=x) (v:=u) (by cases fg <;>exact h6) o.dst
  rcases h2 with rfl|⟨rfl,rfl⟩
  ·exact next B μ' _ w' hs
  ·exact next B μ' _ w' hs
 ·rw [h1];have hs:=(hr.step hle h3 h4 h5 h7).put (x:=x2) (v:=u) (by cases fg2 <;>exact h6) o.dst
  rcases h2 with rfl|⟨rfl,rfl⟩
  ·exact next2 B μ' _ w' hs
  ·exact next2 B μ' _ w' hs
theorem GR (hT:zI P tab) (hH:HRel μ X H w) {t e ty:TypeId} {id off n m:Nat} {i ei:TyI} (hi:tab t=some i) (hk:i.k= .slice e) (he:tab e=some ei) (hz:0<ei.sz) {ob:zb} (hob:H[id]?=some ob) (hst:ob.st=0) (hsz:ob.sz=ei.sz) (hTe:ob.T=e) (hpu0:ob.pure=true) (hn:off+n≤ob.n) (hoff:off≠0) (hm:m≠0)
 {s x:Value} (hs:RV (OO X H μ) w μ (.row id ei.sz off n none) s) {A':Option Addr} {c':Nat} {olds:List Value} (hsx:s= .slice A' n c') (k3:olds.length=n*ei.sz) (k4: ∀u∈olds,u.oneCell'=true) (k5:n≠0→ ∃a:Addr,A'=some a∧ ∀j u,olds[j]?=some u→w.cell? (a.add j)=some u)
 (k6: ∀k,k<n→(ob.f (off+k)).length=ei.sz) (k7: ∀(k j:Nat) a v,k<n→(ob.f (off+k))[j]?=some a→olds[k*ei.sz+j]?=some v→RV (OO X H μ) w noMu a v)
 {A:Option Addr} {c:Nat} {news:List Value} {g:Nat→List AV} (hx:x= .slice A m c) (hl:news.length=m*ei.sz) (h1: ∀u∈news,u.oneCell'=true)
 (hA:m≠0→ ∃a:Addr,A=some a∧ ∀j u,news[j]?=some u→w.cell? (a.add j)=some u) (hg: ∀k,k<m→(g k).length=ei.sz) (hgr: ∀(k j:Nat) a v,k<m→(g k)[j]?=some a→news[k*ei.sz+j]?=some v→RV (OO X H μ) w noMu a v)
 (h63:off+n+m≤maxLen) (hby:(off+n+m)*ei.by_≤140737488355328) (h47:off+n+m≤140737488355328):
 wY P (do pure (.value (←Builtin.append_ #[t,t] ty #[s,x]))) X μ H w (.row id ei.sz off (n+m) none) ((H.map (z7 id)).set id {ob with n:=off+n+m,f:=xY (off+n) ob.f g,box:=false}) (some id)∨
 wY P (do pure (.value (←Builtin.append_ #[t,t] ty #[s,x]))) X μ H w (.row H.length ei.sz 0 (n+m) none) (H++[{T:=e,sz:=ei.sz,n:=n+m,f:=xY n (fun k=>ob.f (off+k)) g}]) none:=by
 have hu:=(hT t i hi).und
 rw [hk] at hu;simp only [yz] at hu;obtain ⟨fi,hf,hfs,hfb,zv,hzv,hzc⟩:=(hT e ei he).info;have hzs:zv.cells.size=ei.sz:=by rw [←Array.length_toList,hzc,(hT e ei he).zlen]
 obtain ⟨a',rfl,gc⟩:=hA hm;have hsrc:Src P fi.size t (.slice (some a') m c) m news w:=Src.ofSlice w hu a' m c news (by rw [hfs];exact hl) gc h1
 by_cases hroom:n+m≤c'
 ·refine .inl ?_;subst hsx hx;cases hs with
  |rowNil h hc=>exact absurd rfl hoff
  |rowE h hc ho=>omega
  |row h h2 h3 h4 h5=>
   rename_i b mb;have h5:=h5 rfl;obtain ⟨_,cur,hin⟩:=hH.at_ (by rw [zH];exact hob) (by omega) h
   have hcell: ∀j,j<cur.size→(w.cell? ⟨b,j,none⟩).isSome=true:=fun j hj=>by
    simp [World.cell?,hin.blk,hj]
   have hcs:cur.size=mb*ei.sz:=by rw [hin.size,hsz]
   have hfit:(off+n)*ei.sz+news.length≤cur.size:=by
    rw [hl,hcs,←Nat.add_mul];exact Nat.mul_le_mul_right _ (by omega)
   have hs0:RV (OO X H μ) w μ (.row id ei.sz 0 (off+n) none) (.slice (some ⟨b,0*ei.sz,none⟩) (off+n) mb):= .row h (by omega) (by omega) (fun q hq=>by cases hq) (fun _=>by omega)
   have hm0:=uG (P:=P) (ty:=ty) hT hH hi hk he hz hob hst hsz hTe hpu0 hn hs0 (x:= .slice (some a') m c) rfl hl h1 hA hg hgr h63 hby;obtain ⟨nn,u,w1,μ1,g1,g2,g3,g4,g5,g6,g7⟩:=hm0;have hrun0:=run_append_room_src (P:=P) (w:=w) t t ty e fi hu hf b (0*ei.sz) (off+n) mb (.slice (some a') m c) m news hsrc (by omega) (fun j hj=>hcell _ (by rw [hfs];omega)) (fun j hj=>frozen_of_row w b _ cur _ hin.blk);have hrun1:=run_append_room_src (P:=P) (w:=w) t t ty e fi hu hf b (off*ei.sz) n c' (.slice (some a') m c) m news hsrc hroom (fun j hj=>hcell _ (by rw [hfs,←Nat.add_mul];omega)) (fun j hj=>frozen_of_row w b _ cur _ hin.blk);rw [Sem.run_bind,hrun0] at g1;have g1':Result.ok (Next.value (.slice (some ⟨b,0*ei.sz,none⟩) (off+n+m) mb)) (w.setCells b (0*ei.sz+(off+n)*fi.size) news)=Result.ok nn w1:=g1
   injection g1' with e1 e2
   subst e1 e2;have hwe:w.setCells b (0*ei.sz+(off+n)*fi.size) news=w.setCells b (off*ei.sz+n*fi.size) news:=by rw [hfs,Nat.add_mul];congr 1;omega
   have hu':u= .slice (some ⟨b,0*ei.sz,none⟩) (off+n+m) mb:=by
    rcases g2 with g2|⟨g2,_⟩
    ·injection g2 with g2;exact g2.symm
    ·cases g2
   subst hu';generalize hN:off+n+m=N at g6;cases g6 with
   |rowE h hc ho=>exact (ho rfl).elim
   |row q1 q2 q3 q4 q5=>
    subst hN;have q5:=q5 rfl;exact ⟨_, .slice (some ⟨b,off*ei.sz,none⟩) (n+m) c',_,μ1,by rw [Sem.run_bind,hrun1,←hwe];rfl, .inl rfl,g3,g4,g5, .row q1 hroom (by omega) (fun q hq=>by cases hq) (fun _=>by omega),g7⟩
 ·refine .inr ?_;subst hsx hx
  have hold:(Builtin.firstCells fi.size n (.slice A' n c')).run P w.drew= .ok olds.toArray w.drew:=by
   by_cases hn0:n=0
   ·subst hn0;have:olds=[]:=List.eq_nil_of_length_eq_zero (by simpa using k3)
    subst this;rw [hfs];cases A' with
    |none=>exact run_firstCells_none w.drew ei.sz 0 c' 0
    |some a=>exact run_firstCells_some w.drew ei.sz 0 a 0 c' [] (by simp) (by simp)
   ·obtain ⟨a,rfl,hc⟩:=k5 hn0;exact (Src.ofSlice (P:=P) w hu a n c' olds (by rw [hfs];exact k3) hc k4).cellsD
  have hrun:=run_append_grow_src (P:=P) w t t ty e fi zv hu hf hzv A' n c' olds hold _ m news hsrc (by omega) (by unfold maxLen at h63;omega) (by rw [hfb];exact growslice_fits (by omega) (Nat.le_trans (Nat.mul_le_mul_right _ (by omega)) hby));have hge:=grownCap_ge w (n+m) c' e;obtain ⟨c1,c2,c3⟩:=KJ (cur:=(olds++news).toArray++Builtin.zeroCells zv.cells (grownCap w (n+m) c' e - (n+m))) (rest:=(Builtin.zeroCells zv.cells (grownCap w (n+m) c' e - (n+m))).toList) (by simp) k3 k4 k6 k7 hl h1 hg hgr;refine Je hH hz (cap:=grownCap w (n+m) c' e) (by rw [Sem.run_bind,hrun];rfl) hge (grownCap_le_maxLen w _ _ _ (by omega)) ?_ c1 c2 c3;simp only [Array.size_append,List.size_toArray,List.length_append,size_zeroCells,hzs,k3,hl,←Nat.add_mul];congr 1;omega
def HV (tab:Tab) (H:List zb) (t:TypeId) (s x:AV):Option (Prop×(AV×List zb×Nat)×AV×zb):=
 match tab t with
 |some i=>match i.k with
  | .slice e=>match tab e with
    |some ei=>match JV H ei.sz x with
     |some (q,m,g)=>match s with
      | .row id sz off n none=>match nth H id with
        |some ob=>match ob.st,Nat.beq sz ei.sz,Nat.beq ob.sz ei.sz,Nat.beq ob.T e,ob.pure,Nat.blt 0 ei.sz,Nat.blt 0 off,Nat.blt 0 m with
         |0,true,true,true,true,true,true,true=>some (q∧off+n≤ob.n∧(off+n+m)*ei.by_≤140737488355328∧off+n+m≤140737488355328,
          (.row id sz off (n+m) none,setn (H.map (z7 id)) id {ob with n:=off+n+m,f:=xY (off+n) ob.f g,box:=false},id),
          .row H.length sz 0 (n+m) none,{T:=e,sz:=sz,n:=n+m,f:=xY n (fun k=>ob.f (off+k)) g})
         |_,_,_,_,_,_,_,_=>none
        |none=>none
      |_=>none
     |none=>none
    |none=>none
  |_=>none
 |none=>none
theorem zbp (hT:zI P tab) (hw:zS l σ o=some true) {t:TypeId} {sx xx:Operand} (ho:o.op= .call {callee:= .builtin .append,args:= #[sx,xx],argTypes:= #[t,t]}) {q:Prop} {y y2:AV} {H':List zb} {id:Nat} {ob2:zb}
 (h:HV tab σ.H t (σ.ev sx) (σ.ev xx)=some (q,(y,H',id),y2,ob2)) (hq:q) (next:AL P r l Q R ((σ.behind H' (some id)).put o.dst y)) (next2:AL P r l Q R (St.put ⟨σ.s,σ.H++[ob2],σ.fg,σ.nb⟩ o.dst y2)):AL P r l Q (o::R) σ:=by
 refine zg' (H2:=σ.H++[ob2]) (fg2:=none) hw (fun c hc=>by rw [ho] at hc;cases hc) (fun B μ a w hr=> ?_) next next2
 have hex:execOp a.eval o=(do pure (.value (←Builtin.append_ #[t,t] o.type #[a.eval sx,a.eval xx])):Sem Next):=by
  unfold execOp;rw [ho];simp [resolve,invoke,builtin]
 rw [hex];have hs:=hr.ev sx;have hx:=hr.ev xx;unfold HV at h;split at h
 ·rename_i i hi;split at h
  ·rename_i e hk;split at h
   ·rename_i ei he;split at h
    ·rename_i q' m g hsrc;split at h
     ·rename_i id' sz off n hse;split at h
      ·rename_i ob hob;split at h
       ·rename_i hst hb1 hb2 hb3 hpu hz hof hm;injection h with h;injection h with e0 h;injection h with e1 e2;injection e1 with e1 e3;injection e3 with e3 e4;injection e2 with e5 e6
        subst e0 e1 e3 e4 e5 e6;obtain ⟨q1,q2,q3,q4⟩:=hq;obtain rfl:=ZD hb1;rw [Nat.blt_eq] at hz hof hm;rw [hse] at hs;obtain ⟨A,c,news,g1,g2,g3,g4,g5,g6⟩:=um hr.H hsrc q1 hx
        have hsr:JV σ.H ei.sz (.row id' ei.sz off n none)=some (off+n≤ob.n,n,fun k=>ob.f (off+k)):=by
         have hs2:Nat.blt ob.st 2=true:=by rw [hst];rfl
         obtain ⟨off,rfl⟩: ∃o',off=o'+1:=⟨off - 1,by omega⟩;simp only [JV,hob,hb1,hb2,hs2,hpu]
        obtain ⟨A',c',olds,k1,k2,k3,k4,k5,k6⟩:=um hr.H hsr q2 hs;have hob':=hob
        rw [zH] at hob;rcases GR (P:=P) (ty:=o.type) hT hr.H hi hk he hz hob hst (ZD hb2) (ZD hb3) hpu q2 (by omega) (by omega) hs k1 k2 k3 k4 k5 k6 g1 g2 g3 g4 g5 g6 (by unfold maxLen;omega) q3 q4 with hm|hm
        ·rw [Zx];exact .inl ⟨hm,by simp⟩
        ·exact .inr ⟨hm,by simp⟩
       ·cases h
      ·cases h
     ·cases h
    ·cases h
   ·cases h
  ·cases h
 ·cases h
end
section
attribute [local irreducible] zA AO zt zo ADr AL AW zF zh zU Tells APure ACall
theorem Ub {x w:Int} (hI:iIs x w=true):yE x w=x::zy x w:=by
 have hp:=Z_ hI;unfold zy yE;rw [if_pos hI,Xc (by omega)];rfl
theorem zct (x w:Int) (hI:iIs x w=true):APure Tryz.prog 106 [int x,int w] (.row 0 1 1 (zy x w).length none) [yC (yE x w)]:=by
 refine ent Tryz.func106 Tryz.ntmps106 ⟨?_⟩;refine gc zei (zcP x w) ⟨?_⟩;refine pQ hT rfl rfl rfl rfl Tryz.func121 rfl rfl ?_;simp only [Tryz.ntmps121,List.length_cons,List.length_nil,List.length_append,Nat.reduceAdd,Nat.reduceSub,List.replicate,List.cons_append,List.nil_append,List.append_nil,List.map_cons,List.map_nil,St.ev,nth,Option.getD];refine go ⟨?_⟩;refine pQ hT rfl rfl rfl rfl Tryz.func180 rfl rfl ?_;simp only [Tryz.ntmps180,List.length_cons,List.length_nil,List.length_append,Nat.reduceAdd,Nat.reduceSub,List.replicate,List.cons_append,List.nil_append,List.append_nil,List.map_cons,List.map_nil,St.ev,nth,Option.getD];refine go ⟨?_⟩;refine zr (Tells.nilCell 2 3 1 rfl rfl rfl rfl) ?_;refine zr (Tells.le (H':=[bxI x,bxI w,{T:=36,sz:=1,n:=1,f:=fun _=>[.row 3 1 0 0 none],pure:=false,box:=true},yC []]) (.refl _) (.cons (.refl _) (.cons (.refl _) (.cons (.refl _) (.cons (.of (Nat.le_refl _) (fun h=>h) fun k hk=>by simp at hk) .nil))))) ?_;refine X7 (Wq [2,3] [0,1] rfl rfl (by decide) rfl rfl) rfl rfl P2 (jw x w) (fun i hi=>rfl) (asH (yE x w)) rfl (fun i hi L=> ?_) ?_
 ·have hb:=XY x w;generalize hu:yE x w=u at*;have hs:=zT hi;have hl:(u.take i).length=i:=List.length_take_of_le (by omega)
  refine mc8 ⟨?_⟩;refine go ⟨?_⟩;refine app (yP (u.take (i+1))) hT rfl rfl rfl rfl (fun k hk=> ?_) ?_
  ·rw [hs];exact ZZ (e:=wA) hl.symm rfl hk
  refine ng ⟨?_⟩;refine qL _ ((Tells.sel [0,1] rfl rfl).trans (Tells.le (H':=asH u (i+1)) (.refl _) ?_)) rfl ?_ rfl
  ·exact .cons (.of (Nat.le_refl _) (fun h=>h) fun _ _=>rfl) (.cons (.of (Nat.le_refl _) (fun h=>h) fun _ _=>rfl) .nil)
  ·repeat (first|exact .nil|refine .cons (.refl _) ?_)
 ·have hd:=Ub hI;have hdl:(yE x w).length=(zy x w).length+1:=by rw [hd];rfl
  have hb:=XY x w;generalize hu:yE x w=u at*;generalize zy x w=d at*;refine mc8 ⟨?_⟩;refine go ⟨?_⟩;refine rti rfl trivial [.row 0 1 0 u.length none] [yC u] ?_ (Tells.trans (Tells.sel [1] rfl rfl) ?_)
  ·refine ng ⟨?_⟩;refine rti rfl trivial [.row 0 1 0 u.length none] [yC u] ?_ ?_
   ·refine ng ⟨?_⟩;have e1:min 1 (u.length:Int)=1:=by omega
    rw [e1];refine Z9 rfl trivial [.row 0 1 1 d.length none] [yC u] (Tells.le (.cons (.eq ?_) .nil) (.refl _)) ⟨rfl,rfl⟩;have e2:zO (some 1) none u.length=d.length:=by simp [zO,hdl]
    rw [e2];rfl
   ·exact Tells.refl _
  ·refine Tells.le (.cons (.refl _) .nil) (.cons (.of (Nat.le_refl _) (fun h=>h) fun k hk=> ?_) .nil);rw [List.take_length]
theorem ze9 (u:zc) (hu:u.length≤1000000):ACall Tryz.prog 78 [.row 0 8 0 u.length none] [W9 u] fun r H' fg=>r=int (zp u)∧H'=[W9 u]∧fg=[]:=
 (wz u hu).lit_at (used:=[0]) rfl (by repeat' (first|exact trivial|exact Nat.le_of_eq (Nat.zero_add _)|refine And.intro ?_ ?_))
theorem wF (q:zc) (z:Nat) {k:Nat} (hk:k<q.length):LeS (upd (fE zf q) z (zdY++List.drop 8 (fE zf q z)) k) (fE zf (q.set z za) k):=by
 unfold upd;by_cases h:k=z
 ·subst h;rw [Nat.beq_refl]
  have e1:fE zf (q.set k za) k=Zb za:=by
   show zf.enc ((q.set k za).getD k zf.z)=_
   have:(q.set k za).getD k zf.z=za:=by simp [List.getD_eq_getElem?_getD,hk]
   rw [this];rfl
  rw [e1,show fE zf q k=Zb (q.getD k za) from rfl];exact KU
 ·have hb:Nat.beq k z=false:=by cases hb:Nat.beq k z with|false=>rfl|true=>exact (h (Nat.eq_of_beq_eq_true hb)).elim
  rw [hb]
  have e1:fE zf (q.set z za) k=fE zf q k:=by
   show zf.enc ((q.set z za).getD k zf.z)=zf.enc (q.getD k zf.z)
   congr 1
   simp [List.getD_eq_getElem?_getD,List.getElem?_set_ne (Ne.symm h)]
  rw [e1];exact .refl _
theorem zgP (a:Int) (d:List Int):AV.Le (.sl 1 (d.length+1) false fun j=>xY (1+d.length) (yP (a::d)) (WH [[.lit (.int .i64 a)]]) (1+j)) (Zn (d++[a])):=by
 refine .sl (by simp) (fun h=>h) fun k hk=> ?_
 by_cases h:k<d.length
 ·rw [xU (by omega)];simp [yP,Nat.add_comm 1 k,List.getElem?_append_left h]
 ·obtain rfl:k=d.length:=by omega
  rw [Ym (by omega)];simp [yP,Nat.add_comm,WH,nth,gH]
theorem zfX (a:Int) (d:List Int):AV.Le (.sl 1 (d.length+1) false (xY d.length (fun k=>yP (a::d) (1+k)) (WH [[.lit (.int .i64 a)]]))) (Zn (d++[a])):=by
 refine .sl (by simp) (fun h=>h) fun k hk=> ?_
 by_cases h:k<d.length
 ·rw [xU (by omega)];simp [yP,Nat.add_comm 1 k,List.getElem?_append_left h]
 ·obtain rfl:k=d.length:=by omega
  rw [Ym (by omega)];simp [yP,WH,nth,gH]
theorem ms10 {G A:Prop} (k:Hold G) (h:Hold G→A:=by
 intro k;refine go ⟨?_⟩;refine je ⟨⟨j+1,hlt⟩,by simp only;omega, ?_⟩;exact k.1):A:=h k
theorem HA (t:zc) (i:Int) (ht:t.length≤1000000):APure Tryz.prog 109 [zg t,int i] (.tup [zg (Zw t i).1,int (Zw t i).2]) []:=by
 refine ent Tryz.func109 Tryz.ntmps109 ⟨?_⟩;have hl:=zR t;have hls:zp (rAs t)=zp t:=by unfold zp;rw [W6]
 have hsn:=zG t;have hlv:zp t=(((rAs t).length+1) / 2:Nat):=rfl
 unfold Zw;refine gc Wu (Wo t ht) ⟨?_⟩;generalize rAs t=u at*;refine gcg VQ (jN u (by omega)) ⟨?_⟩;by_cases h0:i<0
 ·rw [if_pos (.inl h0)];exact gf
 refine go ⟨?_⟩;refine zV rfl rfl rfl wG (ze9 u (by omega)) ?_;refine nz ⟨?_⟩;rw [hls];by_cases h1:i≥zp t
 ·rw [if_pos (.inr h1)];exact gf
 rw [if_neg (by omega)];obtain ⟨n,rfl⟩: ∃n:Nat,i=n:=⟨i.toNat,by omega⟩;have hn:n<(u.length+1) / 2:=by omega
 have hw:=ZE hsn (by omega);have hodd:=of_decide_eq_true hw
 have hI:iIs (2*(n:Int)) u.length=true:=by
  unfold iIs;rw [hw,decide_eq_true (by omega),decide_eq_true (by omega)];rfl
 refine go ⟨?_⟩;have e1:IntKind.i64.wrap (2*(n:Int))=2*(n:Int):=by simp only [IntKind.wrap_i64];omega
 rw [e1];refine cal QE (zct (2*(n:Int)) u.length hI) ⟨?_⟩;have hu:=Ub hI;have hb:=XY (2*(n:Int)) u.length;rw [hu] at hb ⊢;have hdi: ∀y∈zy (2*(n:Int)) u.length,iIs y u.length=true:=fun y hy=>YP hy
 generalize zy (2*(n:Int)) u.length=d at*;simp only [List.length_cons] at hb;refine go ⟨?_⟩;rw [e1];refine zbp hT rfl rfl rfl (by repeat' (first|exact trivial|exact Nat.le_refl _|(simp;done)|(simp;omega)|refine And.intro ?_ ?_)) ?_ ?_
 ·refine nz ⟨?_⟩;refine zz (Tells.thaw (t:=27) rfl rfl (by repeat' (first|exact trivial|exact Nat.le_refl _|(simp;done)|(simp;omega)|refine And.intro ?_ ?_))) ?_;refine nz ⟨?_⟩;refine zz (Tells.sel [0] rfl rfl) ?_;refine nz ⟨?_⟩;refine zz (Tells.slot 27 (Zn (d++[2*(n:Int)])) rfl (zgP _ _)) ?_;refine nz ⟨?_⟩;have hx: ∀y∈d++[2*(n:Int)],iIs y u.length=true:=fun y hy=>(List.mem_append.1 hy).elim (hdi y) fun h=>by rw [List.mem_singleton.1 h];exact hI
  have hxl:(d++[2*(n:Int)]).length≤8:=by simp;omega
  generalize d++[2*(n:Int)]=xs at*;refine go ⟨?_⟩
  refine lp (fun j:{j:Nat // j≤xs.length}=>[(29,int j.1),(23, .junk),(26, .junk)]) (fun j=>[{T:=85,sz:=8,n:=u.length,f:=fE zf (Za (xs.take j.1) u)}]) (fun j=>xs.length - j.1) ⟨0,Nat.zero_le _⟩ ?_ (h0:=by
   simp only [lst,Zz,ZB,setn,List.take_zero,wy];exact tel)
  rintro ⟨j,hj⟩
  refine go ⟨?_⟩;refine zj rfl (fun h=> ?_) (fun h=> ?_)
  ·have hlt:j<xs.length:=by omega
   have hxj:=hx _ (List.getElem_mem hlt);have hg:xs.getD j 0=xs[j]:=by simp [List.getD_eq_getElem?_getD,hlt]
   have htk:=zT hlt;have hp:=Z_ hxj;rw [←hg] at hp hxj;refine go ⟨?_⟩;generalize hz:xs.getD j 0=z at*;obtain ⟨zn,rfl⟩: ∃zn:Nat,z=zn:=⟨z.toNat,by omega⟩;have hbs:=xN (xs.take j) u zn;rw [←htk] at hbs;have hbl:=z_ (xs.take j) u;refine ms10 ⟨?_⟩;refine (Tells.le (H':=[{T:=85,sz:=8,n:=u.length,f:=fE zf (Za (xs.take (j+1)) u)}]) (.refl _) (.cons (.les (Nat.le_refl _) fun k hk=> ?_) .nil)).trans ?_
   ·rw [hbs];exact wF _ zn (by rw [hbl];exact hk)
   ·exact tel
  ·obtain rfl:j=xs.length:=by omega
   rw [List.take_length];have hbl:=z_ xs u;rw [←hbl];generalize Za xs u=v at*;exact gf
 ·refine nz ⟨?_⟩;refine zz (Tells.thaw (t:=27) rfl rfl (by repeat' (first|exact trivial|exact Nat.le_refl _|(simp;done)|(simp;omega)|refine And.intro ?_ ?_))) ?_;refine nz ⟨?_⟩;refine zz (Tells.sel [0] rfl rfl) ?_;refine nz ⟨?_⟩;refine zz (Tells.slot 27 (Zn (d++[2*(n:Int)])) rfl (zfX _ _)) ?_;refine nz ⟨?_⟩;have hx: ∀y∈d++[2*(n:Int)],iIs y u.length=true:=fun y hy=>(List.mem_append.1 hy).elim (hdi y) fun h=>by rw [List.mem_singleton.1 h];exact hI
  have hxl:(d++[2*(n:Int)]).length≤8:=by simp;omega
  generalize d++[2*(n:Int)]=xs at*;refine go ⟨?_⟩
  refine lp (fun j:{j:Nat // j≤xs.length}=>[(29,int j.1),(23, .junk),(26, .junk)]) (fun j=>[{T:=85,sz:=8,n:=u.length,f:=fE zf (Za (xs.take j.1) u)}]) (fun j=>xs.length - j.1) ⟨0,Nat.zero_le _⟩ ?_ (h0:=by
   simp only [lst,Zz,ZB,setn,List.take_zero,wy];exact tel)
  rintro ⟨j,hj⟩
  refine go ⟨?_⟩;refine zj rfl (fun h=> ?_) (fun h=> ?_)
  ·have hlt:j<xs.length:=by omega
   have hxj:=hx _ (List.getElem_mem hlt);have hg:xs.getD j 0=xs[j]:=by simp [List.getD_eq_getElem?_getD,hlt]
   have htk:=zT hlt;have hp:=Z_ hxj;rw [←hg] at hp hxj;refine go ⟨?_⟩;generalize hz:xs.getD j 0=z at*;obtain ⟨zn,rfl⟩: ∃zn:Nat,z=zn:=⟨z.toNat,by omega⟩;have hbs:=xN (xs.take j) u zn;rw [←htk] at hbs;have hbl:=z_ (xs.take j) u;refine ms10 ⟨?_⟩;refine (Tells.le (H':=[{T:=85,sz:=8,n:=u.length,f:=fE zf (Za (xs.take (j+1)) u)}]) (.refl _) (.cons (.les (Nat.le_refl _) fun k hk=> ?_) .nil)).trans ?_
   ·rw [hbs];exact wF _ zn (by rw [hbl];exact hk)
   ·exact tel
  ·obtain rfl:j=xs.length:=by omega
   rw [List.take_length];have hbl:=z_ xs u;rw [←hbl];generalize Za xs u=v at*;exact gf
theorem U3:ze Tryz.prog 109:=gfn Tryz.func109
theorem tk (t:zc) (i:Int) (ht:t.length≤1000000):APure Tryz.prog 145 [zg t,int i] (.tup [zg (Zw t i).1,int (Zw t i).2]) []:=by
 refine ent Tryz.func145 Tryz.ntmps145 ⟨?_⟩;have hl:=zR t;have hsn:=zG t;have hlv:zp t=(((rAs t).length+1) / 2:Nat):=rfl
 unfold Zw;refine gc ZY (ZW t ht) ⟨?_⟩;generalize rAs t=u at*;refine go ⟨?_⟩;refine app (fE zf u) hT rfl rfl rfl rfl (fun k hk=>WB (xs:=[]) rfl hk) ?_;refine ng ⟨?_⟩;by_cases h0:i<0
 ·rw [if_pos (.inl h0)];exact gf
 refine gc xe (XB t ht) ⟨?_⟩;by_cases h1:i≥zp t
 ·rw [if_pos (.inr h1)];exact gf
 rw [if_neg (by omega)];obtain ⟨n,rfl⟩: ∃n:Nat,i=n:=⟨i.toNat,by omega⟩;have hn:n<(u.length+1) / 2:=by omega
 have hw:=ZE hsn (by omega);have hodd:=of_decide_eq_true hw
 have hI:iIs (2*(n:Int)) u.length=true:=by
  unfold iIs;rw [hw,decide_eq_true (by omega),decide_eq_true (by omega)];rfl
 have e1:IntKind.i64.wrap (2*(n:Int))=((2*n:Nat):Int):=by simp only [IntKind.wrap_i64];omega
 have e2:2*(n:Int)=((2*n:Nat):Int):=by omega
 have hb1:=xN [] u (2*n);rw [wy,List.nil_append] at hb1;have hdi: ∀y∈zy (2*(n:Int)) u.length,iIs y u.length=true:=fun y hy=>YP hy
 have hdl:=YC (2*(n:Int)) u.length;rw [e2] at hdi hdl ⊢;refine go ⟨?_⟩;rw [e1];refine go ⟨?_⟩;refine zz (Tells.le (H':=[{T:=85,sz:=8,n:=u.length,f:=fE zf (Za [((2*n:Nat):Int)] u)}]) (.refl _) (.cons (.les (Nat.le_refl _) fun k hk=> ?_) .nil)) ?_
 ·rw [hb1];exact wF _ (2*n) hk
 refine cal Wt (Ws ((2*n:Nat):Int) u.length) ⟨?_⟩;generalize zy ((2*n:Nat):Int) u.length=d at*;refine go ⟨?_⟩;refine lp (fun j:{j:Nat // j≤d.length}=>[(8,int j.1)]) (fun j=>[{T:=85,sz:=8,n:=u.length,f:=fE zf (Za (((2*n:Nat):Int)::d.take j.1) u)}]) (fun j=>d.length - j.1) ⟨0,Nat.zero_le _⟩ ?_
 rintro ⟨j,hj⟩
 refine go ⟨?_⟩;refine zj rfl (fun h=> ?_) (fun h=> ?_)
 ·have hlt:j<d.length:=by omega
  have hxj:=hdi _ (List.getElem_mem hlt);have hg:d.getD j 0=d[j]:=by simp [List.getD_eq_getElem?_getD,hlt]
  have htk:=zT hlt;have hp:=Z_ hxj;rw [←hg] at hp hxj;refine go ⟨?_⟩;generalize hz:d.getD j 0=z at*;obtain ⟨zn,rfl⟩: ∃zn:Nat,z=zn:=⟨z.toNat,by omega⟩;have hbs:=xN (((2*n:Nat):Int)::d.take j) u zn;rw [List.cons_append,←htk] at hbs;have hbl:=z_ (((2*n:Nat):Int)::d.take j) u;refine ms10 ⟨?_⟩;refine (Tells.le (H':=[{T:=85,sz:=8,n:=u.length,f:=fE zf (Za (((2*n:Nat):Int)::d.take (j+1)) u)}]) (.refl _) (.cons (.les (Nat.le_refl _) fun k hk=> ?_) .nil)).trans ?_
  ·rw [hbs];exact wF _ zn (by rw [hbl];exact hk)
  ·exact tel
 ·obtain rfl:j=d.length:=by omega
  rw [List.take_length];have hbm:Za (((2*n:Nat):Int)::d) u=Za (d++[((2*n:Nat):Int)]) u:=Te u fun x=>by simp [or_comm]
  rw [hbm];have hbl:=z_ (d++[((2*n:Nat):Int)]) u;rw [←hbl];generalize Za (d++[((2*n:Nat):Int)]) u=v at*;exact gf
theorem tU:ze Tryz.prog 145:=gfn Tryz.func145
theorem zhn: ∀(i:Fin 7) (n:Fin 127),n.val<2^(i.val+1) - 1→n.val % 2=1→
 iIs (ZP (n.val:Int) ((2^(i.val+1) - 1:Nat):Int)) ((2^(i.val+1) - 1:Nat):Int)=true∧iIs (Zp (n.val:Int) ((2^(i.val+1) - 1:Nat):Int)) ((2^(i.val+1) - 1:Nat):Int)=true∧
 zZ (ZP (n.val:Int) ((2^(i.val+1) - 1:Nat):Int))+1=zZ (n.val:Int)∧zZ (Zp (n.val:Int) ((2^(i.val+1) - 1:Nat):Int))+1=zZ (n.val:Int):=by decide+kernel
theorem zhR: ∀(i:Fin 7) (n:Fin 127),n.val<2^(i.val+1) - 1→n.val % 2=0→
 ZP (n.val:Int) ((2^(i.val+1) - 1:Nat):Int)= -1∧Zp (n.val:Int) ((2^(i.val+1) - 1:Nat):Int)= -1∧zZ (n.val:Int)=0:=by decide+kernel
theorem XQ {x w:Int} (h:iIs x w=true) (hx:x % 2=1):iIs (ZP x w) w=true∧iIs (Zp x w) w=true∧zZ (ZP x w)+1=zZ x∧zZ (Zp x w)+1=zZ x:=by
 obtain ⟨i,n,rfl,rfl,h'⟩:=WF h;exact zhn i n h' (by omega)
theorem PE {x w:Int} (h:iIs x w=true) (hx:x % 2=0):ZP x w= -1∧Zp x w= -1∧zZ x=0:=by
 obtain ⟨i,n,rfl,rfl,h'⟩:=WF h;exact zhR i n h' (by omega)
theorem Pv (t:zc) (k:Nat):rsv t k (-1)=[]:=by
 cases k with
 |zero=>rw [rsv,if_pos (.inl (by decide))]
 |succ k=>rw [rsv,if_pos (.inl (by decide))]
def own (t:zc) (x:Int):List Int:=x::(t.getD x.toNat za).inner.unm.map (2* ·)
theorem QW (t:zc) (k:Nat) (x:Int):rsv t (k+1) x=if x<0∨x≥t.length then [] else if (t.getD x.toNat za).kind≠0 then own t x else rsv t k (ZP x t.length)++rsv t k (Zp x t.length):=by rw [rsv];rfl
theorem kW (t:zc) (x:Int):rsv t 0 x=if x<0∨x≥t.length then [] else if (t.getD x.toNat za).kind≠0 then own t x else []:=by rw [rsv];rfl
theorem yp {n:Zt} (h:zC n=0):n.inner.unm.length≤64∧ ∀i∈n.inner.unm,0≤i∧i≤63:=by
 by_cases h2:n.kind=2
 ·have hp:y9 n.inner=0:=by
   unfold zC at h;split at h
   ·simp at h
   ·split at h
    ·simp at h
    ·simpa [h2] using h
  unfold y9 at hp;split at hp
  ·simp at hp
  ·split at hp
   ·simp at hp
   ·split at hp
    ·simp at hp
    ·rename_i h3 h4;refine ⟨by omega,fun i hi=> ?_⟩;have h5:n.inner.unm.any (fun i=>decide (i<0∨i>63))=false:=by simpa only [Bool.not_eq_true] using h4
     have:=List.any_eq_false.1 h5 i hi
     simp only [decide_eq_true_eq] at this;omega
 ·have:n.inner=yd:=by
   unfold zC at h;split at h
   ·simp at h
   ·split at h
    ·simp at h
    ·rename_i h3;by_cases h4:n.inner=yd
     ·exact h4
     ·exact absurd (.inr ⟨h2,h4⟩) h3
  rw [this];simp
theorem Yx {t:zc} (h:zW t=true) {j:Nat} (hj:j<t.length):zC (t.getD j za)=0:=by
 have:=((yB t).1 h).1 j hj
 unfold vW at this;rw [Bool.and_eq_true] at this;exact of_decide_eq_true this.2
theorem QU:ze Tryz.prog 151:=gfn Tryz.func151
abbrev dbl (l:List Int):List Int:=l.map (2* ·)
theorem zd_ {l:List Int} {i:Nat} (h:i<l.length):dbl (l.take (i+1))=dbl (l.take i)++[2*l.getD i 0]:=by
 unfold dbl;rw [zT h,List.map_append];rfl
theorem ms7 {G A:Prop} (k:Hold G) (h:Hold G→A:=by
 intro k;refine go ⟨?_⟩;rw [show fE zf t n=Zb (t.getD n za) from rfl];refine go ⟨?_⟩;exact k.1):A:=h k
theorem J8 (t:zc) (hs:zW t=true) (n:Nat) (hI:iIs n t.length=true) (L R:List Int) (hL:L.length≤1000000) (hR:R.length≤1000000)
 (kids:n % 2=1→APure Tryz.prog 151 [zg t,int (ZP n t.length)] (Zn L) []∧APure Tryz.prog 151 [zg t,int (Zp n t.length)] (Zn R) []):
 APure Tryz.prog 151 [zg t,int n] (Zn (if (t.getD n za).kind≠0 then own t n else if n % 2=0 then [] else L++R)) []:=by
 have hp:=Z_ hI;have hn:n<t.length:=by omega
 have hc:=Yx hs hn;obtain ⟨hu1,hu2⟩:=yp hc;have ho:own t n=(n:Int)::dbl (t.getD n za).inner.unm:=rfl
 rw [ho];refine ent Tryz.func151 Tryz.ntmps151 ⟨?_⟩;refine ms7 ⟨?_⟩;by_cases h1:(t.getD n za).kind=0
 ·rw [if_neg (by simpa using h1),bne_eq_false_iff_eq.2 h1];refine go ⟨?_⟩;rw [WZ];by_cases h2:n % 2=0
  ·rw [if_pos h2,h2];exact gf
  ·obtain ⟨k1,k2⟩:=kids (by omega);rw [if_neg h2,show n % 2=1 by omega];refine gcg jE (VX n t.length) ⟨?_⟩;refine cg QU k1 ⟨?_⟩;refine app (yP L) hT rfl rfl rfl rfl (fun k hk=>ja (xs:=[]) rfl hk) ?_;refine ng ⟨?_⟩;refine cg jU (VP n t.length) ⟨?_⟩;refine cg QU k2 ⟨?_⟩;refine app (yP (L++R)) hT rfl rfl rfl rfl (fun k hk=>ja rfl hk) ?_;refine ng ⟨?_⟩;exact fin
 ·rw [if_pos (by simpa using h1),bne_iff_ne.2 h1];refine go ⟨?_⟩;generalize hm:(t.getD n za).inner.unm=m at*
  refine lp (fun i:{i:Nat // i≤m.length}=>[(5, .row 0 1 0 (1+i.1) none),(6,int i.1),(15, .junk)]) (fun i=>[{T:=3,sz:=1,n:=1+i.1,f:=yP ((n:Int)::dbl (m.take i.1))}]) (fun i=>m.length - i.1) ⟨0,Nat.zero_le _⟩ ?_ (h0:=by
   simp only [lst,Zz,ZB,setn];refine Tells.le ?_ ?_
   ·exact les
   ·exact .cons (.of (Nat.le_refl _) (fun h=>h) fun k hk=>by
     obtain rfl:k=0:=by omega
     rfl) .nil)
  rintro ⟨i,hi⟩
  have hz:(t.getD n zf.z).inner.unm=m:=hm
  refine ms7 ⟨?_⟩;rw [hz];refine zj rfl (fun h=> ?_) (fun h=> ?_)
  ·have hlt:i<m.length:=by omega
   have hg:m.getD i 0=m[i]:=by simp [List.getD_eq_getElem?_getD,hlt]
   have hd:=zd_ hlt;have hu3:=hu2 _ (List.getElem_mem hlt);rw [←hg] at hu3;have e1:IntKind.i64.wrap (2*m.getD i 0)=2*m.getD i 0:=by simp only [IntKind.wrap_i64];omega
   refine ms7 ⟨?_⟩;rw [hz];refine go ⟨?_⟩;rw [e1];have hl1:(dbl (m.take i)).length=i:=by simp;omega
   refine app (yP ((n:Int)::dbl (m.take (i+1)))) hT rfl rfl rfl rfl (fun j hj=> ?_) ?_
   ·rw [hd,←List.cons_append];exact ZZ (e:=wA) (by simp [hl1];omega) rfl hj
   refine ng ⟨?_⟩;have e2:1+(i+1)=1+i+1:=by omega
   refine je ⟨⟨i+1,hlt⟩,by simp only;omega, ?_⟩;simp only [e2];exact tel
  ·obtain rfl:i=m.length:=by omega
   rw [List.take_length];have hl1:((n:Int)::dbl m).length=1+m.length:=by simp [Nat.add_comm]
   generalize ((n:Int)::dbl m)=v at*;rw [←hl1];exact gf
theorem vU {t:zc} (hs:zW t=true): ∀(k:Nat) (x:Int),(rsv t k x).length≤65*2^k
 |0,x=>by
  rw [kW];split
  ·simp
  ·split
   ·have:=(yp (Yx hs (j:=x.toNat) (by omega))).1
    simp only [own,List.length_cons,List.length_map];omega
   ·simp
 |k+1,x=>by
  rw [QW];have h1:=vU hs k (ZP x t.length);have h2:=vU hs k (Zp x t.length);have h3:1≤2^k:=Nat.one_le_two_pow
  have h4:2^(k+1)=2^k*2:=Nat.pow_succ ..
  split
  ·simp
  ·split
   ·have:=(yp (Yx hs (j:=x.toNat) (by omega))).1
    simp only [own,List.length_cons,List.length_map];omega
   ·simp only [List.length_append];omega
theorem uz {t:zc} (hs:zW t=true): ∀(k n:Nat),k≤7→iIs n t.length=true→zZ n≤k→APure Tryz.prog 151 [zg t,int n] (Zn (rsv t k n)) []:=by
 intro k;induction k with
 |zero=>
  intro n hk hI hlv;have hp:=Z_ hI
  have he:n % 2=0:=by
   by_cases h1:n % 2=1
   ·have:=XQ hI (by omega)
    obtain ⟨a,b,_⟩:=xV this.1;omega
   ·omega
  have:=J8 t hs n hI [] [] (by simp) (by simp) (fun h=>by omega)
  rw [kW,if_neg (by omega),show (n:Int).toNat=n from rfl];rw [if_pos he] at this;exact this
 |succ k ih=>
  intro n hk hI hlv;have hp:=Z_ hI;have h2k:2^k≤2^7:=Nat.pow_le_pow_right (by decide) (by omega)
  have hL:=vU hs k (ZP n t.length);have hR:=vU hs k (Zp n t.length)
  have:=J8 t hs n hI (rsv t k (ZP n t.length)) (rsv t k (Zp n t.length)) (by omega) (by omega) (fun h=>by
   obtain ⟨g1,g2,g3,g4⟩:=XQ hI (by omega);have p1:=Z_ g1;have p2:=Z_ g2;obtain ⟨a,ha⟩:=Int.eq_ofNat_of_zero_le p1.1;obtain ⟨b,hb⟩:=Int.eq_ofNat_of_zero_le p2.1;rw [ha] at g1 g3 ⊢;rw [hb] at g2 g4 ⊢;exact ⟨ih a (by omega) g1 (by omega),ih b (by omega) g2 (by omega)⟩)
  rw [QW,if_neg (by omega),show (n:Int).toNat=n from rfl];by_cases he:n % 2=0
  ·rw [if_pos he] at this;obtain ⟨g1,g2,_⟩:=PE hI (by omega);rw [g1,g2,Pv];exact this
  ·rw [if_neg he] at this;exact this
theorem gh {t:zc} {x:Int} (h:x<0∨x≥(rAs t).length):zL t x=[]:=by
 unfold zL;rw [show (7:Nat)=6+1 from rfl,QW,if_pos h]
theorem QH {t:zc} (hs:zW t=true) {n:Nat} (h:n<t.length):iIs n t.length=true:=by
 unfold iIs;rw [ZE hs (by omega),decide_eq_true (by omega),decide_eq_true (by omega)];rfl
theorem WA {x w:Int} (h:iIs x w=true):zZ x≤6:=by
 obtain ⟨a,b,c⟩:=xV h;omega
theorem K0 (t:zc) (x:Int) (ht:t.length≤1000000):APure Tryz.prog 85 [zg t,int x] (Zn (zL t x)) []:=by
 refine ent Tryz.func85 Tryz.ntmps85 ⟨?_⟩;have hl:=zR t;have hs:=zG t;have ho:=gh (t:=t) (x:=x);unfold zL at*;refine gc ZY (ZW t ht) ⟨?_⟩;generalize rAs t=u at*;refine go ⟨?_⟩;by_cases h0:x<0
 ·rw [ho (.inl h0)];exact gf
 by_cases h1:x≥u.length
 ·rw [ho (.inr h1)];exact gf
 obtain ⟨n,rfl⟩: ∃n:Nat,x=n:=⟨x.toNat,by omega⟩;have hI:=QH hs (n:=n) (by omega);have hv:=WA hI;exact gcgf QU (uz hs 7 n (by omega) hI (by omega))
theorem KG:ze Tryz.prog 85:=gfn Tryz.func85
def qD (u:zc) (c:Int):Bool:= !(rsv u 7 c).isEmpty
theorem vT {t:zc} {i:Int} (h0: ¬i<0) (h1: ¬i≥zp t):zQ t i=(Zc (2*i) (rAs t).length).filter (qD (rAs t)):=by
 unfold zQ;rw [if_neg (by omega)];rfl
theorem qT {t:zc} {i:Int} (h:i<0∨i≥zp t):zQ t i=[]:=by
 unfold zQ;rw [if_pos h]
theorem zjt: ∀(i:Fin 7) (n:Fin 127),n.val<2^(i.val+1) - 1→
 ((Zc (n.val:Int) ((2^(i.val+1) - 1:Nat):Int)).all fun c=>iIs c ((2^(i.val+1) - 1:Nat):Int))=true∧
 (Zc (n.val:Int) ((2^(i.val+1) - 1:Nat):Int)).map (fun c=>zm c ((2^(i.val+1) - 1:Nat):Int))=zy (n.val:Int) ((2^(i.val+1) - 1:Nat):Int)∧
 (Zc (n.val:Int) ((2^(i.val+1) - 1:Nat):Int)).length≤6:=by decide+kernel
theorem JJ {x w:Int} (h:iIs x w=true):(∀c∈Zc x w,iIs c w=true)∧(Zc x w).map (fun c=>zm c w)=zy x w∧(Zc x w).length≤6:=by
 obtain ⟨i,n,rfl,rfl,h'⟩:=WF h;obtain ⟨h1,h2,h3⟩:=zjt i n h';exact ⟨fun c hc=>List.all_eq_true.1 h1 c hc,h2,h3⟩
theorem P' (u:zc) (c:Int):decide (((rsv u 7 c).length:Int)>0)=qD u c:=by
 unfold qD;cases rsv u 7 c with
 |nil=>rfl
 |cons a l=>simp
theorem pc {p:Int→Bool} {l:List Int} {i:Nat} (h:i<l.length):(l.take (i+1)).filter p=(l.take i).filter p++if p (l.getD i 0)=true then [l.getD i 0] else []:=by
 rw [zT h,List.filter_append];congr 1
 cases hp:p (l.getD i 0)
 ·rw [List.filter_cons_of_neg (by rw [hp];decide)];rfl
 ·rw [List.filter_cons_of_pos hp];rfl
theorem zbI (t:zc) (i:Int) (ht:t.length≤1000000):APure Tryz.prog 207 [zg t,int i] (Zn (zQ t i)) []:=by
 refine ent Tryz.func207 Tryz.ntmps207 ⟨?_⟩;have hl:=zR t;have hs:=zG t;have hlv:zp t=(((rAs t).length+1) / 2:Nat):=rfl
 have hlu:zp (rAs t)=zp t:=by unfold zp;rw [W6]
 have ho:=qT (t:=t) (i:=i);have hb:=vT (t:=t) (i:=i);refine gc ZY (ZW t ht) ⟨?_⟩;generalize rAs t=u at*;refine go ⟨?_⟩;by_cases h0:i<0
 ·rw [ho (.inl h0)];exact gf
 refine gc xe (XB u (by omega)) ⟨?_⟩;rw [hlu];by_cases h1:i≥zp t
 ·rw [ho (.inr h1)];exact gf
 rw [hb h0 h1];obtain ⟨n,rfl⟩: ∃n:Nat,i=n:=⟨i.toNat,by omega⟩;have hw:=ZE hs (by omega);have hodd:=of_decide_eq_true hw;have hI:=QH hs (n:=2*n) (by omega);have e1:IntKind.i64.wrap (2*(n:Int))=((2*n:Nat):Int):=by simp only [IntKind.wrap_i64];omega
 rw [show 2*(n:Int)=((2*n:Nat):Int) by omega];obtain ⟨c1,c2,c3⟩:=JJ hI;refine go ⟨?_⟩;rw [e1];refine cal j4 (Jy ((2*n:Nat):Int) u.length) ⟨?_⟩;generalize Zc ((2*n:Nat):Int) u.length=l at*;refine go ⟨?_⟩;refine zr (Tells.nilRow (t:=7) 3 1 rfl rfl) ?_;refine lp (fun j:{q:Nat×List Int // q.1≤l.length∧q.2=(l.take q.1).filter (qD u)∧q.2.length≤q.1}=>[(7, .row 0 1 0 j.1.2.length none),(8,int j.1.1)]) (fun j=>[yC j.1.2]) (fun j=>l.length - j.1.1) ⟨(0,[]),by simp,by simp,by simp⟩ ?_
 rintro ⟨⟨j,v⟩,hj,hv,hvl⟩
 simp only at hj hv hvl ⊢;refine go ⟨?_⟩;refine zj rfl (fun h=> ?_) (fun h=> ?_)
 ·have hlt:j<l.length:=by omega
  have hf:=pc (p:=qD u) hlt;rw [←hv] at hf;have hcI:=c1 _ (List.getElem_mem hlt);have hg:l.getD j 0=l[j]:=by simp [List.getD_eq_getElem?_getD,hlt]
  rw [←hg] at hcI;have hcp:=Z_ hcI;have hcv:=WA hcI;refine go ⟨?_⟩;generalize hq:l.getD j 0=c at*;obtain ⟨cn,rfl⟩: ∃cn:Nat,c=cn:=⟨c.toNat,by omega⟩;refine cg QU (uz hs 7 cn (by omega) hcI (by omega)) ⟨?_⟩;rw [P'];cases hB:qD u cn
  ·rw [hB,if_neg (by decide),List.append_nil] at hf;refine go ⟨?_⟩;refine je ⟨⟨(j+1,v),hlt,hf.symm,by simp only;omega⟩,by simp only;omega, ?_⟩;exact tel
  ·rw [hB,if_pos rfl] at hf;refine go ⟨?_⟩;rw [hq];refine app (yP (v++[(cn:Int)])) hT rfl rfl rfl rfl (fun j hj=>ZZ (e:=wA) rfl rfl hj) ?_;refine ng ⟨?_⟩;refine je ⟨⟨(j+1,v++[(cn:Int)]),hlt,hf.symm,by simp;omega⟩,by simp only;omega, ?_⟩;exact tel
 ·obtain rfl:j=l.length:=by omega
  rw [List.take_length] at hv;rw [←hv];exact gf
theorem za4:ze Tryz.prog 207:=gfn Tryz.func207
theorem ue {t:zc} {i:Int} (h:i<0∨i≥zp t):Zf t i=[]:=by unfold Zf;rw [qT h];rfl
theorem UJ {t:zc} {i:Int} (h0: ¬i<0) (h1: ¬i≥zp t) (hl:(rAs t).length=t.length):Zf t i=((Zc (2*i) (rAs t).length).filter (qD (rAs t))).map fun c=>zm c (rAs t).length:=by
 unfold Zf;rw [vT h0 h1,hl]
theorem T2 {t:zc} (h:(rAs t).length≠0):(rAs t).length=t.length:=by
 unfold rAs at h ⊢;split
 ·rfl
 ·rename_i hs;rw [if_neg hs] at h;exact (h rfl).elim
theorem Uq (t:zc) (i:Int) (ht:t.length≤1000000):APure Tryz.prog 86 [zg t,int i] (Zn (Zf t i)) []:=by
 refine ent Tryz.func86 Tryz.ntmps86 ⟨?_⟩;have hl:=zR t;have hs:=zG t;have hlv:zp t=(((rAs t).length+1) / 2:Nat):=rfl
 have hlu:zp (rAs t)=zp t:=by unfold zp;rw [W6]
 have ho:=ue (t:=t) (i:=i);have hb:=UJ (t:=t) (i:=i);have hsm:=T2 (t:=t);refine gc ZY (ZW t ht) ⟨?_⟩;generalize rAs t=u at*;refine go ⟨?_⟩;by_cases h0:i<0
 ·rw [ho (.inl h0)];exact gf
 refine gc xe (XB u (by omega)) ⟨?_⟩;rw [hlu];by_cases h1:i≥zp t
 ·rw [ho (.inr h1)];exact gf
 rw [hb h0 h1 (hsm (by omega))];obtain ⟨n,rfl⟩: ∃n:Nat,i=n:=⟨i.toNat,by omega⟩;have hw:=ZE hs (by omega);have hodd:=of_decide_eq_true hw;have hI:=QH hs (n:=2*n) (by omega);have e1:IntKind.i64.wrap (2*(n:Int))=((2*n:Nat):Int):=by simp only [IntKind.wrap_i64];omega
 rw [show 2*(n:Int)=((2*n:Nat):Int) by omega];obtain ⟨c1,c2,c3⟩:=JJ hI;refine go ⟨?_⟩;rw [e1];refine cal Wt (Ws ((2*n:Nat):Int) u.length) ⟨?_⟩;rw [←c2];refine go ⟨?_⟩;rw [e1];refine cal j4 (Jy ((2*n:Nat):Int) u.length) ⟨?_⟩;generalize Zc ((2*n:Nat):Int) u.length=l at*;refine go ⟨?_⟩;refine zr (Tells.nilRow (t:=8) 3 1 rfl rfl) ?_;refine lp (fun j:{q:Nat×List Int // q.1≤l.length∧q.2=((l.take q.1).filter (qD u)).map (fun c=>zm c u.length)∧q.2.length≤q.1}=>[(8, .row 0 1 0 j.1.2.length none),(9,int j.1.1)]) (fun j=>[yC j.1.2]) (fun j=>l.length - j.1.1) ⟨(0,[]),by simp,by simp,by simp⟩ ?_
 rintro ⟨⟨j,v⟩,hj,hv,hvl⟩
 simp only at hj hv hvl ⊢;have hml:(l.map fun c=>zm c u.length).length=l.length:=List.length_map ..
 refine go ⟨?_⟩;rw [hml];refine zj rfl (fun h=> ?_) (fun h=> ?_)
 ·have hlt:j<l.length:=by omega
  have hf:=congrArg (List.map fun c=>zm c u.length) (pc (p:=qD u) hlt);rw [List.map_append,←hv] at hf;have hcI:=c1 _ (List.getElem_mem hlt);have hg:l.getD j 0=l[j]:=by simp [List.getD_eq_getElem?_getD,hlt]
  have hgm:(l.map fun c=>zm c u.length).getD j 0=zm (l.getD j 0) u.length:=by simp [List.getD_eq_getElem?_getD,hlt]
  rw [←hg] at hcI;have hcp:=Z_ hcI;have hcv:=WA hcI;refine go ⟨?_⟩;generalize hq:l.getD j 0=c at*;obtain ⟨cn,rfl⟩: ∃cn:Nat,c=cn:=⟨c.toNat,by omega⟩;refine cg QU (uz hs 7 cn (by omega) hcI (by omega)) ⟨?_⟩;rw [P'];cases hB:qD u cn
  ·rw [hB,if_neg (by decide),List.map_nil,List.append_nil] at hf;refine go ⟨?_⟩;refine je ⟨⟨(j+1,v),hlt,hf.symm,by simp only;omega⟩,by simp only;omega, ?_⟩;exact tel
  ·rw [hB,if_pos rfl,List.map_cons,List.map_nil] at hf;refine go ⟨?_⟩;rw [hgm];refine app (yP (v++[zm (cn:Int) u.length])) hT rfl rfl rfl rfl (fun j hj=>ZZ (e:=wA) rfl rfl hj) ?_;refine ng ⟨?_⟩;refine je ⟨⟨(j+1,v++[zm (cn:Int) u.length]),hlt,hf.symm,by simp;omega⟩,by simp only;omega, ?_⟩;exact tel
 ·obtain rfl:j=l.length:=by omega
  rw [List.take_length] at hv;rw [←hv];exact gf
theorem uW:ze Tryz.prog 86:=gfn Tryz.func86
theorem j_:ze Tryz.prog 154:=gfn Tryz.func154
theorem HG (b:List UInt8) (l:zM):(kg b l).length≤b.length+3145744:=by
 have h1:=zx b l.enc;have h2:=zx (zi b l.enc) l.cred;have h3:=zx (zi (zi b l.enc) l.cred++nby l.source 1) l.parent;have h4:(nby l.source 1).length=1:=by rw [qg];rfl
 unfold kg;split
 ·omega
 ·split
  ·simp only [List.length_append] at h3 ⊢;omega
  ·simp only [List.length_append];omega
theorem pj (i:Int) (n:Zt):(XS i n).length≤10000000:=by
 have l1:=Qu 1 1;have l4:=Qu i 4;have f1:=Yu (nby 1 1++nby i 4) true;have f2:=Yu (nby 1 1++nby i 4) false;have f3:(nby 1 1++nby i 4).length=(nby 1 1).length+(nby i 4).length:=List.length_append
 have f4:=HG (Yz (nby 1 1++nby i 4) true) (nAs n).leaf;unfold XS;split <;>omega
theorem ub (n:Zt) (l r:List UInt8):(Xp n l r).length≤100000000:=by
 have l1:=Qu 2 1;have f1:=Yu (nby 2 1) true;have f2:=Yu (nby 2 1) false;have f4:=ko (Yz (nby 2 1) true) (nAs n).inner;unfold Xp;split
 ·have h1:=zx (QJ (Yz (nby 2 1) true) (nAs n).inner) l;have h2:=zx (zi (QJ (Yz (nby 2 1) true) (nAs n).inner) l) r;omega
 ·have h1:=zx (Yz (nby 2 1) false) l;have h2:=zx (zi (Yz (nby 2 1) false) l) r;omega
theorem ju (t:zc) (n:Nat) (hn:n<t.length) (ht:t.length≤127) (l r:List UInt8)
 (kids:n % 2=1→APure Tryz.prog 154 [zg t,int (ZP n t.length)] (bytes l) []∧APure Tryz.prog 154 [zg t,int (Zp n t.length)] (bytes r) []):
 APure Tryz.prog 154 [zg t,int n] (bytes (if n % 2=0 then Yh (XS ((n / 2:Nat):Int) (t.getD n za)) else Yh (Xp (t.getD n za) l r))) []:=by
 refine ent Tryz.func154 Tryz.ntmps154 ⟨?_⟩;have e1:=Yc n (by omega);have b1:=pj ((n / 2:Nat):Int) (t.getD n za);have b2:=ub (t.getD n za) l r;refine go ⟨?_⟩;rw [WZ];by_cases h:n % 2=0
 ·rw [if_pos h,h];refine go ⟨?_⟩;rw [show fE zf t n=Zb (t.getD n za) from rfl,WX,e1];refine cg zb0 (zbL ((n / 2:Nat):Int) (t.getD n za)) ⟨?_⟩;exact cgf jW (KP (XS ((n / 2:Nat):Int) (t.getD n za)) (by omega))
 ·obtain ⟨k1,k2⟩:=kids (by omega);rw [if_neg h,show n % 2=1 by omega];refine gcg jE (VX n t.length) ⟨?_⟩;refine cg j_ k1 ⟨?_⟩;refine cg jU (VP n t.length) ⟨?_⟩;refine cg j_ k2 ⟨?_⟩;rw [show fE zf t n=Zb (t.getD n za) from rfl];refine cg Gx (GE (t.getD n za) l r) ⟨?_⟩;exact cgf jW (KP (Xp (t.getD n za) l r) (by omega))
theorem tP (t:zc) (x:Int):hsh t 0 x=Yh (XS (x / 2) (t.getD x.toNat za)):=by rw [hsh]
theorem Q7 (t:zc) (k:Nat) (x:Int):hsh t (k+1) x=if x % 2=0 then Yh (XS (x / 2) (t.getD x.toNat za)) else Yh (Xp (t.getD x.toNat za) (hsh t k (ZP x t.length)) (hsh t k (Zp x t.length))):=by rw [hsh]
theorem zcg {t:zc} (ht:t.length≤127): ∀(k n:Nat),iIs n t.length=true→zZ n≤k→APure Tryz.prog 154 [zg t,int n] (bytes (hsh t k n)) []:=by
 intro k;induction k with
 |zero=>
  intro n hI hlv;have hp:=Z_ hI
  have he:n % 2=0:=by
   by_cases h1:n % 2=1
   ·have:=XQ hI (by omega)
    obtain ⟨a,b,_⟩:=xV this.1;omega
   ·omega
  have:=ju t n (by omega) ht [] [] (fun h=>by omega)
  rw [if_pos he] at this;rw [tP,show (n:Int).toNat=n from rfl,show (n:Int) / 2=((n / 2:Nat):Int) by omega];exact this
 |succ k ih=>
  intro n hI hlv;have hp:=Z_ hI
  have:=ju t n (by omega) ht (hsh t k (ZP n t.length)) (hsh t k (Zp n t.length)) (fun h=>by
   obtain ⟨g1,g2,g3,g4⟩:=XQ hI (by omega);have p1:=Z_ g1;have p2:=Z_ g2;obtain ⟨a,ha⟩:=Int.eq_ofNat_of_zero_le p1.1;obtain ⟨b,hb⟩:=Int.eq_ofNat_of_zero_le p2.1;rw [ha] at g1 g3 ⊢;rw [hb] at g2 g4 ⊢;exact ⟨ih a g1 (by omega),ih b g2 (by omega)⟩)
  rw [Q7,show (n:Int).toNat=n from rfl,show (n:Int) / 2=((n / 2:Nat):Int) by omega];by_cases he:n % 2=0
  ·rw [if_pos he] at this;rw [if_pos (by omega)];exact this
  ·rw [if_neg he] at this;rw [if_neg (by omega)];exact this
theorem zep (t:zc) (x:Int) (ht:t.length≤1000000):APure Tryz.prog 88 [zg t,int x] (bytes (QL t x)) []:=by
 refine ent Tryz.func88 Tryz.ntmps88 ⟨?_⟩;have hl:=zR t;have hs:=zG t;unfold QL;refine gc ZY (ZW t ht) ⟨?_⟩;generalize rAs t=u at*;refine go ⟨?_⟩;by_cases h0:x<0
 ·rw [if_pos (.inl h0)];exact gf
 by_cases h1:x≥u.length
 ·rw [if_pos (.inr h1)];exact gf
 rw [if_neg (by omega)];obtain ⟨n,rfl⟩: ∃n:Nat,x=n:=⟨x.toNat,by omega⟩;have hI:=QH hs (n:=n) (by omega);have hv:=WA hI;exact gcgf j_ (zcg hl 7 n hI (by omega))
theorem zdh:ze Tryz.prog 88:=gfn Tryz.func88
theorem zgS (t:zc) (x:Int):APure Tryz.prog 122 [zg t,int x] (.fn (.func 181) [] [.ptr 1 1 0 0, .ptr 0 1 0 0]) [{T:=22,sz:=1,n:=1,f:=fun _=>[zg t],box:=true},bxI x]:=by
 refine ent Tryz.func122 Tryz.ntmps122 ⟨?_⟩;exact gf
theorem kN (t:zc) (x:Int):APure Tryz.prog 122 [zg t,int x] (.fn (.func 181) [] [.ip [int x], .ip [zg t]]) []:=(zgS t x).data rfl (by repeat' (first|exact trivial|exact Nat.le_refl _|omega|refine And.intro ?_ ?_))
theorem kj:ze Tryz.prog 122:=gfn Tryz.func122
theorem jP:ze Tryz.prog 181:=gfn Tryz.func181
abbrev Qo (t:zc) (x:Int) (l:List Int):Prop:=QF Tryz.prog 181 [.ip [int x], .ip [zg t]] (fun i=>[int (l.getD i 0)]) l.length
theorem mc9 {G A:Prop} (k:Hold G) (h:Hold G→A:=by
 intro k;simp only [Tryz.ntmps181,List.length_cons,List.length_nil,Nat.reduceAdd,Nat.reduceSub,List.replicate,List.cons_append,List.nil_append];exact k.1):A:=h k
theorem qq (t:zc) (x:Int) (h:x<0∨x≥t.length):Qo t x []:=by
 refine Qe hT Tryz.func181 rfl rfl fun L=> ?_
 refine mc9 ⟨?_⟩;by_cases h0:x<0
 ·refine go ⟨?_⟩;first|exact itn fun _=>rfl|exact itr fun _=>rfl
 ·have h1:x≥t.length:=by omega
  refine go ⟨?_⟩;first|exact itn fun _=>rfl|exact itr fun _=>rfl
theorem U9 (t:zc) (hs:zW t=true) (n:Nat) (hn:n<t.length) (h1:(t.getD n za).kind≠0):Qo t n (own t n):=by
 have hc:=Yx hs hn;obtain ⟨hu1,hu2⟩:=yp hc;have ho:own t n=(n:Int)::dbl (t.getD n za).inner.unm:=rfl
 refine Qe hT Tryz.func181 rfl rfl fun L=> ?_
 refine mc9 ⟨?_⟩;refine ms7 ⟨?_⟩;rw [bne_iff_ne.2 h1];refine go ⟨?_⟩;refine yld rfl (by rw [ho];simp) (uJ (.refl _)) fun b=> ?_
 cases b
 ·refine go ⟨?_⟩;first|exact (its rfl).1|exact (its rfl).2
 refine ms7 ⟨?_⟩;generalize hm:(t.getD n za).inner.unm=m at*;have hz:(t.getD n zf.z).inner.unm=m:=hm
 rw [hz];generalize hw:own t n=w at*;have hwl:w.length=1+m.length:=by rw [ho];simp [Nat.add_comm]
 refine lpy (fun i:{i:Nat // i≤m.length}=>[(59,int i.1)]) (fun _=>[{T:=108,sz:=1,n:=1,f:=fun _=>[.fn (.yield L) [] []],box:=true}]) (fun i=>⟨0,1+i.1,false,some (L,fun i=>[int (w.getD i 0)],w.length),true⟩) (fun i=>m.length - i.1) ⟨0,Nat.zero_le _⟩ ?_
 rintro ⟨i,hi⟩
 refine go ⟨?_⟩;refine zj rfl (fun h=> ?_) (fun h=> ?_)
 ·have hlt:i<m.length:=by omega
  have hg:m.getD i 0=m[i]:=by simp [List.getD_eq_getElem?_getD,hlt]
  have hu3:=hu2 _ (List.getElem_mem hlt);rw [←hg] at hu3;have hwi:w.getD (1+i) 0=2*m.getD i 0:=by rw [ho];simp [Nat.add_comm 1 i,List.getD_eq_getElem?_getD,hlt]
  have e1:IntKind.i64.wrap (2*m.getD i 0)=2*m.getD i 0:=by simp only [IntKind.wrap_i64];omega
  refine go ⟨?_⟩;rw [e1];refine yld rfl (by omega) (uJ (.int hwi.symm)) fun b=> ?_
  cases b
  ·refine go ⟨?_⟩;first|exact (its rfl).1|exact (its rfl).2
  ·refine go ⟨?_⟩;refine je ⟨⟨i+1,hlt⟩,by simp only;omega, ?_⟩;exact tel
 ·obtain rfl:i=m.length:=by omega
  refine go ⟨?_⟩;first|exact itn fun _=>hwl.symm|exact itr fun _=>hwl.symm
theorem Tells.nm {s:List AV} {H:List zb} {fg:List Nat} {n y:Nat} {st:Bool} {sp:Option (Nat×(Nat→List AV)×Nat)} {m:Bool}:Tells ⟨s,H,fg,⟨n,y,st,sp,m⟩⟩ ⟨s,H,fg,⟨n,y,st,sp,false⟩⟩:=by
 unfold Tells;intro P B μ a w hr;exact ⟨μ,{hr with df:={hr.df with nm:=fun h=>by cases h}}⟩
abbrev Tt (L:Nat) (a b:Int):List zb:=[{T:=108,sz:=1,n:=1,f:=fun _=>[.fn (.yield L) [] []],box:=true},{T:=3,sz:=1,n:=2,f:=WH [[int a],[int b]]}]
def yc (A B:List Int):Nat→Nat
 |0=>0
 |1=>A.length
 |_=>A.length+B.length
theorem Vu (t:zc) (n:Nat) (hn:n<t.length) (h1:(t.getD n za).kind=0) (A B:List Int) (hA:Qo t (ZP n t.length) A) (hB:Qo t (Zp n t.length) B):Qo t n (A++B):=by
 refine Qe hT Tryz.func181 rfl rfl fun L=> ?_
 refine mc9 ⟨?_⟩;refine ms7 ⟨?_⟩;rw [bne_eq_false_iff_eq.2 h1];refine gcg Gs (GK n t.length) ⟨?_⟩;refine cg Px (py n t.length) ⟨?_⟩;generalize ZP n t.length=a at*;generalize Zp n t.length=b at*;have hAv: ∀i,i<A.length→A.getD i 0=(A++B).getD i 0:=fun i hi=>by simp [List.getD_eq_getElem?_getD,List.getElem?_append_left hi]
 have hBv: ∀i,i<B.length→B.getD i 0=(A++B).getD (A.length+i) 0:=fun i hi=>by simp [List.getD_eq_getElem?_getD,List.getElem?_append_right]
 refine lpy (fun j:{j:Nat // j≤2}=>[(19,int j.1),(0, .junk)]) (fun _=>Tt L a b) (fun j=>⟨0,yc A B j.1,false,some (L,fun i=>[int ((A++B).getD i 0)],(A++B).length),false⟩) (fun j=>2 - j.1) ⟨0,Nat.zero_le _⟩ ?_ (h0:=by
  refine Tells.nm.trans ?_;simp only [lst,Zz,ZB,setn,yc,Tt];exact tel)
 rintro ⟨j,hj⟩
 have hj:j=0∨j=1∨j=2:=by omega
 rcases hj with rfl|rfl|rfl
 ·simp only [Tt];refine gcg kj (kN t a) ⟨?_⟩;refine XE (we rfl rfl) rfl jP hA (fun i hi=>rfl) (fun i=>Tt L a b) (fun i=>0+i) rfl rfl (fun i hi L'=> ?_) ?_
  ·skip
   refine mc8 ⟨?_⟩;simp only [Tt];refine go ⟨?_⟩;refine yld rfl (by simp;omega) (uJ (.int (hAv i hi))) fun q=> ?_
   cases q
   ·refine go ⟨?_⟩;refine rqr _ (Tells.refl _) ?_ rfl ?_
    ·repeat (first|exact .nil|refine .cons (.refl _) ?_)
    ·refine go ⟨?_⟩;first|exact (its rfl).1|exact (its rfl).2
   ·refine go ⟨?_⟩;refine rqn _ (Tells.refl _) rfl ?_ rfl ?_ rfl
    ·repeat (first|exact .nil|refine .cons (.refl _) ?_)
    ·simp only;omega
  ·skip
   refine mc8 ⟨?_⟩;refine go ⟨?_⟩;refine je ⟨⟨1,by omega⟩,by simp only;omega, ?_⟩;simp only [yc,Nat.zero_add];exact tel
 ·simp only [Tt];refine gcg kj (kN t b) ⟨?_⟩;refine XE (we rfl rfl) rfl jP hB (fun i hi=>rfl) (fun i=>Tt L a b) (fun i=>A.length+i) rfl rfl (fun i hi L'=> ?_) ?_
  ·skip
   refine mc8 ⟨?_⟩;simp only [Tt];refine go ⟨?_⟩;refine yld rfl (by simp;omega) (uJ (.int (hBv i hi))) fun q=> ?_
   cases q
   ·refine go ⟨?_⟩;refine rqr _ (Tells.refl _) ?_ rfl ?_
    ·repeat (first|exact .nil|refine .cons (.refl _) ?_)
    ·refine go ⟨?_⟩;first|exact (its rfl).1|exact (its rfl).2
   ·refine go ⟨?_⟩;refine rqn _ (Tells.refl _) rfl ?_ rfl ?_ rfl
    ·repeat (first|exact .nil|refine .cons (.refl _) ?_)
    ·simp only;omega
  ·skip
   refine mc8 ⟨?_⟩;refine go ⟨?_⟩;refine je ⟨⟨2,by omega⟩,by simp only;omega, ?_⟩;simp only [yc,Nat.zero_add];exact tel
 ·refine go ⟨?_⟩;first|exact itn fun _=>by simp [yc]|exact itr fun _=>by simp [yc]
theorem zbj {t:zc} (hs:zW t=true): ∀(k n:Nat),iIs n t.length=true→zZ n≤k→Qo t n (rsv t k n):=by
 intro k;induction k with
 |zero=>
  intro n hI hlv;have hp:=Z_ hI
  have he:n % 2=0:=by
   by_cases h1:n % 2=1
   ·have:=XQ hI (by omega)
    obtain ⟨a,b,_⟩:=xV this.1;omega
   ·omega
  rw [kW,if_neg (by omega),show (n:Int).toNat=n from rfl];by_cases h1:(t.getD n za).kind=0
  ·rw [if_neg (not_not_intro h1)];obtain ⟨g1,g2,_⟩:=PE hI (by omega);exact Vu t n (by omega) h1 [] [] (qq t _ (by omega)) (qq t _ (by omega))
  ·rw [if_pos h1];exact U9 t hs n (by omega) h1
 |succ k ih=>
  intro n hI hlv;have hp:=Z_ hI;rw [QW,if_neg (by omega),show (n:Int).toNat=n from rfl];by_cases h1:(t.getD n za).kind=0
  ·rw [if_neg (not_not_intro h1)];by_cases he:n % 2=0
   ·obtain ⟨g1,g2,_⟩:=PE hI (by omega);refine Vu t n (by omega) h1 _ _ ?_ ?_
    ·rw [g1,Pv];exact qq t _ (by omega)
    ·rw [g2,Pv];exact qq t _ (by omega)
   ·obtain ⟨g1,g2,g3,g4⟩:=XQ hI (by omega);have p1:=Z_ g1;have p2:=Z_ g2;refine Vu t n (by omega) h1 _ _ ?_ ?_
    ·obtain ⟨a,ha⟩:=Int.eq_ofNat_of_zero_le p1.1;rw [ha] at g1 g3 ⊢;exact ih a g1 (by omega)
    ·obtain ⟨b,hb⟩:=Int.eq_ofNat_of_zero_le p2.1;rw [hb] at g2 g4 ⊢;exact ih b g2 (by omega)
  ·rw [if_pos h1];exact U9 t hs n (by omega) h1
theorem tj {t:zc} (hs:zW t=true) (x:Int):Qo t x (rsv t 7 x):=by
 by_cases h:x<0∨x≥t.length
 ·rw [show (7:Nat)=6+1 from rfl,QW,if_pos h];exact qq t x h
 ·obtain ⟨n,rfl⟩: ∃n:Nat,x=n:=⟨x.toNat,by omega⟩;have hI:=QH hs (n:=n) (by omega);exact zbj hs 7 n hI (by have:=WA hI;omega)
theorem Jf (t:zc) (ht:t.length≤1000000):APure Tryz.prog 123 [zg t] (zg (rAs t)) []:=by
 refine ent Tryz.func123 Tryz.ntmps123 ⟨?_⟩;unfold rAs;refine gc QM (QC t ht) ⟨?_⟩;cases h:zW t
 ·rw [if_neg (by decide)];exact gf
 ·rw [if_pos rfl];exact gf
theorem JE:ze Tryz.prog 123:=gfn Tryz.func123
theorem UZ {t:zc} (hs:zW t=true) (x:Int):(rsv t 7 x).length≤8320:=vU hs 7 x
theorem Jc (t:zc) (x:Int) (ht:t.length≤1000000):APure Tryz.prog 66 [zg t,int x] (Zn (zL t x)) []:=by
 refine ent Tryz.func66 Tryz.ntmps66 ⟨?_⟩;have hs:=zG t;unfold zL;refine gc JE (Jf t ht) ⟨?_⟩;generalize rAs t=u at*;refine gcg kj (kN u x) ⟨?_⟩;have hl:=UZ hs x;refine x8 rfl rfl rfl UY rfl rfl (args'':=[.fn (.func 181) [] [.ip [int x], .ip [zg u]]]) (U4 jP rfl (tj hs x) (by omega)) (.refl _) ?_;refine ng ⟨?_⟩;exact fin
theorem Jm:ze Tryz.prog 66:=gfn Tryz.func66
theorem ziE {t:zc} (hs:zW t=true) (x:Int):APure Tryz.prog 185 [zg t,int x] (.lit (.bool (qD t x))) []:=by
 refine ent Tryz.func185 Tryz.ntmps185 ⟨?_⟩;refine gcg kj (kN t x) ⟨?_⟩
 have hb:qD t x=decide ((rsv t 7 x).length≠0):=by
  unfold qD;cases rsv t 7 x <;>simp
 have hit:=tj hs x;rw [hb];generalize rsv t 7 x=v at*;refine XE (we rfl rfl) rfl jP hit (fun i hi=>rfl) (fun i=>QK (i=0) [{T:=4,sz:=1,n:=1,f:=fun _=>[.lit (.bool false)],box:=true}]) (fun _=>0) (yQ rfl _) rfl (fun i hi L=> ?_) ?_
 ·refine wO fun hn=> ?_
  rw [yQ hn];refine mc8 ⟨?_⟩;refine go ⟨?_⟩;refine rqr _ (Tells.refl _) ?_ rfl ?_
  ·repeat (first|exact .nil|refine .cons (.refl _) ?_)
  ·rw [decide_eq_true (show v.length≠0 by omega)];exact gf
 ·refine yj (ZS (wO fun hn=> ?_));rw [hn,decide_eq_false (by simp)];refine mc8 ⟨?_⟩;exact gf
theorem zjR:ze Tryz.prog 185:=gfn Tryz.func185
theorem HJ {t:zc} (hs:zW t=true) (x:Int):APure Tryz.prog 184 [int x, .ip [zg t]] (.lit (.bool (!qD t x))) []:=by
 refine ent Tryz.func184 Tryz.ntmps184 ⟨?_⟩;exact gcgf zjR (ziE hs x)
theorem Hq:ze Tryz.prog 184:=gfn Tryz.func184
theorem Ty (x w:Int):APure Tryz.prog 70 [int x,int w] (.row 0 1 0 (Zc x w).length none) [yC (Zc x w)]:=by
 refine ent Tryz.func70 Tryz.ntmps70 ⟨?_⟩;refine gcg zei (zcP x w) ⟨?_⟩;refine zr (Tells.nilCell 1 3 1 rfl rfl rfl rfl) ?_;refine zr (Tells.le (H':=[bxI w,{T:=36,sz:=1,n:=1,f:=fun _=>[.row 4 1 0 0 none],pure:=false,box:=true},bxI x,bxI w,yC []]) (.refl _) (.cons (.refl _) (.cons (.refl _) (.cons (.refl _) (.cons (.refl _) (.cons (.of (Nat.le_refl _) (fun h=>h) fun k hk=>by simp at hk) .nil)))))) ?_;refine X7 (Wq [0,1,4] [2,3] rfl rfl (by decide) rfl rfl) rfl rfl P2 (jw x w) (fun i hi=>rfl) (fun i=>cpH w (cpL (yE x w) w i)) rfl (fun i hi L=> ?_) ?_
 ·have hb:=XY x w;generalize hu:yE x w=u at*;have hs:=P6 w hi;have hl:=zd6 u w i;generalize cpL u w (i+1)=l' at*;generalize cpL u w i=l at*;generalize u.getD i 0=y at*;refine mc8 ⟨?_⟩;refine gcg vH (vp y w) ⟨?_⟩;generalize zE y w=z at*;by_cases h:z≥0
  ·rw [if_pos h] at hs;refine go ⟨?_⟩;refine app (yP l') hT rfl rfl rfl rfl (fun k hk=> ?_) ?_
   ·rw [hs];exact ZZ (e:=wA) rfl rfl hk
   refine ng ⟨?_⟩;have hl':l'.length=l.length+1:=by rw [hs];simp
   refine qL _ ((Tells.sel [0,1,2] rfl rfl).trans (Tells.le (H':=cpH w l') (.refl _) ?_)) rfl ?_ rfl
   ·refine .cons (.refl _) (.cons (.of (Nat.le_refl _) (fun h=>h) fun _ _=> ?_) (.cons (.of (Nat.le_of_eq hl') (fun h=>h) fun _ _=>rfl) .nil));rw [hl'];rfl
   ·repeat (first|exact .nil|refine .cons (.refl _) ?_)
  ·rw [if_neg h,List.append_nil] at hs;subst hs;refine go ⟨?_⟩;refine qL _ (Tells.le (H':=cpH w l') (.refl _) (.refl _)) rfl ?_ rfl
   ·repeat (first|exact .nil|refine .cons (.refl _) ?_)
 ·have hd:cpL (yE x w) w (yE x w).length=Zc x w:=by unfold cpL Zc;rw [List.take_length]
  rw [hd];generalize Zc x w=u at*;refine mc8 ⟨?_⟩;refine go ⟨?_⟩;refine Z9 rfl trivial [.row 0 1 0 u.length none] [yC u] ?_ ⟨rfl,rfl⟩;exact Tells.trans (Tells.sel [2] rfl rfl) (Tells.le (.cons (.refl _) .nil) (.cons (.of (Nat.le_refl _) (fun h=>h) fun k hk=>rfl) .nil))
theorem WO (x w:Int):(Zc x w).length≤7:=by
 unfold Zc;have:=XY x w
 refine Nat.le_trans (List.length_filter_le _ _) ?_;simp;omega
theorem Tk (t:zc) (i:Int) (ht:t.length≤1000000):APure Tryz.prog 124 [zg t,int i] (Zn (zQ t i)) []:=by
 refine ent Tryz.func124 Tryz.ntmps124 ⟨?_⟩;have hl:=zR t;have hs:=zG t;have hlv:zp t=(((rAs t).length+1) / 2:Nat):=rfl
 have ho:=qT (t:=t) (i:=i);have hb:=vT (t:=t) (i:=i);refine gc JE (Jf t ht) ⟨?_⟩;generalize rAs t=u at*;refine go ⟨?_⟩;by_cases h0:i<0
 ·rw [ho (.inl h0)];exact gf
 have e1:=Yc u.length (by omega)
 have hodd:u.length=0∨u.length % 2=1:=by
  by_cases hz:u.length=0
  ·exact .inl hz
  ·have:=of_decide_eq_true (ZE hs hz);omega
 refine go ⟨?_⟩;rw [WX,e1];by_cases h1:i>((u.length / 2:Nat):Int)
 ·rw [ho (.inr (by omega))];exact gf
 obtain ⟨n,rfl⟩: ∃n:Nat,i=n:=⟨i.toNat,by omega⟩;have e2:IntKind.i64.wrap (2*(n:Int))=2*(n:Int):=by simp only [IntKind.wrap_i64];omega
 have hbe:zQ t n=(Zc (2*(n:Int)) u.length).filter (qD u):=by
  by_cases h2:(n:Int)≥zp t
  ·rw [ho (.inr h2)]
   have:iIs (2*(n:Int)) u.length=false:=by
    unfold iIs;rw [decide_eq_false (show ¬2*(n:Int)<u.length by omega),Bool.and_false]
   unfold Zc yE;rw [this,if_neg (by decide)];rfl
  ·exact hb h0 h2
 have hcl:=WO (2*(n:Int)) u.length;refine go ⟨?_⟩;rw [e2];refine cal KR (Ty (2*(n:Int)) u.length) ⟨?_⟩;generalize Zc (2*(n:Int)) u.length=l at*;refine go ⟨?_⟩;refine zz (Tells.thaw (t:=23) rfl rfl (by repeat' (first|exact trivial|exact Nat.le_refl _|omega|exact rfl|refine And.intro ?_ ?_))) ?_;refine nz ⟨?_⟩;refine zz (Tells.sel [1] rfl rfl) ?_;refine nz ⟨?_⟩;refine zV rfl rfl rfl Jb (Jd (p:=fun x=> !qD u x) (ca:=[.ip [zg u]]) l (by omega) Hq rfl fun x _=>HJ hs x) ?_;have e3:l.filter (fun x=> !!qD u x)=zQ t n:=by rw [hbe];congr 1;funext x;simp
 rw [e3];refine ng ⟨?_⟩;exact fin
theorem Kp:ze Tryz.prog 124:=gfn Tryz.func124
theorem qY (t:zc) (i:Int):(zQ t i).length≤7:=by
 unfold zQ;split
 ·simp
 ·exact Nat.le_trans (List.length_filter_le _ _) (WO _ _)
theorem zec (t:zc) (i:Int) (ht:t.length≤1000000):APure Tryz.prog 68 [zg t,int i] (Zn (Zf t i)) []:=by
 refine ent Tryz.func68 Tryz.ntmps68 ⟨?_⟩;have hl:=qY t i;unfold Zf;refine gc Kp (Tk t i ht) ⟨?_⟩;generalize zQ t i=l at*;refine go ⟨?_⟩;refine zr (Tells.nilRow (t:=5) 3 1 rfl rfl) ?_;refine lp (fun j:{q:Nat×List Int // q.1≤l.length∧q.2=(l.take q.1).map (fun c=>zm c t.length)∧q.2.length=q.1}=>[(5, .row 0 1 0 j.1.2.length none),(12,int j.1.1)]) (fun j=>[yC j.1.2]) (fun j=>l.length - j.1.1) ⟨(0,[]),by simp,by simp,by simp⟩ ?_
 rintro ⟨⟨j,v⟩,hj,hv,hvl⟩
 simp only at hj hv hvl ⊢;refine go ⟨?_⟩;refine zj rfl (fun h=> ?_) (fun h=> ?_)
 ·have hlt:j<l.length:=by omega
  have hf:(l.take (j+1)).map (fun c=>zm c t.length)=v++[zm (l.getD j 0) t.length]:=by rw [zT hlt,List.map_append,←hv];rfl
  refine gcg jj (jD (l.getD j 0) t.length) ⟨?_⟩;refine app (yP (v++[zm (l.getD j 0) t.length])) hT rfl rfl rfl rfl (fun j hj=>ZZ (e:=wA) rfl rfl hj) ?_;refine ng ⟨?_⟩;refine je ⟨⟨(j+1,v++[zm (l.getD j 0) t.length]),hlt,hf.symm,by simp;omega⟩,by simp only;omega, ?_⟩;exact tel
 ·obtain rfl:j=l.length:=by omega
  rw [List.take_length] at hv;rw [←hv];exact gf
theorem PR:ze Tryz.prog 68:=gfn Tryz.func68
theorem UK (t:zc) (ht:t.length≤1000000):APure Tryz.prog 128 [zg t] (zg (rAs t)) []:=by
 refine ent Tryz.func128 Tryz.ntmps128 ⟨?_⟩;unfold rAs;refine gc QM (QC t ht) ⟨?_⟩;cases h:zW t
 ·rw [if_neg (by decide)];exact gf
 ·rw [if_pos rfl];exact gf
theorem pa:ze Tryz.prog 128:=gfn Tryz.func128
theorem uN (l:List Int) (n:Nat) (hl:l.length≤1000000000000):APure Tryz.prog 250 [Zn l,int ((n / 2:Nat):Int)] (.lit (.bool (l.contains ((n / 2:Nat):Int)))) []:=Qr l _ hl
def ZK (l:List Int) (t:zc) (j:Nat):zc:=t.zipIdx.map fun p=>if p.2<j then jB l p.2 p.1 else p.1
theorem YZ (l:List Int) (t:zc) (j:Nat):(ZK l t j).length=t.length:=by simp [ZK]
theorem J_ (l:List Int) (t:zc):ZK l t 0=t:=by
 refine List.ext_getElem (YZ _ _ _) fun i h1 h2=> ?_
 simp [ZK]
theorem qX (l:List Int) (t:zc) (j:Nat) {i:Nat} (hi:i<t.length):(ZK l t j)[i]'(by rw [YZ];exact hi)=if i<j then jB l i t[i] else t[i]:=by simp [ZK]
theorem Uo (l:List Int) (t:zc) {j:Nat} (hj:j<t.length):(ZK l t j).getD j za=t.getD j za:=by
 have h:=qX l t j hj;simp only [List.getD_eq_getElem?_getD];rw [List.getElem?_eq_getElem (by rw [YZ];exact hj),List.getElem?_eq_getElem hj,Option.getD_some,Option.getD_some,h,if_neg (Nat.lt_irrefl _)]
theorem J' (l:List Int) (t:zc) {j:Nat} (hj:j<t.length):ZK l t (j+1)=(ZK l t j).set j (jB l j (t.getD j za)):=by
 refine List.ext_getElem (by simp [YZ]) fun i h1 h2=> ?_
 have hi:i<t.length:=by rw [YZ] at h1;exact h1
 rw [qX _ _ _ hi,List.getElem_set,qX _ _ _ hi];by_cases h:j=i
 ·subst h;rw [if_pos rfl,if_pos (Nat.lt_succ_self _)];simp [List.getD_eq_getElem?_getD,hj]
 ·rw [if_neg h];by_cases h3:i<j
  ·rw [if_pos h3,if_pos (by omega)]
  ·rw [if_neg h3,if_neg (by omega)]
theorem ua (l:List Int) (t:zc):ZK l t t.length=t.zipIdx.map fun p=>jB l p.2 p.1:=by
 refine List.ext_getElem (by simp [YZ]) fun i h1 h2=> ?_
 have hi:i<t.length:=by rw [YZ] at h1;exact h1
 rw [qX _ _ _ hi,if_pos hi];simp
def vY (l:List Int) (m:Zt):Zt:={m with inner:={m.inner with unm:=qu m.inner.unm l}}
theorem j1 {l:List Int} {j:Nat} {m:Zt} (h: ¬(j % 2=0∧l.contains ((j / 2:Nat):Int)=true)):jB l j m=vY l m:=by unfold jB vY;rw [if_neg h]
theorem pb {l:List Int} {j:Nat} {m:Zt} (h:j % 2=0∧l.contains ((j / 2:Nat):Int)=true):jB l j m=vY l za:=by unfold jB vY;rw [if_pos h]
theorem PF (l:List Int) {q:zc} {j:Nat} {m:Zt} (hm:q.getD j za=m) {k:Nat} (hk:k<q.length):fE zf (q.set j (vY l m)) k=upd (fE zf q) j (List.take 7 (fE zf q j)++[Zn (qu m.inner.unm l)]++List.drop 8 (fE zf q j)) k:=by
 unfold upd;by_cases h:k=j
 ·subst h;rw [Nat.beq_refl,show fE zf q k=Zb (q.getD k za) from rfl,hm];show zf.enc ((q.set k (vY l m)).getD k zf.z)=_
  have:(q.set k (vY l m)).getD k zf.z=vY l m:=by simp [List.getD_eq_getElem?_getD,hk]
  rw [this];rfl
 ·have hb:Nat.beq k j=false:=by cases hb:Nat.beq k j with|false=>rfl|true=>exact (h (Nat.eq_of_beq_eq_true hb)).elim
  rw [hb];show zf.enc ((q.set j (vY l m)).getD k zf.z)=zf.enc (q.getD k zf.z)
  congr 1
  simp [List.getD_eq_getElem?_getD,List.getElem?_set_ne (Ne.symm h)]
theorem zgL (t:zc) (l:List Int) (ht:t.length≤1000000) (hll:l.length≤1000000):APure Tryz.prog 284 [zg t,Zn l] (zg (Qd t l)) []:=by
 refine ent Tryz.func284 Tryz.ntmps284 ⟨?_⟩;have hl:=zR t;have hs:=zG t;have hd:Qd t l=ZK l (rAs t) (rAs t).length:=(ua l (rAs t)).symm
 rw [hd];refine gc pa (UK t ht) ⟨?_⟩;generalize rAs t=u at*;refine gcg VQ (jN u (by omega)) ⟨?_⟩
 refine lp (fun j:{j:Nat // j≤u.length}=>[(11,int j.1)]) (fun j=>[{T:=85,sz:=8,n:=u.length,f:=fE zf (ZK l u j.1)}]) (fun j=>u.length - j.1) ⟨0,Nat.zero_le _⟩ ?_ (h0:=by
  simp only [lst,Zz,ZB,setn,J_];exact tel)
 rintro ⟨j,hj⟩
 have hdl:=YZ l u j;refine go ⟨?_⟩;refine zj rfl (fun h=> ?_) (fun h=> ?_)
 ·have hlt:j<u.length:=by omega
  have hat:=Uo l u hlt;have hsc:=J' l u hlt;have hnu:=yp (Yx hs hlt);have e1:=Yc j (by omega);refine go ⟨?_⟩;rw [WZ];by_cases h2:j % 2=0
  ·rw [h2];refine go ⟨?_⟩;rw [WX,e1];refine cal q8 (uN l j (by omega)) ⟨?_⟩;cases hc:l.contains ((j / 2:Nat):Int)
   ·have hdn:=j1 (l:=l) (j:=j) (m:=u.getD j za) (by rw [hc];simp);rw [hdn] at hsc;refine go ⟨?_⟩;have hz:(ZK l u j).getD j zf.z=u.getD j za:=hat
    rw [hz];have hmu:(u.getD j za).inner.unm.length≤64:=hnu.1
    refine cg Pj (pW (u.getD j za).inner.unm l (by omega) (by omega)) ⟨?_⟩;refine je ⟨⟨j+1,hlt⟩,by simp only;omega, ?_⟩;refine (Tells.objf 0 (fE zf ((ZK l u j).set j (vY l (u.getD j za)))) rfl (fun k hk=>PF l hat (by simpa [hdl] using hk))).trans ?_;simp only [hsc,List.set_set];exact tel
   ·have hdn:=pb (l:=l) (j:=j) (m:=u.getD j za) ⟨h2,hc⟩;rw [hdn] at hsc;refine go ⟨?_⟩;refine zz (Tells.le (H':=[{T:=85,sz:=8,n:=u.length,f:=fE zf ((ZK l u j).set j za)}]) (.refl _) (.cons (.les (Nat.le_refl _) fun k hk=>wF _ j (by rw [hdl];exact hk)) .nil)) ?_;refine go ⟨?_⟩;have hz:((ZK l u j).set j za).getD j zf.z=za:=by simp [List.getD_eq_getElem?_getD,hdl,hlt]
    rw [hz];have hmu:(za).inner.unm.length≤64:=Nat.zero_le _
    refine cg Pj (pW (za).inner.unm l (by omega) (by omega)) ⟨?_⟩;refine je ⟨⟨j+1,hlt⟩,by simp only;omega, ?_⟩;refine (Tells.objf 0 (fE zf (((ZK l u j).set j za).set j (vY l (za)))) rfl (fun k hk=>PF l hz (by simpa [hdl] using hk))).trans ?_;simp only [hsc,List.set_set];exact tel
  ·rw [show j % 2=1 by omega];have hdn:=j1 (l:=l) (j:=j) (m:=u.getD j za) (fun h=>h2 h.1);rw [hdn] at hsc;refine go ⟨?_⟩;have hz:(ZK l u j).getD j zf.z=u.getD j za:=hat
   rw [hz];have hmu:(u.getD j za).inner.unm.length≤64:=hnu.1
   refine cg Pj (pW (u.getD j za).inner.unm l (by omega) (by omega)) ⟨?_⟩;refine je ⟨⟨j+1,hlt⟩,by simp only;omega, ?_⟩;refine (Tells.objf 0 (fE zf ((ZK l u j).set j (vY l (u.getD j za)))) rfl (fun k hk=>PF l hat (by simpa [hdl] using hk))).trans ?_;simp only [hsc,List.set_set];exact tel
 ·obtain rfl:j=u.length:=by omega
  generalize ZK l u u.length=v at*;rw [←hdl];exact gf
theorem zgv:ze Tryz.prog 284:=gfn Tryz.func284
theorem zg9 (l:List Int):vY l za=za:=rfl
theorem Ts {n:Zt} (h:zC n=0) (h2:n.kind≠2):n.inner=yd:=by
 unfold zC at h;split at h
 ·simp at h
 ·split at h
  ·simp at h
  ·rename_i h3;by_cases h4:n.inner=yd
   ·exact h4
   ·exact absurd (.inr ⟨h2,h4⟩) h3
theorem uV {n:Zt} (l:List Int) (h:zC n=0) (h2:n.kind≠2):vY l n=n:=by
 obtain ⟨k,lf,inr⟩:=n;have:=Ts h h2
 simp only at this;subst this;rfl
theorem zeS (q:zc) {j:Nat} (h:j<q.length):q.set j (q.getD j za)=q:=by
 refine List.ext_getElem (by simp) fun i h1 h2=> ?_
 rw [List.getElem_set];split
 ·rename_i h3;subst h3;simp [List.getD_eq_getElem?_getD,h]
 ·rfl
theorem WM (m:Zt) {q:zc} {j k:Nat} (hk:k<q.length):fE zf (q.set j m) k=upd (fE zf q) j (Zb m++List.drop 8 (fE zf q j)) k:=by
 unfold upd;by_cases h:k=j
 ·subst h;rw [Nat.beq_refl,show fE zf q k=Zb (q.getD k za) from rfl];show zf.enc ((q.set k m).getD k zf.z)=_
  have:(q.set k m).getD k zf.z=m:=by simp [List.getD_eq_getElem?_getD,hk]
  rw [this];rfl
 ·have hb:Nat.beq k j=false:=by cases hb:Nat.beq k j with|false=>rfl|true=>exact (h (Nat.eq_of_beq_eq_true hb)).elim
  rw [hb];show zf.enc ((q.set j m).getD k zf.z)=zf.enc (q.getD k zf.z)
  congr 1
  simp [List.getD_eq_getElem?_getD,List.getElem?_set_ne (Ne.symm h)]
theorem zcB (t:zc) (l:List Int) (ht:t.length≤1000000) (hll:l.length≤1000000):APure Tryz.prog 302 [zg t,Zn l] (zg (Qd t l)) []:=by
 refine ent Tryz.func302 Tryz.ntmps302 ⟨?_⟩;have hl:=zR t;have hs:=zG t;have hd:Qd t l=ZK l (rAs t) (rAs t).length:=(ua l (rAs t)).symm
 rw [hd];refine gc ZY (ZW t ht) ⟨?_⟩;generalize rAs t=u at*;refine go ⟨?_⟩;refine app (fE zf u) hT rfl rfl rfl rfl (fun k hk=>WB (xs:=[]) rfl hk) ?_;refine ng ⟨?_⟩
 refine lp (fun j:{j:Nat // j≤u.length}=>[(6,int j.1)]) (fun j=>[{T:=85,sz:=8,n:=u.length,f:=fE zf (ZK l u j.1)}]) (fun j=>u.length - j.1) ⟨0,Nat.zero_le _⟩ ?_ (h0:=by
  simp only [lst,Zz,ZB,setn,J_];exact tel)
 rintro ⟨j,hj⟩
 have hdl:=YZ l u j;refine go ⟨?_⟩;refine zj rfl (fun h=> ?_) (fun h=> ?_)
 ·have hlt:j<u.length:=by omega
  have hat:=Uo l u hlt;have hsc:=J' l u hlt;have hck:=Yx hs hlt;have hnu:=yp hck;have e1:=Yc j (by omega);have hsd:=zeS (ZK l u j) (j:=j) (by omega);refine go ⟨?_⟩;rw [WZ];by_cases h2:j % 2=0
  ·rw [h2];refine go ⟨?_⟩;rw [WX,e1];refine cal jg (jR l ((j / 2:Nat):Int) (by omega)) ⟨?_⟩;cases hc:l.contains ((j / 2:Nat):Int)
   ·have hdn:=j1 (l:=l) (j:=j) (m:=u.getD j za) (by rw [hc];simp);rw [hdn] at hsc;refine go ⟨?_⟩;have hz:(ZK l u j).getD j zf.z=u.getD j za:=hat
    rw [hz];by_cases h7:(u.getD j za).kind=2
    ·rw [beq_iff_eq.2 h7];refine go ⟨?_⟩;rw [show fE zf (ZK l u j) j=Zb ((ZK l u j).getD j za) from rfl,hat];refine go ⟨?_⟩;have hmu:=hnu.1;rw [hz];refine cg p8 (pI (u.getD j za).inner.unm l (by omega) (by omega)) ⟨?_⟩;refine je ⟨⟨j+1,hlt⟩,by simp only;omega, ?_⟩;refine (Tells.objf 0 (fE zf ((ZK l u j).set j (vY l (u.getD j za)))) rfl (fun k hk=>WM _ (by simpa [hdl] using hk))).trans ?_;simp only [hsc];exact tel
    ·rw [beq_eq_false_iff_ne.2 h7];rw [uV l hck h7,←hat,hsd] at hsc;refine ms10 ⟨?_⟩;simp only [hsc];exact tel
   ·have hdn:=pb (l:=l) (j:=j) (m:=u.getD j za) ⟨h2,hc⟩;rw [hdn,zg9] at hsc;refine go ⟨?_⟩;refine zz (Tells.le (H':=[{T:=85,sz:=8,n:=u.length,f:=fE zf ((ZK l u j).set j za)}]) (.refl _) (.cons (.les (Nat.le_refl _) fun k hk=>wF _ j (by rw [hdl];exact hk)) .nil)) ?_;refine go ⟨?_⟩;have hz:((ZK l u j).set j za).getD j zf.z=za:=by simp [List.getD_eq_getElem?_getD,hdl,hlt]
    rw [hz];refine ms10 ⟨?_⟩;simp only [hsc];exact tel
  ·rw [show j % 2=1 by omega];have hdn:=j1 (l:=l) (j:=j) (m:=u.getD j za) (fun h=>h2 h.1);rw [hdn] at hsc;refine go ⟨?_⟩;have hz:(ZK l u j).getD j zf.z=u.getD j za:=hat
   rw [hz];by_cases h7:(u.getD j za).kind=2
   ·rw [beq_iff_eq.2 h7];refine go ⟨?_⟩;rw [show fE zf (ZK l u j) j=Zb ((ZK l u j).getD j za) from rfl,hat];refine go ⟨?_⟩;have hmu:=hnu.1;rw [hz];refine cg p8 (pI (u.getD j za).inner.unm l (by omega) (by omega)) ⟨?_⟩;refine je ⟨⟨j+1,hlt⟩,by simp only;omega, ?_⟩;refine (Tells.objf 0 (fE zf ((ZK l u j).set j (vY l (u.getD j za)))) rfl (fun k hk=>WM _ (by simpa [hdl] using hk))).trans ?_;simp only [hsc];exact tel
   ·rw [beq_eq_false_iff_ne.2 h7];rw [uV l hck h7,←hat,hsd] at hsc;refine ms10 ⟨?_⟩;simp only [hsc];exact tel
 ·obtain rfl:j=u.length:=by omega
  generalize ZK l u u.length=v at*;rw [←hdl];exact gf
theorem zcJ:ze Tryz.prog 302:=gfn Tryz.func302
theorem KB (t:zc) (l:List Int):(Qd t l).length≤127:=by
 have:=zR t
 unfold Qd;simp only [List.length_map,List.length_zipIdx];exact this
theorem JZ (t:zc) (x:Int) (l:List Int) (ht:t.length≤1000000) (hll:l.length≤1000000):APure Tryz.prog 268 [zg t,int x,Zn l] (bytes (xn t x l)) []:=by
 refine ent Tryz.func268 Tryz.ntmps268 ⟨?_⟩;have hdl:=KB t l;unfold xn;refine gc zcJ (zcB t l ht hll) ⟨?_⟩;generalize Qd t l=d at*;exact gcgf zdh (zep d x (by omega))
theorem JO:ze Tryz.prog 268:=gfn Tryz.func268
end
section
theorem zdW (t:zc) {i j:Nat} (n:Zt) (hi:i<t.length):(t.set j n).getD i za=if j=i then n else t.getD i za:=by
 simp only [List.getD_eq_getElem?_getD,List.getElem?_set];by_cases h:j=i
 ·subst h;rw [if_pos rfl,if_pos rfl,if_pos hi];rfl
 ·rw [if_neg h,if_neg h]
theorem Y5 (t:zc) (j:Nat):vW t j=true↔Xf j (t.getD j za).kind=true∧zC (t.getD j za)=0:=by
 unfold vW;rw [Bool.and_eq_true,decide_eq_true_eq]
theorem PA {t u:zc} (hs:zW t=true) (hl:u.length=t.length) (h: ∀j,j<t.length→vW u j=true):zW u=true:=by
 rw [yB] at hs ⊢;rw [hl];exact ⟨h,hs.2⟩
theorem vq {t:zc} (hs:zW t=true) {j:Nat} (hj:j<t.length):Xf j (t.getD j za).kind=true∧zC (t.getD j za)=0:=(Y5 t j).1 (((yB t).1 hs).1 j hj)
theorem gb {t:zc} (hs:zW t=true) {j:Nat} {n:Zt} (h:Xf j n.kind=true) (h2:zC n=0):zW (t.set j n)=true:=by
 refine PA hs (by simp) fun i hi=> ?_
 rw [Y5,zdW _ _ hi];by_cases e:j=i
 ·subst e;rw [if_pos rfl];exact ⟨h,h2⟩
 ·rw [if_neg e];exact vq hs hi
theorem Jo (j:Nat):Xf j 0=true:=by unfold Xf;split <;>rfl
theorem Ju:zC za=0:=rfl
theorem pU (xs:List Int) (t:zc) {j:Nat} (hj:j<t.length):(Za xs t).getD j za=if xs.contains (j:Int) then za else t.getD j za:=by
 have:=qd xs t hj
 simp only [List.getD_eq_getElem?_getD];rw [List.getElem?_eq_getElem (by rw [z_];exact hj),List.getElem?_eq_getElem hj,Option.getD_some,Option.getD_some,this]
theorem VW {t:zc} (hs:zW t=true) (xs:List Int):zW (Za xs t)=true:=by
 refine PA hs (z_ _ _) fun j hj=> ?_
 rw [Y5,pU _ _ hj];split
 ·exact ⟨Jo _,Ju⟩
 ·exact vq hs hj
theorem Vy (t:zc) (i:Int):zW (Zw t i).1=true:=by
 unfold Zw;split
 ·rfl
 ·exact VW (zG t) _
theorem gp {w:Nat} (h:yf w=true) (h0:0<w / 2):yf ((w / 2:Nat):Int)=true:=by
 have:=of_decide_eq_true h
 exact decide_eq_true (by omega)
theorem UA (t:zc) {k j:Nat} (h:j<k):(t.take k).getD j za=t.getD j za:=by
 simp only [List.getD_eq_getElem?_getD,List.getElem?_take,h,if_true]
theorem zbX {t:zc} (hs:zW t=true) (h0:0<t.length / 2):zW (t.take (t.length / 2))=true:=by
 have hl:(t.take (t.length / 2)).length=t.length / 2:=by rw [List.length_take];omega
 rw [yB];rw [hl];refine ⟨fun j hj=> ?_, .inr (gp (ZE hs (by omega)) h0)⟩;rw [Y5,UA _ hj];exact vq hs (by omega)
theorem J3: ∀(k:Nat) (t:zc),zW t=true→zW (wV k t)=true
 |0,t,h=>h
 |k+1,t,h=>by
  rw [wV];split
  ·rename_i h1;exact J3 k _ (zbX h h1.1)
  ·exact h
theorem zcb (t:zc):zW (WL t)=true:=by
 unfold WL;simp only;split
 ·rfl
 ·exact J3 7 _ (zG t)
theorem vz (t:zc):zW (ZN t).1=true:=by
 unfold ZN;split
 ·rfl
 ·rename_i h;have hs:=zG t;have hl:=zR t;have hg:(rAs t++List.replicate ((rAs t).length+1) za).length=2*(rAs t).length+1:=by simp;omega
  simp only;rw [yB,hg];refine ⟨fun j hj=> ?_, .inr ?_⟩
  ·rw [Y5];by_cases h1:j<(rAs t).length
   ·rw [show (rAs t++List.replicate ((rAs t).length+1) za).getD j za=(rAs t).getD j za by simp [List.getD_eq_getElem?_getD,List.getElem?_append_left h1]];exact vq hs h1
   ·rw [show (rAs t++List.replicate ((rAs t).length+1) za).getD j za=za by
     simp only [List.getD_eq_getElem?_getD];rw [List.getElem?_append_right (by omega),List.getElem?_replicate,if_pos (by omega)];rfl]
    exact ⟨Jo _,Ju⟩
  ·by_cases h0:(rAs t).length=0
   ·rw [h0];rfl
   ·have:=of_decide_eq_true (ZE hs h0)
    exact decide_eq_true (by omega)
theorem JQ {l:zM} (h:YF l=0):zC ⟨1,l,yd⟩=0:=by
 unfold zC;rw [if_neg (by simp),if_neg (by simp),if_pos rfl,h]
theorem Ql {n:YS} (h:y9 n=0):zC ⟨2,ZF,n⟩=0:=by
 unfold zC;rw [if_neg (by simp),if_neg (by simp),if_neg (by simp),if_pos rfl,h]
theorem X8 {t:zc} (hs:zW t=true) (i:Int) {l:zM} (h:YF l=0):zW (yr t i l)=true:=by
 refine gb hs ?_ (JQ h);unfold Xf;rw [if_pos (by omega)];rfl
theorem Y_ (t:zc) (i:Int) (l:zM):(yr t i l).length=t.length:=by simp [yr]
theorem Ke: ∀(l:List Int) (a:Int),a≤64→l.Pairwise (· < ·)→(∀x∈l,a≤x∧x≤63)→(l.length:Int)≤64 - a
 |[],a,ha,_,_=>by simp;omega
 |x::l,a,ha,h,hb=>by
  rw [List.pairwise_cons] at h;have hx:=hb x (by simp);have:=Ke l (x+1) (by omega) h.2 fun y hy=>⟨by have:=h.1 y hy;omega,(hb y (by simp [hy])).2⟩
  simp only [List.length_cons];omega
theorem K7 (n:YS):y9 n=0↔n.enc.length≠0∧n.enc.length≤200∧n.hash.length≤200∧n.unm.length≤64∧(∀i∈n.unm,0≤i∧i≤63)∧X9 n.unm=true:=by
 have hany:n.unm.any (fun i=>decide (i<0∨i>63))=true↔ ¬ ∀i∈n.unm,0≤i∧i≤63:=by
  rw [List.any_eq_true];constructor
  ·rintro ⟨i,hi,h⟩ hall
   have:=of_decide_eq_true h
   have:=hall i hi;omega
  ·intro h;refine Classical.byContradiction fun hn=>h fun i hi=> ?_
   refine Classical.byContradiction fun h2=>hn ⟨i,hi,decide_eq_true (by omega)⟩
 unfold y9;split
 ·rename_i h;exact ⟨fun h=>by simp at h,fun h2=>absurd h h2.1⟩
 split
 ·rename_i h;exact ⟨fun h=>by simp at h,fun h2=>by omega⟩
 split
 ·rename_i h;exact ⟨fun h=>by simp at h,fun h2=>absurd h2.2.2.2.2.1 (hany.1 h)⟩
 split
 ·rename_i h;exact ⟨fun h=>by simp at h,fun h2=>by rw [h2.2.2.2.2.2] at h;cases h⟩
 ·rename_i h1 h2 h3 h4;refine ⟨fun _=>⟨h1,by omega,by omega,by omega,Classical.byContradiction fun h=>h3 (hany.2 h),by simpa using h4⟩,fun _=>rfl⟩
theorem T7 {n:YS} (h:y9 n=0) {i:Int} (hi:0≤i∧i≤63):y9 {n with unm:=Va n.unm i}=0:=by
 rw [K7] at h ⊢;obtain ⟨h1,h2,h3,h4,h5,h6⟩:=h;have hlt:=WR (n.unm++[i])
 have hm: ∀x∈Va n.unm i,0≤x∧x≤63:=fun x hx=>by
  have:=(Wy _ x).1 hx
  rw [List.mem_append,List.mem_singleton] at this;rcases this with h|rfl
  ·exact h5 x h
  ·exact hi
 refine ⟨h1,h2,h3, ?_,hm,(VF _).2 hlt⟩;have:=Ke _ 0 (by omega) hlt hm
 simp only [Va] at*;omega
theorem gO {n:Zt} (h:zC n=0) (h2:n.kind=2):n.leaf=ZF∧y9 n.inner=0:=by
 unfold zC at h;split at h
 ·simp at h
 ·split at h
  ·simp at h
  ·rename_i h3 h4;have h:y9 n.inner=0:=by simpa [h2] using h
   refine ⟨Classical.byContradiction fun h5=>h4 (.inl ⟨by omega,h5⟩),h⟩
theorem Y1 (xs:List Int) (i:Int) (t:zc):(Zo xs i t).length=t.length:=by simp [Zo]
def Vc (i:Int) (n:Zt):Zt:={n with inner:={n.inner with unm:=Va n.inner.unm i}}
theorem J9 (xs:List Int) (i:Int) (t:zc) {j:Nat} (hj:j<t.length):(Zo xs i t).getD j za=if xs.contains (j:Int)=true∧(t.getD j za).kind=2 then Vc i (t.getD j za) else t.getD j za:=by
 simp [Zo,List.getD_eq_getElem?_getD,hj,Vc]
theorem zcf {t:zc} (hs:zW t=true) (xs:List Int) {i:Int} (hi:0≤i∧i≤63):zW (Zo xs i t)=true:=by
 refine PA hs (Y1 _ _ _) fun j hj=> ?_
 rw [Y5,J9 _ _ _ hj];have h:=vq hs hj;split
 ·rename_i h2;refine ⟨h.1, ?_⟩;obtain ⟨g1,g2⟩:=gO h.2 h2.2;have:=Ql (T7 g2 hi)
  generalize hm:t.getD j za=m at*;obtain ⟨k,lf,inr⟩:=m;obtain ⟨_,hk⟩:=h2;simp only at hk g1;subst hk g1;exact this
 ·exact h
theorem jy (t:zc):ZI t= -1∨0≤ZI t∧ZI t≤63∧2*ZI t<(rAs t).length:=by
 have hl:=zR t;unfold ZI;split
 ·rename_i p hp;obtain ⟨h1,i,hi,h2,h3⟩:=List.find?_eq_some_iff_getElem.1 hp;simp only [List.length_zipIdx] at hi;have:p.2=i:=by rw [←h2];simp
  right;omega
 ·left;rfl
theorem zcz {t:zc} {j:Nat} (hj:j<(rAs t).length) (h:wT (rAs t) j=true):ZI t≠ -1:=by
 intro hf;unfold ZI at hf;split at hf
 ·rename_i p hp;omega
 ·rename_i hn;rw [List.find?_eq_none] at hn;refine hn ((rAs t).getD j za,j) ?_ h;rw [List.mem_zipIdx_iff_getElem?];simp [List.getD_eq_getElem?_getD,hj]
theorem Jq {t:zc} (h:(ZN t).2=0):0≤ZI (ZN t).1∧ZI (ZN t).1≤63∧2*ZI (ZN t).1<(ZN t).1.length:=by
 have hg:=vz t;have hr:=wU hg;rcases jy (ZN t).1 with h1|h1
 ·exfalso
  have hs:=zG t
  have hw:(rAs t).length=0∨(rAs t).length % 2=1:=by
   by_cases h0:(rAs t).length=0
   ·exact .inl h0
   ·have:=of_decide_eq_true (ZE hs h0);omega
  have hgt:(ZN t).1=rAs t++List.replicate ((rAs t).length+1) za:=by
   unfold ZN at h ⊢;split at h
   ·simp at h
   ·rename_i h2;rw [if_neg h2]
  have hgl:(ZN t).1.length=2*(rAs t).length+1:=by rw [hgt];simp;omega
  have hlast:(ZN t).1.getD (2*(rAs t).length) za=za:=by
   rw [hgt];simp only [List.getD_eq_getElem?_getD];rw [List.getElem?_append_right (by omega),List.getElem?_replicate];split <;>rfl
  refine zcz (t:=(ZN t).1) (j:=2*(rAs t).length) (by rw [hr];omega) ?_ h1;unfold wT;rw [hr,hlast,decide_eq_true (by omega)];rfl
 ·rw [hr] at h1;exact h1
theorem wC {l:zM} {s:Int} (h:Zi l s=0):YF l=0:=by
 unfold Zi at h;split at h
 ·simp at h
 ·exact h
theorem kY {t:zc} (hs:zW t=true) {i:Int} {l:zM} (h:YF l=0) (hi:0≤i∧i≤63):zW (VU t i l)=true:=zcf (X8 hs i h) _ hi
theorem zeu (t:zc) (l:zM):zW (yw t l).1=true:=by
 unfold yw;simp only;split
 ·rfl
 ·rename_i h;have hl:=wC (Classical.byContradiction fun h2=>h h2);split
  ·rename_i h1;have:=(jy (rAs t)).resolve_left h1
   exact kY (zG t) hl ⟨this.1,this.2.1⟩
  ·split
   ·rfl
   ·rename_i h2;have:=Jq (t:=rAs t) (Classical.byContradiction fun h3=>h2 h3)
    exact kY (vz _) hl ⟨this.1,this.2.1⟩
theorem TM (t:zc) (i:Int):zW (ZC t i).1=true:=by
 unfold ZC;simp only;split
 ·rfl
 ·exact zcb _
theorem PQ (t:zc) (i:Int) (l:zM):zW (Zy t i l).1=true:=by
 unfold Zy;simp only;split
 ·rfl
 ·split
  ·rfl
  ·rename_i h;exact X8 (Vy _ _) _ (wC (Classical.byContradiction fun h2=>h h2))
theorem UM (b:List UInt8):(Yh b).length=32:=by
 have h1:(Yn WW b).h.length=8:=y_ _ _ rfl
 unfold Yh wW;obtain ⟨h2,_⟩:=WS h1;have h3:=y_ (wh (Yn WW b)) (Y4 (wh (Yn WW b)).n) h2;have:=YJ (h:=(Yn (wh (Yn WW b)) (Y4 (wh (Yn WW b)).n)).h) (i:=8) (by omega)
 unfold yT at this;rw [List.take_of_length_le (by omega)] at this;exact this
theorem Gm: ∀(i:Fin 7) (n:Fin 127),n.val<2^(i.val+1) - 1→(zy (n.val:Int) ((2^(i.val+1) - 1:Nat):Int)).all (fun y=>decide (y % 2=1))=true:=by decide+kernel
theorem Vz {t:zc} {i:Int} (hs:zW t=true) {y:Int} (h:y∈Zf t i):y % 2=1∧0≤y∧y<t.length:=by
 by_cases h0:i<0∨i≥zp t
 ·rw [ue h0] at h;cases h
 have hlv:zp t=(((rAs t).length+1) / 2:Nat):=rfl
 have hr:=wU hs;rw [UJ (by omega) (by omega) (by rw [hr]),hr] at h;rw [hr] at hlv;obtain ⟨n,rfl⟩: ∃n:Nat,i=n:=⟨i.toNat,by omega⟩;obtain ⟨c,hc,rfl⟩:=List.mem_map.1 h;have hw:=ZE hs (by omega);have hodd:=of_decide_eq_true hw;have hI:=QH hs (n:=2*n) (by omega);rw [show 2*(n:Int)=((2*n:Nat):Int) by omega] at hc
 have hm:zm c t.length∈zy ((2*n:Nat):Int) t.length:=by
  rw [←(JJ hI).2.1];exact List.mem_map.2 ⟨c,(List.mem_filter.1 hc).1,rfl⟩
 have hp:=Z_ (YP hm);obtain ⟨k,m,hk,hl,h'⟩:=WF hI;rw [hk,hl] at hm;have:=List.all_eq_true.1 (Gm k m h') _ hm
 rw [←hl] at this;exact ⟨of_decide_eq_true this,hp.1,hp.2.1⟩
theorem V3: ∀(ks:List (List UInt8)),Zv ks=0→ ∀k∈ks,k.length≠0∧k.length≤200
 |[],_,k,hk=>by cases hk
 |a::ks,h,k,hk=>by
  rw [Zv] at h;split at h
  ·simp at h
  ·split at h
   ·simp at h
   ·rename_i h1 h2;rcases List.mem_cons.1 hk with rfl|hk
    ·exact ⟨h1,by omega⟩
    ·exact V3 ks h k hk
theorem zbV (t:zc) (x c:Int):(yF t x c).length=32:=UM _
theorem JK: ∀(l:List (Int×Int×List UInt8)) (t:zc) (said:List UInt8),zW t=true→said.length≤200→(∀p∈l,p.1 % 2=1∧0≤p.1∧p.2.2.length≠0∧p.2.2.length≤200)→zW (YK l t said).1=true∧(YK l t said).1.length=t.length
 |[],t,said,hs,_,_=>⟨hs,rfl⟩
 |(x,b,key)::l,t,said,hs,hl,h=>by
  obtain ⟨h1,h2,h3,h4⟩:=h _ List.mem_cons_self;simp only at h1 h2 h3 h4;rw [YK]
  have hs':zW (t.set x.toNat ⟨2,ZF,⟨key,said,[]⟩⟩)=true:=by
   refine gb hs ?_ (Ql ((K7 _).2 ⟨h3,h4,hl,by simp,by simp,rfl⟩));unfold Xf;rw [if_neg (by omega)];rfl
  have:=JK l _ (yF (t.set x.toNat ⟨2,ZF,⟨key,said,[]⟩⟩) x (zE b t.length)) hs' (by rw [zbV];decide) fun p hp=>h p (List.mem_cons_of_mem _ hp)
  exact ⟨this.1,this.2.trans (by simp)⟩
theorem za6 {t:zc} (hs:zW t=true) (i:Int) (keys:List (List UInt8)):zW (ZG t i keys).1=true:=by
 unfold ZG;split
 ·rfl
 split
 ·rfl
 split
 ·rfl
 ·rename_i h1 h2 h3;simp only;refine (JK _ _ _ (VW (zG t) _) (by simp) fun p hp=> ?_).1;rw [List.mem_reverse] at hp;obtain ⟨x,b,k⟩:=p;have hx:=(List.of_mem_zip hp).1
  have hk:=(List.of_mem_zip (List.of_mem_zip hp).2).2
  have ho:=Vz hs hx;have:=V3 keys (Classical.byContradiction fun h=>h3 h) k hk
  exact ⟨ho.1,ho.2.1,this⟩
theorem Th (t:zc) (i:Int) (l:zM) (keys:List (List UInt8)):zW (ZA t i l keys).1=true:=by
 unfold ZA;simp only;split
 ·rfl
 split
 ·rfl
 split
 ·rfl
 split
 ·rfl
 ·rename_i _ h _ _;exact X8 (za6 (zG t) i keys) _ (wC (Classical.byContradiction fun h2=>h h2))
theorem TC {l:zM} {r:List UInt8} (h:(jG l r).2.2=0):YF (jG l r).1=0:=by
 unfold jG at h ⊢;split
 ·rename_i h1;rw [if_pos h1] at h;exact absurd h h1
 ·rename_i h1;exact Classical.byContradiction fun h2=>h1 h2
theorem zhF {b:List UInt8} (h:(vg b).2.2=0):YF (vg b).1=0:=by
 unfold vg tm at h ⊢;split
 ·rename_i h1;rw [if_pos h1] at h;exact absurd h h1
 rename_i h1;rw [if_neg h1] at h;unfold ge at h ⊢;split
 ·rename_i h1;rw [if_pos h1] at h;exact absurd h h1
 rename_i h1;rw [if_neg h1] at h;unfold tS at h ⊢;split
 ·rename_i h1;rw [if_pos h1] at h;exact absurd h h1
 rename_i h1;rw [if_neg h1] at h;split
 ·rename_i h1;rw [if_pos h1] at h;exact absurd h (by decide)
 rename_i h1;rw [if_neg h1] at h;unfold T_ at h ⊢;split
 ·rename_i h1;rw [if_pos h1] at h;exact TC h
 rename_i h1;rw [if_neg h1] at h;split
 ·rename_i h1;rw [if_pos h1] at h;exact absurd h h1
 rename_i h1;rw [if_neg h1] at h;exact TC h
theorem zhJ {b:List UInt8} (h:(Q4 b).2.2=0):y9 (Q4 b).1=0:=by
 unfold Q4 at h ⊢;split
 ·rename_i h1;rw [if_pos h1] at h;exact absurd h h1
 rename_i h1;rw [if_neg h1] at h;split
 ·rename_i h1;rw [if_pos h1] at h;exact absurd h h1
 rename_i h1;rw [if_neg h1] at h;split
 ·rename_i h1;rw [if_pos h1] at h;exact absurd h h1
 rename_i h1;rw [if_neg h1] at h;split
 ·rename_i h1;rw [if_pos h1] at h;exact absurd h h1
 rename_i h1;exact Classical.byContradiction fun h2=>h1 h2
theorem Ha {b:List UInt8} (h:(YU b).2.2=0):zC (YU b).1=0:=by
 unfold YU at h ⊢;split
 ·rename_i h1;rw [if_pos h1] at h;exact absurd h h1
 rename_i h1;rw [if_neg h1] at h;split
 ·rfl
 rename_i h1;rw [if_neg h1] at h;split
 ·rename_i h1;rw [if_pos h1] at h;exact absurd h h1
 rename_i h1;rw [if_neg h1] at h;split
 ·rename_i h1;rw [if_pos h1] at h;split
  ·rename_i h1;rw [if_pos h1] at h;exact absurd h h1
  ·rename_i h1;exact JQ (zhF (Classical.byContradiction fun h2=>h1 h2))
 rename_i h1;rw [if_neg h1] at h;split
 ·rename_i h1;rw [if_pos h1] at h;split
  ·rename_i h1;rw [if_pos h1] at h;exact absurd h h1
  ·rename_i h1;exact Ql (zhJ (Classical.byContradiction fun h2=>h1 h2))
 rename_i h1;rw [if_neg h1] at h;exact absurd h (by decide)
theorem Gv: ∀(k:Nat) (b:List UInt8) (t:zc),(∀j,j<t.length→vW t j=true)→t.length≤127→(∀j,j<(YV k b t).1.length→vW (YV k b t).1 j=true)∧(YV k b t).1.length≤127
 |0,b,t,h,hl=>⟨h,hl⟩
 |k+1,b,t,h,hl=>by
  have h0:(∀j,j<([]:zc).length→vW [] j=true)∧([]:zc).length≤127:=⟨fun j hj=>by simp at hj,by simp⟩
  rw [YV];split
  ·exact ⟨h,hl⟩
  split
  ·exact h0
  split
  ·exact h0
  split
  ·exact h0
  ·rename_i h1 h2 h3 h4;refine Gv k _ _ (fun j hj=> ?_) (by simp;omega);rw [Y5];by_cases hlt:j<t.length
   ·rw [show (t++[(YU b).1]).getD j za=t.getD j za by simp [List.getD_eq_getElem?_getD,List.getElem?_append_left hlt]];exact (Y5 t j).1 (h j hlt)
   ·simp only [List.length_append,List.length_cons,List.length_nil] at hj;obtain rfl:j=t.length:=by omega
    rw [show (t++[(YU b).1]).getD t.length za=(YU b).1 by simp [List.getD_eq_getElem?_getD]];exact ⟨by simpa using h4,Ha (Classical.byContradiction fun h=>h3 h)⟩
theorem jh {n:Nat} (h:n≤127):n≤Xd n∧yf (Xd n)=true∧Xd n≤127:=by
 unfold Xd;repeat' (first|split|exact ⟨by omega,rfl,by omega⟩)
theorem Pn {t:zc} (h:t.length≤127):(w_ t).length=Xd t.length:=by
 have:=jh h
 unfold w_;simp;omega
theorem zd9 {t:zc} (h: ∀j,j<t.length→vW t j=true) (hl:t.length≤127):zW (w_ t)=true:=by
 have hw:=jh hl;rw [yB,Pn hl];refine ⟨fun j hj=> ?_, .inr hw.2.1⟩;rw [Y5];unfold w_;by_cases hlt:j<t.length
 ·rw [show (t++List.replicate (Xd t.length - t.length) za).getD j za=t.getD j za by simp [List.getD_eq_getElem?_getD,List.getElem?_append_left hlt]];exact (Y5 t j).1 (h j hlt)
 ·rw [show (t++List.replicate (Xd t.length - t.length) za).getD j za=za by
   simp only [List.getD_eq_getElem?_getD];rw [List.getElem?_append_right (by omega),List.getElem?_replicate];split <;>rfl]
  exact ⟨Jo _,Ju⟩
theorem zc8 (b:List UInt8):zW (xW b).1=true:=by
 unfold xW;split
 ·rfl
 split
 ·rfl
 split
 ·rfl
 split
 ·rfl
 split
 ·rfl
 split
 ·rfl
 ·have:=Gv 128 (zd b).1 [] (fun j hj=>by simp at hj) (by simp)
  exact zd9 this.1 this.2
theorem Wx: ∀(l:List YW) (a b:Int),yh a l=some b→a≤b
 |[],a,b,h=>by simp only [yh,Option.some.injEq] at h;omega
 |k::l,a,b,h=>by
  rw [yh] at h;split at h
  ·cases h
  ·have:=Wx l _ _ h;omega
theorem gy {l' l:List YW} (hl:l'.Sublist l): ∀(a' a b:Int),a'≤a→yh a l=some b→ ∃b',yh a' l'=some b'∧b'≤b:=by
 induction hl with
 |slnil=>
  intro a' a b ha h;simp only [yh,Option.some.injEq] at h;exact ⟨a',rfl,by omega⟩
 |cons k _ ih=>
  intro a' a b ha h;rw [yh] at h;split at h
  ·cases h
  ·rename_i h1;exact ih a' k.id b (by omega) h
 |cons_cons k _ ih=>
  intro a' a b ha h;rw [yh] at h;split at h
  ·cases h
  ·rename_i h1;rw [yh,if_neg (fun h2=>h1 (h2.imp (fun h3=>by omega) id))];exact ih k.id k.id b (Int.le_refl _) h
theorem J0: ∀(l:List YW) (a b:Int) (k:YW),yh a l=some b→b<k.id→zW k.t=true→yh a (l++[k])=some k.id
 |[],a,b,k,h,h1,h2=>by
  simp only [yh,Option.some.injEq] at h;subst h;rw [List.nil_append,yh,if_neg (by rw [h2];simp;omega)];rfl
 |x::l,a,b,k,h,h1,h2=>by
  rw [yh] at h;split at h
  ·cases h
  ·rename_i h3;rw [List.cons_append,yh,if_neg h3];exact J0 l _ b k h h1 h2
theorem Xy: ∀(l:List YW) (a b:Int),yh a l=some b→(∀k∈l,zW k.t=true∧a<k.id∧k.id≤b)∧l.Pairwise fun x y=>x.id<y.id
 |[],a,b,h=>⟨fun k hk=>(by cases hk), .nil⟩
 |x::l,a,b,h=>by
  rw [yh] at h;split at h
  ·cases h
  ·rename_i h3;have h1: ¬x.id≤a:=fun h=>h3 (.inl h)
   have h2:zW x.t=true:=by
    cases h4:zW x.t with
    |true=>rfl
    |false=>exact (h3 (.inr h4)).elim
   obtain ⟨h5,h6⟩:=Xy l _ _ h;have h7:=Wx l _ _ h;refine ⟨fun k hk=> ?_,List.pairwise_cons.2 ⟨fun k hk=>(h5 k hk).2.1,h6⟩⟩;rcases List.mem_cons.1 hk with rfl|hk
   ·exact ⟨h2,by omega,h7⟩
   ·have:=h5 k hk;exact ⟨this.1,by omega,this.2.2⟩
theorem Yb (s:MSt):Zd s=true↔ ∃last,yh 0 s.kept=some last∧zW s.t=true∧s.kept.length≤8∧last≤s.next∧s.next≤1099511627776:=by
 unfold Zd;cases h:yh 0 s.kept with
 |none=>simp
 |some last=>simp [and_assoc]
theorem WD:Zd Zu=true:=rfl
theorem wE (s:MSt):Zd (mAs s)=true:=by
 unfold mAs;split
 ·rename_i h;exact h
 ·rfl
theorem Xw {s:MSt} (h:Zd s=true):mAs s=s:=by unfold mAs;rw [if_pos h]
theorem Pi {s:MSt} (h:Zd s=true) {t:zc} (ht:zW t=true):Zd ⟨t,s.kept,s.next⟩=true:=by
 rw [Yb] at h ⊢;obtain ⟨last,h1,h2,h3⟩:=h;exact ⟨last,h1,ht,h3⟩
theorem W2 {s:MSt} (h:Zd s=true) {t:zc} (ht:zW t=true) (e:Int):Zd (Z1 s t e).1=true:=by
 unfold Z1;split
 ·exact Pi h ht
 ·exact h
theorem gT {s:MSt} (h:Zd s=true):Zd (yN s).1=true:=by
 unfold yN;split
 ·exact h
 ·rename_i h2;rw [Yb] at h ⊢;obtain ⟨last,h1,h3,h4,h5,h6⟩:=h;exact ⟨s.next+1,J0 _ _ _ _ h1 (by simp only;omega) h3,h3,by simp;omega,Int.le_refl _,by simp only;omega⟩
theorem zbo {s:MSt} (h:Zd s=true) {k:Nat} (hk:k<s.kept.length):zW (s.kept.getD k ⟨0,[]⟩).t=true:=by
 rw [Yb] at h;obtain ⟨last,h1,_⟩:=h;have:=((Xy _ _ _ h1).1 _ (List.getElem_mem hk)).1
 rw [show s.kept.getD k ⟨0,[]⟩=s.kept[k] by simp [List.getD_eq_getElem?_getD,hk]];exact this
theorem yb {s:MSt} {id:Int} (h: ¬zq s id<0):(zq s id).toNat<s.kept.length∧(s.kept.getD (zq s id).toNat ⟨0,[]⟩).id=id∧0≤zq s id:=by
 unfold zq at h ⊢;cases hf:s.kept.findIdx? (fun k=>decide (k.id=id)) with
 |none=>rw [xK hf] at h;omega
 |some i=>
  rw [xJ hf];obtain ⟨h1,h2,_⟩:=List.findIdx?_eq_some_iff_getElem.1 hf;refine ⟨h1, ?_,by omega⟩;have:=of_decide_eq_true h2
  rw [←this];simp [List.getD_eq_getElem?_getD,h1]
theorem tg {s:MSt} (h:Zd s=true) (k:Nat):Zd ⟨s.t,s.kept.eraseIdx k,s.next⟩=true:=by
 rw [Yb] at h ⊢;obtain ⟨last,h1,h2,h3,h4,h5⟩:=h;obtain ⟨b,g1,g2⟩:=gy (List.eraseIdx_sublist s.kept k) 0 0 last (Int.le_refl _) h1;exact ⟨b,g1,h2,Nat.le_trans (List.eraseIdx_sublist s.kept k).length_le h3,by simp only;omega,h5⟩
def Yq (s:MSt) (o:MOp):MSt×wX:=
 if o.what=1 then (if (yw s.t o.l).2.2=0 then (⟨(yw s.t o.l).1,s.kept,s.next⟩,⟨0,(yw s.t o.l).2.1,[],[],false⟩) else (s,zu (yw s.t o.l).2.2))
 else if o.what=2 then Z1 s (ZC s.t o.i).1 (ZC s.t o.i).2
 else if o.what=3 then Z1 s (Zy s.t o.i o.l).1 (Zy s.t o.i o.l).2
 else if o.what=4 then Z1 s (ZA s.t o.i o.l o.keys).1 (ZA s.t o.i o.l o.keys).2
 else if o.what=8 then Z1 s (xW o.b).1 (xW o.b).2
 else if o.what=5 then yN s
 else if o.what=6 then (if zq s o.i<0 then (s,zu 13) else (⟨(s.kept.getD (zq s o.i).toNat ⟨0,[]⟩).t,s.kept,s.next⟩,zu 0))
 else if o.what=7 then (if zq s o.i<0 then (s,zu 13) else (⟨s.t,s.kept.eraseIdx (zq s o.i).toNat,s.next⟩,zu 0))
 else if o.what<9∨o.what>15 then (s,zu 14)
 else if o.old=0 then (s,ZL s.t o) else if zq s o.old<0 then (s,zu 13) else (s,ZL (s.kept.getD (zq s o.old).toNat ⟨0,[]⟩).t o)
theorem xi (s:MSt) (o:MOp):mDo s o=Yq (mAs s) o:=rfl
theorem X_ {C:MSt×wX→Prop} (s:MSt) (o:MOp)
 (h1:o.what=1→C (if (yw s.t o.l).2.2=0 then (⟨(yw s.t o.l).1,s.kept,s.next⟩,⟨0,(yw s.t o.l).2.1,[],[],false⟩) else (s,zu (yw s.t o.l).2.2)))
 (h2:o.what=2→C (Z1 s (ZC s.t o.i).1 (ZC s.t o.i).2)) (h3:o.what=3→C (Z1 s (Zy s.t o.i o.l).1 (Zy s.t o.i o.l).2))
 (h4:o.what=4→C (Z1 s (ZA s.t o.i o.l o.keys).1 (ZA s.t o.i o.l o.keys).2)) (h8:o.what=8→C (Z1 s (xW o.b).1 (xW o.b).2)) (h5:o.what=5→C (yN s))
 (h6:o.what=6→C (if zq s o.i<0 then (s,zu 13) else (⟨(s.kept.getD (zq s o.i).toNat ⟨0,[]⟩).t,s.kept,s.next⟩,zu 0)))
 (h7:o.what=7→C (if zq s o.i<0 then (s,zu 13) else (⟨s.t,s.kept.eraseIdx (zq s o.i).toNat,s.next⟩,zu 0)))
 (h9:o.what<1∨o.what>15→C (s,zu 14))
 (h10:9≤o.what∧o.what≤15→C (if o.old=0 then (s,ZL s.t o) else if zq s o.old<0 then (s,zu 13) else (s,ZL (s.kept.getD (zq s o.old).toNat ⟨0,[]⟩).t o))):C (Yq s o):=by
 unfold Yq;by_cases c1:o.what=1
 ·rw [if_pos c1];exact h1 c1
 by_cases c2:o.what=2
 ·rw [if_neg c1,if_pos c2];exact h2 c2
 by_cases c3:o.what=3
 ·rw [if_neg c1,if_neg c2,if_pos c3];exact h3 c3
 by_cases c4:o.what=4
 ·rw [if_neg c1,if_neg c2,if_neg c3,if_pos c4];exact h4 c4
 by_cases c8:o.what=8
 ·rw [if_neg c1,if_neg c2,if_neg c3,if_neg c4,if_pos c8];exact h8 c8
 by_cases c5:o.what=5
 ·rw [if_neg c1,if_neg c2,if_neg c3,if_neg c4,if_neg c8,if_pos c5];exact h5 c5
 by_cases c6:o.what=6
 ·rw [if_neg c1,if_neg c2,if_neg c3,if_neg c4,if_neg c8,if_neg c5,if_pos c6];exact h6 c6
 by_cases c7:o.what=7
 ·rw [if_neg c1,if_neg c2,if_neg c3,if_neg c4,if_neg c8,if_neg c5,if_neg c6,if_pos c7];exact h7 c7
 by_cases c9:o.what<9∨o.what>15
 ·rw [if_neg c1,if_neg c2,if_neg c3,if_neg c4,if_neg c8,if_neg c5,if_neg c6,if_neg c7,if_pos c9];exact h9 (by omega)
 ·rw [if_neg c1,if_neg c2,if_neg c3,if_neg c4,if_neg c8,if_neg c5,if_neg c6,if_neg c7,if_neg c9];exact h10 (by omega)
theorem YQ (s:MSt) (o:MOp):Zd (mDo s o).1=true:=by
 have h:=wE s;rw [xi];generalize mAs s=s at*;refine X_ (C:=fun p=>Zd p.1=true) s o (fun _=> ?_) (fun _=>W2 h (TM _ _) _) (fun _=>W2 h (PQ _ _ _) _) (fun _=>W2 h (Th _ _ _ _) _) (fun _=>W2 h (zc8 _) _) (fun _=>gT h) (fun _=> ?_) (fun _=> ?_) (fun _=>h) (fun _=> ?_)
 ·split
  ·exact Pi h (zeu _ _)
  ·exact h
 ·split
  ·exact h
  ·rename_i h2;exact Pi h (zbo h (yb h2).1)
 ·split
  ·exact h
  ·exact tg h _
 ·split
  ·exact h
  split
  ·exact h
  ·exact h
theorem zac (t:zc) (o:MOp) (h:(ZL t o).e≠0):ZL t o=zu (ZL t o).e:=by
 revert h
 unfold ZL;split
 ·exact fun _=>rfl
 split
 ·exact fun _=>rfl
 repeat' (first|exact fun _=>rfl|(split;exact fun h=>absurd rfl h))
theorem zg5 (s:MSt) (o:MOp) (h:(mDo s o).2.e≠0):(mDo s o).2=zu (mDo s o).2.e∧(mDo s o).1=mAs s:=by
 have ht: ∀(s:MSt) (t:zc) (e:Int),(Z1 s t e).2.e≠0→(Z1 s t e).2=zu (Z1 s t e).2.e∧(Z1 s t e).1=s:=by
  intro s t e;unfold Z1;split
  ·intro h2;simp only at h2;rename_i h3;exact absurd h3 h2
  ·exact fun _=>⟨rfl,rfl⟩
 revert h
 rw [xi];generalize mAs s=s at*;refine X_ (C:=fun p=>p.2.e≠0→p.2=zu p.2.e∧p.1=s) s o (fun _=> ?_) (fun _=>ht _ _ _) (fun _=>ht _ _ _) (fun _=>ht _ _ _) (fun _=>ht _ _ _) (fun _=> ?_) (fun _=> ?_) (fun _=> ?_) (fun _ _=>⟨rfl,rfl⟩) (fun _=> ?_)
 ·split
  ·exact fun h=>absurd rfl h
  ·exact fun _=>⟨rfl,rfl⟩
 ·unfold yN;split
  ·exact fun _=>⟨rfl,rfl⟩
  ·exact fun h=>absurd rfl h
 ·split
  ·exact fun _=>⟨rfl,rfl⟩
  ·exact fun h=>absurd rfl h
 ·split
  ·exact fun _=>⟨rfl,rfl⟩
  ·exact fun h=>absurd rfl h
 ·split
  ·exact fun h=>⟨zac _ _ h,rfl⟩
  split
  ·exact fun _=>⟨rfl,rfl⟩
  ·exact fun h=>⟨zac _ _ h,rfl⟩
theorem G4 (s:MSt) (o:MOp) (h:9≤o.what∧o.what≤15):(mDo s o).1=mAs s:=by
 rw [xi];generalize mAs s=s at*;refine X_ (C:=fun p=>p.1=s) s o (fun _=>(by omega)) (fun _=>(by omega)) (fun _=>(by omega)) (fun _=>(by omega)) (fun _=>(by omega)) (fun _=>(by omega)) (fun _=>(by omega)) (fun _=>(by omega)) (fun _=>(by omega)) (fun _=> ?_);split
 ·rfl
 split
 ·rfl
 ·rfl
theorem QB: ∀(l m:List MOp) (s:MSt),wB s (l++m)=wB s l++wB (zw s l) m
 |[],m,s=>rfl
 |o::l,m,s=>by rw [List.cons_append,wB,wB,zw,List.cons_append,QB l m]
theorem QQ: ∀(l m:List MOp) (s:MSt),zw s (l++m)=zw (zw s l) m
 |[],m,s=>rfl
 |o::l,m,s=>by rw [List.cons_append,zw,zw,QQ l m]
theorem xS: ∀(l:List MOp) (s:MSt),Zd s=true→Zd (zw s l)=true
 |[],s,h=>h
 |o::l,s,h=>by rw [zw];exact xS l _ (YQ _ _)
theorem qI: ∀(l:List MOp) (s:MSt),(wB s l).length=l.length
 |[],s=>rfl
 |o::l,s=>by rw [wB,List.length_cons,List.length_cons,qI l]
end
section
attribute [local irreducible] zA AO zt zo ADr AL AW zF zh zU Tells APure ACall
theorem KH {ks:List (List UInt8)} {i:Nat} (h:i<ks.length):Zv (ks.drop i)=if (ks.getD i []).length=0 then 5 else if (ks.getD i []).length>200 then 4 else Zv (ks.drop (i+1)):=by
 rw [List.drop_eq_getElem_cons h,Zv];simp [List.getD_eq_getElem?_getD,h]
theorem zh6 (ks:List (List UInt8)) (hk:ks.length≤1000000000000):APure Tryz.prog 171 [slE eBB ks] (int (Zv ks)) []:=by
 refine ent Tryz.func171 Tryz.ntmps171 ⟨?_⟩;refine go ⟨?_⟩;generalize hz:Zv ks=z;refine lp (fun i:{i:Nat // i≤ks.length∧z=Zv (ks.drop i)}=>[(7,int i.1)]) (fun i=>[]) (fun i=>ks.length - i.1) ⟨0,by simp,hz.symm⟩ ?_
 rintro ⟨i,hi,he⟩
 refine go ⟨?_⟩;refine zj rfl (fun h=> ?_) (fun h=> ?_)
 ·have hlt:i<ks.length:=by omega
  have hs:=KH hlt;refine go ⟨?_⟩;have hg:ks.getD i eBB.z=ks.getD i []:=rfl
  try rw [hg]
  by_cases h1:(ks.getD i []).length=0
  ·rw [if_pos h1] at hs;rw [he,hs,h1];exact gf
  ·rw [if_neg h1] at hs;rw [show (((ks.getD i []).length:Int)==0)=false from beq_eq_false_iff_ne.2 (by omega)];refine go ⟨?_⟩;try rw [hg]
   by_cases h2:(ks.getD i []).length>200
   ·rw [if_pos h2] at hs;have h3:((ks.getD i []).length:Int)>200:=by omega
    rw [he,hs,decide_eq_true h3];exact gf
   ·rw [if_neg h2] at hs;have h3: ¬((ks.getD i []).length:Int)>200:=by omega
    rw [decide_eq_false h3];refine go ⟨?_⟩;refine je ⟨⟨i+1,hlt,by rw [he,hs]⟩,by simp only;omega, ?_⟩;exact tel
 ·obtain rfl:i=ks.length:=by omega
  rw [he,List.drop_length];exact gf
theorem zg2:ze Tryz.prog 171:=gfn Tryz.func171
theorem tp (ks:List (List UInt8)) (hk:ks.length≤1000000000000):APure Tryz.prog 206 [slE eBB ks] (int (Zv ks)) []:=by
 refine ent Tryz.func206 Tryz.ntmps206 ⟨?_⟩;refine go ⟨?_⟩;generalize hz:Zv ks=z;refine lp (fun i:{i:Nat // i≤ks.length∧z=Zv (ks.drop i)}=>[(3,int i.1)]) (fun i=>[]) (fun i=>ks.length - i.1) ⟨0,by simp,hz.symm⟩ ?_
 rintro ⟨i,hi,he⟩
 refine go ⟨?_⟩;refine zj rfl (fun h=> ?_) (fun h=> ?_)
 ·have hlt:i<ks.length:=by omega
  have hs:=KH hlt;refine go ⟨?_⟩;have hg:ks.getD i eBB.z=ks.getD i []:=rfl
  try rw [hg]
  by_cases h1:(ks.getD i []).length=0
  ·rw [if_pos h1] at hs;rw [he,hs,h1];exact gf
  ·rw [if_neg h1] at hs;rw [show (((ks.getD i []).length:Int)==0)=false from beq_eq_false_iff_ne.2 (by omega)];refine go ⟨?_⟩;try rw [hg]
   by_cases h2:(ks.getD i []).length>200
   ·rw [if_pos h2] at hs;have h3:((ks.getD i []).length:Int)>200:=by omega
    rw [he,hs,decide_eq_true h3];exact gf
   ·rw [if_neg h2] at hs;have h3: ¬((ks.getD i []).length:Int)>200:=by omega
    rw [decide_eq_false h3];refine go ⟨?_⟩;refine je ⟨⟨i+1,hlt,by rw [he,hs]⟩,by simp only;omega, ?_⟩;exact tel
 ·obtain rfl:i=ks.length:=by omega
  rw [he,List.drop_length];exact gf
theorem PV:ze Tryz.prog 206:=gfn Tryz.func206
theorem zio (n:Zt):APure Tryz.prog 261 [yg n] (bytes (vf n)) []:=by
 refine ent Tryz.func261 Tryz.ntmps261 ⟨?_⟩;unfold vf;refine go ⟨?_⟩;by_cases h:n.kind=1
 ·rw [if_pos h,beq_iff_eq.2 h];exact gf
 ·rw [if_neg h,beq_eq_false_iff_ne.2 h];exact gf
theorem zix:ze Tryz.prog 261:=gfn Tryz.func261
theorem zhy (n:Zt):APure Tryz.prog 277 [yg n] (bytes (vf n)) []:=by
 refine ent Tryz.func277 Tryz.ntmps277 ⟨?_⟩;unfold vf;refine go ⟨?_⟩;by_cases h:n.kind=1
 ·rw [if_pos h,beq_iff_eq.2 h];exact gf
 ·rw [if_neg h,beq_eq_false_iff_ne.2 h];exact gf
theorem zgO:ze Tryz.prog 277:=gfn Tryz.func277
theorem QR (n:YS) (v:List UInt8):(YM n v).length≤10000000:=by
 have h1:=zx [] n.enc;have h2:=zx (zi [] n.enc) n.hash;have h3:=zx (zi (zi [] n.enc) n.hash) v;simp only [List.length_nil] at h1;unfold YM;omega
theorem zdS (t:zc) (n:Nat) (c:Int) (hn:n<t.length) (ht:t.length≤1000000) (hu:(t.getD n za).inner.unm.length≤1000000):APure Tryz.prog 208 [zg t,int n,int c] (bytes (yF t n c)) []:=by
 refine ent Tryz.func208 Tryz.ntmps208 ⟨?_⟩;have hg:yF t n c=Yh (YM (t.getD n za).inner (xn t (zE c t.length) (t.getD n za).inner.unm)):=rfl
 rw [hg];have hb:=QR (t.getD n za).inner (xn t (zE c t.length) (t.getD n za).inner.unm);refine gcg Qa (qZ c t.length) ⟨?_⟩;rw [show fE zf t n=Zb (t.getD n za) from rfl];have hz:t.getD n zf.z=t.getD n za:=rfl
 try rw [hz]
 refine cal JO (JZ t (zE c t.length) (t.getD n za).inner.unm ht hu) ⟨?_⟩;generalize xn t (zE c t.length) (t.getD n za).inner.unm=wv at*;refine gcg J2 (JM (t.getD n za).inner wv) ⟨?_⟩;exact cgf jW (KP (YM (t.getD n za).inner wv) (by omega))
theorem TO:ze Tryz.prog 208:=gfn Tryz.func208
end
section
variable {P:Program} {tab:Tab} {Q:Exit→St→Prop}
theorem KK (hT:zI P tab) {ev:Operand→AV} {H0:List zb} {id:Nat} {o:Oper} {q:Prop} {x:AV} {ob:zb} (h:Vs tab ev 0 o.op=some (q,x,ob)) (hq:q) (hp:ob.pure=true) {q2:Prop} {y:AV} {used:List Nat} (ht:thaw [ob] 4 x=some (q2,y,used)) (hq2:q2):Vd P ev H0 id o ⟨y,none⟩:=by
 intro w X μ H ρ hH hle hr;have hn:=Pz (μ:=μ) hT (pS hr) ((Vn o.op Pu).symm.trans h) hq;obtain ⟨u,cur,h1,h2,h3,h4,h5⟩:=hn.run;unfold StepOk;rw [h1];have hal:Below w.heap.size w (w.alloc (.cells cur ob.T)):=Below.alloc (Below.refl _ _) (Nat.le_refl _) _
 refine ⟨hal, ?_⟩
 have hlt: ∀c,OO X H μ c→c<w.heap.size:=by
  rintro c (hx|⟨i,o,m,hi,hs,hm⟩)
  ·exact hH.xlt c hx
  ·exact (hH.lt i c m hm).1
 let μ1:Mu:=fun i=>if i=0 then some (some (w.heap.size,ob.n)) else none
 have hm1: ∀i c m',μ1 i=some (some (c,m'))→i=0∧c=w.heap.size∧m'=ob.n:=fun i c m' hi=>by
  simp only [μ1] at hi;split at hi
  ·injection hi with hi;injection hi with hi;injection hi with e1 e2
   exact ⟨‹_›,e1.symm,e2.symm⟩
  ·cases hi
 have hOO: ∀c,c<w.heap.size→OO (OO X H μ) [ob] μ1 c→OO X H μ c:=by
  rintro c hc (hx|⟨i,o,m',hi,hs,hm⟩)
  ·exact hx
  ·have:=(hm1 i c m' hm).2.1;omega
 have hrel:HRel μ1 (OO X H μ) [ob] (w.alloc (.cells cur ob.T)):=by
  refine ⟨fun i l hi=> ?_,fun i j c m' m'' hi hj=> ?_,fun i c m' hi=> ?_,fun i o' hi hs=> ?_,fun c hc=>Nat.lt_of_lt_of_le (hlt c hc) hal.size,hH.gl.step hal.size (fun c hlt _ _=>hal.block c hlt) (fun c hc=>hc.elim .inl fun ⟨i,o,m,_,_,hm⟩=> .inr (.inl ⟨i,m,hm⟩)) (fun i c m' hi=> .inr (.inr (by have:=(hm1 i c m' hi).2.1;omega))), .none fun o' ho'=>by
   obtain rfl:=List.mem_singleton.1 ho';have:=hn.st;omega⟩
  ·simp only [μ1] at hi;split at hi
   ·subst i;simp
   ·cases hi
  ·exact (hm1 i c m' hi).1.trans (hm1 j c m'' hj).1.symm
  ·obtain ⟨_,rfl,_⟩:=hm1 i c m' hi;exact ⟨by simp,fun hc=>by have:=hlt _ hc;omega⟩
  ·cases i with
   |zero=>
    simp at hi;subst hi
    refine ⟨hn.sz, .inr ⟨w.heap.size,ob.n,cur,rfl,heap_alloc_new w _,h2,hn.le,Nat.le_refl _,h3,hn.flen,fun k j a v hk ha hv=> ?_⟩⟩;have:=h4 k j a v hk ha hv
    rw [hp] at this ⊢;exact this.mono hOO (fun b hb _=>hal.block b hb) _ fun _ _ h=>h
   |succ i=>simp at hi
 exact (XN hrel 4 ht hq2 (h5 _ _ μ1 rfl)).mono (fun c _ hc=>⟨.inl hc,fun i _ m' hm=>by have:=hlt c hc;have:=(hm1 i c m' hm).2.1;omega⟩) (fun _ _ _=>rfl) _ fun _ _ h=>by cases h
theorem zas (hT:zI P tab) {r:Option Nat} {l R:List Oper} {σ σ':St} {o:Oper} {m:Nat} (hw:zS l σ' o=some true) {q:Prop} {x:AV} {ob:zb} (h:Vs tab σ'.ev 0 o.op=some (q,x,ob)) (hq:q) (hp:ob.pure=true) {q2:Prop} {y:AV} {used:List Nat} (ht:thaw [ob] 4 x=some (q2,y,used)) (hq2:q2) (next:ADr P r l Q m σ R (σ'.put o.dst y)):ADr P r l Q m σ (o::R) σ':=
 Qm hw (KK hT h hq hp ht hq2) (by rw [vn];exact next)
def evS (s:List AV):Operand→AV:=St.ev ⟨s,[],[],⟨0,0,false,none,true⟩⟩
theorem xZ (σ:St):evS σ.s=σ.ev:=by funext y;cases y <;>rfl
def zej (P:Program) (l:List Oper) (ev:Operand→AV) (o:Oper) (x:AV):Prop:= ∀(σ:St),(∀y∈o.op.operands,σ.ev y=ev y)→ ∀(Q:Exit→St→Prop) (R:List Oper),AL P none l Q R (σ.put o.dst x)→AL P none l Q (o::R) σ
def CStepC (P:Program) (l:List Oper) (ev:Operand→AV) (H H':List zb) (fg:List Nat) (nb:YB) (o:Oper) (x:AV):Prop:= ∀(s:List AV),(∀y∈o.op.operands,St.ev ⟨s,H,fg,nb⟩ y=ev y)→ ∀(Q:Exit→St→Prop) (R:List Oper),AL P none l Q R (St.put ⟨s,H',fg,nb⟩ o.dst x)→AL P none l Q (o::R) ⟨s,H,fg,nb⟩
theorem xc {l:List Oper} {σ:St} {o:Oper} (h:o.guard=none):zS l σ o=some true:=by unfold zS;rw [h]
theorem Gc (hT:zI P tab) {l:List Oper} {ev:Operand→AV} {o:Oper} (hg:o.guard=none) {q:Prop} {x:AV} (h:Xh tab [] ev o.op=some (q,x)) (hq:q):zej P l ev o x:=fun σ hev Q R next=>
 Yk hT (xc hg) (uD (H:=[]) (fun i ob hi=>by simp at hi) ((WT (H:=[]) o.op hev).trans h)) hq next
theorem VH {l:List Oper} {ev:Operand→AV} {H H':List zb} {fg:List Nat} {nb:YB} {o:Oper} (hg:o.guard=none) {fo:Operand} {ao:List Operand} {ts:Array TypeId} (ho:o.op= .call {callee:= .value fo,args:=ao.toArray,argTypes:=ts}) {f:FuncId} {fa ca:List AV} (hf:ev fo= .fn (.func f) fa ca) (hgo:ze P f)
 {x:AV} (h:ACall P f (fa++ao.map ev++ca) H fun r H1 fg=>r=x∧H1=H'∧fg=[]):CStepC P l ev H H' fg nb o x:=fun s hev Q R next=>by
 have h1: ∀y∈fo::ao,St.ev ⟨s,H,fg,nb⟩ y=ev y:=fun y hy=>hev y (by
  rw [ho];simp only [Op.operands,Call.operands,Array.mem_append,List.mem_toArray,List.mem_singleton];exact (List.mem_cons.1 hy).imp id id)
 have h2:ao.map (St.ev ⟨s,H,fg,nb⟩)=ao.map ev:=wb fun y hy=>h1 y (List.mem_cons_of_mem _ hy)
 exact zV (σ:=⟨s,H,fg,nb⟩) (xc hg) ho ((h1 fo List.mem_cons_self).trans hf) hgo (by rw [h2];exact h) next
theorem JY {l:List Oper} {ev:Operand→AV} {H:List zb} {fg:List Nat} {nb:YB} {o:Oper} (hg:o.guard=none) {fo:Operand} {ao:List Operand} {ts:Array TypeId} (ho:o.op= .call {callee:= .value fo,args:=ao.toArray,argTypes:=ts}) {f:FuncId} {fa ca:List AV} (hf:ev fo= .fn (.func f) fa ca) (hgo:ze P f)
 {q:Prop} {args':List AV} {used:List Nat} (ht:Yf (thaw H 4) (fa++ao.map ev++ca)=some (q,args',used)) (hq:q) {x:AV} {N:List zb} (h:APure P f args' x N):CStepC P l ev H (Z' used 0 H++N.map (Z4 (sh H.length))) fg nb o (ren (sh H.length) 4 x):=
 VH hg ho hf hgo (h.at_ ht hq)
inductive AMr (P:Program) (l:List Oper) (C:List Nat) (Q:Exit→St→Prop):Nat→List Oper→St→Prop
 |nil {k:Nat} {σ:St} (h:Q .normal σ):AMr P l C Q k [] σ
 |pure {k:Nat} {o:Oper} {R:List Oper} {σ:St} (x:AV) (hc:C.contains k=false) (h:zej P l σ.ev o x) (next:AMr P l C Q (k+1) R (σ.put o.dst x)):AMr P l C Q k (o::R) σ
 |chain {k:Nat} {o:Oper} {R:List Oper} {s:List AV} {H:List zb} {fg:List Nat} {nb:YB} (x:AV) (H':List zb) (hc:C.contains k=true) (h:CStepC P l (evS s) H H' fg nb o x) (next:AMr P l C Q (k+1) R (St.put ⟨s,H',fg,nb⟩ o.dst x)):AMr P l C Q k (o::R) ⟨s,H,fg,nb⟩
theorem Qk (S:Nat→Bool): ∀(D:List (Oper×DR)) (k:Nat) (s:List AV),zk S (k+1) D s=zk (fun i=>S (i+1)) k D s
 |[],k,s=>rfl
 |p::D,k,s=>by simp only [zk];exact Qk S D (k+1) _
theorem xw (p:Oper×DR) (D:List (Oper×DR)) (j:Nat) (s:List AV):zk (txt (j+1)) 0 (p::D) s=zk (txt j) 0 D (Z6 s p.1.dst p.2.x):=by
 simp only [zk];rw [show txt (j+1) 0=true from rfl];simp only;rw [show (0+1:Nat)=0+1 from rfl,Qk];rfl
theorem Y0 (p:Oper×DR) (D:List (Oper×DR)) (s:List AV):zk (fun _=>true) 0 (p::D) s=zk (fun _=>true) 0 D (Z6 s p.1.dst p.2.x):=by
 simp only [zk];rw [Qk]
theorem Ye: ∀(D:List (Oper×DR)) (k:Nat) (s:List AV),zk (txt 0) k D s=s
 |[],_,_=>rfl
 |p::D,k,s=>by
  simp only [zk];rw [Ye D (k+1)];rfl
theorem Zg (σ:St) (d:Option Tmp) (x:AV):σ.put d x=⟨Z6 σ.s d x,σ.H,σ.fg,σ.nb⟩:=by cases d <;>rfl
def MOk (P:Program) (l:List Oper) (C:List Nat) (σ:St) (k:Nat) (D:List (Oper×DR)) (Hs:Nat→List zb):Prop:= ∀(j:Nat) p,D[j]?=some p→p.2.N=none∧
 ((C.contains (k+j)=false∧zej P l (evS (zk (txt j) 0 D σ.s)) p.1 p.2.x∧Hs (j+1)=Hs j)∨(C.contains (k+j)=true∧CStepC P l (evS (zk (txt j) 0 D σ.s)) (Hs j) (Hs (j+1)) σ.fg σ.nb p.1 p.2.x))
theorem ziL {l:List Oper} {C:List Nat} {k:Nat} {R:List Oper} {σ:St} (h:AMr P l C Q k R σ): ∃(D:List (Oper×DR)) (Hs:Nat→List zb),D.map (·.1)=R∧Hs 0=σ.H∧MOk P l C σ k D Hs∧Q .normal ⟨zk (fun _=>true) 0 D σ.s,Hs D.length,σ.fg,σ.nb⟩:=by
 induction h with
 |nil h=>exact ⟨[],fun _=>_,rfl,rfl,fun j p hp=>by simp at hp,h⟩
 | @pure k o R σ x hc h next ih=>
   obtain ⟨D,Hs,h1,h2,h3,h4⟩:=ih;rw [Zg] at h2 h3 h4;refine ⟨(o,⟨x,none⟩)::D,fun j=>match j with|0=>σ.H|j+1=>Hs j,by simp [h1],rfl,fun j p hp=> ?_, ?_⟩
   ·cases j with
    |zero=>
     simp at hp;subst hp
     refine ⟨rfl, .inl ⟨hc, ?_,h2⟩⟩;rw [Ye,xZ];exact h
    |succ j=>
     rw [xw,show k+(j+1)=k+1+j by omega];exact h3 j p (by simpa using hp)
   ·rw [Y0];exact h4
 | @chain k o R s H fg nb x H' hc h next ih=>
   obtain ⟨D,Hs,h1,h2,h3,h4⟩:=ih;rw [Zg] at h2 h3 h4;refine ⟨(o,⟨x,none⟩)::D,fun j=>match j with|0=>H|j+1=>Hs j,by simp [h1],rfl,fun j p hp=> ?_, ?_⟩
   ·cases j with
    |zero=>
     simp at hp;subst hp
     refine ⟨rfl, .inr ⟨hc, ?_⟩⟩;rw [Ye];simp only [h2];exact h
    |succ j=>
     rw [xw,show k+(j+1)=k+1+j by omega];exact h3 j p (by simpa using hp)
   ·rw [Y0];exact h4
def okC (l:List Oper) (C:List Nat):Bool:=C.all fun i=>C.all fun j=> !Nat.blt j i||anc l.toArray i j
def okM (l:List Oper) (C:List Nat):Bool:=G1 l.toArray l.length && okP l l.length && okC l C
theorem wQ {l:List Oper} {C:List Nat} (h:okC l C=true) {i j:Nat} (hi:C.contains i=true) (hj:C.contains j=true) (hlt:j<i):anc l.toArray i j=true:=by
 have:=List.all_eq_true.1 (List.all_eq_true.1 h i (by simpa using hi)) j (by simpa using hj)
 rw [Bool.or_eq_true] at this;rcases this with h|h
 ·have hb:Nat.blt j i=true:=by rw [Nat.blt_eq];exact hlt
  rw [hb] at h;cases h
 ·exact h
theorem j9 {ls:List Bool} {i:Nat} (h:ls[i]?=some false):(ls.set i true).countP (! ·)+1=ls.countP (! ·):=by
 induction ls generalizing i with
 |nil=>simp at h
 |cons b ls ih=>
  cases i with
  |zero=>simp at h;subst h;simp
  |succ i=>
   simp only [List.set_cons_succ,List.countP_cons];have:=ih (i:=i) (by simpa using h)
   omega
theorem zj4 {l:List Oper} {C:List Nat} {σ:St} {D:List (Oper×DR)} {Hs:Nat→List zb} (h:DOk l l.length D) (hC:okC l C=true) (hCl: ∀i,C.contains i=true→i<l.length) (h0:Hs 0=σ.H) (hm:MOk P l C σ 0 D Hs) (hq:Q .normal ⟨zk (fun _=>true) 0 D σ.s,Hs D.length,σ.fg,σ.nb⟩):
 ∀(f:Nat) (ls:List Bool) (k:Nat),ls.length=l.length→(∀i,ls.getD i false=true→ ∀j,anc l.toArray i j=true→ls.getD j false=true)→(∀c,C.contains c=true→(ls.getD c false=true↔c<k))→k≤l.length→ls.countP (! ·)≤f→
  AO P none l Q f ls ⟨zk (fun j=>ls.getD j false) 0 D σ.s,Hs k,σ.fg,σ.nb⟩:=by
 have hHs: ∀(a b:Nat),a≤b→b≤l.length→(∀c,C.contains c=true→a≤c→c<b→False)→Hs b=Hs a:=by
  intro a b hab;induction b with
  |zero=>intro _ _;rw [show a=0 by omega]
  |succ b ih=>
   intro hb hno;by_cases hab':a=b+1
   ·rw [hab']
   ·have hbD:b<D.length:=by rw [h.len];omega
    have:=(hm b _ (List.getElem?_eq_getElem hbD)).2
    rw [Nat.zero_add] at this;rcases this with ⟨_,_,e⟩|⟨hc,_⟩
    ·rw [e];exact ih (by omega) (by omega) fun c hc h1 h2=>hno c hc h1 (by omega)
    ·exact (hno b hc (by omega) (by omega)).elim
 have key: ∀(f:Nat) (ls:List Bool) (k:Nat),ls.length=l.length→(∀i,ls.getD i false=true→ ∀j,anc l.toArray i j=true→ls.getD j false=true)→(∀c,C.contains c=true→(ls.getD c false=true↔c<k))→k≤l.length→
  (Region.ready .any l.toArray ls.toArray=[]→Q .normal ⟨zk (fun j=>ls.getD j false) 0 D σ.s,Hs k,σ.fg,σ.nb⟩)∧(ls.countP (! ·)=0→Region.ready .any l.toArray ls.toArray=[]):=by
  intro f ls k hs hcl hk hkl;refine ⟨fun hr=> ?_,fun h1=> ?_⟩
  ·have hall: ∀j,j<l.length→ls.getD j false=true:=by
    intro j;induction j using Nat.strongRecOn with
    |_ j ih=>
     intro hj;refine Classical.byContradiction fun hn=> ?_
     have hjs:j<l.toArray.size:=by simpa using hj
     have:j∈Region.ready .any l.toArray ls.toArray:=by
      rw [mem_ready];refine ⟨?_,l.toArray[j],Array.getElem?_eq_getElem hjs,fun e he hb=> ?_⟩
      ·have:ls[j]?=some false:=by
        rw [List.getElem?_eq_getElem (by omega)];congr 1
        have hjl:j<ls.length:=by omega
        have hn': ¬ls[j]=true:=by simpa [List.getD_eq_getElem?_getD,hjl] using hn
        simpa using hn'
       simp [Array.getD_eq_getD_getElem?,this]
      ·have:=h.ok.s.lt j _ (Array.getElem?_eq_getElem hjs) e he hb
       have:=ih e.on this (by omega)
       simpa [Array.getD_eq_getD_getElem?,List.getD_eq_getElem?_getD] using this
     rw [hr] at this;cases this
   have e1:zk (fun j=>ls.getD j false) 0 D σ.s=zk (fun _=>true) 0 D σ.s:=by
    have: ∀(D':List (Oper×DR)) (k:Nat) (s:List AV),k+D'.length≤l.length→zk (fun j=>ls.getD j false) k D' s=zk (fun _=>true) k D' s:=by
     intro D';induction D' with
     |nil=>intro k s _;rfl
     |cons p D' ih=>
      intro k s hk;simp only [List.length_cons] at hk;simp only [zk];rw [hall k (by omega)];exact ih (k+1) _ (by omega)
    exact this D 0 _ (by rw [h.len];omega)
   have e2:Hs D.length=Hs k:=by
    rw [h.len];exact hHs k l.length hkl (Nat.le_refl _) fun c hc h1 h2=>by have:=(hk c hc).1 (hall c h2);omega
   rw [e1,←e2];exact hq
  ·refine List.eq_nil_iff_forall_not_mem.2 fun j hj=> ?_
   obtain ⟨h2,o,ho,_⟩:=mem_ready.1 hj;have hlt:j<ls.length:=by have:=(Array.getElem?_eq_some_iff.1 ho).1;simp at this;omega
   have:ls[j]=false:=by simpa [Array.getD_eq_getD_getElem?,hlt] using h2
   have hpos:0<ls.countP (! ·):=List.countP_pos_iff.2 ⟨_,List.getElem_mem hlt,by rw [this];rfl⟩
   omega
 intro f;induction f with
 |zero=>
  intro ls k hs hcl hk hkl hf;have:=key 0 ls k hs hcl hk hkl
  have hr:=this.2 (by omega);exact ⟨hr,this.1 hr⟩
 |succ f ih=>
  intro ls k hs hcl hk hkl hf;refine ⟨(key 0 ls k hs hcl hk hkl).1,fun i hi o ho=> ?_⟩;obtain ⟨hu,o',ho',haf⟩:=mem_ready.1 hi
  have hoo:o'=o:=by
   simp only [List.getElem?_toArray] at ho';rw [ho] at ho';injection ho' with ho';exact ho'.symm
  subst hoo;have hil:i<l.length:=(List.getElem?_eq_some_iff.1 ho).1
  have hiD:i<D.length:=by rw [h.len];exact hil
  have hp:D[i]?=some D[i]:=List.getElem?_eq_getElem hiD
  have hop:=h.op i _ hp;rw [ho] at hop;injection hop with hop
  have hlsi:ls[i]?=some false:=by
   have hlt:i<ls.length:=by omega
   have:ls[i]=false:=by simpa [Array.getD_eq_getD_getElem?,hlt] using hu
   rw [List.getElem?_eq_getElem hlt,this]
  have hS:ls.getD i false=false:=by rw [List.getD_eq_getElem?_getD,hlsi];rfl
  have hanc: ∀j,anc l.toArray i j=true→ls.getD j false=true:=by
   intro j hj;obtain ⟨e,he,hb,hh⟩:=(Wl ho' (h.ok.s.lt i o' ho') j).1 hj;have:=haf e he hb
   have h1:ls.getD e.on false=true:=by simpa [Array.getD_eq_getD_getElem?,List.getD_eq_getElem?_getD] using this
   rcases hh with rfl|hh
   ·exact h1
   ·exact hcl _ h1 j hh
  have hset:(fun j=>(ls.set i true).getD j false)=add (fun j=>ls.getD j false) i:=by
   funext j
   by_cases hj:j=i
   ·subst hj;rw [Yr];simp [List.getD_eq_getElem?_getD,show j<ls.length by omega]
   ·rw [yA hj];simp only [List.getD_eq_getElem?_getD];rw [List.getElem?_set_ne (Ne.symm hj)]
  have hslots:zk (fun j=>(ls.set i true).getD j false) 0 D σ.s=Z6 (zk (fun j=>ls.getD j false) 0 D σ.s) o'.dst D[i].2.x:=by
   rw [hset];refine List.ext_getElem? fun t=> ?_
   by_cases hd:D[i].1.dst=some t
   ·by_cases hl:t<σ.s.length
    ·have:=Wj (σ:=σ) (S:=add (fun j=>ls.getD j false) i) h hp Yr hd hl
     simp only [σS] at this;rw [this,hop,hd,Wg (by rw [Yg];exact hl)]
    ·rw [List.getElem?_eq_none (by rw [Yg];omega),List.getElem?_eq_none (by rw [xt,Yg];omega)]
   ·have:=qB (σ:=σ) (S:=fun j=>ls.getD j false) h hp hS hd
    simp only [σS] at this;rw [this,Wd (by rw [hop];exact hd)]
  have hev: ∀y∈o'.op.operands,evS (zk (fun j=>ls.getD j false) 0 D σ.s) y=evS (zk (txt i) 0 D σ.s) y:=by
   intro y hy;have h1:=vP (σ:=σ) h hp hS hanc y (by rw [←hop];exact hy);rw [←xZ,←xZ] at h1;exact h1
  have hnext: ∀k',(∀c,C.contains c=true→((ls.set i true).getD c false=true↔c<k'))→k'≤l.length→AO P none l Q f (ls.set i true) ⟨Z6 (zk (fun j=>ls.getD j false) 0 D σ.s) o'.dst D[i].2.x,Hs k',σ.fg,σ.nb⟩:=by
   intro k' hk' hkl';rw [←hslots];refine ih _ k' (by simp [hs]) (fun a ha b hb=> ?_) hk' hkl' (by have:=j9 hlsi;omega);have hgs: ∀j,(ls.set i true).getD j false=add (fun j=>ls.getD j false) i j:=fun j=>congrFun hset j
   rw [hgs] at ha ⊢;by_cases hai:a=i
   ·subst hai;have:=hanc b hb
    simp only [add,Bool.or_eq_true];exact .inr this
   ·rw [yA hai] at ha;have:=hcl a ha b hb
    simp only [add,Bool.or_eq_true];exact .inr this
  have hgs: ∀j,(ls.set i true).getD j false=add (fun j=>ls.getD j false) i j:=fun j=>congrFun hset j
  have hmi:=(hm i _ hp).2
  rw [Nat.zero_add,←hop] at hmi;rcases hmi with ⟨hc,hps,he⟩|⟨hc,hcs⟩
  ·refine hps _ (fun y hy=> ?_) _ _ (YI ?_)
   ·rw [←xZ];exact hev y hy
   ·rw [Zg];refine WU (hnext k (fun c hcc=> ?_) hkl);rw [hgs];have hne:c≠i:=by rintro rfl;rw [hc] at hcc;cases hcc
    rw [yA hne];exact hk c hcc
  ·have hki:k≤i:=by
    refine Classical.byContradiction fun hn=> ?_
    have:=(hk i hc).2 (by omega)
    rw [hS] at this;cases this
   have hHk:Hs i=Hs k:=hHs k i hki (by omega) fun c hcc h1 h2=>by
    have:=hanc c (wQ hC hc hcc h2)
    have:=(hk c hcc).1 this;omega
   rw [←hHk];refine hcs _ (fun y hy=> ?_) _ _ (YI ?_)
   ·rw [←xZ];exact hev y hy
   ·rw [Zg];refine WU (hnext (i+1) (fun c hcc=> ?_) (by omega));rw [hgs];by_cases hci:c=i
    ·subst hci;rw [Yr];exact ⟨fun _=>by omega,fun _=>rfl⟩
    ·rw [yA hci];constructor
     ·intro hl;have:=(hk c hcc).1 hl;omega
     ·intro hl;exact hanc c (wQ hC hc hcc (by omega))
theorem zjh (hmx:P.follows .mixedOrders=true) {id:Nat} {l:List Oper} {σ:St} (C:List Nat) (hok:okM l C=true) (hCl:(C.all fun i=>Nat.blt i l.length)=true) (h:AMr P l C Q 0 l σ):AW P none (.region id l.toArray true) Q σ:=by
 refine vK hmx rfl ?_;obtain ⟨D,Hs,h1,h2,h3,h4⟩:=ziL h;unfold okM at hok;simp only [Bool.and_eq_true] at hok;have hlen:D.length=l.length:=by rw [←h1,List.length_map]
 have hD:DOk l l.length D:=⟨KX (Qn hok.1.1) hok.1.2,hlen,fun k p hp=>by rw [←h1,List.getElem?_map,hp];rfl⟩
 have hrep: ∀j,(List.replicate l.length false).getD j false=false:=fun j=>by
  simp only [List.getD_eq_getElem?_getD,List.getElem?_replicate];split <;>rfl
 have:=zj4 hD hok.2 (fun i hi=>by have:=List.all_eq_true.1 hCl i (by simpa using hi);rwa [Nat.blt_eq] at this) h2 h3 h4 l.length (List.replicate l.length false) 0 (by simp) (fun i hi=>by rw [hrep] at hi;cases hi) (fun c _=>by rw [hrep];simp) (Nat.zero_le _) (Nat.le_trans List.countP_le_length (by simp))
 have e:zk (fun j=>(List.replicate l.length false).getD j false) 0 D σ.s=σ.s:=by
  have:(fun j=>(List.replicate l.length false).getD j false)=txt 0:=by funext j;rw [hrep];rfl
  rw [this,Ye]
 rw [e,h2] at this;exact this
theorem zhp (hT:zI P tab) {l:List Oper} {C:List Nat} {k:Nat} {o:Oper} {R:List Oper} {σ:St} (hg:o.guard=none) {q:Prop} {x:AV} (h:Xh tab [] σ.ev o.op=some (q,x)) (hq:q) (hc:C.contains k=false) (next:AMr P l C Q (k+1) R (σ.put o.dst x)):AMr P l C Q k (o::R) σ:=
 .pure x hc (Gc hT hg h hq) next
theorem H9 {l:List Oper} {C:List Nat} {k:Nat} {R:List Oper} {s:List AV} {H H':List zb} {fg:List Nat} {nb:YB} {o:Oper} (hg:o.guard=none) {fo:Operand} {ao:List Operand} {ts:Array TypeId} (ho:o.op= .call {callee:= .value fo,args:=ao.toArray,argTypes:=ts}) {f:FuncId} {fa ca:List AV} (hf:evS s fo= .fn (.func f) fa ca) (hgo:ze P f)
 {x:AV} (h:ACall P f (fa++ao.map (evS s)++ca) H fun r H1 fg=>r=x∧H1=H'∧fg=[]) (hc:C.contains k=true) (next:AMr P l C Q (k+1) R (St.put ⟨s,H',fg,nb⟩ o.dst x)):AMr P l C Q k (o::R) ⟨s,H,fg,nb⟩:=
 .chain x H' hc (VH hg ho hf hgo h) next
theorem KC {l:List Oper} {C:List Nat} {k:Nat} {R:List Oper} {s:List AV} {H:List zb} {fg:List Nat} {nb:YB} {o:Oper} (hg:o.guard=none) {fo:Operand} {ao:List Operand} {ts:Array TypeId} (ho:o.op= .call {callee:= .value fo,args:=ao.toArray,argTypes:=ts}) {f:FuncId} {fa ca:List AV} (hf:evS s fo= .fn (.func f) fa ca) (hgo:ze P f)
 {q:Prop} {args':List AV} {used:List Nat} (ht:Yf (thaw H 4) (fa++ao.map (evS s)++ca)=some (q,args',used)) (hq:q) {x:AV} {N:List zb} (h:APure P f args' x N) (hc:C.contains k=true) (next:AMr P l C Q (k+1) R (St.put ⟨s,Z' used 0 H++N.map (Z4 (sh H.length)),fg,nb⟩ o.dst (ren (sh H.length) 4 x))):AMr P l C Q k (o::R) ⟨s,H,fg,nb⟩:=
 .chain _ _ hc (JY hg ho hf hgo ht hq h) next
theorem zez {l:List Oper} {C:List Nat} {k:Nat} {o:Oper} {R:List Oper} {σ:St} (h:AMr P l C Q k (o::R) σ):AMr P l C Q k (o::R) σ:=h
end
section
attribute [local irreducible] zA AO zt zo ADr AL AW zF zh zU Tells APure ACall
theorem t8 (t:zc) (x:Int):APure Tryz.prog 276 [zg t,int x] (.lit (.bool (qf t x))) []:=by
 refine ent Tryz.func276 Tryz.ntmps276 ⟨?_⟩;unfold qf;refine go ⟨?_⟩;by_cases h0:0≤x
 ·rw [decide_eq_true (show x≥0 from h0)];refine go ⟨?_⟩;by_cases h1:x<t.length
  ·rw [decide_eq_true h1];obtain ⟨n,rfl⟩: ∃n:Nat,x=n:=⟨x.toNat,by omega⟩;refine ms7 ⟨?_⟩;have hz:(t.getD n zf.z)=t.getD n za:=rfl
   have hk:((t.getD n za).kind !=0)=decide ((t.getD n za).kind≠0):=by
    by_cases hk:(t.getD n za).kind=0
    ·rw [hk];rfl
    ·rw [bne_iff_ne.2 hk,decide_eq_true hk]
   try rw [hz]
   try rw [hk]
   exact fin
  ·rw [decide_eq_false h1];exact gf
 ·rw [decide_eq_false (show ¬x≥0 from h0)];exact gf
theorem Ho:ze Tryz.prog 276:=gfn Tryz.func276
theorem zfk {l:List Int} {i:Nat} (h:i<l.length):(l.map (2* ·)).take (i+1)=(l.map (2* ·)).take i++[2*l.getD i 0]:=by
 rw [←List.map_take,←List.map_take,zT h,List.map_append];rfl
theorem Kz (p:Int→Bool) {l:List Int} {i:Nat} (h:i<l.length):((l.map (2* ·)).take (i+1)).filter p=((l.map (2* ·)).take i).filter p++if p (2*l.getD i 0)=true then [2*l.getD i 0] else []:=by
 rw [zfk h,List.filter_append];congr 1
 cases hp:p (2*l.getD i 0)
 ·rw [List.filter_cons_of_neg (by rw [hp];decide)];rfl
 ·rw [List.filter_cons_of_pos hp];rfl
theorem GZ (t:zc) (n:Nat) (c:Int):qA t n c=(((t.getD n za).inner.unm.map (2* ·)).take (t.getD n za).inner.unm.length).filter fun y=>Yp y c t.length:=by
 have:((t.getD n za).inner.unm.map (2* ·)).take (t.getD n za).inner.unm.length=(t.getD n za).inner.unm.map (2* ·):=List.take_of_length_le (by simp)
 rw [this];rfl
theorem TJ (t:zc) (n:Nat) (c:Int) (hn:n<t.length) (hu:(t.getD n za).inner.unm.length≤64∧ ∀i∈(t.getD n za).inner.unm,0≤i∧i≤63):APure Tryz.prog 279 [zg t,int n,int c] (Zn (qA t n c)) []:=by
 refine ent Tryz.func279 Tryz.ntmps279 ⟨?_⟩;rw [GZ];generalize hm:(t.getD n za).inner.unm=m at*;have hz:(t.getD n zf.z).inner.unm=m:=hm
 obtain ⟨hu1,hu2⟩:=hu;refine go ⟨?_⟩;refine zr (Tells.nilRow (t:=7) 3 1 rfl rfl) ?_;refine lp (fun i:{q:Nat×List Int // q.1≤m.length∧q.2=((m.map (2* ·)).take q.1).filter (fun y=>Yp y c t.length)∧q.2.length≤q.1}=>[(7, .row 0 1 0 i.1.2.length none),(8,int i.1.1),(9, .junk)]) (fun i=>[yC i.1.2]) (fun i=>m.length - i.1.1) ⟨(0,[]),by simp,by simp,by simp⟩ ?_
 rintro ⟨⟨i,v⟩,hi,hv,hvl⟩
 simp only at hi hv hvl ⊢;refine ms7 ⟨?_⟩;rw [hz];refine zj rfl (fun h=> ?_) (fun h=> ?_)
 ·have hlt:i<m.length:=by omega
  have hf:=Kz (fun y=>Yp y c t.length) hlt;rw [←hv] at hf;have hg:m.getD i 0=m[i]:=by simp [List.getD_eq_getElem?_getD,hlt]
  have hu3:=hu2 _ (List.getElem_mem hlt);rw [←hg] at hu3;have e1:IntKind.i64.wrap (2*m.getD i 0)=2*m.getD i 0:=by simp only [IntKind.wrap_i64];omega
  refine ms7 ⟨?_⟩;rw [hz];refine go ⟨?_⟩;rw [e1];generalize hq:2*m.getD i 0=y at*;refine cal PY (Tb y c t.length) ⟨?_⟩;cases hB:Yp y c t.length
  ·rw [hB,if_neg (by decide),List.append_nil] at hf;refine go ⟨?_⟩;refine je ⟨⟨(i+1,v),hlt,hf.symm,by simp only;omega⟩,by simp only;omega, ?_⟩;exact tel
  ·rw [hB,if_pos rfl] at hf;refine go ⟨?_⟩;refine app (yP (v++[y])) hT rfl rfl rfl rfl (fun j hj=>ZZ (e:=wA) rfl rfl hj) ?_;refine ng ⟨?_⟩;refine je ⟨⟨(i+1,v++[y]),hlt,hf.symm,by simp;omega⟩,by simp only;omega, ?_⟩;exact tel
 ·obtain rfl:i=m.length:=by omega
  rw [←hv];exact gf
theorem tq:ze Tryz.prog 279:=gfn Tryz.func279
theorem Q6 {t:zc} {x:Int} (h:qf t x=true):0≤x∧x<t.length∧(t.getD x.toNat za).kind≠0:=by
 unfold qf at h;simp only [Bool.and_eq_true,decide_eq_true_eq] at h;exact ⟨h.1.1,h.1.2,h.2⟩
theorem kI (t0:zc) (x c d:Int):YN t0 x c d=(qf (rAs t0) x && qf (rAs t0) d && decide (((rAs t0).getD x.toNat za).kind=2) && decide (zm c (rAs t0).length=x) && (zL (rAs t0) c).contains d && decide (qu (zL (rAs t0) c) [d]=qA (rAs t0) x c) && (vf ((rAs t0).getD d.toNat za)==yF (rAs t0) x c)):=rfl
theorem Vv {t:zc} (x:Int):(zL t x).length≤10000:=by
 have:=vU (zG t) 7 x
 unfold zL;omega
theorem zap (t:zc) (x c d:Int) (ht:t.length≤1000000):APure Tryz.prog 224 [zg t,int x,int c,int d] (.lit (.bool (YN t x c d))) []:=by
 refine ent Tryz.func224 Tryz.ntmps224 ⟨?_⟩;have hl:=zR t;have hs:=zG t;rw [kI];refine gc ZY (ZW t ht) ⟨?_⟩;generalize rAs t=u at*;refine gc Ho (t8 u x) ⟨?_⟩;cases hx:qf u x
 ·simp only [Bool.false_and];exact gf
 obtain ⟨x0,x1,x2⟩:=Q6 hx;obtain ⟨n,rfl⟩: ∃n:Nat,x=n:=⟨x.toNat,by omega⟩;refine gc Ho (t8 u d) ⟨?_⟩;cases hd:qf u d
 ·simp only [Bool.false_and,Bool.and_false];exact gf
 obtain ⟨d0,d1,d2⟩:=Q6 hd;obtain ⟨dn,rfl⟩: ∃dn:Nat,d=dn:=⟨d.toNat,by omega⟩;refine go ⟨?_⟩;rw [show fE zf u n=Zb (u.getD n za) from rfl];refine go ⟨?_⟩;have hz:(u.getD n zf.z)=u.getD n za:=rfl
 try rw [hz]
 rw [show (n:Int).toNat=n from rfl,show (dn:Int).toNat=dn from rfl];by_cases hk:(u.getD n za).kind=2
 rotate_left
 ·rw [decide_eq_false hk,bne_iff_ne.2 hk];simp only [Bool.false_and,Bool.and_false];exact gf
 rw [decide_eq_true hk,bne_eq_false_iff_eq.2 hk];refine gcg xf (xg c u.length) ⟨?_⟩;by_cases hp:zm c u.length=n
 rotate_left
 ·rw [decide_eq_false hp,bne_iff_ne.2 hp];simp only [Bool.false_and,Bool.and_false];exact gf
 rw [decide_eq_true hp,bne_eq_false_iff_eq.2 hp];refine gc KG (K0 u c (by omega)) ⟨?_⟩;have hrl:=Vv (t:=u) c;generalize zL u c=lr at*;refine gc jg (jR lr (dn:Int) (by omega)) ⟨?_⟩;simp only [Bool.true_and];cases hh:lr.contains (dn:Int)
 ·simp only [Bool.false_and,Bool.and_false];exact gf
 have hun:=yp (Yx hs (show n<u.length by omega));refine go ⟨?_⟩;rw [show fE zf u dn=Zb (u.getD dn za) from rfl];refine cg zgO (zhy (u.getD dn za)) ⟨?_⟩;refine cal TO (zdS u n c (by omega) (by omega) (by omega)) ⟨?_⟩;generalize yF u n c=gv at*;generalize vf (u.getD dn za)=sv at*;refine go ⟨?_⟩;cases he:sv==gv
 ·simp only [Bool.and_false];exact gf
 refine wm hT rfl rfl True.intro ?_;refine wm hT rfl rfl True.intro ?_;refine zas hT rfl rfl True.intro rfl rfl (by repeat' (first|exact trivial|exact Nat.le_refl _|exact Nat.le_of_eq (Nat.zero_add _)|refine And.intro ?_ ?_|omega)) ?_;refine go ⟨?_⟩;refine zeT p8 (pI lr [(dn:Int)] (by omega) (by simp)) (LeS.cons (AV.Le.refl _) (LeS.cons (JR (e:=wA) (xs:=[(dn:Int)]) rfl rfl) LeS.nil)) ⟨?_⟩;refine gc tq (TJ u n c (by omega) hun) ⟨?_⟩;have hpc:(qu lr [(dn:Int)]).length≤10000:=Nat.le_trans (List.length_filter_le _ _) hrl
 refine gc Gh (GP (qu lr [(dn:Int)]) (qA u n c) (.inl (by omega))) ⟨?_⟩;rw [Bool.and_true];exact gf
theorem zae:ze Tryz.prog 224:=gfn Tryz.func224
def pi (u:zc) (n:Nat) (d:Nat):Bool:=YN u n (ZP n u.length) d||YN u n (Zp n u.length) d
theorem kJ {u:zc} (hs:zW u=true) {x c d:Int} (h:YN u x c d=true):d∈zL u c∧0≤d∧d<u.length:=by
 rw [kI,wU hs] at h;simp only [Bool.and_eq_true] at h;have h1:=Q6 h.1.1.1.1.1.2;exact ⟨by simpa using h.1.1.2,h1.1,h1.2.1⟩
theorem Tu {t:zc} {n:Nat} (hn:n<(rAs t).length) (hk:((rAs t).getD n za).kind=2):Yl t n=((zL (rAs t) (ZP n (rAs t).length)).any (fun d=>YN (rAs t) n (ZP n (rAs t).length) d)||(zL (rAs t) (Zp n (rAs t).length)).any (fun d=>YN (rAs t) n (Zp n (rAs t).length) d)):=by
 unfold Yl;simp only;rw [if_neg (by omega),show (n:Int).toNat=n from rfl,if_neg (by rw [hk];simp)]
theorem zaM {t:zc} {n:Nat} (hn:n<(rAs t).length) (hk:((rAs t).getD n za).kind=2):Yl t n=true↔ ∃d,d<(rAs t).length∧pi (rAs t) n d=true:=by
 have hs:=zG t;rw [Tu hn hk];generalize rAs t=u at*;rw [Bool.or_eq_true,List.any_eq_true,List.any_eq_true];unfold pi;constructor
 ·rintro (⟨d,_,h⟩|⟨d,_,h⟩)
  ·obtain ⟨_,h2,h3⟩:=kJ hs h;exact ⟨d.toNat,by omega,by rw [Int.toNat_of_nonneg h2,h];rfl⟩
  ·obtain ⟨_,h2,h3⟩:=kJ hs h;exact ⟨d.toNat,by omega,by rw [Int.toNat_of_nonneg h2,h,Bool.or_true]⟩
 ·rintro ⟨d,_,h⟩
  rw [Bool.or_eq_true] at h;rcases h with h|h
  ·exact .inl ⟨_,(kJ hs h).1,h⟩
  ·exact .inr ⟨_,(kJ hs h).1,h⟩
theorem Ui {t:zc} {x:Int} (h:x<0∨x≥(rAs t).length):Yl t x=false:=by
 unfold Yl;simp only;rw [if_pos h]
theorem Kq {t:zc} {n:Nat} (hn:n<(rAs t).length) (hk:((rAs t).getD n za).kind≠2):Yl t n=true:=by
 unfold Yl;simp only;rw [if_neg (by omega),show (n:Int).toNat=n from rfl,if_pos hk]
theorem zer (t:zc) (x:Int) (ht:t.length≤1000000):APure Tryz.prog 155 [zg t,int x] (.lit (.bool (Yl t x))) []:=by
 refine ent Tryz.func155 Tryz.ntmps155 ⟨?_⟩;have hl:=zR t;have ho:=Ui (t:=t) (x:=x);have he:=fun n:Nat=>Kq (t:=t) (n:=n)
 have hi:=fun n:Nat=>zaM (t:=t) (n:=n)
 refine gc ZY (ZW t ht) ⟨?_⟩;generalize rAs t=u at*;refine go ⟨?_⟩;by_cases h0:x<0
 ·rw [ho (.inl h0)];exact gf
 by_cases h1:x≥u.length
 ·rw [ho (.inr h1)];exact gf
 obtain ⟨n,rfl⟩: ∃n:Nat,x=n:=⟨x.toNat,by omega⟩;refine go ⟨?_⟩;rw [show fE zf u n=Zb (u.getD n za) from rfl];refine go ⟨?_⟩;have hz:(u.getD n zf.z)=u.getD n za:=rfl
 try rw [hz]
 by_cases hk:(u.getD n za).kind=2
 rotate_left
 ·rw [he n (by omega) hk,bne_iff_ne.2 hk];exact gf
 have hv:=hi n (by omega) hk;generalize hV:Yl t n=V at*;rw [bne_eq_false_iff_eq.2 hk];refine go ⟨?_⟩;refine lp (fun j:{j:Nat // j≤u.length∧ ∀i,i<j→pi u n i=false}=>[(6,int j.1)]) (fun j=>[]) (fun j=>u.length - j.1) ⟨0,Nat.zero_le _,fun i hi=>by omega⟩ ?_
 rintro ⟨j,hj,hno⟩
 refine go ⟨?_⟩;refine zj rfl (fun h=> ?_) (fun h=> ?_)
 ·have hlt:j<u.length:=by omega
  refine gcg jE (VX n u.length) ⟨?_⟩;refine cal zae (zap u n (ZP n u.length) j (by omega)) ⟨?_⟩;cases ha:YN u n (ZP n u.length) j
  ·refine gcg jU (VP n u.length) ⟨?_⟩;refine cal zae (zap u n (Zp n u.length) j (by omega)) ⟨?_⟩;cases hb:YN u n (Zp n u.length) j
   ·refine go ⟨?_⟩;refine je ⟨⟨j+1,hlt,fun i hi=> ?_⟩,by simp only;omega, ?_⟩
    ·by_cases hij:i=j
     ·subst hij;unfold pi;rw [ha,hb];rfl
     ·exact hno i (by omega)
    exact tel
   ·have:V=true:=hv.2 ⟨j,hlt,by unfold pi;rw [ha,hb];rfl⟩
    rw [this];exact gf
  ·have:V=true:=hv.2 ⟨j,hlt,by unfold pi;rw [ha];rfl⟩
   rw [this];exact gf
 ·have:V=false:=by
   cases hV2:V with
   |false=>rfl
   |true=>
    obtain ⟨d,h1,h2⟩:=hv.1 hV2;rw [hno d (by omega)] at h2;cases h2
  rw [this];exact gf
theorem zcv:ze Tryz.prog 155:=gfn Tryz.func155
theorem ui (t:zc):Xe t=true↔ ∀x,x<(rAs t).length→Yl (rAs t) (x:Nat)=true:=by
 unfold Xe;rw [List.all_eq_true];simp only [List.mem_range]
theorem Uy (t:zc) (ht:t.length≤1000000):APure Tryz.prog 89 [zg t] (.lit (.bool (Xe t))) []:=by
 refine ent Tryz.func89 Tryz.ntmps89 ⟨?_⟩;have hl:=zR t;have hv:=ui t;refine gc ZY (ZW t ht) ⟨?_⟩;generalize rAs t=u at*;generalize Xe t=V at*;refine go ⟨?_⟩;refine lp (fun j:{j:Nat // j≤u.length∧ ∀i,i<j→Yl u (i:Nat)=true}=>[(4,int j.1)]) (fun j=>[]) (fun j=>u.length - j.1) ⟨0,Nat.zero_le _,fun i hi=>by omega⟩ ?_
 rintro ⟨j,hj,hno⟩
 refine go ⟨?_⟩;refine zj rfl (fun h=> ?_) (fun h=> ?_)
 ·have hlt:j<u.length:=by omega
  refine gc zcv (zer u j (by omega)) ⟨?_⟩;cases ha:Yl u (j:Nat)
  ·have:V=false:=by
    cases hV2:V with
    |false=>rfl
    |true=>have:=hv.1 hV2 j hlt;rw [ha] at this;cases this
   rw [this];exact gf
  ·refine go ⟨?_⟩;refine je ⟨⟨j+1,hlt,fun i hi=> ?_⟩,by simp only;omega, ?_⟩
   ·by_cases hij:i=j
    ·subst hij;exact ha
    ·exact hno i (by omega)
   exact tel
 ·have:V=true:=hv.2 fun x hx=>hno x (by omega)
  rw [this];exact gf
theorem Us:ze Tryz.prog 89:=gfn Tryz.func89
def gU (ks:List (List UInt8)):Bool:=ks.all (fun k=>decide (k.length≤400)) && decide (ks.length≤20)
theorem ze7 (ks:List (List UInt8)) (hk:ks.length≤9223372036854775807):APure Tryz.prog 30 [slE eBB ks] (.lit (.bool (gU ks))) []:=by
 refine ent Tryz.func30 Tryz.ntmps30 ⟨?_⟩
 have hall:(ks.all fun k=>decide (k.length≤400))=true↔ ∀i,i<ks.length→(ks.getD i []).length≤400:=by
  rw [List.all_eq_true];constructor
  ·intro h i hi;have:=of_decide_eq_true (h _ (List.getElem_mem hi))
   simpa [List.getD_eq_getElem?_getD,hi] using this
  ·intro h k hk;obtain ⟨i,hi,rfl⟩:=List.mem_iff_getElem.1 hk;have:=h i hi
   exact decide_eq_true (by simpa [List.getD_eq_getElem?_getD,hi] using this)
 unfold gU;generalize (ks.all fun k=>decide (k.length≤400))=V at*;refine go ⟨?_⟩;refine lp (fun j:{j:Nat // j≤ks.length∧ ∀i,i<j→(ks.getD i []).length≤400}=>[(3,int j.1)]) (fun j=>[]) (fun j=>ks.length - j.1) ⟨0,Nat.zero_le _,fun i hi=>by omega⟩ ?_
 rintro ⟨j,hj,hno⟩
 refine go ⟨?_⟩;refine zj rfl (fun h=> ?_) (fun h=> ?_)
 ·have hlt:j<ks.length:=by omega
  refine go ⟨?_⟩;have hg:ks.getD j eBB.z=ks.getD j []:=rfl
  try rw [hg]
  by_cases h2:(ks.getD j []).length>400
  ·have:V=false:=by
    cases hV2:V with
    |false=>rfl
    |true=>have:=hall.1 hV2 j hlt;omega
   rw [this,Bool.false_and];have h3:((ks.getD j []).length:Int)>400:=by omega
   rw [decide_eq_true h3];exact gf
  ·have h3: ¬((ks.getD j []).length:Int)>400:=by omega
   rw [decide_eq_false h3];refine go ⟨?_⟩;refine je ⟨⟨j+1,hlt,fun i hi=> ?_⟩,by simp only;omega, ?_⟩
   ·by_cases hij:i=j
    ·subst hij;omega
    ·exact hno i (by omega)
   exact tel
 ·have:V=true:=hall.2 fun x hx=>hno x (by omega)
  rw [this,Bool.true_and];refine go ⟨?_⟩
  have:decide (ks.length≤20)=decide ((ks.length:Int)≤20):=by
   rw [Bool.eq_iff_iff];simp only [decide_eq_true_eq];omega
  rw [this];exact fin
theorem zdD:ze Tryz.prog 30:=gfn Tryz.func30
theorem V6 (t:zc): ∀(k:Nat) (x:Int),iIs x t.length=true→zZ x≤k→hsh t (k+1) x=hsh t k x
 |0,x,hI,hl=>by
  have he:x % 2=0:=by
   by_cases h1:x % 2=1
   ·obtain ⟨g1,g2,g3,g4⟩:=XQ hI h1;obtain ⟨a,b,_⟩:=xV g1;have hl:zZ x≤0:=hl
    rw [b] at g3;exfalso;omega
   ·omega
  rw [Q7 t 0 x,tP t x,if_pos he]
 |k+1,x,hI,hl=>by
  rw [Q7 t (k+1) x,Q7 t k x];have hp:=Z_ hI;by_cases h1:x % 2=0
  ·rw [if_pos h1,if_pos h1]
  ·obtain ⟨g1,g2,g3,g4⟩:=XQ hI (by omega);rw [if_neg h1,if_neg h1,V6 t k _ g1 (by omega),V6 t k _ g2 (by omega)]
theorem zlC {t:zc} {n:Nat} (hI:iIs n t.length=true):hsh t 7 n=if n % 2=0 then Yh (XS ((n / 2:Nat):Int) (t.getD n za)) else Yh (Xp (t.getD n za) (hsh t 7 (ZP n t.length)) (hsh t 7 (Zp n t.length))):=by
 rw [show (7:Nat)=6+1 from rfl,Q7,show (n:Int).toNat=n from rfl,show (n:Int) / 2=((n / 2:Nat):Int) by omega];by_cases he:n % 2=0
 ·rw [if_pos he,if_pos (by omega)]
 ·obtain ⟨g1,g2,g3,g4⟩:=XQ hI (by omega);have:=WA hI
  rw [if_neg he,if_neg (by omega),V6 t 6 _ g1 (by omega),V6 t 6 _ g2 (by omega)]
def kOk (t:zc) (f:Nat→List AV):Prop:= ∀j:Nat,f j=[]∨f j=[bytes (hsh t 7 j)]
theorem pP {t:zc} {f:Nat→List AV} (h:kOk t f) (n:Nat):kOk t (Ys f n [bytes (hsh t 7 n)]):=fun j=>by
 by_cases hj:j=n
 ·subst hj;exact .inr (Qp ..)
 ·rw [jA hj];exact h j
abbrev zkr (f:Nat→List AV):zb:=Ve 136 127 f
def ur (t:zc) (n:Int) (f f':Nat→List AV):Prop:=ACall Tryz.prog 129 [zg t,int n,KL 0] [zkr f] fun r H' fg=>r=bytes (hsh t 7 n)∧H'=[zkr f']∧fg=[]
theorem gN:ze Tryz.prog 129:=gfn Tryz.func129
theorem mc10 {G A:Prop} (k:Hold G) (h:Hold G→A:=by
 intro k;repeat ((with_reducible refine zez ?_);refine zhp hT rfl rfl (by first|exact True.intro|exact Nat.le_refl _|rfl|decide|omega|exact ⟨rfl,rfl⟩|exact ⟨rfl,by omega⟩|(simp only [IntKind.wrap_i64,IntKind.wrap_u64];omega)) rfl ?_;conv=>arg 7;try simp only [St.put,St.behind,Qz,St.ev,setn,nth,Option.getD,lits,List.map_cons,List.map_nil,List.nil_append,List.cons_append,List.append_nil,List.length_nil,List.length_cons,Nat.reduceAdd,Nat.zero_add,Nat.add_zero])
 exact k.1):A:=h k
theorem mc11 {G A:Prop} (k:Hold G) (h:Hold G→A:=by
 intro k;conv=>arg 7;try simp only [St.put,St.behind,Qz,St.ev,setn,nth,Option.getD,lits,List.map_cons,List.map_nil,List.map,ZO,fgs,ren,sh,yS,Yt,Z',Wf,Nat.reduceBEq,Bool.or_false,Bool.false_or,Bool.or_true,Bool.true_or,List.any_nil,List.any_cons,List.nil_append,List.cons_append,List.append_nil,List.length_nil,List.length_cons,Nat.reduceAdd,Nat.zero_add,Nat.add_zero]
 exact k.1):A:=h k
theorem Ud (t:zc) (n:Nat) (hI:iIs n t.length=true) (f f1 f2:Nat→List AV) (hf:kOk t f)
 (kids:n % 2=1→ur t (ZP n t.length) f f1∧ur t (Zp n t.length) f1 f2):ur t n f (match f n with|[]=>if n % 2=0 then Ys f n [bytes (hsh t 7 n)] else Ys f2 n [bytes (hsh t 7 n)]|_=>f):=by
 unfold ur at*;have h7:=zlC hI;have hp:=Z_ hI;have e1:=Yc n (by omega);refine enta Tryz.func129 Tryz.ntmps129 ⟨?_⟩;refine go ⟨?_⟩;have hT2:Z2 tab 136=some (3,26):=rfl
 have hb1:=pj ((n / 2:Nat):Int) (t.getD n za);have hb2:=ub (t.getD n za) (hsh t 7 (ZP n t.length)) (hsh t 7 (Zp n t.length))
 have hgm: ∀g:Nat→List AV,xh (zkr g) (n:Int)=g n:=fun g=>by
  unfold xh;rw [decide_eq_true (by omega),decide_eq_true (by simp only;omega)];rfl
 rcases hf n with h0|h0
 ·rw [h0];refine ZU hT rfl rfl hT2 rfl rfl rfl rfl rfl (x:= .lit (.slice none 0 0)) (by rw [hgm,h0]) (y:= .tup [.lit (.slice none 0 0), .lit (.bool false)]) (by rw [hgm,h0]) ?_;refine ng ⟨?_⟩;rw [show fE zf t n=Zb (t.getD n za) from rfl,WX,e1];refine cg zex (zdu ((n / 2:Nat):Int) (t.getD n za)) ⟨?_⟩;rw [WZ];by_cases h2:n % 2=0
  ·rw [if_pos h2] at h7;rw [if_pos h2,h2];refine gc pH (zau (XS ((n / 2:Nat):Int) (t.getD n za)) (by omega)) ⟨?_⟩;rw [←h7];refine go ⟨?_⟩;refine Jk hT rfl rfl hT2 rfl rfl rfl rfl (by simp only;omega) rfl ?_;refine ng ⟨?_⟩;refine ZU hT rfl rfl hT2 rfl rfl rfl rfl rfl (x:=bytes (hsh t 7 n)) (by rw [hgm,Qp]) (y:=bytes (hsh t 7 n)) (by rw [hgm,Qp]) ?_;refine ng ⟨?_⟩;exact Wc rfl trivial ⟨rfl,rfl,rfl⟩ (Tells.refl _)
  ·obtain ⟨k1,k2⟩:=kids (by omega);rw [if_neg h2] at h7;rw [if_neg h2,show n % 2=1 by omega];refine mc0 ⟨?_⟩;refine zjh y8 [8,10,15,17,18] (by kernel_rfl) (by kernel_rfl) ?_;refine mc10 ⟨?_⟩;refine KC rfl rfl rfl Gs rfl (by repeat' (first|exact trivial|exact Nat.le_refl _|exact Nat.le_of_eq (Nat.zero_add _)|refine And.intro ?_ ?_|omega)) (GK n t.length) rfl ?_;refine mc11 ⟨?_⟩;refine mc10 ⟨?_⟩;refine H9 rfl rfl rfl gN k1 rfl ?_;refine mc11 ⟨?_⟩;refine mc10 ⟨?_⟩;refine KC rfl rfl rfl Px rfl (by repeat' (first|exact trivial|exact Nat.le_refl _|exact Nat.le_of_eq (Nat.zero_add _)|refine And.intro ?_ ?_|omega)) (py n t.length) rfl ?_;refine mc11 ⟨?_⟩;refine mc10 ⟨?_⟩;refine H9 rfl rfl rfl gN k2 rfl ?_;refine mc11 ⟨?_⟩;refine mc10 ⟨?_⟩;refine KC rfl rfl rfl zbx rfl (by repeat' (first|exact trivial|exact Nat.le_refl _|exact Nat.le_of_eq (Nat.zero_add _)|refine And.intro ?_ ?_|omega)) (zb7 (t.getD n za) (hsh t 7 (ZP n t.length)) (hsh t 7 (Zp n t.length))) rfl ?_;refine mc11 ⟨?_⟩;refine mc10 ⟨?_⟩;refine AMr.nil ?_;refine gc pH (zau (Xp (t.getD n za) (hsh t 7 (ZP n t.length)) (hsh t 7 (Zp n t.length))) (by omega)) ⟨?_⟩;rw [←h7];refine go ⟨?_⟩;refine Jk hT rfl rfl hT2 rfl rfl rfl rfl (by simp only;omega) rfl ?_;refine ng ⟨?_⟩;refine ZU hT rfl rfl hT2 rfl rfl rfl rfl rfl (x:=bytes (hsh t 7 n)) (by rw [hgm,Qp]) (y:=bytes (hsh t 7 n)) (by rw [hgm,Qp]) ?_;refine ng ⟨?_⟩;exact Wc rfl trivial ⟨rfl,rfl,rfl⟩ (Tells.refl _)
 ·rw [h0];refine ZU hT rfl rfl hT2 rfl rfl rfl rfl rfl (x:=bytes (hsh t 7 n)) (by rw [hgm,h0]) (y:= .tup [bytes (hsh t 7 n), .lit (.bool true)]) (by rw [hgm,h0]) ?_;refine ng ⟨?_⟩;exact Wc rfl trivial ⟨rfl,rfl,rfl⟩ (Tells.refl _)
def mk (t:zc):Nat→Nat→(Nat→List AV)→Nat→List AV
 |0,n,f=>match f n with|[]=>Ys f n [bytes (hsh t 7 n)]|_=>f
 |k+1,n,f=>match f n with|[]=>if n % 2=0 then Ys f n [bytes (hsh t 7 n)] else Ys (mk t k (Zp n t.length).toNat (mk t k (ZP n t.length).toNat f)) n [bytes (hsh t 7 n)]|_=>f
theorem zc4 {t:zc}: ∀(k n:Nat) (f:Nat→List AV),kOk t f→kOk t (mk t k n f)
 |0,n,f,h=>by
  rw [mk];rcases h n with h0|h0
  ·rw [h0];exact pP h n
  ·rw [h0];exact h
 |k+1,n,f,h=>by
  rw [mk];rcases h n with h0|h0
  ·rw [h0];simp only;split
   ·exact pP h n
   ·exact pP (zc4 k _ _ (zc4 k _ _ h)) n
  ·rw [h0];exact h
theorem zi_ {t:zc}: ∀(k n:Nat) (f:Nat→List AV),kOk t f→iIs n t.length=true→zZ n≤k→ur t n f (mk t k n f):=by
 intro k;induction k with
 |zero=>
  intro n f hf hI hlv
  have he:n % 2=0:=by
   by_cases h1:n % 2=1
   ·obtain ⟨g1,g2,g3,g4⟩:=XQ hI (by omega);obtain ⟨a,b,_⟩:=xV g1;have hlv:zZ (n:Int)≤0:=hlv
    rw [b] at g3;exfalso;omega
   ·omega
  have:=Ud t n hI f f f hf (fun h=>by omega)
  rw [if_pos he] at this;rw [mk];exact this
 |succ k ih=>
  intro n f hf hI hlv
  have:=Ud t n hI f (mk t k (ZP n t.length).toNat f) (mk t k (Zp n t.length).toNat (mk t k (ZP n t.length).toNat f)) hf (fun h=>by
   obtain ⟨g1,g2,g3,g4⟩:=XQ hI (by omega);have p1:=Z_ g1;have p2:=Z_ g2;obtain ⟨a,ha⟩:=Int.eq_ofNat_of_zero_le p1.1;obtain ⟨b,hb⟩:=Int.eq_ofNat_of_zero_le p2.1;rw [ha] at g1 g3 ⊢;rw [hb] at g2 g4 ⊢;exact ⟨ih a f hf g1 (by omega),ih b _ (zc4 k a f hf) g2 (by omega)⟩)
  rw [mk];exact this
theorem zid (t:zc) (x:Int) (ht:t.length≤1000000):APure Tryz.prog 72 [zg t,int x] (bytes (QL t x)) []:=by
 refine ent Tryz.func72 Tryz.ntmps72 ⟨?_⟩;have hl:=zR t;have hs:=zG t;unfold QL;refine gc pa (UK t ht) ⟨?_⟩;generalize rAs t=u at*;refine go ⟨?_⟩;by_cases h0:x<0
 ·rw [if_pos (.inl h0)];exact gf
 by_cases h1:x≥u.length
 ·rw [if_pos (.inr h1)];exact gf
 rw [if_neg (by omega)];obtain ⟨n,rfl⟩: ∃n:Nat,x=n:=⟨x.toNat,by omega⟩;have hI:=QH hs (n:=n) (by omega);have hv:=WA hI;refine go ⟨?_⟩;refine qM 127 rfl rfl ?_;refine nz ⟨?_⟩;refine zV rfl rfl rfl gN (zi_ 7 n (fun _=>[]) (fun _=> .inl rfl) hI (by omega)) ?_;refine ng ⟨?_⟩;refine Z9 rfl trivial [bytes (hsh u 7 n)] [] ?_ ⟨rfl,rfl⟩;exact Tells.sel [] rfl rfl
theorem zie:ze Tryz.prog 72:=gfn Tryz.func72
theorem gV (t:zc) (x:Int) (l:List Int) (ht:t.length≤1000000) (hll:l.length≤1000000):APure Tryz.prog 241 [zg t,int x,Zn l] (bytes (xn t x l)) []:=by
 refine ent Tryz.func241 Tryz.ntmps241 ⟨?_⟩;have hdl:=KB t l;unfold xn;refine gc zgv (zgL t l ht hll) ⟨?_⟩;generalize Qd t l=d at*;exact gcgf zie (zid d x (by omega))
theorem Gt:ze Tryz.prog 241:=gfn Tryz.func241
end
section
variable {P:Program} {tab:Tab} {X:Nat→Prop} {H H':List zb} {μ μ':Mu} {w w':World} {O O':Nat→Prop} {r:Option Nat} {l R:List Oper} {Q:Exit→St→Prop} {σ:St} {o:Oper}
def pK:Nat→AV→Bool
 |0,_=>false
 |n+1,a=>match a with
  | .junk| .lit _| .row .. | .ptr .. =>true
  | .agg cs| .tup cs=>cs.all (pK n)
  |_=>false
theorem HK {f:Nat→Option Nat} (hf: ∀i j l,f i=some j→μ i=some l→μ' j=some l): ∀(n:Nat) {a:AV} {v:Value},pK n a=true→RV O w μ a v→RV O' w' μ' (ren f n a) v
 |0,a,v,h,_=>by cases h
 |n+1,a,v,h,hv=>by
  have fl: ∀{cs:List AV} {vs:List Value},cs.all (pK n)=true→(∀(j:Nat) a v,cs[j]?=some a→vs[j]?=some v→RV O w μ a v)→ ∀(j:Nat) a v,(cs.map (ren f n))[j]?=some a→vs[j]?=some v→RV O' w' μ' a v:=by
   intro cs vs hc h j a v ha hv;simp only [List.getElem?_map,Option.map_eq_some_iff] at ha;obtain ⟨a,ha,rfl⟩:=ha;exact HK hf n (List.all_eq_true.1 hc a (List.mem_of_getElem? ha)) (h j a v ha hv)
  cases hv with
  |junk=>exact .junk _
  |lit=>exact .lit _
  |agg h1 h2=>exact .agg (by simpa using h1) (fl h h2)
  |tup h1 h2=>exact .tup (by simpa using h1) (fl h h2)
  |arr a1 a2 a3 a4=>cases h
  |sl a0 a1 a2 a3 a4 a5 a6 a7 a8=>cases h
  |ip a1 a2 a3 a4 a5=>cases h
  |rowNil h1 hc=>
   simp only [ren];split
   ·exact .rowNil (hf _ _ _ ‹_› h1) hc
   ·exact .junk _
  |row h1 h2 h3 h4 h5=>
   simp only [ren];split
   ·exact .row (hf _ _ _ ‹_› h1) h2 h3 h4 h5
   ·exact .junk _
  |rowE h1 h2 h3=>
   simp only [ren];split
   ·exact .rowE (hf _ _ _ ‹_› h1) h2 h3
   ·exact .junk _
  |ptr h1=>
   simp only [ren];split
   ·exact .ptr (hf _ _ _ ‹_› h1)
   ·exact .junk _
  |fn h1 h2 h3 h4=>cases h
  |iface ht h1=>cases h
  |mapv h1=>cases h
def uv (N:List zb):Prop:= ∀ob∈N,ob.st=0∧ob.pure=true∧ ∀k,k<ob.n→(ob.f k).all zck=true
theorem Qb {ob:zb} (h1:ob.st=0) (h2:ob.pure=true) (h3: ∀k,k<ob.n→(ob.f k).all zck=true):uv [ob]:=fun o ho=>by
 obtain rfl:=List.mem_singleton.1 ho;exact ⟨h1,h2,h3⟩
theorem APure.own_at {f:FuncId} {args args':List AV} {r:AV} {N:List zb} (h:APure P f args' r N) {q:Prop} {used:List Nat} (ht:Yf (thaw H 4) args=some (q,args',used)) (hq:q) (hr:pK 4 r=true) (hN:uv N):
 ACall P f args H fun r' H' fg=>r'=ren (sh H.length) 4 r∧H'=H++N∧fg=[]:=by
 intro w X μ vs hH hv;have hargs:=Xk (XN hH 4) ht hq hv
 have hX1: ∀b,Less (OO X H μ) μ used b→b<w.heap.size:=by
  rintro b ⟨hx|⟨i,o,m,hi,hs,hm⟩,_⟩
  ·exact hH.xlt b hx
  ·exact (hH.lt i b m hm).1
 have hH0:HRel noMu (Less (OO X H μ) μ used) [] w:=⟨fun i l h=>(by cases h),fun i j b m m' h=>(by cases h),fun i b m h=>(by cases h),fun i o h=>(by simp at h),hX1,hH.gl.step (Nat.le_refl _) (fun _ _ _ _=>rfl) (fun b hb=>hb.1.elim .inl fun ⟨i,o,m,_,_,hm⟩=> .inr (.inl ⟨i,m,hm⟩)) fun i b m h=>(by cases h), .none fun o h=>(by cases h)⟩
 have hoo0: ∀b,OO (Less (OO X H μ) μ used) [] noMu b↔Less (OO X H μ) μ used b:=fun b=>⟨fun hb=>hb.elim id fun ⟨i,o,m,hi,_⟩=>(by simp at hi),fun hb=> .inl hb⟩
 refine (h w (Less (OO X H μ) μ used) noMu vs hH0 ⟨hargs.1,fun j a v ha hv=>(hargs.2 j a v ha hv).mono (fun b _ hb=>(hoo0 b).1 hb) (fun _ _ _=>rfl) _ fun _ _ h=>h⟩).mono fun e w' he=> ?_
 obtain ⟨v,r',H1,fg1,μ1,rfl,⟨rfl,rfl⟩,g1,g2,g3,g4,_,_⟩:=he;have hb:Below w.heap.size w w':=g3.below
 let μ':Mu:=fun i=>if i<H.length then μ i else μ1 (i - H.length)
 have hmu: ∀i l,μ i=some l→μ' i=some l:=fun i l hi=>by simp only [μ'];rw [if_pos (hH.dom i l hi)];exact hi
 have hmu1: ∀i l,μ1 i=some l→μ' (i+H.length)=some l:=fun i l hi=>by simp only [μ'];rw [if_neg (by omega)];simpa using hi
 have hnew: ∀i b m,μ1 i=some (some (b,m))→w.heap.size≤b:=fun i b m hi=>by
  rcases g4 i b m hi with ⟨j,m',hj⟩|h
  ·cases hj
  ·exact h
 have hext:Ext μ w μ':=fun i b m hi=>by
  simp only [μ'] at hi;split at hi
  ·exact .inl ⟨i,m,hi⟩
  ·exact .inr (hnew _ b m hi)
 have hobj: ∀i o,(H++H1)[i]?=some o→(i<H.length∧H[i]?=some o)∨(H.length≤i∧H1[i - H.length]?=some o):=by
  intro i o hi;by_cases hlt:i<H.length
  ·left;rw [List.getElem?_append_left hlt] at hi;exact ⟨hlt,hi⟩
  ·right;rw [List.getElem?_append_right (by omega)] at hi;exact ⟨by omega,hi⟩
 have hoo: ∀b,b<w.heap.size→OO X (H++H1) μ' b→OO X H μ b:=by
  rintro b hlt (hx|⟨i,o,m,hi,hs,hm⟩)
  ·exact .inl hx
  ·simp only [μ'] at hm;rcases hobj i o hi with ⟨h1,h2⟩|⟨h1,h2⟩
   ·rw [if_pos h1] at hm;exact .inr ⟨i,o,m,h2,hs,hm⟩
   ·rw [if_neg (by omega)] at hm;have:=hnew _ b m hm;omega
 have hsh: ∀i j l,sh H.length i=some j→μ1 i=some l→μ' j=some l:=fun i j l hi hm=>by
  simp only [sh] at hi;injection hi with hi;subst hi;exact hmu1 i l hm
 refine ⟨v,_,H++H1,[],μ',rfl,⟨rfl,rfl,rfl⟩,⟨fun i l hi=> ?_,fun i j b m m2 hi hj=> ?_,fun i b m hi=> ?_,fun i o hi hs=> ?_,fun b hx=>Nat.lt_of_lt_of_le (hH.xlt b hx) hb.size,hH.gl.step hb.size (fun b hlt _ _=>hb.block b hlt) (fun _ h=> .inl h) fun i b m hi=>(hext i b m hi).imp (fun h=>h) .inr,fun i o hi=> ?_⟩,HK hsh 4 hr g2, .of_below hb,hext,by simp,fun k x u _ hx=> ?_⟩
 ·simp only [μ'] at hi;split at hi
  ·simp;omega
  ·have:=g1.dom _ _ hi
   simp;omega
 ·simp only [μ'] at hi hj;split at hi <;>split at hj
  ·exact hH.inj _ _ _ _ _ hi hj
  ·have:=(hH.lt i b m hi).1;have:=hnew _ b m2 hj;omega
  ·have:=(hH.lt j b m2 hj).1;have:=hnew _ b m hi;omega
  ·have:=g1.inj _ _ _ _ _ hi hj;omega
 ·simp only [μ'] at hi;split at hi
  ·have:=hH.lt i b m hi;exact ⟨Nat.lt_of_lt_of_le this.1 hb.size,this.2⟩
  ·have:=hnew _ b m hi
   exact ⟨(g1.lt _ b m hi).1,fun hx=>by have:=hH.xlt b hx;omega⟩
 ·rcases hobj i o hi with ⟨h1,h2⟩|⟨h1,h2⟩
  ·exact (hH.obj i o h2 hs).mono hoo (fun b hlt _=>hb.block b hlt) hmu fun b m h1=>hb.block b (hH.lt i b m h1).1
  ·obtain ⟨hz,hc⟩:=g1.obj _ o h2 hs;obtain ⟨_,hp,hl⟩:=hN o (List.mem_of_getElem? h2)
   have hm': ∀l,μ1 (i - H.length)=some l→μ' i=some l:=fun l hm=>by
    have:=hmu1 _ l hm;rwa [Nat.sub_add_cancel h1] at this
   refine ⟨hz,hc.imp (fun ⟨e1,e2⟩=>⟨hm' _ e1,e2⟩) fun ⟨b,m,cur,e1,e2⟩=>⟨b,m,cur,hm' _ e1,e2.blk,e2.size,e2.le,e2.nle,e2.one,e2.flen,fun k j a v hk ha hv=> ?_⟩⟩;exact pn (List.all_eq_true.1 (hl k hk) a (List.mem_of_getElem? ha)) (e2.cell k j a v hk ha hv)
 ·rcases hobj i o hi with ⟨h1,h2⟩|⟨h1,h2⟩
  ·exact (hH.mp i o h2).mono hoo (fun b hlt _=>hb.block b hlt) (.refl _) (hmu i) fun b m h1=>hb.block b (hH.lt i b m h1).1
  ·obtain ⟨h3,_,_⟩:=hN o (List.mem_of_getElem? h2);exact .inr (by omega)
 ·exact hx.mono hoo (fun b hlt _=>hb.block b hlt) _ (xd hmu)
theorem zcT (hw:zS l σ o=some true) {fo:Operand} {ao:List Operand} {ts:Array TypeId} (ho:o.op= .call {callee:= .value fo,args:=ao.toArray,argTypes:=ts}) {f:FuncId} {fa ca:List AV} (hf:σ.ev fo= .fn (.func f) fa ca) (hg:ze P f)
 {q:Prop} {args':List AV} {used:List Nat} (ht:Yf (thaw σ.H 4) (fa++ao.map σ.ev++ca)=some (q,args',used)) (hq:q) {x:AV} {N:List zb} (h:APure P f args' x N) (hr:pK 4 x=true) (hN:uv N)
 (next:AL P r l Q R (St.put ⟨σ.s,σ.H++N,σ.fg,σ.nb⟩ o.dst (ren (sh σ.H.length) 4 x))):AL P r l Q (o::R) σ:=
 zV hw ho hf hg (h.own_at ht hq hr hN) next
end
section
attribute [local irreducible] zA AO zt zo ADr AL AW zF zh zU Tells APure ACall
theorem GJ {f:FuncId} {args:List AV} {v:List UInt8} (h:APure Tryz.prog f args (.row 0 1 0 v.length none) [oU8 v]):APure Tryz.prog f args (bytes v) []:=h.data rfl (Nat.le_of_eq (Nat.zero_add _))
theorem zdF (s:ShS) (hh:s.h.length=8):APure Tryz.prog 256 [shA s] (.row 0 1 0 (wW s).length none) [oU8 (wW s)]:=by
 refine ent Tryz.func256 Tryz.ntmps256 ⟨?_⟩;unfold wW;obtain ⟨h1,h2,h3,h4⟩:=WS hh;refine gc j3 (j7 s) ⟨?_⟩;generalize wh s=x at*;refine gcg zaf (hQ x.n) ⟨?_⟩;have hp:=vo x.n;refine cg vJ (vD x (Y4 x.n) h1 (by omega)) ⟨?_⟩;have h5:=y_ x (Y4 x.n) h1;generalize (Yn x (Y4 x.n)).h=g at*;refine zr (Tells.slot 13 (w8A g) rfl (zhg g)) ?_;refine zr (Tells.nilRow (t:=3) 5 1 rfl rfl) ?_;simp only [setn,List.length_cons,List.length_nil,Nat.zero_add];refine zr (Tells.sel [1] rfl rfl) ?_;simp only [List.map,ren,idx];refine lp (fun i:{i:Nat // i≤8}=>[(14,int i.1),(3, .row 0 1 0 (4*i.1) none)]) (fun i=>[{T:=5,sz:=1,n:=4*i.1,f:=fU8 (yT g i.1)}]) (fun i=>8 - i.1) ⟨0,by omega⟩ ?_
 rintro ⟨i,hi⟩
 refine go ⟨?_⟩;refine zj rfl (fun h=> ?_) (fun h=> ?_)
 ·refine go ⟨?_⟩;refine app (fU8 (yT g (i+1))) hT rfl rfl rfl rfl (fun k hk=> ?_) ?_
  ·rw [wM (by omega)];exact wS (xs:=yT g i) (ys:=X5 (g.getD i 0)) (by rw [YJ (by omega)]) rfl (by simp only [X5,List.map,Zr];rfl) k hk
  refine ng ⟨?_⟩;refine je ⟨⟨i+1,by omega⟩,by simp only;omega, ?_⟩;exact tel
 obtain rfl:i=8:=by omega
 refine go ⟨?_⟩;have e1:yT g 8=(g.map X5).flatten:=by unfold yT;rw [List.take_of_length_le (by omega)]
 have e2:=YJ (h:=g) (i:=8) (by omega);rw [e1] at e2;rw [e1,←e2];exact Z9 rfl trivial [.row 0 1 0 (List.map X5 g).flatten.length none] [oU8 (List.map X5 g).flatten] (Tells.refl _) ⟨rfl,rfl⟩
theorem zaR (s:ShS) (hh:s.h.length=8):APure Tryz.prog 273 [shA s] (.row 0 1 0 (wW s).length none) [oU8 (wW s)]:=by
 refine ent Tryz.func273 Tryz.ntmps273 ⟨?_⟩;unfold wW;obtain ⟨h1,h2,h3,h4⟩:=WS hh;refine gc pF (Pg s) ⟨?_⟩;generalize wh s=x at*;refine gcg TS (PN x.n) ⟨?_⟩;have hp:=vo x.n;refine cal qN (Qf x (Y4 x.n) h1 (by omega)) ⟨?_⟩;have h5:=y_ x (Y4 x.n) h1;generalize Yn x (Y4 x.n)=y at*;refine go ⟨?_⟩;refine zr (Tells.nilRow (t:=5) 5 1 rfl rfl) ?_;simp only [setn,List.length_cons,List.length_nil,Nat.zero_add];refine zr (Tells.sel [2,3] rfl rfl) ?_;simp only [List.map,ren,idx,Wf,Nat.reduceBEq,Option.map_some,Option.map_none,Nat.zero_add,Nat.reduceAdd,yS];refine lp (fun i:{i:Nat // i≤8}=>[(6,int i.1),(5, .row 1 1 0 (4*i.1) none)]) (fun i=>[zf1 y,{T:=5,sz:=1,n:=4*i.1,f:=fU8 (yT y.h i.1)}]) (fun i=>8 - i.1) ⟨0,by omega⟩ ?_
 rintro ⟨i,hi⟩
 refine go ⟨?_⟩;refine zj rfl (fun h=> ?_) (fun h=> ?_)
 ·refine go ⟨?_⟩;refine qo hT rfl (x:= .lit (.int .u32 (wv (y.h.getD i 0)))) ?_ ?_
  ·match i,h with
   |0,_|1,_|2,_|3,_|4,_|5,_|6,_|7,_=>exact ⟨_,rfl,Nat.zero_lt_one,Nat.le_of_ble_eq_true rfl⟩
   |i+8,h=>omega
  refine ng ⟨?_⟩;have m1:min 24 IntKind.u32.bits=24:=rfl
  have m2:min 16 IntKind.u32.bits=16:=rfl
  have m3:min 8 IntKind.u32.bits=8:=rfl
  rw [m1,m2,m3];simp only [Hx _ (G2 _ _),Hx _ (pB _)];rw [←Zr];refine app (fU8 (yT y.h (i+1))) hT rfl rfl rfl rfl (fun k hk=> ?_) ?_
  ·rw [wM (by omega)];exact wS (xs:=yT y.h i) (ys:=X5 (y.h.getD i 0)) (by rw [YJ (by omega)]) rfl rfl k hk
  refine ng ⟨?_⟩;refine je ⟨⟨i+1,by omega⟩,by simp only;omega, ?_⟩;exact tel
 obtain rfl:i=8:=by omega
 refine go ⟨?_⟩;have e1:yT y.h 8=(y.h.map X5).flatten:=by unfold yT;rw [List.take_of_length_le (by omega)]
 have e2:=YJ (h:=y.h) (i:=8) (by omega);rw [e1] at e2;rw [e1,←e2];exact Z9 rfl trivial [.row 0 1 0 (List.map X5 y.h).flatten.length none] [oU8 (List.map X5 y.h).flatten] (Tells.sel [1] rfl rfl) ⟨rfl,rfl⟩
theorem zhj (b:List UInt8) (hb:b.length≤100000000000):APure Tryz.prog 194 [bytes b] (.row 0 1 0 (Yh b).length none) [oU8 (Yh b)]:=by
 refine ent Tryz.func194 Tryz.ntmps194 ⟨?_⟩;refine gcg vC vQ ⟨?_⟩;refine cg vJ (vD WW b rfl hb) ⟨?_⟩;refine cg P9 (zdF _ (y_ _ _ rfl)) ⟨?_⟩;exact Z9 rfl trivial [.row 0 1 0 (Yh b).length none] [oU8 (Yh b)] (Tells.refl _) ⟨rfl,rfl⟩
theorem zcH (b:List UInt8) (hb:b.length≤100000000000):APure Tryz.prog 221 [bytes b] (.row 0 1 0 (Yh b).length none) [oU8 (Yh b)]:=by
 refine ent Tryz.func221 Tryz.ntmps221 ⟨?_⟩;refine gcg qy qr ⟨?_⟩;refine cg qN (Qf WW b rfl hb) ⟨?_⟩;refine cg Ur (zaR _ (y_ _ _ rfl)) ⟨?_⟩;exact Z9 rfl trivial [.row 0 1 0 (Yh b).length none] [oU8 (Yh b)] (Tells.refl _) ⟨rfl,rfl⟩
theorem ze0 (t:zc) (n:Nat) (c:Int) (hn:n<t.length) (ht:t.length≤1000000) (hu:(t.getD n za).inner.unm.length≤1000000):APure Tryz.prog 208 [zg t,int n,int c] (.row 0 1 0 (yF t n c).length none) [oU8 (yF t n c)]:=by
 refine ent Tryz.func208 Tryz.ntmps208 ⟨?_⟩;have hg:yF t n c=Yh (YM (t.getD n za).inner (xn t (zE c t.length) (t.getD n za).inner.unm)):=rfl
 rw [hg];have hb:=QR (t.getD n za).inner (xn t (zE c t.length) (t.getD n za).inner.unm);refine gcg Qa (qZ c t.length) ⟨?_⟩;rw [show fE zf t n=Zb (t.getD n za) from rfl];have hz:t.getD n zf.z=t.getD n za:=rfl
 try rw [hz]
 refine cal JO (JZ t (zE c t.length) (t.getD n za).inner.unm ht hu) ⟨?_⟩;generalize xn t (zE c t.length) (t.getD n za).inner.unm=wv at*;refine gcg J2 (JM (t.getD n za).inner wv) ⟨?_⟩;generalize YM (t.getD n za).inner wv=pv at*;refine zkc rfl rfl rfl jW rfl (zcH pv (by omega)) rfl rfl (by show 0<(Yh pv).length;rw [UM];decide) ?_;refine go ⟨?_⟩;exact Z9 rfl trivial [.row 0 1 0 (Yh pv).length none] [oU8 (Yh pv)] (Tells.refl _) ⟨rfl,rfl⟩
theorem zak (t:zc) (n:Nat) (c:Int) (hn:n<t.length) (ht:t.length≤1000000) (hu:(t.getD n za).inner.unm.length≤1000000):APure Tryz.prog 173 [zg t,int n,int c] (.row 0 1 0 (yF t n c).length none) [oU8 (yF t n c)]:=by
 refine ent Tryz.func173 Tryz.ntmps173 ⟨?_⟩;have hg:yF t n c=Yh (YM (t.getD n za).inner (xn t (zE c t.length) (t.getD n za).inner.unm)):=rfl
 rw [hg];have hb:=QR (t.getD n za).inner (xn t (zE c t.length) (t.getD n za).inner.unm);refine go ⟨?_⟩;rw [show fE zf t n=Zb (t.getD n za) from rfl];refine cg vH (vp c t.length) ⟨?_⟩;refine cal Gt (gV t (zE c t.length) (t.getD n za).inner.unm ht hu) ⟨?_⟩;generalize xn t (zE c t.length) (t.getD n za).inner.unm=wv at*;refine gcg Gb (gR (t.getD n za).inner wv) ⟨?_⟩;generalize YM (t.getD n za).inner wv=pv at*;refine cg pH (zhj pv (by omega)) ⟨?_⟩;exact Z9 rfl trivial [.row 0 1 0 (Yh pv).length none] [oU8 (Yh pv)] (Tells.sel [1] rfl rfl) ⟨rfl,rfl⟩
theorem HW:ze Tryz.prog 173:=gfn Tryz.func173
theorem zga (t:zc) (n:Nat) (c:Int) (hn:n<t.length) (ht:t.length≤1000000) (hu:(t.getD n za).inner.unm.length≤1000000):APure Tryz.prog 173 [zg t,int n,int c] (bytes (yF t n c)) []:=GJ (zak t n c hn ht hu)
theorem gon {G A:Prop} (k:Hold G) (h:Hold G→A:=by
 intro k;try simp only [lst,Zz,ZB,setn]
 first|(refine mf8 ⟨?_⟩)|(refine mf3 ⟨?_⟩)|(refine mf1 ⟨?_⟩)|skip
 repeat (first
  |with_reducible refine XP ?_|with_reducible refine yL ?_|with_reducible refine XZ ?_|with_reducible refine xm ?_|with_reducible refine ZS ?_|with_reducible refine YD ?_|with_reducible refine xq ?_|with_reducible refine Yy ?_|with_reducible refine xk ?_|with_reducible refine yI ?_|with_reducible refine yj ?_|with_reducible refine YI ?_|(with_reducible refine VN ?_;conv=>arg 5;simp only [VZ,xH,cond_true,cond_false])
  |((with_reducible refine yJ ?_);first|refine YA rfl ?_|refine yH rfl ?_)
  |((with_reducible refine yX ?_);first|refine yG rfl ?_|refine yv rfl ?_)
  |((with_reducible refine yk ?_);first
   |(refine Yk hT rfl rfl (by first|exact True.intro|exact Nat.le_refl _|rfl|decide|omega|exact ⟨rfl,rfl⟩|exact ⟨rfl,by omega⟩|exact yx _ _|exact yy _ _ _|(refine Int.le_trans (b:=9000000000000000000) ?_ (by decide);simp only [Xi,List.length_append,List.length_nil];omega)|(simp only [IntKind.wrap_i64,IntKind.wrap_u64];omega)|(simp only [Yo,zO,and_true,Int.toNat_natCast,List.length_cons,List.length_append,List.length_nil,List.length_take,IntKind.wrap_i64];omega)) ?_;refine mf6 ⟨?_⟩)
   |(refine xr rfl ?_;conv=>arg 6;try simp only [St.put,setn,nth])
   |(refine wN hT rfl rfl rfl (by refine ⟨?_, ?_⟩ <;>first|exact Nat.zero_lt_one|exact ⟨rfl,rfl⟩|exact fun _=>rfl|exact fun h=>by cases h|decide|omega|(simp only [IntKind.wrap_i64];omega)|(simp;omega)) ?_;refine mf7 ⟨?_⟩)
   |(refine Xt hT rfl rfl (by first|exact True.intro|omega|decide|exact ⟨rfl,by decide,by decide,by decide⟩) ?_;refine mf5 ⟨?_⟩))
  |((with_reducible refine Xg ?_);first
   |(refine wm hT rfl rfl (by first|exact True.intro|exact Nat.le_refl _|rfl|decide|omega|exact ⟨rfl,rfl⟩|exact ⟨rfl,by omega⟩|exact yx _ _|exact yy _ _ _|(refine Int.le_trans (b:=9000000000000000000) ?_ (by decide);simp only [Xi,List.length_append,List.length_nil];omega)|(simp only [IntKind.wrap_i64,IntKind.wrap_u64];omega)|(simp only [Yo,zO,and_true,Int.toNat_natCast,List.length_cons,List.length_append,List.length_nil,List.length_take,IntKind.wrap_i64];omega)) ?_;refine mf10 ⟨?_⟩)
   |(refine vF rfl ?_;conv=>arg 8;try simp only [St.put,setn,nth])
   |(refine JD hT rfl rfl (by first|exact True.intro|omega) ?_;refine mf9 ⟨?_⟩))
  |((with_reducible refine yX ?_);first|refine zcE rfl (by first|assumption|omega) ?_|refine zdV rfl (by first|assumption|omega) ?_)
  |((with_reducible refine yk ?_);first|refine zeR rfl rfl (by first|assumption|omega) ?_|refine zel rfl rfl (by first|assumption|omega) ?_;conv=>arg 6;simp only [setn])
  |((with_reducible refine Xg ?_);first|refine zcG rfl rfl (by first|assumption|omega) ?_|refine zdb rfl rfl (by first|assumption|omega) ?_;conv=>arg 8;simp only [setn]))
 exact k.1):A:=h k
def Qx (f b:List Int) (ks:List (List UInt8)):List (Int×Int×List UInt8):=(f.zip (b.zip ks)).reverse
theorem vl {f b:List Int} {ks:List (List UInt8)} (hb:b.length=f.length) (hk:ks.length=f.length):(Qx f b ks).length=f.length:=by
 unfold Qx;simp [hb,hk]
theorem Ko {f b:List Int} {ks:List (List UInt8)} (hb:b.length=f.length) (hk:ks.length=f.length) {j:Nat} (hj:j<f.length):
 (Qx f b ks).drop j=(f.getD (f.length - 1 - j) 0,b.getD (f.length - 1 - j) 0,ks.getD (f.length - 1 - j) [])::(Qx f b ks).drop (j+1):=by
 rw [List.drop_eq_getElem_cons (by rw [vl hb hk];exact hj)];congr 1
 unfold Qx;rw [List.getElem_reverse];have hl:(f.zip (b.zip ks)).length=f.length:=by simp [hb,hk]
 simp only [hl,List.getElem_zip,List.getD_eq_getElem?_getD];rw [List.getElem?_eq_getElem (by omega),List.getElem?_eq_getElem (by omega),List.getElem?_eq_getElem (by omega)];rfl
theorem JA (t:zc) (i:Int):zQ (rAs t) i=zQ t i:=by
 unfold zQ zL zp;rw [W6]
theorem Um (t:zc):zp (rAs t)=zp t:=by unfold zp;rw [W6]
theorem UL {t:zc} {i:Int} (h: ¬(i<0∨i≥zp t)):Zf (rAs t) i=Zf t i:=by
 unfold Zf;rw [JA,T2];have hlv:zp t=(((rAs t).length+1) / 2:Nat):=rfl
 omega
abbrev vZ (key said:List UInt8):Zt:=⟨2,ZF,⟨key,said,[]⟩⟩
theorem wK (x b:Int) (key:List UInt8) (l:List (Int×Int×List UInt8)) (t:zc) (said:List UInt8):YK ((x,b,key)::l) t said=YK l (t.set x.toNat (vZ key said)) (yF (t.set x.toNat (vZ key said)) x (zE b t.length)):=by rw [YK]
theorem kQ {t:zc} {i:Int} {ks:List (List UInt8)} (h:i<0∨i≥zp t):ZG t i ks=([],[],3):=by unfold ZG;rw [if_pos h]
theorem j6 {t:zc} {i:Int} {ks:List (List UInt8)} (h: ¬(i<0∨i≥zp t)) (h2:(zQ t i).length≠ks.length):ZG t i ks=([],[],11):=by unfold ZG;rw [if_neg h,if_pos h2]
theorem Vw {t:zc} {i:Int} {ks:List (List UInt8)} (h: ¬(i<0∨i≥zp t)) (h2:(zQ t i).length=ks.length) (h3:Zv ks≠0):ZG t i ks=([],[],Zv ks):=by unfold ZG;rw [if_neg h,if_neg (fun h=>h h2),if_pos h3]
theorem PD {t:zc} {i:Int} {ks:List (List UInt8)} (h: ¬(i<0∨i≥zp t)) (h2:(zQ t i).length=ks.length) (h3:Zv ks=0):ZG t i ks=((YK (Qx (Zf t i) (zQ t i) ks) (Za (zy (2*i) (rAs t).length) (rAs t)) []).1,(YK (Qx (Zf t i) (zQ t i) ks) (Za (zy (2*i) (rAs t).length) (rAs t)) []).2,0):=by
 unfold ZG;rw [if_neg h,if_neg (fun h=>h h2),if_neg (fun h=>h h3)];rfl
theorem VL (t:zc) (i:Int):(Zf t i).length=(zQ t i).length:=by unfold Zf;rw [List.length_map]
theorem H5 (key said:List UInt8) {q:zc} {j k:Nat} (hk:k<q.length):LeS (upd (fE zf q) j (([int 2, .lit (.slice none 0 0), .lit (.slice none 0 0),int 0, .lit (.slice none 0 0),bytes key,bytes said, .lit (.slice none 0 0)]:List AV)++List.drop 8 (fE zf q j)) k) (fE zf (q.set j (vZ key said)) k):=by
 rw [WM (vZ key said) hk];unfold upd;split
 ·have: ∀r:List AV,LeS r r:=LeS.refl
  exact (by exact les)
 ·exact LeS.refl _
theorem zhC (t:zc) (i:Int) (ks:List (List UInt8)) (ht:t.length≤1000000) (hk:ks.length≤1000000):APure Tryz.prog 147 [zg t,int i,slE eBB ks] (.tup [zg (ZG t i ks).1,bytes (ZG t i ks).2.1,int (ZG t i ks).2.2]) []:=by
 refine ent Tryz.func147 Tryz.ntmps147 ⟨?_⟩;have hl:=zR t;have hs:=zG t;have hlv:zp t=(((rAs t).length+1) / 2:Nat):=rfl
 have hfl:=VL t i;have hbl:=qY t i;have hpo:=kQ (t:=t) (i:=i) (ks:=ks);have hpp:=j6 (t:=t) (i:=i) (ks:=ks);have hpw:=Vw (t:=t) (i:=i) (ks:=ks);have hpi:=PD (t:=t) (i:=i) (ks:=ks);have hba:=JA t i;have hla:=Um t;have hfa:=UL (t:=t) (i:=i);generalize hP:ZG t i ks=P at*;refine gc ZY (ZW t ht) ⟨?_⟩;generalize rAs t=u at*;generalize zp t=lv at*;refine go ⟨?_⟩;by_cases h0:i<0
 ·rw [hpo (.inl h0)];exact gf
 refine gc xe (XB u (by omega)) ⟨?_⟩;rw [hla];by_cases h1:i≥lv
 ·rw [hpo (.inr h1)];exact gf
 have hin: ¬(i<0∨i≥lv):=by omega
 refine gc uW (Uq u i (by omega)) ⟨?_⟩;rw [hfa hin]
 have hod: ∀y∈Zf t i,y % 2=1∧0≤y∧y<u.length:=by
  rw [←hfa hin];exact fun y hy=>Vz hs hy
 generalize Zf t i=f at*;refine go ⟨?_⟩;by_cases h2:f.length=ks.length
 rotate_left
 ·rw [hpp hin (by omega)];rw [bne_iff_ne.2 (show (ks.length:Int)≠f.length by omega)];exact gf
 rw [bne_eq_false_iff_eq.2 (show (ks.length:Int)=f.length by omega)];refine gcg PV (tp ks (by omega)) ⟨?_⟩;by_cases h3:Zv ks=0
 rotate_left
 ·rw [hpw hin (by omega) h3,bne_iff_ne.2 h3];exact gcgf PV (tp ks (by omega))
 have hpi:=hpi hin (by omega) h3;rw [bne_eq_false_iff_eq.2 h3];refine go ⟨?_⟩;refine app (fE zf u) hT rfl rfl rfl rfl (fun k hk=>WB (xs:=[]) rfl hk) ?_;refine ng ⟨?_⟩;obtain ⟨n,rfl⟩: ∃n:Nat,i=n:=⟨i.toNat,by omega⟩;have hw:=ZE hs (by omega);have hodd:=of_decide_eq_true hw;have e1:IntKind.i64.wrap (2*(n:Int))=((2*n:Nat):Int):=by simp only [IntKind.wrap_i64];omega
 have e2:2*(n:Int)=((2*n:Nat):Int):=by omega
 have hdi: ∀y∈zy (2*(n:Int)) u.length,iIs y u.length=true:=fun y hy=>YP hy
 have hdl:=YC (2*(n:Int)) u.length;rw [e2] at hdi hdl hpi;rw [e1];refine cal Wt (Ws ((2*n:Nat):Int) u.length) ⟨?_⟩;generalize zy ((2*n:Nat):Int) u.length=d at*;refine go ⟨?_⟩
 refine lp (fun j:{j:Nat // j≤d.length}=>[(13,int j.1)]) (fun j=>[{T:=85,sz:=8,n:=u.length,f:=fE zf (Za (d.take j.1) u)}]) (fun j=>d.length - j.1) ⟨0,Nat.zero_le _⟩ ?_ (h0:=by
  simp only [lst,Zz,ZB,setn,List.take_zero,wy];exact tel)
 rintro ⟨j,hj⟩
 refine go ⟨?_⟩;refine zj rfl (fun h=> ?_) (fun h=> ?_)
 ·have hlt:j<d.length:=by omega
  have hxj:=hdi _ (List.getElem_mem hlt);have hg:d.getD j 0=d[j]:=by simp [List.getD_eq_getElem?_getD,hlt]
  have htk:=zT hlt;have hp:=Z_ hxj;rw [←hg] at hp hxj;refine go ⟨?_⟩;generalize hz:d.getD j 0=z at*;obtain ⟨zn,rfl⟩: ∃zn:Nat,z=zn:=⟨z.toNat,by omega⟩;have hbs:=xN (d.take j) u zn;rw [←htk] at hbs;have hbl:=z_ (d.take j) u;refine ms10 ⟨?_⟩;refine (Tells.le (H':=[{T:=85,sz:=8,n:=u.length,f:=fE zf (Za (d.take (j+1)) u)}]) (.refl _) (.cons (.les (Nat.le_refl _) fun k hk=> ?_) .nil)).trans ?_
  ·rw [hbs];exact wF _ zn (by rw [hbl];exact hk)
  ·exact tel
 obtain rfl:j=d.length:=by omega
 rw [List.take_length];have hbal:=z_ d u;generalize Za d u=v at*;refine gc za4 (zbI u n (by omega)) ⟨?_⟩;rw [hba];generalize zQ t n=b at*;refine go ⟨?_⟩;generalize hG:YK (Qx f b ks) v []=G at*
 refine lp (fun i:{q:Nat×zc×List UInt8 // q.1≤f.length∧q.2.1.length=u.length∧YK ((Qx f b ks).drop q.1) q.2.1 q.2.2=G}=>[(15,bytes i.1.2.2),(16,int ((f.length:Int) - 1 - (i.1.1:Nat)))]) (fun i=>[{T:=85,sz:=8,n:=u.length,f:=fE zf i.1.2.1}]) (fun i=>f.length - i.1.1) ⟨(0,v,[]),by simp,hbal,by simpa using hG⟩ ?_ (h0:=by
  simp only [lst,Zz,ZB,setn];exact tel)
 rintro ⟨⟨j,q,sd⟩,hj,hq,hg⟩
 simp only at hj hq hg ⊢;refine go ⟨?_⟩;refine zj rfl (fun h=> ?_) (fun h=> ?_)
 ·have hlt:j<f.length:=by omega
  have hd:=congrArg (fun l=>YK l q sd) (Ko (f:=f) (b:=b) (ks:=ks) (by omega) (by omega) hlt);have hk1:(f.length:Int) - 1 - (j:Nat)=((f.length - 1 - j:Nat):Int):=by omega
  rw [hk1];generalize hm:f.length - 1 - j=m at*;have hmf:m<f.length:=by omega
  have hof:=hod _ (List.getElem_mem hmf);have hgf:f.getD m 0=f[m]:=by simp [List.getD_eq_getElem?_getD,hmf]
  rw [←hgf] at hof;generalize hz:f.getD m 0=z at*;obtain ⟨zn,rfl⟩: ∃zn:Nat,z=zn:=⟨z.toNat,by omega⟩;have hzq:zn<q.length:=by omega
  refine gon ⟨?_⟩;first|refine wR y8 rfl (by decide+kernel) (by decide+kernel) ?_|refine XD y8 rfl (by decide+kernel) (by decide+kernel) ?_
  conv=>arg 7;simp only [xA,xH,cond_true,cond_false]
  refine gon ⟨?_⟩;rw [hz];refine gon ⟨?_⟩;have hq1:(q.set zn (vZ (ks.getD m []) sd)).length=u.length:=by rw [List.length_set];exact hq
  have hq2:(q.set zn (vZ (ks.getD m []) sd)).getD zn za=vZ (ks.getD m []) sd:=by simp [List.getD_eq_getElem?_getD,hzq]
  rw [wK,show (zn:Int).toNat=zn from rfl] at hd;rw [hg,hq] at hd;refine zr (Tells.le (H':=[{T:=85,sz:=8,n:=u.length,f:=fE zf (q.set zn (vZ (ks.getD m []) sd))}]) (.refl _) (.cons (.les (Nat.le_refl _) fun k hk=>H5 _ _ (by rw [hq];exact hk)) .nil)) ?_;generalize q.set zn (vZ (ks.getD m []) sd)=q' at*;refine wL y8 12 (by kernel_rfl) (by kernel_rfl) ?_;refine mc2 ⟨?_⟩;refine gon ⟨?_⟩;rw [hz];refine gon ⟨?_⟩;refine cal Qa (qZ (b.getD m 0) u.length) ⟨?_⟩;refine gon ⟨?_⟩;refine Q2 ?_;refine mc4 ⟨?_⟩;have hgw:=ze0 q' zn (zE (b.getD m 0) u.length) (by omega) (by omega) (by rw [hq2];simp);have hnq:zg q'= .sl 8 u.length false (fE zf q'):=by show AV.sl 8 q'.length false _=_;rw [hq1]
  rw [hnq] at hgw;generalize yF q' zn (zE (b.getD m 0) u.length)=gv at*;refine zcT rfl rfl rfl TO rfl (by repeat' (first|exact trivial|exact Nat.le_refl _|exact Nat.le_of_eq (Nat.zero_add _)|refine And.intro ?_ ?_|omega)) hgw rfl (Qb rfl rfl fun k hk=>rfl) ?_;refine nz ⟨?_⟩;refine zz (Tells.thaw (t:=96) rfl rfl (by repeat' (first|exact trivial|exact Nat.le_refl _|exact Nat.le_of_eq (Nat.zero_add _)|omega|exact rfl|refine And.intro ?_ ?_))) ?_;refine nz ⟨?_⟩;refine zz (Tells.sel [0] rfl rfl) ?_;refine nz ⟨?_⟩;refine gon ⟨?_⟩;refine je ⟨⟨(j+1,q',gv),hlt,hq1,hd.symm⟩,by simp only;omega, ?_⟩;exact tel
 ·have hje:j=f.length:=by omega
  subst hje;rw [List.drop_of_length_le (by rw [vl (by omega) (by omega)];exact Nat.le_refl _)] at hg;have hG2:G=(q,sd):=hg.symm
  rw [hpi,hG2,←hq];exact gf
theorem zhr:ze Tryz.prog 147:=gfn Tryz.func147
end
section
section
variable {P:Program} {b:Frame} {a:Act} {k:List Item} {cs:List Frame} {w:World} {F:Fence} {n:Nat} {Q:Exit→Act→World→Prop}
theorem xD {c:Code}:step P (lone (b.atR a (.code (.scope c)::k)) cs w)= .next (lone (b.atR a (.code c:: .inScope c::k)) cs w):=
 step_lone_go (by simp [stepG,stepG.exec,Frame.atR])
theorem uI {c:Code}:step P (lone (b.atR a (.inScope c::k)) cs w)= .next (lone (b.atR a k) cs w):=
 step_lone_go (by simp [stepG,stepG.exec,Frame.atR])
theorem gY {c:Code} (hq: ∀l a w,Q (.goto l) a w→False) (h:c.wpIn F n P Q a w):(Code.scope c).wpIn F n P Q a w:=by
 intro b k cs hro hb hr;have h0:(lone (b.atR a (.code (.scope c)::k)) cs w).fenced P F:=fenced_calm hb hr rfl
 obtain ⟨e,a₁,w₁,hq1,harr⟩:=h b (.inScope c::k) cs hro hb hr;cases e with
 |normal=>exact ⟨.normal,a₁,w₁,hq1, .head h0 xD (StepsIn.trans harr (.one (fenced_calm hb hr rfl) uI))⟩
 |exit id=>
  have hx:exitTo id (.inScope c::k)=exitTo id k:=by simp [exitTo]
  exact ⟨_,a₁,w₁,hq1,fun k' hk=> .head h0 xD (harr.1 k' (by rw [hx];exact hk)),
   fun hr' hk=>let ⟨k₁,h1,h2⟩:=harr.2 hr' (by rw [hx];exact hk);⟨k₁,h1, .head h0 xD h2⟩⟩
 |goto l=>exact (hq l a₁ w₁ hq1).elim
 |ret=>exact ⟨_,a₁,w₁,hq1,fun hr'=>let ⟨todo,hs⟩:=harr.1 hr';⟨todo, .head h0 xD hs⟩,fun hr'=>let ⟨k₁,hs⟩:=harr.2 hr';⟨k₁, .head h0 xD hs⟩⟩
 |panic ch=>obtain ⟨todo,hs⟩:=harr;exact ⟨_,a₁,w₁,hq1,todo, .head h0 xD hs⟩
 |outgrown=>exact ⟨_,a₁,w₁,hq1, .of_steps (.one h0 xD) harr⟩
end
variable {P:Program} {r:Option Nat} {Q:Exit→St→Prop} {σ:St}
theorem zfN {c:Code} (hq: ∀l σ,Q (.goto l) σ→False) (h:AW P r c Q σ):AW P r (.scope c) Q σ:=fun B μ a w hr=>
 gY (fun l a w ⟨σ',h1,_⟩=>hq l σ' h1) (h B μ a w hr)
theorem zbc {tab:Tab} {rs:List ResultVar} {K:AV→List zb→List Nat→Prop} {l:Nat} (h:zU tab rs K (.goto l) σ):False:=h
end
end Go.Proofs.YtgdmkpikkfakdaaGreatDoor
