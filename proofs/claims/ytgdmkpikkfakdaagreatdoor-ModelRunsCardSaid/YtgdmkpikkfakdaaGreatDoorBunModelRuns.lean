/- The law cordwoodlaw16.ModelRuns holds, as its card says it: whatever the input that can be read, the call returns true, and each argument reads as it read before; the table block.numbers is what the text lays. -/
import Derived.Test.YtgdmkpikkfakdaaGreatDoorBunModel6
namespace Go.Proofs.YtgdmkpikkfakdaaGreatDoor
open Go.RowKit
set_option maxRecDepth 100000
set_option linter.unusedVariables false
set_option linter.unusedSimpArgs false
set_option linter.unusedSectionVars false
section
open Go.RowKit
attribute [local irreducible] zA AO zt zo ADr AL AW zF zh zU Tells APure ACall
set_option maxRecDepth 100000
set_option maxHeartbeats 1000000 in
theorem rbehind_p (l:List MOp) (hk:KOk l) (hl:l.length≤1000000):APure Tryz.prog 23 [ops l] (stA (zw Zu l)) []:=by
 refine zfb hT Tryz.func23 rfl ?_
 simp only [Tryz.ntmps23,List.length_cons,List.length_nil,Nat.reduceAdd,Nat.reduceSub,List.replicate,List.cons_append,List.nil_append]
 refine go ⟨?_⟩
 refine lp (fun i:{i:Nat // i≤l.length}=>[(4,int i.1),(5, .junk),(6, .junk)]) (fun i=>[{T:=25,sz:=3,n:=1,f:=fun _=>stC Zu,box:=true},Wh (zw Zu (l.take i.1))]) (fun i=>l.length - i.1) ⟨0,by omega⟩ ?_
 rintro ⟨i,hi⟩
 have hsn:=xS (l.take i) Zu WD
 have hok:=(Zj hsn).1
 refine go ⟨?_⟩
 refine zj rfl (fun h=> ?_) (fun h=> ?_)
 ·have hlt:i<l.length:=by omega
  have hz:l.getD i eOp.z=l[i]:=by show l.getD i Kk=_;simp [List.getD_eq_getElem?_getD,hlt]
  have ef:fE eOp l i=opC l[i]:=congrArg opC hz
  have hc:=zk_ (zw Zu (l.take i)) l[i] hok (hk _ (List.getElem_mem hlt))
  have hs:zw Zu (l.take (i+1))=(mDo (zw Zu (l.take i)) l[i]).1:=by rw [List.take_succ_eq_append_getElem hlt,Wi]
  generalize zw Zu (l.take i)=s at*
  unfold DoP at hc
  generalize mDo s l[i]=p at*
  obtain ⟨u,a⟩:=p
  simp only at hc hs
  refine go ⟨?_⟩
  rw [ef]
  refine cal zkN hc ⟨?_⟩
  refine go ⟨?_⟩
  refine je ⟨⟨i+1,hlt⟩,by simp only;omega, ?_⟩
  simp only [hs]
  refine (Tells.sel [0,1] rfl rfl).trans ?_
  simp only [yS,Yt,wP,setn,zhv,List.map,ren,idx,fgs,fgk,List.filter,List.foldl,List.length_cons,List.length_nil,Nat.reduceAdd,Option.map,Nat.reduceBEq,beq_self_eq_true,cond_true,cond_false]
  exact tel
 ·obtain rfl:i=l.length:=by omega
  rw [List.take_length]
  generalize zw Zu l=s at*
  refine go ⟨?_⟩
  exact fin
theorem goRBehind:ze Tryz.prog 23:=⟨_,_,Tryz.func23,by kernel_rfl,rfl⟩
set_option maxHeartbeats 1000000 in
theorem rrun_p (l:List MOp) (hk:KOk l) (hl:l.length≤1000000):APure Tryz.prog 22 [ops l] (zg4 (wB Zu l)) []:=by
 refine zfb hT Tryz.func22 rfl ?_
 simp only [Tryz.ntmps22,List.length_cons,List.length_nil,Nat.reduceAdd,Nat.reduceSub,List.replicate,List.cons_append,List.nil_append]
 have hml:=qI l Zu
 refine go ⟨?_⟩
 refine zr (Tells.nilRow (t:=4) 38 5 rfl rfl) ?_
 simp only [setn,List.length_cons,List.length_nil,Nat.reduceAdd,List.cons_append,List.nil_append]
 refine lp (fun i:{i:Nat // i≤l.length}=>[(4, .row 1 5 0 i.1 none),(5,int i.1),(6, .junk),(7, .junk),(25, .junk),(27, .junk),(28, .junk)]) (fun i=>[Wh (zw Zu (l.take i.1)),{T:=38,sz:=5,n:=i.1,f:=fE zfV (wB Zu (l.take i.1))}]) (fun i=>l.length - i.1) ⟨0,by omega⟩ ?_
 rintro ⟨i,hi⟩
 have hsn:=xS (l.take i) Zu WD
 have hok:=(Zj hsn).1
 have hli:(wB Zu (l.take i)).length=i:=by rw [qI,List.length_take];omega
 refine go ⟨?_⟩
 refine zj rfl (fun h=> ?_) (fun h=> ?_)
 ·have hlt:i<l.length:=by omega
  have hz:l.getD i eOp.z=l[i]:=by show l.getD i Kk=_;simp [List.getD_eq_getElem?_getD,hlt]
  have ef:fE eOp l i=opC l[i]:=congrArg opC hz
  have hc:=zk_ (zw Zu (l.take i)) l[i] hok (hk _ (List.getElem_mem hlt))
  have hs:zw Zu (l.take (i+1))=(mDo (zw Zu (l.take i)) l[i]).1:=by rw [List.take_succ_eq_append_getElem hlt,Wi]
  have hr:wB Zu (l.take (i+1))=wB Zu (l.take i)++[(mDo (zw Zu (l.take i)) l[i]).2]:=by rw [List.take_succ_eq_append_getElem hlt,zbf]
  generalize zw Zu (l.take i)=s at*
  generalize wB Zu (l.take i)=out at*
  unfold DoP at hc
  generalize mDo s l[i]=p at*
  obtain ⟨u,a⟩:=p
  simp only at hc hs hr
  refine go ⟨?_⟩
  rw [ef]
  refine cal zkN hc ⟨?_⟩
  refine go ⟨?_⟩
  refine app (fE zfV (out++[a])) hT rfl rfl rfl rfl (fun k hk=>ZZ (e:=zfV) hli.symm rfl hk) ?_
  refine nz ⟨?_⟩
  refine go ⟨?_⟩
  refine je ⟨⟨i+1,hlt⟩,by simp only;omega, ?_⟩
  simp only [hs,hr]
  refine (Tells.sel [0,1] rfl rfl).trans ?_
  simp only [yS,Yt,wP,setn,zhv,List.map,ren,idx,fgs,fgk,List.filter,List.foldl,List.length_cons,List.length_nil,Nat.reduceAdd,Option.map,Nat.reduceBEq,beq_self_eq_true,cond_true,cond_false]
  exact tel
 ·obtain rfl:i=l.length:=by omega
  rw [List.take_length] at hli ⊢
  generalize zw Zu l=s at*
  generalize wB Zu l=out at*
  rw [←hli]
  refine go ⟨?_⟩
  exact fin
theorem goRRun:ze Tryz.prog 22:=⟨_,_,Tryz.func22,by kernel_rfl,rfl⟩
def AOk (l:List wX):Prop:= ∀a∈l,a.l.length≤140737488355328
theorem rsamel_p (a b:List wX) (ha:a.length≤1000000) (hb:AOk b):APure Tryz.prog 21 [zg4 a,zg4 b] (.lit (.bool (decide (a=b)))) []:=by
 refine zfb hT Tryz.func21 rfl ?_
 simp only [Tryz.ntmps21,List.length_cons,List.length_nil,Nat.reduceAdd,Nat.reduceSub,List.replicate,List.cons_append,List.nil_append]
 refine go ⟨?_⟩
 by_cases hlen:a.length=b.length
 ·rw [show ((a.length:Int) !=(b.length:Int))=false from bne_eq_false_iff_eq.2 (by omega)]
  refine go ⟨?_⟩
  refine lp (fun i:{i:Nat // i≤a.length∧a.take i=b.take i}=>[(5,int i.1)]) (fun i=>[]) (fun i=>a.length - i.1) ⟨0,by simp⟩ ?_
  rintro ⟨i,hi,hn⟩
  refine go ⟨?_⟩
  refine zj rfl (fun h=> ?_) (fun h=> ?_)
  ·have hlt:i<a.length:=by omega
   have hlt':i<b.length:=by omega
   have ea:fE zfV a i=zfU a[i]:=congrArg zfU (by show a.getD i (zu 0)=_;simp [List.getD_eq_getElem?_getD,hlt])
   have eb:fE zfV b i=zfU b[i]:=congrArg zfU (by show b.getD i (zu 0)=_;simp [List.getD_eq_getElem?_getD,hlt'])
   have hc:=zdr a[i] b[i] (.inr (hb _ (List.getElem_mem _)))
   refine go ⟨?_⟩
   rw [ea,eb]
   refine cal wD hc ⟨?_⟩
   by_cases h2:a[i]=b[i]
   ·rw [decide_eq_true h2]
    refine go ⟨?_⟩
    refine je ⟨⟨i+1,by omega,by rw [List.take_succ_eq_append_getElem hlt,List.take_succ_eq_append_getElem hlt',hn,h2]⟩,by simp only;omega, ?_⟩
    exact tel
   ·have h4:a≠b:=fun h=>h2 (by subst h;rfl)
    rw [decide_eq_false h2,decide_eq_false h4]
    refine go ⟨?_⟩
    exact fin
  ·obtain rfl:i=a.length:=by omega
   have hab:a=b:=by rw [List.take_length] at hn;rw [hn,hlen,List.take_length]
   rw [decide_eq_true hab]
   refine go ⟨?_⟩
   exact fin
 ·rw [show ((a.length:Int) !=(b.length:Int))=true from bne_iff_ne.2 (by omega),decide_eq_false (fun h=>hlen (by rw [h]))]
  refine go ⟨?_⟩
  exact fin
theorem goRSameL:ze Tryz.prog 21:=⟨_,_,Tryz.func21,by kernel_rfl,rfl⟩
end
section
open Go.RowKit
theorem aok_run (l:List MOp) (s:MSt):AOk (wB s l):=fun a ha=>Nat.le_trans (Ux l s a ha) (by decide)
end
section
open Go.RowKit
attribute [local irreducible] zA AO zt zo ADr AL AW zF zh zU Tells APure ACall
set_option maxRecDepth 100000
theorem msane_true (u:MSt) (h:Zd u=true):APure Tryz.prog 14 [stA u] (.lit (.bool true)) []:=by
 have:=vO u (Zj h).1
 rwa [h] at this
theorem rsamel_self (a:List wX) (h:a.length≤1000000) (h2:AOk a):APure Tryz.prog 21 [zg4 a,zg4 a] (.lit (.bool true)) []:=by
 have:=rsamel_p a a h h2
 rwa [decide_eq_true (show a=a from rfl)] at this
theorem leTakeE {α:Type} (e:Enc α) (sz:Nat) (l:List α) {k n:Nat} (hn:n=k) (hk:k≤l.length) {f:Nat→List AV} (hf: ∀j,j<k→f j=fE e l j):AV.Le (.sl sz n false f) (.sl sz (l.take k).length false (fE e (l.take k))):=by
 subst hn
 refine .sl (by rw [List.length_take];omega) (fun h=>h) fun j hj=> ?_
 rw [hf j hj]
 unfold fE
 simp [List.getD_eq_getElem?_getD,List.getElem?_take,hj]
theorem kok_take {l:List MOp} (h:KOk l) (n:Nat):KOk (l.take n):=fun o ho=>h o (List.mem_of_mem_take ho)
theorem al_dst {P:Program} {r:Option Nat} {l R:List Oper} {Q:Exit→St→Prop} {σ:St} {o:Oper} (d:Nat) (h:o.dst=some d) (n:AL P r l Q (o::R) σ):AL P r l Q (o::R) σ:=n
theorem tmod_cut (cut:Int) (n:Nat) (hn:n≤1000): ∃p:Nat,(cut % 2^16).tmod ((n:Int)+1)=(p:Int)∧p≤n:=by
 have h0:0≤cut % 2^16:=by omega
 rw [Int.tmod_eq_emod_of_nonneg h0]
 have h2:=Int.emod_nonneg (cut % 2^16) (show (n:Int)+1≠0 by omega)
 have h3:=Int.emod_lt_of_pos (cut % 2^16) (show (0:Int)<(n:Int)+1 by omega)
 exact ⟨((cut % 2^16) % ((n:Int)+1)).toNat,by omega,by omega⟩
set_option maxHeartbeats 4000000 in
theorem mruns_law (l:List MOp) (cut:Int) (hl:zb3 l):APure Tryz.prog 4 [ops l,int cut] (.lit (.bool true)) []:=by
 refine zfb hT Tryz.func4 rfl ?_
 simp only [Tryz.ntmps4,List.length_cons,List.length_nil,Nat.reduceAdd,Nat.reduceSub,List.replicate,List.cons_append,List.nil_append]
 refine go ⟨?_⟩
 refine cal QY QV ⟨?_⟩
 refine go ⟨?_⟩
 refine cal V8 (VY l hl) ⟨?_⟩
 cases h1:J7 l
 ·refine go ⟨?_⟩
  exact fin
 obtain ⟨hk,h40⟩:=V' h1
 have mc:=kR cut 16 (by decide)
 rw [show ((2:Int)^16 - 1)=65535 from rfl] at mc
 have e1:IntKind.i64.wrap ((l.length:Int)+1)=l.length+1:=by simp only [IntKind.wrap_i64];omega
 refine go ⟨?_⟩
 rw [mc,e1]
 obtain ⟨at_,hat,hle⟩:=tmod_cut cut l.length (by omega)
 rw [hat]
 refine go ⟨?_⟩
 refine cal zaI (zif l hk (by omega)) ⟨?_⟩
 have hkt:=kok_take hk at_
 have hcut:LeS [AV.sl 9 (zO none (some (at_:Int)) l.length) false (vV none (fE eOp l))] [ops (l.take at_)]:= .cons (leTakeE eOp 9 l (by simp only [zO];omega) hle fun j hj=>rfl) .nil
 have hlt0:(l.take at_).length=at_:=by rw [List.length_take];omega
 refine go ⟨?_⟩
 refine zeT zaI (zif (l.take at_) hkt (by omega)) hcut ⟨?_⟩
 refine go ⟨?_⟩
 refine zeT Vq (ux (l.take at_) hkt (by omega)) hcut ⟨?_⟩
 refine go ⟨?_⟩
 refine lp (fun i:{i:Nat // at_≤i∧i≤l.length}=>[(8,zg4 (wB Zu (l.take i.1))),(10,int i.1),(11, .junk),(12, .junk)]) (fun i=>[Wh (zw Zu (l.take i.1))]) (fun i=>l.length - i.1) ⟨at_,by omega⟩ ?_
 rintro ⟨i,hai,hi⟩
 have hsn:=xS (l.take i) Zu WD
 have hok:=Zj hsn
 have hli:(wB Zu (l.take i)).length=i:=by rw [qI,List.length_take];omega
 refine go ⟨?_⟩
 refine zj rfl (fun h=> ?_) (fun h=> ?_)
 ·have hlt:i<l.length:=by omega
  have hz:l.getD i eOp.z=l[i]:=by show l.getD i Kk=_;simp [List.getD_eq_getElem?_getD,hlt]
  have ef:fE eOp l i=opC l[i]:=congrArg opC hz
  have hc:=Jj (zw Zu (l.take i)) l[i] hok.1 (hk _ (List.getElem_mem hlt))
  have hs:zw Zu (l.take (i+1))=(mDo (zw Zu (l.take i)) l[i]).1:=by rw [List.take_succ_eq_append_getElem hlt,Wi]
  have hr:wB Zu (l.take (i+1))=wB Zu (l.take i)++[(mDo (zw Zu (l.take i)) l[i]).2]:=by rw [List.take_succ_eq_append_getElem hlt,zbf]
  generalize zw Zu (l.take i)=s at*
  generalize wB Zu (l.take i)=out at*
  generalize l[i]=o at*
  generalize mDo s o=p at*
  obtain ⟨u,a⟩:=p
  simp only at hc hs hr
  refine go ⟨?_⟩
  rw [ef]
  refine go ⟨?_⟩
  refine cal Xx hc ⟨?_⟩
  refine gon ⟨?_⟩
  ·refine vK y8 rfl ?_
   repeat' (first
    |with_reducible refine WU ?_
    |(with_reducible refine ziC (by decide+kernel) ?_)
    |(refine zg1 (by decide+kernel) ?_)
    |(refine zgi (by decide+kernel) ?_)
    |(refine zhQ ?_ ?_)
    |exact zjY
    |with_reducible refine YI ?_
    |((with_reducible refine yk ?_);first
     |(refine Yk hT rfl rfl (by first|exact True.intro|exact Nat.le_refl _|rfl|decide|exact ⟨Nat.zero_lt_one,Nat.le_refl _⟩|omega) ?_;refine nz ⟨?_⟩)
     |(refine app (fE zfV out) hT rfl rfl rfl rfl (fun k hk=>WB (xs:=[]) rfl hk) ?_;refine nz ⟨?_⟩)
     |(refine app (fE zfV (out++[a])) hT rfl rfl rfl rfl (fun k hk=>ZZ (e:=zfV) rfl rfl hk) ?_;refine nz ⟨?_⟩)
     |(refine al_dst 51 rfl ?_;refine Xt hT rfl rfl (by first|exact True.intro|omega|decide|exact ⟨rfl,by decide,by decide,by decide⟩) ?_;refine nz ⟨?_⟩)
     |(refine al_dst 55 rfl ?_;refine zhP hT rfl rfl (by first|exact True.intro|omega|decide|exact ⟨rfl,by decide,by decide,by decide⟩) rfl rfl (by repeat' (first|exact trivial|exact Nat.le_refl _|exact Nat.le_of_eq (Nat.zero_add _)|refine And.intro ?_ ?_)) ?_;refine nz ⟨?_⟩)))
   all_goals
    refine go ⟨?_⟩
    refine je ⟨⟨i+1,by omega,hlt⟩,by simp only;omega, ?_⟩
    simp only [hs,hr]
    refine (Tells.thaw (t:=8) rfl rfl (by repeat' (first|exact trivial|exact Nat.le_refl _|exact Nat.le_of_eq (Nat.zero_add _)|omega|(simp;omega)|refine And.intro ?_ ?_))).trans ((Tells.sel [0] rfl rfl).trans ?_)
    simp only [yS,Yt,wP,setn,zhv,List.map,ren,idx,fgs,fgk,List.filter,List.foldl,List.length_cons,List.length_nil,Nat.reduceAdd,Option.map,Nat.reduceBEq,beq_self_eq_true,cond_true,cond_false]
    exact tel
 ·obtain rfl:i=l.length:=by omega
  rw [List.take_length] at*
  have hb:=ux l hk (by omega)
  have hrr:=rrun_p l hk (by omega)
  have hrb:=rbehind_p l hk (by omega)
  have hA:=aok_run l Zu
  generalize zw Zu l=s at*
  generalize wB Zu l=A at*
  have hAl:=rsamel_self A (by omega) hA
  refine go ⟨?_⟩
  refine cal goRRun hrr ⟨?_⟩
  refine go ⟨?_⟩
  refine cal goRSameL hAl ⟨?_⟩
  refine go ⟨?_⟩
  refine cal Vq hb ⟨?_⟩
  refine go ⟨?_⟩
  refine cal goRBehind hrb ⟨?_⟩
  refine go ⟨?_⟩
  refine cal qG (XJ s hsn) ⟨?_⟩
  refine go ⟨?_⟩
  refine cal goRSameL hAl ⟨?_⟩
  refine go ⟨?_⟩
  refine cal Vq hb ⟨?_⟩
  refine go ⟨?_⟩
  refine cal qG (XJ s hsn) ⟨?_⟩
  refine go ⟨?_⟩
  refine cal vu (msane_true s hsn) ⟨?_⟩
  refine go ⟨?_⟩
  exact fin
end
end Go.Proofs.YtgdmkpikkfakdaaGreatDoor
