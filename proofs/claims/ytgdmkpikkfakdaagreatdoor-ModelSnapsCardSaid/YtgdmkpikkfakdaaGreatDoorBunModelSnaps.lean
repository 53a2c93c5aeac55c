/- The law ModelAsks. The law ModelSnaps. -/
import Derived.Test.YtgdmkpikkfakdaaGreatDoorBunModel6
namespace Go.Proofs.YtgdmkpikkfakdaaGreatDoor
open Go.RowKit
set_option maxRecDepth 100000
set_option linter.unusedVariables false
set_option linter.unusedSimpArgs false
set_option linter.unusedSectionVars false
section
attribute [local irreducible] zA AO zt zo ADr AL AW zF zh zU Tells APure ACall
def qOp (k i old:Int):MOp:=⟨9+(k % 2^16) % 7,i,ZF,[],[],old⟩
theorem zd2 (k i old:Int):9≤(qOp k i old).what∧(qOp k i old).what≤15:=by
 unfold qOp;simp only;omega
theorem kH (k i old:Int):APure Tryz.prog 24 [int k,int i,int old] (opA (qOp k i old)) []:=by
 refine ent Tryz.func24 Tryz.ntmps24 ⟨?_⟩;have mk:=kR k 16 (by decide);rw [show ((2:Int)^16 - 1)=65535 from rfl] at mk;have e2:(k % 2^16).tmod 7=(k % 2^16) % 7:=Int.tmod_eq_emod_of_nonneg (by omega)
 have e3:IntKind.i64.wrap (9+(k % 2^16) % 7)=9+(k % 2^16) % 7:=by simp only [IntKind.wrap_i64];omega
 unfold qOp;refine go ⟨?_⟩;simp only [mk,e2,e3];exact fin
theorem kM:ze Tryz.prog 24:=gfn Tryz.func24
set_option maxHeartbeats 1000000 in
theorem masks_law (l:List MOp) (k i0 old:Int) (hl:zb3 l):APure Tryz.prog 8 [ops l,int k,int i0,int old] (.lit (.bool true)) []:=by
 refine ent Tryz.func8 Tryz.ntmps8 ⟨?_⟩;refine gcg QY QV ⟨?_⟩;refine cal V8 (VY l hl) ⟨?_⟩;cases h1:J7 l
 ·exact gf
 obtain ⟨hk,h40⟩:=V' h1;have hqin:=zd2 k i0 old;have hqk:(qOp k i0 old).keys.length≤1000000:=Nat.zero_le _
 have hml:=qI l Zu;have hal:=Ux l Zu;refine gc kM (kH k i0 old) ⟨?_⟩;generalize qOp k i0 old=q at*;refine gcg zaI (zif l hk (by omega)) ⟨?_⟩;refine lp (fun i:{i:Nat // i≤l.length}=>[(13,int i.1),(14, .junk),(15, .junk),(16, .junk),(17, .junk),(18, .junk),(19, .junk)]) (fun i=>[yD q,Wh (zw Zu (l.take i.1))]) (fun i=>l.length - i.1) ⟨0,by simp⟩ ?_
 rintro ⟨i,hi⟩
 have hsn:=xS (l.take i) Zu WD;have hok:=Zj hsn;refine go ⟨?_⟩;refine zj rfl (fun h=> ?_) (fun h=> ?_)
 ·have hlt:i<l.length:=by omega
  have hz:l.getD i eOp.z=l[i]:=by show l.getD i Kk=_;simp [List.getD_eq_getElem?_getD,hlt]
  have ef:fE eOp l i=opC l[i]:=congrArg opC hz
  have hc:=Jj (zw Zu (l.take i)) l[i] hok.1 (hk _ (List.getElem_mem hlt));have hs:zw Zu (l.take (i+1))=(mDo (zw Zu (l.take i)) l[i]).1:=by rw [List.take_succ_eq_append_getElem hlt,Wi]
  have hun:=YQ (zw Zu (l.take i)) l[i]
  have ha:(wB Zu l).getD i (zu 0)=(mDo (zw Zu (l.take i)) l[i]).2:=by
   have h2:=QB (l.take i) (l.drop i) Zu;rw [List.take_append_drop,List.drop_eq_getElem_cons hlt,wB] at h2;rw [h2,List.getD_eq_getElem?_getD,List.getElem?_append_right (by rw [qI,List.length_take];omega),qI,List.length_take,Nat.min_eq_left (by omega),Nat.sub_self];rfl
  have hbl:=qt (zw Zu (l.take i)) l[i];generalize zw Zu (l.take i)=s at*;generalize l[i]=o at*;generalize mDo s o=p at*;obtain ⟨u,b⟩:=p;simp only at hc hs hun ha hbl;have eb:fE zfV (wB Zu l) i=zfU b:=congrArg zfU ha
  have huk:=Zj hun;have hq1:=Jj u q huk.1 hqk;have hq2:=G4 u q hqin;have hcl:=qt u q;rw [Xw hun] at hq2;generalize wB Zu l=A at*;generalize mDo u q=p2 at*;obtain ⟨u2,c⟩:=p2;simp only at hq1 hq2 hcl;subst hq2;refine go ⟨?_⟩;rw [ef];refine gcg Xx hc ⟨?_⟩;refine cg Xx hq1 ⟨?_⟩;refine cg Xx hq1 ⟨?_⟩;rw [decide_eq_false (show ¬((i:Int)≥(A.length:Int)) by omega)];refine go ⟨?_⟩;rw [eb];refine gcg wD (XK b hbl) ⟨?_⟩;refine cg wD (XK c hcl) ⟨?_⟩;refine je ⟨⟨i+1,hlt⟩,by simp only;omega, ?_⟩;simp only [hs];refine (Tells.sel [0,1] rfl rfl).trans ?_;refine mc14 ⟨?_⟩;exact tel
 ·obtain rfl:i=l.length:=by omega
  rw [List.take_length] at*;have hb:=ux l hk (by omega);generalize zw Zu l=s at*;refine gcg Vq hb ⟨?_⟩;exact cgf qG (XJ s hsn)
def opE (w i:Int):MOp:=⟨w,i,ZF,[],[],0⟩
theorem Gi {s:MSt} (hs:Zd s=true) (m:List MOp) (k i:Int) {u:MSt} {a:wX} (hp:mDo s (opE 5 0)=(u,a)) (he:a.e=0):
 (mDo (Ya a.n u m) (qOp k i a.n)).2=(mDo s (qOp k i 0)).2∧(mDo (Ya a.n u m) (opE 6 a.n)).2.e=0∧(mDo (mDo (Ya a.n u m) (opE 6 a.n)).1 (qOp k i 0)).2=(mDo s (qOp k i 0)).2∧(mDo (Ya a.n u m) (opE 6 a.n)).1.t=s.t:=by
 have h:=za7 hs m (qOp k i 0) (zd2 k i 0) (by show (mDo s (opE 5 0)).2.e=0;rw [hp];exact he);change (mDo (Ya (mDo s (opE 5 0)).2.n (mDo s (opE 5 0)).1 m) (qOp k i (mDo s (opE 5 0)).2.n)).2=_∧(mDo (Ya (mDo s (opE 5 0)).2.n (mDo s (opE 5 0)).1 m) (opE 6 (mDo s (opE 5 0)).2.n)).2.e=0∧(mDo (mDo (Ya (mDo s (opE 5 0)).2.n (mDo s (opE 5 0)).1 m) (opE 6 (mDo s (opE 5 0)).2.n)).1 (qOp k i 0)).2=_∧(mDo (Ya (mDo s (opE 5 0)).2.n (mDo s (opE 5 0)).1 m) (opE 6 (mDo s (opE 5 0)).2.n)).1.t=s.t at h
 rw [hp] at h;exact h
set_option maxHeartbeats 2000000 in
theorem msnaps_law (l m:List MOp) (k i0:Int) (hl:zb3 l) (hm:zb3 m):APure Tryz.prog 6 [ops l,ops m,int k,int i0] (.lit (.bool true)) []:=by
 refine ent Tryz.func6 Tryz.ntmps6 ⟨?_⟩;refine gcg QY QV ⟨?_⟩;refine cal V8 (VY l hl) ⟨?_⟩;cases h1:J7 l
 ·exact gf
 refine gc V8 (VY m hm) ⟨?_⟩;cases h2:J7 m
 ·exact gf
 obtain ⟨hk,h40⟩:=V' h1;obtain ⟨hkm,h40m⟩:=V' h2;have hsn:=xS l Zu WD;have hnx:=va l Zu WD;have hb:=ux l hk (by omega);refine gc Vq hb ⟨?_⟩;generalize zw Zu l=s at*;have hok:=Zj hsn;have h5:mDo s (opE 5 0)=yN s:=by rw [zfB _ _ rfl,Xw hsn]
 have hd5:=Jj s (opE 5 0) hok.1 (Nat.zero_le _);have hun:=YQ s (opE 5 0)
 have hno:(mDo s (opE 5 0)).2.e≠0→(mDo s (opE 5 0)).2.e=10∧s.kept.length=8:=fun h=>by
  rw [h5] at h ⊢;obtain ⟨g1,g2⟩:=zf_ h;rw [g2];refine ⟨rfl,g1.resolve_right fun h=> ?_⟩;have:(Zu.next:Int)=0:=rfl
  omega
 have hin:(mDo s (opE 5 0)).2.e=0→⟨(mDo s (opE 5 0)).2.n,s.t⟩∈(mDo s (opE 5 0)).1.kept:=fun h=>by
  rw [h5] at h ⊢;rw [p7 h];simp
 refine gc Xx hd5 ⟨?_⟩;have hsnaps:= @Gi s hsn m k i0
 have hsn5:=YQ s (opE 5 0)
 generalize hp:mDo s (opE 5 0)=p at*;obtain ⟨u,a⟩:=p;simp only at hno hin hun;refine go ⟨?_⟩;by_cases he:a.e=0
 rotate_left
 ·obtain ⟨g1,g2⟩:=hno he;rw [bne_iff_ne.2 he];refine go ⟨?_⟩;rw [beq_iff_eq.2 g1];refine go ⟨?_⟩;rw [beq_iff_eq.2 (show (s.kept.length:Int)=8 by omega)];exact gf
 rw [bne_eq_false_iff_eq.2 he];obtain ⟨q1,q2,q3,q4⟩:=hsnaps rfl he;clear hsnaps;have hq0:=Jj s (qOp k i0 0) hok.1 (Nat.zero_le _);have hw0:=qt s (qOp k i0 0);refine gcg kM (kH k i0 0) ⟨?_⟩;refine cal Xx hq0 ⟨?_⟩;generalize hw:mDo s (qOp k i0 0)=w at*;obtain ⟨w1,w⟩:=w;simp only at hw0 q1 q3;refine go ⟨?_⟩;refine lp (fun j:{j:Nat // j≤m.length}=>[(15,int j.1),(16, .junk),(17, .junk)]) (fun j=>[Wh s,Wh (Ya a.n u (m.take j.1)),Pd a,Wh w1,Pd w]) (fun j=>m.length - j.1) ⟨0,by simp⟩ ?_
 rintro ⟨i,hi⟩
 have hts:=VB (m.take i) u a.n hun;have htok:=Zj hts;refine go ⟨?_⟩;refine zj rfl (fun h=> ?_) (fun h=> ?_)
 ·have hlt:i<m.length:=by omega
  have hz:m.getD i eOp.z=m[i]:=by show m.getD i Kk=_;simp [List.getD_eq_getElem?_getD,hlt]
  have ef:fE eOp m i=opC m[i]:=congrArg opC hz
  have hc:=Jj (Ya a.n u (m.take i)) m[i] htok.1 (hkm _ (List.getElem_mem hlt));have hss:Ya a.n u (m.take (i+1))=if m[i].what=7∧m[i].i=a.n then Ya a.n u (m.take i) else (mDo (Ya a.n u (m.take i)) m[i]).1:=by rw [List.take_succ_eq_append_getElem hlt,ul]
  generalize Ya a.n u (m.take i)=t at*;generalize m[i]=o at*;generalize mDo t o=p at*;obtain ⟨t2,b⟩:=p;simp only at hc hss;refine ms18 ⟨?_⟩;by_cases h7:o.what=7
  ·rw [beq_iff_eq.2 h7];refine ms18 ⟨?_⟩;by_cases hi7:o.i=a.n
   ·rw [beq_iff_eq.2 hi7];rw [if_pos ⟨h7,hi7⟩] at hss;refine go ⟨?_⟩;refine je ⟨⟨i+1,hlt⟩,by simp only;omega, ?_⟩;simp only [hss];refine (Tells.sel [0,1,2,3,4] rfl rfl).trans ?_;refine mc14 ⟨?_⟩;exact tel
   ·rw [beq_eq_false_iff_ne.2 hi7];rw [if_neg (fun h=>hi7 h.2)] at hss;refine go ⟨?_⟩;rw [ef];refine gcg Xx hc ⟨?_⟩;refine je ⟨⟨i+1,hlt⟩,by simp only;omega, ?_⟩;simp only [hss];refine (Tells.sel [0,1,2,3,4] rfl rfl).trans ?_;refine mc14 ⟨?_⟩;exact tel
  ·rw [beq_eq_false_iff_ne.2 h7];rw [if_neg (fun h=>h7 h.1)] at hss;refine go ⟨?_⟩;rw [ef];refine gcg Xx hc ⟨?_⟩;refine je ⟨⟨i+1,hlt⟩,by simp only;omega, ?_⟩;simp only [hss];refine (Tells.sel [0,1,2,3,4] rfl rfl).trans ?_;refine mc14 ⟨?_⟩;exact tel
 ·obtain rfl:i=m.length:=by omega
  rw [List.take_length] at*;have hv1:=Jj (Ya a.n u m) (qOp k i0 a.n) htok.1 (Nat.zero_le _);have hv2:=Jj (Ya a.n u m) (opE 6 a.n) htok.1 (Nat.zero_le _);have hvs:=YQ (Ya a.n u m) (opE 6 a.n)
  generalize Ya a.n u m=t at*;generalize mDo t (qOp k i0 a.n)=r1 at*;obtain ⟨t1,old⟩:=r1;generalize mDo t (opE 6 a.n)=r2 at*;obtain ⟨v,b⟩:=r2;simp only at q1 q2 q3 q4 hvs;have hvk:=Zj hvs;have hv3:=Jj v (qOp k i0 0) hvk.1 (Nat.zero_le _);generalize mDo v (qOp k i0 0)=r3 at*;obtain ⟨v3,now⟩:=r3;simp only at q3;subst q1 q3;refine gcg kM (kH k i0 a.n) ⟨?_⟩;refine cg Xx hv1 ⟨?_⟩;refine cg Xx hv2 ⟨?_⟩;refine cg kM (kH k i0 0) ⟨?_⟩;refine cal Xx hv3 ⟨?_⟩;have hrow:=Pq v.t s.t hvk.1.1 (uE hsn).1;rw [decide_eq_true q4] at hrow;refine go ⟨?_⟩;rw [beq_iff_eq.2 q2];refine gcg wD (XK _ hw0) ⟨?_⟩;refine cg wD (XK _ hw0) ⟨?_⟩;exact cgf Pm hrow
end
end Go.Proofs.YtgdmkpikkfakdaaGreatDoor
