/- Layer 13 (chain), walked: known, Link, Valid, Verify. In a region that draws its order: a call that reads what is one's own, and answers new rows of numbers. Layer 13 (chain), walked: Plan. Layer 14, plain: a leaf joins, node by node. No program in sight. The document of layer 14: source, have, laid, Add, Remove, Change, Commit. Layer 14 (edit), walked. The document of layer 15: named, Named, Put. The document of layer 15: Put, Get. The document of layer 16 (model): wrong, kept, Sane, As, keeps. The document of layer 16 (model): As, count, Ask, edits. A region that draws its order: operations  -/
import Derived.ChangeArms
import Derived.ProofKit
import Derived.Test.YtgdmkpikkfakdaaGreatDoorBunModel4
namespace Go.Proofs.YtgdmkpikkfakdaaGreatDoor
open Go.RowKit
set_option maxRecDepth 100000
set_option linter.unusedVariables false
set_option linter.unusedSimpArgs false
set_option linter.unusedSectionVars false
section
attribute [local irreducible] zA AO zt zo ADr AL AW zF zh zU Tells APure ACall
theorem vB (t:zc) (ht:t.length≤1000000):APure Tryz.prog 130 [zg t] (zg (rAs t)) []:=by
 refine ent Tryz.func130 Tryz.ntmps130 ⟨?_⟩;unfold rAs;refine gc QM (QC t ht) ⟨?_⟩;cases h:zW t
 ·rw [if_neg (by decide)];exact gf
 ·rw [if_pos rfl];exact gf
theorem vS:ze Tryz.prog 130:=gfn Tryz.func130
theorem Hj (t:zc) (x:Int):APure Tryz.prog 259 [int x, .ip [zg t]] (.lit (.bool (qf t x))) []:=by
 refine ent Tryz.func259 Tryz.ntmps259 ⟨?_⟩;unfold qf;refine go ⟨?_⟩;by_cases h0:0≤x
 ·rw [decide_eq_true (show x≥0 from h0)];refine go ⟨?_⟩;by_cases h1:x<t.length
  ·rw [decide_eq_true h1];obtain ⟨n,rfl⟩: ∃n:Nat,x=n:=⟨x.toNat,by omega⟩;refine ms7 ⟨?_⟩;have hz:(t.getD n zf.z)=t.getD n za:=rfl
   have hk:((t.getD n za).kind !=0)=decide ((t.getD n za).kind≠0):=by
    by_cases hk:(t.getD n za).kind=0
    ·rw [hk];rfl
    ·rw [bne_iff_ne.2 hk,decide_eq_true hk]
   try rw [hz]
   try rw [hk]
   exact fin
  ·rw [decide_eq_false h1];exact gf
 ·rw [decide_eq_false (show ¬x≥0 from h0)];exact gf
theorem hM:ze Tryz.prog 259:=gfn Tryz.func259
theorem mc12 {G A:Prop} (k:Hold G) (h:Hold G→A:=by
 intro k;simp only [setn,Z',List.any_nil,List.any_cons,Wf,Nat.reduceBEq,Bool.or_false,Bool.false_or,Bool.or_true,Bool.true_or,Nat.zero_add];exact k.1):A:=h k
theorem ziu (t:zc) (x c d:Int) (ht:t.length≤1000000):APure Tryz.prog 195 [zg t,int x,int c,int d] (.lit (.bool (YN t x c d))) []:=by
 refine ent Tryz.func195 Tryz.ntmps195 ⟨?_⟩;have hl:=zR t;have hs:=zG t;rw [kI];refine gc vS (vB t ht) ⟨?_⟩;generalize rAs t=u at*;refine go ⟨?_⟩;refine zz (Tells.thaw (t:=4) rfl rfl (by repeat' (first|exact trivial|exact Nat.le_refl _|exact Nat.le_of_eq (Nat.zero_add _)|omega|exact rfl|refine And.intro ?_ ?_))) ?_;refine nz ⟨?_⟩;refine zz (Tells.thaw (t:=9) rfl rfl (by repeat' (first|exact trivial|exact Nat.le_refl _|exact Nat.le_of_eq (Nat.zero_add _)|omega|exact rfl|refine And.intro ?_ ?_))) ?_;refine nz ⟨?_⟩;refine zz (Tells.thaw (t:=17) rfl rfl (by repeat' (first|exact trivial|exact Nat.le_refl _|exact Nat.le_of_eq (Nat.zero_add _)|omega|exact rfl|refine And.intro ?_ ?_))) ?_;refine nz ⟨?_⟩;refine zz (Tells.sel [] rfl rfl) ?_;refine nz ⟨?_⟩;refine cal hM (Hj u x) ⟨?_⟩;cases hx:qf u x
 ·simp only [Bool.false_and];exact gf
 obtain ⟨x0,x1,x2⟩:=Q6 hx;obtain ⟨n,rfl⟩: ∃n:Nat,x=n:=⟨x.toNat,by omega⟩;refine gc hM (Hj u d) ⟨?_⟩;cases hd:qf u d
 ·simp only [Bool.false_and,Bool.and_false];exact gf
 obtain ⟨d0,d1,d2⟩:=Q6 hd;obtain ⟨dn,rfl⟩: ∃dn:Nat,d=dn:=⟨d.toNat,by omega⟩;refine go ⟨?_⟩;rw [show fE zf u n=Zb (u.getD n za) from rfl];refine go ⟨?_⟩;have hz:(u.getD n zf.z)=u.getD n za:=rfl
 try rw [hz]
 rw [show (n:Int).toNat=n from rfl,show (dn:Int).toNat=dn from rfl];by_cases hk:(u.getD n za).kind=2
 rotate_left
 ·rw [decide_eq_false hk,bne_iff_ne.2 hk];simp only [Bool.false_and,Bool.and_false];exact gf
 rw [decide_eq_true hk,bne_eq_false_iff_eq.2 hk];refine gcg jj (jD c u.length) ⟨?_⟩;by_cases hp:zm c u.length=n
 rotate_left
 ·rw [decide_eq_false hp,bne_iff_ne.2 hp];simp only [Bool.false_and,Bool.and_false];exact gf
 rw [decide_eq_true hp,bne_eq_false_iff_eq.2 hp];refine gc Jm (Jc u c (by omega)) ⟨?_⟩;have hrl:=Vv (t:=u) c;generalize zL u c=lr at*;refine gc q8 (Qr lr (dn:Int) (by omega)) ⟨?_⟩;simp only [Bool.true_and];cases hh:lr.contains (dn:Int)
 ·simp only [Bool.false_and,Bool.and_false];exact gf
 simp only [Bool.true_and];obtain ⟨hu1,hu2⟩:=yp (Yx hs (show n<u.length by omega));rw [GZ];generalize hm:(u.getD n za).inner.unm=m at*;have hz:(u.getD n zf.z).inner.unm=m:=hm
 refine go ⟨?_⟩;rw [show fE zf u n=Zb (u.getD n za) from rfl];refine go ⟨?_⟩;rw [hz];refine go ⟨?_⟩;refine zr (Tells.nilRow (t:=11) 3 1 rfl rfl) ?_;refine lp (fun i:{q:Nat×List Int // q.1≤m.length∧q.2=((m.map (2* ·)).take q.1).filter (fun y=>Yp y c u.length)∧q.2.length≤q.1}=>[(11, .row 0 1 0 i.1.2.length none),(57,int i.1.1)]) (fun i=>[yC i.1.2]) (fun i=>m.length - i.1.1) ⟨(0,[]),by simp,by simp,by simp⟩ ?_
 rintro ⟨⟨i,v⟩,hi,hv,hvl⟩
 simp only at hi hv hvl ⊢;refine go ⟨?_⟩;refine zj rfl (fun h=> ?_) (fun h=> ?_)
 ·have hlt:i<m.length:=by omega
  have hf:=Kz (fun y=>Yp y c u.length) hlt;rw [←hv] at hf;have hg:m.getD i 0=m[i]:=by simp [List.getD_eq_getElem?_getD,hlt]
  have hu3:=hu2 _ (List.getElem_mem hlt);rw [←hg] at hu3;have e1:IntKind.i64.wrap (2*m.getD i 0)=2*m.getD i 0:=by simp only [IntKind.wrap_i64];omega
  refine go ⟨?_⟩;rw [e1];refine cal Hy (HI (2*m.getD i 0) c u.length) ⟨?_⟩;cases hB:Yp (2*m.getD i 0) c u.length
  ·simp only [hB,if_neg (show ¬false=true by decide),List.append_nil] at hf;refine go ⟨?_⟩;refine je ⟨⟨(i+1,v),hlt,hf.symm,by simp only;omega⟩,by simp only;omega, ?_⟩;exact tel
  ·simp only [hB,if_pos] at hf;refine go ⟨?_⟩;rw [e1];refine app (yP (v++[2*m.getD i 0])) hT rfl rfl rfl rfl (fun j hj=>ZZ (e:=wA) rfl rfl hj) ?_;refine ng ⟨?_⟩;refine je ⟨⟨(i+1,v++[2*m.getD i 0]),hlt,hf.symm,by simp;omega⟩,by simp only;omega, ?_⟩;exact tel
 obtain rfl:i=m.length:=by omega
 rw [←hv];refine gon ⟨?_⟩;refine zr (Tells.thaw (t:=11) rfl rfl (by repeat' (first|exact trivial|exact Nat.le_refl _|exact Nat.le_of_eq (Nat.zero_add _)|omega|exact rfl|refine And.intro ?_ ?_))) ?_;refine mc12 ⟨?_⟩;refine zr (Tells.sel [] rfl rfl) ?_;refine mc8 ⟨?_⟩;first|refine wR y8 rfl (by decide+kernel) (by decide+kernel) ?_|refine XD y8 rfl (by decide+kernel) (by decide+kernel) ?_
 conv=>arg 7;simp only [xA,xH,cond_true,cond_false]
 refine wm hT rfl rfl True.intro ?_;refine wm hT rfl rfl True.intro ?_;refine zas hT rfl rfl True.intro rfl rfl (by repeat' (first|exact trivial|exact Nat.le_refl _|exact Nat.le_of_eq (Nat.zero_add _)|refine And.intro ?_ ?_|omega)) ?_;refine go ⟨?_⟩;refine zeT Pj (pW lr [(dn:Int)] (by omega) (by simp)) (LeS.cons (AV.Le.refl _) (LeS.cons (JR (e:=wA) (xs:=[(dn:Int)]) rfl rfl) LeS.nil)) ⟨?_⟩;have hpc:(qu lr [(dn:Int)]).length≤10000:=Nat.le_trans (List.length_filter_le _ _) hrl
 refine gc Ky (kV (qu lr [(dn:Int)]) v (.inl (by omega))) ⟨?_⟩;cases he:decide (qu lr [(dn:Int)]=v)
 ·simp only [Bool.false_and];exact gf
 refine go ⟨?_⟩;rw [show fE zf u dn=Zb (u.getD dn za) from rfl];refine cg zix (zio (u.getD dn za)) ⟨?_⟩;refine cal HW (zga u n c (by omega) (by omega) (by rw [hm];omega)) ⟨?_⟩;generalize yF u n c=gv at*;generalize vf (u.getD dn za)=sv at*;refine gc VS (j0 sv gv) ⟨?_⟩;simp only [Bool.true_and];exact gf
theorem zi0:ze Tryz.prog 195:=gfn Tryz.func195
theorem ze' {t0:zc} {x c d:Int} (h:YN t0 x c d=true) (hc:c∈zL (rAs t0) c) (ho:c % 2=1):d=c:=by
 rw [kI] at h;simp only [Bool.and_eq_true,decide_eq_true_eq] at h;have he:=h.1.2;by_cases hd:d=c
 ·exact hd
 ·exfalso
  have hm:c∈qu (zL (rAs t0) c) [d]:=by
   unfold qu;rw [List.mem_filter];exact ⟨hc,by simp [Ne.symm hd]⟩
  rw [he] at hm;unfold qA at hm;obtain ⟨u,_,hu⟩:=List.mem_map.1 (List.mem_filter.1 hm).1;omega
theorem ze2 (t:zc) (ht:t.length≤1000000) (hvp: ∀(t:zc) (x:Int),t.length≤1000000→APure Tryz.prog 131 [zg t,int x] (.lit (.bool (Yl t x))) []) (goV:ze Tryz.prog 131):APure Tryz.prog 74 [zg t] (.lit (.bool (Xe t))) []:=by
 refine ent Tryz.func74 Tryz.ntmps74 ⟨?_⟩;have hl:=zR t;have hv:=ui t;refine gc vS (vB t ht) ⟨?_⟩;generalize rAs t=u at*;generalize Xe t=V at*;refine go ⟨?_⟩;refine lp (fun j:{j:Nat // j≤u.length∧ ∀i,i<j→Yl u (i:Nat)=true}=>[(8,int j.1),(3, .junk)]) (fun j=>[]) (fun j=>u.length - j.1) ⟨0,Nat.zero_le _,fun i hi=>by omega⟩ ?_
 rintro ⟨j,hj,hno⟩
 refine go ⟨?_⟩;refine zj rfl (fun h=> ?_) (fun h=> ?_)
 ·have hlt:j<u.length:=by omega
  refine gc goV (hvp u j (by omega)) ⟨?_⟩;cases ha:Yl u (j:Nat)
  ·have:V=false:=by
    cases hV2:V with
    |false=>rfl
    |true=>have:=hv.1 hV2 j hlt;rw [ha] at this;cases this
   rw [this];exact gf
  ·refine go ⟨?_⟩;refine je ⟨⟨j+1,hlt,fun i hi=> ?_⟩,by simp only;omega, ?_⟩
   ·by_cases hij:i=j
    ·subst hij;exact ha
    ·exact hno i (by omega)
   exact tel
 ·have:V=true:=hv.2 fun x hx=>hno x (by omega)
  rw [this];exact gf
theorem zg7 (t:zc) (x:Int) (ht:t.length≤1000000):APure Tryz.prog 131 [zg t,int x] (.lit (.bool (Yl t x))) []:=by
 refine ent Tryz.func131 Tryz.ntmps131 ⟨?_⟩;have hl:=zR t;have hs:=zG t;have ho:=Ui (t:=t) (x:=x);have he:=fun n:Nat=>Kq (t:=t) (n:=n)
 have hi:=fun n:Nat=>Tu (t:=t) (n:=n)
 refine go ⟨?_⟩;refine zfN (fun l σ h=>zbc h) ?_;refine gc vS (vB t ht) ⟨?_⟩;generalize rAs t=u at*;refine go ⟨?_⟩;by_cases h0:x<0
 ·rw [ho (.inl h0)];exact gf
 by_cases h1:x≥u.length
 ·rw [ho (.inr h1)];exact gf
 obtain ⟨n,rfl⟩: ∃n:Nat,x=n:=⟨x.toNat,by omega⟩;refine go ⟨?_⟩;rw [show fE zf u n=Zb (u.getD n za) from rfl];refine go ⟨?_⟩;have hz:(u.getD n zf.z)=u.getD n za:=rfl
 try rw [hz]
 by_cases hk:(u.getD n za).kind=2
 rotate_left
 ·rw [he n (by omega) hk,bne_iff_ne.2 hk];exact gf
 have hv:=hi n (by omega) hk;generalize hV:Yl t n=V at*;rw [bne_eq_false_iff_eq.2 hk];refine go ⟨?_⟩;refine zfC ?_;refine gcg Gs (GK n u.length) ⟨?_⟩;refine cg Px (py n u.length) ⟨?_⟩;generalize hL:ZP n u.length=L at*;generalize hR:Zp n u.length=R at*
 have hP:V=true↔ ∃k,k<2∧((zL u ([L,R].getD k 0)).any fun d=>YN u n ([L,R].getD k 0) d)=true:=by
  rw [hv,Bool.or_eq_true];constructor
  ·rintro (h|h)
   ·exact ⟨0,by decide,h⟩
   ·exact ⟨1,by decide,h⟩
  ·rintro ⟨k,hk2,h⟩
   match k,hk2,h with
   |0,_,h=>exact .inl h
   |1,_,h=>exact .inr h
 refine zr (Tells.thaw (t:=33) rfl rfl (by repeat' (first|exact trivial|exact Nat.le_refl _|exact Nat.le_of_eq (Nat.zero_add _)|omega|exact rfl|refine And.intro ?_ ?_))) ?_;refine mc12 ⟨?_⟩;refine zr (Tells.sel [] rfl rfl) ?_;refine mc8 ⟨?_⟩;refine zr (Tells.slot 33 (Zn [L,R]) rfl (JR (e:=wA) (xs:=[L,R]) rfl rfl)) ?_;simp only [setn];refine lp (fun i:{i:Nat // i≤2∧ ∀k,k<i→((zL u ([L,R].getD k 0)).any fun d=>YN u n ([L,R].getD k 0) d)=false}=>[(35,int i.1)]) (fun i=>[]) (fun i=>2 - i.1) ⟨0,by decide,fun k hk=>by omega⟩ ?_
 rintro ⟨i,hi2,hno⟩
 refine go ⟨?_⟩;refine zj rfl (fun h=> ?_) (fun h=> ?_)
 ·have hlt:i<2:=by omega
  have hPi:=fun h=>hP.2 ⟨i,hlt,h⟩
  have hnext:((zL u ([L,R].getD i 0)).any fun d=>YN u n ([L,R].getD i 0) d)=false→ ∀k,k<i+1→((zL u ([L,R].getD k 0)).any fun d=>YN u n ([L,R].getD k 0) d)=false:=fun h k hk'=>by
   by_cases hki:k=i
   ·subst hki;exact h
   ·exact hno k (by omega)
  refine go ⟨?_⟩;generalize [L,R].getD i 0=c at*;refine cal Jm (Jc u c (by omega)) ⟨?_⟩;have hrl:=Vv (t:=u) c;have hod:=fun d h1 h2 h3=>ze' (t0:=u) (x:=n) (c:=c) (d:=d) h1 (by rw [wU hs];exact h2) h3
  generalize zL u c=l at*;refine go ⟨?_⟩;refine lp (fun j:{j:Nat // j≤l.length∧ ∀d∈l.take j,YN u n c d=false}=>[(43,int j.1)]) (fun j=>[]) (fun j=>l.length - j.1) ⟨0,Nat.zero_le _,fun d hd=>by simp at hd⟩ ?_
  rintro ⟨j,hj,hnj⟩
  refine go ⟨?_⟩;refine zj rfl (fun h=> ?_) (fun h=> ?_)
  ·have hjl:j<l.length:=by omega
   have hmem:l.getD j 0∈l:=by simp [List.getD_eq_getElem?_getD,hjl]
   have htk:=zT hjl;refine go ⟨?_⟩;generalize l.getD j 0=d at*;refine cal zi0 (ziu u n c d (by omega)) ⟨?_⟩;cases ha:YN u n c d
   ·have hdt:=Int.mul_tdiv_add_tmod d 2
    have hnx: ∀d'∈l.take (j+1),YN u n c d'=false:=fun d' hd'=>by
     rw [htk,List.mem_append,List.mem_singleton] at hd';rcases hd' with hd'|rfl
     ·exact hnj d' hd'
     ·exact ha
    refine go ⟨?_⟩;by_cases ho1:d.tmod 2=1
    ·rw [ho1];refine go ⟨?_⟩;by_cases hdc:d=c
     ·rw [beq_iff_eq.2 hdc]
      have hany:=hnext (List.any_eq_false.2 fun d' hd' hl'=>by
       have:=hod d' hl' (by rw [←hdc];exact hmem) (by omega)
       rw [this.trans hdc.symm,ha] at hl';cases hl')
      refine go ⟨?_⟩;refine je ⟨⟨i+1,hlt,hany⟩,by simp only;omega, ?_⟩;exact tel
     ·rw [beq_eq_false_iff_ne.2 hdc];refine go ⟨?_⟩;refine je ⟨⟨j+1,hjl,hnx⟩,by simp only;omega, ?_⟩;exact tel
    ·rw [beq_eq_false_iff_ne.2 ho1];refine go ⟨?_⟩;refine je ⟨⟨j+1,hjl,hnx⟩,by simp only;omega, ?_⟩;exact tel
   ·rw [hPi (List.any_eq_true.2 ⟨d,hmem,ha⟩)];exact gf
  ·obtain rfl:j=l.length:=by omega
   rw [List.take_length] at hnj;have hany:=hnext (List.any_eq_false.2 fun d hd=>by rw [hnj d hd];decide);refine go ⟨?_⟩;refine je ⟨⟨i+1,hlt,hany⟩,by simp only;omega, ?_⟩;exact tel
 ·have:V=false:=by
   cases hV2:V with
   |false=>rfl
   |true=>
    obtain ⟨k,h1,h2⟩:=hP.1 hV2;rw [hno k (by omega)] at h2;cases h2
  rw [this];exact gf
theorem zaV:ze Tryz.prog 131:=gfn Tryz.func131
theorem Gp (t:zc) (ht:t.length≤1000000):APure Tryz.prog 74 [zg t] (.lit (.bool (Xe t))) []:=ze2 t ht zg7 zaV
theorem Gr:ze Tryz.prog 74:=gfn Tryz.func74
end
section
variable {P:Program} {tab:Tab} {X:Nat→Prop} {H H':List zb} {μ μ':Mu} {w w':World} {O O':Nat→Prop} {r:Option Nat} {l R:List Oper} {Q:Exit→St→Prop} {σ σ':St} {o:Oper} {m:Nat}
theorem VA {th th':AV→Option (Prop×AV×List Nat)} (h: ∀a r,th a=some r→th' a=some r): ∀(l:List AV) r,Yf th l=some r→Yf th' l=some r
 |[],r,e=>e
 |a::l,r,e=>by
  simp only [Yf] at e ⊢;split at e
  ·rename_i h1 h2;rw [h _ _ h1,VA h l _ h2];exact e
  ·cases e
theorem Jr (hle: ∀(i:Nat) ob,H[i]?=some ob→H'[i]?=some ob): ∀(n:Nat) (a:AV) r,thaw H n a=some r→thaw H' n a=some r
 |0,a,r,e=>by cases e
 |n+1,a,r,e=>by
  have ih:=VA (Jr hle n);cases a <;>simp only [thaw] at e ⊢ <;>try exact e
  case row=>
   split at e
   ·rename_i ob hob;rw [zH] at hob;have:=hle _ _ hob
    rw [zH,this];exact e
   ·cases e
  case ptr=>
   split at e
   ·rename_i ob hob;rw [zH] at hob;have:=hle _ _ hob
    rw [zH,this];exact e
   ·cases e
  case agg=>
   split at e
   ·rename_i h1;rw [ih _ _ h1];exact e
   ·cases e
  case tup=>
   split at e
   ·rename_i h1;rw [ih _ _ h1];exact e
   ·cases e
  case fn=>
   split at e
   ·rename_i h1 h2;rw [ih _ _ h1,ih _ _ h2];exact e
   ·cases e
  case iface=>
   split at e
   ·rename_i h1;rw [Jr hle n _ _ h1];exact e
   ·cases e
theorem TU: ∀(n:Nat) {a:AV} {v:Value},pK n a=true→RV O w μ a v→RV O' w' μ a v
 |0,a,v,h,_=>by cases h
 |n+1,a,v,h,hv=>by
  have fl: ∀{cs:List AV} {vs:List Value},cs.all (pK n)=true→(∀(j:Nat) a v,cs[j]?=some a→vs[j]?=some v→RV O w μ a v)→ ∀(j:Nat) a v,cs[j]?=some a→vs[j]?=some v→RV O' w' μ a v:=fun hc h j a v ha hv=>TU n (List.all_eq_true.1 hc a (List.mem_of_getElem? ha)) (h j a v ha hv)
  cases hv with
  |junk=>exact .junk _
  |lit=>exact .lit _
  |agg h1 h2=>exact .agg h1 (fl h h2)
  |tup h1 h2=>exact .tup h1 (fl h h2)
  |arr a1 a2 a3 a4=>cases h
  |sl a0 a1 a2 a3 a4 a5 a6 a7 a8=>cases h
  |ip a1 a2 a3 a4 a5=>cases h
  |rowNil h1 hc=>exact .rowNil h1 hc
  |row h1 h2 h3 h4 h5=>exact .row h1 h2 h3 h4 h5
  |rowE h1 h2 h3=>exact .rowE h1 h2 h3
  |ptr h1=>exact .ptr h1
  |fn h1 h2 h3 h4=>cases h
  |iface ht h1=>cases h
  |mapv h1=>cases h
theorem za8 {ev:Operand→AV} {H0:List zb} {id:Nat} {o:Oper} {fo:Operand} {ao:List Operand} {ts:Array TypeId} (ho:o.op= .call {callee:= .value fo,args:=ao.toArray,argTypes:=ts}) {f:FuncId} {fa ca:List AV} (hf:ev fo= .fn (.func f) fa ca)
 (hg:ze P f) {q:Prop} {args':List AV} {used:List Nat} (ht:Yf (thaw H0 4) (fa++ao.map ev++ca)=some (q,args',used)) (hq:q) {x:AV} {N:List zb} (h:APure P f args' x N) (hr:pK 4 x=true) (hN:uv N)
 {q2:Prop} {y:AV} {used2:List Nat} (ht2:thaw N 4 x=some (q2,y,used2)) (hq2:q2):Vd P ev H0 id o ⟨y,none⟩:=by
 intro w X μ H ρ hH hle hrr;have ht':=VA (Jr (H':=H) hle 4) _ _ ht
 obtain ⟨fn,c,hfn,hnm,hb⟩:=hg;have hfo:RV (OO X H μ) w μ (ev fo) (ρ fo):=hrr fo (by rw [ho];simp [Op.operands,Call.operands])
 have hao:RVs (OO X H μ) w μ (ao.map ev) (ao.map ρ):=⟨by simp,fun j a v ha hv=>by
  simp only [List.getElem?_map,Option.map_eq_some_iff] at ha hv;obtain ⟨y1,hy1,rfl⟩:=ha;obtain ⟨y2,hy2,rfl⟩:=hv;rw [hy1] at hy2;injection hy2 with hy2;subst hy2;exact hrr y1 (by rw [ho];simp only [Op.operands,Call.operands,Array.mem_append,List.mem_toArray];exact .inr (List.mem_of_getElem? hy1))⟩
 rw [hf] at hfo;generalize hfv:ρ fo=fv at hfo;cases hfo with
 |fn h1 h2 h3 h4=>
  rename_i vs us;have hargs:=Xk (XN hH 4) ht' hq ((RVs.append ⟨h1,h2⟩ hao).append ⟨h3,h4⟩)
  have hX1: ∀b,Less (OO X H μ) μ used b→b<w.heap.size:=by
   rintro b ⟨hx|⟨i,o,m,hi,hs,hm⟩,_⟩
   ·exact hH.xlt b hx
   ·exact (hH.lt i b m hm).1
  have hOO: ∀b,OO X H μ b→b<w.heap.size:=by
   rintro b (hx|⟨i,o,m,hi,hs,hm⟩)
   ·exact hH.xlt b hx
   ·exact (hH.lt i b m hm).1
  have hH0:HRel noMu (Less (OO X H μ) μ used) [] w:=⟨fun i l h=>(by cases h),fun i j b m m' h=>(by cases h),fun i b m h=>(by cases h),fun i o h=>(by simp at h),hX1,hH.gl.step (Nat.le_refl _) (fun _ _ _ _=>rfl) (fun b hb=>hb.1.elim .inl fun ⟨i,o,m,_,_,hm⟩=> .inr (.inl ⟨i,m,hm⟩)) fun i b m h=>(by cases h), .none fun o h=>(by cases h)⟩
  have hoo0: ∀b,OO (Less (OO X H μ) μ used) [] noMu b↔Less (OO X H μ) μ used b:=fun b=>⟨fun hb=>hb.elim (fun h=>h) fun ⟨i,o,m,hi,_⟩=>(by simp at hi),fun hb=> .inl hb⟩
  refine QN ho hfv hfn hnm hb ?_;refine (h w (Less (OO X H μ) μ used) noMu _ hH0 ⟨hargs.1,fun j a v ha hv=>(hargs.2 j a v ha hv).mono (fun b _ hb=>(hoo0 b).1 hb) (fun _ _ _=>rfl) _ fun _ _ h=>h⟩).mono fun e w' he=> ?_
  obtain ⟨v,r',H1,fg1,μ1,rfl,⟨rfl,rfl⟩,g1,g2,g3,g4,_,_⟩:=he;have hbw:Below w.heap.size w w':=g3.below
  refine ⟨_,rfl,hbw, ?_⟩
  have hnew: ∀i b m,μ1 i=some (some (b,m))→w.heap.size≤b:=fun i b m hi=>by
   rcases g4 i b m hi with ⟨j,m',hj⟩|h
   ·cases hj
   ·exact h
  have hrel:HRel μ1 (OO X H μ) H1 w':=by
   refine ⟨g1.dom,g1.inj,fun i b m hi=>⟨(g1.lt i b m hi).1,fun hx=>by have:=hOO b hx;have:=hnew i b m hi;omega⟩,fun i o' hi hs=> ?_,fun b hx=>Nat.lt_of_lt_of_le (hOO b hx) hbw.size,hH.gl.step hbw.size (fun b hlt _ _=>hbw.block b hlt) (fun b hb=>hb.elim .inl fun ⟨i,o,m,_,_,hm⟩=> .inr (.inl ⟨i,m,hm⟩)) fun i b m hi=> .inr (.inr (hnew i b m hi)), .none fun o' ho'=>by have:=(hN o' ho').1;omega⟩;obtain ⟨hz,hc⟩:=g1.obj i o' hi hs;obtain ⟨_,hp,hl⟩:=hN o' (List.mem_of_getElem? hi);exact ⟨hz,hc.imp (fun h=>h) fun ⟨b,m,cur,e1,e2⟩=>⟨b,m,cur,e1,e2.blk,e2.size,e2.le,e2.nle,e2.one,e2.flen,fun k j a v hk ha hv=>pn (List.all_eq_true.1 (hl k hk) a (List.mem_of_getElem? ha)) (e2.cell k j a v hk ha hv)⟩⟩
  have hx:RV (OO (OO X H μ) H1 μ1) w' μ1 r' v:=TU 4 hr g2
  exact (XN hrel 4 ht2 hq2 hx).mono (fun b _ hb=>⟨.inl hb,fun i _ m hm=>by have:=hOO b hb;have:=hnew i b m hm;omega⟩) (fun _ _ _=>rfl) _ fun _ _ h=>by cases h
theorem zdP (hw:zS l σ' o=some true) {fo:Operand} {ao:List Operand} {ts:Array TypeId} (ho:o.op= .call {callee:= .value fo,args:=ao.toArray,argTypes:=ts}) {f:FuncId} {fa ca:List AV} (hf:σ'.ev fo= .fn (.func f) fa ca) (hg:ze P f)
 {q:Prop} {args':List AV} {used:List Nat} (ht:Yf (thaw σ.H 4) (fa++ao.map σ'.ev++ca)=some (q,args',used)) (hq:q) {x:AV} {N:List zb} (h:APure P f args' x N) (hr:pK 4 x=true) (hN:uv N)
 {q2:Prop} {y:AV} {used2:List Nat} (ht2:thaw N 4 x=some (q2,y,used2)) (hq2:q2) (next:ADr P r l Q m σ R (σ'.put o.dst y)):ADr P r l Q m σ (o::R) σ':=
 Qm hw (za8 ho hf hg ht hq h hr hN ht2 hq2) (by rw [vn];exact next)
end
section
attribute [local irreducible] zA AO zt zo ADr AL AW zF zh zU Tells APure ACall
theorem zfg (t:zc) (i:Int) (ht:t.length≤1000000):APure Tryz.prog 68 [zg t,int i] (.row 0 1 0 (Zf t i).length none) [yC (Zf t i)]:=by
 refine ent Tryz.func68 Tryz.ntmps68 ⟨?_⟩;have hl:=qY t i;unfold Zf;refine gc Kp (Tk t i ht) ⟨?_⟩;generalize zQ t i=l at*;refine go ⟨?_⟩;refine zr (Tells.nilRow (t:=5) 3 1 rfl rfl) ?_;refine lp (fun j:{q:Nat×List Int // q.1≤l.length∧q.2=(l.take q.1).map (fun c=>zm c t.length)∧q.2.length=q.1}=>[(5, .row 0 1 0 j.1.2.length none),(12,int j.1.1)]) (fun j=>[yC j.1.2]) (fun j=>l.length - j.1.1) ⟨(0,[]),by simp,by simp,by simp⟩ ?_
 rintro ⟨⟨j,v⟩,hj,hv,hvl⟩
 simp only at hj hv hvl ⊢;refine go ⟨?_⟩;refine zj rfl (fun h=> ?_) (fun h=> ?_)
 ·have hlt:j<l.length:=by omega
  have hf:(l.take (j+1)).map (fun c=>zm c t.length)=v++[zm (l.getD j 0) t.length]:=by rw [zT hlt,List.map_append,←hv];rfl
  refine gcg jj (jD (l.getD j 0) t.length) ⟨?_⟩;refine app (yP (v++[zm (l.getD j 0) t.length])) hT rfl rfl rfl rfl (fun j hj=>ZZ (e:=wA) rfl rfl hj) ?_;refine ng ⟨?_⟩;refine je ⟨⟨(j+1,v++[zm (l.getD j 0) t.length]),hlt,hf.symm,by simp;omega⟩,by simp only;omega, ?_⟩;exact tel
 ·obtain rfl:j=l.length:=by omega
  rw [List.take_length] at hv;rw [←hv];refine go ⟨?_⟩;exact Z9 rfl trivial [.row 0 1 0 v.length none] [yC v] (Tells.refl _) ⟨rfl,rfl⟩
theorem zeQ (t:zc) (i:Int) (ht:t.length≤1000000) (hr0: ¬i<0) (hr1: ¬i≥zp t):APure Tryz.prog 124 [zg t,int i] (.row 0 1 0 (zQ t i).length none) [yC (zQ t i)]:=by
 refine ent Tryz.func124 Tryz.ntmps124 ⟨?_⟩;have hl:=zR t;have hs:=zG t;have hlv:zp t=(((rAs t).length+1) / 2:Nat):=rfl
 have ho:=qT (t:=t) (i:=i);have hb:=vT (t:=t) (i:=i);refine gc JE (Jf t ht) ⟨?_⟩;generalize rAs t=u at*;refine go ⟨?_⟩;have h0:=hr0;have e1:=Yc u.length (by omega)
 have hodd:u.length=0∨u.length % 2=1:=by
  by_cases hz:u.length=0
  ·exact .inl hz
  ·have:=of_decide_eq_true (ZE hs hz);omega
 refine go ⟨?_⟩;rw [WX,e1];have h1: ¬i>((u.length / 2:Nat):Int):=by omega
 obtain ⟨n,rfl⟩: ∃n:Nat,i=n:=⟨i.toNat,by omega⟩;have e2:IntKind.i64.wrap (2*(n:Int))=2*(n:Int):=by simp only [IntKind.wrap_i64];omega
 have hbe:zQ t n=(Zc (2*(n:Int)) u.length).filter (qD u):=by
  by_cases h2:(n:Int)≥zp t
  ·rw [ho (.inr h2)]
   have:iIs (2*(n:Int)) u.length=false:=by
    unfold iIs;rw [decide_eq_false (show ¬2*(n:Int)<u.length by omega),Bool.and_false]
   unfold Zc yE;rw [this,if_neg (by decide)];rfl
  ·exact hb h0 h2
 have hcl:=WO (2*(n:Int)) u.length;refine go ⟨?_⟩;rw [e2];refine cal KR (Ty (2*(n:Int)) u.length) ⟨?_⟩;generalize Zc (2*(n:Int)) u.length=l at*;refine go ⟨?_⟩;refine zz (Tells.thaw (t:=23) rfl rfl (by repeat' (first|exact trivial|exact Nat.le_refl _|omega|exact rfl|refine And.intro ?_ ?_))) ?_;refine nz ⟨?_⟩;refine zz (Tells.sel [1] rfl rfl) ?_;refine nz ⟨?_⟩;refine zV rfl rfl rfl Jb (Jd (p:=fun x=> !qD u x) (ca:=[.ip [zg u]]) l (by omega) Hq rfl fun x _=>HJ hs x) ?_;have e3:l.filter (fun x=> !!qD u x)=zQ t n:=by rw [hbe];congr 1;funext x;simp
 rw [e3];refine ng ⟨?_⟩;exact Z9 rfl trivial [.row 0 1 0 (zQ t n).length none] [yC (zQ t n)] (Tells.refl _) ⟨rfl,rfl⟩
theorem Gn (l:List Int) (hl:l.length≤1000000000000):QF Tryz.prog 240 [.ip [Zn l]] (fun i=>[int ((l.length - 1 - i:Nat):Int),int (l.getD (l.length - 1 - i) 0)]) l.length:=by
 refine Qe hT Tryz.func240 rfl rfl fun L=> ?_
 simp only [Tryz.ntmps240,List.length_cons,List.length_nil,Nat.reduceAdd,Nat.reduceSub,List.replicate,List.cons_append,List.nil_append];refine go ⟨?_⟩;have e0:IntKind.i64.wrap ((l.length:Int) - 1)=(l.length:Int) - 1:=by simp only [IntKind.wrap_i64];omega
 rw [e0]
 refine lpy (fun i:{i:Nat // i≤l.length}=>[(3,int ((l.length:Int) - 1 - i.1))]) (fun _=>[]) (fun i=>⟨0,i.1,false,some (L,fun i=>[int ((l.length - 1 - i:Nat):Int),int (l.getD (l.length - 1 - i) 0)],l.length),true⟩) (fun i=>l.length - i.1) ⟨0,Nat.zero_le _⟩ ?_ (h0:=by
  simp only [lst,Zz,ZB,setn];refine Tells.le ?_ .nil;repeat (first|exact .nil|refine .cons (.refl _) ?_|refine .cons (.junk _) ?_|refine .cons (.int (by omega)) ?_))
 rintro ⟨i,hi⟩
 refine go ⟨?_⟩;by_cases hlt:i<l.length
 ·have e1:(l.length:Int) - 1 - i=((l.length - 1 - i:Nat):Int):=by omega
  rw [e1];refine go ⟨?_⟩;refine yld rfl hlt (.cons (.refl _) (.cons (.refl _) .nil)) fun t=> ?_
  cases t
  ·refine go ⟨?_⟩;first|exact (its rfl).1|exact (its rfl).2
  ·refine go ⟨?_⟩;have e2:IntKind.i64.wrap (((l.length - 1 - i:Nat):Int) - 1)=(l.length:Int) - 1 - ((i+1:Nat):Int):=by simp only [IntKind.wrap_i64];omega
   rw [e2];refine je ⟨⟨i+1,hlt⟩,by simp only;omega, ?_⟩;exact tel
 ·obtain rfl:i=l.length:=by omega
  have h0: ¬((l.length:Int) - 1 - l.length)≥0:=by omega
  refine go ⟨?_⟩;first|exact itn fun _=>rfl|exact itr fun _=>rfl
theorem zfZ:ze Tryz.prog 240:=gfn Tryz.func240
theorem zg3 (l:List Int):APure Tryz.prog 172 [Zn l] (.fn (.func 240) [] [.ptr 0 1 0 0]) [{T:=36,sz:=1,n:=1,f:=fun _=>[Zn l],box:=true}]:=by
 refine ent Tryz.func172 Tryz.ntmps172 ⟨?_⟩;exact gf
theorem zgf (l:List Int):APure Tryz.prog 172 [Zn l] (.fn (.func 240) [] [.ip [Zn l]]) []:=(zg3 l).data rfl (by repeat' (first|exact trivial|exact Nat.le_refl _|omega|refine And.intro ?_ ?_))
theorem zc0:ze Tryz.prog 172:=gfn Tryz.func172
theorem k_: ∀(l m:List (Int×Int×List UInt8)) (t:zc) (said:List UInt8),YK (l++m) t said=YK m (YK l t said).1 (YK l t said).2
 |[],m,t,said=>rfl
 |(x,b,key)::l,m,t,said=>by rw [List.cons_append,wK,wK,k_ l m]
def Xv (f b:List Int) (ks:List (List UInt8)) (v:zc) (i:Nat):zc×List UInt8:=YK ((Qx f b ks).take i) v []
theorem T9 {f b:List Int} {ks:List (List UInt8)} (hb:b.length=f.length) (hk:ks.length=f.length) (v:zc) {i:Nat} (hi:i<f.length):
 Xv f b ks v (i+1)=YK [(f.getD (f.length - 1 - i) 0,b.getD (f.length - 1 - i) 0,ks.getD (f.length - 1 - i) [])] (Xv f b ks v i).1 (Xv f b ks v i).2:=by
 have hd:=Ko (f:=f) hb hk hi;have hlt:i<(Qx f b ks).length:=by rw [vl hb hk];exact hi
 unfold Xv;rw [List.take_succ_eq_append_getElem hlt,k_];rw [List.drop_eq_getElem_cons hlt] at hd;injection hd with hd _
 rw [hd]
theorem Gd {f b:List Int} {ks:List (List UInt8)} (hb:b.length=f.length) (hk:ks.length=f.length) (v:zc):Xv f b ks v f.length=YK (Qx f b ks) v []:=by
 unfold Xv;rw [List.take_of_length_le (by rw [vl hb hk];exact Nat.le_refl _)]
theorem qS: ∀(l:List (Int×Int×List UInt8)) (t:zc) (said:List UInt8),(YK l t said).1.length=t.length
 |[],t,said=>rfl
 |(x,b,key)::l,t,said=>by rw [wK,qS l];simp
theorem zkt (t:zc) (i:Int) (ks:List (List UInt8)) (ht:t.length≤1000000) (hk:ks.length≤1000000):APure Tryz.prog 114 [zg t,int i,slE eBB ks] (.tup [zg (ZG t i ks).1,bytes (ZG t i ks).2.1,int (ZG t i ks).2.2]) []:=by
 refine ent Tryz.func114 Tryz.ntmps114 ⟨?_⟩;have hl:=zR t;have hs:=zG t;have hlv:zp t=(((rAs t).length+1) / 2:Nat):=rfl
 have hfl:=VL t i;have hbl:=qY t i;have hpo:=kQ (t:=t) (i:=i) (ks:=ks);have hpp:=j6 (t:=t) (i:=i) (ks:=ks);have hpw:=Vw (t:=t) (i:=i) (ks:=ks);have hpi:=PD (t:=t) (i:=i) (ks:=ks);have hba:=JA t i;have hla:=Um t;have hfa:=UL (t:=t) (i:=i);generalize hP:ZG t i ks=P at*;refine gon ⟨?_⟩;refine cal vS (vB t ht) ⟨?_⟩;generalize rAs t=u at*;generalize zp t=lv at*;refine gon ⟨?_⟩;refine cal VQ (jN u (by omega)) ⟨?_⟩;refine zz (Tells.thaw (t:=5) rfl rfl (by repeat' (first|exact trivial|exact Nat.le_refl _|exact Nat.le_of_eq (Nat.zero_add _)|omega|exact rfl|refine And.intro ?_ ?_))) ?_;refine nz ⟨?_⟩;refine zz (Tells.sel [0,2] rfl rfl) ?_;refine mc8 ⟨?_⟩;refine zz (Tells.le (H':=[{T:=22,sz:=1,n:=1,f:=fun _=>[zg t],pure:=false,box:=true},W9 u]) (.refl _) (.cons (.of (Nat.le_refl _) (fun h=>by cases h) fun k hk=>rfl) (.cons (.refl _) .nil))) ?_;refine gon ⟨?_⟩;by_cases h0:i<0
 ·rw [hpo (.inl h0)];exact gf
 refine gon ⟨?_⟩;refine zV rfl rfl rfl wG (APure.lit_at (wz u (by omega)) rfl (by repeat' (first|exact trivial|exact Nat.le_refl _|exact Nat.le_of_eq (Nat.zero_add _)|omega|refine And.intro ?_ ?_))) ?_;refine nz ⟨?_⟩;rw [hla];by_cases h1:i≥lv
 ·rw [hpo (.inr h1)];exact gf
 have hin: ¬(i<0∨i≥lv):=by omega
 refine gon ⟨?_⟩;first|refine wR y8 rfl (by decide+kernel) (by decide+kernel) ?_|refine XD y8 rfl (by decide+kernel) (by decide+kernel) ?_
 conv=>arg 7;simp only [xA,xH,cond_true,cond_false]
 refine gon ⟨?_⟩;have hfw:=zfg u i (by omega);rw [hfa hin] at hfw;refine zdP rfl rfl rfl PR rfl (by repeat' (first|exact trivial|exact Nat.le_refl _|exact Nat.le_of_eq (Nat.zero_add _)|omega|refine And.intro ?_ ?_)) hfw rfl (Qb rfl rfl fun k hk=>rfl) rfl (by repeat' (first|exact trivial|exact Nat.le_refl _|exact Nat.le_of_eq (Nat.zero_add _)|omega|refine And.intro ?_ ?_)) ?_;refine gon ⟨?_⟩;have hbw:=zeQ u i (by omega) h0 (by rw [hla];exact h1);rw [hba] at hbw;refine zdP rfl rfl rfl Kp rfl (by repeat' (first|exact trivial|exact Nat.le_refl _|exact Nat.le_of_eq (Nat.zero_add _)|omega|refine And.intro ?_ ?_)) hbw rfl (Qb rfl rfl fun k hk=>rfl) rfl (by repeat' (first|exact trivial|exact Nat.le_refl _|exact Nat.le_of_eq (Nat.zero_add _)|omega|refine And.intro ?_ ?_)) ?_
 have hod: ∀y∈Zf t i,y % 2=1∧0≤y∧y<u.length:=by
  rw [←hfa hin];exact fun y hy=>Vz hs hy
 generalize Zf t i=f at*;refine gon ⟨?_⟩;by_cases h2:f.length=ks.length
 rotate_left
 ·rw [hpp hin (by omega)];rw [bne_iff_ne.2 (show (f.length:Int)≠ks.length by omega)];exact gf
 rw [bne_eq_false_iff_eq.2 (show (f.length:Int)=ks.length by omega)];refine gon ⟨?_⟩;refine cal zg2 (zh6 ks (by omega)) ⟨?_⟩;refine gon ⟨?_⟩;by_cases h3:Zv ks=0
 rotate_left
 ·rw [hpw hin (by omega) h3,bne_iff_ne.2 h3];exact gf
 have hpi:=hpi hin (by omega) h3;rw [bne_eq_false_iff_eq.2 h3];refine gon ⟨?_⟩;refine zz (Tells.thaw (t:=10) rfl rfl (by repeat' (first|exact trivial|exact Nat.le_refl _|exact Nat.le_of_eq (Nat.zero_add _)|omega|exact rfl|refine And.intro ?_ ?_))) ?_;refine nz ⟨?_⟩;refine zz (Tells.sel [0,1] rfl rfl) ?_;refine mc8 ⟨?_⟩;obtain ⟨n,rfl⟩: ∃n:Nat,i=n:=⟨i.toNat,by omega⟩;have hw:=ZE hs (by omega);have hodd:=of_decide_eq_true hw;have e1:IntKind.i64.wrap (2*(n:Int))=((2*n:Nat):Int):=by simp only [IntKind.wrap_i64];omega
 have e2:2*(n:Int)=((2*n:Nat):Int):=by omega
 have hdi: ∀y∈zy (2*(n:Int)) u.length,iIs y u.length=true:=fun y hy=>YP hy
 have hdl:=YC (2*(n:Int)) u.length;rw [e2] at hdi hdl hpi;rw [e1];refine cal QE (jo ((2*n:Nat):Int) u.length) ⟨?_⟩;generalize zy ((2*n:Nat):Int) u.length=d at*;generalize zQ t n=b at*;refine gon ⟨?_⟩
 refine lp (fun j:{j:Nat // j≤d.length}=>[(50,int j.1)]) (fun j=>[{T:=22,sz:=1,n:=1,f:=fun _=>[.row 1 8 0 u.length none],pure:=false,box:=true},{T:=85,sz:=8,n:=u.length,f:=fE zf (Za (d.take j.1) u)}]) (fun j=>d.length - j.1) ⟨0,Nat.zero_le _⟩ ?_ (h0:=by
  simp only [lst,Zz,ZB,setn,List.take_zero,wy];exact tel)
 rintro ⟨j,hj⟩
 refine gon ⟨?_⟩;refine zj rfl (fun h=> ?_) (fun h=> ?_)
 ·have hlt:j<d.length:=by omega
  have hxj:=hdi _ (List.getElem_mem hlt);have hg:d.getD j 0=d[j]:=by simp [List.getD_eq_getElem?_getD,hlt]
  have htk:=zT hlt;have hp:=Z_ hxj;rw [←hg] at hp hxj;refine gon ⟨?_⟩;generalize hz:d.getD j 0=z at*;obtain ⟨zn,rfl⟩: ∃zn:Nat,z=zn:=⟨z.toNat,by omega⟩;have hbs:=xN (d.take j) u zn;rw [←htk] at hbs;have hbl:=z_ (d.take j) u;refine gon ⟨?_⟩;refine je ⟨⟨j+1,hlt⟩,by simp only;omega, ?_⟩;refine (Tells.le (H':=[{T:=22,sz:=1,n:=1,f:=fun _=>[.row 1 8 0 u.length none],pure:=false,box:=true},{T:=85,sz:=8,n:=u.length,f:=fE zf (Za (d.take (j+1)) u)}]) (.refl _) (.cons (.refl _) (.cons (.les (Nat.le_refl _) fun k hk=> ?_) .nil))).trans ?_
  ·rw [hbs];exact wF _ zn (by rw [hbl];exact hk)
  ·exact tel
 obtain rfl:j=d.length:=by omega
 rw [List.take_length];have hbal:=z_ d u;generalize Za d u=v at*;refine gon ⟨?_⟩;refine cal zc0 (zgf f) ⟨?_⟩;refine gon ⟨?_⟩;refine zr (Tells.le (H':=[{T:=22,sz:=1,n:=1,f:=fun _=>[.row 1 8 0 u.length none],pure:=false,box:=true},{T:=85,sz:=8,n:=u.length,f:=fE zf v},{T:=26,sz:=1,n:=1,f:=fun _=>[bytes []],box:=true}]) (.refl _) (.cons (.refl _) (.cons (.refl _) (.cons (.les (Nat.le_refl _) fun k hk=>by exact les) .nil)))) ?_;refine X7 (we rfl rfl) rfl rfl zfZ (Gn f (by omega)) (fun i hi=>rfl) (fun i=>[{T:=22,sz:=1,n:=1,f:=fun _=>[.row 1 8 0 u.length none],pure:=false,box:=true},{T:=85,sz:=8,n:=u.length,f:=fE zf (Xv f b ks v i).1},{T:=26,sz:=1,n:=1,f:=fun _=>[bytes (Xv f b ks v i).2],box:=true}]) rfl (fun j hlt L=> ?_) ?_
 ·have hd:=T9 (f:=f) (b:=b) (ks:=ks) (by omega) (by omega) v hlt;have hq:(Xv f b ks v j).1.length=u.length:=by unfold Xv;rw [qS];exact hbal
  generalize Xv f b ks v (j+1)=pr' at*;generalize Xv f b ks v j=pr at*;obtain ⟨q,sd⟩:=pr;simp only at hq hd ⊢;generalize hm:f.length - 1 - j=m at*;have hmf:m<f.length:=by omega
  have hof:=hod _ (List.getElem_mem hmf);have hgf:f.getD m 0=f[m]:=by simp [List.getD_eq_getElem?_getD,hmf]
  rw [←hgf] at hof;generalize hz:f.getD m 0=z at*;obtain ⟨zn,rfl⟩: ∃zn:Nat,z=zn:=⟨z.toNat,by omega⟩;have hzq:zn<q.length:=by omega
  refine mc8 ⟨?_⟩;refine gon ⟨?_⟩;first|refine wR y8 rfl (by decide+kernel) (by decide+kernel) ?_|refine XD y8 rfl (by decide+kernel) (by decide+kernel) ?_
  conv=>arg 7;simp only [xA,xH,cond_true,cond_false]
  refine gon ⟨?_⟩;have hq1:(q.set zn (vZ (ks.getD m []) sd)).length=u.length:=by rw [List.length_set];exact hq
  have hq2:(q.set zn (vZ (ks.getD m []) sd)).getD zn za=vZ (ks.getD m []) sd:=by simp [List.getD_eq_getElem?_getD,hzq]
  rw [wK,show (zn:Int).toNat=zn from rfl,hq] at hd;have hd:pr'=(q.set zn (vZ (ks.getD m []) sd),yF (q.set zn (vZ (ks.getD m []) sd)) zn (zE (b.getD m 0) u.length)):=hd
  refine zr (Tells.le (H':=[{T:=22,sz:=1,n:=1,f:=fun _=>[.row 1 8 0 u.length none],pure:=false,box:=true},{T:=85,sz:=8,n:=u.length,f:=fE zf (q.set zn (vZ (ks.getD m []) sd))},{T:=26,sz:=1,n:=1,f:=fun _=>[bytes sd],box:=true}]) (.refl _) (.cons (.refl _) (.cons (.les (Nat.le_refl _) fun k hk=>H5 _ _ (by rw [hq];exact hk)) (.cons (.refl _) .nil)))) ?_;generalize q.set zn (vZ (ks.getD m []) sd)=q' at*;refine wL y8 9 (by kernel_rfl) (by kernel_rfl) ?_;refine mc2 ⟨?_⟩;refine gon ⟨?_⟩;refine cal vH (vp (b.getD m 0) u.length) ⟨?_⟩;refine gon ⟨?_⟩;refine Q2 ?_;refine mc4 ⟨?_⟩;have hgw:=zak q' zn (zE (b.getD m 0) u.length) (by omega) (by omega) (by rw [hq2];simp);have hnq:zg q'= .sl 8 u.length false (fE zf q'):=by show AV.sl 8 q'.length false _=_;rw [hq1]
  rw [hnq] at hgw;generalize yF q' zn (zE (b.getD m 0) u.length)=gv at*;refine zcT rfl rfl rfl HW rfl (by repeat' (first|exact trivial|exact Nat.le_refl _|exact Nat.le_of_eq (Nat.zero_add _)|refine And.intro ?_ ?_|omega)) hgw rfl (Qb rfl rfl fun k hk=>rfl) ?_;refine nz ⟨?_⟩;refine zz (Tells.thaw (t:=82) rfl rfl (by repeat' (first|exact trivial|exact Nat.le_refl _|exact Nat.le_of_eq (Nat.zero_add _)|omega|exact rfl|refine And.intro ?_ ?_))) ?_;refine nz ⟨?_⟩;refine zz (Tells.sel [0,1,2] rfl rfl) ?_;refine nz ⟨?_⟩;refine mc8 ⟨?_⟩;refine gon ⟨?_⟩;subst hd;refine qL _ (Tells.refl _) rfl ?_ rfl;repeat (first|exact .nil|refine .cons (.refl _) ?_)
 ·have hall:=Gd (f:=f) (b:=b) (ks:=ks) (by omega) (by omega) v;have hq:(Xv f b ks v f.length).1.length=u.length:=by unfold Xv;rw [qS];exact hbal
  rw [←hall] at hpi;generalize Xv f b ks v f.length=pr at*;obtain ⟨q,sd⟩:=pr;simp only at hq hpi ⊢;rw [hpi];refine mc8 ⟨?_⟩;refine go ⟨?_⟩;rw [←hq];exact fin
theorem zjZ:ze Tryz.prog 114:=gfn Tryz.func114
end
section
theorem zaP: ∀(i:Fin 7) (n:Fin 127),n.val<2^(i.val+1) - 1→decide ((zy (n.val:Int) ((2^(i.val+1) - 1:Nat):Int)).Nodup)=true:=by decide+kernel
theorem We {x w:Int} (h:iIs x w=true):(zy x w).Nodup:=by
 obtain ⟨k,m,rfl,rfl,h'⟩:=WF h;exact of_decide_eq_true (zaP k m h')
theorem qP (i:Int) (t:zc):Zo [] i t=t:=by
 refine List.ext_getElem (Y1 _ _ _) fun j h1 h2=> ?_
 simp [Zo]
theorem Qh (xs:List Int) (i:Int) (t:zc) {j:Nat} (hj:j<t.length):(Zo xs i t)[j]'(by rw [Y1];exact hj)=if xs.contains (j:Int)=true∧t[j].kind=2 then Vc i t[j] else t[j]:=by
 simp [Zo,Vc]
theorem qb (xs:List Int) (i:Int) (t:zc) {x:Nat} (hx:x<t.length):Zo (xs++[(x:Int)]) i t=if (t.getD x za).kind=2 then (Zo xs i t).set x (Vc i (t.getD x za)) else Zo xs i t:=by
 have hg:t.getD x za=t[x]:=by simp [List.getD_eq_getElem?_getD,hx]
 rw [hg];refine List.ext_getElem (by split <;>simp [Y1]) fun j h1 h2=> ?_
 have hj:j<t.length:=by rw [Y1] at h1;exact h1
 rw [Qh _ _ _ hj];by_cases hjx:j=x
 ·subst hjx;by_cases hk:t[j].kind=2
  ·rw [if_pos ⟨by simp,hk⟩];simp only [hk,if_true,List.getElem_set_self]
  ·rw [if_neg (fun h=>hk h.2)];simp only [hk,if_false];rw [Qh _ _ _ hj,if_neg (fun h=>hk h.2)]
 ·have hc:(xs++[(x:Int)]).contains (j:Int)=xs.contains (j:Int):=by
   rw [Bool.eq_iff_iff];simp only [List.contains_iff_mem,List.mem_append,List.mem_singleton];constructor
   ·rintro (h|h)
    ·exact h
    ·omega
   ·exact .inl
  rw [hc];by_cases hk:t[x].kind=2
  ·simp only [hk,if_true];rw [List.getElem_set_ne (Ne.symm hjx),Qh _ _ _ hj]
  ·simp only [hk,if_false];rw [Qh _ _ _ hj]
theorem Wa (xs:List Int) (i:Int) (t:zc) {x:Nat} (hx:x<t.length) (hn:(x:Int)∉xs):(Zo xs i t).getD x za=t.getD x za:=by
 rw [J9 _ _ _ hx,if_neg (fun h=>hn (by simpa using h.1))]
theorem Hd (t:zc) (l:zM):yw t l=if Zi l 1≠0 then ([], -1,Zi l 1) else if ZI (rAs t)≠ -1 then (VU (rAs t) (ZI (rAs t)) l,ZI (rAs t),0) else if (ZN (rAs t)).2≠0 then ([], -1,(ZN (rAs t)).2) else
 (VU (ZN (rAs t)).1 (ZI (ZN (rAs t)).1) l,ZI (ZN (rAs t)).1,0):=rfl
theorem KS (t:zc) (i:Int):ZC t i=if yi (rAs t) i≠0 then ([],yi (rAs t) i) else (WL (Zw (rAs t) i).1,0):=rfl
theorem ug (t:zc) (i:Int) (l:zM):Zy t i l=if yi (rAs t) i≠0 then ([],yi (rAs t) i) else if Zi l 2≠0 then ([],Zi l 2) else (yr (Zw (rAs t) i).1 i l,0):=rfl
theorem KD (t:zc) (i:Int) (l:zM) (ks:List (List UInt8)):ZA t i l ks=if yi (rAs t) i≠0 then ([],yi (rAs t) i) else if Zi l 3≠0 then ([],Zi l 3) else if (ZG (rAs t) i ks).2.2≠0 then ([],(ZG (rAs t) i ks).2.2) else
 if (ZG (rAs t) i ks).2.1≠l.parent then ([],12) else (yr (ZG (rAs t) i ks).1 i l,0):=rfl
theorem vN {t:zc} {i:Int} (hs:zW t=true) (h:yi t i=0):0≤i∧2*i<t.length∧ ¬(i<0∨i≥zp t)∧i<64:=by
 unfold yi at h;split at h
 ·simp at h
 ·rename_i h1;have hlv:zp t=(((rAs t).length+1) / 2:Nat):=rfl
  have hl:=yq hs;rw [wU hs] at hlv
  have hw:t.length=0∨t.length % 2=1:=by
   by_cases h0:t.length=0
   ·exact .inl h0
   ·have:=of_decide_eq_true (ZE hs h0);omega
  exact ⟨by omega,by omega,h1,by omega⟩
theorem jl {t:zc} {i:Int} (h: ¬(i<0∨i≥zp t)):Zw t i=(Za (zy (2*i) (rAs t).length++[2*i]) (rAs t),0):=by unfold Zw;rw [if_neg h]
theorem TR {t:zc} (hs:zW t=true) {i:Int} {ks:List (List UInt8)} (h:(ZG t i ks).2.2=0):(ZG t i ks).1.length=t.length:=by
 by_cases h1:i<0∨i≥zp t
 ·rw [kQ h1] at h;simp at h
 by_cases h2:(zQ t i).length=ks.length
 rotate_left
 ·rw [j6 h1 h2] at h;simp at h
 by_cases h3:Zv ks=0
 ·rw [PD h1 h2 h3,qS,z_,wU hs]
 ·rw [Vw h1 h2 h3] at h;exact absurd h h3
end
section
attribute [local irreducible] zA AO zt zo ADr AL AW zF zh zU Tells APure ACall
theorem Jg (l:zM) (s:Int):APure Tryz.prog 138 [xj l,int s] (int (Zi l s)) []:=by
 refine ent Tryz.func138 Tryz.ntmps138 ⟨?_⟩;unfold Zi;refine gcg wx (wH l) ⟨?_⟩;by_cases h:YF l=0
 ·rw [beq_iff_eq.2 h];refine go ⟨?_⟩;by_cases h2:l.source=s
  ·rw [if_neg (fun h=>h.2 h2),bne_eq_false_iff_eq.2 h2];exact gf
  ·rw [if_pos ⟨h,h2⟩,bne_iff_ne.2 h2];exact gf
 ·rw [if_neg (fun h2=>h h2.1),beq_eq_false_iff_ne.2 h];exact gf
theorem Q5:ze Tryz.prog 138:=gfn Tryz.func138
theorem pN {t:zc} (hs:zW t=true) (i:Int):APure Tryz.prog 144 [zg t,int i] (int (yi t i)) []:=by
 refine ent Tryz.func144 Tryz.ntmps144 ⟨?_⟩;have hl:=yq hs;have hlv:zp t=(((rAs t).length+1) / 2:Nat):=rfl
 rw [wU hs] at hlv
 have hw:t.length=0∨t.length % 2=1:=by
  by_cases h0:t.length=0
  ·exact .inl h0
  ·have:=of_decide_eq_true (ZE hs h0);omega
 unfold yi;refine go ⟨?_⟩;by_cases h0:i<0
 ·rw [if_pos (.inl h0)];exact gf
 refine gc xe (XB t (by omega)) ⟨?_⟩;generalize zp t=lv at*;by_cases h1:i≥lv
 ·rw [if_pos (.inr h1)];exact gf
 rw [if_neg (by omega)];obtain ⟨n,rfl⟩: ∃n:Nat,i=n:=⟨i.toNat,by omega⟩;have e1:IntKind.i64.wrap (2*(n:Int))=((2*n:Nat):Int):=by simp only [IntKind.wrap_i64];omega
 rw [show (2*(n:Int)).toNat=2*n by omega];refine go ⟨?_⟩;rw [e1];refine go ⟨?_⟩;rw [show fE zf t (2*n)=Zb (t.getD (2*n) za) from rfl];refine go ⟨?_⟩;have hz:(t.getD (2*n) zf.z)=t.getD (2*n) za:=rfl
 try rw [hz]
 by_cases hk:(t.getD (2*n) za).kind=0
 ·rw [if_pos hk,beq_iff_eq.2 hk];exact gf
 ·rw [if_neg hk,beq_eq_false_iff_ne.2 hk];exact gf
theorem JG:ze Tryz.prog 144:=gfn Tryz.func144
theorem U7 (l:zM) {q:zc} {j k:Nat} (hk:k<q.length):LeS (upd (fE zf q) j (([int 1,bytes l.enc,bytes l.cred,int l.source,bytes l.parent, .lit (.slice none 0 0), .lit (.slice none 0 0), .lit (.slice none 0 0)]:List AV)++List.drop 8 (fE zf q j)) k) (fE zf (q.set j ⟨1,l,yd⟩) k):=by
 rw [WM (⟨1,l,yd⟩:Zt) hk];unfold upd;split
 ·exact (by exact les)
 ·exact LeS.refl _
theorem zan (t:zc) (n:Nat) (l:zM):yr t n l=t.set (2*n) ⟨1,l,yd⟩:=by
 unfold yr;rw [show (2*(n:Int)).toNat=2*n by omega]
theorem pp (t:zc) (n:Nat) (l:zM) (hn:2*n<t.length) (hl:t.length≤1000000):APure Tryz.prog 141 [zg t,int n,xj l] (.row 0 8 0 (yr t n l).length none) [W9 (yr t n l)]:=by
 refine ent Tryz.func141 Tryz.ntmps141 ⟨?_⟩;have e1:IntKind.i64.wrap (2*(n:Int))=((2*n:Nat):Int):=by simp only [IntKind.wrap_i64];omega
 refine go ⟨?_⟩;refine app (fE zf t) hT rfl rfl rfl rfl (fun k hk=>WB (xs:=[]) rfl hk) ?_;refine ng ⟨?_⟩;rw [e1];refine go ⟨?_⟩;rw [Y_];refine Z9 rfl trivial [.row 0 8 0 t.length none] [{T:=85,sz:=8,n:=t.length,f:=fE zf (yr t n l)}] ?_ ⟨rfl,by rw [←Y_ t n l]⟩;refine Tells.trans (Tells.sel [1] rfl rfl) (Tells.le (.cons (.refl _) .nil) (.cons (.les (Nat.le_refl _) fun k hk=> ?_) .nil));rw [zan];exact U7 l hk
theorem vR:ze Tryz.prog 141:=gfn Tryz.func141
theorem uc {f:FuncId} {args:List AV} {v:zc} (h:APure Tryz.prog f args (.row 0 8 0 v.length none) [W9 v]):APure Tryz.prog f args (zg v) []:=h.data rfl (Nat.le_of_eq (Nat.zero_add _))
theorem He (t:zc) (n:Nat) (l:zM) (hn:2*n<t.length) (hl:t.length≤1000000):APure Tryz.prog 141 [zg t,int n,xj l] (zg (yr t n l)) []:=uc (pp t n l hn hl)
theorem PX (i:Int) {q:zc} {j:Nat} {m:Zt} (hm:q.getD j za=m) {k:Nat} (hk:k<q.length):fE zf (q.set j (Vc i m)) k=upd (fE zf q) j (List.take 7 (fE zf q j)++[Zn (Va m.inner.unm i)]++List.drop 8 (fE zf q j)) k:=by
 rw [WM _ hk];unfold upd;rw [show fE zf q j=Zb (q.getD j za) from rfl,hm];rfl
theorem zbu (t:zc) (i:Int) (ht:t.length≤1000000):APure Tryz.prog 80 [zg t,int i] (.tup [zg (ZC t i).1,int (ZC t i).2]) []:=by
 refine ent Tryz.func80 Tryz.ntmps80 ⟨?_⟩;have hl:=zR t;have hs:=zG t;rw [KS];refine gc ZY (ZW t ht) ⟨?_⟩;generalize rAs t=u at*;refine gcg JG (pN hs i) ⟨?_⟩;by_cases h:yi u i=0
 ·rw [if_neg (fun h2=>h2 h),bne_eq_false_iff_eq.2 h];have hc:=yq (Vy u i);refine gcg tU (tk u i (by omega)) ⟨?_⟩;exact cgf zgt (zha (Zw u i).1 (by omega))
 ·rw [if_pos h,bne_iff_ne.2 h];exact gf
theorem P4:ze Tryz.prog 80:=gfn Tryz.func80
theorem zbP (t:zc) (i:Int) (l:zM) (ht:t.length≤1000000):APure Tryz.prog 81 [zg t,int i,xj l] (.tup [zg (Zy t i l).1,int (Zy t i l).2]) []:=by
 refine ent Tryz.func81 Tryz.ntmps81 ⟨?_⟩;have hl:=zR t;have hs:=zG t;rw [ug];refine gc ZY (ZW t ht) ⟨?_⟩;generalize rAs t=u at*;refine gcg JG (pN hs i) ⟨?_⟩;by_cases h:yi u i=0
 rotate_left
 ·rw [if_pos h,beq_eq_false_iff_ne.2 h];refine go ⟨?_⟩;rw [bne_iff_ne.2 h];exact gf
 rw [if_neg (fun h2=>h2 h),beq_iff_eq.2 h];obtain ⟨h1,h2,h3,h4⟩:=vN hs h;obtain ⟨n,rfl⟩: ∃n:Nat,i=n:=⟨i.toNat,by omega⟩;refine gcg Q5 (Jg l 2) ⟨?_⟩;by_cases h5:Zi l 2=0
 rotate_left
 ·rw [if_pos h5,bne_iff_ne.2 h5];exact gf
 rw [if_neg (fun h2=>h2 h5),bne_eq_false_iff_eq.2 h5];refine gc tU (tk u n (by omega)) ⟨?_⟩;have hc:(Zw u n).1.length=u.length:=by rw [jl h3,z_,wU hs]
 generalize Zw u n=c at*;exact gcgf vR (He c.1 n l (by omega) (by omega))
theorem tL:ze Tryz.prog 81:=gfn Tryz.func81
theorem zbQ (t:zc) (i:Int) (l:zM) (ks:List (List UInt8)) (ht:t.length≤1000000) (hk:ks.length≤1000000):APure Tryz.prog 82 [zg t,int i,xj l,slE eBB ks] (.tup [zg (ZA t i l ks).1,int (ZA t i l ks).2]) []:=by
 refine ent Tryz.func82 Tryz.ntmps82 ⟨?_⟩;have hl:=zR t;have hs:=zG t;rw [KD];refine gc ZY (ZW t ht) ⟨?_⟩;generalize rAs t=u at*;refine gcg JG (pN hs i) ⟨?_⟩;by_cases h:yi u i=0
 rotate_left
 ·rw [if_pos h,beq_eq_false_iff_ne.2 h];refine go ⟨?_⟩;rw [bne_iff_ne.2 h];exact gf
 rw [if_neg (fun h2=>h2 h),beq_iff_eq.2 h];obtain ⟨h1,h2,h3,h4⟩:=vN hs h;obtain ⟨n,rfl⟩: ∃n:Nat,i=n:=⟨i.toNat,by omega⟩;refine gcg Q5 (Jg l 3) ⟨?_⟩;by_cases h5:Zi l 3=0
 rotate_left
 ·rw [if_pos h5,bne_iff_ne.2 h5];exact gf
 rw [if_neg (fun h2=>h2 h5),bne_eq_false_iff_eq.2 h5];refine gc zhr (zhC u n ks (by omega) hk) ⟨?_⟩;have hpl:=TR (ks:=ks) hs (i:=n);generalize ZG u n ks=p at*;obtain ⟨pt,ph,pe⟩:=p;simp only at hpl ⊢;refine go ⟨?_⟩;by_cases h6:pe=0
 rotate_left
 ·rw [if_pos h6,bne_iff_ne.2 h6];exact gf
 rw [if_neg (fun h2=>h2 h6),bne_eq_false_iff_eq.2 h6];have hpl:=hpl h6;refine go ⟨?_⟩;by_cases h7:ph=l.parent
 rotate_left
 ·rw [if_pos h7];rw [beq_eq_false_iff_ne.2 h7];exact gf
 rw [if_neg (fun h2=>h2 h7),beq_iff_eq.2 h7];exact gcgf vR (He pt n l (by omega) (by omega))
theorem PZ:ze Tryz.prog 82:=gfn Tryz.func82
theorem zjn (t:zc) (l:zM) (ht:t.length≤1000000):APure Tryz.prog 79 [zg t,xj l] (.tup [zg (yw t l).1,int (yw t l).2.1,int (yw t l).2.2]) []:=by
 refine ent Tryz.func79 Tryz.ntmps79 ⟨?_⟩;have hl:=zR t;have hs:=zG t;rw [Hd];refine gc ZY (ZW t ht) ⟨?_⟩;generalize rAs t=u at*;refine gcg Q5 (Jg l 1) ⟨?_⟩;by_cases h5:Zi l 1=0
 rotate_left
 ·rw [if_pos h5,bne_iff_ne.2 h5];exact gf
 have hck:=wC h5;rw [if_neg (fun h2=>h2 h5),bne_eq_false_iff_eq.2 h5];refine gcg pZ (Pt u (by omega)) ⟨?_⟩;by_cases hf:ZI u<0
 ·have hfe:ZI u= -1:=by rcases jy u with h|h <;>omega
  rw [if_neg (fun h=>h hfe)];refine gc zhd (zht u (by omega)) ⟨?_⟩;have hgs:=vz u;have hfg:=Jq (t:=u);refine go ⟨?_⟩;by_cases hg:(ZN u).2=0
  rotate_left
  ·rw [if_pos hg,bne_iff_ne.2 hg];exact gf
  rw [if_neg (fun h=>h hg),bne_eq_false_iff_eq.2 hg];have hfg:=hfg hg;generalize (ZN u).1=A at*;refine go ⟨?_⟩;have hA:=yq hgs;refine cal pZ (Pt A (by omega)) ⟨?_⟩;obtain ⟨f1,f2,f3⟩:=hfg;generalize ZI A=fr at*;obtain ⟨n,rfl⟩: ∃n:Nat,fr=n:=⟨fr.toNat,by omega⟩;have e1:IntKind.i64.wrap (2*(n:Int))=((2*n:Nat):Int):=by simp only [IntKind.wrap_i64];omega
  have hI:=QH hgs (n:=2*n) (by omega);have hT2:VU A n l=Zo (zy (2*(n:Int)) (A).length) n (yr A n l):=rfl
  rw [hT2,show 2*(n:Int)=((2*n:Nat):Int) by omega];refine gc vR (pp A n l (by omega) (by omega)) ⟨?_⟩;rw [Y_];have hls:=X8 hgs n hck;have hll:=Y_ A n l;have hdi:=fun y (h:y∈zy ((2*n:Nat):Int) (A).length)=>Z_ (YP h)
  have hdn:=We hI;have hdl:=YC ((2*n:Nat):Int) (A).length;refine go ⟨?_⟩;rw [e1];refine cal Wt (Ws ((2*n:Nat):Int) (A).length) ⟨?_⟩;generalize zy ((2*n:Nat):Int) (A).length=d at*;generalize yr A n l=v at*;rw [←hll];refine go ⟨?_⟩
  refine lp (fun j:{j:Nat // j≤d.length}=>[(14,int j.1),(15, .junk)]) (fun j=>[{T:=28,sz:=4,n:=1,f:=fun _=>[bytes l.enc,bytes l.cred,int l.source,bytes l.parent],box:=true},{T:=85,sz:=8,n:=v.length,f:=fE zf (Zo (d.take j.1) n v)}]) (fun j=>d.length - j.1) ⟨0,Nat.zero_le _⟩ ?_ (h0:=by
   simp only [lst,Zz,ZB,setn,List.take_zero,qP];exact tel)
  rintro ⟨j,hj⟩
  have hjl:=Y1 (d.take j) n v;refine go ⟨?_⟩;refine zj rfl (fun h=> ?_) (fun h=> ?_)
  ·have hlt:j<d.length:=by omega
   have hp:=hdi _ (List.getElem_mem hlt);have hg:d.getD j 0=d[j]:=by simp [List.getD_eq_getElem?_getD,hlt]
   have htk:=zT hlt
   have hno:d.getD j 0∉d.take j:=by
    rw [hg];intro hm;obtain ⟨k,hk,hk2⟩:=List.mem_take_iff_getElem.1 hm;exact List.pairwise_iff_getElem.1 hdn k j (by omega) hlt (by omega) hk2
   rw [←hg] at hp;refine go ⟨?_⟩;generalize hz:d.getD j 0=z at*;obtain ⟨zn,rfl⟩: ∃zn:Nat,z=zn:=⟨z.toNat,by omega⟩;have hzv:zn<v.length:=by omega
   have hjs:=qb (d.take j) n v hzv;rw [←htk] at hjs;have hjf:=Wa (d.take j) n v hzv hno;have hun:=yp (Yx hls hzv);refine go ⟨?_⟩;rw [show fE zf (Zo (d.take j) n v) zn=Zb ((Zo (d.take j) n v).getD zn za) from rfl,hjf];refine go ⟨?_⟩;have hz2:(Zo (d.take j) n v).getD zn zf.z=v.getD zn za:=hjf
   rw [hz2];by_cases hk2:(v.getD zn za).kind=2
   ·rw [if_pos hk2] at hjs;rw [beq_iff_eq.2 hk2];refine gcg tF (T4 (v.getD zn za).inner.unm n (by omega)) ⟨?_⟩;rw [hz];refine ms10 ⟨?_⟩;refine (Tells.objf 1 (fE zf ((Zo (d.take j) n v).set zn (Vc n (v.getD zn za)))) rfl (fun k hk=>WM _ (by rw [hjl];exact hk))).trans ?_;simp only [hjs];refine (Tells.sel [0,1] rfl rfl).trans ?_;refine mc8 ⟨?_⟩;exact tel
   ·rw [if_neg hk2] at hjs;rw [beq_eq_false_iff_ne.2 hk2];refine ms10 ⟨?_⟩;simp only [hjs];refine (Tells.sel [0,1] rfl rfl).trans ?_;refine mc8 ⟨?_⟩;exact tel
  ·obtain rfl:j=d.length:=by omega
   rw [List.take_length] at hjl ⊢;generalize Zo d n v=w at*;rw [←hjl];exact gf
 ·have hfe:=(jy u).resolve_left (by omega)
  rw [wU hs] at hfe;rw [if_pos (show ZI u≠ -1 by omega)];refine go ⟨?_⟩;have hA:=yq hs;refine cal pZ (Pt u (by omega)) ⟨?_⟩;obtain ⟨f1,f2,f3⟩:=hfe;generalize ZI u=fr at*;obtain ⟨n,rfl⟩: ∃n:Nat,fr=n:=⟨fr.toNat,by omega⟩;have e1:IntKind.i64.wrap (2*(n:Int))=((2*n:Nat):Int):=by simp only [IntKind.wrap_i64];omega
  have hI:=QH hs (n:=2*n) (by omega);have hT2:VU u n l=Zo (zy (2*(n:Int)) (u).length) n (yr u n l):=rfl
  rw [hT2,show 2*(n:Int)=((2*n:Nat):Int) by omega];refine gc vR (pp u n l (by omega) (by omega)) ⟨?_⟩;rw [Y_];have hls:=X8 hs n hck;have hll:=Y_ u n l;have hdi:=fun y (h:y∈zy ((2*n:Nat):Int) (u).length)=>Z_ (YP h)
  have hdn:=We hI;have hdl:=YC ((2*n:Nat):Int) (u).length;refine go ⟨?_⟩;rw [e1];refine cal Wt (Ws ((2*n:Nat):Int) (u).length) ⟨?_⟩;generalize zy ((2*n:Nat):Int) (u).length=d at*;generalize yr u n l=v at*;rw [←hll];refine go ⟨?_⟩
  refine lp (fun j:{j:Nat // j≤d.length}=>[(14,int j.1),(15, .junk)]) (fun j=>[{T:=28,sz:=4,n:=1,f:=fun _=>[bytes l.enc,bytes l.cred,int l.source,bytes l.parent],box:=true},{T:=85,sz:=8,n:=v.length,f:=fE zf (Zo (d.take j.1) n v)}]) (fun j=>d.length - j.1) ⟨0,Nat.zero_le _⟩ ?_ (h0:=by
   simp only [lst,Zz,ZB,setn,List.take_zero,qP];exact tel)
  rintro ⟨j,hj⟩
  have hjl:=Y1 (d.take j) n v;refine go ⟨?_⟩;refine zj rfl (fun h=> ?_) (fun h=> ?_)
  ·have hlt:j<d.length:=by omega
   have hp:=hdi _ (List.getElem_mem hlt);have hg:d.getD j 0=d[j]:=by simp [List.getD_eq_getElem?_getD,hlt]
   have htk:=zT hlt
   have hno:d.getD j 0∉d.take j:=by
    rw [hg];intro hm;obtain ⟨k,hk,hk2⟩:=List.mem_take_iff_getElem.1 hm;exact List.pairwise_iff_getElem.1 hdn k j (by omega) hlt (by omega) hk2
   rw [←hg] at hp;refine go ⟨?_⟩;generalize hz:d.getD j 0=z at*;obtain ⟨zn,rfl⟩: ∃zn:Nat,z=zn:=⟨z.toNat,by omega⟩;have hzv:zn<v.length:=by omega
   have hjs:=qb (d.take j) n v hzv;rw [←htk] at hjs;have hjf:=Wa (d.take j) n v hzv hno;have hun:=yp (Yx hls hzv);refine go ⟨?_⟩;rw [show fE zf (Zo (d.take j) n v) zn=Zb ((Zo (d.take j) n v).getD zn za) from rfl,hjf];refine go ⟨?_⟩;have hz2:(Zo (d.take j) n v).getD zn zf.z=v.getD zn za:=hjf
   rw [hz2];by_cases hk2:(v.getD zn za).kind=2
   ·rw [if_pos hk2] at hjs;rw [beq_iff_eq.2 hk2];refine gcg tF (T4 (v.getD zn za).inner.unm n (by omega)) ⟨?_⟩;rw [hz];refine ms10 ⟨?_⟩;refine (Tells.objf 1 (fE zf ((Zo (d.take j) n v).set zn (Vc n (v.getD zn za)))) rfl (fun k hk=>WM _ (by rw [hjl];exact hk))).trans ?_;simp only [hjs];refine (Tells.sel [0,1] rfl rfl).trans ?_;refine mc8 ⟨?_⟩;exact tel
   ·rw [if_neg hk2] at hjs;rw [beq_eq_false_iff_ne.2 hk2];refine ms10 ⟨?_⟩;simp only [hjs];refine (Tells.sel [0,1] rfl rfl).trans ?_;refine mc8 ⟨?_⟩;exact tel
  ·obtain rfl:j=d.length:=by omega
   rw [List.take_length] at hjl ⊢;generalize Zo d n v=w at*;rw [←hjl];exact gf
theorem ze4:ze Tryz.prog 79:=gfn Tryz.func79
theorem UQ (t:zc) (ht:t.length≤1000000):APure Tryz.prog 101 [zg t] (zg (rAs t)) []:=by
 refine ent Tryz.func101 Tryz.ntmps101 ⟨?_⟩;unfold rAs;refine gc QM (QC t ht) ⟨?_⟩;cases h:zW t
 ·rw [if_neg (by decide)];exact gf
 ·rw [if_pos rfl];exact gf
theorem Uz:ze Tryz.prog 101:=gfn Tryz.func101
theorem Kv (l:zM) (s:Int):APure Tryz.prog 102 [xj l,int s] (int (Zi l s)) []:=by
 refine ent Tryz.func102 Tryz.ntmps102 ⟨?_⟩;unfold Zi;refine gcg kw (kD l) ⟨?_⟩;by_cases h:YF l=0
 ·rw [beq_iff_eq.2 h];refine go ⟨?_⟩;by_cases h2:l.source=s
  ·rw [if_neg (fun h=>h.2 h2),bne_eq_false_iff_eq.2 h2];exact gf
  ·rw [if_pos ⟨h,h2⟩,bne_iff_ne.2 h2];exact gf
 ·rw [if_neg (fun h2=>h h2.1),beq_eq_false_iff_ne.2 h];exact gf
theorem uo:ze Tryz.prog 102:=gfn Tryz.func102
theorem gk (t:zc) (n:Nat) (l:zM) (hn:2*n<t.length) (hl:t.length≤1000000):APure Tryz.prog 105 [zg t,int n,xj l] (.row 0 8 0 (yr t n l).length none) [W9 (yr t n l)]:=by
 refine ent Tryz.func105 Tryz.ntmps105 ⟨?_⟩;have e1:IntKind.i64.wrap (2*(n:Int))=((2*n:Nat):Int):=by simp only [IntKind.wrap_i64];omega
 refine gcg VQ (jN t (by omega)) ⟨?_⟩;rw [e1];refine go ⟨?_⟩;rw [Y_];refine Z9 rfl trivial [.row 0 8 0 t.length none] [{T:=85,sz:=8,n:=t.length,f:=fE zf (yr t n l)}] ?_ ⟨rfl,by rw [←Y_ t n l]⟩;refine Tells.trans (Tells.sel [1] rfl rfl) (Tells.le (.cons (.refl _) .nil) (.cons (.les (Nat.le_refl _) fun k hk=> ?_) .nil));rw [zan];exact U7 l hk
theorem uf:ze Tryz.prog 105:=gfn Tryz.func105
theorem ziX (t:zc) (n:Nat) (l:zM) (hn:2*n<t.length) (hl:t.length≤1000000):APure Tryz.prog 105 [zg t,int n,xj l] (zg (yr t n l)) []:=uc (gk t n l hn hl)
def Ku (F:zc→zc×Int) (s:Int) (t:zc) (i:Int) (l:zM):zc×Int:=
 if yi (rAs t) i≠0 then ([],yi (rAs t) i) else if s=0 then F (rAs t) else if Zi l s≠0 then ([],Zi l s) else if (F (rAs t)).2≠0 then ([],(F (rAs t)).2) else (yr (F (rAs t)).1 i l,0)
theorem zjQ {g:Nat} {ca:List AV} {F:zc→zc×Int} (s:Int) (t:zc) (i:Int) (l:zM) (ht:t.length≤1000000) (hg:ze Tryz.prog g) (hca:ca.all (zB 3)=true)
 (hF: ∀u,zW u=true→APure Tryz.prog g ([zg u]++ca) (.tup [zg (F u).1,int (F u).2]) []) (hL: ∀u,zW u=true→yi u i=0→(F u).2=0→s≠0→(F u).1.length=u.length):
 APure Tryz.prog 111 [.agg [int s, .fn (.func g) [] ca],zg t,int i,xj l] (.tup [zg (Ku F s t i l).1,int (Ku F s t i l).2]) []:=by
 refine ent Tryz.func111 Tryz.ntmps111 ⟨?_⟩;have hl:=zR t;have hs:=zG t;have hlv:zp (rAs t)=(((rAs t).length+1) / 2:Nat):=by unfold zp;rw [W6]
 unfold Ku;refine gc Uz (UQ t ht) ⟨?_⟩;generalize rAs t=u at*
 have hw:u.length=0∨u.length % 2=1:=by
  by_cases h0:u.length=0
  ·exact .inl h0
  ·have:=of_decide_eq_true (ZE hs h0);omega
 have hok:=vN (i:=i) hs;have hF:=hF u hs;have hL:=hL u hs;refine go ⟨?_⟩;have hv3:i<0∨i≥zp u→yi u i=3:=fun h=>by unfold yi;rw [if_pos h]
 by_cases h0:i<0
 ·rw [hv3 (.inl h0),if_pos (by decide)];exact gf
 refine gcg wG (wz u (by omega)) ⟨?_⟩;by_cases h1:i≥zp u
 ·rw [hv3 (.inr h1),if_pos (by decide)];exact gf
 obtain ⟨n,rfl⟩: ∃n:Nat,i=n:=⟨i.toNat,by omega⟩;have e1:IntKind.i64.wrap (2*(n:Int))=((2*n:Nat):Int):=by simp only [IntKind.wrap_i64];omega
 have hv9:yi u n=if (u.getD (2*n) za).kind=0 then 9 else 0:=by unfold yi;rw [if_neg (by omega),show (2*(n:Int)).toNat=2*n by omega]
 refine go ⟨?_⟩;rw [e1];refine go ⟨?_⟩;rw [show fE zf u (2*n)=Zb (u.getD (2*n) za) from rfl];refine go ⟨?_⟩;have hz:(u.getD (2*n) zf.z)=u.getD (2*n) za:=rfl
 try rw [hz]
 by_cases hk:(u.getD (2*n) za).kind=0
 ·rw [if_pos hk] at hv9;rw [hv9,if_pos (by decide),beq_iff_eq.2 hk];exact gf
 rw [if_neg hk] at hv9;rw [hv9,if_neg (by decide),beq_eq_false_iff_ne.2 hk];have hL:=hL hv9;have hok:=hok hv9;generalize F u=r at*;obtain ⟨rt,re⟩:=r;simp only at hF hL ⊢;refine go ⟨?_⟩;by_cases h2:s=0
 ·rw [if_pos h2,beq_iff_eq.2 h2];refine go ⟨?_⟩;refine x8 rfl rfl rfl hg rfl (xC hca) hF (.refl _) ?_;refine ng ⟨?_⟩;exact fin
 rw [if_neg h2,beq_eq_false_iff_ne.2 h2];refine gcg uo (Kv l s) ⟨?_⟩;by_cases h5:Zi l s=0
 rotate_left
 ·rw [if_pos h5,bne_iff_ne.2 h5];exact gf
 rw [if_neg (fun h=>h h5),bne_eq_false_iff_eq.2 h5];refine go ⟨?_⟩;refine x8 rfl rfl rfl hg rfl (xC hca) hF (.refl _) ?_;refine ng ⟨?_⟩;by_cases h6:re=0
 rotate_left
 ·rw [if_pos h6,bne_iff_ne.2 h6];exact gf
 rw [if_neg (fun h=>h h6),bne_eq_false_iff_eq.2 h6];have hL:=hL h6 h2;exact gcgf uf (ziX rt n l (by omega) (by omega))
theorem zjA:ze Tryz.prog 111:=gfn Tryz.func111
theorem zjg {u:zc} (hs:zW u=true) (i:Int):APure Tryz.prog 108 [zg u, .ip [int i]] (.tup [zg (WL (Zw u i).1),int (Zw u i).2]) []:=by
 refine ent Tryz.func108 Tryz.ntmps108 ⟨?_⟩;have hl:=yq hs;have hc:=yq (Vy u i);refine gcg U3 (HA u i (by omega)) ⟨?_⟩;exact cgf zfT (zj' (Zw u i).1 (by omega))
theorem ziz:ze Tryz.prog 108:=gfn Tryz.func108
theorem zkn {u:zc} (hs:zW u=true) (i:Int):APure Tryz.prog 112 [zg u, .ip [int i]] (.tup [zg (Zw u i).1,int (Zw u i).2]) []:=by
 refine ent Tryz.func112 Tryz.ntmps112 ⟨?_⟩;have hl:=yq hs;exact gcgf U3 (HA u i (by omega))
theorem ziJ:ze Tryz.prog 112:=gfn Tryz.func112
def gI (i:Int) (l:zM) (ks:List (List UInt8)) (u:zc):zc×Int:=if (ZG u i ks).2.2=0∧(ZG u i ks).2.1≠l.parent then ([],12) else ((ZG u i ks).1,(ZG u i ks).2.2)
theorem zjj {u:zc} (hs:zW u=true) (i:Int) (l:zM) (ks:List (List UInt8)) (hk:ks.length≤1000000):APure Tryz.prog 113 [zg u, .ip [int i], .ip [slE eBB ks], .ip [bytes l.enc,bytes l.cred,int l.source,bytes l.parent]] (.tup [zg (gI i l ks u).1,int (gI i l ks u).2]) []:=by
 refine ent Tryz.func113 Tryz.ntmps113 ⟨?_⟩;have hl:=yq hs;unfold gI;refine gc zjZ (zkt u i ks (by omega) hk) ⟨?_⟩;generalize ZG u i ks=p at*;obtain ⟨pt,ph,pe⟩:=p;simp only;refine go ⟨?_⟩;by_cases h6:pe=0
 rotate_left
 ·rw [if_neg (fun h=>h6 h.1),beq_eq_false_iff_ne.2 h6];exact gf
 rw [beq_iff_eq.2 h6];refine gc VS (j0 ph l.parent) ⟨?_⟩;by_cases h7:ph=l.parent
 ·rw [if_neg (fun h=>h.2 h7),beq_iff_eq.2 h7];exact gf
 ·rw [if_pos ⟨h6,h7⟩,beq_eq_false_iff_ne.2 h7];exact gf
theorem zjv:ze Tryz.prog 113:=gfn Tryz.func113
theorem zbC (t:zc) (i:Int):Ku (fun u=>(WL (Zw u i).1,(Zw u i).2)) 0 t i ZF=ZC t i:=by
 rw [KS];by_cases h:yi (rAs t) i=0
 ·have h3:=(vN (zG t) h).2.2.1
  simp [Ku,h,jl h3]
 ·simp [Ku,h]
theorem zbe (t:zc) (i:Int) (l:zM):Ku (fun u=>Zw u i) 2 t i l=Zy t i l:=by
 rw [ug];by_cases h:yi (rAs t) i=0
 ·have h3:=(vN (zG t) h).2.2.1
  simp [Ku,h,jl h3]
 ·simp [Ku,h]
theorem zbB (t:zc) (i:Int) (l:zM) (ks:List (List UInt8)):Ku (gI i l ks) 3 t i l=ZA t i l ks:=by
 rw [KD];unfold Ku gI;generalize ZG (rAs t) i ks=p;obtain ⟨pt,ph,pe⟩:=p;by_cases h:yi (rAs t) i=0
 ·by_cases h5:Zi l 3=0
  ·by_cases h6:pe=0
   ·by_cases h7:ph=l.parent
    ·simp [h,h5,h6,h7]
    ·simp [h,h5,h6,h7]
   ·simp [h,h5,h6]
  ·simp [h,h5]
 ·simp [h]
theorem ze_ (t:zc) (i:Int) (ht:t.length≤1000000):APure Tryz.prog 58 [zg t,int i] (.tup [zg (ZC t i).1,int (ZC t i).2]) []:=by
 refine ent Tryz.func58 Tryz.ntmps58 ⟨?_⟩;have hon:=zjQ (F:=fun u=>(WL (Zw u i).1,(Zw u i).2)) (ca:=[.ip [int i]]) 0 t i ZF ht ziz rfl (fun u hu=>zjg hu i) (fun u hu h1 h2 h3=>absurd rfl h3);rw [zbC] at hon;exact gcgf zjA hon
theorem gw:ze Tryz.prog 58:=gfn Tryz.func58
theorem zcs (t:zc) (i:Int) (l:zM) (ht:t.length≤1000000):APure Tryz.prog 59 [zg t,int i,xj l] (.tup [zg (Zy t i l).1,int (Zy t i l).2]) []:=by
 refine ent Tryz.func59 Tryz.ntmps59 ⟨?_⟩
 have hon:=zjQ (F:=fun u=>Zw u i) (ca:=[.ip [int i]]) 2 t i l ht ziJ rfl (fun u hu=>zkn hu i) (fun u hu h1 h2 h3=>by
  have h3:=(vN hu h1).2.2.1
  simp only [jl h3,z_,wU hu])
 rw [zbe] at hon;exact gcgf zjA hon
theorem gq:ze Tryz.prog 59:=gfn Tryz.func59
theorem zdp (t:zc) (i:Int) (l:zM) (ks:List (List UInt8)) (ht:t.length≤1000000) (hk:ks.length≤1000000):APure Tryz.prog 60 [zg t,int i,xj l,slE eBB ks] (.tup [zg (ZA t i l ks).1,int (ZA t i l ks).2]) []:=by
 refine ent Tryz.func60 Tryz.ntmps60 ⟨?_⟩
 have hon:=zjQ (F:=gI i l ks) (ca:=[.ip [int i], .ip [slE eBB ks], .ip [bytes l.enc,bytes l.cred,int l.source,bytes l.parent]]) 3 t i l ht zjv rfl (fun u hu=>zjj hu i l ks hk) (fun u hu h1 h2 h3=>by
  unfold gI at h2 ⊢;split at h2
  ·simp at h2
  ·rename_i h4;rw [if_neg h4];exact TR hu h2)
 rw [zbB] at hon;exact gcgf zjA hon
theorem gJ:ze Tryz.prog 60:=gfn Tryz.func60
theorem zlg (t:zc) (l:zM) (ht:t.length≤1000000):APure Tryz.prog 56 [zg t,xj l] (.tup [zg (yw t l).1,int (yw t l).2.1,int (yw t l).2.2]) []:=by
 refine ent Tryz.func56 Tryz.ntmps56 ⟨?_⟩;have hl:=zR t;have hs:=zG t;rw [Hd];refine gc Uz (UQ t ht) ⟨?_⟩;generalize rAs t=u at*;refine gcg uo (Kv l 1) ⟨?_⟩;by_cases h5:Zi l 1=0
 rotate_left
 ·rw [if_pos h5,bne_iff_ne.2 h5];exact gf
 have hck:=wC h5;rw [if_neg (fun h2=>h2 h5),bne_eq_false_iff_eq.2 h5];refine gcg zdk (zdT u (by omega)) ⟨?_⟩;by_cases hfe:ZI u= -1
 ·rw [if_neg (fun h=>h hfe),beq_iff_eq.2 hfe];refine gc zcS (zf4 u (by omega)) ⟨?_⟩;have hgs:=vz u;have hfg:=Jq (t:=u);refine go ⟨?_⟩;by_cases hg:(ZN u).2=0
  rotate_left
  ·rw [if_pos hg,bne_iff_ne.2 hg];exact gf
  rw [if_neg (fun h=>h hg),bne_eq_false_iff_eq.2 hg];have hfg:=hfg hg;generalize (ZN u).1=A at*;refine gc zdk (zdT A (by have:=yq hgs;omega)) ⟨?_⟩;have hA:=yq hgs;obtain ⟨f1,f2,f3⟩:=hfg;generalize ZI A=fr at*;obtain ⟨n,rfl⟩: ∃n:Nat,fr=n:=⟨fr.toNat,by omega⟩;have e1:IntKind.i64.wrap (2*(n:Int))=((2*n:Nat):Int):=by simp only [IntKind.wrap_i64];omega
  have hI:=QH hgs (n:=2*n) (by omega);have hT2:VU A n l=Zo (zy (2*(n:Int)) (A).length) n (yr A n l):=rfl
  rw [hT2,show 2*(n:Int)=((2*n:Nat):Int) by omega];refine gc uf (gk A n l (by omega) (by omega)) ⟨?_⟩;rw [Y_];have hls:=X8 hgs n hck;have hll:=Y_ A n l;have hdi:=fun y (h:y∈zy ((2*n:Nat):Int) (A).length)=>Z_ (YP h)
  have hdn:=We hI;have hdl:=YC ((2*n:Nat):Int) (A).length;refine go ⟨?_⟩;rw [e1];refine cal QE (jo ((2*n:Nat):Int) (A).length) ⟨?_⟩;generalize zy ((2*n:Nat):Int) (A).length=d at*;generalize yr A n l=v at*;rw [←hll];refine go ⟨?_⟩
  refine lp (fun j:{j:Nat // j≤d.length}=>[(45,int j.1)]) (fun j=>[{T:=28,sz:=4,n:=1,f:=fun _=>[bytes l.enc,bytes l.cred,int l.source,bytes l.parent],box:=true},{T:=85,sz:=8,n:=v.length,f:=fE zf (Zo (d.take j.1) n v)}]) (fun j=>d.length - j.1) ⟨0,Nat.zero_le _⟩ ?_ (h0:=by
   simp only [lst,Zz,ZB,setn,List.take_zero,qP];exact tel)
  rintro ⟨j,hj⟩
  have hjl:=Y1 (d.take j) n v;refine go ⟨?_⟩;refine zj rfl (fun h=> ?_) (fun h=> ?_)
  ·have hlt:j<d.length:=by omega
   have hp:=hdi _ (List.getElem_mem hlt);have hg:d.getD j 0=d[j]:=by simp [List.getD_eq_getElem?_getD,hlt]
   have htk:=zT hlt
   have hno:d.getD j 0∉d.take j:=by
    rw [hg];intro hm;obtain ⟨k,hk,hk2⟩:=List.mem_take_iff_getElem.1 hm;exact List.pairwise_iff_getElem.1 hdn k j (by omega) hlt (by omega) hk2
   rw [←hg] at hp;refine go ⟨?_⟩;generalize hz:d.getD j 0=z at*;obtain ⟨zn,rfl⟩: ∃zn:Nat,z=zn:=⟨z.toNat,by omega⟩;have hzv:zn<v.length:=by omega
   have hjs:=qb (d.take j) n v hzv;rw [←htk] at hjs;have hjf:=Wa (d.take j) n v hzv hno;have hun:=yp (Yx hls hzv);refine go ⟨?_⟩;have hz2:(Zo (d.take j) n v).getD zn zf.z=v.getD zn za:=hjf
   try rw [hz2]
   by_cases hk2:(v.getD zn za).kind=2
   ·rw [if_pos hk2] at hjs;rw [beq_iff_eq.2 hk2];refine go ⟨?_⟩;try rw [hz2]
    refine cg HC (H6 (v.getD zn za).inner.unm n (by omega)) ⟨?_⟩;refine je ⟨⟨j+1,hlt⟩,by simp only;omega, ?_⟩;refine (Tells.objf 1 (fE zf ((Zo (d.take j) n v).set zn (Vc n (v.getD zn za)))) rfl (fun k hk=>PX n hjf (by rw [hjl];exact hk))).trans ?_;simp only [hjs];exact tel
   ·rw [if_neg hk2] at hjs;rw [beq_eq_false_iff_ne.2 hk2];refine ms10 ⟨?_⟩;simp only [hjs];exact tel
  ·obtain rfl:j=d.length:=by omega
   rw [List.take_length] at hjl ⊢;generalize Zo d n v=w at*;rw [←hjl];exact gf
 ·have hfe2:=(jy u).resolve_left hfe
  rw [wU hs] at hfe2;rw [if_pos hfe,beq_eq_false_iff_ne.2 hfe];have hA:=yq hs;obtain ⟨f1,f2,f3⟩:=hfe2;generalize ZI u=fr at*;obtain ⟨n,rfl⟩: ∃n:Nat,fr=n:=⟨fr.toNat,by omega⟩;have e1:IntKind.i64.wrap (2*(n:Int))=((2*n:Nat):Int):=by simp only [IntKind.wrap_i64];omega
  have hI:=QH hs (n:=2*n) (by omega);have hT2:VU u n l=Zo (zy (2*(n:Int)) (u).length) n (yr u n l):=rfl
  rw [hT2,show 2*(n:Int)=((2*n:Nat):Int) by omega];refine gc uf (gk u n l (by omega) (by omega)) ⟨?_⟩;rw [Y_];have hls:=X8 hs n hck;have hll:=Y_ u n l;have hdi:=fun y (h:y∈zy ((2*n:Nat):Int) (u).length)=>Z_ (YP h)
  have hdn:=We hI;have hdl:=YC ((2*n:Nat):Int) (u).length;refine go ⟨?_⟩;rw [e1];refine cal QE (jo ((2*n:Nat):Int) (u).length) ⟨?_⟩;generalize zy ((2*n:Nat):Int) (u).length=d at*;generalize yr u n l=v at*;rw [←hll];refine go ⟨?_⟩
  refine lp (fun j:{j:Nat // j≤d.length}=>[(45,int j.1)]) (fun j=>[{T:=28,sz:=4,n:=1,f:=fun _=>[bytes l.enc,bytes l.cred,int l.source,bytes l.parent],box:=true},{T:=85,sz:=8,n:=v.length,f:=fE zf (Zo (d.take j.1) n v)}]) (fun j=>d.length - j.1) ⟨0,Nat.zero_le _⟩ ?_ (h0:=by
   simp only [lst,Zz,ZB,setn,List.take_zero,qP];exact tel)
  rintro ⟨j,hj⟩
  have hjl:=Y1 (d.take j) n v;refine go ⟨?_⟩;refine zj rfl (fun h=> ?_) (fun h=> ?_)
  ·have hlt:j<d.length:=by omega
   have hp:=hdi _ (List.getElem_mem hlt);have hg:d.getD j 0=d[j]:=by simp [List.getD_eq_getElem?_getD,hlt]
   have htk:=zT hlt
   have hno:d.getD j 0∉d.take j:=by
    rw [hg];intro hm;obtain ⟨k,hk,hk2⟩:=List.mem_take_iff_getElem.1 hm;exact List.pairwise_iff_getElem.1 hdn k j (by omega) hlt (by omega) hk2
   rw [←hg] at hp;refine go ⟨?_⟩;generalize hz:d.getD j 0=z at*;obtain ⟨zn,rfl⟩: ∃zn:Nat,z=zn:=⟨z.toNat,by omega⟩;have hzv:zn<v.length:=by omega
   have hjs:=qb (d.take j) n v hzv;rw [←htk] at hjs;have hjf:=Wa (d.take j) n v hzv hno;have hun:=yp (Yx hls hzv);refine go ⟨?_⟩;have hz2:(Zo (d.take j) n v).getD zn zf.z=v.getD zn za:=hjf
   try rw [hz2]
   by_cases hk2:(v.getD zn za).kind=2
   ·rw [if_pos hk2] at hjs;rw [beq_iff_eq.2 hk2];refine go ⟨?_⟩;try rw [hz2]
    refine cg HC (H6 (v.getD zn za).inner.unm n (by omega)) ⟨?_⟩;refine je ⟨⟨j+1,hlt⟩,by simp only;omega, ?_⟩;refine (Tells.objf 1 (fE zf ((Zo (d.take j) n v).set zn (Vc n (v.getD zn za)))) rfl (fun k hk=>PX n hjf (by rw [hjl];exact hk))).trans ?_;simp only [hjs];exact tel
   ·rw [if_neg hk2] at hjs;rw [beq_eq_false_iff_ne.2 hk2];refine ms10 ⟨?_⟩;simp only [hjs];exact tel
  ·obtain rfl:j=d.length:=by omega
   rw [List.take_length] at hjl ⊢;generalize Zo d n v=w at*;rw [←hjl];exact gf
theorem zf5:ze Tryz.prog 56:=gfn Tryz.func56
theorem t7 {x y w:Int} (h:Yp x y w=true):y∈yE x w∧iIs x w=true∧yE x w=ups 8 x w:=by
 unfold Yp at h;have hm:y∈yE x w:=by simpa using h
 unfold yE at hm ⊢;split
 ·rename_i h1;rw [if_pos h1] at hm;exact ⟨hm,h1,rfl⟩
 ·rename_i h1;rw [if_neg h1] at hm;cases hm
theorem Qs {x w:Int} (h:iIs x w=true):zy x w=ups 7 (zm x w) w:=by
 unfold zy yE;rw [if_pos h,show (8:Nat)=7+1 from rfl,Xc (by have:=Z_ h;omega)];rfl
theorem kP (t:zc) (x i y:Int) (l:List Int):XX t x i (y::l)=if y=x then true else if (t.getD y.toNat za).kind=2∧(t.getD y.toNat za).inner.unm.contains i=false then false else XX t x i l:=by rw [XX]
theorem JT (t:zc) (x i:Int):Yw t x i=(Yp (2*i) x t.length && decide ((t.getD (2*i).toNat za).kind≠0) && XX t x i (zy (2*i) t.length)):=rfl
theorem zdA {t:zc} (hs:zW t=true) (x i:Int) (hx:x % 2=1) (hi:0≤i∧i≤63):APure Tryz.prog 214 [zg t,int x,int i] (.lit (.bool (Yw t x i))) []:=by
 refine ent Tryz.func214 Tryz.ntmps214 ⟨?_⟩;have hl:=yq hs;rw [JT];obtain ⟨n,rfl⟩: ∃n:Nat,i=n:=⟨i.toNat,by omega⟩;have e1:IntKind.i64.wrap (2*(n:Int))=((2*n:Nat):Int):=by simp only [IntKind.wrap_i64];omega
 rw [show 2*(n:Int)=((2*n:Nat):Int) by omega];refine go ⟨?_⟩;rw [e1];refine cal PY (Tb ((2*n:Nat):Int) x t.length) ⟨?_⟩;cases hU:Yp ((2*n:Nat):Int) x t.length
 ·simp only [Bool.false_and];exact gf
 obtain ⟨hm,hI,hu8⟩:=t7 hU;have hp:=Z_ hI;simp only [Bool.true_and];rw [show (((2*n:Nat):Int)).toNat=2*n from rfl];refine go ⟨?_⟩;rw [e1];refine go ⟨?_⟩;rw [show fE zf t (2*n)=Zb (t.getD (2*n) za) from rfl];refine go ⟨?_⟩;have hz:(t.getD (2*n) zf.z)=t.getD (2*n) za:=rfl
 try rw [hz]
 by_cases hk:(t.getD (2*n) za).kind=0
 ·rw [decide_eq_false (fun h=>h hk),beq_iff_eq.2 hk];simp only [Bool.false_and];exact gf
 rw [decide_eq_true (show (t.getD (2*n) za).kind≠0 from hk),beq_eq_false_iff_ne.2 hk];simp only [Bool.true_and];refine go ⟨?_⟩;rw [e1];refine cal xf (xg ((2*n:Nat):Int) t.length) ⟨?_⟩;rw [Qs hI]
 have hmx:x∈ups 7 (zm ((2*n:Nat):Int) t.length) t.length:=by
  rw [←Qs hI];rw [hu8,show (8:Nat)=7+1 from rfl,Xc (by omega)] at hm;rcases List.mem_cons.1 hm with h|h
  ·omega
  ·rw [Qs hI];exact h
 have hall: ∀z∈ups 7 (zm ((2*n:Nat):Int) t.length) t.length,iIs z t.length=true:=fun z hz=>by
  rw [←Qs hI] at hz;exact YP hz
 generalize hV:XX t x n (ups 7 (zm ((2*n:Nat):Int) t.length) t.length)=V;generalize zm ((2*n:Nat):Int) t.length=y0 at*;refine go ⟨?_⟩;refine lp (fun q:{q:Nat×Int // x∈ups q.1 q.2 t.length∧(∀z∈ups q.1 q.2 t.length,iIs z t.length=true)∧XX t x n (ups q.1 q.2 t.length)=V}=>[(7,int q.1.2)]) (fun q=>[]) (fun q=>q.1.1) ⟨(7,y0),hmx,hall,hV⟩ ?_
 rintro ⟨⟨k,y⟩,hq1,hq2,hq3⟩
 simp only at hq1 hq2 hq3 ⊢;have hy0: ¬y<0:=fun h=>by rw [ku h] at hq1;cases hq1
 obtain ⟨k,rfl⟩: ∃k',k=k'+1:=by
  cases k with
  |zero=>rw [ups] at hq1;cases hq1
  |succ k=>exact ⟨k,rfl⟩
 rw [Xc hy0] at hq1 hq2 hq3;rw [kP] at hq3;have hyI:=Z_ (hq2 y List.mem_cons_self);obtain ⟨yn,rfl⟩: ∃yn:Nat,y=yn:=⟨y.toNat,by omega⟩;refine go ⟨?_⟩;by_cases hyx:(yn:Int)=x
 ·rw [if_pos hyx] at hq3;rw [←hq3,bne_eq_false_iff_eq.2 hyx];exact gf
 rw [if_neg hyx,show (yn:Int).toNat=yn from rfl] at hq3;rw [bne_iff_ne.2 hyx]
 have hqx:x∈ups k (zm yn t.length) t.length:=by
  rcases List.mem_cons.1 hq1 with h|h
  ·exact absurd h.symm hyx
  ·exact h
 refine go ⟨?_⟩;rw [show fE zf t yn=Zb (t.getD yn za) from rfl];refine go ⟨?_⟩;have hz:(t.getD yn zf.z)=t.getD yn za:=rfl
 try rw [hz]
 by_cases hk2:(t.getD yn za).kind=2
 ·rw [beq_iff_eq.2 hk2];have hun:=yp (Yx hs (show yn<t.length by omega));refine go ⟨?_⟩;rw [show fE zf t yn=Zb (t.getD yn za) from rfl];refine go ⟨?_⟩;try rw [hz]
  refine cal jg (jR (t.getD yn za).inner.unm n (by omega)) ⟨?_⟩;cases hc:(t.getD yn za).inner.unm.contains (n:Int)
  ·rw [hc,if_pos ⟨hk2,rfl⟩] at hq3;rw [←hq3];exact gf
  ·rw [hc,if_neg (fun h=>by cases h.2)] at hq3;refine gcg xf (xg yn t.length) ⟨?_⟩;refine je ⟨⟨(k,zm yn t.length),hqx,fun z hz=>hq2 z (List.mem_cons_of_mem _ hz),hq3⟩,by simp only;omega, ?_⟩;exact tel
 ·rw [beq_eq_false_iff_ne.2 hk2];rw [if_neg (fun h=>hk2 h.1)] at hq3;refine gcg xf (xg yn t.length) ⟨?_⟩;refine je ⟨⟨(k,zm yn t.length),hqx,fun z hz=>hq2 z (List.mem_cons_of_mem _ hz),hq3⟩,by simp only;omega, ?_⟩;exact tel
theorem zbN:ze Tryz.prog 214:=gfn Tryz.func214
theorem xl {α:Type} (l:List α) (d:α) {k:Nat} (hk:k<l.length):l.getD k d=l[k]:=by rw [List.getD_eq_getElem?_getD,List.getElem?_eq_getElem hk];rfl
theorem u_ (t:zc):wk t=true↔ ∀j,j<(rAs t).length→ ∀k,k<((rAs t).getD j za).inner.unm.length→Yw (rAs t) j (((rAs t).getD j za).inner.unm.getD k 0)=true:=by
 unfold wk;simp only;rw [zaH za];constructor
 ·intro h j hj k hk;rw [xl _ _ hk];exact List.all_eq_true.1 (h j hj) _ (List.getElem_mem hk)
 ·intro h j hj;rw [List.all_eq_true];intro i hi;obtain ⟨k,hk,rfl⟩:=List.mem_iff_getElem.1 hi;have:=h j hj k hk
  rw [xl _ _ hk] at this;exact this
theorem pk {t:zc} (hs:zW t=true) {j:Nat} (hj:j<t.length) {k:Nat} (hk:k<(t.getD j za).inner.unm.length):(j:Int) % 2=1∧0≤(t.getD j za).inner.unm.getD k 0∧(t.getD j za).inner.unm.getD k 0≤63:=by
 obtain ⟨h1,h2⟩:=vq hs hj;have h3:=(yp h2).2
 have hg:(t.getD j za).inner.unm.getD k 0=(t.getD j za).inner.unm[k]:=xl _ _ hk
 refine ⟨?_,by rw [hg];exact h3 _ (List.getElem_mem hk)⟩;by_cases hk2:(t.getD j za).kind=2
 ·unfold Xf at h1;split at h1
  ·exact absurd hk2 (of_decide_eq_true h1)
  ·omega
 ·rw [Ts h2 hk2] at hk;simp at hk
theorem gA (t:zc) (ht:t.length≤1000000):APure Tryz.prog 150 [zg t] (.lit (.bool (wk t))) []:=by
 refine ent Tryz.func150 Tryz.ntmps150 ⟨?_⟩;have hl:=zR t;have hs:=zG t;have hN:=u_ t;refine gc ZY (ZW t ht) ⟨?_⟩;generalize rAs t=u at*;generalize wk t=V at*;refine go ⟨?_⟩;refine lp (fun j:{j:Nat // j≤u.length∧ ∀i,i<j→ ∀k,k<(u.getD i za).inner.unm.length→Yw u i ((u.getD i za).inner.unm.getD k 0)=true}=>[(4,int j.1),(5, .junk),(6, .junk)]) (fun j=>[]) (fun j=>u.length - j.1) ⟨0,Nat.zero_le _,fun i hi=>by omega⟩ ?_
 rintro ⟨j,hj,hno⟩
 refine go ⟨?_⟩;refine zj rfl (fun h=> ?_) (fun h=> ?_)
 ·have hlt:j<u.length:=by omega
  have hodd:=fun k hk=>pk hs hlt (k:=k) hk
  have hNj:=fun h=>hN.1 h j hlt
  refine go ⟨?_⟩;rw [show fE zf u j=Zb (u.getD j za) from rfl];refine go ⟨?_⟩;have hz:(u.getD j zf.z)=u.getD j za:=rfl
  try rw [hz]
  have hul:=(yp (Yx hs hlt)).1
  generalize hm:(u.getD j za).inner.unm=m at*;refine lp (fun k:{k:Nat // k≤m.length∧ ∀i,i<k→Yw u j (m.getD i 0)=true}=>[(6,int k.1)]) (fun k=>[]) (fun k=>m.length - k.1) ⟨0,Nat.zero_le _,fun i hi=>by omega⟩ ?_
  rintro ⟨k,hk,hnk⟩
  refine go ⟨?_⟩;refine zj rfl (fun h=> ?_) (fun h=> ?_)
  ·have hkl:k<m.length:=by omega
   have hok:=hodd k hkl;refine go ⟨?_⟩;generalize hq:m.getD k 0=q at*;refine cal zbN (zdA hs j q hok.1 hok.2) ⟨?_⟩;cases ha:Yw u j q
   ·have:V=false:=by
     cases hV2:V with
     |false=>rfl
     |true=>have:=hNj hV2 k hkl;rw [hq,ha] at this;cases this
    rw [this];exact gf
   ·refine go ⟨?_⟩;refine je ⟨⟨k+1,hkl,fun i hi=> ?_⟩,by simp only;omega, ?_⟩
    ·by_cases hik:i=k
     ·subst hik;rw [hq];exact ha
     ·exact hnk i (by omega)
    exact tel
  ·refine go ⟨?_⟩;refine je ⟨⟨j+1,hlt,fun i hi=> ?_⟩,by simp only;omega, ?_⟩
   ·by_cases hij:i=j
    ·subst hij;rw [hm];exact fun k' hk'=>hnk k' (by omega)
    ·exact hno i (by omega)
   exact tel
 ·have:V=true:=hN.2 fun x hx=>hno x (by omega)
  rw [this];exact gf
theorem zet:ze Tryz.prog 150:=gfn Tryz.func150
theorem G9 (t:zc):xG (rAs t)=xG t:=by unfold xG;rw [W6]
theorem zab (t:zc):xG t= -1∨0≤xG t∧xG t<(rAs t).length:=by
 unfold xG;split
 ·rename_i p hp;right
  have hm:=List.mem_of_find?_eq_some hp;rw [List.mem_reverse] at hm;have:=List.snd_lt_of_mem_zipIdx hm
  omega
 ·left;rfl
theorem zgA (b:List UInt8) (n:Zt):(Pw b n).length≤b.length+3200000:=by
 have f1:=Yu b true;have f2:=Yu b false;have l1:=Qu 1 1;have l2:=Qu 2 1;have h1:=ko (Yz b true++nby 2 1) (nAs n).inner;have h2:=HG (Yz b true++nby 1 1) (nAs n).leaf;have f3:(Yz b true++nby 2 1).length=(Yz b true).length+(nby 2 1).length:=List.length_append
 have f4:(Yz b true++nby 1 1).length=(Yz b true).length+(nby 1 1).length:=List.length_append
 unfold Pw;split
 ·omega
 ·split <;>omega
def wZ (u:zc) (j:Nat):List UInt8:=(u.take j).foldl Pw []
theorem VK {u:zc} {j:Nat} (hj:j<u.length):wZ u (j+1)=Pw (wZ u j) (u.getD j za):=by
 unfold wZ;rw [List.take_succ_eq_append_getElem hj,List.foldl_append,xl _ _ hj];rfl
theorem jv (u:zc): ∀j,(wZ u j).length≤3200000*j
 |0=>by simp [wZ]
 |j+1=>by
  by_cases hj:j<u.length
  ·rw [VK hj];have:=jv u j
   have:=zgA (wZ u j) (u.getD j za)
   omega
  ·have e:wZ u (j+1)=wZ u j:=by unfold wZ;rw [List.take_of_length_le (by omega),List.take_of_length_le (by omega)]
   rw [e];have:=jv u j
   omega
theorem ze3 (t:zc):U5 t=zi [] (wZ (rAs t) (xG t+1).toNat):=rfl
theorem To (t:zc) (ht:t.length≤1000000):APure Tryz.prog 90 [zg t] (bytes (U5 t)) []:=by
 refine ent Tryz.func90 Tryz.ntmps90 ⟨?_⟩;have hl:=zR t;have hla:=G9 t;have hlt:=zab t;rw [ze3];refine gc ZY (ZW t ht) ⟨?_⟩;generalize rAs t=u at*;generalize xG t=L at*;obtain ⟨m,hm,hmu⟩: ∃m:Nat,L=(m:Int) - 1∧m≤u.length:=⟨(L+1).toNat,by omega,by omega⟩;rw [show (L+1).toNat=m by omega];refine go ⟨?_⟩;refine lp (fun j:{j:Nat // j≤m}=>[(4,bytes (wZ u j.1)),(5,int j.1)]) (fun j=>[]) (fun j=>m - j.1) ⟨0,Nat.zero_le _⟩ ?_
 rintro ⟨j,hj⟩
 refine gc zhO (zhW u (by omega)) ⟨?_⟩;rw [hla];refine go ⟨?_⟩;by_cases h:(j:Int)≤L
 ·have hjl:j<u.length:=by omega
  have hs:=VK hjl;have hle:=jv u j;refine go ⟨?_⟩;rw [show fE zf u j=Zb (u.getD j za) from rfl];refine cg zf9 (zhq (wZ u j) (u.getD j za) (by omega)) ⟨?_⟩;refine je ⟨⟨j+1,by omega⟩,by simp only;omega, ?_⟩;simp only [hs];exact tel
 ·obtain rfl:j=m:=by omega
  exact gcgf ZQ (ka (wZ u j))
theorem P5:ze Tryz.prog 90:=gfn Tryz.func90
theorem Tq (k:Nat) (b:List UInt8) (t:zc):YV (k+1) b t=if b=[] then (t,0) else if t.length≥127 then ([],10) else if (YU b).2.2≠0 then ([],(YU b).2.2) else if Xf t.length (YU b).1.kind=false then ([],7) else YV k (YU b).2.1 (t++[(YU b).1]):=by rw [YV]
theorem U8: ∀(n:Fin 128) (s:Fin 128),n.val≤s.val→s.val<Xd n.val→yf s.val=false:=by decide+kernel
theorem Hz (b:List UInt8):xW b=if (zd b).2.2≠0 then ([],(zd b).2.2) else if (zd b).2.1≠[] then ([],2) else if (zd b).1=[] then ([],5) else
 if (YV 128 (zd b).1 []).2≠0 then ([],(YV 128 (zd b).1 []).2) else
 if ((YV 128 (zd b).1 []).1.getD ((YV 128 (zd b).1 []).1.length - 1) za).kind=0 then ([],6) else
 if wk (w_ (YV 128 (zd b).1 []).1)=false then ([],8) else (w_ (YV 128 (zd b).1 []).1,0):=rfl
theorem UE (x:Nat) (k:Int):Xf x k=false↔(x % 2=0∧k=2)∨(x % 2=1∧k=1):=by
 unfold Xf;split
 ·rename_i h;simp only [decide_eq_false_iff_not,Classical.not_not];constructor
  ·exact fun h2=> .inl ⟨h,h2⟩
  ·rintro (h2|h2)
   ·exact h2.2
   ·omega
 ·rename_i h;simp only [decide_eq_false_iff_not,Classical.not_not];constructor
  ·exact fun h2=> .inr ⟨by omega,h2⟩
  ·rintro (h2|h2)
   ·omega
   ·exact h2.2
theorem zam {t:zc} {n:Zt} (h: ∀j,j<t.length→vW t j=true) (hn:zC n=0) (hf:Xf t.length n.kind=true) {j:Nat} (hj:j<(t++[n]).length):vW (t++[n]) j=true:=by
 rw [Y5];by_cases hlt:j<t.length
 ·rw [show (t++[n]).getD j za=t.getD j za by simp [List.getD_eq_getElem?_getD,List.getElem?_append_left hlt]];exact (Y5 t j).1 (h j hlt)
 ·simp only [List.length_append,List.length_cons,List.length_nil] at hj;obtain rfl:j=t.length:=by omega
  rw [show (t++[n]).getD t.length za=n by simp [List.getD_eq_getElem?_getD]];exact ⟨hf,hn⟩
theorem zdy (b:List UInt8):APure Tryz.prog 83 [bytes b] (.tup [zg (xW b).1,int (xW b).2]) []:=by
 refine ent Tryz.func83 Tryz.ntmps83 ⟨?_⟩;rw [Hz];refine gc xv (xF b) ⟨?_⟩;generalize zd b=w at*;obtain ⟨v,r,e⟩:=w;simp only;refine go ⟨?_⟩;by_cases h1:e=0
 rotate_left
 ·rw [if_pos h1,bne_iff_ne.2 h1];exact gf
 rw [if_neg (fun h=>h h1),bne_eq_false_iff_eq.2 h1];refine go ⟨?_⟩;by_cases h2:r=[]
 rotate_left
 ·rw [if_pos h2];have:0<r.length:=List.length_pos_iff.2 h2
  exact gf
 rw [if_neg (fun h=>h h2)];have hr0:r.length=0:=by rw [h2];rfl
 refine go ⟨?_⟩;by_cases h3:v=[]
 ·rw [if_pos h3];have:v.length=0:=by rw [h3];rfl
  rw [this];exact gf
 rw [if_neg h3];have hv0:0<v.length:=List.length_pos_iff.2 h3
 rw [beq_eq_false_iff_ne.2 (show (v.length:Int)≠0 by omega)];generalize hG:YV 128 v []=G;refine go ⟨?_⟩;refine zr (Tells.nilRow (t:=7) 85 8 rfl rfl) ?_;refine lp (fun q:{q:Nat×List UInt8×zc // YV q.1 q.2.1 q.2.2=G∧q.2.2.length+q.1=128∧q.2.2.length≤127∧(q.2.2.length=0→q.2.1=v)∧ ∀j,j<q.2.2.length→vW q.2.2 j=true}=>[(4,bytes q.1.2.1),(7, .row 0 8 0 q.1.2.2.length none),(8, .junk),(9, .junk),(10, .junk)]) (fun q=>[W9 q.1.2.2]) (fun q=>q.1.1) ⟨(128,v,[]),hG,rfl,by simp,fun _=>rfl,fun j hj=>by simp at hj⟩ ?_
 rintro ⟨⟨k,c,t⟩,hq1,hq2,hq3,hq4,hq5⟩
 simp only at hq1 hq2 hq3 hq4 hq5 ⊢;obtain ⟨k,rfl⟩: ∃k',k=k'+1:=⟨k - 1,by omega⟩;rw [Tq] at hq1;refine go ⟨?_⟩;by_cases h4:c=[]
 ·rw [if_pos h4] at hq1;have hc0:c.length=0:=by rw [h4];rfl
  rw [←hq1];simp only;rw [if_neg (fun h=>h rfl)]
  have ht0:0<t.length:=by
   rcases Nat.eq_zero_or_pos t.length with h|h
   ·exact absurd ((hq4 h).symm.trans h4) h3
   ·exact h
  have hi:IntKind.i64.wrap ((t.length:Int) - 1)=((t.length - 1:Nat):Int):=by simp only [IntKind.wrap_i64];omega
  refine go ⟨?_⟩;rw [hi,show ((t.length - 1:Nat):Int).toNat=t.length - 1 from rfl];have hz:t.getD (t.length - 1) zf.z=t.getD (t.length - 1) za:=rfl
  rw [hz];by_cases h5:(t.getD (t.length - 1) za).kind=0
  ·rw [if_pos h5,beq_iff_eq.2 h5];exact gf
  rw [if_neg h5,beq_eq_false_iff_ne.2 h5];have hwd:=jh hq3;have hwn: ∀s:Nat,t.length≤s→s<Xd t.length→yf (s:Int)=false:=fun s h1 h2=>U8 ⟨t.length,by omega⟩ ⟨s,by omega⟩ h1 h2
  refine go ⟨?_⟩
  refine lp (fun m:{m:Nat // t.length+m≤Xd t.length}=>[(7, .row 0 8 0 (t++List.replicate m.1 za).length none),(66, .junk),(67, .junk),(70, .junk),(71, .junk)]) (fun m=>[W9 (t++List.replicate m.1 za)]) (fun m=>Xd t.length - m.1) ⟨0,by omega⟩ ?_ (h0:=by
   simp only [lst,Zz,ZB,setn,List.replicate,List.append_nil];exact tel)
  rintro ⟨m,hm⟩
  have hml:(t++List.replicate m za).length=t.length+m:=by simp
  refine go ⟨?_⟩;rw [hml];refine cal jd (jM ((t.length+m:Nat):Int)) ⟨?_⟩;by_cases h6:t.length+m=Xd t.length
  ·rw [h6,hwd.2.1];have hp:t++List.replicate m za=w_ t:=by unfold w_;rw [show m=Xd t.length - t.length by omega]
   have hpl:(w_ t).length=Xd t.length:=Pn hq3
   rw [hp];generalize w_ t=pt at*;rw [←hpl];refine go ⟨?_⟩;refine zV rfl rfl rfl zet (APure.lit_at (gA pt (by omega)) rfl (by repeat' (first|exact trivial|exact Nat.le_refl _|exact Nat.le_of_eq (Nat.zero_add _)|omega|refine And.intro ?_ ?_))) ?_;refine nz ⟨?_⟩;cases h7:wk pt
   ·rw [if_pos rfl];exact gf
   ·rw [if_neg (by decide)];exact gf
  ·rw [show yf ((t.length+m:Nat):Int)=false from hwn (t.length+m) (by omega) (by omega)];refine go ⟨?_⟩;have hrs:t++List.replicate (m+1) za=(t++List.replicate m za)++[za]:=by rw [List.replicate_succ',List.append_assoc]
   generalize t++List.replicate m za=u at*;rw [←hml];refine ZT hT rfl rfl rfl (by repeat' (first|exact trivial|exact Nat.le_refl _|(show (u.length+1)*160≤_;omega)|omega|refine And.intro ?_ ?_)) ?_;refine nz ⟨?_⟩;refine zz (Tells.sel [0] rfl rfl) ?_;refine nz ⟨?_⟩;simp only [Option.map];refine zz (Tells.le (H':=[{T:=85,sz:=8,n:=u.length+1,f:=fE zf (u++[za])}]) (.refl _) (.cons (.les (Nat.le_refl _) (fun k hk=>Jx u hk)) .nil)) ?_;refine go ⟨?_⟩;refine je ⟨⟨m+1,by omega⟩,by simp only;omega, ?_⟩;simp only [hrs,List.length_append,List.length_cons,List.length_nil,Nat.zero_add];exact tel
 ·rw [if_neg h4] at hq1;have hc0:0<c.length:=List.length_pos_iff.2 h4
  refine go ⟨?_⟩;by_cases h5:t.length≥127
  ·rw [if_pos h5] at hq1;rw [←hq1];exact gf
  rw [if_neg h5] at hq1;refine gc zh8 (zh3 c) ⟨?_⟩;have hno:=fun h=>Ha (b:=c) h
  generalize YU c=ng at*;obtain ⟨n,c',e'⟩:=ng;simp only at hq1 hno ⊢;refine go ⟨?_⟩;by_cases h6:e'=0
  rotate_left
  ·rw [if_pos h6] at hq1;rw [←hq1];simp only;rw [if_pos h6,bne_iff_ne.2 h6];exact gf
  rw [if_neg (fun h=>h h6)] at hq1;rw [bne_eq_false_iff_eq.2 h6];refine go ⟨?_⟩;rw [WZ];have hfb:=UE t.length n.kind;by_cases hp:t.length % 2=0
  ·rw [hp];refine go ⟨?_⟩;by_cases hk2:n.kind=2
   ·rw [if_pos (hfb.2 (.inl ⟨hp,hk2⟩))] at hq1;rw [←hq1,beq_iff_eq.2 hk2];exact gf
   ·have hfit:Xf t.length n.kind=true:=by
     cases hf:Xf t.length n.kind with
     |true=>rfl
     |false=>rcases hfb.1 hf with h|h <;>omega
    rw [if_neg (by rw [hfit];decide)] at hq1;rw [beq_eq_false_iff_ne.2 hk2];refine go ⟨?_⟩;rw [WZ,hp,show (((0:Nat):Int)==1)=false from rfl];refine go ⟨?_⟩;refine app (fE zf (t++[n])) hT rfl rfl rfl rfl (fun k hk=>ZZ (e:=zf) rfl rfl hk) ?_;refine ng ⟨?_⟩;refine je ⟨⟨(k,c',t++[n]),hq1,by simp only [List.length_append,List.length_cons,List.length_nil];omega,by simp only [List.length_append,List.length_cons,List.length_nil];omega,fun h=>by simp at h,fun j hj=>zam hq5 (hno h6) hfit hj⟩,by simp only;omega, ?_⟩;simp only [List.length_append,List.length_cons,List.length_nil,Nat.zero_add];exact tel
  ·have hp1:t.length % 2=1:=by omega
   rw [hp1];refine go ⟨?_⟩;rw [WZ,hp1,show (((1:Nat):Int)==1)=true from rfl];refine go ⟨?_⟩;by_cases hk2:n.kind=1
   ·rw [if_pos (hfb.2 (.inr ⟨hp1,hk2⟩))] at hq1;rw [←hq1,beq_iff_eq.2 hk2];exact gf
   ·have hfit:Xf t.length n.kind=true:=by
     cases hf:Xf t.length n.kind with
     |true=>rfl
     |false=>rcases hfb.1 hf with h|h <;>omega
    rw [if_neg (by rw [hfit];decide)] at hq1;rw [beq_eq_false_iff_ne.2 hk2];refine go ⟨?_⟩;refine app (fE zf (t++[n])) hT rfl rfl rfl rfl (fun k hk=>ZZ (e:=zf) rfl rfl hk) ?_;refine ng ⟨?_⟩;refine je ⟨⟨(k,c',t++[n]),hq1,by simp only [List.length_append,List.length_cons,List.length_nil];omega,by simp only [List.length_append,List.length_cons,List.length_nil];omega,fun h=>by simp at h,fun j hj=>zam hq5 (hno h6) hfit hj⟩,by simp only;omega, ?_⟩;simp only [List.length_append,List.length_cons,List.length_nil,Nat.zero_add];exact tel
theorem zc1:ze Tryz.prog 83:=gfn Tryz.func83
abbrev stC (s:MSt):List AV:=[zg s.t,jX s.kept,int s.next]
abbrev stA (s:MSt):AV:= .agg (stC s)
abbrev opC (o:MOp):List AV:=[int o.what,int o.i,bytes o.l.enc,bytes o.l.cred,int o.l.source,bytes o.l.parent,slE eBB o.keys,bytes o.b,int o.old]
abbrev opA (o:MOp):AV:= .agg (opC o)
def Kk:MOp:=⟨0,0,ZF,[],[],0⟩
def eOp:Enc MOp:=⟨9,Kk,opC⟩
abbrev ops (l:List MOp):AV:= .sl 9 l.length false (fE eOp l)
abbrev zfU (a:wX):List AV:=[int a.e,int a.n,Zn a.l,bytes a.b, .lit (.bool a.is)]
abbrev X4 (a:wX):AV:= .agg (zfU a)
def zfV:Enc wX:=⟨5,zu 0,zfU⟩
abbrev zg4 (l:List wX):AV:= .sl 5 l.length false (fE zfV l)
def SOk (s:MSt):Prop:=s.t.length≤1000000∧s.kept.length≤1000000∧ ∀k∈s.kept,k.t.length≤1000000
theorem SOk.at {s:MSt} (h:SOk s) {i:Nat} (hi:i<s.kept.length):(s.kept.getD i ⟨0,[]⟩).t.length≤1000000:=by
 rw [show s.kept.getD i ⟨0,[]⟩=s.kept[i] by simp [List.getD_eq_getElem?_getD,hi]];exact h.2.2 _ (List.getElem_mem hi)
theorem Zk (e:Int):APure Tryz.prog 45 [int e] (X4 (zu e)) []:=by
 refine ent Tryz.func45 Tryz.ntmps45 ⟨?_⟩;exact gf
theorem Zl:ze Tryz.prog 45:=gfn Tryz.func45
theorem WE (s:MSt) (hs:s.kept.length≤1000000) (id:Int):APure Tryz.prog 43 [stA s,int id] (int (zq s id)) []:=by
 refine ent Tryz.func43 Tryz.ntmps43 ⟨?_⟩;obtain ⟨t,l,nx⟩:=s;unfold zq;simp only at hs ⊢;refine go ⟨?_⟩;refine lp (fun i:{i:Nat // i≤l.length∧ ∀x∈l.take i,decide (x.id=id)=false}=>[(5,int i.1)]) (fun i=>[{T:=25,sz:=3,n:=1,f:=fun _=>[zg t,jX l,int nx],box:=true}]) (fun i=>l.length - i.1) ⟨0,by simp⟩ ?_
 rintro ⟨i,hi,hn⟩
 refine go ⟨?_⟩;refine zj rfl (fun h=> ?_) (fun h=> ?_)
 ·have hlt:i<l.length:=by omega
  have ex:l.getD i ⟨0,[]⟩=l[i]:=by simp [List.getD_eq_getElem?_getD,hlt]
  refine go ⟨?_⟩;rw [show fE ZH l i=Xb (l.getD i ⟨0,[]⟩) from rfl,ex];refine go ⟨?_⟩;by_cases h:l[i].id=id
  ·have hf:l.findIdx? (fun k=>decide (k.id=id))=some i:=List.findIdx?_eq_some_iff_getElem.2 ⟨hlt,decide_eq_true h,fun j hj=>by simp [hn l[j] (List.mem_take_iff_getElem.2 ⟨j,by omega,rfl⟩)]⟩
   rw [xJ hf,beq_iff_eq.2 h];exact gf
  ·rw [beq_eq_false_iff_ne.2 h];refine go ⟨?_⟩;refine je ⟨⟨i+1,by omega,fun x hx=> ?_⟩,by simp only;omega, ?_⟩
   ·rw [List.take_succ_eq_append_getElem hlt] at hx;rcases List.mem_append.1 hx with hx|hx
    ·exact hn x hx
    ·rw [List.mem_singleton.1 hx];exact decide_eq_false h
   ·exact tel
 ·obtain rfl:i=l.length:=by omega
  rw [List.take_length] at hn;rw [xK (List.findIdx?_eq_none_iff.2 hn)];exact gf
theorem Wz:ze Tryz.prog 43:=gfn Tryz.func43
theorem ms18 {G A:Prop} (k:Hold G) (h:Hold G→A:=by
 intro k;refine go ⟨?_⟩;rw [ef];refine go ⟨?_⟩;exact k.1):A:=h k
theorem PT (s:MSt) (hs:SOk s):APure Tryz.prog 15 [stA s] (.lit (.bool (Zd s))) []:=by
 refine ent Tryz.func15 Tryz.ntmps15 ⟨?_⟩;obtain ⟨t,l,nx⟩:=s;have hat:=fun i=>hs.at (i:=i)
 obtain ⟨h1,h2,h3⟩:=hs;simp only at h1 h2 h3 hat ⊢;refine go ⟨?_⟩;refine lp (fun p:{p:Nat×Int // p.1≤l.length∧yh 0 l=yh p.2 (l.drop p.1)}=>[(3,int p.1.2),(4,int p.1.1)]) (fun i=>[{T:=25,sz:=3,n:=1,f:=fun _=>[zg t,jX l,int nx],box:=true}]) (fun p=>l.length - p.1.1) ⟨(0,0),by simp⟩ ?_
 rintro ⟨⟨i,last⟩,hi,hn⟩
 simp only at hi hn;refine go ⟨?_⟩;refine zj rfl (fun h=> ?_) (fun h=> ?_)
 ·have hlt:i<l.length:=by omega
  have ex:l.getD i ⟨0,[]⟩=l[i]:=by simp [List.getD_eq_getElem?_getD,hlt]
  have hat:=hat i hlt;rw [List.drop_eq_getElem_cons hlt,yh] at hn;rw [←ex] at hn;refine go ⟨?_⟩;have ef:fE ZH l i=Xb (l.getD i ⟨0,[]⟩):=rfl
  have hz:l.getD i ZH.z=l.getD i ⟨0,[]⟩:=rfl
  generalize l.getD i ⟨0,[]⟩=x at*;rw [ef];by_cases h:x.id≤last
  ·rw [if_pos (.inl h)] at hn;rw [show Zd ⟨t,l,nx⟩=false by unfold Zd;rw [hn]];exact gf
  refine ms18 ⟨?_⟩;try rw [hz]
  refine cal pM (Pa x.t hat) ⟨?_⟩;cases hx:zW x.t
  ·rw [if_pos (.inr hx)] at hn;rw [show Zd ⟨t,l,nx⟩=false by unfold Zd;rw [hn]];exact gf
  ·rw [if_neg (by rw [hx];simp;omega)] at hn;refine ms18 ⟨?_⟩;try rw [hz]
   refine je ⟨⟨(i+1,x.id),by simp only;omega,hn⟩,by simp only;omega, ?_⟩;exact tel
 ·obtain rfl:i=l.length:=by omega
  rw [List.drop_length,yh] at hn;have hm:Zd ⟨t,l,nx⟩=(zW t && decide (l.length≤8) && decide (last≤nx) && decide (nx≤1099511627776)):=by unfold Zd;rw [hn]
  rw [hm];by_cases c1:l.length≤8
  rotate_left
  ·rw [decide_eq_false c1,Bool.and_false];exact gf
  rw [decide_eq_true c1,Bool.and_true];refine gc pM (Pa t h1) ⟨?_⟩;cases hx:zW t
  ·exact gf
  rw [Bool.true_and];by_cases c2:last≤nx
  rotate_left
  ·rw [decide_eq_false c2];exact gf
  rw [decide_eq_true c2,Bool.true_and];exact gf
theorem tz:ze Tryz.prog 15:=gfn Tryz.func15
theorem Jp (s:MSt) (hs:SOk s):APure Tryz.prog 42 [stA s] (stA (mAs s)) []:=by
 refine ent Tryz.func42 Tryz.ntmps42 ⟨?_⟩;refine gc tz (PT s hs) ⟨?_⟩;unfold mAs;cases h:Zd s
 ·rw [if_neg (by decide)];exact gf
 ·rw [if_pos rfl];exact gf
theorem Jv:ze Tryz.prog 42:=gfn Tryz.func42
theorem uF (t:zc) (ht:t.length≤1000000):APure Tryz.prog 91 [zg t] (int (vy t)) []:=by
 refine ent Tryz.func91 Tryz.ntmps91 ⟨?_⟩;unfold vy;have hc:= @List.countP_le_length _ (p:=fun n:Zt=>decide (n.kind=1))
 refine go ⟨?_⟩;refine lp (fun i:{i:Nat // i≤t.length}=>[(3,int ((t.take i.1).countP fun n=>decide (n.kind=1):Nat)),(4,int i.1)]) (fun i=>[]) (fun i=>t.length - i.1) ⟨0,by omega⟩ ?_
 rintro ⟨i,hi⟩
 refine go ⟨?_⟩;refine zj rfl (fun h=> ?_) (fun h=> ?_)
 ·have hlt:i<t.length:=by omega
  have hz:t.getD i zf.z=t[i]:=by show t.getD i za=_;simp [List.getD_eq_getElem?_getD,hlt]
  have ef:fE zf t i=Zb t[i]:=congrArg Zb hz
  have hs:(t.take (i+1)).countP (fun n=>decide (n.kind=1))=(t.take i).countP (fun n=>decide (n.kind=1))+if t[i].kind=1 then 1 else 0:=by
   rw [List.take_succ_eq_append_getElem hlt,List.countP_append,List.countP_singleton];simp
  have hb:=hc (l:=t.take i);rw [List.length_take] at hb;refine ms18 ⟨?_⟩;generalize (t.take i).countP (fun n=>decide (n.kind=1))=c at*;by_cases h:t[i].kind=1
  ·rw [if_pos h] at hs;rw [beq_iff_eq.2 h];refine ms19 ⟨?_⟩;simp only [hs];exact tel
  ·rw [if_neg h] at hs;rw [beq_eq_false_iff_ne.2 h];refine ms19 ⟨?_⟩;simp only [hs];exact tel
 ·obtain rfl:i=t.length:=by omega
  rw [List.take_length];exact gf
theorem Kx:ze Tryz.prog 91:=gfn Tryz.func91
theorem V0 (t:zc) (i:Int) (l:zM) (ks:List (List UInt8)) (b:List UInt8) (old:Int):ZL t ⟨15,i,l,ks,b,old⟩=⟨0,vy t,[zp t],[],false⟩:=by simp [ZL]
theorem V5 (t:zc) (i:Int) (l:zM) (ks:List (List UInt8)) (b:List UInt8) (old:Int):ZL t ⟨14,i,l,ks,b,old⟩=⟨0,0,[],U5 t,false⟩:=by simp [ZL]
theorem V_ (t:zc) (i:Int) (l:zM) (ks:List (List UInt8)) (b:List UInt8) (old:Int):ZL t ⟨13,i,l,ks,b,old⟩=⟨0,0,[],[],Xe t⟩:=by simp [ZL]
theorem tR (t:zc) (o:MOp) (h:o.what<9∨15<o.what):ZL t o=zu 14:=by
 unfold ZL;rw [if_neg (by omega),if_neg (by omega),if_neg (by omega),if_neg (by omega),if_neg (by omega),if_neg (by omega),if_neg (by omega),if_neg (by omega),if_neg (by omega)]
theorem kK (t:zc) (i:Int) (l:zM) (ks:List (List UInt8)) (b:List UInt8) (old:Int):ZL t ⟨9,i,l,ks,b,old⟩=if 0≤i∧i<t.length then ⟨0,0,zL t i,[],false⟩ else zu 3:=by
 by_cases h:0≤i∧i<t.length
 ·rw [if_pos h];simp [ZL,h]
 ·rw [if_neg h];unfold ZL;exact if_pos ⟨.inl rfl,h⟩
theorem jL (t:zc) (i:Int) (l:zM) (ks:List (List UInt8)) (b:List UInt8) (old:Int):ZL t ⟨12,i,l,ks,b,old⟩=if 0≤i∧i<t.length then ⟨0,0,[],QL t i,false⟩ else zu 3:=by
 by_cases h:0≤i∧i<t.length
 ·rw [if_pos h];simp [ZL,h]
 ·rw [if_neg h];unfold ZL;exact if_pos ⟨.inr rfl,h⟩
theorem V2 (t:zc) (i:Int) (l:zM) (ks:List (List UInt8)) (b:List UInt8) (old:Int):ZL t ⟨10,i,l,ks,b,old⟩=if 0≤i∧i<zp t then ⟨0,0,Zf t i,[],false⟩ else zu 3:=by
 by_cases h:0≤i∧i<zp t
 ·rw [if_pos h];simp [ZL,h]
 ·rw [if_neg h];unfold ZL;rw [if_neg (by simp)];exact if_pos ⟨.inl rfl,h⟩
theorem V7 (t:zc) (i:Int) (l:zM) (ks:List (List UInt8)) (b:List UInt8) (old:Int):ZL t ⟨11,i,l,ks,b,old⟩=if 0≤i∧i<zp t then ⟨0,0,Zc (2*i) t.length,[],false⟩ else zu 3:=by
 by_cases h:0≤i∧i<zp t
 ·rw [if_pos h];simp [ZL,h]
 ·rw [if_neg h];unfold ZL;rw [if_neg (by simp)];exact if_pos ⟨.inr rfl,h⟩
theorem xQ (t:zc):0≤zp t∧zp t≤t.length:=by
 have h:zp t=(((rAs t).length+1) / 2:Nat):=rfl
 have h2:(rAs t).length≤t.length:=by unfold rAs;split <;>simp
 omega
theorem zdq (t:zc) (w i:Int) (l:zM) (ks:List (List UInt8)) (b:List UInt8) (old:Int) (ht:t.length≤1000000) (h0: ¬0≤i) (hw:w=9∨w=10∨w=11∨w=12∨w<9∨15<w):APure Tryz.prog 47 [zg t,opA ⟨w,i,l,ks,b,old⟩] (X4 (ZL t ⟨w,i,l,ks,b,old⟩)) []:=by
 refine ent Tryz.func47 Tryz.ntmps47 ⟨?_⟩;rcases hw with rfl|rfl|rfl|rfl|hw
 ·rw [kK,if_neg (by omega)];exact gcgf Zl (Zk 3)
 ·rw [V2,if_neg (by omega)];exact gcgf Zl (Zk 3)
 ·rw [V7,if_neg (by omega)];exact gcgf Zl (Zk 3)
 ·rw [jL,if_neg (by omega)];exact gcgf Zl (Zk 3)
 ·rw [tR _ _ hw];exact gcgf Zl (Zk 14)
theorem zeC (t:zc) (w i:Int) (l:zM) (ks:List (List UInt8)) (b:List UInt8) (old:Int) (ht:t.length≤1000000) (h0:0≤i) (hw:w=9∨w=10∨w=11∨w=12∨w<9∨15<w):APure Tryz.prog 47 [zg t,opA ⟨w,i,l,ks,b,old⟩] (X4 (ZL t ⟨w,i,l,ks,b,old⟩)) []:=by
 refine ent Tryz.func47 Tryz.ntmps47 ⟨?_⟩;have hlv:=xQ t;have hc:=Jy (2*i) t.length;have hb:APure Tryz.prog 84 [zg t] (int (zp t)) []:=XB t ht
 refine gc xe hb ⟨?_⟩;rcases hw with rfl|rfl|rfl|rfl|hw
 ·rw [kK];by_cases h1:i<t.length
  ·rw [if_pos ⟨h0,h1⟩];exact gcgf KG (K0 t i ht)
  ·rw [if_neg (fun h=>h1 h.2)];exact gcgf Zl (Zk 3)
 ·rw [V2];by_cases h1:i<zp t
  ·rw [if_pos ⟨h0,h1⟩];exact gcgf uW (Uq t i ht)
  ·rw [if_neg (fun h=>h1 h.2)];exact gcgf Zl (Zk 3)
 ·rw [V7];by_cases h1:i<zp t
  ·rw [if_pos ⟨h0,h1⟩];have e1:IntKind.i64.wrap (2*i)=2*i:=by simp only [IntKind.wrap_i64];omega
   refine go ⟨?_⟩;rw [e1];exact gcgf j4 (hc)
  ·rw [if_neg (fun h=>h1 h.2)];exact gcgf Zl (Zk 3)
 ·rw [jL];by_cases h1:i<t.length
  ·rw [if_pos ⟨h0,h1⟩];exact gcgf zdh (zep t i ht)
  ·rw [if_neg (fun h=>h1 h.2)];exact gcgf Zl (Zk 3)
 ·rw [tR _ _ hw];exact gcgf Zl (Zk 14)
set_option maxHeartbeats 800000 in
theorem zfm (t:zc) (w i:Int) (l:zM) (ks:List (List UInt8)) (b:List UInt8) (old:Int) (ht:t.length≤1000000) (hw:w=13∨w=14∨w=15):APure Tryz.prog 47 [zg t,opA ⟨w,i,l,ks,b,old⟩] (X4 (ZL t ⟨w,i,l,ks,b,old⟩)) []:=by
 refine ent Tryz.func47 Tryz.ntmps47 ⟨?_⟩;refine go ⟨?_⟩;have hb:APure Tryz.prog 84 [zg t] (int (zp t)) []:=XB t ht
 by_cases h0:0≤i
 ·refine gc xe hb ⟨?_⟩;rcases hw with rfl|rfl|rfl
  ·rw [V_];exact gcgf Us (Uy t ht)
  ·rw [V5];exact gcgf P5 (To t ht)
  ·rw [V0];refine gcg Kx (uF t ht) ⟨?_⟩;refine cg xe hb ⟨?_⟩;refine uM rfl (by repeat' (first|exact trivial|exact Nat.le_refl _|exact Nat.zero_lt_one|refine And.intro ?_ ?_|decide|omega)) ?_;refine (Tells.thaw (t:=0) rfl rfl (by repeat' (first|exact trivial|exact Nat.le_refl _|exact Nat.le_of_eq (Nat.zero_add _)|omega|refine And.intro ?_ ?_))).trans ((Tells.sel [] rfl rfl).trans (Tells.le ?_ .nil));exact .cons (AV.Le.agg (.cons (.refl _) (.cons (.refl _) (.cons (JR (e:=wA) (xs:=[zp t]) rfl rfl) (.cons (AV.Le.nil rfl rfl) (.cons (.refl _) .nil)))))) .nil
 ·rcases hw with rfl|rfl|rfl
  ·rw [V_];exact gcgf Us (Uy t ht)
  ·rw [V5];exact gcgf P5 (To t ht)
  ·rw [V0];refine gcg Kx (uF t ht) ⟨?_⟩;refine cg xe hb ⟨?_⟩;refine uM rfl (by repeat' (first|exact trivial|exact Nat.le_refl _|exact Nat.zero_lt_one|refine And.intro ?_ ?_|decide|omega)) ?_;refine (Tells.thaw (t:=0) rfl rfl (by repeat' (first|exact trivial|exact Nat.le_refl _|exact Nat.le_of_eq (Nat.zero_add _)|omega|refine And.intro ?_ ?_))).trans ((Tells.sel [] rfl rfl).trans (Tells.le ?_ .nil));exact .cons (AV.Le.agg (.cons (.refl _) (.cons (.refl _) (.cons (JR (e:=wA) (xs:=[zp t]) rfl rfl) (.cons (AV.Le.nil rfl rfl) (.cons (.refl _) .nil)))))) .nil
theorem zdN (t:zc) (o:MOp) (ht:t.length≤1000000):APure Tryz.prog 47 [zg t,opA o] (X4 (ZL t o)) []:=by
 obtain ⟨w,i,l,ks,b,old⟩:=o;by_cases h:w=13∨w=14∨w=15
 ·exact zfm t w i l ks b old ht h
 ·by_cases h0:0≤i
  ·exact zeC t w i l ks b old ht h0 (by omega)
  ·exact zdq t w i l ks b old ht h0 (by omega)
theorem zcX:ze Tryz.prog 47:=gfn Tryz.func47
end
section
variable {P:Program} {tab:Tab} {Q:Exit→St→Prop}
def pY (P:Program) (l:List Oper) (K:List zb→Prop) (ev:Operand→AV) (o:Oper) (x:AV):Prop:= ∀(σ:St),K σ.H→(∀y∈o.op.operands,σ.ev y=ev y)→ ∀(Q:Exit→St→Prop) (R:List Oper),AL P none l Q R (σ.put o.dst x)→AL P none l Q (o::R) σ
inductive AMk (P:Program) (l:List Oper) (C:List Nat) (K:List zb→Prop) (Q:Exit→St→Prop):Nat→List Oper→St→Prop
 |nil {k:Nat} {σ:St} (h:Q .normal σ):AMk P l C K Q k [] σ
 |pure {k:Nat} {o:Oper} {R:List Oper} {σ:St} (x:AV) (hc:C.contains k=false) (h:pY P l K σ.ev o x) (next:AMk P l C K Q (k+1) R (σ.put o.dst x)):AMk P l C K Q k (o::R) σ
 |chain {k:Nat} {o:Oper} {R:List Oper} {s:List AV} {H:List zb} {fg:List Nat} {nb:YB} (x:AV) (H':List zb) (hc:C.contains k=true) (hK:K H') (h:CStepC P l (evS s) H H' fg nb o x) (next:AMk P l C K Q (k+1) R (St.put ⟨s,H',fg,nb⟩ o.dst x)):AMk P l C K Q k (o::R) ⟨s,H,fg,nb⟩
def zkV (P:Program) (l:List Oper) (C:List Nat) (K:List zb→Prop) (σ:St) (k:Nat) (D:List (Oper×DR)) (Hs:Nat→List zb):Prop:= ∀(j:Nat) p,D[j]?=some p→p.2.N=none∧
 ((C.contains (k+j)=false∧pY P l K (evS (zk (txt j) 0 D σ.s)) p.1 p.2.x∧Hs (j+1)=Hs j)∨(C.contains (k+j)=true∧CStepC P l (evS (zk (txt j) 0 D σ.s)) (Hs j) (Hs (j+1)) σ.fg σ.nb p.1 p.2.x))
theorem zjL {l:List Oper} {C:List Nat} {K:List zb→Prop} {k:Nat} {R:List Oper} {σ:St} (h:AMk P l C K Q k R σ) (hK:K σ.H): ∃(D:List (Oper×DR)) (Hs:Nat→List zb),D.map (·.1)=R∧Hs 0=σ.H∧zkV P l C K σ k D Hs∧(∀j,K (Hs j))∧Q .normal ⟨zk (fun _=>true) 0 D σ.s,Hs D.length,σ.fg,σ.nb⟩:=by
 induction h with
 |nil h=>exact ⟨[],fun _=>_,rfl,rfl,fun j p hp=>by simp at hp,fun _=>hK,h⟩
 | @pure k o R σ x hc h next ih=>
   obtain ⟨D,Hs,h1,h2,h3,h5,h4⟩:=ih (by rw [Zg];exact hK);rw [Zg] at h2 h3 h4;refine ⟨(o,⟨x,none⟩)::D,fun j=>match j with|0=>σ.H|j+1=>Hs j,by simp [h1],rfl,fun j p hp=> ?_,fun j=>(by cases j with|zero=>exact hK|succ j=>exact h5 j), ?_⟩
   ·cases j with
    |zero=>
     simp at hp;subst hp
     refine ⟨rfl, .inl ⟨hc, ?_,h2⟩⟩;rw [Ye,xZ];exact h
    |succ j=>
     rw [xw,show k+(j+1)=k+1+j by omega];exact h3 j p (by simpa using hp)
   ·rw [Y0];exact h4
 | @chain k o R s H fg nb x H' hc hK' h next ih=>
   obtain ⟨D,Hs,h1,h2,h3,h5,h4⟩:=ih (by rw [Zg];exact hK');rw [Zg] at h2 h3 h4;refine ⟨(o,⟨x,none⟩)::D,fun j=>match j with|0=>H|j+1=>Hs j,by simp [h1],rfl,fun j p hp=> ?_,fun j=>(by cases j with|zero=>exact hK|succ j=>exact h5 j), ?_⟩
   ·cases j with
    |zero=>
     simp at hp;subst hp
     refine ⟨rfl, .inr ⟨hc, ?_⟩⟩;rw [Ye];simp only [h2];exact h
    |succ j=>
     rw [xw,show k+(j+1)=k+1+j by omega];exact h3 j p (by simpa using hp)
   ·rw [Y0];exact h4
theorem zg8 {l:List Oper} {C:List Nat} {K:List zb→Prop} {σ:St} {D:List (Oper×DR)} {Hs:Nat→List zb} (h:DOk l l.length D) (hC:okC l C=true) (hCl: ∀i,C.contains i=true→i<l.length) (h0:Hs 0=σ.H) (hm:zkV P l C K σ 0 D Hs) (hKs: ∀j,K (Hs j)) (hq:Q .normal ⟨zk (fun _=>true) 0 D σ.s,Hs D.length,σ.fg,σ.nb⟩):
 ∀(f:Nat) (ls:List Bool) (k:Nat),ls.length=l.length→(∀i,ls.getD i false=true→ ∀j,anc l.toArray i j=true→ls.getD j false=true)→(∀c,C.contains c=true→(ls.getD c false=true↔c<k))→k≤l.length→ls.countP (! ·)≤f→
  AO P none l Q f ls ⟨zk (fun j=>ls.getD j false) 0 D σ.s,Hs k,σ.fg,σ.nb⟩:=by
 have hHs: ∀(a b:Nat),a≤b→b≤l.length→(∀c,C.contains c=true→a≤c→c<b→False)→Hs b=Hs a:=by
  intro a b hab;induction b with
  |zero=>intro _ _;rw [show a=0 by omega]
  |succ b ih=>
   intro hb hno;by_cases hab':a=b+1
   ·rw [hab']
   ·have hbD:b<D.length:=by rw [h.len];omega
    have:=(hm b _ (List.getElem?_eq_getElem hbD)).2
    rw [Nat.zero_add] at this;rcases this with ⟨_,_,e⟩|⟨hc,_⟩
    ·rw [e];exact ih (by omega) (by omega) fun c hc h1 h2=>hno c hc h1 (by omega)
    ·exact (hno b hc (by omega) (by omega)).elim
 have key: ∀(f:Nat) (ls:List Bool) (k:Nat),ls.length=l.length→(∀i,ls.getD i false=true→ ∀j,anc l.toArray i j=true→ls.getD j false=true)→(∀c,C.contains c=true→(ls.getD c false=true↔c<k))→k≤l.length→
  (Region.ready .any l.toArray ls.toArray=[]→Q .normal ⟨zk (fun j=>ls.getD j false) 0 D σ.s,Hs k,σ.fg,σ.nb⟩)∧(ls.countP (! ·)=0→Region.ready .any l.toArray ls.toArray=[]):=by
  intro f ls k hs hcl hk hkl;refine ⟨fun hr=> ?_,fun h1=> ?_⟩
  ·have hall: ∀j,j<l.length→ls.getD j false=true:=by
    intro j;induction j using Nat.strongRecOn with
    |_ j ih=>
     intro hj;refine Classical.byContradiction fun hn=> ?_
     have hjs:j<l.toArray.size:=by simpa using hj
     have:j∈Region.ready .any l.toArray ls.toArray:=by
      rw [mem_ready];refine ⟨?_,l.toArray[j],Array.getElem?_eq_getElem hjs,fun e he hb=> ?_⟩
      ·have:ls[j]?=some false:=by
        rw [List.getElem?_eq_getElem (by omega)];congr 1
        have hjl:j<ls.length:=by omega
        have hn': ¬ls[j]=true:=by simpa [List.getD_eq_getElem?_getD,hjl] using hn
        simpa using hn'
       simp [Array.getD_eq_getD_getElem?,this]
      ·have:=h.ok.s.lt j _ (Array.getElem?_eq_getElem hjs) e he hb
       have:=ih e.on this (by omega)
       simpa [Array.getD_eq_getD_getElem?,List.getD_eq_getElem?_getD] using this
     rw [hr] at this;cases this
   have e1:zk (fun j=>ls.getD j false) 0 D σ.s=zk (fun _=>true) 0 D σ.s:=by
    have: ∀(D':List (Oper×DR)) (k:Nat) (s:List AV),k+D'.length≤l.length→zk (fun j=>ls.getD j false) k D' s=zk (fun _=>true) k D' s:=by
     intro D';induction D' with
     |nil=>intro k s _;rfl
     |cons p D' ih=>
      intro k s hk;simp only [List.length_cons] at hk;simp only [zk];rw [hall k (by omega)];exact ih (k+1) _ (by omega)
    exact this D 0 _ (by rw [h.len];omega)
   have e2:Hs D.length=Hs k:=by
    rw [h.len];exact hHs k l.length hkl (Nat.le_refl _) fun c hc h1 h2=>by have:=(hk c hc).1 (hall c h2);omega
   rw [e1,←e2];exact hq
  ·refine List.eq_nil_iff_forall_not_mem.2 fun j hj=> ?_
   obtain ⟨h2,o,ho,_⟩:=mem_ready.1 hj;have hlt:j<ls.length:=by have:=(Array.getElem?_eq_some_iff.1 ho).1;simp at this;omega
   have:ls[j]=false:=by simpa [Array.getD_eq_getD_getElem?,hlt] using h2
   have hpos:0<ls.countP (! ·):=List.countP_pos_iff.2 ⟨_,List.getElem_mem hlt,by rw [this];rfl⟩
   omega
 intro f;induction f with
 |zero=>
  intro ls k hs hcl hk hkl hf;have:=key 0 ls k hs hcl hk hkl
  have hr:=this.2 (by omega);exact ⟨hr,this.1 hr⟩
 |succ f ih=>
  intro ls k hs hcl hk hkl hf;refine ⟨(key 0 ls k hs hcl hk hkl).1,fun i hi o ho=> ?_⟩;obtain ⟨hu,o',ho',haf⟩:=mem_ready.1 hi
  have hoo:o'=o:=by
   simp only [List.getElem?_toArray] at ho';rw [ho] at ho';injection ho' with ho';exact ho'.symm
  subst hoo;have hil:i<l.length:=(List.getElem?_eq_some_iff.1 ho).1
  have hiD:i<D.length:=by rw [h.len];exact hil
  have hp:D[i]?=some D[i]:=List.getElem?_eq_getElem hiD
  have hop:=h.op i _ hp;rw [ho] at hop;injection hop with hop
  have hlsi:ls[i]?=some false:=by
   have hlt:i<ls.length:=by omega
   have:ls[i]=false:=by simpa [Array.getD_eq_getD_getElem?,hlt] using hu
   rw [List.getElem?_eq_getElem hlt,this]
  have hS:ls.getD i false=false:=by rw [List.getD_eq_getElem?_getD,hlsi];rfl
  have hanc: ∀j,anc l.toArray i j=true→ls.getD j false=true:=by
   intro j hj;obtain ⟨e,he,hb,hh⟩:=(Wl ho' (h.ok.s.lt i o' ho') j).1 hj;have:=haf e he hb
   have h1:ls.getD e.on false=true:=by simpa [Array.getD_eq_getD_getElem?,List.getD_eq_getElem?_getD] using this
   rcases hh with rfl|hh
   ·exact h1
   ·exact hcl _ h1 j hh
  have hset:(fun j=>(ls.set i true).getD j false)=add (fun j=>ls.getD j false) i:=by
   funext j
   by_cases hj:j=i
   ·subst hj;rw [Yr];simp [List.getD_eq_getElem?_getD,show j<ls.length by omega]
   ·rw [yA hj];simp only [List.getD_eq_getElem?_getD];rw [List.getElem?_set_ne (Ne.symm hj)]
  have hslots:zk (fun j=>(ls.set i true).getD j false) 0 D σ.s=Z6 (zk (fun j=>ls.getD j false) 0 D σ.s) o'.dst D[i].2.x:=by
   rw [hset];refine List.ext_getElem? fun t=> ?_
   by_cases hd:D[i].1.dst=some t
   ·by_cases hl:t<σ.s.length
    ·have:=Wj (σ:=σ) (S:=add (fun j=>ls.getD j false) i) h hp Yr hd hl
     simp only [σS] at this;rw [this,hop,hd,Wg (by rw [Yg];exact hl)]
    ·rw [List.getElem?_eq_none (by rw [Yg];omega),List.getElem?_eq_none (by rw [xt,Yg];omega)]
   ·have:=qB (σ:=σ) (S:=fun j=>ls.getD j false) h hp hS hd
    simp only [σS] at this;rw [this,Wd (by rw [hop];exact hd)]
  have hev: ∀y∈o'.op.operands,evS (zk (fun j=>ls.getD j false) 0 D σ.s) y=evS (zk (txt i) 0 D σ.s) y:=by
   intro y hy;have h1:=vP (σ:=σ) h hp hS hanc y (by rw [←hop];exact hy);rw [←xZ,←xZ] at h1;exact h1
  have hnext: ∀k',(∀c,C.contains c=true→((ls.set i true).getD c false=true↔c<k'))→k'≤l.length→AO P none l Q f (ls.set i true) ⟨Z6 (zk (fun j=>ls.getD j false) 0 D σ.s) o'.dst D[i].2.x,Hs k',σ.fg,σ.nb⟩:=by
   intro k' hk' hkl';rw [←hslots];refine ih _ k' (by simp [hs]) (fun a ha b hb=> ?_) hk' hkl' (by have:=j9 hlsi;omega);have hgs: ∀j,(ls.set i true).getD j false=add (fun j=>ls.getD j false) i j:=fun j=>congrFun hset j
   rw [hgs] at ha ⊢;by_cases hai:a=i
   ·subst hai;have:=hanc b hb
    simp only [add,Bool.or_eq_true];exact .inr this
   ·rw [yA hai] at ha;have:=hcl a ha b hb
    simp only [add,Bool.or_eq_true];exact .inr this
  have hgs: ∀j,(ls.set i true).getD j false=add (fun j=>ls.getD j false) i j:=fun j=>congrFun hset j
  have hmi:=(hm i _ hp).2
  rw [Nat.zero_add,←hop] at hmi;rcases hmi with ⟨hc,hps,he⟩|⟨hc,hcs⟩
  ·refine hps _ (hKs _) (fun y hy=> ?_) _ _ (YI ?_)
   ·rw [←xZ];exact hev y hy
   ·rw [Zg];refine WU (hnext k (fun c hcc=> ?_) hkl);rw [hgs];have hne:c≠i:=by rintro rfl;rw [hc] at hcc;cases hcc
    rw [yA hne];exact hk c hcc
  ·have hki:k≤i:=by
    refine Classical.byContradiction fun hn=> ?_
    have:=(hk i hc).2 (by omega)
    rw [hS] at this;cases this
   have hHk:Hs i=Hs k:=hHs k i hki (by omega) fun c hcc h1 h2=>by
    have:=hanc c (wQ hC hc hcc h2)
    have:=(hk c hcc).1 this;omega
   rw [←hHk];refine hcs _ (fun y hy=> ?_) _ _ (YI ?_)
   ·rw [←xZ];exact hev y hy
   ·rw [Zg];refine WU (hnext (i+1) (fun c hcc=> ?_) (by omega));rw [hgs];by_cases hci:c=i
    ·subst hci;rw [Yr];exact ⟨fun _=>by omega,fun _=>rfl⟩
    ·rw [yA hci];constructor
     ·intro hl;have:=(hk c hcc).1 hl;omega
     ·intro hl;exact hanc c (wQ hC hc hcc (by omega))
theorem zhu (hmx:P.follows .mixedOrders=true) {id:Nat} {l:List Oper} {σ:St} (C:List Nat) (K:List zb→Prop) (hK:K σ.H) (hok:okM l C=true) (hCl:(C.all fun i=>Nat.blt i l.length)=true) (h:AMk P l C K Q 0 l σ):AW P none (.region id l.toArray true) Q σ:=by
 refine vK hmx rfl ?_;obtain ⟨D,Hs,h1,h2,h3,h5,h4⟩:=zjL h hK;unfold okM at hok;simp only [Bool.and_eq_true] at hok;have hlen:D.length=l.length:=by rw [←h1,List.length_map]
 have hD:DOk l l.length D:=⟨KX (Qn hok.1.1) hok.1.2,hlen,fun k p hp=>by rw [←h1,List.getElem?_map,hp];rfl⟩
 have hrep: ∀j,(List.replicate l.length false).getD j false=false:=fun j=>by
  simp only [List.getD_eq_getElem?_getD,List.getElem?_replicate];split <;>rfl
 have:=zg8 hD hok.2 (fun i hi=>by have:=List.all_eq_true.1 hCl i (by simpa using hi);rwa [Nat.blt_eq] at this) h2 h3 h5 h4 l.length (List.replicate l.length false) 0 (by simp) (fun i hi=>by rw [hrep] at hi;cases hi) (fun c _=>by rw [hrep];simp) (Nat.zero_le _) (Nat.le_trans List.countP_le_length (by simp))
 have e:zk (fun j=>(List.replicate l.length false).getD j false) 0 D σ.s=σ.s:=by
  have:(fun j=>(List.replicate l.length false).getD j false)=txt 0:=by funext j;rw [hrep];rfl
  rw [this,Ye]
 rw [e,h2] at this;exact this
theorem zeH (hT:zI P tab) {l:List Oper} {C:List Nat} {K:List zb→Prop} {k:Nat} {o:Oper} {R:List Oper} {σ:St} (hg:o.guard=none) {q:Prop} {x:AV} (h: ∀H,K H→Xh tab H σ.ev o.op=some (q,x)) (hq:q) (hc:C.contains k=false) (next:AMk P l C K Q (k+1) R (σ.put o.dst x)):AMk P l C K Q k (o::R) σ:=
 .pure x hc (fun σ' hK hev Q R next=>Yk hT (xc hg) ((WT (H:=σ'.H) o.op hev).trans (h _ hK)) hq next) next
theorem Ja: ∀(H:List zb) (i:Nat),Z' [] i H=H
 |[],_=>rfl
 |o::H,i=>by
  show Z' [] i (o::H)=o::H
  unfold Z';simp [Ja H]
theorem zb6 (hT:zI P tab) {l:List Oper} {C:List Nat} {K:List zb→Prop} {k:Nat} {R:List Oper} {s:List AV} {H H':List zb} {fg:List Nat} {nb:YB} {o:Oper} (hg:o.guard=none) {t:TypeId} {px xx:Operand} (ho:o.op= .store t px xx) {q:Prop} (h:vc tab H t (evS s px) (evS s xx)=some (q,H')) (hq:q) (hd:o.dst=none) (hK:K H') (hc:C.contains k=true)
 (next:AMk P l C K Q (k+1) R ⟨s,H',fg,nb⟩):AMk P l C K Q k (o::R) ⟨s,H,fg,nb⟩:=by
 refine .chain (.lit undef) H' hc hK (fun s' hev Q R next=> ?_) (by rw [hd];exact next);have h1:=hev px (by rw [ho];simp [Op.operands]);have h2:=hev xx (by rw [ho];simp [Op.operands]);exact wN (σ:=⟨s',H,fg,nb⟩) hT (xc hg) ho (by rw [h1,h2];exact h) hq next
def K2 (f:zb→zb→List zb):List zb→Prop:=fun H=> ∃a b,H=f a b
theorem vI (hmx:P.follows .mixedOrders=true) {id:Nat} {l:List Oper} {σ:St} (C:List Nat) (f:zb→zb→List zb) {a b:zb} (hH:σ.H=f a b) (hok:okM l C=true) (hCl:(C.all fun i=>Nat.blt i l.length)=true) (h:AMk P l C (K2 f) Q 0 l σ):AW P none (.region id l.toArray true) Q σ:=
 zhu hmx C (K2 f) ⟨a,b,hH⟩ hok hCl h
theorem zbm (hT:zI P tab) {l:List Oper} {C:List Nat} {f:zb→zb→List zb} {k:Nat} {o:Oper} {R:List Oper} {σ:St} (hg:o.guard=none) {q:Prop} {x:AV} (h: ∀a b,Xh tab (f a b) σ.ev o.op=some (q,x)) (hq:q) (hc:C.contains k=false) (next:AMk P l C (K2 f) Q (k+1) R (σ.put o.dst x)):AMk P l C (K2 f) Q k (o::R) σ:=
 zeH hT hg (fun H ⟨a,b,e⟩=>e▸h a b) hq hc next
theorem gj (hT:zI P tab) {l:List Oper} {C:List Nat} {f:zb→zb→List zb} {k:Nat} {R:List Oper} {s:List AV} {H H':List zb} {fg:List Nat} {nb:YB} {o:Oper} (hg:o.guard=none) {t:TypeId} {px xx:Operand} (ho:o.op= .store t px xx) {q:Prop} (h:vc tab H t (evS s px) (evS s xx)=some (q,H')) (hq:q) (hd:o.dst=none) {a b:zb} (hK:H'=f a b) (hc:C.contains k=true)
 (next:AMk P l C (K2 f) Q (k+1) R ⟨s,H',fg,nb⟩):AMk P l C (K2 f) Q k (o::R) ⟨s,H,fg,nb⟩:=zb6 hT hg ho h hq hd ⟨a,b,hK⟩ hc next
theorem U0 {l:List Oper} {C:List Nat} {K:List zb→Prop} {k:Nat} {o:Oper} {R:List Oper} {σ:St} (h:AMk P l C K Q k (o::R) σ):AMk P l C K Q k (o::R) σ:=h
def jk (jc jt k:Nat) (s:List AV):List AV:=bif Nat.blt jc k then Z6 s (some jt) .junk else s
theorem Qv {jc jt k:Nat} {s:List AV} (h:k≤jc):jk jc jt k s=s:=by
 unfold jk;have:Nat.blt jc k=false:=by cases hb:Nat.blt jc k with|false=>rfl|true=>rw [Nat.blt_eq] at hb;omega
 rw [this];rfl
theorem jO {jc jt k:Nat} {s:List AV} (h:jc<k):jk jc jt k s=Z6 s (some jt) .junk:=by
 unfold jk;have:Nat.blt jc k=true:=by rw [Nat.blt_eq];exact h
 rw [this];rfl
theorem pz {jc jt k k':Nat} {s:List AV} (h:jc<k↔jc<k'):jk jc jt k s=jk jc jt k' s:=by
 by_cases h1:jc<k
 ·rw [jO h1,jO (h.1 h1)]
 ·rw [Qv (by omega),Qv (by have:=mt h.2 h1;omega)]
theorem XH {s:List AV} {d:Option Tmp} {x y:AV} {t:Nat} (h:d≠some t):Z6 (Z6 s d x) (some t) y=Z6 (Z6 s (some t) y) d x:=by
 cases d with
 |none=>rfl
 |some d=>
  have:d≠t:=fun e=>h (by rw [e])
  simp only [Z6,Zx];exact List.set_comm _ _ this
theorem kZ {s:List AV} {x y:AV} {t:Nat}:Z6 (Z6 s (some t) x) (some t) y=Z6 s (some t) y:=by
 simp only [Z6,Zx,List.set_set]
theorem kE {jc jt k:Nat} {s:List AV} {d:Option Tmp} {x:AV} (h:jc<k→d≠some jt):jk jc jt k (Z6 s d x)=Z6 (jk jc jt k s) d x:=by
 by_cases h1:jc<k
 ·rw [jO h1,jO h1,XH (h h1)]
 ·rw [Qv (by omega),Qv (by omega)]
theorem zdI {jc jt k:Nat} {s:List AV} {y:Operand} (h:jc<k→y≠ .tmp jt):evS (jk jc jt k s) y=evS s y:=by
 by_cases h1:jc<k
 ·rw [jO h1];cases y with
  |tmp t=>
   have ht:t≠jt:=fun e=>h h1 (by rw [e])
   unfold evS;simp only [St.ev,zH];rw [Wd (by intro e;injection e with e;exact ht e.symm)]
  |_=>rfl
 ·rw [Qv (by omega)]
theorem pd (S:Nat→Bool) (jt:Nat): ∀(D:List (Oper×DR)) (n:Nat) (s1 s2:List AV),Z6 s1 (some jt) .junk=Z6 s2 (some jt) .junk→Z6 (zk S n D s1) (some jt) .junk=Z6 (zk S n D s2) (some jt) .junk
 |[],n,s1,s2,h=>h
 |p::D,n,s1,s2,h=>by
  simp only [zk];refine pd S jt D (n+1) _ _ ?_;cases S n with
  |false=>exact h
  |true=>
   by_cases hd:p.1.dst=some jt
   ·rw [hd];simp only [kZ];exact h
   ·rw [XH hd,XH hd,h]
def GD (P:Program) (l:List Oper) (jt:Nat) (Z:AV→Prop) (ev:Operand→AV) (H H':List zb) (fg:List Nat) (nb:YB) (o:Oper) (x:AV):Prop:= ∀(s:List AV),(∀y∈o.op.operands,St.ev ⟨s,H,fg,nb⟩ y=ev y)→(∀(t:Nat) v,s[t]?=some v→t≠jt→Z v)→ ∀(Q:Exit→St→Prop) (R:List Oper),AL P none l Q R (St.put ⟨Z6 s (some jt) .junk,H',fg,nb⟩ o.dst x)→AL P none l Q (o::R) ⟨s,H,fg,nb⟩
inductive AMj (P:Program) (l:List Oper) (C:List Nat) (jc jt brk:Nat) (K:List zb→Prop) (Z:AV→Prop) (Q:Exit→St→Prop):Nat→List Oper→St→Prop
 |nil {k:Nat} {σ:St} (h:Q .normal σ):AMj P l C jc jt brk K Z Q k [] σ
 |pure {k:Nat} {o:Oper} {R:List Oper} {σ:St} (x:AV) (hc:C.contains k=false) (hz:o.dst=some jt∨Z x) (hd:(Nat.blt jc k && o.dst==some jt)=false) (h:pY P l K σ.ev o x) (next:AMj P l C jc jt brk K Z Q (k+1) R (σ.put o.dst x)):AMj P l C jc jt brk K Z Q k (o::R) σ
 |chain {k:Nat} {o:Oper} {R:List Oper} {s:List AV} {H:List zb} {fg:List Nat} {nb:YB} (x:AV) (H':List zb) (hc:(C.contains k && k !=jc)=true) (hz:o.dst=some jt∨Z x) (hd:(Nat.blt jc k && o.dst==some jt)=false) (hK:Nat.blt k brk=true→K H') (h:CStepC P l (evS s) H H' fg nb o x) (next:AMj P l C jc jt brk K Z Q (k+1) R (St.put ⟨s,H',fg,nb⟩ o.dst x)):AMj P l C jc jt brk K Z Q k (o::R) ⟨s,H,fg,nb⟩
 |jump {k:Nat} {o:Oper} {R:List Oper} {s:List AV} {H:List zb} {fg:List Nat} {nb:YB} (x:AV) (H':List zb) (hc:(C.contains k && k==jc)=true) (hd:(o.dst==some jt)=false) (hK:Nat.blt k brk=true→K H') (h:GD P l jt Z (evS s) H H' fg nb o x) (next:AMj P l C jc jt brk K Z Q (k+1) R (St.put ⟨Z6 s (some jt) .junk,H',fg,nb⟩ o.dst x)):AMj P l C jc jt brk K Z Q k (o::R) ⟨s,H,fg,nb⟩
def zls (P:Program) (l:List Oper) (C:List Nat) (jc jt:Nat) (K:List zb→Prop) (Z:AV→Prop) (σ:St) (k:Nat) (D:List (Oper×DR)) (Hs:Nat→List zb):Prop:= ∀(j:Nat) p,D[j]?=some p→p.2.N=none∧(k+j≠jc→p.1.dst=some jt∨Z p.2.x)∧
 ((C.contains (k+j)=false∧pY P l K (evS (jk jc jt (k+j) (zk (txt j) 0 D σ.s))) p.1 p.2.x∧Hs (j+1)=Hs j)∨
  (C.contains (k+j)=true∧k+j≠jc∧CStepC P l (evS (jk jc jt (k+j) (zk (txt j) 0 D σ.s))) (Hs j) (Hs (j+1)) σ.fg σ.nb p.1 p.2.x)∨
  (C.contains (k+j)=true∧k+j=jc∧p.1.dst≠some jt∧GD P l jt Z (evS (jk jc jt (k+j) (zk (txt j) 0 D σ.s))) (Hs j) (Hs (j+1)) σ.fg σ.nb p.1 p.2.x))
theorem zds {jc jt k:Nat} {o:Oper} (h:(Nat.blt jc k && o.dst==some jt)=false) (hk:jc<k):o.dst≠some jt:=fun e=>by
 have h1:Nat.blt jc k=true:=by rw [Nat.blt_eq];exact hk
 rw [h1,e] at h;simp at h
theorem ziG {l:List Oper} {C:List Nat} {jc jt brk:Nat} {K:List zb→Prop} {Z:AV→Prop} {k:Nat} {R:List Oper} {σ:St} (h:AMj P l C jc jt brk K Z Q k R σ) (hCj:C.contains jc=true) (hK:k≤brk→K σ.H) (hJ:jk jc jt k σ.s=σ.s): ∃(D:List (Oper×DR)) (Hs:Nat→List zb),D.map (·.1)=R∧Hs 0=σ.H∧zls P l C jc jt K Z σ k D Hs∧(∀j,k+j≤brk→j≤D.length→K (Hs j))∧Q .normal ⟨jk jc jt (k+D.length) (zk (fun _=>true) 0 D σ.s),Hs D.length,σ.fg,σ.nb⟩:=by
 induction h with
 | @nil k σ h=>exact ⟨[],fun _=>_,rfl,rfl,fun j p hp=>by simp at hp,fun j hj hl=>hK (by omega),by simp only [List.length_nil,Nat.add_zero];show Q .normal ⟨jk jc jt k σ.s,σ.H,σ.fg,σ.nb⟩;rw [hJ];exact h⟩
 | @pure k o R σ x hc hz hd h next ih=>
   have hne:k≠jc:=by rintro rfl;rw [hCj] at hc;cases hc
   obtain ⟨D,Hs,h1,h2,h3,h5,h4⟩:=ih (by rw [Zg];exact fun hk=>hK (by omega)) (by
    rw [Zg];show jk jc jt (k+1) (Z6 σ.s o.dst x)=Z6 σ.s o.dst x
    rw [kE (fun hk=>zds hd (by omega)),pz (k':=k) (by omega),hJ])
   rw [Zg] at h2 h3 h4;refine ⟨(o,⟨x,none⟩)::D,fun j=>match j with|0=>σ.H|j+1=>Hs j,by simp [h1],rfl,fun j p hp=> ?_,fun j hj hl=>(by cases j with|zero=>exact hK (by omega)|succ j=>exact h5 j (by omega) (by simpa using hl)), ?_⟩
   ·cases j with
    |zero=>
     simp at hp;subst hp
     refine ⟨rfl,fun _=>hz, .inl ⟨hc, ?_,h2⟩⟩;rw [Ye,Nat.add_zero,hJ,xZ];exact h
    |succ j=>
     rw [xw,show k+(j+1)=k+1+j by omega];exact h3 j p (by simpa using hp)
   ·rw [Y0,List.length_cons,show k+(D.length+1)=k+1+D.length by omega];exact h4
 | @chain k o R s H fg nb x H' hc hz hd hK' h next ih=>
   rw [Bool.and_eq_true] at hc;have hne:k≠jc:=by have:=hc.2;simpa using this
   obtain ⟨D,Hs,h1,h2,h3,h5,h4⟩:=ih (by rw [Zg];exact fun hk=>hK' (by rw [Nat.blt_eq];omega)) (by
    rw [Zg];show jk jc jt (k+1) (Z6 s o.dst x)=Z6 s o.dst x
    have hJ:jk jc jt k s=s:=hJ
    rw [kE (fun hk=>zds hd (by omega)),pz (k':=k) (by omega),hJ])
   rw [Zg] at h2 h3 h4;refine ⟨(o,⟨x,none⟩)::D,fun j=>match j with|0=>H|j+1=>Hs j,by simp [h1],rfl,fun j p hp=> ?_,fun j hj hl=>(by cases j with|zero=>exact hK (by omega)|succ j=>exact h5 j (by omega) (by simpa using hl)), ?_⟩
   ·cases j with
    |zero=>
     simp at hp;subst hp
     refine ⟨rfl,fun _=>hz, .inr (.inl ⟨hc.1,by simpa using hne, ?_⟩)⟩;have hJ:jk jc jt k s=s:=hJ
     rw [Ye,Nat.add_zero];simp only [h2,hJ];exact h
    |succ j=>
     rw [xw,show k+(j+1)=k+1+j by omega];exact h3 j p (by simpa using hp)
   ·rw [Y0,List.length_cons,show k+(D.length+1)=k+1+D.length by omega];exact h4
 | @jump k o R s H fg nb x H' hc hd hK' h next ih=>
   rw [Bool.and_eq_true] at hc;have he:k=jc:=by have:=hc.2;simpa using this
   subst he;have hdn:o.dst≠some jt:=by intro e;rw [e] at hd;simp at hd
   have hs1:Z6 (Z6 (Z6 s (some jt) .junk) o.dst x) (some jt) .junk=Z6 (Z6 s o.dst x) (some jt) .junk:=by
    rw [XH hdn,kZ,XH hdn]
   obtain ⟨D,Hs,h1,h2,h3,h5,h4⟩:=ih (by rw [Zg];exact fun hk=>hK' (by rw [Nat.blt_eq];omega)) (by
    rw [Zg];show jk k jt (k+1) (Z6 (Z6 s (some jt) .junk) o.dst x)=Z6 (Z6 s (some jt) .junk) o.dst x
    rw [jO (Nat.lt_succ_self _),XH hdn,kZ])
   rw [Zg] at h2 h3 h4
   have habs: ∀(S:Nat→Bool) (n:Nat) k',k<k'→jk k jt k' (zk S n D (Z6 s o.dst x))=jk k jt k' (zk S n D (Z6 (Z6 s (some jt) .junk) o.dst x)):=fun S n k' hk'=>by
    rw [jO hk',jO hk'];exact pd S jt D n _ _ hs1.symm
   refine ⟨(o,⟨x,none⟩)::D,fun j=>match j with|0=>H|j+1=>Hs j,by simp [h1],rfl,fun j p hp=> ?_,fun j hj hl=>(by cases j with|zero=>exact hK (by omega)|succ j=>exact h5 j (by omega) (by simpa using hl)), ?_⟩
   ·cases j with
    |zero=>
     simp at hp;subst hp
     refine ⟨rfl,fun hne=>absurd rfl hne, .inr (.inr ⟨hc.1,rfl,hdn, ?_⟩)⟩;have hJ:jk k jt k s=s:=hJ
     rw [Ye,Nat.add_zero];simp only [h2,hJ];exact h
    |succ j=>
     have:=h3 j p (by simpa using hp)
     rw [xw,show k+(j+1)=k+1+j by omega,habs _ _ _ (by omega)];exact this
   ·rw [Y0,List.length_cons,show k+(D.length+1)=k+1+D.length by omega,habs _ _ _ (by omega)];exact h4
def okJ (l:List Oper) (C:List Nat) (jc jt brk:Nat):Bool:=C.contains jc && Nat.blt jc l.length && (List.range l.length).all fun i=>match nth l i with
 |some o=>(i==jc||(o.dst !=some jt && !(qO o).contains jt)||anc l.toArray jc i) && (C.contains i||Nat.ble l.length brk||anc l.toArray brk i)
 |none=>false
theorem TZ {l:List Oper} {C:List Nat} {jc jt brk:Nat} (h:okJ l C jc jt brk=true):C.contains jc=true∧jc<l.length∧ ∀i o,l[i]?=some o→(i≠jc→(o.dst=some jt∨jt∈qO o)→anc l.toArray jc i=true)∧(C.contains i=false→l.length≤brk∨anc l.toArray brk i=true):=by
 unfold okJ at h;simp only [Bool.and_eq_true,Nat.blt_eq] at h;refine ⟨h.1.1,h.1.2,fun i o ho=> ?_⟩;have hil:i<l.length:=(List.getElem?_eq_some_iff.1 ho).1
 have:=List.all_eq_true.1 h.2 i (List.mem_range.2 hil)
 rw [zH,ho] at this;simp only [Bool.and_eq_true,Bool.or_eq_true,beq_iff_eq,bne_iff_ne,Bool.not_eq_true',Nat.ble_eq] at this;obtain ⟨h1,h2⟩:=this;refine ⟨fun hne hor=> ?_,fun hc=> ?_⟩
 ·rcases h1 with (h1|h1)|h1
  ·exact absurd h1 hne
  ·rcases hor with hor|hor
   ·exact absurd hor h1.1
   ·have:(qO o).contains jt=true:=List.contains_iff_mem.2 hor
    rw [this] at h1;cases h1.2
  ·exact h1
 ·rcases h2 with (h2|h2)|h2
  ·rw [hc] at h2;cases h2
  ·exact .inl h2
  ·exact .inr h2
theorem Hv {Z:AV→Prop} {jt:Nat} {S:Nat→Bool}: ∀(D:List (Oper×DR)) (n:Nat) (s:List AV),(∀(t:Nat) v,s[t]?=some v→t≠jt→Z v)→(∀(j:Nat) p,D[j]?=some p→S (n+j)=true→p.1.dst=some jt∨Z p.2.x)→ ∀(t:Nat) v,(zk S n D s)[t]?=some v→t≠jt→Z v
 |[],n,s,h,_=>h
 |p::D,n,s,h,hD=>by
  simp only [zk];refine Hv D (n+1) _ ?_ (fun j q hq hs=>hD (j+1) q (by simpa using hq) (by rw [←hs];congr 1;omega));cases hs:S n with
  |false=>exact h
  |true=>
   intro t v hv ht;simp only at hv;by_cases hd:p.1.dst=some t
   ·rw [hd] at hv;by_cases hl:t<s.length
    ·rw [Wg hl] at hv;injection hv with hv;subst hv
     rcases hD 0 p rfl (by simpa using hs) with h1|h1
     ·rw [hd] at h1;injection h1 with h1;exact absurd h1 ht
     ·exact h1
    ·rw [List.getElem?_eq_none (by rw [xt];omega)] at hv;cases hv
   ·rw [Wd hd] at hv;exact h t v hv ht
theorem zhA {l:List Oper} {C:List Nat} {jc jt brk:Nat} {K:List zb→Prop} {Z:AV→Prop} {σ:St} {D:List (Oper×DR)} {Hs:Nat→List zb} (h:DOk l l.length D) (hC:okC l C=true) (hCl: ∀i,C.contains i=true→i<l.length) (h0:Hs 0=σ.H) (hj:okJ l C jc jt brk=true) (hBC:C.contains brk=true∨l.length≤brk) (hZ: ∀(t:Nat) v,σ.s[t]?=some v→t≠jt→Z v) (hm:zls P l C jc jt K Z σ 0 D Hs) (hKs: ∀j,j≤brk→j≤l.length→K (Hs j)) (hq:Q .normal ⟨jk jc jt l.length (zk (fun _=>true) 0 D σ.s),Hs D.length,σ.fg,σ.nb⟩):
 ∀(f:Nat) (ls:List Bool) (k:Nat),ls.length=l.length→(∀i,ls.getD i false=true→ ∀j,anc l.toArray i j=true→ls.getD j false=true)→(∀c,C.contains c=true→(ls.getD c false=true↔c<k))→k≤l.length→ls.countP (! ·)≤f→
  AO P none l Q f ls ⟨jk jc jt k (zk (fun j=>ls.getD j false) 0 D σ.s),Hs k,σ.fg,σ.nb⟩:=by
 obtain ⟨hJC,hJl,hJo⟩:=TZ hj
 have hHs: ∀(a b:Nat),a≤b→b≤l.length→(∀c,C.contains c=true→a≤c→c<b→False)→Hs b=Hs a:=by
  intro a b hab;induction b with
  |zero=>intro _ _;rw [show a=0 by omega]
  |succ b ih=>
   intro hb hno;by_cases hab':a=b+1
   ·rw [hab']
   ·have hbD:b<D.length:=by rw [h.len];omega
    have:=(hm b _ (List.getElem?_eq_getElem hbD)).2.2
    rw [Nat.zero_add] at this;rcases this with ⟨_,_,e⟩|⟨hc,_⟩|⟨hc,_⟩
    ·rw [e];exact ih (by omega) (by omega) fun c hc h1 h2=>hno c hc h1 (by omega)
    ·exact (hno b hc (by omega) (by omega)).elim
    ·exact (hno b hc (by omega) (by omega)).elim
 have key: ∀(f:Nat) (ls:List Bool) (k:Nat),ls.length=l.length→(∀i,ls.getD i false=true→ ∀j,anc l.toArray i j=true→ls.getD j false=true)→(∀c,C.contains c=true→(ls.getD c false=true↔c<k))→k≤l.length→
  (Region.ready .any l.toArray ls.toArray=[]→Q .normal ⟨jk jc jt k (zk (fun j=>ls.getD j false) 0 D σ.s),Hs k,σ.fg,σ.nb⟩)∧(ls.countP (! ·)=0→Region.ready .any l.toArray ls.toArray=[]):=by
  intro f ls k hs hcl hk hkl;refine ⟨fun hr=> ?_,fun h1=> ?_⟩
  ·have hall: ∀j,j<l.length→ls.getD j false=true:=by
    intro j;induction j using Nat.strongRecOn with
    |_ j ih=>
     intro hj;refine Classical.byContradiction fun hn=> ?_
     have hjs:j<l.toArray.size:=by simpa using hj
     have:j∈Region.ready .any l.toArray ls.toArray:=by
      rw [mem_ready];refine ⟨?_,l.toArray[j],Array.getElem?_eq_getElem hjs,fun e he hb=> ?_⟩
      ·have:ls[j]?=some false:=by
        rw [List.getElem?_eq_getElem (by omega)];congr 1
        have hjl:j<ls.length:=by omega
        have hn': ¬ls[j]=true:=by simpa [List.getD_eq_getElem?_getD,hjl] using hn
        simpa using hn'
       simp [Array.getD_eq_getD_getElem?,this]
      ·have:=h.ok.s.lt j _ (Array.getElem?_eq_getElem hjs) e he hb
       have:=ih e.on this (by omega)
       simpa [Array.getD_eq_getD_getElem?,List.getD_eq_getElem?_getD] using this
     rw [hr] at this;cases this
   have e1:zk (fun j=>ls.getD j false) 0 D σ.s=zk (fun _=>true) 0 D σ.s:=by
    have: ∀(D':List (Oper×DR)) (k:Nat) (s:List AV),k+D'.length≤l.length→zk (fun j=>ls.getD j false) k D' s=zk (fun _=>true) k D' s:=by
     intro D';induction D' with
     |nil=>intro k s _;rfl
     |cons p D' ih=>
      intro k s hk;simp only [List.length_cons] at hk;simp only [zk];rw [hall k (by omega)];exact ih (k+1) _ (by omega)
    exact this D 0 _ (by rw [h.len];omega)
   have e2:Hs D.length=Hs k:=by
    rw [h.len];exact hHs k l.length hkl (Nat.le_refl _) fun c hc h1 h2=>by have:=(hk c hc).1 (hall c h2);omega
   have e3:jc<k:=(hk jc hJC).1 (hall jc hJl)
   rw [e1,←e2,pz (k':=l.length) (by omega)];exact hq
  ·refine List.eq_nil_iff_forall_not_mem.2 fun j hj=> ?_
   obtain ⟨h2,o,ho,_⟩:=mem_ready.1 hj;have hlt:j<ls.length:=by have:=(Array.getElem?_eq_some_iff.1 ho).1;simp at this;omega
   have:ls[j]=false:=by simpa [Array.getD_eq_getD_getElem?,hlt] using h2
   have hpos:0<ls.countP (! ·):=List.countP_pos_iff.2 ⟨_,List.getElem_mem hlt,by rw [this];rfl⟩
   omega
 intro f;induction f with
 |zero=>
  intro ls k hs hcl hk hkl hf;have:=key 0 ls k hs hcl hk hkl
  have hr:=this.2 (by omega);exact ⟨hr,this.1 hr⟩
 |succ f ih=>
  intro ls k hs hcl hk hkl hf;refine ⟨(key 0 ls k hs hcl hk hkl).1,fun i hi o ho=> ?_⟩;obtain ⟨hu,o',ho',haf⟩:=mem_ready.1 hi
  have hoo:o'=o:=by
   simp only [List.getElem?_toArray] at ho';rw [ho] at ho';injection ho' with ho';exact ho'.symm
  subst hoo;have hil:i<l.length:=(List.getElem?_eq_some_iff.1 ho).1
  have hiD:i<D.length:=by rw [h.len];exact hil
  have hp:D[i]?=some D[i]:=List.getElem?_eq_getElem hiD
  have hop:=h.op i _ hp;rw [ho] at hop;injection hop with hop
  have hlsi:ls[i]?=some false:=by
   have hlt:i<ls.length:=by omega
   have:ls[i]=false:=by simpa [Array.getD_eq_getD_getElem?,hlt] using hu
   rw [List.getElem?_eq_getElem hlt,this]
  have hS:ls.getD i false=false:=by rw [List.getD_eq_getElem?_getD,hlsi];rfl
  have hanc: ∀j,anc l.toArray i j=true→ls.getD j false=true:=by
   intro j hj;obtain ⟨e,he,hb,hh⟩:=(Wl ho' (h.ok.s.lt i o' ho') j).1 hj;have:=haf e he hb
   have h1:ls.getD e.on false=true:=by simpa [Array.getD_eq_getD_getElem?,List.getD_eq_getElem?_getD] using this
   rcases hh with rfl|hh
   ·exact h1
   ·exact hcl _ h1 j hh
  have hset:(fun j=>(ls.set i true).getD j false)=add (fun j=>ls.getD j false) i:=by
   funext j
   by_cases hj:j=i
   ·subst hj;rw [Yr];simp [List.getD_eq_getElem?_getD,show j<ls.length by omega]
   ·rw [yA hj];simp only [List.getD_eq_getElem?_getD];rw [List.getElem?_set_ne (Ne.symm hj)]
  have hslots:zk (fun j=>(ls.set i true).getD j false) 0 D σ.s=Z6 (zk (fun j=>ls.getD j false) 0 D σ.s) o'.dst D[i].2.x:=by
   rw [hset];refine List.ext_getElem? fun t=> ?_
   by_cases hd:D[i].1.dst=some t
   ·by_cases hl:t<σ.s.length
    ·have:=Wj (σ:=σ) (S:=add (fun j=>ls.getD j false) i) h hp Yr hd hl
     simp only [σS] at this;rw [this,hop,hd,Wg (by rw [Yg];exact hl)]
    ·rw [List.getElem?_eq_none (by rw [Yg];omega),List.getElem?_eq_none (by rw [xt,Yg];omega)]
   ·have:=qB (σ:=σ) (S:=fun j=>ls.getD j false) h hp hS hd
    simp only [σS] at this;rw [this,Wd (by rw [hop];exact hd)]
  have hexe:anc l.toArray jc i=true→k≤jc:=fun ha=>by
   refine Classical.byContradiction fun hn=> ?_
   have h1:=(hk jc hJC).2 (by omega)
   have:=hcl jc h1 i ha
   rw [hS] at this;cases this
  have hio:=(hJo i o' ho).1
  have hev: ∀y∈o'.op.operands,evS (jk jc jt k (zk (fun j=>ls.getD j false) 0 D σ.s)) y=evS (jk jc jt i (zk (txt i) 0 D σ.s)) y:=by
   intro y hy;have h1:=vP (σ:=σ) h hp hS hanc y (by rw [←hop];exact hy);rw [←xZ,←xZ] at h1;by_cases hyt:y= .tmp jt
   ·by_cases hij:i=jc
    ·have hkl':k≤jc:=by
      refine Classical.byContradiction fun hn=> ?_
      have:=(hk jc hJC).2 (by omega)
      rw [←hij,hS] at this;cases this
     rw [Qv hkl',Qv (by omega)];exact h1
    ·have ha:=hio hij (.inr (by
      unfold qO;rw [List.mem_filterMap];exact ⟨y,by simpa using hy,by rw [hyt]⟩))
     have hlt:=HH h.ok.s i jc (by simpa using hJl) ha;rw [Qv (hexe ha),Qv (by omega)];exact h1
   ·rw [zdI fun _=>hyt,zdI fun _=>hyt];exact h1
  have hdst:i≠jc→jc<k→o'.dst≠some jt:=fun hij hlt hd=>by
   have:=hexe (hio hij (.inl hd))
   omega
  have hnext: ∀k',(∀c,C.contains c=true→((ls.set i true).getD c false=true↔c<k'))→k'≤l.length→AO P none l Q f (ls.set i true) ⟨jk jc jt k' (Z6 (zk (fun j=>ls.getD j false) 0 D σ.s) o'.dst D[i].2.x),Hs k',σ.fg,σ.nb⟩:=by
   intro k' hk' hkl';rw [←hslots];refine ih _ k' (by simp [hs]) (fun a ha b hb=> ?_) hk' hkl' (by have:=j9 hlsi;omega);have hgs: ∀j,(ls.set i true).getD j false=add (fun j=>ls.getD j false) i j:=fun j=>congrFun hset j
   rw [hgs] at ha ⊢;by_cases hai:a=i
   ·subst hai;have:=hanc b hb
    simp only [add,Bool.or_eq_true];exact .inr this
   ·rw [yA hai] at ha;have:=hcl a ha b hb
    simp only [add,Bool.or_eq_true];exact .inr this
  have hgs: ∀j,(ls.set i true).getD j false=add (fun j=>ls.getD j false) i j:=fun j=>congrFun hset j
  have hmi:=(hm i _ hp).2
  rw [Nat.zero_add,←hop] at hmi;obtain ⟨_,hmi⟩:=hmi;rcases hmi with ⟨hc,hps,he⟩|⟨hc,hij,hcs⟩|⟨hc,hij,hdn,hcs⟩
  ·have hij:i≠jc:=by rintro rfl;rw [hJC] at hc;cases hc
   have hkb:k≤brk:=by
    rcases (hJo i o' ho).2 hc with hb|hb
    ·omega
    ·refine Classical.byContradiction fun hn=> ?_
     by_cases hbC:C.contains brk=true
     ·have:=hcl brk ((hk brk hbC).2 (by omega)) i hb
      rw [hS] at this;cases this
     ·have hbr:=hBC;rcases hbr with hbr|hbr
      ·exact hbC hbr
      ·omega
   refine hps _ (hKs _ hkb hkl) (fun y hy=> ?_) _ _ (YI ?_)
   ·rw [←xZ];exact hev y hy
   ·rw [Zg];refine WU ?_;have:=hnext k (fun c hcc=> ?_) hkl
    ·rw [kE (fun hlt=>hdst hij hlt)] at this;exact this
    ·rw [hgs];have hne:c≠i:=by rintro rfl;rw [hc] at hcc;cases hcc
     rw [yA hne];exact hk c hcc
  ·have hki:k≤i:=by
    refine Classical.byContradiction fun hn=> ?_
    have:=(hk i hc).2 (by omega)
    rw [hS] at this;cases this
   have hHk:Hs i=Hs k:=hHs k i hki (by omega) fun c hcc h1 h2=>by
    have:=hanc c (wQ hC hc hcc h2)
    have:=(hk c hcc).1 this;omega
   have hkk: ∀c,C.contains c=true→((ls.set i true).getD c false=true↔c<i+1):=fun c hcc=>by
    rw [hgs];by_cases hci:c=i
    ·subst hci;rw [Yr];exact ⟨fun _=>by omega,fun _=>rfl⟩
    ·rw [yA hci];constructor
     ·intro hl;have:=(hk c hcc).1 hl;omega
     ·intro hl;exact hanc c (wQ hC hc hcc (by omega))
   have hjk:jc<i+1↔jc<k:=by
    rw [←hkk jc hJC,hgs,yA (Ne.symm hij)];exact hk jc hJC
   rw [←hHk];refine hcs _ (fun y hy=> ?_) _ _ (YI ?_)
   ·rw [←xZ];exact hev y hy
   ·rw [Zg];refine WU ?_;have:=hnext (i+1) hkk (by omega)
    rw [pz hjk,kE (fun hlt=>hdst hij hlt)] at this;exact this
  ·have hki:k≤i:=by
    refine Classical.byContradiction fun hn=> ?_
    have:=(hk i hc).2 (by omega)
    rw [hS] at this;cases this
   have hHk:Hs i=Hs k:=hHs k i hki (by omega) fun c hcc h1 h2=>by
    have:=hanc c (wQ hC hc hcc h2)
    have:=(hk c hcc).1 this;omega
   have hkk: ∀c,C.contains c=true→((ls.set i true).getD c false=true↔c<i+1):=fun c hcc=>by
    rw [hgs];by_cases hci:c=i
    ·subst hci;rw [Yr];exact ⟨fun _=>by omega,fun _=>rfl⟩
    ·rw [yA hci];constructor
     ·intro hl;have:=(hk c hcc).1 hl;omega
     ·intro hl;exact hanc c (wQ hC hc hcc (by omega))
   rw [←hHk];have e0:jk jc jt k (zk (fun j=>ls.getD j false) 0 D σ.s)=zk (fun j=>ls.getD j false) 0 D σ.s:=Qv (by omega)
   refine hcs _ (fun y hy=> ?_) ?_ _ _ (YI ?_)
   ·rw [←xZ];exact hev y hy
   ·rw [e0];refine Hv D 0 σ.s hZ fun j p hpj hsj=> ?_
    rw [Nat.zero_add] at hsj;have:=(hm j p hpj).2.1
    refine this ?_;rw [Nat.zero_add]
    rintro rfl
    rw [←hij,hS] at hsj;cases hsj
   ·rw [Zg];refine WU ?_;have:=hnext (i+1) hkk (by omega)
    rw [jO (by omega),XH hdn] at this;rw [e0];exact this
theorem HF (hmx:P.follows .mixedOrders=true) {id:Nat} {l:List Oper} {σ:St} (C:List Nat) (jc jt brk:Nat) (K:List zb→Prop) (Z:AV→Prop) (hK:K σ.H) (hZ: ∀(t:Nat) v,σ.s[t]?=some v→t≠jt→Z v) (hok:okM l C=true) (hj:okJ l C jc jt brk=true) (hBC:(C.contains brk||Nat.ble l.length brk)=true) (hCl:(C.all fun i=>Nat.blt i l.length)=true) (h:AMj P l C jc jt brk K Z Q 0 l σ):AW P none (.region id l.toArray true) Q σ:=by
 refine vK hmx rfl ?_;obtain ⟨D,Hs,h1,h2,h3,h5,h4⟩:=ziG h (TZ hj).1 (fun _=>hK) (Qv (Nat.zero_le _));unfold okM at hok;simp only [Bool.and_eq_true] at hok;have hlen:D.length=l.length:=by rw [←h1,List.length_map]
 have hD:DOk l l.length D:=⟨KX (Qn hok.1.1) hok.1.2,hlen,fun k p hp=>by rw [←h1,List.getElem?_map,hp];rfl⟩
 have hrep: ∀j,(List.replicate l.length false).getD j false=false:=fun j=>by
  simp only [List.getD_eq_getElem?_getD,List.getElem?_replicate];split <;>rfl
 rw [Bool.or_eq_true,Nat.ble_eq] at hBC;have h6:Q .normal ⟨jk jc jt l.length (zk (fun _=>true) 0 D σ.s),Hs D.length,σ.fg,σ.nb⟩:=by rw [←hlen];rw [Nat.zero_add] at h4;exact h4
 have:=zhA hD hok.2 (fun i hi=>by have:=List.all_eq_true.1 hCl i (by simpa using hi);rwa [Nat.blt_eq] at this) h2 hj hBC hZ h3 (fun j hj hl=>h5 j (by omega) (by omega)) h6 l.length (List.replicate l.length false) 0 (by simp) (fun i hi=>by rw [hrep] at hi;cases hi) (fun c _=>by rw [hrep];simp) (Nat.zero_le _) (Nat.le_trans List.countP_le_length (by simp))
 have e:zk (fun j=>(List.replicate l.length false).getD j false) 0 D σ.s=σ.s:=by
  have:(fun j=>(List.replicate l.length false).getD j false)=txt 0:=by funext j;rw [hrep];rfl
  rw [this,Ye]
 rw [e,h2,Qv (Nat.zero_le _)] at this;exact this
end
section
variable {P:Program} {tab:Tab} {Q:Exit→St→Prop} {l:List Oper} {C:List Nat} {jc jt brk k:Nat} {Z:AV→Prop} {R:List Oper} {o:Oper}
theorem zeP {s s':List AV} (hl:s.length=s'.length) (h: ∀(t:Nat) a b,s[t]?=some a→s'[t]?=some b→AV.Le a b):LeS s s':=by
 induction s generalizing s' with
 |nil=>cases s' with|nil=>exact .nil|cons=>simp at hl
 |cons a s ih=>
  cases s' with
  |nil=>simp at hl
  |cons b s'=>exact .cons (h 0 a b rfl rfl) (ih (by simpa using hl) fun t x y hx hy=>h (t+1) x y (by simpa using hx) (by simpa using hy))
theorem zfD (s:List AV) (jt:Nat):LeS s (Z6 s (some jt) .junk):=zeP (by rw [xt]) fun t a b ha hb=>by
 by_cases ht:jt=t
 ·subst ht;rw [Wg (List.getElem?_eq_some_iff.1 ha).1] at hb;injection hb with hb;subst hb;exact .junk _
 ·rw [Wd (by intro e;injection e with e;exact ht e),ha] at hb;injection hb with hb;subst hb;exact .refl _
theorem zfR {s:List AV} {H:List zb} {fg:List Nat} {nb:YB} {d:Option Tmp} {x:AV} {jt:Nat} (hd:d≠some jt):Tells (St.put ⟨s,H,fg,nb⟩ d x) (St.put ⟨Z6 s (some jt) .junk,H,fg,nb⟩ d x):=by
 rw [Zg,Zg];simp only;rw [←XH hd];exact .le (zfD _ _) (by exact LeH.refl _)
theorem zhP (hT:zI P tab) {r:Option Nat} {σ:St} (hw:zS l σ o=some true) {q:Prop} {x y:AV} {ob:zb} (h:Vs tab σ.ev 0 o.op=some (q,x,ob)) (hq:q) (hp:ob.pure=true) {q2:Prop} {used:List Nat} (ht:thaw [ob] 4 x=some (q2,y,used)) (hq2:q2) (next:AL P r l Q R (σ.put o.dst y)):AL P r l Q (o::R) σ:=by
 have hd: ∀c,o.op≠ .defer c:=fun c hc=>by rw [hc] at h;simp [Vs] at h
 refine xu (H':=σ.H) (fg:=none) hw hd (fun B μ a w hr=>⟨?_,Nat.le_refl _⟩) next;have h1:=KK (H0:=σ.H) (id:=σ.H.length) hT h hq hp ht hq2 w B.X μ σ.H a.eval hr.H (fun _ _ h=>h) (fun y _=>hr.ev y);obtain ⟨u,cur,hrun,_⟩:=(Pz (μ:=μ) hT hr.ev h hq).run;unfold StepOk at h1;rw [hrun] at h1;obtain ⟨hb,hv⟩:=h1;refine ⟨.value u,u,_,μ,hrun, .inl rfl,hr.H.below hb,Ext.refl _ _, .of_below hb,hv,fun k x u hx=> ?_⟩;have:RV (OO B.X σ.H μ) _ (upto k μ) x u:=hx.mono (fun _ _ h=>h) (fun b hlt _=>hb.block b hlt) _ fun _ _ h=>h
 exact ⟨this,fun _=>this⟩
theorem zdQ (hT:zI P tab) {K:List zb→Prop} {σ:St} (hg:o.guard=none) {q:Prop} {x:AV} {ob:zb} (h:Vs tab σ.ev 0 o.op=some (q,x,ob)) (hq:q) (hp:ob.pure=true) {q2:Prop} {y:AV} {used:List Nat} (ht:thaw [ob] 4 x=some (q2,y,used)) (hq2:q2) (hc:C.contains k=false) (hz:o.dst=some jt∨Z y) (hd:(Nat.blt jc k && o.dst==some jt)=false)
 (next:AMj P l C jc jt brk K Z Q (k+1) R (σ.put o.dst y)):AMj P l C jc jt brk K Z Q k (o::R) σ:=
 .pure y hc hz hd (fun σ' _ hev Q R next=>zhP hT (xc hg) ((Vn o.op hev).trans h) hq hp ht hq2 next) next
theorem CStepC.toJ {ev:Operand→AV} {H H':List zb} {fg:List Nat} {nb:YB} {x:AV} (h:CStepC P l ev H H' fg nb o x) (hd:(o.dst==some jt)=false):GD P l jt Z ev H H' fg nb o x:=fun s hev _ Q R next=>
 h s hev Q R (zz (zfR fun e=>by rw [e] at hd;simp at hd) next)
def K1 (f:List zb→List zb):List zb→Prop:=fun H=> ∃t,H=f t
theorem zcM (hT:zI P tab) {f:List zb→List zb} {σ:St} (hg:o.guard=none) {q:Prop} {x:AV} (h: ∀t,Xh tab (f t) σ.ev o.op=some (q,x)) (hq:q) (hc:C.contains k=false) (hz:o.dst=some jt∨Z x) (hd:(Nat.blt jc k && o.dst==some jt)=false) (next:AMj P l C jc jt brk (K1 f) Z Q (k+1) R (σ.put o.dst x)):AMj P l C jc jt brk (K1 f) Z Q k (o::R) σ:=
 .pure x hc hz hd (fun σ' ⟨t,e⟩ hev Q R next=>Yk hT (xc hg) ((WT (H:=σ'.H) o.op hev).trans (e▸h t)) hq next) next
theorem zfE {f:List zb→List zb} {σ:St} (hg:o.guard=none) {fo:Operand} {ao:List Operand} {ts:Array TypeId} (ho:o.op= .call {callee:= .value fo,args:=ao.toArray,argTypes:=ts}) {g:FuncId} {fa ca:List AV} (hf:σ.ev fo= .fn (.func g) fa ca) (hgo:ze P g)
 {q:Prop} {args':List AV} (ht: ∀t,Yf (thaw (f t) 4) (fa++ao.map σ.ev++ca)=some (q,args',[])) (hq:q) {x:AV} (hx: ∀n,ren (sh n) 4 x=x) {args:List AV} (h:APure P g args x []) (hl:LeS args' args) (hc:C.contains k=false) (hz:o.dst=some jt∨Z x) (hd:(Nat.blt jc k && o.dst==some jt)=false)
 (next:AMj P l C jc jt brk (K1 f) Z Q (k+1) R (σ.put o.dst x)):AMj P l C jc jt brk (K1 f) Z Q k (o::R) σ:=by
 refine .pure x hc hz hd (fun σ' ⟨t,e⟩ hev Q R next=> ?_) next
 have h1: ∀y∈fo::ao,σ'.ev y=σ.ev y:=fun y hy=>hev y (by
  rw [ho];simp only [Op.operands,Call.operands,Array.mem_append,List.mem_toArray,List.mem_singleton];exact (List.mem_cons.1 hy).imp id id)
 have h2:ao.map σ'.ev=ao.map σ.ev:=wb fun y hy=>h1 y (List.mem_cons_of_mem _ hy)
 obtain ⟨fn,c,g1,g2,g3⟩:=hgo;refine TB (xc hg) ho ((h1 fo List.mem_cons_self).trans hf) g1 g2 g3 (by rw [h2,e];exact ht t) hq (h.le hl) ?_;rw [Ja,hx];simpa using next
theorem zbk {f:List zb→List zb} {s:List AV} {H H':List zb} {fg:List Nat} {nb:YB} (hg:o.guard=none) {fo:Operand} {ao:List Operand} {ts:Array TypeId} (ho:o.op= .call {callee:= .value fo,args:=ao.toArray,argTypes:=ts}) {g:FuncId} {fa ca:List AV} (hf:evS s fo= .fn (.func g) fa ca) (hgo:ze P g)
 {x:AV} (h:ACall P g (fa++ao.map (evS s)++ca) H fun r H1 fg=>r=x∧H1=H'∧fg=[]) (hc:(C.contains k && k==jc)=true) (hd:(o.dst==some jt)=false) (hK:Nat.blt k brk=true→K1 f H') (next:AMj P l C jc jt brk (K1 f) Z Q (k+1) R (St.put ⟨Z6 s (some jt) .junk,H',fg,nb⟩ o.dst x)):AMj P l C jc jt brk (K1 f) Z Q k (o::R) ⟨s,H,fg,nb⟩:=
 .jump x H' hc hd hK ((VH hg ho hf hgo h).toJ hd) next
theorem zbF {f:List zb→List zb} {s:List AV} {H:List zb} {fg:List Nat} {nb:YB} (hg:o.guard=none) {fo:Operand} {ao:List Operand} {ts:Array TypeId} (ho:o.op= .call {callee:= .value fo,args:=ao.toArray,argTypes:=ts}) {g:FuncId} {fa ca:List AV} (hf:evS s fo= .fn (.func g) fa ca) (hgo:ze P g)
 {q:Prop} {args':List AV} {used:List Nat} (ht:Yf (thaw H 4) (fa++ao.map (evS s)++ca)=some (q,args',used)) (hq:q) {x:AV} {N:List zb} (h:APure P g args' x N) (hc:(C.contains k && k !=jc)=true) (hz:o.dst=some jt∨Z (ren (sh H.length) 4 x)) (hd:(Nat.blt jc k && o.dst==some jt)=false) (hK:Nat.blt k brk=true→K1 f (Z' used 0 H++N.map (Z4 (sh H.length))))
 (next:AMj P l C jc jt brk (K1 f) Z Q (k+1) R (St.put ⟨s,Z' used 0 H++N.map (Z4 (sh H.length)),fg,nb⟩ o.dst (ren (sh H.length) 4 x))):AMj P l C jc jt brk (K1 f) Z Q k (o::R) ⟨s,H,fg,nb⟩:=
 .chain _ _ hc hz hd hK (JY hg ho hf hgo ht hq h) next
theorem zcc (hT:zI P tab) {f:List zb→List zb} {s:List AV} {H H':List zb} {fg:List Nat} {nb:YB} (hg:o.guard=none) {t:TypeId} {px xx:Operand} (ho:o.op= .store t px xx) {q:Prop} (h:vc tab H t (evS s px) (evS s xx)=some (q,H')) (hq:q) (hdn:o.dst=none) (hc:(C.contains k && k !=jc)=true) (hK:Nat.blt k brk=true→K1 f H')
 (hz:Z (.lit undef)) (next:AMj P l C jc jt brk (K1 f) Z Q (k+1) R ⟨s,H',fg,nb⟩):AMj P l C jc jt brk (K1 f) Z Q k (o::R) ⟨s,H,fg,nb⟩:=by
 refine .chain (.lit undef) H' hc (.inr hz) (by rw [hdn];simp) hK (fun s' hev Q R next=> ?_) (by rw [hdn];exact next);have h1:=hev px (by rw [ho];simp [Op.operands]);have h2:=hev xx (by rw [ho];simp [Op.operands]);exact wN (σ:=⟨s',H,fg,nb⟩) hT (xc hg) ho (by rw [h1,h2];exact h) hq next
theorem gD (hT:zI P tab) {f:List zb→List zb} {s:List AV} {H H':List zb} {fg:List Nat} {nb:YB} {id:Nat} (hg:o.guard=none) {t:TypeId} {sx xx:Operand} (ho:o.op= .call {callee:= .builtin .append,args:= #[sx,xx],argTypes:= #[t,t]}) {q:Prop} {y:AV}
 (h:jK tab H t (evS s sx) (evS s xx)=some (q,y,H',some id)) (hq:q) (hb:Nat.blt id nb.n=false) (hc:(C.contains k && k==jc)=true) (hd:(o.dst==some jt)=false) (hK:Nat.blt k brk=true→K1 f H')
 (next:AMj P l C jc jt brk (K1 f) (fun v=>ZO id 4 v=v) Q (k+1) R (St.put ⟨Z6 s (some jt) .junk,H',fg,nb⟩ o.dst y)):AMj P l C jc jt brk (K1 f) (fun v=>ZO id 4 v=v) Q k (o::R) ⟨s,H,fg,nb⟩:=by
 refine .jump y H' hc hd hK (fun s' hev hZ Q R next=> ?_) next;have h1:=hev sx (by rw [ho];simp [Op.operands,Call.operands]);have h2:=hev xx (by rw [ho];simp [Op.operands,Call.operands]);refine ZT (σ:=⟨s',H,fg,nb⟩) hT (xc hg) ho (by rw [h1,h2];exact h) hq ?_;refine zz ?_ next;simp only [St.behind,hb];rw [Zg,Zg];refine .le (zeP (by simp [xt]) fun t' a b ha hb'=> ?_) (LeH.refl _);simp only at ha hb';by_cases hdt:o.dst=some t'
 ·have hl:t'<s'.length:=by have:=(List.getElem?_eq_some_iff.1 hb').1;simpa [xt] using this
  rw [hdt,Wg (by simpa using hl)] at ha;rw [hdt,Wg (by simpa [xt] using hl)] at hb';injection ha with ha;injection hb' with hb';subst ha hb';exact .refl _
 ·rw [Wd hdt] at ha hb';by_cases ht:t'=jt
  ·subst ht;have hl:t'<s'.length:=by have:=(List.getElem?_eq_some_iff.1 hb').1;simpa [xt] using this
   rw [Wg hl] at hb';injection hb' with hb';subst hb';exact .junk _
  ·rw [Wd (by intro e;injection e with e;exact ht e.symm)] at hb';rw [List.getElem?_map,hb'] at ha;injection ha with ha;subst ha
   exact .eq (hZ t' b hb' ht)
theorem uU {K:List zb→Prop} {σ:St} (h:AMj P l C jc jt brk K Z Q k (o::R) σ):AMj P l C jc jt brk K Z Q k (o::R) σ:=h
theorem Yv (hmx:P.follows .mixedOrders=true) {id:Nat} {σ:St} (C:List Nat) (jc jt brk:Nat) (f:List zb→List zb) {t:List zb} (hH:σ.H=f t) (hok:okM l C=true) (hj:okJ l C jc jt brk=true) (hBC:(C.contains brk||Nat.ble l.length brk)=true) (hCl:(C.all fun i=>Nat.blt i l.length)=true) (h:AMj P l C jc jt brk (K1 f) (fun _=>True) Q 0 l σ):AW P none (.region id l.toArray true) Q σ:=
 HF hmx C jc jt brk (K1 f) (fun _=>True) ⟨t,hH⟩ (fun _ _ _ _=>trivial) hok hj hBC hCl h
theorem zgd (hmx:P.follows .mixedOrders=true) {id:Nat} {σ:St} (C:List Nat) (jc jt brk:Nat) (f:List zb→List zb) (rid:Nat) {t:List zb} (hH:σ.H=f t) (hZ:σ.s.map (ZO rid 4)=σ.s) (hok:okM l C=true) (hj:okJ l C jc jt brk=true) (hBC:(C.contains brk||Nat.ble l.length brk)=true) (hCl:(C.all fun i=>Nat.blt i l.length)=true) (h:AMj P l C jc jt brk (K1 f) (fun v=>ZO rid 4 v=v) Q 0 l σ):AW P none (.region id l.toArray true) Q σ:=
 HF hmx C jc jt brk (K1 f) (fun v=>ZO rid 4 v=v) ⟨t,hH⟩ (fun t v hv _=>by
  rw [←hZ,List.getElem?_map,Option.map_eq_some_iff] at hv;obtain ⟨u,hu,hv⟩:=hv;have:(σ.s.map (ZO rid 4))[t]?=some u:=by rw [hZ];exact hu
  rw [List.getElem?_map,hu] at this;injection this with this
  rw [←hv,this,this]) hok hj hBC hCl h
end
section
attribute [local irreducible] zA AO zt zo ADr AL AW zF zh zU Tells APure ACall
theorem mc13 {G A:Prop} (k:Hold G) (h:Hold G→A:=by
 intro k;conv=>arg 12;try simp only [evS,W_,W0,ZX,St.put,St.behind,Qz,St.ev,Z6,setn,nth,Option.getD,lits,List.map_cons,List.map_nil,List.take,List.drop,List.nil_append,List.cons_append,List.append_nil,List.length_nil,List.length_cons,Nat.reduceAdd,Nat.zero_add,Nat.add_zero,List.map,Ja,ren,sh,yS,Yt]
 exact k.1):A:=h k
theorem vX {G A:Prop} (k:Hold G) (h:Hold G→A:=by
 intro k;refine mc13 ⟨?_⟩;exact k.1):A:=h k
theorem mf0 {G A:Prop} (k:Hold G) (h:Hold G→A:=by
 intro k
 (conv=>arg 12;try simp only [evS,W_,W0,ZX,St.put,St.behind,Qz,St.ev,Z6,setn,nth,Option.getD,lits,List.map_cons,List.map_nil,List.take,List.drop,List.nil_append,List.cons_append,List.append_nil,List.length_nil,List.length_cons,Nat.reduceAdd,Nat.zero_add,Nat.add_zero])
 exact k.1):A:=h k
theorem jx {G A:Prop} (k:Hold G) (h:Hold G→A:=by
 intro k;repeat (first|((with_reducible refine uU ?_);refine zcc hT rfl rfl rfl (by refine ⟨?_, ?_⟩ <;>first|exact Nat.zero_lt_one|exact ⟨rfl,rfl⟩|exact fun _=>rfl|exact fun h=>by cases h|decide|omega) rfl rfl (fun h=>by first|exact ⟨_,rfl⟩|cases h) (by first|trivial|rfl) ?_;(refine mf0 ⟨?_⟩))|((with_reducible refine uU ?_);refine zcM hT rfl (fun _=>rfl) (by first|exact True.intro|exact Nat.le_refl _|rfl|decide|omega|exact ⟨rfl,rfl⟩|exact ⟨rfl,by omega⟩|(simp only [IntKind.wrap_i64,IntKind.wrap_u64];omega)) rfl (by first|exact .inr trivial|exact .inr rfl|exact .inl rfl) rfl ?_;(refine mf0 ⟨?_⟩)))
 exact k.1):A:=h k
theorem mf11 {G A:Prop} (k:Hold G) (h:Hold G→A:=by
 intro k
 (conv=>arg 8;try simp only [ZX,St.put,St.behind,Qz,St.ev,setn,nth,Option.getD,lits,List.map_cons,List.map_nil,List.take,List.drop,List.nil_append,List.cons_append,List.append_nil,List.length_nil,List.length_cons,Nat.reduceAdd,Nat.zero_add,Nat.add_zero])
 exact k.1):A:=h k
theorem kx {G A:Prop} (k:Hold G) (h:Hold G→A:=by
 intro k;repeat (first|((with_reducible refine U0 ?_);refine gj hT rfl rfl rfl (by refine ⟨?_, ?_⟩ <;>first|exact Nat.zero_lt_one|exact ⟨rfl,rfl⟩|exact fun _=>rfl|exact fun h=>by cases h|decide|omega) rfl rfl rfl ?_;(refine mf11 ⟨?_⟩))|((with_reducible refine U0 ?_);refine zbm hT rfl (fun _ _=>rfl) (by first|exact True.intro|exact Nat.le_refl _|rfl|decide|omega|exact ⟨rfl,rfl⟩|exact ⟨rfl,by omega⟩|(simp only [IntKind.wrap_i64,IntKind.wrap_u64];omega)) rfl ?_;(refine mf11 ⟨?_⟩)))
 exact k.1):A:=h k
theorem Q8 {G A C D:Prop} (g:D) (c:C) (k:Hold G) (h:D→C→Hold G→A:=by
 intro g c k;refine zfE rfl rfl rfl g (fun _=>rfl) (by repeat' (first|exact trivial|exact Nat.le_refl _|refine And.intro ?_ ?_|omega)) (fun _=>rfl) c (by exact les) rfl (by first|exact .inr trivial|exact .inr rfl|exact .inl rfl) rfl ?_;refine mc13 ⟨?_⟩;exact k.1):A:=h g c k
theorem zeE {G A C D:Prop} (g:D) (c:C) (k:Hold G) (h:D→C→Hold G→A:=by
 intro g c k;refine zbk rfl rfl rfl g c rfl rfl (fun h=>by first|exact ⟨_,rfl⟩|cases h) ?_;refine mc13 ⟨?_⟩;exact k.1):A:=h g c k
theorem zim {G A C D:Prop} (g:D) (c:C) (k:Hold G) (h:D→C→Hold G→A:=by
 intro g c k;refine zbF rfl rfl rfl g rfl (by repeat' (first|exact trivial|exact Nat.le_refl _|refine And.intro ?_ ?_|omega)) c rfl (by first|exact .inr trivial|exact .inr rfl|exact .inl rfl) rfl (fun h=>by first|exact ⟨_,rfl⟩|cases h) ?_;refine mc13 ⟨?_⟩;exact k.1):A:=h g c k
theorem Zs {A:Prop} (h:A:=by
 refine Wc rfl (by repeat' (first|exact trivial|exact Nat.le_refl _|exact Nat.zero_lt_one|refine And.intro ?_ ?_|decide|omega)) ⟨rfl,rfl,rfl⟩ ((Tells.sel [0,1,2,3] rfl rfl).trans (Tells.le ?_ ?_))
 ·exact les
 ·exact leh):A:=h
theorem zes {A:Prop} (h:A:=by
 refine Wc rfl (by repeat' (first|exact trivial|exact Nat.le_refl _|exact Nat.zero_lt_one|refine And.intro ?_ ?_|decide|omega)) ⟨rfl,rfl,rfl⟩ ((Tells.sel [0,1,2,3,4,5] rfl rfl).trans (Tells.le ?_ ?_))
 ·exact les
 ·exact leh):A:=h
def yu (t:zc) (o:MOp):zc×wX×Bool:=
 if o.what=1 then (if (yw t o.l).2.2=0 then ((yw t o.l).1,⟨0,(yw t o.l).2.1,[],[],false⟩,true) else ([],zu (yw t o.l).2.2,true))
 else if o.what=2 then ((ZC t o.i).1,zu (ZC t o.i).2,true)
 else if o.what=3 then ((Zy t o.i o.l).1,zu (Zy t o.i o.l).2,true)
 else if o.what=4 then ((ZA t o.i o.l o.keys).1,zu (ZA t o.i o.l o.keys).2,true)
 else if o.what=8 then ((xW o.b).1,zu (xW o.b).2,true)
 else ([],zu 0,false)
abbrev zk' (p:zc×wX×Bool):AV:= .tup [zg p.1,X4 p.2.1, .lit (.bool p.2.2)]
set_option maxHeartbeats 800000 in
theorem KZ (t:zc) (o:MOp) (ht:t.length≤1000000) (hk:o.keys.length≤1000000):APure Tryz.prog 46 [zg t,opA o] (zk' (yu t o)) []:=by
 refine ent Tryz.func46 Tryz.ntmps46 ⟨?_⟩;obtain ⟨w,i,l,ks,b,old⟩:=o;simp only at hk;have hw:w=1∨w=2∨w=3∨w=4∨w=8∨(w≠1∧w≠2∧w≠3∧w≠4∧w≠8):=by omega
 rcases hw with rfl|rfl|rfl|rfl|rfl|⟨h1,h2,h3,h4,h8⟩
 ·refine go ⟨?_⟩;have hc:=zjn t l ht;have hE:yu t ⟨1,i,l,ks,b,old⟩=if (yw t l).2.2=0 then ((yw t l).1,⟨0,(yw t l).2.1,[],[],false⟩,true) else ([],zu (yw t l).2.2,true):=by simp [yu]
  rw [hE];generalize yw t l=p at*;obtain ⟨u,n,e⟩:=p;simp only at hc ⊢;refine cal ze4 hc ⟨?_⟩;by_cases he:e=0
  ·rw [if_pos he];subst he;exact gf
  ·rw [if_neg he];exact gcgf Zl (Zk e)
 ·skip
  refine go ⟨?_⟩;have hc:=zbu t i ht;have hE:yu t ⟨2,i,l,ks,b,old⟩=((ZC t i).1,zu (ZC t i).2,true):=by simp [yu]
  rw [hE];generalize (ZC t i).1=u at*;generalize (ZC t i).2=e at*;refine cg P4 hc ⟨?_⟩;exact cgf Zl (Zk e)
 ·skip
  refine go ⟨?_⟩;have hc:=zbP t i l ht;have hE:yu t ⟨3,i,l,ks,b,old⟩=((Zy t i l).1,zu (Zy t i l).2,true):=by simp [yu]
  rw [hE];generalize (Zy t i l).1=u at*;generalize (Zy t i l).2=e at*;refine cg tL hc ⟨?_⟩;exact cgf Zl (Zk e)
 ·skip
  refine go ⟨?_⟩;have hc:=zbQ t i l ks ht hk;have hE:yu t ⟨4,i,l,ks,b,old⟩=((ZA t i l ks).1,zu (ZA t i l ks).2,true):=by simp [yu]
  rw [hE];generalize (ZA t i l ks).1=u at*;generalize (ZA t i l ks).2=e at*;refine cg PZ hc ⟨?_⟩;exact cgf Zl (Zk e)
 ·skip
  refine go ⟨?_⟩;have hc:=zdy b;have hE:yu t ⟨8,i,l,ks,b,old⟩=((xW b).1,zu (xW b).2,true):=by simp [yu]
  rw [hE];generalize (xW b).1=u at*;generalize (xW b).2=e at*;refine cg zc1 hc ⟨?_⟩;exact cgf Zl (Zk e)
 ·have hE:yu t ⟨w,i,l,ks,b,old⟩=([],zu 0,false):=by simp [yu,h1,h2,h3,h4,h8]
  rw [hE];exact gf
theorem kU:ze Tryz.prog 46:=gfn Tryz.func46
theorem mc14 {G A:Prop} (k:Hold G) (h:Hold G→A:=by
 intro k;simp only [yS,Yt,wP,setn,zhv,List.map,ren,idx,fgs,fgk,List.filter,List.foldl,List.length_cons,List.length_nil,Nat.reduceAdd,Option.map,Nat.reduceBEq,beq_self_eq_true,cond_true,cond_false];exact k.1):A:=h k
set_option maxHeartbeats 1000000 in
theorem zfp (s:MSt) (hs:Zd s=true):APure Tryz.prog 44 [stA s] (.tup [stA (yN s).1,X4 (yN s).2]) []:=by
 refine ent Tryz.func44 Tryz.ntmps44 ⟨?_⟩;obtain ⟨last,g1,g2,g3,g4,g5⟩:=(Yb s).1 hs;have g0:=Wx _ _ _ g1;have hl:=yq g2;obtain ⟨t,l,nx⟩:=s;unfold yN;simp only at g3 g4 g5 hl ⊢;refine go ⟨?_⟩;by_cases h1:l.length=8
 ·rw [if_pos (.inl h1)];exact gcgf Zl (Zk 10)
 refine go ⟨?_⟩;by_cases h2:nx=1099511627776
 ·rw [if_pos (.inr h2)];exact gcgf Zl (Zk 10)
 rw [if_neg (by omega)];have e1:IntKind.i64.wrap (nx+1)=nx+1:=by simp only [IntKind.wrap_i64];omega
 refine go ⟨?_⟩;refine app (fE ZH l) hT rfl rfl rfl rfl (fun k hk=>WB (xs:=[]) rfl hk) ?_;refine ng ⟨?_⟩;rw [e1];refine go ⟨?_⟩;simp only [ZX,List.take,List.drop,List.length_cons,List.length_nil,Nat.reduceAdd,List.nil_append,List.cons_append,List.append_nil];refine app (fE ZH (l++[⟨nx+1,t⟩])) hT rfl rfl rfl rfl (fun k hk=>ZZ (e:=ZH) rfl rfl hk) ?_;refine ng ⟨?_⟩;refine zr (Tells.thaw (t:=4) rfl rfl (by repeat' (first|exact trivial|exact Nat.le_refl _|exact Nat.le_of_eq (Nat.zero_add _)|omega|exact rfl|refine And.intro ?_ ?_))) ?_;refine mc12 ⟨?_⟩;refine zr (Tells.sel [0,1,2] rfl rfl) ?_;refine mc14 ⟨?_⟩;refine vI y8 [11,12] (fun a b=>[{T:=25,sz:=3,n:=1,f:=fun _=>stC ⟨t,l,nx⟩,box:=true},a,b]) rfl (by kernel_rfl) (by kernel_rfl) ?_;refine kx ⟨?_⟩;rw [e1];refine AMk.nil ?_;exact gf
theorem zcq:ze Tryz.prog 44:=gfn Tryz.func44
theorem Zj {s:MSt} (h:Zd s=true):SOk s∧s.kept.length≤8:=by
 obtain ⟨last,g1,g2,g3,g4,g5⟩:=(Yb s).1 h;have hl:=yq g2;refine ⟨⟨by omega,by omega,fun k hk=> ?_⟩,g3⟩;have:=yq ((Xy _ _ _ g1).1 k hk).1
 omega
theorem zbr (x:MSt) (o:MOp) (h:o.what=1∨o.what=2∨o.what=3∨o.what=4∨o.what=8):(yu x.t o).2.2=true∧
 Yq x o=if (yu x.t o).2.1.e=0 then (⟨(yu x.t o).1,x.kept,x.next⟩,(yu x.t o).2.1) else (x,(yu x.t o).2.1):=by
 obtain ⟨w,i,l,ks,b,old⟩:=o;simp only at h;rcases h with rfl|rfl|rfl|rfl|rfl
 ·by_cases he:(yw x.t l).2.2=0
  ·simp [yu,Yq,he]
  ·simp [yu,Yq,he]
 ·simp [yu,Yq,Z1]
 ·simp [yu,Yq,Z1]
 ·simp [yu,Yq,Z1]
 ·simp [yu,Yq,Z1]
theorem US (t:zc) (o:MOp) (h: ¬(o.what=1∨o.what=2∨o.what=3∨o.what=4∨o.what=8)):yu t o=([],zu 0,false):=by
 simp only [not_or] at h;simp [yu,h]
theorem Hb (x:MSt) (o:MOp) (h:o.what<1∨15<o.what):Yq x o=(x,zu 14):=by
 unfold Yq;rw [if_neg (by omega),if_neg (by omega),if_neg (by omega),if_neg (by omega),if_neg (by omega),if_neg (by omega),if_neg (by omega),if_neg (by omega),if_pos (by omega)]
theorem yY (x:MSt) (o:MOp) (h:9≤o.what∧o.what≤15):Yq x o=if o.old=0 then (x,ZL x.t o) else if zq x o.old<0 then (x,zu 13) else (x,ZL (x.kept.getD (zq x o.old).toNat ⟨0,[]⟩).t o):=by
 unfold Yq;rw [if_neg (by omega),if_neg (by omega),if_neg (by omega),if_neg (by omega),if_neg (by omega),if_neg (by omega),if_neg (by omega),if_neg (by omega),if_neg (by omega)]
abbrev Wh (s:MSt):zb:={T:=25,sz:=3,n:=1,f:=fun _=>stC s,box:=true}
abbrev yD (o:MOp):zb:={T:=31,sz:=9,n:=1,f:=fun _=>opC o,box:=true}
abbrev Pd (a:wX):zb:={T:=38,sz:=5,n:=1,f:=fun _=>zfU a,box:=true}
abbrev DoP (s:MSt) (o:MOp):Prop:=APure Tryz.prog 13 [stA s,opA o] (.tup [stA (mDo s o).1,X4 (mDo s o).2]) []
set_option maxHeartbeats 1000000 in
theorem zkG (s:MSt) (hs:SOk s) (w i:Int) (l:zM) (ks:List (List UInt8)) (b:List UInt8) (old:Int) (hw:w=5):DoP s ⟨w,i,l,ks,b,old⟩:=by
 refine ent Tryz.func13 Tryz.ntmps13 ⟨?_⟩;have hsx:=wE s;have hc:=Jp s hs;rw [xi];refine gc Jv hc ⟨?_⟩;obtain ⟨hok,hk8⟩:=Zj hsx;generalize mAs s=x at*;refine go ⟨?_⟩;have hpl:= @yb x i
 refine cal Wz (WE x hok.2.1 i) ⟨?_⟩;generalize zq x i=k at*;have hD:Yq x ⟨w,i,l,ks,b,old⟩=yN x:=by subst hw;simp [Yq]
 rw [hD];refine go ⟨?_⟩;have hc2:=zfp x hsx;generalize yN x=p at*;obtain ⟨y,a⟩:=p;exact cgf zcq hc2
set_option maxHeartbeats 1000000 in
theorem zlh (s:MSt) (hs:SOk s) (w i:Int) (l:zM) (ks:List (List UInt8)) (b:List UInt8) (old:Int) (hw:w=6):DoP s ⟨w,i,l,ks,b,old⟩:=by
 refine ent Tryz.func13 Tryz.ntmps13 ⟨?_⟩;have hsx:=wE s;have hc:=Jp s hs;rw [xi];refine gc Jv hc ⟨?_⟩;obtain ⟨hok,hk8⟩:=Zj hsx;generalize mAs s=x at*;refine go ⟨?_⟩;have hpl:= @yb x i
 refine cal Wz (WE x hok.2.1 i) ⟨?_⟩;have hD:Yq x ⟨w,i,l,ks,b,old⟩=if zq x i<0 then (x,zu 13) else (⟨(x.kept.getD (zq x i).toNat ⟨0,[]⟩).t,x.kept,x.next⟩,zu 0):=by subst hw;simp [Yq]
 rw [hD];generalize zq x i=k at*;by_cases hk:k<0
 ·rw [if_pos hk];exact gcgf Zl (Zk 13)
 ·rw [if_neg hk];obtain ⟨hp,_,hp0⟩:=hpl hk;obtain ⟨n,rfl⟩: ∃n:Nat,k=n:=⟨k.toNat,by omega⟩;simp only [Int.toNat_natCast] at hp ⊢;refine go ⟨?_⟩;refine vI y8 [12,13] (fun a b'=>[Wh s,yD ⟨w,i,l,ks,b,old⟩,a,b',Wh x]) rfl (by kernel_rfl) (by kernel_rfl) ?_;refine kx ⟨?_⟩;refine AMk.nil ?_;exact gf
set_option maxHeartbeats 1000000 in
theorem zlr (s:MSt) (hs:SOk s) (w i:Int) (l:zM) (ks:List (List UInt8)) (b:List UInt8) (old:Int) (hw:w=7):DoP s ⟨w,i,l,ks,b,old⟩:=by
 refine ent Tryz.func13 Tryz.ntmps13 ⟨?_⟩;have hsx:=wE s;have hc:=Jp s hs;rw [xi];refine gc Jv hc ⟨?_⟩;obtain ⟨hok,hk8⟩:=Zj hsx;generalize mAs s=x at*;refine go ⟨?_⟩;have hpl:= @yb x i
 refine cal Wz (WE x hok.2.1 i) ⟨?_⟩;have hD:Yq x ⟨w,i,l,ks,b,old⟩=if zq x i<0 then (x,zu 13) else (⟨x.t,x.kept.eraseIdx (zq x i).toNat,x.next⟩,zu 0):=by subst hw;simp [Yq]
 rw [hD];generalize zq x i=k at*;by_cases hk:k<0
 ·rw [if_pos hk];exact gcgf Zl (Zk 13)
 ·rw [if_neg hk];obtain ⟨hp,_,hp0⟩:=hpl hk;obtain ⟨n,rfl⟩: ∃n:Nat,k=n:=⟨k.toNat,by omega⟩;simp only [Int.toNat_natCast] at hp ⊢;have e1:IntKind.i64.wrap ((n:Int)+1)=((n+1:Nat):Int):=by simp only [IntKind.wrap_i64];omega
  have hl1:(x.kept.take n).length=n:=List.length_take_of_le (by omega)
  have hl2:(x.kept.drop (n+1)).length=x.kept.length - (n+1):=List.length_drop ..
  rw [List.eraseIdx_eq_take_drop_succ];refine go ⟨?_⟩;refine zz (Tells.slot 67 (jX (x.kept.take n)) rfl (u4 (e:=ZH) rfl (by simp only [Zh];omega) (fun h=>by cases h) (by simp [Zh,zK]))) ?_;refine nz ⟨?_⟩;generalize hT1:x.kept.take n=t1 at*;refine app (fE ZH t1) hT rfl rfl rfl rfl (fun k hk=>WB (xs:=[]) rfl hk) ?_;refine ng ⟨?_⟩;rw [e1];refine go ⟨?_⟩;refine zz (Tells.slot 74 (jX (x.kept.drop (n+1))) rfl (u4 (e:=ZH) rfl (by simp only [Zh];omega) (fun h=>by cases h) (by simp [Zh,zK]))) ?_;refine nz ⟨?_⟩;generalize hT2:x.kept.drop (n+1)=t2 at*;refine app (fE ZH (t1++t2)) hT rfl rfl rfl rfl (fun k hk=>WB rfl hk) ?_;refine nz ⟨?_⟩;rw [←List.length_append];refine go ⟨?_⟩;refine zfq rfl (by repeat' (first|exact trivial|exact Nat.le_refl _|exact Nat.zero_lt_one|refine And.intro ?_ ?_|decide|omega)) rfl ?_;refine (Tells.thaw (t:=0) rfl rfl (by repeat' (first|exact trivial|exact Nat.le_refl _|exact Nat.le_of_eq (Nat.zero_add _)|omega|refine And.intro ?_ ?_))).trans ((Tells.sel [] rfl rfl).trans (Tells.le ?_ .nil));exact les
set_option maxHeartbeats 1000000 in
theorem zdX (s:MSt) (hs:SOk s) (w i:Int) (l:zM) (ks:List (List UInt8)) (b:List UInt8) (old:Int) (hk:ks.length≤1000000) (hw:w=1∨w=2∨w=3∨w=4∨w=8):DoP s ⟨w,i,l,ks,b,old⟩:=by
 refine ent Tryz.func13 Tryz.ntmps13 ⟨?_⟩;have hsx:=wE s;have hc:=Jp s hs;rw [xi];refine gc Jv hc ⟨?_⟩;obtain ⟨hok,hk8⟩:=Zj hsx;generalize mAs s=x at*;refine go ⟨?_⟩;have hpl:= @yb x i
 refine cal Wz (WE x hok.2.1 i) ⟨?_⟩;generalize zq x i=k at*;obtain ⟨hE,hD⟩:=zbr x ⟨w,i,l,ks,b,old⟩ hw;rw [hD];have hc2:=KZ x.t ⟨w,i,l,ks,b,old⟩ hok.1 hk;generalize yu x.t ⟨w,i,l,ks,b,old⟩=p at*;obtain ⟨u,a,is⟩:=p;simp only at hE;subst hE;simp only;refine gcg kU hc2 ⟨?_⟩;by_cases he:a.e=0
 ·rw [if_pos he,beq_iff_eq.2 he];refine go ⟨?_⟩;refine vI y8 [2,3] (fun c d=>[Wh s,yD ⟨w,i,l,ks,b,old⟩,c,d,Wh ⟨u,x.kept,x.next⟩,Pd a]) rfl (by kernel_rfl) (by kernel_rfl) ?_;refine kx ⟨?_⟩;refine AMk.nil ?_;exact gf
 ·rw [if_neg he,beq_eq_false_iff_ne.2 he];refine go ⟨?_⟩;refine vI y8 [2,3] (fun c d=>[Wh s,yD ⟨w,i,l,ks,b,old⟩,c,d,Wh x,Pd a]) rfl (by kernel_rfl) (by kernel_rfl) ?_;refine kx ⟨?_⟩;refine AMk.nil ?_;exact gf
set_option maxHeartbeats 1000000 in
theorem ziV (s:MSt) (hs:SOk s) (w i:Int) (l:zM) (ks:List (List UInt8)) (b:List UInt8) (old:Int) (hk:ks.length≤1000000) (hw:w<1∨15<w):DoP s ⟨w,i,l,ks,b,old⟩:=by
 refine ent Tryz.func13 Tryz.ntmps13 ⟨?_⟩;have hsx:=wE s;have hc:=Jp s hs;rw [xi];refine gc Jv hc ⟨?_⟩;obtain ⟨hok,hk8⟩:=Zj hsx;generalize mAs s=x at*;refine go ⟨?_⟩;have hpl:= @yb x i
 refine cal Wz (WE x hok.2.1 i) ⟨?_⟩;generalize zq x i=k at*;rw [Hb x ⟨w,i,l,ks,b,old⟩ hw];have hc2:=KZ x.t ⟨w,i,l,ks,b,old⟩ hok.1 hk;rw [US x.t ⟨w,i,l,ks,b,old⟩ (by simp only;omega)] at hc2;refine gcg kU hc2 ⟨?_⟩;rcases hw with hw|hw
 ·exact gcgf Zl (Zk 14)
 ·exact gcgf Zl (Zk 14)
set_option maxHeartbeats 1000000 in
theorem zh2 (s:MSt) (hs:SOk s) (w i:Int) (l:zM) (ks:List (List UInt8)) (b:List UInt8) (old:Int) (hk:ks.length≤1000000) (hw:9≤w∧w≤15):DoP s ⟨w,i,l,ks,b,old⟩:=by
 refine ent Tryz.func13 Tryz.ntmps13 ⟨?_⟩;have hsx:=wE s;have hc:=Jp s hs;rw [xi];refine gc Jv hc ⟨?_⟩;obtain ⟨hok,hk8⟩:=Zj hsx;generalize mAs s=x at*;refine go ⟨?_⟩;have hpl:= @yb x i
 refine cal Wz (WE x hok.2.1 i) ⟨?_⟩;generalize zq x i=k at*;rw [yY x ⟨w,i,l,ks,b,old⟩ hw];have hc2:=KZ x.t ⟨w,i,l,ks,b,old⟩ hok.1 hk;rw [US x.t ⟨w,i,l,ks,b,old⟩ (by simp only;omega)] at hc2;have hpl:= @yb x old
 simp only;refine gcg kU hc2 ⟨?_⟩;by_cases ho:old=0
 ·rw [if_pos ho,bne_eq_false_iff_eq.2 ho];have hc3:=zdN x.t ⟨w,i,l,ks,b,old⟩ hok.1;generalize ZL x.t ⟨w,i,l,ks,b,old⟩=a at*;exact gcgf zcX hc3
 ·rw [if_neg ho,bne_iff_ne.2 ho];refine go ⟨?_⟩;have hc4:=WE x hok.2.1 old;have hat:=fun n=>hok.at (i:=n)
  generalize zq x old=j at*;refine cg Wz hc4 ⟨?_⟩;by_cases hj:j<0
  ·rw [if_pos hj];exact gcgf Zl (Zk 13)
  ·rw [if_neg hj];obtain ⟨hp,_,hp0⟩:=hpl hj;obtain ⟨n,rfl⟩: ∃n:Nat,j=n:=⟨j.toNat,by omega⟩;simp only [Int.toNat_natCast] at hp ⊢;have hc3:=zdN (x.kept.getD n ⟨0,[]⟩).t ⟨w,i,l,ks,b,old⟩ (hat n hp);have hz:x.kept.getD n ZH.z=x.kept.getD n ⟨0,[]⟩:=rfl
   have ef:fE ZH x.kept n=Xb (x.kept.getD n ⟨0,[]⟩):=rfl
   refine go ⟨?_⟩;try rw [ef]
   refine go ⟨?_⟩;try rw [hz]
   generalize x.kept.getD n ⟨0,[]⟩=y at*;generalize ZL y.t ⟨w,i,l,ks,b,old⟩=a at*;exact gcgf zcX hc3
theorem zk_ (s:MSt) (o:MOp) (hs:SOk s) (hk:o.keys.length≤1000000):DoP s o:=by
 obtain ⟨w,i,l,ks,b,old⟩:=o;by_cases h5:w=5
 ·exact zkG s hs w i l ks b old h5
 by_cases h6:w=6
 ·exact zlh s hs w i l ks b old h6
 by_cases h7:w=7
 ·exact zlr s hs w i l ks b old h7
 by_cases he:w=1∨w=2∨w=3∨w=4∨w=8
 ·exact zdX s hs w i l ks b old hk he
 by_cases ha:9≤w∧w≤15
 ·exact zh2 s hs w i l ks b old hk ha
 ·exact ziV s hs w i l ks b old hk (by omega)
theorem zkN:ze Tryz.prog 13:=gfn Tryz.func13
theorem zbf (l:List MOp) (o:MOp) (s:MSt):wB s (l++[o])=wB s l++[(mDo (zw s l) o).2]:=by rw [QB];rfl
theorem Wi (l:List MOp) (o:MOp) (s:MSt):zw s (l++[o])=(mDo (zw s l) o).1:=by rw [QQ];rfl
def KOk (l:List MOp):Prop:= ∀o∈l,o.keys.length≤1000000
theorem zks (a b:wX):decide (a=b)=(decide (a.e=b.e) && decide (a.n=b.n) && decide (a.l=b.l) && decide (a.b=b.b) && decide (a.is=b.is)):=by
 cases a;cases b
 rw [Bool.eq_iff_iff];simp only [Bool.and_eq_true,decide_eq_true_eq,wX.mk.injEq,and_assoc]
set_option maxHeartbeats 1000000 in
theorem zdr (a b:wX) (hl:a.l.length≤140737488355328∨b.l.length≤140737488355328):APure Tryz.prog 17 [X4 a,X4 b] (.lit (.bool (decide (a=b)))) []:=by
 refine ent Tryz.func17 Tryz.ntmps17 ⟨?_⟩;have hc:=GP a.l b.l hl;rw [zks];obtain ⟨e,n,l,c,is⟩:=a;obtain ⟨e',n',l',c',is'⟩:=b;simp only at hc ⊢;refine go ⟨?_⟩;by_cases h1:e=e'
 rotate_left
 ·rw [decide_eq_false h1,beq_eq_false_iff_ne.2 h1];exact gf
 rw [decide_eq_true h1,beq_iff_eq.2 h1];refine go ⟨?_⟩;by_cases h2:n=n'
 rotate_left
 ·rw [decide_eq_false h2,beq_eq_false_iff_ne.2 h2];exact gf
 rw [decide_eq_true h2,beq_iff_eq.2 h2];refine gc Gh hc ⟨?_⟩;cases h3:decide (l=l')
 ·exact gf
 refine go ⟨?_⟩;by_cases h4:c=c'
 rotate_left
 ·rw [decide_eq_false h4,beq_eq_false_iff_ne.2 h4];exact gf
 rw [decide_eq_true h4,beq_iff_eq.2 h4];refine go ⟨?_⟩;by_cases h5:is=is'
 ·rw [decide_eq_true h5];subst h5;cases is
  ·exact gf
  ·exact gf
 ·rw [decide_eq_false h5];cases is <;>cases is' <;>first|exact absurd rfl h5|skip
  ·exact gf
  ·exact gf
theorem wD:ze Tryz.prog 17:=gfn Tryz.func17
def UOk (s:MSt):Prop:=(∀n∈s.t,n.inner.unm.length≤140737488355328)∧ ∀k∈s.kept,∀n∈k.t,n.inner.unm.length≤140737488355328
theorem zh' (a b:YW):a=b↔a.id=b.id∧a.t=b.t:=by cases a;cases b;simp
theorem PS (a b:MSt) (ha:SOk a) (hb:UOk b):APure Tryz.prog 16 [stA a,stA b] (.lit (.bool (decide (a=b)))) []:=by
 refine ent Tryz.func16 Tryz.ntmps16 ⟨?_⟩;have hat:=fun i=>ha.at (i:=i)
 obtain ⟨t,l,nx⟩:=a;obtain ⟨t',l',nx'⟩:=b;obtain ⟨h1,h2, -⟩:=ha;obtain ⟨g1,g2⟩:=hb
 have hE:((⟨t,l,nx⟩:MSt)=⟨t',l',nx'⟩)↔l=l'∧nx=nx'∧t=t':=by
  rw [MSt.mk.injEq];exact ⟨fun ⟨a,b,c⟩=>⟨b,c,a⟩,fun ⟨a,b,c⟩=>⟨c,a,b⟩⟩
 simp only at h1 h2 g1 g2 hat;rw [decide_eq_decide.2 hE];refine go ⟨?_⟩;by_cases hlen:l.length=l'.length
 rotate_left
 ·rw [show ((l.length:Int) !=(l'.length:Int))=true from bne_iff_ne.2 (by omega),decide_eq_false (fun h=>hlen (by rw [h.1]))];exact gf
 rw [show ((l.length:Int) !=(l'.length:Int))=false from bne_eq_false_iff_eq.2 (by omega)];refine go ⟨?_⟩;by_cases hnx:nx=nx'
 rotate_left
 ·rw [bne_iff_ne.2 hnx,decide_eq_false (fun h=>hnx h.2.1)];exact gf
 rw [bne_eq_false_iff_eq.2 hnx];refine go ⟨?_⟩;refine lp (fun i:{i:Nat // i≤l.length∧l.take i=l'.take i}=>[(5,int i.1)]) (fun i=>[Wh ⟨t,l,nx⟩,Wh ⟨t',l',nx'⟩]) (fun i=>l.length - i.1) ⟨0,by simp⟩ ?_
 rintro ⟨i,hi,hn⟩
 refine go ⟨?_⟩;refine zj rfl (fun h=> ?_) (fun h=> ?_)
 ·have hlt:i<l.length:=by omega
  have hlt':i<l'.length:=by omega
  have hx:l.getD i ⟨0,[]⟩=l[i]:=by simp [List.getD_eq_getElem?_getD,hlt]
  have hx':l'.getD i ⟨0,[]⟩=l'[i]:=by simp [List.getD_eq_getElem?_getD,hlt']
  have hat:=hat i hlt;have hu:=g2 _ (List.getElem_mem hlt');have hsn:=List.take_succ_eq_append_getElem hlt;have hsn':=List.take_succ_eq_append_getElem hlt'
  have hne:l=l'→l[i]=l'[i]:=fun h=>by subst h;rfl
  rw [←hx] at hsn hne;rw [←hx'] at hu hsn' hne;have ea:fE ZH l i=Xb (l.getD i ⟨0,[]⟩):=rfl
  have eb:fE ZH l' i=Xb (l'.getD i ⟨0,[]⟩):=rfl
  have hz:l.getD i ZH.z=l.getD i ⟨0,[]⟩:=rfl
  have hz':l'.getD i ZH.z=l'.getD i ⟨0,[]⟩:=rfl
  have hc:=Pq (l.getD i ⟨0,[]⟩).t (l'.getD i ⟨0,[]⟩).t hat hu;generalize l.getD i ⟨0,[]⟩=x at*;generalize l'.getD i ⟨0,[]⟩=x' at*;refine go ⟨?_⟩;rw [ea];refine go ⟨?_⟩;rw [eb];refine go ⟨?_⟩;try rw [hz]
  try rw [hz']
  by_cases h3:x.id=x'.id
  rotate_left
  ·rw [bne_iff_ne.2 h3,decide_eq_false (fun h=>h3 (by rw [hne h.1]))];exact gf
  rw [bne_eq_false_iff_eq.2 h3];refine go ⟨?_⟩;try rw [ea]
  refine go ⟨?_⟩;try rw [eb]
  refine go ⟨?_⟩;try rw [hz]
  try rw [hz']
  refine cal Pm hc ⟨?_⟩;by_cases h4:x.t=x'.t
  ·rw [decide_eq_true h4];refine go ⟨?_⟩;refine je ⟨⟨i+1,by omega,by rw [hsn,hsn',hn,(zh' x x').2 ⟨h3,h4⟩]⟩,by simp only;omega, ?_⟩;exact tel
  ·rw [decide_eq_false h4,decide_eq_false (fun h=>h4 (by rw [hne h.1]))];exact gf
 ·obtain rfl:i=l.length:=by omega
  have hab:l=l':=by rw [List.take_length] at hn;rw [hn,hlen,List.take_length]
  refine gc Pm (Pq t t' h1 g1) ⟨?_⟩;rw [show decide (l=l'∧nx=nx'∧t=t')=decide (t=t') from decide_eq_decide.2 ⟨fun h=>h.2.2,fun h=>⟨hab,hnx,h⟩⟩];exact gf
theorem qG:ze Tryz.prog 16:=gfn Tryz.func16
def U_ (s:MSt):Bool:=s.kept.all (fun k=>pO k.t && decide (k.t.length≤20)) && (decide (s.kept.length≤20) && pO s.t && decide (s.t.length≤20))
def FOk (s:MSt):Prop:=s.t.length≤9223372036854775807∧s.kept.length≤9223372036854775807∧ ∀k∈s.kept,k.t.length≤9223372036854775807
theorem zao (s:MSt) (hs:FOk s):APure Tryz.prog 10 [stA s] (.lit (.bool (U_ s))) []:=by
 refine ent Tryz.func10 Tryz.ntmps10 ⟨?_⟩;obtain ⟨t,l,nx⟩:=s;obtain ⟨h1,h2,h3⟩:=hs;simp only at h1 h2 h3;unfold U_;simp only;refine go ⟨?_⟩;refine lp (fun i:{i:Nat // i≤l.length∧(l.take i).all (fun k=>pO k.t && decide (k.t.length≤20))=true}=>[(3,int i.1)]) (fun i=>[Wh ⟨t,l,nx⟩]) (fun i=>l.length - i.1) ⟨0,by simp⟩ ?_
 rintro ⟨i,hi,hn⟩
 refine go ⟨?_⟩;refine zj rfl (fun h=> ?_) (fun h=> ?_)
 ·have hlt:i<l.length:=by omega
  have hx:l.getD i ⟨0,[]⟩=l[i]:=by simp [List.getD_eq_getElem?_getD,hlt]
  have ht:=h3 _ (List.getElem_mem hlt);have hsn:=List.take_succ_eq_append_getElem hlt
  have hall:(pO l[i].t && decide (l[i].t.length≤20))=false→l.all (fun k=>pO k.t && decide (k.t.length≤20))=false:=fun h=>by
   rw [List.all_eq_false];exact ⟨_,List.getElem_mem hlt,by rw [h];simp⟩
  rw [←hx] at ht hsn hall;have ea:fE ZH l i=Xb (l.getD i ⟨0,[]⟩):=rfl
  have hz:l.getD i ZH.z=l.getD i ⟨0,[]⟩:=rfl
  generalize l.getD i ⟨0,[]⟩=x at*;refine go ⟨?_⟩;rw [ea];refine go ⟨?_⟩;try rw [hz]
  refine cal zfP (zdM x.t ht) ⟨?_⟩;cases h4:pO x.t
  ·rw [hall (by rw [h4];rfl)];exact gf
  refine go ⟨?_⟩;try rw [ea]
  refine go ⟨?_⟩;try rw [hz]
  refine go ⟨?_⟩;by_cases h5:x.t.length≤20
  ·refine go ⟨?_⟩;refine je ⟨⟨i+1,by omega,by rw [hsn,List.all_append,hn];simp [h4,h5]⟩,by simp only;omega, ?_⟩;exact tel
  ·rw [hall (by rw [decide_eq_false h5,Bool.and_false])];exact gf
 ·obtain rfl:i=l.length:=by omega
  rw [List.take_length] at hn;rw [hn,Bool.true_and];refine go ⟨?_⟩;by_cases h5:l.length≤20
  rotate_left
  ·rw [decide_eq_false h5];exact gf
  rw [decide_eq_true h5,Bool.true_and];refine gc zfP (zdM t h1) ⟨?_⟩;cases h4:pO t
  ·exact gf
  ·rw [Bool.true_and];exact gf
theorem Hh:ze Tryz.prog 10:=gfn Tryz.func10
def W4 (o:MOp):Bool:=zbq o.l && gU o.keys && decide (o.b.length≤600)
def J7 (l:List MOp):Bool:=l.all W4 && decide (l.length≤40)
def zb3 (l:List MOp):Prop:=l.length≤9223372036854775807∧ ∀o∈l,o.keys.length≤9223372036854775807
theorem VY (l:List MOp) (hl:zb3 l):APure Tryz.prog 18 [ops l] (.lit (.bool (J7 l))) []:=by
 refine ent Tryz.func18 Tryz.ntmps18 ⟨?_⟩;obtain ⟨h1,h2⟩:=hl;unfold J7;refine go ⟨?_⟩;refine lp (fun i:{i:Nat // i≤l.length∧(l.take i).all W4=true}=>[(3,int i.1)]) (fun i=>[]) (fun i=>l.length - i.1) ⟨0,by simp⟩ ?_
 rintro ⟨i,hi,hn⟩
 refine go ⟨?_⟩;refine zj rfl (fun h=> ?_) (fun h=> ?_)
 ·have hlt:i<l.length:=by omega
  have hx:l.getD i Kk=l[i]:=by simp [List.getD_eq_getElem?_getD,hlt]
  have ht:=h2 _ (List.getElem_mem hlt);have hsn:=List.take_succ_eq_append_getElem hlt
  have hall:W4 l[i]=false→l.all W4=false:=fun h=>by
   rw [List.all_eq_false];exact ⟨_,List.getElem_mem hlt,by rw [h];simp⟩
  rw [←hx] at ht hsn hall;have ea:fE eOp l i=opC (l.getD i Kk):=rfl
  have hz:l.getD i eOp.z=l.getD i Kk:=rfl
  generalize l.getD i Kk=x at*;refine go ⟨?_⟩;rw [ea];refine go ⟨?_⟩;try rw [hz]
  refine cal zdG (zdi x.l) ⟨?_⟩;cases h4:zbq x.l
  ·rw [hall (by unfold W4;rw [h4];rfl)];exact gf
  refine go ⟨?_⟩;try rw [ea]
  refine go ⟨?_⟩;try rw [hz]
  refine cal zdD (ze7 x.keys ht) ⟨?_⟩;cases h5:gU x.keys
  ·rw [hall (by unfold W4;rw [h4,h5];rfl)];exact gf
  refine go ⟨?_⟩;try rw [ea]
  refine go ⟨?_⟩;try rw [hz]
  refine go ⟨?_⟩;by_cases h6:x.b.length≤600
  ·refine go ⟨?_⟩;refine je ⟨⟨i+1,by omega,by rw [hsn,List.all_append,hn];simp [W4,h4,h5,h6]⟩,by simp only;omega, ?_⟩;exact tel
  ·rw [hall (by unfold W4;rw [decide_eq_false h6,Bool.and_false])];exact gf
 ·obtain rfl:i=l.length:=by omega
  rw [List.take_length] at hn;rw [hn,Bool.true_and];exact gf
theorem V8:ze Tryz.prog 18:=gfn Tryz.func18
theorem zfW {ks:List (List UInt8)} (h:gU ks=true):ks.length≤1000000:=by
 unfold gU at h;simp only [Bool.and_eq_true,decide_eq_true_eq] at h;omega
theorem VG {o:MOp} (h:W4 o=true):o.keys.length≤1000000:=by
 unfold W4 at h;simp only [Bool.and_eq_true] at h;exact zfW h.1.2
theorem V' {l:List MOp} (h:J7 l=true):KOk l∧l.length≤40:=by
 unfold J7 at h;simp only [Bool.and_eq_true,List.all_eq_true,decide_eq_true_eq] at h;exact ⟨fun o ho=>VG (h.1 o ho),h.2⟩
theorem uE {s:MSt} (h:Zd s=true):UOk s:=by
 have hu: ∀t:zc,zW t=true→ ∀n∈t,n.inner.unm.length≤140737488355328:=fun t ht n hn=>by
  obtain ⟨i,hi,rfl⟩:=List.mem_iff_getElem.1 hn;have:=yp (Yx ht hi)
  rw [show t.getD i za=t[i] by simp [List.getD_eq_getElem?_getD,hi]] at this;omega
 obtain ⟨last,g1,g2,g3,g4,g5⟩:=(Yb s).1 h;exact ⟨hu _ g2,fun k hk=>hu _ ((Xy _ _ _ g1).1 k hk).1⟩
theorem UX (t:zc) (ht:t.length≤1000000):APure Tryz.prog 132 [zg t] (zg (rAs t)) []:=by
 refine ent Tryz.func132 Tryz.ntmps132 ⟨?_⟩;unfold rAs;refine gc QM (QC t ht) ⟨?_⟩;cases h:zW t
 ·rw [if_neg (by decide)];exact gf
 ·rw [if_pos rfl];exact gf
theorem UT:ze Tryz.prog 132:=gfn Tryz.func132
theorem zgj {t:zc} (hs:zW t=true) (x i:Int) (hi:0≤i∧i≤63):APure Tryz.prog 179 [zg t,int x,int i] (.lit (.bool (Yw t x i))) []:=by
 refine ent Tryz.func179 Tryz.ntmps179 ⟨?_⟩;have hl:=yq hs;rw [JT];obtain ⟨n,rfl⟩: ∃n:Nat,i=n:=⟨i.toNat,by omega⟩;have e1:IntKind.i64.wrap (2*(n:Int))=((2*n:Nat):Int):=by simp only [IntKind.wrap_i64];omega
 rw [show 2*(n:Int)=((2*n:Nat):Int) by omega];refine go ⟨?_⟩;rw [e1];refine cal Hy (HI ((2*n:Nat):Int) x t.length) ⟨?_⟩;cases hU:Yp ((2*n:Nat):Int) x t.length
 ·simp only [Bool.false_and];exact gf
 obtain ⟨hm,hI,hu8⟩:=t7 hU;have hp:=Z_ hI;simp only [Bool.true_and];rw [show (((2*n:Nat):Int)).toNat=2*n from rfl];refine go ⟨?_⟩;rw [e1];refine go ⟨?_⟩;rw [show fE zf t (2*n)=Zb (t.getD (2*n) za) from rfl];refine go ⟨?_⟩;have hz:(t.getD (2*n) zf.z)=t.getD (2*n) za:=rfl
 try rw [hz]
 by_cases hk:(t.getD (2*n) za).kind=0
 ·rw [decide_eq_false (fun h=>h hk),beq_iff_eq.2 hk];simp only [Bool.false_and];exact gf
 rw [decide_eq_true (show (t.getD (2*n) za).kind≠0 from hk),beq_eq_false_iff_ne.2 hk];simp only [Bool.true_and];refine go ⟨?_⟩;rw [e1];refine cal QE (jo ((2*n:Nat):Int) t.length) ⟨?_⟩;have hdi:=fun y (h:y∈zy ((2*n:Nat):Int) t.length)=>Z_ (YP h)
 have hdl:=YC ((2*n:Nat):Int) t.length;generalize zy ((2*n:Nat):Int) t.length=d at*;generalize hV:XX t x n d=V;refine go ⟨?_⟩;refine lp (fun j:{j:Nat // j≤d.length∧XX t x n (d.drop j)=V}=>[(31,int j.1),(8, .junk)]) (fun j=>[]) (fun j=>d.length - j.1) ⟨0,Nat.zero_le _,by simpa using hV⟩ ?_
 rintro ⟨j,hj,hq3⟩
 refine go ⟨?_⟩;refine zj rfl (fun h=> ?_) (fun h=> ?_)
 ·have hlt:j<d.length:=by omega
  have hyI:=hdi _ (List.getElem_mem hlt);have hg:d.getD j 0=d[j]:=xl _ _ hlt
  rw [List.drop_eq_getElem_cons hlt,kP,←hg] at hq3;rw [←hg] at hyI;refine go ⟨?_⟩;generalize d.getD j 0=y at*;obtain ⟨yn,rfl⟩: ∃yn:Nat,y=yn:=⟨y.toNat,by omega⟩;by_cases hyx:(yn:Int)=x
  ·rw [if_pos hyx] at hq3;rw [←hq3,beq_iff_eq.2 hyx];exact gf
  rw [if_neg hyx,show (yn:Int).toNat=yn from rfl] at hq3;rw [beq_eq_false_iff_ne.2 hyx];refine go ⟨?_⟩;rw [show fE zf t yn=Zb (t.getD yn za) from rfl];refine go ⟨?_⟩;have hz:(t.getD yn zf.z)=t.getD yn za:=rfl
  try rw [hz]
  by_cases hk2:(t.getD yn za).kind=2
  ·rw [beq_iff_eq.2 hk2];have hun:=yp (Yx hs (show yn<t.length by omega));refine go ⟨?_⟩;rw [show fE zf t yn=Zb (t.getD yn za) from rfl];refine go ⟨?_⟩;try rw [hz]
   refine cal q8 (Qr (t.getD yn za).inner.unm n (by omega)) ⟨?_⟩;cases hc:(t.getD yn za).inner.unm.contains (n:Int)
   ·rw [hc,if_pos ⟨hk2,rfl⟩] at hq3;rw [←hq3];exact gf
   ·rw [hc,if_neg (fun h=>by cases h.2)] at hq3;refine go ⟨?_⟩;refine je ⟨⟨j+1,hlt,hq3⟩,by simp only;omega, ?_⟩;exact tel
  ·rw [beq_eq_false_iff_ne.2 hk2];rw [if_neg (fun h=>hk2 h.1)] at hq3;refine go ⟨?_⟩;refine je ⟨⟨j+1,hlt,hq3⟩,by simp only;omega, ?_⟩;exact tel
 ·rw [List.drop_of_length_le (by omega),XX] at hq3;rw [←hq3];exact gf
theorem zcI:ze Tryz.prog 179:=gfn Tryz.func179
theorem zfe {t:zc} (hs:zW t=true) (x i:Int) (hi:0≤i∧i≤63):APure Tryz.prog 178 [int i, .ip [zg t], .ip [int x]] (.lit (.bool (!Yw t x i))) []:=by
 refine ent Tryz.func178 Tryz.ntmps178 ⟨?_⟩;exact gcgf zcI (zgj hs x i hi)
theorem zdf:ze Tryz.prog 178:=gfn Tryz.func178
theorem zaT (t:zc) (ht:t.length≤1000000):APure Tryz.prog 118 [zg t] (.lit (.bool (wk t))) []:=by
 refine ent Tryz.func118 Tryz.ntmps118 ⟨?_⟩;have hl:=zR t;have hs:=zG t;have hN:=u_ t;refine gc UT (UX t ht) ⟨?_⟩;generalize rAs t=u at*;generalize wk t=V at*;refine go ⟨?_⟩;refine zr (Tells.thaw (t:=1) rfl rfl (by repeat' (first|exact trivial|exact Nat.le_refl _|exact Nat.le_of_eq (Nat.zero_add _)|omega|exact rfl|refine And.intro ?_ ?_))) ?_;refine mc12 ⟨?_⟩;refine zr (Tells.sel [] rfl rfl) ?_;refine mc8 ⟨?_⟩;refine lp (fun j:{j:Nat // j≤u.length∧ ∀i,i<j→ ∀k,k<(u.getD i za).inner.unm.length→Yw u i ((u.getD i za).inner.unm.getD k 0)=true}=>[(9,int j.1),(3, .junk),(4, .junk)]) (fun j=>[]) (fun j=>u.length - j.1) ⟨0,Nat.zero_le _,fun i hi=>by omega⟩ ?_
 rintro ⟨j,hj,hno⟩
 refine go ⟨?_⟩;refine zj rfl (fun h=> ?_) (fun h=> ?_)
 ·have hlt:j<u.length:=by omega
  have hodd:=fun k hk=>pk hs hlt (k:=k) hk
  have hNj:=fun h=>hN.1 h j hlt
  refine go ⟨?_⟩;rw [show fE zf u j=Zb (u.getD j za) from rfl];refine go ⟨?_⟩;have hz:(u.getD j zf.z)=u.getD j za:=rfl
  try rw [hz]
  have hul:=(yp (Yx hs hlt)).1
  generalize hm:(u.getD j za).inner.unm=m at*
  refine cal zft (zfd (p:=fun i=> !Yw u j i) (ca:=[.ip [zg u], .ip [int j]]) m (by omega) zdf rfl (fun i hi=>by
   obtain ⟨k,hk,rfl⟩:=List.mem_iff_getElem.1 hi;have:=(hodd k hk).2
   rw [xl _ _ hk] at this;exact zfe hs j _ this)) ⟨?_⟩
  have hany:(m.any fun i=> !Yw u j i)=false↔ ∀k,k<m.length→Yw u j (m.getD k 0)=true:=by
   rw [List.any_eq_false];constructor
   ·intro h k hk;have:=h _ (List.getElem_mem hk)
    rw [xl _ _ hk];simpa using this
   ·intro h i hi;obtain ⟨k,hk,rfl⟩:=List.mem_iff_getElem.1 hi;have:=h k hk
    rw [xl _ _ hk] at this;simp [this]
  generalize (m.any fun i=> !Yw u j i)=A at*;cases A
  ·have hall:=hany.1 rfl;refine go ⟨?_⟩;refine je ⟨⟨j+1,hlt,fun i hi=> ?_⟩,by simp only;omega, ?_⟩
   ·by_cases hij:i=j
    ·subst hij;rw [hm];exact hall
    ·exact hno i (by omega)
   refine (Tells.sel [] rfl rfl).trans ?_;refine mc8 ⟨?_⟩;exact tel
  ·have:V=false:=by
    cases hV2:V with
    |false=>rfl
    |true=>have:=hany.2 (hNj hV2);cases this
   rw [this];exact gf
 ·have:V=true:=hN.2 fun x hx=>hno x (by omega)
  rw [this];exact gf
theorem za9:ze Tryz.prog 118:=gfn Tryz.func118
theorem zhX (t:zc) (ht:t.length≤1000000):APure Tryz.prog 76 [zg t] (bytes (U5 t)) []:=by
 refine ent Tryz.func76 Tryz.ntmps76 ⟨?_⟩;have hl:=zR t;have hla:=G9 t;have hlt:=zab t;rw [ze3];refine gc UT (UX t ht) ⟨?_⟩;generalize rAs t=u at*;generalize xG t=L at*;obtain ⟨m,hm,hmu⟩: ∃m:Nat,L=(m:Int) - 1∧m≤u.length:=⟨(L+1).toNat,by omega,by omega⟩;have e1:IntKind.i64.wrap (L+1)=(m:Int):=by simp only [IntKind.wrap_i64];omega
 rw [show (L+1).toNat=m by omega];refine gc zjX (zj3 u (by omega)) ⟨?_⟩;rw [hla];refine go ⟨?_⟩;rw [e1];have hc:zO none (some (m:Int)) u.length=m:=by simp [zO]
 refine zr (Tells.slot 12 (zg (u.take m)) rfl (pE u m false hmu)) ?_;simp only [setn,hc];have htl:(u.take m).length=m:=by rw [List.length_take];omega
 have htg: ∀j,j<m→(u.take m).getD j za=u.getD j za:=fun j h=>UA u h
 generalize u.take m=q at*;refine lp (fun j:{j:Nat // j≤m}=>[(3,bytes (wZ u j.1)),(14,int j.1),(5, .junk)]) (fun j=>[]) (fun j=>m - j.1) ⟨0,Nat.zero_le _⟩ ?_
 rintro ⟨j,hj⟩
 refine go ⟨?_⟩;refine zj rfl (fun h=> ?_) (fun h=> ?_)
 ·have hjm:j<m:=by omega
  have hjl:j<u.length:=by omega
  have hs:=VK hjl;have hle:=jv u j;have hg:=htg j hjm;refine go ⟨?_⟩;rw [show fE zf q j=Zb (q.getD j za) from rfl,hg];refine gcg zi9 (zku (wZ u j) (u.getD j za) (by omega)) ⟨?_⟩;refine je ⟨⟨j+1,by omega⟩,by simp only;omega, ?_⟩;simp only [hs];refine (Tells.sel [] rfl rfl).trans ?_;refine mc8 ⟨?_⟩;exact tel
 ·obtain rfl:j=m:=by omega
  exact gcgf yU (kO (wZ u j))
theorem zhl:ze Tryz.prog 76:=gfn Tryz.func76
def ndN (x:Nat) (b:List UInt8):Zt×Int:=((YU b).1,if (YU b).2.2=0∧Xf x (YU b).1.kind=false then 7 else (YU b).2.2)
def xP:Nat→Nat→List UInt8→List (Zt×Int)
 |0,_,_=>[]
 |k+1,x,b=>if b=[] then [] else if x=127 then [(za,10)] else ndN x b::xP k (x+1) (YU b).2.1
theorem vr (k x:Nat) (b:List UInt8):xP (k+1) x b=if b=[] then [] else if x=127 then [(za,10)] else ndN x b::xP k (x+1) (YU b).2.1:=by rw [xP]
abbrev bxB (b:List UInt8):zb:={T:=26,sz:=1,n:=1,f:=fun _=>[bytes b],box:=true}
abbrev ndX (l:List (Zt×Int)):Nat→List AV:=fun i=>[yg (l.getD i (za,0)).1,int (l.getD i (za,0)).2]
theorem ms6 {G A:Prop} (k:Hold G) (h:Hold G→A:=by
 intro k;refine go ⟨?_⟩;refine je ⟨⟨(i+1,c'),by omega,hlt,by rw [show 128 - (i+1)=127 - i by omega];exact hd2⟩,by simp only;omega, ?_⟩;refine (Tells.sel [0] rfl rfl).trans ?_;refine mc8 ⟨?_⟩;exact k.1):A:=h k
theorem gZ (b:List UInt8):Jl Tryz.prog 175 [.ptr 0 1 0 0] [bxB b] (ndX (xP 128 0 b)) (xP 128 0 b).length:=by
 refine KM hT Tryz.func175 rfl rfl fun L=> ?_
 simp only [Tryz.ntmps175,List.length_cons,List.length_nil,Nat.reduceAdd,Nat.reduceSub,List.replicate,List.cons_append,List.nil_append];generalize hl:xP 128 0 b=l;refine go ⟨?_⟩;refine lpy (fun q:{q:Nat×List UInt8 // q.1≤127∧q.1≤l.length∧l.drop q.1=xP (128 - q.1) q.1 q.2}=>[(3,int q.1.1),(4, .junk),(5, .junk),(6, .junk),(7, .junk)]) (fun q=>[bxB q.1.2]) (fun q=>⟨1,q.1.1,false,some (L,ndX l,l.length),true⟩) (fun q=>128 - q.1.1) ⟨(0,b),by simp,by simp,by simpa using hl.symm⟩ ?_
 rintro ⟨⟨i,c⟩,hi,hil,hd⟩
 simp only at hi hil hd ⊢;rw [show 128 - i=(127 - i)+1 by omega,vr] at hd;refine go ⟨?_⟩;by_cases h1:c=[]
 ·rw [if_pos h1] at hd;have hc0:c.length=0:=by rw [h1];rfl
  have hie:i=l.length:=by
   have:=List.drop_eq_nil_iff.1 hd;omega
  refine go ⟨?_⟩;first|exact itn fun _=>hie|exact itr fun _=>hie
 rw [if_neg h1] at hd;have hc0:0<c.length:=List.length_pos_iff.2 h1
 refine go ⟨?_⟩;by_cases h2:i=127
 ·rw [if_pos h2] at hd
  have hlt:i<l.length:=by
   rcases Nat.lt_or_ge i l.length with h|h
   ·exact h
   ·rw [List.drop_of_length_le h] at hd;cases hd
  rw [List.drop_eq_getElem_cons hlt] at hd;injection hd with hd1 hd2
  have hie:i+1=l.length:=by
   have:=List.drop_eq_nil_iff.1 hd2;omega
  have hg:l.getD i (za,0)=(za,10):=by rw [xl _ _ hlt,hd1]
  rw [beq_iff_eq.2 (show (i:Int)=127 by omega)];refine go ⟨?_⟩;refine yld rfl hlt (by rw [show ndX l i=[yg (l.getD i (za,0)).1,int (l.getD i (za,0)).2] from rfl,hg];exact les) fun t=> ?_
  refine go ⟨?_⟩;first|exact itn fun _=>hie|exact itr fun _=>hie
 rw [if_neg h2] at hd;rw [beq_eq_false_iff_ne.2 (show (i:Int)≠127 by omega)]
 have hlt:i<l.length:=by
  rcases Nat.lt_or_ge i l.length with h|h
  ·exact h
  ·rw [List.drop_of_length_le h] at hd;cases hd
 rw [List.drop_eq_getElem_cons hlt] at hd;injection hd with hd1 hd2
 have hg:l.getD i (za,0)=ndN i c:=by rw [xl _ _ hlt,hd1]
 unfold ndN at hg;refine gc zjN (zjc c) ⟨?_⟩;have hfb:=UE i (YU c).1.kind;generalize YU c=ng at*;obtain ⟨n,c',e⟩:=ng;simp only at hg hd2 hfb ⊢;refine go ⟨?_⟩;rw [WZ];by_cases hp:i % 2=0
 ·rw [hp];have hw:Xf i n.kind=false↔n.kind=2:=by rw [hfb];omega
  refine qo hT rfl (x:= .lit (.int .i64 2)) ⟨_,rfl,by decide,by decide,rfl⟩ ?_;refine ng ⟨?_⟩;by_cases he:e=0
  ·rw [beq_iff_eq.2 he];refine go ⟨?_⟩;by_cases hk:n.kind=2
   ·rw [beq_iff_eq.2 hk];refine go ⟨?_⟩;refine yld rfl hlt (by rw [show ndX l i=[yg (l.getD i (za,0)).1,int (l.getD i (za,0)).2] from rfl,hg,if_pos ⟨he,hw.2 hk⟩];exact les) fun t=> ?_
    cases t
    ·refine go ⟨?_⟩;first|exact (its rfl).1|exact (its rfl).2
    ·refine ms6 ⟨?_⟩;exact tel
   ·rw [beq_eq_false_iff_ne.2 hk];refine go ⟨?_⟩;refine yld rfl hlt (by rw [show ndX l i=[yg (l.getD i (za,0)).1,int (l.getD i (za,0)).2] from rfl,hg,if_neg (fun h=>hk (hw.1 h.2))];exact les) fun t=> ?_
    cases t
    ·refine go ⟨?_⟩;first|exact (its rfl).1|exact (its rfl).2
    ·refine ms6 ⟨?_⟩;exact tel
  ·rw [beq_eq_false_iff_ne.2 he];refine go ⟨?_⟩;refine yld rfl hlt (by rw [show ndX l i=[yg (l.getD i (za,0)).1,int (l.getD i (za,0)).2] from rfl,hg,if_neg (fun h=>he h.1)];exact les) fun t=> ?_
   cases t
   ·refine go ⟨?_⟩;first|exact (its rfl).1|exact (its rfl).2
   ·refine ms6 ⟨?_⟩;exact tel
 ·have hp1:i % 2=1:=by omega
  rw [hp1];have hw:Xf i n.kind=false↔n.kind=1:=by rw [hfb];omega
  refine qo hT rfl (x:= .lit (.int .i64 1)) ⟨_,rfl,by decide,by decide,rfl⟩ ?_;refine ng ⟨?_⟩;by_cases he:e=0
  ·rw [beq_iff_eq.2 he];refine go ⟨?_⟩;by_cases hk:n.kind=1
   ·rw [beq_iff_eq.2 hk];refine go ⟨?_⟩;refine yld rfl hlt (by rw [show ndX l i=[yg (l.getD i (za,0)).1,int (l.getD i (za,0)).2] from rfl,hg,if_pos ⟨he,hw.2 hk⟩];exact les) fun t=> ?_
    cases t
    ·refine go ⟨?_⟩;first|exact (its rfl).1|exact (its rfl).2
    ·refine ms6 ⟨?_⟩;exact tel
   ·rw [beq_eq_false_iff_ne.2 hk];refine go ⟨?_⟩;refine yld rfl hlt (by rw [show ndX l i=[yg (l.getD i (za,0)).1,int (l.getD i (za,0)).2] from rfl,hg,if_neg (fun h=>hk (hw.1 h.2))];exact les) fun t=> ?_
    cases t
    ·refine go ⟨?_⟩;first|exact (its rfl).1|exact (its rfl).2
    ·refine ms6 ⟨?_⟩;exact tel
  ·rw [beq_eq_false_iff_ne.2 he];refine go ⟨?_⟩;refine yld rfl hlt (by rw [show ndX l i=[yg (l.getD i (za,0)).1,int (l.getD i (za,0)).2] from rfl,hg,if_neg (fun h=>he h.1)];exact les) fun t=> ?_
   cases t
   ·refine go ⟨?_⟩;first|exact (its rfl).1|exact (its rfl).2
   ·refine ms6 ⟨?_⟩;exact tel
theorem zdU:ze Tryz.prog 175:=gfn Tryz.func175
theorem zgu (b:List UInt8):APure Tryz.prog 117 [bytes b] (.fn (.func 175) [] [.ptr 0 1 0 0]) [bxB b]:=by
 refine ent Tryz.func117 Tryz.ntmps117 ⟨?_⟩;exact gf
theorem zb4:ze Tryz.prog 117:=gfn Tryz.func117
theorem pV: ∀(k x:Nat) (b:List UInt8) (t:zc),t.length=x→x+k=128→YV k b t=match (xP k x b).find? (fun p=>decide (p.2≠0)) with|some p=>([],p.2)|none=>(t++(xP k x b).map (·.1),0)
 |0,x,b,t,h,hk=>by rw [YV,xP];simp
 |k+1,x,b,t,h,hk=>by
  rw [Tq,vr];by_cases h1:b=[]
  ·rw [if_pos h1,if_pos h1];simp
  rw [if_neg h1,if_neg h1];by_cases h2:x=127
  ·rw [if_pos (by omega),if_pos h2];rfl
  rw [if_neg (by omega),if_neg h2];unfold ndN;by_cases h3:(YU b).2.2=0
  rotate_left
  ·rw [if_pos h3,List.find?_cons_of_pos (by simp [h3])];simp [h3]
  rw [if_neg (fun h=>h h3)];by_cases h4:Xf t.length (YU b).1.kind=false
  ·rw [if_pos h4,List.find?_cons_of_pos (by rw [←h];simp [h3,h4])];rw [←h];simp [h3,h4]
  ·have h4': ¬Xf x (YU b).1.kind=false:=by rw [←h];exact h4
   rw [if_neg h4,List.find?_cons_of_neg (by simp [h3,h4'])];rw [pV k (x+1) (YU b).2.1 (t++[(YU b).1]) (by simp [h]) (by omega)];cases (xP k (x+1) (YU b).2.1).find? (fun p=>decide (p.2≠0)) with
   |some p=>rfl
   |none=>simp
theorem zgM {v:List UInt8} {i:Nat} (hi:i<(xP 128 0 v).length) (hn: ∀j,j<i→((xP 128 0 v).getD j (za,0)).2=0) (he:((xP 128 0 v).getD i (za,0)).2≠0):YV 128 v []=([],((xP 128 0 v).getD i (za,0)).2):=by
 rw [pV 128 0 v [] rfl rfl]
 have:(xP 128 0 v).find? (fun p=>decide (p.2≠0))=some ((xP 128 0 v).getD i (za,0)):=by
  rw [List.find?_eq_some_iff_getElem];refine ⟨decide_eq_true he,i,hi,(xl _ _ hi).symm,fun j hj=> ?_⟩;have:=hn j hj
  rw [xl _ _ (by omega)] at this;simp [this]
 rw [this]
theorem zhY {v:List UInt8} (hn: ∀j,j<(xP 128 0 v).length→((xP 128 0 v).getD j (za,0)).2=0):YV 128 v []=((xP 128 0 v).map (·.1),0):=by
 rw [pV 128 0 v [] rfl rfl]
 have:(xP 128 0 v).find? (fun p=>decide (p.2≠0))=none:=by
  rw [List.find?_eq_none];intro p hp;obtain ⟨j,hj,rfl⟩:=List.mem_iff_getElem.1 hp;have:=hn j hj
  rw [xl _ _ hj] at this;simp [this]
 rw [this];simp
theorem zd0 {v:List UInt8} (h:v≠[]):0<(xP 128 0 v).length:=by
 rw [show (128:Nat)=127+1 from rfl,vr,if_neg h,if_neg (by decide)];simp
theorem tZ: ∀(k x:Nat) (b:List UInt8),(xP k x b).length≤k
 |0,x,b=>by simp [xP]
 |k+1,x,b=>by
  rw [vr];split
  ·simp
  ·split
   ·simp
   ·have:=tZ k (x+1) (YU b).2.1
    simp only [List.length_cons];omega
abbrev ndH (t:zc) (i:Nat):List zb:=[{T:=22,sz:=1,n:=1,f:=fun _=>[.lit (.slice none 0 0)],pure:=false,box:=true},{T:=35,sz:=1,n:=1,f:=fun _=>[int 0],box:=true},{T:=22,sz:=1,n:=1,f:=fun _=>[.row 3 8 0 i none],pure:=false,box:=true},{T:=85,sz:=8,n:=i,f:=fE zf (t.take i)}]
theorem zgN (b:List UInt8):APure Tryz.prog 61 [bytes b] (.tup [zg (xW b).1,int (xW b).2]) []:=by
 refine ent Tryz.func61 Tryz.ntmps61 ⟨?_⟩;rw [Hz];refine gc Xu (Xz b) ⟨?_⟩;generalize zd b=w at*;obtain ⟨v,r,e⟩:=w;simp only;refine go ⟨?_⟩;by_cases h1:e=0
 rotate_left
 ·rw [if_pos h1,bne_iff_ne.2 h1];exact gf
 rw [if_neg (fun h=>h h1),bne_eq_false_iff_eq.2 h1];refine go ⟨?_⟩;by_cases h2:r=[]
 rotate_left
 ·rw [if_pos h2];have:0<r.length:=List.length_pos_iff.2 h2
  exact gf
 rw [if_neg (fun h=>h h2)];have hr0:r.length=0:=by rw [h2];rfl
 refine go ⟨?_⟩;by_cases h3:v=[]
 ·rw [if_pos h3];have:v.length=0:=by rw [h3];rfl
  rw [this];exact gf
 rw [if_neg h3];have hv0:0<v.length:=List.length_pos_iff.2 h3
 rw [beq_eq_false_iff_ne.2 (show (v.length:Int)≠0 by omega)];refine gcg zb4 (zgu v) ⟨?_⟩;refine zr (Tells.nilCell 2 85 8 rfl rfl rfl rfl) ?_;refine zr (Tells.le (H':=[{T:=22,sz:=1,n:=1,f:=fun _=>[.lit (.slice none 0 0)],pure:=false,box:=true},{T:=35,sz:=1,n:=1,f:=fun _=>[int 0],box:=true},{T:=22,sz:=1,n:=1,f:=fun _=>[.row 4 8 0 0 none],pure:=false,box:=true},bxB v,W9 []]) (.refl _) (.cons (.of (Nat.le_refl _) (fun h=>by cases h) fun k hk=>rfl) (.cons (.refl _) (.cons (.refl _) (.cons (.refl _) (.cons (.of (Nat.le_refl _) (fun h=>h) fun k hk=>by simp at hk) .nil)))))) ?_;have hsome:=zd0 h3;have hlen:=tZ 128 0 v;have herr:=fun i=>zgM (v:=v) (i:=i)
 have hall:=zhY (v:=v);refine XE (Wq [0,1,2,4] [3] rfl rfl (by decide) rfl rfl) rfl zdU (gZ v) (fun i hi=>rfl) (fun i=>QK (∀j,j<i→((xP 128 0 v).getD j (za,0)).2=0) (ndH ((xP 128 0 v).map (·.1)) i)) (fun _=>0) (yQ (fun j hj=>by omega) _) rfl (fun i hi L=> ?_) ?_
 ·refine wO fun hn=> ?_
  rw [yQ hn];have herr:=herr i hi hn;simp only [ndH,ndX];generalize xP 128 0 v=l at*;have hlt:i<(l.map (·.1)).length:=by rw [List.length_map];exact hi
  have hs:(l.map (·.1)).take (i+1)=(l.map (·.1)).take i++[(l.getD i (za,0)).1]:=by
   rw [List.take_succ_eq_append_getElem hlt,List.getElem_map,xl _ _ hi]
  have hl:((l.map (·.1)).take i).length=i:=List.length_take_of_le (by omega)
  generalize (l.map (·.1)).take (i+1)=t' at*;generalize (l.map (·.1)).take i=t at*;generalize hp:l.getD i (za,0)=pr at*;obtain ⟨n,e'⟩:=pr;simp only at herr hs ⊢;refine mc8 ⟨?_⟩;refine go ⟨?_⟩;by_cases he:e'=0
  ·rw [bne_eq_false_iff_eq.2 he];refine go ⟨?_⟩;refine app (fE zf t') hT rfl rfl rfl rfl (fun k hk=>by rw [hs];exact ZZ (e:=zf) hl.symm rfl hk) ?_;refine ng ⟨?_⟩;refine rqn _ (Tells.sel [0,1,2,3] rfl rfl) (yQ ?_ _).symm ?_ rfl rfl rfl
   ·intro j hj;by_cases hji:j=i
    ·subst hji;rw [hp];exact he
    ·exact hn j (by omega)
   ·repeat (first|exact .nil|refine .cons (.refl _) ?_)
  ·rw [bne_iff_ne.2 he];have herr:=herr he;refine go ⟨?_⟩;refine rqr _ (Tells.sel [0,1,2,3] rfl rfl) ?_ rfl ?_
   ·repeat (first|exact .nil|refine .cons (.refl _) ?_)
   ·rw [herr];simp only;rw [if_pos he];exact gf
 ·refine yj (ZS (wO fun hn=> ?_));have hall:=hall hn;have hok:=Gv 128 v [] (fun j hj=>by simp at hj) (by simp);rw [hall] at hok ⊢;simp only [ndH] at hok ⊢;have hml:((xP 128 0 v).map (·.1)).length=(xP 128 0 v).length:=List.length_map ..
  rw [show ((xP 128 0 v).map (·.1)).take (xP 128 0 v).length=(xP 128 0 v).map (·.1) from List.take_of_length_le (by rw [hml];exact Nat.le_refl _)];rw [←hml] at hsome ⊢;generalize (xP 128 0 v).map (·.1)=t at*;rw [if_neg (fun h=>h rfl)];obtain ⟨hq5,hq3⟩:=hok;have hi:IntKind.i64.wrap ((t.length:Int) - 1)=((t.length - 1:Nat):Int):=by simp only [IntKind.wrap_i64];omega
  refine mc8 ⟨?_⟩;refine go ⟨?_⟩;rw [hi,show ((t.length - 1:Nat):Int).toNat=t.length - 1 from rfl];have hz:t.getD (t.length - 1) zf.z=t.getD (t.length - 1) za:=rfl
  rw [hz];by_cases h5:(t.getD (t.length - 1) za).kind=0
  ·rw [if_pos h5,beq_iff_eq.2 h5];exact gf
  rw [if_neg h5,beq_eq_false_iff_ne.2 h5];have hwd:=jh hq3;have hwn: ∀s:Nat,t.length≤s→s<Xd t.length→yf (s:Int)=false:=fun s h1 h2=>U8 ⟨t.length,by omega⟩ ⟨s,by omega⟩ h1 h2
  refine go ⟨?_⟩
  refine lp (fun m:{m:Nat // t.length+m≤Xd t.length}=>[(39, .junk),(40, .junk),(43, .junk),(44, .junk)]) (fun m=>[{T:=22,sz:=1,n:=1,f:=fun _=>[.lit (.slice none 0 0)],pure:=false,box:=true},{T:=35,sz:=1,n:=1,f:=fun _=>[int 0],box:=true},{T:=22,sz:=1,n:=1,f:=fun _=>[.row 3 8 0 (t++List.replicate m.1 za).length none],pure:=false,box:=true},W9 (t++List.replicate m.1 za)]) (fun m=>Xd t.length - m.1) ⟨0,by omega⟩ ?_ (h0:=by
   simp only [lst,Zz,ZB,setn,List.replicate,List.append_nil];exact tel)
  rintro ⟨m,hm⟩
  have hml:(t++List.replicate m za).length=t.length+m:=by simp
  refine go ⟨?_⟩;rw [hml];refine cal kF (kq ((t.length+m:Nat):Int)) ⟨?_⟩;by_cases h6:t.length+m=Xd t.length
  ·rw [h6,hwd.2.1];have hp:t++List.replicate m za=w_ t:=by unfold w_;rw [show m=Xd t.length - t.length by omega]
   have hpl:(w_ t).length=Xd t.length:=Pn hq3
   rw [hp];generalize w_ t=pt at*;rw [←hpl];refine go ⟨?_⟩;refine zV rfl rfl rfl za9 (APure.lit_at (zaT pt (by omega)) rfl (by repeat' (first|exact trivial|exact Nat.le_refl _|exact Nat.le_of_eq (Nat.zero_add _)|omega|refine And.intro ?_ ?_))) ?_;refine nz ⟨?_⟩;cases h7:wk pt
   ·rw [if_pos rfl];exact gf
   ·rw [if_neg (by decide)];exact gf
  ·rw [show yf ((t.length+m:Nat):Int)=false from hwn (t.length+m) (by omega) (by omega)];refine go ⟨?_⟩;have hrs:t++List.replicate (m+1) za=(t++List.replicate m za)++[za]:=by rw [List.replicate_succ',List.append_assoc]
   generalize t++List.replicate m za=u at*;rw [←hml];refine ZT hT rfl rfl rfl (by repeat' (first|exact trivial|exact Nat.le_refl _|(show (u.length+1)*160≤_;omega)|omega|refine And.intro ?_ ?_)) ?_;refine nz ⟨?_⟩;refine zz (Tells.sel [0,1,2,3] rfl rfl) ?_;refine nz ⟨?_⟩;simp only [Option.map,Nat.reduceAdd,Nat.zero_add];refine zz (Tells.le (H':=[{T:=22,sz:=1,n:=1,f:=fun _=>[.lit (.slice none 0 0)],pure:=false,box:=true},{T:=35,sz:=1,n:=1,f:=fun _=>[int 0],box:=true},{T:=22,sz:=1,n:=1,f:=fun _=>[.junk],pure:=false,box:=true},{T:=85,sz:=8,n:=u.length+1,f:=fE zf (u++[za])}]) (.refl _) (.cons (.refl _) (.cons (.refl _) (.cons (.refl _) (.cons (.les (Nat.le_refl _) (fun k hk=>Jx u hk)) .nil))))) ?_;refine go ⟨?_⟩;refine je ⟨⟨m+1,by omega⟩,by simp only;omega, ?_⟩;simp only [hrs,List.length_append,List.length_cons,List.length_nil,Nat.zero_add];exact tel
theorem zgU:ze Tryz.prog 61:=gfn Tryz.func61
abbrev wOb (s:MSt):zb:={T:=64,sz:=3,n:=1,f:=fun _=>stC s,box:=true}
abbrev zSt:zb:={T:=25,sz:=3,n:=1,f:=fun _=>[.lit (.slice none 0 0), .lit (.slice none 0 0), .lit (.int .i64 0)],box:=true}
abbrev zAn:zb:={T:=38,sz:=5,n:=1,f:=fun _=>[.lit (.int .i64 0), .lit (.int .i64 0), .lit (.slice none 0 0), .lit (.slice none 0 0), .lit (.bool false)],box:=true}
abbrev HM0 (s:MSt) (o:MOp):List zb:=[wOb s,yD o,zSt,zAn]
abbrev HM (s:MSt) (o:MOp):List zb:=[wOb s,yD o,zSt,zAn,yD o,zAn]
theorem y6 (e:Int):APure Tryz.prog 41 [int e] (X4 (zu e)) []:=by
 refine ent Tryz.func41 Tryz.ntmps41 ⟨?_⟩;exact gf
theorem yW:ze Tryz.prog 41:=gfn Tryz.func41
theorem vO (s:MSt) (hs:SOk s):APure Tryz.prog 14 [stA s] (.lit (.bool (Zd s))) []:=by
 refine ent Tryz.func14 Tryz.ntmps14 ⟨?_⟩;obtain ⟨t,l,nx⟩:=s;have hat:=fun i=>hs.at (i:=i)
 obtain ⟨h1,h2,h3⟩:=hs;simp only at h1 h2 h3 hat ⊢;refine go ⟨?_⟩;refine lp (fun p:{p:Nat×Int // p.1≤l.length∧yh 0 l=yh p.2 (l.drop p.1)}=>[(3,int p.1.2),(9,int p.1.1),(5, .junk)]) (fun i=>[{T:=25,sz:=3,n:=1,f:=fun _=>[zg t,jX l,int nx],box:=true}]) (fun p=>l.length - p.1.1) ⟨(0,0),by simp⟩ ?_
 rintro ⟨⟨i,last⟩,hi,hn⟩
 simp only at hi hn;refine go ⟨?_⟩;refine zj rfl (fun h=> ?_) (fun h=> ?_)
 ·have hlt:i<l.length:=by omega
  have ex:l.getD i ⟨0,[]⟩=l[i]:=by simp [List.getD_eq_getElem?_getD,hlt]
  have hat:=hat i hlt;rw [List.drop_eq_getElem_cons hlt,yh] at hn;rw [←ex] at hn;refine go ⟨?_⟩;have ef:fE ZH l i=Xb (l.getD i ⟨0,[]⟩):=rfl
  have hz:l.getD i ZH.z=l.getD i ⟨0,[]⟩:=rfl
  generalize l.getD i ⟨0,[]⟩=x at*;rw [ef];refine go ⟨?_⟩;try rw [hz]
  by_cases h:x.id≤last
  ·rw [if_pos (.inl h)] at hn;rw [show Zd ⟨t,l,nx⟩=false by unfold Zd;rw [hn]];exact gf
  refine go ⟨?_⟩;try rw [hz]
  refine cal QM (QC x.t hat) ⟨?_⟩;cases hx:zW x.t
  ·rw [if_pos (.inr hx)] at hn;rw [show Zd ⟨t,l,nx⟩=false by unfold Zd;rw [hn]];exact gf
  ·rw [if_neg (by rw [hx];simp;omega)] at hn;refine go ⟨?_⟩;try rw [hz]
   refine je ⟨⟨(i+1,x.id),by simp only;omega,hn⟩,by simp only;omega, ?_⟩;refine (Tells.sel [0] rfl rfl).trans ?_;refine mc14 ⟨?_⟩;exact tel
 ·obtain rfl:i=l.length:=by omega
  rw [List.drop_length,yh] at hn;have hm:Zd ⟨t,l,nx⟩=(zW t && decide (l.length≤8) && decide (last≤nx) && decide (nx≤1099511627776)):=by unfold Zd;rw [hn]
  rw [hm];refine gc QM (QC t h1) ⟨?_⟩;cases hx:zW t
  ·exact gf
  rw [Bool.true_and];refine go ⟨?_⟩;by_cases c1:l.length≤8
  rotate_left
  ·rw [decide_eq_false c1];exact gf
  rw [decide_eq_true c1,Bool.true_and];by_cases c2:last≤nx
  rotate_left
  ·rw [decide_eq_false c2];exact gf
  rw [decide_eq_true c2,Bool.true_and];exact gf
theorem vu:ze Tryz.prog 14:=gfn Tryz.func14
theorem jS (s:MSt) (o:MOp) (t:zc) (e:Int):ACall Tryz.prog 57 [.ptr 0 3 0 0,zg t,int e] (HM s o) fun r H' fg=>r=X4 (Z1 s t e).2∧H'=HM (Z1 s t e).1 o∧fg=[]:=by
 simp only [HM];refine enta Tryz.func57 Tryz.ntmps57 ⟨?_⟩;unfold Z1;refine go ⟨?_⟩;by_cases h:e=0
 ·rw [if_pos h,beq_iff_eq.2 h];refine gcg yW (y6 e) ⟨?_⟩;exact zes
 ·rw [if_neg h,beq_eq_false_iff_ne.2 h];refine gcg yW (y6 e) ⟨?_⟩;exact zes
theorem jC:ze Tryz.prog 57:=gfn Tryz.func57
theorem zd8 (k:YW) (id:Int):APure Tryz.prog 120 [zdC k, .ip [int id]] (.lit (.bool (decide (k.id=id)))) []:=by
 refine ent Tryz.func120 Tryz.ntmps120 ⟨?_⟩;exact gf
theorem zew:ze Tryz.prog 120:=gfn Tryz.func120
theorem Wk (s:MSt) (o:MOp) (hs:s.kept.length≤1000000) (id:Int):ACall Tryz.prog 63 [.ptr 0 3 0 0,int id] (HM s o) fun r H' fg=>r=int (zq s id)∧H'=HM s o∧fg=[]:=by
 simp only [HM];refine enta Tryz.func63 Tryz.ntmps63 ⟨?_⟩;unfold zq;refine go ⟨?_⟩;refine zz (Tells.thaw (t:=10) rfl rfl (by repeat' (first|exact trivial|exact Nat.le_refl _|exact Nat.le_of_eq (Nat.zero_add _)|omega|exact rfl|refine And.intro ?_ ?_))) ?_;refine nz ⟨?_⟩;refine zz (Tells.sel [0,1,2,3,4,5] rfl rfl) ?_;refine mc14 ⟨?_⟩;refine cg zcU (zfJ (p:=fun k=>decide (k.id=id)) s.kept (by omega) zew rfl (fun k _=>zd8 k id)) ⟨?_⟩;exact zes
theorem PL:ze Tryz.prog 63:=gfn Tryz.func63
theorem za' (s:MSt) (o:MOp) (hs:s.kept.length≤1000000) (hw:o.what=6):ACall Tryz.prog 37 [.ptr 0 3 0 0,opA o] (HM0 s o) fun r H' fg=>r=X4 (Yq s o).2∧H'=HM0 (Yq s o).1 o∧fg=[]:=by
 simp only [HM0];refine enta Tryz.func37 Tryz.ntmps37 ⟨?_⟩;have hD:Yq s o=if zq s o.i<0 then (s,zu 13) else (⟨(s.kept.getD (zq s o.i).toNat ⟨0,[]⟩).t,s.kept,s.next⟩,zu 0):=by obtain ⟨w,i,l,ks,b,old⟩:=o;simp only at hw;subst hw;simp [Yq]
 have hpl:= @yb s o.i
 have hc:=Wk s o hs o.i;rw [hD];refine go ⟨?_⟩;refine zV rfl rfl rfl PL hc ?_;refine nz ⟨?_⟩;generalize zq s o.i=k at*;by_cases hk:k<0
 ·rw [if_pos hk];refine gcg yW (y6 13) ⟨?_⟩;exact Zs
 ·rw [if_neg hk];obtain ⟨hp,_,hp0⟩:=hpl hk;obtain ⟨n,rfl⟩: ∃n:Nat,k=n:=⟨k.toNat,by omega⟩;simp only [Int.toNat_natCast] at hp ⊢;have hz:s.kept.getD n ZH.z=s.kept.getD n ⟨0,[]⟩:=rfl
  have ef:fE ZH s.kept n=Xb (s.kept.getD n ⟨0,[]⟩):=rfl
  refine ms18 ⟨?_⟩;exact Zs
theorem TA:ze Tryz.prog 37:=gfn Tryz.func37
theorem zjd (s:MSt) (o:MOp) (hw:o.what=2):Yq s o=Z1 s (ZC s.t o.i).1 (ZC s.t o.i).2:=by obtain ⟨w,i,l,ks,b,old⟩:=o;simp only at hw;subst hw;simp [Yq]
theorem zjb (s:MSt) (o:MOp) (hw:o.what=3):Yq s o=Z1 s (Zy s.t o.i o.l).1 (Zy s.t o.i o.l).2:=by obtain ⟨w,i,l,ks,b,old⟩:=o;simp only at hw;subst hw;simp [Yq]
theorem zi1 (s:MSt) (o:MOp) (hw:o.what=4):Yq s o=Z1 s (ZA s.t o.i o.l o.keys).1 (ZA s.t o.i o.l o.keys).2:=by obtain ⟨w,i,l,ks,b,old⟩:=o;simp only at hw;subst hw;simp [Yq]
theorem ziM (s:MSt) (o:MOp) (hw:o.what=8):Yq s o=Z1 s (xW o.b).1 (xW o.b).2:=by obtain ⟨w,i,l,ks,b,old⟩:=o;simp only at hw;subst hw;simp [Yq]
theorem zjf (s:MSt) (o:MOp) (hw:o.what=1):Yq s o=if (yw s.t o.l).2.2=0 then (⟨(yw s.t o.l).1,s.kept,s.next⟩,⟨0,(yw s.t o.l).2.1,[],[],false⟩) else (s,zu (yw s.t o.l).2.2):=by obtain ⟨w,i,l,ks,b,old⟩:=o;simp only at hw;subst hw;simp [Yq]
abbrev zJ (s:MSt) (o:MOp) (g:Nat):Prop:=ACall Tryz.prog g [.ptr 0 3 0 0,opA o] (HM0 s o) fun r H' fg=>r=X4 (Yq s o).2∧H'=HM0 (Yq s o).1 o∧fg=[]
theorem ms8 {G A:Prop} (k:Hold G) (h:Hold G→A:=by
 intro k;refine jx ⟨?_⟩;refine AMj.nil ?_;refine go ⟨?_⟩;exact k.1):A:=h k
set_option maxHeartbeats 1000000 in
theorem ze5 (s:MSt) (o:MOp) (ht:s.t.length≤1000000) (hk:o.keys.length≤1000000) (hw:o.what=2):zJ s o 32:=by
 unfold zJ;simp only [HM0];refine enta Tryz.func32 Tryz.ntmps32 ⟨?_⟩;rw [zjd s o hw];have hc:=ze_ s.t o.i ht;have hc2:=fun t e=>jS s o t e
 generalize ZC s.t o.i=p at*;obtain ⟨u,e⟩:=p;simp only at hc;have hc2:=hc2 u e;generalize Z1 s u e=z at*;obtain ⟨s',a⟩:=z;simp only at hc2;refine gon ⟨?_⟩;refine Yv y8 [11,12] 11 13 11 (fun t=>wOb s::yD o::zSt::zAn::yD o::zAn::t) rfl (by kernel_rfl) (by kernel_rfl) rfl (by kernel_rfl) ?_;refine jx ⟨?_⟩;refine Q8 gw (hc) ⟨?_⟩;refine jx ⟨?_⟩;refine zeE jC (hc2) ⟨?_⟩;refine ms8 ⟨?_⟩;exact Zs
theorem zbS:ze Tryz.prog 32:=gfn Tryz.func32
set_option maxHeartbeats 1000000 in
theorem zeD (s:MSt) (o:MOp) (ht:s.t.length≤1000000) (hk:o.keys.length≤1000000) (hw:o.what=3):zJ s o 33:=by
 unfold zJ;simp only [HM0];refine enta Tryz.func33 Tryz.ntmps33 ⟨?_⟩;rw [zjb s o hw];have hc:=zcs s.t o.i o.l ht;have hc2:=fun t e=>jS s o t e
 generalize Zy s.t o.i o.l=p at*;obtain ⟨u,e⟩:=p;simp only at hc;have hc2:=hc2 u e;generalize Z1 s u e=z at*;obtain ⟨s',a⟩:=z;simp only at hc2;refine gon ⟨?_⟩;refine Yv y8 [13,14] 13 15 13 (fun t=>wOb s::yD o::zSt::zAn::yD o::zAn::t) rfl (by kernel_rfl) (by kernel_rfl) rfl (by kernel_rfl) ?_;refine jx ⟨?_⟩;refine Q8 gq (hc) ⟨?_⟩;refine jx ⟨?_⟩;refine zeE jC (hc2) ⟨?_⟩;refine ms8 ⟨?_⟩;exact Zs
theorem zca:ze Tryz.prog 33:=gfn Tryz.func33
set_option maxHeartbeats 1000000 in
theorem zc6 (s:MSt) (o:MOp) (ht:s.t.length≤1000000) (hk:o.keys.length≤1000000) (hw:o.what=4):zJ s o 34:=by
 unfold zJ;simp only [HM0];refine enta Tryz.func34 Tryz.ntmps34 ⟨?_⟩;rw [zi1 s o hw];have hc:=zdp s.t o.i o.l o.keys ht hk;have hc2:=fun t e=>jS s o t e
 generalize ZA s.t o.i o.l o.keys=p at*;obtain ⟨u,e⟩:=p;simp only at hc;have hc2:=hc2 u e;generalize Z1 s u e=z at*;obtain ⟨s',a⟩:=z;simp only at hc2;refine gon ⟨?_⟩;refine Yv y8 [15,16] 15 17 15 (fun t=>wOb s::yD o::zSt::zAn::yD o::zAn::t) rfl (by kernel_rfl) (by kernel_rfl) rfl (by kernel_rfl) ?_;refine jx ⟨?_⟩;refine Q8 gJ (hc) ⟨?_⟩;refine jx ⟨?_⟩;refine zeE jC (hc2) ⟨?_⟩;refine ms8 ⟨?_⟩;exact Zs
theorem zbh:ze Tryz.prog 34:=gfn Tryz.func34
set_option maxHeartbeats 1000000 in
theorem zh_ (s:MSt) (o:MOp) (hw:o.what=8):zJ s o 35:=by
 unfold zJ;simp only [HM0];refine enta Tryz.func35 Tryz.ntmps35 ⟨?_⟩;rw [ziM s o hw];have hc:=zgN o.b;have hc2:=fun t e=>jS s o t e
 generalize xW o.b=p at*;obtain ⟨u,e⟩:=p;simp only at hc;have hc2:=hc2 u e;generalize Z1 s u e=z at*;obtain ⟨s',a⟩:=z;simp only at hc2;refine gcg zgU hc ⟨?_⟩;refine zV rfl rfl rfl jC hc2 ?_;refine ng ⟨?_⟩;exact Zs
theorem zea:ze Tryz.prog 35:=gfn Tryz.func35
set_option maxHeartbeats 1000000 in
theorem zkS (s:MSt) (o:MOp) (ht:s.t.length≤1000000) (hw:o.what=1):zJ s o 31:=by
 unfold zJ;simp only [HM0];refine enta Tryz.func31 Tryz.ntmps31 ⟨?_⟩;rw [zjf s o hw];have hc:=zlg s.t o.l ht;have hc2:=fun t e=>jS s o t e
 generalize yw s.t o.l=p at*;obtain ⟨u,n,e⟩:=p;simp only at hc;have hc2:=hc2 u e;simp only;refine gcg zf5 hc ⟨?_⟩;refine zV rfl rfl rfl jC hc2 ?_;unfold Z1;refine nz ⟨?_⟩;by_cases he:e=0
 ·rw [if_pos he,if_pos he];refine go ⟨?_⟩;rw [beq_iff_eq.2 he];refine go ⟨?_⟩;subst he;exact Zs
 ·rw [if_neg he,if_neg he];refine go ⟨?_⟩;rw [beq_eq_false_iff_ne.2 he];refine go ⟨?_⟩;exact Zs
theorem zju:ze Tryz.prog 31:=gfn Tryz.func31
end
section
variable {P:Program} {tab:Tab} {X:Nat→Prop} {H H':List zb} {μ μ':Mu} {w w':World} {r:Option Nat} {l R:List Oper} {Q:Exit→St→Prop} {σ:St} {o:Oper}
def ovF (n m:Nat) (f g:Nat→List AV):Nat→List AV:=fun k=>if k<n then f k else if k<n+m then g (k - n) else f k
theorem zeW (n:Nat) (f g:Nat→List AV):ovF n 0 f g=f:=by
 funext k
 unfold ovF;split
 ·rfl
 ·rw [if_neg (by omega)]
theorem P1 (hT:zI P tab) (hH:HRel μ X H w) {t e ty:TypeId} {id n m:Nat} {i ei:TyI} (hi:tab t=some i) (hk:i.k= .slice e) (he:tab e=some ei) (hz:0<ei.sz) {ob:zb} (hob:H[id]?=some ob) (hst:ob.st=0) (hsz:ob.sz=ei.sz) (hTe:ob.T=e) (hpu0:ob.pure=true) (hn:n+m≤ob.n)
 {s x:Value} (hs:RV (OO X H μ) w μ (.row id ei.sz 0 n none) s) {A:Option Addr} {c:Nat} {news:List Value} {g:Nat→List AV} (hx:x= .slice A m c) (hl:news.length=m*ei.sz) (h1: ∀u∈news,u.oneCell'=true)
 (hA:m≠0→ ∃a:Addr,A=some a∧ ∀j u,news[j]?=some u→w.cell? (a.add j)=some u) (hg: ∀k,k<m→(g k).length=ei.sz) (hgr: ∀(k j:Nat) a v,k<m→(g k)[j]?=some a→news[k*ei.sz+j]?=some v→RV (OO X H μ) w noMu a v):
 wY P (do pure (.value (←Builtin.append_ #[t,t] ty #[s,x]))) X μ H w (.row id ei.sz 0 (n+m) none) (H.set id {ob with f:=ovF n m ob.f g}) none:=by
 have hidlt:id<H.length:=(List.getElem?_eq_some_iff.1 hob).1
 have hu:=(hT t i hi).und
 rw [hk] at hu;simp only [yz] at hu;obtain ⟨fi,hf,hfs,hfb,zv,hzv,hzc⟩:=(hT e ei he).info;have hat:=hH.obj id ob hob (by omega)
 have hsame:m=0→(H.set id {ob with f:=ovF n m ob.f g})=H:=fun hm=>by
  subst hm;rw [zeW];exact (List.getElem?_eq_some_iff.1 hob).2▸List.set_getElem_self hidlt
 by_cases hm:m=0
 ·rw [hsame hm];subst hm;subst hx
  have hown: ∃xs,w.ownsRow 0 e ei.sz s n xs:=by
   cases hs with
   |rowNil h hc=>exact ⟨[],World.ownsRow_nil w 0 e ei.sz⟩
   |rowE h hc ho=>exact (ho rfl).elim
   |row h h2 h3 h4 h5=>
    rename_i b mb c';obtain ⟨_,cur,hin⟩:=hH.at_ (by rw [zH];exact hob) (by omega) h;have h5:=h5 rfl;have hcs:n*ei.sz≤cur.size:=by rw [hin.size,hsz];exact Nat.mul_le_mul_right _ (by omega)
    exact ⟨cur.toList.take (n*ei.sz),⟨by simp;omega, .inr ⟨b,c',cur,by simp,Nat.zero_le _,by rw [←hTe];exact hin.blk,h2,by have:=hin.le;omega,by rw [hin.size,hsz];congr 1;omega,rfl⟩⟩⟩
  obtain ⟨xs,hown⟩:=hown;have hrun:=Qt (P:=P) w 0 t ty e fi ei.sz hu hf s n xs hown A c;exact ⟨.value s,s,w,μ,by rw [Sem.run_bind,hrun];rfl, .inl rfl,hH, .refl _ _, .refl _ _,hs,fun k a v h=>⟨h,fun _=>h⟩⟩
 ·subst hx;obtain ⟨a',rfl,gc⟩:=hA hm;cases hs with
  |rowNil h hc=>
   exfalso
   rcases hat.2 with ⟨_,e2⟩|⟨b,m',cur,e1,_⟩
   ·omega
   ·rw [h] at e1;cases e1
  |rowE h hc ho=>exact (ho rfl).elim
  |row h h2 h3 h4 h5=>
   rename_i b mb c';have h5:=h5 rfl;obtain ⟨_,cur,hin⟩:=hH.at_ (by rw [zH];exact hob) (by omega) h
   have hcell: ∀j,j<cur.size→(w.cell? ⟨b,j,none⟩).isSome=true:=fun j hj=>by
    simp [World.cell?,hin.blk,hj]
   have hcs:cur.size=mb*ei.sz:=by rw [hin.size,hsz]
   have hnle:=hin.nle
   have hfit:n*ei.sz+news.length≤cur.size:=by
    rw [hl,hcs,←Nat.add_mul];exact Nat.mul_le_mul_right _ (by omega)
   have hsrc:Src P fi.size t (.slice (some a') m c) m news w:=Src.ofSlice w hu a' m c news (by rw [hfs];exact hl) gc h1
   have hrun:=run_append_room_src (P:=P) (w:=w) t t ty e fi hu hf b (0*ei.sz) n c' (.slice (some a') m c) m news hsrc (by omega) (fun j hj=>hcell _ (by rw [hfs];omega)) (fun j hj=>frozen_of_row w b _ cur _ hin.blk)
   have hsc:w.setCells b (0*ei.sz+n*fi.size) news=w.setRow b (cur.toList.take (n*ei.sz+0)++news++cur.toList.drop (n*ei.sz+0+news.length)).toArray:=by
    have r1:=run_storeCells_cells (P:=P) b (n*ei.sz) news 0 w (fun j hj=>hcell _ (by omega)) (fun j hj=>frozen_of_row w b _ cur _ hin.blk) h1;have r2:=run_storeCells_at P b (n*ei.sz) ob.T news 0 cur w hin.blk (by omega) h1;rw [r2] at r1;injection r1 with _ r1
    rw [hfs,Nat.zero_mul,Nat.zero_add,r1];rfl
   rw [hsc] at hrun
   have hpre: ∀j,j<n*ei.sz→(cur.toList.take (n*ei.sz+0)++news++cur.toList.drop (n*ei.sz+0+news.length)).toArray[j]?=cur[j]?:=fun j hj=>by
    simp only [List.getElem?_toArray];rw [List.append_assoc,List.getElem?_append_left (by simp;omega),List.getElem?_take,if_pos (by omega)];simp
   have htl:(cur.toList.take (n*ei.sz+0)).length=n*ei.sz:=by simp;omega
   have hmid: ∀j,n*ei.sz≤j→j<n*ei.sz+news.length→(cur.toList.take (n*ei.sz+0)++news++cur.toList.drop (n*ei.sz+0+news.length)).toArray[j]?=news[j - n*ei.sz]?:=fun j hj hj2=>by
    simp only [List.getElem?_toArray];rw [List.append_assoc,List.getElem?_append_right (by rw [htl];exact hj),htl,List.getElem?_append_left (by omega)]
   have hpost: ∀j,n*ei.sz+news.length≤j→(cur.toList.take (n*ei.sz+0)++news++cur.toList.drop (n*ei.sz+0+news.length)).toArray[j]?=cur[j]?:=fun j hj=>by
    simp only [List.getElem?_toArray];rw [List.getElem?_append_right (by rw [List.length_append,htl];exact hj),List.length_append,htl,List.getElem?_drop,show n*ei.sz+0+news.length+(j - (n*ei.sz+news.length))=j by omega];simp
   have hsize:(cur.toList.take (n*ei.sz+0)++news++cur.toList.drop (n*ei.sz+0+news.length)).toArray.size=cur.size:=by
    simp only [List.size_toArray,List.length_append,htl,List.length_drop,Array.length_toList];omega
   generalize (cur.toList.take (n*ei.sz+0)++news++cur.toList.drop (n*ei.sz+0+news.length)).toArray=cur' at*
   have hlow: ∀k j,k<n→j<ei.sz→k*ei.sz+j<n*ei.sz:=fun k j hk hj=>by
    have:(k+1)*ei.sz≤n*ei.sz:=Nat.mul_le_mul_right _ hk
    rw [Nat.add_mul] at this;omega
   have hmi: ∀k j,n≤k→k<n+m→j<ei.sz→n*ei.sz≤k*ei.sz+j∧k*ei.sz+j<n*ei.sz+news.length∧k*ei.sz+j - n*ei.sz=(k - n)*ei.sz+j:=fun k j h1 h2 hj=>by
    obtain ⟨d,rfl⟩: ∃d,k=n+d:=⟨k - n,by omega⟩;have h3:(d+1)*ei.sz≤m*ei.sz:=Nat.mul_le_mul_right _ (by omega)
    rw [Nat.add_mul] at h3;rw [hl,Nat.add_mul,Nat.add_sub_cancel_left];omega
   have hhi: ∀k j,n+m≤k→n*ei.sz+news.length≤k*ei.sz+j:=fun k j hk=>by
    have:(n+m)*ei.sz≤k*ei.sz:=Nat.mul_le_mul_right _ hk
    rw [Nat.add_mul] at this;omega
   obtain ⟨q1,q2,q3,q4⟩:=hH.short (ob':={ob with f:=ovF n m ob.f g}) (w':=w.setRow b cur') hob hst hst ⟨rfl,rfl,rfl,by simp⟩ (fun b' m' hm'=>by
    have:=(hH.lt id b' m' hm').1
    simpa using this) (fun k hk hne=>setRow_other w b k _ fun he=>hne mb (by rw [he];exact h)) fun _ hup=>by
    refine ⟨hat.1, .inr ⟨b,mb,cur',h,setRow_heap w b cur _ ob.T (0,0) hin.blk,by rw [hsize];exact hin.size,hin.le,hin.nle,fun k j v hk' hj hv=> ?_,fun k hk'=> ?_,fun k j a v hk' ha hv=> ?_⟩⟩
    ·simp only at hk' hj hv;rw [hsz] at hj hv;by_cases c1:k<n
     ·rw [hpre _ (hlow k j c1 hj)] at hv;exact hin.one k j v (by omega) (by omega) (by rw [hsz];exact hv)
     ·by_cases c2:k<n+m
      ·obtain ⟨z1,z2,z3⟩:=hmi k j (by omega) c2 hj;rw [hmid _ z1 z2] at hv;exact h1 v (List.mem_of_getElem? hv)
      ·rw [hpost _ (hhi k j (by omega))] at hv;exact hin.one k j v hk' (by omega) (by rw [hsz];exact hv)
    ·simp only at hk';show (ovF n m ob.f g k).length=ob.sz
     unfold ovF;split
     ·exact hin.flen k hk'
     ·split
      ·rw [hg _ (by omega),hsz]
      ·exact hin.flen k hk'
    ·simp only at hk' ha hv;rw [hsz] at hv;have hpur:(if ob.pure=true then noMu else μ)=noMu:=by rw [hpu0];rfl
     have hcell':=hin.cell
     simp only [hpur] at hcell' ⊢;unfold ovF at ha;by_cases c1:k<n
     ·rw [if_pos c1] at ha;have hj:j<ei.sz:=by rw [←hsz,←hin.flen k hk'];exact (List.getElem?_eq_some_iff.1 ha).1
      rw [hpre _ (hlow k j c1 hj)] at hv;exact hup (hcell' k j a v hk' ha (by rw [hsz];exact hv))
     ·rw [if_neg c1] at ha;by_cases c2:k<n+m
      ·rw [if_pos c2] at ha;have hj:j<ei.sz:=by rw [←hg (k - n) (by omega)];exact (List.getElem?_eq_some_iff.1 ha).1
       obtain ⟨z1,z2,z3⟩:=hmi k j (by omega) c2 hj;rw [hmid _ z1 z2,z3] at hv;exact hup (hgr (k - n) j a v (by omega) ha hv)
      ·rw [if_neg c2] at ha;have hj:j<ei.sz:=by rw [←hsz,←hin.flen k hk'];exact (List.getElem?_eq_some_iff.1 ha).1
       rw [hpost _ (hhi k j (by omega))] at hv;exact hup (hcell' k j a v hk' ha (by rw [hsz];exact hv))
   exact ⟨_, .slice (some ⟨b,0*ei.sz,none⟩) (n+m) c',_,μ,by rw [Sem.run_bind,hrun];rfl, .inl rfl,q1,q2,q3, .row h (by omega) (by omega) (fun q hq=>by cases hq) (fun _=>by omega),fun k x v hv=>⟨q4 _ hv,fun _=>q4 _ hv⟩⟩
theorem gx (hT:zI P tab) (hw:zS l σ o=some true) {t e:TypeId} {sx xx:Operand} (ho:o.op= .call {callee:= .builtin .append,args:= #[sx,xx],argTypes:= #[t,t]}) {i ei:TyI} (hi:tab t=some i) (hk:i.k= .slice e) (he:tab e=some ei) (hz:0<ei.sz) {id n:Nat} (hs:σ.ev sx= .row id ei.sz 0 n none)
 {ob:zb} (hob:nth σ.H id=some ob) (hst:ob.st=0) (hsz:ob.sz=ei.sz) (hTe:ob.T=e) (hpu:ob.pure=true) {q:Prop} {m:Nat} {g:Nat→List AV} (hsrc:JV σ.H ei.sz (σ.ev xx)=some (q,m,g)) (hq:q) (hn:n+m≤ob.n)
 (next:AL P r l Q R (St.put ⟨σ.s,setn σ.H id {ob with f:=ovF n m ob.f g},σ.fg,σ.nb⟩ o.dst (.row id ei.sz 0 (n+m) none))):AL P r l Q (o::R) σ:=by
 rw [Zx] at next;rw [zH] at hob;refine xu (H':=σ.H.set id {ob with f:=ovF n m ob.f g}) (fg:=none) hw (fun c hc=>by rw [ho] at hc;cases hc) (fun B μ a w hr=>⟨?_,by simp⟩) next
 have hex:execOp a.eval o=(do pure (.value (←Builtin.append_ #[t,t] o.type #[a.eval sx,a.eval xx])):Sem Next):=by
  unfold execOp;rw [ho];simp [resolve,invoke,builtin]
 rw [hex];have hsv:=hr.ev sx;have hx:=hr.ev xx;rw [hs] at hsv;obtain ⟨A,c,news,g1,g2,g3,g4,g5,g6⟩:=um hr.H hsrc hq hx;exact P1 (P:=P) (ty:=o.type) hT hr.H hi hk he hz hob hst hsz hTe hpu hn hsv g1 g2 g3 g4 g5 g6
theorem zbE {t e:TypeId} (hu:P.underlying t=some (.slice e)) (A:Option Addr) (n N c:Nat) (lv hv:Value):(Instr.sliceAt t (.slice A n c) (some lv) (some hv) none).run P w=(Instr.sliceAt t (.slice A N c) (some lv) (some hv) none).run P w:=by
 simp only [Instr.sliceAt,Sem.run_bind,run_underlying hu,Result.andThen_ok,Instr.slice,Instr.sliceBounds]
theorem zbb (hT:zI P tab) (hw:zS l σ o=some true) {t e:TypeId} {x lo hi:Operand} (ho:o.op= .slice t x (some lo) (some hi) none) {i ei:TyI} (hi':tab t=some i) (hk:i.k= .slice e) (he:tab e=some ei) {id n:Nat} (hx:σ.ev x= .row id ei.sz 0 n none) {a b:Int} (hlo:σ.ev lo= .lit (.int .i64 a)) (hhi:σ.ev hi= .lit (.int .i64 b))
 {ob:zb} (hob:nth σ.H id=some ob) (hst:ob.st=0) (hsz:ob.sz=ei.sz) (hn0:0<ob.n) (hab:0≤a∧a≤b∧b≤ob.n)
 (next:AL P r l Q R (σ.put o.dst (.row id ei.sz a.toNat (b.toNat - a.toNat) none))):AL P r l Q (o::R) σ:=by
 rw [zH] at hob;refine xu (H':=σ.H) (fg:=none) hw (fun c hc=>by rw [ho] at hc;cases hc) (fun B μ ac w hr=>⟨?_,Nat.le_refl _⟩) next;have hxv:=hr.ev x;rw [hx] at hxv;have hlv:=hr.ev lo;have hhv:=hr.ev hi;have hlv':=hlo▸hlv
 have hhv':=hhi▸hhv
 have hat:=hr.H.obj id ob hob (by omega);have hu:P.underlying t=some (.slice e):=by have:=(hT _ _ hi').und;rw [hk] at this;exact this
 have hbig: ∃A c,ac.eval x= .slice A n c∧RV (OO B.X σ.H μ) w μ (.row id ei.sz 0 ob.n none) (.slice A ob.n c):=by
  generalize hav:ac.eval x=v at hxv;cases hxv with
  |rowNil h hc=>
   exfalso
   rcases hat.2 with ⟨_,e2⟩|⟨b,m',cur,e1,_⟩
   ·omega
   ·rw [h] at e1;cases e1
  |rowE h hc ho=>exact (ho rfl).elim
  |row h h2 h3 h4 h5=>
   rename_i b mb c';obtain ⟨_,cur,hin⟩:=hr.H.at_ (by rw [zH];exact hob) (by omega) h;have h5:=h5 rfl;have:=hin.nle
   exact ⟨_,_,rfl, .row h (by omega) (by omega) (fun q hq=>by cases hq) (fun _=>by omega)⟩
 obtain ⟨A,c,hxe,hrv⟩:=hbig
 have hsl:qR tab σ.H t (.row id ei.sz 0 ob.n none) (some (.lit (.int .i64 a))) (some (.lit (.int .i64 b))) none=some (Yo (some a) (some b) none ob.n, .row id ei.sz (XR (some a) 0) (zO (some a) (some b) ob.n) none):=by
  unfold qR;simp only [hi',hk,he,x_,Nat.beq_refl,XU]
 obtain ⟨u,hu1,hu2⟩:=J1 (P:=P) hT hsl ⟨hab.1,hab.2.1,hab.2.2⟩ hr.H hrv (lv:=some (ac.eval lo)) (hv:=some (ac.eval hi)) (mv:=none) (fun a ha=>by injection ha with ha;subst ha;exact ⟨_,rfl,hlv'⟩) (fun h=>by cases h) (fun a ha=>by injection ha with ha;subst ha;exact ⟨_,rfl,hhv'⟩) (fun h=>by cases h) (fun a ha=>by cases ha) (fun _=>rfl)
 have hrun:(execOp ac.eval o).run P w= .ok (.value u) w:=by
  unfold execOp;rw [ho];simp only [hxe,Option.map_some,Option.map_none];rw [Sem.run_bind,zbE hu A n ob.n c,hu1];rfl
 have e1:(.row id ei.sz (XR (some a) 0) (zO (some a) (some b) ob.n) none:AV)= .row id ei.sz a.toNat (b.toNat - a.toNat) none:=by
  rw [YR];simp [XR,Zh,zK]
 rw [e1] at hu2;exact ⟨.value u,u,w,μ,hrun, .inl rfl,hr.H, .refl _ _, .refl _ _,hu2,fun k a v h=>⟨h,fun _=>h⟩⟩
theorem zgZ (hT:zI P tab) (hw:zS l σ o=some true) {t e:TypeId} {x lo hi mx:Operand} (ho:o.op= .slice t x (some lo) (some hi) (some mx)) {i ei:TyI} (hi':tab t=some i) (hk:i.k= .slice e) (he:tab e=some ei) {id n:Nat} (hx:σ.ev x= .row id ei.sz 0 n none) {a b m:Int} (hlo:σ.ev lo= .lit (.int .i64 a)) (hhi:σ.ev hi= .lit (.int .i64 b)) (hmx:σ.ev mx= .lit (.int .i64 m))
 (hab:0≤a∧a≤b∧b≤m∧m≤n) (next:AL P r l Q R (σ.put o.dst .junk)):AL P r l Q (o::R) σ:=by
 refine xu (H':=σ.H) (fg:=none) hw (fun c hc=>by rw [ho] at hc;cases hc) (fun B μ ac w hr=>⟨?_,Nat.le_refl _⟩) next;have hxv:=hr.ev x;rw [hx] at hxv;have hlv:=(hlo▸hr.ev lo).lit_eq
 have hhv:=(hhi▸hr.ev hi).lit_eq
 have hmv:=(hmx▸hr.ev mx).lit_eq
 have hu:P.underlying t=some (.slice e):=by have:=(hT _ _ hi').und;rw [hk] at this;exact this
 have hz:=(hT e ei he).run_size (w:=w)
 have hbig: ∃A c,ac.eval x= .slice A n c∧n≤c:=by
  generalize hav:ac.eval x=v at hxv;cases hxv with
  |rowNil h hc=>exact ⟨_,_,rfl,Nat.le_refl _⟩
  |rowE h hc ho=>exact ⟨_,_,rfl,Nat.le_refl _⟩
  |row h h2 h3 h4 h5=>exact ⟨_,_,rfl,h2⟩
 obtain ⟨A,c,hxe,hnc⟩:=hbig;have e1:(a.toNat:Int)=a:=Int.toNat_of_nonneg hab.1
 have e2:(b.toNat:Int)=b:=Int.toNat_of_nonneg (by omega)
 have e3:(m.toNat:Int)=m:=Int.toNat_of_nonneg (by omega)
 have hrun: ∃u,(Instr.sliceAt t (.slice A n c) (some (.int .i64 a)) (some (.int .i64 b)) (some (.int .i64 m))).run P w= .ok u w:=by
  cases A with
  |none=>simp [Instr.sliceAt,run_underlying hu,Instr.slice,Instr.sliceBounds,run_sliceBound,hz,hab,e1,e2,e3,(by omega:0≤b),(by omega:0≤m),(by omega:m≤(c:Int))]
  |some A=>simp [Instr.sliceAt,run_underlying hu,Instr.slice,Instr.sliceBounds,run_sliceBound,hz,hab,e1,e2,e3,(by omega:0≤b),(by omega:0≤m),(by omega:m≤(c:Int))]
 obtain ⟨u,hrun⟩:=hrun;refine ⟨.value u,u,w,μ, ?_, .inl rfl,hr.H, .refl _ _, .refl _ _, .junk u,fun k a v h=>⟨h,fun _=>h⟩⟩;unfold execOp;rw [ho];simp only [hxe,hlv,hhv,hmv,Option.map_some];rw [Sem.run_bind,hrun];rfl
end
section
attribute [local irreducible] zA AO zt zo ADr AL AW zF zh zU Tells APure ACall
theorem zaO (s:MSt) (o:MOp) (l:List YW) (k:Nat) (hk:k<l.length) (hl:l.length≤1000000):ACall Tryz.prog 64 [.row 6 2 0 l.length none,int k,int ((k+1:Nat):Int)] [wOb s,yD o,zSt,zAn,yD o,zAn,Tf l] fun r H' fg=>r= .row 6 2 0 (l.eraseIdx k).length none∧H'=[wOb s,yD o,zSt,zAn,yD o,zAn,Tf (l.eraseIdx k)]∧fg=[]:=by
 refine enta Tryz.func64 Tryz.ntmps64 ⟨?_⟩;refine go ⟨?_⟩;refine zgZ hT rfl rfl rfl rfl rfl rfl rfl rfl rfl ⟨by omega,by omega,by omega,by omega⟩ ?_;refine ng ⟨?_⟩;rw [beq_eq_false_iff_ne.2 (show (k:Int)≠((k+1:Nat):Int) by omega)];refine go ⟨?_⟩;have c1:zO none (some (k:Int)) l.length=k:=by rw [YR];simp [Zh,zK]
 have c2:zO (some ((k+1:Nat):Int)) none l.length=l.length - (k+1):=by rw [YR];simp [Zh,zK]
 have c3:XR (some ((k+1:Nat):Int)) 0=k+1:=by simp [XR]
 simp only [c1,c2,c3,XU,show XR none 0=0 from rfl];have hlen:(l.eraseIdx k).length=k+(l.length - (k+1)):=by rw [List.length_eraseIdx];rw [if_pos hk];omega
 refine gx hT rfl rfl rfl rfl rfl (by decide) rfl rfl rfl rfl rfl rfl rfl (by show k+1+(l.length - (k+1))≤l.length;omega) (by show k+(l.length - (k+1))≤l.length;omega) ?_;refine nz ⟨?_⟩;rw [←hlen];refine go ⟨?_⟩;refine zbb hT rfl rfl rfl rfl rfl rfl rfl rfl rfl rfl rfl (by show 0<l.length;omega) ⟨by omega,by omega,by show (l.length:Int)≤l.length;omega⟩ ?_;refine ng ⟨?_⟩;refine uy hT rfl rfl rfl rfl rfl rfl rfl rfl ⟨rfl,rfl⟩ (by show (l.eraseIdx k).length≤l.length;omega) ?_;refine ng ⟨?_⟩;refine Wc rfl trivial ⟨rfl,rfl,rfl⟩ (Tells.le ?_ (.cons (.refl _) (.cons (.refl _) (.cons (.refl _) (.cons (.refl _) (.cons (.refl _) (.cons (.refl _) (.cons (.of (Nat.le_refl _) (fun h=>h) fun j hj=> ?_) .nil))))))))
 ·exact les
 ·have hj:j<(l.eraseIdx k).length:=hj
  have he: ∀z,(l.eraseIdx k).getD j z=if j<k then l.getD j z else l.getD (j+1) z:=fun z=>by
   simp only [List.getD_eq_getElem?_getD,List.getElem?_eraseIdx];split <;>rfl
  unfold ovF;by_cases c:j<k
  ·rw [if_pos c];show ZH.enc _=ZH.enc _;rw [he,if_pos c]
  ·rw [if_neg c,if_pos (by omega)];show ZH.enc _=ZH.enc _;rw [he,if_neg c,show k+1+(j - k)=j+1 by omega]
theorem zcn:ze Tryz.prog 64:=gfn Tryz.func64
theorem zeO (s:MSt) (o:MOp) (hs:s.kept.length≤1000000) (hw:o.what=7):zJ s o 38:=by
 unfold zJ;simp only [HM0];refine enta Tryz.func38 Tryz.ntmps38 ⟨?_⟩;have hD:Yq s o=if zq s o.i<0 then (s,zu 13) else (⟨s.t,s.kept.eraseIdx (zq s o.i).toNat,s.next⟩,zu 0):=by obtain ⟨w,i,l,ks,b,old⟩:=o;simp only at hw;subst hw;simp [Yq]
 have hpl:= @yb s o.i
 have hc:=Wk s o hs o.i;rw [hD];refine go ⟨?_⟩;refine zV rfl rfl rfl PL hc ?_;refine nz ⟨?_⟩;generalize zq s o.i=k at*;by_cases hk:k<0
 ·rw [if_pos hk];refine gcg yW (y6 13) ⟨?_⟩;exact Zs
 ·rw [if_neg hk];obtain ⟨hp,_,hp0⟩:=hpl hk;obtain ⟨n,rfl⟩: ∃n:Nat,k=n:=⟨k.toNat,by omega⟩;simp only [Int.toNat_natCast] at hp ⊢;have e1:IntKind.i64.wrap ((n:Int)+1)=((n+1:Nat):Int):=by simp only [IntKind.wrap_i64];omega
  refine gcg TQ (t6 s.kept (by omega)) ⟨?_⟩;rw [e1];refine zV rfl rfl rfl zcn (zaO s o s.kept n hp hs) ?_;refine nz ⟨?_⟩;refine zz (Tells.thaw (t:=23) rfl rfl (by repeat' (first|exact trivial|exact Nat.le_refl _|exact Nat.le_of_eq (Nat.zero_add _)|omega|exact rfl|refine And.intro ?_ ?_))) ?_;refine nz ⟨?_⟩;refine zz (Tells.sel [0,1,2,3,4,5] rfl rfl) ?_;refine mc14 ⟨?_⟩;refine go ⟨?_⟩;exact Zs
theorem gE:ze Tryz.prog 38:=gfn Tryz.func38
theorem ziO (s:MSt) (o:MOp) (hw:o.what=5):Yq s o=yN s:=by obtain ⟨w,i,l,ks,b,old⟩:=o;simp only at hw;subst hw;simp [Yq]
set_option maxHeartbeats 2000000 in
theorem zjB (s:MSt) (o:MOp) (hs:Zd s=true) (hw:o.what=5):zJ s o 36:=by
 unfold zJ;simp only [HM0];rw [ziO s o hw];obtain ⟨last,g1,g2,g3,g4,g5⟩:=(Yb s).1 hs;have g0:=Wx _ _ _ g1;obtain ⟨t,l,nx⟩:=s;simp only at g3 g4 g5;unfold yN;simp only;have e1:IntKind.i64.wrap (nx+1)=nx+1:=by simp only [IntKind.wrap_i64];omega
 refine enta Tryz.func36 Tryz.ntmps36 ⟨?_⟩;refine go ⟨?_⟩;by_cases h1:l.length=8
 ·rw [if_pos (.inl h1),beq_iff_eq.2 (show (l.length:Int)=8 by omega)];refine gcg yW (y6 10) ⟨?_⟩;exact Zs
 rw [beq_eq_false_iff_ne.2 (show (l.length:Int)≠8 by omega)];refine go ⟨?_⟩;by_cases h2:nx=1099511627776
 ·rw [if_pos (.inr h2),beq_iff_eq.2 h2];refine gcg yW (y6 10) ⟨?_⟩;exact Zs
 rw [if_neg (by omega),beq_eq_false_iff_ne.2 h2];refine gon ⟨?_⟩;rw [e1];refine gon ⟨?_⟩;refine zgd y8 [6,19,23] 19 36 23 (fun q=>wOb ⟨t,l,nx+1⟩::yD o::zSt::zAn::yD o::zAn::q) 6 rfl rfl (by kernel_rfl) (by kernel_rfl) rfl (by kernel_rfl) ?_;refine jx ⟨?_⟩;refine zim TQ (t6 l (by omega)) ⟨?_⟩;refine jx ⟨?_⟩;refine zdQ hT rfl rfl (by first|exact True.intro|omega|decide|exact ⟨rfl,by decide,by decide,by decide⟩) rfl rfl (by repeat' (first|exact trivial|exact Nat.le_refl _|exact Nat.le_of_eq (Nat.zero_add _)|refine And.intro ?_ ?_|omega)) rfl (by first|exact .inr trivial|exact .inr rfl|exact .inl rfl) rfl ?_;refine vX ⟨?_⟩;refine gD hT rfl rfl rfl (by repeat' (first|exact trivial|exact Nat.le_refl _|(show (l.length+1)*32≤_;omega)|omega|refine And.intro ?_ ?_)) rfl rfl rfl (fun h=>by first|exact ⟨_,rfl⟩|cases h) ?_;refine vX ⟨?_⟩;refine ms8 ⟨?_⟩;refine Wc rfl (by repeat' (first|exact trivial|exact Nat.le_refl _|exact Nat.zero_lt_one|refine And.intro ?_ ?_|decide|omega)) ⟨rfl,rfl,rfl⟩ ((uQ 0 rfl rfl Nat.zero_lt_two rfl (by repeat' (first|exact trivial|exact Nat.le_refl _|exact Nat.le_of_eq (Nat.zero_add _)|omega|refine And.intro ?_ ?_))).trans ((Tells.sel [0,1,2,3] rfl rfl).trans (Tells.le ?_ ?_)))
 ·exact les
 ·exact .cons (.les (Nat.le_refl _) (fun k hk=> .cons (.refl _) (.cons (.sl (by simp) (fun h=>h) fun k hk=>ZZ (e:=ZH) rfl rfl hk) (.cons (.refl _) .nil))) (show (0:Nat)<3 by decide)) (.cons (.refl _) (.cons (.refl _) (.cons (.refl _) .nil)))
theorem zhe:ze Tryz.prog 36:=gfn Tryz.func36
theorem zkE (t:zc) (i:Int) (ht:t.length≤1000000):APure Tryz.prog 65 [zg t,int i] (X4 ⟨0,0,zL t i,[],false⟩) []:=by
 refine ent Tryz.func65 Tryz.ntmps65 ⟨?_⟩;exact gcgf Jm (Jc t i ht)
theorem zkI:ze Tryz.prog 65:=gfn Tryz.func65
theorem zky (t:zc) (i:Int) (ht:t.length≤1000000):APure Tryz.prog 67 [zg t,int i] (X4 ⟨0,0,Zf t i,[],false⟩) []:=by
 refine ent Tryz.func67 Tryz.ntmps67 ⟨?_⟩;exact gcgf PR (zec t i ht)
theorem zk7:ze Tryz.prog 67:=gfn Tryz.func67
theorem zk2 (t:zc) (i:Int) (ht:t.length≤1000000) (h0:0≤i) (h1:i≤1000000):APure Tryz.prog 69 [zg t,int i] (X4 ⟨0,0,Zc (2*i) t.length,[],false⟩) []:=by
 refine ent Tryz.func69 Tryz.ntmps69 ⟨?_⟩;have e1:IntKind.i64.wrap (2*i)=2*i:=by simp only [IntKind.wrap_i64];omega
 refine go ⟨?_⟩;rw [e1];exact cgf KR (zc3 (2*i) t.length)
theorem zkC:ze Tryz.prog 69:=gfn Tryz.func69
theorem zlq (t:zc) (i:Int) (ht:t.length≤1000000):APure Tryz.prog 71 [zg t,int i] (X4 ⟨0,0,[],QL t i,false⟩) []:=by
 refine ent Tryz.func71 Tryz.ntmps71 ⟨?_⟩;exact gcgf zie (zid t i ht)
theorem zkH:ze Tryz.prog 71:=gfn Tryz.func71
theorem zkx (t:zc) (i:Int) (ht:t.length≤1000000):APure Tryz.prog 73 [zg t,int i] (X4 ⟨0,0,[],[],Xe t⟩) []:=by
 refine ent Tryz.func73 Tryz.ntmps73 ⟨?_⟩;exact gcgf Gr (Gp t ht)
theorem zlt:ze Tryz.prog 73:=gfn Tryz.func73
theorem zln (t:zc) (i:Int) (ht:t.length≤1000000):APure Tryz.prog 75 [zg t,int i] (X4 ⟨0,0,[],U5 t,false⟩) []:=by
 refine ent Tryz.func75 Tryz.ntmps75 ⟨?_⟩;exact gcgf zhl (zhX t ht)
theorem zkF:ze Tryz.prog 75:=gfn Tryz.func75
theorem zkw (t:zc) (i:Int) (ht:t.length≤1000000):APure Tryz.prog 77 [zg t,int i] (X4 ⟨0,vy t,[zp t],[],false⟩) []:=by
 refine ent Tryz.func77 Tryz.ntmps77 ⟨?_⟩;unfold vy;have hc:= @List.countP_le_length _ (p:=fun n:Zt=>decide (n.kind=1))
 refine go ⟨?_⟩;refine lp (fun i:{i:Nat // i≤t.length}=>[(5,int ((t.take i.1).countP fun n=>decide (n.kind=1):Nat)),(10,int i.1),(7, .junk)]) (fun i=>[{T:=38,sz:=5,n:=1,f:=fun _=>[.lit (.int .i64 0), .lit (.int .i64 0), .lit (.slice none 0 0), .lit (.slice none 0 0), .lit (.bool false)],box:=true}]) (fun i=>t.length - i.1) ⟨0,by omega⟩ ?_
 rintro ⟨j,hj⟩
 refine go ⟨?_⟩;refine zj rfl (fun h=> ?_) (fun h=> ?_)
 ·have hlt:j<t.length:=by omega
  have hz:t.getD j zf.z=t[j]:=by show t.getD j za=_;simp [List.getD_eq_getElem?_getD,hlt]
  have ef:fE zf t j=Zb t[j]:=congrArg Zb hz
  have hs:(t.take (j+1)).countP (fun n=>decide (n.kind=1))=(t.take j).countP (fun n=>decide (n.kind=1))+if t[j].kind=1 then 1 else 0:=by
   rw [List.take_succ_eq_append_getElem hlt,List.countP_append,List.countP_singleton];simp
  have hb:=hc (l:=t.take j);rw [List.length_take] at hb;refine go ⟨?_⟩;try rw [ef]
  refine go ⟨?_⟩;try rw [hz]
  generalize (t.take j).countP (fun n=>decide (n.kind=1))=c at*;by_cases h:t[j].kind=1
  ·rw [if_pos h] at hs;rw [beq_iff_eq.2 h];refine go ⟨?_⟩;refine je ⟨⟨j+1,by omega⟩,by simp only;omega, ?_⟩;simp only [hs];refine (Tells.sel [0] rfl rfl).trans ?_;refine mc14 ⟨?_⟩;exact tel
  ·rw [if_neg h] at hs;rw [beq_eq_false_iff_ne.2 h];refine go ⟨?_⟩;refine je ⟨⟨j+1,by omega⟩,by simp only;omega, ?_⟩;simp only [hs];refine (Tells.sel [0] rfl rfl).trans ?_;refine mc14 ⟨?_⟩;exact tel
 ·obtain rfl:j=t.length:=by omega
  rw [List.take_length];refine gcg wG (wz t ht) ⟨?_⟩;refine uM rfl (by repeat' (first|exact trivial|exact Nat.le_refl _|exact Nat.zero_lt_one|refine And.intro ?_ ?_|decide|omega)) ?_;refine (Tells.thaw (t:=0) rfl rfl (by repeat' (first|exact trivial|exact Nat.le_refl _|exact Nat.le_of_eq (Nat.zero_add _)|omega|refine And.intro ?_ ?_))).trans ((Tells.sel [] rfl rfl).trans (Tells.le ?_ .nil));exact .cons (AV.Le.agg (.cons (.refl _) (.cons (.refl _) (.cons (JR (e:=wA) (xs:=[zp t]) rfl rfl) (.cons (AV.Le.nil rfl rfl) (.cons (.refl _) .nil)))))) .nil
theorem zlm:ze Tryz.prog 77:=gfn Tryz.func77
theorem xp (hT:zI Tryz.prog tab) {Q:Exit→St→Prop} {l:List Oper} {C:List Nat} {jc jt brk k:Nat} {Z:AV→Prop} {R:List Oper} {o:Oper} {f:List zb→List zb} {s:List AV} {H:List zb} {fg:List Nat} {nb:YB} (hg:o.guard=none) {t:TypeId} {mx kx:Operand} {ok:Bool} (ho:o.op= .lookup t mx kx ok) {kt et:TypeId} (ht:Z2 tab t=some (kt,et)) {zv:Value} (hzv:(((Tryz.prog).info? et).bind fun i=>i.zero)=some zv)
 {i:Nat} (hm:evS s mx=KL i) {z:Int} (hk:evS s kx= .lit (.int .i64 z)) {ob:zb} (hob:nth H i=some ob) (hst:ob.st=3) {x y:AV} (hx:(match xh ob z with|[x]=>x|_=> .lit zv)=x) (hy:(match ok,xh ob z with|true,[x]=> .tup [x, .lit (.bool true)]|true,_=> .tup [.lit zv, .lit (.bool false)]|false,_=>x)=y)
 (hc:(C.contains k && k==jc)=true) (hd:(o.dst==some jt)=false) (hK:Nat.blt k brk=true→K1 f H) (next:AMj Tryz.prog l C jc jt brk (K1 f) Z Q (k+1) R (St.put ⟨Z6 s (some jt) .junk,H,fg,nb⟩ o.dst y)):AMj Tryz.prog l C jc jt brk (K1 f) Z Q k (o::R) ⟨s,H,fg,nb⟩:=
 .jump y H hc hd hK (CStepC.toJ (fun s' hev Q R next=>by
  have h1:=hev mx (by rw [ho];simp [Op.operands]);have h2:=hev kx (by rw [ho];simp [Op.operands]);exact ZU (σ:=⟨s',H,fg,nb⟩) hT (xc hg) ho ht hzv (h1.trans hm) (h2.trans hk) hob hst hx hy next) hd) next
abbrev qfn (g:Nat):List AV:=[.fn (.func g) [] []]
def qF:Nat→List AV:=Ys (Ys (Ys (Ys (Ys (Ys (Ys (fun _=>[]) 9 (qfn 65)) 10 (qfn 67)) 11 (qfn 69)) 12 (qfn 71)) 13 (qfn 73)) 14 (qfn 75)) 15 (qfn 77)
abbrev zkf:zb:=Ve 68 16 qF
theorem wu:APure Tryz.prog 39 [] (KL 0) [zkf]:=by
 refine ent Tryz.func39 Tryz.ntmps39 ⟨?_⟩;have hT2:Z2 tab 68=some (3,99):=rfl
 refine go ⟨?_⟩;refine qM 16 rfl rfl ?_;refine nz ⟨?_⟩;refine Zq (z:=9) hT rfl rfl hT2 rfl rfl rfl rfl (show (9:Nat)<16 by decide) rfl ?_;refine nz ⟨?_⟩;refine Zq (z:=10) hT rfl rfl hT2 rfl rfl rfl rfl (show (10:Nat)<16 by decide) rfl ?_;refine nz ⟨?_⟩;refine Zq (z:=11) hT rfl rfl hT2 rfl rfl rfl rfl (show (11:Nat)<16 by decide) rfl ?_;refine nz ⟨?_⟩;refine Zq (z:=12) hT rfl rfl hT2 rfl rfl rfl rfl (show (12:Nat)<16 by decide) rfl ?_;refine nz ⟨?_⟩;refine Zq (z:=13) hT rfl rfl hT2 rfl rfl rfl rfl (show (13:Nat)<16 by decide) rfl ?_;refine nz ⟨?_⟩;refine Zq (z:=14) hT rfl rfl hT2 rfl rfl rfl rfl (show (14:Nat)<16 by decide) rfl ?_;refine nz ⟨?_⟩;refine Zq (z:=15) hT rfl rfl hT2 rfl rfl rfl rfl (show (15:Nat)<16 by decide) rfl ?_;refine ng ⟨?_⟩;exact Z9 rfl trivial [KL 0] [zkf] (Tells.refl _) ⟨rfl,rfl⟩
theorem wI:ze Tryz.prog 39:=gfn Tryz.func39
theorem ms0 {G A:Prop} (k:Hold G) (h:Hold G→A:=by
 intro k;refine qM 16 rfl rfl ?_;refine ng ⟨?_⟩;refine Zq (z:=9) hT rfl rfl hT2 rfl rfl rfl rfl (show (9:Nat)<16 by decide) rfl ?_;refine ng ⟨?_⟩;refine Zq (z:=12) hT rfl rfl hT2 rfl rfl rfl rfl (show (12:Nat)<16 by decide) rfl ?_;refine ng ⟨?_⟩;exact k.1):A:=h k
theorem ms1 {G A:Prop} (k:Hold G) (h:Hold G→A:=by
 intro k;refine go ⟨?_⟩;rw [if_pos ho,bne_eq_false_iff_eq.2 ho];refine go ⟨?_⟩;refine ms0 ⟨?_⟩;refine cg wG (wz s.t hTl) ⟨?_⟩;refine Zq (z:=10) hT rfl rfl hT2 rfl rfl rfl rfl (show (10:Nat)<16 by decide) rfl ?_;refine ng ⟨?_⟩;refine cg wG (wz s.t hTl) ⟨?_⟩;refine Zq (z:=11) hT rfl rfl hT2 rfl rfl rfl rfl (show (11:Nat)<16 by decide) rfl ?_;refine ng ⟨?_⟩;exact k.1):A:=h k
theorem ms9 {G A:Prop} (k:Hold G) (h:Hold G→A:=by
 intro k;rw [if_neg (by omega)];refine gcg yW (y6 3) ⟨?_⟩;exact k.1):A:=h k
theorem ms15 {G A:Prop} (k:Hold G) (h:Hold G→A:=by
 intro k;refine zim wI (wu) ⟨?_⟩;refine jx ⟨?_⟩;exact k.1):A:=h k
theorem ms16 {G A:Prop} (k:Hold G) (h:Hold G→A:=by
 intro k;simp only [HM0];refine enta Tryz.func40 Tryz.ntmps40 ⟨?_⟩;exact k.1):A:=h k
set_option maxHeartbeats 4000000 in
theorem zkd (s:MSt) (i:Int) (lf:zM) (ks:List (List UInt8)) (b:List UInt8) (old:Int) (ho:old=0) (hok:SOk s):zJ s ⟨9,i,lf,ks,b,old⟩ 40:=by
 unfold zJ;refine ms16 ⟨?_⟩;have hT2:Z2 tab 104=some (3,3):=rfl
 have hT3:Z2 tab 68=some (3,99):=rfl
 rw [yY s ⟨9,i,lf,ks,b,old⟩ (by simp only;omega)];simp only;have hTl:=hok.1;refine ms1 ⟨?_⟩;refine ZU hT rfl rfl hT2 rfl rfl rfl rfl rfl (x:=int (s.t.length)) rfl (y:= .tup [int (s.t.length), .lit (.bool true)]) rfl ?_;refine nz ⟨?_⟩;rw [kK];have hlv:=xQ s.t;refine go ⟨?_⟩;by_cases h0:i<0
 ·skip
  refine go ⟨?_⟩;refine ms9 ⟨?_⟩;exact Zs
 refine go ⟨?_⟩;by_cases h1:i≥s.t.length
 ·skip
  refine ms9 ⟨?_⟩;exact Zs
 rw [if_pos ⟨by omega,by omega⟩];refine gon ⟨?_⟩;refine Yv y8 [0,3,8] 3 64 9 (fun q=>wOb s::yD ⟨9,i,lf,ks,b,old⟩::zSt::zAn::yD ⟨9,i,lf,ks,b,old⟩::q) rfl (by kernel_rfl) (by kernel_rfl) rfl (by kernel_rfl) ?_;refine ms15 ⟨?_⟩;refine xp hT rfl rfl hT3 rfl rfl rfl rfl rfl (x:= .fn (.func 65) [] []) rfl (y:= .fn (.func 65) [] []) rfl rfl rfl (fun h=>⟨_,rfl⟩) ?_;refine vX ⟨?_⟩;refine jx ⟨?_⟩;refine Q8 zkI (zkE s.t i hTl) ⟨?_⟩;refine ms8 ⟨?_⟩;exact Zs
set_option maxHeartbeats 4000000 in
theorem zhc (s:MSt) (i:Int) (lf:zM) (ks:List (List UInt8)) (b:List UInt8) (old:Int) (ho:old=0) (hok:SOk s):zJ s ⟨10,i,lf,ks,b,old⟩ 40:=by
 unfold zJ;refine ms16 ⟨?_⟩;have hT2:Z2 tab 104=some (3,3):=rfl
 have hT3:Z2 tab 68=some (3,99):=rfl
 rw [yY s ⟨10,i,lf,ks,b,old⟩ (by simp only;omega)];simp only;have hTl:=hok.1;refine ms1 ⟨?_⟩;refine ZU hT rfl rfl hT2 rfl rfl rfl rfl rfl (x:=int (zp s.t)) rfl (y:= .tup [int (zp s.t), .lit (.bool true)]) rfl ?_;refine nz ⟨?_⟩;rw [V2];have hlv:=xQ s.t;refine go ⟨?_⟩;by_cases h0:i<0
 ·skip
  refine go ⟨?_⟩;refine ms9 ⟨?_⟩;exact Zs
 refine go ⟨?_⟩;by_cases h1:i≥zp s.t
 ·skip
  refine ms9 ⟨?_⟩;exact Zs
 rw [if_pos ⟨by omega,by omega⟩];refine gon ⟨?_⟩;refine Yv y8 [0,3,8] 3 64 9 (fun q=>wOb s::yD ⟨10,i,lf,ks,b,old⟩::zSt::zAn::yD ⟨10,i,lf,ks,b,old⟩::q) rfl (by kernel_rfl) (by kernel_rfl) rfl (by kernel_rfl) ?_;refine ms15 ⟨?_⟩;refine xp hT rfl rfl hT3 rfl rfl rfl rfl rfl (x:= .fn (.func 67) [] []) rfl (y:= .fn (.func 67) [] []) rfl rfl rfl (fun h=>⟨_,rfl⟩) ?_;refine vX ⟨?_⟩;refine jx ⟨?_⟩;refine Q8 zk7 (zky s.t i hTl) ⟨?_⟩;refine ms8 ⟨?_⟩;exact Zs
set_option maxHeartbeats 4000000 in
theorem zgx (s:MSt) (i:Int) (lf:zM) (ks:List (List UInt8)) (b:List UInt8) (old:Int) (ho:old=0) (hok:SOk s):zJ s ⟨11,i,lf,ks,b,old⟩ 40:=by
 unfold zJ;refine ms16 ⟨?_⟩;have hT2:Z2 tab 104=some (3,3):=rfl
 have hT3:Z2 tab 68=some (3,99):=rfl
 rw [yY s ⟨11,i,lf,ks,b,old⟩ (by simp only;omega)];simp only;have hTl:=hok.1;refine ms1 ⟨?_⟩;refine ZU hT rfl rfl hT2 rfl rfl rfl rfl rfl (x:=int (zp s.t)) rfl (y:= .tup [int (zp s.t), .lit (.bool true)]) rfl ?_;refine nz ⟨?_⟩;rw [V7];have hlv:=xQ s.t;refine go ⟨?_⟩;by_cases h0:i<0
 ·skip
  refine go ⟨?_⟩;refine ms9 ⟨?_⟩;exact Zs
 refine go ⟨?_⟩;by_cases h1:i≥zp s.t
 ·skip
  refine ms9 ⟨?_⟩;exact Zs
 rw [if_pos ⟨by omega,by omega⟩];refine gon ⟨?_⟩;refine Yv y8 [0,3,8] 3 64 9 (fun q=>wOb s::yD ⟨11,i,lf,ks,b,old⟩::zSt::zAn::yD ⟨11,i,lf,ks,b,old⟩::q) rfl (by kernel_rfl) (by kernel_rfl) rfl (by kernel_rfl) ?_;refine ms15 ⟨?_⟩;refine xp hT rfl rfl hT3 rfl rfl rfl rfl rfl (x:= .fn (.func 69) [] []) rfl (y:= .fn (.func 69) [] []) rfl rfl rfl (fun h=>⟨_,rfl⟩) ?_;refine vX ⟨?_⟩;refine jx ⟨?_⟩;refine Q8 zkC (zk2 s.t i hTl (by omega) (by omega)) ⟨?_⟩;refine ms8 ⟨?_⟩;exact Zs
set_option maxHeartbeats 4000000 in
theorem zh5 (s:MSt) (i:Int) (lf:zM) (ks:List (List UInt8)) (b:List UInt8) (old:Int) (ho:old=0) (hok:SOk s):zJ s ⟨12,i,lf,ks,b,old⟩ 40:=by
 unfold zJ;refine ms16 ⟨?_⟩;have hT2:Z2 tab 104=some (3,3):=rfl
 have hT3:Z2 tab 68=some (3,99):=rfl
 rw [yY s ⟨12,i,lf,ks,b,old⟩ (by simp only;omega)];simp only;have hTl:=hok.1;refine ms1 ⟨?_⟩;refine ZU hT rfl rfl hT2 rfl rfl rfl rfl rfl (x:=int (s.t.length)) rfl (y:= .tup [int (s.t.length), .lit (.bool true)]) rfl ?_;refine nz ⟨?_⟩;rw [jL];have hlv:=xQ s.t;refine go ⟨?_⟩;by_cases h0:i<0
 ·skip
  refine go ⟨?_⟩;refine ms9 ⟨?_⟩;exact Zs
 refine go ⟨?_⟩;by_cases h1:i≥s.t.length
 ·skip
  refine ms9 ⟨?_⟩;exact Zs
 rw [if_pos ⟨by omega,by omega⟩];refine gon ⟨?_⟩;refine Yv y8 [0,3,8] 3 64 9 (fun q=>wOb s::yD ⟨12,i,lf,ks,b,old⟩::zSt::zAn::yD ⟨12,i,lf,ks,b,old⟩::q) rfl (by kernel_rfl) (by kernel_rfl) rfl (by kernel_rfl) ?_;refine ms15 ⟨?_⟩;refine xp hT rfl rfl hT3 rfl rfl rfl rfl rfl (x:= .fn (.func 71) [] []) rfl (y:= .fn (.func 71) [] []) rfl rfl rfl (fun h=>⟨_,rfl⟩) ?_;refine vX ⟨?_⟩;refine jx ⟨?_⟩;refine Q8 zkH (zlq s.t i hTl) ⟨?_⟩;refine ms8 ⟨?_⟩;exact Zs
theorem ms17 {G A:Prop} (k:Hold G) (h:Hold G→A:=by
 intro k;refine ZU hT rfl rfl hT2 rfl rfl rfl rfl rfl (x:=int 0) rfl (y:= .tup [int 0, .lit (.bool false)]) rfl ?_;refine nz ⟨?_⟩;exact k.1):A:=h k
set_option maxHeartbeats 4000000 in
theorem zgl (s:MSt) (i:Int) (lf:zM) (ks:List (List UInt8)) (b:List UInt8) (old:Int) (ho:old=0) (hok:SOk s):zJ s ⟨13,i,lf,ks,b,old⟩ 40:=by
 unfold zJ;refine ms16 ⟨?_⟩;have hT2:Z2 tab 104=some (3,3):=rfl
 have hT3:Z2 tab 68=some (3,99):=rfl
 rw [yY s ⟨13,i,lf,ks,b,old⟩ (by simp only;omega)];simp only;have hTl:=hok.1;refine ms1 ⟨?_⟩;refine ms17 ⟨?_⟩;rw [V_];refine gon ⟨?_⟩;refine Yv y8 [0,3,8] 3 64 9 (fun q=>wOb s::yD ⟨13,i,lf,ks,b,old⟩::zSt::zAn::yD ⟨13,i,lf,ks,b,old⟩::q) rfl (by kernel_rfl) (by kernel_rfl) rfl (by kernel_rfl) ?_;refine ms15 ⟨?_⟩;refine xp hT rfl rfl hT3 rfl rfl rfl rfl rfl (x:= .fn (.func 73) [] []) rfl (y:= .fn (.func 73) [] []) rfl rfl rfl (fun h=>⟨_,rfl⟩) ?_;refine vX ⟨?_⟩;refine jx ⟨?_⟩;refine Q8 zlt (zkx s.t i hTl) ⟨?_⟩;refine ms8 ⟨?_⟩;exact Zs
set_option maxHeartbeats 4000000 in
theorem zhD (s:MSt) (i:Int) (lf:zM) (ks:List (List UInt8)) (b:List UInt8) (old:Int) (ho:old=0) (hok:SOk s):zJ s ⟨14,i,lf,ks,b,old⟩ 40:=by
 unfold zJ;refine ms16 ⟨?_⟩;have hT2:Z2 tab 104=some (3,3):=rfl
 have hT3:Z2 tab 68=some (3,99):=rfl
 rw [yY s ⟨14,i,lf,ks,b,old⟩ (by simp only;omega)];simp only;have hTl:=hok.1;refine ms1 ⟨?_⟩;refine ms17 ⟨?_⟩;rw [V5];refine gon ⟨?_⟩;refine Yv y8 [0,3,8] 3 64 9 (fun q=>wOb s::yD ⟨14,i,lf,ks,b,old⟩::zSt::zAn::yD ⟨14,i,lf,ks,b,old⟩::q) rfl (by kernel_rfl) (by kernel_rfl) rfl (by kernel_rfl) ?_;refine ms15 ⟨?_⟩;refine xp hT rfl rfl hT3 rfl rfl rfl rfl rfl (x:= .fn (.func 75) [] []) rfl (y:= .fn (.func 75) [] []) rfl rfl rfl (fun h=>⟨_,rfl⟩) ?_;refine vX ⟨?_⟩;refine jx ⟨?_⟩;refine Q8 zkF (zln s.t i hTl) ⟨?_⟩;refine ms8 ⟨?_⟩;exact Zs
set_option maxHeartbeats 4000000 in
theorem zgT (s:MSt) (i:Int) (lf:zM) (ks:List (List UInt8)) (b:List UInt8) (old:Int) (ho:old=0) (hok:SOk s):zJ s ⟨15,i,lf,ks,b,old⟩ 40:=by
 unfold zJ;refine ms16 ⟨?_⟩;have hT2:Z2 tab 104=some (3,3):=rfl
 have hT3:Z2 tab 68=some (3,99):=rfl
 rw [yY s ⟨15,i,lf,ks,b,old⟩ (by simp only;omega)];simp only;have hTl:=hok.1;refine ms1 ⟨?_⟩;refine ms17 ⟨?_⟩;rw [V0];refine gon ⟨?_⟩;refine Yv y8 [0,3,8] 3 64 9 (fun q=>wOb s::yD ⟨15,i,lf,ks,b,old⟩::zSt::zAn::yD ⟨15,i,lf,ks,b,old⟩::q) rfl (by kernel_rfl) (by kernel_rfl) rfl (by kernel_rfl) ?_;refine ms15 ⟨?_⟩;refine xp hT rfl rfl hT3 rfl rfl rfl rfl rfl (x:= .fn (.func 77) [] []) rfl (y:= .fn (.func 77) [] []) rfl rfl rfl (fun h=>⟨_,rfl⟩) ?_;refine vX ⟨?_⟩;refine jx ⟨?_⟩;refine Q8 zlm (zkw s.t i hTl) ⟨?_⟩;refine ms8 ⟨?_⟩;exact Zs
theorem ms2 {G A:Prop} (k:Hold G) (h:Hold G→A:=by
 intro k;refine ms0 ⟨?_⟩;refine cg wG (wz y.t hTl) ⟨?_⟩;refine Zq (z:=10) hT rfl rfl hT2 rfl rfl rfl rfl (show (10:Nat)<16 by decide) rfl ?_;refine ng ⟨?_⟩;refine cg wG (wz y.t hTl) ⟨?_⟩;refine Zq (z:=11) hT rfl rfl hT2 rfl rfl rfl rfl (show (11:Nat)<16 by decide) rfl ?_;refine ng ⟨?_⟩;exact k.1):A:=h k
theorem ms11 {G A:Prop} (k:Hold G) (h:Hold G→A:=by
 intro k;refine go ⟨?_⟩;rw [if_neg ho,bne_iff_ne.2 ho];refine go ⟨?_⟩;refine zV rfl rfl rfl PL hc ?_;refine nz ⟨?_⟩;exact k.1):A:=h k
set_option maxHeartbeats 4000000 in
theorem zjV (s:MSt) (i:Int) (lf:zM) (ks:List (List UInt8)) (b:List UInt8) (old:Int) (ho: ¬old=0) (hok:SOk s):zJ s ⟨9,i,lf,ks,b,old⟩ 40:=by
 unfold zJ;refine ms16 ⟨?_⟩;have hT2:Z2 tab 104=some (3,3):=rfl
 have hT3:Z2 tab 68=some (3,99):=rfl
 rw [yY s ⟨9,i,lf,ks,b,old⟩ (by simp only;omega)];simp only;have hpl:= @yb s old
 have hc:=Wk s ⟨9,i,lf,ks,b,old⟩ hok.2.1 old;have hat:=fun n=>hok.at (i:=n)
 refine ms11 ⟨?_⟩;generalize zq s old=j at*;by_cases hj:j<0
 ·rw [if_pos hj];refine gcg yW (y6 13) ⟨?_⟩;exact Zs
 rw [if_neg hj];obtain ⟨hp,_,hp0⟩:=hpl hj;obtain ⟨n,rfl⟩: ∃n:Nat,j=n:=⟨j.toNat,by omega⟩;simp only [Int.toNat_natCast] at hp ⊢;have hTl:=hat n hp;have hz:s.kept.getD n ZH.z=s.kept.getD n ⟨0,[]⟩:=rfl
 have ef:fE ZH s.kept n=Xb (s.kept.getD n ⟨0,[]⟩):=rfl
 refine ms18 ⟨?_⟩;try rw [hz]
 generalize s.kept.getD n ⟨0,[]⟩=y at*;refine ms2 ⟨?_⟩;refine ZU hT rfl rfl hT2 rfl rfl rfl rfl rfl (x:=int (y.t.length)) rfl (y:= .tup [int (y.t.length), .lit (.bool true)]) rfl ?_;refine nz ⟨?_⟩;rw [kK];have hlv:=xQ y.t;refine go ⟨?_⟩;by_cases h0:i<0
 ·skip
  refine go ⟨?_⟩;refine ms9 ⟨?_⟩;exact Zs
 refine go ⟨?_⟩;by_cases h1:i≥y.t.length
 ·skip
  refine ms9 ⟨?_⟩;exact Zs
 rw [if_pos ⟨by omega,by omega⟩];refine gon ⟨?_⟩;refine Yv y8 [0,3,8] 3 64 9 (fun q=>wOb s::yD ⟨9,i,lf,ks,b,old⟩::zSt::zAn::yD ⟨9,i,lf,ks,b,old⟩::q) rfl (by kernel_rfl) (by kernel_rfl) rfl (by kernel_rfl) ?_;refine ms15 ⟨?_⟩;refine xp hT rfl rfl hT3 rfl rfl rfl rfl rfl (x:= .fn (.func 65) [] []) rfl (y:= .fn (.func 65) [] []) rfl rfl rfl (fun h=>⟨_,rfl⟩) ?_;refine vX ⟨?_⟩;refine jx ⟨?_⟩;refine Q8 zkI (zkE y.t i hTl) ⟨?_⟩;refine ms8 ⟨?_⟩;exact Zs
set_option maxHeartbeats 4000000 in
theorem zgk (s:MSt) (i:Int) (lf:zM) (ks:List (List UInt8)) (b:List UInt8) (old:Int) (ho: ¬old=0) (hok:SOk s):zJ s ⟨10,i,lf,ks,b,old⟩ 40:=by
 unfold zJ;refine ms16 ⟨?_⟩;have hT2:Z2 tab 104=some (3,3):=rfl
 have hT3:Z2 tab 68=some (3,99):=rfl
 rw [yY s ⟨10,i,lf,ks,b,old⟩ (by simp only;omega)];simp only;have hpl:= @yb s old
 have hc:=Wk s ⟨10,i,lf,ks,b,old⟩ hok.2.1 old;have hat:=fun n=>hok.at (i:=n)
 refine ms11 ⟨?_⟩;generalize zq s old=j at*;by_cases hj:j<0
 ·rw [if_pos hj];refine gcg yW (y6 13) ⟨?_⟩;exact Zs
 rw [if_neg hj];obtain ⟨hp,_,hp0⟩:=hpl hj;obtain ⟨n,rfl⟩: ∃n:Nat,j=n:=⟨j.toNat,by omega⟩;simp only [Int.toNat_natCast] at hp ⊢;have hTl:=hat n hp;have hz:s.kept.getD n ZH.z=s.kept.getD n ⟨0,[]⟩:=rfl
 have ef:fE ZH s.kept n=Xb (s.kept.getD n ⟨0,[]⟩):=rfl
 refine ms18 ⟨?_⟩;try rw [hz]
 generalize s.kept.getD n ⟨0,[]⟩=y at*;refine ms2 ⟨?_⟩;refine ZU hT rfl rfl hT2 rfl rfl rfl rfl rfl (x:=int (zp y.t)) rfl (y:= .tup [int (zp y.t), .lit (.bool true)]) rfl ?_;refine nz ⟨?_⟩;rw [V2];have hlv:=xQ y.t;refine go ⟨?_⟩;by_cases h0:i<0
 ·skip
  refine go ⟨?_⟩;refine ms9 ⟨?_⟩;exact Zs
 refine go ⟨?_⟩;by_cases h1:i≥zp y.t
 ·skip
  refine ms9 ⟨?_⟩;exact Zs
 rw [if_pos ⟨by omega,by omega⟩];refine gon ⟨?_⟩;refine Yv y8 [0,3,8] 3 64 9 (fun q=>wOb s::yD ⟨10,i,lf,ks,b,old⟩::zSt::zAn::yD ⟨10,i,lf,ks,b,old⟩::q) rfl (by kernel_rfl) (by kernel_rfl) rfl (by kernel_rfl) ?_;refine ms15 ⟨?_⟩;refine xp hT rfl rfl hT3 rfl rfl rfl rfl rfl (x:= .fn (.func 67) [] []) rfl (y:= .fn (.func 67) [] []) rfl rfl rfl (fun h=>⟨_,rfl⟩) ?_;refine vX ⟨?_⟩;refine jx ⟨?_⟩;refine Q8 zk7 (zky y.t i hTl) ⟨?_⟩;refine ms8 ⟨?_⟩;exact Zs
set_option maxHeartbeats 4000000 in
theorem zhf (s:MSt) (i:Int) (lf:zM) (ks:List (List UInt8)) (b:List UInt8) (old:Int) (ho: ¬old=0) (hok:SOk s):zJ s ⟨11,i,lf,ks,b,old⟩ 40:=by
 unfold zJ;refine ms16 ⟨?_⟩;have hT2:Z2 tab 104=some (3,3):=rfl
 have hT3:Z2 tab 68=some (3,99):=rfl
 rw [yY s ⟨11,i,lf,ks,b,old⟩ (by simp only;omega)];simp only;have hpl:= @yb s old
 have hc:=Wk s ⟨11,i,lf,ks,b,old⟩ hok.2.1 old;have hat:=fun n=>hok.at (i:=n)
 refine ms11 ⟨?_⟩;generalize zq s old=j at*;by_cases hj:j<0
 ·rw [if_pos hj];refine gcg yW (y6 13) ⟨?_⟩;exact Zs
 rw [if_neg hj];obtain ⟨hp,_,hp0⟩:=hpl hj;obtain ⟨n,rfl⟩: ∃n:Nat,j=n:=⟨j.toNat,by omega⟩;simp only [Int.toNat_natCast] at hp ⊢;have hTl:=hat n hp;have hz:s.kept.getD n ZH.z=s.kept.getD n ⟨0,[]⟩:=rfl
 have ef:fE ZH s.kept n=Xb (s.kept.getD n ⟨0,[]⟩):=rfl
 refine ms18 ⟨?_⟩;try rw [hz]
 generalize s.kept.getD n ⟨0,[]⟩=y at*;refine ms2 ⟨?_⟩;refine ZU hT rfl rfl hT2 rfl rfl rfl rfl rfl (x:=int (zp y.t)) rfl (y:= .tup [int (zp y.t), .lit (.bool true)]) rfl ?_;refine nz ⟨?_⟩;rw [V7];have hlv:=xQ y.t;refine go ⟨?_⟩;by_cases h0:i<0
 ·skip
  refine go ⟨?_⟩;refine ms9 ⟨?_⟩;exact Zs
 refine go ⟨?_⟩;by_cases h1:i≥zp y.t
 ·skip
  refine ms9 ⟨?_⟩;exact Zs
 rw [if_pos ⟨by omega,by omega⟩];refine gon ⟨?_⟩;refine Yv y8 [0,3,8] 3 64 9 (fun q=>wOb s::yD ⟨11,i,lf,ks,b,old⟩::zSt::zAn::yD ⟨11,i,lf,ks,b,old⟩::q) rfl (by kernel_rfl) (by kernel_rfl) rfl (by kernel_rfl) ?_;refine ms15 ⟨?_⟩;refine xp hT rfl rfl hT3 rfl rfl rfl rfl rfl (x:= .fn (.func 69) [] []) rfl (y:= .fn (.func 69) [] []) rfl rfl rfl (fun h=>⟨_,rfl⟩) ?_;refine vX ⟨?_⟩;refine jx ⟨?_⟩;refine Q8 zkC (zk2 y.t i hTl (by omega) (by omega)) ⟨?_⟩;refine ms8 ⟨?_⟩;exact Zs
set_option maxHeartbeats 4000000 in
theorem zhI (s:MSt) (i:Int) (lf:zM) (ks:List (List UInt8)) (b:List UInt8) (old:Int) (ho: ¬old=0) (hok:SOk s):zJ s ⟨12,i,lf,ks,b,old⟩ 40:=by
 unfold zJ;refine ms16 ⟨?_⟩;have hT2:Z2 tab 104=some (3,3):=rfl
 have hT3:Z2 tab 68=some (3,99):=rfl
 rw [yY s ⟨12,i,lf,ks,b,old⟩ (by simp only;omega)];simp only;have hpl:= @yb s old
 have hc:=Wk s ⟨12,i,lf,ks,b,old⟩ hok.2.1 old;have hat:=fun n=>hok.at (i:=n)
 refine ms11 ⟨?_⟩;generalize zq s old=j at*;by_cases hj:j<0
 ·rw [if_pos hj];refine gcg yW (y6 13) ⟨?_⟩;exact Zs
 rw [if_neg hj];obtain ⟨hp,_,hp0⟩:=hpl hj;obtain ⟨n,rfl⟩: ∃n:Nat,j=n:=⟨j.toNat,by omega⟩;simp only [Int.toNat_natCast] at hp ⊢;have hTl:=hat n hp;have hz:s.kept.getD n ZH.z=s.kept.getD n ⟨0,[]⟩:=rfl
 have ef:fE ZH s.kept n=Xb (s.kept.getD n ⟨0,[]⟩):=rfl
 refine ms18 ⟨?_⟩;try rw [hz]
 generalize s.kept.getD n ⟨0,[]⟩=y at*;refine ms2 ⟨?_⟩;refine ZU hT rfl rfl hT2 rfl rfl rfl rfl rfl (x:=int (y.t.length)) rfl (y:= .tup [int (y.t.length), .lit (.bool true)]) rfl ?_;refine nz ⟨?_⟩;rw [jL];have hlv:=xQ y.t;refine go ⟨?_⟩;by_cases h0:i<0
 ·skip
  refine go ⟨?_⟩;refine ms9 ⟨?_⟩;exact Zs
 refine go ⟨?_⟩;by_cases h1:i≥y.t.length
 ·skip
  refine ms9 ⟨?_⟩;exact Zs
 rw [if_pos ⟨by omega,by omega⟩];refine gon ⟨?_⟩;refine Yv y8 [0,3,8] 3 64 9 (fun q=>wOb s::yD ⟨12,i,lf,ks,b,old⟩::zSt::zAn::yD ⟨12,i,lf,ks,b,old⟩::q) rfl (by kernel_rfl) (by kernel_rfl) rfl (by kernel_rfl) ?_;refine ms15 ⟨?_⟩;refine xp hT rfl rfl hT3 rfl rfl rfl rfl rfl (x:= .fn (.func 71) [] []) rfl (y:= .fn (.func 71) [] []) rfl rfl rfl (fun h=>⟨_,rfl⟩) ?_;refine vX ⟨?_⟩;refine jx ⟨?_⟩;refine Q8 zkH (zlq y.t i hTl) ⟨?_⟩;refine ms8 ⟨?_⟩;exact Zs
set_option maxHeartbeats 4000000 in
theorem zgE (s:MSt) (i:Int) (lf:zM) (ks:List (List UInt8)) (b:List UInt8) (old:Int) (ho: ¬old=0) (hok:SOk s):zJ s ⟨13,i,lf,ks,b,old⟩ 40:=by
 unfold zJ;refine ms16 ⟨?_⟩;have hT2:Z2 tab 104=some (3,3):=rfl
 have hT3:Z2 tab 68=some (3,99):=rfl
 rw [yY s ⟨13,i,lf,ks,b,old⟩ (by simp only;omega)];simp only;have hpl:= @yb s old
 have hc:=Wk s ⟨13,i,lf,ks,b,old⟩ hok.2.1 old;have hat:=fun n=>hok.at (i:=n)
 refine ms11 ⟨?_⟩;generalize zq s old=j at*;by_cases hj:j<0
 ·rw [if_pos hj];refine gcg yW (y6 13) ⟨?_⟩;exact Zs
 rw [if_neg hj];obtain ⟨hp,_,hp0⟩:=hpl hj;obtain ⟨n,rfl⟩: ∃n:Nat,j=n:=⟨j.toNat,by omega⟩;simp only [Int.toNat_natCast] at hp ⊢;have hTl:=hat n hp;have hz:s.kept.getD n ZH.z=s.kept.getD n ⟨0,[]⟩:=rfl
 have ef:fE ZH s.kept n=Xb (s.kept.getD n ⟨0,[]⟩):=rfl
 refine ms18 ⟨?_⟩;try rw [hz]
 generalize s.kept.getD n ⟨0,[]⟩=y at*;refine ms2 ⟨?_⟩;refine ms17 ⟨?_⟩;rw [V_];refine gon ⟨?_⟩;refine Yv y8 [0,3,8] 3 64 9 (fun q=>wOb s::yD ⟨13,i,lf,ks,b,old⟩::zSt::zAn::yD ⟨13,i,lf,ks,b,old⟩::q) rfl (by kernel_rfl) (by kernel_rfl) rfl (by kernel_rfl) ?_;refine ms15 ⟨?_⟩;refine xp hT rfl rfl hT3 rfl rfl rfl rfl rfl (x:= .fn (.func 73) [] []) rfl (y:= .fn (.func 73) [] []) rfl rfl rfl (fun h=>⟨_,rfl⟩) ?_;refine vX ⟨?_⟩;refine jx ⟨?_⟩;refine Q8 zlt (zkx y.t i hTl) ⟨?_⟩;refine ms8 ⟨?_⟩;exact Zs
set_option maxHeartbeats 4000000 in
theorem zib (s:MSt) (i:Int) (lf:zM) (ks:List (List UInt8)) (b:List UInt8) (old:Int) (ho: ¬old=0) (hok:SOk s):zJ s ⟨14,i,lf,ks,b,old⟩ 40:=by
 unfold zJ;refine ms16 ⟨?_⟩;have hT2:Z2 tab 104=some (3,3):=rfl
 have hT3:Z2 tab 68=some (3,99):=rfl
 rw [yY s ⟨14,i,lf,ks,b,old⟩ (by simp only;omega)];simp only;have hpl:= @yb s old
 have hc:=Wk s ⟨14,i,lf,ks,b,old⟩ hok.2.1 old;have hat:=fun n=>hok.at (i:=n)
 refine ms11 ⟨?_⟩;generalize zq s old=j at*;by_cases hj:j<0
 ·rw [if_pos hj];refine gcg yW (y6 13) ⟨?_⟩;exact Zs
 rw [if_neg hj];obtain ⟨hp,_,hp0⟩:=hpl hj;obtain ⟨n,rfl⟩: ∃n:Nat,j=n:=⟨j.toNat,by omega⟩;simp only [Int.toNat_natCast] at hp ⊢;have hTl:=hat n hp;have hz:s.kept.getD n ZH.z=s.kept.getD n ⟨0,[]⟩:=rfl
 have ef:fE ZH s.kept n=Xb (s.kept.getD n ⟨0,[]⟩):=rfl
 refine ms18 ⟨?_⟩;try rw [hz]
 generalize s.kept.getD n ⟨0,[]⟩=y at*;refine ms2 ⟨?_⟩;refine ms17 ⟨?_⟩;rw [V5];refine gon ⟨?_⟩;refine Yv y8 [0,3,8] 3 64 9 (fun q=>wOb s::yD ⟨14,i,lf,ks,b,old⟩::zSt::zAn::yD ⟨14,i,lf,ks,b,old⟩::q) rfl (by kernel_rfl) (by kernel_rfl) rfl (by kernel_rfl) ?_;refine ms15 ⟨?_⟩;refine xp hT rfl rfl hT3 rfl rfl rfl rfl rfl (x:= .fn (.func 75) [] []) rfl (y:= .fn (.func 75) [] []) rfl rfl rfl (fun h=>⟨_,rfl⟩) ?_;refine vX ⟨?_⟩;refine jx ⟨?_⟩;refine Q8 zkF (zln y.t i hTl) ⟨?_⟩;refine ms8 ⟨?_⟩;exact Zs
set_option maxHeartbeats 4000000 in
theorem zgF (s:MSt) (i:Int) (lf:zM) (ks:List (List UInt8)) (b:List UInt8) (old:Int) (ho: ¬old=0) (hok:SOk s):zJ s ⟨15,i,lf,ks,b,old⟩ 40:=by
 unfold zJ;refine ms16 ⟨?_⟩;have hT2:Z2 tab 104=some (3,3):=rfl
 have hT3:Z2 tab 68=some (3,99):=rfl
 rw [yY s ⟨15,i,lf,ks,b,old⟩ (by simp only;omega)];simp only;have hpl:= @yb s old
 have hc:=Wk s ⟨15,i,lf,ks,b,old⟩ hok.2.1 old;have hat:=fun n=>hok.at (i:=n)
 refine ms11 ⟨?_⟩;generalize zq s old=j at*;by_cases hj:j<0
 ·rw [if_pos hj];refine gcg yW (y6 13) ⟨?_⟩;exact Zs
 rw [if_neg hj];obtain ⟨hp,_,hp0⟩:=hpl hj;obtain ⟨n,rfl⟩: ∃n:Nat,j=n:=⟨j.toNat,by omega⟩;simp only [Int.toNat_natCast] at hp ⊢;have hTl:=hat n hp;have hz:s.kept.getD n ZH.z=s.kept.getD n ⟨0,[]⟩:=rfl
 have ef:fE ZH s.kept n=Xb (s.kept.getD n ⟨0,[]⟩):=rfl
 refine ms18 ⟨?_⟩;try rw [hz]
 generalize s.kept.getD n ⟨0,[]⟩=y at*;refine ms2 ⟨?_⟩;refine ms17 ⟨?_⟩;rw [V0];refine gon ⟨?_⟩;refine Yv y8 [0,3,8] 3 64 9 (fun q=>wOb s::yD ⟨15,i,lf,ks,b,old⟩::zSt::zAn::yD ⟨15,i,lf,ks,b,old⟩::q) rfl (by kernel_rfl) (by kernel_rfl) rfl (by kernel_rfl) ?_;refine ms15 ⟨?_⟩;refine xp hT rfl rfl hT3 rfl rfl rfl rfl rfl (x:= .fn (.func 77) [] []) rfl (y:= .fn (.func 77) [] []) rfl rfl rfl (fun h=>⟨_,rfl⟩) ?_;refine vX ⟨?_⟩;refine jx ⟨?_⟩;refine Q8 zlm (zkw y.t i hTl) ⟨?_⟩;refine ms8 ⟨?_⟩;exact Zs
theorem zlk (s:MSt) (o:MOp) (hok:SOk s) (hw:9≤o.what∧o.what≤15):zJ s o 40:=by
 obtain ⟨w,i,lf,ks,b,old⟩:=o;simp only at hw;have hw':w=9∨w=10∨w=11∨w=12∨w=13∨w=14∨w=15:=by omega
 by_cases ho:old=0
 ·rcases hw' with rfl|rfl|rfl|rfl|rfl|rfl|rfl
  ·exact zkd s i lf ks b old ho hok
  ·exact zhc s i lf ks b old ho hok
  ·exact zgx s i lf ks b old ho hok
  ·exact zh5 s i lf ks b old ho hok
  ·exact zgl s i lf ks b old ho hok
  ·exact zhD s i lf ks b old ho hok
  ·exact zgT s i lf ks b old ho hok
 ·rcases hw' with rfl|rfl|rfl|rfl|rfl|rfl|rfl
  ·exact zjV s i lf ks b old ho hok
  ·exact zgk s i lf ks b old ho hok
  ·exact zhf s i lf ks b old ho hok
  ·exact zhI s i lf ks b old ho hok
  ·exact zgE s i lf ks b old ho hok
  ·exact zib s i lf ks b old ho hok
  ·exact zgF s i lf ks b old ho hok
theorem zjS:ze Tryz.prog 40:=gfn Tryz.func40
def dF0:Nat→List AV:=Ys (Ys (Ys (Ys (Ys (Ys (Ys (Ys (fun _=>[]) 1 (qfn 31)) 2 (qfn 32)) 3 (qfn 33)) 4 (qfn 34)) 8 (qfn 35)) 5 (qfn 36)) 6 (qfn 37)) 7 (qfn 38)
abbrev zkg:List AV:=qfn 40
def dFA (A:Nat→Bool):Nat→List AV:=fun k=>match A k with|true=>zkg|false=>dF0 k
def iFA (A:Nat→Bool):Nat→List AV:=fun k=>match A k with|true=>[]|false=>qF k
def vb (A:Nat→Bool) (k:Nat):Nat→Bool:=fun j=>A j||Nat.beq j k
theorem zgs (A:Nat→Bool) (k:Nat):Ys (dFA A) k zkg=dFA (vb A k):=by
 funext j
 unfold Ys dFA vb;cases hb:Nat.beq j k with
 |true=>simp
 |false=>simp
theorem zgY (A:Nat→Bool) (k:Nat):Ys (iFA A) k []=iFA (vb A k):=by
 funext j
 unfold Ys iFA vb;cases hb:Nat.beq j k with
 |true=>simp
 |false=>simp
theorem G_ (k:Nat) (hk:k<16) (h:qF k≠[]):9≤k∧k≤15:=by
 have: ∀k:Fin 16,(qF k.1).isEmpty=false→9≤k.1∧k.1≤15:=by decide
 exact this ⟨k,hk⟩ (by cases hq:qF k with|nil=>exact absurd hq h|cons=>simp [hq])
theorem PI (k:Nat) (h:9≤k∧k≤15):qF k≠[]:=by
 have: ∀k:Fin 16,9≤k.1→(qF k.1).isEmpty=false:=by decide
 intro e;have:=this ⟨k,by omega⟩ h.1
 rw [show qF (⟨k,by omega⟩:Fin 16).1=qF k from rfl,e] at this;cases this
def ud (A:Nat→Bool):Nat:=(List.range 16).countP fun k=> !A k
theorem vt {A:Nat→Bool} {k:Nat} (hk:k<16) (hA:A k=false):ud (vb A k)<ud A:=by
 unfold ud
 have h1: ∀l:List Nat,l.countP (fun j=> !vb A k j)≤l.countP fun j=> !A j:=fun l=>List.countP_mono_left fun j _ h=>by
  unfold vb at h;simp at h ⊢;exact h.1
 obtain ⟨l1,l2,hl⟩:=List.append_of_mem (List.mem_range.2 hk);rw [hl,List.countP_append,List.countP_append,List.countP_cons,List.countP_cons];have h2:=h1 l1;have h3:=h1 l2;have h4:(!vb A k k)=false:=by unfold vb;simp
 have h5:(!A k)=true:=by rw [hA];rfl
 rw [h4,h5];simp
 omega
def zaE:Nat→List AV:=fun k=>match Nat.ble 9 k && Nat.ble k 15 with|true=>zkg|false=>dF0 k
theorem jI {A:Nat→Bool} (hin: ∀k,A k=true→9≤k∧k≤15) (hall: ∀k,9≤k∧k≤15→A k=true):dFA A=zaE:=by
 funext k
 unfold dFA zaE;by_cases h:9≤k∧k≤15
 ·rw [hall k h,show (Nat.ble 9 k && Nat.ble k 15)=true by simp [h]]
 ·have h1:A k=false:=by cases ha:A k with|false=>rfl|true=>exact absurd (hin k ha) h
  have h2:(Nat.ble 9 k && Nat.ble k 15)=false:=by
   cases hb:(Nat.ble 9 k && Nat.ble k 15) with
   |false=>rfl
   |true=>simp at hb;exact absurd hb h
  rw [h1,h2]
abbrev T67:Nat:=67
abbrev T68:Nat:=68
abbrev HD (s x:MSt) (o:MOp) (A:Nat→Bool) (z:Nat):List zb:=[Wh s,yD o,zSt,zAn,wOb x,Ve T67 16 (dFA A),{zkf with st:=4},{T:=T68,sz:=z,n:=16,f:=iFA A,st:=6}]
theorem ms3 {G A:Prop} (k:Hold G) (h:Hold G→A:=by
 intro k;refine nz ⟨?_⟩;refine Zq (z:=1) hT rfl rfl hT2 rfl rfl rfl rfl (show (1:Nat)<16 by decide) rfl ?_;refine nz ⟨?_⟩;refine Zq (z:=2) hT rfl rfl hT2 rfl rfl rfl rfl (show (2:Nat)<16 by decide) rfl ?_;refine nz ⟨?_⟩;refine Zq (z:=3) hT rfl rfl hT2 rfl rfl rfl rfl (show (3:Nat)<16 by decide) rfl ?_;refine nz ⟨?_⟩;refine Zq (z:=4) hT rfl rfl hT2 rfl rfl rfl rfl (show (4:Nat)<16 by decide) rfl ?_;refine nz ⟨?_⟩;refine Zq (z:=8) hT rfl rfl hT2 rfl rfl rfl rfl (show (8:Nat)<16 by decide) rfl ?_;exact k.1):A:=h k
theorem ms4 {G A:Prop} (k:Hold G) (h:Hold G→A:=by
 intro k;refine go ⟨?_⟩;refine qM 16 rfl rfl ?_;refine ms3 ⟨?_⟩;refine nz ⟨?_⟩;refine Zq (z:=5) hT rfl rfl hT2 rfl rfl rfl rfl (show (5:Nat)<16 by decide) rfl ?_;refine nz ⟨?_⟩;refine Zq (z:=6) hT rfl rfl hT2 rfl rfl rfl rfl (show (6:Nat)<16 by decide) rfl ?_;refine nz ⟨?_⟩;refine Zq (z:=7) hT rfl rfl hT2 rfl rfl rfl rfl (show (7:Nat)<16 by decide) rfl ?_;refine ng ⟨?_⟩;exact k.1):A:=h k
theorem ms12 {G A:Prop} (k:Hold G) (h:Hold G→A:=by
 intro kq;refine nz ⟨?_⟩;rw [zgY];refine go ⟨?_⟩;refine Tw (k:=k) rfl rfl rfl rfl rfl rfl ?_;refine ng ⟨?_⟩;refine Jk (z:=k) hT rfl rfl hT2 rfl rfl rfl rfl hk rfl ?_;refine nz ⟨?_⟩;rw [zgs];refine go ⟨?_⟩;exact kq.1):A:=h k
theorem XW (s:MSt) (o:MOp) (hs:SOk s) (g:Nat) (hg:ze Tryz.prog g) (hw:0≤o.what∧o.what<16) (hf:zaE o.what.toNat=qfn g) (hm: ∀x,Zd x=true→zJ x o g):APure Tryz.prog 12 [stA s,opA o] (.tup [stA (mDo s o).1,X4 (mDo s o).2]) []:=by
 refine ent Tryz.func12 Tryz.ntmps12 ⟨?_⟩;have hT2:Z2 tab T67=some (3,65):=rfl
 have hT3:Z2 tab T68=some (3,99):=rfl
 have hx:=wE s;have hms:=hm _ hx;rw [xi];refine gc vu (vO s hs) ⟨?_⟩;cases h:Zd s
 ·have e:mAs s=Zu:=by unfold mAs;rw [h];rfl
  rw [e] at hms ⊢;refine ms4 ⟨?_⟩;refine xB rfl rfl rfl wI rfl (by repeat' (first|exact trivial|exact Nat.le_refl _|refine And.intro ?_ ?_|omega)) wu ?_;refine nz ⟨?_⟩;refine W3 hT rfl rfl hT3 rfl rfl rfl ?_;refine ng ⟨?_⟩;refine lp (fun p:{p:(Nat→Bool)×Nat // ∀k,p.1 k=true→9≤k∧k≤15}=>[]) (fun p=>HD s Zu o p.1.1 p.1.2) (fun p=>ud p.1.1) ⟨(fun _=>false,0),by simp⟩ ?_
  rintro ⟨⟨A,z⟩,hA⟩
  simp only [HD] at hA ⊢;refine go ⟨?_⟩;refine q_ rfl rfl rfl rfl rfl (fun k a hk hf=> ?_) (fun hn=> ?_)
  ·skip
   have hAk:A k=false:=by
    cases hb:A k with
    |false=>rfl
    |true=>simp only [iFA,hb] at hf;cases hf
   have hq:qF k=[a]:=by simp only [iFA,hAk] at hf;exact hf
   have hin:=G_ k hk (by rw [hq];simp);refine ms12 ⟨?_⟩
   refine je ⟨⟨(vb A k,k+1),fun j hj=>by
    simp only [vb,Bool.or_eq_true] at hj;rcases hj with hj|hj
    ·exact hA j hj
    ·rw [Nat.eq_of_beq_eq_true hj];exact hin⟩,vt hk hAk, ?_⟩
   exact tel
  ·skip
   have hfull:=jI hA (fun k hk=>by
    have h1:=hn k (by show k<16;omega);cases hb:A k with
    |true=>rfl
    |false=>simp only [iFA,hb] at h1;exact absurd h1 (PI k hk))
   have hgm:xh (Ve T67 16 (dFA A)) o.what=qfn g:=by
    unfold xh;rw [decide_eq_true hw.1,decide_eq_true (show o.what<((16:Nat):Int) by omega),hfull];exact hf
   refine ng ⟨?_⟩;refine ZU hT rfl rfl hT2 rfl rfl rfl rfl rfl (x:= .fn (.func g) [] []) (by rw [hgm]) (y:= .tup [.fn (.func g) [] [], .lit (.bool true)]) (by rw [hgm]) ?_;refine ng ⟨?_⟩;refine zz (Tells.sel [4,1,2,3] rfl rfl) ?_;refine mc14 ⟨?_⟩;refine zV rfl rfl rfl hg hms ?_;refine nz ⟨?_⟩;generalize Yq Zu o=p at*;obtain ⟨y,an⟩:=p;simp only;refine gon ⟨?_⟩;refine vI y8 [5,6] (fun a b=>[wOb y,yD o,a,b,Pd an]) rfl (by kernel_rfl) (by kernel_rfl) ?_;refine kx ⟨?_⟩;refine AMk.nil ?_;exact gf
 ·have e:mAs s=s:=Xw h
  rw [e] at hms ⊢;refine ms4 ⟨?_⟩;refine xB rfl rfl rfl wI rfl (by repeat' (first|exact trivial|exact Nat.le_refl _|refine And.intro ?_ ?_|omega)) wu ?_;refine nz ⟨?_⟩;refine W3 hT rfl rfl hT3 rfl rfl rfl ?_;refine ng ⟨?_⟩;refine lp (fun p:{p:(Nat→Bool)×Nat // ∀k,p.1 k=true→9≤k∧k≤15}=>[]) (fun p=>HD s s o p.1.1 p.1.2) (fun p=>ud p.1.1) ⟨(fun _=>false,0),by simp⟩ ?_
  rintro ⟨⟨A,z⟩,hA⟩
  simp only [HD] at hA ⊢;refine go ⟨?_⟩;refine q_ rfl rfl rfl rfl rfl (fun k a hk hf=> ?_) (fun hn=> ?_)
  ·skip
   have hAk:A k=false:=by
    cases hb:A k with
    |false=>rfl
    |true=>simp only [iFA,hb] at hf;cases hf
   have hq:qF k=[a]:=by simp only [iFA,hAk] at hf;exact hf
   have hin:=G_ k hk (by rw [hq];simp);refine ms12 ⟨?_⟩
   refine je ⟨⟨(vb A k,k+1),fun j hj=>by
    simp only [vb,Bool.or_eq_true] at hj;rcases hj with hj|hj
    ·exact hA j hj
    ·rw [Nat.eq_of_beq_eq_true hj];exact hin⟩,vt hk hAk, ?_⟩
   exact tel
  ·skip
   have hfull:=jI hA (fun k hk=>by
    have h1:=hn k (by show k<16;omega);cases hb:A k with
    |true=>rfl
    |false=>simp only [iFA,hb] at h1;exact absurd h1 (PI k hk))
   have hgm:xh (Ve T67 16 (dFA A)) o.what=qfn g:=by
    unfold xh;rw [decide_eq_true hw.1,decide_eq_true (show o.what<((16:Nat):Int) by omega),hfull];exact hf
   refine ng ⟨?_⟩;refine ZU hT rfl rfl hT2 rfl rfl rfl rfl rfl (x:= .fn (.func g) [] []) (by rw [hgm]) (y:= .tup [.fn (.func g) [] [], .lit (.bool true)]) (by rw [hgm]) ?_;refine ng ⟨?_⟩;refine zz (Tells.sel [4,1,2,3] rfl rfl) ?_;refine mc14 ⟨?_⟩;refine zV rfl rfl rfl hg hms ?_;refine nz ⟨?_⟩;generalize Yq s o=p at*;obtain ⟨y,an⟩:=p;simp only;refine gon ⟨?_⟩;refine vI y8 [5,6] (fun a b=>[wOb y,yD o,a,b,Pd an]) rfl (by kernel_rfl) (by kernel_rfl) ?_;refine kx ⟨?_⟩;refine AMk.nil ?_;exact gf
theorem zia (s:MSt) (o:MOp) (hs:SOk s) (hw:o.what<1∨15<o.what):APure Tryz.prog 12 [stA s,opA o] (.tup [stA (mDo s o).1,X4 (mDo s o).2]) []:=by
 refine ent Tryz.func12 Tryz.ntmps12 ⟨?_⟩;have hT2:Z2 tab T67=some (3,65):=rfl
 have hT3:Z2 tab T68=some (3,99):=rfl
 rw [xi,Hb _ o hw];refine gc vu (vO s hs) ⟨?_⟩;cases h:Zd s
 ·have e:mAs s=Zu:=by unfold mAs;rw [h];rfl
  rw [e];refine ms4 ⟨?_⟩;refine xB rfl rfl rfl wI rfl (by repeat' (first|exact trivial|exact Nat.le_refl _|refine And.intro ?_ ?_|omega)) wu ?_;refine nz ⟨?_⟩;refine W3 hT rfl rfl hT3 rfl rfl rfl ?_;refine ng ⟨?_⟩;refine lp (fun p:{p:(Nat→Bool)×Nat // ∀k,p.1 k=true→9≤k∧k≤15}=>[]) (fun p=>HD s Zu o p.1.1 p.1.2) (fun p=>ud p.1.1) ⟨(fun _=>false,0),by simp⟩ ?_
  rintro ⟨⟨A,z⟩,hA⟩
  simp only [HD] at hA ⊢;refine go ⟨?_⟩;refine q_ rfl rfl rfl rfl rfl (fun k a hk hf=> ?_) (fun hn=> ?_)
  ·skip
   have hAk:A k=false:=by
    cases hb:A k with
    |false=>rfl
    |true=>simp only [iFA,hb] at hf;cases hf
   have hq:qF k=[a]:=by simp only [iFA,hAk] at hf;exact hf
   have hin:=G_ k hk (by rw [hq];simp);refine ms12 ⟨?_⟩
   refine je ⟨⟨(vb A k,k+1),fun j hj=>by
    simp only [vb,Bool.or_eq_true] at hj;rcases hj with hj|hj
    ·exact hA j hj
    ·rw [Nat.eq_of_beq_eq_true hj];exact hin⟩,vt hk hAk, ?_⟩
   exact tel
  ·skip
   have hfull:=jI hA (fun k hk=>by
    have h1:=hn k (by show k<16;omega);cases hb:A k with
    |true=>rfl
    |false=>simp only [iFA,hb] at h1;exact absurd h1 (PI k hk))
   have hgm:xh (Ve T67 16 (dFA A)) o.what=[]:=by
    unfold xh;by_cases h0:0≤o.what∧o.what<16
    ·rw [decide_eq_true h0.1,decide_eq_true (show o.what<((16:Nat):Int) by omega),hfull];rw [show o.what.toNat=0 by omega];rfl
    ·by_cases h1:0≤o.what
     ·rw [decide_eq_true h1,decide_eq_false (show ¬o.what<((16:Nat):Int) by omega)]
     ·rw [decide_eq_false h1]
   refine ng ⟨?_⟩;refine ZU hT rfl rfl hT2 rfl rfl rfl rfl rfl (x:= .lit .nilFunc) (by rw [hgm]) (y:= .tup [.lit .nilFunc, .lit (.bool false)]) (by rw [hgm]) ?_;refine ng ⟨?_⟩;exact cgf yW (y6 14)
 ·have e:mAs s=s:=Xw h
  rw [e];refine ms4 ⟨?_⟩;refine xB rfl rfl rfl wI rfl (by repeat' (first|exact trivial|exact Nat.le_refl _|refine And.intro ?_ ?_|omega)) wu ?_;refine nz ⟨?_⟩;refine W3 hT rfl rfl hT3 rfl rfl rfl ?_;refine ng ⟨?_⟩;refine lp (fun p:{p:(Nat→Bool)×Nat // ∀k,p.1 k=true→9≤k∧k≤15}=>[]) (fun p=>HD s s o p.1.1 p.1.2) (fun p=>ud p.1.1) ⟨(fun _=>false,0),by simp⟩ ?_
  rintro ⟨⟨A,z⟩,hA⟩
  simp only [HD] at hA ⊢;refine go ⟨?_⟩;refine q_ rfl rfl rfl rfl rfl (fun k a hk hf=> ?_) (fun hn=> ?_)
  ·skip
   have hAk:A k=false:=by
    cases hb:A k with
    |false=>rfl
    |true=>simp only [iFA,hb] at hf;cases hf
   have hq:qF k=[a]:=by simp only [iFA,hAk] at hf;exact hf
   have hin:=G_ k hk (by rw [hq];simp);refine ms12 ⟨?_⟩
   refine je ⟨⟨(vb A k,k+1),fun j hj=>by
    simp only [vb,Bool.or_eq_true] at hj;rcases hj with hj|hj
    ·exact hA j hj
    ·rw [Nat.eq_of_beq_eq_true hj];exact hin⟩,vt hk hAk, ?_⟩
   exact tel
  ·skip
   have hfull:=jI hA (fun k hk=>by
    have h1:=hn k (by show k<16;omega);cases hb:A k with
    |true=>rfl
    |false=>simp only [iFA,hb] at h1;exact absurd h1 (PI k hk))
   have hgm:xh (Ve T67 16 (dFA A)) o.what=[]:=by
    unfold xh;by_cases h0:0≤o.what∧o.what<16
    ·rw [decide_eq_true h0.1,decide_eq_true (show o.what<((16:Nat):Int) by omega),hfull];rw [show o.what.toNat=0 by omega];rfl
    ·by_cases h1:0≤o.what
     ·rw [decide_eq_true h1,decide_eq_false (show ¬o.what<((16:Nat):Int) by omega)]
     ·rw [decide_eq_false h1]
   refine ng ⟨?_⟩;refine ZU hT rfl rfl hT2 rfl rfl rfl rfl rfl (x:= .lit .nilFunc) (by rw [hgm]) (y:= .tup [.lit .nilFunc, .lit (.bool false)]) (by rw [hgm]) ?_;refine ng ⟨?_⟩;exact cgf yW (y6 14)
theorem Jj (s:MSt) (o:MOp) (hs:SOk s) (hk:o.keys.length≤1000000):APure Tryz.prog 12 [stA s,opA o] (.tup [stA (mDo s o).1,X4 (mDo s o).2]) []:=by
 by_cases hno:o.what<1∨15<o.what
 ·exact zia s o hs hno
 have hw:o.what=1∨o.what=2∨o.what=3∨o.what=4∨o.what=5∨o.what=6∨o.what=7∨o.what=8∨(9≤o.what∧o.what≤15):=by omega
 rcases hw with h|h|h|h|h|h|h|h|h
 ·exact XW s o hs _ zju (by omega) (by rw [h];rfl) fun x hx=>zkS x o (Zj hx).1.1 h
 ·exact XW s o hs _ zbS (by omega) (by rw [h];rfl) fun x hx=>ze5 x o (Zj hx).1.1 hk h
 ·exact XW s o hs _ zca (by omega) (by rw [h];rfl) fun x hx=>zeD x o (Zj hx).1.1 hk h
 ·exact XW s o hs _ zbh (by omega) (by rw [h];rfl) fun x hx=>zc6 x o (Zj hx).1.1 hk h
 ·exact XW s o hs _ zhe (by omega) (by rw [h];rfl) fun x hx=>zjB x o hx h
 ·exact XW s o hs _ TA (by omega) (by rw [h];rfl) fun x hx=>za' x o (Zj hx).1.2.1 h
 ·exact XW s o hs _ gE (by omega) (by rw [h];rfl) fun x hx=>zeO x o (Zj hx).1.2.1 h
 ·exact XW s o hs _ zea (by omega) (by rw [h];rfl) fun x hx=>zh_ x o h
 ·refine XW s o hs _ zjS (by omega) ?_ fun x hx=>zlk x o (Zj hx).1 h
  unfold zaE;rw [show (Nat.ble 9 o.what.toNat && Nat.ble o.what.toNat 15)=true by simp;omega]
theorem Xx:ze Tryz.prog 12:=gfn Tryz.func12
abbrev zaY (n:Nat):zb:={T:=46,sz:=1,n:=1,f:=fun _=>[.row 1 5 0 n none],pure:=false,box:=true}
abbrev zb5 (n:Nat) (out:List wX):zb:={T:=38,sz:=5,n:=n,f:=fE zfV out}
theorem zjP (n:Nat) (out:List wX) (hn:out.length=n) (hl:n≤1000000) (s u:MSt) (o:MOp) (a:wX):ACall Tryz.prog 52 [X4 a, .ptr 0 1 0 0] [zaY n,zb5 n out,zSt,Wh s,yD o,Wh u,Pd a] fun r H' fg=>r= .tup []∧H'=[zaY (n+1),zb5 (n+1) (out++[a]),zSt,Wh s,yD o,Wh u,Pd a]∧fg=[1]:=by
 refine enta Tryz.func52 Tryz.ntmps52 ⟨?_⟩;refine go ⟨?_⟩;refine app (fE zfV (out++[a])) hT rfl rfl rfl rfl (fun k hk=>ZZ (e:=zfV) hn.symm rfl hk) ?_;refine ng ⟨?_⟩;exact zen rfl trivial [] _ (Tells.sel [0,1,2,3,4,5,6] rfl rfl) ⟨rfl,rfl,rfl⟩
theorem zjK:ze Tryz.prog 52:=gfn Tryz.func52
theorem zbW (a:wX):APure Tryz.prog 53 [X4 a] (.tup []) []:=by
 refine ent Tryz.func53 Tryz.ntmps53 ⟨?_⟩;refine go ⟨?_⟩;refine zen rfl trivial [] [] (Tells.sel [] rfl rfl) ⟨rfl,rfl⟩
theorem zcl:ze Tryz.prog 53:=gfn Tryz.func53
theorem zjl (l:List MOp) (hk:KOk l) (hl:l.length≤1000000):APure Tryz.prog 51 [ops l, .fn (.func 53) [] []] (stA (zw Zu l)) []:=by
 refine ent Tryz.func51 Tryz.ntmps51 ⟨?_⟩;refine go ⟨?_⟩;refine lp (fun i:{i:Nat // i≤l.length}=>[(12,int i.1),(7, .junk),(8, .junk),(9, .junk)]) (fun i=>[zSt,Wh (zw Zu (l.take i.1))]) (fun i=>l.length - i.1) ⟨0,by omega⟩ ?_
 rintro ⟨i,hi⟩
 have hsn:=xS (l.take i) Zu WD;have hok:=(Zj hsn).1
 refine go ⟨?_⟩;refine zj rfl (fun h=> ?_) (fun h=> ?_)
 ·have hlt:i<l.length:=by omega
  have hz:l.getD i eOp.z=l[i]:=by show l.getD i Kk=_;simp [List.getD_eq_getElem?_getD,hlt]
  have ef:fE eOp l i=opC l[i]:=congrArg opC hz
  have hc:=Jj (zw Zu (l.take i)) l[i] hok (hk _ (List.getElem_mem hlt));have hs:zw Zu (l.take (i+1))=(mDo (zw Zu (l.take i)) l[i]).1:=by rw [List.take_succ_eq_append_getElem hlt,Wi]
  generalize zw Zu (l.take i)=s at*;generalize mDo s l[i]=p at*;obtain ⟨u,a⟩:=p;simp only at hc hs;refine go ⟨?_⟩;rw [ef];refine gcg Xx hc ⟨?_⟩;refine cg zcl (zbW a) ⟨?_⟩;refine je ⟨⟨i+1,hlt⟩,by simp only;omega, ?_⟩;simp only [hs];refine (Tells.sel [0,1] rfl rfl).trans ?_;refine mc14 ⟨?_⟩;exact tel
 ·obtain rfl:i=l.length:=by omega
  rw [List.take_length];generalize zw Zu l=s at*;exact gf
theorem zd4:ze Tryz.prog 51:=gfn Tryz.func51
theorem ux (l:List MOp) (hk:KOk l) (hl:l.length≤1000000):APure Tryz.prog 20 [ops l] (stA (zw Zu l)) []:=by
 refine ent Tryz.func20 Tryz.ntmps20 ⟨?_⟩;exact gcgf zd4 (zjl l hk hl)
theorem Vq:ze Tryz.prog 20:=gfn Tryz.func20
theorem ziy (l:List MOp) (hk:KOk l) (hl:l.length≤1000000):ACall Tryz.prog 51 [ops l, .fn (.func 52) [] [.ptr 0 1 0 0]] [{T:=46,sz:=1,n:=1,f:=fun _=>[.lit (.slice none 0 0)],box:=true}] fun r H' fg=>r=stA (zw Zu l)∧H'=[zaY l.length,zb5 l.length (wB Zu l)]∧fg=[]:=by
 refine enta Tryz.func51 Tryz.ntmps51 ⟨?_⟩;refine zr (Tells.nilCell 0 38 5 rfl rfl rfl rfl) ?_;refine zr (Tells.le (H':=[zaY 0,zb5 0 []]) (.refl _) (.cons (.of (Nat.le_refl _) (fun h=>by cases h) fun k hk=>rfl) (.cons (.of (Nat.le_refl _) (fun h=>h) fun k hk=>by simp at hk) .nil))) ?_;refine go ⟨?_⟩;refine lp (fun i:{i:Nat // i≤l.length}=>[(12,int i.1),(7, .junk),(8, .junk),(9, .junk)]) (fun i=>[zaY i.1,zb5 i.1 (wB Zu (l.take i.1)),zSt,Wh (zw Zu (l.take i.1))]) (fun i=>l.length - i.1) ⟨0,by omega⟩ ?_
 rintro ⟨i,hi⟩
 have hsn:=xS (l.take i) Zu WD;have hok:=(Zj hsn).1
 have hli:(wB Zu (l.take i)).length=i:=by rw [qI,List.length_take];omega
 refine go ⟨?_⟩;refine zj rfl (fun h=> ?_) (fun h=> ?_)
 ·have hlt:i<l.length:=by omega
  have hz:l.getD i eOp.z=l[i]:=by show l.getD i Kk=_;simp [List.getD_eq_getElem?_getD,hlt]
  have ef:fE eOp l i=opC l[i]:=congrArg opC hz
  have hc:=Jj (zw Zu (l.take i)) l[i] hok (hk _ (List.getElem_mem hlt));have hs:zw Zu (l.take (i+1))=(mDo (zw Zu (l.take i)) l[i]).1:=by rw [List.take_succ_eq_append_getElem hlt,Wi]
  have hr:wB Zu (l.take (i+1))=wB Zu (l.take i)++[(mDo (zw Zu (l.take i)) l[i]).2]:=by rw [List.take_succ_eq_append_getElem hlt,zbf]
  generalize zw Zu (l.take i)=s at*;generalize wB Zu (l.take i)=out at*;generalize mDo s l[i]=p at*;obtain ⟨u,a⟩:=p;simp only at hc hs hr;refine go ⟨?_⟩;rw [ef];refine gcg Xx hc ⟨?_⟩;obtain ⟨fn,c,g1,g2,g3⟩:=zjK;refine Pc rfl rfl rfl g1 g2 g3 (zjP i out hli (by omega) u u l[i] a) fun x H' fg hK=> ?_
  obtain ⟨rfl,rfl,rfl⟩:=hK;have hf: ∀x,fgs (fgk (([zaY i,zb5 i out,zSt,Wh u,yD l[i],Wh u,Pd a]:List zb).length) [1]) x=ZO 1 4 x:=fun x=>rfl
  have hg:fgk 1 [1]=[]:=rfl
  simp only [List.length_cons,List.length_nil,Nat.reduceAdd] at hf;simp only [List.length_cons,List.length_nil,Nat.reduceAdd,hf,hg,List.map,ZO,Nat.reduceBEq,List.append_nil];refine ng ⟨?_⟩;refine je ⟨⟨i+1,hlt⟩,by simp only;omega, ?_⟩;simp only [hs,hr];refine (Tells.sel [0,1,2,3] rfl rfl).trans ?_;refine mc14 ⟨?_⟩;exact tel
 ·obtain rfl:i=l.length:=by omega
  rw [List.take_length];generalize zw Zu l=s at*;generalize wB Zu l=out at*;refine go ⟨?_⟩;refine Wc rfl (by repeat' (first|exact trivial|exact Nat.le_refl _|exact Nat.zero_lt_one|refine And.intro ?_ ?_|decide|omega)) ⟨rfl,rfl,rfl⟩ ((Tells.sel [0,1] rfl rfl).trans (Tells.le ?_ ?_))
  ·exact les
  ·exact leh
theorem zif (l:List MOp) (hk:KOk l) (hl:l.length≤1000000):APure Tryz.prog 19 [ops l] (zg4 (wB Zu l)) []:=by
 refine ent Tryz.func19 Tryz.ntmps19 ⟨?_⟩;have hml:=qI l Zu;refine go ⟨?_⟩;refine zV rfl rfl rfl zd4 (ziy l hk hl) ?_;refine nz ⟨?_⟩;generalize zw Zu l=s at*;generalize wB Zu l=out at*;rw [←hml];exact gf
theorem zaI:ze Tryz.prog 19:=gfn Tryz.func19
end
section
theorem Gq (t:zc) (i:Int):(zQ t i).length≤7:=by
 unfold zQ;split
 ·simp
 ·exact Nat.le_trans (List.length_filter_le _ _) (WO _ _)
theorem GX (t:zc) (o:MOp):(ZL t o).l.length≤9000:=by
 unfold ZL;split
 ·simp
 split
 ·simp
 split
 ·exact Nat.le_trans (UZ (zG t) _) (by omega)
 split
 ·show (Zf t o.i).length≤_
  have:=Gq t o.i
  rw [VL];omega
 split
 ·have:=WO (2*o.i) t.length
  show (Zc _ _).length≤_
  omega
 repeat' (first|exact Nat.zero_le _|(split;exact Nat.zero_le _)|(split;(show [zp t].length≤_;simp)))
theorem qt (s:MSt) (o:MOp):(mDo s o).2.l.length≤9000:=by
 have ht: ∀(s:MSt) (t:zc) (e:Int),(Z1 s t e).2.l.length≤9000:=by
  intro s t e;unfold Z1;split <;>exact Nat.zero_le _
 rw [xi];generalize mAs s=s at*;refine X_ (C:=fun p=>p.2.l.length≤9000) s o (fun _=> ?_) (fun _=>ht _ _ _) (fun _=>ht _ _ _) (fun _=>ht _ _ _) (fun _=>ht _ _ _) (fun _=> ?_) (fun _=> ?_) (fun _=> ?_) (fun _=>Nat.zero_le _) (fun _=> ?_)
 ·split <;>exact Nat.zero_le _
 ·unfold yN;split <;>exact Nat.zero_le _
 ·split <;>exact Nat.zero_le _
 ·split <;>exact Nat.zero_le _
 ·split
  ·exact GX _ _
  split
  ·exact Nat.zero_le _
  ·exact GX _ _
theorem Ux: ∀(l:List MOp) (s:MSt),∀a∈wB s l,a.l.length≤9000
 |[],s,a,h=>by cases h
 |o::l,s,a,h=>by
  rw [wB] at h;rcases List.mem_cons.1 h with rfl|h
  ·exact qt _ _
  ·exact Ux l _ a h
theorem zcD {s:MSt} (hs:Zd s=true) (o:MOp) {k:YW} (hk:k∈s.kept) (h: ¬(o.what=7∧o.i=k.id)):k∈(mDo s o).1.kept:=by
 have ht: ∀(t:zc) (e:Int),k∈(Z1 s t e).1.kept:=by
  intro t e;unfold Z1;split <;>exact hk
 rw [xi,Xw hs];refine X_ (C:=fun p=>k∈p.1.kept) s o (fun _=> ?_) (fun _=>ht _ _) (fun _=>ht _ _) (fun _=>ht _ _) (fun _=>ht _ _) (fun _=> ?_) (fun _=> ?_) (fun h7=> ?_) (fun _=>hk) (fun _=> ?_)
 ·split <;>exact hk
 ·unfold yN;split
  ·exact hk
  ·exact List.mem_append_left _ hk
 ·split <;>exact hk
 ·split
  ·exact hk
  ·rename_i hp;obtain ⟨p1,p2,p3⟩:=yb hp;obtain ⟨j,hj,rfl⟩:=List.mem_iff_getElem.1 hk;refine List.mem_eraseIdx_iff_getElem.2 ⟨j,hj,fun e=> ?_,rfl⟩;refine h ⟨h7, ?_⟩;rw [←p2,←e];simp [List.getD_eq_getElem?_getD,hj]
 ·split
  ·exact hk
  split
  ·exact hk
  ·exact hk
theorem zdE {s:MSt} (hs:Zd s=true) {k:YW} (hk:k∈s.kept): ¬zq s k.id<0∧s.kept.getD (zq s k.id).toNat ⟨0,[]⟩=k:=by
 have h0: ¬zq s k.id<0:=by
  have:=vw (fun x:YW=>decide (x.id=k.id)) s.kept
  have h2:s.kept.any (fun x:YW=>decide (x.id=k.id))=true:=List.any_eq_true.2 ⟨k,hk,by simp⟩
  rw [h2] at this;have:=of_decide_eq_true this
  unfold zq;omega
 refine ⟨h0, ?_⟩;obtain ⟨p1,p2,p3⟩:=yb h0;obtain ⟨last,g1,_⟩:=(Yb s).1 hs;have hp:=(Xy _ _ _ g1).2
 generalize (zq s k.id).toNat=i at*;obtain ⟨j,hj,rfl⟩:=List.mem_iff_getElem.1 hk;have e:s.kept.getD i ⟨0,[]⟩=s.kept[i]:=by simp [List.getD_eq_getElem?_getD,p1]
 rw [e] at p2 ⊢;rcases Nat.lt_trichotomy i j with h|h|h
 ·have:=List.pairwise_iff_getElem.1 hp i j p1 hj h;omega
 ·subst h;rfl
 ·have:=List.pairwise_iff_getElem.1 hp j i hj p1 h;omega
theorem zfB (s:MSt) (o:MOp) (h:o.what=5):mDo s o=yN (mAs s):=by
 rw [xi];obtain ⟨w,i,l,ks,b,old⟩:=o;simp only at h;subst h;simp [Yq]
theorem zkW (s:MSt) (o:MOp) (h:o.what=6):mDo s o=if zq (mAs s) o.i<0 then (mAs s,zu 13) else (⟨((mAs s).kept.getD (zq (mAs s) o.i).toNat ⟨0,[]⟩).t,(mAs s).kept,(mAs s).next⟩,zu 0):=by
 rw [xi];obtain ⟨w,i,l,ks,b,old⟩:=o;simp only at h;subst h;simp [Yq]
theorem zai (s:MSt) (o:MOp) (h:9≤o.what∧o.what≤15):mDo s o=if o.old=0 then (mAs s,ZL (mAs s).t o) else if zq (mAs s) o.old<0 then (mAs s,zu 13) else (mAs s,ZL ((mAs s).kept.getD (zq (mAs s) o.old).toNat ⟨0,[]⟩).t o):=by
 rw [xi,yY _ _ h]
theorem zfv (t:zc) {o p:MOp} (h1:o.what=p.what) (h2:o.i=p.i):ZL t o=ZL t p:=by
 unfold ZL;rw [h1,h2]
theorem p7 {s:MSt} (h:(yN s).2.e=0):yN s=(⟨s.t,s.kept++[⟨s.next+1,s.t⟩],s.next+1⟩,⟨0,s.next+1,[],[],false⟩):=by
 unfold yN at h ⊢;split at h
 ·exact absurd h (show ¬(10:Int)=0 by decide)
 ·rename_i h2;rw [if_neg h2]
theorem zf_ {s:MSt} (h:(yN s).2.e≠0):(s.kept.length=8∨s.next=1099511627776)∧yN s=(s,zu 10):=by
 unfold yN at h ⊢;split at h
 ·rename_i h2;rw [if_pos h2];exact ⟨h2,rfl⟩
 ·exact absurd rfl h
theorem Tp {s:MSt} (hs:Zd s=true) (o:MOp):(mDo s o).1.next=if o.what=5∧(mDo s o).2.e=0 then s.next+1 else s.next:=by
 have ht: ∀(t:zc) (e:Int),o.what≠5→(Z1 s t e).1.next=if o.what=5∧(Z1 s t e).2.e=0 then s.next+1 else s.next:=by
  intro t e h5;rw [if_neg (fun h=>h5 h.1)];unfold Z1;split <;>rfl
 have hif: ∀e:Int,o.what≠5→s.next=if o.what=5∧e=0 then s.next+1 else s.next:=fun e h5=>by rw [if_neg (fun h=>h5 h.1)]
 rw [xi,Xw hs];refine X_ (C:=fun p=>p.1.next=if o.what=5∧p.2.e=0 then s.next+1 else s.next) s o (fun h=> ?_) (fun h=>ht _ _ (by omega)) (fun h=>ht _ _ (by omega)) (fun h=>ht _ _ (by omega)) (fun h=>ht _ _ (by omega)) (fun h=> ?_) (fun h=> ?_) (fun h=> ?_) (fun h=> ?_) (fun h=> ?_)
 ·split <;>exact hif _ (by omega)
 ·unfold yN;split
  ·rw [if_neg (fun h2=>absurd h2.2 (show ¬(10:Int)=0 by decide))]
  ·rw [if_pos ⟨h,rfl⟩]
 ·split <;>exact hif _ (by omega)
 ·split <;>exact hif _ (by omega)
 ·exact hif _ (by omega)
 ·split
  ·exact hif _ (by omega)
  split <;>exact hif _ (by omega)
theorem va: ∀(l:List MOp) (s:MSt),Zd s=true→(zw s l).next≤s.next+l.length
 |[],s,h=>by simp [zw]
 |o::l,s,h=>by
  rw [zw];have h1:=va l _ (YQ s o);have h2:=Tp h o;have h3:(mDo s o).1.next≤s.next+1:=by rw [h2];split <;>omega
  rw [List.length_cons];push_cast;omega
def Ya (id:Int):MSt→List MOp→MSt
 |s,[]=>s
 |s,o::l=>Ya id (if o.what=7∧o.i=id then s else (mDo s o).1) l
theorem ul (id:Int): ∀(l:List MOp) (o:MOp) (s:MSt),Ya id s (l++[o])=if o.what=7∧o.i=id then Ya id s l else (mDo (Ya id s l) o).1
 |[],o,s=>rfl
 |p::l,o,s=>by rw [List.cons_append,Ya,Ya,ul id l o]
theorem KO: ∀(l:List MOp) (s:MSt) (k:YW),Zd s=true→k∈s.kept→Zd (Ya k.id s l)=true∧k∈(Ya k.id s l).kept
 |[],s,k,hs,hk=>⟨hs,hk⟩
 |o::l,s,k,hs,hk=>by
  rw [Ya];split
  ·exact KO l s k hs hk
  ·rename_i h;exact KO l _ k (YQ s o) (zcD hs o hk h)
theorem VB: ∀(l:List MOp) (s:MSt) (id:Int),Zd s=true→Zd (Ya id s l)=true
 |[],s,id,hs=>hs
 |o::l,s,id,hs=>by
  rw [Ya];split
  ·exact VB l s id hs
  ·exact VB l _ id (YQ s o)
theorem za7 {s:MSt} (hs:Zd s=true) (m:List MOp) (o:MOp) (ho:9≤o.what∧o.what≤15) (h:(mDo s ⟨5,0,ZF,[],[],0⟩).2.e=0):
 let a:=(mDo s ⟨5,0,ZF,[],[],0⟩).2
 let t:=Ya a.n (mDo s ⟨5,0,ZF,[],[],0⟩).1 m
 let v:=mDo t ⟨6,a.n,ZF,[],[],0⟩
 (mDo t {o with old:=a.n}).2=(mDo s {o with old:=0}).2∧v.2.e=0∧(mDo v.1 {o with old:=0}).2=(mDo s {o with old:=0}).2∧v.1.t=s.t:=by
 intro a t v;have e5:mDo s ⟨5,0,ZF,[],[],0⟩=yN s:=by rw [zfB _ _ rfl,Xw hs]
 have e6:=p7 (e5▸h);have ha:a=⟨0,s.next+1,[],[],false⟩:=by show (mDo s _).2=_;rw [e5,e6]
 have h1:(mDo s ⟨5,0,ZF,[],[],0⟩).1=⟨s.t,s.kept++[⟨s.next+1,s.t⟩],s.next+1⟩:=by rw [e5,e6]
 have hn:a.n=s.next+1:=by rw [ha]
 obtain ⟨last,g1,g2,g3,g4,g5⟩:=(Yb s).1 hs;have hlast:=Wx _ _ _ g1;have hk:=KO m (mDo s ⟨5,0,ZF,[],[],0⟩).1 ⟨s.next+1,s.t⟩ (YQ _ _) (by rw [h1];simp);have ht:t=Ya (s.next+1) (mDo s ⟨5,0,ZF,[],[],0⟩).1 m:=by show Ya a.n _ m=_;rw [hn]
 rw [←ht] at hk;obtain ⟨hk1,hk2⟩:=hk;have hp:=zdE hk1 hk2;simp only at hp
 have hv:v=(⟨s.t,t.kept,t.next⟩,zu 0):=by
  show mDo t _=_
  rw [zkW _ _ rfl,Xw hk1];simp only;rw [hn,if_neg hp.1,hp.2]
 have hvs:Zd v.1=true:=YQ _ _
 have hne: ¬s.next+1=0:=by omega
 refine ⟨?_, ?_, ?_, ?_⟩
 ·rw [zai t {o with old:=a.n} ho,zai s {o with old:=0} ho,Xw hs,Xw hk1];simp only;rw [hn,if_neg hne,if_neg hp.1,hp.2,if_pos trivial];exact zfv _ rfl rfl
 ·rw [hv]
 ·rw [zai v.1 {o with old:=0} ho,zai s {o with old:=0} ho,Xw hs,Xw hvs];simp only;rw [if_pos trivial,if_pos trivial,hv]
 ·rw [hv]
theorem gK {s:MSt} (hs:Zd s=true) (o:MOp) (h7:o.what=7) (h:(mDo s o).2.e=0):(mDo s o).1.kept.length+1=s.kept.length∧ ∀k∈(mDo s o).1.kept,k.id≠o.i:=by
 have e:mDo s o=if zq s o.i<0 then (s,zu 13) else (⟨s.t,s.kept.eraseIdx (zq s o.i).toNat,s.next⟩,zu 0):=by
  rw [xi,Xw hs];obtain ⟨w,i,l,ks,b,old⟩:=o;simp only at h7;subst h7;simp [Yq]
 rw [e] at h ⊢;by_cases hp:zq s o.i<0
 ·rw [if_pos hp] at h;exact absurd h (show ¬(13:Int)=0 by decide)
 rw [if_neg hp];obtain ⟨p1,p2,p3⟩:=yb hp;obtain ⟨last,g1,_⟩:=(Yb s).1 hs;have hpw:=(Xy _ _ _ g1).2
 generalize (zq s o.i).toNat=i at*;have e2:s.kept.getD i ⟨0,[]⟩=s.kept[i]:=by simp [List.getD_eq_getElem?_getD,p1]
 rw [e2] at p2;refine ⟨by simp only;rw [List.length_eraseIdx,if_pos p1];omega,fun k hk he=> ?_⟩;obtain ⟨j,hj,hne,rfl⟩:=List.mem_eraseIdx_iff_getElem.1 hk;rcases Nat.lt_trichotomy i j with h|h|h
 ·have:=List.pairwise_iff_getElem.1 hpw i j p1 hj h;omega
 ·exact hne h.symm
 ·have:=List.pairwise_iff_getElem.1 hpw j i hj p1 h;omega
end
section
attribute [local irreducible] zA AO zt zo ADr AL AW zF zh zU Tells APure ACall
def PH (k:UInt8):MOp:=⟨1,0,⟨[k],[],1,[]⟩,[],[],0⟩
def opW (w:Int):MOp:=⟨w,0,ZF,[],[],0⟩
def JN:List MOp:=[PH 2,PH 3,opW 2,opW 15,opW 99]
def zkZ:List wX:=[⟨0,0,[],[],false⟩,⟨0,1,[],[],false⟩,⟨0,0,[],[],false⟩,⟨0,1,[2],[],false⟩,⟨14,0,[],[],false⟩]
theorem zeV:wB Zu JN=zkZ:=by decide+kernel
theorem PM:Zd (zw Zu JN)=true∧(zw Zu JN).t.length=3:=by decide+kernel
theorem TX:KOk JN:=by unfold KOk;decide
theorem zdK:APure Tryz.prog 27 [int 1] (opA (PH 2)) []:=by
 refine ent Tryz.func27 Tryz.ntmps27 ⟨?_⟩;refine go ⟨?_⟩;refine uM rfl (by repeat' (first|exact trivial|exact Nat.le_refl _|exact Nat.zero_lt_one|refine And.intro ?_ ?_|decide|omega)) ?_;refine (Tells.thaw (t:=0) rfl rfl (by repeat' (first|exact trivial|exact Nat.le_refl _|exact Nat.le_of_eq (Nat.zero_add _)|omega|refine And.intro ?_ ?_))).trans ((Tells.sel [] rfl rfl).trans (Tells.le ?_ .nil));exact .cons (AV.Le.agg (.cons (.refl _) (.cons (.refl _) (.cons (GB (xs:=[2]) (by rfl) rfl) (.cons (AV.Le.nil rfl rfl) (.cons (.refl _) (.cons (AV.Le.nil rfl rfl) (.cons (AV.Le.nil rfl rfl) (.cons (AV.Le.nil rfl rfl) (.cons (.refl _) .nil)))))))))) .nil
theorem zem:APure Tryz.prog 27 [int 2] (opA (PH 3)) []:=by
 refine ent Tryz.func27 Tryz.ntmps27 ⟨?_⟩;refine go ⟨?_⟩;refine uM rfl (by repeat' (first|exact trivial|exact Nat.le_refl _|exact Nat.zero_lt_one|refine And.intro ?_ ?_|decide|omega)) ?_;refine (Tells.thaw (t:=0) rfl rfl (by repeat' (first|exact trivial|exact Nat.le_refl _|exact Nat.le_of_eq (Nat.zero_add _)|omega|refine And.intro ?_ ?_))).trans ((Tells.sel [] rfl rfl).trans (Tells.le ?_ .nil));exact .cons (AV.Le.agg (.cons (.refl _) (.cons (.refl _) (.cons (GB (xs:=[3]) (by rfl) rfl) (.cons (AV.Le.nil rfl rfl) (.cons (.refl _) (.cons (AV.Le.nil rfl rfl) (.cons (AV.Le.nil rfl rfl) (.cons (AV.Le.nil rfl rfl) (.cons (.refl _) .nil)))))))))) .nil
theorem Hu:ze Tryz.prog 27:=gfn Tryz.func27
theorem QV:APure Tryz.prog 9 [] (.lit (.bool true)) []:=by
 refine ent Tryz.func9 Tryz.ntmps9 ⟨?_⟩;refine gcg Hu zdK ⟨?_⟩;refine cg Hu zem ⟨?_⟩;refine zz (Tells.le (H':=[{T:=31,sz:=9,n:=5,f:=fE eOp JN}]) (.refl _) (.cons (.les (Nat.le_refl _) fun k hk=> ?_) .nil)) ?_
 ·have:k=0∨k=1∨k=2∨k=3∨k=4:=by omega
  rcases this with rfl|rfl|rfl|rfl|rfl <;>exact les
 refine cal zaI (zif JN TX (by decide)) ⟨?_⟩;rw [zeV];refine gc Vq (ux JN TX (by decide)) ⟨?_⟩;have hw:=PM;generalize zw Zu JN=s at*;have hok:=Zj hw.1;have hsn:=vO s hok.1;rw [hw.1] at hsn;refine go ⟨?_⟩;conv=>arg 5;simp only [List.append]
 refine gcg vu hsn ⟨?_⟩;rw [show ((s.t.length:Int)==3)=true by rw [hw.2];rfl];exact fin
theorem QY:ze Tryz.prog 9:=gfn Tryz.func9
theorem P0 (o:MOp) (hk:o.keys.length≤9223372036854775807):APure Tryz.prog 11 [opA o] (.lit (.bool (W4 o))) []:=by
 refine ent Tryz.func11 Tryz.ntmps11 ⟨?_⟩;unfold W4;refine gc zdG (zdi o.l) ⟨?_⟩;cases h1:zbq o.l
 ·exact gf
 refine gc zdD (ze7 o.keys hk) ⟨?_⟩;cases h2:gU o.keys
 ·exact gf
 exact gf
theorem P_:ze Tryz.prog 11:=gfn Tryz.func11
theorem zal {s:MSt} (h:U_ s=true):SOk s:=by
 unfold U_ at h;simp only [Bool.and_eq_true,List.all_eq_true,decide_eq_true_eq] at h;obtain ⟨h1,⟨h2,h3⟩,h4⟩:=h;exact ⟨by omega,by omega,fun k hk=>by have:=(h1 k hk).2;omega⟩
theorem XJ (u:MSt) (h:Zd u=true):APure Tryz.prog 16 [stA u,stA u] (.lit (.bool true)) []:=by
 have:=PS u u (Zj h).1 (uE h)
 rwa [decide_eq_true (show u=u from rfl)] at this
theorem XK (a:wX) (h:a.l.length≤9000):APure Tryz.prog 17 [X4 a,X4 a] (.lit (.bool true)) []:=by
 have:=zdr a a (.inl (by omega))
 rwa [decide_eq_true (show a=a from rfl)] at this
theorem mis_law (s:MSt) (o:MOp) (hs:FOk s) (hk:o.keys.length≤9223372036854775807):APure Tryz.prog 3 [stA s,opA o] (.lit (.bool true)) []:=by
 refine ent Tryz.func3 Tryz.ntmps3 ⟨?_⟩;refine gcg QY QV ⟨?_⟩;refine cal Hh (zao s hs) ⟨?_⟩;cases h1:U_ s
 ·exact gf
 refine gc P_ (P0 o hk) ⟨?_⟩;cases h2:W4 o
 ·exact gf
 have hok:=zal h1;have hks:=VG h2;have hsn:=YQ s o
 have hal:=qt s o;have hd:=Jj s o hok hks;have hd2:=zk_ s o hok hks;unfold DoP at hd2;generalize mDo s o=p at*;obtain ⟨u,a⟩:=p;simp only at hsn hal hd hd2;refine gcg Xx hd ⟨?_⟩;refine cg zkN hd2 ⟨?_⟩;refine cg vu (vO s hok) ⟨?_⟩;refine cg tz (PT s hok) ⟨?_⟩;refine cg qG (XJ u hsn) ⟨?_⟩;exact cgf wD (XK a hal)
end
section
def X6 {α:Type} (P:Program) (t:TypeId) (d:Kd α):Prop:=
 ∀{H:Type} (enc:TypeId×Value→H) (w:World) (base:Nat) (sp:Nat→Bool) (held:Bool) (fuel:Nat) (cs:List Value) (x:DataW H×List MemPlace),DataW.trod enc P w base sp held fuel t cs=some x→ ∃y,d.rel w (fun _=>False) y cs
section
variable {P:Program} {t e:TypeId}
theorem zeY (ht:P.underlying t=some (.int .u8)):X6 P t kU8:=by
 intro H enc w base sp held fuel cs x h;obtain ⟨n,rfl,_,hw⟩:=DataW.trod_int ht h;refine ⟨UInt8.ofNat n.toNat, ?_⟩;simp [Lit.wf,IntKind.min,IntKind.max,IntKind.signed,IntKind.bits] at hw
 show [Value.int .u8 n]=[Value.int .u8 ((UInt8.ofNat n.toNat).toNat:Int)]
 rw [UInt8.toNat_ofNat'];have:((n.toNat % 2^8:Nat):Int)=n:=by omega
 rw [this]
theorem XC (ht:P.underlying t=some (.int .i64)):X6 P t K6:=by
 intro H enc w base sp held fuel cs x h;obtain ⟨n,rfl,_,_⟩:=DataW.trod_int ht h;exact ⟨n,rfl⟩
theorem H_ {α:Type} {d:Kd α} {w:World} {O:Nat→Prop} {a:Addr}: ∀(n o:Nat),(∀i,i<n→ ∃cs y,cs.length=d.sz∧(∀j,j<d.sz→w.cell? (a.add (o+i*d.sz+j))=cs[j]?)∧d.rel w O y cs)→
 ∃(ys:List α) (cs:List Value),ys.length=n∧Reps d w O ys cs∧ ∀j u,cs[j]?=some u→w.cell? (a.add (o+j))=some u
 |0,o,_=>⟨[],[],rfl,rfl,fun j u h=>by simp at h⟩
 |n+1,o,h=>by
  obtain ⟨c,y,hl,hc,hr⟩:=h 0 (by omega)
  obtain ⟨ys,cs,h1,h2,h3⟩:=H_ n (o+d.sz) (fun i hi=>by
   obtain ⟨c,y,hl,hc,hr⟩:=h (i+1) (by omega);refine ⟨c,y,hl,fun j hj=> ?_,hr⟩;rw [←hc j hj];congr 2
   rw [Nat.add_mul];omega)
  refine ⟨y::ys,c++cs,by simp [h1],⟨c,cs,rfl,hr,h2⟩,fun j u hu=> ?_⟩;by_cases hj:j<d.sz
  ·rw [List.getElem?_append_left (by omega)] at hu;have:=hc j hj
   simp only [Nat.zero_mul,Nat.add_zero] at this;rw [this];exact hu
  ·rw [List.getElem?_append_right (by omega)] at hu;have:=h3 _ u hu
   rw [hl] at this;rw [show o+j=o+d.sz+(j - d.sz) by omega];exact this
theorem qE {α:Type} {d:Kd α} (hs:0<d.sz) (ht:P.underlying t=some (.slice e)) (hc:P.cellsOf e=d.sz) (he:X6 P e d):X6 P t (d.sl hs):=by
 intro H enc w base sp held fuel cs x h;rcases DataW.trod_slice ht h with ⟨rfl,_⟩|⟨a,len,cap,elems,rest,n,_,rfl,_,hb,hl,hm,hlen,hel,_⟩
 ·exact ⟨[],_,rfl,Sl.nil_ _ _ _⟩
 ·obtain ⟨ys,cs,h1,h2,h3⟩:=H_ (d:=d) (w:=w) (O:=fun _=>False) (a:=a) len 0 (fun i hi=>by
   have h1:=hel i hi;rw [List.getElem?_eq_getElem (by omega)] at h1;obtain ⟨c,hcells,htr⟩:=Option.bind_eq_some_iff.1 h1;obtain ⟨y,hy⟩:=he enc w base sp held n c _ htr;obtain ⟨_,hcl,hcj⟩:=World.cells?_some hcells;rw [hc] at hcl hcj;refine ⟨c,y,hcl,fun j hj=> ?_,hy⟩;rw [←hcj j hj,zfz,Nat.zero_add])
  subst h1;exact ⟨ys,_,rfl,some a,cap,rfl,hl,hm,fun _=>⟨a,cs,rfl,fun h=>h,h2,fun j u hu=>by have:=h3 j u hu;rwa [Nat.zero_add] at this⟩⟩
end
theorem arg_sl {H:Type} {enc:TypeId×Value→H} {P:Program} {w:World} {base:Nat} {sp:Nat→Bool} {held:Bool} {t:TypeId} {A:Option Addr} {n c:Nat} {dd:DataW H} {ps:List MemPlace} {α:Type} {d:Kd α} {hs:0<d.sz} (ho:X6 P t (d.sl hs))
 (h:DataW.Trod enc P w base sp held t (.slice A n c) dd ps): ∃xs,Sl d w (fun _=>False) (.slice A n c) xs:=by
 obtain ⟨fuel,h⟩:=h;obtain ⟨xs,u,hu,hsl⟩:=ho enc w base sp held fuel _ _ h;have:Value.slice A n c=u:=by simpa [Value.cells] using hu
 exact ⟨xs,this▸hsl⟩
end
end Go.Proofs.YtgdmkpikkfakdaaGreatDoor
