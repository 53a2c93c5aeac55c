/- The law ModelAsks. -/
import Derived.Test.YtgdmkpikkfakdaaGreatDoorBunModel6
namespace Go.Proofs.YtgdmkpikkfakdaaGreatDoor
open Go.RowKit
set_option maxRecDepth 100000
set_option linter.unusedVariables false
set_option linter.unusedSimpArgs false
set_option linter.unusedSectionVars false
section
attribute [local irreducible] zA AO zt zo ADr AL AW zF zh zU Tells APure ACall
def qOp (k i old:Int):MOp:=⟨9+(k % 2^16) % 7,i,ZF,[],[],old⟩
theorem zd2 (k i old:Int):9≤(qOp k i old).what∧(qOp k i old).what≤15:=by
 unfold qOp;simp only;omega
theorem kH (k i old:Int):APure Tryz.prog 24 [int k,int i,int old] (opA (qOp k i old)) []:=by
 refine ent Tryz.func24 Tryz.ntmps24 ⟨?_⟩;have mk:=kR k 16 (by decide);rw [show ((2:Int)^16 - 1)=65535 from rfl] at mk;have e2:(k % 2^16).tmod 7=(k % 2^16) % 7:=Int.tmod_eq_emod_of_nonneg (by omega)
 have e3:IntKind.i64.wrap (9+(k % 2^16) % 7)=9+(k % 2^16) % 7:=by simp only [IntKind.wrap_i64];omega
 unfold qOp;refine go ⟨?_⟩;simp only [mk,e2,e3];exact fin
theorem kM:ze Tryz.prog 24:=gfn Tryz.func24
set_option maxHeartbeats 1000000 in
theorem masks_law (l:List MOp) (k i0 old:Int) (hl:zb3 l):APure Tryz.prog 8 [ops l,int k,int i0,int old] (.lit (.bool true)) []:=by
 refine ent Tryz.func8 Tryz.ntmps8 ⟨?_⟩;refine gcg QY QV ⟨?_⟩;refine cal V8 (VY l hl) ⟨?_⟩;cases h1:J7 l
 ·exact gf
 obtain ⟨hk,h40⟩:=V' h1;have hqin:=zd2 k i0 old;have hqk:(qOp k i0 old).keys.length≤1000000:=Nat.zero_le _
 have hml:=qI l Zu;have hal:=Ux l Zu;refine gc kM (kH k i0 old) ⟨?_⟩;generalize qOp k i0 old=q at*;refine gcg zaI (zif l hk (by omega)) ⟨?_⟩;refine lp (fun i:{i:Nat // i≤l.length}=>[(13,int i.1),(14, .junk),(15, .junk),(16, .junk),(17, .junk),(18, .junk),(19, .junk)]) (fun i=>[yD q,Wh (zw Zu (l.take i.1))]) (fun i=>l.length - i.1) ⟨0,by simp⟩ ?_
 rintro ⟨i,hi⟩
 have hsn:=xS (l.take i) Zu WD;have hok:=Zj hsn;refine go ⟨?_⟩;refine zj rfl (fun h=> ?_) (fun h=> ?_)
 ·have hlt:i<l.length:=by omega
  have hz:l.getD i eOp.z=l[i]:=by show l.getD i Kk=_;simp [List.getD_eq_getElem?_getD,hlt]
  have ef:fE eOp l i=opC l[i]:=congrArg opC hz
  have hc:=Jj (zw Zu (l.take i)) l[i] hok.1 (hk _ (List.getElem_mem hlt));have hs:zw Zu (l.take (i+1))=(mDo (zw Zu (l.take i)) l[i]).1:=by rw [List.take_succ_eq_append_getElem hlt,Wi]
  have hun:=YQ (zw Zu (l.take i)) l[i]
  have ha:(wB Zu l).getD i (zu 0)=(mDo (zw Zu (l.take i)) l[i]).2:=by
   have h2:=QB (l.take i) (l.drop i) Zu;rw [List.take_append_drop,List.drop_eq_getElem_cons hlt,wB] at h2;rw [h2,List.getD_eq_getElem?_getD,List.getElem?_append_right (by rw [qI,List.length_take];omega),qI,List.length_take,Nat.min_eq_left (by omega),Nat.sub_self];rfl
  have hbl:=qt (zw Zu (l.take i)) l[i];generalize zw Zu (l.take i)=s at*;generalize l[i]=o at*;generalize mDo s o=p at*;obtain ⟨u,b⟩:=p;simp only at hc hs hun ha hbl;have eb:fE zfV (wB Zu l) i=zfU b:=congrArg zfU ha
  have huk:=Zj hun;have hq1:=Jj u q huk.1 hqk;have hq2:=G4 u q hqin;have hcl:=qt u q;rw [Xw hun] at hq2;generalize wB Zu l=A at*;generalize mDo u q=p2 at*;obtain ⟨u2,c⟩:=p2;simp only at hq1 hq2 hcl;subst hq2;refine go ⟨?_⟩;rw [ef];refine gcg Xx hc ⟨?_⟩;refine cg Xx hq1 ⟨?_⟩;refine cg Xx hq1 ⟨?_⟩;rw [decide_eq_false (show ¬((i:Int)≥(A.length:Int)) by omega)];refine go ⟨?_⟩;rw [eb];refine gcg wD (XK b hbl) ⟨?_⟩;refine cg wD (XK c hcl) ⟨?_⟩;refine je ⟨⟨i+1,hlt⟩,by simp only;omega, ?_⟩;simp only [hs];refine (Tells.sel [0,1] rfl rfl).trans ?_;refine mc14 ⟨?_⟩;exact tel
 ·obtain rfl:i=l.length:=by omega
  rw [List.take_length] at*;have hb:=ux l hk (by omega);generalize zw Zu l=s at*;refine gcg Vq hb ⟨?_⟩;exact cgf qG (XJ s hsn)
end
end Go.Proofs.YtgdmkpikkfakdaaGreatDoor
