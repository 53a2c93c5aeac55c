/- The law ModelKept. -/
import Derived.Test.YtgdmkpikkfakdaaGreatDoorBunModel6
namespace Go.Proofs.YtgdmkpikkfakdaaGreatDoor
open Go.RowKit
set_option maxRecDepth 100000
set_option linter.unusedVariables false
set_option linter.unusedSimpArgs false
set_option linter.unusedSectionVars false
section
attribute [local irreducible] zA AO zt zo ADr AL AW zF zh zU Tells APure ACall
theorem tQ {s:MSt} (h:Zd s=true):0≤s.next:=by
 obtain ⟨last,g1,g2,g3,g4,g5⟩:=(Yb s).1 h;have:=Wx _ _ _ g1
 omega
theorem zaZ {s:MSt} (h:Zd s=true) {i:Nat} (hi:i<s.kept.length):(s.kept.getD i ⟨0,[]⟩).id≤s.next:=by
 obtain ⟨last,g1,g2,g3,g4,g5⟩:=(Yb s).1 h;have:=((Xy _ _ _ g1).1 _ (List.getElem_mem hi)).2.2
 rw [show s.kept.getD i ⟨0,[]⟩=s.kept[i] by simp [List.getD_eq_getElem?_getD,hi]];omega
theorem zjE (s:MSt) (hs:s.kept.length≤1000000) (id:Int) (hn: ∀k∈s.kept,k.id≠id):APure Tryz.prog 26 [stA s,int id] (.lit (.bool false)) []:=by
 refine ent Tryz.func26 Tryz.ntmps26 ⟨?_⟩;obtain ⟨t,l,nx⟩:=s;simp only at hs hn ⊢;refine go ⟨?_⟩;refine lp (fun i:{i:Nat // i≤l.length}=>[(5,int i.1)]) (fun i=>[Wh ⟨t,l,nx⟩]) (fun i=>l.length - i.1) ⟨0,by simp⟩ ?_
 rintro ⟨i,hi⟩
 refine go ⟨?_⟩;refine zj rfl (fun h=> ?_) (fun h=> ?_)
 ·have hlt:i<l.length:=by omega
  have hx:l.getD i ⟨0,[]⟩=l[i]:=by simp [List.getD_eq_getElem?_getD,hlt]
  have hin:=hn _ (List.getElem_mem hlt);rw [←hx] at hin;have ea:fE ZH l i=Xb (l.getD i ⟨0,[]⟩):=rfl
  have hz:l.getD i ZH.z=l.getD i ⟨0,[]⟩:=rfl
  generalize l.getD i ⟨0,[]⟩=x at*;refine go ⟨?_⟩;rw [ea];refine go ⟨?_⟩;try rw [hz]
  rw [beq_eq_false_iff_ne.2 hin];refine ms19 ⟨?_⟩;exact tel
 ·exact gf
theorem zjr:ze Tryz.prog 26:=gfn Tryz.func26
theorem ms14 {G A:Prop} (k:Hold G) (h:Hold G→A:=by
 intro k;rw [bne_eq_false_iff_eq.2 hN];refine go ⟨?_⟩;refine je ⟨⟨i+1,hlt⟩,by simp only;omega, ?_⟩;simp only [hs];refine (Tells.sel [0] rfl rfl).trans ?_;refine mc14 ⟨?_⟩;exact k.1):A:=h k
set_option maxHeartbeats 1000000 in
theorem mkept_law (l:List MOp) (hl:zb3 l):APure Tryz.prog 7 [ops l] (.lit (.bool true)) []:=by
 refine ent Tryz.func7 Tryz.ntmps7 ⟨?_⟩;refine gcg QY QV ⟨?_⟩;refine cal V8 (VY l hl) ⟨?_⟩;cases h1:J7 l
 ·exact gf
 obtain ⟨hk,h40⟩:=V' h1;refine go ⟨?_⟩;refine lp (fun i:{i:Nat // i≤l.length}=>[(5,int (zw Zu (l.take i.1)).next),(6,int i.1),(7, .junk),(8, .junk)]) (fun i=>[Wh (zw Zu (l.take i.1))]) (fun i=>l.length - i.1) ⟨0,by simp⟩ ?_
 rintro ⟨i,hi⟩
 have hsn:=xS (l.take i) Zu WD;have hok:=Zj hsn;have hnn:=tQ hsn;have hkl:= @zaZ _ hsn
 have hnb:=va (l.take i) Zu WD;rw [List.length_take,Nat.min_eq_left hi] at hnb;simp only at hnb ⊢;refine go ⟨?_⟩;refine zj rfl (fun h=> ?_) (fun h=> ?_)
 ·have hlt:i<l.length:=by omega
  have hz:l.getD i eOp.z=l[i]:=by show l.getD i Kk=_;simp [List.getD_eq_getElem?_getD,hlt]
  have ef:fE eOp l i=opC l[i]:=congrArg opC hz
  have hc:=Jj (zw Zu (l.take i)) l[i] hok.1 (hk _ (List.getElem_mem hlt));have hs:zw Zu (l.take (i+1))=(mDo (zw Zu (l.take i)) l[i]).1:=by rw [List.take_succ_eq_append_getElem hlt,Wi]
  have hnx:=Tp hsn l[i];have hun:=YQ (zw Zu (l.take i)) l[i]
  have hsnap:l[i].what=5→(mDo (zw Zu (l.take i)) l[i]).2.e=0→(mDo (zw Zu (l.take i)) l[i]).2.n=(zw Zu (l.take i)).next+1:=fun h5 he=>by
   rw [zfB _ _ h5,Xw hsn] at he ⊢;rw [p7 he]
  have hforg:=gK hsn l[i];generalize zw Zu (l.take i)=s at*;generalize l[i]=o at*;generalize mDo s o=p at*;obtain ⟨u,a⟩:=p;simp only at hc hs hnx hun hsnap hforg;have huk:=Zj hun;have e1:IntKind.i64.wrap (s.next+1)=s.next+1:=by simp only [IntKind.wrap_i64];omega
  refine go ⟨?_⟩;rw [ef];refine gcg Xx hc ⟨?_⟩;rw [ef];refine go ⟨?_⟩;by_cases h5:o.what=5
  ·rw [beq_iff_eq.2 h5];refine go ⟨?_⟩;by_cases he:a.e=0
   ·rw [beq_iff_eq.2 he];have hN:u.next=s.next+1:=by rw [hnx,if_pos ⟨h5,he⟩]
    refine go ⟨?_⟩;rw [e1];refine go ⟨?_⟩;rw [bne_eq_false_iff_eq.2 (hsnap h5 he)];refine ms18 ⟨?_⟩;rw [beq_eq_false_iff_ne.2 (show o.what≠7 by omega)];refine go ⟨?_⟩;refine ms14 ⟨?_⟩;exact tel
   ·have hN:u.next=s.next:=by rw [hnx,if_neg (fun h=>he h.2)]
    rw [beq_eq_false_iff_ne.2 he];refine ms18 ⟨?_⟩;rw [beq_eq_false_iff_ne.2 (show o.what≠7 by omega)];refine go ⟨?_⟩;refine ms14 ⟨?_⟩;exact tel
  ·have hN:u.next=s.next:=by rw [hnx,if_neg (fun h=>h5 h.1)]
   rw [beq_eq_false_iff_ne.2 h5];refine ms18 ⟨?_⟩;by_cases h7:o.what=7
   ·rw [beq_iff_eq.2 h7];refine go ⟨?_⟩;by_cases he:a.e=0
    ·rw [beq_iff_eq.2 he];obtain ⟨hf1,hf2⟩:=hforg h7 he;have e3:((u.kept.length:Int) !=IntKind.i64.wrap ((s.kept.length:Int) - 1))=false:=bne_eq_false_iff_eq.2 (by simp only [IntKind.wrap_i64];omega)
     refine go ⟨?_⟩;rw [e3];refine go ⟨?_⟩;rw [ef];refine gcg zjr (zjE u (by omega) o.i hf2) ⟨?_⟩;refine ms14 ⟨?_⟩;exact tel
    ·rw [beq_eq_false_iff_ne.2 he];refine go ⟨?_⟩;refine ms14 ⟨?_⟩;exact tel
   ·rw [beq_eq_false_iff_ne.2 h7];refine go ⟨?_⟩;refine ms14 ⟨?_⟩;exact tel
 ·obtain rfl:i=l.length:=by omega
  rw [List.take_length] at*;generalize zw Zu l=s at*;refine go ⟨?_⟩;by_cases h0:s.kept.length=0
  ·rw [beq_iff_eq.2 (show (s.kept.length:Int)=0 by omega)];exact gf
  ·have e4:IntKind.i64.wrap ((s.kept.length:Int) - 1)=((s.kept.length - 1:Nat):Int):=by simp only [IntKind.wrap_i64];omega
   have hlast:=hkl (i:=s.kept.length - 1) (by omega);have hj:s.kept.length - 1<s.kept.length:=by omega
   generalize s.kept.length - 1=j at*;rw [beq_eq_false_iff_ne.2 (show (s.kept.length:Int)≠0 by omega)];refine go ⟨?_⟩;rw [e4];refine go ⟨?_⟩;rw [show fE ZH s.kept j=Xb (s.kept.getD j ⟨0,[]⟩) from rfl];refine go ⟨?_⟩;try rw [show s.kept.getD j ZH.z=s.kept.getD j ⟨0,[]⟩ from rfl]
   rw [decide_eq_true hlast];exact gf
end
end Go.Proofs.YtgdmkpikkfakdaaGreatDoor
