/- Arguments: octets and numbers, opened. Arguments: leaves, nodes, rows of them, states and operations, opened; the three tables. -/
import Derived.Test.YtgdmkpikkfakdaaGreatDoorRows
import Derived.Lib.LaidTab
import Derived.Stop.LaidErr
import Derived.OpenShut
import Derived.Test.YtgdmkpikkfakdaaGreatDoorBunModel5
namespace Go.Proofs.YtgdmkpikkfakdaaGreatDoor
open Go.RowKit
set_option maxRecDepth 100000
set_option linter.unusedVariables false
set_option linter.unusedSimpArgs false
set_option linter.unusedSectionVars false
section
theorem xz:X6 Tryz.prog 26 qh:=qE _ (hT 26 _ rfl).und (by kernel_rfl) (zeY (hT 5 _ rfl).und)
theorem Gw:X6 Tryz.prog 36 zih:=qE _ (hT 36 _ rfl).und (by kernel_rfl) (XC (hT 3 _ rfl).und)
theorem WP {O:Nat→Prop} {w:World} {μ:Mu} {v:Value} {b:List UInt8} (h:Sl kU8 w O v b):RV O w μ (bytes b) v:=
 U2 (d:=kU8) (enc:=eU8) 0 (fun x cs (hx:cs=_)=>by subst hx;exact .cons (.lit _) .nil) (fun _=>rfl) (by decide) h
theorem zgI {O:Nat→Prop} {w:World} {μ:Mu} {v:Value} {b:List Int} (h:Sl K6 w O v b):RV O w μ (Zn b) v:=
 U2 (d:=K6) (enc:=gH) 0 (fun x cs (hx:cs=_)=>by subst hx;exact .cons (.lit _) .nil) (fun _=>rfl) (by decide) h
theorem arg_agg {H:Type} {enc:TypeId×Value→H} {P:Program} {w:World} {base:Nat} {sp:Nat→Bool} {held:Bool} {t:TypeId} {fs:Array Field} {v:Value} {dd:DataW H} {ps:List MemPlace} {α:Type} {d:Kd α} (hu:P.underlying t=some (.struct fs)) (ho:X6 P t d)
 {r:Reach} {b0:Nat} (hv:Value.okWide P w r b0 t v) (h:DataW.Trod enc P w base sp held t v dd ps): ∃x cs,v= .agg cs∧d.rel w (fun _=>False) x cs.toList:=by
 simp only [Value.okWide,hu] at hv;obtain ⟨cs,rfl,_,_⟩:=hv;obtain ⟨fuel,h⟩:=h;obtain ⟨x,hx⟩:=ho enc w base sp held fuel _ _ h;exact ⟨x,cs,rfl,by simpa [Value.cells] using hx⟩
theorem andt {a b:Bool} (h:a=true) (g:b=true):(a && b)=true:=by rw [h,g];rfl
abbrev GY:Kd zM:=(qh.prod (qh.prod (K6.prod qh))).iso fun l=>(l.enc,l.cred,l.source,l.parent)
theorem Kh:X6 Tryz.prog 28 GY:=by
 intro H enc w base sp held fuel cs x h;obtain ⟨xs,n,_,_,hl,hxs,hf⟩:=DataW.trod_struct Tryz.underlying28 h;have hl:cs.length=4:=hl
 have hxs:xs.length=4:=hxs
 match cs,hl with
 |[c0,c1,c2,c3],_=>
  match xs,hxs with
  |[x0,x1,x2,x3],_=>
   obtain ⟨y0,r0⟩:=xz enc w base sp held n [c0] x0 (hf 0 _ rfl);obtain ⟨y1,r1⟩:=xz enc w base sp held n [c1] x1 (hf 1 _ rfl);obtain ⟨y2,r2⟩:=XC (hT 3 _ rfl).und enc w base sp held n [c2] x2 (hf 2 _ rfl);obtain ⟨y3,r3⟩:=xz enc w base sp held n [c3] x3 (hf 3 _ rfl);exact ⟨⟨y0,y1,y2,y3⟩,[c0],[c1,c2,c3],rfl,r0,[c1],[c2,c3],rfl,r1,[c2],[c3],rfl,r2,r3⟩
theorem tI {O:Nat→Prop} {w:World} {μ:Mu} {l:zM} {cs:List Value} (h:GY.rel w O l cs):RVs O w μ (lfC l) cs:=by
 obtain ⟨_,_,rfl,⟨v0,rfl,h0⟩,_,_,rfl,⟨v1,rfl,h1⟩,_,_,rfl,h2,⟨v3,rfl,h3⟩⟩:=h;have h2:_=[Value.int .i64 l.source]:=h2
 subst h2;exact .cons (WP h0) (.cons (WP h1) (.cons (.lit _) (.cons (WP h3) .nil)))
abbrev gL:Kd YS:=(qh.prod (qh.prod zih)).iso fun n=>(n.enc,n.hash,n.unm)
theorem tM:X6 Tryz.prog 83 gL:=by
 intro H enc w base sp held fuel cs x h;obtain ⟨xs,n,_,_,hl,hxs,hf⟩:=DataW.trod_struct Tryz.underlying83 h;have hl:cs.length=3:=hl
 have hxs:xs.length=3:=hxs
 match cs,hl with
 |[c0,c1,c2],_=>
  match xs,hxs with
  |[x0,x1,x2],_=>
   obtain ⟨y0,r0⟩:=xz enc w base sp held n [c0] x0 (hf 0 _ rfl);obtain ⟨y1,r1⟩:=xz enc w base sp held n [c1] x1 (hf 1 _ rfl);obtain ⟨y2,r2⟩:=Gw enc w base sp held n [c2] x2 (hf 2 _ rfl);exact ⟨⟨y0,y1,y2⟩,[c0],[c1,c2],rfl,r0,[c1],[c2],rfl,r1,r2⟩
theorem zb8 {O:Nat→Prop} {w:World} {μ:Mu} {n:YS} {cs:List Value} (h:gL.rel w O n cs):RVs O w μ [bytes n.enc,bytes n.hash,Zn n.unm] cs:=by
 obtain ⟨_,_,rfl,⟨v0,rfl,h0⟩,_,_,rfl,⟨v1,rfl,h1⟩,⟨v2,rfl,h2⟩⟩:=h;exact .cons (WP h0) (.cons (WP h1) (.cons (zgI h2) .nil))
abbrev TL:Kd Zt:=(K6.prod (GY.prod gL)).iso fun n=>(n.kind,n.leaf,n.inner)
theorem GI:X6 Tryz.prog 85 TL:=by
 intro H enc w base sp held fuel cs x h;obtain ⟨xs,n,_,_,hl,hxs,hf⟩:=DataW.trod_struct Tryz.underlying85 h;have hl:cs.length=8:=hl
 have hxs:xs.length=3:=hxs
 match cs,hl with
 |[c0,c1,c2,c3,c4,c5,c6,c7],_=>
  match xs,hxs with
  |[x0,x1,x2],_=>
   obtain ⟨y0,r0⟩:=XC (hT 3 _ rfl).und enc w base sp held n [c0] x0 (hf 0 _ rfl);obtain ⟨y1,r1⟩:=Kh enc w base sp held n [c1,c2,c3,c4] x1 (hf 1 _ rfl);obtain ⟨y2,r2⟩:=tM enc w base sp held n [c5,c6,c7] x2 (hf 2 _ rfl);exact ⟨⟨y0,y1,y2⟩,[c0],[c1,c2,c3,c4,c5,c6,c7],rfl,r0,[c1,c2,c3,c4],[c5,c6,c7],rfl,r1,r2⟩
theorem zeL {O:Nat→Prop} {w:World} {μ:Mu} {n:Zt} {cs:List Value} (h:TL.rel w O n cs):RVs O w μ (Zb n) cs:=by
 obtain ⟨_,_,rfl,h0,_,_,rfl,h1,h2⟩:=h;have h0:_=[Value.int .i64 n.kind]:=h0
 subst h0;exact .cons (.lit _) ((tI h1).append (zb8 h2))
abbrev zit:Kd zc:=TL.sl (by decide)
theorem pm:X6 Tryz.prog 22 zit:=qE _ (hT 22 _ rfl).und (by kernel_rfl) GI
theorem zfF {O:Nat→Prop} {w:World} {μ:Mu} {v:Value} {t:zc} (h:Sl TL w O v t):RV O w μ (zg t) v:=
 U2 (d:=TL) (enc:=Zb) za (fun x cs hx=>zeL hx) (fun _=>rfl) (by decide) h
abbrev Uc:Kd YW:=(K6.prod zit).iso fun k=>(k.id,k.t)
theorem GC:X6 Tryz.prog 56 Uc:=by
 intro H enc w base sp held fuel cs x h;obtain ⟨xs,n,_,_,hl,hxs,hf⟩:=DataW.trod_struct Tryz.underlying56 h;have hl:cs.length=2:=hl
 have hxs:xs.length=2:=hxs
 match cs,hl with
 |[c0,c1],_=>
  match xs,hxs with
  |[x0,x1],_=>
   obtain ⟨y0,r0⟩:=XC (hT 3 _ rfl).und enc w base sp held n [c0] x0 (hf 0 _ rfl);obtain ⟨y1,r1⟩:=pm enc w base sp held n [c1] x1 (hf 1 _ rfl);exact ⟨⟨y0,y1⟩,[c0],[c1],rfl,r0,r1⟩
theorem zcZ {O:Nat→Prop} {w:World} {μ:Mu} {k:YW} {cs:List Value} (h:Uc.rel w O k cs):RVs O w μ (Xb k) cs:=by
 obtain ⟨_,_,rfl,h0,⟨v1,rfl,h1⟩⟩:=h;have h0:_=[Value.int .i64 k.id]:=h0
 subst h0;exact .cons (.lit _) (.cons (zfF h1) .nil)
theorem TH:X6 Tryz.prog 23 (Uc.sl (by decide)):=qE _ (hT 23 _ rfl).und (by kernel_rfl) GC
theorem zfj {O:Nat→Prop} {w:World} {μ:Mu} {v:Value} {l:List YW} (h:Sl Uc w O v l):RV O w μ (jX l) v:=
 U2 (d:=Uc) (enc:=Xb) ⟨0,[]⟩ (fun x cs hx=>zcZ hx) (fun _=>rfl) (by decide) h
abbrev kSt:Kd MSt:=(zit.prod ((Uc.sl (by decide)).prod K6)).iso fun s=>(s.t,s.kept,s.next)
theorem opens_st:X6 Tryz.prog 25 kSt:=by
 intro H enc w base sp held fuel cs x h;obtain ⟨xs,n,_,_,hl,hxs,hf⟩:=DataW.trod_struct Tryz.underlying25 h;have hl:cs.length=3:=hl
 have hxs:xs.length=3:=hxs
 match cs,hl with
 |[c0,c1,c2],_=>
  match xs,hxs with
  |[x0,x1,x2],_=>
   obtain ⟨y0,r0⟩:=pm enc w base sp held n [c0] x0 (hf 0 _ rfl);obtain ⟨y1,r1⟩:=TH enc w base sp held n [c1] x1 (hf 1 _ rfl);obtain ⟨y2,r2⟩:=XC (hT 3 _ rfl).und enc w base sp held n [c2] x2 (hf 2 _ rfl);exact ⟨⟨y0,y1,y2⟩,[c0],[c1,c2],rfl,r0,[c1],[c2],rfl,r1,r2⟩
theorem rv_st {O:Nat→Prop} {w:World} {μ:Mu} {s:MSt} {cs:Array Value} (h:kSt.rel w O s cs.toList):RV O w μ (stA s) (.agg cs):=by
 obtain ⟨_,_,e,⟨v0,rfl,h0⟩,_,_,rfl,⟨v1,rfl,h1⟩,h2⟩:=h;have h2:_=[Value.int .i64 s.next]:=h2
 subst h2;have ec:cs=cs.toList.toArray:=by simp
 rw [ec,e];have hr:RVs O w μ (stC s) ([v0]++([v1]++[.int .i64 s.next])):= .cons (zfF h0) (.cons (zfj h1) (.cons (.lit _) .nil))
 exact .agg hr.1 hr.2
abbrev zij:Kd (List (List UInt8)):=qh.sl (by decide)
theorem GU:X6 Tryz.prog 29 zij:=qE _ (hT 29 _ rfl).und (by kernel_rfl) xz
theorem zhN {O:Nat→Prop} {w:World} {μ:Mu} {v:Value} {l:List (List UInt8)} (h:Sl qh w O v l):RV O w μ (slE eBB l) v:=
 U2 (d:=qh) (enc:=fun x=>[bytes x]) [] (fun x cs hx=>(let ⟨v,e,h⟩:=hx;by subst e;exact .cons (WP h) .nil)) (fun _=>rfl) (by decide) h
abbrev kOp:Kd MOp:=(K6.prod (K6.prod (GY.prod (zij.prod (qh.prod K6))))).iso fun o=>(o.what,o.i,o.l,o.keys,o.b,o.old)
theorem opens_op:X6 Tryz.prog 31 kOp:=by
 intro H enc w base sp held fuel cs x h;obtain ⟨xs,n,_,_,hl,hxs,hf⟩:=DataW.trod_struct Tryz.underlying31 h;have hl:cs.length=9:=hl
 have hxs:xs.length=6:=hxs
 match cs,hl with
 |[c0,c1,c2,c3,c4,c5,c6,c7,c8],_=>
  match xs,hxs with
  |[x0,x1,x2,x3,x4,x5],_=>
   obtain ⟨y0,r0⟩:=XC (hT 3 _ rfl).und enc w base sp held n [c0] x0 (hf 0 _ rfl);obtain ⟨y1,r1⟩:=XC (hT 3 _ rfl).und enc w base sp held n [c1] x1 (hf 1 _ rfl);obtain ⟨y2,r2⟩:=Kh enc w base sp held n [c2,c3,c4,c5] x2 (hf 2 _ rfl);obtain ⟨y3,r3⟩:=GU enc w base sp held n [c6] x3 (hf 3 _ rfl);obtain ⟨y4,r4⟩:=xz enc w base sp held n [c7] x4 (hf 4 _ rfl);obtain ⟨y5,r5⟩:=XC (hT 3 _ rfl).und enc w base sp held n [c8] x5 (hf 5 _ rfl);exact ⟨⟨y0,y1,y2,y3,y4,y5⟩,[c0],[c1,c2,c3,c4,c5,c6,c7,c8],rfl,r0,[c1],[c2,c3,c4,c5,c6,c7,c8],rfl,r1,[c2,c3,c4,c5],[c6,c7,c8],rfl,r2,[c6],[c7,c8],rfl,r3,[c7],[c8],rfl,r4,r5⟩
theorem zcO {O:Nat→Prop} {w:World} {μ:Mu} {o:MOp} {cs:List Value} (h:kOp.rel w O o cs):RVs O w μ (opC o) cs:=by
 obtain ⟨_,_,rfl,h0,_,_,rfl,h1,_,_,rfl,h2,_,_,rfl,⟨v3,rfl,h3⟩,_,_,rfl,⟨v4,rfl,h4⟩,h5⟩:=h;have h0:_=[Value.int .i64 o.what]:=h0
 have h1:_=[Value.int .i64 o.i]:=h1
 have h5:_=[Value.int .i64 o.old]:=h5
 subst h0 h1 h5;exact .cons (.lit _) (.cons (.lit _) ((tI h2).append (.cons (zhN h3) (.cons (WP h4) (.cons (.lit _) .nil)))))
theorem rv_op {O:Nat→Prop} {w:World} {μ:Mu} {o:MOp} {cs:Array Value} (h:kOp.rel w O o cs.toList):RV O w μ (opA o) (.agg cs):=by
 have:=zcO (μ:=μ) h
 have e:cs=cs.toList.toArray:=by simp
 rw [e];exact .agg this.1 this.2
theorem opens_ops:X6 Tryz.prog 44 (kOp.sl (by decide)):=qE _ (hT 44 _ rfl).und (by kernel_rfl) opens_op
theorem rv_ops {O:Nat→Prop} {w:World} {μ:Mu} {v:Value} {l:List MOp} (h:Sl kOp w O v l):RV O w μ (ops l) v:=
 U2 (d:=kOp) (enc:=opC) Kk (fun x cs hx=>zcO hx) (fun _=>rfl) (by decide) h
theorem zeN {α:Type} {d:Kd α} {w:World} {O:Nat→Prop} {v:Value} {xs:List α} (h:Sl d w O v xs): ∀x∈xs,∃c,d.rel w O x c:=by
 intro x hx;obtain ⟨A,c,rfl,h1,h2,h3⟩:=h;obtain ⟨a,cs,rfl,h4,h5,h6⟩:=h3 (fun e=>by rw [e] at hx;cases hx);obtain ⟨k,hk⟩:=List.getElem?_of_mem hx;obtain ⟨c',e1,_⟩:=(Ph h5).2 k x hk;exact ⟨c',e1⟩
theorem KA {α:Type} {d:Kd α} {w:World} {O:Nat→Prop} {v:Value} {xs:List α} (h:Sl d w O v xs):xs.length≤9223372036854775807:=h.len_
theorem fok_of {w:World} {O:Nat→Prop} {s:MSt} {cs:List Value} (h:kSt.rel w O s cs):FOk s:=by
 obtain ⟨_,_,_,⟨v0,_,h0⟩,_,_,_,⟨v1,_,h1⟩,_⟩:=h;refine ⟨KA h0,KA h1,fun k hk=> ?_⟩;obtain ⟨c,_,_,_,_,⟨v2,_,h2⟩⟩:=zeN h1 k hk;exact KA h2
theorem keys_of {w:World} {O:Nat→Prop} {o:MOp} {cs:List Value} (h:kOp.rel w O o cs):o.keys.length≤9223372036854775807:=by
 obtain ⟨_,_,_,_,_,_,_,_,_,_,_,_,_,_,_,⟨v3,_,h3⟩,_⟩:=h;exact KA h3
theorem olen_of {w:World} {O:Nat→Prop} {v:Value} {l:List MOp} (h:Sl kOp w O v l):zb3 l:=by
 refine ⟨KA h,fun o ho=> ?_⟩;obtain ⟨c,hc⟩:=zeN h o ho;exact keys_of hc
theorem zkQ : Tryz.prog.globalNamed "cordwood/block.numbers" = some 2 := by kernel_rfl
theorem zdH:(Tryz.prog.globals[2]?).map (·.type)=some 244:=by kernel_rfl
theorem zfw : Tryz.prog.globalNamed "math/bits.deBruijn64tab" = some 1 := by kernel_rfl
theorem Gy:(Tryz.prog.globals[1]?).map (·.type)=some 234:=by kernel_rfl
theorem zbn:Tryz.prog.cellsOf 244=64:=by kernel_rfl
theorem zbM:Tryz.prog.cellsOf 234=64:=by kernel_rfl
theorem zbR:Tryz.prog.cellsOf 201=1:=by kernel_rfl
theorem zdw:Tryz.prog.cellsOf 5=1:=by kernel_rfl
theorem zh1:(Rows.laid_cordwood_block_numbers:DataW Unit)=Lib.tabData .u32 (nums.map fun x=>wv x):=by kernel_rfl
theorem zcj:(Rows.laid_math_bits_deBruijn64tab:DataW Unit)=Lib.tabData .u8 (Lib.deBruijn64tab.map fun x:Nat=>(x:Int)):=by kernel_rfl
theorem glob_laid {W : World} (h : laidMetH Tryz.prog [("math/bits.deBruijn32tab", Rows.laid_math_bits_deBruijn32tab), ("math/bits.deBruijn64tab", Rows.laid_math_bits_deBruijn64tab), ("cordwood/block.numbers", Rows.laid_cordwood_block_numbers)] W) : GlobOk (fun _ => False) noMu W := by
 have h0 : laidMet Tryz.prog [("math/bits.deBruijn32tab", Rows.laid_math_bits_deBruijn32tab), ("math/bits.deBruijn64tab", Rows.laid_math_bits_deBruijn64tab), ("cordwood/block.numbers", Rows.laid_cordwood_block_numbers)] W := h
 have h1 := h0.tail;have h2 := h1.tail;rw [zh1] at h2;rw [zcj] at h1;have t64 : Lib.TabIs Tryz.prog W "math/bits.deBruijn64tab" .u8 (Lib.deBruijn64tab.map fun x : Nat => (x : Int)) := Lib.tabIs_of_head zfw Gy (hT 234 _ rfl).und (hT 5 _ rfl).und zdw zbM h1
 have tB : Lib.TabIs Tryz.prog W "cordwood/block.numbers" .u32 (nums.map fun x => wv x) := Lib.tabIs_of_head zkQ zdH qV Pl zbR zbn h2
 have cell: ∀{α:Type} (l:List α) (f:α→Int) (k:IntKind) (nm:String) (g:Nat),Tryz.prog.globalNamed nm=some g→Lib.TabIs Tryz.prog W nm k (l.map f)→ ∀j u,(l.map fun x=>Value.int k (f x))[j]?=some u→W.cell? ⟨g,j,none⟩=some u:=by
  intro α l f k nm g hg ht j u hu;simp only [List.getElem?_map,Option.map_eq_some_iff] at hu;obtain ⟨x,hx,rfl⟩:=hu;have hj:=(List.getElem?_eq_some_iff.1 hx).1
  rw [ht.cell hg j (by rw [List.length_map];exact hj)];simp [List.getD_eq_getElem?_getD,hx]
 intro g cs hg
 have hcs:(g,cs)=(2,nums.map fun x=> .int .u32 (wv x))∨(g,cs)=(1,Lib.deBruijn64tab.map fun x:Nat=> .int .u8 (x:Int)):=by
  unfold zaD at hg;rcases List.mem_cons.1 hg with h|h
  ·exact .inl h
  ·exact .inr (List.mem_singleton.1 h)
 rcases hcs with hcs|hcs
 ·obtain ⟨rfl,rfl⟩:=Prod.mk.inj hcs;have hc:=cell nums (fun x=>wv x) .u32 _ _ zkQ tB;exact ⟨World.block_lt_of_cell? W _ (hc 0 _ rfl),fun h=>h,fun i m h=>(by cases h),hc⟩
 ·obtain ⟨rfl,rfl⟩:=Prod.mk.inj hcs;have hc:=cell Lib.deBruijn64tab (fun x:Nat=>(x:Int)) .u8 _ _ zfw t64;exact ⟨World.block_lt_of_cell? W _ (hc 0 _ rfl),fun h=>h,fun i m h=>(by cases h),hc⟩
end
end Go.Proofs.YtgdmkpikkfakdaaGreatDoor
