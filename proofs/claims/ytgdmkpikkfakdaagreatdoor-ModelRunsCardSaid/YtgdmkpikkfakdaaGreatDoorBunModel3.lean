/- Layer 1 (varint), walked: Size, Put, Get. Layer 1 (varint), walked: Get. Layer 2 (wire), walked: numbers and octets. Layer 7 (leaf), walked: what is wrong with a leaf. The document's answer for layers 1 and 2, walked. Layer 7 (leaf), walked: what is put; the document's answers. Layer 7 (leaf), walked: what is got. Arrays in memory: a block known whole, and what the walk does with it. What a call is shown to tell, of slices. Layer 3: the types of the arrays. Layer 3, walked: block.First, block.Spread. Layer 3, walked: block.Mix. Layer 3, walked: the document's answer: turned, moved, Spread. Lay -/
import Derived.Laws.Rows
import Derived.Laws.Tables
import Derived.Great.Walk
import Derived.Test.YtgdmkpikkfakdaaGreatDoorRows
import Derived.WalkKit
import Derived.ProofKit
import Derived.BigQuiet
import Derived.Deep.RegionHeld3
import Derived.StillTailTactics
import Derived.Deep.WholeRow
import Derived.MapKept
import Derived.Laws.IdiomRangeMap
import Derived.Test.YtgdmkpikkfakdaaGreatDoorBunModel2
namespace Go.Proofs.YtgdmkpikkfakdaaGreatDoor
open Go.RowKit
set_option maxRecDepth 100000
set_option linter.unusedVariables false
set_option linter.unusedSimpArgs false
set_option linter.unusedSectionVars false
section
attribute [local irreducible] zt zo ADr AL AW zF zh zU Tells APure ACall
theorem zd' (n:Int):APure Tryz.prog 243 [int n] (int (YY n)) []:=by
 refine ent Tryz.func243 Tryz.ntmps243 ⟨?_⟩;by_cases h0:n<0
 ·skip
  repeat (first|with_reducible refine XP ?_|with_reducible refine yL ?_|with_reducible refine XZ ?_|with_reducible refine xm ?_|with_reducible refine ZS ?_|with_reducible refine YD ?_|with_reducible refine xq ?_|with_reducible refine Yy ?_|with_reducible refine xk ?_|with_reducible refine yI ?_|with_reducible refine yj ?_|with_reducible refine YI ?_|((with_reducible refine yJ ?_);first|refine YA rfl ?_|refine yH rfl ?_)|((with_reducible refine yX ?_);first|refine yG rfl ?_|refine yv rfl ?_)|((with_reducible refine yk ?_);first|(refine Yk hT rfl rfl (by first|exact True.intro|exact Nat.le_refl _|rfl|decide|omega|(simp only [IntKind.wrap_i64];omega)|(simp only [Yo,zO,and_true,Int.toNat_natCast,List.length_cons,List.length_append,List.length_nil,List.length_take,IntKind.wrap_i64];omega)) ?_;conv=>arg 6;try simp only [St.put,St.ev,setn,nth,Option.getD,decide_eq_true h0])|(refine xr rfl ?_;conv=>arg 6;try simp only [St.put,setn,nth])|(refine Xt hT rfl rfl (by first|exact True.intro|omega) ?_;conv=>arg 6;try simp only [St.put,St.ev,setn,nth,Option.getD,List.nil_append,List.cons_append,List.append_nil,List.length_nil,List.length_cons,Nat.reduceAdd,decide_eq_true h0])))
  exact Z9 rfl trivial [_] [] (Tells.refl _) ⟨by simp [YY,h0];rfl,rfl⟩
 ·by_cases h1:n>1073741823
  ·skip
   repeat (first|with_reducible refine XP ?_|with_reducible refine yL ?_|with_reducible refine XZ ?_|with_reducible refine xm ?_|with_reducible refine ZS ?_|with_reducible refine YD ?_|with_reducible refine xq ?_|with_reducible refine Yy ?_|with_reducible refine xk ?_|with_reducible refine yI ?_|with_reducible refine yj ?_|with_reducible refine YI ?_|((with_reducible refine yJ ?_);first|refine YA rfl ?_|refine yH rfl ?_)|((with_reducible refine yX ?_);first|refine yG rfl ?_|refine yv rfl ?_)|((with_reducible refine yk ?_);first|(refine Yk hT rfl rfl (by first|exact True.intro|exact Nat.le_refl _|rfl|decide|omega|(simp only [IntKind.wrap_i64];omega)|(simp only [Yo,zO,and_true,Int.toNat_natCast,List.length_cons,List.length_append,List.length_nil,List.length_take,IntKind.wrap_i64];omega)) ?_;conv=>arg 6;try simp only [St.put,St.ev,setn,nth,Option.getD,decide_eq_false h0,decide_eq_true h1])|(refine xr rfl ?_;conv=>arg 6;try simp only [St.put,setn,nth])|(refine Xt hT rfl rfl (by first|exact True.intro|omega) ?_;conv=>arg 6;try simp only [St.put,St.ev,setn,nth,Option.getD,List.nil_append,List.cons_append,List.append_nil,List.length_nil,List.length_cons,Nat.reduceAdd,decide_eq_false h0,decide_eq_true h1])))
   exact Z9 rfl trivial [_] [] (Tells.refl _) ⟨by simp [YY,h1];rfl,rfl⟩
  ·by_cases h2:n<64
   ·skip
    repeat (first|with_reducible refine XP ?_|with_reducible refine yL ?_|with_reducible refine XZ ?_|with_reducible refine xm ?_|with_reducible refine ZS ?_|with_reducible refine YD ?_|with_reducible refine xq ?_|with_reducible refine Yy ?_|with_reducible refine xk ?_|with_reducible refine yI ?_|with_reducible refine yj ?_|with_reducible refine YI ?_|((with_reducible refine yJ ?_);first|refine YA rfl ?_|refine yH rfl ?_)|((with_reducible refine yX ?_);first|refine yG rfl ?_|refine yv rfl ?_)|((with_reducible refine yk ?_);first|(refine Yk hT rfl rfl (by first|exact True.intro|exact Nat.le_refl _|rfl|decide|omega|(simp only [IntKind.wrap_i64];omega)|(simp only [Yo,zO,and_true,Int.toNat_natCast,List.length_cons,List.length_append,List.length_nil,List.length_take,IntKind.wrap_i64];omega)) ?_;conv=>arg 6;try simp only [St.put,St.ev,setn,nth,Option.getD,decide_eq_false h0,decide_eq_false h1,decide_eq_true h2])|(refine xr rfl ?_;conv=>arg 6;try simp only [St.put,setn,nth])|(refine Xt hT rfl rfl (by first|exact True.intro|omega) ?_;conv=>arg 6;try simp only [St.put,St.ev,setn,nth,Option.getD,List.nil_append,List.cons_append,List.append_nil,List.length_nil,List.length_cons,Nat.reduceAdd,decide_eq_false h0,decide_eq_false h1,decide_eq_true h2])))
    exact Z9 rfl trivial [_] [] (Tells.refl _) ⟨by simp [YY,h0,h1,h2];rfl,rfl⟩
   ·by_cases h3:n<16384
    ·skip
     repeat (first|with_reducible refine XP ?_|with_reducible refine yL ?_|with_reducible refine XZ ?_|with_reducible refine xm ?_|with_reducible refine ZS ?_|with_reducible refine YD ?_|with_reducible refine xq ?_|with_reducible refine Yy ?_|with_reducible refine xk ?_|with_reducible refine yI ?_|with_reducible refine yj ?_|with_reducible refine YI ?_|((with_reducible refine yJ ?_);first|refine YA rfl ?_|refine yH rfl ?_)|((with_reducible refine yX ?_);first|refine yG rfl ?_|refine yv rfl ?_)|((with_reducible refine yk ?_);first|(refine Yk hT rfl rfl (by first|exact True.intro|exact Nat.le_refl _|rfl|decide|omega|(simp only [IntKind.wrap_i64];omega)|(simp only [Yo,zO,and_true,Int.toNat_natCast,List.length_cons,List.length_append,List.length_nil,List.length_take,IntKind.wrap_i64];omega)) ?_;conv=>arg 6;try simp only [St.put,St.ev,setn,nth,Option.getD,decide_eq_false h0,decide_eq_false h1,decide_eq_false h2,decide_eq_true h3])|(refine xr rfl ?_;conv=>arg 6;try simp only [St.put,setn,nth])|(refine Xt hT rfl rfl (by first|exact True.intro|omega) ?_;conv=>arg 6;try simp only [St.put,St.ev,setn,nth,Option.getD,List.nil_append,List.cons_append,List.append_nil,List.length_nil,List.length_cons,Nat.reduceAdd,decide_eq_false h0,decide_eq_false h1,decide_eq_false h2,decide_eq_true h3])))
     exact Z9 rfl trivial [_] [] (Tells.refl _) ⟨by simp [YY,h0,h1,h2,h3];rfl,rfl⟩
    ·skip
     repeat (first|with_reducible refine XP ?_|with_reducible refine yL ?_|with_reducible refine XZ ?_|with_reducible refine xm ?_|with_reducible refine ZS ?_|with_reducible refine YD ?_|with_reducible refine xq ?_|with_reducible refine Yy ?_|with_reducible refine xk ?_|with_reducible refine yI ?_|with_reducible refine yj ?_|with_reducible refine YI ?_|((with_reducible refine yJ ?_);first|refine YA rfl ?_|refine yH rfl ?_)|((with_reducible refine yX ?_);first|refine yG rfl ?_|refine yv rfl ?_)|((with_reducible refine yk ?_);first|(refine Yk hT rfl rfl (by first|exact True.intro|exact Nat.le_refl _|rfl|decide|omega|(simp only [IntKind.wrap_i64];omega)|(simp only [Yo,zO,and_true,Int.toNat_natCast,List.length_cons,List.length_append,List.length_nil,List.length_take,IntKind.wrap_i64];omega)) ?_;conv=>arg 6;try simp only [St.put,St.ev,setn,nth,Option.getD,decide_eq_false h0,decide_eq_false h1,decide_eq_false h2,decide_eq_false h3])|(refine xr rfl ?_;conv=>arg 6;try simp only [St.put,setn,nth])|(refine Xt hT rfl rfl (by first|exact True.intro|omega) ?_;conv=>arg 6;try simp only [St.put,St.ev,setn,nth,Option.getD,List.nil_append,List.cons_append,List.append_nil,List.length_nil,List.length_cons,Nat.reduceAdd,decide_eq_false h0,decide_eq_false h1,decide_eq_false h2,decide_eq_false h3])))
     exact Z9 rfl trivial [_] [] (Tells.refl _) ⟨by simp [YY,h0,h1,h2,h3];rfl,rfl⟩
theorem mc0 {G A:Prop} (k:Hold G) (h:Hold G→A:=by
 intro k;repeat (first|with_reducible refine XP ?_|with_reducible refine yL ?_|with_reducible refine XZ ?_|with_reducible refine xm ?_|with_reducible refine ZS ?_|with_reducible refine YD ?_|with_reducible refine xq ?_|with_reducible refine Yy ?_|with_reducible refine xk ?_|with_reducible refine yI ?_|with_reducible refine yj ?_|with_reducible refine YI ?_|((with_reducible refine yJ ?_);first|refine YA rfl ?_|refine yH rfl ?_)|((with_reducible refine yX ?_);first|refine yG rfl ?_|refine yv rfl ?_)|((with_reducible refine yk ?_);first|(refine Yk hT rfl rfl (by first|exact True.intro|exact Nat.le_refl _|rfl|decide|omega|(simp only [IntKind.wrap_i64];omega)|(simp only [Yo,zO,and_true,Int.toNat_natCast,List.length_cons,List.length_append,List.length_nil,List.length_take,IntKind.wrap_i64];omega)) ?_;conv=>arg 6;try simp only [St.put,St.ev,setn,nth,Option.getD])|(refine xr rfl ?_;conv=>arg 6;try simp only [St.put,setn,nth])|(refine Xt hT rfl rfl (by first|exact True.intro|omega) ?_;conv=>arg 6;try simp only [St.put,St.ev,setn,nth,Option.getD,List.nil_append,List.cons_append,List.append_nil,List.length_nil,List.length_cons,Nat.reduceAdd])))
 exact k.1):A:=h k
theorem mc1 {G A:Prop} (k:Hold G) (h:Hold G→A:=by
 intro k;conv=>arg 6;try simp only [St.put,St.behind,St.ev,setn,nth,Option.getD,List.map,ZO,fgs,ren,sh,Z4,Z',List.any_nil,List.any_cons,List.nil_append,List.cons_append,List.append_nil,List.length_nil,List.length_cons,Nat.reduceAdd]
 exact k.1):A:=h k
theorem ms13 {G A:Prop} (k:Hold G) (h:Hold G→A:=by
 intro k;refine mc1 ⟨?_⟩;refine mc0 ⟨?_⟩;exact k.1):A:=h k
theorem V1 (b:List UInt8) (hb:b.length≤140737488355000):APure Tryz.prog 202 [bytes b] (.row 0 1 0 b.length none) [oU8 b]:=by
 refine ent Tryz.func202 Tryz.ntmps202 ⟨?_⟩;refine mc0 ⟨?_⟩;refine jz hT rfl rfl (.inl rfl) rfl rfl (fun c hc=> ?_);refine ms13 ⟨?_⟩;refine ZJ rfl (fun h=> ?_) (fun h=> ?_)
 ·skip
  refine mc0 ⟨?_⟩;have h0:=hc h;refine Z9 rfl trivial [.row 0 1 0 b.length none] [oU8 b] ?_ ⟨rfl,rfl⟩;refine (Tells.nilRow (t:=0) 5 1 rfl rfl).trans ?_;exact Tells.le (.cons (.row h0.symm) .nil) (.cons (.of (by omega) (fun h=>h) fun k hk=>by omega) .nil)
 ·skip
  refine mc0 ⟨?_⟩;refine ZT hT rfl rfl rfl (by simp;omega) ?_;refine ms13 ⟨?_⟩;refine Z9 rfl trivial [.row 0 1 0 b.length none] [oU8 b] ?_ ⟨rfl,rfl⟩;exact Tells.le (.cons (.row (by omega)) .nil) (.cons (.of (by omega) (fun _=>rfl) fun k hk=>by rw [Ym (Nat.zero_le _)];rfl) .nil)
theorem VM:ze Tryz.prog 202:=gfn Tryz.func202
theorem zdc:ze Tryz.prog 243:=gfn Tryz.func243
set_option maxRecDepth 100000 in
theorem zle (b:List UInt8) (n:Int) (hb:b.length≤140737488354000):APure Tryz.prog 203 [bytes b,int n] (.row 0 1 0 (b++qK n).length none) [oU8 (b++qK n)]:=by
 refine ent Tryz.func203 Tryz.ntmps203 ⟨?_⟩;refine mc0 ⟨?_⟩;refine xB rfl rfl rfl VM rfl ⟨trivial,trivial⟩ (V1 b (by omega)) ?_;refine ms13 ⟨?_⟩;refine xB rfl rfl rfl zdc rfl ⟨trivial,trivial⟩ (zd' n) ?_;refine mc1 ⟨?_⟩;by_cases hz:YY n=0
 ·have hp:=(JI hz).1
  rw [hz];refine mc0 ⟨?_⟩;exact Z9 rfl trivial [.row 0 1 0 (b++qK n).length none] [oU8 (b++qK n)] (by rw [hp,List.append_nil];exact Tells.refl _) ⟨rfl,rfl⟩
 rcases xE n hz with ⟨h0,h1,h2,h3⟩|⟨h0,h1,h2,h3⟩|⟨h0,h1,h2,h3⟩
 ·rw [h2];refine mc0 ⟨?_⟩;refine ZT hT rfl rfl rfl (by simp;omega) ?_;refine mc1 ⟨?_⟩;refine zz (Tells.objf 0 (fU8 (b++[ZR n])) rfl (wS (l:=[IntKind.u8.wrap n]) rfl rfl (by simp [Zr]))) ?_;refine ms13 ⟨?_⟩;rw [h3];exact Z9 rfl trivial [.row 0 1 0 (b++[ZR n]).length none] [oU8 (b++[ZR n])] ((Tells.sel [0] rfl rfl).trans (Tells.le (.cons (.row (by simp)) .nil) (.cons (.of (by simp) (fun h=>h) fun _ _=>rfl) .nil))) ⟨rfl,rfl⟩
 ·rw [h2];repeat (first|with_reducible refine XP ?_|with_reducible refine yL ?_|with_reducible refine XZ ?_|with_reducible refine xm ?_|with_reducible refine ZS ?_|with_reducible refine YD ?_|with_reducible refine xq ?_|with_reducible refine Yy ?_|with_reducible refine xk ?_|with_reducible refine yI ?_|with_reducible refine yj ?_|with_reducible refine YI ?_|((with_reducible refine yJ ?_);first|refine YA rfl ?_|refine yH rfl ?_)|((with_reducible refine yX ?_);first|refine yG rfl ?_|refine yv rfl ?_)|((with_reducible refine yk ?_);first|(refine Yk hT rfl rfl (by first|exact True.intro|exact Nat.le_refl _|rfl|decide|omega|(simp only [IntKind.wrap_i64];omega)|(simp only [Yo,zO,and_true,Int.toNat_natCast,List.length_cons,List.length_append,List.length_nil,List.length_take,IntKind.wrap_i64];omega)) ?_;conv=>arg 6;try simp only [St.put,St.ev,setn,nth,Option.getD,decide_eq_true h1])|(refine xr rfl ?_;conv=>arg 6;try simp only [St.put,setn,nth])|(refine Xt hT rfl rfl (by first|exact True.intro|omega) ?_;conv=>arg 6;try simp only [St.put,St.ev,setn,nth,Option.getD,List.nil_append,List.cons_append,List.append_nil,List.length_nil,List.length_cons,Nat.reduceAdd,decide_eq_true h1])))
  refine ZT hT rfl rfl rfl (by simp;omega) ?_;refine mc1 ⟨?_⟩;refine zz (Tells.objf 0 (fU8 (b++[ZR (64+n / 256)])) rfl (wS (l:=[IntKind.u8.wrap (64+IntKind.u8.wrap (n.fdiv (2^min (8:Int).toNat IntKind.i64.bits)))]) rfl rfl (by simp only [List.map,Zr,IntKind.wrap_u8,IntKind.bits,List.cons.injEq,and_true];rw [show min (8:Int).toNat 64=8 from rfl,Int.fdiv_eq_ediv_of_nonneg _ (by decide)];omega))) ?_;refine ms13 ⟨?_⟩;refine ZT hT rfl rfl rfl (by simp;omega) ?_;refine mc1 ⟨?_⟩;refine zz (Tells.objf 0 (fU8 ((b++[ZR (64+n / 256)])++[ZR n])) rfl (wS (l:=[IntKind.u8.wrap n]) (by simp) rfl (by simp [Zr]))) ?_;refine ms13 ⟨?_⟩;rw [h3];exact Z9 rfl trivial [.row 0 1 0 (b++[ZR (64+n / 256),ZR n]).length none] [oU8 (b++[ZR (64+n / 256),ZR n])] ((Tells.sel [0] rfl rfl).trans (Tells.le (.cons (.row (by simp)) .nil) (.cons (.of (by simp) (fun h=>h) fun _ _=>by simp) .nil))) ⟨rfl,rfl⟩
 ·rw [h2];repeat (first|with_reducible refine XP ?_|with_reducible refine yL ?_|with_reducible refine XZ ?_|with_reducible refine xm ?_|with_reducible refine ZS ?_|with_reducible refine YD ?_|with_reducible refine xq ?_|with_reducible refine Yy ?_|with_reducible refine xk ?_|with_reducible refine yI ?_|with_reducible refine yj ?_|with_reducible refine YI ?_|((with_reducible refine yJ ?_);first|refine YA rfl ?_|refine yH rfl ?_)|((with_reducible refine yX ?_);first|refine yG rfl ?_|refine yv rfl ?_)|((with_reducible refine yk ?_);first|(refine Yk hT rfl rfl (by first|exact True.intro|exact Nat.le_refl _|rfl|decide|omega|(simp only [IntKind.wrap_i64];omega)|(simp only [Yo,zO,and_true,Int.toNat_natCast,List.length_cons,List.length_append,List.length_nil,List.length_take,IntKind.wrap_i64];omega)) ?_;conv=>arg 6;try simp only [St.put,St.ev,setn,nth,Option.getD,decide_eq_false (show ¬n<16384 by omega)])|(refine xr rfl ?_;conv=>arg 6;try simp only [St.put,setn,nth])|(refine Xt hT rfl rfl (by first|exact True.intro|omega) ?_;conv=>arg 6;try simp only [St.put,St.ev,setn,nth,Option.getD,List.nil_append,List.cons_append,List.append_nil,List.length_nil,List.length_cons,Nat.reduceAdd,decide_eq_false (show ¬n<16384 by omega)])))
  refine ZT hT rfl rfl rfl (by simp;omega) ?_;refine mc1 ⟨?_⟩
  refine zz (Tells.objf 0 (fU8 (b++[ZR (128+n / 16777216),ZR (n / 65536)])) rfl (wS (l:=[IntKind.u8.wrap (128+IntKind.u8.wrap (n.fdiv (2^min (24:Int).toNat IntKind.i64.bits))),IntKind.u8.wrap (n.fdiv (2^min (16:Int).toNat IntKind.i64.bits))]) rfl rfl (by
   simp only [List.map,Zr,IntKind.wrap_u8,IntKind.bits,List.cons.injEq,and_true];rw [show min (24:Int).toNat 64=24 from rfl,show min (16:Int).toNat 64=16 from rfl,Int.fdiv_eq_ediv_of_nonneg _ (by decide),Int.fdiv_eq_ediv_of_nonneg _ (by decide)];omega))) ?_
  refine mc1 ⟨?_⟩;repeat (first|with_reducible refine XP ?_|with_reducible refine yL ?_|with_reducible refine XZ ?_|with_reducible refine xm ?_|with_reducible refine ZS ?_|with_reducible refine YD ?_|with_reducible refine xq ?_|with_reducible refine Yy ?_|with_reducible refine xk ?_|with_reducible refine yI ?_|with_reducible refine yj ?_|with_reducible refine YI ?_|((with_reducible refine yJ ?_);first|refine YA rfl ?_|refine yH rfl ?_)|((with_reducible refine yX ?_);first|refine yG rfl ?_|refine yv rfl ?_)|((with_reducible refine yk ?_);first|(refine Yk hT rfl rfl (by first|exact True.intro|exact Nat.le_refl _|rfl|decide|omega|(simp only [IntKind.wrap_i64];omega)|(simp only [Yo,zO,and_true,Int.toNat_natCast,List.length_cons,List.length_append,List.length_nil,List.length_take,IntKind.wrap_i64];omega)) ?_;conv=>arg 6;try simp only [St.put,St.ev,setn,nth,Option.getD,decide_eq_false (show ¬n<16384 by omega)])|(refine xr rfl ?_;conv=>arg 6;try simp only [St.put,setn,nth])|(refine Xt hT rfl rfl (by first|exact True.intro|omega) ?_;conv=>arg 6;try simp only [St.put,St.ev,setn,nth,Option.getD,List.nil_append,List.cons_append,List.append_nil,List.length_nil,List.length_cons,Nat.reduceAdd,decide_eq_false (show ¬n<16384 by omega)])))
  refine ZT hT rfl rfl rfl (by simp;omega) ?_;refine mc1 ⟨?_⟩
  refine zz (Tells.objf 0 (fU8 ((b++[ZR (128+n / 16777216),ZR (n / 65536)])++[ZR (n / 256)])) rfl (wS (l:=[IntKind.u8.wrap (0+IntKind.u8.wrap (n.fdiv (2^min (8:Int).toNat IntKind.i64.bits)))]) (by simp) rfl (by
   simp only [List.map,Zr,IntKind.wrap_u8,IntKind.bits,List.cons.injEq,and_true];rw [show min (8:Int).toNat 64=8 from rfl,Int.fdiv_eq_ediv_of_nonneg _ (by decide)];omega))) ?_
  refine ms13 ⟨?_⟩;refine ZT hT rfl rfl rfl (by simp;omega) ?_;refine mc1 ⟨?_⟩;refine zz (Tells.objf 0 (fU8 ((b++[ZR (128+n / 16777216),ZR (n / 65536)])++[ZR (n / 256)]++[ZR n])) rfl (wS (l:=[IntKind.u8.wrap n]) (by simp) rfl (by simp [Zr]))) ?_;refine ms13 ⟨?_⟩;rw [h3];exact Z9 rfl trivial [.row 0 1 0 (b++[ZR (128+n / 16777216),ZR (n / 65536),ZR (n / 256),ZR n]).length none] [oU8 (b++[ZR (128+n / 16777216),ZR (n / 65536),ZR (n / 256),ZR n])] ((Tells.sel [0] rfl rfl).trans (Tells.le (.cons (.row (by simp)) .nil) (.cons (.of (by simp) (fun h=>h) fun _ _=>by simp) .nil))) ⟨rfl,rfl⟩
theorem zkX {x:UInt8} {q:Int} (h:(x.toNat:Int) / 64=q):IntKind.u8.wrap ((x.toNat:Int).tdiv 64)=q:=by
 have:=UInt8.toNat_lt x
 rw [Int.tdiv_eq_ediv_of_nonneg (by omega),IntKind.wrap_u8];omega
theorem mc2 {G A:Prop} (k:Hold G) (h:Hold G→A:=by
 intro k;conv=>arg 7;simp only [List.take_succ_cons,List.take_zero]
 exact k.1):A:=h k
theorem mc3 {G A:Prop} (k:Hold G) (h:Hold G→A:=by
 intro k;repeat (((with_reducible refine Xg ?_);first|(refine wm hT rfl rfl (by first|exact True.intro|exact Nat.le_refl _|rfl|decide|omega|(simp only [IntKind.wrap_i64];omega)|(simp only [Yo,zO,and_true,Int.toNat_natCast,List.length_cons,List.length_append,List.length_nil,List.length_take,IntKind.wrap_i64];omega)) ?_;conv=>arg 8;try simp only [St.put,St.ev,setn,nth,Option.getD])|(refine vF rfl ?_;conv=>arg 8;try simp only [St.put,setn,nth])|(refine JD hT rfl rfl (by first|exact True.intro|omega) ?_;conv=>arg 8;try simp only [St.put,St.ev,setn,nth,Option.getD,List.nil_append,List.cons_append,List.append_nil,List.length_nil,List.length_cons,Nat.reduceAdd])))
 exact k.1):A:=h k
theorem mc4 {G A:Prop} (k:Hold G) (h:Hold G→A:=by
 intro k;conv=>arg 5;simp only [List.drop_succ_cons,List.drop_zero,List.drop_nil]
 exact k.1):A:=h k
set_option maxRecDepth 100000 in
theorem zkO (b:List UInt8):APure Tryz.prog 174 [bytes b] (.tup [int (XL b).1,bytes (XL b).2.1,int (XL b).2.2]) []:=by
 refine ent Tryz.func174 Tryz.ntmps174 ⟨?_⟩;rcases b with _|⟨x,r⟩
 ·skip
  refine mc0 ⟨?_⟩;exact Z9 rfl trivial [int 0,bytes [],int 1] [] (Tells.le (.cons (.refl _) (.cons (.nil rfl rfl) (.cons (.refl _) .nil))) .nil) ⟨rfl,rfl⟩
 have hx:=UInt8.toNat_lt x;refine mc0 ⟨?_⟩
 have hk:((x.toNat:Int) / 64=0∧yV x=1)∨((x.toNat:Int) / 64=1∧yV x=2)∨((x.toNat:Int) / 64=2∧yV x=4)∨((x.toNat:Int) / 64=3∧yV x=0):=by
  unfold yV;split
  ·exact .inl (by omega)
  ·split
   ·exact .inr (.inl (by omega))
   ·split
    ·exact .inr (.inr (.inl (by omega)))
    ·exact .inr (.inr (.inr (by omega)))
 refine qo hT rfl (x:=int (yV x:Nat)) ?_ ?_
 ·rcases hk with ⟨h,h'⟩|⟨h,h'⟩|⟨h,h'⟩|⟨h,h'⟩ <;>rw [h',show IntKind.u8.wrap ((((x::r).getD (Int.toNat 0) 0).toNat:Int).tdiv 64)=_ from zkX h] <;>exact ⟨_,rfl,by decide⟩
 refine ms13 ⟨?_⟩;have hk4:yV x≤4:=by omega
 generalize hK:yV x=k at*;refine ZJ rfl (fun h=> ?_) (fun h=> ?_)
 ·have h0:k=0:=by simpa using h
  refine mc0 ⟨?_⟩;exact Z9 rfl trivial [int 0,bytes [],int 2] [] (Tells.le (.cons (.refl _) (.cons (.nil rfl rfl) (.cons (.refl _) .nil))) .nil) ⟨by rw [Q_ (.inl (by omega)),if_pos (by omega)];rfl,rfl⟩
 have h0:k≠0:=by simpa using h
 refine mc0 ⟨?_⟩;refine ZJ rfl (fun h=> ?_) (fun h=> ?_)
 ·have h1:r.length+1<k:=by simp at h;omega
  refine mc0 ⟨?_⟩;exact Z9 rfl trivial [int 0,bytes [],int 1] [] (Tells.le (.cons (.refl _) (.cons (.nil rfl rfl) (.cons (.refl _) .nil))) .nil) ⟨by rw [Q_ (.inr (by omega)),if_neg (by omega)];rfl,rfl⟩
 have h1:k≤r.length+1:=by simp at h;omega
 refine mc0 ⟨?_⟩
 refine zr (Tells.slot 33 (bytes (r.take (k - 1))) rfl (.sl (by simp [zO];omega) (fun h=>h) fun j hj=>by
  simp only [zO] at hj;simp only [vV,fU8,List.getD_eq_getElem?_getD,List.getElem?_take];rw [if_pos (by omega),show (1:Int).toNat+j=j+1 by omega];rfl)) ?_
 refine zr (Tells.slot 34 (int (k - 1:Nat)) rfl (.int (by simp [zO]))) ?_;refine zr (Tells.slot 6 (int (x.toNat % 64:Int)) rfl (.int (by show IntKind.i64.wrap ((x.toNat:Int).tmod 64)=_;rw [Int.tmod_eq_emod_of_nonneg (by omega),IntKind.wrap_i64];omega))) ?_;simp only [setn];refine qz [6,8,35,36,37,38,39,40,41,42,43,44] (fun i:{i:Nat // i≤k - 1}=>[(6,int (Zm (x.toNat % 64:Int) (r.take i.1))),(35,int i.1)]) (fun i=>[]) (fun i=>k - 1 - i.1) ⟨0,by omega⟩ ?_ ?_
 ·simp only [lst,Zz,ZB,setn];refine Tells.le ?_ .nil;repeat (first|exact .nil|refine .cons (.junk _) ?_|refine .cons (.refl _) ?_|refine .cons (.int (by simp [Zm])) ?_)
 ·rintro ⟨i,hi⟩
  obtain ⟨b0,b1⟩:=Ug (x.toNat % 64:Int) (r.take i) (by omega) (by omega) (by rw [List.length_take];omega);simp only [lst,Zz,ZB,setn];refine mc0 ⟨?_⟩;refine ZJ rfl (fun h=> ?_) (fun h=> ?_)
  ·have hlt:i<k - 1:=by simpa using h
   have hb:=UInt8.toNat_lt r[i];refine mc0 ⟨?_⟩;refine wg ⟨⟨i+1,by omega⟩,by simp only;omega, ?_⟩;refine Tells.le ?_ .nil
   have hor:IntKind.i64.wrap (BitVec.ofInt IntKind.i64.bits (IntKind.i64.wrap (Zm (x.toNat % 64:Int) (r.take i)*2^min (Int.toNat 8) IntKind.i64.bits))|||BitVec.ofInt IntKind.i64.bits (IntKind.i64.wrap (((r.take (k - 1)).getD (Int.toNat i) 0).toNat:Int))).toNat=Zm (x.toNat % 64:Int) (r.take (i+1)):=by
    have:=zhm (Zm (x.toNat % 64:Int) (r.take i)) r[i] b0 (by omega)
    have e1:IntKind.i64.wrap (Zm (x.toNat % 64:Int) (r.take i)*2^min (Int.toNat 8) IntKind.i64.bits)=Zm (x.toNat % 64:Int) (r.take i)*256:=by
     rw [show min (Int.toNat 8) IntKind.i64.bits=8 from rfl,IntKind.wrap_i64];omega
    have e2:(r.take (k - 1)).getD (Int.toNat i) 0=r[i]:=by simp [List.getD_eq_getElem?_getD,List.getElem?_take,hlt,show i<r.length by omega]
    rw [e1,e2,show IntKind.i64.wrap ((r[i].toNat:Nat):Int)=(r[i].toNat:Int) by rw [IntKind.wrap_i64];omega,Qi _ _ _ (show i<r.length by omega),←this];rfl
   repeat (first|exact .nil|refine .cons (.junk _) ?_|refine .cons (.refl _) ?_|refine .cons (.int hor) ?_|refine .cons (.int (by simp only [IntKind.wrap_i64];omega)) ?_)
  ·have hge: ¬i<k - 1:=by simpa using h
   obtain rfl:i=k - 1:=by omega
   refine mc0 ⟨?_⟩;refine xB rfl rfl rfl zdc rfl ⟨trivial,trivial⟩ (zd' _) ?_;refine ms13 ⟨?_⟩;refine ZJ rfl (fun hv=> ?_) (fun hv=> ?_)
   ·skip
    refine mc0 ⟨?_⟩;exact Z9 rfl trivial [int 0,bytes [],int 2] [] (Tells.le (.cons (.refl _) (.cons (.nil rfl rfl) (.cons (.refl _) .nil))) .nil) ⟨by rw [kv (by omega) (by omega),hK,if_pos (by simpa using hv)];rfl,rfl⟩
   ·skip
    refine mc0 ⟨?_⟩;refine wL y8 7 (by kernel_rfl) (by kernel_rfl) ?_;refine mc2 ⟨?_⟩;refine mc3 ⟨?_⟩;refine Q2 ?_;refine mc4 ⟨?_⟩;refine mc0 ⟨?_⟩;exact Z9 rfl trivial [int (Zm (x.toNat % 64:Int) (r.take (k - 1))),bytes ((x::r).drop k),int 0] [] (Tells.le (.cons (.refl _) (.cons (.sl (by simp [zO]) (fun h=>by cases h) fun j hj=>by simp [vV,fU8,List.getD_eq_getElem?_getD]) (.cons (.refl _) .nil))) .nil) ⟨by rw [kv (by omega) (by omega),hK,if_neg (by simpa using hv)];rfl,rfl⟩
theorem Hw (k:Int):APure Tryz.prog 285 [int k] (int (max 1 (min k 4))) []:=by
 refine ent Tryz.func285 Tryz.ntmps285 ⟨?_⟩;refine mc0 ⟨?_⟩;exact Z9 rfl trivial [_] [] (Tells.refl _) ⟨rfl,rfl⟩
theorem G8:ze Tryz.prog 285:=gfn Tryz.func285
def Z7 (n:Int) (c:Nat) (k:Nat):List UInt8:=(List.range k).map fun i=>ZR (n.fdiv (2^(8*(c - 1 - i))))
set_option maxRecDepth 100000 in
theorem wJ (b:List UInt8) (n k:Int) (hb:b.length≤140737488354000):APure Tryz.prog 255 [bytes b,int n,int k] (.row 0 1 0 (b++Z7 n (max 1 (min k 4)).toNat (max 1 (min k 4)).toNat).length none) [oU8 (b++Z7 n (max 1 (min k 4)).toNat (max 1 (min k 4)).toNat)]:=by
 refine ent Tryz.func255 Tryz.ntmps255 ⟨?_⟩;refine mc0 ⟨?_⟩;refine xB rfl rfl rfl VM rfl ⟨trivial,trivial⟩ (V1 b (by omega)) ?_;refine ms13 ⟨?_⟩;refine xB rfl rfl rfl G8 rfl ⟨trivial,trivial⟩ (Hw k) ?_;refine ms13 ⟨?_⟩;conv=>arg 4;simp only [ren,sh,Z4,Z',List.map,List.any_nil,List.nil_append,List.append_nil,List.length_nil,List.length_cons,Nat.reduceAdd]
 have hc4:max 1 (min k 4)≤4:=by omega
 generalize hc:max 1 (min k 4)=c at*;obtain ⟨m,rfl⟩: ∃m:Nat,c=m:=⟨c.toNat,by omega⟩;simp only [Int.toNat_natCast];refine qz [7,8,10,14,15,16,17,18,19,20,21,22,23,24,25,26,27,28] (fun i:{i:Nat // i≤m}=>[(7, .row 0 1 0 (b.length+i.1) none),(14,int i.1)]) (fun i=>[oU8 (b++Z7 n m i.1)]) (fun i=>m - i.1) ⟨0,by omega⟩ ?_ ?_
 ·simp only [lst,Zz,ZB,setn];refine Tells.le ?_ ?_
  ·repeat (first|exact .nil|refine .cons (.junk _) ?_|refine .cons (.refl _) ?_)
  ·exact .cons (.of (by simp [Z7]) (fun h=>h) fun k hk=>by simp [Z7]) .nil
 ·rintro ⟨i,hi⟩
  simp only [lst,Zz,ZB,setn];refine mc0 ⟨?_⟩;refine ZJ rfl (fun h=> ?_) (fun h=> ?_)
  ·have hlt:i<m:=by simpa using h
   refine mc0 ⟨?_⟩;refine ZT hT rfl rfl rfl (by simp [Z7];omega) ?_;refine ms13 ⟨?_⟩;refine wg ⟨⟨i+1,by omega⟩,by simp only;omega, ?_⟩;refine (Tells.sel [0] rfl rfl).trans ?_;refine Tells.le ?_ ?_
   ·repeat (first|exact .nil|refine .cons (.junk _) ?_|refine .cons (.refl _) ?_|refine .cons (.row (by omega)) ?_|refine .cons (.int (by simp only [IntKind.wrap_i64];omega)) ?_)
   ·refine .cons (.of (by simp [Z7];omega) (fun _=>rfl) fun k hk=> ?_) .nil;have hs:Z7 n m (i+1)=Z7 n m i++[ZR (n.fdiv (2^(8*(m - 1 - i))))]:=by simp [Z7,List.range_succ]
    rw [hs,←List.append_assoc,XV (n:=b.length+i) (by simp [Z7]) (by simp [Z7] at hk ⊢;omega)];refine Vr fun j hj=> ?_
    obtain rfl:j=0:=by simp [Z7] at hk;omega
    have e:min (IntKind.i64.wrap (8*IntKind.i64.wrap (IntKind.i64.wrap (↑m - 1) - ↑i))).toNat IntKind.i64.bits=8*(m - 1 - i):=by
     simp only [IntKind.wrap_i64,IntKind.bits];omega
    rw [e];simp [fU8,eU8,WH,nth,Zr]
  ·have hge: ¬i<m:=by simpa using h
   obtain rfl:i=m:=by omega
   refine mc0 ⟨?_⟩;exact Z9 rfl trivial [_] [_] (Tells.le (.cons (.row (by simp [Z7])) .nil) (.refl _)) ⟨rfl,rfl⟩
def YE (k:Int):Nat:=(max 1 (min k 4)).toNat
def zD (b:List UInt8) (k:Int):Int×List UInt8×Int:=if b.length<YE k then (0,[],1) else (Zm 0 (b.take (YE k)),b.drop (YE k),0)
def zd (b:List UInt8):List UInt8×List UInt8×Int:=
 if (XL b).2.2≠0 then ([],[],(XL b).2.2) else if (XL b).1>1048576 then ([],[],4) else if (XL b).1>(XL b).2.1.length then ([],[],1)
 else ((XL b).2.1.take (XL b).1.toNat,(XL b).2.1.drop (XL b).1.toNat,0)
theorem zkk (n:Int) (x:UInt8) (h0:0≤n) (h1:n<36028797018963968):IntKind.i64.wrap (BitVec.ofInt IntKind.i64.bits (IntKind.i64.wrap (n*2^min (Int.toNat 8) IntKind.i64.bits))|||BitVec.ofInt IntKind.i64.bits (IntKind.i64.wrap (x.toNat:Int))).toNat=n*256+x.toNat:=by
 have hx:=UInt8.toNat_lt x;obtain ⟨m,rfl⟩:=Int.eq_ofNat_of_zero_le h0
 have e1:IntKind.i64.wrap ((m:Int)*2^min (Int.toNat 8) IntKind.i64.bits)=((m*256:Nat):Int):=by
  rw [show min (Int.toNat 8) IntKind.i64.bits=8 from rfl,IntKind.wrap_i64];omega
 rw [e1,show IntKind.i64.wrap ((x.toNat:Nat):Int)=(x.toNat:Int) by rw [IntKind.wrap_i64];omega];have:=K5 (m*256) x.toNat (by omega) (by omega)
 have h2:=Nat.shiftLeft_add_eq_or_of_lt (a:=m) (b:=x.toNat) (i:=8) (by omega);simp only [Nat.shiftLeft_eq,Nat.reducePow] at h2;have h3:IntKind.i64.wrap (BitVec.ofInt IntKind.i64.bits ((m*256:Nat):Int)|||BitVec.ofInt IntKind.i64.bits (x.toNat:Int)).toNat=(((m*256)|||x.toNat:Nat):Int):=this
 rw [h3,←h2];omega
theorem UR (l:List UInt8) (hl:l.length≤4):0≤Zm 0 l∧Zm 0 l<4294967296:=by
 have h:=KT l 0 1 (by omega) (by omega);refine ⟨h.1,Int.lt_of_lt_of_le h.2 ?_⟩;have:l.length=0∨l.length=1∨l.length=2∨l.length=3∨l.length=4:=by omega
 rcases this with h|h|h|h|h <;>rw [h] <;>decide
set_option maxRecDepth 100000 in
theorem VT (b:List UInt8) (k:Int):APure Tryz.prog 245 [bytes b,int k] (.tup [int (zD b k).1,bytes (zD b k).2.1,int (zD b k).2.2]) []:=by
 refine ent Tryz.func245 Tryz.ntmps245 ⟨?_⟩;refine mc0 ⟨?_⟩;refine xB rfl rfl rfl G8 rfl ⟨trivial,trivial⟩ (Hw k) ?_;refine mc1 ⟨?_⟩;obtain ⟨m,hm⟩: ∃m:Nat,max 1 (min k 4)=m:=⟨(max 1 (min k 4)).toNat,by omega⟩;have hc:YE k=m:=by unfold YE;omega
 have hm4:m≤4:=by omega
 rw [hm];refine mc0 ⟨?_⟩;refine ZJ rfl (fun h=> ?_) (fun h=> ?_)
 ·have h1:b.length<m:=by simpa using h
  refine mc0 ⟨?_⟩;exact Z9 rfl trivial [int 0,bytes [],int 1] [] (Tells.le (.cons (.refl _) (.cons (.nil rfl rfl) (.cons (.refl _) .nil))) .nil) ⟨by rw [zD,if_pos (by omega)];rfl,rfl⟩
 have h1:m≤b.length:=by have: ¬b.length<m:=by simpa using h
                        omega
 refine mc0 ⟨?_⟩;refine qz [7,8,16,17,18,19,20,21,22,23,24,25,26,27] (fun i:{i:Nat // i≤m}=>[(7,int (Zm 0 (b.take i.1))),(16,int i.1)]) (fun i=>[]) (fun i=>m - i.1) ⟨0,by omega⟩ ?_ ?_
 ·simp only [lst,Zz,ZB,setn];refine Tells.le ?_ .nil;repeat (first|exact .nil|refine .cons (.junk _) ?_|refine .cons (.refl _) ?_|refine .cons (.int (by simp [Zm])) ?_)
 ·rintro ⟨i,hi⟩
  obtain ⟨b0,b1⟩:=UR (b.take i) (by rw [List.length_take];omega);simp only [lst,Zz,ZB,setn];refine mc0 ⟨?_⟩;refine ZJ rfl (fun h=> ?_) (fun h=> ?_)
  ·have hlt:i<m:=by simpa using h
   refine mc0 ⟨?_⟩;refine wg ⟨⟨i+1,by omega⟩,by simp only;omega, ?_⟩;refine Tells.le ?_ .nil;have hor:=zkk (Zm 0 (b.take i)) (b.getD (Int.toNat i) 0) b0 (by omega)
   rw [show Zm 0 (b.take i)*256+((b.getD (Int.toNat i) 0).toNat:Int)=Zm 0 (b.take (i+1)) by
    rw [Qi 0 b i (by omega)];simp [List.getD_eq_getElem?_getD,show i<b.length by omega]] at hor
   repeat (first|exact .nil|refine .cons (.junk _) ?_|refine .cons (.refl _) ?_|refine .cons (.int hor) ?_|refine .cons (.int (by simp only [IntKind.wrap_i64];omega)) ?_)
  ·have hge: ¬i<m:=by simpa using h
   obtain rfl:i=m:=by omega
   refine mc0 ⟨?_⟩;refine wL y8 7 (by kernel_rfl) (by kernel_rfl) ?_;refine mc2 ⟨?_⟩;refine mc3 ⟨?_⟩;refine Q2 ?_;refine mc4 ⟨?_⟩;refine mc0 ⟨?_⟩;exact Z9 rfl trivial [int (Zm 0 (b.take i)),bytes (b.drop i),int 0] [] (Tells.le (.cons (.refl _) (.cons (.sl (by simp [zO]) (fun h=>by cases h) fun j hj=>by simp [vV,fU8,List.getD_eq_getElem?_getD]) (.cons (.refl _) .nil))) .nil) ⟨by rw [zD,hc,if_neg (by omega)];rfl,rfl⟩
theorem zk4:ze Tryz.prog 174:=gfn Tryz.func174
theorem J4 (b:List UInt8):0≤(XL b).1:=by
 rcases zdz b with h|⟨h,_⟩
 ·have:=(zeU b h).2
  rcases xE _ this with ⟨h,_⟩|⟨h,_⟩|⟨h,_⟩ <;>omega
 ·omega
theorem Xz (b:List UInt8):APure Tryz.prog 116 [bytes b] (.tup [bytes (zd b).1,bytes (zd b).2.1,int (zd b).2.2]) []:=by
 refine ent Tryz.func116 Tryz.ntmps116 ⟨?_⟩;refine mc0 ⟨?_⟩;refine xB rfl rfl rfl zk4 rfl (by repeat' (first|exact trivial|exact Nat.le_refl _|exact Nat.le_of_eq (Nat.zero_add _)|refine And.intro ?_ ?_|omega)) (zkO b) ?_;refine mc1 ⟨?_⟩;have h0:=J4 b;unfold zd;generalize XL b=x at*;obtain ⟨n,v,e⟩:=x;simp only at h0 ⊢;refine mc0 ⟨?_⟩;refine ZJ rfl (fun h=> ?_) (fun h=> ?_)
 ·have h1:e≠0:=by simpa using h
  refine mc0 ⟨?_⟩;exact Z9 rfl trivial [bytes [],bytes [],int e] [] (Tells.le (.cons (.nil rfl rfl) (.cons (.nil rfl rfl) (.cons (.refl _) .nil))) .nil) ⟨by rw [if_pos h1];rfl,rfl⟩
 have h1:e=0:=by simpa using h
 refine mc0 ⟨?_⟩;refine ZJ rfl (fun h=> ?_) (fun h=> ?_)
 ·have h2:n>1048576:=by simpa using h
  refine mc0 ⟨?_⟩;exact Z9 rfl trivial [bytes [],bytes [],int 4] [] (Tells.le (.cons (.nil rfl rfl) (.cons (.nil rfl rfl) (.cons (.refl _) .nil))) .nil) ⟨by rw [if_neg (by simpa using h1),if_pos h2];rfl,rfl⟩
 have h2: ¬n>1048576:=by simpa using h
 refine mc0 ⟨?_⟩;refine ZJ rfl (fun h=> ?_) (fun h=> ?_)
 ·have h3:n>v.length:=by simpa using h
  refine mc0 ⟨?_⟩;exact Z9 rfl trivial [bytes [],bytes [],int 1] [] (Tells.le (.cons (.nil rfl rfl) (.cons (.nil rfl rfl) (.cons (.refl _) .nil))) .nil) ⟨by rw [if_neg (by simpa using h1),if_neg h2,if_pos h3];rfl,rfl⟩
 have h3: ¬n>v.length:=by simpa using h
 refine mc0 ⟨?_⟩;refine wL y8 10 (by kernel_rfl) (by kernel_rfl) ?_;refine mc2 ⟨?_⟩;refine mc3 ⟨?_⟩;refine Q2 ?_;refine mc4 ⟨?_⟩;refine mc0 ⟨?_⟩;refine Z9 rfl trivial [bytes (v.take n.toNat),bytes (v.drop n.toNat),int 0] [] (Tells.le (.cons (.sl (by simp [zO];omega) (fun h=>by cases h) fun j hj=> ?_) (.cons (.sl (by simp [zO]) (fun h=>by cases h) fun j hj=>by simp [vV,fU8,List.getD_eq_getElem?_getD]) (.cons (.refl _) .nil))) .nil) ⟨by rw [if_neg (by simpa using h1),if_neg h2,if_neg h3];rfl,rfl⟩;simp only [zO] at hj;simp [vV,fU8,List.getD_eq_getElem?_getD,List.getElem?_take,hj]
theorem zk5:ze Tryz.prog 203:=gfn Tryz.func203
theorem XM:ze Tryz.prog 255:=gfn Tryz.func255
theorem jQ:ze Tryz.prog 245:=gfn Tryz.func245
theorem Xu:ze Tryz.prog 116:=gfn Tryz.func116
theorem Vi (b:List UInt8):(zd b).1.length≤1048576:=by
 unfold zd;split
 ·simp
 ·split
  ·simp
  ·split
   ·simp
   ·simp;omega
def zi (b v:List UInt8):List UInt8:=if v.length>1048576 then b else b++qK v.length++v
theorem Yj (b v:List UInt8) (hb:b.length≤140737480000000):APure Tryz.prog 135 [bytes b,bytes v] (.row 0 1 0 (zi b v).length none) [oU8 (zi b v)]:=by
 refine ent Tryz.func135 Tryz.ntmps135 ⟨?_⟩;refine mc0 ⟨?_⟩;refine ZJ rfl (fun h=> ?_) (fun h=> ?_)
 ·have h1:v.length>1048576:=by simp at h;omega
  refine mc0 ⟨?_⟩;refine xB rfl rfl rfl VM rfl (by repeat' (first|exact trivial|exact Nat.le_refl _|exact Nat.le_of_eq (Nat.zero_add _)|refine And.intro ?_ ?_|omega)) (V1 b (by omega)) ?_;refine ms13 ⟨?_⟩;rw [zi,if_pos h1];exact Z9 rfl trivial [_] [_] (Tells.refl _) ⟨rfl,rfl⟩
 ·have h1: ¬v.length>1048576:=by simp at h;omega
  have h4:=Ji (v.length:Int);refine mc0 ⟨?_⟩;refine xB rfl rfl rfl zk5 rfl (by repeat' (first|exact trivial|exact Nat.le_refl _|exact Nat.le_of_eq (Nat.zero_add _)|refine And.intro ?_ ?_|omega)) (zle b v.length (by omega)) ?_;refine ms13 ⟨?_⟩;refine ZT hT rfl rfl rfl (by refine ⟨?_, ?_, ?_, ?_⟩ <;>first|exact trivial|exact Nat.le_refl _|(simp only [List.length_append];omega)) ?_;refine mc1 ⟨?_⟩;refine zz (Tells.objf 0 (fU8 (b++qK v.length++v)) rfl (fun k hk=>XV rfl hk)) ?_;refine ms13 ⟨?_⟩;rw [zi,if_neg h1];exact Z9 rfl trivial [.row 0 1 0 (b++qK v.length++v).length none] [oU8 (b++qK v.length++v)] (Tells.le (.cons (.row (by simp;omega)) .nil) (.cons (.of (by simp;omega) (fun h=>h) fun _ _=>rfl) .nil)) ⟨rfl,rfl⟩
theorem yU:ze Tryz.prog 135:=gfn Tryz.func135
abbrev nby (n k:Int):List UInt8:=Z7 n (YE k) (YE k)
theorem qg (n k:Int):(nby n k).length=YE k:=by simp [Z7]
end
section
attribute [local irreducible] zA AO zt zo ADr AL AW zF zh zU Tells APure ACall
structure zM where
 enc:List UInt8
 cred:List UInt8
 source:Int
 parent:List UInt8
 deriving DecidableEq
def lfC (l:zM):List AV:=[bytes l.enc,bytes l.cred,int l.source,bytes l.parent]
abbrev xj (l:zM):AV:= .agg [bytes l.enc,bytes l.cred,int l.source,bytes l.parent]
def zho (n:Int):Bool:=decide (1≤n∧n≤3)
def YF (l:zM):Int:=
 if l.enc.length=0 then 5 else if l.enc.length>200∨l.cred.length>200∨l.parent.length>200 then 4 else if ¬(1≤l.source∧l.source≤3) then 7 else if l.source≠3∧l.parent.length>0 then 2 else 0
theorem tJ (n:Int):APure Tryz.prog 234 [int n] (.lit (.bool (zho n))) []:=by
 refine ent Tryz.func234 Tryz.ntmps234 ⟨?_⟩;unfold zho;exact gW
theorem Tz:ze Tryz.prog 234:=gfn Tryz.func234
theorem j0 (a b:List UInt8):APure Tryz.prog 115 [bytes a,bytes b] (.lit (.bool (a==b))) []:=by
 refine ent Tryz.func115 Tryz.ntmps115 ⟨?_⟩;exact gf
theorem VS:ze Tryz.prog 115:=gfn Tryz.func115
theorem zkh (a:List UInt8):APure Tryz.prog 232 [bytes a] (.lit (.bool (decide (a.length>200)))) []:=by
 refine ent Tryz.func232 Tryz.ntmps232 ⟨?_⟩;exact gf
theorem zka:ze Tryz.prog 232:=gfn Tryz.func232
theorem PU {g:Nat} {ca:List AV} {p:List UInt8→Bool} (xs:List (List UInt8)) (hl:xs.length≤1000000000000) (hg:ze Tryz.prog g) (hca:ca.all (zB 4)=true) (hp: ∀x∈xs,APure Tryz.prog g ([bytes x]++ca) (.lit (.bool (p x))) []):
 APure Tryz.prog 281 [slE eBB xs, .fn (.func g) [] ca] (int (match xs.findIdx? p with|some i=>i|none=> -1)) []:=by
 refine ent Tryz.func281 Tryz.ntmps281 ⟨?_⟩;refine go ⟨?_⟩;refine lp (fun i:{i:Nat // i≤xs.length∧ ∀x∈xs.take i,p x=false}=>[(8,int i.1)]) (fun _=>[]) (fun i=>xs.length - i.1) ⟨0,by simp⟩ ?_
 rintro ⟨i,hi,hn⟩
 refine go ⟨?_⟩;refine zj rfl (fun h=> ?_) (fun h=> ?_)
 ·have hlt:i<xs.length:=by omega
  have ex:xs.getD i []=xs[i]:=by simp [List.getD_eq_getElem?_getD,hlt]
  refine go ⟨?_⟩;refine x8 rfl rfl rfl hg rfl hca (hp xs[i] (List.getElem_mem _)) (.cons (.eq (congrArg bytes ex)) .nil) ?_;refine go ⟨?_⟩;refine zj rfl (fun h=> ?_) (fun h=> ?_)
  ·have hf:xs.findIdx? p=some i:=List.findIdx?_eq_some_iff_getElem.2 ⟨hlt,h,fun j hj=>by simp [hn xs[j] (List.mem_take_iff_getElem.2 ⟨j,by omega,rfl⟩)]⟩
   rw [hf];exact gf
  ·refine go ⟨?_⟩;refine je ⟨⟨i+1,by omega,fun x hx=> ?_⟩,by simp only;omega, ?_⟩
   ·rw [List.take_succ_eq_append_getElem hlt] at hx;rcases List.mem_append.1 hx with hx|hx
    ·exact hn x hx
    ·rw [List.mem_singleton.1 hx];simpa using h
   ·exact tel
 ·obtain rfl:i=xs.length:=by omega
  rw [List.take_length] at hn;rw [List.findIdx?_eq_none_iff.2 hn];exact gf
theorem tT:ze Tryz.prog 281:=gfn Tryz.func281
theorem zhx {α:Type} (p:α→Bool) (xs:List α):decide ((match xs.findIdx? p with|some i=>(i:Int)|none=> -1)≥0)=xs.any p:=by
 cases h:xs.findIdx? p with
 |none=>
  rw [List.findIdx?_eq_none_iff] at h;rw [List.any_eq_false.2 fun x hx=>by simp [h x hx]];rfl
 |some i=>
  obtain ⟨hi,h1,_⟩:=List.findIdx?_eq_some_iff_getElem.1 h;rw [List.any_eq_true.2 ⟨xs[i],List.getElem_mem _,h1⟩];exact decide_eq_true (Int.natCast_nonneg i)
theorem Kf {g:Nat} {ca:List AV} {p:List UInt8→Bool} (xs:List (List UInt8)) (hl:xs.length≤1000000000000) (hg:ze Tryz.prog g) (hca:ca.all (zB 3)=true) (hp: ∀x∈xs,APure Tryz.prog g ([bytes x]++ca) (.lit (.bool (p x))) []):
 APure Tryz.prog 233 [slE eBB xs, .fn (.func g) [] ca] (.lit (.bool (xs.any p))) []:=by
 refine ent Tryz.func233 Tryz.ntmps233 ⟨?_⟩;refine go ⟨?_⟩;refine x8 rfl rfl rfl tT (show (true && ((true && ca.all (zB 3)) && true))=true by rw [hca];rfl) rfl (args'':=[slE eBB xs, .fn (.func g) [] ca]) (PU xs hl hg (xC hca) hp) (.cons (.refl _) (.cons (.refl _) .nil)) ?_;refine go ⟨?_⟩;rw [zhx p xs];exact fin
theorem KE:ze Tryz.prog 233:=gfn Tryz.func233
theorem kD (l:zM):APure Tryz.prog 161 [xj l] (int (YF l)) []:=by
 refine ent Tryz.func161 Tryz.ntmps161 ⟨?_⟩;unfold YF;refine go ⟨?_⟩;refine zj rfl (fun h=> ?_) (fun h=> ?_)
 ·rw [if_pos (by omega)];exact gf
 rw [if_neg (by omega)];have c1:=Kf (p:=fun a=>decide (a.length>200)) [l.enc,l.cred,l.parent] (by simp) zka rfl (ca:=[]) fun x _=>zkh x
 refine gcg KE c1 ⟨?_⟩;refine zj rfl (fun h=> ?_) (fun h=> ?_)
 ·rw [if_pos (by omega)];exact gf
 rw [if_neg (by omega)];refine gc Tz (tJ l.source) ⟨?_⟩;unfold zho;refine go ⟨?_⟩;refine zj rfl (fun h=> ?_) (fun h=> ?_)
 ·rw [if_pos (by omega)];exact gf
 rw [if_neg (by omega)];by_cases h1:l.source=3
 ·rw [if_neg (by omega)];exact gf
 ·by_cases h2:l.parent.length>0
  ·rw [if_pos ⟨h1,h2⟩];exact gf
  ·rw [if_neg (by omega)];exact gf
theorem kw:ze Tryz.prog 161:=gfn Tryz.func161
theorem zaA {a b:zM}:a=b↔a.source=b.source∧a.enc=b.enc∧a.cred=b.cred∧a.parent=b.parent:=by
 cases a;cases b;simp only [zM.mk.injEq]
 exact ⟨fun ⟨h1,h2,h3,h4⟩=>⟨h3,h1,h2,h4⟩,fun ⟨h3,h1,h2,h4⟩=>⟨h1,h2,h3,h4⟩⟩
theorem zeh (a b:zM):APure Tryz.prog 159 [xj a,xj b] (.lit (.bool (decide (a=b)))) []:=by
 refine ent Tryz.func159 Tryz.ntmps159 ⟨?_⟩;simp only [zaA];exact zlc VS j0 trivial trivial
theorem zeA:ze Tryz.prog 159:=gfn Tryz.func159
theorem Hn (n:Int):APure Tryz.prog 269 [int n] (int (YY n)) []:=by
 refine ent Tryz.func269 Tryz.ntmps269 ⟨?_⟩;unfold YY;exact gW
theorem G5:ze Tryz.prog 269:=gfn Tryz.func269
theorem tA (k:Int):APure Tryz.prog 270 [int k] (int (YE k:Nat)) []:=by
 refine ent Tryz.func270 Tryz.ntmps270 ⟨?_⟩;unfold YE;exact gW
theorem Tl:ze Tryz.prog 270:=gfn Tryz.func270
set_option maxRecDepth 100000 in
theorem ziI (b:List UInt8) (n:Int) (hb:b.length≤140737488354000):APure Tryz.prog 230 [bytes b,int n] (.row 0 1 0 (b++qK n).length none) [oU8 (b++qK n)]:=by
 refine ent Tryz.func230 Tryz.ntmps230 ⟨?_⟩;refine go ⟨?_⟩;refine Qg (fU8 b) hT rfl rfl rfl rfl (by simp;omega) (fun k hk=>XV (xs:=[]) rfl hk) ?_;refine gc G5 (Hn n) ⟨?_⟩;by_cases hz:YY n=0
 ·have hp:=(JI hz).1
  rw [hz,hp];exact gf
 have h0':0≤n:=by rcases xE n hz with ⟨h,_⟩|⟨h,_⟩|⟨h,_⟩ <;>omega
 rcases xE n hz with ⟨h0,h1,h2,h3⟩|⟨h0,h1,h2,h3⟩|⟨h0,h1,h2,h3⟩
 ·rw [h2,h3];refine go ⟨?_⟩;refine Qg (fU8 (b++[ZR n])) hT rfl rfl rfl rfl (by simp;omega) (wS (l:=[IntKind.u8.wrap n]) (by simp) rfl (by simp [Zr])) ?_;exact gf
 ·rw [h2,h3];refine go ⟨?_⟩
  refine Qg (fU8 (b++[ZR (64+n / 256),ZR n])) hT rfl rfl rfl rfl (by simp;omega) (wS (l:=[IntKind.u8.wrap (IntKind.i64.wrap (64+IntKind.i64.wrap (n.tdiv 256))),IntKind.u8.wrap (n.tmod 256)]) (by simp) rfl (by
   simp only [List.map,Zr,IntKind.wrap_u8,IntKind.wrap_i64,List.cons.injEq,and_true];rw [Int.tdiv_eq_ediv_of_nonneg h0',Int.tmod_eq_emod_of_nonneg h0'];omega)) ?_
  exact gf
 ·rw [h2,h3];refine go ⟨?_⟩
  refine Qg (fU8 (b++[ZR (128+n / 16777216),ZR (n / 65536),ZR (n / 256),ZR n])) hT rfl rfl rfl rfl (by simp;omega) (wS (l:=[IntKind.u8.wrap (IntKind.i64.wrap (128+IntKind.i64.wrap (n.tdiv 16777216))),IntKind.u8.wrap ((IntKind.i64.wrap (n.tdiv 65536)).tmod 256),IntKind.u8.wrap ((IntKind.i64.wrap (n.tdiv 256)).tmod 256),IntKind.u8.wrap (n.tmod 256)]) (by simp) rfl (by
   simp only [List.map,Zr,IntKind.wrap_u8,IntKind.wrap_i64,List.cons.injEq,and_true];simp only [Int.tdiv_eq_ediv_of_nonneg h0'];rw [Int.tmod_eq_emod_of_nonneg (by omega),Int.tmod_eq_emod_of_nonneg (by omega),Int.tmod_eq_emod_of_nonneg h0'];omega)) ?_
  exact gf
theorem zj7:ze Tryz.prog 230:=gfn Tryz.func230
theorem Ge (x:UInt8):(x.toNat<64∧yV x=1)∨(64≤x.toNat∧x.toNat<128∧yV x=2)∨(128≤x.toNat∧x.toNat<192∧yV x=4)∨(192≤x.toNat∧yV x=0):=by
 unfold yV;split
 ·exact .inl (by omega)
 ·split
  ·exact .inr (.inl (by omega))
  ·split
   ·exact .inr (.inr (.inl (by omega)))
   ·exact .inr (.inr (.inr (by omega)))
theorem zjC (b:List UInt8):APure Tryz.prog 209 [bytes b] (.tup [int (XL b).1,bytes (XL b).2.1,int (XL b).2.2]) []:=by
 refine ent Tryz.func209 Tryz.ntmps209 ⟨?_⟩;rcases b with _|⟨x,r⟩
 ·exact gf
 have hx:=UInt8.toNat_lt x;refine go ⟨?_⟩;have hc:=Ge x;by_cases h0:yV x=0
 ·rw [Q_ (.inl h0),if_pos h0];exact gf
 refine jn [(5,int (yV x:Nat))] [] ?_ ?_
 ·exact gW
 generalize hk:yV x=k at*;have hk4:1≤k∧k≤4:=by omega
 refine go ⟨?_⟩;refine zj rfl (fun h=> ?_) (fun h=> ?_)
 ·rw [Q_ (.inr (by simp at h;omega)),if_neg (by omega)];exact gf
 have hkr:k≤r.length+1:=by simp at h;omega
 refine go ⟨?_⟩
 have e0:(IntKind.i64.wrap (x.toNat:Int)).tmod 64=Zm (x.toNat % 64:Int) (r.take 0):=by
  rw [IntKind.wrap_i64,Int.tmod_eq_emod_of_nonneg (by omega)];simp [Zm];omega
 refine lp (fun i:{i:Nat // i+1≤k}=>[(6,int (Zm (x.toNat % 64:Int) (r.take i.1))),(7,int (i.1+1:Nat))]) (fun _=>[]) (fun i=>k - i.1) ⟨0,by omega⟩ ?_
 rintro ⟨i,hi⟩
 obtain ⟨b0,b1⟩:=Ug (x.toNat % 64:Int) (r.take i) (by omega) (by omega) (by rw [List.length_take];omega);refine go ⟨?_⟩;refine zj rfl (fun h=> ?_) (fun h=> ?_)
 ·refine go ⟨?_⟩
  have e1:IntKind.i64.wrap (IntKind.i64.wrap (Zm (x.toNat % 64:Int) (r.take i)*256)+IntKind.i64.wrap (((x::r).getD (i+1) 0).toNat:Int))=Zm (x.toNat % 64:Int) (r.take (i+1)):=by
   have hb:=UInt8.toNat_lt r[i];rw [Qi _ _ _ (show i<r.length by omega),show (x::r).getD (i+1) 0=r[i] by simp [List.getD_eq_getElem?_getD,show i<r.length by omega]];simp only [IntKind.wrap_i64];omega
  refine je ⟨⟨i+1,by omega⟩,by simp only;omega, ?_⟩;exact tel
 ·obtain rfl:k=i+1:=by omega
  refine gcg G5 (Hn _) ⟨?_⟩;rw [kv (by omega) (by omega),hk,Nat.add_sub_cancel];refine zj rfl (fun h=> ?_) (fun h=> ?_)
  ·rw [if_pos h];exact gf
  ·rw [if_neg h];exact gf
theorem zj2:ze Tryz.prog 209:=gfn Tryz.func209
theorem ms19 {G A:Prop} (k:Hold G) (h:Hold G→A:=by
 intro k;refine go ⟨?_⟩;refine je ⟨⟨i+1,by omega⟩,by simp only;omega, ?_⟩;exact k.1):A:=h k
theorem Wn (b:List UInt8) (n k:Int) (hb:b.length≤140737488354000):APure Tryz.prog 227 [bytes b,int n,int k] (.row 0 1 0 (b++nby n k).length none) [oU8 (b++nby n k)]:=by
 refine ent Tryz.func227 Tryz.ntmps227 ⟨?_⟩;refine go ⟨?_⟩;refine Qg (fU8 b) hT rfl rfl rfl rfl (by simp;omega) (fun k hk=>XV (xs:=[]) rfl hk) ?_;refine gcg Tl (tA k) ⟨?_⟩;have hc:1≤YE k∧YE k≤4:=by unfold YE;omega
 unfold nby;generalize YE k=c at*;have e0:Z7 n c 0=[]:=rfl
 refine lp (fun i:{i:Nat // i≤c}=>[(7, .row 0 1 0 (b.length+i.1) none),(8,int (c - 1 - i.1)),(11, .junk)]) (fun i=>[oU8 (b++Z7 n c i.1)]) (fun i=>c - i.1) ⟨0,by omega⟩ ?_
 rintro ⟨i,hi⟩
 refine go ⟨?_⟩;refine zj rfl (fun h=> ?_) (fun h=> ?_)
 ·refine go ⟨?_⟩;have hci:(c - 1 - i:Nat)=(c:Int) - 1 - i:=by omega
  have e1:Z7 n c (i+1)=Z7 n c i++[ZR (n.fdiv (2^(8*(c - 1 - i))))]:=by simp [Z7,List.range_succ]
  rw [show min (IntKind.u64.wrap (IntKind.i64.wrap (8*((c:Int) - 1 - i)))).toNat IntKind.i64.bits=8*(c - 1 - i) by simp only [IntKind.wrap_i64,IntKind.wrap_u64,IntKind.bits];omega];rw [show (255:Int)=2^8 - 1 from rfl,kR _ 8 (by decide)]
  refine Qg (fU8 (b++Z7 n c (i+1))) hT rfl rfl rfl rfl (by simp [Z7];omega) (fun k hk=>by
   rw [e1,←List.append_assoc];exact wS (ys:=[ZR (n.fdiv (2^(8*(c - 1 - i))))]) (l:=[IntKind.u8.wrap (n.fdiv (2^(8*(c - 1 - i))) % 2^8)]) (by simp [Z7]) rfl (by simp [Zr,IntKind.wrap_u8]) k hk) ?_
  refine ms19 ⟨?_⟩;have e2:(Z7 n c (i+1)).length=i+1:=by simp [Z7]
  exact tel
 ·obtain rfl:i=c:=by omega
  have e2:(Z7 n i i).length=i:=by simp [Z7]
  exact gf
theorem XG:ze Tryz.prog 227:=gfn Tryz.func227
theorem j8 (b:List UInt8) (k:Int):APure Tryz.prog 211 [bytes b,int k] (.tup [int (zD b k).1,bytes (zD b k).2.1,int (zD b k).2.2]) []:=by
 refine ent Tryz.func211 Tryz.ntmps211 ⟨?_⟩;refine gcg Tl (tA k) ⟨?_⟩;have hc:YE k≤4:=by unfold YE;omega
 unfold zD;generalize YE k=c at*;refine zj rfl (fun h=> ?_) (fun h=> ?_)
 ·rw [if_pos (by omega)];exact gf
 rw [if_neg (by omega)];refine go ⟨?_⟩;refine lp (fun i:{i:Nat // i≤c}=>[(8,int (Zm 0 (b.take i.1))),(9,int i.1)]) (fun _=>[]) (fun i=>c - i.1) ⟨0,by omega⟩ ?_
 rintro ⟨i,hi⟩
 obtain ⟨b0,b1⟩:=UR (b.take i) (by rw [List.length_take];omega);refine go ⟨?_⟩;refine zj rfl (fun h=> ?_) (fun h=> ?_)
 ·refine go ⟨?_⟩;have hib:i<b.length:=by omega
  have e1:IntKind.i64.wrap (IntKind.i64.wrap (Zm 0 (b.take i)*256)+IntKind.i64.wrap ((b.getD i 0).toNat:Int))=Zm 0 (b.take (i+1)):=by
   have hb:=UInt8.toNat_lt b[i];rw [Qi _ _ _ hib,show b.getD i 0=b[i] by simp [List.getD_eq_getElem?_getD,hib]];simp only [IntKind.wrap_i64];omega
  refine je ⟨⟨i+1,by omega⟩,by simp only;omega, ?_⟩;exact tel
 ·obtain rfl:i=c:=by omega
  exact gf
theorem JF:ze Tryz.prog 211:=gfn Tryz.func211
theorem ya (b v:List UInt8) (hb:b.length≤140737480000000):APure Tryz.prog 158 [bytes b,bytes v] (.row 0 1 0 (zi b v).length none) [oU8 (zi b v)]:=by
 refine ent Tryz.func158 Tryz.ntmps158 ⟨?_⟩;refine go ⟨?_⟩;refine Qg (fU8 b) hT rfl rfl rfl rfl (by simp;omega) (fun k hk=>XV (xs:=[]) rfl hk) ?_;refine go ⟨?_⟩;unfold zi;refine zj rfl (fun h=> ?_) (fun h=> ?_)
 ·rw [if_pos (by omega)];exact gf
 rw [if_neg (by omega)];have h4:=Ji (v.length:Int);refine gcg zj7 (ziI b v.length (by omega)) ⟨?_⟩;refine Qg (fU8 (b++qK v.length++v)) hT rfl rfl rfl rfl (by simp;omega) (fun k hk=>XV rfl hk) ?_;exact gf
theorem ZQ:ze Tryz.prog 158:=gfn Tryz.func158
theorem xF (b:List UInt8):APure Tryz.prog 148 [bytes b] (.tup [bytes (zd b).1,bytes (zd b).2.1,int (zd b).2.2]) []:=by
 refine ent Tryz.func148 Tryz.ntmps148 ⟨?_⟩;refine gc zj2 (zjC b) ⟨?_⟩;have h0:=J4 b;unfold zd;generalize XL b=x at*;obtain ⟨n,v,e⟩:=x;simp only at h0 ⊢;refine go ⟨?_⟩;refine zj rfl (fun h=> ?_) (fun h=> ?_)
 ·rw [if_pos h];exact gf
 rw [if_neg h];refine go ⟨?_⟩;refine zj rfl (fun h=> ?_) (fun h=> ?_)
 ·rw [if_pos h];exact gf
 rw [if_neg h];refine go ⟨?_⟩;refine zj rfl (fun h=> ?_) (fun h=> ?_)
 ·rw [if_pos h];exact gf
 rw [if_neg (by omega)];exact gf
theorem xv:ze Tryz.prog 148:=gfn Tryz.func148
theorem zx (b v:List UInt8):(zi b v).length≤b.length+1048580:=by
 have:=Ji (v.length:Int)
 unfold zi;split
 ·omega
 ·simp only [List.length_append];omega
def kg (b:List UInt8) (l:zM):List UInt8:=
 if YF l≠0 then b else if l.source=3 then zi (zi (zi b l.enc) l.cred++nby l.source 1) l.parent else zi (zi b l.enc) l.cred++nby l.source 1
theorem zir (b:List UInt8) (l:zM) (hb:b.length≤140737470000000):APure Tryz.prog 266 [bytes b,xj l] (bytes (kg b l)) []:=by
 refine ent Tryz.func266 Tryz.ntmps266 ⟨?_⟩;unfold kg;refine gcg kw (kD l) ⟨?_⟩;refine zj rfl (fun h=> ?_) (fun h=> ?_)
 ·rw [if_pos h];exact gcgf VM ((V1 b (by omega)).data rfl (Nat.le_of_eq (Nat.zero_add _)))
 rw [if_neg h];have h1:=zx b l.enc;have h2:=zx (zi b l.enc) l.cred;have h3:(nby l.source 1).length=1:=by rw [qg];rfl
 refine gcg yU ((Yj b l.enc (by omega)).data rfl (Nat.le_of_eq (Nat.zero_add _))) ⟨?_⟩;refine cg yU ((Yj (zi b l.enc) l.cred (by omega)).data rfl (Nat.le_of_eq (Nat.zero_add _))) ⟨?_⟩;have c1:=wJ (zi (zi b l.enc) l.cred) l.source 1 (by omega);rw [show Z7 l.source (max 1 (min (1:Int) 4)).toNat (max 1 (min (1:Int) 4)).toNat=nby l.source 1 from rfl] at c1;refine cg XM (c1.data rfl (Nat.le_of_eq (Nat.zero_add _))) ⟨?_⟩;refine zj rfl (fun h=> ?_) (fun h=> ?_)
 ·rw [if_pos h];exact gcgf yU ((Yj (zi (zi b l.enc) l.cred++nby l.source 1) l.parent (by simp only [List.length_append];omega)).data rfl (Nat.le_of_eq (Nat.zero_add _)))
 ·rw [if_neg h];exact gf
theorem zjU:ze Tryz.prog 266:=gfn Tryz.func266
def zbq (l:zM):Bool:=decide (IntKind.i64.wrap (IntKind.i64.wrap ((l.enc.length:Int)+l.cred.length)+l.parent.length)≤1000)
theorem zdi (l:zM):APure Tryz.prog 29 [xj l] (.lit (.bool (zbq l))) []:=by
 refine ent Tryz.func29 Tryz.ntmps29 ⟨?_⟩;exact gf
theorem zdG:ze Tryz.prog 29:=gfn Tryz.func29
theorem wH (l:zM):APure Tryz.prog 163 [xj l] (int (YF l)) []:=by
 refine ent Tryz.func163 Tryz.ntmps163 ⟨?_⟩;unfold YF;exact gW
theorem wx:ze Tryz.prog 163:=gfn Tryz.func163
theorem zaF (a b:zM):APure Tryz.prog 98 [xj a,xj b] (.lit (.bool (decide (a=b)))) []:=by
 refine ent Tryz.func98 Tryz.ntmps98 ⟨?_⟩;simp only [zaA];exact gW
theorem zat:ze Tryz.prog 98:=gfn Tryz.func98
theorem Hg (b:List UInt8) (l:zM) (hb:b.length≤140737470000000):APure Tryz.prog 228 [bytes b,xj l] (bytes (kg b l)) []:=by
 refine ent Tryz.func228 Tryz.ntmps228 ⟨?_⟩;unfold kg;refine go ⟨?_⟩;refine app (fU8 b) hT rfl rfl rfl rfl (fun k hk=>XV (xs:=[]) rfl hk) ?_;refine gcg wx (wH l) ⟨?_⟩;refine zj rfl (fun h=> ?_) (fun h=> ?_)
 ·rw [if_pos h];exact gf
 rw [if_neg h];have h1:=zx b l.enc;have h2:=zx (zi b l.enc) l.cred;have h3:(nby l.source 1).length=1:=by rw [qg];rfl
 refine gcg ZQ ((ya b l.enc (by omega)).data rfl (Nat.le_of_eq (Nat.zero_add _))) ⟨?_⟩;refine cg ZQ ((ya (zi b l.enc) l.cred (by omega)).data rfl (Nat.le_of_eq (Nat.zero_add _))) ⟨?_⟩;refine cg XG ((Wn (zi (zi b l.enc) l.cred) l.source 1 (by omega)).data rfl (Nat.le_of_eq (Nat.zero_add _))) ⟨?_⟩;refine zj rfl (fun h=> ?_) (fun h=> ?_)
 ·rw [if_pos h];exact gcgf ZQ ((ya (zi (zi b l.enc) l.cred++nby l.source 1) l.parent (by simp only [List.length_append];omega)).data rfl (Nat.le_of_eq (Nat.zero_add _)))
 ·rw [if_neg h];exact gf
theorem h_:ze Tryz.prog 228:=gfn Tryz.func228
def jG (l:zM) (r:List UInt8):zM×List UInt8×Int:=if YF l≠0 then (⟨[],[],0,[]⟩,[],YF l) else (l,r,0)
def T_ (l:zM) (r:List UInt8):zM×List UInt8×Int:=
 if l.source≠3 then jG l r else if (zd r).2.2≠0 then (⟨[],[],0,[]⟩,[],(zd r).2.2) else jG {l with parent:=(zd r).1} (zd r).2.1
def tS (l:zM) (r:List UInt8):zM×List UInt8×Int:=
 if (zD r 1).2.2≠0 then (⟨[],[],0,[]⟩,[],(zD r 1).2.2) else if ¬(1≤(zD r 1).1∧(zD r 1).1≤3) then (⟨[],[],0,[]⟩,[],7) else T_ {l with source:=(zD r 1).1} (zD r 1).2.1
def ge (l:zM) (r:List UInt8):zM×List UInt8×Int:=
 if (zd r).2.2≠0 then (⟨[],[],0,[]⟩,[],(zd r).2.2) else tS {l with cred:=(zd r).1} (zd r).2.1
def tm (l:zM) (r:List UInt8):zM×List UInt8×Int:=
 if (zd r).2.2≠0 then (⟨[],[],0,[]⟩,[],(zd r).2.2) else ge {l with enc:=(zd r).1} (zd r).2.1
abbrev ZF:zM:=⟨[],[],0,[]⟩
def vg (b:List UInt8):zM×List UInt8×Int:=tm ZF b
theorem zgB (b:List UInt8):APure Tryz.prog 212 [bytes b] (.tup [xj (vg b).1,bytes (vg b).2.1,int (vg b).2.2]) []:=by
 refine ent Tryz.func212 Tryz.ntmps212 ⟨?_⟩;unfold vg tm;refine gc xv (xF b) ⟨?_⟩;generalize zd b=x at*;obtain ⟨v1,r1,e1⟩:=x;simp only;refine go ⟨?_⟩;refine zj rfl (fun h=> ?_) (fun h=> ?_)
 ·rw [if_pos h];exact gf
 rw [if_neg h];refine go ⟨?_⟩;unfold ge;refine cal xv (xF r1) ⟨?_⟩;generalize zd r1=x at*;obtain ⟨v2,r2,e2⟩:=x;simp only;refine go ⟨?_⟩;refine zj rfl (fun h=> ?_) (fun h=> ?_)
 ·rw [if_pos h];exact gf
 rw [if_neg h];refine go ⟨?_⟩;unfold tS;refine cal JF (j8 r2 1) ⟨?_⟩;generalize zD r2 1=x at*;obtain ⟨n3,r3,e3⟩:=x;simp only;refine go ⟨?_⟩;refine zj rfl (fun h=> ?_) (fun h=> ?_)
 ·rw [if_pos h];exact gf
 rw [if_neg h];refine go ⟨?_⟩;by_cases h1:n3<1
 ·rw [if_pos (by omega)];exact gf
 by_cases h2:n3>3
 ·rw [if_pos (by omega)];exact gf
 rw [if_neg (by omega)];refine go ⟨?_⟩;unfold T_;by_cases h3:n3=3
 ·rw [if_neg (by simpa using h3)];refine gc xv (xF r3) ⟨?_⟩;generalize zd r3=x at*;obtain ⟨v4,r4,e4⟩:=x;simp only;refine go ⟨?_⟩;refine zj rfl (fun h=> ?_) (fun h=> ?_)
  ·rw [if_pos h];exact gf
  rw [if_neg h];refine gcg wx (wH ⟨v1,v2,n3,v4⟩) ⟨?_⟩;unfold jG;refine zj rfl (fun h=> ?_) (fun h=> ?_)
  ·rw [if_pos h];exact gcgf wx (wH ⟨v1,v2,n3,v4⟩)
  ·rw [if_neg h];exact gf
 ·rw [if_pos h3];refine gcg wx (wH ⟨v1,v2,n3,[]⟩) ⟨?_⟩;unfold jG;refine zj rfl (fun h=> ?_) (fun h=> ?_)
  ·rw [if_pos h];exact gcgf wx (wH ⟨v1,v2,n3,[]⟩)
  ·rw [if_neg h];exact gf
theorem zf8:ze Tryz.prog 212:=gfn Tryz.func212
theorem jp:ziF Tryz.prog 286 287 221:=by
 intro p v w
 go_enter Tryz.func286,Tryz.ntmps286
 go_wp2
 go_ret
 exact ⟨rfl,rfl⟩
theorem KV:ze Tryz.prog 286:=gfn Tryz.func286
theorem zfA:ze Tryz.prog 287:=gfn Tryz.func287
theorem zjo:ze Tryz.prog 288:=gfn Tryz.func288
theorem zlj:ze Tryz.prog 289:=gfn Tryz.func289
theorem zk9:ze Tryz.prog 290:=gfn Tryz.func290
abbrev lgH (b:List UInt8) (l:zM):List zb:=
 [{T:=26,sz:=1,n:=1,f:=fun x=>[bytes b],box:=true},
  {T:=28,sz:=4,n:=1,f:=fun x=>[.lit (.slice none 0 0), .lit (.slice none 0 0), .lit (.int .i64 0), .lit (.slice none 0 0)],box:=true},
  {T:=28,sz:=4,n:=1,f:=fun x=>[bytes l.enc,bytes l.cred,int l.source,bytes l.parent],box:=true},
  {T:=223,sz:=1,n:=1,f:=fun x=>[.fn (.func 286) [] [.ptr 0 1 0 0]],pure:=false,box:=true},
  {T:=221,sz:=1,n:=1,f:=fun x=>[.ptr 2 4 0 0],pure:=false,box:=true},
  {T:=221,sz:=1,n:=1,f:=fun x=>[.ptr 2 4 0 1],pure:=false,box:=true},
  {T:=222,sz:=1,n:=5,f:=WH [[.fn (.func 287) [] [.ptr 0 1 0 0, .ptr 4 1 0 0]],[.fn (.func 287) [] [.ptr 0 1 0 0, .ptr 5 1 0 0]],
   [.fn (.func 288) [] [.ptr 0 1 0 0, .ptr 2 4 0 0]],[.fn (.func 289) [] [.ptr 2 4 0 0, .ptr 3 1 0 0]],[.fn (.func 290) [] [.ptr 2 4 0 0]]],pure:=false}]
theorem zkT (b:List UInt8) (l:zM):ACall Tryz.prog 287 [.ptr 0 1 0 0, .ptr 4 1 0 0] (lgH b l) fun r H' fg=>r=int (zd b).2.2∧H'=lgH (zd b).2.1 {l with enc:=(zd b).1}∧fg=[]:=by
 refine enta Tryz.func287 Tryz.ntmps287 ⟨?_⟩;simp only [lgH];refine gc Xu (Xz b) ⟨?_⟩;generalize zd b=x at*;obtain ⟨v,r,e⟩:=x;simp only;refine go ⟨?_⟩;exact Wc rfl trivial ⟨rfl,rfl,rfl⟩ (Tells.refl _)
theorem ziP (b:List UInt8) (l:zM):ACall Tryz.prog 287 [.ptr 0 1 0 0, .ptr 5 1 0 0] (lgH b l) fun r H' fg=>r=int (zd b).2.2∧H'=lgH (zd b).2.1 {l with cred:=(zd b).1}∧fg=[]:=by
 refine enta Tryz.func287 Tryz.ntmps287 ⟨?_⟩;simp only [lgH];refine gc Xu (Xz b) ⟨?_⟩;generalize zd b=x at*;obtain ⟨v,r,e⟩:=x;simp only;refine go ⟨?_⟩;exact Wc rfl trivial ⟨rfl,rfl,rfl⟩ (Tells.refl _)
theorem zkl (b:List UInt8) (l:zM):ACall Tryz.prog 287 [.ptr 0 1 0 0, .ptr 7 1 0 0] (lgH b l++[{T:=221,sz:=1,n:=1,f:=fun x=>[.ptr 2 4 0 3],pure:=false,box:=true}]) fun r H' fg=>r=int (zd b).2.2∧H'=lgH (zd b).2.1 {l with parent:=(zd b).1}++[{T:=221,sz:=1,n:=1,f:=fun x=>[.ptr 2 4 0 3],pure:=false,box:=true}]∧fg=[]:=by
 refine enta Tryz.func287 Tryz.ntmps287 ⟨?_⟩;try simp only [lgH,List.cons_append,List.nil_append]
 refine gc Xu (Xz b) ⟨?_⟩;generalize zd b=x at*;obtain ⟨v,r,e⟩:=x;simp only;refine go ⟨?_⟩;exact Wc rfl trivial ⟨rfl,rfl,rfl⟩ (Tells.refl _)
theorem ziN (b:List UInt8) (l:zM):ACall Tryz.prog 288 [.ptr 0 1 0 0, .ptr 2 4 0 0] (lgH b l) fun r H' fg=>r=int (if (zD b 1).2.2=0∧ ¬(1≤(zD b 1).1∧(zD b 1).1≤3) then 7 else (zD b 1).2.2)∧H'=lgH (zD b 1).2.1 {l with source:=(zD b 1).1}∧fg=[]:=by
 refine enta Tryz.func288 Tryz.ntmps288 ⟨?_⟩;simp only [lgH];refine gc jQ (VT b 1) ⟨?_⟩;generalize zD b 1=x at*;obtain ⟨n,r,e⟩:=x;simp only;refine go ⟨?_⟩;by_cases h1:e=0
 ·refine gc Tz (tJ n) ⟨?_⟩;unfold zho;refine go ⟨?_⟩;refine zj rfl (fun h=> ?_) (fun h=> ?_)
  ·rw [if_pos ⟨h1,by omega⟩];refine go ⟨?_⟩;exact Wc rfl trivial ⟨rfl,rfl,rfl⟩ (Tells.refl _)
  ·rw [if_neg (by omega)];refine go ⟨?_⟩;exact Wc rfl trivial ⟨rfl,rfl,rfl⟩ (Tells.refl _)
 ·rw [if_neg (by omega)];refine go ⟨?_⟩;exact Wc rfl trivial ⟨rfl,rfl,rfl⟩ (Tells.refl _)
theorem zkA (b:List UInt8) (l:zM):ACall Tryz.prog 290 [.ptr 2 4 0 0] (lgH b l) fun r H' fg=>r=int (YF l)∧H'=lgH b l∧fg=[]:=by
 refine enta Tryz.func290 Tryz.ntmps290 ⟨?_⟩;simp only [lgH];refine gcg kw (kD l) ⟨?_⟩;exact Wc rfl trivial ⟨rfl,rfl,rfl⟩ (Tells.refl _)
theorem zlp (b:List UInt8) (l:zM):ACall Tryz.prog 286 [.ptr 2 4 0 3, .ptr 0 1 0 0] (lgH b l) fun r H' fg=>r= .fn (.func 287) [] [.ptr 0 1 0 0, .ptr 7 1 0 0]∧H'=lgH b l++[{T:=221,sz:=1,n:=1,f:=fun x=>[.ptr 2 4 0 3],pure:=false,box:=true}]∧fg=[]:=by
 refine enta Tryz.func286 Tryz.ntmps286 ⟨?_⟩;simp only [lgH];refine go ⟨?_⟩;exact Wc rfl trivial ⟨rfl,rfl,rfl⟩ (Tells.refl _)
theorem zk3 (b:List UInt8) (l:zM):ACall Tryz.prog 289 [.ptr 2 4 0 0, .ptr 3 1 0 0] (lgH b l) fun r H' fg=>r=int (if l.source=3 then (zd b).2.2 else 0)∧H'=(if l.source=3 then lgH (zd b).2.1 {l with parent:=(zd b).1} else lgH b l)∧fg=[]:=by
 refine enta Tryz.func289 Tryz.ntmps289 ⟨?_⟩;simp only [lgH];refine go ⟨?_⟩;refine zj rfl (fun h=> ?_) (fun h=> ?_)
 ·rw [if_neg h,if_neg h];refine go ⟨?_⟩;exact Wc rfl trivial ⟨rfl,rfl,rfl⟩ (Tells.refl _)
 have h:l.source=3:=by simpa using h
 rw [if_pos h,if_pos h];refine go ⟨?_⟩;refine zV rfl rfl rfl KV (zlp b l) ?_;refine go ⟨?_⟩;refine zV rfl rfl rfl zfA (zkl b l) ?_;generalize zd b=x at*;obtain ⟨v,r,e⟩:=x;simp only;refine go ⟨?_⟩;exact Wc rfl trivial ⟨rfl,rfl,rfl⟩ ((Tells.sel [0,1,2,3,4,5,6] rfl rfl).trans (Tells.le (by exact les) (by exact leh)))
def KY:Nat→zM→List UInt8→zM×List UInt8×Int
 |0=>tm
 |1=>ge
 |2=>tS
 |3=>T_
 |4=>jG
 |_=>fun l r=>(l,r,0)
theorem zgq (b:List UInt8):APure Tryz.prog 246 [bytes b] (.tup [xj (vg b).1,bytes (vg b).2.1,int (vg b).2.2]) []:=by
 refine ent Tryz.func246 Tryz.ntmps246 ⟨?_⟩;refine go ⟨?_⟩;refine zco rfl rfl rfl KV rfl jp ?_;refine go ⟨?_⟩;refine zco rfl rfl rfl KV rfl jp ?_;refine go ⟨?_⟩;refine lp (fun i:{p:Nat×List UInt8×zM // p.1≤5∧vg b=KY p.1 p.2.2 p.2.1}=>[(28,int i.1.1)]) (fun i=>lgH i.1.2.1 i.1.2.2) (fun i=>5 - i.1.1) ⟨(0,b,ZF),by omega,rfl⟩ ?_
 rintro ⟨⟨i,b',l⟩,hi,he⟩
 simp only at hi he ⊢;refine go ⟨?_⟩;refine zj rfl (fun h=> ?_) (fun h=> ?_)
 ·have hi5:i=0∨i=1∨i=2∨i=3∨i=4:=by omega
  clear h;rcases hi5 with rfl|rfl|rfl|rfl|rfl
  ·simp only [KY,tm] at he;refine go ⟨?_⟩;refine zV rfl rfl rfl zfA (zkT b' l) ?_;generalize zd b'=x at*;obtain ⟨v,r,e⟩:=x;simp only at he ⊢;refine go ⟨?_⟩;refine zj rfl (fun h=> ?_) (fun h=> ?_)
   ·rw [if_pos h] at he;rw [he];exact gf
   ·rw [if_neg h] at he;refine go ⟨?_⟩;refine je ⟨⟨(1,r,{l with enc:=v}),by omega,he⟩,by simp only;omega, ?_⟩;exact tel
  ·simp only [KY,ge] at he;refine go ⟨?_⟩;refine zV rfl rfl rfl zfA (ziP b' l) ?_;generalize zd b'=x at*;obtain ⟨v,r,e⟩:=x;simp only at he ⊢;refine go ⟨?_⟩;refine zj rfl (fun h=> ?_) (fun h=> ?_)
   ·rw [if_pos h] at he;rw [he];exact gf
   ·rw [if_neg h] at he;refine go ⟨?_⟩;refine je ⟨⟨(2,r,{l with cred:=v}),by omega,he⟩,by simp only;omega, ?_⟩;exact tel
  ·simp only [KY,tS] at he;refine go ⟨?_⟩;refine zV rfl rfl rfl zjo (ziN b' l) ?_;generalize zD b' 1=x at*;obtain ⟨n,r,e⟩:=x;simp only at he ⊢;by_cases h1:e=0
   ·rw [if_neg (by simpa using h1)] at he;by_cases h2:1≤n∧n≤3
    ·rw [if_neg (by simpa using h2)] at he;rw [if_neg (by simp [h2]),h1];refine go ⟨?_⟩;refine je ⟨⟨(3,r,{l with source:=n}),by omega,he⟩,by simp only;omega, ?_⟩;exact tel
    ·rw [if_pos h2] at he;rw [if_pos ⟨h1,h2⟩,he];exact gf
   ·rw [if_pos h1] at he;rw [if_neg (by simp [h1]),he];exact gf
  ·simp only [KY,T_] at he;refine go ⟨?_⟩;refine zV rfl rfl rfl zlj (zk3 b' l) ?_;by_cases h1:l.source=3
   ·rw [if_neg (by simpa using h1)] at he;rw [if_pos h1,if_pos h1];generalize zd b'=x at*;obtain ⟨v,r,e⟩:=x;simp only at he ⊢;refine go ⟨?_⟩;refine zj rfl (fun h=> ?_) (fun h=> ?_)
    ·rw [if_pos h] at he;rw [he];exact gf
    ·rw [if_neg h] at he;refine go ⟨?_⟩;refine je ⟨⟨(4,r,{l with parent:=v}),by omega,he⟩,by simp only;omega, ?_⟩;exact tel
   ·rw [if_pos h1] at he;rw [if_neg h1,if_neg h1];refine go ⟨?_⟩;refine je ⟨⟨(4,b',l),by omega,he⟩,by simp only;omega, ?_⟩;exact tel
  ·simp only [KY,jG] at he;refine go ⟨?_⟩;refine zV rfl rfl rfl zk9 (zkA b' l) ?_;refine go ⟨?_⟩;refine zj rfl (fun h=> ?_) (fun h=> ?_)
   ·rw [if_pos h] at he;rw [he];exact gf
   ·rw [if_neg h] at he;refine go ⟨?_⟩;refine je ⟨⟨(5,b',l),by omega,he⟩,by simp only;omega, ?_⟩;exact tel
 ·obtain rfl:i=5:=by omega
  simp only [KY] at he;rw [he];refine go ⟨?_⟩;exact ziZ
theorem zkj:ze Tryz.prog 246:=gfn Tryz.func246
end
section
def Row (w:World) (g:Nat) (t:TypeId) (cs:Array Value):Prop:=w.heap[g]?=some (.cells cs t (0,0))
section
variable {w w':World} {g:Nat} {t:TypeId} {cs:Array Value}
theorem Row.lt (h:Row w g t cs):g<w.heap.size:=by
 rcases Nat.lt_or_ge g w.heap.size with hl|hl
 ·exact hl
 ·unfold Row at h;rw [Array.getElem?_eq_none hl] at h;cases h
theorem Row.cell (h:Row w g t cs) (i:Nat):w.cell? ⟨g,i,none⟩=cs[i]?:=cell_of_row w g i cs t (0,0) h
theorem Row.frozen (h:Row w g t cs) (i:Nat):w.frozen? ⟨g,i,none⟩=false:=frozen_of_row w g i cs t h
theorem Row.new (w:World) (t:TypeId) (cs:Array Value):Row (w.alloc (.cells cs t)) w.heap.size t cs:=heap_alloc_new w _
theorem Row.set_ (h:Row w g t cs) (i:Nat) (u:Value):Row (w.setCell ⟨g,i,none⟩ u) g t (cs.setIfInBounds i u):=heap_setCell_same w g i cs t u h
theorem Row.put (h:Row w g t cs) (cs':Array Value):Row (w.setRow g cs') g t cs':=setRow_heap w g cs cs' t (0,0) h
theorem Row.bel (h:Row w g t cs) (hb:Bel w w'):Row w' g t cs:=(hb.block g h.lt).trans h
end
structure Upd (g:Nat) (w w':World):Prop where
 os:w'.os=w.os
 tape:w'.tape=w.tape
 output:w'.output=w.output
 size:w'.heap.size=w.heap.size
 block: ∀k,k≠g→w'.heap[k]?=w.heap[k]?
theorem Upd.setRow (w:World) (g:Nat) (cs:Array Value):Upd g w (w.setRow g cs):=⟨rfl,rfl,rfl,setRow_size w g cs,fun k hk=>setRow_other w g k cs hk⟩
theorem Upd.setCell (w:World) (g i:Nat) (v:Value):Upd g w (w.setCell ⟨g,i,none⟩ v):=
 ⟨rfl,rfl,rfl,by simp [World.setCell],fun k hk=>heap_setCell_other w ⟨g,i,none⟩ k v hk⟩
theorem Row.upd {w w':World} {g g':Nat} {t:TypeId} {cs:Array Value} (h:Row w g' t cs) (hu:Upd g w w') (hne:g'≠g):Row w' g' t cs:=(hu.block g' hne).trans h
theorem ZV {w0 w w':World} {B g:Nat} (hb:Below B w0 w) (hu:Upd g w w') (hB:B≤g):Below B w0 w':=
 ⟨hu.os.trans hb.os,hu.tape.trans hb.tape,hu.output.trans hb.output,by rw [hu.size];exact hb.size,fun k hk=>(hu.block k (by omega)).trans (hb.block k hk)⟩
theorem xR {w0 w w':World} {B:Nat} (hb:Below B w0 w) (h:Bel w w') (hB:B≤w.heap.size):Below B w0 w':=hb.trans (h.mono hB)
section
variable {P:Program} {ops:Array Oper} {rest:List Oper} {o:Oper} {a:Act} {w:World} {Q:Exit→Act→World→Prop}
theorem Jn (w:World) (o:Obj):Bel w (w.alloc o):=(Below.refl _ _).alloc (Nat.le_refl _) _
theorem z8 (hgd:o.guard=none) {t:TypeId} (ho:o.op= .alloc t) {Z:Array Value} (hz: ∀w,(zeroValue t).run P w= .ok (.agg Z) w)
 (h: ∀g w',w.heap.size≤g→Row w' g t Z→Bel w w'→wpList P ops Q rest (a.put o.dst (.pointer (some ⟨g,0,none⟩))) w'):wpList P ops Q (o::rest) a w:=by
 refine wpList_plain hgd fun K hK=> ?_
 unfold Oper.wp execOp;simp only [ho,Instr.alloc,Sem.run_bind,hz,Result.andThen_ok,newVar,newRow,newObj,Value.cells];exact hK _ _ (h w.heap.size _ (Nat.le_refl _) (Row.new w t Z) (Jn w _))
theorem YO (hgd:o.guard=none) {t:TypeId} {x:Operand} (ho:o.op= .box t x) {cs:Array Value} (hx:a.eval x= .agg cs)
 (h: ∀g w',w.heap.size≤g→Row w' g t cs→Bel w w'→wpList P ops Q rest (a.put o.dst (.pointer (some ⟨g,0,none⟩))) w'):wpList P ops Q (o::rest) a w:=by
 refine wpList_plain hgd fun K hK=> ?_
 unfold Oper.wp execOp;simp only [ho,hx,Instr.box,Sem.run_bind,Result.andThen_ok,newVar,newRow,newObj,Value.cells];exact hK _ _ (h w.heap.size _ (Nat.le_refl _) (Row.new w t cs) (Jn w _))
theorem Z0 (hgd:o.guard=none) {ty:TypeId} {x:Operand} (ho:o.op= .load ty x) {g:Nat} (hx:a.eval x= .pointer (some ⟨g,0,none⟩)) {t:TypeId} {cs:Array Value} (hg:Row w g t cs)
 {n:Nat} {e:TypeId} (hu:P.underlying ty=some (.array n e)) (hi:(P.info? ty).map (·.size)=some cs.size)
 (h:wpList P ops Q rest (a.put o.dst (.agg cs)) w):wpList P ops Q (o::rest) a w:=
 wpList_load_row hgd ty x ho g hx t cs (0,0) _ hg hu rfl hi h
theorem z6 (hgd:o.guard=none) {ty:TypeId} {x y:Operand} (ho:o.op= .store ty x y) {g:Nat} {cells:Array Value} (hx:a.eval x= .pointer (some ⟨g,0,none⟩)) (hy:a.eval y= .agg cells)
 {t:TypeId} {old:Array Value} (hg:Row w g t old) (hi:(P.info? ty).map (·.size)=some cells.size) (hold:old.size=cells.size) (h1:cells.all (·.oneCell')=true)
 (h: ∀w',Row w' g t cells→Upd g w w'→wpList P ops Q rest (a.put o.dst undef) w'):wpList P ops Q (o::rest) a w:=
 wpList_store_row hgd ty x y ho g cells hx hy t old hg hi hold h1 (h _ (hg.put cells) (Upd.setRow w g cells))
theorem vA {fn:Func} {R:Ending→World→Prop} {p:Tmp} {ty:TypeId} {tmps:Array Value} (h:fn.results= #[.cell p ty]) {g:Nat} {t:TypeId} {cs:Array Value} (hp:tmps.getD p undef= .pointer (some ⟨g,0,none⟩)) (hg:Row w g t cs)
 {n:Nat} {e:TypeId} (hu:P.underlying ty=some (.array n e)) (hi:(P.info? ty).map (·.size)=some cs.size) (hR:R (.returned (.agg cs)) w):bodyPost P fn R .ret ⟨tmps,[]⟩ w:=
 bodyPost_ret (results_cell_row h tmps w g t cs (0,0) _ hp hg hu rfl hi) rfl hR
theorem zb2 {v:Value} (hv:v.oneCell'=true):v.cells= #[v]:=by cases v <;>first|rfl|(simp [Value.oneCell'] at hv)
theorem yK (hgd:o.guard=none) {ty:TypeId} {x y:Operand} (ho:o.op= .store ty x y) {g i:Nat} {v:Value} (hx:a.eval x= .pointer (some ⟨g,i,none⟩)) (hy:a.eval y=v) (hv:v.oneCell'=true)
 {t:TypeId} {old:Array Value} (hg:Row w g t old) (hi:(P.info? ty).map (·.size)=some 1) (hlt:i<old.size)
 (h: ∀w',Row w' g t (old.setIfInBounds i v)→Upd g w w'→wpList P ops Q rest (a.put o.dst undef) w'):wpList P ops Q (o::rest) a w:=by
 refine wpList_plain hgd fun K hK=> ?_
 have hc:w.cell? ⟨g,i,none⟩=some old[i]:=(hg.cell i).trans (Array.getElem?_eq_getElem hlt)
 have hf:=hg.frozen i;have hadd:(⟨g,i,none⟩:Addr).add 0=⟨g,i,none⟩:=by simp [Addr.add]
 have hr:(store ⟨g,i,none⟩ v).run P w= .ok () (w.setCell ⟨g,i,none⟩ v):=by rw [run_store P w _ v _ hv];simp [hc,hf]
 cases hq:P.info? ty with
 |none=>simp [hq] at hi
 |some inf=>
  have hs:inf.size=1:=by simpa [hq] using hi
  unfold Oper.wp execOp;simp [ho,hx,hy,Instr.storeAt,Instr.sureAddr,storeVar,sizeOf,typeInfo,hq,hs,zb2 hv,storeCells,hadd,hr]
  exact hK _ _ (h _ (hg.set_ i _) (Upd.setCell w g i _))
end
theorem qk {P:Program} {t e:TypeId} {n:Nat} {k kk:IntKind} {cs:Array Value} {v:Value} {j:Int} {w:World} (hu:P.underlying t=some (.array n e)) (he:P.underlying e=some (.int k)) (hs:(P.info? e).map (·.size)=some 1) (h0:0≤j) (h:j<n) (hc:cs[j.toNat]?=some v):
 (Instr.index t (.agg cs) (.int kk j)).run P w= .ok v w:=by
 cases hq:P.info? e with
 |none=>simp [hq] at hs
 |some inf=>
  have hs':inf.size=1:=by simpa [hq] using hs
  simp [Instr.index,asIntOf,run_underlying hu,run_underlying he,sizeOf,typeInfo,hq,hs',h0,h,part,isAgg,hc]
theorem xM {P:Program} {w0:World} {ops:Array Oper} {plan:Js} {F:Act→World→Prop} {k:Nat} {R:List Oper} {a:Act} {kn:List (Nat×(World→Prop))} {o:Oper} {u:Value}
 (hw:Region.wanted o (yielded ops a.tmps)=true) (hp:plan k=some (MG.val u).pg)
 (h1: ∀w,Bel w0 w→(∀p∈kn,anc ops k p.1=true→p.2 w)→StepOk P (execOp a.eval o) w fun v w'=>v=u∧Bel w w')
 (h2:wpL P w0 ops plan F (k+1) R (a.put o.dst u) ((k,(MG.val u).pg.G u)::kn)):wpL P w0 ops plan F k (o::R) a kn:=
 zeg hw hp (fun w hE hK=>by
  have:=h1 w hE hK
  unfold StepOk at this ⊢;generalize (execOp a.eval o).run P w=r at*;cases r with
  |ok n w'=>
   cases n <;>simp only at this ⊢
   case value v=>exact ⟨this.2,this.1⟩
   case skip=>exact ⟨this.2,this.1⟩
   case enter f args=>exact this.mono fun e w'' he=>by cases e <;>first|exact ⟨he.2,he.1⟩|exact he
   case row row args=>exact this.mono fun v w'' he=>⟨he.2,he.1⟩
  |halt x w'=>exact this) (fun x hx=>by
  have hx':x=u:=hx
  subst hx';exact h2)
theorem xI:(Tryz.prog.info? 244).map (fun i=>(i.zero,i.size))=some (some (.agg (u32s (List.replicate 64 0))),64):=by kernel_rfl
theorem xT:(Tryz.prog.info? 202).map (fun i=>(i.zero,i.size))=some (some (.agg (u32s (List.replicate 8 0))),8):=by kernel_rfl
theorem Km:(Tryz.prog.info? 234).map (fun i=>(i.zero,i.size))=some (some (.agg (b8s (List.replicate 64 0))),64):=by kernel_rfl
theorem qV:Tryz.prog.underlying 244=some (.array 64 201):=by kernel_rfl
theorem qQ:Tryz.prog.underlying 202=some (.array 8 201):=by kernel_rfl
theorem kA:Tryz.prog.underlying 234=some (.array 64 5):=by kernel_rfl
theorem zP (l:List UInt32):(u32s l).size=l.length:=by simp [u32s]
theorem Kl (l:List UInt8):(b8s l).size=l.length:=by simp [b8s]
theorem Y3 (l:List UInt32):(u32s l).all (·.oneCell')=true:=by simp [u32s,List.all_map];intro x _;rfl
theorem Kr (l:List UInt32) (i:Nat) (h:i<l.length):(u32s l)[i]?=some (.int .u32 (wv (l.getD i 0))):=by simp [u32s,h]
theorem Hp (l:List UInt8) (i:Nat) (h:i<l.length):(b8s l)[i]?=some (.int .u8 (l.getD i 0).toNat):=by simp [b8s,h]
theorem qx (l:List UInt32) (i:Nat) (x:UInt32):(u32s l).setIfInBounds i (.int .u32 (wv x))=u32s (l.set i x):=by simp [u32s,List.map_set]
theorem Row.w32 {w:World} {g:Nat} {t:TypeId} {l:List UInt32} (h:Row w g t (u32s l)) {i:Nat} (hi:i<l.length):w.cell? ⟨g,i,none⟩=some (.int .u32 (wv (l.getD i 0))):=(h.cell i).trans (Kr l i hi)
theorem Row.w8 {w:World} {g:Nat} {t:TypeId} {l:List UInt8} (h:Row w g t (b8s l)) {i:Nat} (hi:i<l.length):w.cell? ⟨g,i,none⟩=some (.int .u8 (l.getD i 0).toNat):=(h.cell i).trans (Hp l i hi)
def rk (k:Int):UInt32:=UInt32.ofNat (-k).toNat
theorem Wr (x:UInt32) (k:Int) (w:World) (h:k∈[(-7:Int), -18, -17, -19, -6, -11, -25, -2, -13, -22]):
 Calls Tryz.prog 340 #[.int .u32 (wv x), .int .i64 k] w fun e w'=>e= .returned (.int .u32 (wv (YH x (rk k))))∧w=w':=by
 simp only [List.mem_cons,List.not_mem_nil,or_false] at h;rcases h with rfl|rfl|rfl|rfl|rfl|rfl|rfl|rfl|rfl|rfl
 ·have hk:bits .and .u64 (IntKind.u64.wrap (-7)) 31=25:=by decide
  go_enter Tryz.func340,Tryz.ntmps340
  go_wp2
  go_ret
  exact ⟨Xo (by rw [UInt32.or_comm];rfl),rfl⟩
 ·have hk:bits .and .u64 (IntKind.u64.wrap (-18)) 31=14:=by decide
  go_enter Tryz.func340,Tryz.ntmps340
  go_wp2
  go_ret
  exact ⟨Xo (by rw [UInt32.or_comm];rfl),rfl⟩
 ·have hk:bits .and .u64 (IntKind.u64.wrap (-17)) 31=15:=by decide
  go_enter Tryz.func340,Tryz.ntmps340
  go_wp2
  go_ret
  exact ⟨Xo (by rw [UInt32.or_comm];rfl),rfl⟩
 ·have hk:bits .and .u64 (IntKind.u64.wrap (-19)) 31=13:=by decide
  go_enter Tryz.func340,Tryz.ntmps340
  go_wp2
  go_ret
  exact ⟨Xo (by rw [UInt32.or_comm];rfl),rfl⟩
 ·have hk:bits .and .u64 (IntKind.u64.wrap (-6)) 31=26:=by decide
  go_enter Tryz.func340,Tryz.ntmps340
  go_wp2
  go_ret
  exact ⟨Xo (by rw [UInt32.or_comm];rfl),rfl⟩
 ·have hk:bits .and .u64 (IntKind.u64.wrap (-11)) 31=21:=by decide
  go_enter Tryz.func340,Tryz.ntmps340
  go_wp2
  go_ret
  exact ⟨Xo (by rw [UInt32.or_comm];rfl),rfl⟩
 ·have hk:bits .and .u64 (IntKind.u64.wrap (-25)) 31=7:=by decide
  go_enter Tryz.func340,Tryz.ntmps340
  go_wp2
  go_ret
  exact ⟨Xo (by rw [UInt32.or_comm];rfl),rfl⟩
 ·have hk:bits .and .u64 (IntKind.u64.wrap (-2)) 31=30:=by decide
  go_enter Tryz.func340,Tryz.ntmps340
  go_wp2
  go_ret
  exact ⟨Xo (by rw [UInt32.or_comm];rfl),rfl⟩
 ·have hk:bits .and .u64 (IntKind.u64.wrap (-13)) 31=19:=by decide
  go_enter Tryz.func340,Tryz.ntmps340
  go_wp2
  go_ret
  exact ⟨Xo (by rw [UInt32.or_comm];rfl),rfl⟩
 ·have hk:bits .and .u64 (IntKind.u64.wrap (-22)) 31=10:=by decide
  go_enter Tryz.func340,Tryz.ntmps340
  go_wp2
  go_ret
  exact ⟨Xo (by rw [UInt32.or_comm];rfl),rfl⟩
theorem VV (x:UInt32) (a b c:Int) (k m n:UInt32) (w:World) (h:(a,b,c,k,m,n)∈[((6:Int),(11:Int),(25:Int),(6:UInt32),(11:UInt32),(25:UInt32)),(2,13,22,2,13,22)]):
 Calls Tryz.prog 331 #[.int .u32 (wv x), .int .i64 a, .int .i64 b, .int .i64 c] w fun e w'=>e= .returned (.int .u32 (wv (YH x k^^^YH x m^^^YH x n)))∧w=w':=by
 simp only [List.mem_cons,Prod.mk.injEq,List.not_mem_nil,or_false] at h;rcases h with ⟨rfl,rfl,rfl,rfl,rfl,rfl⟩|⟨rfl,rfl,rfl,rfl,rfl,rfl⟩
 ·go_enter Tryz.func331,Tryz.ntmps331
  go_wp2_with (go_at_call 340;refine (Wr x _ _ (by decide)).mono ?_;rintro e w' ⟨rfl,rfl⟩)
  go_ret
  exact ⟨Xo rfl,rfl⟩
 ·go_enter Tryz.func331,Tryz.ntmps331
  go_wp2_with (go_at_call 340;refine (Wr x _ _ (by decide)).mono ?_;rintro e w' ⟨rfl,rfl⟩)
  go_ret
  exact ⟨Xo rfl,rfl⟩
theorem mc5 {G A:Prop} (k:Hold G) (h:Hold G→A:=by
 intro k;try simp only [Act.put,List.setIfInBounds_toArray,List.set_cons_succ,List.set_cons_zero,Nat.reduceAdd,Nat.zero_add]
 exact k.1):A:=h k
theorem mc6 {G A:Prop} (k:Hold G) (h:Hold G→A:=by
 intro k;repeat (first|(refine zX (by first|rfl|(rw [hops.out];rfl)) (by rw [hpl.out];rfl) ?_ (fun wq hE hK=> ?_) ?_;rotate_left;(clear hE hK;go_simp;rfl);(simp only [Act.put,List.setIfInBounds_toArray,List.set_cons_succ,List.set_cons_zero,Nat.reduceAdd,Nat.zero_add]))|(refine zdt (by first|rfl|(rw [hops.out];rfl)) ?_;simp only [Act.put,List.setIfInBounds_toArray,List.set_cons_succ,List.set_cons_zero,Nat.reduceAdd,Nat.zero_add]))
 exact k.1):A:=h k
theorem mc7 {G A:Prop} (k:Hold G) (h:Hold G→A:=by
 intro k;simp only [Act.put,List.setIfInBounds_toArray,List.set_cons_succ,List.set_cons_zero,Nat.reduceAdd,Nat.zero_add];exact k.1):A:=h k
theorem ms5 {G A:Prop} (k:Hold G) (h:Hold G→A:=by
 intro k;refine mc7 ⟨?_⟩;refine mc6 ⟨?_⟩;exact k.1):A:=h k
theorem JU (x:UInt32) (a b c:Int) (k m n:UInt32) (w:World) (h:(a,b,c,k,m,n)∈[((7:Int),(18:Int),(3:Int),(7:UInt32),(18:UInt32),(3:UInt32)),(17,19,10,17,19,10)]):
 Calls Tryz.prog 339 #[.int .u32 (wv x), .int .i64 a, .int .i64 b, .int .i64 c] w fun e w'=>e= .returned (.int .u32 (wv (YH x k^^^YH x m^^^(x>>>n))))∧Below w.heap.size w w':=by
 simp only [List.mem_cons,Prod.mk.injEq,List.not_mem_nil,or_false] at h;rcases h with ⟨rfl,rfl,rfl,rfl,rfl,rfl⟩|⟨rfl,rfl,rfl,rfl,rfl,rfl⟩
 ·go_enter Tryz.func339,Tryz.ntmps339
  go_wp2
  refine mc5 ⟨?_⟩;refine XF [(3,MG.val (.int .u32 (wv (YH x 7)))),(7,MG.val (.int .u32 (wv (YH x 18))))] (by kernel_rfl) (by kernel_rfl) ?_;intro ops F w0 pl hops hpl hw0 hF;have hw0':=hw0.out
  subst hw0';refine mc6 ⟨?_⟩;refine xM (u:= .int .u32 (wv (YH x 7))) (by first|rfl|(rw [hops.out];rfl)) (by rw [hpl.out];rfl) (fun wq hE hK=> ?_) ?_
  ·unfold StepOk
   go_simp
   refine (Wr x _ _ (by decide)).mono ?_
   rintro e w' ⟨rfl,rfl⟩
   exact ⟨rfl,Below.refl _ _⟩
  refine ms5 ⟨?_⟩;refine xM (u:= .int .u32 (wv (YH x 18))) (by first|rfl|(rw [hops.out];rfl)) (by rw [hpl.out];rfl) (fun wq hE hK=> ?_) ?_
  ·unfold StepOk
   go_simp
   refine (Wr x _ _ (by decide)).mono ?_
   rintro e w' ⟨rfl,rfl⟩
   exact ⟨rfl,Below.refl _ _⟩
  refine ms5 ⟨?_⟩;refine wo fun w' hE hK=>hF.out _ _ ?_
  go_wp2
  go_ret
  exact ⟨rfl,hE⟩
 ·go_enter Tryz.func339,Tryz.ntmps339
  go_wp2
  refine mc5 ⟨?_⟩;refine XF [(3,MG.val (.int .u32 (wv (YH x 17)))),(7,MG.val (.int .u32 (wv (YH x 19))))] (by kernel_rfl) (by kernel_rfl) ?_;intro ops F w0 pl hops hpl hw0 hF;have hw0':=hw0.out
  subst hw0';refine mc6 ⟨?_⟩;refine xM (u:= .int .u32 (wv (YH x 17))) (by first|rfl|(rw [hops.out];rfl)) (by rw [hpl.out];rfl) (fun wq hE hK=> ?_) ?_
  ·unfold StepOk
   go_simp
   refine (Wr x _ _ (by decide)).mono ?_
   rintro e w' ⟨rfl,rfl⟩
   exact ⟨rfl,Below.refl _ _⟩
  refine ms5 ⟨?_⟩;refine xM (u:= .int .u32 (wv (YH x 19))) (by first|rfl|(rw [hops.out];rfl)) (by rw [hpl.out];rfl) (fun wq hE hK=> ?_) ?_
  ·unfold StepOk
   go_simp
   refine (Wr x _ _ (by decide)).mono ?_
   rintro e w' ⟨rfl,rfl⟩
   exact ⟨rfl,Below.refl _ _⟩
  refine ms5 ⟨?_⟩;refine wo fun w' hE hK=>hF.out _ _ ?_
  go_wp2
  go_ret
  exact ⟨rfl,hE⟩
theorem yR {n:Int} (h0:0≤n) (h1:n<9223372036854775808):IntKind.i64.wrap n=n:=by rw [IntKind.wrap_i64];omega
def Qj:List UInt32:=[1779033703,3144134277,1013904242,2773480762,1359893119,2600822924,528734635,1541459225]
theorem y7 {P:Program} {t:TypeId} {v:Value} {n:Nat} (h:(P.info? t).map (fun i=>(i.zero,i.size))=some (some v,n)):(P.info? t).map (·.size)=some n:=(zero_of_info h).2
theorem Pl:Tryz.prog.underlying 201=some (.int .u32):=by kernel_rfl
theorem zj6:Tryz.prog.underlying 5=some (.int .u8):=by kernel_rfl
theorem WY:(Tryz.prog.info? 201).map (·.size)=some 1:=by kernel_rfl
theorem ziA:(Tryz.prog.info? 5).map (·.size)=some 1:=by kernel_rfl
theorem zkL (b:List UInt8) (hb:b.length=64) (j:Nat) (h:j<64) (w:World):(Instr.index 234 (.agg (b8s b)) (.int .i64 (j:Int))).run Tryz.prog w= .ok (.int .u8 (b.getD j 0).toNat) w:=
 qk kA zj6 ziA (by omega) (by omega) (Hp b _ (by omega))
set_option maxHeartbeats 1000000 in
set_option maxRecDepth 100000 in
theorem Pp (b:List UInt8) (hb:b.length=64) (w:World):
 Calls Tryz.prog 330 #[.agg (b8s b)] w fun e w'=>e= .returned (.agg (u32s (qj b)))∧Below w.heap.size w w':=by
 have hz:=Lib.hid (zero_of_info xI).1;obtain ⟨Z,hZ⟩: ∃Z,Z=u32s (List.replicate 64 0):=⟨_,rfl⟩;rw [←hZ] at hz;obtain ⟨B,hB⟩: ∃B,B=b8s b:=⟨_,rfl⟩;have hBs:B.size=64:=by rw [hB,Kl,hb]
 rw [←hB];have HBS:=Lib.hid hBs;have HB0:=Lib.hid hB;have HZ:=Lib.hid hZ;clear hBs hB hZ
 go_enter Tryz.func330,Tryz.ntmps330
 go_wp2_with (first
  |(refine Z0 rfl rfl rfl r1 kA ((y7 Km).trans (by rw [HBS.out])) ?_)
  |(refine YO rfl rfl rfl ?_;intro g1 w1 hg1 r1 hb1;have l1:=r1.lt)
  |(replace r2:=r2;refine z8 rfl rfl hz.out ?_;intro g3 w3 hg3 r3 hb3;replace r1:=r1.bel hb3;replace r2:=r2.bel hb3)
  |(refine z8 rfl rfl hz.out ?_;intro g2 w2 hg2 r2 hb2;replace r1:=r1.bel hb2;have l2:=r2.lt))
 have hb:=Bel.trans _ _ _ (Bel.trans _ _ _ hb1 hb2) hb3;have HB:=Lib.hid hb;rw [HZ.out,←zgV b] at r3;rw [HZ.out] at r2;have hg23:g2<g3:=by omega
 have hwg:w.heap.size≤g2:=by have:=hb1.size;omega
 have R2:=Lib.hid r2;have R3:=Lib.hid r3;clear hb hb1 hb2 hb3 r1 r2 r3 l1 l2
 go_loopw [8] (fun i wr=> ∃j:Nat,i= .int .i64 j∧j≤64∧Row wr g3 244 (u32s (pw b j))∧Row wr g2 244 (u32s (List.replicate 64 0))∧Below w.heap.size w wr) (fun i _=>64 - (intOf i).toNat)
 case atStart=>exact ⟨0,rfl,by omega,R3.out,R2.out,HB.out⟩
 case round=>
  clear R2 R3 HB;obtain ⟨j,rfl,hj,r3,r2,hb⟩:=hrel;have HB:=Lib.hid hb;have R2:=Lib.hid r2;have R3:=Lib.hid r3;clear r2 r3 hb;by_cases hlt:j<64
  ·have hidx:=zkL b hb j hlt;rw [←HB0.out] at hidx;have hcell:=R3.out.w32 (i:=j / 4) (by rw [WG];omega);obtain ⟨x,hx⟩: ∃x,(pw b j).getD (j / 4) 0=x:=⟨_,rfl⟩;obtain ⟨y,hy⟩: ∃y,b.getD j 0=y:=⟨_,rfl⟩;rw [hx] at hcell;simp only [hy] at hidx;have HX:=Lib.hid hx;have HY:=Lib.hid hy;clear hx hy
   go_wp2_with (first
    |(refine yK (v:= .int .u32 (wv (x<<<8|||y.toUInt32))) rfl rfl rfl rfl rfl R3.out WY (by rw [zP,WG];omega) ?_;intro w4 r4 hu4))
   refine ⟨⟨j+1,by go_num,by omega, ?_,R2.out.upd hu4 (by omega),ZV HB.out hu4 (by omega)⟩,by simp [intOf];omega⟩;rw [qx,←HX.out,←HY.out] at r4;rw [zg6 b j (by omega) hlt];simpa [show j / 4<(pw b j).length by rw [WG];omega,show j<b.length by omega] using r4
  ·obtain rfl:j=64:=by omega
   go_wp2
   go_loopw [6] (fun i wr2=> ∃j:Nat,i= .int .i64 (j+16:Nat)∧j≤48∧Row wr2 g3 244 (u32s (spr (pw b 64) j))∧Row wr2 g2 244 (u32s (List.replicate 64 0))∧Below w.heap.size w wr2) (fun i _=>64 - (intOf i).toNat)
   case atStart=>exact ⟨0,rfl,by omega,R3.out,R2.out,HB.out⟩
   case round=>
    rename_i wr2;clear R2 R3 HB hj hlt;obtain ⟨j,rfl,hj,r3,r2,hb⟩:=hrel;have HB:=Lib.hid hb;have R2:=Lib.hid r2;have R3:=Lib.hid r3;clear r2 r3 hb;by_cases hlt:j<48
    ·have hlt2:j+16<64:=by omega
     go_wp2
     obtain ⟨x0,hx0⟩: ∃x,(spr (pw b 64) j).getD j 0=x:=⟨_,rfl⟩;obtain ⟨x1,hx1⟩: ∃x,(spr (pw b 64) j).getD (j+1) 0=x:=⟨_,rfl⟩;obtain ⟨x9,hx9⟩: ∃x,(spr (pw b 64) j).getD (j+9) 0=x:=⟨_,rfl⟩;obtain ⟨x14,hx14⟩: ∃x,(spr (pw b 64) j).getD (j+14) 0=x:=⟨_,rfl⟩;have hL:(spr (pw b 64) j).length=64:=by rw [W5,WG]
     have HX0:=Lib.hid hx0;have HX1:=Lib.hid hx1;have HX9:=Lib.hid hx9;have HX14:=Lib.hid hx14;have HL:=Lib.hid hL;have hv0:=yR (n:=(j:Int)) (by omega) (by omega);have hz0:(j:Int)<64:=by omega
     have hv1:IntKind.i64.wrap ((j:Int)+16 - 15)=(j:Int)+1:=by rw [yR (by omega) (by omega)];omega
     have ht1:((j:Int)+1).toNat=j+1:=by omega
     have hp1:0≤(j:Int)+1:=by omega
     have hz1:(j:Int)+1<64:=by omega
     have hv9:IntKind.i64.wrap ((j:Int)+16 - 7)=(j:Int)+9:=by rw [yR (by omega) (by omega)];omega
     have ht9:((j:Int)+9).toNat=j+9:=by omega
     have hp9:0≤(j:Int)+9:=by omega
     have hz9:(j:Int)+9<64:=by omega
     have hv14:IntKind.i64.wrap ((j:Int)+16 - 2)=(j:Int)+14:=by rw [yR (by omega) (by omega)];omega
     have ht14:((j:Int)+14).toNat=j+14:=by omega
     have hp14:0≤(j:Int)+14:=by omega
     have hz14:(j:Int)+14<64:=by omega
     clear hx0 hx1 hx9 hx14 hL;refine mc5 ⟨?_⟩;refine WQ 23 [(9,MG.val (.int .u32 (wv (sg0 x1)))),(20,MG.val (.int .u32 (wv (sg1 x14))))] (by kernel_rfl) (by kernel_rfl) ?_;intro ops F w0 pl hops hpl hw0 hF;have hw0':=hw0.out
     subst hw0';simp only [List.take_succ_cons,List.take_zero,List.drop_succ_cons,List.drop_zero] at hF ⊢;refine mc6 ⟨?_⟩;refine zX (by first|rfl|(rw [hops.out];rfl)) (by rw [hpl.out];rfl) ?_ (fun wq hE hK=> ?_) ?_;rotate_left
     ·have hc:=(R3.out.bel hE).w32 (i:=j) (by rw [HL.out];omega)
      rw [HX0.out] at hc;clear hE hK
      go_simp
      rfl
     refine ms5 ⟨?_⟩;refine zX (by first|rfl|(rw [hops.out];rfl)) (by rw [hpl.out];rfl) ?_ (fun wq hE hK=> ?_) ?_;rotate_left
     ·have hc:=(R3.out.bel hE).w32 (i:=j+1) (by rw [HL.out];omega)
      rw [HX1.out] at hc;clear hE hK
      go_simp
      rfl
     refine ms5 ⟨?_⟩;refine xM (u:= .int .u32 (wv (sg0 x1))) (by first|rfl|(rw [hops.out];rfl)) (by rw [hpl.out];rfl) (fun wq hE hK=> ?_) ?_
     ·unfold StepOk;clear hK
      go_simp
      refine (JU x1 7 18 3 7 18 3 _ (by decide)).mono ?_
      rintro e w' ⟨rfl,hb⟩
      exact ⟨rfl,hb⟩
     refine ms5 ⟨?_⟩;refine zX (by first|rfl|(rw [hops.out];rfl)) (by rw [hpl.out];rfl) ?_ (fun wq hE hK=> ?_) ?_;rotate_left
     ·have hc:=(R3.out.bel hE).w32 (i:=j+9) (by rw [HL.out];omega)
      rw [HX9.out] at hc;clear hE hK
      go_simp
      rfl
     refine ms5 ⟨?_⟩;refine zX (by first|rfl|(rw [hops.out];rfl)) (by rw [hpl.out];rfl) ?_ (fun wq hE hK=> ?_) ?_;rotate_left
     ·have hc:=(R3.out.bel hE).w32 (i:=j+14) (by rw [HL.out];omega)
      rw [HX14.out] at hc;clear hE hK
      go_simp
      rfl
     refine ms5 ⟨?_⟩;refine xM (u:= .int .u32 (wv (sg1 x14))) (by first|rfl|(rw [hops.out];rfl)) (by rw [hpl.out];rfl) (fun wq hE hK=> ?_) ?_
     ·unfold StepOk;clear hK
      go_simp
      refine (JU x14 17 19 10 17 19 10 _ (by decide)).mono ?_
      rintro e w' ⟨rfl,hb⟩
      exact ⟨rfl,hb⟩
     refine ms5 ⟨?_⟩;refine wo fun w' hE hK=>hF.out _ _ ?_
     clear hK;have r3:=R3.out.bel hE;refine yK (v:= .int .u32 (wv (x0+sg0 x1+x9+sg1 x14))) rfl rfl rfl rfl rfl r3 WY (by rw [zP,HL.out];omega) ?_;intro w5 r5 hu5
     go_wp2
     refine ⟨⟨j+1,by push_cast;omega,by omega, ?_,(R2.out.bel hE).upd hu5 (by omega),ZV (xR HB.out hE HB.out.size) hu5 (by omega)⟩,by simp [intOf];omega⟩;rw [qx,←HX0.out,←HX1.out,←HX9.out,←HX14.out,show ((j:Int)+16).toNat=16+j by omega] at r5
     have e:PW (spr (pw b 64) j) (16+j)=(spr (pw b 64) j).getD j 0+sg0 ((spr (pw b 64) j).getD (j+1) 0)+(spr (pw b 64) j).getD (j+9) 0+sg1 ((spr (pw b 64) j).getD (j+14) 0):=by
      unfold PW;rw [show 16+j - 16=j by omega,show 16+j - 15=j+1 by omega,show 16+j - 7=j+9 by omega,show 16+j - 2=j+14 by omega]
     rw [spr,e];exact r5
    ·obtain rfl:j=48:=by omega
     have hsz:(Tryz.prog.info? 244).map (·.size)=some (u32s (spr (pw b 64) 48)).size:=(y7 xI).trans (by rw [zP,W5,WG])
     go_wp2_with (first
      |(refine Z0 rfl rfl rfl R3.out qV hsz ?_)
      |(refine z6 rfl rfl rfl rfl R2.out hsz (by rw [zP,zP,W5,WG];rfl) (Y3 _) ?_;intro w5 r5 hu5))
     exact vA rfl rfl r5 qV hsz ⟨rfl,ZV HB.out hu5 hwg⟩
theorem Ti (w:World):Calls Tryz.prog 299 #[] w fun e w'=>e= .returned (.agg (u32s Qj))∧Below w.heap.size w w':=by
 have hz:=Lib.hid (zero_of_info xT).1
 go_enter Tryz.func299,Tryz.ntmps299
 go_wp2_with (first
  |(refine z8 rfl rfl hz.out ?_;intro g2 w2 hg2 r2 hb2)
  |(refine z6 (cells:=u32s Qj) rfl rfl rfl rfl r2 (y7 xT) rfl (Y3 _) ?_;intro w3 r3 hu3))
 exact vA rfl rfl r3 qQ (y7 xT) ⟨rfl,ZV hb2 hu3 hg2⟩
def TabB (w:World):Prop:=2<w.heap.size∧ ∀j v,(u32s nums)[j]?=some v→w.cell? ⟨2,j,none⟩=some v
theorem TabB.bel {w w':World} (h:TabB w) (hb:Bel w w'):TabB w':=⟨Nat.lt_of_lt_of_le h.1 hb.size,fun j v hv=>(hb.cell (p:=⟨_,j,none⟩) h.1).trans (h.2 j v hv)⟩
theorem TabB.upd {w w':World} {g:Nat} (h:TabB w) (hu:Upd g w w') (hg:2≠g):TabB w':=⟨by rw [hu.size];exact h.1,fun j v hv=>by
 have:=h.2 j v hv
 unfold World.cell? at this ⊢;rw [hu.block _ hg];exact this⟩
theorem kf {ops:Array Oper} {rest:List Oper} {o:Oper} {a:Act} {w:World} {Q:Exit→Act→World→Prop} (hgd:o.guard=none) (ho:o.op= .load 244 (.global 2)) (hT:TabB w)
 (h:wpList Tryz.prog ops Q rest (a.put o.dst (.agg (u32s nums))) w):wpList Tryz.prog ops Q (o::rest) a w:=by
 refine wpList_plain hgd fun K hK=> ?_
 have hl:(loadCells ⟨2,0,none⟩ 64).run Tryz.prog w= .ok (u32s nums) w:=by
  have:=run_loadCells_list (P:=Tryz.prog) w ⟨2,0,none⟩ (u32s nums).toList (fun j v hv=>by
   have hadd:(⟨2,0,none⟩:Addr).add j=⟨2,j,none⟩:=by unfold Addr.add;split <;>simp_all
   rw [hadd];exact hT.2 j v (by simpa using hv))
  have h64:(u32s nums).toList.length=64:=rfl
  rw [h64] at this;simpa using this
 have hu:=run_underlying qV w
 obtain ⟨i,hi⟩: ∃i,Tryz.prog.info? 244=some i:=by
  have:=y7 xI
  cases hq:Tryz.prog.info? 244 with
  |none=>simp [hq] at this
  |some i=>exact ⟨i,rfl⟩
 have hs:i.size=64:=by have:=y7 xI;simpa [hi] using this
 unfold Oper.wp execOp;simp [ho,Act.eval,Instr.loadAt,Instr.sureAddr,loadVar,isAgg,hu,sizeOf,typeInfo,hi,hs,hl,Sem.run_bind]
 exact hK _ _ h
theorem wc (b:List UInt8):(qj b).length=64:=by unfold qj;rw [W5,WG]
theorem Td:nums.length=64:=rfl
def acc (h v:List UInt32) (i:Nat):List UInt32:=(List.range 8).map fun j=>if j<i then h.getD j 0+v.getD j 0 else h.getD j 0
theorem qc (h v:List UInt32) (i:Nat):(acc h v i).length=8:=by simp [acc]
theorem tr (h v:List UInt32) (hh:h.length=8):acc h v 0=h:=by
 apply List.ext_getElem
 ·simp [acc,hh]
 ·intro j h1 h2;simp [acc,List.getD_eq_getElem?_getD,h2]
theorem zgr (h v:List UInt32) (i:Nat) (hi:i<8):(acc h v i).getD i 0=h.getD i 0:=by simp [acc,List.getD_eq_getElem?_getD,hi]
theorem tN (h v:List UInt32) (i:Nat) (hi:i<8):acc h v (i+1)=(acc h v i).set i (h.getD i 0+v.getD i 0):=by
 apply List.ext_getElem
 ·simp [acc]
 ·intro j h1 h2;rw [List.getElem_set];simp only [acc,List.getElem_map,List.getElem_range];by_cases hj:i=j
  ·subst hj;simp
  ·rw [if_neg hj];by_cases hlt:j<i
   ·rw [if_pos (by omega),if_pos hlt]
   ·rw [if_neg (by omega),if_neg hlt]
theorem u6 (h v:List UInt32) (hh:h.length=8) (hv:v.length=8):acc h v 8=List.zipWith (· + ·) h v:=by
 apply List.ext_getElem
 ·simp [acc,hh,hv]
 ·intro j h1 h2;rw [List.length_zipWith] at h2;have hj:j<8:=by rw [qc] at h1;exact h1
  simp [acc,List.getD_eq_getElem?_getD,hj,show j<h.length by omega,show j<v.length by omega]
theorem zkB (j:Nat) (h:j<64) (w:World):(Instr.index 244 (.agg (u32s nums)) (.int .i64 (j:Int))).run Tryz.prog w= .ok (.int .u32 (wv (nums.getD j 0))) w:=
 qk qV Pl WY (by omega) (by omega) (Kr nums _ (by rw [Td];omega))
theorem zk6 (l:List UInt32) (hl:l.length=8) (j:Nat) (h:j<8) (w:World):(Instr.index 202 (.agg (u32s l)) (.int .i64 (j:Int))).run Tryz.prog w= .ok (.int .u32 (wv (l.getD j 0))) w:=
 qk qQ Pl WY (by omega) (by omega) (Kr l _ (by omega))
set_option maxHeartbeats 4000000 in
set_option maxRecDepth 100000 in
theorem za0 (h:List UInt32) (b:List UInt8) (hh:h.length=8) (hb:b.length=64) (w:World) (hT:TabB w):
 Calls Tryz.prog 314 #[.agg (u32s h), .agg (b8s b)] w fun e w'=>e= .returned (.agg (u32s (mix h b)))∧Below w.heap.size w w':=by
 have hz:=Lib.hid (zero_of_info xI).1;have hz8:=Lib.hid (zero_of_info xT).1;obtain ⟨Z,hZ⟩: ∃Z,Z=u32s (List.replicate 64 0):=⟨_,rfl⟩;rw [←hZ] at hz;obtain ⟨Z8,hZ8⟩: ∃Z,Z=u32s (List.replicate 8 0):=⟨_,rfl⟩;rw [←hZ8] at hz8;obtain ⟨B,hB⟩: ∃B,B=b8s b:=⟨_,rfl⟩;have hBs:B.size=64:=by rw [hB,Kl,hb]
 obtain ⟨H,hH⟩: ∃H,H=u32s h:=⟨_,rfl⟩;have hHs:H.size=8:=by rw [hH,zP,hh]
 rw [←hB,←hH];have HBS:=Lib.hid hBs;have HHS:=Lib.hid hHs;have HB0:=Lib.hid hB;have HH0:=Lib.hid hH;have HZ:=Lib.hid hZ;have HZ8:=Lib.hid hZ8;have HT:=Lib.hid hT;obtain ⟨N,hN⟩: ∃N,N=u32s nums:=⟨_,rfl⟩;have HN:=Lib.hid hN;clear hBs hB hZ hZ8 hH hHs hT hN
 go_enter Tryz.func314,Tryz.ntmps314
 go_wp2_with (first
  |(replace r2:=r2;refine YO rfl rfl rfl ?_;intro g3 w3 hg3 r3 hb3;replace r2:=r2.bel hb3;have l3:=r3.lt)
  |(refine YO rfl rfl rfl ?_;intro g2 w2 hg2 r2 hb2;have l2:=r2.lt)
  |(refine z8 rfl rfl hz8.out ?_;intro g4 w4 hg4 r4 hb4;replace r2:=r2.bel hb4;replace r3:=r3.bel hb4;have l4:=r4.lt))
 have hb1:=Bel.trans _ _ _ (Bel.trans _ _ _ hb2 hb3) hb4;have HB:=Lib.hid hb1;have hg23:g2<g3:=by omega
 have hg34:g3<g4:=by omega
 have hwg:w.heap.size≤g2:=hg2
 rw [HH0.out] at r2;have R2:=Lib.hid r2;have R3:=Lib.hid r3;have R4:=Lib.hid r4;clear r2 r3 r4 hb2 hb3 hb4 hb1 l2 l3 l4;obtain ⟨x0,hx0⟩: ∃x,h.getD 0 0=x:=⟨_,rfl⟩;obtain ⟨x1,hx1⟩: ∃x,h.getD 1 0=x:=⟨_,rfl⟩;obtain ⟨x2,hx2⟩: ∃x,h.getD 2 0=x:=⟨_,rfl⟩;obtain ⟨x3,hx3⟩: ∃x,h.getD 3 0=x:=⟨_,rfl⟩;obtain ⟨x4,hx4⟩: ∃x,h.getD 4 0=x:=⟨_,rfl⟩;obtain ⟨x5,hx5⟩: ∃x,h.getD 5 0=x:=⟨_,rfl⟩;obtain ⟨x6,hx6⟩: ∃x,h.getD 6 0=x:=⟨_,rfl⟩;obtain ⟨x7,hx7⟩: ∃x,h.getD 7 0=x:=⟨_,rfl⟩;have hst:uP h=⟨x0,x1,x2,x3,x4,x5,x6,x7⟩:=by unfold uP;rw [hx0,hx1,hx2,hx3,hx4,hx5,hx6,hx7]
 have HX0:=Lib.hid hx0;have HX1:=Lib.hid hx1;have HX2:=Lib.hid hx2;have HX3:=Lib.hid hx3;have HX4:=Lib.hid hx4;have HX5:=Lib.hid hx5;have HX6:=Lib.hid hx6;have HX7:=Lib.hid hx7;clear hx0 hx1 hx2 hx3 hx4 hx5 hx6 hx7;have HST:=Lib.hid hst;clear hst;refine mc5 ⟨?_⟩;refine XF [] (by kernel_rfl) (by kernel_rfl) ?_;intro ops F w0 pl hops hpl hw0 hF;have hw0':=hw0.out
 subst hw0';refine mc6 ⟨?_⟩;refine zX (by first|rfl|(rw [hops.out];rfl)) (by rw [hpl.out];rfl) ?_ (fun wq hE hK=> ?_) ?_;rotate_left
 ·have hc:=(R2.out.bel hE).w32 (i:=0) (by rw [hh];omega)
  rw [HX0.out] at hc;clear hE hK
  go_simp
  rfl
 refine ms5 ⟨?_⟩;refine zX (by first|rfl|(rw [hops.out];rfl)) (by rw [hpl.out];rfl) ?_ (fun wq hE hK=> ?_) ?_;rotate_left
 ·have hc:=(R2.out.bel hE).w32 (i:=1) (by rw [hh];omega)
  rw [HX1.out] at hc;clear hE hK
  go_simp
  rfl
 refine ms5 ⟨?_⟩;refine zX (by first|rfl|(rw [hops.out];rfl)) (by rw [hpl.out];rfl) ?_ (fun wq hE hK=> ?_) ?_;rotate_left
 ·have hc:=(R2.out.bel hE).w32 (i:=2) (by rw [hh];omega)
  rw [HX2.out] at hc;clear hE hK
  go_simp
  rfl
 refine ms5 ⟨?_⟩;refine zX (by first|rfl|(rw [hops.out];rfl)) (by rw [hpl.out];rfl) ?_ (fun wq hE hK=> ?_) ?_;rotate_left
 ·have hc:=(R2.out.bel hE).w32 (i:=3) (by rw [hh];omega)
  rw [HX3.out] at hc;clear hE hK
  go_simp
  rfl
 refine ms5 ⟨?_⟩;refine zX (by first|rfl|(rw [hops.out];rfl)) (by rw [hpl.out];rfl) ?_ (fun wq hE hK=> ?_) ?_;rotate_left
 ·have hc:=(R2.out.bel hE).w32 (i:=4) (by rw [hh];omega)
  rw [HX4.out] at hc;clear hE hK
  go_simp
  rfl
 refine ms5 ⟨?_⟩;refine zX (by first|rfl|(rw [hops.out];rfl)) (by rw [hpl.out];rfl) ?_ (fun wq hE hK=> ?_) ?_;rotate_left
 ·have hc:=(R2.out.bel hE).w32 (i:=5) (by rw [hh];omega)
  rw [HX5.out] at hc;clear hE hK
  go_simp
  rfl
 refine ms5 ⟨?_⟩;refine zX (by first|rfl|(rw [hops.out];rfl)) (by rw [hpl.out];rfl) ?_ (fun wq hE hK=> ?_) ?_;rotate_left
 ·have hc:=(R2.out.bel hE).w32 (i:=6) (by rw [hh];omega)
  rw [HX6.out] at hc;clear hE hK
  go_simp
  rfl
 refine ms5 ⟨?_⟩;refine zX (by first|rfl|(rw [hops.out];rfl)) (by rw [hpl.out];rfl) ?_ (fun wq hE hK=> ?_) ?_;rotate_left
 ·have hc:=(R2.out.bel hE).w32 (i:=7) (by rw [hh];omega)
  rw [HX7.out] at hc;clear hE hK
  go_simp
  rfl
 refine ms5 ⟨?_⟩;refine wo fun w' hE hK=>hF.out _ _ ?_
 clear hK;have HBE:=Lib.hid hE;have hsz:(Tryz.prog.info? 244).map (·.size)=some (u32s (qj b)).size:=(y7 xI).trans (by rw [zP,wc])
 go_wp2_with (first
  |(refine Z0 rfl rfl rfl (R3.out.bel HBE.out) kA ((y7 Km).trans (by rw [HBS.out])) ?_)
  |(go_at_call 330;rw [HB0.out];refine (Pp b hb _).mono ?_;rintro e w5 ⟨rfl,hb5⟩;have HB5:=Lib.hid hb5;clear hb5)
  |(refine z8 rfl rfl hz.out ?_;intro g5 w6 hg5 r5 hb6;rw [HZ.out] at r5;have l5:=r5.lt;have R5:=Lib.hid r5;have HB6:=Lib.hid hb6;clear r5 hb6)
  |(refine z6 rfl rfl rfl rfl R5.out hsz (by rw [zP,zP,wc];rfl) (Y3 _) ?_;intro w7 r5 hu7;have R7:=Lib.hid r5;have HU7:=Lib.hid hu7;clear r5 hu7)
  |(refine kf rfl rfl (((HT.out.bel (Bel.trans _ _ _ (Bel.trans _ _ _ HB.out HBE.out) (Bel.trans _ _ _ HB5.out HB6.out))).upd HU7.out (by have:=HT.out.1;have:=HB.out.size;have:=HBE.out.size;have:=HB5.out.size;omega))) ?_;rw [←HN.out]))
 have hw06:=Bel.trans _ _ _ (Bel.trans _ _ _ HB.out HBE.out) (Bel.trans _ _ _ HB5.out HB6.out);have hw5:=(Bel.trans _ _ _ (Bel.trans _ _ _ HB.out HBE.out) HB5.out).size
 have hq0:=(Bel.trans _ _ _ HBE.out HB5.out).size
 have q2:=R2.out.lt;have q4:=R4.out.lt;have hb7:=ZV hw06 HU7.out (by omega);have r2:=((((R2.out.bel HBE.out).bel HB5.out).bel HB6.out).upd HU7.out (by omega))
 have r4:=((((R4.out.bel HBE.out).bel HB5.out).bel HB6.out).upd HU7.out (by omega))
 have hg45:g4<g5:=by omega
 have R2:=Lib.hid r2;have R4:=Lib.hid r4;have HB7:=Lib.hid hb7;clear hw06 hw5 hq0 q2 q4 hb7 r2 r4 HU7 HB6 HB5 HBE HB R5 R3 hE
 go_loopw [5,6,7,8,9,10,11,12,39] (fun a b' c d e f g z i wr=> ∃(t:Nat) (s:BSt),i= .int .i64 t∧t≤64∧Qc b (uP h) t=s∧a= .int .u32 (wv s.a)∧b'= .int .u32 (wv s.b)∧c= .int .u32 (wv s.c)∧d= .int .u32 (wv s.d)∧e= .int .u32 (wv s.e)∧f= .int .u32 (wv s.f)∧g= .int .u32 (wv s.g)∧z= .int .u32 (wv s.z)∧Bel w7 wr) (fun _ _ _ _ _ _ _ _ i _=>64 - (intOf i).toNat)
 case atStart=>exact ⟨0,⟨x0,x1,x2,x3,x4,x5,x6,x7⟩,rfl,by omega,HST.out,rfl,rfl,rfl,rfl,rfl,rfl,rfl,rfl,Below.refl _ _⟩
 case round=>
  obtain ⟨t,s,rfl,ht,hs,rfl,rfl,rfl,rfl,rfl,rfl,rfl,rfl,hbr⟩:=hrel;obtain ⟨a1,b1,c1,d1,e1,f1,g1,z1⟩:=s;simp only at*;have HS:=Lib.hid hs;have HBR:=Lib.hid hbr;clear hs hbr;by_cases hlt:t<64
  ·have hidx:=zkB t hlt;rw [←HN.out] at hidx;obtain ⟨n,hn⟩: ∃n,nums.getD t 0=n:=⟨_,rfl⟩;obtain ⟨x,hx⟩: ∃n,(qj b).getD t 0=n:=⟨_,rfl⟩;simp only [hn] at hidx;have HNN:=Lib.hid hn;have HX:=Lib.hid hx;have hlt':(t:Int)<64:=by omega
   clear hn hx
   go_wp2
   refine mc5 ⟨?_⟩;refine XF [(2,MG.val (.int .u32 (wv (bg1 e1))))] (by kernel_rfl) (by kernel_rfl) ?_;intro ops F w0 pl hops hpl hw0 hF;have hw0':=hw0.out
   subst hw0';refine mc6 ⟨?_⟩;refine xM (u:= .int .u32 (wv (bg1 e1))) (by first|rfl|(rw [hops.out];rfl)) (by rw [hpl.out];rfl) (fun wq hE hK=> ?_) ?_
   ·unfold StepOk;clear hK
    go_simp
    refine (VV e1 6 11 25 6 11 25 _ (by decide)).mono ?_
    rintro e w' ⟨rfl,rfl⟩
    exact ⟨rfl,Below.refl _ _⟩
   refine ms5 ⟨?_⟩;refine zX (by first|rfl|(rw [hops.out];rfl)) (by rw [hpl.out];rfl) ?_ (fun wq hE hK=> ?_) ?_;rotate_left
   ·have hc:=(R7.out.bel (Bel.trans _ _ _ HBR.out hE)).w32 (i:=t) (by rw [wc];omega)
    rw [HX.out] at hc;clear hE hK
    go_simp
    rfl
   refine ms5 ⟨?_⟩;refine wo fun w' hE hK=>hF.out _ _ ?_
   clear hK;have HE:=Lib.hid hE
   go_wp2_with (first
    |(go_at_call 331;refine (VV a1 2 13 22 2 13 22 _ (by decide)).mono ?_;rintro e w' ⟨rfl,rfl⟩))
   refine ⟨⟨t+1,rnd ⟨a1,b1,c1,d1,e1,f1,g1,z1⟩ n x,by go_num,by omega,by rw [Qc,HS.out,HNN.out,HX.out], ?_,rfl,rfl,rfl, ?_,rfl,rfl,rfl,Bel.trans _ _ _ HBR.out HE.out⟩,by simp [intOf];omega⟩
   ·simp only [Vx];rfl
   ·simp only [Vx];rfl
  ·obtain rfl:t=64:=by omega
   have r2:=R2.out.bel HBR.out;have r4:=R4.out.bel HBR.out;have hb7:=xR HB7.out HBR.out HB7.out.size;have R2:=Lib.hid r2;have R4:=Lib.hid r4;have HB:=Lib.hid hb7;clear r2 r4 hb7 HBR;have hi8:=zk6 [a1,b1,c1,d1,e1,f1,g1,z1] rfl;have HI8:=Lib.hid hi8;clear hi8;have HSL:=Lib.hid (show (Qc b (uP h) 64).list=[a1,b1,c1,d1,e1,f1,g1,z1] by rw [HS.out];rfl);generalize hLL:[a1,b1,c1,d1,e1,f1,g1,z1]=L at*;have hL8:L.length=8:=by rw [←hLL];rfl
   have hU:u32s L= #[.int .u32 (wv a1), .int .u32 (wv b1), .int .u32 (wv c1), .int .u32 (wv d1), .int .u32 (wv e1), .int .u32 (wv f1), .int .u32 (wv g1), .int .u32 (wv z1)]:=by rw [←hLL];rfl
   rw [hU] at HI8;clear hLL hU
   go_wp2
   simp only [show ((64:Nat):Int)=64 from rfl]
   go_loopw [97] (fun i wr2=> ∃t:Nat,i= .int .i64 t∧t≤8∧Row wr2 g2 202 (u32s (acc h L t))∧Row wr2 g4 202 Z8∧Below w.heap.size w wr2) (fun i _=>8 - (intOf i).toNat)
   case atStart=>exact ⟨0,rfl,by omega,by rw [tr h L hh];exact R2.out,R4.out,HB.out⟩
   case round=>
    clear R2 R4 HB;obtain ⟨t,rfl,ht,r2,r4,hb⟩:=hrel;have R2:=Lib.hid r2;have R4:=Lib.hid r4;have HB:=Lib.hid hb;clear r2 r4 hb;by_cases hlt:t<8
    ·have hidx:=HI8.out t hlt;have hlt':(t:Int)<8:=by omega
     have hc:=R2.out.w32 (i:=t) (by rw [qc];omega);rw [zgr h L t hlt] at hc;obtain ⟨n,hn⟩: ∃n,L.getD t 0=n:=⟨_,rfl⟩;obtain ⟨x,hx⟩: ∃n,h.getD t 0=n:=⟨_,rfl⟩;simp only [hn] at hidx;rw [hx] at hc;have HNN:=Lib.hid hn;have HX:=Lib.hid hx;clear hn hx
     go_wp2_with (first
      |(refine yK (v:= .int .u32 (wv (x+n))) rfl rfl rfl rfl rfl R2.out WY (by rw [zP,qc];omega) ?_;intro w8 r8 hu8))
     go_roundw
     case rel=>
      refine ⟨t+1,by go_num,by omega, ?_,R4.out.upd hu8 (by omega),ZV HB.out hu8 (by omega)⟩;rw [tN h L t hlt,←qx,HX.out,HNN.out];simpa using r8
     case measure=>simp [intOf];omega
    ·obtain rfl:t=8:=by omega
     have hsz8:(Tryz.prog.info? 202).map (·.size)=some (u32s (acc h L 8)).size:=(y7 xT).trans (by rw [zP,qc])
     go_wp2_with (first
      |(refine Z0 rfl rfl rfl R2.out qQ hsz8 ?_)
      |(refine z6 rfl rfl rfl rfl R4.out hsz8 (by rw [HZ8.out,zP,zP,qc];rfl) (Y3 _) ?_;intro w9 r9 hu9))
     refine vA rfl rfl r9 qQ hsz8 ⟨?_,ZV HB.out hu9 (by omega)⟩;rw [u6 h L hh hL8,←HSL.out];rfl
def rkn (k:Int):UInt32:=UInt32.ofNat k.toNat
theorem YG (x:UInt32) (k:Int) (w:World) (h:k∈[(7:Int),18,17,19,6,11,25,2,13,22]):
 Calls Tryz.prog 317 #[.int .u32 (wv x), .int .i64 k] w fun e w'=>e= .returned (.int .u32 (wv (YH x (rkn k))))∧w=w':=by
 simp only [List.mem_cons,List.not_mem_nil,or_false] at h;rcases h with rfl|rfl|rfl|rfl|rfl|rfl|rfl|rfl|rfl|rfl
 all_goals
  go_enter Tryz.func317,Tryz.ntmps317
  go_wp2
  go_ret
  exact ⟨rfl,rfl⟩
theorem pR (x:UInt32) (k:Int) (w:World) (h:k∈[(3:Int),10]):
 Calls Tryz.prog 332 #[.int .u32 (wv x), .int .i64 k] w fun e w'=>e= .returned (.int .u32 (wv (x>>>rkn k)))∧w=w':=by
 simp only [List.mem_cons,List.not_mem_nil,or_false] at h;rcases h with rfl|rfl
 all_goals
  go_enter Tryz.func332,Tryz.ntmps332
  go_wp2
  go_ret
  exact ⟨rfl,rfl⟩
theorem pG (w:World):Calls Tryz.prog 307 #[] w fun e w'=>e= .returned (.agg (u32s Qj))∧Below w.heap.size w w':=by
 have hz:=Lib.hid (zero_of_info xT).1
 go_enter Tryz.func307,Tryz.ntmps307
 go_wp2_with (first
  |(refine z8 rfl rfl hz.out ?_;intro g2 w2 hg2 r2 hb2)
  |(refine z6 (cells:=u32s Qj) rfl rfl rfl rfl r2 (y7 xT) rfl (Y3 _) ?_;intro w3 r3 hu3))
 exact vA rfl rfl r3 qQ (y7 xT) ⟨rfl,ZV hb2 hu3 hg2⟩
def wd (b:List UInt8) (j:Nat):UInt32:=(b.getD (4*j) 0).toUInt32<<<24+(b.getD (4*j+1) 0).toUInt32<<<16+(b.getD (4*j+2) 0).toUInt32<<<8+(b.getD (4*j+3) 0).toUInt32
def pw2 (b:List UInt8) (t:Nat):List UInt32:=(List.range 64).map fun j=>if j<t then wd b j else 0
theorem zgo (b:List UInt8) (t:Nat):(pw2 b t).length=64:=by simp [pw2]
theorem zfK (b:List UInt8):pw2 b 0=List.replicate 64 0:=by unfold pw2;simp;rfl
theorem zcF (b:List UInt8) (t:Nat):pw2 b (t+1)=(pw2 b t).set t (wd b t):=by
 apply List.ext_getElem
 ·simp [pw2]
 ·intro j h1 h2;rw [List.getElem_set];simp only [pw2,List.getElem_map,List.getElem_range];by_cases hj:t=j
  ·subst hj;simp
  ·rw [if_neg hj];by_cases hlt:j<t
   ·rw [if_pos (by omega),if_pos hlt]
   ·rw [if_neg (by omega),if_neg hlt]
theorem Vk (a b:UInt32) (n:Nat) (ha:a.toNat % 2^n=0) (hb:b.toNat<2^n):a|||b=a+b:=by
 apply UInt32.toNat_inj.1
 have h1:a.toNat=a.toNat / 2^n*2^n:=by have:=Nat.div_add_mod a.toNat (2^n);rw [ha] at this;rw [Nat.mul_comm];omega
 have h2:=Nat.two_pow_add_eq_or_of_lt hb (a.toNat / 2^n);rw [UInt32.toNat_or,UInt32.toNat_add];rw [Nat.mul_comm] at h1;rw [h1,←h2,←h1];have:=(a|||b).toNat_lt
 rw [UInt32.toNat_or,h1,←h2,←h1] at this;omega
theorem be4 (p q r s:UInt8):beU [p,q,r,s]=p.toUInt32<<<24+q.toUInt32<<<16+r.toUInt32<<<8+s.toUInt32:=by
 have hp:=p.toNat_lt;have hq:=q.toNat_lt;have hr:=r.toNat_lt;have hs:=s.toNat_lt;unfold beU;simp only [List.foldl_cons,List.foldl_nil];apply UInt32.toNat_inj.1
 have e0:((0:UInt32)<<<8|||p.toUInt32)=p.toUInt32:=by simp
 rw [e0];rw [Vk (p.toUInt32<<<8) q.toUInt32 8 (by simp [UInt32.toNat_shiftLeft,Nat.shiftLeft_eq] <;>omega) (by simpa using hq)];rw [Vk _ r.toUInt32 8 (by simp [UInt32.toNat_shiftLeft,Nat.shiftLeft_eq] <;>omega) (by simpa using hr)];rw [Vk _ s.toUInt32 8 (by simp [UInt32.toNat_shiftLeft,Nat.shiftLeft_eq] <;>omega) (by simpa using hs)];simp [UInt32.toNat_shiftLeft,Nat.shiftLeft_eq,UInt32.toNat_add]
 omega
theorem zc2 (b:List UInt8) (hb:b.length=64):pw2 b 16=pw b 64:=by
 apply List.ext_getElem
 ·simp [pw,pw2]
 ·intro j h1 h2;simp only [pw,pw2,List.getElem_map,List.getElem_range];rw [show b.take 64=b from List.take_of_length_le (by omega)];by_cases hj:j<16
  ·rw [if_pos hj,wd,←be4];congr 1
   have h0:4*j+3<b.length:=by omega
   apply List.ext_getElem
   ·simp;omega
   ·intro i h3 h4;simp at h3
    rw [List.getElem_take,List.getElem_drop];have:i=0∨i=1∨i=2∨i=3:=by omega
    rcases this with rfl|rfl|rfl|rfl <;>simp [List.getD_eq_getElem?_getD,List.getElem?_eq_getElem (show 4*j<b.length by omega),List.getElem?_eq_getElem (show 4*j+1<b.length by omega),List.getElem?_eq_getElem (show 4*j+2<b.length by omega),List.getElem?_eq_getElem h0]
  ·rw [if_neg hj,List.drop_eq_nil_of_le (by omega)];rfl
set_option maxHeartbeats 2000000 in
set_option maxRecDepth 100000 in
theorem uL (b:List UInt8) (hb:b.length=64) (w:World):
 Calls Tryz.prog 315 #[.agg (b8s b)] w fun e w'=>e= .returned (.agg (u32s (qj b)))∧Below w.heap.size w w':=by
 have hz:=Lib.hid (zero_of_info xI).1;obtain ⟨Z,hZ⟩: ∃Z,Z=u32s (List.replicate 64 0):=⟨_,rfl⟩;rw [←hZ] at hz;obtain ⟨B,hB⟩: ∃B,B=b8s b:=⟨_,rfl⟩;rw [←hB];have HB0:=Lib.hid hB;have HZ:=Lib.hid hZ;clear hB hZ;have hsz:(Tryz.prog.info? 244).map (·.size)=some (u32s (List.replicate 64 0)).size:=(y7 xI).trans (by rw [zP];rfl)
 have HSZ:=Lib.hid hsz;clear hsz
 go_enter Tryz.func315,Tryz.ntmps315
 go_wp2_with (first
  |(refine YO rfl rfl rfl ?_;intro g1 w1 hg1 r1 hb1;have l1:=r1.lt)
  |(replace r2:=r2;refine z8 rfl rfl hz.out ?_;intro g3 w3 hg3 r3 hb3;replace r1:=r1.bel hb3;replace r2:=r2.bel hb3)
  |(refine z8 rfl rfl hz.out ?_;intro g2 w2 hg2 r2 hb2;replace r1:=r1.bel hb2;have l2:=r2.lt)
  |(rw [HZ.out] at r3 r2;refine z6 (cells:=u32s (List.replicate 64 0)) rfl rfl rfl rfl r3 HSZ.out rfl (Y3 _) ?_;intro w4 r4 hu4))
 have hg12:g1<g2:=by omega
 have hg23:g2<g3:=by omega
 have hwg:w.heap.size≤g1:=hg1
 have hb:=ZV (Bel.trans _ _ _ (Bel.trans _ _ _ hb1 hb2) hb3) hu4 (by omega);have HB:=Lib.hid hb;have R1:=Lib.hid (r1.upd hu4 (by omega));have R2:=Lib.hid (r2.upd hu4 (by omega));rw [←zfK b] at r4;have R3:=Lib.hid r4;rw [HB0.out] at R1;clear hb hb1 hb2 hb3 r1 r2 r3 r4 l1 l2 hu4
 go_loopw [4] (fun i wr=> ∃j:Nat,i= .int .i64 j∧j≤16∧Row wr g3 244 (u32s (pw2 b j))∧Row wr g2 244 (u32s (List.replicate 64 0))∧Row wr g1 234 (b8s b)∧Below w.heap.size w wr) (fun i _=>16 - (intOf i).toNat)
 case atStart=>exact ⟨0,rfl,by omega,R3.out,R2.out,R1.out,HB.out⟩
 case round=>
  clear R1 R2 R3 HB;obtain ⟨t,rfl,ht,r3,r2,r1,hb'⟩:=hrel;have HB:=Lib.hid hb';have R1:=Lib.hid r1;have R2:=Lib.hid r2;have R3:=Lib.hid r3;clear r1 r2 r3 hb';by_cases hlt:t<16
  ·have hlt':(t:Int)<16:=by omega
   go_wp2
   obtain ⟨y0,hy0⟩: ∃x,b.getD (4*t) 0=x:=⟨_,rfl⟩;obtain ⟨y1,hy1⟩: ∃x,b.getD (4*t+1) 0=x:=⟨_,rfl⟩;obtain ⟨y2,hy2⟩: ∃x,b.getD (4*t+2) 0=x:=⟨_,rfl⟩;obtain ⟨y3,hy3⟩: ∃x,b.getD (4*t+3) 0=x:=⟨_,rfl⟩;have HY0:=Lib.hid hy0;have HY1:=Lib.hid hy1;have HY2:=Lib.hid hy2;have HY3:=Lib.hid hy3;clear hy0 hy1 hy2 hy3;have hv0:IntKind.i64.wrap (4*(t:Int))=4*(t:Int):=yR (by omega) (by omega)
   have ht0:(4*(t:Int)).toNat=4*t:=by omega
   have hp0:0≤4*(t:Int):=by omega
   have hq0:4*(t:Int)<64:=by omega
   have hv1:IntKind.i64.wrap (4*(t:Int)+1)=4*(t:Int)+1:=yR (by omega) (by omega)
   have ht1:(4*(t:Int)+1).toNat=4*t+1:=by omega
   have hp1:0≤4*(t:Int)+1:=by omega
   have hq1:4*(t:Int)+1<64:=by omega
   have hv2:IntKind.i64.wrap (4*(t:Int)+2)=4*(t:Int)+2:=yR (by omega) (by omega)
   have ht2:(4*(t:Int)+2).toNat=4*t+2:=by omega
   have hp2:0≤4*(t:Int)+2:=by omega
   have hq2:4*(t:Int)+2<64:=by omega
   have hv3:IntKind.i64.wrap (4*(t:Int)+3)=4*(t:Int)+3:=yR (by omega) (by omega)
   have ht3:(4*(t:Int)+3).toNat=4*t+3:=by omega
   have hp3:0≤4*(t:Int)+3:=by omega
   have hq3:4*(t:Int)+3<64:=by omega
   have hlt64:(t:Int)<64:=by omega
   have HBR:=Lib.hid (Below.refl wr.heap.size wr);refine mc5 ⟨?_⟩;refine WQ 31 [] (by kernel_rfl) (by kernel_rfl) ?_;intro ops F w0 pl hops hpl hw0 hF;have hw0':=hw0.out
   subst hw0';simp only [List.take_succ_cons,List.take_zero,List.drop_succ_cons,List.drop_zero] at hF ⊢;refine mc6 ⟨?_⟩;refine zX (by first|rfl|(rw [hops.out];rfl)) (by rw [hpl.out];rfl) ?_ (fun wq hE hK=> ?_) ?_;rotate_left
   ·have hc:=(R1.out.bel (Bel.trans _ _ _ HBR.out hE)).w8 (i:=4*t) (by omega)
    rw [HY0.out] at hc;clear hE hK
    go_simp
    rfl
   refine ms5 ⟨?_⟩;refine zX (by first|rfl|(rw [hops.out];rfl)) (by rw [hpl.out];rfl) ?_ (fun wq hE hK=> ?_) ?_;rotate_left
   ·have hc:=(R1.out.bel (Bel.trans _ _ _ HBR.out hE)).w8 (i:=4*t+1) (by omega)
    rw [HY1.out] at hc;clear hE hK
    go_simp
    rfl
   refine ms5 ⟨?_⟩;refine zX (by first|rfl|(rw [hops.out];rfl)) (by rw [hpl.out];rfl) ?_ (fun wq hE hK=> ?_) ?_;rotate_left
   ·have hc:=(R1.out.bel (Bel.trans _ _ _ HBR.out hE)).w8 (i:=4*t+2) (by omega)
    rw [HY2.out] at hc;clear hE hK
    go_simp
    rfl
   refine ms5 ⟨?_⟩;refine zX (by first|rfl|(rw [hops.out];rfl)) (by rw [hpl.out];rfl) ?_ (fun wq hE hK=> ?_) ?_;rotate_left
   ·have hc:=(R1.out.bel (Bel.trans _ _ _ HBR.out hE)).w8 (i:=4*t+3) (by omega)
    rw [HY3.out] at hc;clear hE hK
    go_simp
    rfl
   refine ms5 ⟨?_⟩;refine wo fun w' hE hK=>hF.out _ _ ?_
   clear hK;have r3:=R3.out.bel hE;refine yK (v:= .int .u32 (wv (y0.toUInt32<<<24+y1.toUInt32<<<16+y2.toUInt32<<<8+y3.toUInt32))) rfl rfl rfl (by simp only [IntKind.wrap_u32,zlw,zcx,zfs,zgn,Vx];rfl) rfl r3 WY (by rw [zP,zgo];omega) ?_;intro w5 r5 hu5
   go_wp2
   refine ⟨⟨t+1,by go_num,by omega, ?_,(R2.out.bel hE).upd hu5 (by omega),(R1.out.bel hE).upd hu5 (by omega),ZV (xR HB.out hE HB.out.size) hu5 (by omega)⟩,by simp [intOf];omega⟩;rw [zcF,←qx,wd,HY0.out,HY1.out,HY2.out,HY3.out];simpa using r5
  ·obtain rfl:t=16:=by omega
   rw [zc2 b hb] at R3;clear R1
   go_wp2
   simp only [show ((16:Nat):Int)=16 from rfl]
   go_loopw [5] (fun i wr2=> ∃j:Nat,i= .int .i64 (j+16:Nat)∧j≤48∧Row wr2 g3 244 (u32s (spr (pw b 64) j))∧Row wr2 g2 244 (u32s (List.replicate 64 0))∧Below w.heap.size w wr2) (fun i _=>64 - (intOf i).toNat)
   case atStart=>exact ⟨0,rfl,by omega,R3.out,R2.out,HB.out⟩
   case round=>
    rename_i wr2;clear R2 R3 HB hlt;obtain ⟨j,rfl,hj,r3,r2,hb'⟩:=hrel;have HB:=Lib.hid hb';have R2:=Lib.hid r2;have R3:=Lib.hid r3;clear r2 r3 hb';by_cases hlt:j<48
    ·have hlt2:j+16<64:=by omega
     obtain ⟨x0,hx0⟩: ∃x,(spr (pw b 64) j).getD j 0=x:=⟨_,rfl⟩;obtain ⟨x1,hx1⟩: ∃x,(spr (pw b 64) j).getD (j+1) 0=x:=⟨_,rfl⟩;obtain ⟨x9,hx9⟩: ∃x,(spr (pw b 64) j).getD (j+9) 0=x:=⟨_,rfl⟩;obtain ⟨x14,hx14⟩: ∃x,(spr (pw b 64) j).getD (j+14) 0=x:=⟨_,rfl⟩;have hL:(spr (pw b 64) j).length=64:=by rw [W5,WG]
     have hc0:=R3.out.w32 (i:=j) (by omega);rw [hx0] at hc0;have HX0:=Lib.hid hx0;have hc1:=R3.out.w32 (i:=j+1) (by omega);rw [hx1] at hc1;have HX1:=Lib.hid hx1;have hc9:=R3.out.w32 (i:=j+9) (by omega);rw [hx9] at hc9;have HX9:=Lib.hid hx9;have hc14:=R3.out.w32 (i:=j+14) (by omega);rw [hx14] at hc14;have HX14:=Lib.hid hx14;have HL:=Lib.hid hL;clear hx0 hx1 hx9 hx14 hL;have hv0:=yR (n:=(j:Int)) (by omega) (by omega);have hz0:(j:Int)<64:=by omega
     have hv1:IntKind.i64.wrap ((j:Int)+16 - 15)=(j:Int)+1:=by rw [yR (by omega) (by omega)];omega
     have ht1:((j:Int)+1).toNat=j+1:=by omega
     have hp1:0≤(j:Int)+1:=by omega
     have hz1:(j:Int)+1<64:=by omega
     have hv9:IntKind.i64.wrap ((j:Int)+16 - 7)=(j:Int)+9:=by rw [yR (by omega) (by omega)];omega
     have ht9:((j:Int)+9).toNat=j+9:=by omega
     have hp9:0≤(j:Int)+9:=by omega
     have hz9:(j:Int)+9<64:=by omega
     have hv14:IntKind.i64.wrap ((j:Int)+16 - 2)=(j:Int)+14:=by rw [yR (by omega) (by omega)];omega
     have ht14:((j:Int)+14).toNat=j+14:=by omega
     have hp14:0≤(j:Int)+14:=by omega
     have hz14:(j:Int)+14<64:=by omega
     go_wp2_with (first
      |(go_at_call 317;refine (YG _ _ _ (by decide)).mono ?_;rintro e w' ⟨rfl,rfl⟩)
      |(go_at_call 332;refine (pR _ _ _ (by decide)).mono ?_;rintro e w' ⟨rfl,rfl⟩))
     clear hc0 hc1 hc9 hc14;have hz16:(j:Int)+16<64:=by omega
     refine mc5 ⟨?_⟩;refine WQ 15 [] (by kernel_rfl) (by kernel_rfl) ?_;intro ops F w0 pl hops hpl hw0 hF;have hw0':=hw0.out
     subst hw0';simp only [List.take_succ_cons,List.take_zero,List.drop_succ_cons,List.drop_zero] at hF ⊢;refine mc6 ⟨?_⟩;refine zX (by first|rfl|(rw [hops.out];rfl)) (by rw [hpl.out];rfl) ?_ (fun wq hE hK=> ?_) ?_;rotate_left
     ·have hc:=(R3.out.bel hE).w32 (i:=j) (by rw [HL.out];omega)
      rw [HX0.out] at hc;clear hE hK
      go_simp
      rfl
     refine ms5 ⟨?_⟩;refine zX (by first|rfl|(rw [hops.out];rfl)) (by rw [hpl.out];rfl) ?_ (fun wq hE hK=> ?_) ?_;rotate_left
     ·have hc:=(R3.out.bel hE).w32 (i:=j+9) (by rw [HL.out];omega)
      rw [HX9.out] at hc;clear hE hK
      go_simp
      rfl
     refine ms5 ⟨?_⟩;refine wo fun w' hE hK=>hF.out _ _ ?_
     clear hK;have r3:=R3.out.bel hE;refine yK (v:= .int .u32 (wv (x0+sg0 x1+x9+sg1 x14))) rfl rfl rfl (by simp only [IntKind.wrap_u32,Vx];rfl) rfl r3 WY (by rw [zP,HL.out];omega) ?_;intro w5 r5 hu5
     go_wp2
     refine ⟨⟨j+1,by first|(push_cast;omega)|go_num|(simp;omega),by omega, ?_,(R2.out.bel hE).upd hu5 (by omega),ZV (xR HB.out hE HB.out.size) hu5 (by omega)⟩,by simp [intOf];omega⟩;rw [qx,←HX0.out,←HX1.out,←HX9.out,←HX14.out,show ((j:Int)+16).toNat=16+j by omega] at r5
     have e:PW (spr (pw b 64) j) (16+j)=(spr (pw b 64) j).getD j 0+sg0 ((spr (pw b 64) j).getD (j+1) 0)+(spr (pw b 64) j).getD (j+9) 0+sg1 ((spr (pw b 64) j).getD (j+14) 0):=by
      unfold PW;rw [show 16+j - 16=j by omega,show 16+j - 15=j+1 by omega,show 16+j - 7=j+9 by omega,show 16+j - 2=j+14 by omega]
     rw [spr,e];exact r5
    ·obtain rfl:j=48:=by omega
     have hsz:(Tryz.prog.info? 244).map (·.size)=some (u32s (spr (pw b 64) 48)).size:=(y7 xI).trans (by rw [zP,W5,WG])
     go_wp2_with (first
      |(refine Z0 rfl rfl rfl R3.out qV hsz ?_)
      |(refine z6 rfl rfl rfl rfl R2.out hsz (by rw [zP,zP,W5,WG];rfl) (Y3 _) ?_;intro w5 r5 hu5))
     exact vA rfl rfl r5 qV hsz ⟨rfl,ZV HB.out hu5 (by omega)⟩
set_option maxRecDepth 100000 in
set_option maxHeartbeats 1000000 in
theorem uH (w:World):Calls Tryz.prog 316 #[] w fun e w'=> ∃g,e= .returned (.slice (some ⟨g,0,none⟩) 64 64)∧Row w' g 201 (u32s nums)∧w.heap.size≤g∧Bel w w':=by
 go_enter Tryz.func316,Tryz.ntmps316
 go_wp2
 go_ret
 exact ⟨_,rfl,Row.new _ _ _,Nat.le_refl _,Jn _ _⟩
theorem ziH (a:UInt32):bits .xor .u32 (if IntKind.u32.signed=true then -1 else IntKind.u32.max) (wv a)=wv (~~~a):=by
 have h:(if IntKind.u32.signed=true then (-1:Int) else IntKind.u32.max)=wv 4294967295:=by decide
 rw [h,Gf];congr 1
theorem zkR (e f g:UInt32):(e &&& f)|||(~~~e &&& g)=chf e f g:=by
 unfold chf;apply UInt32.toBitVec_inj.1
 simp only [UInt32.toBitVec_or,UInt32.toBitVec_and,UInt32.toBitVec_not,UInt32.toBitVec_xor];ext i
 simp only [BitVec.getElem_or,BitVec.getElem_and,BitVec.getElem_not,BitVec.getElem_xor];cases e.toBitVec[i] <;>cases f.toBitVec[i] <;>cases g.toBitVec[i] <;>rfl
theorem zjI (a b c:UInt32):((a &&& b)|||(a &&& c))|||(b &&& c)=maj a b c:=by
 unfold maj;apply UInt32.toBitVec_inj.1
 simp only [UInt32.toBitVec_or,UInt32.toBitVec_and,UInt32.toBitVec_xor];ext i
 simp only [BitVec.getElem_or,BitVec.getElem_and,BitVec.getElem_xor];cases a.toBitVec[i] <;>cases b.toBitVec[i] <;>cases c.toBitVec[i] <;>rfl
set_option maxHeartbeats 4000000 in
set_option maxRecDepth 100000 in
theorem Ga (h:List UInt32) (b:List UInt8) (hh:h.length=8) (hb:b.length=64) (w:World):
 Calls Tryz.prog 306 #[.agg (u32s h), .agg (b8s b)] w fun e w'=>e= .returned (.agg (u32s (mix h b)))∧Below w.heap.size w w':=by
 have hz:=Lib.hid (zero_of_info xI).1;have hz8:=Lib.hid (zero_of_info xT).1;obtain ⟨Z,hZ⟩: ∃Z,Z=u32s (List.replicate 64 0):=⟨_,rfl⟩;rw [←hZ] at hz;obtain ⟨Z8,hZ8⟩: ∃Z,Z=u32s (List.replicate 8 0):=⟨_,rfl⟩;rw [←hZ8] at hz8;obtain ⟨B,hB⟩: ∃B,B=b8s b:=⟨_,rfl⟩;have hBs:B.size=64:=by rw [hB,Kl,hb]
 obtain ⟨H,hH⟩: ∃H,H=u32s h:=⟨_,rfl⟩;have hHs:H.size=8:=by rw [hH,zP,hh]
 rw [←hB,←hH];have HBS:=Lib.hid hBs;have HHS:=Lib.hid hHs;have HB0:=Lib.hid hB;have HH0:=Lib.hid hH;have HZ:=Lib.hid hZ;have HZ8:=Lib.hid hZ8;have hsz:(Tryz.prog.info? 244).map (·.size)=some (u32s (qj b)).size:=(y7 xI).trans (by rw [zP,wc])
 have HSZ:=Lib.hid hsz;have hsz8:(Tryz.prog.info? 202).map (·.size)=some H.size:=(y7 xT).trans (by rw [hHs])
 have HSZ8:=Lib.hid hsz8;have hone:H.all (·.oneCell')=true:=by rw [hH];exact Y3 _
 have HONE:=Lib.hid hone;clear hBs hB hZ hZ8 hH hHs hsz hsz8 hone
 go_enter Tryz.func306,Tryz.ntmps306
 go_wp2_with (first
  |(replace r2:=r2;refine YO rfl rfl rfl ?_;intro g3 w3 hg3 r3 hb3;replace r2:=r2.bel hb3;have l3:=r3.lt)
  |(refine YO rfl rfl rfl ?_;intro g2 w2 hg2 r2 hb2;have l2:=r2.lt)
  |(replace r4:=r4;refine z8 rfl rfl hz8.out ?_;intro g7 w9 hg7 r7 hb9;have p2:=r2.lt;have p4:=r4.lt;have p5:=r5.lt;have p6:=r6.lt;replace r2:=r2.bel hb9;replace r4:=r4.bel hb9;replace r5:=r5.bel hb9;replace r6:=r6.bel hb9)
  |(refine z8 rfl rfl hz8.out ?_;intro g4 w4 hg4 r4 hb4;replace r2:=r2.bel hb4;replace r3:=r3.bel hb4;have l4:=r4.lt)
  |(refine Z0 rfl rfl rfl r3 kA ((y7 Km).trans (by rw [HBS.out])) ?_)
  |(refine Z0 rfl rfl rfl r2 qQ HSZ8.out ?_)
  |(go_at_call 315;rw [HB0.out];refine (uL b hb _).mono ?_;rintro e w5 ⟨rfl,hb5⟩;replace r2:=r2.bel hb5;replace r4:=r4.bel hb5)
  |(refine z8 rfl rfl hz.out ?_;intro g5 w6 hg5 r5 hb6;rw [HZ.out] at r5;have q2:=r2.lt;have q4:=r4.lt;replace r2:=r2.bel hb6;replace r4:=r4.bel hb6;have l5:=r5.lt)
  |(refine z6 rfl rfl rfl rfl r5 HSZ.out (by rw [zP,zP,wc];rfl) (Y3 _) ?_;intro w7 r5 hu7;replace r2:=r2.upd hu7 (by omega);replace r4:=r4.upd hu7 (by omega))
  |(go_at_call 316;refine (uH _).mono ?_;rintro e w8 ⟨g6,rfl,r6,hg6,hb8⟩;replace r2:=r2.bel hb8;replace r4:=r4.bel hb8;replace r5:=r5.bel hb8;have l6:=r6.lt)
  |(refine z6 rfl rfl rfl rfl r7 HSZ8.out (by rw [HZ8.out,HHS.out];rfl) HONE.out ?_;intro w10 r7 hu10))
 have hwg:w.heap.size≤g2:=hg2
 have hwg4:w.heap.size≤g4:=by omega
 have hb10:=ZV (Bel.trans _ _ _ (Bel.trans _ _ _ hb2 hb3) (Bel.trans _ _ _ hb4 (Bel.trans _ _ _ hb5 hb6))) hu7 (by omega);have hb10:=ZV (xR (xR hb10 hb8 hb10.size) hb9 (Nat.le_trans hb10.size hb8.size)) hu10 (by omega);have HB:=Lib.hid hb10;have R2:=Lib.hid (r2.upd hu10 (by omega));have R4:=Lib.hid (r4.upd hu10 (by omega));have R5:=Lib.hid (r5.upd hu10 (by omega));have R6:=Lib.hid (r6.upd hu10 (by omega));rw [HH0.out] at r7
 have hr7:Row w10 g7 202 (u32s (uP h).list):=by
  have e:(uP h).list=h:=by
   match h,hh with
   |[_,_,_,_,_,_,_,_],_=>rfl
  rw [e];exact r7
 have R7:=Lib.hid hr7;clear hb10 hb2 hb3 hb4 hb5 hb6 hu7 hb8 hb9 hu10 r2 r3 r4 r5 r6 r7 hr7 l2 l3 l4 l5 l6 q2 q4
 go_loopw [8] (fun i wr=> ∃(t:Nat),i= .int .i64 t∧t≤64∧Row wr g7 202 (u32s (Qc b (uP h) t).list)∧Row wr g2 202 H∧Row wr g4 202 Z8∧Row wr g5 244 (u32s (qj b))∧Row wr g6 201 (u32s nums)∧Below w.heap.size w wr) (fun i _=>64 - (intOf i).toNat)
 case atStart=>exact ⟨0,rfl,by omega,R7.out,R2.out,R4.out,R5.out,R6.out,HB.out⟩
 case round=>
  clear R2 R4 R5 R6 R7 HB;obtain ⟨t,rfl,ht,r7,r2,r4,r5,r6,hbr⟩:=hrel;obtain ⟨s,hs⟩: ∃s,Qc b (uP h) t=s:=⟨_,rfl⟩;rw [hs] at r7;have HS:=Lib.hid hs;have HB:=Lib.hid hbr;have R2:=Lib.hid r2;have R4:=Lib.hid r4;have R5:=Lib.hid r5;have R6:=Lib.hid r6;by_cases hlt:t<64
  ·obtain ⟨a1,b1,c1,d1,e1,f1,g1,z1⟩:=s;have R7:Hid (Row wr g7 202 (u32s [a1,b1,c1,d1,e1,f1,g1,z1])):=Lib.hid r7
   clear hs hbr r2 r4 r5 r6 r7;obtain ⟨n,hn⟩: ∃n,nums.getD t 0=n:=⟨_,rfl⟩;obtain ⟨x,hx⟩: ∃n,(qj b).getD t 0=n:=⟨_,rfl⟩;have HNN:=Lib.hid hn;have HX:=Lib.hid hx;have hlt':(t:Int)<64:=by omega
   clear hn hx;have hc4:wr.cell? ⟨g7,4,none⟩=some (.int .u32 (wv e1)):=R7.out.w32 (i:=4) (by simp)
   have hc0:wr.cell? ⟨g7,0,none⟩=some (.int .u32 (wv a1)):=R7.out.w32 (i:=0) (by simp)
   go_wp2
   clear hc4 hc0;have HBR:=Lib.hid (Below.refl wr.heap.size wr);refine mc5 ⟨?_⟩;refine XF [(3,MG.val (.int .u32 (wv (YH e1 6)))),(5,MG.val (.int .u32 (wv (YH e1 11)))),(8,MG.val (.int .u32 (wv (YH e1 25))))] (by kernel_rfl) (by kernel_rfl) ?_;intro ops F w0 pl hops hpl hw0 hF;have hw0':=hw0.out
   subst hw0';refine mc6 ⟨?_⟩;refine zX (by first|rfl|(rw [hops.out];rfl)) (by rw [hpl.out];rfl) ?_ (fun wq hE hK=> ?_) ?_;rotate_left
   ·have hc:wq.cell? ⟨g7,7,none⟩=some (.int .u32 (wv z1)):=(R7.out.bel (Bel.trans _ _ _ HBR.out hE)).w32 (i:=7) (by simp)
    clear hE hK
    go_simp
    rfl
   refine ms5 ⟨?_⟩;refine xM (u:= .int .u32 (wv (YH e1 6))) (by first|rfl|(rw [hops.out];rfl)) (by rw [hpl.out];rfl) (fun wq hE hK=> ?_) ?_
   ·unfold StepOk;clear hK
    go_simp
    refine (YG e1 _ _ (by decide)).mono ?_
    rintro e w' ⟨rfl,rfl⟩
    exact ⟨rfl,Below.refl _ _⟩
   refine ms5 ⟨?_⟩;refine xM (u:= .int .u32 (wv (YH e1 11))) (by first|rfl|(rw [hops.out];rfl)) (by rw [hpl.out];rfl) (fun wq hE hK=> ?_) ?_
   ·unfold StepOk;clear hK
    go_simp
    refine (YG e1 _ _ (by decide)).mono ?_
    rintro e w' ⟨rfl,rfl⟩
    exact ⟨rfl,Below.refl _ _⟩
   refine ms5 ⟨?_⟩;refine xM (u:= .int .u32 (wv (YH e1 25))) (by first|rfl|(rw [hops.out];rfl)) (by rw [hpl.out];rfl) (fun wq hE hK=> ?_) ?_
   ·unfold StepOk;clear hK
    go_simp
    refine (YG e1 _ _ (by decide)).mono ?_
    rintro e w' ⟨rfl,rfl⟩
    exact ⟨rfl,Below.refl _ _⟩
   refine ms5 ⟨?_⟩;refine zX (by first|rfl|(rw [hops.out];rfl)) (by rw [hpl.out];rfl) ?_ (fun wq hE hK=> ?_) ?_;rotate_left
   ·have hc:wq.cell? ⟨g7,5,none⟩=some (.int .u32 (wv f1)):=(R7.out.bel (Bel.trans _ _ _ HBR.out hE)).w32 (i:=5) (by simp)
    clear hE hK
    go_simp
    rfl
   refine ms5 ⟨?_⟩;refine zX (by first|rfl|(rw [hops.out];rfl)) (by rw [hpl.out];rfl) ?_ (fun wq hE hK=> ?_) ?_;rotate_left
   ·have hc:wq.cell? ⟨g7,6,none⟩=some (.int .u32 (wv g1)):=(R7.out.bel (Bel.trans _ _ _ HBR.out hE)).w32 (i:=6) (by simp)
    clear hE hK
    go_simp
    rfl
   refine ms5 ⟨?_⟩;refine zX (by first|rfl|(rw [hops.out];rfl)) (by rw [hpl.out];rfl) ?_ (fun wq hE hK=> ?_) ?_;rotate_left
   ·have hc:=(R6.out.bel (Bel.trans _ _ _ HBR.out hE)).w32 (i:=t) (by rw [Td];omega)
    rw [HNN.out] at hc;clear hE hK
    go_simp
    rfl
   refine ms5 ⟨?_⟩;refine zX (by first|rfl|(rw [hops.out];rfl)) (by rw [hpl.out];rfl) ?_ (fun wq hE hK=> ?_) ?_;rotate_left
   ·have hc:=(R5.out.bel (Bel.trans _ _ _ HBR.out hE)).w32 (i:=t) (by rw [wc];omega)
    rw [HX.out] at hc;clear hE hK
    go_simp
    rfl
   refine ms5 ⟨?_⟩;refine wo fun w' hE hK=>hF.out _ _ ?_
   clear hK;have HBR:=Lib.hid (Bel.trans _ _ _ HBR.out hE);clear hE;simp only [IntKind.wrap_u32,ziH,Gf,zfO,zfI,Vx,zkR];obtain ⟨p,hp⟩: ∃p,z1+(YH e1 6^^^YH e1 11^^^YH e1 25)+chf e1 f1 g1+n+x=p:=⟨_,rfl⟩;rw [hp];have HP:=Lib.hid hp;clear hp
   go_wp2
   refine mc5 ⟨?_⟩;refine XF [(1,MG.val (.int .u32 (wv (YH a1 2)))),(3,MG.val (.int .u32 (wv (YH a1 13)))),(6,MG.val (.int .u32 (wv (YH a1 22))))] (by kernel_rfl) (by kernel_rfl) ?_;intro ops F w0 pl hops hpl hw0 hF;have hw0':=hw0.out
   subst hw0';refine mc6 ⟨?_⟩;refine xM (u:= .int .u32 (wv (YH a1 2))) (by first|rfl|(rw [hops.out];rfl)) (by rw [hpl.out];rfl) (fun wq hE hK=> ?_) ?_
   ·unfold StepOk;clear hK
    go_simp
    refine (YG a1 _ _ (by decide)).mono ?_
    rintro e w' ⟨rfl,rfl⟩
    exact ⟨rfl,Below.refl _ _⟩
   refine ms5 ⟨?_⟩;refine xM (u:= .int .u32 (wv (YH a1 13))) (by first|rfl|(rw [hops.out];rfl)) (by rw [hpl.out];rfl) (fun wq hE hK=> ?_) ?_
   ·unfold StepOk;clear hK
    go_simp
    refine (YG a1 _ _ (by decide)).mono ?_
    rintro e w' ⟨rfl,rfl⟩
    exact ⟨rfl,Below.refl _ _⟩
   refine ms5 ⟨?_⟩;refine xM (u:= .int .u32 (wv (YH a1 22))) (by first|rfl|(rw [hops.out];rfl)) (by rw [hpl.out];rfl) (fun wq hE hK=> ?_) ?_
   ·unfold StepOk;clear hK
    go_simp
    refine (YG a1 _ _ (by decide)).mono ?_
    rintro e w' ⟨rfl,rfl⟩
    exact ⟨rfl,Below.refl _ _⟩
   refine ms5 ⟨?_⟩;refine zX (by first|rfl|(rw [hops.out];rfl)) (by rw [hpl.out];rfl) ?_ (fun wq hE hK=> ?_) ?_;rotate_left
   ·have hc:wq.cell? ⟨g7,1,none⟩=some (.int .u32 (wv b1)):=(R7.out.bel (Bel.trans _ _ _ HBR.out hE)).w32 (i:=1) (by simp)
    clear hE hK
    go_simp
    rfl
   refine ms5 ⟨?_⟩;refine zX (by first|rfl|(rw [hops.out];rfl)) (by rw [hpl.out];rfl) ?_ (fun wq hE hK=> ?_) ?_;rotate_left
   ·have hc:wq.cell? ⟨g7,2,none⟩=some (.int .u32 (wv c1)):=(R7.out.bel (Bel.trans _ _ _ HBR.out hE)).w32 (i:=2) (by simp)
    clear hE hK
    go_simp
    rfl
   refine ms5 ⟨?_⟩;refine zX (by first|rfl|(rw [hops.out];rfl)) (by rw [hpl.out];rfl) ?_ (fun wq hE hK=> ?_) ?_;rotate_left
   ·have hc:wq.cell? ⟨g7,1,none⟩=some (.int .u32 (wv b1)):=(R7.out.bel (Bel.trans _ _ _ HBR.out hE)).w32 (i:=1) (by simp)
    clear hE hK
    go_simp
    rfl
   refine ms5 ⟨?_⟩;refine zX (by first|rfl|(rw [hops.out];rfl)) (by rw [hpl.out];rfl) ?_ (fun wq hE hK=> ?_) ?_;rotate_left
   ·have hc:wq.cell? ⟨g7,2,none⟩=some (.int .u32 (wv c1)):=(R7.out.bel (Bel.trans _ _ _ HBR.out hE)).w32 (i:=2) (by simp)
    clear hE hK
    go_simp
    rfl
   refine ms5 ⟨?_⟩;refine wo fun w' hE hK=>hF.out _ _ ?_
   clear hK;have HBR:=Lib.hid (Bel.trans _ _ _ HBR.out hE);clear hE;simp only [IntKind.wrap_u32,Gf,zfO,zfI,Vx,zjI];obtain ⟨q,hq⟩: ∃q,(YH a1 2^^^YH a1 13^^^YH a1 22)+maj a1 b1 c1=q:=⟨_,rfl⟩;rw [hq];have HQ:=Lib.hid hq;clear hq;have R7:=Lib.hid (R7.out.bel HBR.out);have hc0:_=some (Value.int .u32 (wv a1)):=R7.out.w32 (i:=0) (by simp)
   have hc1:_=some (Value.int .u32 (wv b1)):=R7.out.w32 (i:=1) (by simp)
   have hc2:_=some (Value.int .u32 (wv c1)):=R7.out.w32 (i:=2) (by simp)
   have hc3:_=some (Value.int .u32 (wv d1)):=R7.out.w32 (i:=3) (by simp)
   have hc4:_=some (Value.int .u32 (wv e1)):=R7.out.w32 (i:=4) (by simp)
   have hc5:_=some (Value.int .u32 (wv f1)):=R7.out.w32 (i:=5) (by simp)
   have hc6:_=some (Value.int .u32 (wv g1)):=R7.out.w32 (i:=6) (by simp)
   go_wp2_with (first
    |(clear hc0 hc1 hc2 hc3 hc4 hc5 hc6;refine z6 (cells:=u32s [p+q,a1,b1,c1,d1+p,e1,f1,g1]) rfl rfl rfl (by rfl) R7.out (y7 xT) rfl (Y3 _) ?_;intro w11 r11 hu11))
   refine ⟨⟨t+1,by go_num,by omega, ?_,(R2.out.bel HBR.out).upd hu11 (by omega),(R4.out.bel HBR.out).upd hu11 (by omega),(R5.out.bel HBR.out).upd hu11 (by omega),(R6.out.bel HBR.out).upd hu11 (by omega),ZV (xR HB.out HBR.out HB.out.size) hu11 (by omega)⟩,by simp [intOf];omega⟩;rw [Qc,HS.out,HNN.out,HX.out]
   have e:(rnd ⟨a1,b1,c1,d1,e1,f1,g1,z1⟩ n x).list=[p+q,a1,b1,c1,d1+p,e1,f1,g1]:=by
    rw [←HP.out,←HQ.out];rfl
   rw [e];exact r11
  ·obtain rfl:t=64:=by omega
   have hs8:s.list.length=8:=rfl
   obtain ⟨L,hL⟩: ∃L,s.list=L:=⟨_,rfl⟩;rw [hL] at r7 hs8;have hLL:(Qc b (uP h) 64).list=L:=by rw [hs,hL]
   have HLL:=Lib.hid hLL;have R7:=Lib.hid r7;rw [HH0.out] at r2;clear hs hL r7 hbr r4 r5 r6 HS hLL R5 R6;have hszh:(Tryz.prog.info? 202).map (·.size)=some (u32s h).size:=(y7 xT).trans (by rw [zP,hh])
   have q2:=R2.out.lt;have q4:=R4.out.lt;have q7:=R7.out.lt;rw [HH0.out] at R2
   go_wp2_with (first
    |(refine Z0 rfl rfl rfl r2 qQ hszh ?_)
    |(refine z8 rfl rfl hz8.out ?_;intro g9 w12 hg9 r9 hb12)
    |(refine z6 rfl rfl rfl rfl r9 hszh (by rw [HZ8.out,zP,zP,hh];rfl) (Y3 _) ?_;intro w13 r13 hu13))
   have hb13:=ZV (xR HB.out hb12 HB.out.size) hu13 (by have:=HB.out.size;omega);have R2:=Lib.hid ((R2.out.bel hb12).upd hu13 (by omega));have R4:=Lib.hid ((R4.out.bel hb12).upd hu13 (by omega));have R7:=Lib.hid ((R7.out.bel hb12).upd hu13 (by omega));have hwg9:w.heap.size≤g9:=by have:=HB.out.size;omega
   have HB:=Lib.hid hb13;have R9:=Lib.hid r13;clear hb13 hu13 hb12 r9 r2 r13;try simp only [show ((64:Nat):Int)=64 from rfl]
   go_loopw [14] (fun i wr2=> ∃t:Nat,i= .int .i64 t∧t≤8∧Row wr2 g9 202 (u32s (acc h L t))∧Row wr2 g2 202 (u32s h)∧Row wr2 g4 202 Z8∧Row wr2 g7 202 (u32s L)∧Below w.heap.size w wr2) (fun i _=>8 - (intOf i).toNat)
   case atStart=>exact ⟨0,rfl,by omega,by rw [tr h L hh];exact R9.out,R2.out,R4.out,R7.out,HB.out⟩
   case round=>
    clear R2 R4 R7 R9 HB hlt;obtain ⟨t,rfl,ht,r9,r2,r4,r7,hb'⟩:=hrel;have R2:=Lib.hid r2;have R4:=Lib.hid r4;have R7:=Lib.hid r7;have R9:=Lib.hid r9;have HB:=Lib.hid hb';clear r2 r4 r7 r9 hb';by_cases hlt:t<8
    ·have hlt':(t:Int)<8:=by omega
     obtain ⟨n,hn⟩: ∃n,L.getD t 0=n:=⟨_,rfl⟩;obtain ⟨x,hx⟩: ∃n,h.getD t 0=n:=⟨_,rfl⟩;have HNN:=Lib.hid hn;have HX:=Lib.hid hx;clear hn hx
     go_wp2
     refine mc5 ⟨?_⟩;refine WQ 9 [] (by kernel_rfl) (by kernel_rfl) ?_;intro ops F w0 pl hops hpl hw0 hF;have hw0':=hw0.out
     subst hw0';simp only [List.take_succ_cons,List.take_zero,List.drop_succ_cons,List.drop_zero] at hF ⊢;refine mc6 ⟨?_⟩;refine zX (by first|rfl|(rw [hops.out];rfl)) (by rw [hpl.out];rfl) ?_ (fun wq hE hK=> ?_) ?_;rotate_left
     ·have hc:=(R2.out.bel hE).w32 (i:=t) (by omega)
      rw [HX.out] at hc;clear hE hK
      go_simp
      rfl
     refine ms5 ⟨?_⟩;refine zX (by first|rfl|(rw [hops.out];rfl)) (by rw [hpl.out];rfl) ?_ (fun wq hE hK=> ?_) ?_;rotate_left
     ·have hc:=(R7.out.bel hE).w32 (i:=t) (by omega)
      rw [HNN.out] at hc;clear hE hK
      go_simp
      rfl
     refine ms5 ⟨?_⟩;refine wo fun w' hE hK=>hF.out _ _ ?_
     clear hK;have r9:=R9.out.bel hE;refine yK (v:= .int .u32 (wv (x+n))) rfl rfl rfl (by simp only [IntKind.wrap_u32,Vx];rfl) rfl r9 WY (by rw [zP,qc];omega) ?_;intro w8' r8 hu8
     go_wp2
     refine ⟨⟨t+1,by go_num,by omega, ?_,(R2.out.bel hE).upd hu8 (by omega),(R4.out.bel hE).upd hu8 (by omega),(R7.out.bel hE).upd hu8 (by omega),ZV (xR HB.out hE HB.out.size) hu8 (by omega)⟩,by simp [intOf];omega⟩;rw [tN h L t hlt,←qx,HX.out,HNN.out];simpa using r8
    ·obtain rfl:t=8:=by omega
     have hsz8:(Tryz.prog.info? 202).map (·.size)=some (u32s (acc h L 8)).size:=(y7 xT).trans (by rw [zP,qc])
     go_wp2_with (first
      |(refine Z0 rfl rfl rfl R9.out qQ hsz8 ?_)
      |(refine z6 rfl rfl rfl rfl R4.out hsz8 (by rw [HZ8.out,zP,zP,qc];rfl) (Y3 _) ?_;intro w14 r14 hu14))
     refine vA rfl rfl r14 qQ hsz8 ⟨?_,ZV HB.out hu14 (by omega)⟩;rw [u6 h L hh hs8,←HLL.out];rfl
end
section
attribute [local irreducible] zA AO zt zo ADr AL AW zF zh zU Tells APure ACall
def zk0 (x:UInt32):List AV:=[.lit (.int .u32 (wv x))]
def zhB (l:List UInt32):Nat→List AV:=fun k=>zk0 (l.getD k 0)
abbrev w8A (l:List UInt32):AV:= .arr 1 8 (zhB l)
abbrev zcd (b:List UInt8):AV:= .arr 1 64 (fU8 b)
abbrev w8C (l:List UInt32):List AV:=[.lit (.int .u32 (wv (l.getD 0 0))), .lit (.int .u32 (wv (l.getD 1 0))), .lit (.int .u32 (wv (l.getD 2 0))), .lit (.int .u32 (wv (l.getD 3 0))), .lit (.int .u32 (wv (l.getD 4 0))), .lit (.int .u32 (wv (l.getD 5 0))), .lit (.int .u32 (wv (l.getD 6 0))), .lit (.int .u32 (wv (l.getD 7 0)))]
theorem po {O:Nat→Prop} {w:World} {μ:Mu} {n:Nat} {f:Nat→List AV} {v:Value} (g:Nat→Value) (hg: ∀k,k<n→f k=[.lit (g k)]) (h:RV O w μ (.arr 1 n f) v):v= .agg ((List.range n).map g).toArray:=by
 cases h with
 |arr ho h1 h2 h3=>
  rename_i vs;congr 2
  apply List.ext_getElem
  ·simp [h1]
  ·intro k hk hk';simp at hk'
   have:=h3 k 0 _ _ hk' (by rw [hg k hk'];rfl) (List.getElem?_eq_getElem (by omega))
   have e:vs[k*1+0]=g k:=this.lit_eq
   simp only [Nat.mul_one,Nat.add_zero] at e;simp [e]
theorem pD {O:Nat→Prop} {w:World} {μ:Mu} {n:Nat} {f:Nat→List AV} {vs:List Value} (hl:vs.length=n) (h1: ∀u∈vs,u.oneCell'=true) (hg: ∀k u,vs[k]?=some u→f k=[.lit u]):RV O w μ (.arr 1 n f) (.agg vs.toArray):=by
 refine .arr h1 (by simp [hl]) (fun k hk=>by rw [hg k _ (List.getElem?_eq_getElem (by omega))];rfl) fun k j a v hk ha hv=> ?_
 rw [hg k _ (List.getElem?_eq_getElem (by omega))] at ha;cases j with
 |zero=>
  simp at ha hv
  subst ha;rw [List.getElem?_eq_getElem (by omega)] at hv;injection hv with hv;subst hv
  exact .lit _
 |succ j=>simp at ha
theorem VO {O:Nat→Prop} {w:World} {μ:Mu} {n:Nat} {l:List UInt32} (hl:l.length=n):RV O w μ (.arr 1 n (zhB l)) (.agg (u32s l)):=by
 unfold u32s;refine pD (by simp [hl]) (fun u hu=> ?_) fun k u hu=> ?_
 ·obtain ⟨x,_,rfl⟩:=List.mem_map.1 hu;rfl
 ·simp only [List.getElem?_map,Option.map_eq_some_iff] at hu;obtain ⟨x,hx,rfl⟩:=hu;simp [zhB,zk0,List.getD_eq_getElem?_getD,hx]
theorem ga {O:Nat→Prop} {w:World} {μ:Mu} {n:Nat} {l:List UInt32} (hl:l.length=n) {v:Value} (h:RV O w μ (.arr 1 n (zhB l)) v):v= .agg (u32s l):=by
 rw [po (fun k=> .int .u32 (wv (l.getD k 0))) (fun k _=>rfl) h];unfold u32s;congr 2
 apply List.ext_getElem
 ·simp [hl]
 ·intro k h1 h2;simp at h1 h2;simp [List.getD_eq_getElem?_getD,h2]
theorem Hr {O:Nat→Prop} {w:World} {μ:Mu} {n:Nat} {l:List UInt8} (hl:l.length=n) {v:Value} (h:RV O w μ (.arr 1 n (fU8 l)) v):v= .agg (b8s l):=by
 rw [po (fun k=> .int .u8 (l.getD k 0).toNat) (fun k _=>rfl) h];unfold b8s;congr 2
 apply List.ext_getElem
 ·simp [hl]
 ·intro k h1 h2;simp at h1 h2;simp [List.getD_eq_getElem?_getD,h2]
theorem zhG {X:Nat→Prop} {μ:Mu} {w:World} (h:GlobOk X μ w):TabB w:=by
 obtain ⟨h1,_,_,h4⟩:=h 2 _ (by unfold zaD;exact List.mem_cons_self);exact ⟨h1,fun j v hv=>h4 j v (by simpa [u32s] using hv)⟩
theorem WV {P:Program} {f:FuncId} {args:List AV} {r:AV} (vs:List Value) (v:Value) (ha: ∀(O:Nat→Prop) (w:World) (μ:Mu) (us:List Value),RVs O w μ args us→us=vs) (hr: ∀(O:Nat→Prop) (w:World),RV O w noMu r v)
 (h: ∀(X:Nat→Prop) (μ:Mu) w,GlobOk X μ w→Calls P f vs.toArray w fun e w'=>e= .returned v∧Below w.heap.size w w'):APure P f args r []:=by
 unfold APure ACall;intro w X μ us hH hv;obtain rfl:=ha _ _ _ _ hv;refine (h X μ w hH.gl).mono fun e w' ⟨he,hb⟩=>⟨v,r,[],[],μ,he,⟨rfl,rfl⟩,hH.below hb,(hr _ _).up,Chg.of_below hb,Ext.refl _ _,Nat.le_refl _,fun k x u _ hx=>hx.later hb⟩
theorem zlu {O:Nat→Prop} {w:World} {μ:Mu} {a:AV} {v:Value} (h: ∀u,RV O w μ a u→u=v) {us:List Value} (hv:RVs O w μ [a] us):us=[v]:=by
 obtain ⟨u,us',rfl,h1,h2⟩:=hv.uncons;rw [h2.unnil,h u h1]
theorem zkY {O:Nat→Prop} {w:World} {μ:Mu} {a b:AV} {v u:Value} (h: ∀u,RV O w μ a u→u=v) (h': ∀x,RV O w μ b x→x=u) {us:List Value} (hv:RVs O w μ [a,b] us):us=[v,u]:=by
 obtain ⟨u1,us',rfl,h1,h2⟩:=hv.uncons;rw [zlu h' h2,h u1 h1]
theorem jT (h:List UInt32) (b:List UInt8) (hh:h.length=8):(mix h b).length=8:=by simp [mix,BSt.list,hh]
theorem ziK (h:List UInt32) (b:List UInt8) (hh:h.length=8) (hb:b.length=64):APure Tryz.prog 314 [w8A h,zcd b] (w8A (mix h b)) []:=
 WV [.agg (u32s h), .agg (b8s b)] _ (fun O w μ us=>zkY (fun u=>ga hh) fun u=>Hr hb) (fun O w=>VO (jT h b hh)) fun X μ w hg=>za0 h b hh hb w (zhG hg)
theorem zjs:ze Tryz.prog 314:=gfn Tryz.func314
theorem zee:APure Tryz.prog 299 [] (w8A Qj) []:=WV [] _ (fun O w μ us h=>h.unnil) (fun O w=>VO rfl) fun X μ w _=>Ti w
theorem zda:ze Tryz.prog 299:=gfn Tryz.func299
theorem zgp (h:List UInt32) (b:List UInt8) (hh:h.length=8) (hb:b.length=64):APure Tryz.prog 306 [w8A h,zcd b] (w8A (mix h b)) []:=
 WV [.agg (u32s h), .agg (b8s b)] _ (fun O w μ us=>zkY (fun u=>ga hh) fun u=>Hr hb) (fun O w=>VO (jT h b hh)) fun X μ w hg=>Ga h b hh hb w
theorem zf3:ze Tryz.prog 306:=gfn Tryz.func306
theorem zbK:APure Tryz.prog 307 [] (w8A Qj) []:=WV [] _ (fun O w μ us h=>h.unnil) (fun O w=>VO rfl) fun X μ w _=>pG w
theorem zbl:ze Tryz.prog 307:=gfn Tryz.func307
theorem zhZ (l:List UInt32):AV.Le (w8A l) (.agg (w8C l)):=fun O w μ v h=>by
 rw [po (fun k=> .int .u32 (wv (l.getD k 0))) (fun k _=>rfl) h]
 exact .agg rfl fun j a v ha hv=>by
  match j,ha,hv with
  |0,ha,hv|1,ha,hv|2,ha,hv|3,ha,hv|4,ha,hv|5,ha,hv|6,ha,hv|7,ha,hv=>
   simp [List.range_succ] at ha hv
   subst ha hv;exact .lit _
  |j+8,ha,hv=>simp at ha
theorem zhg (l:List UInt32):AV.Le (.agg (w8C l)) (w8A l):=fun O w μ v h=>by
 cases h with
 |agg h1 h2=>
  rename_i vs
  match vs,h1,h2 with
  |[v0,v1,v2,v3,v4,v5,v6,v7],_,h2=>
   obtain rfl:=(h2 0 _ _ rfl rfl).lit_eq;obtain rfl:=(h2 1 _ _ rfl rfl).lit_eq;obtain rfl:=(h2 2 _ _ rfl rfl).lit_eq;obtain rfl:=(h2 3 _ _ rfl rfl).lit_eq;obtain rfl:=(h2 4 _ _ rfl rfl).lit_eq;obtain rfl:=(h2 5 _ _ rfl rfl).lit_eq;obtain rfl:=(h2 6 _ _ rfl rfl).lit_eq;obtain rfl:=(h2 7 _ _ rfl rfl).lit_eq;refine pD rfl (fun u hu=> ?_) fun k u hu=> ?_
   ·simp only [List.mem_cons,List.not_mem_nil,or_false] at hu;rcases hu with rfl|rfl|rfl|rfl|rfl|rfl|rfl|rfl <;>rfl
   ·match k,hu with
    |0,hu|1,hu|2,hu|3,hu|4,hu|5,hu|6,hu|7,hu=>simp at hu;subst hu;rfl
    |k+8,hu=>simp at hu
theorem zkb {b:List UInt8}:AV.Le (.agg ((((List.range 64).map (fU8 b)).flatten).take 64)) (zcd b):=fun O w μ v hv=>by
 have e:((((List.range 64).map (fU8 b)).flatten).take 64)=(List.range 64).map fun k=> .lit (.int .u8 (b.getD k 0).toNat):=by rfl
 rw [e] at hv;cases hv with
 |agg h1 h2=>
  rename_i vs;simp at h1
  refine pD h1.symm (fun u hu=> ?_) fun k u hu=> ?_
  ·obtain ⟨k,hk⟩:=List.getElem?_of_mem hu;have hlt:k<64:=by have:=(List.getElem?_eq_some_iff.1 hk).1;omega
   have:=(h2 k _ u (by simp [hlt];rfl) hk).lit_eq
   subst this;rfl
  ·have hlt:k<64:=by have:=(List.getElem?_eq_some_iff.1 hu).1;omega
   have:=(h2 k _ u (by simp [hlt];rfl) hu).lit_eq
   subst this;rfl
end
section
theorem zhz (q:Nat):IntKind.u32.wrap ((BitVec.ofInt IntKind.u32.bits (q:Int) &&& BitVec.ofInt IntKind.u32.bits 255).toNat:Int)=((q % 256:Nat):Int):=by
 have e2:(BitVec.ofInt IntKind.u32.bits 255).toNat=2^8 - 1:=rfl
 rw [BitVec.toNat_and,e2,Nat.and_two_pow_sub_one_eq_mod,BitVec.ofInt_natCast,BitVec.toNat_ofNat,IntKind.wrap_u32];have:q % 2^IntKind.u32.bits % 2^8=q % 256:=Nat.mod_mod_of_dvd q (Nat.pow_dvd_pow 2 (show 8≤32 by decide))
 rw [this];omega
end
section
attribute [local irreducible] zA AO zt zo ADr AL AW zF zh zU Tells APure ACall
structure ShS where
 h:List UInt32
 buf:List UInt8
 n:Int
 deriving DecidableEq
abbrev shC (s:ShS):List AV:=[.lit (.int .u32 (wv (s.h.getD 0 0))), .lit (.int .u32 (wv (s.h.getD 1 0))), .lit (.int .u32 (wv (s.h.getD 2 0))), .lit (.int .u32 (wv (s.h.getD 3 0))), .lit (.int .u32 (wv (s.h.getD 4 0))), .lit (.int .u32 (wv (s.h.getD 5 0))), .lit (.int .u32 (wv (s.h.getD 6 0))), .lit (.int .u32 (wv (s.h.getD 7 0))),bytes s.buf,int s.n]
abbrev shA (s:ShS):AV:= .agg (shC s)
def WW:ShS:=⟨Qj,[],0⟩
def wh (s:ShS):ShS:=if s.buf.length≥64∨s.n<0∨s.n>1125899906842624 then WW else s
def XT:Nat→List UInt32→List UInt8→List UInt32×List UInt8
 |0,h,b=>(h,b)
 |k+1,h,b=>if 64≤b.length then XT k (mix h (b.take 64)) (b.drop 64) else (h,b)
def xO (h:List UInt32) (b:List UInt8):List UInt32×List UInt8:=XT b.length h b
theorem J5: ∀(k m:Nat) (h:List UInt32) (b:List UInt8),b.length≤k→b.length≤m→XT k h b=XT m h b
 |0,m,h,b,h1,h2=>by
  cases m with
  |zero=>rfl
  |succ m=>rw [XT,XT,if_neg (by omega)]
 |k+1,0,h,b,h1,h2=>by rw [XT,XT,if_neg (by omega)]
 |k+1,m+1,h,b,h1,h2=>by
  rw [XT,XT];split
  ·exact J5 k m _ _ (by simp;omega) (by simp;omega)
  ·rfl
theorem jb {h:List UInt32} {b:List UInt8} (hb:64≤b.length):xO h b=xO (mix h (b.take 64)) (b.drop 64):=by
 unfold xO;obtain ⟨k,hk⟩: ∃k,b.length=k+1:=⟨b.length - 1,by omega⟩;rw [hk,XT,if_pos hb];exact J5 _ _ _ _ (by simp;omega) (by simp)
theorem VR {h:List UInt32} {b:List UInt8} (hb:b.length<64):xO h b=(h,b):=by
 unfold xO;cases hk:b.length with
 |zero=>rfl
 |succ k=>rw [XT,if_neg (by omega)]
theorem Kc: ∀(k:Nat) (h:List UInt32) (b:List UInt8),h.length=8→(XT k h b).1.length=8
 |0,h,b,hh=>hh
 |k+1,h,b,hh=>by
  rw [XT];split
  ·exact Kc k _ _ (jT _ _ hh)
  ·exact hh
def Yn (s:ShS) (b:List UInt8):ShS:=
 if (wh s).n+b.length>1125899906842624 then WW else ⟨(xO (wh s).h ((wh s).buf++b)).1,(xO (wh s).h ((wh s).buf++b)).2,(wh s).n+b.length⟩
def Y4 (n:Int):List UInt8:=
 if n<0∨n>1125899906842624 then [] else 128::(List.replicate ((119 - n % 64) % 64).toNat 0++(List.range 8).map fun i=>ZR ((8*n).fdiv (2^(8*(7 - i)))))
def X5 (w:UInt32):List UInt8:=[ZR ((wv w).fdiv (2^24)),ZR ((wv w).fdiv (2^16)),ZR ((wv w).fdiv (2^8)),ZR (wv w)]
def wW (s:ShS):List UInt8:=((Yn (wh s) (Y4 (wh s).n)).h.map X5).flatten
def Yh (b:List UInt8):List UInt8:=wW (Yn WW b)
theorem zfS:APure Tryz.prog 299 [] (.agg (w8C Qj)) []:=zee.res (zhZ _)
theorem zbT:APure Tryz.prog 307 [] (.agg (w8C Qj)) []:=zbK.res (zhZ _)
theorem zjm (h:List UInt32) (b:List UInt8) (hh:h.length=8) (hb:b.length=64):APure Tryz.prog 314 [.agg (w8C h),zcd b] (.agg (w8C (mix h b))) []:=((ziK h b hh hb).le (zhV (zhg _) (.refl _))).res (zhZ _)
theorem zgK (h:List UInt32) (b:List UInt8) (hh:h.length=8) (hb:b.length=64):APure Tryz.prog 306 [.agg (w8C h),zcd b] (.agg (w8C (mix h b))) []:=((zgp h b hh hb).le (zhV (zhg _) (.refl _))).res (zhZ _)
theorem vQ:APure Tryz.prog 258 [] (shA WW) []:=by
 refine ent Tryz.func258 Tryz.ntmps258 ⟨?_⟩;exact gcgf zda zfS
theorem vC:ze Tryz.prog 258:=gfn Tryz.func258
theorem j7 (s:ShS):APure Tryz.prog 294 [shA s] (shA (wh s)) []:=by
 refine ent Tryz.func294 Tryz.ntmps294 ⟨?_⟩;unfold wh;refine go ⟨?_⟩;by_cases h1:s.buf.length≥64
 ·rw [if_pos (.inl h1)];exact gcgf vC vQ
 by_cases h2:s.n<0
 ·rw [if_pos (.inr (.inl h2))];exact gcgf vC vQ
 by_cases h3:s.n>1125899906842624
 ·rw [if_pos (.inr (.inr h3))];exact gcgf vC vQ
 rw [if_neg (by omega)];exact gf
theorem j3:ze Tryz.prog 294:=gfn Tryz.func294
abbrev oSh (s:ShS):zb:={T:=204,sz:=10,n:=1,f:=fun _=>shC s,box:=true}
theorem zdg (s:ShS) (b:List UInt8) (o:zb) (hh:s.h.length=8) (hb:b.length=64):ACall Tryz.prog 298 [.ptr 0 10 0 0,bytes b] [oSh s,o] fun r H' fg=>r= .tup []∧H'=[oSh {s with h:=mix s.h b},o]∧fg=[]:=by
 refine enta Tryz.func298 Tryz.ntmps298 ⟨?_⟩;refine go ⟨?_⟩;refine zeT zjs (zjm s.h b hh hb) (zhV (AV.Le.refl (.agg (w8C s.h))) (zkb (b:=b))) ⟨?_⟩;refine go ⟨?_⟩;refine zen rfl trivial [] _ (Tells.refl _) ?_;exact ⟨rfl,rfl,rfl⟩
theorem zeG:ze Tryz.prog 298:=gfn Tryz.func298
theorem zci (s:ShS) (b:List UInt8) (o:zb) (hh:s.h.length=8) (hb:b.length≤1000000000000):ACall Tryz.prog 296 [bytes b, .fn (.func 298) [.ptr 0 10 0 0] []] [oSh s,o]
 fun r H' fg=>r=bytes (xO s.h b).2∧H'=[oSh {s with h:=(xO s.h b).1},o]∧fg=[]:=by
 refine enta Tryz.func296 Tryz.ntmps296 ⟨?_⟩;refine go ⟨?_⟩;refine lp (fun p:{p:List UInt32×List UInt8 // p.1.length=8∧p.2.length≤b.length∧xO p.1 p.2=xO s.h b}=>[(0,bytes p.1.2)]) (fun p=>[oSh {s with h:=p.1.1},o]) (fun p=>p.1.2.length) ⟨(s.h,b),hh,Nat.le_refl _,rfl⟩ ?_
 rintro ⟨⟨g,r⟩,h1,h2,h3⟩
 simp only at h1 h2 h3;refine go ⟨?_⟩;refine zj rfl (fun h=> ?_) (fun h=> ?_)
 ·refine go ⟨?_⟩;refine zV rfl rfl rfl zeG ((zdg {s with h:=g} (r.take 64) o h1 (by simp;omega)).le (by exact les)) ?_;refine go ⟨?_⟩;refine je ⟨⟨(mix g (r.take 64),r.drop 64),jT _ _ h1,by show (r.drop 64).length≤b.length;rw [List.length_drop];omega,(jb (by omega)).symm.trans h3⟩,by show (r.drop 64).length<r.length;rw [List.length_drop];omega, ?_⟩;exact tel
 ·rw [VR (by omega)] at h3;refine go ⟨?_⟩;refine Wc (x:=bytes r) (H':=[oSh {s with h:=g},o]) rfl trivial ?_ (Tells.refl _);rw [←h3];exact ⟨rfl,rfl,rfl⟩
theorem zbH:ze Tryz.prog 296:=gfn Tryz.func296
theorem zi7 (n:Nat) (hn:n≤1000000000000):APure Tryz.prog 313 [.lit (.slice none 0 0),int n] (.row 0 1 0 0 none) [oU8 []]:=by
 refine ent Tryz.func313 Tryz.ntmps313 ⟨?_⟩;refine go ⟨?_⟩;refine zdl hT rfl rfl rfl rfl ?_;refine ng ⟨?_⟩;have e:IntKind.i64.wrap ((n:Int) - IntKind.i64.wrap (0 - 0))=n:=by simp only [IntKind.wrap_i64];omega
 rw [e];by_cases h0:n=0
 ·refine zr (Tells.nilRow (t:=0) 5 1 rfl rfl) ?_;simp only [setn];exact gf
 refine go ⟨?_⟩;refine zdl hT rfl rfl rfl rfl ?_;refine ng ⟨?_⟩;refine kX hT rfl rfl rfl (by simp;omega) ?_;refine ng ⟨?_⟩;exact fin
theorem zjw:ze Tryz.prog 313:=gfn Tryz.func313
theorem UU {xs:List (List UInt8)} {i:Nat} (h:i<xs.length):(xs.take (i+1)).flatten=(xs.take i).flatten++xs.getD i []:=by
 rw [List.take_succ_eq_append_getElem h,List.flatten_append];simp [List.getD_eq_getElem?_getD,h]
theorem kC (xs:List (List UInt8)) (i:Nat):(xs.take i).flatten.length≤xs.flatten.length:=by
 have:=congrArg List.length (congrArg List.flatten (List.take_append_drop i xs))
 simp only [List.flatten_append,List.length_append] at this;omega
theorem zeo (xs:List (List UInt8)) (hx:xs.length≤1000000) (hf:xs.flatten.length≤1000000000000):APure Tryz.prog 297 [slE eBB xs] (bytes xs.flatten) []:=by
 refine ent Tryz.func297 Tryz.ntmps297 ⟨?_⟩;refine go ⟨?_⟩;refine lp (fun i:{i:Nat // i≤xs.length}=>[(11,int i.1),(3,int (xs.take i.1).flatten.length)]) (fun _=>[]) (fun i=>xs.length - i.1) ⟨0,by omega⟩ ?_
 rintro ⟨i,hi⟩
 have hle:=kC xs i;refine go ⟨?_⟩;refine zj rfl (fun h=> ?_) (fun h=> ?_)
 ·have hlt:i<xs.length:=by omega
  have hle1:=kC xs (i+1);have hs:=congrArg List.length (UU hlt);rw [List.length_append] at hs;refine go ⟨?_⟩
  have e:IntKind.i64.wrap (((xs.take i).flatten.length:Int)+((xs.getD i eBB.z).length:Int))=((xs.take (i+1)).flatten.length:Int):=by
   rw [show eBB.z=([]:List UInt8) from rfl];simp only [IntKind.wrap_i64];omega
  simp only [e];refine ms19 ⟨?_⟩;exact tel
 obtain rfl:i=xs.length:=by omega
 rw [List.take_length];refine gcg zjw (zi7 xs.flatten.length hf) ⟨?_⟩;refine lp (fun i:{i:Nat // i≤xs.length}=>[(27,int i.1),(6, .row 0 1 0 (xs.take i.1).flatten.length none),(24, .junk)]) (fun i=>[oU8 (xs.take i.1).flatten]) (fun i=>xs.length - i.1) ⟨0,by omega⟩ ?_
 rintro ⟨i,hi⟩
 have hle:=kC xs i;refine go ⟨?_⟩;refine zj rfl (fun h=> ?_) (fun h=> ?_)
 ·have hlt:i<xs.length:=by omega
  have hle1:=kC xs (i+1);have hs:=UU hlt;have hs':=congrArg List.length hs
  rw [List.length_append] at hs';refine go ⟨?_⟩;refine app (fU8 (xs.take (i+1)).flatten) hT rfl rfl rfl rfl (fun k hk=> ?_) ?_ (hq:=by rw [show eBB.z=([]:List UInt8) from rfl];refine ⟨trivial,Nat.le_refl _, ?_, ?_⟩ <;>(try dsimp only) <;>omega)
  ·rw [hs];exact XV rfl hk
  refine ng ⟨?_⟩;refine je ⟨⟨i+1,by omega⟩,by simp only;omega, ?_⟩;rw [show eBB.z=([]:List UInt8) from rfl,←hs'];exact tel
 obtain rfl:i=xs.length:=by omega
 rw [List.take_length];exact gf
theorem zcC:ze Tryz.prog 297:=gfn Tryz.func297
theorem WS {s:ShS} (hh:s.h.length=8):(wh s).h.length=8∧(wh s).buf.length<64∧0≤(wh s).n∧(wh s).n≤1125899906842624:=by
 unfold wh;split
 ·exact ⟨rfl,by decide,by decide,by decide⟩
 ·rename_i h;exact ⟨hh,by omega,by omega,by omega⟩
theorem vD (s:ShS) (b:List UInt8) (hh:s.h.length=8) (hb:b.length≤100000000000):APure Tryz.prog 257 [shA s,bytes b] (shA (Yn s b)) []:=by
 refine ent Tryz.func257 Tryz.ntmps257 ⟨?_⟩;unfold Yn;obtain ⟨h1,h2,h3,h4⟩:=WS hh;refine gc j3 (j7 s) ⟨?_⟩;generalize wh s=x at*;refine go ⟨?_⟩;have e:IntKind.i64.wrap (x.n+(b.length:Int))=x.n+b.length:=by simp only [IntKind.wrap_i64];omega
 simp only [e];by_cases hm:x.n+b.length>1125899906842624
 ·rw [if_pos hm];exact gcgf vC vQ
 rw [if_neg hm];refine gcg zcC (zeo [x.buf,b] (by simp) (by simp;omega)) ⟨?_⟩;simp only [e];have hfl:[x.buf,b].flatten=x.buf++b:=by simp
 rw [hfl];refine zz (Tells.sel [0,1] rfl rfl) ?_;refine nz ⟨?_⟩;refine zV rfl rfl rfl zbH (zci ⟨x.h,x.buf,x.n+b.length⟩ (x.buf++b) _ h1 (by simp;omega)) ?_;refine ng ⟨?_⟩;exact fin
theorem vJ:ze Tryz.prog 257:=gfn Tryz.func257
def vh (n:Int) (i:Nat):List UInt8:=(List.range i).map fun i=>ZR ((8*n).fdiv (2^(8*(7 - i))))
def ww (n:Int):List UInt8:=128::List.replicate ((119 - n % 64) % 64).toNat 0
theorem tC {n:Int} (h0:0≤n) (h1:n≤1125899906842624):Y4 n=ww n++vh n 8:=by
 unfold Y4 ww vh;rw [if_neg (by omega)];rfl
theorem UC (n:Int) (i:Nat):vh n (i+1)=vh n i++[ZR ((8*n).fdiv (2^(8*(7 - i))))]:=by simp [vh,List.range_succ]
theorem jJ (n:Int) (i:Nat):(vh n i).length=i:=by simp [vh]
theorem qH (n:Int):(ww n).length=((119 - n % 64) % 64).toNat+1:=by simp [ww]
theorem hQ (n:Int):APure Tryz.prog 295 [int n] (bytes (Y4 n)) []:=by
 refine ent Tryz.func295 Tryz.ntmps295 ⟨?_⟩;refine go ⟨?_⟩;by_cases h0:n<0
 ·rw [show Y4 n=[] from if_pos (.inl h0)];exact gf
 by_cases h1:n>1125899906842624
 ·rw [show Y4 n=[] from if_pos (.inr h1)];exact gf
 rw [tC (by omega) (by omega)];refine go ⟨?_⟩
 have e:IntKind.i64.wrap (1+(IntKind.i64.wrap (119 - n.tmod 64)).tmod 64)=((ww n).length:Int):=by
  rw [qH];have e1:n.tmod 64=n % 64:=Int.tmod_eq_emod_of_nonneg (by omega)
  have e2:IntKind.i64.wrap (119 - n % 64)=119 - n % 64:=by simp only [IntKind.wrap_i64];omega
  rw [e1,e2,Int.tmod_eq_emod_of_nonneg (by omega)];simp only [IntKind.wrap_i64];omega
 have hl:(ww n).length≤64:=by rw [qH];omega
 rw [e];refine Xt hT rfl rfl (by refine ⟨rfl, ?_, ?_, ?_⟩ <;>(try dsimp only) <;>omega) ?_;refine nz ⟨?_⟩;have hp:0<(ww n).length:=by rw [qH];omega
 refine go ⟨?_⟩;refine lp (fun i:{i:Nat // i≤8}=>[(19,int i.1),(3, .row 0 1 0 ((ww n).length+i.1) none),(16, .junk),(17, .junk),(18, .junk)]) (fun i=>[{T:=5,sz:=1,n:=(ww n).length+i.1,f:=fU8 (ww n++vh n i.1)}]) (fun i=>8 - i.1) ⟨0,by omega⟩ ?_ (h0:= ?_);rotate_left
 ·simp only [lst,Zz,ZB,setn];refine Tells.le (by exact les) (.cons (.of (by simp) (fun h=>h) fun k hk=> ?_) .nil);rw [show vh n 0=[] from rfl,List.append_nil];rcases k with _|k
  ·rfl
  ·have e1:(ww n).getD (k+1) 0=0:=by
    show (List.replicate ((119 - n % 64) % 64).toNat (0:UInt8)).getD k 0=0
    rw [qH] at hk;rw [List.getD_eq_getElem?_getD,List.getElem?_replicate,if_pos (by omega)];rfl
   show eU8 ((ww n).getD (k+1) 0)=_
   rw [e1];rfl
 rintro ⟨i,hi⟩
 refine go ⟨?_⟩;refine zj rfl (fun h=> ?_) (fun h=> ?_)
 ·refine go ⟨?_⟩;have e2:IntKind.i64.wrap (8*n)=8*n:=by simp only [IntKind.wrap_i64];omega
  have e3:min (IntKind.i64.wrap (8*IntKind.i64.wrap (7 - (i:Int)))).toNat IntKind.i64.bits=8*(7 - i):=by
   simp only [IntKind.wrap_i64];have:IntKind.i64.bits=64:=rfl
   omega
  rw [e2,e3,←Zr];refine app (fU8 (ww n++vh n (i+1))) hT rfl rfl rfl rfl (fun k hk=> ?_) ?_
  ·rw [UC,←List.append_assoc];exact wS (xs:=ww n++vh n i) (ys:=[ZR ((8*n).fdiv (2^(8*(7 - i))))]) (by simp [jJ]) rfl rfl k hk
  refine ng ⟨?_⟩;refine je ⟨⟨i+1,by omega⟩,by simp only;omega, ?_⟩;exact tel
 obtain rfl:i=8:=by omega
 refine go ⟨?_⟩;rw [show (ww n).length+8=(ww n++vh n 8).length by simp [jJ]];exact fin
theorem zaf:ze Tryz.prog 295:=gfn Tryz.func295
theorem vo (n:Int):(Y4 n).length≤72:=by
 unfold Y4;split
 ·simp
 ·simp;omega
theorem y_ (s:ShS) (b:List UInt8) (hh:s.h.length=8):(Yn s b).h.length=8:=by
 unfold Yn;split
 ·rfl
 ·exact Kc _ _ _ (WS hh).1
def yT (h:List UInt32) (i:Nat):List UInt8:=((h.take i).map X5).flatten
theorem wM {h:List UInt32} {i:Nat} (hi:i<h.length):yT h (i+1)=yT h i++X5 (h.getD i 0):=by
 unfold yT;rw [List.take_succ_eq_append_getElem hi,List.map_append,List.flatten_append];simp [List.getD_eq_getElem?_getD,hi]
theorem YJ {h:List UInt32}: ∀{i:Nat},i≤h.length→(yT h i).length=4*i
 |0,_=>rfl
 |i+1,hi=>by rw [wM (by omega),List.length_append,YJ (by omega)];simp [X5];omega
theorem zfu (s:ShS) (hh:s.h.length=8):APure Tryz.prog 256 [shA s] (bytes (wW s)) []:=by
 refine ent Tryz.func256 Tryz.ntmps256 ⟨?_⟩;unfold wW;obtain ⟨h1,h2,h3,h4⟩:=WS hh;refine gc j3 (j7 s) ⟨?_⟩;generalize wh s=x at*;refine gcg zaf (hQ x.n) ⟨?_⟩;have hp:=vo x.n;refine cg vJ (vD x (Y4 x.n) h1 (by omega)) ⟨?_⟩;have h5:=y_ x (Y4 x.n) h1;generalize (Yn x (Y4 x.n)).h=g at*;refine zr (Tells.slot 13 (w8A g) rfl (zhg g)) ?_;refine zr (Tells.nilRow (t:=3) 5 1 rfl rfl) ?_;simp only [setn,List.length_cons,List.length_nil,Nat.zero_add];refine zr (Tells.sel [1] rfl rfl) ?_;simp only [List.map,ren,idx];refine lp (fun i:{i:Nat // i≤8}=>[(14,int i.1),(3, .row 0 1 0 (4*i.1) none)]) (fun i=>[{T:=5,sz:=1,n:=4*i.1,f:=fU8 (yT g i.1)}]) (fun i=>8 - i.1) ⟨0,by omega⟩ ?_
 rintro ⟨i,hi⟩
 refine go ⟨?_⟩;refine zj rfl (fun h=> ?_) (fun h=> ?_)
 ·refine go ⟨?_⟩;refine app (fU8 (yT g (i+1))) hT rfl rfl rfl rfl (fun k hk=> ?_) ?_
  ·rw [wM (by omega)];exact wS (xs:=yT g i) (ys:=X5 (g.getD i 0)) (by rw [YJ (by omega)]) rfl (by simp only [X5,List.map,Zr];rfl) k hk
  refine ng ⟨?_⟩;refine je ⟨⟨i+1,by omega⟩,by simp only;omega, ?_⟩;exact tel
 obtain rfl:i=8:=by omega
 refine go ⟨?_⟩;have e1:yT g 8=(g.map X5).flatten:=by unfold yT;rw [List.take_of_length_le (by omega)]
 have e2:=YJ (h:=g) (i:=8) (by omega);rw [e1] at e2;rw [e1,←e2];exact fin
theorem P9:ze Tryz.prog 256:=gfn Tryz.func256
theorem zau (b:List UInt8) (hb:b.length≤100000000000):APure Tryz.prog 194 [bytes b] (bytes (Yh b)) []:=by
 refine ent Tryz.func194 Tryz.ntmps194 ⟨?_⟩;refine gcg vC vQ ⟨?_⟩;refine cg vJ (vD WW b rfl hb) ⟨?_⟩;exact cgf P9 (zfu _ (y_ _ _ rfl))
theorem pH:ze Tryz.prog 194:=gfn Tryz.func194
theorem qr:APure Tryz.prog 275 [] (shA WW) []:=by
 refine ent Tryz.func275 Tryz.ntmps275 ⟨?_⟩;exact gcgf zbl zbT
theorem qy:ze Tryz.prog 275:=gfn Tryz.func275
theorem Pg (s:ShS):APure Tryz.prog 304 [shA s] (shA (wh s)) []:=by
 refine ent Tryz.func304 Tryz.ntmps304 ⟨?_⟩;unfold wh;refine go ⟨?_⟩;by_cases h1:s.buf.length≥64
 ·rw [if_pos (.inl h1)];exact gcgf qy qr
 by_cases h2:s.n<0
 ·rw [if_pos (.inr (.inl h2))];exact gcgf qy qr
 by_cases h3:s.n>1125899906842624
 ·rw [if_pos (.inr (.inr h3))];exact gcgf qy qr
 rw [if_neg (by omega)];exact gf
theorem pF:ze Tryz.prog 304:=gfn Tryz.func304
def cpF (r:List UInt8) (i k:Nat):List AV:=match Nat.blt k i with|true=>eU8 (r.getD k 0)|false=>eU8 0
theorem zdo (r:List UInt8) (i k:Nat):cpF r (i+1) k=upd (cpF r i) i (eU8 (r.getD i 0)) k:=by
 unfold cpF upd;cases hj:Nat.beq k i with
 |true=>obtain rfl:=Nat.eq_of_beq_eq_true hj;rw [show Nat.blt k (k+1)=true by rw [Nat.blt_eq];omega]
 |false=>
  have hne:k≠i:=by rintro rfl;rw [Nat.beq_refl] at hj;cases hj
  by_cases h:k<i
  ·simp only [show Nat.blt k (i+1)=true by rw [Nat.blt_eq];omega,show Nat.blt k i=true by rw [Nat.blt_eq];omega]
  ·have h1:Nat.blt k (i+1)=false:=by cases h2:Nat.blt k (i+1) with|false=>rfl|true=>rw [Nat.blt_eq] at h2;omega
   have h3:Nat.blt k i=false:=by cases h2:Nat.blt k i with|false=>rfl|true=>rw [Nat.blt_eq] at h2;omega
   simp only [h1,h3]
theorem zdO (r:List UInt8) (i k:Nat):List.drop 1 (cpF r i k)=[]:=by unfold cpF;split <;>rfl
theorem ze1 {r:List UInt8} {k:Nat} (hk:k<64):cpF r 64 k=fU8 r k:=by
 unfold cpF;rw [show Nat.blt k 64=true by rw [Nat.blt_eq];omega];rfl
abbrev zf1 (s:ShS):zb:={T:=213,sz:=10,n:=1,f:=fun _=>shC s,box:=true}
theorem Qf (s:ShS) (b:List UInt8) (hh:s.h.length=8) (hb:b.length≤100000000000):APure Tryz.prog 274 [shA s,bytes b] (shA (Yn s b)) []:=by
 refine ent Tryz.func274 Tryz.ntmps274 ⟨?_⟩;unfold Yn;obtain ⟨h1,h2,h3,h4⟩:=WS hh;refine gc pF (Pg s) ⟨?_⟩;generalize wh s=x at*;refine go ⟨?_⟩;have e:IntKind.i64.wrap (x.n+(b.length:Int))=x.n+b.length:=by simp only [IntKind.wrap_i64];omega
 simp only [e];by_cases hm:x.n+b.length>1125899906842624
 ·rw [if_pos hm];exact gcgf qy qr
 rw [if_neg hm];refine go ⟨?_⟩;refine app (fU8 x.buf) hT rfl rfl rfl rfl (fun k hk=>(Ym (f:=WH []) (g:=fU8 x.buf) (Nat.zero_le k)).symm) ?_;refine ng ⟨?_⟩;refine app (fU8 (x.buf++b)) hT rfl rfl rfl rfl (fun k hk=>XV rfl hk) ?_;refine ng ⟨?_⟩;refine zr (Tells.thaw (t:=6) rfl rfl (Nat.le_of_eq (Nat.zero_add _))) ?_;refine zr (Tells.sel [1,2] rfl rfl) ?_;simp only [setn,List.map,ren,idx,Wf,Nat.reduceBEq,Option.map_some,Option.map_none,Nat.zero_add,Nat.reduceAdd,yS]
 refine lp (fun p:{p:List UInt32×List UInt8 // p.1.length=8∧p.2.length≤(x.buf++b).length∧xO p.1 p.2=xO x.h (x.buf++b)}=>[(6,bytes p.1.2)])
  (fun p=>[{T:=213,sz:=10,n:=1,f:=fun _=>[.lit (.int .u32 0), .lit (.int .u32 0), .lit (.int .u32 0), .lit (.int .u32 0), .lit (.int .u32 0), .lit (.int .u32 0), .lit (.int .u32 0), .lit (.int .u32 0), .lit (.slice none 0 0), .lit (.int .i64 0)],box:=true},zf1 {x with h:=p.1.1}]) (fun p=>p.1.2.length) ⟨(x.h,x.buf++b),h1,Nat.le_refl _,rfl⟩ ?_
 rintro ⟨⟨g,r⟩,g1,g2,g3⟩
 simp only at g1 g2 g3;refine go ⟨?_⟩;refine zj rfl (fun h=> ?_) (fun h=> ?_)
 ·refine go ⟨?_⟩;refine lp (fun i:{i:Nat // i≤64}=>[(8,int i.1)]) (fun i=>[{T:=213,sz:=10,n:=1,f:=fun _=>[.lit (.int .u32 0), .lit (.int .u32 0), .lit (.int .u32 0), .lit (.int .u32 0), .lit (.int .u32 0), .lit (.int .u32 0), .lit (.int .u32 0), .lit (.int .u32 0), .lit (.slice none 0 0), .lit (.int .i64 0)],box:=true},zf1 {x with h:=g},{T:=234,sz:=1,n:=64,f:=cpF r i.1}]) (fun i=>64 - i.1) ⟨0,by omega⟩ ?_
  rintro ⟨i,hi⟩
  refine go ⟨?_⟩;refine zj rfl (fun h=> ?_) (fun h=> ?_)
  ·refine ms19 ⟨?_⟩;simp only [lst,Zz,ZB,setn];refine Tells.le (by exact les) (.cons (.refl _) (.cons (.refl _) (.cons (.of (Nat.le_refl _) (fun h=>h) fun k hk=> ?_) .nil)));rw [zdO];exact zdo r i k
  obtain rfl:i=64:=by omega
  refine zr (Tells.objf 2 (fU8 (r.take 64)) rfl fun k hk=> ?_) ?_
  ·have hk:k<64:=hk
   refine Eq.trans ?_ (ze1 hk).symm;simp [fU8,List.getD_eq_getElem?_getD,List.getElem?_take_of_lt hk]
  simp only [setn];refine go ⟨?_⟩;refine zeT zf3 (zgK g (r.take 64) g1 (by simp;omega)) (zhV (AV.Le.refl (.agg (w8C g))) (AV.Le.refl (zcd (r.take 64)))) ⟨?_⟩;refine go ⟨?_⟩;refine je ⟨⟨(mix g (r.take 64),r.drop 64),jT _ _ g1,by show (r.drop 64).length≤(x.buf++b).length;rw [List.length_drop];omega,(jb (by omega)).symm.trans g3⟩,by show (r.drop 64).length<r.length;rw [List.length_drop];omega, ?_⟩;simp only [lst,Zz,ZB,setn];exact (Tells.sel [0,1] rfl rfl).trans (Tells.le (by exact les) (by exact leh))
 ·rw [VR (by omega)] at g3;rw [←g3];refine go ⟨?_⟩;simp only [e];exact fin
theorem qN:ze Tryz.prog 274:=gfn Tryz.func274
theorem zlz (q:Int):IntKind.u8.wrap (q % 2^8)=IntKind.u8.wrap q:=by simp only [IntKind.wrap_u8];omega
theorem PN (n:Int):APure Tryz.prog 305 [int n] (bytes (Y4 n)) []:=by
 refine ent Tryz.func305 Tryz.ntmps305 ⟨?_⟩;refine go ⟨?_⟩;by_cases h0:n<0
 ·rw [show Y4 n=[] from if_pos (.inl h0)];exact gf
 by_cases h1:n>1125899906842624
 ·rw [show Y4 n=[] from if_pos (.inr h1)];exact gf
 rw [tC (by omega) (by omega)];refine go ⟨?_⟩;have hK:(((119 - n % 64) % 64).toNat:Int)=(119 - n % 64) % 64:=by omega
 refine lp (fun c:{c:Nat // c≤((119 - n % 64) % 64).toNat}=>[(3, .row 0 1 0 (1+c.1) none),(11, .junk)]) (fun c=>[{T:=5,sz:=1,n:=1+c.1,f:=fU8 (128::List.replicate c.1 0)}]) (fun c=>((119 - n % 64) % 64).toNat - c.1) ⟨0,by omega⟩ ?_ (h0:=by simp only [lst,Zz,ZB,setn];exact Tells.le (by exact les) (.cons (.of (Nat.le_refl _) (fun h=>h) fun k hk=>by obtain rfl:k=0:=(by have hk:k<1+0:=hk;omega);rfl) .nil))
 rintro ⟨c,hc⟩
 have e1:(IntKind.i64.wrap (IntKind.i64.wrap (n+((1+c:Nat):Int))+8)).tmod 64=(n+1+c+8) % 64:=by
  have:IntKind.i64.wrap (IntKind.i64.wrap (n+((1+c:Nat):Int))+8)=n+1+c+8:=by simp only [IntKind.wrap_i64];omega
  rw [this];exact Int.tmod_eq_emod_of_nonneg (by omega)
 refine go ⟨?_⟩;rw [e1];by_cases hlt:c<((119 - n % 64) % 64).toNat
 ·rw [show ((n+1+(c:Int)+8) % 64 !=0)=true by rw [bne_iff_ne];omega];refine go ⟨?_⟩;refine app (fU8 (128::List.replicate (c+1) 0)) hT rfl rfl rfl rfl (fun k hk=> ?_) ?_
  ·rw [show (128::List.replicate (c+1) (0:UInt8))=(128::List.replicate c 0)++[0] by rw [List.replicate_succ'];rfl];exact wS (xs:=128::List.replicate c 0) (ys:=[0]) (by simp;omega) rfl rfl k hk
  refine ng ⟨?_⟩;refine je ⟨⟨c+1,by omega⟩,by simp only;omega, ?_⟩;exact tel
 obtain rfl:c=((119 - n % 64) % 64).toNat:=by omega
 rw [show ((n+1+((((119 - n % 64) % 64).toNat:Nat):Int)+8) % 64 !=0)=false by rw [bne_eq_false_iff_eq];omega];rw [show 1+((119 - n % 64) % 64).toNat=(ww n).length by rw [qH];omega,show (128::List.replicate ((119 - n % 64) % 64).toNat (0:UInt8))=ww n from rfl];have hl:(ww n).length≤64:=by rw [qH];omega
 refine go ⟨?_⟩;refine lp (fun j:{j:Nat // j≤8}=>[(4,int (7 - (j.1:Int))),(3, .row 0 1 0 ((ww n).length+j.1) none),(13, .junk)]) (fun i=>[{T:=5,sz:=1,n:=(ww n).length+i.1,f:=fU8 (ww n++vh n i.1)}]) (fun i=>8 - i.1) ⟨0,by omega⟩ ?_ (h0:=by simp only [lst,Zz,ZB,setn];exact Tells.le (by exact les) (.cons (.of (Nat.le_refl _) (fun h=>h) fun k hk=>by rw [show vh n 0=[] from rfl,List.append_nil]) .nil))
 rintro ⟨j,hj⟩
 refine go ⟨?_⟩;refine zj rfl (fun h=> ?_) (fun h=> ?_)
 ·refine go ⟨?_⟩;have e2:IntKind.i64.wrap (n*8)=8*n:=by simp only [IntKind.wrap_i64];omega
  have e3:min (IntKind.u64.wrap (IntKind.i64.wrap (8*(7 - (j:Int))))).toNat IntKind.i64.bits=8*(7 - j):=by
   simp only [IntKind.wrap_i64,IntKind.wrap_u64];have:IntKind.i64.bits=64:=rfl
   omega
  have e4:=kR ((8*n).fdiv (2^(8*(7 - j)))) 8 (by decide);rw [show ((2:Int)^8 - 1)=255 from rfl] at e4;rw [e2,e3,e4,zlz,←Zr];refine app (fU8 (ww n++vh n (j+1))) hT rfl rfl rfl rfl (fun k hk=> ?_) ?_
  ·rw [UC,←List.append_assoc];exact wS (xs:=ww n++vh n j) (ys:=[ZR ((8*n).fdiv (2^(8*(7 - j))))]) (by simp [jJ]) rfl rfl k hk
  refine ng ⟨?_⟩;refine je ⟨⟨j+1,by omega⟩,by simp only;omega, ?_⟩;exact tel
 obtain rfl:j=8:=by omega
 refine go ⟨?_⟩;rw [show (ww n).length+8=(ww n++vh n 8).length by simp [jJ]];exact fin
theorem TS:ze Tryz.prog 305:=gfn Tryz.func305
theorem Hx (q:Int) (h:0≤q):IntKind.u8.wrap (IntKind.u32.wrap ((BitVec.ofInt IntKind.u32.bits q &&& BitVec.ofInt IntKind.u32.bits 255).toNat:Int))=((ZR q).toNat:Int):=by
 obtain ⟨m,rfl⟩: ∃m:Nat,q=m:=⟨q.toNat,by omega⟩;rw [zhz,Zr];simp only [IntKind.wrap_u8];omega
theorem G2 (x:UInt32) (k:Nat):0≤(wv x).fdiv (2^k):=by
 rw [Int.fdiv_eq_ediv_of_nonneg _ (Int.le_of_lt (Int.pow_pos (by decide)))];exact Int.ediv_nonneg (pB x) (Int.le_of_lt (Int.pow_pos (by decide)))
theorem zbs (s:ShS) (hh:s.h.length=8):APure Tryz.prog 273 [shA s] (bytes (wW s)) []:=by
 refine ent Tryz.func273 Tryz.ntmps273 ⟨?_⟩;unfold wW;obtain ⟨h1,h2,h3,h4⟩:=WS hh;refine gc pF (Pg s) ⟨?_⟩;generalize wh s=x at*;refine gcg TS (PN x.n) ⟨?_⟩;have hp:=vo x.n;refine cal qN (Qf x (Y4 x.n) h1 (by omega)) ⟨?_⟩;have h5:=y_ x (Y4 x.n) h1;generalize Yn x (Y4 x.n)=y at*;refine go ⟨?_⟩;refine zr (Tells.nilRow (t:=5) 5 1 rfl rfl) ?_;simp only [setn,List.length_cons,List.length_nil,Nat.zero_add];refine zr (Tells.sel [2,3] rfl rfl) ?_;simp only [List.map,ren,idx,Wf,Nat.reduceBEq,Option.map_some,Option.map_none,Nat.zero_add,Nat.reduceAdd,yS];refine lp (fun i:{i:Nat // i≤8}=>[(6,int i.1),(5, .row 1 1 0 (4*i.1) none)]) (fun i=>[zf1 y,{T:=5,sz:=1,n:=4*i.1,f:=fU8 (yT y.h i.1)}]) (fun i=>8 - i.1) ⟨0,by omega⟩ ?_
 rintro ⟨i,hi⟩
 refine go ⟨?_⟩;refine zj rfl (fun h=> ?_) (fun h=> ?_)
 ·refine go ⟨?_⟩;refine qo hT rfl (x:= .lit (.int .u32 (wv (y.h.getD i 0)))) ?_ ?_
  ·match i,h with
   |0,_|1,_|2,_|3,_|4,_|5,_|6,_|7,_=>exact ⟨_,rfl,Nat.zero_lt_one,Nat.le_of_ble_eq_true rfl⟩
   |i+8,h=>omega
  refine ng ⟨?_⟩;have m1:min 24 IntKind.u32.bits=24:=rfl
  have m2:min 16 IntKind.u32.bits=16:=rfl
  have m3:min 8 IntKind.u32.bits=8:=rfl
  rw [m1,m2,m3];simp only [Hx _ (G2 _ _),Hx _ (pB _)];rw [←Zr];refine app (fU8 (yT y.h (i+1))) hT rfl rfl rfl rfl (fun k hk=> ?_) ?_
  ·rw [wM (by omega)];exact wS (xs:=yT y.h i) (ys:=X5 (y.h.getD i 0)) (by rw [YJ (by omega)]) rfl rfl k hk
  refine ng ⟨?_⟩;refine je ⟨⟨i+1,by omega⟩,by simp only;omega, ?_⟩;exact tel
 obtain rfl:i=8:=by omega
 refine go ⟨?_⟩;have e1:yT y.h 8=(y.h.map X5).flatten:=by unfold yT;rw [List.take_of_length_le (by omega)]
 have e2:=YJ (h:=y.h) (i:=8) (by omega);rw [e1] at e2;rw [e1,←e2];exact fin
theorem Ur:ze Tryz.prog 273:=gfn Tryz.func273
theorem KP (b:List UInt8) (hb:b.length≤100000000000):APure Tryz.prog 221 [bytes b] (bytes (Yh b)) []:=by
 refine ent Tryz.func221 Tryz.ntmps221 ⟨?_⟩;refine gcg qy qr ⟨?_⟩;refine cg qN (Qf WW b rfl hb) ⟨?_⟩;exact cgf Ur (zbs _ (y_ _ _ rfl))
theorem jW:ze Tryz.prog 221:=gfn Tryz.func221
end
section
attribute [local irreducible] zt zo ADr AL AW zF zh zU Tells APure ACall
abbrev bx (t:TypeId) (x:AV):zb:={T:=t,sz:=1,n:=1,f:=fun _=>[x],box:=true,pure:=true}
theorem zhs (b:List UInt8) (k:Int) (hk:1≤k):APure Tryz.prog 310 [bytes b,int k] (.fn (.func 329) [] [.ptr 0 1 0 0, .ptr 1 1 0 0]) [bx 26 (bytes b),bx 3 (int k)]:=by
 refine ent Tryz.func310 Tryz.ntmps310 ⟨?_⟩;refine mc0 ⟨?_⟩;refine zbd rfl (by simp;omega) ?_;refine mc0 ⟨?_⟩;exact Z9 rfl trivial [_] _ (Tells.refl _) ⟨rfl,rfl⟩
abbrev zd1 (b:List UInt8) (c i:Nat):AV:= .sl 1 (min c (b.length - i*c)) true fun j=>fU8 b (i*c+j)
theorem Gl (b:List UInt8) (c:Nat) (hc:0<c) (hb:b.length+c≤140737488355328) (n:Nat) (hn:n=(b.length+c - 1) / c):QF Tryz.prog 329 [.ip [bytes b], .ip [int c]] (fun i=>[zd1 b c i]) n:=by
 refine Qe hT Tryz.func329 rfl rfl fun L=> ?_
 simp only [Tryz.ntmps329,List.length_cons,List.length_nil,Nat.reduceAdd,Nat.reduceSub,List.replicate,List.cons_append,List.nil_append]
 have hin: ∀i,i<n↔i*c<b.length:=fun i=>by
  rw [hn,Nat.lt_iff_add_one_le,Nat.le_div_iff_mul_le hc,Nat.add_mul];omega
 refine mc0 ⟨?_⟩;refine gi [4,5,6,7,8,9,10,11,12,13,14,15,16,17,18,19,20,21,22,23,24,25,26,27,28,29,30] (fun i:{i:Nat // i≤n}=>[(4,int (i.1*c:Nat))]) (fun _=>[]) (fun i=>⟨0,i.1,false,some (L,fun i=>[zd1 b c i],n),true⟩) (fun i=>n - i.1) ⟨0,by omega⟩ ?_ ?_
 ·simp only [lst,Zz,ZB,setn];refine Tells.le ?_ .nil;repeat (first|exact .nil|refine .cons (.junk _) ?_|refine .cons (.refl _) ?_|refine .cons (.int (by simp)) ?_)
 ·rintro ⟨i,hi⟩
  have hii:=hin i;have hi1:(i+1)*c=i*c+c:=Nat.succ_mul i c
  simp only [lst,Zz,ZB,setn];obtain ⟨p,hp⟩: ∃p,p=i*c:=⟨_,rfl⟩;rw [←hp] at hii hi1 ⊢;refine mc0 ⟨?_⟩;refine ZJ rfl (fun h=> ?_) (fun h=> ?_)
  ·have hlt:p<b.length:=by simpa using h
   refine mc0 ⟨?_⟩;refine wL y8 7 (by kernel_rfl) (by kernel_rfl) ?_;refine mc2 ⟨?_⟩;refine mc3 ⟨?_⟩;refine Q2 ?_;refine mc4 ⟨?_⟩;refine mc0 ⟨?_⟩;refine TN rfl rfl rfl rfl rfl rfl (hii.2 hlt) rfl rfl (.cons (.sl ?_ (fun h=>h) fun j hj=> ?_) .nil) fun t=> ?_
   ·rw [←hp];simp only [zO,IntKind.wrap_i64];omega
   ·rw [←hp];simp [vV]
   refine ms13 ⟨?_⟩;cases t
   ·skip
    refine mc0 ⟨?_⟩;exact (zin fun h=>by cases h).2
   ·skip
    refine mc0 ⟨?_⟩;refine wg ⟨⟨i+1,hii.2 hlt⟩,by have:=hii.2 hlt;simp only;omega, ?_⟩;refine Tells.le ?_ .nil;repeat (first|exact .nil|refine .cons (.junk _) ?_|refine .cons (.refl _) ?_|refine .cons (.int (by simp only [IntKind.wrap_i64];omega)) ?_)
  ·have hge: ¬p<b.length:=by simpa using h
   refine mc0 ⟨?_⟩;have h1: ¬i<n:=fun h=>hge (hii.1 h)
   exact (zin fun _=>by show i=n;omega).1
theorem zgy:ze Tryz.prog 310:=gfn Tryz.func310
theorem zdB:ze Tryz.prog 329:=gfn Tryz.func329
def XO (v:List UInt8) (n:Nat):List Int:=(List.range n).map fun i=>Zm 0 ((v.drop (i*4)).take 4)
def yZ (b:List UInt8):List Int×List UInt8×Int:=
 if (zd b).2.2≠0 then ([],[],(zd b).2.2) else if (zd b).1.length % 4≠0 then ([],[],2) else (XO (zd b).1 ((zd b).1.length / 4),(zd b).2.1,0)
def gnH (v:List UInt8) (i:Nat):List zb:=[{T:=36,sz:=1,n:=1,f:=fun _=>[.row 1 1 0 i none],pure:=false,box:=true},{T:=3,sz:=1,n:=i,f:=yP (XO v i)}]
set_option maxRecDepth 100000 in
theorem zaW (b:List UInt8):APure Tryz.prog 291 [bytes b] (.tup [Zn (yZ b).1,bytes (yZ b).2.1,int (yZ b).2.2]) []:=by
 refine ent Tryz.func291 Tryz.ntmps291 ⟨?_⟩;refine mc0 ⟨?_⟩;refine xB rfl rfl rfl Xu rfl (by repeat' (first|exact trivial|exact Nat.le_refl _|exact Nat.le_of_eq (Nat.zero_add _)|refine And.intro ?_ ?_|omega)) (Xz b) ?_;refine mc1 ⟨?_⟩;have hv:=Vi b;unfold yZ;generalize zd b=x at*;obtain ⟨v,r,e⟩:=x;simp only at hv ⊢;refine mc0 ⟨?_⟩;refine ZJ rfl (fun h=> ?_) (fun h=> ?_)
 ·have h1:e≠0:=by simpa using h
  refine mc0 ⟨?_⟩;exact Z9 rfl trivial [Zn [],bytes [],int e] [] (Tells.le (.cons (.nil rfl rfl) (.cons (.nil rfl rfl) (.cons (.refl _) .nil))) .nil) ⟨by rw [if_pos h1];rfl,rfl⟩
 have h1:e=0:=by simpa using h
 have htm:(v.length:Int).tmod 4=(v.length % 4:Nat):=by rw [Int.tmod_eq_emod_of_nonneg (by omega)];omega
 refine mc0 ⟨?_⟩;refine ZJ rfl (fun h=> ?_) (fun h=> ?_)
 ·have h2:v.length % 4≠0:=by rw [htm] at h;simp at h;omega
  refine mc0 ⟨?_⟩;exact Z9 rfl trivial [Zn [],bytes [],int 2] [] (Tells.le (.cons (.nil rfl rfl) (.cons (.nil rfl rfl) (.cons (.refl _) .nil))) .nil) ⟨by rw [if_neg (by simpa using h1),if_pos h2];rfl,rfl⟩
 have h2:v.length % 4=0:=by rw [htm] at h;simp at h;omega
 refine mc0 ⟨?_⟩;refine xB rfl rfl rfl zgy rfl (by repeat' (first|exact trivial|exact Nat.le_refl _|exact Nat.le_of_eq (Nat.zero_add _)|refine And.intro ?_ ?_|omega)) (zhs v 4 (by omega)) ?_;refine ms13 ⟨?_⟩;refine zr (Tells.thaw (t:=27) rfl rfl (by repeat' (first|exact trivial|refine And.intro ?_ ?_|exact Nat.zero_lt_one|exact Nat.zero_le _))) ?_;refine zr (Tells.nilCell 0 3 1 rfl rfl rfl rfl) ?_;refine zr (Tells.sel [0,3] rfl rfl) ?_;refine zr (Tells.le (H':=gnH v 0) (.refl _) (.cons (.of (Nat.le_refl _) (fun h=>h) fun _ _=>rfl) (.cons (.of (Nat.le_refl _) (fun h=>h) fun k hk=>by omega) .nil))) ?_;simp only [setn,List.map,ren,idx];refine zcV (n:=v.length / 4) rfl rfl rfl zdB rfl (Gl v 4 (by omega) (by omega) _ (by omega)) (fun i hi=>rfl) (gnH v) rfl (fun i hi L=> ?_) ?_
 ·simp only [wP,setn,gnH,List.length_cons,List.length_nil,Nat.reduceAdd];have hi4:i*4+4≤v.length:=by omega
  have hlen:((v.drop (i*4)).take 4).length=4:=by simp;omega
  have hw:(zD ((v.drop (i*4)).take 4) 4).1=Zm 0 ((v.drop (i*4)).take 4):=by
   unfold zD;rw [show YE 4=4 from rfl,if_neg (by omega),List.take_of_length_le (Nat.le_of_eq hlen)]
  have hs:XO v (i+1)=XO v i++[Zm 0 ((v.drop (i*4)).take 4)]:=by simp [XO,List.range_succ]
  have hnl:(XO v i).length=i:=by simp [XO]
  have hcall:=(VT ((v.drop (i*4)).take 4) 4).le (.cons (show AV.Le (zd1 v 4 i) _ from .sl (by rw [hlen];omega) (fun h=>by cases h) fun j hj=>by
   have hj:j<4:=by omega
   simp [fU8,List.getD_eq_getElem?_getD,List.getElem?_take,hj]) (.cons (.refl (int 4)) .nil))
  refine mc0 ⟨?_⟩;refine xB rfl rfl rfl jQ rfl (by repeat' (first|exact trivial|exact Nat.le_refl _|exact Nat.le_of_eq (Nat.zero_add _)|refine And.intro ?_ ?_|omega)) hcall ?_;refine mc1 ⟨?_⟩;rw [hw];refine mc0 ⟨?_⟩;refine ZT hT rfl rfl rfl (by refine ⟨?_, ?_, ?_, ?_⟩ <;>first|exact trivial|exact Nat.le_refl _|omega|(simp only;omega)) ?_;refine mc1 ⟨?_⟩
  refine zz (Tells.objf 1 (yP (XO v (i+1))) rfl (fun k hk=>by
   rw [hs,ja (n:=i) hnl.symm (by simpa using hk)]
   exact Vr fun j hj=>by
    have hk:k<i+1:=hk
    obtain rfl:j=0:=by omega
    rfl)) ?_
  refine mc1 ⟨?_⟩;refine wN hT rfl rfl rfl ?_ ?_
  ·exact ⟨Nat.zero_lt_one,fun _=>rfl⟩
  refine ms13 ⟨?_⟩;refine qL _ ((Tells.sel [0,1] rfl rfl).trans (Tells.le (H':=gnH v (i+1)) (.refl _) ?_)) rfl ?_ rfl
  ·exact .cons (.of (Nat.le_refl _) (fun h=>h) fun _ _=>rfl) (.cons (.of (Nat.le_refl _) (fun h=>h) fun _ _=>rfl) .nil)
  ·repeat (first|exact .nil|refine .cons (.refl _) ?_)
 ·have hn:(XO v (v.length / 4)).length=v.length / 4:=by simp [XO]
  simp only [gnH];refine mc0 ⟨?_⟩;refine Z9 rfl trivial [Zn (XO v (v.length / 4)),bytes r,int 0] [] ?_ ⟨by rw [if_neg (by simpa using h1),if_neg (by omega)];rfl,rfl⟩;refine (Tells.thaw (t:=0) rfl rfl ?_).trans ((Tells.sel [] rfl rfl).trans (Tells.le ?_ .nil))
  ·exact Nat.le_of_eq (Nat.zero_add _)
  ·exact .cons (.sl hn.symm (fun h=>h) fun _ _=>rfl) (.cons (.refl _) (.cons (.refl _) .nil))
theorem pf (b:List UInt8) (t:Bool) (hb:b.length≤140737480000000):APure Tryz.prog 263 [bytes b, .lit (.bool t)] (.row 0 1 0 (b++nby (bif t then 1 else 0) 1).length none) [oU8 (b++nby (bif t then 1 else 0) 1)]:=by
 refine ent Tryz.func263 Tryz.ntmps263 ⟨?_⟩;refine mc0 ⟨?_⟩;cases t
 ·skip
  refine mc0 ⟨?_⟩;refine xB rfl rfl rfl XM rfl (by repeat' (first|exact trivial|exact Nat.le_refl _|exact Nat.le_of_eq (Nat.zero_add _)|refine And.intro ?_ ?_|omega)) (wJ b 0 1 (by omega)) ?_;refine ms13 ⟨?_⟩;exact Z9 rfl trivial [_] [_] (Tells.refl _) ⟨rfl,rfl⟩
 ·skip
  refine mc0 ⟨?_⟩;refine xB rfl rfl rfl XM rfl (by repeat' (first|exact trivial|exact Nat.le_refl _|exact Nat.le_of_eq (Nat.zero_add _)|refine And.intro ?_ ?_|omega)) (wJ b 1 1 (by omega)) ?_;refine ms13 ⟨?_⟩;exact Z9 rfl trivial [_] [_] (Tells.refl _) ⟨rfl,rfl⟩
def zY (b:List UInt8):Bool×List UInt8×Int:=if (zD b 1).2.2≠0 then (false,[],(zD b 1).2.2) else if (zD b 1).1>1 then (false,[],2) else ((zD b 1).1==1,(zD b 1).2.1,0)
theorem za_ (b:List UInt8):APure Tryz.prog 244 [bytes b] (.tup [.lit (.bool (zY b).1),bytes (zY b).2.1,int (zY b).2.2]) []:=by
 refine ent Tryz.func244 Tryz.ntmps244 ⟨?_⟩;refine mc0 ⟨?_⟩;refine xB rfl rfl rfl jQ rfl (by repeat' (first|exact trivial|exact Nat.le_refl _|exact Nat.le_of_eq (Nat.zero_add _)|refine And.intro ?_ ?_|omega)) (VT b 1) ?_;refine mc1 ⟨?_⟩;unfold zY;generalize zD b 1=x at*;obtain ⟨n,v,e⟩:=x;simp only;refine mc0 ⟨?_⟩;refine ZJ rfl (fun h=> ?_) (fun h=> ?_)
 ·have h1:e≠0:=by simpa using h
  refine mc0 ⟨?_⟩;exact Z9 rfl trivial [.lit (.bool false),bytes [],int e] [] (Tells.le (.cons (.refl _) (.cons (.nil rfl rfl) (.cons (.refl _) .nil))) .nil) ⟨by rw [if_pos h1];rfl,rfl⟩
 have h1:e=0:=by simpa using h
 refine mc0 ⟨?_⟩;refine ZJ rfl (fun h=> ?_) (fun h=> ?_)
 ·have h2:n>1:=by simpa using h
  refine mc0 ⟨?_⟩;exact Z9 rfl trivial [.lit (.bool false),bytes [],int 2] [] (Tells.le (.cons (.refl _) (.cons (.nil rfl rfl) (.cons (.refl _) .nil))) .nil) ⟨by rw [if_neg (by simpa using h1),if_pos h2];rfl,rfl⟩
 have h2: ¬n>1:=by simpa using h
 refine mc0 ⟨?_⟩;exact Z9 rfl trivial [.lit (.bool (n==1)),bytes v,int 0] [] (Tells.refl _) ⟨by rw [if_neg (by simpa using h1),if_neg h2];rfl,rfl⟩
def Q1 (l:List Int):List UInt8:=(l.map fun n=>nby n 4).flatten
theorem K4: ∀(l:List Int),(Q1 l).length=4*l.length
 |[]=>rfl
 |n::l=>by
  have:=K4 l
  simp only [Q1,List.map_cons,List.flatten_cons,List.length_append,qg,List.length_cons] at this ⊢;rw [this,show YE 4=4 from rfl];omega
theorem UV (l:List Int) (j:Nat) (h:j<l.length):Q1 (l.take (j+1))=Q1 (l.take j)++nby l[j] 4:=by
 unfold Q1;rw [List.take_succ_eq_append_getElem h,List.map_append,List.flatten_append];simp
set_option maxRecDepth 100000 in
theorem zb1 (b:List UInt8) (l:List Int) (hb:b.length≤140737480000000) (hl:l.length≤1000000):APure Tryz.prog 301 [bytes b,Zn l] (.row 0 1 0 (zi b (Q1 l)).length none) [oU8 (zi b (Q1 l))]:=by
 refine ent Tryz.func301 Tryz.ntmps301 ⟨?_⟩;refine mc0 ⟨?_⟩;refine qz [5,7,10,11,12,13,14,15,16,17] (fun i:{i:Nat // i≤l.length}=>[(5,bytes (Q1 (l.take i.1))),(10,int i.1)]) (fun i=>[]) (fun i=>l.length - i.1) ⟨0,by omega⟩ ?_ ?_
 ·simp only [lst,Zz,ZB,setn];refine Tells.le ?_ .nil;repeat (first|exact .nil|refine .cons (.junk _) ?_|refine .cons (.refl _) ?_|refine .cons (.nil rfl rfl) ?_)
 ·rintro ⟨i,hi⟩
  simp only [lst,Zz,ZB,setn];refine mc0 ⟨?_⟩;refine ZJ rfl (fun h=> ?_) (fun h=> ?_)
  ·have hlt:i<l.length:=by simpa using h
   have hcl:=K4 (l.take i);rw [List.length_take] at hcl;refine mc0 ⟨?_⟩;refine xB rfl rfl rfl XM rfl (by repeat' (first|exact trivial|exact Nat.le_refl _|exact Nat.le_of_eq (Nat.zero_add _)|refine And.intro ?_ ?_|omega)) (wJ (Q1 (l.take i)) _ 4 (by omega)) ?_;refine ms13 ⟨?_⟩;refine wg ⟨⟨i+1,by omega⟩,by simp only;omega, ?_⟩;refine (Tells.thaw (t:=5) rfl rfl (Nat.le_of_eq (Nat.zero_add _))).trans ((Tells.sel [] rfl rfl).trans (Tells.le ?_ .nil));have e:l.getD (Int.toNat i) 0=l[i]:=by simp [List.getD_eq_getElem?_getD,hlt]
   have hsn:=UV l i hlt;repeat (first|exact .nil|refine .cons (.junk _) ?_|refine .cons (.refl _) ?_|refine .cons (.int (by simp only [IntKind.wrap_i64];omega)) ?_|refine .cons (.eq (by rw [hsn,←e];rfl)) ?_)
  ·have hge: ¬i<l.length:=by simpa using h
   obtain rfl:i=l.length:=by omega
   refine mc0 ⟨?_⟩;refine xB rfl rfl rfl yU rfl (by repeat' (first|exact trivial|exact Nat.le_refl _|exact Nat.le_of_eq (Nat.zero_add _)|refine And.intro ?_ ?_|omega)) (Yj b (Q1 (l.take l.length)) hb) ?_;refine ms13 ⟨?_⟩;rw [List.take_length];exact Z9 rfl trivial [_] [_] (Tells.refl _) ⟨rfl,rfl⟩
set_option maxRecDepth 100000 in
theorem GP (a b:List Int) (ha:a.length≤140737488355328∨b.length≤140737488355328):APure Tryz.prog 50 [Zn a,Zn b] (.lit (.bool (decide (a=b)))) []:=by
 refine ent Tryz.func50 Tryz.ntmps50 ⟨?_⟩;refine mc0 ⟨?_⟩;refine ZJ rfl (fun h=> ?_) (fun h=> ?_)
 ·have h1:a≠b:=by rintro rfl;simp at h
  refine mc0 ⟨?_⟩;exact Z9 rfl trivial [_] [] (Tells.refl _) ⟨by rw [decide_eq_false h1];rfl,rfl⟩
 have h1:a.length=b.length:=by simp at h;omega
 replace ha:a.length≤140737488355328:=by omega
 refine mc0 ⟨?_⟩;refine qz [4,5,11,12,13,14,15,16,17,18,19,20,21,22,23,24,25] (fun i:{i:Nat // i≤a.length∧a.take i=b.take i}=>[(5,int i.1)]) (fun i=>[]) (fun i=>a.length - i.1) ⟨0,by simp⟩ ?_ ?_
 ·simp only [lst,Zz,ZB,setn];refine Tells.le ?_ .nil;repeat (first|exact .nil|refine .cons (.junk _) ?_|refine .cons (.refl _) ?_)
 ·rintro ⟨i,hi,he⟩
  simp only [lst,Zz,ZB,setn];refine mc0 ⟨?_⟩;refine ZJ rfl (fun h=> ?_) (fun h=> ?_)
  ·have hlt:i<a.length:=by simpa using h
   have ea:a.getD (Int.toNat i) 0=a[i]:=by simp [List.getD_eq_getElem?_getD,hlt]
   have eb:b.getD (Int.toNat i) 0=b[i]:=by simp [List.getD_eq_getElem?_getD,h1▸hlt]
   refine mc0 ⟨?_⟩;refine wL y8 9 (by kernel_rfl) (by kernel_rfl) ?_;refine mc2 ⟨?_⟩;refine mc3 ⟨?_⟩;refine Q2 ?_;refine mc4 ⟨?_⟩;refine mc0 ⟨?_⟩;rw [ea,eb];refine ZJ rfl (fun h=> ?_) (fun h=> ?_)
   ·have h2:a≠b:=by rintro rfl;simp at h
    refine mc0 ⟨?_⟩;exact Z9 rfl trivial [_] [] (Tells.refl _) ⟨by rw [decide_eq_false h2];rfl,rfl⟩
   ·have h2:a[i]=b[i]:=by simpa using h
    refine mc0 ⟨?_⟩;refine wg ⟨⟨i+1,by omega,by rw [List.take_succ_eq_append_getElem hlt,List.take_succ_eq_append_getElem (h1▸hlt),he,h2]⟩,by simp only;omega, ?_⟩;refine Tells.le ?_ .nil;repeat (first|exact .nil|refine .cons (.junk _) ?_|refine .cons (.refl _) ?_|refine .cons (.int (by simp only [IntKind.wrap_i64];omega)) ?_)
  ·have hge: ¬i<a.length:=by simpa using h
   obtain rfl:i=a.length:=by omega
   rw [List.take_length,h1,List.take_length] at he;refine mc0 ⟨?_⟩;exact Z9 rfl trivial [_] [] (Tells.refl _) ⟨by rw [decide_eq_true he];rfl,rfl⟩
theorem za5:ze Tryz.prog 291:=gfn Tryz.func291
theorem zaU:ze Tryz.prog 301:=gfn Tryz.func301
theorem Uf:ze Tryz.prog 263:=gfn Tryz.func263
theorem zce:ze Tryz.prog 244:=gfn Tryz.func244
theorem Gh:ze Tryz.prog 50:=gfn Tryz.func50
end
section
attribute [local irreducible] zA AO zt zo ADr AL AW zF zh zU Tells APure ACall
theorem GH (b:List UInt8) (t:Bool) (hb:b.length≤140737480000000):APure Tryz.prog 226 [bytes b, .lit (.bool t)] (.row 0 1 0 (b++nby (bif t then 1 else 0) 1).length none) [oU8 (b++nby (bif t then 1 else 0) 1)]:=by
 refine ent Tryz.func226 Tryz.ntmps226 ⟨?_⟩;refine go ⟨?_⟩;cases t
 ·exact gcgf XG (Wn b 0 1 (by omega))
 ·exact gcgf XG (Wn b 1 1 (by omega))
theorem wa:ze Tryz.prog 226:=gfn Tryz.func226
theorem gB (b:List UInt8) (l:List Int) (hb:b.length≤140737480000000) (hl:l.length≤1000000):APure Tryz.prog 280 [bytes b,Zn l] (.row 0 1 0 (zi b (Q1 l)).length none) [oU8 (zi b (Q1 l))]:=by
 refine ent Tryz.func280 Tryz.ntmps280 ⟨?_⟩;refine go ⟨?_⟩;refine lp (fun i:{i:Nat // i≤l.length}=>[(5,bytes (Q1 (l.take i.1))),(6,int i.1)]) (fun _=>[]) (fun i=>l.length - i.1) ⟨0,by omega⟩ ?_
 rintro ⟨i,hi⟩
 refine go ⟨?_⟩;refine zj rfl (fun h=> ?_) (fun h=> ?_)
 ·have hlt:i<l.length:=by omega
  have hcl:=K4 (l.take i);rw [List.length_take] at hcl;refine go ⟨?_⟩;rw [show l.getD i 0=l[i] by simp [List.getD_eq_getElem?_getD,hlt]];refine cal XG ((Wn (Q1 (l.take i)) l[i] 4 (by omega)).data rfl (Nat.le_of_eq (Nat.zero_add _))) ⟨?_⟩;have hsn:=UV l i hlt;rw [←hsn];refine ms19 ⟨?_⟩;exact tel
 ·obtain rfl:i=l.length:=by omega
  rw [List.take_length];exact gcgf ZQ (ya b (Q1 l) hb)
theorem gX:ze Tryz.prog 280:=gfn Tryz.func280
theorem GV (b:List UInt8):APure Tryz.prog 210 [bytes b] (.tup [.lit (.bool (zY b).1),bytes (zY b).2.1,int (zY b).2.2]) []:=by
 refine ent Tryz.func210 Tryz.ntmps210 ⟨?_⟩;rcases b with _|⟨x,r⟩
 ·exact gf
 have e:zY (x::r)=if (x.toNat:Int)>1 then (false,[],2) else ((x.toNat:Int)==1,r,0):=by
  have e1:zD (x::r) 1=((x.toNat:Int),r,0):=by simp [zD,show YE 1=1 from rfl,Zm]
  unfold zY;rw [e1];simp
 rw [e];refine go ⟨?_⟩;refine zj rfl (fun h=> ?_) (fun h=> ?_)
 ·rw [if_pos (by omega)];exact gf
 rw [if_neg (by omega)];exact gf
theorem GL:ze Tryz.prog 210:=gfn Tryz.func210
theorem GS (b:List UInt8):APure Tryz.prog 271 [bytes b] (.tup [Zn (yZ b).1,bytes (yZ b).2.1,int (yZ b).2.2]) []:=by
 refine ent Tryz.func271 Tryz.ntmps271 ⟨?_⟩;refine gc xv (xF b) ⟨?_⟩;have hv:=Vi b;unfold yZ;generalize zd b=x at*;obtain ⟨v,r,e⟩:=x;simp only at hv ⊢;refine go ⟨?_⟩;refine zj rfl (fun h=> ?_) (fun h=> ?_)
 ·rw [if_pos h];exact gf
 rw [if_neg h];have htm:(v.length:Int).tmod 4=(v.length % 4:Nat):=by rw [Int.tmod_eq_emod_of_nonneg (by omega)];omega
 refine go ⟨?_⟩;refine zj rfl (fun h=> ?_) (fun h=> ?_)
 ·rw [if_pos (by rw [htm] at h;omega)];exact gf
 have h4:v.length % 4=0:=by rw [htm] at h;omega
 rw [if_neg (by omega)];refine go ⟨?_⟩;refine zr (Tells.nilRow (t:=8) 3 1 rfl rfl) ?_;have hn: ∀i,(XO v i).length=i:=fun i=>by simp [XO]
 have e0:XO v 0=[]:=rfl
 refine lp (fun i:{i:Nat // i≤v.length / 4}=>[(5,bytes (v.drop (i.1*4))),(8, .row 0 1 0 i.1 none),(15, .junk)]) (fun i=>[yC (XO v i.1)]) (fun i=>v.length / 4 - i.1) ⟨0,by omega⟩ ?_ (h0:=by
  simp only [lst,Zz,ZB,setn];refine Tells.le ?_ ?_
  ·exact les
  ·exact .cons (.of (Nat.le_refl _) (fun h=>h) fun k hk=>(Nat.not_lt_zero _ hk).elim) .nil)
 rintro ⟨i,hi⟩
 refine go ⟨?_⟩;have hld:(v.drop (i*4)).length=v.length - i*4:=by simp
 refine zj rfl (fun h=> ?_) (fun h=> ?_)
 ·have h8:i*4+4≤v.length:=by omega
  refine gc JF (j8 (v.drop (i*4)) 4) ⟨?_⟩
  have e1:zD (v.drop (i*4)) 4=(Zm 0 ((v.drop (i*4)).take 4),v.drop ((i+1)*4),0):=by
   unfold zD;rw [show YE 4=4 from rfl,if_neg (by omega),List.drop_drop,show i*4+4=(i+1)*4 by omega]
  rw [e1];refine go ⟨?_⟩;have hs:XO v (i+1)=XO v i++[Zm 0 ((v.drop (i*4)).take 4)]:=by simp [XO,List.range_succ]
  refine app (yP (XO v (i+1))) hT rfl rfl rfl rfl (fun k hk=>by
   rw [hs];exact ZZ (e:=wA) (hn i).symm rfl hk) ?_
  refine ms19 ⟨?_⟩;have e2:=hn (i+1);exact tel
 ·obtain rfl:i=v.length / 4:=by omega
  have e2:=hn (v.length / 4);refine go ⟨?_⟩;refine zfq rfl trivial rfl ?_;refine (Tells.thaw (t:=0) rfl rfl (Nat.le_of_eq (by simp [hn]))).trans ((Tells.sel [] rfl rfl).trans (Tells.le ?_ .nil));exact les
theorem gn:ze Tryz.prog 271:=gfn Tryz.func271
end
section
structure YS where
 enc:List UInt8
 hash:List UInt8
 unm:List Int
 deriving DecidableEq
structure Zt where
 kind:Int
 leaf:zM
 inner:YS
 deriving DecidableEq
abbrev yd:YS:=⟨[],[],[]⟩
abbrev za:Zt:=⟨0,ZF,yd⟩
def QT {α:Type} (p:α→Bool) (xs:List α):Int:=match xs.findIdx? p with|some i=>i|none=> -1
theorem xJ {α:Type} {p:α→Bool} {xs:List α} {i:Nat} (h:xs.findIdx? p=some i):QT p xs=i:=by unfold QT;rw [h]
theorem xK {α:Type} {p:α→Bool} {xs:List α} (h:xs.findIdx? p=none):QT p xs= -1:=by unfold QT;rw [h]
theorem vw {α:Type} (p:α→Bool) (xs:List α):decide (QT p xs≥0)=xs.any p:=by
 cases h:xs.findIdx? p with
 |none=>
  rw [xK h];rw [List.findIdx?_eq_none_iff] at h;have:xs.any p=false:=List.any_eq_false.2 fun x hx=>by simp [h x hx]
  rw [this];rfl
 |some i=>
  rw [xJ h];obtain ⟨h1,h2,_⟩:=List.findIdx?_eq_some_iff_getElem.1 h;rw [List.any_eq_true.2 ⟨_,List.getElem_mem h1,h2⟩];exact decide_eq_true (by omega)
def ups:Nat→Int→Int→List Int
 |0,_,_=>[]
 |k+1,x,w=>if x<0 then [] else x::ups k (zm x w) w
def yE (x w:Int):List Int:=if iIs x w=true then ups 8 x w else []
def zy (x w:Int):List Int:=(yE x w).tail
def Zc (x w:Int):List Int:=((yE x w).map fun y=>zE y w).filter fun s=>decide (0≤s)
def Yp (x y w:Int):Bool:=(yE x w).contains y
def ut (x:Int):List Int→List Int
 |[]=>[x]
 |y::l=>if x<y then x::y::l else if x=y then y::l else y::ut x l
def xL (l:List Int):List Int:=l.foldr ut []
def X9:List Int→Bool
 |[]=>true
 |x::l=>(match l with|[]=>true|y::_=>decide (x<y)) && X9 l
def y9 (n:YS):Int:=
 if n.enc.length=0 then 5 else if n.enc.length>200∨n.hash.length>200∨n.unm.length>64 then 4 else if n.unm.any (fun i=>decide (i<0∨i>63))=true then 3 else if X9 n.unm=false then 8 else 0
def QJ (b:List UInt8) (n:YS):List UInt8:=if y9 n≠0 then b else zi (zi (zi b n.enc) n.hash) (Q1 n.unm)
def Q4 (b:List UInt8):YS×List UInt8×Int:=
 if (zd b).2.2≠0 then (yd,[],(zd b).2.2) else
 if (zd (zd b).2.1).2.2≠0 then (yd,[],(zd (zd b).2.1).2.2) else
 if (yZ (zd (zd b).2.1).2.1).2.2≠0 then (yd,[],(yZ (zd (zd b).2.1).2.1).2.2) else
 if y9 ⟨(zd b).1,(zd (zd b).2.1).1,(yZ (zd (zd b).2.1).2.1).1⟩≠0 then (yd,[],y9 ⟨(zd b).1,(zd (zd b).2.1).1,(yZ (zd (zd b).2.1).2.1).1⟩) else
 (⟨(zd b).1,(zd (zd b).2.1).1,(yZ (zd (zd b).2.1).2.1).1⟩,(yZ (zd (zd b).2.1).2.1).2.1,0)
def Va (l:List Int) (i:Int):List Int:=xL (l++[i])
def qu (l i:List Int):List Int:=l.filter fun n=> !i.contains n
def zC (n:Zt):Int:=
 if n.kind<0∨n.kind>2 then 7 else if n.kind≠1∧n.leaf≠ZF∨n.kind≠2∧n.inner≠yd then 2 else if n.kind=1 then YF n.leaf else if n.kind=2 then y9 n.inner else 0
def nAs (n:Zt):Zt:=if zC n≠0 then za else n
abbrev Yz (b:List UInt8) (t:Bool):List UInt8:=b++nby (bif t then 1 else 0) 1
def Pw (b:List UInt8) (n:Zt):List UInt8:=
 if (nAs n).kind=2 then QJ (Yz b true++nby 2 1) (nAs n).inner else if (nAs n).kind=1 then kg (Yz b true++nby 1 1) (nAs n).leaf else Yz b false
def YU (b:List UInt8):Zt×List UInt8×Int:=
 if (zY b).2.2≠0 then (za,[],(zY b).2.2) else if (zY b).1=false then (za,(zY b).2.1,0) else
 if (zD (zY b).2.1 1).2.2≠0 then (za,[],(zD (zY b).2.1 1).2.2) else
 if (zD (zY b).2.1 1).1=1 then
  (if (vg (zD (zY b).2.1 1).2.1).2.2≠0 then (za,[],(vg (zD (zY b).2.1 1).2.1).2.2) else (⟨1,(vg (zD (zY b).2.1 1).2.1).1,yd⟩,(vg (zD (zY b).2.1 1).2.1).2.1,0))
 else if (zD (zY b).2.1 1).1=2 then
  (if (Q4 (zD (zY b).2.1 1).2.1).2.2≠0 then (za,[],(Q4 (zD (zY b).2.1 1).2.1).2.2) else (⟨2,ZF,(Q4 (zD (zY b).2.1 1).2.1).1⟩,(Q4 (zD (zY b).2.1 1).2.1).2.1,0))
 else (za,[],7)
def XS (i:Int) (n:Zt):List UInt8:=if (nAs n).kind=1 then kg (Yz (nby 1 1++nby i 4) true) (nAs n).leaf else Yz (nby 1 1++nby i 4) false
def Xp (n:Zt) (l r:List UInt8):List UInt8:=zi (zi (if (nAs n).kind=2 then QJ (Yz (nby 2 1) true) (nAs n).inner else Yz (nby 2 1) false) l) r
def YM (n:YS) (s:List UInt8):List UInt8:=zi (zi (zi [] n.enc) n.hash) s
abbrev zc:=List Zt
def Xf (x:Nat) (kind:Int):Bool:=if x % 2=0 then decide (kind≠2) else decide (kind≠1)
def zW (t:zc):Bool:=(t.zipIdx.all fun p=>Xf p.2 p.1.kind && decide (zC p.1=0)) && (decide (t.length=0)||yf t.length)
def rAs (t:zc):zc:=if zW t=true then t else []
def zp (t:zc):Int:=(((rAs t).length+1) / 2:Nat)
def ZI (t:zc):Int:=match (rAs t).zipIdx.find? fun p=>decide (p.2 % 2=0) && decide (p.1.kind=0) with|some p=>(p.2 / 2:Nat)|none=> -1
def xG (t:zc):Int:=match (rAs t).zipIdx.reverse.find? fun p=>decide (p.1.kind≠0) with|some p=>p.2|none=> -1
def Za (xs:List Int) (t:zc):zc:=t.zipIdx.map fun p=>if xs.contains (p.2:Int) then za else p.1
def Zw (t:zc) (i:Int):zc×Int:=if i<0∨i≥zp t then ([],3) else (Za (zy (2*i) (rAs t).length++[2*i]) (rAs t),0)
def ZN (t:zc):zc×Int:=if (rAs t).length=127 then ([],10) else (rAs t++List.replicate ((rAs t).length+1) za,0)
def Xj (t:zc):Bool:=t.all fun n=>decide (n.kind≠1)
def wV:Nat→zc→zc
 |0,t=>t
 |k+1,t=>if t.length / 2>0∧Xj (t.drop (t.length / 2))=true then wV k (t.take (t.length / 2)) else t
def WL (t:zc):zc:=let u:=wV 7 (rAs t);if u.length=1∧(u.getD 0 za).kind=0 then [] else u
def rsv (t:zc):Nat→Int→List Int
 |0,x=>if x<0∨x≥t.length then [] else if (t.getD x.toNat za).kind≠0 then x::(t.getD x.toNat za).inner.unm.map (2* ·) else []
 |k+1,x=>if x<0∨x≥t.length then [] else if (t.getD x.toNat za).kind≠0 then x::(t.getD x.toNat za).inner.unm.map (2* ·) else rsv t k (ZP x t.length)++rsv t k (Zp x t.length)
def zL (t:zc) (x:Int):List Int:=rsv (rAs t) 7 x
def zQ (t:zc) (i:Int):List Int:=if i<0∨i≥zp t then [] else (Zc (2*i) (rAs t).length).filter fun c=> !(zL t c).isEmpty
def Zf (t:zc) (i:Int):List Int:=(zQ t i).map fun c=>zm c t.length
def hsh (t:zc):Nat→Int→List UInt8
 |0,x=>Yh (XS (x / 2) (t.getD x.toNat za))
 |k+1,x=>if x % 2=0 then Yh (XS (x / 2) (t.getD x.toNat za)) else Yh (Xp (t.getD x.toNat za) (hsh t k (ZP x t.length)) (hsh t k (Zp x t.length)))
def QL (t:zc) (x:Int):List UInt8:=if x<0∨x≥(rAs t).length then [] else hsh (rAs t) 7 x
def jB (l:List Int) (x:Nat) (n:Zt):Zt:=
 let m:=if x % 2=0∧l.contains ((x / 2:Nat):Int)=true then za else n
 {m with inner:={m.inner with unm:=qu m.inner.unm l}}
def Qd (t:zc) (l:List Int):zc:=(rAs t).zipIdx.map fun p=>jB l p.2 p.1
def xn (t:zc) (x:Int) (l:List Int):List UInt8:=QL (Qd t l) x
def yF (t:zc) (x c:Int):List UInt8:=Yh (YM (t.getD x.toNat za).inner (xn t (zE c t.length) (t.getD x.toNat za).inner.unm))
def Zv:List (List UInt8)→Int
 |[]=>0
 |k::l=>if k.length=0 then 5 else if k.length>200 then 4 else Zv l
def YK:List (Int×Int×List UInt8)→zc→List UInt8→zc×List UInt8
 |[],t,said=>(t,said)
 |(x,b,key)::l,t,said=>YK l (t.set x.toNat ⟨2,ZF,⟨key,said,[]⟩⟩) (yF (t.set x.toNat ⟨2,ZF,⟨key,said,[]⟩⟩) x (zE b t.length))
def ZG (t:zc) (i:Int) (keys:List (List UInt8)):zc×List UInt8×Int:=
 if i<0∨i≥zp t then ([],[],3) else if (zQ t i).length≠keys.length then ([],[],11) else if Zv keys≠0 then ([],[],Zv keys) else
 let p:=YK (((Zf t i).zip ((zQ t i).zip keys)).reverse) (Za (zy (2*i) (rAs t).length) (rAs t)) []
 (p.1,p.2,0)
def vf (n:Zt):List UInt8:=if n.kind=1 then n.leaf.parent else n.inner.hash
def qf (t:zc) (x:Int):Bool:=decide (0≤x) && decide (x<t.length) && decide ((t.getD x.toNat za).kind≠0)
def qA (t:zc) (x c:Int):List Int:=((t.getD x.toNat za).inner.unm.map (2* ·)).filter fun y=>Yp y c t.length
def YN (t0:zc) (x c d:Int):Bool:=
 let t:=rAs t0
 qf t x && qf t d && decide ((t.getD x.toNat za).kind=2) && decide (zm c t.length=x) && (zL t c).contains d && decide (qu (zL t c) [d]=qA t x c) && (vf (t.getD d.toNat za)==yF t x c)
def Yl (t0:zc) (x:Int):Bool:=
 let t:=rAs t0
 if x<0∨x≥t.length then false else if (t.getD x.toNat za).kind≠2 then true else
 (zL t (ZP x t.length)).any (fun d=>YN t x (ZP x t.length) d)||(zL t (Zp x t.length)).any (fun d=>YN t x (Zp x t.length) d)
def Xe (t:zc):Bool:=(List.range (rAs t).length).all fun x=>Yl (rAs t) x
def Zi (l:zM) (src:Int):Int:=if YF l=0∧l.source≠src then 7 else YF l
def yr (t:zc) (i:Int) (l:zM):zc:=t.set (2*i).toNat ⟨1,l,yd⟩
def yi (t:zc) (i:Int):Int:=if i<0∨i≥zp t then 3 else if (t.getD (2*i).toNat za).kind=0 then 9 else 0
def Zo (xs:List Int) (i:Int) (t:zc):zc:=t.zipIdx.map fun p=>if xs.contains (p.2:Int)=true∧p.1.kind=2 then {p.1 with inner:={p.1.inner with unm:=Va p.1.inner.unm i}} else p.1
def VU (t:zc) (i:Int) (l:zM):zc:=Zo (zy (2*i) t.length) i (yr t i l)
def yw (t0:zc) (l:zM):zc×Int×Int:=
 let t:=rAs t0
 if Zi l 1≠0 then ([], -1,Zi l 1) else if ZI t≠ -1 then (VU t (ZI t) l,ZI t,0) else if (ZN t).2≠0 then ([], -1,(ZN t).2) else
 (VU (ZN t).1 (ZI (ZN t).1) l,ZI (ZN t).1,0)
def ZC (t0:zc) (i:Int):zc×Int:=
 let t:=rAs t0
 if yi t i≠0 then ([],yi t i) else (WL (Zw t i).1,0)
def Zy (t0:zc) (i:Int) (l:zM):zc×Int:=
 let t:=rAs t0
 if yi t i≠0 then ([],yi t i) else if Zi l 2≠0 then ([],Zi l 2) else (yr (Zw t i).1 i l,0)
def ZA (t0:zc) (i:Int) (l:zM) (keys:List (List UInt8)):zc×Int:=
 let t:=rAs t0
 if yi t i≠0 then ([],yi t i) else if Zi l 3≠0 then ([],Zi l 3) else if (ZG t i keys).2.2≠0 then ([],(ZG t i keys).2.2) else
 if (ZG t i keys).2.1≠l.parent then ([],12) else (yr (ZG t i keys).1 i l,0)
def XX (t:zc) (x i:Int):List Int→Bool
 |[]=>true
 |y::l=>if y=x then true else if (t.getD y.toNat za).kind=2∧(t.getD y.toNat za).inner.unm.contains i=false then false else XX t x i l
def Yw (t:zc) (x i:Int):Bool:=Yp (2*i) x t.length && decide ((t.getD (2*i).toNat za).kind≠0) && XX t x i (zy (2*i) t.length)
def wk (t0:zc):Bool:=let t:=rAs t0;t.zipIdx.all fun p=>p.1.inner.unm.all fun i=>Yw t p.2 i
def U5 (t:zc):List UInt8:=zi [] (((rAs t).take (xG t+1).toNat).foldl Pw [])
def YV:Nat→List UInt8→zc→zc×Int
 |0,_,t=>(t,0)
 |k+1,b,t=>if b=[] then (t,0) else if t.length≥127 then ([],10) else if (YU b).2.2≠0 then ([],(YU b).2.2) else if Xf t.length (YU b).1.kind=false then ([],7) else YV k (YU b).2.1 (t++[(YU b).1])
def Xd (n:Nat):Nat:=if n≤1 then 1 else if n≤3 then 3 else if n≤7 then 7 else if n≤15 then 15 else if n≤31 then 31 else if n≤63 then 63 else 127
def w_ (t:zc):zc:=t++List.replicate (Xd t.length - t.length) za
def xW (b:List UInt8):zc×Int:=
 if (zd b).2.2≠0 then ([],(zd b).2.2) else if (zd b).2.1≠[] then ([],2) else if (zd b).1=[] then ([],5) else
 if (YV 128 (zd b).1 []).2≠0 then ([],(YV 128 (zd b).1 []).2) else
 if ((YV 128 (zd b).1 []).1.getD ((YV 128 (zd b).1 []).1.length - 1) za).kind=0 then ([],6) else
 if wk (w_ (YV 128 (zd b).1 []).1)=false then ([],8) else (w_ (YV 128 (zd b).1 []).1,0)
structure MOp where
 what:Int
 i:Int
 l:zM
 keys:List (List UInt8)
 b:List UInt8
 old:Int
 deriving DecidableEq
structure wX where
 e:Int
 n:Int
 l:List Int
 b:List UInt8
 is:Bool
 deriving DecidableEq
structure YW where
 id:Int
 t:zc
 deriving DecidableEq
structure MSt where
 t:zc
 kept:List YW
 next:Int
 deriving DecidableEq
abbrev zu (e:Int):wX:=⟨e,0,[],[],false⟩
abbrev Zu:MSt:=⟨[],[],0⟩
def yh:Int→List YW→Option Int
 |last,[]=>some last
 |last,k::l=>if k.id≤last∨zW k.t=false then none else yh k.id l
def Zd (s:MSt):Bool:=match yh 0 s.kept with|none=>false|some last=>zW s.t && decide (s.kept.length≤8) && decide (last≤s.next) && decide (s.next≤1099511627776)
def mAs (s:MSt):MSt:=if Zd s=true then s else Zu
def zq (s:MSt) (id:Int):Int:=QT (fun k=>decide (k.id=id)) s.kept
def vy (t:zc):Int:=(t.countP fun n=>decide (n.kind=1):Nat)
def ZL (t:zc) (o:MOp):wX:=
 if (o.what=9∨o.what=12)∧ ¬(0≤o.i∧o.i<t.length) then zu 3 else if (o.what=10∨o.what=11)∧ ¬(0≤o.i∧o.i<zp t) then zu 3 else
 if o.what=9 then ⟨0,0,zL t o.i,[],false⟩ else if o.what=10 then ⟨0,0,Zf t o.i,[],false⟩ else if o.what=11 then ⟨0,0,Zc (2*o.i) t.length,[],false⟩ else
 if o.what=12 then ⟨0,0,[],QL t o.i,false⟩ else if o.what=13 then ⟨0,0,[],[],Xe t⟩ else if o.what=14 then ⟨0,0,[],U5 t,false⟩ else
 if o.what=15 then ⟨0,vy t,[zp t],[],false⟩ else zu 14
def yN (s:MSt):MSt×wX:=if s.kept.length=8∨s.next=1099511627776 then (s,zu 10) else (⟨s.t,s.kept++[⟨s.next+1,s.t⟩],s.next+1⟩,⟨0,s.next+1,[],[],false⟩)
def Z1 (s:MSt) (t:zc) (e:Int):MSt×wX:=if e=0 then (⟨t,s.kept,s.next⟩,zu e) else (s,zu e)
def mDo (s0:MSt) (o:MOp):MSt×wX:=
 let s:=mAs s0
 if o.what=1 then (if (yw s.t o.l).2.2=0 then (⟨(yw s.t o.l).1,s.kept,s.next⟩,⟨0,(yw s.t o.l).2.1,[],[],false⟩) else (s,zu (yw s.t o.l).2.2))
 else if o.what=2 then Z1 s (ZC s.t o.i).1 (ZC s.t o.i).2
 else if o.what=3 then Z1 s (Zy s.t o.i o.l).1 (Zy s.t o.i o.l).2
 else if o.what=4 then Z1 s (ZA s.t o.i o.l o.keys).1 (ZA s.t o.i o.l o.keys).2
 else if o.what=8 then Z1 s (xW o.b).1 (xW o.b).2
 else if o.what=5 then yN s
 else if o.what=6 then (if zq s o.i<0 then (s,zu 13) else (⟨(s.kept.getD (zq s o.i).toNat ⟨0,[]⟩).t,s.kept,s.next⟩,zu 0))
 else if o.what=7 then (if zq s o.i<0 then (s,zu 13) else (⟨s.t,s.kept.eraseIdx (zq s o.i).toNat,s.next⟩,zu 0))
 else if o.what<9∨o.what>15 then (s,zu 14)
 else if o.old=0 then (s,ZL s.t o) else if zq s o.old<0 then (s,zu 13) else (s,ZL (s.kept.getD (zq s o.old).toNat ⟨0,[]⟩).t o)
def wB:MSt→List MOp→List wX
 |_,[]=>[]
 |s,o::l=>(mDo s o).2::wB (mDo s o).1 l
def zw:MSt→List MOp→MSt
 |s,[]=>s
 |s,o::l=>zw (mDo s o).1 l
end
section
attribute [local irreducible] zA AO zt zo ADr AL AW zF zh zU Tells APure ACall
theorem jM (w:Int):APure Tryz.prog 95 [int w] (.lit (.bool (yf w))) []:=by
 refine ent Tryz.func95 Tryz.ntmps95 ⟨?_⟩;refine go ⟨?_⟩;refine lp (fun k:{k:Nat // k≤7∧ ∀j,j<k→w≠((2^(j+1) - 1:Nat):Int)}=>[(3,int ((2^(k.1+1) - 1:Nat):Int))]) (fun _=>[]) (fun k=>8 - k.1) ⟨0,by simp⟩ ?_
 rintro ⟨k,hk,hn⟩
 have hk':k=0∨k=1∨k=2∨k=3∨k=4∨k=5∨k=6∨k=7:=by omega
 rcases hk' with rfl|rfl|rfl|rfl|rfl|rfl|rfl|rfl
 rotate_right
 ·have h0:=hn 0 (by omega);have h1:=hn 1 (by omega);have h2:=hn 2 (by omega);have h3:=hn 3 (by omega);have h4:=hn 4 (by omega);have h5:=hn 5 (by omega);have h6:=hn 6 (by omega)
  have e:yf w=false:=by
   unfold yf;simp only [decide_eq_false_iff_not];simp at h0 h1 h2 h3 h4 h5 h6
   omega
  rw [e];exact gf
 ·refine go ⟨?_⟩;refine zj rfl (fun h=> ?_) (fun h=> ?_)
  ·obtain rfl:w=1:=by omega
   exact gf
  ·refine go ⟨?_⟩;refine je ⟨⟨0+1,by omega,fun j hj=>(Nat.lt_succ_iff_lt_or_eq.1 hj).elim (hn j) fun e=>by rw [e];simp;omega⟩,by simp only;omega, ?_⟩;exact tel
 ·refine go ⟨?_⟩;refine zj rfl (fun h=> ?_) (fun h=> ?_)
  ·obtain rfl:w=3:=by omega
   exact gf
  ·refine go ⟨?_⟩;refine je ⟨⟨1+1,by omega,fun j hj=>(Nat.lt_succ_iff_lt_or_eq.1 hj).elim (hn j) fun e=>by rw [e];simp;omega⟩,by simp only;omega, ?_⟩;exact tel
 ·refine go ⟨?_⟩;refine zj rfl (fun h=> ?_) (fun h=> ?_)
  ·obtain rfl:w=7:=by omega
   exact gf
  ·refine go ⟨?_⟩;refine je ⟨⟨2+1,by omega,fun j hj=>(Nat.lt_succ_iff_lt_or_eq.1 hj).elim (hn j) fun e=>by rw [e];simp;omega⟩,by simp only;omega, ?_⟩;exact tel
 ·refine go ⟨?_⟩;refine zj rfl (fun h=> ?_) (fun h=> ?_)
  ·obtain rfl:w=15:=by omega
   exact gf
  ·refine go ⟨?_⟩;refine je ⟨⟨3+1,by omega,fun j hj=>(Nat.lt_succ_iff_lt_or_eq.1 hj).elim (hn j) fun e=>by rw [e];simp;omega⟩,by simp only;omega, ?_⟩;exact tel
 ·refine go ⟨?_⟩;refine zj rfl (fun h=> ?_) (fun h=> ?_)
  ·obtain rfl:w=31:=by omega
   exact gf
  ·refine go ⟨?_⟩;refine je ⟨⟨4+1,by omega,fun j hj=>(Nat.lt_succ_iff_lt_or_eq.1 hj).elim (hn j) fun e=>by rw [e];simp;omega⟩,by simp only;omega, ?_⟩;exact tel
 ·refine go ⟨?_⟩;refine zj rfl (fun h=> ?_) (fun h=> ?_)
  ·obtain rfl:w=63:=by omega
   exact gf
  ·refine go ⟨?_⟩;refine je ⟨⟨5+1,by omega,fun j hj=>(Nat.lt_succ_iff_lt_or_eq.1 hj).elim (hn j) fun e=>by rw [e];simp;omega⟩,by simp only;omega, ?_⟩;exact tel
 ·refine go ⟨?_⟩;refine zj rfl (fun h=> ?_) (fun h=> ?_)
  ·obtain rfl:w=127:=by omega
   exact gf
  ·refine go ⟨?_⟩;refine je ⟨⟨6+1,by omega,fun j hj=>(Nat.lt_succ_iff_lt_or_eq.1 hj).elim (hn j) fun e=>by rw [e];simp;omega⟩,by simp only;omega, ?_⟩;exact tel
theorem jd:ze Tryz.prog 95:=gfn Tryz.func95
theorem tK (x w:Int):APure Tryz.prog 217 [int x,int w] (.lit (.bool (iIs x w))) []:=by
 refine ent Tryz.func217 Tryz.ntmps217 ⟨?_⟩;unfold iIs;refine gc jd (jM w) ⟨?_⟩;cases h:yf w
 ·exact gf
 ·by_cases h1:x≥0
  ·exact gf
  ·exact gf
theorem tv:ze Tryz.prog 217:=gfn Tryz.func217
theorem zgD (w:Int):APure Tryz.prog 218 [int w] (int (jV w)) []:=by
 refine ent Tryz.func218 Tryz.ntmps218 ⟨?_⟩;unfold jV;refine gc jd (jM w) ⟨?_⟩;cases h:yf w
 ·exact gf
 ·have hb:=qU h;have hw:w=1∨w=3∨w=7∨w=15∨w=31∨w=63∨w=127:=of_decide_eq_true h
  have e:IntKind.i64.wrap ((IntKind.i64.wrap (w - 1)).tdiv 2)=w / 2:=by
   rcases hw with rfl|rfl|rfl|rfl|rfl|rfl|rfl <;>rfl
  refine go ⟨?_⟩;first|exact fin|(rw [e];exact fin)|(simp only [e];exact fin)
theorem zg0:ze Tryz.prog 218:=gfn Tryz.func218
theorem WF {x w:Int} (h:iIs x w=true): ∃(i:Fin 7) (n:Fin 127),x=(n.val:Int)∧w=((2^(i.val+1) - 1:Nat):Int)∧n.val<2^(i.val+1) - 1:=by
 unfold iIs at h;simp only [Bool.and_eq_true,decide_eq_true_eq] at h;obtain ⟨⟨h1,h2⟩,h3⟩:=h;have hw:w=1∨w=3∨w=7∨w=15∨w=31∨w=63∨w=127:=of_decide_eq_true h1
 obtain ⟨n,rfl⟩:=Int.eq_ofNat_of_zero_le h2;rcases hw with rfl|rfl|rfl|rfl|rfl|rfl|rfl
 ·exact ⟨⟨0,by decide⟩,⟨n,by omega⟩,rfl,rfl,by simp only;omega⟩
 ·exact ⟨⟨1,by decide⟩,⟨n,by omega⟩,rfl,rfl,by simp only;omega⟩
 ·exact ⟨⟨2,by decide⟩,⟨n,by omega⟩,rfl,rfl,by simp only;omega⟩
 ·exact ⟨⟨3,by decide⟩,⟨n,by omega⟩,rfl,rfl,by simp only;omega⟩
 ·exact ⟨⟨4,by decide⟩,⟨n,by omega⟩,rfl,rfl,by simp only;omega⟩
 ·exact ⟨⟨5,by decide⟩,⟨n,by omega⟩,rfl,rfl,by simp only;omega⟩
 ·exact ⟨⟨6,by decide⟩,⟨n,by omega⟩,rfl,rfl,by simp only;omega⟩
theorem zcr: ∀n:Fin 127,0≤zZ (n.val:Int)∧zZ (n.val:Int)≤6:=by decide+kernel
theorem Z_ {x w:Int} (h:iIs x w=true):0≤x∧x<w∧w≤127:=by
 obtain ⟨i,n,rfl,rfl,h⟩:=WF h;have:2^(i.val+1)≤2^7:=Nat.pow_le_pow_right (by decide) (by omega)
 omega
theorem xV {x w:Int} (h:iIs x w=true): ∃k:Nat,zZ x=k∧k≤6:=by
 obtain ⟨i,n,rfl,rfl,h⟩:=WF h;have:=zcr n
 exact ⟨(zZ (n.val:Int)).toNat,by omega,by omega⟩
theorem zjy {k:Nat} (h:k≤7):(2^k:Nat)≤128:=Nat.le_trans (Nat.pow_le_pow_right (by decide) h) (by decide)
theorem VX (x w:Int):APure Tryz.prog 215 [int x,int w] (int (ZP x w)) []:=by
 refine ent Tryz.func215 Tryz.ntmps215 ⟨?_⟩;unfold ZP TP;refine gc tv (tK x w) ⟨?_⟩;cases h:iIs x w
 ·exact gf
 ·obtain ⟨k,hk,hk7⟩:=xV h;have hl:=Z_ h;refine gc ve (Q0 x) ⟨?_⟩;rw [hk];by_cases h0:k=0
  ·subst h0;exact gf
  ·have h1:((k:Int)==0)=false:=by simp [h0]
   have e:IntKind.i64.wrap ((k:Int) - 1)=((k - 1:Nat):Int):=by simp only [IntKind.wrap_i64];omega
   have hp:=zjy (k:=k - 1) (by omega);refine go ⟨?_⟩;rw [h1];refine gc ve (Q0 x) ⟨?_⟩;rw [hk];refine go ⟨?_⟩;rw [e];refine cg QO (jZ (k - 1) (by omega)) ⟨?_⟩
   have e2:IntKind.i64.wrap (x - ((2^(k - 1):Nat):Int))=x - 2^((k:Int) - 1).toNat:=by
    have:((k:Int) - 1).toNat=k - 1:=by omega
    rw [this,←(show ((2^(k - 1):Nat):Int)=2^(k - 1) by simp)];generalize 2^(k - 1)=p at hp ⊢;simp only [IntKind.wrap_i64];omega
   simp only [e2,if_pos (show (k:Int)>0 by omega),if_true];exact fin
theorem jE:ze Tryz.prog 215:=gfn Tryz.func215
theorem VP (x w:Int):APure Tryz.prog 216 [int x,int w] (int (Zp x w)) []:=by
 refine ent Tryz.func216 Tryz.ntmps216 ⟨?_⟩;unfold Zp K9;refine gc tv (tK x w) ⟨?_⟩;cases h:iIs x w
 ·exact gf
 ·obtain ⟨k,hk,hk7⟩:=xV h;have hl:=Z_ h;refine gc ve (Q0 x) ⟨?_⟩;rw [hk];by_cases h0:k=0
  ·subst h0;exact gf
  ·have h1:((k:Int)==0)=false:=by simp [h0]
   have e:IntKind.i64.wrap ((k:Int) - 1)=((k - 1:Nat):Int):=by simp only [IntKind.wrap_i64];omega
   have hp:=zjy (k:=k - 1) (by omega);refine go ⟨?_⟩;rw [h1];refine gc ve (Q0 x) ⟨?_⟩;rw [hk];refine go ⟨?_⟩;rw [e];refine cg QO (jZ (k - 1) (by omega)) ⟨?_⟩
   have e2:IntKind.i64.wrap (x+((2^(k - 1):Nat):Int))=x+2^((k:Int) - 1).toNat:=by
    have:((k:Int) - 1).toNat=k - 1:=by omega
    rw [this,←(show ((2^(k - 1):Nat):Int)=2^(k - 1) by simp)];generalize 2^(k - 1)=p at hp ⊢;simp only [IntKind.wrap_i64];omega
   simp only [e2,if_pos (show (k:Int)>0 by omega),if_true];exact fin
theorem jU:ze Tryz.prog 216:=gfn Tryz.func216
theorem xg (x w:Int):APure Tryz.prog 152 [int x,int w] (int (zm x w)) []:=by
 refine ent Tryz.func152 Tryz.ntmps152 ⟨?_⟩;unfold zm wt;refine gc tv (tK x w) ⟨?_⟩;cases h:iIs x w
 ·exact gf
 ·obtain ⟨k,hk,hk7⟩:=xV h;have hl:=Z_ h;refine gcg zg0 (zgD w) ⟨?_⟩;by_cases h0:x=jV w
  ·have h1:(x==jV w)=true:=by simp [h0]
   rw [h1];simp only [if_pos h0,if_true];exact gf
  ·have h1:(x==jV w)=false:=by simp [h0]
   rw [h1];simp only [if_neg h0,if_true];unfold iUp;refine gc ve (Q0 x) ⟨?_⟩;rw [hk];have e:IntKind.i64.wrap ((k:Int)+1)=((k+1:Nat):Int):=by simp only [IntKind.wrap_i64];omega
   have hp:=zjy (k:=k) (by omega);have hp1:1≤2^k:=Nat.one_le_two_pow
   refine go ⟨?_⟩;rw [e];refine cal QO (jZ (k+1) (by omega)) ⟨?_⟩;have hs:(2:Nat)^(k+1)=2*2^k:=by rw [Nat.pow_succ,Nat.mul_comm]
   have hkk:((k:Int)).toNat=k:=Int.toNat_natCast k
   rw [hs,hkk,←(show ((2^k:Nat):Int)=2^k by simp)];have hc:=jZ k (by omega);generalize 2^k=q at hp hp1 hc ⊢;have hq:((2*q:Nat):Int)≠0:=by omega
   have em:(IntKind.i64.wrap (x.tdiv ((2*q:Nat):Int))).tmod 2=x / (2*(q:Int)) % 2:=by
    rw [Int.tdiv_eq_ediv_of_nonneg (by omega)];have h2:0≤x / ((2*q:Nat):Int):=Int.ediv_nonneg (by omega) (by omega)
    have h3:x / ((2*q:Nat):Int)≤x:=Int.ediv_le_self _ (by omega)
    have h4:((2*q:Nat):Int)=2*(q:Int):=by simp
    rw [h4] at h2 h3 ⊢;generalize x / (2*(q:Int))=z at h2 h3 ⊢;have:IntKind.i64.wrap z=z:=by simp only [IntKind.wrap_i64];omega
    rw [this,Int.tmod_eq_emod_of_nonneg h2]
   refine go ⟨?_⟩;first|rw [em]|(simp only [em])
   generalize x / (2*(q:Int)) % 2=z;by_cases hz:z=0
   ·subst hz;refine gcg QO hc ⟨?_⟩;have e3:IntKind.i64.wrap (x+(q:Int))=x+q:=by simp only [IntKind.wrap_i64];omega
    simp only [e3,if_true];exact fin
   ·have hz1:(z==0)=false:=by simp [hz]
    rw [hz1];refine gcg QO hc ⟨?_⟩;have e3:IntKind.i64.wrap (x - (q:Int))=x - q:=by simp only [IntKind.wrap_i64];omega
    simp only [e3,if_neg hz];exact fin
theorem xf:ze Tryz.prog 152:=gfn Tryz.func152
theorem zc5: ∀(i:Fin 7) (n:Fin 127),n.val<2^(i.val+1) - 1→(zm (n.val:Int) ((2^(i.val+1) - 1:Nat):Int)<0∧zE (n.val:Int) ((2^(i.val+1) - 1:Nat):Int)= -1)∨
 (0≤zm (n.val:Int) ((2^(i.val+1) - 1:Nat):Int)∧zE (n.val:Int) ((2^(i.val+1) - 1:Nat):Int)=if ZP (zm (n.val:Int) ((2^(i.val+1) - 1:Nat):Int)) ((2^(i.val+1) - 1:Nat):Int)=(n.val:Int) then Zp (zm (n.val:Int) ((2^(i.val+1) - 1:Nat):Int)) ((2^(i.val+1) - 1:Nat):Int) else ZP (zm (n.val:Int) ((2^(i.val+1) - 1:Nat):Int)) ((2^(i.val+1) - 1:Nat):Int)):=by decide+kernel
theorem qZ (x w:Int):APure Tryz.prog 153 [int x,int w] (int (zE x w)) []:=by
 refine ent Tryz.func153 Tryz.ntmps153 ⟨?_⟩
 have hf:(zm x w<0∧zE x w= -1)∨(0≤zm x w∧zE x w=if ZP (zm x w) w=x then Zp (zm x w) w else ZP (zm x w) w):=by
  cases h:iIs x w
  ·left
   unfold zm zE;simp [h]
  ·obtain ⟨i,n,rfl,rfl,h'⟩:=WF h;exact zc5 i n h'
 refine gc xf (xg x w) ⟨?_⟩;rcases hf with ⟨h1,h2⟩|⟨h1,h2⟩
 ·rw [h2];generalize zm x w=p at*;exact gf
 ·rw [h2];generalize zm x w=p at*;have h3: ¬p<0:=by omega
  refine gcg jE (VX p w) ⟨?_⟩;by_cases h4:ZP p w=x
  ·have h5:(ZP p w==x)=true:=by simp [h4]
   rw [h5,if_pos h4];exact gcgf jU (VP p w)
  ·have h5:(ZP p w==x)=false:=by simp [h4]
   rw [h5,if_neg h4];exact gcgf jE (VX p w)
theorem Qa:ze Tryz.prog 153:=gfn Tryz.func153
end
section
variable {P:Program} {tab:Tab} {X:Nat→Prop} {H H':List zb} {μ μ':Mu} {w w':World} {r:Option Nat} {l R:List Oper} {Q:Exit→St→Prop} {σ:St} {o:Oper}
abbrev Ve (T n:Nat) (f:Nat→List AV):zb:={T:=T,sz:=1,n:=n,f:=f,st:=3}
abbrev PC (T n:Nat) (f:Nat→List AV):zb:={T:=T,sz:=0,n:=n,f:=f,st:=6}
abbrev KL (i:Nat):AV:= .iface Ps (.ptr i 1 0 0)
def Ys (f:Nat→List AV) (k:Nat) (x:List AV):Nat→List AV:=fun j=>match Nat.beq j k with|true=>x|false=>f j
theorem Qp (f:Nat→List AV) (k:Nat) (x:List AV):Ys f k x k=x:=by unfold Ys;rw [Nat.beq_refl]
theorem jA {f:Nat→List AV} {k j:Nat} {x:List AV} (h:j≠k):Ys f k x j=f j:=by
 unfold Ys;cases hb:Nat.beq j k with
 |false=>rfl
 |true=>exact (h (Nat.eq_of_beq_eq_true hb)).elim
theorem HRel.alloc (hH:HRel μ X H w) {o:zb} (b:Obj) (hst:3≤o.st):
 let μ':Mu:=fun i=>if i=H.length then some (some (w.heap.size,1)) else μ i
 MapOk (OO X (H++[o]) μ') (w.alloc b) μ' H.length o→
 HRel μ' X (H++[o]) (w.alloc b)∧(∀i l,μ i=some l→μ' i=some l)∧Ext μ w μ'∧Chg μ w (w.alloc b)∧
  ∀(ν ν':Mu) {a:AV} {v:Value},RV (OO X H μ) w ν a v→(∀i l,ν i=some l→ν' i=some l)→RV (OO X (H++[o]) μ') (w.alloc b) ν' a v:=by
 intro μ' hmp
 have hmu: ∀i l,μ i=some l→μ' i=some l:=fun i l hi=>by
  have:=hH.dom i l hi
  simp only [μ'];rw [if_neg (by omega)];exact hi
 have hb:Below w.heap.size w (w.alloc b):=(Below.refl _ _).alloc (Nat.le_refl _) _
 have hext:Ext μ w μ':=fun i b m1 hi=>by
  simp only [μ'] at hi;split at hi
  ·injection hi with hi;injection hi with hi;injection hi with e1 e2
   exact .inr (by omega)
  ·exact .inl ⟨i,m1,hi⟩
 have hOO: ∀b,b<w.heap.size→OO X (H++[o]) μ' b→OO X H μ b:=by
  rintro b hlt (hx|⟨i,o',m',hi,hs,hm'⟩)
  ·exact .inl hx
  ·simp only [μ'] at hm';split at hm'
   ·injection hm' with hm';injection hm' with hm';injection hm' with e1 e2;omega
   ·have:=hH.dom i _ hm'
    rw [List.getElem?_append_left this] at hi;exact .inr ⟨i,o',m',hi,hs,hm'⟩
 have hrv: ∀{μ₁:Mu} {a:AV} {v:Value},RV (OO X H μ) w μ₁ a v→ ∀μ₂:Mu,(∀i l,μ₁ i=some l→μ₂ i=some l)→RV (OO X (H++[o]) μ') (w.alloc b) μ₂ a v:=fun h μ₂ hh=>h.mono hOO (fun b hl _=>hb.block b hl) _ hh
 have hsz:(w.alloc b).heap.size=w.heap.size+1:=by simp
 refine ⟨⟨fun i l hi=> ?_,fun i j b m1 m2 hi hj=> ?_,fun i b m1 hi=> ?_,fun i o' hi hs=> ?_,fun b hx=>by have:=hH.xlt b hx;omega,hH.gl.step hb.size (fun b hlt _ _=>hb.block b hlt) (fun _ h=> .inl h) fun i b m1 hi=>(hext i b m1 hi).imp id .inr,fun i o' hi=> ?_⟩,hmu,hext, .of_below hb,fun ν ν' a v h hn=>hrv h _ hn⟩
 ·simp only [μ'] at hi;split at hi
  ·subst i;simp
  ·have:=hH.dom i l hi;simp;omega
 ·simp only [μ'] at hi hj;split at hi <;>split at hj
  ·omega
  ·injection hi with hi;injection hi with hi;injection hi with e1 e2
   have:=(hH.lt j b m2 hj).1;omega
  ·injection hj with hj;injection hj with hj;injection hj with e1 e2
   have:=(hH.lt i b m1 hi).1;omega
  ·exact hH.inj i j b m1 m2 hi hj
 ·simp only [μ'] at hi;split at hi
  ·injection hi with hi;injection hi with hi;injection hi with e1 e2
   subst e1;exact ⟨by omega,fun hx=>by have:=hH.xlt _ hx;omega⟩
  ·have:=hH.lt i b m1 hi
   exact ⟨by omega,this.2⟩
 ·by_cases hlt:i<H.length
  ·rw [List.getElem?_append_left hlt] at hi;exact (hH.obj i o' hi hs).mono hOO (fun b hl _=>hb.block b hl) hmu fun b m1 h1=>hb.block b (hH.lt i b m1 h1).1
  ·rw [List.getElem?_append_right (by omega),List.getElem?_eq_some_iff] at hi;obtain ⟨hl,hi⟩:=hi;simp at hi;subst hi;omega
 ·by_cases hlt:i<H.length
  ·rw [List.getElem?_append_left hlt] at hi;exact (hH.mp i o' hi).mono hOO (fun b hl _=>hb.block b hl) (.refl _) (hmu i) fun b m1 h1=>hb.block b (hH.lt i b m1 h1).1
  ·have he:i=H.length:=by
    have:=(List.getElem?_eq_some_iff.1 hi).1
    simp at this;omega
   subst he;simp at hi
   subst hi;exact hmp
theorem HRel.putMap (hH:HRel μ X H w) {id b m:Nat} {ob o':zb} {old new:Obj} (hid:H[id]?=some ob) (hst:ob.st % 3=0) (hm:μ id=some (some (b,m))) (hb:w.heap[b]?=some old) (hst':3≤o'.st) (hse:o'.st=ob.st) {w1:World} (hw:w1.heap=w.heap.setIfInBounds b new∧w1.os=w.os∧w1.tape=w.tape∧w1.output=w.output)
 (hok:MapOk (OO X (H.set id o') μ) w1 μ id o'):
 HRel μ X (H.set id o') w1∧Ext μ w μ∧Chg μ w w1∧ ∀(ν:Mu) {a:AV} {v:Value},RV (OO X H μ) w ν a v→RV (OO X (H.set id o') μ) w1 ν a v:=by
 have hidlt:id<H.length:=(List.getElem?_eq_some_iff.1 hid).1
 obtain ⟨hw1,hw2,hw3,hw4⟩:=hw
 have hpu:Puts μ μ X H (H.set id o') w w1 id:=
  ⟨⟨ob,hid,hst⟩,by simp,fun i o' hi ho=>by rw [List.getElem?_set_ne (Ne.symm hi)] at ho;exact ⟨o',ho,rfl⟩,fun _ _=>rfl,fun l hl' b' m' he=>by
    subst he;rw [hm] at hl';injection hl' with hl';injection hl' with hl';injection hl' with g1 g2;subst g1;exact ⟨by rw [hw1];simpa using (Array.getElem?_eq_some_iff.1 hb).1, .inl ⟨_,hm⟩⟩,by rw [hw1];simp,hw2,hw3,hw4,fun b' hb' hn=>by
    rw [hw1];exact (MapKept.heap_set hb).2 b' fun he=>hn m (by rw [he];exact hm)⟩
 refine ⟨hpu.rel hH (hpu.others hH fun i hi=>List.getElem?_set_ne (Ne.symm hi)) (fun o1 ho1 h1=> ?_) fun i o1 ho1=> ?_,hpu.ext,hpu.chg,fun ν a v h=>h.mono hpu.oo hpu.moved.blk _ fun _ _ h=>h⟩
 ·rw [List.getElem?_set_self hidlt] at ho1;injection ho1 with ho1;subst ho1;omega
 ·by_cases hi:id=i
  ·subst hi;rw [List.getElem?_set_self hidlt] at ho1;injection ho1 with ho1;subst ho1;exact hok
  ·rw [List.getElem?_set_ne hi] at ho1;exact (hH.mp i o1 ho1).mono hpu.oo hpu.moved.blk (.refl _) (fun _ h=>h) fun b' m' hb'=>hpu.blk b' (hH.lt i b' m' hb').1 fun m2 hm2=>hi (hH.inj _ _ _ _ _ hm2 hb')
theorem RV.mapA_inv {O:Nat→Prop} {i:Nat} {v:Value} (h:RV O w μ (KL i) v): ∃b m,μ i=some (some (b,m))∧v= .map (some b):=by
 cases h with
 |iface ht _=>exact absurd ht (by decide)
 |mapv h=>
  cases h with
  |ptr hm=>exact ⟨_,_,hm,rfl⟩
theorem vm (k:IntKind) (z:Int):MapKept.IsKey (.int k) (.int k z):=rfl
def Z2 (tab:Tab) (t:TypeId):Option (TypeId×TypeId):=
 match tab t with
 |some i=>match i.k with
  | .map k e=>match tab k with
    |some ki=>match ki.k with
     | .int .i64=>some (k,e)
     |_=>none
    |none=>none
  |_=>none
 |none=>none
theorem kS (hT:zI P tab) {t k e:TypeId} (h:Z2 tab t=some (k,e)):P.underlying t=some (.map k e)∧P.underlying k=some (.int .i64):=by
 unfold Z2 at h;split at h
 ·rename_i i hi;split at h
  ·rename_i k' e' hk;split at h
   ·rename_i ki hki;split at h
    ·rename_i h1;injection h with h;injection h with e1 e2;subst e1 e2
     have hu:=(hT _ _ hi).und
     have hku:=(hT _ _ hki).und
     rw [hk] at hu;rw [h1] at hku;exact ⟨hu,hku⟩
    ·cases h
   ·cases h
  ·cases h
 ·cases h
theorem zcN {e:TypeId} {z:Value} (h:((P.info? e).bind fun i=>i.zero)=some z) (w:World):(zeroValue e).run P w= .ok z w:=by
 cases hf:P.info? e with
 |none=>rw [hf] at h;cases h
 |some f=>
  rw [hf] at h;simp only [Option.bind_some] at h;simp [zeroValue,typeInfo,hf,h]
theorem zhk (hw:zS l σ o=some true) (hd: ∀c,o.op≠ .defer c)
 (h: ∀(B:Base P) (μ:Mu) (a:Act) (w:World),SRel B μ σ a w→ ∃x H' fg,wY P (execOp a.eval o) B.X μ σ.H w x H' fg∧σ.H.length≤H'.length∧AL P r l Q R ((σ.behind H' fg).put o.dst x)):AL P r l Q (o::R) σ:=by
 intro B μ a w hr;unfold wpListIn;rw [if_pos (Y9 hw hr)];obtain ⟨x,H',fg,⟨n,u,w',μ',h1,h2,h3,h4,h5,h6,h7⟩,hle,next⟩:=h B μ a w hr;refine ⟨fun f _=>QZ r f, ?_⟩;rw [Oper.semAt_eq _ _ _ hd,h1];have hs:=(hr.step hle h3 h4 h5 h7).put (x:=x) (v:=u) (by cases fg <;>exact h6) o.dst
 rcases h2 with rfl|⟨rfl,rfl⟩
 ·exact next B μ' _ w' hs
 ·exact next B μ' _ w' hs
theorem qM (N:Nat) (hw:zS l σ o=some true) {t:TypeId} (ho:o.op= .makeMap t none) (next:AL P r l Q R (St.put ⟨σ.s,σ.H++[Ve t N fun _=>[]],σ.fg,σ.nb⟩ o.dst (KL σ.H.length))):AL P r l Q (o::R) σ:=by
 refine xu (H':=σ.H++[Ve t N fun _=>[]]) (fg:=none) hw (fun c hc=>by rw [ho] at hc;cases hc) (fun B μ a w hr=>⟨?_,by simp⟩) next;have hh:=hr.H.alloc (o:=Ve t N fun _=>[]) (.map #[] 0) (Nat.le_refl 3) (.inl ⟨rfl,fun _=>⟨w.heap.size,1,#[],0,by simp,heap_alloc_new w _,⟨fun e he=>by simp at he,fun k hk h=>(h rfl).elim,by simp⟩⟩,fun h=>by cases h⟩);obtain ⟨h1,h2,h3,h4,h5⟩:=hh;refine ⟨.value (.map (some w.heap.size)), .map (some w.heap.size),_,_, ?_, .inl rfl,h1,h3,h4, ?_,fun k a v h=>⟨h5 _ _ h (xd h2),fun _=>h5 _ _ h (xd h2)⟩⟩
 ·unfold execOp;rw [ho];rfl
 ·exact .mapv (show RV _ _ _ (.ptr σ.H.length 1 0 0) (.pointer (some ⟨w.heap.size,0*1+0,none⟩)) from .ptr (m:=1) (by simp))
theorem HU {O:Nat→Prop} {ob:zb} {es:Array MapEntry} {c:Nat} (h:MapIn O w ob es c): ∀x∈es.toList,MapKept.IsKey (.int .i64) x.key:=fun x hx=>by
 obtain ⟨k,a,_,hk,_⟩:=(h.ent x hx).2;rw [hk];rfl
theorem uC (hT:zI P tab) (hw:zS l σ o=some true) {t:TypeId} {mx kx vx:Operand} (ho:o.op= .mapUpdate t mx kx vx∨o.op= .insert t mx kx vx) {kt et:TypeId} (ht:Z2 tab t=some (kt,et)) {i:Nat} (hm:σ.ev mx=KL i) {z:Nat} (hk:σ.ev kx= .lit (.int .i64 (z:Int)))
 {ob:zb} (hob:nth σ.H i=some ob) (hst:ob.st=3) (hz:z<ob.n) (hv:zB 4 (σ.ev vx)=true) (next:AL P r l Q R (St.put ⟨σ.s,setn σ.H i {ob with f:=Ys ob.f z [σ.ev vx]},σ.fg,σ.nb⟩ o.dst (.lit undef))):AL P r l Q (o::R) σ:=by
 rw [Zx] at next;rw [zH] at hob;refine xu (H':=σ.H.set i {ob with f:=Ys ob.f z [σ.ev vx]}) (fg:=none) hw (fun c hc=>by rcases ho with ho|ho <;>(rw [ho] at hc;cases hc)) (fun B μ a w hr=>⟨?_,by simp⟩) next;obtain ⟨b,m,hmu,hmv⟩:=(hm▸hr.ev mx).mapA_inv;have hkv:a.eval kx= .int .i64 (z:Int):=(hk▸hr.ev kx).lit_eq
 have hvv:=Yd 4 hv (hr.ev vx);obtain ⟨hu,hku⟩:=kS hT ht;rcases hr.H.mp i ob hob with ⟨hpu,hat,_⟩|h
 rotate_left
 ·omega
 obtain ⟨b',m',es,c,e1,e2,hin⟩:=hat hst;rw [hmu] at e1;injection e1 with e1;injection e1 with e1;injection e1 with e1 _;subst e1;have hlt:b<w.heap.size:=(Array.getElem?_eq_some_iff.1 e2).1
 have fin: ∀es' c',(Instr.mapUpdate t (.map (some b)) (.int .i64 (z:Int)) (a.eval vx)).run P w= .ok () {w with heap:=w.heap.setIfInBounds b (.map es' c')}→
  (∀e∈es'.toList,e.born<c'∧(e.key= .int .i64 (z:Int)∧e.val=a.eval vx∨e∈es.toList∧e.key≠ .int .i64 (z:Int)))→(∃e∈es'.toList,e.key= .int .i64 (z:Int))→(∀e∈es.toList,∃e'∈es'.toList,e'.key=e.key)→(es'.toList.Pairwise fun d e=>d.key≠e.key∧d.born≠e.born)→
  wY P (execOp a.eval o) B.X μ σ.H w (.lit undef) (σ.H.set i {ob with f:=Ys ob.f z [σ.ev vx]}) none:=by
  intro es' c' hrun g1 g2 g3 g4;have hbel: ∀k,k<w.heap.size→k≠b→({w with heap:=w.heap.setIfInBounds b (.map es' c')}:World).heap[k]?=w.heap[k]?:=fun k _ hne=>(MapKept.heap_set e2).2 k hne
  have hooS: ∀k,OO B.X (σ.H.set i {ob with f:=Ys ob.f z [σ.ev vx]}) μ k→OO B.X σ.H μ k:=by
   rintro k (hx|⟨j,o1,m1,h1,h2,h3⟩)
   ·exact .inl hx
   ·by_cases hij:i=j
    ·subst hij;exact .inr ⟨i,ob,m1,hob,by omega,h3⟩
    ·rw [List.getElem?_set_ne hij] at h1;exact .inr ⟨j,o1,m1,h1,h2,h3⟩
  have hup: ∀{x:AV} {v:Value},RV (OO B.X σ.H μ) w noMu x v→RV (OO B.X (σ.H.set i {ob with f:=Ys ob.f z [σ.ev vx]}) μ) {w with heap:=w.heap.setIfInBounds b (.map es' c')} noMu x v:=fun hx=>hx.mono (fun k _ hk=>hooS k hk) (fun k hk hn=>hbel k hk (by rintro rfl;exact hn (.inr ⟨i,ob,m,hob,by omega,hmu⟩))) _ fun _ _ h=>h
  have hin':MapIn (OO B.X (σ.H.set i {ob with f:=Ys ob.f z [σ.ev vx]}) μ) {w with heap:=w.heap.setIfInBounds b (.map es' c')} {ob with f:=Ys ob.f z [σ.ev vx]} es' c':=by
   refine ⟨fun e he=>⟨(g1 e he).1, ?_⟩,fun k hk' hf=> ?_,g4⟩
   ·rcases (g1 e he).2 with ⟨h1,h2⟩|⟨h1,h2⟩
    ·exact ⟨z,σ.ev vx,hz,h1,Qp ..,by rw [h2];exact hup hvv⟩
    ·obtain ⟨k,y,q1,q2,q3,q4⟩:=(hin.ent e h1).2;have hkz:k≠z:=by rintro rfl;exact h2 q2
     exact ⟨k,y,q1,q2,by rw [←q3];exact jA hkz,hup q4⟩
   ·by_cases hkz:k=z
    ·subst hkz;exact g2
    ·obtain ⟨e,he1,he2⟩:=hin.all k hk' (by rw [←jA (f:=ob.f) (x:=[σ.ev vx]) hkz];exact hf);obtain ⟨e',he3,he4⟩:=g3 e he1;exact ⟨e',he3,he4.trans he2⟩
  obtain ⟨h1,h2,h3,h4⟩:=hr.H.putMap (w1:={w with heap:=w.heap.setIfInBounds b (.map es' c')}) (o':={ob with f:=Ys ob.f z [σ.ev vx]}) (new:= .map es' c') hob (by omega) hmu e2 (by simp only;omega) rfl ⟨rfl,rfl,rfl,rfl⟩
   (.inl ⟨hpu,fun _=>⟨b,m,es',c',hmu,(MapKept.heap_set e2).1,hin'⟩,fun h=>by simp only at h;omega⟩)
  refine ⟨.skip,undef,_,μ, ?_, .inr ⟨rfl,rfl⟩,h1,h2,h3, .lit _,fun k x v h=>⟨h4 _ h,fun _=>h4 _ h⟩⟩;rcases ho with ho|ho
  ·unfold execOp;rw [ho];simp only [hmv,hkv,Sem.run_bind,hrun,Result.andThen_ok];first|done|rfl
  ·unfold execOp;rw [ho];simp only [hmv,hkv,Sem.run_bind,hrun,Result.andThen_ok];first|done|rfl
 have hget:=MapKept.run_getObj_map (P:=P) e2;have hck:(Instr.checkKey false 10000 kt (.int .i64 (z:Int))).run P w= .ok () w:=MapKept.run_checkKey hku (vm ..) false 9999
 rcases MapKept.findNow_spec (vm .i64 (z:Int)) es.toList 0 (HU hin) with ⟨h1,h2⟩|⟨j,e,h1,h2,h3⟩
 ·have hfind:=MapKept.run_findKey (w:=w) hku h1;refine fin (es.push {key:= .int .i64 (z:Int),val:=a.eval vx,born:=c}) (c+1) ?_ ?_ ⟨_,by rw [Array.toList_push];exact List.mem_append_right _ (List.mem_singleton.2 rfl),rfl⟩ (fun e he=>⟨e,by rw [Array.toList_push];exact List.mem_append_left _ he,rfl⟩) ?_
  ·unfold Instr.mapUpdate;simp only [Sem.run_bind,run_underlying hu,Result.andThen_ok,hget,hck,hfind,MapKept.run_setObj_map _ e2]
  ·intro e he;simp only [Array.toList_push,List.mem_append,List.mem_singleton] at he;rcases he with he|rfl
   ·exact ⟨by have:=(hin.ent e he).1;omega, .inr ⟨he,h2 e he⟩⟩
   ·exact ⟨Nat.lt_succ_self _, .inl ⟨rfl,rfl⟩⟩
  ·simp only [Array.toList_push];refine List.pairwise_append.2 ⟨hin.one,by simp,fun d hd e he=> ?_⟩;obtain rfl:=List.mem_singleton.1 he;exact ⟨h2 d hd,by have:=(hin.ent d hd).1;simp only;omega⟩
 ·have hfind:=MapKept.run_findKey (w:=w) hku h1;have hj:j<es.toList.length:=(List.getElem?_eq_some_iff.1 h2).1
  have hej:es[0+j]?=some e:=by simpa using h2
  have hmod:(es.modify (0+j) fun e=>{e with key:= .int .i64 (z:Int),val:=a.eval vx}).toList=es.toList.set j {e with key:= .int .i64 (z:Int),val:=a.eval vx}:=by
   apply List.ext_getElem?
   intro k;simp only [Array.getElem?_toList,Array.getElem?_modify,List.getElem?_set,Nat.zero_add];by_cases hjk:j=k
   ·subst hjk;rw [if_pos rfl,if_pos rfl,if_pos hj];have:es[j]?=some e:=by simpa using h2
    rw [this];rfl
   ·rw [if_neg hjk,if_neg hjk]
  have hpw:=List.pairwise_iff_getElem.1 hin.one;have hee:es.toList[j]=e:=by have:=List.getElem?_eq_some_iff.1 h2;exact this.2
  have hmem:e∈es.toList:=List.mem_of_getElem? h2
  refine fin (es.modify (0+j) fun e=>{e with key:= .int .i64 (z:Int),val:=a.eval vx}) c ?_ ?_ ?_ ?_ ?_
  ·unfold Instr.mapUpdate;simp only [Sem.run_bind,run_underlying hu,Result.andThen_ok,hget,hck,hfind]
   have hst:(Instr.keyThatStays (((es[0+j]?).map (·.key)).getD (.int .i64 (z:Int))) (.int .i64 (z:Int))).run P w= .ok (.int .i64 (z:Int)) w:=by
    rw [hej];simp only [Option.map_some,Option.getD_some,h3];unfold Instr.keyThatStays;rw [if_pos (by simp [Instr.sameBits])];rfl
   simp only [hst,Result.andThen_ok,MapKept.run_setObj_map _ e2]
  ·rw [hmod];intro e' he';rcases List.mem_or_eq_of_mem_set he' with h4|rfl
   ·by_cases hk':e'.key= .int .i64 (z:Int)
    ·obtain ⟨q,hq,he4⟩:=List.mem_iff_getElem.1 he';simp only [List.length_set] at hq;rw [List.getElem_set] at he4;split at he4
     ·subst he4;exact ⟨(hin.ent e hmem).1, .inl ⟨rfl,rfl⟩⟩
     ·rename_i hne;exfalso
      rcases Nat.lt_or_gt_of_ne hne with hlt2|hlt2
      ·have:=(hpw j q hj hq hlt2).1
       rw [hee,he4,h3,hk'] at this;exact this rfl
      ·have:=(hpw q j hq hj hlt2).1
       rw [hee,he4,h3,hk'] at this;exact this rfl
    ·exact ⟨(hin.ent e' h4).1, .inr ⟨h4,hk'⟩⟩
   ·exact ⟨(hin.ent e hmem).1, .inl ⟨rfl,rfl⟩⟩
  ·rw [hmod];exact ⟨_,List.mem_set hj _,rfl⟩
  ·rw [hmod];intro e' he';obtain ⟨q,hq,rfl⟩:=List.mem_iff_getElem.1 he';by_cases hjq:j=q
   ·subst hjq;exact ⟨_,List.mem_set hj _,by rw [hee,h3]⟩
   ·exact ⟨es.toList[q],List.mem_iff_getElem.2 ⟨q,by simpa using hq,by rw [List.getElem_set_ne hjq]⟩,rfl⟩
  ·rw [hmod];refine List.pairwise_iff_getElem.2 fun p q hp hq hpq=> ?_
   simp only [List.length_set] at hp hq;have:=hpw p q hp hq hpq
   rw [List.getElem_set,List.getElem_set];split
   ·rename_i h4;subst h4;rw [if_neg (by omega)];rw [hee,h3] at this;exact this
   ·split
    ·rename_i h4;subst h4;rw [hee,h3] at this;exact this
    ·exact this
theorem Jk (hT:zI P tab) (hw:zS l σ o=some true) {t:TypeId} {mx kx vx:Operand} (ho:o.op= .mapUpdate t mx kx vx) {kt et:TypeId} (ht:Z2 tab t=some (kt,et)) {i:Nat} (hm:σ.ev mx=KL i) {z:Nat} (hk:σ.ev kx= .lit (.int .i64 (z:Int)))
 {ob:zb} (hob:nth σ.H i=some ob) (hst:ob.st=3) (hz:z<ob.n) (hv:zB 4 (σ.ev vx)=true) (next:AL P r l Q R (St.put ⟨σ.s,setn σ.H i {ob with f:=Ys ob.f z [σ.ev vx]},σ.fg,σ.nb⟩ o.dst (.lit undef))):AL P r l Q (o::R) σ:=uC hT hw (.inl ho) ht hm hk hob hst hz hv next
theorem Zq (hT:zI P tab) (hw:zS l σ o=some true) {t:TypeId} {mx kx vx:Operand} (ho:o.op= .insert t mx kx vx) {kt et:TypeId} (ht:Z2 tab t=some (kt,et)) {i:Nat} (hm:σ.ev mx=KL i) {z:Nat} (hk:σ.ev kx= .lit (.int .i64 (z:Int)))
 {ob:zb} (hob:nth σ.H i=some ob) (hst:ob.st=3) (hz:z<ob.n) (hv:zB 4 (σ.ev vx)=true) (next:AL P r l Q R (St.put ⟨σ.s,setn σ.H i {ob with f:=Ys ob.f z [σ.ev vx]},σ.fg,σ.nb⟩ o.dst (.lit undef))):AL P r l Q (o::R) σ:=uC hT hw (.inr ho) ht hm hk hob hst hz hv next
def xh (ob:zb) (z:Int):List AV:=match decide (0≤z),decide (z<ob.n) with|true,true=>ob.f z.toNat|_,_=>[]
theorem zgH {O:Nat→Prop} {ob:zb} {es:Array MapEntry} {c:Nat} (hin:MapIn O w ob es c) (z:Int):
 (Instr.findNow (.int .i64) (.int .i64 z) es.toList 0=some none∧xh ob z=[])∨ ∃j v x,Instr.findNow (.int .i64) (.int .i64 z) es.toList 0=some (some (j,v))∧xh ob z=[x]∧RV O w noMu x v:=by
 rcases MapKept.findNow_spec (vm .i64 z) es.toList 0 (HU hin) with ⟨h1,h2⟩|⟨j,e,h1,h2,h3⟩
 ·refine .inl ⟨h1, ?_⟩;unfold xh;split
  ·rename_i h4 h5;have h4:=of_decide_eq_true h4;have h5:=of_decide_eq_true h5;cases hf:ob.f z.toNat with
   |nil=>rfl
   |cons y ys=>
    obtain ⟨e,he1,he2⟩:=hin.all z.toNat (by omega) (by rw [hf];simp);exact (h2 e he1 (by rw [he2,Int.toNat_of_nonneg h4])).elim
  ·rfl
 ·obtain ⟨k,x,q1,q2,q3,q4⟩:=(hin.ent e (List.mem_of_getElem? h2)).2;rw [h3] at q2;injection q2 with _ q2
  subst q2;refine .inr ⟨0+j,e.val,x,h1, ?_,q4⟩;unfold xh;rw [decide_eq_true (by omega),decide_eq_true (by omega)];simpa using q3
theorem ZU (hT:zI P tab) (hw:zS l σ o=some true) {t:TypeId} {mx kx:Operand} {ok:Bool} (ho:o.op= .lookup t mx kx ok) {kt et:TypeId} (ht:Z2 tab t=some (kt,et)) {zv:Value} (hzv:((P.info? et).bind fun i=>i.zero)=some zv) {i:Nat} (hm:σ.ev mx=KL i) {z:Int} (hk:σ.ev kx= .lit (.int .i64 z))
 {ob:zb} (hob:nth σ.H i=some ob) (hst:ob.st=3) {x y:AV} (hx:(match xh ob z with|[x]=>x|_=> .lit zv)=x) (hy:(match ok,xh ob z with|true,[x]=> .tup [x, .lit (.bool true)]|true,_=> .tup [.lit zv, .lit (.bool false)]|false,_=>x)=y)
 (next:AL P r l Q R (σ.put o.dst y)):AL P r l Q (o::R) σ:=by
 rw [zH] at hob;refine xu (H':=σ.H) (fg:=none) hw (fun c hc=>by rw [ho] at hc;cases hc) (fun B μ a w hr=>⟨?_,Nat.le_refl _⟩) next;obtain ⟨b,m,hmu,hmv⟩:=(hm▸hr.ev mx).mapA_inv;have hkv:a.eval kx= .int .i64 z:=(hk▸hr.ev kx).lit_eq
 obtain ⟨hu,hku⟩:=kS hT ht;rcases hr.H.mp i ob hob with ⟨hpu,hat,_⟩|h
 rotate_left
 ·omega
 obtain ⟨b',m',es,c,e1,e2,hin⟩:=hat hst;rw [hmu] at e1;injection e1 with e1;injection e1 with e1;injection e1 with e1 _;subst e1;have hget:=MapKept.run_getObj_map (P:=P) e2;have hck: ∀q,(Instr.checkKey q 10000 kt (.int .i64 z)).run P w= .ok () w:=fun q=>MapKept.run_checkKey hku (vm ..) q 9999
 have hz0:=zcN hzv w
 have fin: ∀u,(Instr.lookup t (.map (some b)) (.int .i64 z) ok).run P w= .ok u w→RV (OO B.X σ.H μ) w μ y u→wY P (execOp a.eval o) B.X μ σ.H w y σ.H none:=fun u h1 h2=>
  ⟨.value u,u,w,μ,by unfold execOp;rw [ho];simp only [hmv,hkv,Sem.run_bind,h1,Result.andThen_ok];rfl, .inl rfl,hr.H, .refl _ _, .refl _ _,h2,fun k a v h=>⟨h,fun _=>h⟩⟩
 rcases zgH hin z with ⟨h1,h2⟩|⟨j,v,x',h1,h2,h3⟩
 ·rw [h2] at hx hy;have hfind:=MapKept.run_findKey (w:=w) hku h1;refine fin (if ok then .tuple #[zv, .bool false] else zv) ?_ ?_
  ·unfold Instr.lookup;simp only [Sem.run_bind,run_underlying hu,Result.andThen_ok,hget,hck,hfind,hz0,Sem.run_pure]
  ·subst hx hy;cases ok
   ·exact .lit _
   ·exact .tup (vs:=[zv, .bool false]) rfl fun j a v ha hv=>by
     match j,ha,hv with
     |0,ha,hv=>simp at ha hv;subst ha hv;exact .lit _
     |1,ha,hv=>simp at ha hv;subst ha hv;exact .lit _
 ·rw [h2] at hx hy;have hfind:=MapKept.run_findKey (w:=w) hku h1;refine fin (if ok then .tuple #[v, .bool true] else v) ?_ ?_
  ·unfold Instr.lookup;simp only [Sem.run_bind,run_underlying hu,Result.andThen_ok,hget,hck,hfind,Sem.run_pure]
  ·subst hx hy;cases ok
   ·exact h3.up
   ·exact .tup (vs:=[v, .bool true]) rfl fun j a v ha hv=>by
     match j,ha,hv with
     |0,ha,hv=>simp at ha hv;subst ha hv;exact h3.up
     |1,ha,hv=>simp at ha hv;subst ha hv;exact .lit _
theorem HRel.freeze (hH:HRel μ X H w) {j:Nat} {ob:zb} (hj:H[j]?=some ob) (hst:ob.st=3) (hp:ob.pure=true):HRel μ X (H.set j {ob with st:=4}) w∧ ∀k,OO X (H.set j {ob with st:=4}) μ k→OO X H μ k:=by
 have hlt:j<H.length:=(List.getElem?_eq_some_iff.1 hj).1
 have hoo: ∀k,OO X (H.set j {ob with st:=4}) μ k→OO X H μ k:=by
  rintro k (hx|⟨i,o1,m1,h1,h2,h3⟩)
  ·exact .inl hx
  ·by_cases hij:j=i
   ·subst hij;rw [List.getElem?_set_self hlt] at h1;injection h1 with h1;subst h1;simp at h2
   ·rw [List.getElem?_set_ne hij] at h1;exact .inr ⟨i,o1,m1,h1,h2,h3⟩
 refine ⟨⟨fun i l hi=>by rw [List.length_set];exact hH.dom i l hi,hH.inj,hH.lt,fun i o hi hs=> ?_,hH.xlt,hH.gl,fun i o hi=> ?_⟩,hoo⟩
 ·by_cases hij:j=i
  ·subst hij;rw [List.getElem?_set_self hlt] at hi;injection hi with hi;subst hi;simp at hs
  ·rw [List.getElem?_set_ne hij] at hi;exact (hH.obj i o hi hs).mono (fun b _ hb=>hoo b hb) (fun _ _ _=>rfl) (fun _ _ h=>h) fun _ _ _=>rfl
 ·by_cases hij:j=i
  ·subst hij;rw [List.getElem?_set_self hlt] at hi;injection hi with hi;subst hi;exact .inl ⟨hp,fun h=>by simp at h,fun h=>by simp at h⟩
  ·rw [List.getElem?_set_ne hij] at hi;exact (hH.mp i o hi).mono (fun b _ hb=>hoo b hb) (fun _ _ _=>rfl) (.refl _) (fun _ h=>h) fun _ _ _=>rfl
theorem zeK (w:World) (o:Obj) {r:Nat} (h:r<w.heap.size):(w.alloc o).heap[r]?=w.heap[r]?:=by
 have: ¬r=w.heap.size:=by omega
 show (w.heap.push o)[r]?=_
 rw [Array.getElem?_push,if_neg this]
theorem W3 (hT:zI P tab) (hw:zS l σ o=some true) {t:TypeId} {mx:Operand} (ho:o.op= .range t mx) {kt et:TypeId} (ht:Z2 tab t=some (kt,et)) {j:Nat} (hm:σ.ev mx=KL j) {ob:zb} (hob:nth σ.H j=some ob) (hst:ob.st=3)
 (next:AL P r l Q R (St.put ⟨σ.s,setn σ.H j {ob with st:=4}++[PC t ob.n ob.f],σ.fg,σ.nb⟩ o.dst (.ptr σ.H.length 1 0 0))):AL P r l Q (o::R) σ:=by
 rw [zH] at hob;rw [Zx] at next;refine xu (H':=σ.H.set j {ob with st:=4}++[PC t ob.n ob.f]) (fg:=none) hw (fun c hc=>by rw [ho] at hc;cases hc) (fun B μ a w hr=>⟨?_,by simp⟩) next;obtain ⟨b,m,hmu,hmv⟩:=(hm▸hr.ev mx).mapA_inv;obtain ⟨hu,hku⟩:=kS hT ht;rcases hr.H.mp j ob hob with ⟨hpu,hat,_⟩|h
 rotate_left
 ·omega
 obtain ⟨b',m',es,c,e1,e2,hin⟩:=hat hst;rw [hmu] at e1;injection e1 with e1;injection e1 with e1;injection e1 with e1 _;subst e1;obtain ⟨hF,hoo⟩:=hr.H.freeze hob hst hpu;have hlt:b<w.heap.size:=(Array.getElem?_eq_some_iff.1 e2).1
 have hjl:j<σ.H.length:=(List.getElem?_eq_some_iff.1 hob).1
 have hlen:(σ.H.set j {ob with st:=4}).length=σ.H.length:=List.length_set
 have hnO: ∀k,OO B.X (σ.H.set j {ob with st:=4}++[PC t ob.n ob.f]) (fun i=>if i=(σ.H.set j {ob with st:=4}).length then some (some (w.heap.size,1)) else μ i) k→k<w.heap.size→OO B.X (σ.H.set j {ob with st:=4}) μ k:=by
  rintro k (hx|⟨i,o1,m1,h1,h2,h3⟩) hk
  ·exact .inl hx
  ·simp only at h3;split at h3
   ·injection h3 with h3;injection h3 with h3;injection h3 with e1 e2;omega
   ·have:=hF.dom i _ h3
    rw [List.getElem?_append_left this] at h1;exact .inr ⟨i,o1,m1,h1,h2,h3⟩
 have hnb: ¬OO B.X (σ.H.set j {ob with st:=4}) μ b:=by
  rintro (hx|⟨i,o1,m1,h1,h2,h3⟩)
  ·exact (hr.H.lt j b m hmu).2 hx
  ·have:=hr.H.inj _ _ _ _ _ hmu h3
   subst this;rw [List.getElem?_set_self hjl] at h1;injection h1 with h1;subst h1;simp at h2
 have hold:(w.alloc (.mapIter (some b) c #[] c)).heap[b]?=some (.map es c):=by rw [zeK w _ hlt,e2]
 have hb:Below w.heap.size w (w.alloc (.mapIter (some b) c #[] c)):=(Below.refl _ _).alloc (Nat.le_refl _) _
 have hh:=hF.alloc (o:=PC t ob.n ob.f) (.mapIter (some b) c #[] c) (by simp only;omega) (.inl ⟨rfl,fun h=>by simp at h,fun _=>⟨w.heap.size,1,b,#[],c,es,c,by simp,heap_alloc_new w _,fun h=>hnb (hnO b h hlt),hold,rfl,
  fun e he=>⟨(hin.ent e he).1, .inr ((hin.ent e he).2.imp fun k ⟨a,h1,h2,h3,h4⟩=>⟨a,h1,h2,h3,h4.mono (fun k hk h=>hoo k (hnO k h hk)) (fun k hk _=>hb.block k hk) _ fun _ _ h=>h⟩)⟩,
  fun k hk hf=>(hin.all k hk hf).imp fun e ⟨h1,h2⟩=>⟨h1,h2,by simp⟩,hin.one,fun k hk=>by simp at hk⟩⟩)
 obtain ⟨h1,h2,h3,h4,h5⟩:=hh;refine ⟨.value (.pointer (some ⟨w.heap.size,0,none⟩)),_,_,_, ?_, .inl rfl,h1,h3,h4, ?_,fun k a v h=> ?_⟩
 ·unfold execOp;rw [ho];simp only [hmv,Sem.run_bind,run_range_map w t kt et b es c hu e2,Result.andThen_ok];first|done|rfl
 ·exact show RV _ _ _ (.ptr σ.H.length 1 0 0) (.pointer (some ⟨w.heap.size,0*1+0,none⟩)) from .ptr (m:=1) (by simp)
 ·have h6:=h.mono (O':=OO B.X (σ.H.set j {ob with st:=4}) μ) (w':=w) (fun b _ hb=>hoo b hb) (fun _ _ _=>rfl) (upto k μ) fun _ _ h=>h
  exact ⟨h5 _ _ h6 (xd h2),fun _=>h5 _ _ h6 (xd h2)⟩
theorem zbD (Yi:Array Nat) (es:Array MapEntry) (c:Nat) (hold: ∀x∈es.toList,x.born<c):(!Yi.isEmpty && !es.isEmpty && es.all (fun x=>decide (x.born≥c)))=false:=next_test_false Yi es c c hold (Nat.le_refl _)
theorem zek (w:World) (ty:TypeId) (b mb c:Nat) (Yi:Array Nat) (es:Array MapEntry) (hb:w.heap[b]?=some (.mapIter (some mb) c Yi c)) (hm:w.heap[mb]?=some (.map es c)) (hold: ∀x∈es.toList,x.born<c):
 ((∀e∈es.toList,e.born∈Yi.toList)∧(Instr.next (.pointer (some ⟨b,0,none⟩)) false ty).run P w= .ok (.tuple #[.bool false]) w)∨
 ∃e∈es.toList,e.born∉Yi.toList∧ ∃w1:World,(w1=w∨w1=w.drew)∧(Instr.next (.pointer (some ⟨b,0,none⟩)) false ty).run P w= .ok (.tuple #[.bool true,e.key,e.val]) {w1 with heap:=w1.heap.setIfInBounds b (.mapIter (some mb) c (Yi.push e.born) c)}:=by
 simp only [Instr.next,getObj,Sem.run_bind,Sem.run,hb,hm,Result.andThen,zbD Yi es c hold,Bool.false_eq_true,if_false];have hmem: ∀x∈(Array.filter (fun e=> !Yi.contains e.born) es).toList,x.born<c:=fun x hx=>hold x (by simp at hx ⊢;exact hx.1)
 have hmem2: ∀x,x∈(Array.filter (fun e=> !Yi.contains e.born) es).toList↔x∈es.toList∧x.born∉Yi.toList:=fun x=>by simp
 generalize Array.filter (fun e=> !Yi.contains e.born) es=L at hmem hmem2 ⊢;have e1:L.filter (fun x=>decide (x.born<c))=L:=Array.filter_eq_self.2 (fun x hx=>by simpa using hmem x (by simpa using hx))
 have e2:L.filter (fun x=>decide (x.born≥c))= #[]:=by
  rw [Array.filter_eq_empty_iff];intro x hx;have:=hmem x (by simpa using hx)
  simp
  omega
 simp only [e1,e2,Array.append_empty];by_cases h0:L.size=0
 ·left
  have:L= #[]:=Array.eq_empty_of_size_eq_zero h0
  subst this;refine ⟨fun e he=> ?_, ?_⟩
  ·by_cases hs:e.born∈Yi.toList
   ·exact hs
   ·have:=(hmem2 e).2 ⟨he,hs⟩
    simp at this
  ·simp [choose,Sem.run,Question.forced]
 ·right
  have hne:L.isEmpty=false:=by simp [Array.isEmpty,h0]
  simp only [hne,Bool.false_eq_true,if_false,Array.empty_append,Array.size_map]
  have hch: ∃(j:Nat) (w1:World),j<L.size∧(w1=w∨w1=w.drew)∧(choose (Question.mapNext L.size)).run P w= .ok j w1:=by
   by_cases hf:L.size≤1
   ·exact ⟨0,w,by omega, .inl rfl,by simp [choose,Sem.run,Question.forced,hf]⟩
   ·exact ⟨_,w.drew,Nat.mod_lt _ (by omega), .inr rfl,by
     simp only [choose,Sem.run,Question.forced,decide_eq_true_eq,hf,if_false,Question.cut];rfl⟩
  obtain ⟨j,w1,hj,hal,hrun⟩:=hch;have hl:=(hmem2 L[j]).1 (by simp)
  refine ⟨L[j],hl.1,hl.2,w1,hal, ?_⟩;have hh:w1.heap=w.heap:=by rcases hal with rfl|rfl <;>rfl
  have hset:(setObj b (.mapIter (some mb) c (Yi.push L[j].born) c)).run P w1= .ok () {w1 with heap:=w1.heap.setIfInBounds b (.mapIter (some mb) c (Yi.push L[j].born) c)}:=by
   simp [setObj,Sem.run,hh,hb]
  simp only [hrun,Array.getElem?_map,Array.getElem?_eq_getElem hj,Option.map_some,Sem.run_bind,hset,Result.andThen];rfl
theorem q_ (hw:zS l σ o=some true) {x:Operand} (ho:o.op= .next x false) {i:Nat} (hx:σ.ev x= .ptr i 1 0 0) {ob:zb} (hob:nth σ.H i=some ob) (hst:ob.st=6)
 (some_: ∀k a,k<ob.n→ob.f k=[a]→AL P r l Q R (St.put ⟨σ.s,setn σ.H i {ob with f:=Ys ob.f k [],sz:=k+1},σ.fg,σ.nb⟩ o.dst (.tup [.lit (.bool true), .lit (.int .i64 (k:Int)),a])))
 (none_:(∀k,k<ob.n→ob.f k=[])→AL P r l Q R (σ.put o.dst (.tup [.lit (.bool false)]))):AL P r l Q (o::R) σ:=by
 rw [zH] at hob;refine zhk hw (fun c hc=>by rw [ho] at hc;cases hc) fun B μ a w hr=> ?_
 have hxv:=hx▸hr.ev x
 obtain ⟨b,m,hmu,hv⟩: ∃b m,μ i=some (some (b,m))∧a.eval x= .pointer (some ⟨b,0,none⟩):=by
  generalize a.eval x=v at hxv;cases hxv with
  |ptr h=>exact ⟨_,_,h,rfl⟩
 rcases hr.H.mp i ob hob with ⟨hpu,_,hat⟩|h
 rotate_left
 ·omega
 obtain ⟨b',m',mb,Yi,last,es,c,e1,e2,h6,h7,h8,h9,h10,h11,_⟩:=hat hst;subst h8;rw [hmu] at e1;injection e1 with e1;injection e1 with e1;injection e1 with e1 _;subst e1;have hlt:b<w.heap.size:=(Array.getElem?_eq_some_iff.1 e2).1
 have hil:i<σ.H.length:=(List.getElem?_eq_some_iff.1 hob).1
 rcases zek (P:=P) w 0 b mb last Yi es e2 h7 (fun e he=>(h9 e he).1) with ⟨g1,g2⟩|⟨e,g1,g2,w1,g3,g4⟩
 ·refine ⟨.tup [.lit (.bool false)],σ.H,none,⟨.value (.tuple #[.bool false]),_,w,μ, ?_, .inl rfl,hr.H, .refl _ _, .refl _ _, ?_,fun k a v h=>⟨h,fun _=>h⟩⟩,Nat.le_refl _,none_ fun k hk=> ?_⟩
  ·unfold execOp;rw [ho];have g2: ∀ty,(Instr.next (.pointer (some ⟨b,0,none⟩)) false ty).run P w= .ok (.tuple #[.bool false]) w:=fun _=>g2
   simp only [hv,Sem.run_bind,g2,Result.andThen_ok];first|done|rfl
  ·exact .tup (vs:=[.bool false]) rfl fun j a v ha hv=>by
    match j,ha,hv with
    |0,ha,hv=>simp at ha hv;subst ha hv;exact .lit _
  ·cases hf:ob.f k with
   |nil=>rfl
   |cons y ys=>
    obtain ⟨e,q1,_,q3⟩:=h10 k hk (by rw [hf];simp);exact (q3 (g1 e q1)).elim
 ·obtain ⟨k,y,q1,q2,q3,q4⟩:=(h9 e g1).2.resolve_left g2
  have hbel: ∀k,k≠b→({w1 with heap:=w1.heap.setIfInBounds b (.mapIter (some mb) last (Yi.push e.born) last)}:World).heap[k]?=w.heap[k]?:=fun k hne=>by
   have hh:w1.heap=w.heap:=by rcases g3 with rfl|rfl <;>rfl
   show (w1.heap.setIfInBounds b _)[k]?=_
   rw [hh];exact (MapKept.heap_set e2).2 k hne
  have hnew:({w1 with heap:=w1.heap.setIfInBounds b (.mapIter (some mb) last (Yi.push e.born) last)}:World).heap[b]?=some (.mapIter (some mb) last (Yi.push e.born) last):=by
   have hh:w1.heap=w.heap:=by rcases g3 with rfl|rfl <;>rfl
   show (w1.heap.setIfInBounds b _)[b]?=_
   rw [hh];exact (MapKept.heap_set e2).1
  have hooS: ∀k',OO B.X (σ.H.set i {ob with f:=Ys ob.f k [],sz:=k+1}) μ k'→OO B.X σ.H μ k':=by
   rintro k' (hx|⟨j,o1,m1,h1,h2,h3⟩)
   ·exact .inl hx
   ·by_cases hij:i=j
    ·subst hij;exact .inr ⟨i,ob,m1,hob,by omega,h3⟩
    ·rw [List.getElem?_set_ne hij] at h1;exact .inr ⟨j,o1,m1,h1,h2,h3⟩
  have hup: ∀{ν:Mu} {x:AV} {v:Value},RV (OO B.X σ.H μ) w ν x v→RV (OO B.X (σ.H.set i {ob with f:=Ys ob.f k [],sz:=k+1}) μ) {w1 with heap:=w1.heap.setIfInBounds b (.mapIter (some mb) last (Yi.push e.born) last)} ν x v:=fun hx=>hx.mono (fun k' _ hk=>hooS k' hk) (fun k' hk hn=>hbel k' (by rintro rfl;exact hn (.inr ⟨i,ob,m,hob,by omega,hmu⟩))) _ fun _ _ h=>h
  have hmb:mb≠b:=by rintro rfl;rw [h7] at e2;cases e2
  have hpw:=h11
  have hit:zfL (OO B.X (σ.H.set i {ob with f:=Ys ob.f k [],sz:=k+1}) μ) {w1 with heap:=w1.heap.setIfInBounds b (.mapIter (some mb) last (Yi.push e.born) last)} μ i {ob with f:=Ys ob.f k [],sz:=k+1}:=by
   refine ⟨b,m,mb,Yi.push e.born,last,es,last,hmu,hnew,fun h=>h6 (hooS _ h),(hbel mb hmb).trans h7,rfl,fun e' he'=>⟨(h9 e' he').1, ?_⟩,fun k' hk' hf'=> ?_,h11,fun k' hk'=>⟨e,g1,by simp,by rw [q2,show k=k' by simp only at hk';omega]⟩⟩
   ·rcases (h9 e' he').2 with h|⟨k',y',q1',q2',q3',q4'⟩
    ·left;rw [Array.toList_push];exact List.mem_append_left _ h
    ·by_cases hkk:k'=k
     ·left
      rw [Array.toList_push];refine List.mem_append_right _ (List.mem_singleton.2 ?_);have hke:e'.key=e.key:=by rw [q2',q2,hkk]
      by_cases hee:e'.born=e.born
      ·exact hee
      ·exfalso
       obtain ⟨p,hp,rfl⟩:=List.mem_iff_getElem.1 he';obtain ⟨q,hq,rfl⟩:=List.mem_iff_getElem.1 g1;rcases Nat.lt_trichotomy p q with hlt2|heq|hlt2
       ·exact (List.pairwise_iff_getElem.1 hpw p q hp hq hlt2).1 hke
       ·subst heq;exact hee rfl
       ·exact (List.pairwise_iff_getElem.1 hpw q p hq hp hlt2).1 hke.symm
     ·exact .inr ⟨k',y',q1',q2',by rw [←q3'];exact jA hkk,hup q4'⟩
   ·by_cases hkk:k'=k
    ·subst hkk;exact (hf' (Qp ..)).elim
    ·obtain ⟨e',p1,p2,p3⟩:=h10 k' hk' (by rw [←jA (f:=ob.f) (x:=[]) hkk];exact hf');refine ⟨e',p1,p2,fun h=> ?_⟩;rw [Array.toList_push] at h;rcases List.mem_append.1 h with h|h
     ·exact p3 h
     ·have hbb:=List.mem_singleton.1 h;have hne:e'.key≠e.key:=fun h=>by rw [p2,q2] at h;injection h with _ h;omega
      obtain ⟨p,hp,rfl⟩:=List.mem_iff_getElem.1 p1;obtain ⟨q,hq,rfl⟩:=List.mem_iff_getElem.1 g1;rcases Nat.lt_trichotomy p q with hlt2|heq|hlt2
      ·exact (List.pairwise_iff_getElem.1 hpw p q hp hq hlt2).2 hbb
      ·subst heq;exact hne rfl
      ·exact (List.pairwise_iff_getElem.1 hpw q p hq hp hlt2).2 hbb.symm
  obtain ⟨r1,r2,r3,r4⟩:=hr.H.putMap (w1:={w1 with heap:=w1.heap.setIfInBounds b (.mapIter (some mb) last (Yi.push e.born) last)}) (o':={ob with f:=Ys ob.f k [],sz:=k+1}) (new:= .mapIter (some mb) last (Yi.push e.born) last) hob (by omega) hmu e2 (by simp only;omega) rfl
   (by rcases g3 with rfl|rfl <;>exact ⟨rfl,rfl,rfl,rfl⟩) (.inl ⟨hpu,fun h=>by simp only at h;omega,fun _=>hit⟩)
  have hnx:=some_ k y q1 q3;rw [Zx] at hnx;refine ⟨_,_,none,⟨.value (.tuple #[.bool true,e.key,e.val]),_,_,μ, ?_, .inl rfl,r1,r2,r3, ?_,fun k a v h=>⟨r4 _ h,fun _=>r4 _ h⟩⟩,by simp,hnx⟩
  ·unfold execOp;rw [ho];have g4: ∀ty,(Instr.next (.pointer (some ⟨b,0,none⟩)) false ty).run P w=_:=fun _=>g4
   simp only [hv,Sem.run_bind,g4,Result.andThen_ok];first|done|rfl
  ·exact .tup (vs:=[.bool true,e.key,e.val]) rfl fun j a v ha hv=>by
    match j,ha,hv with
    |0,ha,hv=>simp at ha hv;subst ha hv;exact .lit _
    |1,ha,hv=>simp at ha hv;subst ha hv;rw [q2];exact .lit _
    |2,ha,hv=>simp at ha hv;subst ha hv;exact (hup q4).up
theorem zaN (w:World) (b mb c last:Nat) (Yi:Array Nat) (es:Array MapEntry) (e:MapEntry) (hb:w.heap[b]?=some (.mapIter (some mb) c Yi last)) (hm:w.heap[mb]?=some (.map es last)) (he:e∈es.toList) (hs:Yi.back?=some e.born) (hn:es.toList.Pairwise fun d e=>d.key≠e.key∧d.born≠e.born):
 (Instr.entry (.pointer (some ⟨b,0,none⟩))).run P w= .ok (.tuple #[e.key,e.val]) w:=by
 have hf:es.find? (·.born==e.born)=some e:=by
  rw [←Array.find?_toList];exact find_born e es.toList (List.pairwise_map.2 (hn.imp fun h=>h.2)) he
 simp only [Instr.entry,getObj,Sem.run_bind,Sem.run,hb,hm,Result.andThen,hs,bne_self_eq_false,Bool.false_eq_true,if_false,hf];try rfl
theorem Tw (hw:zS l σ o=some true) {x:Operand} (ho:o.op= .entry x) {i:Nat} (hx:σ.ev x= .ptr i 1 0 0) {ob:zb} (hob:nth σ.H i=some ob) (hst:ob.st=6) {k:Nat} (hk:ob.sz=k+1)
 (next:AL P r l Q R (σ.put o.dst (.tup [.lit (.int .i64 (k:Int)), .junk]))):AL P r l Q (o::R) σ:=by
 rw [zH] at hob;refine xu (H':=σ.H) (fg:=none) hw (fun c hc=>by rw [ho] at hc;cases hc) (fun B μ a w hr=>⟨?_,Nat.le_refl _⟩) next;have hxv:=hx▸hr.ev x
 obtain ⟨b,m,hmu,hv⟩: ∃b m,μ i=some (some (b,m))∧a.eval x= .pointer (some ⟨b,0,none⟩):=by
  generalize a.eval x=v at hxv;cases hxv with
  |ptr h=>exact ⟨_,_,h,rfl⟩
 rcases hr.H.mp i ob hob with ⟨hpu,_,hat⟩|h
 rotate_left
 ·omega
 obtain ⟨b',m',mb,Yi,last,es,c,e1,e2,h6,h7,h8,h9,h10,h11,h12⟩:=hat hst;subst h8;rw [hmu] at e1;injection e1 with e1;injection e1 with e1;injection e1 with e1 _;subst e1;obtain ⟨e,g1,g2,g3⟩:=h12 k hk;have hrun:=zaN (P:=P) w b mb last last Yi es e e2 h7 g1 g2 h11;refine ⟨.value (.tuple #[e.key,e.val]),_,w,μ, ?_, .inl rfl,hr.H, .refl _ _, .refl _ _, ?_,fun k a v h=>⟨h,fun _=>h⟩⟩
 ·unfold execOp;rw [ho];simp only [hv,Sem.run_bind,hrun,Result.andThen_ok];first|done|rfl
 ·exact .tup (vs:=[e.key,e.val]) rfl fun j a v ha hv=>by
   match j,ha,hv with
   |0,ha,hv=>simp at ha hv;subst ha hv;rw [g3];exact .lit _
   |1,ha,hv=>simp at ha hv;subst ha;exact .junk v
end
section
variable {P:Program} {tab:Tab} {r:Option Nat} {l R:List Oper} {Q:Exit→St→Prop} {σ:St} {o:Oper}
def zck:AV→Bool
 | .lit _| .junk=>true
 |_=>false
theorem pn {O O':Nat→Prop} {w w':World} {μ μ':Mu} {x:AV} {v:Value} (h:zck x=true) (hv:RV O w μ x v):RV O' w' μ' x v:=by
 cases hv <;>simp only [zck,Bool.false_eq_true] at h
 ·exact .junk _
 ·exact .lit _
def GA (tab:Tab) (rs:List ResultVar) (next:AV→List zb→List Nat→YB→Prop):Exit→St→Prop
 | .normal,σ| .ret,σ=> ∃q l,QA tab σ rs=some (q,l)∧q∧ ∃l' H',Tells ⟨l,σ.H,σ.fg,σ.nb⟩ ⟨l',H',σ.fg,σ.nb⟩∧next (qJ l') H' σ.fg σ.nb
 |_,_=>False
instance noPanic_reti {tab:Tab} {rs:List ResultVar} {K:AV→List zb→List Nat→YB→Prop}:NoPanic (GA tab rs K):=⟨fun _ _ h=>h⟩
theorem zlo {rs:List ResultVar} {K:AV→List zb→List Nat→YB→Prop} {q:Prop} {l l':List AV} {H':List zb} (h:QA tab σ rs=some (q,l)) (hq:q) (ht:Tells ⟨l,σ.H,σ.fg,σ.nb⟩ ⟨l',H',σ.fg,σ.nb⟩) (hk:K (qJ l') H' σ.fg σ.nb):GA tab rs K .normal σ∧GA tab rs K .ret σ:=
 ⟨⟨q,l,h,hq,l',H',ht,hk⟩,⟨q,l,h,hq,l',H',ht,hk⟩⟩
theorem zbJ (hT:zI P tab) (hw:zS l σ o=some true) (hnm:σ.nb.nm=true) {fo:Operand} {ao:List Operand} {ts:Array TypeId} (ho:o.op= .call {callee:= .value fo,args:=ao.toArray,argTypes:=ts}) {f:FuncId} {fa ca:List AV} (hf:σ.ev fo= .fn (.func f) fa ca)
 {fn : Func} {c : Code} (hfn : P.funcs[f]? = some fn) (hname : (fn.name == "runtime.NumGoroutine") = false) (hb : fn.body = some c) {s' : List AV} (hs : LeS σ.s s') (hl : s'.all zck = true)
 (h:AW P none c (GA tab fn.results.toList fun r' H' fg nb=>AL P r l Q R (St.put ⟨s',H',fg,⟨nb.n,nb.y,nb.stop,nb.sp,true⟩⟩ o.dst r')) ⟨(fa++ao.map σ.ev++ca)++List.replicate (fn.ntmps - (fa++ao.map σ.ev++ca).length) (.lit undef),σ.H,σ.fg,σ.nb⟩):AL P r l Q (o::R) σ:=by
 intro B μ a w hr;unfold wpListIn;rw [if_pos (Y9 hw hr)];refine ⟨fun f _=>QZ r f, ?_⟩;rw [Oper.semAt_eq _ _ _ (fun c hc=>by rw [ho] at hc;cases hc)];have hfv:=hr.ev fo;rw [hf] at hfv;generalize hg:a.eval fo=fv at hfv;have hd0:a.defers=[]:=hr.df.nm hnm
 cases hfv with
 |fn h1 h2 h3 h4=>
  rename_i vs us
  have hargs:RVs (OO B.X σ.H μ) w μ (ao.map σ.ev) (ao.map a.eval):=⟨by simp,fun j x v hx hv=>by
   simp only [List.getElem?_map,Option.map_eq_some_iff] at hx hv;obtain ⟨p,hp,rfl⟩:=hx;obtain ⟨p',hp',rfl⟩:=hv;rw [hp] at hp';injection hp' with hp';subst hp';exact hr.ev p⟩
  have hall:=((show RVs (OO B.X σ.H μ) w μ fa vs from ⟨h1,h2⟩).append hargs).append (show RVs (OO B.X σ.H μ) w μ ca us from ⟨h3,h4⟩)
  have hrun:(execOp a.eval o).run P w= .ok (.enter f (vs++ao.map a.eval++us).toArray) w:=by
   unfold execOp;rw [ho];simp only [resolve,hg,Deferred.ofValue,Sem.run_bind,Sem.run_pure,Result.andThen_ok,invoke,vE hfn hname hb];simp
  rw [hrun];refine ⟨fun hd=>by simp [fw,Fence.wide] at hd, ?_⟩
  have hcall:CallsIn (fw r) (0 - 1) P f (vs++ao.map a.eval++us).toArray w fun e w'=> ∃v,e= .returned v∧ ∃(X':ye) (σ1:St) (r':AV) (μ1:Mu),Grows B X'∧AL P r l Q R (σ1.put o.dst r')∧SRel (B.at_ X') μ1 σ1 a w'∧RV (OO X'.1 σ1.H μ1) w' μ1 r' v:=by
   refine callsIn_wide.2 (callsIn_wide.1 (callsIn_of_wp_marks (F:=Fence.wide) (n:=0) hfn hb trivial ?_));generalize (fa++ao.map σ.ev++ca)=args at h hall;generalize (vs++ao.map a.eval++us)=ws at hall ⊢
   have hr1:SRel B μ ⟨args++List.replicate (fn.ntmps - args.length) (.lit undef),σ.H,σ.fg,σ.nb⟩ {tmps:=ws.toArray++Array.replicate (fn.ntmps - ws.toArray.size) undef,defers:=[]} w:=
    ⟨by simp [hall.1],P3 hall,hr.H,by rw [←hd0];exact hr.df,hr.chg,hr.ext,hr.nb,hr.le,hr.pres⟩
   refine wpIn_mono (h B μ _ w hr1) fun e a' w' ⟨σ',q1,μ',X',hgr,h2⟩=> ?_
   have fin:(∃q l1,QA tab σ' fn.results.toList=some (q,l1)∧q∧ ∃l' H',Tells ⟨l1,σ'.H,σ'.fg,σ'.nb⟩ ⟨l',H',σ'.fg,σ'.nb⟩∧AL P r l Q R (St.put ⟨s',H',σ'.fg,⟨σ'.nb.n,σ'.nb.y,σ'.nb.stop,σ'.nb.sp,true⟩⟩ o.dst (qJ l')))→
    LeavesInM Fence.wide 0 P fn a'.tmps (fun e w'=> ∃v,e= .returned v∧ ∃(X':ye) (σ1:St) (r':AV) (μ1:Mu),Grows B X'∧AL P r l Q R (σ1.put o.dst r')∧SRel (B.at_ X') μ1 σ1 a w'∧RV (OO X'.1 σ1.H μ1) w' μ1 r' v) a'.defers .returning w':=by
    rintro ⟨q,l1,g1,g2,l',H1,gt,g3⟩
    refine Wb a'.defers h2 fun w' h2=> ?_
    obtain ⟨vs,g4,g5⟩:=QG hT h2 g1 g2;obtain ⟨μ1,h3⟩:=gt P (B.at_ X') μ' {tmps:=vs.toArray,defers:=[]} w' ⟨by simpa using g5.1,fun t x v hx hv=>g5.2 t x v hx (by simpa using hv),h2.H,h2.df,h2.chg,h2.ext,h2.nb,h2.le,h2.pres⟩;have hlv:RVs (OO X'.1 H1 μ1) w' μ1 l' vs:=⟨by simpa using h3.size,fun j x v hx hv=>h3.slot j x v hx (by simpa using hv)⟩
    exact ⟨_,g4,_,rfl,X',⟨s',H1,σ'.fg,⟨σ'.nb.n,σ'.nb.y,σ'.nb.stop,σ'.nb.sp,true⟩⟩,qJ l',μ1,hgr,g3,
     ⟨by rw [←hs.len];exact hr.size,fun t x v hx hv=>(let ⟨y,hy,hle⟩:=hs.at_ hx;pn (List.all_eq_true.1 hl x (List.mem_of_getElem? hx)) (hle _ _ _ _ (hr.slot t y v hy hv))),h3.H,⟨h3.df.sp,h3.df.ok,by rw [hd0];exact h3.df.jr,by rw [hd0];exact h3.df.marks,by rw [hd0];exact .nil,fun _=>hd0,h3.df.xy,h3.df.kp,h3.df.cx⟩,h3.chg,h3.ext,h3.nb,h3.le,h3.pres⟩,to hlv⟩
   cases e <;>simp only [GA] at q1 <;>first|exact q1.elim|exact fin q1
  refine hcall.mono fun e w' ⟨v,he,X',σ1,r',μ1,hgr,hal,hsr,hv⟩=> ?_
  subst he;exact wl (fun e a w h=>Post.trans hgr h) (hal (B.at_ X') μ1 _ w' (hsr.put hv o.dst))
def zcu:AV→AV
 | .lit x=> .lit x
 |_=> .junk
theorem ta: ∀s:List AV,LeS s (s.map zcu)
 |[]=> .nil
 |a::s=> .cons (by cases a <;>first|exact .refl _|exact .junk _) (ta s)
theorem UI: ∀s:List AV,(s.map zcu).all zck=true
 |[]=>rfl
 |a::s=>by
  rw [List.map_cons,List.all_cons,UI s,Bool.and_true];cases a <;>rfl
theorem pQ (hT:zI P tab) (hw:zS l σ o=some true) (hnm:σ.nb.nm=true) {fo:Operand} {ao:List Operand} {ts:Array TypeId} (ho:o.op= .call {callee:= .value fo,args:=ao.toArray,argTypes:=ts}) {f:FuncId} {fa ca:List AV} (hf:σ.ev fo= .fn (.func f) fa ca)
 {fn : Func} {c : Code} (hfn : P.funcs[f]? = some fn) (hname : (fn.name == "runtime.NumGoroutine") = false) (hb : fn.body = some c)
 (h:AW P none c (GA tab fn.results.toList fun r' H' fg nb=>AL P r l Q R (St.put ⟨σ.s.map zcu,H',fg,⟨nb.n,nb.y,nb.stop,nb.sp,true⟩⟩ o.dst r')) ⟨(fa++ao.map σ.ev++ca)++List.replicate (fn.ntmps - (fa++ao.map σ.ev++ca).length) (.lit undef),σ.H,σ.fg,σ.nb⟩):AL P r l Q (o::R) σ:=
 zbJ hT hw hnm ho hf hfn hname hb (ta _) (UI _) h
theorem X7 {g:Operand} {ps:List Tmp} {assign body:Code} {s1:List AV} {H1 Hi:List zb} {lb lb':List AV} (hsplit:tW σ s1 H1 Hi lb lb') (hsp:(σ.nb.y,σ.nb.stop,σ.nb.sp)=(0,false,none)) {gf:FuncId} (hg:σ.ev g= .fn (.func gf) [] lb) (hgf:ze P gf)
 {xs:Nat→List AV} {n:Nat} (hit:Jl P gf lb' Hi xs n) (hps: ∀i,i<n→(xs i).length=ps.length) (Hs:Nat→List zb) (h0:Hs 0=H1)
 (round: ∀i,i<n→ ∀L,AW P (some L) assign (zF (AW P (some L) body (zo s1 σ.nb.n (Hs i).length (Hs (i+1)))) (fun _ _=>False)) ⟨wP s1 ps (xs i),Hs i,[],⟨(Hs i).length,0,false,none,true⟩⟩)
 (next:Q .normal ⟨s1,Hs n,σ.fg,⟨σ.nb.n,σ.nb.y,σ.nb.stop,σ.nb.sp,false⟩⟩):AW P none (.rangeFunc g ps.toArray assign body) Q σ:=by
 obtain ⟨s,H0,fg,n0,y0,st0,sp0,nm0⟩:=σ;injection hsp with e1 e2
 injection e2 with e2 e3
 simp only at e1 e2 e3;subst e1 e2 e3;refine XE hsplit hg hgf hit hps Hs (fun _=>0) h0 rfl (fun i hi L=> ?_) next;refine ky (round i hi L) fun e σ' h=>⟨σ', .refl _, ?_⟩
 cases e <;>simp only [zF] at h ⊢
 refine ky h fun e σ' h=>⟨σ', .refl _, ?_⟩
 cases e <;>simp only [zo] at h
 obtain ⟨σ'',h1,h2,h3,h4,h5,h6⟩:=h;exact ⟨σ'',h1,h2,h3,h4,h5,h6⟩
def QK (p:Prop) [Decidable p] (H:List zb):List zb:=if p then H else [{T:=0,sz:=0,n:=0,f:=fun _=>[]}]
theorem yQ {p:Prop} [Decidable p] (h:p) (H:List zb):QK p H=H:=if_pos h
theorem SRel.guard {p:Prop} [Decidable p] {B:Base P} {μ:Mu} {s:List AV} {H:List zb} {fg:List Nat} {nb:YB} {a:Act} {w:World} (h:SRel B μ ⟨s,QK p H,fg,nb⟩ a w):p:=by
 by_cases hp:p
 ·exact hp
 ·exfalso
  have h1:=h.H;unfold QK at h1;simp only [if_neg hp] at h1;have:=(h1.obj 0 _ rfl (by simp)).1
  simp at this
theorem wO {c:Code} {p:Prop} [Decidable p] {s:List AV} {H:List zb} {fg:List Nat} {nb:YB} (h:p→AW P r c Q ⟨s,H,fg,nb⟩):AW P r c Q ⟨s,QK p H,fg,nb⟩:=fun B μ a w hr=>by
 have hp:=hr.guard;rw [yQ hp] at hr;exact h hp B μ a w hr
def zhv:AV→AV
 | .fn _ _ _=> .junk
 |a=>a
theorem zaz: ∀s:List AV,LeS s (s.map zhv)
 |[]=> .nil
 |a::s=> .cons (by cases a <;>first|exact .refl _|exact .junk _) (zaz s)
theorem we (hlive:live σ.H=true) {lb:List AV} (hlb:lb.all (zB 4)=true):tW σ (σ.s.map zhv) σ.H [] lb lb:=⟨by simp,fun P B μ a w hr=>by
 obtain ⟨μ1,μi,h⟩:=(Kt hlive hlb).sp P B μ a w hr;exact ⟨μ1,μi,h.k1,h.ki,h.kd,h.kn,h.h1,h.hi,fun k x v hx hv=>(let ⟨y,hy,hle⟩:=(zaz σ.s).at_ hx;hle _ _ _ _ (h.slot k y v hy hv)),h.cap,h.pres,h.le⟩⟩
theorem APure.lit_at {f:FuncId} {H:List zb} {args args':List AV} {v:Value} (h:APure P f args' (.lit v) []) {q:Prop} {used:List Nat} (ht:Yf (thaw H 4) args=some (q,args',used)) (hq:q):
 ACall P f args H fun r' H' fg=>r'= .lit v∧H'=H∧fg=[]:=by
 intro w X μ vs hH hv;have hargs:=Xk (XN hH 4) ht hq hv
 have hX1: ∀b,Less (OO X H μ) μ used b→b<w.heap.size:=by
  rintro b ⟨hx|⟨i,o,m,hi,hs,hm⟩,_⟩
  ·exact hH.xlt b hx
  ·exact (hH.lt i b m hm).1
 have hH0:HRel noMu (Less (OO X H μ) μ used) [] w:=⟨fun i l h=>(by cases h),fun i j b m m' h=>(by cases h),fun i b m h=>(by cases h),fun i o h=>(by simp at h),hX1,hH.gl.step (Nat.le_refl _) (fun _ _ _ _=>rfl) (fun b hb=>hb.1.elim .inl fun ⟨i,o,m,_,_,hm⟩=> .inr (.inl ⟨i,m,hm⟩)) fun i b m h=>(by cases h), .none fun o h=>(by cases h)⟩
 have hoo0: ∀b,OO (Less (OO X H μ) μ used) [] noMu b↔Less (OO X H μ) μ used b:=fun b=>⟨fun hb=>hb.elim id fun ⟨i,o,m,hi,_⟩=>(by simp at hi),fun hb=> .inl hb⟩
 refine (h w (Less (OO X H μ) μ used) noMu vs hH0 ⟨hargs.1,fun j a v ha hv=>(hargs.2 j a v ha hv).mono (fun b _ hb=>(hoo0 b).1 hb) (fun _ _ _=>rfl) _ fun _ _ h=>h⟩).mono fun e w' he=> ?_
 obtain ⟨v',r',H1,fg1,μ1,rfl,⟨rfl,rfl⟩,g1,g2,g3,g4,_,_⟩:=he;have hb:Below w.heap.size w w':=g3.below
 rw [g2.lit_eq];exact ⟨_,_,H,[],μ,rfl,⟨rfl,rfl,rfl⟩,hH.below hb, .lit _, .of_below hb, .refl _ _,Nat.le_refl _,fun k x u _ hx=>hx.later hb⟩
end
section
attribute [local irreducible] zA AO zo ADr AL AW zF zh zU Tells APure ACall
theorem lpy {P:Program} {r:Option Nat} {Q:Exit→St→Prop} {c:Code} {ι:Type} {s:List AV} {H0:List zb} {fg:List Nat} {nb:YB} {ws:List Nat} (g:ι→List (Nat×AV)) (Hs:ι→List zb) (nbs:ι→YB) (m:ι→Nat) (i0:ι)
 (round: ∀i,AW P r c (zF (fun σ'=> ∃j,m j<m i∧Tells σ' (lst s fg (nbs j) ws (g j) (Hs j))) Q) (lst s fg (nbs i) ws (g i) (Hs i)))
 (hws:wrC c=ws:=by (conv=>lhs;simp only [wrC,u5,List.cons_append,List.nil_append,List.append_nil]) <;>exact rfl)
 (h0:Tells ⟨s,H0,fg,nb⟩ (lst s fg (nbs i0) ws (g i0) (Hs i0)):=by exact tel):AW P r (.loop c) Q ⟨s,H0,fg,nb⟩:=gi ws g Hs nbs m i0 h0 round
theorem yld {P:Program} {r:Option Nat} {l R:List Oper} {Q:Exit→St→Prop} {s:List AV} {H:List zb} {fg:List Nat} {n0 y L:Nat} {xs:Nat→List AV} {n:Nat} {o:Oper} {fo:Operand} {ao:List Operand} {ts:Array TypeId}
 (ho:o.op= .call {callee:= .value fo,args:=ao.toArray,argTypes:=ts}) (hy:y<n) (hle:LeS (ao.map (St.ev ⟨s,H,fg,⟨n0,y,false,some (L,xs,n),true⟩⟩)) (xs y))
 (next: ∀t:Bool,AL P r l Q R (St.put ⟨s,H,fg,⟨n0,y+1, !t,some (L,xs,n),true⟩⟩ o.dst (.lit (.bool t))))
 (hw:zS l ⟨s,H,fg,⟨n0,y,false,some (L,xs,n),true⟩⟩ o=some true:=by exact rfl) (hf:St.ev ⟨s,H,fg,⟨n0,y,false,some (L,xs,n),true⟩⟩ fo= .fn (.yield L) [] []:=by exact rfl)
 (hlive:live H=true:=by exact rfl) (hid:(xs y).all (zB 4)=true:=by exact rfl):AL P r l Q (o::R) ⟨s,H,fg,⟨n0,y,false,some (L,xs,n),true⟩⟩:=TN hw ho hf rfl rfl rfl hy hlive hid hle next
theorem itr {n:Nat} {σ:St} (h:σ.nb.stop=false→σ.nb.y=n):zt n .ret σ:=h
theorem itn {n:Nat} {σ:St} (h:σ.nb.stop=false→σ.nb.y=n):zt n .normal σ:=h
theorem its {n:Nat} {σ:St} (h:σ.nb.stop=true):zt n .ret σ∧zt n .normal σ:=⟨fun h'=>(by rw [h] at h';cases h'),fun h'=>(by rw [h] at h';cases h')⟩
theorem tlf {A:Prop} (h:A:=by
 first
  |exact Tells.refl _
  |(refine Tells.le ?_ ?_;exact les;exact leh)
  |(refine Tells.all rfl ?_;exact les)
  |(refine (Tells.thaw (t:=0) rfl rfl (by first|exact Nat.le_refl _|exact Nat.le_of_eq (Nat.zero_add _)|(simp;omega)|omega)).trans ((Tells.sel [] rfl rfl).trans (Tells.le ?_ .nil));exact les)
  |(refine (Tells.thaw (t:=1) rfl rfl (by first|exact Nat.le_refl _|exact Nat.le_of_eq (Nat.zero_add _)|(simp;omega)|omega)).trans ((Tells.sel [] rfl rfl).trans (Tells.le ?_ .nil));exact les)):A:=h
theorem rti {tab:Tab} {rs:List ResultVar} {K:AV→List zb→List Nat→YB→Prop} {σ:St} {q:Prop} {l:List AV} (h:QA tab σ rs=some (q,l)) (hq:q) (l':List AV) (H':List zb) (k:K (qJ l') H' σ.fg σ.nb)
 (ht:Tells ⟨l,σ.H,σ.fg,σ.nb⟩ ⟨l',H',σ.fg,σ.nb⟩:=by exact tlf):GA tab rs K .ret σ:=(zlo h hq ht k).2
theorem rqn {σ σ':St} {k:Nat} {H':List zb} {y':Nat} {Q:Exit→St→Prop} (σ'':St) (ht:Tells σ' σ'') (hH:σ''.H=H') (hs:LeS (σ.s.map (fgs (fgk k σ''.fg))) σ.s) (hf:(σ''.fg.all fun i=>Nat.ble σ.nb.n i)=true) (hy:σ''.nb.y=y') (hst:σ''.nb.stop=σ.nb.stop):uk σ k H' y' Q .normal σ':=⟨σ'',ht,hH,hs,hf,hy,hst⟩
theorem rqr {σ σ':St} {k:Nat} {H':List zb} {y':Nat} {Q:Exit→St→Prop} (σ'':St) (ht:Tells σ' σ'') (hs:LeS (σ.s.map (fgs (fgk k σ''.fg))) σ.s) (hf:(σ''.fg.all fun i=>Nat.ble σ.nb.n i)=true) (hq:Q .ret ⟨σ.s,σ''.H,σ.fg,⟨σ.nb.n,σ''.nb.y,σ''.nb.stop,σ.nb.sp,false⟩⟩):uk σ k H' y' Q .ret σ':=⟨σ'',ht,hs,hf,hq⟩
end
section
attribute [local irreducible] zA AO zt zo ADr AL AW zF zh zU Tells APure ACall
def j2 (w:Int):Nat→Int→Int
 |0,x=>x
 |k+1,x=>j2 w k (zm x w)
theorem G6 (w:Int): ∀(k i:Nat) (x:Int),i<(ups k x w).length→(ups k x w).getD i 0=j2 w i x∧0≤j2 w i x
 |0,i,x,h=>by simp [ups] at h
 |k+1,i,x,h=>by
  unfold ups at h ⊢;split at h
  ·simp at h
  ·rename_i hx;rw [if_neg hx];cases i with
   |zero=>exact ⟨rfl,by show 0≤x;omega⟩
   |succ i=>simpa [j2] using G6 w k i (zm x w) (by simpa using h)
theorem zah (w:Int): ∀(k:Nat) (x:Int),(ups k x w).length<k→j2 w (ups k x w).length x<0
 |0,x,h=>by omega
 |k+1,x,h=>by
  unfold ups at h ⊢;split
  ·rename_i hx;exact hx
  ·rename_i hx;rw [if_neg hx] at h;simp only [List.length_cons] at h ⊢;exact zah w k _ (by omega)
theorem UN (w:Int): ∀(i:Nat) (x:Int),j2 w (i+1) x=zm (j2 w i x) w
 |0,x=>rfl
 |i+1,x=>UN w i (zm x w)
theorem zgJ: ∀(i:Fin 7) (n:Fin 127),n.val<2^(i.val+1) - 1→(ups 8 (n.val:Int) ((2^(i.val+1) - 1:Nat):Int)).length<8∧1≤(ups 8 (n.val:Int) ((2^(i.val+1) - 1:Nat):Int)).length:=by decide+kernel
theorem XY (x w:Int):(yE x w).length<8:=by
 unfold yE;split
 ·rename_i h;obtain ⟨i,n,rfl,rfl,h'⟩:=WF h;exact (zgJ i n h').1
 ·simp
theorem zfl {x w:Int} (h:iIs x w=true) {i:Nat} (hi:i<(yE x w).length):(yE x w).getD i 0=j2 w i x∧0≤j2 w i x:=by
 unfold yE at hi ⊢;rw [if_pos h] at hi ⊢;exact G6 w 8 i x hi
theorem zfQ {x w:Int} (h:iIs x w=true):j2 w (yE x w).length x<0:=by
 have hl:=XY x w;unfold yE at hl ⊢;rw [if_pos h] at hl ⊢;exact zah w 8 x hl
theorem zkv (x w:Int):APure Tryz.prog 190 [int x,int w] (.lit (.bool (iIs x w))) []:=zll x w
abbrev bxI (x:Int):zb:={T:=3,sz:=1,n:=1,f:=fun _=>[int x],box:=true}
theorem jw (x w:Int):Jl Tryz.prog 189 [.ptr 0 1 0 0, .ptr 1 1 0 0] [bxI x,bxI w] (fun i=>[int ((yE x w).getD i 0)]) (yE x w).length:=by
 refine KM hT Tryz.func189 rfl rfl fun L=> ?_
 simp only [Tryz.ntmps189,List.length_cons,List.length_nil,Nat.reduceAdd,Nat.reduceSub,List.replicate,List.cons_append,List.nil_append];refine gc zla (zkv x w) ⟨?_⟩;cases hI:iIs x w
 ·refine go ⟨?_⟩;refine itr fun _=> ?_
  show 0=_;unfold yE;rw [hI];rfl
 refine go ⟨?_⟩;have hl:=XY x w;have hg:=fun i=>zfl hI (i:=i)
 have he:=zfQ hI;generalize yE x w=u at*;refine lpy (fun i:{i:Nat // i≤u.length}=>[]) (fun i=>[bxI (j2 w i.1 x),bxI w]) (fun i=>⟨2,i.1,false,some (L,fun i=>[int (u.getD i 0)],u.length),true⟩) (fun i=>u.length - i.1) ⟨0,Nat.zero_le _⟩ ?_
 rintro ⟨i,hi⟩
 refine go ⟨?_⟩;by_cases hlt:i<u.length
 ·obtain ⟨g1,g2⟩:=hg i hlt;have g3:=UN w i x;generalize j2 w i x=z at g1 g2 g3;have h0:z≥0:=g2
  refine go ⟨?_⟩;refine yld rfl hlt (uJ (.int g1.symm)) fun t=> ?_
  cases t
  ·refine go ⟨?_⟩;first|exact (its rfl).1|exact (its rfl).2
  ·refine gcg jj (jD z w) ⟨?_⟩;rw [←g3];refine je ⟨⟨i+1,hlt⟩,by simp only;omega, ?_⟩;exact tel
 ·obtain rfl:i=u.length:=by omega
  generalize j2 w u.length x=z at he;have h0: ¬z≥0:=by omega
  refine go ⟨?_⟩;first|exact itn fun _=>rfl|exact itr fun _=>rfl
theorem P2:ze Tryz.prog 189:=gfn Tryz.func189
theorem zcP (x w:Int):APure Tryz.prog 126 [int x,int w] (.fn (.func 189) [] [.ptr 0 1 0 0, .ptr 1 1 0 0]) [bxI x,bxI w]:=by
 refine ent Tryz.func126 Tryz.ntmps126 ⟨?_⟩;exact gf
theorem zei:ze Tryz.prog 126:=gfn Tryz.func126
abbrev asH (l:List Int) (i:Nat):List zb:=[{T:=36,sz:=1,n:=1,f:=fun _=>[.row 1 1 0 i none],pure:=false,box:=true},{T:=3,sz:=1,n:=i,f:=yP (l.take i)}]
theorem zT {l:List Int} {i:Nat} (h:i<l.length):l.take (i+1)=l.take i++[l.getD i 0]:=by
 rw [List.take_succ_eq_append_getElem h];simp [List.getD_eq_getElem?_getD,h]
theorem mc8 {G A:Prop} (k:Hold G) (h:Hold G→A:=by
 intro k;simp only [wP,setn,zhv,List.map,ren,idx,fgs,fgk,List.filter,List.foldl,List.length_cons,List.length_nil,Nat.reduceAdd,Option.map,Nat.reduceBEq,beq_self_eq_true,cond_true,cond_false];exact k.1):A:=h k
theorem jo (x w:Int):APure Tryz.prog 106 [int x,int w] (Zn (zy x w)) []:=by
 refine ent Tryz.func106 Tryz.ntmps106 ⟨?_⟩;refine gc zei (zcP x w) ⟨?_⟩;refine pQ hT rfl rfl rfl rfl Tryz.func121 rfl rfl ?_;simp only [Tryz.ntmps121,List.length_cons,List.length_nil,List.length_append,Nat.reduceAdd,Nat.reduceSub,List.replicate,List.cons_append,List.nil_append,List.append_nil,List.map_cons,List.map_nil,St.ev,nth,Option.getD];refine go ⟨?_⟩;refine pQ hT rfl rfl rfl rfl Tryz.func180 rfl rfl ?_;simp only [Tryz.ntmps180,List.length_cons,List.length_nil,List.length_append,Nat.reduceAdd,Nat.reduceSub,List.replicate,List.cons_append,List.nil_append,List.append_nil,List.map_cons,List.map_nil,St.ev,nth,Option.getD];refine go ⟨?_⟩;refine zr (Tells.nilCell 2 3 1 rfl rfl rfl rfl) ?_;refine zr (Tells.le (H':=[bxI x,bxI w,{T:=36,sz:=1,n:=1,f:=fun _=>[.row 3 1 0 0 none],pure:=false,box:=true},yC []]) (.refl _) (.cons (.refl _) (.cons (.refl _) (.cons (.refl _) (.cons (.of (Nat.le_refl _) (fun h=>h) fun k hk=>by simp at hk) .nil))))) ?_;refine X7 (Wq [2,3] [0,1] rfl rfl (by decide) rfl rfl) rfl rfl P2 (jw x w) (fun i hi=>rfl) (asH (yE x w)) rfl (fun i hi L=> ?_) ?_
 ·have hb:=XY x w;generalize hu:yE x w=u at*;have hs:=zT hi;have hl:(u.take i).length=i:=List.length_take_of_le (by omega)
  refine mc8 ⟨?_⟩;refine go ⟨?_⟩;refine app (yP (u.take (i+1))) hT rfl rfl rfl rfl (fun k hk=> ?_) ?_
  ·rw [hs];exact ZZ (e:=wA) hl.symm rfl hk
  refine ng ⟨?_⟩;refine qL _ ((Tells.sel [0,1] rfl rfl).trans (Tells.le (H':=asH u (i+1)) (.refl _) ?_)) rfl ?_ rfl
  ·exact .cons (.of (Nat.le_refl _) (fun h=>h) fun _ _=>rfl) (.cons (.of (Nat.le_refl _) (fun h=>h) fun _ _=>rfl) .nil)
  ·repeat (first|exact .nil|refine .cons (.refl _) ?_)
 ·generalize hu:yE x w=u at*;have hd:zy x w=u.tail:=by unfold zy;rw [hu]
  refine mc8 ⟨?_⟩;refine go ⟨?_⟩;refine rti rfl trivial [Zn u] [] ?_;refine ng ⟨?_⟩;refine rti rfl trivial [Zn u] [] ?_;refine ng ⟨?_⟩;rw [hd];refine uM rfl trivial (Tells.le (uJ (zi3 rfl (Nat.le_refl _) (fun h=>h) ?_)) .nil);cases u with
  |nil=>rfl
  |cons y u=>
   show u=((y::u).take (u.length+1)).drop (min 1 ((u.length+1:Nat):Int)).toNat
   rw [show (min 1 ((u.length+1:Nat):Int)).toNat=1 by omega,List.take_of_length_le (by simp)];rfl
theorem QE:ze Tryz.prog 106:=gfn Tryz.func106
def cpL (u:List Int) (w:Int) (i:Nat):List Int:=((u.take i).map fun y=>zE y w).filter fun s=>decide (0≤s)
theorem P6 {u:List Int} (w:Int) {i:Nat} (h:i<u.length):cpL u w (i+1)=cpL u w i++if 0≤zE (u.getD i 0) w then [zE (u.getD i 0) w] else []:=by
 unfold cpL;rw [zT h,List.map_append,List.filter_append];congr 1
 by_cases h0:0≤zE (u.getD i 0) w
 ·rw [if_pos h0];exact List.filter_cons_of_pos (decide_eq_true h0)
 ·rw [if_neg h0];exact List.filter_cons_of_neg (by simpa using h0)
theorem zd6 (u:List Int) (w:Int) (i:Nat):(cpL u w i).length≤u.length:=by
 unfold cpL;refine Nat.le_trans (List.length_filter_le _ _) ?_;simp;omega
abbrev cpH (w:Int) (l:List Int):List zb:=[bxI w,{T:=36,sz:=1,n:=1,f:=fun _=>[.row 2 1 0 l.length none],pure:=false,box:=true},yC l]
theorem zc3 (x w:Int):APure Tryz.prog 70 [int x,int w] (Zn (Zc x w)) []:=by
 refine ent Tryz.func70 Tryz.ntmps70 ⟨?_⟩;refine gcg zei (zcP x w) ⟨?_⟩;refine zr (Tells.nilCell 1 3 1 rfl rfl rfl rfl) ?_;refine zr (Tells.le (H':=[bxI w,{T:=36,sz:=1,n:=1,f:=fun _=>[.row 4 1 0 0 none],pure:=false,box:=true},bxI x,bxI w,yC []]) (.refl _) (.cons (.refl _) (.cons (.refl _) (.cons (.refl _) (.cons (.refl _) (.cons (.of (Nat.le_refl _) (fun h=>h) fun k hk=>by simp at hk) .nil)))))) ?_;refine X7 (Wq [0,1,4] [2,3] rfl rfl (by decide) rfl rfl) rfl rfl P2 (jw x w) (fun i hi=>rfl) (fun i=>cpH w (cpL (yE x w) w i)) rfl (fun i hi L=> ?_) ?_
 ·have hb:=XY x w;generalize hu:yE x w=u at*;have hs:=P6 w hi;have hl:=zd6 u w i;generalize cpL u w (i+1)=l' at*;generalize cpL u w i=l at*;generalize u.getD i 0=y at*;refine mc8 ⟨?_⟩;refine gcg vH (vp y w) ⟨?_⟩;generalize zE y w=z at*;by_cases h:z≥0
  ·rw [if_pos h] at hs;refine go ⟨?_⟩;refine app (yP l') hT rfl rfl rfl rfl (fun k hk=> ?_) ?_
   ·rw [hs];exact ZZ (e:=wA) rfl rfl hk
   refine ng ⟨?_⟩;have hl':l'.length=l.length+1:=by rw [hs];simp
   refine qL _ ((Tells.sel [0,1,2] rfl rfl).trans (Tells.le (H':=cpH w l') (.refl _) ?_)) rfl ?_ rfl
   ·refine .cons (.refl _) (.cons (.of (Nat.le_refl _) (fun h=>h) fun _ _=> ?_) (.cons (.of (Nat.le_of_eq hl') (fun h=>h) fun _ _=>rfl) .nil));rw [hl'];rfl
   ·repeat (first|exact .nil|refine .cons (.refl _) ?_)
  ·rw [if_neg h,List.append_nil] at hs;subst hs;refine go ⟨?_⟩;refine qL _ (Tells.le (H':=cpH w l') (.refl _) (.refl _)) rfl ?_ rfl
   ·repeat (first|exact .nil|refine .cons (.refl _) ?_)
 ·have hd:cpL (yE x w) w (yE x w).length=Zc x w:=by unfold cpL Zc;rw [List.take_length]
  rw [hd];generalize Zc x w=u at*;refine mc8 ⟨?_⟩;exact gf
theorem KR:ze Tryz.prog 70:=gfn Tryz.func70
theorem HI (x y w:Int):APure Tryz.prog 249 [int x,int y,int w] (.lit (.bool (Yp x y w))) []:=by
 refine ent Tryz.func249 Tryz.ntmps249 ⟨?_⟩;refine gcg zei (zcP x w) ⟨?_⟩;refine XE (Wq [0,1] [2,3] rfl rfl (by decide) rfl rfl) rfl P2 (jw x w) (fun i hi=>rfl) (fun i=>QK (y∉(yE x w).take i) [bxI y,{T:=4,sz:=1,n:=1,f:=fun _=>[.lit (.bool false)],box:=true}]) (fun _=>0) (yQ (by simp) _) rfl (fun i hi L=> ?_) ?_
 ·refine wO fun hn=> ?_
  rw [yQ hn];have hs:=zT hi;unfold Yp;generalize hu:yE x w=u at*;refine mc8 ⟨?_⟩;refine go ⟨?_⟩;generalize hz:u.getD i 0=z at*;have hd: ∀l:List Int,LeS (l.map int) (l.map int):=fun _=> .refl _
  by_cases h:z=y
  ·have h1:(z==y)=true:=by simp [h]
   rw [h1];refine go ⟨?_⟩;refine rqr _ (Tells.refl _) ?_ rfl ?_
   ·repeat (first|exact .nil|refine .cons (.refl _) ?_)
   ·have hc:u.contains y=true:=by
     rw [List.contains_iff_mem,←h,←hz,List.getD_eq_getElem?_getD,List.getElem?_eq_getElem hi];exact List.getElem_mem hi
    rw [hc];exact gf
  ·have h1:(z==y)=false:=by simp [h]
   rw [h1];refine go ⟨?_⟩;refine rqn _ (Tells.refl _) (yQ ?_ _).symm ?_ rfl rfl rfl
   ·rw [hs,List.mem_append,List.mem_singleton];exact fun h'=>h'.elim hn fun e=>h e.symm
   ·repeat (first|exact .nil|refine .cons (.refl _) ?_)
 ·refine yj (ZS (wO fun hn=> ?_));rw [List.take_length] at hn;have hc:Yp x y w=false:=by unfold Yp;simpa using hn
  rw [hc];refine mc8 ⟨?_⟩;exact gf
theorem Hy:ze Tryz.prog 249:=gfn Tryz.func249
abbrev zji (n:YS):List AV:=[bytes n.enc,bytes n.hash,Zn n.unm]
abbrev j5 (n:YS):AV:= .agg (zji n)
abbrev Zb (n:Zt):List AV:=[int n.kind,bytes n.leaf.enc,bytes n.leaf.cred,int n.leaf.source,bytes n.leaf.parent,bytes n.inner.enc,bytes n.inner.hash,Zn n.inner.unm]
abbrev yg (n:Zt):AV:= .agg (Zb n)
def zf:Enc Zt:=⟨8,za,Zb⟩
abbrev zg (t:zc):AV:= .sl 8 t.length false (fE zf t)
abbrev W9 (t:zc):zb:={T:=85,sz:=8,n:=t.length,f:=fE zf t}
abbrev Xb (k:YW):List AV:=[int k.id,zg k.t]
abbrev zdC (k:YW):AV:= .agg (Xb k)
def ZH:Enc YW:=⟨2,⟨0,[]⟩,Xb⟩
abbrev jX (l:List YW):AV:= .sl 2 l.length false (fE ZH l)
theorem tX {g:Nat} {ca:List AV} {p:Int→Bool} (xs:List Int) (hl:xs.length≤1000000000000) (hg:ze Tryz.prog g) (hca:ca.all (zB 4)=true) (hp: ∀x∈xs,APure Tryz.prog g ([int x]++ca) (.lit (.bool (p x))) []):
 APure Tryz.prog 248 [Zn xs, .fn (.func g) [] ca] (int (QT p xs)) []:=by
 refine ent Tryz.func248 Tryz.ntmps248 ⟨?_⟩;refine go ⟨?_⟩;refine lp (fun i:{i:Nat // i≤xs.length∧ ∀x∈xs.take i,p x=false}=>[(8,int i.1)]) (fun _=>[]) (fun i=>xs.length - i.1) ⟨0,by simp⟩ ?_
 rintro ⟨i,hi,hn⟩
 refine go ⟨?_⟩;refine zj rfl (fun h=> ?_) (fun h=> ?_)
 ·have hlt:i<xs.length:=by omega
  have ex:xs.getD i 0=xs[i]:=by simp [List.getD_eq_getElem?_getD,hlt]
  refine go ⟨?_⟩;refine x8 rfl rfl rfl hg rfl hca (hp xs[i] (List.getElem_mem _)) (.cons (.eq (congrArg int ex)) .nil) ?_;refine go ⟨?_⟩;refine zj rfl (fun h=> ?_) (fun h=> ?_)
  ·have hf:xs.findIdx? p=some i:=List.findIdx?_eq_some_iff_getElem.2 ⟨hlt,h,fun j hj=>by simp [hn xs[j] (List.mem_take_iff_getElem.2 ⟨j,by omega,rfl⟩)]⟩
   rw [xJ hf];exact gf
  ·refine go ⟨?_⟩;refine je ⟨⟨i+1,by omega,fun x hx=> ?_⟩,by simp only;omega, ?_⟩
   ·rw [List.take_succ_eq_append_getElem hlt] at hx;rcases List.mem_append.1 hx with hx|hx
    ·exact hn x hx
    ·rw [List.mem_singleton.1 hx];simpa using h
   ·exact tel
 ·obtain rfl:i=xs.length:=by omega
  rw [List.take_length] at hn;rw [xK (List.findIdx?_eq_none_iff.2 hn)];exact gf
theorem TG:ze Tryz.prog 248:=gfn Tryz.func248
theorem zfd {g:Nat} {ca:List AV} {p:Int→Bool} (xs:List Int) (hl:xs.length≤1000000000000) (hg:ze Tryz.prog g) (hca:ca.all (zB 3)=true) (hp: ∀x∈xs,APure Tryz.prog g ([int x]++ca) (.lit (.bool (p x))) []):
 APure Tryz.prog 177 [Zn xs, .fn (.func g) [] ca] (.lit (.bool (xs.any p))) []:=by
 refine ent Tryz.func177 Tryz.ntmps177 ⟨?_⟩;refine go ⟨?_⟩;refine x8 rfl rfl rfl TG (show (true && ((true && ca.all (zB 3)) && true))=true by rw [hca];rfl) rfl (args'':=[Zn xs, .fn (.func g) [] ca]) (tX xs hl hg (xC hca) hp) (.cons (.refl _) (.cons (.refl _) .nil)) ?_;refine go ⟨?_⟩;rw [vw p xs];exact fin
theorem zft:ze Tryz.prog 177:=gfn Tryz.func177
theorem zdR {g:Nat} {ca:List AV} {p:Zt→Bool} (xs:List Zt) (hl:xs.length≤1000000000000) (hg:ze Tryz.prog g) (hca:ca.all (zB 4)=true) (hp: ∀x∈xs,APure Tryz.prog g ([yg x]++ca) (.lit (.bool (p x))) []):
 APure Tryz.prog 239 [zg xs, .fn (.func g) [] ca] (int (QT p xs)) []:=by
 refine ent Tryz.func239 Tryz.ntmps239 ⟨?_⟩;refine go ⟨?_⟩;refine lp (fun i:{i:Nat // i≤xs.length∧ ∀x∈xs.take i,p x=false}=>[(8,int i.1)]) (fun _=>[]) (fun i=>xs.length - i.1) ⟨0,by simp⟩ ?_
 rintro ⟨i,hi,hn⟩
 refine go ⟨?_⟩;refine zj rfl (fun h=> ?_) (fun h=> ?_)
 ·have hlt:i<xs.length:=by omega
  have ex:xs.getD i za=xs[i]:=by simp [List.getD_eq_getElem?_getD,hlt]
  refine go ⟨?_⟩;refine x8 rfl rfl rfl hg rfl hca (hp xs[i] (List.getElem_mem _)) (.cons (.eq (congrArg yg ex)) .nil) ?_;refine go ⟨?_⟩;refine zj rfl (fun h=> ?_) (fun h=> ?_)
  ·have hf:xs.findIdx? p=some i:=List.findIdx?_eq_some_iff_getElem.2 ⟨hlt,h,fun j hj=>by simp [hn xs[j] (List.mem_take_iff_getElem.2 ⟨j,by omega,rfl⟩)]⟩
   rw [xJ hf];exact gf
  ·refine go ⟨?_⟩;refine je ⟨⟨i+1,by omega,fun x hx=> ?_⟩,by simp only;omega, ?_⟩
   ·rw [List.take_succ_eq_append_getElem hlt] at hx;rcases List.mem_append.1 hx with hx|hx
    ·exact hn x hx
    ·rw [List.mem_singleton.1 hx];simpa using h
   ·exact tel
 ·obtain rfl:i=xs.length:=by omega
  rw [List.take_length] at hn;rw [xK (List.findIdx?_eq_none_iff.2 hn)];exact gf
theorem zcw:ze Tryz.prog 239:=gfn Tryz.func239
theorem zj_ {g:Nat} {ca:List AV} {p:Zt→Bool} (xs:List Zt) (hl:xs.length≤1000000000000) (hg:ze Tryz.prog g) (hca:ca.all (zB 3)=true) (hp: ∀x∈xs,APure Tryz.prog g ([yg x]++ca) (.lit (.bool (p x))) []):
 APure Tryz.prog 170 [zg xs, .fn (.func g) [] ca] (.lit (.bool (xs.any p))) []:=by
 refine ent Tryz.func170 Tryz.ntmps170 ⟨?_⟩;refine go ⟨?_⟩;refine x8 rfl rfl rfl zcw (show (true && ((true && ca.all (zB 3)) && true))=true by rw [hca];rfl) rfl (args'':=[zg xs, .fn (.func g) [] ca]) (zdR xs hl hg (xC hca) hp) (.cons (.refl _) (.cons (.refl _) .nil)) ?_;refine go ⟨?_⟩;rw [vw p xs];exact fin
theorem zje:ze Tryz.prog 170:=gfn Tryz.func170
theorem zfJ {g:Nat} {ca:List AV} {p:YW→Bool} (xs:List YW) (hl:xs.length≤1000000000000) (hg:ze Tryz.prog g) (hca:ca.all (zB 4)=true) (hp: ∀x∈xs,APure Tryz.prog g ([zdC x]++ca) (.lit (.bool (p x))) []):
 APure Tryz.prog 119 [jX xs, .fn (.func g) [] ca] (int (QT p xs)) []:=by
 refine ent Tryz.func119 Tryz.ntmps119 ⟨?_⟩;refine go ⟨?_⟩;refine lp (fun i:{i:Nat // i≤xs.length∧ ∀x∈xs.take i,p x=false}=>[(8,int i.1)]) (fun _=>[]) (fun i=>xs.length - i.1) ⟨0,by simp⟩ ?_
 rintro ⟨i,hi,hn⟩
 refine go ⟨?_⟩;refine zj rfl (fun h=> ?_) (fun h=> ?_)
 ·have hlt:i<xs.length:=by omega
  have ex:xs.getD i ⟨0,[]⟩=xs[i]:=by simp [List.getD_eq_getElem?_getD,hlt]
  refine go ⟨?_⟩;refine x8 rfl rfl rfl hg rfl hca (hp xs[i] (List.getElem_mem _)) (.cons (.eq (congrArg zdC ex)) .nil) ?_;refine go ⟨?_⟩;refine zj rfl (fun h=> ?_) (fun h=> ?_)
  ·have hf:xs.findIdx? p=some i:=List.findIdx?_eq_some_iff_getElem.2 ⟨hlt,h,fun j hj=>by simp [hn xs[j] (List.mem_take_iff_getElem.2 ⟨j,by omega,rfl⟩)]⟩
   rw [xJ hf];exact gf
  ·refine go ⟨?_⟩;refine je ⟨⟨i+1,by omega,fun x hx=> ?_⟩,by simp only;omega, ?_⟩
   ·rw [List.take_succ_eq_append_getElem hlt] at hx;rcases List.mem_append.1 hx with hx|hx
    ·exact hn x hx
    ·rw [List.mem_singleton.1 hx];simpa using h
   ·exact tel
 ·obtain rfl:i=xs.length:=by omega
  rw [List.take_length] at hn;rw [xK (List.findIdx?_eq_none_iff.2 hn)];exact gf
theorem zcU:ze Tryz.prog 119:=gfn Tryz.func119
theorem zkJ (xs:List Int) (x:Int) (hl:xs.length≤1000000000000):APure Tryz.prog 292 [Zn xs,int x] (int (QT (fun y=>decide (x=y)) xs)) []:=by
 refine ent Tryz.func292 Tryz.ntmps292 ⟨?_⟩;refine go ⟨?_⟩;refine lp (fun i:{i:Nat // i≤xs.length∧ ∀y∈xs.take i,x≠y}=>[(8,int i.1)]) (fun _=>[]) (fun i=>xs.length - i.1) ⟨0,by simp⟩ ?_
 rintro ⟨i,hi,hn⟩
 refine go ⟨?_⟩;refine zj rfl (fun h=> ?_) (fun h=> ?_)
 ·have hlt:i<xs.length:=by omega
  have ex:xs.getD i 0=xs[i]:=by simp [List.getD_eq_getElem?_getD,hlt]
  refine go ⟨?_⟩;refine zj rfl (fun h=> ?_) (fun h=> ?_)
  ·have h':x=xs[i]:=by rw [←ex];simpa using h
   have hf:xs.findIdx? (fun y=>decide (x=y))=some i:=List.findIdx?_eq_some_iff_getElem.2 ⟨hlt,by simpa using h',fun j hj=>by simpa using hn xs[j] (List.mem_take_iff_getElem.2 ⟨j,by omega,rfl⟩)⟩
   rw [xJ hf];exact gf
  ·refine go ⟨?_⟩;refine je ⟨⟨i+1,by omega,fun y hy=> ?_⟩,by simp only;omega, ?_⟩
   ·rw [zT hlt] at hy;rcases List.mem_append.1 hy with hy|hy
    ·exact hn y hy
    ·rw [List.mem_singleton.1 hy];simpa using h
   ·exact tel
 ·obtain rfl:i=xs.length:=by omega
  rw [List.take_length] at hn;rw [xK (List.findIdx?_eq_none_iff.2 fun y hy=>by simpa using hn y hy)];exact gf
theorem zli:ze Tryz.prog 292:=gfn Tryz.func292
theorem Qr (xs:List Int) (x:Int) (hl:xs.length≤1000000000000):APure Tryz.prog 250 [Zn xs,int x] (.lit (.bool (xs.contains x))) []:=by
 refine ent Tryz.func250 Tryz.ntmps250 ⟨?_⟩;refine gc zli (zkJ xs x hl) ⟨?_⟩
 have:xs.any (fun y=>decide (x=y))=xs.contains x:=by
  rw [Bool.eq_iff_iff,List.any_eq_true,List.contains_iff_mem];exact ⟨fun ⟨y,h1,h2⟩=>of_decide_eq_true h2▸h1,fun h=>⟨x,h,decide_eq_true rfl⟩⟩
 rw [←this,←vw];exact gf
theorem q8:ze Tryz.prog 250:=gfn Tryz.func250
theorem kV (a b:List Int) (ha:a.length≤140737488355328∨b.length≤140737488355328):APure Tryz.prog 231 [Zn a,Zn b] (.lit (.bool (decide (a=b)))) []:=by
 refine ent Tryz.func231 Tryz.ntmps231 ⟨?_⟩;refine go ⟨?_⟩;by_cases hlen:a.length=b.length
 ·replace ha:a.length≤140737488355328:=by omega
  have h1:((a.length:Int) !=(b.length:Int))=false:=by simp [hlen]
  rw [h1];refine go ⟨?_⟩;refine lp (fun i:{i:Nat // i≤a.length∧a.take i=b.take i}=>[(13,int i.1)]) (fun _=>[]) (fun i=>a.length - i.1) ⟨0,by simp⟩ ?_
  rintro ⟨i,hi,hn⟩
  refine go ⟨?_⟩;refine zj rfl (fun h=> ?_) (fun h=> ?_)
  ·have hlt:i<a.length:=by omega
   have hlt':i<b.length:=by omega
   refine go ⟨?_⟩;have ea:a.getD i 0=a[i]:=by simp [List.getD_eq_getElem?_getD,hlt]
   have eb:b.getD i 0=b[i]:=by simp [List.getD_eq_getElem?_getD,hlt']
   rw [ea,eb];by_cases h2:a[i]=b[i]
   ·have h3:(a[i] !=b[i])=false:=by simp [h2]
    rw [h3];refine go ⟨?_⟩;refine je ⟨⟨i+1,by omega,by rw [List.take_succ_eq_append_getElem hlt,List.take_succ_eq_append_getElem hlt',hn,h2]⟩,by simp only;omega, ?_⟩;exact tel
   ·have h3:(a[i] !=b[i])=true:=by simp [h2]
    have h4:a≠b:=fun h=>h2 (by subst h;rfl)
    rw [h3,decide_eq_false h4];exact gf
  ·obtain rfl:i=a.length:=by omega
   have hab:a=b:=by rw [List.take_length] at hn;rw [hn,hlen,List.take_length]
   rw [decide_eq_true hab];exact gf
 ·have h1:((a.length:Int) !=(b.length:Int))=true:=by simp;omega
  rw [h1,decide_eq_false (fun h=>hlen (by rw [h]))];exact gf
theorem Ky:ze Tryz.prog 231:=gfn Tryz.func231
theorem Ta (b:List Int) (hb:b.length≤100000000000):APure Tryz.prog 168 [Zn b] (.row 0 1 0 b.length none) [yC b]:=by
 refine ent Tryz.func168 Tryz.ntmps168 ⟨?_⟩;refine mc0 ⟨?_⟩;refine jz hT rfl rfl (.inl rfl) rfl rfl (fun c hc=> ?_);refine ms13 ⟨?_⟩;refine ZJ rfl (fun h=> ?_) (fun h=> ?_)
 ·skip
  refine mc0 ⟨?_⟩;have h0:=hc h;refine Z9 rfl trivial [.row 0 1 0 b.length none] [yC b] ?_ ⟨rfl,rfl⟩;refine (Tells.nilRow (t:=0) 3 1 rfl rfl).trans ?_;exact Tells.le (.cons (.row h0.symm) .nil) (.cons (.of (by omega) (fun h=>h) fun k hk=>by omega) .nil)
 ·skip
  refine mc0 ⟨?_⟩;refine ZT hT rfl rfl rfl (by simp;omega) ?_;refine ms13 ⟨?_⟩;refine Z9 rfl trivial [.row 0 1 0 b.length none] [yC b] ?_ ⟨rfl,rfl⟩;exact Tells.le (.cons (.row (by omega)) .nil) (.cons (.of (by omega) (fun _=>rfl) fun k hk=>by rw [Ym (Nat.zero_le _)];rfl) .nil)
theorem TW:ze Tryz.prog 168:=gfn Tryz.func168
theorem jN (b:List Zt) (hb:b.length≤100000000000):APure Tryz.prog 166 [zg b] (.row 0 8 0 b.length none) [W9 b]:=by
 refine ent Tryz.func166 Tryz.ntmps166 ⟨?_⟩;refine mc0 ⟨?_⟩;refine jz hT rfl rfl (.inl rfl) rfl rfl (fun c hc=> ?_);refine ms13 ⟨?_⟩;refine ZJ rfl (fun h=> ?_) (fun h=> ?_)
 ·skip
  refine mc0 ⟨?_⟩;have h0:=hc h;refine Z9 rfl trivial [.row 0 8 0 b.length none] [W9 b] ?_ ⟨rfl,rfl⟩;refine (Tells.nilRow (t:=0) 85 8 rfl rfl).trans ?_;exact Tells.le (.cons (.row h0.symm) .nil) (.cons (.of (by omega) (fun h=>h) fun k hk=>by omega) .nil)
 ·skip
  refine mc0 ⟨?_⟩;refine ZT hT rfl rfl rfl (by simp;omega) ?_;refine ms13 ⟨?_⟩;refine Z9 rfl trivial [.row 0 8 0 b.length none] [W9 b] ?_ ⟨rfl,rfl⟩;exact Tells.le (.cons (.row (by omega)) .nil) (.cons (.of (by omega) (fun _=>rfl) fun k hk=>by rw [Ym (Nat.zero_le _)];rfl) .nil)
theorem VQ:ze Tryz.prog 166:=gfn Tryz.func166
abbrev Tf (l:List YW):zb:={T:=56,sz:=2,n:=l.length,f:=fE ZH l}
theorem t6 (b:List YW) (hb:b.length≤100000000000):APure Tryz.prog 62 [jX b] (.row 0 2 0 b.length none) [Tf b]:=by
 refine ent Tryz.func62 Tryz.ntmps62 ⟨?_⟩;refine mc0 ⟨?_⟩;refine jz hT rfl rfl (.inl rfl) rfl rfl (fun c hc=> ?_);refine ms13 ⟨?_⟩;refine ZJ rfl (fun h=> ?_) (fun h=> ?_)
 ·skip
  refine mc0 ⟨?_⟩;have h0:=hc h;refine Z9 rfl trivial [.row 0 2 0 b.length none] [Tf b] ?_ ⟨rfl,rfl⟩;refine (Tells.nilRow (t:=0) 56 2 rfl rfl).trans ?_;exact Tells.le (.cons (.row h0.symm) .nil) (.cons (.of (by omega) (fun h=>h) fun k hk=>by omega) .nil)
 ·skip
  refine mc0 ⟨?_⟩;refine ZT hT rfl rfl rfl (by simp;omega) ?_;refine ms13 ⟨?_⟩;refine Z9 rfl trivial [.row 0 2 0 b.length none] [Tf b] ?_ ⟨rfl,rfl⟩;exact Tells.le (.cons (.row (by omega)) .nil) (.cons (.of (by omega) (fun _=>rfl) fun k hk=>by rw [Ym (Nat.zero_le _)];rfl) .nil)
theorem TQ:ze Tryz.prog 62:=gfn Tryz.func62
abbrev asO (l:List Int) (i:Nat):List zb:=[{T:=36,sz:=1,n:=1,f:=fun _=>[.row 1 1 0 i none],pure:=false,box:=true},{T:=3,sz:=1,n:=i,f:=yP (l.take i)}]
theorem zeF {gf:Nat} {lb:List AV} {l:List Int} (hg:ze Tryz.prog gf) (hlb:lb.all (zB 4)=true) (hit:QF Tryz.prog gf lb (fun i=>[int (l.getD i 0)]) l.length) (hl:l.length≤1000000000000):
 APure Tryz.prog 180 [.lit (.slice none 0 0), .fn (.func gf) [] lb] (.row 0 1 0 l.length none) [yC l]:=by
 refine ent Tryz.func180 Tryz.ntmps180 ⟨?_⟩;refine go ⟨?_⟩;refine zr (Tells.nilCell 0 3 1 rfl rfl rfl rfl) ?_;refine zr (Tells.le (H':=asO l 0) (.refl _) (.cons (.refl _) (.cons (.of (Nat.le_refl _) (fun h=>h) fun k hk=>by simp at hk) .nil))) ?_;refine X7 (we rfl hlb) rfl rfl hg hit (fun i hi=>rfl) (asO l) rfl (fun i hi L=> ?_) ?_
 ·have hs:=zT hi;have hl':(l.take i).length=i:=List.length_take_of_le (by omega)
  refine mc8 ⟨?_⟩;refine go ⟨?_⟩;refine app (yP (l.take (i+1))) hT rfl rfl rfl rfl (fun k hk=> ?_) ?_
  ·rw [hs];exact ZZ (e:=wA) hl'.symm rfl hk
  refine ng ⟨?_⟩;refine qL _ ((Tells.sel [0,1] rfl rfl).trans (Tells.le (H':=asO l (i+1)) (.refl _) ?_)) rfl ?_ rfl
  ·exact .cons (.of (Nat.le_refl _) (fun h=>h) fun _ _=>rfl) (.cons (.of (Nat.le_refl _) (fun h=>h) fun _ _=>rfl) .nil)
  ·repeat (first|exact .nil|refine .cons (.refl _) ?_)
 ·skip
  refine mc8 ⟨?_⟩;refine go ⟨?_⟩;have e:l.take l.length=l:=List.take_length
  simp only [asO,e];exact fin
theorem tb:ze Tryz.prog 180:=gfn Tryz.func180
theorem U4 {gf:Nat} {lb:List AV} {l:List Int} (hg:ze Tryz.prog gf) (hlb:lb.all (zB 3)=true) (hit:QF Tryz.prog gf lb (fun i=>[int (l.getD i 0)]) l.length) (hl:l.length≤1000000000000):
 APure Tryz.prog 121 [.fn (.func gf) [] lb] (.row 0 1 0 l.length none) [yC l]:=by
 refine ent Tryz.func121 Tryz.ntmps121 ⟨?_⟩;refine go ⟨?_⟩;refine x8 rfl rfl rfl tb (show (true && ((true && lb.all (zB 3)) && true))=true by rw [hlb];rfl) rfl (args'':=[.lit (.slice none 0 0), .fn (.func gf) [] lb]) (zeF hg (xC hlb) hit hl) (.cons (.refl _) (.cons (.refl _) .nil)) ?_;refine ng ⟨?_⟩;exact fin
theorem UY:ze Tryz.prog 121:=gfn Tryz.func121
theorem zed (l:List Int):APure Tryz.prog 238 [Zn l] (.fn (.func 283) [] [.ip [Zn l]]) []:=by
 refine ent Tryz.func238 Tryz.ntmps238 ⟨?_⟩;refine go ⟨?_⟩;refine uM rfl trivial ?_;refine (Tells.thaw (t:=0) rfl rfl (by refine ⟨trivial,⟨Nat.zero_lt_one,Nat.zero_le _⟩,trivial⟩)).trans ((Tells.sel [] rfl rfl).trans (Tells.le ?_ .nil));exact .cons (.refl _) .nil
theorem zc9:ze Tryz.prog 238:=gfn Tryz.func238
theorem tc (l:List Int) (hl:l.length≤1000000000000):QF Tryz.prog 283 [.ip [Zn l]] (fun i=>[int (l.getD i 0)]) l.length:=by
 refine Qe hT Tryz.func283 rfl rfl fun L=> ?_
 simp only [Tryz.ntmps283,List.length_cons,List.length_nil,Nat.reduceAdd,Nat.reduceSub,List.replicate,List.cons_append,List.nil_append];refine go ⟨?_⟩;refine lpy (fun i:{i:Nat // i≤l.length}=>[(7,int i.1)]) (fun _=>[]) (fun i=>⟨0,i.1,false,some (L,fun i=>[int (l.getD i 0)],l.length),true⟩) (fun i=>l.length - i.1) ⟨0,Nat.zero_le _⟩ ?_
 rintro ⟨i,hi⟩
 refine go ⟨?_⟩;by_cases hlt:i<l.length
 ·refine go ⟨?_⟩;refine yld rfl hlt (uJ (.refl _)) fun t=> ?_
  cases t
  ·refine go ⟨?_⟩;first|exact (its rfl).1|exact (its rfl).2
  ·refine go ⟨?_⟩;refine je ⟨⟨i+1,hlt⟩,by simp only;omega, ?_⟩;exact tel
 ·obtain rfl:i=l.length:=by omega
  refine go ⟨?_⟩;first|exact itn fun _=>rfl|exact itr fun _=>rfl
theorem zbt:ze Tryz.prog 283:=gfn Tryz.func283
end
end Go.Proofs.YtgdmkpikkfakdaaGreatDoor
