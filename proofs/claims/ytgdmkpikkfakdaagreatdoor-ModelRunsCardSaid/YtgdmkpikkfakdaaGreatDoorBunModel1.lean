/- The words of memory that this seat's walks share: kinds of data, slices that read as lists, rows of the call's own. No program in sight. Words of thirty-two bits: what the model reckons, as UInt32. Layer 3, plain: sixty-four octets mixed into eight words. The tables of the packages that a walk relies on. The data of a walk, without memory: values as they read (AV), how they stand for the machine's values (RV), memory of one's own (AObj, HRel). No program in sight. Types as a walk sees them: a table, checked against the program's own; loads and values by type. Operations that write nothing, as  -/
import Derived.WalkKit
import Derived.WalkSpells
import Derived.WalkLawsBesides
import Derived.Below
import Derived.Maps.AppendAt
import Derived.Deep.Draws
import Derived.Deep.AppendLies
import Derived.RegionTactic
import Derived.OwnWalk
import Derived.Lib.Hide
import Derived.Laws.BitsAllLaws
import Derived.Laws.BitsLemmas
import Derived.Laws.IdiomStrings
import Derived.Laws.BytesArg
import Derived.Lib.TrailingZeros
import Derived.Deep.MidRow
import Derived.ControlIn
import Derived.CallsIn
import Derived.Laws.StructEq
import Derived.TacticsIn
import Derived.RangeFuncSeq
import Derived.RangeFuncLeaves
import Derived.RangeFuncRecord
import Derived.RangeFuncOwn
namespace Go.Proofs.YtgdmkpikkfakdaaGreatDoor
open Go.RowKit
set_option maxRecDepth 100000
set_option linter.unusedVariables false
set_option linter.unusedSimpArgs false
set_option linter.unusedSectionVars false
structure Hold (G : Prop) : Prop where
 out : G
section
theorem zdm {β:Type} (c r:List β) (m:Nat):(c++r).drop (c.length+m)=r.drop m:=by
 rw [List.drop_append,List.drop_eq_nil_of_le (Nat.le_add_right _ _),List.nil_append,Nat.add_sub_cancel_left]
theorem Xo {k:IntKind} {a b:Int} (h:a=b):Ending.returned (.int k a)= .returned (.int k b):=by rw [h]
theorem Kb (a:Addr) (n:Nat):(a.add n).block=a.block:=by unfold Addr.add;split <;>rfl
theorem zfz (a:Addr) (i j:Nat):(a.add i).add j=a.add (i+j):=by
 unfold Addr.add;by_cases hi:i=0 <;>by_cases hj:j=0 <;>simp [hi,hj,Nat.add_assoc]
def zdZ (O:Nat→Prop) (w w':World):Prop:= ∀k,k<w.heap.size→ ¬O k→w'.heap[k]?=w.heap[k]?
structure Kd (α:Type) where
 sz:Nat
 rel:World→(Nat→Prop)→α→List Value→Prop
 len: ∀{w O x cs},rel w O x cs→cs.length=sz
 one: ∀{w O x cs},rel w O x cs→ ∀u∈cs,u.oneCell'=true
 anti: ∀{w O O' x cs},(∀k,O' k→O k)→rel w O x cs→rel w O' x cs
 more: ∀{w O x cs},rel w O x cs→rel w (fun k=>O k∨w.heap.size≤k) x cs
 keep: ∀{w w' O x cs},zdZ O w w'→rel w O x cs→rel w' O x cs
def Reps {α:Type} (d:Kd α) (w:World) (O:Nat→Prop):List α→List Value→Prop
 |[],cs=>cs=[]
 |x::xs,cs=> ∃c r,cs=c++r∧d.rel w O x c∧Reps d w O xs r
section
variable {α:Type} {d:Kd α} {w w':World} {O O':Nat→Prop} {xs ys:List α} {cs ds:List Value}
theorem Reps.imp_ {w w':World} {O O':Nat→Prop} (hf: ∀x c,d.rel w O x c→d.rel w' O' x c): ∀{xs:List α} {cs:List Value},Reps d w O xs cs→Reps d w' O' xs cs
 |[],_,h=>h
 |_::_,_,⟨c,r,e,h,hr⟩=>⟨c,r,e,hf _ _ h,Reps.imp_ hf hr⟩
theorem Reps.len: ∀{xs:List α} {cs:List Value},Reps d w O xs cs→cs.length=xs.length*d.sz
 |[],cs,h=>by rw [show cs=[] from h];simp
 |x::xs,cs,⟨c,r,e,h,hr⟩=>by rw [e,List.length_append,d.len h,hr.len,List.length_cons,Nat.add_mul];omega
theorem Reps.anti (h:Reps d w O xs cs) (hO: ∀k,O' k→O k):Reps d w O' xs cs:=h.imp_ fun _ _=>d.anti hO
theorem Reps.more (h:Reps d w O xs cs):Reps d w (fun k=>O k∨w.heap.size≤k) xs cs:=h.imp_ fun _ _=>d.more
theorem Reps.keep (h:Reps d w O xs cs) (hk:zdZ O w w'):Reps d w' O xs cs:=h.imp_ fun _ _=>d.keep hk
theorem Reps.drop: ∀{xs:List α} {cs:List Value} (k:Nat),Reps d w O xs cs→Reps d w O (xs.drop k) (cs.drop (k*d.sz))
 |xs,cs,0,h=>by simpa using h
 |[],cs,k+1,h=>by rw [show cs=[] from h];exact (List.drop_nil)
 |x::xs,cs,k+1,⟨c,r,e,h,hr⟩=>by
  have hc:=d.len h;rw [e,List.drop_succ_cons,show (k+1)*d.sz=c.length+k*d.sz by rw [hc,Nat.add_mul];omega,zdm];exact hr.drop k
theorem Reps.at_ {k:Nat} (h:Reps d w O xs cs) (hk:k<xs.length):d.rel w O xs[k] ((cs.drop (k*d.sz)).take d.sz):=by
 have h1:=h.drop k;rw [List.drop_eq_getElem_cons hk] at h1;obtain ⟨c,r,e,h2,_⟩:=h1;rw [e,List.take_append,List.take_of_length_le (by have:=d.len h2;omega),show d.sz - c.length=0 by have:=d.len h2;omega];simpa using h2
end
def Sl {α:Type} (d:Kd α) (w:World) (O:Nat→Prop) (v:Value) (xs:List α):Prop:=
 ∃(A:Option Addr) (c:Nat),v= .slice A xs.length c∧xs.length≤c∧c≤maxLen∧
  (xs≠[]→ ∃(a:Addr) (cs:List Value),A=some a∧ ¬O a.block∧Reps d w O xs cs∧ ∀j u,cs[j]?=some u→w.cell? (a.add j)=some u)
section
variable {α:Type} {d:Kd α} {w w':World} {O O':Nat→Prop} {v:Value} {xs:List α}
theorem Sl.nil_ (d:Kd α) (w:World) (O:Nat→Prop):Sl d w O (.slice none 0 0) []:=⟨none,0,rfl,Nat.le_refl _,Nat.zero_le _,fun h=>absurd rfl h⟩
theorem Sl.anti (h:Sl d w O v xs) (hO: ∀k,O' k→O k):Sl d w O' v xs:=by
 obtain ⟨A,c,e,hl,hc,h⟩:=h;refine ⟨A,c,e,hl,hc,fun hx=> ?_⟩;obtain ⟨a,cs,ha,hn,hr,hcell⟩:=h hx;exact ⟨a,cs,ha,fun ho=>hn (hO _ ho),hr.anti hO,hcell⟩
theorem Sl.more (hs:0<d.sz) (h:Sl d w O v xs):Sl d w (fun k=>O k∨w.heap.size≤k) v xs:=by
 obtain ⟨A,c,e,hl,hc,h⟩:=h;refine ⟨A,c,e,hl,hc,fun hx=> ?_⟩;obtain ⟨a,cs,ha,hn,hr,hcell⟩:=h hx;refine ⟨a,cs,ha, ?_,hr.more,hcell⟩
 have hlen:0<cs.length:=by
  rw [hr.len];exact Nat.mul_pos (List.length_pos_iff.2 hx) hs
 have:=World.block_lt_of_cell? w _ (hcell 0 _ (List.getElem?_eq_getElem hlen))
 rw [Kb] at this
 rintro (ho|ho)
 ·exact hn ho
 ·omega
theorem Sl.keep (hs:0<d.sz) (h:Sl d w O v xs) (hk:zdZ O w w'):Sl d w' O v xs:=by
 obtain ⟨A,c,e,hl,hc,h⟩:=h;refine ⟨A,c,e,hl,hc,fun hx=> ?_⟩;obtain ⟨a,cs,ha,hn,hr,hcell⟩:=h hx;refine ⟨a,cs,ha,hn,hr.keep hk,fun j u hu=> ?_⟩;have h1:=hcell j u hu;have hlt:=World.block_lt_of_cell? w _ h1;rw [World.cell?_of_block (w:=w) (hk _ hlt (by rw [Kb];exact hn))];exact h1
theorem Sl.val (h:Sl d w O v xs): ∃A c,v= .slice A xs.length c∧xs.length≤c∧c≤maxLen:=by
 obtain ⟨A,c,e,hl,hc,_⟩:=h;exact ⟨A,c,e,hl,hc⟩
theorem Sl.len_ (h:Sl d w O v xs):xs.length≤maxLen:=by
 obtain ⟨A,c,e,hl,hc,_⟩:=h;omega
theorem Sl.at_ {A:Option Addr} {n c k:Nat} (h:Sl d w O (.slice A n c) xs) (hk:k<xs.length):
 ∃(a:Addr) (cs:List Value),A=some a∧ ¬O a.block∧d.rel w O xs[k] cs∧ ∀j u,cs[j]?=some u→w.cell? (a.add (k*d.sz+j))=some u:=by
 obtain ⟨A',c',e,hl,hc,h⟩:=h;injection e with e1 e2 e3
 subst e1;obtain ⟨a,cs,ha,hn,hr,hcell⟩:=h (by rintro rfl;simp at hk);refine ⟨a,_,ha,hn,hr.at_ hk,fun j u hu=>hcell _ u ?_⟩;rw [List.getElem?_take] at hu;split at hu
 ·rw [List.getElem?_drop] at hu;exact hu
 ·cases hu
end
def Kd.sl {α:Type} (d:Kd α) (hs:0<d.sz):Kd (List α) where
 sz:=1
 rel:=fun w O xs cs=> ∃v,cs=[v]∧Sl d w O v xs
 len:=by rintro w O x cs ⟨v,rfl,_⟩;rfl
 one:=by
  rintro w O x cs ⟨v,rfl,A,c,rfl,_⟩ u hu
  rw [List.mem_singleton.1 hu];rfl
 anti:=by rintro w O O' x cs hO ⟨v,rfl,h⟩;exact ⟨v,rfl,h.anti hO⟩
 more:=by rintro w O x cs ⟨v,rfl,h⟩;exact ⟨v,rfl,h.more hs⟩
 keep:=by rintro w w' O x cs hk ⟨v,rfl,h⟩;exact ⟨v,rfl,h.keep hs hk⟩
def Kd.cell {α:Type} (enc:α→Value) (h1: ∀x,(enc x).oneCell'=true):Kd α where
 sz:=1
 rel:=fun _ _ x cs=>cs=[enc x]
 len:=by rintro w O x cs rfl;rfl
 one:=by rintro w O x cs rfl u hu;rw [List.mem_singleton.1 hu];exact h1 x
 anti:=fun _ h=>h
 more:=fun h=>h
 keep:=fun _ h=>h
def Kd.prod {α β:Type} (a:Kd α) (b:Kd β):Kd (α×β) where
 sz:=a.sz+b.sz
 rel:=fun w O x cs=> ∃c r,cs=c++r∧a.rel w O x.1 c∧b.rel w O x.2 r
 len:=by rintro w O x cs ⟨c,r,rfl,h,h'⟩;rw [List.length_append,a.len h,b.len h']
 one:=by
  rintro w O x cs ⟨c,r,rfl,h,h'⟩ u hu
  rcases List.mem_append.1 hu with hu|hu
  ·exact a.one h u hu
  ·exact b.one h' u hu
 anti:=by rintro w O O' x cs hO ⟨c,r,rfl,h,h'⟩;exact ⟨c,r,rfl,a.anti hO h,b.anti hO h'⟩
 more:=by rintro w O x cs ⟨c,r,rfl,h,h'⟩;exact ⟨c,r,rfl,a.more h,b.more h'⟩
 keep:=by rintro w w' O x cs hk ⟨c,r,rfl,h,h'⟩;exact ⟨c,r,rfl,a.keep hk h,b.keep hk h'⟩
def Kd.iso {α β:Type} (a:Kd α) (f:β→α):Kd β where
 sz:=a.sz
 rel:=fun w O x cs=>a.rel w O (f x) cs
 len:=a.len
 one:=a.one
 anti:=a.anti
 more:=a.more
 keep:=a.keep
def kU8:Kd UInt8:=Kd.cell (fun x=> .int .u8 x.toNat) (fun _=>rfl)
def K6:Kd Int:=Kd.cell (fun x=> .int .i64 x) (fun _=>rfl)
abbrev qh:Kd (List UInt8):=Kd.sl kU8 (by decide)
abbrev zih:Kd (List Int):=Kd.sl K6 (by decide)
section
variable {P:Program} (w:World)
theorem Qt (base:Nat) (t ty e:TypeId) (i:TypeInfo) (size:Nat) (ht:P.underlying t=some (.slice e)) (hi:P.info? e=some i)
 (v:Value) (n:Nat) (xs:List Value) (hown:w.ownsRow base e size v n xs) (A:Option Addr) (c:Nat):(Builtin.append_ #[t,t] ty #[v, .slice A 0 c]).run P w= .ok v w:=by
 rcases hown.2 with ⟨rfl,rfl⟩|⟨g,cap,cur,rfl,_,_,hnc,_⟩ <;>cases A <;>
  simp [Builtin.append_,run_underlying ht,sizeOf,typeInfo,hi,Builtin.lenOf,Builtin.firstCells,loadCells,loadCellsFrom, *,storeCells]
end
theorem Reps.u8_map {w:World} {O:Nat→Prop}: ∀{xs:List UInt8} {cs:List Value},Reps kU8 w O xs cs↔cs=xs.map fun x=> .int .u8 x.toNat
 |[],cs=>Iff.rfl
 |x::xs,cs=>⟨fun ⟨c,r,e,h,hr⟩=>by rw [e,show c=[.int .u8 x.toNat] from h,Reps.u8_map.1 hr];rfl,
   fun h=>⟨[.int .u8 x.toNat],_,h,rfl,Reps.u8_map.2 rfl⟩⟩
theorem Sl.cells_at {α:Type} {d:Kd α} (hs:0<d.sz) {w:World} {O:Nat→Prop} {A:Option Addr} {n c k:Nat} {xs:List α} (h:Sl d w O (.slice A n c) xs) (hk:k<xs.length):
 ∃(g o:Nat) (cs:List Value),A=some ⟨g,o,none⟩∧ ¬O g∧d.rel w O xs[k] cs∧ ∀j u,cs[j]?=some u→w.cell? ⟨g,o+(k*d.sz+j),none⟩=some u:=by
 obtain ⟨a,cs,rfl,hn,hr,hc⟩:=h.at_ hk;obtain ⟨a0,cs0,e0,_,hr0,hc0⟩:=h.at_ (k:=0) (by omega);injection e0 with e0
 subst e0
 have h0: ∃u,w.cell? a=some u:=by
  have:=hc0 0 _ (List.getElem?_eq_getElem (by rw [d.len hr0];exact hs))
  simp [Addr.add] at this
  exact ⟨_,this⟩
 obtain ⟨g,o,sp⟩:=a;obtain ⟨u0,h0⟩:=h0
 have hsp:sp=none:=by
  unfold World.cell? at h0;split at h0
  ·split at h0
   ·cases h0
   ·rename_i hh;simpa using hh
  ·cases h0
 subst hsp;refine ⟨g,o,cs,rfl,hn,hr,fun j u hu=> ?_⟩;have:=hc j u hu
 unfold Addr.add at this;split at this
 ·rename_i hz;rw [hz];exact this
 ·exact this
theorem Sl.byte {w:World} {O:Nat→Prop} {A:Option Addr} {n c k:Nat} {b:List UInt8} (h:Sl kU8 w O (.slice A n c) b) (hk:k<b.length):
 ∃g o,A=some ⟨g,o,none⟩∧w.cell? ⟨g,o+k,none⟩=some (.int .u8 b[k].toNat):=by
 obtain ⟨g,o,cs,ha,_,hr,hc⟩:=h.cells_at (by decide) hk;refine ⟨g,o,ha, ?_⟩;have:=hc 0 (.int .u8 b[k].toNat) (by rw [show cs=_ from hr];rfl)
 simpa [kU8,Kd.cell] using this
theorem UW (a:Nat) (ha:a<9223372036854775808):(BitVec.ofInt 64 (a:Int)).toNat=a:=by
 rw [BitVec.ofInt_natCast,BitVec.toNat_ofNat];exact Nat.mod_eq_of_lt (by omega)
theorem K5 (a b:Nat) (ha:a<9223372036854775808) (hb:b<9223372036854775808):bits .or .i64 (a:Int) (b:Int)=((a|||b:Nat):Int):=by
 have hx:a|||b<2^63:=Nat.or_lt_two_pow (by omega) (by omega)
 show IntKind.i64.wrap ((BitVec.ofInt 64 (a:Int)|||BitVec.ofInt 64 (b:Int)).toNat:Int)=_
 rw [BitVec.toNat_or,UW a ha,UW b hb,IntKind.wrap_i64];omega
theorem zhm (n:Int) (x:UInt8) (h0:0≤n) (h1:n≤1099511627776):bits .or .i64 (n*256) x.toNat=n*256+x.toNat:=by
 obtain ⟨m,rfl⟩:=Int.eq_ofNat_of_zero_le h0;have hx:=UInt8.toNat_lt x;rw [show ((m:Int)*256)=((m*256:Nat):Int) by omega,K5 _ _ (by omega) (by omega)];have:=Nat.shiftLeft_add_eq_or_of_lt (a:=m) (b:=x.toNat) (i:=8) (by omega)
 simp only [Nat.shiftLeft_eq,Nat.reducePow] at this;omega
def str (l:List UInt8):ByteArray:=⟨l.toArray⟩
theorem TD {P:Program} {src dst e:TypeId} (hs:P.underlying src=some (.slice e)) (he:P.underlying e=some (.int .u8)) (hd:P.underlying dst=some .string) {w:World} {O:Nat→Prop} {v:Value} {b:List UInt8} (h:Sl kU8 w O v b):
 (convert src dst v).run P w= .ok (.string (str b)) w:=by
 obtain ⟨A,c,rfl,hl,hc⟩:=h.val;cases A with
 |none=>
  have hb:b=[]:=by
   by_cases hb:b=[]
   ·exact hb
   ·obtain ⟨_,_,e,_⟩:=h.byte (k:=0) (by have:=List.length_pos_iff.2 hb;omega);cases e
  subst hb;rw [run_convert_bytes_nil w src e hs he _ _ dst hd];rfl
 |some a=>
  refine run_convert_bytes_back w src dst e a c b hs he hd fun j hj=> ?_
  obtain ⟨a',cs,ha,_,hr,hcell⟩:=h.at_ hj;injection ha with ha
  subst ha;have:=hcell 0 (.int .u8 b[j].toNat) (by rw [show cs=_ from hr];rfl)
  simpa [kU8,Kd.cell] using this
@[go_sem] theorem yO (l:List UInt8):(str l).toList=l:=by unfold str;simp
@[go_sem] theorem Xi (l:List UInt8):(str l).size=l.length:=by simp [str,ByteArray.size]
@[go_sem] theorem str_append (a b:List UInt8):str a++str b=str (a++b):=by apply ByteArray.ext;simp [str]
def wv (x:UInt32):Int:=(x.toNat:Int)
theorem zlf (x:UInt32):wv x<4294967296:=by have:=x.toNat_lt;unfold wv;omega
theorem pB (x:UInt32):0≤wv x:=by unfold wv;omega
theorem Ww (a:UInt32):BitVec.ofInt 32 (wv a)=a.toBitVec:=by
 unfold wv;rw [BitVec.ofInt_natCast];apply BitVec.eq_of_toNat_eq;have:=a.toNat_lt;simp
theorem Pf (a:UInt32):IntKind.u32.wrap (wv a)=wv a:=by
 have:=a.toNat_lt;rw [IntKind.wrap_u32];unfold wv;omega
@[go_sem] theorem Gf (a b:UInt32):bits .xor .u32 (wv a) (wv b)=wv (a^^^b):=by
 show IntKind.u32.wrap ((BitVec.ofInt 32 (wv a)^^^BitVec.ofInt 32 (wv b)).toNat:Int)=_
 rw [Ww,Ww];exact Pf (a^^^b)
@[go_sem] theorem zfO (a b:UInt32):bits .and .u32 (wv a) (wv b)=wv (a &&& b):=by
 show IntKind.u32.wrap ((BitVec.ofInt 32 (wv a) &&& BitVec.ofInt 32 (wv b)).toNat:Int)=_
 rw [Ww,Ww];exact Pf (a &&& b)
@[go_sem] theorem zfI (a b:UInt32):bits .or .u32 (wv a) (wv b)=wv (a|||b):=by
 show IntKind.u32.wrap ((BitVec.ofInt 32 (wv a)|||BitVec.ofInt 32 (wv b)).toNat:Int)=_
 rw [Ww,Ww];exact Pf (a|||b)
@[go_sem] theorem Vx (a b:UInt32):(wv a+wv b) % (4294967296:Int)=wv (a+b):=by
 unfold wv;rw [UInt32.toNat_add];omega
@[go_sem] theorem wv_sub (a b:UInt32):(wv a - wv b) % (4294967296:Int)=wv (a - b):=by
 have ha:=a.toNat_lt;have hb:=b.toNat_lt;unfold wv;rw [UInt32.toNat_sub];omega
@[go_sem] theorem wv_mod (a:UInt32):wv a % (4294967296:Int)=wv a:=by
 have:=zlf a;have:=pB a;omega
theorem Z3 (x n:UInt32) (k:Int) (hn:n.toNat<32) (hk:k=(2^n.toNat:Nat)):wv x / k=wv (x>>>n):=by
 unfold wv;rw [UInt32.toNat_shiftRight,Nat.mod_eq_of_lt hn,Nat.shiftRight_eq_div_pow,hk];simp
theorem Z5 (x n:UInt32) (k:Int) (hn:n.toNat<32) (hk:k=(2^n.toNat:Nat)):wv x*k % (4294967296:Int)=wv (x<<<n):=by
 unfold wv;rw [UInt32.toNat_shiftLeft,Nat.mod_eq_of_lt hn,Nat.shiftLeft_eq,hk];simp
@[go_sem] theorem wv_shr1 (x:UInt32):wv x / (2:Int)=wv (x>>>1):=Z3 x 1 _ (by decide) (by decide)
@[go_sem] theorem wv_shl1 (x:UInt32):wv x*(2:Int) % (4294967296:Int)=wv (x<<<1):=Z5 x 1 _ (by decide) (by decide)
@[go_sem] theorem wv_shr2 (x:UInt32):wv x / (4:Int)=wv (x>>>2):=Z3 x 2 _ (by decide) (by decide)
@[go_sem] theorem wv_shl2 (x:UInt32):wv x*(4:Int) % (4294967296:Int)=wv (x<<<2):=Z5 x 2 _ (by decide) (by decide)
@[go_sem] theorem wv_shr3 (x:UInt32):wv x / (8:Int)=wv (x>>>3):=Z3 x 3 _ (by decide) (by decide)
@[go_sem] theorem wv_shl3 (x:UInt32):wv x*(8:Int) % (4294967296:Int)=wv (x<<<3):=Z5 x 3 _ (by decide) (by decide)
@[go_sem] theorem wv_shr4 (x:UInt32):wv x / (16:Int)=wv (x>>>4):=Z3 x 4 _ (by decide) (by decide)
@[go_sem] theorem wv_shl4 (x:UInt32):wv x*(16:Int) % (4294967296:Int)=wv (x<<<4):=Z5 x 4 _ (by decide) (by decide)
@[go_sem] theorem wv_shr5 (x:UInt32):wv x / (32:Int)=wv (x>>>5):=Z3 x 5 _ (by decide) (by decide)
@[go_sem] theorem wv_shl5 (x:UInt32):wv x*(32:Int) % (4294967296:Int)=wv (x<<<5):=Z5 x 5 _ (by decide) (by decide)
@[go_sem] theorem wv_shr6 (x:UInt32):wv x / (64:Int)=wv (x>>>6):=Z3 x 6 _ (by decide) (by decide)
@[go_sem] theorem wv_shl6 (x:UInt32):wv x*(64:Int) % (4294967296:Int)=wv (x<<<6):=Z5 x 6 _ (by decide) (by decide)
@[go_sem] theorem wv_shr7 (x:UInt32):wv x / (128:Int)=wv (x>>>7):=Z3 x 7 _ (by decide) (by decide)
@[go_sem] theorem wv_shl7 (x:UInt32):wv x*(128:Int) % (4294967296:Int)=wv (x<<<7):=Z5 x 7 _ (by decide) (by decide)
@[go_sem] theorem wv_shr8 (x:UInt32):wv x / (256:Int)=wv (x>>>8):=Z3 x 8 _ (by decide) (by decide)
@[go_sem] theorem zgn (x:UInt32):wv x*(256:Int) % (4294967296:Int)=wv (x<<<8):=Z5 x 8 _ (by decide) (by decide)
@[go_sem] theorem wv_shr9 (x:UInt32):wv x / (512:Int)=wv (x>>>9):=Z3 x 9 _ (by decide) (by decide)
@[go_sem] theorem wv_shl9 (x:UInt32):wv x*(512:Int) % (4294967296:Int)=wv (x<<<9):=Z5 x 9 _ (by decide) (by decide)
@[go_sem] theorem wv_shr10 (x:UInt32):wv x / (1024:Int)=wv (x>>>10):=Z3 x 10 _ (by decide) (by decide)
@[go_sem] theorem wv_shl10 (x:UInt32):wv x*(1024:Int) % (4294967296:Int)=wv (x<<<10):=Z5 x 10 _ (by decide) (by decide)
@[go_sem] theorem wv_shr11 (x:UInt32):wv x / (2048:Int)=wv (x>>>11):=Z3 x 11 _ (by decide) (by decide)
@[go_sem] theorem wv_shl11 (x:UInt32):wv x*(2048:Int) % (4294967296:Int)=wv (x<<<11):=Z5 x 11 _ (by decide) (by decide)
@[go_sem] theorem wv_shr12 (x:UInt32):wv x / (4096:Int)=wv (x>>>12):=Z3 x 12 _ (by decide) (by decide)
@[go_sem] theorem wv_shl12 (x:UInt32):wv x*(4096:Int) % (4294967296:Int)=wv (x<<<12):=Z5 x 12 _ (by decide) (by decide)
@[go_sem] theorem wv_shr13 (x:UInt32):wv x / (8192:Int)=wv (x>>>13):=Z3 x 13 _ (by decide) (by decide)
@[go_sem] theorem wv_shl13 (x:UInt32):wv x*(8192:Int) % (4294967296:Int)=wv (x<<<13):=Z5 x 13 _ (by decide) (by decide)
@[go_sem] theorem wv_shr14 (x:UInt32):wv x / (16384:Int)=wv (x>>>14):=Z3 x 14 _ (by decide) (by decide)
@[go_sem] theorem wv_shl14 (x:UInt32):wv x*(16384:Int) % (4294967296:Int)=wv (x<<<14):=Z5 x 14 _ (by decide) (by decide)
@[go_sem] theorem wv_shr15 (x:UInt32):wv x / (32768:Int)=wv (x>>>15):=Z3 x 15 _ (by decide) (by decide)
@[go_sem] theorem wv_shl15 (x:UInt32):wv x*(32768:Int) % (4294967296:Int)=wv (x<<<15):=Z5 x 15 _ (by decide) (by decide)
@[go_sem] theorem wv_shr16 (x:UInt32):wv x / (65536:Int)=wv (x>>>16):=Z3 x 16 _ (by decide) (by decide)
@[go_sem] theorem zfs (x:UInt32):wv x*(65536:Int) % (4294967296:Int)=wv (x<<<16):=Z5 x 16 _ (by decide) (by decide)
@[go_sem] theorem wv_shr17 (x:UInt32):wv x / (131072:Int)=wv (x>>>17):=Z3 x 17 _ (by decide) (by decide)
@[go_sem] theorem wv_shl17 (x:UInt32):wv x*(131072:Int) % (4294967296:Int)=wv (x<<<17):=Z5 x 17 _ (by decide) (by decide)
@[go_sem] theorem wv_shr18 (x:UInt32):wv x / (262144:Int)=wv (x>>>18):=Z3 x 18 _ (by decide) (by decide)
@[go_sem] theorem wv_shl18 (x:UInt32):wv x*(262144:Int) % (4294967296:Int)=wv (x<<<18):=Z5 x 18 _ (by decide) (by decide)
@[go_sem] theorem wv_shr19 (x:UInt32):wv x / (524288:Int)=wv (x>>>19):=Z3 x 19 _ (by decide) (by decide)
@[go_sem] theorem wv_shl19 (x:UInt32):wv x*(524288:Int) % (4294967296:Int)=wv (x<<<19):=Z5 x 19 _ (by decide) (by decide)
@[go_sem] theorem wv_shr20 (x:UInt32):wv x / (1048576:Int)=wv (x>>>20):=Z3 x 20 _ (by decide) (by decide)
@[go_sem] theorem wv_shl20 (x:UInt32):wv x*(1048576:Int) % (4294967296:Int)=wv (x<<<20):=Z5 x 20 _ (by decide) (by decide)
@[go_sem] theorem wv_shr21 (x:UInt32):wv x / (2097152:Int)=wv (x>>>21):=Z3 x 21 _ (by decide) (by decide)
@[go_sem] theorem wv_shl21 (x:UInt32):wv x*(2097152:Int) % (4294967296:Int)=wv (x<<<21):=Z5 x 21 _ (by decide) (by decide)
@[go_sem] theorem wv_shr22 (x:UInt32):wv x / (4194304:Int)=wv (x>>>22):=Z3 x 22 _ (by decide) (by decide)
@[go_sem] theorem wv_shl22 (x:UInt32):wv x*(4194304:Int) % (4294967296:Int)=wv (x<<<22):=Z5 x 22 _ (by decide) (by decide)
@[go_sem] theorem wv_shr23 (x:UInt32):wv x / (8388608:Int)=wv (x>>>23):=Z3 x 23 _ (by decide) (by decide)
@[go_sem] theorem wv_shl23 (x:UInt32):wv x*(8388608:Int) % (4294967296:Int)=wv (x<<<23):=Z5 x 23 _ (by decide) (by decide)
@[go_sem] theorem wv_shr24 (x:UInt32):wv x / (16777216:Int)=wv (x>>>24):=Z3 x 24 _ (by decide) (by decide)
@[go_sem] theorem zcx (x:UInt32):wv x*(16777216:Int) % (4294967296:Int)=wv (x<<<24):=Z5 x 24 _ (by decide) (by decide)
@[go_sem] theorem wv_shr25 (x:UInt32):wv x / (33554432:Int)=wv (x>>>25):=Z3 x 25 _ (by decide) (by decide)
@[go_sem] theorem wv_shl25 (x:UInt32):wv x*(33554432:Int) % (4294967296:Int)=wv (x<<<25):=Z5 x 25 _ (by decide) (by decide)
@[go_sem] theorem wv_shr26 (x:UInt32):wv x / (67108864:Int)=wv (x>>>26):=Z3 x 26 _ (by decide) (by decide)
@[go_sem] theorem wv_shl26 (x:UInt32):wv x*(67108864:Int) % (4294967296:Int)=wv (x<<<26):=Z5 x 26 _ (by decide) (by decide)
@[go_sem] theorem wv_shr27 (x:UInt32):wv x / (134217728:Int)=wv (x>>>27):=Z3 x 27 _ (by decide) (by decide)
@[go_sem] theorem wv_shl27 (x:UInt32):wv x*(134217728:Int) % (4294967296:Int)=wv (x<<<27):=Z5 x 27 _ (by decide) (by decide)
@[go_sem] theorem wv_shr28 (x:UInt32):wv x / (268435456:Int)=wv (x>>>28):=Z3 x 28 _ (by decide) (by decide)
@[go_sem] theorem wv_shl28 (x:UInt32):wv x*(268435456:Int) % (4294967296:Int)=wv (x<<<28):=Z5 x 28 _ (by decide) (by decide)
@[go_sem] theorem wv_shr29 (x:UInt32):wv x / (536870912:Int)=wv (x>>>29):=Z3 x 29 _ (by decide) (by decide)
@[go_sem] theorem wv_shl29 (x:UInt32):wv x*(536870912:Int) % (4294967296:Int)=wv (x<<<29):=Z5 x 29 _ (by decide) (by decide)
@[go_sem] theorem wv_shr30 (x:UInt32):wv x / (1073741824:Int)=wv (x>>>30):=Z3 x 30 _ (by decide) (by decide)
@[go_sem] theorem wv_shl30 (x:UInt32):wv x*(1073741824:Int) % (4294967296:Int)=wv (x<<<30):=Z5 x 30 _ (by decide) (by decide)
@[go_sem] theorem wv_shr31 (x:UInt32):wv x / (2147483648:Int)=wv (x>>>31):=Z3 x 31 _ (by decide) (by decide)
@[go_sem] theorem wv_shl31 (x:UInt32):wv x*(2147483648:Int) % (4294967296:Int)=wv (x<<<31):=Z5 x 31 _ (by decide) (by decide)
@[go_sem] theorem wv_or8 (a:UInt32) (x:UInt8):bits .or .u32 (wv a) (x.toNat:Int)=wv (a|||x.toUInt32):=by
 have:(x.toNat:Int)=wv x.toUInt32:=by simp [wv]
 rw [this,zfI]
@[go_sem] theorem zlw (x:UInt8):(x.toNat:Int) % (4294967296:Int)=wv x.toUInt32:=by have:=x.toNat_lt;simp [wv];omega
def YH (x n:UInt32):UInt32:=(x>>>n)|||(x<<<(32 - n))
def u32s (l:List UInt32):Array Value:=(l.map fun x=>Value.int .u32 (wv x)).toArray
def b8s (l:List UInt8):Array Value:=(l.map fun x=>Value.int .u8 x.toNat).toArray
def sg0 (x:UInt32):UInt32:=YH x 7^^^YH x 18^^^(x>>>3)
def sg1 (x:UInt32):UInt32:=YH x 17^^^YH x 19^^^(x>>>10)
def bg0 (x:UInt32):UInt32:=YH x 2^^^YH x 13^^^YH x 22
def bg1 (x:UInt32):UInt32:=YH x 6^^^YH x 11^^^YH x 25
def PW (l:List UInt32) (t:Nat):UInt32:=l.getD (t - 16) 0+sg0 (l.getD (t - 15) 0)+l.getD (t - 7) 0+sg1 (l.getD (t - 2) 0)
def spr (l:List UInt32):Nat→List UInt32
 |0=>l
 |n+1=>(spr l n).set (16+n) (PW (spr l n) (16+n))
def beU (l:List UInt8):UInt32:=l.foldl (fun n x=>(n<<<8)|||x.toUInt32) 0
def pw (b:List UInt8) (i:Nat):List UInt32:=(List.range 64).map fun j=>beU (((b.take i).drop (4*j)).take 4)
def qj (b:List UInt8):List UInt32:=spr (pw b 64) 48
theorem W5 (l:List UInt32): ∀n,(spr l n).length=l.length
 |0=>rfl
 |n+1=>by rw [spr,List.length_set,W5 l n]
theorem WG (b:List UInt8) (i:Nat):(pw b i).length=64:=by simp [pw]
theorem zgV (b:List UInt8):pw b 0=List.replicate 64 0:=by
 unfold pw;simp [beU];rfl
theorem zg6 (b:List UInt8) (i:Nat) (h:i<b.length) (hi:i<64):pw b (i+1)=(pw b i).set (i / 4) (((pw b i)[i / 4]'(by rw [WG];omega)<<<8)|||b[i].toUInt32):=by
 have ht:b.take (i+1)=b.take i++[b[i]]:=List.take_succ_eq_append_getElem h
 have hl:(b.take i).length=i:=by rw [List.length_take];omega
 apply List.ext_getElem
 ·simp [pw]
 ·intro j h1 h2;rw [List.getElem_set];simp only [pw,List.getElem_map,List.getElem_range];rw [ht];split
  ·rename_i hj;subst hj;rw [List.drop_append_of_le_length (by omega),List.take_of_length_le (l:=_++_) (by simp;omega),List.take_of_length_le (l:=List.drop _ _) (by simp;omega)];unfold beU;rw [List.foldl_append];rfl
  ·rename_i hj;rcases Nat.lt_or_ge j (i / 4) with hlt|hge
   ·rw [List.drop_append_of_le_length (by omega),List.take_append_of_le_length (by rw [List.length_drop];omega)]
   ·have:i<4*j:=by omega
    rw [List.drop_eq_nil_of_le (by simp;omega),List.drop_eq_nil_of_le (by omega)]
structure BSt where
 a:UInt32
 b:UInt32
 c:UInt32
 d:UInt32
 e:UInt32
 f:UInt32
 g:UInt32
 z:UInt32
deriving DecidableEq
def chf (e f g:UInt32):UInt32:=g^^^(e &&& (f^^^g))
def maj (a b c:UInt32):UInt32:=((a &&& b)^^^(a &&& c))^^^(b &&& c)
def rp (s:BSt) (n w:UInt32):UInt32:=s.z+bg1 s.e+chf s.e s.f s.g+n+w
def rq (s:BSt):UInt32:=bg0 s.a+maj s.a s.b s.c
def rnd (s:BSt) (n w:UInt32):BSt:=⟨rp s n w+rq s,s.a,s.b,s.c,s.d+rp s n w,s.e,s.f,s.g⟩
def BSt.list (s:BSt):List UInt32:=[s.a,s.b,s.c,s.d,s.e,s.f,s.g,s.z]
def nums:List UInt32:=[1116352408,1899447441,3049323471,3921009573,961987163,1508970993,2453635748,2870763221,3624381080,310598401,607225278,1426881987,1925078388,2162078206,2614888103,3248222580,3835390401,4022224774,264347078,604807628,770255983,1249150122,1555081692,1996064986,2554220882,2821834349,2952996808,3210313671,3336571891,3584528711,113926993,338241895,666307205,773529912,1294757372,1396182291,1695183700,1986661051,2177026350,2456956037,2730485921,2820302411,3259730800,3345764771,3516065817,3600352804,4094571909,275423344,430227734,506948616,659060556,883997877,958139571,1322822218,1537002063,1747873779,1955562222,2024104815,2227730452,2361852424,2428436474,2756734187,3204031479,3329325298]
def Qc (b:List UInt8) (s:BSt):Nat→BSt
 |0=>s
 |t+1=>rnd (Qc b s t) (nums.getD t 0) ((qj b).getD t 0)
def uP (h:List UInt32):BSt:=⟨h.getD 0 0,h.getD 1 0,h.getD 2 0,h.getD 3 0,h.getD 4 0,h.getD 5 0,h.getD 6 0,h.getD 7 0⟩
def mix (h:List UInt32) (b:List UInt8):List UInt32:=List.zipWith (· + ·) h (Qc b (uP h) 64).list
def zaD:List (Nat×List Value):=[(2,nums.map fun x=> .int .u32 (wv x))
 ,(1,Lib.deBruijn64tab.map fun x:Nat=> .int .u8 (x:Int))
 ]
inductive AV where
 |junk
 |lit (x:Value)
 |agg (cs:List AV)
 |arr (sz n:Nat) (f:Nat→List AV)
 |tup (vs:List AV)
 |sl (sz n:Nat) (t:Bool) (f:Nat→List AV)
 |row (i sz off n:Nat) (cap:Option Nat)
 |ptr (i sz k o:Nat)
 |ip (cs:List AV)
 |fn (f:Fn) (first captured:List AV)
 |iface (t:TypeId) (v:AV)
abbrev Loc:=Option (Nat×Nat)
abbrev Mu:=Nat→Option Loc
def noMu:Mu:=fun _=>none
def upto (k:Nat) (μ:Mu):Mu:=fun i=>if i<k then μ i else none
theorem Po (k:Nat) (μ:Mu): ∀i l,upto k μ i=some l→μ i=some l:=fun i l h=>by
 unfold upto at h;split at h
 ·exact h
 ·cases h
theorem xd {k:Nat} {μ μ':Mu} (h: ∀i l,μ i=some l→μ' i=some l): ∀i l,upto k μ i=some l→upto k μ' i=some l:=fun i l hi=>by
 unfold upto at*;split at hi
 ·rename_i hlt;rw [if_pos hlt];exact h i l hi
 ·cases hi
theorem KF {k:Nat} {μ:Mu} (h: ∀i l,μ i=some l→i<k):upto k μ=μ:=by
 funext i
 unfold upto;split
 ·rfl
 ·rename_i hn;cases hm:μ i with
  |none=>rfl
  |some l=>exact (hn (h i l hm)).elim
def Ps:TypeId:=4000000000
inductive RV (O:Nat→Prop) (w:World):Mu→AV→Value→Prop
 |junk {μ} (v:Value):RV O w μ .junk v
 |lit {μ} (x:Value):RV O w μ (.lit x) x
 |agg {μ} {cs:List AV} {vs:List Value} (h1:cs.length=vs.length) (h: ∀(j:Nat) a v,cs[j]?=some a→vs[j]?=some v→RV O w μ a v):RV O w μ (.agg cs) (.agg vs.toArray)
 |arr {μ} {sz n:Nat} {f:Nat→List AV} {vs:List Value} (hone: ∀u∈vs,u.oneCell'=true) (h1:vs.length=n*sz) (h2: ∀k,k<n→(f k).length=sz)
  (h: ∀(k j:Nat) a v,k<n→(f k)[j]?=some a→vs[k*sz+j]?=some v→RV O w noMu a v):RV O w μ (.arr sz n f) (.agg vs.toArray)
 |tup {μ} {cs:List AV} {vs:List Value} (h1:cs.length=vs.length) (h: ∀(j:Nat) a v,cs[j]?=some a→vs[j]?=some v→RV O w μ a v):RV O w μ (.tup cs) (.tuple vs.toArray)
 |sl {μ} {sz n:Nat} {t:Bool} {f:Nat→List AV} {A:Option Addr} {c:Nat} {vs:List Value} (hone: ∀u∈vs,u.oneCell'=true) (hc:n≤c) (hm:c≤maxLen) (ht:t=true→c=n) (h1:vs.length=n*sz) (h2: ∀k,k<n→(f k).length=sz)
  (h: ∀(k j:Nat) a v,k<n→(f k)[j]?=some a→vs[k*sz+j]?=some v→RV O w noMu a v) (hz:0<sz)
  (hA:n≠0→ ∃g o,A=some ⟨g,o,none⟩∧ ¬O g∧ ∀j u,vs[j]?=some u→w.cell? ⟨g,o+j,none⟩=some u):RV O w μ (.sl sz n t f) (.slice A n c)
 |rowNil {μ:Mu} {i sz:Nat} {cap:Option Nat} (h:μ i=some none) (hc:cap=none∨cap=some 0):RV O w μ (.row i sz 0 0 cap) (.slice none 0 0)
 |row {μ:Mu} {i sz off n b m c:Nat} {cap:Option Nat} (h:μ i=some (some (b,m))) (hn:n≤c) (hc:off+c≤m) (hcap: ∀q,cap=some q→c=q) (hend:cap=none→off+c=m):RV O w μ (.row i sz off n cap) (.slice (some ⟨b,off*sz,none⟩) n c)
 |rowE {μ:Mu} {i sz off b m o:Nat} {cap:Option Nat} (h:μ i=some (some (b,m))) (hcap:cap=none∨cap=some 0) (hoff:off≠0):RV O w μ (.row i sz off 0 cap) (.slice (some ⟨b,o,none⟩) 0 0)
 |ptr {μ:Mu} {i sz k o b m:Nat} (h:μ i=some (some (b,m))):RV O w μ (.ptr i sz k o) (.pointer (some ⟨b,k*sz+o,none⟩))
 |ip {μ} {cs:List AV} {g o:Nat} {vs:List Value} (h1:cs.length=vs.length) (h: ∀(j:Nat) a v,cs[j]?=some a→vs[j]?=some v→RV O w noMu a v) (hg: ¬O g) (hl:g<w.heap.size)
  (hA: ∀j u,vs[j]?=some u→w.cell? ⟨g,o+j,none⟩=some u):RV O w μ (.ip cs) (.pointer (some ⟨g,o,none⟩))
 |fn {μ} {f:Fn} {cs ds:List AV} {vs us:List Value} (h1:cs.length=vs.length) (h: ∀(j:Nat) a v,cs[j]?=some a→vs[j]?=some v→RV O w μ a v) (h2:ds.length=us.length)
  (h': ∀(j:Nat) a v,ds[j]?=some a→us[j]?=some v→RV O w μ a v):RV O w μ (.fn f cs ds) (.func f vs.toArray us.toArray)
 |iface {μ} {t:TypeId} {a:AV} {v:Value} (ht:Nat.beq t Ps=false) (h:RV O w μ a v):RV O w μ (.iface t a) (.iface t v)
 |mapv {μ} {a:AV} {b:Nat} (h:RV O w μ a (.pointer (some ⟨b,0,none⟩))):RV O w μ (.iface Ps a) (.map (some b))
def RVs (O:Nat→Prop) (w:World) (μ:Mu) (cs:List AV) (vs:List Value):Prop:=cs.length=vs.length∧ ∀(j:Nat) a v,cs[j]?=some a→vs[j]?=some v→RV O w μ a v
section
variable {O O':Nat→Prop} {w w':World}
theorem RV.monoC (hO: ∀b,b<w.heap.size→O' b→O b) (hs:w.heap.size≤w'.heap.size) (hw: ∀b,b<w.heap.size→ ¬O b→ ∀o u,w.cell? ⟨b,o,none⟩=some u→w'.cell? ⟨b,o,none⟩=some u) {μ:Mu} {a:AV} {v:Value} (h:RV O w μ a v):
 ∀μ':Mu,(∀i l,μ i=some l→μ' i=some l)→RV O' w' μ' a v:=by
 have cell: ∀g o u,¬O g→w.cell? ⟨g,o,none⟩=some u→ ¬O' g∧w'.cell? ⟨g,o,none⟩=some u:=by
  intro g o u hg hc;have hlt:=World.block_lt_of_cell? w _ hc;exact ⟨fun h=>hg (hO g hlt h),hw g hlt hg o u hc⟩
 induction h with
 |junk v=>exact fun _ _=> .junk v
 |lit x=>exact fun _ _=> .lit x
 |agg h1 h ih=>exact fun μ' hμ=> .agg h1 fun j a v ha hv=>ih j a v ha hv μ' hμ
 |arr ho h1 h2 h ih=>exact fun μ' hμ=> .arr ho h1 h2 fun k j a v hk ha hv=>ih k j a v hk ha hv noMu fun _ _ h=>h
 |tup h1 h ih=>exact fun μ' hμ=> .tup h1 fun j a v ha hv=>ih j a v ha hv μ' hμ
 |sl ho hc hm ht h1 h2 h hz hA ih=>
  refine fun μ' hμ=> .sl ho hc hm ht h1 h2 (fun k j a v hk ha hv=>ih k j a v hk ha hv noMu fun _ _ h=>h) hz fun hn=> ?_
  obtain ⟨g,o,rfl,hg,hcell⟩:=hA hn;rename_i vs;have h0:0<vs.length:=by rw [h1];exact Nat.mul_pos (Nat.pos_of_ne_zero hn) hz
  exact ⟨g,o,rfl,(cell g _ _ hg (hcell 0 _ (List.getElem?_eq_getElem h0))).1,fun j u hu=>(cell g _ _ hg (hcell j u hu)).2⟩
 |rowNil h hc=>exact fun μ' hμ=> .rowNil (hμ _ _ h) hc
 |row h hn hc hcap he=>exact fun μ' hμ=> .row (hμ _ _ h) hn hc hcap he
 |rowE h hc ho=>exact fun μ' hμ=> .rowE (hμ _ _ h) hc ho
 |ptr h=>exact fun μ' hμ=> .ptr (hμ _ _ h)
 |ip h1 h hg hl hA ih=>
  refine fun μ' hμ=> .ip h1 (fun j a v ha hv=>ih j a v ha hv noMu fun _ _ h=>h) (fun h=>hg (hO _ hl h)) (Nat.lt_of_lt_of_le hl hs) fun j u hu=>(cell _ _ _ hg (hA j u hu)).2
 |fn h1 h h2 h' ih ih'=>exact fun μ' hμ=> .fn h1 (fun j a v ha hv=>ih j a v ha hv μ' hμ) h2 fun j a v ha hv=>ih' j a v ha hv μ' hμ
 |iface ht h ih=>exact fun μ' hμ=> .iface ht (ih μ' hμ)
 |mapv h ih=>exact fun μ' hμ=> .mapv (ih μ' hμ)
theorem RV.mono (hO: ∀b,b<w.heap.size→O' b→O b) (hw: ∀b,b<w.heap.size→ ¬O b→w'.heap[b]?=w.heap[b]?) {μ:Mu} {a:AV} {v:Value} (h:RV O w μ a v):
 ∀μ':Mu,(∀i l,μ i=some l→μ' i=some l)→RV O' w' μ' a v:=by
 have cell: ∀g o u,¬O g→w.cell? ⟨g,o,none⟩=some u→ ¬O' g∧w'.cell? ⟨g,o,none⟩=some u∧g<w'.heap.size:=by
  intro g o u hg hc;have hlt:=World.block_lt_of_cell? w _ hc;have he:=hw g hlt hg;refine ⟨fun h=>hg (hO g hlt h),(World.cell?_of_block (w:=w) he).trans hc, ?_⟩;have:w'.heap[g]?=some w.heap[g]:=by rw [he];exact Array.getElem?_eq_getElem hlt
  exact (Array.getElem?_eq_some_iff.1 this).1
 induction h with
 |junk v=>exact fun _ _=> .junk v
 |lit x=>exact fun _ _=> .lit x
 |agg h1 h ih=>exact fun μ' hμ=> .agg h1 fun j a v ha hv=>ih j a v ha hv μ' hμ
 |arr ho h1 h2 h ih=>exact fun μ' hμ=> .arr ho h1 h2 fun k j a v hk ha hv=>ih k j a v hk ha hv noMu fun _ _ h=>h
 |tup h1 h ih=>exact fun μ' hμ=> .tup h1 fun j a v ha hv=>ih j a v ha hv μ' hμ
 |sl ho hc hm ht h1 h2 h hz hA ih=>
  refine fun μ' hμ=> .sl ho hc hm ht h1 h2 (fun k j a v hk ha hv=>ih k j a v hk ha hv noMu fun _ _ h=>h) hz fun hn=> ?_
  obtain ⟨g,o,rfl,hg,hcell⟩:=hA hn;rename_i vs;have h0:0<vs.length:=by rw [h1];exact Nat.mul_pos (Nat.pos_of_ne_zero hn) hz
  exact ⟨g,o,rfl,(cell g _ _ hg (hcell 0 _ (List.getElem?_eq_getElem h0))).1,fun j u hu=>(cell g _ _ hg (hcell j u hu)).2.1⟩
 |rowNil h hc=>exact fun μ' hμ=> .rowNil (hμ _ _ h) hc
 |row h hn hc hcap he=>exact fun μ' hμ=> .row (hμ _ _ h) hn hc hcap he
 |rowE h hc ho=>exact fun μ' hμ=> .rowE (hμ _ _ h) hc ho
 |ptr h=>exact fun μ' hμ=> .ptr (hμ _ _ h)
 |ip h1 h hg hl hA ih=>
  refine fun μ' hμ=> .ip h1 (fun j a v ha hv=>ih j a v ha hv noMu fun _ _ h=>h) (fun h=>hg (hO _ hl h)) ?_ fun j u hu=>(cell _ _ _ hg (hA j u hu)).2.1
  have he:=hw _ hl hg;exact (Array.getElem?_eq_some_iff.1 (he.trans (Array.getElem?_eq_getElem hl))).1
 |fn h1 h h2 h' ih ih'=>exact fun μ' hμ=> .fn h1 (fun j a v ha hv=>ih j a v ha hv μ' hμ) h2 fun j a v ha hv=>ih' j a v ha hv μ' hμ
 |iface ht h ih=>exact fun μ' hμ=> .iface ht (ih μ' hμ)
 |mapv h ih=>exact fun μ' hμ=> .mapv (ih μ' hμ)
theorem RV.up {μ:Mu} {a:AV} {v:Value} (h:RV O w noMu a v):RV O w μ a v:=h.mono (fun _ _ h=>h) (fun _ _ _=>rfl) _ fun i l h=>by cases h
theorem RVs.mono (hO: ∀b,b<w.heap.size→O' b→O b) (hw: ∀b,b<w.heap.size→ ¬O b→w'.heap[b]?=w.heap[b]?) {μ μ':Mu} {a:List AV} {v:List Value} (h:RVs O w μ a v)
 (hμ: ∀i l,μ i=some l→μ' i=some l):RVs O' w' μ' a v:=⟨h.1,fun j a v ha hv=>(h.2 j a v ha hv).mono hO hw _ hμ⟩
theorem RVs.nil {μ:Mu}:RVs O w μ [] []:=⟨rfl,fun j a v h=>by simp at h⟩
theorem RVs.cons {μ:Mu} {a:AV} {v:Value} {cs:List AV} {vs:List Value} (h:RV O w μ a v) (hs:RVs O w μ cs vs):RVs O w μ (a::cs) (v::vs):=
 ⟨by simp [hs.1],fun j x y hx hy=>by
  cases j with
  |zero=>simp at hx hy;subst hx hy;exact h
  |succ j=>simp at hx hy;exact hs.2 j x y hx hy⟩
theorem RVs.uncons {μ:Mu} {a:AV} {cs:List AV} {vs:List Value} (h:RVs O w μ (a::cs) vs): ∃v us,vs=v::us∧RV O w μ a v∧RVs O w μ cs us:=by
 obtain ⟨h1,h2⟩:=h;cases vs with
 |nil=>simp at h1
 |cons v us=>exact ⟨v,us,rfl,h2 0 a v rfl rfl,by simpa using h1,fun j x y hx hy=>h2 (j+1) x y (by simpa using hx) (by simpa using hy)⟩
theorem RVs.unnil {μ:Mu} {vs:List Value} (h:RVs O w μ [] vs):vs=[]:=by
 obtain ⟨h1,_⟩:=h;cases vs with
 |nil=>rfl
 |cons=>simp at h1
theorem RVs.drop {μ:Mu} {cs:List AV} {vs:List Value} (h:RVs O w μ cs vs) (k:Nat):RVs O w μ (cs.drop k) (vs.drop k):=
 ⟨by simp [h.1],fun j a v ha hv=>h.2 (k+j) a v (by simpa using ha) (by simpa using hv)⟩
theorem RVs.take {μ:Mu} {cs:List AV} {vs:List Value} (h:RVs O w μ cs vs) (k:Nat):RVs O w μ (cs.take k) (vs.take k):=
 ⟨by simp [h.1],fun j a v ha hv=>by
  rw [List.getElem?_take] at ha hv;split at ha
  ·rename_i hlt;rw [if_pos hlt] at hv;exact h.2 j a v ha hv
  ·cases ha⟩
theorem RVs.append {μ:Mu} {cs ds:List AV} {vs us:List Value} (h:RVs O w μ cs vs) (h':RVs O w μ ds us):RVs O w μ (cs++ds) (vs++us):=
 ⟨by simp [h.1,h'.1],fun j a v ha hv=>by
  rw [List.getElem?_append] at ha hv;rw [h.1] at ha;split at ha
  ·rename_i hlt;rw [if_pos hlt] at hv;exact h.2 j a v ha hv
  ·rename_i hlt;rw [if_neg hlt] at hv;exact h'.2 _ a v ha hv⟩
theorem RVs.at_ {μ:Mu} {cs:List AV} {vs:List Value} (h:RVs O w μ cs vs) {j:Nat} {a:AV} (ha:cs[j]?=some a): ∃v,vs[j]?=some v∧RV O w μ a v:=by
 have hlt:j<vs.length:=by rw [←h.1];exact (List.getElem?_eq_some_iff.1 ha).1
 exact ⟨_,List.getElem?_eq_getElem hlt,h.2 j a _ ha (List.getElem?_eq_getElem hlt)⟩
end
structure zb where
 T:TypeId
 sz:Nat
 n:Nat
 f:Nat→List AV
 st:Nat:=0
 pure:Bool:=true
 box:Bool:=false
def OO (X:Nat→Prop) (H:List zb) (μ:Mu) (b:Nat):Prop:=X b∨ ∃i o m,H[i]?=some o∧o.st % 3=0∧μ i=some (some (b,m))
structure J6 (O:Nat→Prop) (w:World) (μ:Mu) (b m:Nat) (o:zb) (cur:Array Value):Prop where
 blk:w.heap[b]?=some (.cells cur o.T (0,0))
 size:cur.size=m*o.sz
 le:m≤maxLen
 nle:o.n≤m
 one: ∀(k j:Nat) v,k<o.n→j<o.sz→cur[k*o.sz+j]?=some v→v.oneCell'=true
 flen: ∀k,k<o.n→(o.f k).length=o.sz
 cell: ∀(k j:Nat) a v,k<o.n→(o.f k)[j]?=some a→cur[k*o.sz+j]?=some v→RV O w (if o.pure then noMu else μ) a v
def ObjAt (O:Nat→Prop) (w:World) (μ:Mu) (i:Nat) (o:zb):Prop:=
 0<o.sz∧((μ i=some none∧o.n=0)∨ ∃b m cur,μ i=some (some (b,m))∧J6 O w μ b m o cur)
structure MapIn (O:Nat→Prop) (w:World) (o:zb) (es:Array MapEntry) (c:Nat):Prop where
 ent: ∀e∈es.toList,e.born<c∧ ∃k a,k<o.n∧e.key= .int .i64 (k:Int)∧o.f k=[a]∧RV O w noMu a e.val
 all: ∀k,k<o.n→o.f k≠[]→ ∃e∈es.toList,e.key= .int .i64 (k:Int)
 one:es.toList.Pairwise fun d e=>d.key≠e.key∧d.born≠e.born
def zlb (O:Nat→Prop) (w:World) (μ:Mu) (i:Nat) (o:zb):Prop:= ∃b m es c,μ i=some (some (b,m))∧w.heap[b]?=some (.map es c)∧MapIn O w o es c
def zfL (O:Nat→Prop) (w:World) (μ:Mu) (i:Nat) (o:zb):Prop:= ∃b m mb Yi last es c,μ i=some (some (b,m))∧w.heap[b]?=some (.mapIter (some mb) c Yi last)∧ ¬O mb∧w.heap[mb]?=some (.map es c)∧last=c∧
 (∀e∈es.toList,e.born<c∧(e.born∈Yi.toList∨ ∃k a,k<o.n∧e.key= .int .i64 (k:Int)∧o.f k=[a]∧RV O w noMu a e.val))∧
 (∀k,k<o.n→o.f k≠[]→ ∃e∈es.toList,e.key= .int .i64 (k:Int)∧e.born∉Yi.toList)∧(es.toList.Pairwise fun d e=>d.key≠e.key∧d.born≠e.born)∧ ∀k,o.sz=k+1→ ∃e∈es.toList,Yi.back?=some e.born∧e.key= .int .i64 (k:Int)
def MapOk (O:Nat→Prop) (w:World) (μ:Mu) (i:Nat) (o:zb):Prop:=o.pure=true∧(o.st=3→zlb O w μ i o)∧(o.st=6→zfL O w μ i o)∨o.st<3
def MapsOk (O:Nat→Prop) (w:World) (μ:Mu) (H:List zb):Prop:= ∀i o,H[i]?=some o→MapOk O w μ i o
def GlobOk (X:Nat→Prop) (μ:Mu) (w:World):Prop:= ∀g cs,(g,cs)∈zaD→g<w.heap.size∧ ¬X g∧(∀i m,μ i≠some (some (g,m)))∧ ∀(j:Nat) u,cs[j]?=some u→w.cell? ⟨g,j,none⟩=some u
theorem GlobOk.stepC {X X':Nat→Prop} {μ μ':Mu} {w w':World} (h:GlobOk X μ w) (hs:w.heap.size≤w'.heap.size) (hb: ∀b,b<w.heap.size→ ¬X b→(∀i m,μ i≠some (some (b,m)))→ ∀o u,w.cell? ⟨b,o,none⟩=some u→w'.cell? ⟨b,o,none⟩=some u)
 (hX: ∀b,X' b→X b∨(∃i m,μ i=some (some (b,m)))∨w.heap.size≤b) (hμ: ∀i b m,μ' i=some (some (b,m))→(∃j m',μ j=some (some (b,m')))∨X b∨w.heap.size≤b):GlobOk X' μ' w':=fun g cs hg=>by
 obtain ⟨h1,h2,h3,h4⟩:=h g cs hg;refine ⟨by omega,fun hx=> ?_,fun i m hi=> ?_,fun j u hu=>hb g h1 h2 h3 j u (h4 j u hu)⟩
 ·rcases hX g hx with h|⟨i,m,hi⟩|h
  ·exact h2 h
  ·exact h3 i m hi
  ·omega
 ·rcases hμ i g m hi with ⟨j,m',hj⟩|h|h
  ·exact h3 j m' hj
  ·exact h2 h
  ·omega
theorem GlobOk.step {X X':Nat→Prop} {μ μ':Mu} {w w':World} (h:GlobOk X μ w) (hs:w.heap.size≤w'.heap.size) (hb: ∀b,b<w.heap.size→ ¬X b→(∀i m,μ i≠some (some (b,m)))→w'.heap[b]?=w.heap[b]?)
 (hX: ∀b,X' b→X b∨(∃i m,μ i=some (some (b,m)))∨w.heap.size≤b) (hμ: ∀i b m,μ' i=some (some (b,m))→(∃j m',μ j=some (some (b,m')))∨X b∨w.heap.size≤b):GlobOk X' μ' w':=
 h.stepC hs (fun b h1 h2 h3 o u hu=>(World.cell?_of_block (w:=w) (hb b h1 h2 h3)).trans hu) hX hμ
theorem GlobOk.sub {X:Nat→Prop} {μ μ':Mu} {w:World} (h:GlobOk X μ w) (hμ: ∀b,(∃i m,μ' i=some (some (b,m)))→ ∃i m,μ i=some (some (b,m))):GlobOk X μ' w:=
 h.stepC (Nat.le_refl _) (fun _ _ _ _ _ _ hu=>hu) (fun _ h=> .inl h) fun i b m hi=> .inl (hμ b ⟨i,m,hi⟩)
structure HRel (μ:Mu) (X:Nat→Prop) (H:List zb) (w:World):Prop where
 dom: ∀i l,μ i=some l→i<H.length
 inj: ∀i j b m m',μ i=some (some (b,m))→μ j=some (some (b,m'))→i=j
 lt: ∀i b m,μ i=some (some (b,m))→b<w.heap.size∧ ¬X b
 obj: ∀i o,H[i]?=some o→o.st<2→ObjAt (OO X H μ) w μ i o
 xlt: ∀b,X b→b<w.heap.size
 gl:GlobOk X μ w
 mp:MapsOk (OO X H μ) w μ H
theorem HRel.glO {μ:Mu} {X:Nat→Prop} {H:List zb} {w:World} (h:HRel μ X H w):GlobOk (OO X H μ) noMu w:=
 h.gl.step (Nat.le_refl _) (fun _ _ _ _=>rfl) (fun b hb=>hb.elim .inl fun ⟨i,o,m,_,_,hm⟩=> .inr (.inl ⟨i,m,hm⟩)) fun i b m h=>(by cases h)
structure Chg (μ:Mu) (w w':World):Prop where
 os:w'.os=w.os
 tape:w'.tape=w.tape
 output:w'.output=w.output
 size:w.heap.size≤w'.heap.size
 block: ∀k,k<w.heap.size→(∀i m,μ i≠some (some (k,m)))→w'.heap[k]?=w.heap[k]?
def Ext (μ:Mu) (w:World) (μ':Mu):Prop:= ∀i b m,μ' i=some (some (b,m))→(∃j m',μ j=some (some (b,m')))∨w.heap.size≤b
theorem Chg.refl (μ:Mu) (w:World):Chg μ w w:=⟨rfl,rfl,rfl,Nat.le_refl _,fun _ _ _=>rfl⟩
theorem Ext.refl (μ:Mu) (w:World):Ext μ w μ:=fun i b m h=> .inl ⟨i,m,h⟩
theorem Chg.trans {μ μ':Mu} {a b c:World} (h:Chg μ a b) (he:Ext μ a μ') (h':Chg μ' b c):Chg μ a c:=
 ⟨h'.os.trans h.os,h'.tape.trans h.tape,h'.output.trans h.output,Nat.le_trans h.size h'.size,fun k hk hn=>
  (h'.block k (Nat.lt_of_lt_of_le hk h.size) fun i m hi=>by
   rcases he i k m hi with ⟨j,m',hj⟩|hlt
   ·exact hn j m' hj
   ·omega).trans (h.block k hk hn)⟩
theorem Ext.trans {μ μ' μ'':Mu} {a b:World} (hs:a.heap.size≤b.heap.size) (h:Ext μ a μ') (h':Ext μ' b μ''):Ext μ a μ'':=fun i x m hi=>by
 rcases h' i x m hi with ⟨j,m',hj⟩|hlt
 ·exact h j x m' hj
 ·exact .inr (by omega)
theorem Chg.below {w w':World} (h:Chg noMu w w'):Below w.heap.size w w':=⟨h.os,h.tape,h.output,h.size,fun k hk=>h.block k hk fun i m hi=>by cases hi⟩
theorem Chg.of_below {μ:Mu} {w w':World} (h:Below w.heap.size w w'):Chg μ w w':=⟨h.os,h.tape,h.output,h.size,fun k hk _=>h.block k hk⟩
theorem Chg.drew (μ:Mu) (w:World):Chg μ w w.drew:=⟨rfl,rfl,rfl,Nat.le_refl _,fun _ _ _=>rfl⟩
section
variable {μ μ':Mu} {X:Nat→Prop} {H H':List zb} {w w':World}
theorem ObjAt.mono {O O':Nat→Prop} {i:Nat} {o:zb} (hO: ∀b,b<w.heap.size→O' b→O b) (hw: ∀b,b<w.heap.size→ ¬O b→w'.heap[b]?=w.heap[b]?) (hμ: ∀i l,μ i=some l→μ' i=some l)
 (hb: ∀b m,μ i=some (some (b,m))→w'.heap[b]?=w.heap[b]?) (h:ObjAt O w μ i o):ObjAt O' w' μ' i o:=by
 refine ⟨h.1, ?_⟩;rcases h.2 with ⟨h1,h2⟩|⟨b,m,cur,h1,h2⟩
 ·exact .inl ⟨hμ _ _ h1,h2⟩
 ·refine .inr ⟨b,m,cur,hμ _ _ h1,(hb b m h1).trans h2.blk,h2.size,h2.le,h2.nle,h2.one,h2.flen,fun k j a v hk ha hv=>(h2.cell k j a v hk ha hv).mono hO hw _ fun i l hi=> ?_⟩;split
  ·rename_i hp;rw [if_pos hp] at hi;exact hi
  ·rename_i hp;rw [if_neg hp] at hi;exact hμ _ _ hi
theorem MapIn.mono {O O':Nat→Prop} {w w':World} {o:zb} {es:Array MapEntry} {c:Nat} (hrv: ∀{a:AV} {v:Value},RV O w noMu a v→RV O' w' noMu a v) (h:MapIn O w o es c):MapIn O' w' o es c:=
 ⟨fun e he=>⟨(h.ent e he).1,(h.ent e he).2.imp fun k ⟨a,h1,h2,h3,h4⟩=>⟨a,h1,h2,h3,hrv h4⟩⟩,h.all,h.one⟩
structure MapSame (o o':zb):Prop where
 st:o'.st=o.st
 pure:o'.pure=o.pure
 n:o'.n=o.n
 f: ∀k,k<o.n→o'.f k=o.f k
 sz:o'.sz=o.sz
theorem MapSame.refl (o:zb):MapSame o o:=⟨rfl,rfl,rfl,fun _ _=>rfl,rfl⟩
theorem MapSame.mapIn {O:Nat→Prop} {w:World} {o o':zb} {es:Array MapEntry} {c:Nat} (hs:MapSame o o') (h:MapIn O w o es c):MapIn O w o' es c:=
 ⟨fun e he=>⟨(h.ent e he).1,(h.ent e he).2.imp fun k ⟨a,h1,h2,h3,h4⟩=>⟨a,by rw [hs.n];exact h1,h2,by rw [hs.f k h1];exact h3,h4⟩⟩,fun k hk hf=>h.all k (by rw [hs.n] at hk;exact hk) (by rw [hs.n] at hk;rw [hs.f k hk] at hf;exact hf),h.one⟩
theorem MapOk.monoR {O O':Nat→Prop} {w w':World} {μ μ':Mu} {j:Nat} {o:zb} (h:MapOk O w μ j o) (hrv: ∀{a:AV} {v:Value},RV O w noMu a v→RV O' w' noMu a v) (hmb: ∀b es c,¬O b→w.heap[b]?=some (.map es c)→ ¬O' b∧w'.heap[b]?=some (.map es c))
 {i:Nat} {o':zb} (hsm:MapSame o o') (hm: ∀l,μ j=some l→μ' i=some l) (hb: ∀b m,μ j=some (some (b,m))→w'.heap[b]?=w.heap[b]?):MapOk O' w' μ' i o':=by
 rcases h with ⟨h1,h2,h3⟩|h1
 ·refine .inl ⟨hsm.pure.trans h1,fun e=> ?_,fun e=> ?_⟩
  ·obtain ⟨b,m,es,c,h4,h5,h6⟩:=h2 (hsm.st.symm.trans e);exact ⟨b,m,es,c,hm _ h4,(hb b m h4).trans h5,hsm.mapIn (h6.mono hrv)⟩
  ·obtain ⟨b,m,mb,Yi,last,es,c,h4,h5,h6,h7,h8,h9,h10,h11,h12⟩:=h3 (hsm.st.symm.trans e);exact ⟨b,m,mb,Yi,last,es,c,hm _ h4,(hb b m h4).trans h5,(hmb mb es c h6 h7).1,(hmb mb es c h6 h7).2,h8,fun e he=>⟨(h9 e he).1,(h9 e he).2.imp id (Exists.imp fun k ⟨a,h1,h2,h3,h4⟩=>⟨a,by rw [hsm.n];exact h1,h2,by rw [hsm.f k h1];exact h3,hrv h4⟩)⟩,fun k hk hf=>h10 k (by rw [hsm.n] at hk;exact hk) (by rw [hsm.n] at hk;rw [hsm.f k hk] at hf;exact hf),h11,fun k hk=>h12 k (hsm.sz.symm.trans hk)⟩
 ·exact .inr (by have:=hsm.st;omega)
theorem MapOk.mono {O O':Nat→Prop} {w w':World} {μ μ':Mu} {j:Nat} {o:zb} (h:MapOk O w μ j o) (hO: ∀b,b<w.heap.size→O' b→O b) (hw: ∀b,b<w.heap.size→ ¬O b→w'.heap[b]?=w.heap[b]?)
 {i:Nat} {o':zb} (hsm:MapSame o o') (hm: ∀l,μ j=some l→μ' i=some l) (hb: ∀b m,μ j=some (some (b,m))→w'.heap[b]?=w.heap[b]?):MapOk O' w' μ' i o':=
 h.monoR (fun h=>h.mono hO hw _ fun _ _ h=>h) (fun b es c h1 h2=>(fun hl=>⟨fun h=>h1 (hO b hl h),(hw b hl h1).trans h2⟩) (Array.getElem?_eq_some_iff.1 h2).1) hsm hm hb
theorem MapsOk.mono {O O':Nat→Prop} {w w':World} {μ μ':Mu} {H H':List zb} (h:MapsOk O w μ H) (hO: ∀b,b<w.heap.size→O' b→O b) (hw: ∀b,b<w.heap.size→ ¬O b→w'.heap[b]?=w.heap[b]?)
 (hH: ∀i o',H'[i]?=some o'→3≤o'.st→ ∃j o,H[j]?=some o∧MapSame o o'∧(∀l,μ j=some l→μ' i=some l)∧ ∀b m,μ j=some (some (b,m))→w'.heap[b]?=w.heap[b]?):MapsOk O' w' μ' H':=fun i o' ho'=>by
 by_cases hst:o'.st<3
 ·exact .inr hst
 obtain ⟨j,o,hj,hsm,hm,hb⟩:=hH i o' ho' (by omega);exact (h j o hj).mono hO hw hsm hm hb
theorem MapsOk.none {O:Nat→Prop} {w:World} {μ:Mu} {H:List zb} (h: ∀o∈H,o.st<3):MapsOk O w μ H:=fun i o ho=> .inr (h o (List.mem_of_getElem? ho))
theorem HRel.below (h:HRel μ X H w) (hb:Below w.heap.size w w'):HRel μ X H w':=
 ⟨h.dom,h.inj,fun i b m hi=>⟨Nat.lt_of_lt_of_le (h.lt i b m hi).1 hb.size,(h.lt i b m hi).2⟩,fun i o hi hs=>(h.obj i o hi hs).mono (fun _ _ h=>h) (fun b hlt _=>hb.block b hlt) (fun _ _ h=>h) fun b m hm=>hb.block b (h.lt i b m hm).1,fun b hx=>Nat.lt_of_lt_of_le (h.xlt b hx) hb.size,h.gl.step hb.size (fun b hlt _ _=>hb.block b hlt) (fun _ h=> .inl h) fun i b m h=> .inl ⟨i,m,h⟩,h.mp.mono (fun _ _ h=>h) (fun b hlt _=>hb.block b hlt) fun i o ho _=>⟨i,o,ho, .refl o,fun _ h=>h,fun b m hm=>hb.block b (h.lt i b m hm).1⟩⟩
theorem ObjAt.monoC {O O':Nat→Prop} {i:Nat} {o:zb} (hO: ∀b,b<w.heap.size→O' b→O b) (hs:w.heap.size≤w'.heap.size) (hw: ∀b,b<w.heap.size→ ¬O b→ ∀o u,w.cell? ⟨b,o,none⟩=some u→w'.cell? ⟨b,o,none⟩=some u)
 (hb: ∀b m,μ i=some (some (b,m))→w'.heap[b]?=w.heap[b]?) (h:ObjAt O w μ i o):ObjAt O' w' μ i o:=by
 refine ⟨h.1, ?_⟩;rcases h.2 with ⟨h1,h2⟩|⟨b,m,cur,h1,h2⟩
 ·exact .inl ⟨h1,h2⟩
 ·exact .inr ⟨b,m,cur,h1,(hb b m h1).trans h2.blk,h2.size,h2.le,h2.nle,h2.one,h2.flen,fun k j a v hk ha hv=>(h2.cell k j a v hk ha hv).monoC hO hs hw _ fun i l hi=>hi⟩
theorem RV.later {O:Nat→Prop} {a:AV} {v:Value} (h:RV O w μ a v) (hb:Below w.heap.size w w'):RV O w' μ a v:=h.mono (fun _ _ h=>h) (fun b hl _=>hb.block b hl) _ fun _ _ h=>h
end
inductive TyK where
 |int (k:IntKind)|bool|str|ptr (e:TypeId)|slice (e:TypeId)|arr (n:Nat) (e:TypeId)|struct (fs:List (Nat×TypeId))|iface|map (k e:TypeId)|func|other
structure TyI where
 k:TyK
 sz:Nat
 by_:Nat
 zero:List Value
abbrev Tab:=TypeId→Option TyI
def TyK.isAgg:TyK→Bool
 | .arr _ _| .struct _=>true
 |_=>false
def TyI.zeroCells (i:TyI):List Value:=match i.k with| .arr n _=>(List.replicate n i.zero).flatten|_=>i.zero
def mkV (i:TyI) (vs:List Value):Value:=if i.k.isAgg then .agg vs.toArray else vs.headD undef
def yz (P:Program) (t:TypeId):TyK→Prop
 | .int k=>P.underlying t=some (.int k)
 | .bool=>P.underlying t=some .bool
 | .str=>P.underlying t=some .string
 | .ptr e=>P.underlying t=some (.pointer e)
 | .slice e=>P.underlying t=some (.slice e)
 | .arr n e=>P.underlying t=some (.array n e)
 | .struct fs=> ∃fields:Array Field,P.underlying t=some (.struct fields)∧fields.toList.map (fun f=>(f.offset,f.type))=fs
 | .iface=> ∃ms,P.underlying t=some (.interface ms)
 | .map k e=>P.underlying t=some (.map k e)
 | .func=> ∃a b c,P.underlying t=some (.func a b c)
 | .other=> ∃d,P.underlying t=some d∧d.isRow=false
structure TyOk (P:Program) (t:TypeId) (i:TyI):Prop where
 info: ∃f,P.info? t=some f∧f.size=i.sz∧f.bytes=i.by_∧ ∃z,f.zero=some z∧z.cells.toList=i.zeroCells
 one:i.k.isAgg=false→i.sz=1
 zlen:i.zeroCells.length=i.sz
 zone: ∀u∈i.zeroCells,u.oneCell'=true
 und:yz P t i.k
def zI (P:Program) (tab:Tab):Prop:= ∀t i,tab t=some i→TyOk P t i
def zeq:Value→Value→Bool
 | .int k a, .int k' b=>decide (k=k') && a==b
 | .bool a, .bool b=>a==b
 | .string a, .string b=>a.data.toList==b.data.toList
 | .pointer none, .pointer none=>true
 | .slice none 0 0, .slice none 0 0=>true
 | .map none, .map none=>true
 | .chan none, .chan none=>true
 | .nilFunc, .nilFunc=>true
 | .nilIface, .nilIface=>true
 |_,_=>false
theorem ziS {a b:Value} (h:zeq a b=true):a=b:=by
 unfold zeq at h;split at h <;>simp_all
 rename_i a b;cases a;cases b
 congr
def zgQ:List Value→List Value→Bool
 |[],[]=>true
 |a::x,b::y=>zeq a b && zgQ x y
 |_,_=>false
theorem G0: ∀{x y:List Value},zgQ x y=true→x=y
 |[],[],_=>rfl
 |[],_::_,h=>by cases h
 |_::_,[],h=>by cases h
 |a::x,b::y,h=>by
  simp only [zgQ,Bool.and_eq_true] at h;rw [ziS h.1,G0 h.2]
def zi8 (P:Program) (t:TypeId):TyK→Bool
 | .int k=>match P.underlying t with|some (.int k')=>decide (k'=k)|_=>false
 | .bool=>match P.underlying t with|some .bool=>true|_=>false
 | .str=>match P.underlying t with|some .string=>true|_=>false
 | .ptr e=>match P.underlying t with|some (.pointer e')=>e'==e|_=>false
 | .slice e=>match P.underlying t with|some (.slice e')=>e'==e|_=>false
 | .arr n e=>match P.underlying t with|some (.array n' e')=>n'==n && e'==e|_=>false
 | .struct fs=>match P.underlying t with|some (.struct fields)=>(fields.toList.map fun f=>(f.offset,f.type))==fs|_=>false
 | .iface=>match P.underlying t with|some (.interface _)=>true|_=>false
 | .map k e=>match P.underlying t with|some (.map k' e')=>k'==k && e'==e|_=>false
 | .func=>match P.underlying t with|some (.func _ _ _)=>true|_=>false
 | .other=>match P.underlying t with|some d=> !d.isRow|none=>false
theorem zhU {P:Program} {t:TypeId} {k:TyK} (h:zi8 P t k=true):yz P t k:=by
 cases k <;>simp only [zi8] at h <;>simp only [yz] <;>split at h <;>simp_all
def tyB (P:Program) (t:TypeId) (i:TyI):Bool:=
 (match P.info? t with
  |some f=>f.size==i.sz && f.bytes==i.by_ && (match f.zero with|some z=>zgQ z.cells.toList i.zeroCells|none=>false)
  |none=>false) && (i.k.isAgg||i.sz==1) && i.zeroCells.length==i.sz && i.zeroCells.all (·.oneCell') && zi8 P t i.k
theorem ziD {P:Program} {t:TypeId} {i:TyI} (h:tyB P t i=true):TyOk P t i:=by
 unfold tyB at h;simp only [Bool.and_eq_true] at h;obtain ⟨⟨⟨⟨h1,h2⟩,h3⟩,h4⟩,h5⟩:=h;refine ⟨?_,fun hk=> ?_,by simpa using h3,by simpa using h4,zhU h5⟩
 ·split at h1
  ·rename_i f hf;simp only [Bool.and_eq_true,beq_iff_eq] at h1;obtain ⟨⟨ha,hb⟩,hc⟩:=h1;split at hc
   ·rename_i z hz;exact ⟨f,hf,ha,hb,z,hz,G0 hc⟩
   ·cases hc
  ·cases h1
 ·rw [hk] at h2;simpa using h2
def zcA (l:List (TypeId×TyI)):Tab:=fun t=>(l.find? fun p=>Nat.beq p.1 t).map (·.2)
theorem zeJ {P:Program} {l:List (TypeId×TyI)} (h:(l.all fun p=>tyB P p.1 p.2)=true):zI P (zcA l):=by
 intro t i hi;unfold zcA at hi;cases hf:l.find? fun p=>Nat.beq p.1 t with
 |none=>rw [hf] at hi;cases hi
 |some p=>
  rw [hf] at hi;simp at hi
  subst hi;have h1:=List.find?_some hf;have h2:=List.mem_of_find?_eq_some hf;have h3:=List.all_eq_true.1 h p h2;have:p.1=t:=Nat.eq_of_beq_eq_true h1
  rw [←this];exact ziD h3
section
variable {P:Program} {tab:Tab} {t:TypeId} {i:TyI} {w:World}
theorem TyOk.size (h:TyOk P t i):(P.info? t).map (·.size)=some i.sz:=by obtain ⟨f,hf,hs,_⟩:=h.info;rw [hf];simp [hs]
theorem TyOk.run_size (h:TyOk P t i):(sizeOf t).run P w= .ok i.sz w:=by
 obtain ⟨f,hf,hs,_⟩:=h.info;simp [sizeOf,typeInfo,hf,hs]
theorem TyOk.row (h:TyOk P t i): ∃d,P.underlying t=some d∧d.isRow=i.k.isAgg:=by
 have hu:=h.und;cases hk:i.k <;>rw [hk] at hu <;>simp only [yz] at hu
 case struct fs=>obtain ⟨fields,hf,_⟩:=hu;exact ⟨_,hf,rfl⟩
 case iface=>obtain ⟨ms,hf⟩:=hu;exact ⟨_,hf,rfl⟩
 case func=>obtain ⟨a,b,c,hf⟩:=hu;exact ⟨_,hf,rfl⟩
 case other=>exact hu
 all_goals exact ⟨_,hu,rfl⟩
theorem TyOk.isAgg (h:TyOk P t i):(isAgg t).run P w= .ok i.k.isAgg w:=by
 obtain ⟨d,hd,he⟩:=h.row;unfold Go.isAgg;rw [Sem.run_bind,run_underlying hd w];rw [←he];cases d <;>rfl
theorem TyOk.zero (h:TyOk P t i): ∃z,(zeroValue t).run P w= .ok z w∧z.cells.toList=i.zeroCells:=by
 obtain ⟨f,hf,_,_,z,hz,hc⟩:=h.info;exact ⟨z,by simp [zeroValue,typeInfo,hf,hz],hc⟩
theorem WI (h:TyOk P t i) {b o:Nat} {vs:List Value} (hl:vs.length=i.sz) (hc:w.rangeAt b o vs):
 (Instr.loadAt t (.pointer (some ⟨b,o,none⟩))).run P w= .ok (mkV i vs) w:=by
 obtain ⟨d,hd,he⟩:=h.row;unfold mkV;by_cases hk:i.k.isAgg=true
 ·rw [if_pos hk];exact run_loadAt_mid w b o t vs d hc hd (he.trans hk) (by rw [h.size,hl])
 ·rw [if_neg hk];have hk:i.k.isAgg=false:=by simpa using hk
  have h1:vs.length=1:=by rw [hl,h.one hk]
  obtain ⟨v,rfl⟩: ∃v,vs=[v]:=by
   match vs,h1 with
   |[v],_=>exact ⟨v,rfl⟩
  have hcell:=hc 0 v rfl;simp only [Nat.add_zero] at hcell;simp [Instr.loadAt,Instr.sureAddr,loadVar,h.isAgg,hk,run_load,hcell]
end
def mkT (tab:Tab) (i:TyI) (cs:List AV):Option AV:=
 match i.k with
 | .struct _=>some (.agg cs)
 | .arr _ _=>some (.agg cs)
 |_=>match cs with|[a]=>some a|_=>none
theorem pq {O:Nat→Prop} {w:World} {μ:Mu} {tab:Tab} {i:TyI} {cs:List AV} {vs:List Value} {r:AV} (h:mkT tab i cs=some r) (hr:RVs O w μ cs vs):RV O w μ r (mkV i vs):=by
 unfold mkT at h;unfold mkV;cases hk:i.k <;>rw [hk] at h <;>simp only [TyK.isAgg] at h ⊢
 case struct fs=>injection h with h;subst h;exact .agg hr.1 hr.2
 case arr=>injection h with h;subst h;exact .agg hr.1 hr.2
 all_goals
  split at h
  ·injection h with h
   subst h;obtain ⟨v,us,rfl,h1,_⟩:=hr.uncons;exact h1
  ·cases h
def nth {α:Type}:List α→Nat→Option α
 |[],_=>none
 |x::_,0=>some x
 |_::l,n+1=>nth l n
theorem zH {α:Type}: ∀(l:List α) (n:Nat),nth l n=l[n]?
 |[],_=>by simp [nth]
 |_::_,0=>by simp [nth]
 |_::l,n+1=>by simp [nth,zH l n]
def setn {α:Type}:List α→Nat→α→List α
 |[],_,_=>[]
 |_::l,0,y=>y::l
 |x::l,n+1,y=>x::setn l n y
theorem Zx {α:Type}: ∀(l:List α) (n:Nat) (y:α),setn l n y=l.set n y
 |[],_,_=>by simp [setn]
 |_::_,0,_=>by simp [setn]
 |_::l,n+1,y=>by simp [setn,Zx l n y]
abbrev Ans:=Option (Prop×AV)
def kT (tab:Tab) (i:TyI) (ob:zb) (k o:Nat):Ans:=
 match i.k,ob.box,Nat.beq o 0,ob.pure with
 | .arr n _,false,true,true=>match Nat.beq i.sz (n*ob.sz) with
   |true=>some (k=0∧ob.n=n, .arr ob.sz n ob.f)
   |false=>none
 |_,_,_,_=>(mkT tab i (((ob.f k).drop o).take i.sz)).map fun v=>(k<ob.n∧o+i.sz≤ob.sz,v)
def jf (tab:Tab) (t:TypeId) (p:AV) (H:List zb):Ans:=
 match tab t with
 |none=>none
 |some i=>match p with
  | .ip cs=>(mkT tab i (cs.take i.sz)).map fun v=>(i.sz≤cs.length,v)
  | .ptr id sz k o=>match nth H id with
    |some ob=>match ob.st,Nat.beq ob.sz sz with
     |0,true|1,true=>kT tab i ob k o
     |_,_=>none
    |none=>none
  |_=>none
section
variable {P:Program} {tab:Tab} {X:Nat→Prop} {H:List zb} {μ:Mu} {w:World}
theorem ZD {a b:Nat} (h:Nat.beq a b=true):a=b:=Nat.eq_of_beq_eq_true h
theorem qW {b m:Nat} {o:zb} {cur:Array Value} {O:Nat→Prop} (hz:0<o.sz) (h:J6 O w μ b m o cur) {k:Nat} (hk:k<o.n):
 ∃vs:List Value,RVs O w (if o.pure then noMu else μ) (o.f k) vs∧vs.length=o.sz∧(∀j v,vs[j]?=some v→cur[k*o.sz+j]?=some v)∧w.rangeAt b (k*o.sz) vs:=by
 have hle:(k+1)*o.sz≤cur.size:=by rw [h.size];exact Nat.mul_le_mul_right _ (by have:=h.nle;omega)
 have hle':k*o.sz+o.sz≤cur.size:=by rw [Nat.add_mul] at hle;omega
 have hlen:((cur.toList.drop (k*o.sz)).take o.sz).length=o.sz:=by simp;omega
 have hget: ∀j v,((cur.toList.drop (k*o.sz)).take o.sz)[j]?=some v→cur[k*o.sz+j]?=some v:=by
  intro j v hv;rw [List.getElem?_take] at hv;split at hv
  ·simpa using hv
  ·cases hv
 refine ⟨(cur.toList.drop (k*o.sz)).take o.sz,⟨by rw [hlen,h.flen k hk],fun j a v ha hv=>h.cell k j a v hk ha (hget j v hv)⟩,hlen,hget,fun j v hv=> ?_⟩;rw [cell_of_row w b _ cur o.T (0,0) h.blk];exact hget j v hv
theorem RVs.opt {O:Nat→Prop} {b:Bool} {cs:List AV} {vs:List Value} (h:RVs O w (if b then noMu else μ) cs vs):RVs O w μ cs vs:=by
 cases b
 ·exact h
 ·exact ⟨h.1,fun j a v ha hv=>(h.2 j a v ha hv).up⟩
theorem HRel.at_ (hH:HRel μ X H w) {id:Nat} {ob:zb} (h:nth H id=some ob) (hs:ob.st<2) {b m:Nat} (hm:μ id=some (some (b,m))):0<ob.sz∧ ∃cur,J6 (OO X H μ) w μ b m ob cur:=by
 rw [zH] at h;obtain ⟨hz,h1|⟨b',m',cur,h1,h2⟩⟩:=hH.obj id ob h hs
 ·rw [hm] at h1;cases h1.1
 ·rw [hm] at h1;injection h1 with h1;injection h1 with h1;cases h1;exact ⟨hz,cur,h2⟩
theorem Vg (hT:zI P tab) {t:TypeId} {i:TyI} (hty:TyOk P t i) {id k o b m:Nat} {ob:zb} (hn:nth H id=some ob) (hs:ob.st<2) {q:Prop} {r:AV} (hl:kT tab i ob k o=some (q,r)) (hq:q) (hH:HRel μ X H w) (hm:μ id=some (some (b,m))):
 ∃u,(Instr.loadAt t (.pointer (some ⟨b,k*ob.sz+o,none⟩))).run P w= .ok u w∧RV (OO X H μ) w μ r u:=by
 obtain ⟨hz,cur,hob⟩:=hH.at_ hn hs hm;unfold kT at hl;split at hl
 ·rename_i n e hk hbx ho hpu;obtain rfl:=ZD ho;split at hl
  ·rename_i hes;injection hl with hl;injection hl with e1 e2
   subst e1 e2;obtain ⟨rfl,hn2⟩:=hq;have hes:=ZD hes;have hsz:n*ob.sz≤cur.size:=by rw [hob.size];exact Nat.mul_le_mul_right _ (by have:=hob.nle;omega)
   have hlen:(cur.toList.take (n*ob.sz)).length=n*ob.sz:=by simp;omega
   refine ⟨_,WI (vs:=cur.toList.take (n*ob.sz)) hty (by rw [hlen,hes]) fun j v hv=> ?_, ?_⟩
   ·rw [List.getElem?_take] at hv;split at hv
    ·rw [cell_of_row w b _ cur ob.T (0,0) hob.blk];simpa using hv
    ·cases hv
   ·unfold mkV;rw [hk];simp only [TyK.isAgg,if_true];refine .arr (fun u hu=> ?_) hlen (fun k hk=>hob.flen k (by omega)) fun k j a v hk ha hv=> ?_
    ·obtain ⟨q,hq⟩:=List.getElem?_of_mem hu;rw [List.getElem?_take] at hq;split at hq
     ·rename_i hlt;have hd:=Nat.div_add_mod q ob.sz;have hm:=Nat.mod_lt q hz;have hlt2:q / ob.sz<n:=Nat.div_lt_of_lt_mul (by rw [Nat.mul_comm];exact hlt)
      refine hob.one (q / ob.sz) (q % ob.sz) u (by omega) hm ?_;rw [Nat.mul_comm,hd];simpa using hq
     ·cases hq
    rw [List.getElem?_take] at hv;split at hv
    ·have:=hob.cell k j a v (by omega) ha (by simpa using hv)
     rw [hpu] at this;exact this
    ·cases hv
  ·cases hl
 ·simp only [Option.map_eq_some_iff] at hl;obtain ⟨v,hm',he⟩:=hl;injection he with e1 e2
  subst e1 e2;obtain ⟨vs,hv1,hv2,hv3,hv4⟩:=qW hz hob hq.1;refine ⟨_,WI (vs:=(vs.drop o).take i.sz) hty (by simp;omega) fun j v hv=> ?_,pq hm' ((hv1.opt.drop o).take _)⟩;rw [List.getElem?_take] at hv;split at hv
  ·have:=hv4 (o+j) v (by simpa using hv)
   rw [Nat.add_assoc];exact this
  ·cases hv
theorem KI (hT:zI P tab) {t:TypeId} {p:AV} {q:Prop} {r:AV} (hl:jf tab t p H=some (q,r)) (hq:q) (hH:HRel μ X H w) {v:Value} (hp:RV (OO X H μ) w μ p v):
 ∃u,(Instr.loadAt t v).run P w= .ok u w∧RV (OO X H μ) w μ r u:=by
 unfold jf at hl;cases hi:tab t with
 |none=>rw [hi] at hl;cases hl
 |some i=>
  rw [hi] at hl;have hty:=hT t i hi;cases hp with
  |ip h1 h hg hlt hA=>
   rename_i cs g o vs;simp only [Option.map_eq_some_iff] at hl;obtain ⟨v,hm,he⟩:=hl;injection he with e1 e2
   subst e1 e2;have hr:RVs (OO X H μ) w noMu cs vs:=⟨h1,h⟩
   have hlen:(vs.take i.sz).length=i.sz:=by rw [List.length_take,←h1];omega
   exact ⟨_,WI hty hlen fun j v hv=>hA j v (by rw [List.getElem?_take] at hv;split at hv;exact hv;cases hv),(pq hm (hr.take _)).up⟩
  |ptr hm=>
   rename_i id sz k o b m;simp only at hl;cases hn:nth H id with
   |none=>rw [hn] at hl;cases hl
   |some ob=>
    rw [hn] at hl;simp only at hl;split at hl
    ·rename_i h1 h2;obtain rfl:=ZD h2;exact Vg hT hty hn (by omega) hl hq hH hm
    ·rename_i h1 h2;obtain rfl:=ZD h2;exact Vg hT hty hn (by omega) hl hq hH hm
    ·cases hl
  |_=>cases hl
def ziW (op:BinOp) (x y:Value):Option (Prop×Value):=
 match x,y with
 | .int k a, .int k' b=>match op with
   | .shl=>some (0≤b, .int k (k.wrap (a*2^min b.toNat k.bits)))
   | .shr=>some (0≤b, .int k (a.fdiv (2^min b.toNat k.bits)))
   | .add=>some (k=k', .int k (k.wrap (a+b)))
   | .sub=>some (k=k', .int k (k.wrap (a - b)))
   | .mul=>some (k=k', .int k (k.wrap (a*b)))
   | .quo=>some (k=k'∧b≠0, .int k (k.wrap (a.tdiv b)))
   | .rem=>some (k=k'∧b≠0, .int k (a.tmod b))
   | .and=>some (k=k', .int k (k.wrap (BitVec.ofInt k.bits a &&& BitVec.ofInt k.bits b).toNat))
   | .or=>some (k=k', .int k (k.wrap (BitVec.ofInt k.bits a|||BitVec.ofInt k.bits b).toNat))
   | .xor=>some (k=k', .int k (k.wrap (BitVec.ofInt k.bits a^^^BitVec.ofInt k.bits b).toNat))
   | .andNot=>some (k=k', .int k (k.wrap (BitVec.ofInt k.bits a &&& ~~~ BitVec.ofInt k.bits b).toNat))
   | .eql=>some (k=k', .bool (a==b))
   | .neq=>some (k=k', .bool (a !=b))
   | .lss=>some (k=k', .bool (a<b))
   | .leq=>some (k=k', .bool (a≤b))
   | .gtr=>some (k=k', .bool (a>b))
   | .geq=>some (k=k', .bool (a≥b))
 | .string a, .string b=>match op with
   | .eql=>some (True, .bool (a.toList==b.toList))
   | .neq=>some (True, .bool (!(a.toList==b.toList)))
   | .add=>some (((a.size+b.size:Nat):Int)≤IntKind.i64.max, .string (a++b))
   | .lss=>some (True, .bool (Op.bytesLess a.toList b.toList))
   | .gtr=>some (True, .bool (!(Op.bytesLess a.toList b.toList||a.toList==b.toList)))
   |_=>none
 |_,_=>none
theorem zbZ {op:BinOp} {x y:Value} {q:Prop} {r:Value} (h:ziW op x y=some (q,r)) (hq:q) (t:TypeId) (xo yo:Operand):(do eqGuard op t xo yo x y;binOp op t x y:Sem Value).run P w= .ok r w:=by
 have g: ∀{s:Sem Value},(match x,y with| .int _ _, .int _ _=>True| .string _, .string _=>True|_,_=>False)→(do eqGuard op t xo yo x y;s:Sem Value).run P w=s.run P w:=by
  intro s hxy;unfold eqGuard;split at hxy <;>first|exact hxy.elim|(cases op <;>simp)
 unfold ziW at h;split at h
 ·rename_i k a k' b;rw [g trivial]
  cases op <;>simp only [Option.some.injEq,Prod.mk.injEq] at h <;>obtain ⟨rfl,rfl⟩:=h <;>first
   |(obtain ⟨rfl,h0⟩:=hq;simp [binOp,Op.intDiv,h0];done)
   |(subst hq;simp [binOp,Op.intArith,Op.intBits,Op.intCmp];done)
   |(simp [binOp,Op.shift,show ¬b<0 by omega];done)
 ·rename_i a b;rw [g trivial]
  cases op <;>simp only [Option.some.injEq,Prod.mk.injEq,reduceCtorEq] at h <;>obtain ⟨rfl,rfl⟩:=h <;>first
   |(simp [binOp,Op.stringOp];done)
   |(have: ¬((a.size+b.size:Nat):Int)>IntKind.i64.max:=by omega
     simp only [binOp,Op.stringOp];rw [if_neg this];rfl)
 ·cases h
def aUn (op:UnOp) (x:Value):Option Value:=
 match op,x with
 | .neg, .int k n=>some (.int k (k.wrap (0 - n)))
 | .xor, .int k n=>some (.int k (k.wrap (BitVec.ofInt k.bits (if k.signed then -1 else k.max)^^^BitVec.ofInt k.bits n).toNat))
 | .not, .bool b=>some (.bool (!b))
 |_,_=>none
theorem zfy {op:UnOp} {x r:Value} (h:aUn op x=some r):(Op.unary op x).run P w= .ok r w:=by
 unfold aUn at h;split at h <;>first|(injection h with h;subst h;simp [Op.unary,Op.intArith,Op.intBits];done)|cases h
end
end
section
variable {P:Program} {tab:Tab} {X:Nat→Prop} {H:List zb} {μ:Mu} {w:World} {O:Nat→Prop}
def jY (tab:Tab) (t:TypeId) (k:Nat):Option (Nat×TypeId):=
 match tab t with
 |some i=>match i.k with| .struct fs=>nth fs k|_=>none
 |none=>none
theorem K3 (hT:zI P tab) {t:TypeId} {k off ft:Nat} (h:jY tab t k=some (off,ft)):
 ∃fields f,P.underlying t=some (.struct fields)∧fields[k]?=some f∧f.offset=off∧f.type=ft:=by
 unfold jY at h;split at h
 ·rename_i i hi;have hu:=(hT t i hi).und
  split at h
  ·rename_i fs hk;rw [hk] at hu;obtain ⟨fields,hf,hm⟩:=hu;rw [zH,←hm] at h;simp only [List.getElem?_map,Option.map_eq_some_iff,Prod.mk.injEq] at h;obtain ⟨f,h1,h2,h3⟩:=h;exact ⟨fields,f,hf,by simpa using h1,h2,h3⟩
  ·cases h
 ·cases h
def VD (tab:Tab) (t:TypeId) (x:AV) (k:Nat):Option AV:=
 match jY tab t k with
 |some (off,ft)=>match tab ft with
  |some fi=>match Nat.blt 0 fi.sz,x with
   |true, .ptr i sz e o=>some (.ptr i sz e (o+off))
   |true, .ip cs=>some (.ip (cs.drop off))
   |_,_=>none
  |none=>none
 |none=>none
theorem ke (hT:zI P tab) {t:TypeId} {x r:AV} {k:Nat} (h:VD tab t x k=some r) {v:Value} (hv:RV O w μ x v):
 ∃u,(Instr.fieldAt t v k).run P w= .ok u w∧RV O w μ r u:=by
 unfold VD at h;split at h
 ·rename_i off ft hf;obtain ⟨fields,f,h1,h2,rfl,rfl⟩:=K3 hT hf;split at h
  ·rename_i fi hfi;have hz:=(hT _ _ hfi).run_size (w:=w)
   split at h
   ·rename_i i sz e o hb;injection h with h;subst h
    have hb: ¬fi.sz=0:=by rw [Nat.blt_eq] at hb;omega
    cases hv with
    |ptr hm=>
     refine ⟨_, ?_, .ptr hm⟩;simp [Instr.fieldAt,run_underlying h1,h2,Instr.sureAddr,fieldPlace,hz,hb,Addr.add_mid,Nat.add_assoc]
   ·rename_i cs hb;injection h with h;subst h
    have hb: ¬fi.sz=0:=by rw [Nat.blt_eq] at hb;omega
    cases hv with
    |ip g1 g2 g3 g4 g5=>
     rename_i g o vs;refine ⟨.pointer (some ⟨g,o+f.offset,none⟩), ?_, .ip (vs:=vs.drop f.offset) (by simp [g1]) (fun j a v ha hv=>g2 (f.offset+j) a v (by simpa using ha) (by simpa using hv)) g3 g4 (fun j u hu=> ?_)⟩
     ·simp [Instr.fieldAt,run_underlying h1,h2,Instr.sureAddr,fieldPlace,hz,hb,Addr.add_mid]
     ·rw [Nat.add_assoc];exact g5 _ u (by simpa using hu)
   ·cases h
  ·cases h
 ·cases h
theorem QX {t:TypeId} {i:TyI} (hi:TyOk P t i) {cs:Array Value} {off:Nat} {vs:List Value} (hl:vs.length=i.sz) (hc: ∀j v,vs[j]?=some v→cs[off+j]?=some v):
 (part t cs off).run P w= .ok (mkV i vs) w:=by
 unfold part mkV;rw [Sem.run_bind,hi.isAgg];simp only [Result.andThen_ok];by_cases hk:i.k.isAgg=true
 ·rw [if_pos hk,if_pos hk];simp only [Sem.run_bind,hi.run_size,Result.andThen_ok,Sem.run_pure];congr 2
  apply Array.ext'
  rw [←hl];apply List.ext_getElem?
  intro j;simp only [Array.toList_extract,List.extract_eq_take_drop,List.getElem?_take,List.getElem?_drop,Array.getElem?_toList];by_cases hj:j<vs.length
  ·rw [if_pos (by omega),hc j _ (List.getElem?_eq_getElem hj),List.getElem?_eq_getElem hj]
  ·rw [if_neg (by omega),List.getElem?_eq_none (by omega)]
 ·rw [if_neg hk,if_neg hk];have h1:vs.length=1:=by rw [hl,hi.one (by simpa using hk)]
  obtain ⟨v,rfl⟩: ∃v,vs=[v]:=by
   match vs,h1 with
   |[v],_=>exact ⟨v,rfl⟩
  have:=hc 0 v rfl
  simp only [Nat.add_zero] at this;simp [this]
def Jw:AV→Option (List AV)
 | .agg cs=>some cs
 | .lit (.agg vs)=>some (vs.toList.map .lit)
 | .lit (.tuple _)| .arr .. | .tup _| .junk=>none
 |a=>some [a]
theorem Uu {a:AV} {cs:List AV} (h:Jw a=some cs) {v:Value} (hv:RV O w μ a v):RVs O w μ cs v.cells.toList:=by
 have one: ∀{a:AV} {v:Value},RV O w μ a v→v.cells= #[v]→some [a]=some cs→RVs O w μ cs v.cells.toList:=by
  intro a v hv hc h;injection h with h;subst h
  rw [hc];exact .cons hv .nil
 cases hv with
 |agg h1 h2=>
  simp only [Jw] at h;injection h with h;subst h
  exact ⟨by simpa [Value.cells] using h1,fun j a v ha hv=>h2 j a v ha (by simpa [Value.cells] using hv)⟩
 |lit _=>
  cases v <;>simp only [Jw] at h <;>first|exact one (.lit _) rfl h|(cases h;done)|skip
  injection h with h;subst h
  refine ⟨by simp [Value.cells],fun j a v ha hv=> ?_⟩;simp only [List.getElem?_map,Option.map_eq_some_iff] at ha;obtain ⟨u,hu,rfl⟩:=ha;simp only [Value.cells] at hv;rw [hu] at hv;injection hv with hv;subst hv;exact .lit _
 |junk|arr|tup=>simp only [Jw] at h;cases h
 |sl a0 a1 a2 a3 a4 a5 a6 a7 a8=>exact one (.sl a0 a1 a2 a3 a4 a5 a6 a7 a8) rfl h
 |rowNil a1 a2=>exact one (.rowNil a1 a2) rfl h
 |row a1 a2 a3 a4 a5=>exact one (.row a1 a2 a3 a4 a5) rfl h
 |rowE a1 a2 a3=>exact one (.rowE a1 a2 a3) rfl h
 |ptr a1=>exact one (.ptr a1) rfl h
 |ip a1 a2 a3 a4 a5=>exact one (.ip a1 a2 a3 a4 a5) rfl h
 |fn a1 a2 a3 a4=>exact one (.fn a1 a2 a3 a4) rfl h
 |iface a0 a1=>exact one (.iface a0 a1) rfl h
 |mapv a1=>exact one (.mapv a1) rfl h
def gQ (tab:Tab) (t:TypeId) (x:AV) (k:Nat):Option (Prop×AV):=
 match jY tab t k with
 |some (off,ft)=>match tab ft with
  |some fi=>match x with
   | .agg cs=>(mkT tab fi ((cs.drop off).take fi.sz)).map fun r=>(off+fi.sz≤cs.length,r)
   | .lit (.agg vs)=>(mkT tab fi (((vs.toList.map .lit).drop off).take fi.sz)).map fun r=>(off+fi.sz≤vs.toList.length,r)
   |_=>none
  |none=>none
 |none=>none
theorem Uh (hT:zI P tab) {t k off ft:Nat} (hf:jY tab t k=some (off,ft)) {fi:TyI} (hfi:tab ft=some fi) {cs:List AV} {r:AV} (hm:mkT tab fi ((cs.drop off).take fi.sz)=some r) (hq:off+fi.sz≤cs.length)
 {vs:List Value} (hv:RVs O w μ cs vs): ∃u,(Instr.field t (.agg vs.toArray) k).run P w= .ok u w∧RV O w μ r u:=by
 obtain ⟨fields,f,h1,h2,rfl,rfl⟩:=K3 hT hf;have hr:=(hv.drop f.offset).take fi.sz
 refine ⟨_, ?_,pq hm hr⟩
 have hp:=QX (w:=w) (hT _ _ hfi) (cs:=vs.toArray) (off:=f.offset) (vs:=(vs.drop f.offset).take fi.sz) (by rw [←hr.1];simp;omega) (fun j v hv=>by
  rw [List.getElem?_take] at hv;split at hv
  ·simpa using hv
  ·cases hv)
 simp [Instr.field,run_underlying h1,h2,asAgg,hp]
theorem tY (hT:zI P tab) {t:TypeId} {x r:AV} {k:Nat} {q:Prop} (h:gQ tab t x k=some (q,r)) (hq:q) {v:Value} (hv:RV O w μ x v):
 ∃u,(Instr.field t v k).run P w= .ok u w∧RV O w μ r u:=by
 unfold gQ at h;split at h
 ·rename_i off ft hf;split at h
  ·rename_i fi hfi;split at h
   ·rename_i cs;simp only [Option.map_eq_some_iff,Prod.mk.injEq] at h;obtain ⟨r,hm,rfl,rfl⟩:=h;cases hv with
    |agg g1 g2=>exact Uh hT hf hfi hm hq ⟨g1,g2⟩
   ·rename_i vs;simp only [Option.map_eq_some_iff,Prod.mk.injEq] at h;obtain ⟨r,hm,rfl,rfl⟩:=h;cases hv
    exact Uh hT hf hfi hm (by simpa using hq) (vs:=vs.toList) ⟨by simp,fun j a v ha hv=>by
     simp only [List.getElem?_map,Option.map_eq_some_iff] at ha;obtain ⟨u,hu,rfl⟩:=ha;rw [hu] at hv;injection hv with hv;subst hv;exact .lit _⟩
   ·cases h
  ·cases h
 ·cases h
def Vj (tab:Tab) (t:TypeId) (x ix:AV):Ans:=
 match tab t,ix with
 |some i, .lit (.int _ z)=>match i.k,x with
  | .slice e, .sl sz n _ f=>match tab e with
    |some ei=>match Nat.beq ei.sz sz with
     |true=>some (0≤z∧z<n, .ip (f z.toNat))
     |false=>none
    |none=>none
  | .slice e, .row id sz off n _=>match tab e with
    |some ei=>match Nat.beq ei.sz sz with
     |true=>some (0≤z∧z<n, .ptr id sz (off+z.toNat) 0)
     |false=>none
    |none=>none
  | .arr n e, .ptr id sz k o=>match tab e with
    |some ei=>match Nat.beq ei.sz sz,Nat.beq o 0 with
     |true,true=>some (0≤z∧z<n, .ptr id sz (k+z.toNat) 0)
     |_,_=>some (0≤z∧z<n, .ptr id sz k (o+z.toNat*ei.sz))
    |none=>none
  | .arr n e, .ip cs=>match tab e with
    |some ei=>some (0≤z∧z<n, .ip (cs.drop (z.toNat*ei.sz)))
    |none=>none
  |_,_=>none
 |_,_=>none
theorem kb (hT:zI P tab) {t:TypeId} {x ix r:AV} {q:Prop} (h:Vj tab t x ix=some (q,r)) (hq:q) {v y:Value} (hv:RV O w μ x v) (hy:RV O w μ ix y):
 ∃u,(Instr.indexAt t v y).run P w= .ok u w∧RV O w μ r u:=by
 unfold Vj at h;split at h
 ·rename_i i kd z hi;have hu:=(hT t i hi).und
  cases hy
  split at h
  ·rename_i e sz n tt f hk;rw [hk] at hu;simp only [yz] at hu;split at h
   ·rename_i ei he;have hz:=(hT e ei he).run_size (w:=w)
    split at h
    ·rename_i hb;obtain rfl:=ZD hb;injection h with h;injection h with h1 h2;subst h1 h2
     obtain ⟨q1,q2⟩:=hq;cases hv with
     |sl ho hc hm ht g1 g2 g3 gz hA=>
      rename_i A c vs;obtain ⟨g,o,rfl,hg,hcell⟩:=hA (by omega);have hk0:z.toNat<n:=by omega
      have hle:(z.toNat+1)*ei.sz≤vs.length:=by rw [g1];exact Nat.mul_le_mul_right _ (by omega)
      rw [Nat.add_mul] at hle;refine ⟨.pointer (some ⟨g,o+z.toNat*ei.sz,none⟩), ?_, .ip (vs:=(vs.drop (z.toNat*ei.sz)).take ei.sz) (by rw [g2 _ hk0];simp;omega) (fun j a v ha hv=> ?_) hg ?_ (fun j u hu=> ?_)⟩
      ·simp [Instr.indexAt,asIntOf,run_underlying hu,q1,q2,hz,Addr.add_mid]
      ·rw [List.getElem?_take] at hv;split at hv
       ·exact g3 _ j a v hk0 ha (by simpa using hv)
       ·cases hv
      ·have h0:0<vs.length:=by omega
       exact World.block_lt_of_cell? w _ (hcell 0 _ (List.getElem?_eq_getElem h0))
      ·rw [List.getElem?_take] at hu;split at hu
       ·have:=hcell (z.toNat*ei.sz+j) u (by simpa using hu)
        rw [Nat.add_assoc];exact this
       ·cases hu
    ·cases h
   ·cases h
  ·rename_i e id sz off n cap hk;rw [hk] at hu;simp only [yz] at hu;split at h
   ·rename_i ei he;have hz:=(hT e ei he).run_size (w:=w)
    split at h
    ·rename_i hb;obtain rfl:=ZD hb;injection h with h;injection h with h1 h2;subst h1 h2
     obtain ⟨q1,q2⟩:=hq;cases hv with
     |rowNil h hc=>omega
     |rowE=>omega
     |row hm hn hc hcap hend=>
      refine ⟨_, ?_, .ptr hm⟩;simp [Instr.indexAt,asIntOf,run_underlying hu,q1,q2,hz,Addr.add_mid,Nat.add_mul]
    ·cases h
   ·cases h
  ·rename_i n e id sz k o hk;rw [hk] at hu;simp only [yz] at hu;split at h
   ·rename_i ei he;have hz:=(hT e ei he).run_size (w:=w)
    split at h
    ·rename_i hb ho;obtain rfl:=ZD hb;obtain rfl:=ZD ho;injection h with h;injection h with h1 h2;subst h1 h2
     obtain ⟨q1,q2⟩:=hq;cases hv with
     |ptr hm=>
      refine ⟨_, ?_, .ptr hm⟩;simp [Instr.indexAt,asIntOf,run_underlying hu,q1,q2,hz,Addr.add_mid,Nat.add_mul,Instr.sureAddr]
    ·injection h with h;injection h with h1 h2;subst h1 h2
     obtain ⟨q1,q2⟩:=hq;cases hv with
     |ptr hm=>
      refine ⟨_, ?_, .ptr hm⟩;simp [Instr.indexAt,asIntOf,run_underlying hu,q1,q2,hz,Addr.add_mid,Nat.add_assoc,Instr.sureAddr]
   ·cases h
  ·rename_i n e cs hk;rw [hk] at hu;simp only [yz] at hu;split at h
   ·rename_i ei he;have hz:=(hT e ei he).run_size (w:=w)
    injection h with h;injection h with h1 h2;subst h1 h2
    obtain ⟨q1,q2⟩:=hq;cases hv with
    |ip g1 g2 g3 g4 g5=>
     rename_i g o vs;refine ⟨.pointer (some ⟨g,o+z.toNat*ei.sz,none⟩), ?_, .ip (vs:=vs.drop (z.toNat*ei.sz)) (by simp [g1]) (fun j a v ha hv=>g2 _ a v (by simpa using ha) (by simpa using hv)) g3 g4 (fun j u hu=> ?_)⟩
     ·simp [Instr.indexAt,asIntOf,run_underlying hu,q1,q2,hz,Addr.add_mid,Instr.sureAddr]
     ·rw [Nat.add_assoc];exact g5 _ u (by simpa using hu)
   ·cases h
  ·cases h
 ·cases h
def GG (tab:Tab) (t:TypeId) (x ix:AV):Ans:=
 match tab t,ix with
 |some i, .lit (.int _ z)=>match i.k,x with
  | .arr n e, .arr sz m f=>match tab e with
    |some ei=>match Nat.beq ei.sz sz,Nat.beq m n with
     |true,true=>(mkT tab ei (f z.toNat)).map fun r=>(0≤z∧z<n,r)
     |_,_=>none
    |none=>none
  | .arr n e, .agg cs=>match tab e with
    |some ei=>(mkT tab ei ((cs.drop (z.toNat*ei.sz)).take ei.sz)).map fun r=>(0≤z∧z<n∧cs.length=n*ei.sz,r)
    |none=>none
  |_,_=>none
 |_,_=>none
theorem Uv (hT:zI P tab) {t n e:TypeId} {i ei:TyI} (hu:P.underlying t=some (.array n e)) (he:tab e=some ei) {z:Int} {kd:IntKind} (q1:0≤z) (q2:z<n) {vs:List Value} {cs:List AV} {r:AV} (hm:mkT tab ei cs=some r)
 {us:List Value} (hr:RVs O w μ cs us) (hl:us.length=ei.sz) (hc: ∀j v,us[j]?=some v→vs[z.toNat*ei.sz+j]?=some v):
 ∃u,(Instr.index t (.agg vs.toArray) (.int kd z)).run P w= .ok u w∧RV O w μ r u:=by
 have hz:=(hT e ei he).run_size (w:=w)
 have hp:=QX (w:=w) (hT e ei he) (cs:=vs.toArray) (off:=z.toNat*ei.sz) hl (by simpa using hc);refine ⟨_, ?_,pq hm hr⟩;simp [Instr.index,asIntOf,run_underlying hu,q1,q2,hz,hp]
theorem T0 (hT:zI P tab) {t:TypeId} {x ix r:AV} {q:Prop} (h:GG tab t x ix=some (q,r)) (hq:q) {v y:Value} (hv:RV O w μ x v) (hy:RV O w μ ix y):
 ∃u,(Instr.index t v y).run P w= .ok u w∧RV O w μ r u:=by
 unfold GG at h;split at h
 ·rename_i i kd z hi;have hu:=(hT t i hi).und
  cases hy
  split at h
  ·rename_i n e sz m f hk;rw [hk] at hu;split at h
   ·rename_i ei he;split at h
    ·rename_i hb hb2;obtain rfl:=ZD hb;obtain rfl:=ZD hb2;simp only [Option.map_eq_some_iff,Prod.mk.injEq] at h;obtain ⟨r,hm,rfl,rfl⟩:=h;obtain ⟨q1,q2⟩:=hq;cases hv with
     |arr g0 g1 g2 g3=>
      rename_i vs;have hk0:z.toNat<m:=by omega
      have hle:(z.toNat+1)*ei.sz≤vs.length:=by rw [g1];exact Nat.mul_le_mul_right _ (by omega)
      rw [Nat.add_mul] at hle
      have hg: ∀j v,((vs.drop (z.toNat*ei.sz)).take ei.sz)[j]?=some v→vs[z.toNat*ei.sz+j]?=some v:=fun j v hv=>by
       rw [List.getElem?_take] at hv;split at hv
       ·simpa using hv
       ·cases hv
      exact Uv hT (i:=i) hu he q1 q2 hm (us:=(vs.drop (z.toNat*ei.sz)).take ei.sz) ⟨by rw [g2 _ hk0];simp;omega,fun j a v ha hv=>(g3 _ j a v hk0 ha (hg j v hv)).up⟩ (by simp;omega) hg
    ·cases h
   ·cases h
  ·rename_i n e cs hk;rw [hk] at hu;split at h
   ·rename_i ei he;simp only [Option.map_eq_some_iff,Prod.mk.injEq] at h;obtain ⟨r,hm,rfl,rfl⟩:=h;obtain ⟨q1,q2,q3⟩:=hq;cases hv with
    |agg g1 g2=>
     rename_i vs;have hle:(z.toNat+1)*ei.sz≤vs.length:=by rw [←g1,q3];exact Nat.mul_le_mul_right _ (by omega)
     rw [Nat.add_mul] at hle
     refine Uv hT (i:=i) hu he q1 q2 hm (us:=(vs.drop (z.toNat*ei.sz)).take ei.sz) (RVs.take (RVs.drop (cs:=cs) (vs:=vs) ⟨g1,g2⟩ _) _) (by simp;omega) fun j v hv=>by
      rw [List.getElem?_take] at hv;split at hv
      ·simpa using hv
      ·cases hv
   ·cases h
  ·cases h
 ·cases h
def x_:Option AV→Option (Option Int)
 |none=>some none
 |some (.lit (.int _ z))=>some (some z)
 |some _=>none
def zK (lo:Option Int):Nat:=match lo with|none=>0|some z=>z.toNat
def Zh (hi:Option Int) (n:Nat):Nat:=match hi with|none=>n|some z=>z.toNat
def zO (lo hi:Option Int) (n:Nat):Nat:=match lo,hi with|none,none=>n|none,some h=>h.toNat|some l,none=>n - l.toNat|some l,some h=>h.toNat - l.toNat
def vV (lo:Option Int) (f:Nat→List AV):Nat→List AV:=match lo with|none=>f|some z=>fun k=>f (z.toNat+k)
def Yo (lo hi mx:Option Int) (n:Nat):Prop:=match lo,hi,mx with
 |none,none,none=>True
 |none,some h,none=>0≤h∧h≤n
 |some l,none,none=>0≤l∧l≤n
 |some l,some h,none=>0≤l∧l≤h∧h≤n
 |none,some h,some m=>0≤h∧h≤n∧m=h
 |some l,some h,some m=>0≤l∧l≤h∧h≤n∧m=h
 |_,none,some _=>False
theorem YR (lo hi:Option Int) (n:Nat):zO lo hi n=Zh hi n - zK lo:=by cases lo <;>cases hi <;>simp [zO,Zh,zK]
theorem kr (lo:Option Int) (f:Nat→List AV) (k:Nat):vV lo f k=f (zK lo+k):=by cases lo <;>simp [vV,zK]
theorem V9 {lo hi mx:Option Int} {n:Nat} (h:Yo lo hi mx n):zK lo≤Zh hi n∧Zh hi n≤n:=by
 cases lo <;>cases hi <;>cases mx <;>simp only [Yo] at h <;>simp only [zK,Zh] <;>first|exact h.elim|omega
def Ze (hi mx:Option Int) (c:Nat) (n:Nat):Nat:=match mx with|none=>c|some _=>Zh hi n
theorem XA {lo hi mx:Option AV} {l h m:Option Int} (hl:x_ lo=some l) (hh:x_ hi=some h) (hm:x_ mx=some m) {n c:Nat} (hc:n≤c) (ok:Yo l h m n) {b:Bool} {lv hv mv:Option Value}
 (rl: ∀a,lo=some a→ ∃v,lv=some v∧RV O w μ a v) (rln:lo=none→lv=none) (rh: ∀a,hi=some a→ ∃v,hv=some v∧RV O w μ a v) (rhn:hi=none→hv=none)
 (rm: ∀a,mx=some a→ ∃v,mv=some v∧RV O w μ a v) (rmn:mx=none→mv=none):
 (Instr.sliceBounds b n c lv hv mv).run P w= .ok (zK l,Zh h n,Ze h m c n) w:=by
 have get: ∀{x:Option AV} {z:Option Int} {v:Option Value},x_ x=some z→(∀a,x=some a→ ∃u,v=some u∧RV O w μ a u)→(x=none→v=none)→(z=none∧v=none)∨ ∃k i,z=some i∧v=some (.int k i):=by
  intro x z v hx h1 h2;unfold x_ at hx;split at hx
  ·injection hx with hx;exact .inl ⟨hx.symm,h2 rfl⟩
  ·rename_i k i;injection hx with hx
   obtain ⟨u,rfl,hu⟩:=h1 _ rfl;cases hu
   exact .inr ⟨k,i,hx.symm,rfl⟩
  ·cases hx
 rcases get hl rl rln with ⟨rfl,rfl⟩|⟨kl,il,rfl,rfl⟩ <;>rcases get hh rh rhn with ⟨rfl,rfl⟩|⟨kh,ih,rfl,rfl⟩ <;>rcases get hm rm rmn with ⟨rfl,rfl⟩|⟨km,im,rfl,rfl⟩ <;>simp only [Yo] at ok
 ·simp [Instr.sliceBounds,zK,Zh,Ze]
 ·simp [Instr.sliceBounds,zK,Zh,Ze,run_sliceBound,ok,(by omega:ih≤(c:Int))]
 ·obtain ⟨o1,o2,rfl⟩:=ok;have e:(im.toNat:Int)=im:=Int.toNat_of_nonneg o1
  simp [Instr.sliceBounds,zK,Zh,Ze,run_sliceBound,o1,e,(by omega:im≤(c:Int))]
 ·obtain ⟨o1,o2⟩:=ok;simp [Instr.sliceBounds,zK,Zh,Ze,run_sliceBound,o1,o2]
 ·obtain ⟨o1,o2,o3⟩:=ok;have e:(ih.toNat:Int)=ih:=Int.toNat_of_nonneg (by omega)
  simp [Instr.sliceBounds,zK,Zh,Ze,run_sliceBound,o1,o2,e,(by omega:0≤ih),(by omega:ih≤(c:Int))]
 ·obtain ⟨o1,o2,o3,rfl⟩:=ok;have e:(im.toNat:Int)=im:=Int.toNat_of_nonneg (by omega)
  simp [Instr.sliceBounds,zK,Zh,Ze,run_sliceBound,o1,o2,e,(by omega:0≤im),(by omega:im≤(c:Int))]
def XR (lo:Option Int) (off:Nat):Nat:=match lo with|none=>off|some z=>off+z.toNat
def XU (mx:Option Int) (cap:Option Nat) (n l:Nat):Option Nat:=match mx,cap with|some _,_=>some n|none,none=>none|none,some c=>some (c - l)
def qR (tab:Tab) (H:List zb) (t:TypeId) (x:AV) (lo hi mx:Option AV):Ans:=
 match tab t,x_ lo,x_ hi,x_ mx with
 |some i,some l,some h,some m=>match i.k,x with
  | .slice e, .sl sz n tt f=>match tab e with
    |some ei=>match Nat.beq ei.sz sz with
     |true=>some (Yo l h m n, .sl sz (zO l h n) (match m,h with|some _,_=>true|none,none=>tt|none,some _=>false) (vV l f))
     |false=>none
    |none=>none
  | .slice e, .lit (.slice none 0 0)=>match tab e with
    |some _=>some (Yo l h m 0, .lit (.slice none 0 0))
    |none=>none
  | .slice e, .row id sz off n cap=>match tab e with
    |some ei=>match Nat.beq ei.sz sz with
     |true=>some (Yo l h m n, .row id sz (XR l off) (zO l h n) (XU m cap (zO l h n) (zK l)))
     |false=>none
    |none=>none
  | .arr N e, .ptr id sz k o=>match tab e,nth H id with
    |some ei,some ob=>match Nat.beq ei.sz sz,Nat.beq k 0,Nat.beq o 0,Nat.beq ob.n N,ob.st,Nat.beq ob.sz sz with
     |true,true,true,true,0,true=>some (Yo l h m N∧zK l<N, .row id sz (zK l) (zO l h N) (some (Ze h m N N - zK l)))
     |_,_,_,_,_,_=>none
    |_,_=>none
  | .str, .lit (.string s)=>some (Yo l h m s.size∧m=none, .lit (.string (s.extract (zK l) (Zh h s.size))))
  |_,_=>none
 |_,_,_,_=>none
theorem J1 (hT:zI P tab) {t:TypeId} {x r:AV} {lo hi mx:Option AV} {q:Prop} (hs:qR tab H t x lo hi mx=some (q,r)) (hq:q) (hH:HRel μ X H w) {v:Value} (hv0:RV (OO X H μ) w μ x v) {lv hv mv:Option Value}
 (rl: ∀a,lo=some a→ ∃v,lv=some v∧RV (OO X H μ) w μ a v) (rln:lo=none→lv=none) (rh: ∀a,hi=some a→ ∃v,hv=some v∧RV (OO X H μ) w μ a v) (rhn:hi=none→hv=none)
 (rm: ∀a,mx=some a→ ∃v,mv=some v∧RV (OO X H μ) w μ a v) (rmn:mx=none→mv=none):
 ∃u,(Instr.sliceAt t v lv hv mv).run P w= .ok u w∧RV (OO X H μ) w μ r u:=by
 unfold qR at hs;split at hs
 ·rename_i i l h m hi1 hl hh hm;have hu:=(hT t i hi1).und
  split at hs
  ·rename_i e sz n tt f hk;rw [hk] at hu;simp only [yz] at hu;split at hs
   ·rename_i ei he;have hz:=(hT e ei he).run_size (w:=w)
    split at hs
    ·rename_i hb;obtain rfl:=ZD hb;injection hs with hs;injection hs with h1 h2;subst h1 h2
     cases hv0 with
     |sl go g0 gm gt g1 g2 g3 gz hA=>
      rename_i A c vs;obtain ⟨le1,le2⟩:=V9 hq;have hrun:=XA (P:=P) (b:=true) hl hh hm g0 hq rl rln rh rhn rm rmn;have hcc:Zh h n≤Ze h m c n∧Ze h m c n≤c:=by unfold Ze;split <;>omega
      refine ⟨.slice (if Ze h m c n=zK l then A else A.map (·.add (zK l*ei.sz))) (Zh h n - zK l) (Ze h m c n - zK l), ?_, ?_⟩
      ·simp [Instr.sliceAt,run_underlying hu,Instr.slice,hrun,hz]
      ·rw [YR];have hle:(zK l+(Zh h n - zK l))*ei.sz≤vs.length:=by rw [g1];exact Nat.mul_le_mul_right _ (by omega)
       rw [Nat.add_mul] at hle;refine .sl (vs:=(vs.drop (zK l*ei.sz)).take ((Zh h n - zK l)*ei.sz)) (fun u hu=>go u (List.mem_of_mem_drop (List.mem_of_mem_take hu))) (by omega) (by omega) ?_ (by simp;omega) (fun k hk=>by rw [kr];exact g2 _ (by omega)) (fun k j a v hk ha hv=> ?_) gz fun hn=> ?_
       ·intro ht;cases m with
        |some m=>simp [Ze]
        |none=>
         cases h with
         |none=>simp at ht;simp [Ze,Zh,gt ht]
         |some h=>simp at ht
       ·rw [kr] at ha;rw [List.getElem?_take] at hv;split at hv
        ·exact g3 _ j a v (by omega) ha (by rw [Nat.add_mul,Nat.add_assoc];simpa using hv)
        ·cases hv
       ·obtain ⟨g,o,rfl,hg,hcell⟩:=hA (by omega);rw [if_neg (by omega)];refine ⟨g,o+zK l*ei.sz,by simp [Addr.add_mid],hg,fun j u hu=> ?_⟩;rw [List.getElem?_take] at hu;split at hu
        ·rw [Nat.add_assoc];exact hcell _ u (by simpa using hu)
        ·cases hu
    ·cases hs
   ·cases hs
  ·rename_i e hk;rw [hk] at hu;simp only [yz] at hu;split at hs
   ·rename_i ei he;have hz:=(hT e ei he).run_size (w:=w)
    injection hs with hs;injection hs with h1 h2;subst h1 h2
    cases hv0
    obtain ⟨le1,le2⟩:=V9 hq;have hrun:=XA (P:=P) (b:=true) hl hh hm (Nat.le_refl 0) hq rl rln rh rhn rm rmn;have hcc:Ze h m 0 0=0:=by unfold Ze;split <;>omega
    have h1:zK l=0:=by omega
    have h2:Zh h 0=0:=by omega
    refine ⟨_, ?_, .lit _⟩;simp [Instr.sliceAt,run_underlying hu,Instr.slice,hrun,hz,hcc,h1,h2]
   ·cases hs
  ·rename_i e id sz off n cap hk;rw [hk] at hu;simp only [yz] at hu;split at hs
   ·rename_i ei he;have hz:=(hT e ei he).run_size (w:=w)
    split at hs
    ·rename_i hb;obtain rfl:=ZD hb;injection hs with hs;injection hs with h1 h2;subst h1 h2
     obtain ⟨le1,le2⟩:=V9 hq;rw [YR];have hoff:XR l off=off+zK l:=by cases l <;>rfl
     rw [hoff];cases hv0 with
     |rowNil g1 g2=>
      have hrun:=XA (P:=P) (b:=true) hl hh hm (Nat.le_refl 0) hq rl rln rh rhn rm rmn;have hcc:Ze h m 0 0=0:=by unfold Ze;split <;>omega
      have h1:zK l=0:=by omega
      have h2:Zh h 0=0:=by omega
      rw [h1,h2];refine ⟨.slice none 0 0, ?_, .rowNil g1 ?_⟩
      ·simp [Instr.sliceAt,run_underlying hu,Instr.slice,hrun,hz,hcc,h1,h2]
      ·unfold XU;split
       ·exact .inr rfl
       ·exact .inl rfl
       ·rcases g2 with g2|g2 <;>simp_all
     |rowE g1 g2 g3=>
      rename_i b mm oo;have hrun:=XA (P:=P) (b:=true) hl hh hm (Nat.le_refl 0) hq rl rln rh rhn rm rmn;have hcc:Ze h m 0 0=0:=by unfold Ze;split <;>omega
      have h1:zK l=0:=by omega
      have h2:Zh h 0=0:=by omega
      rw [h1,h2];refine ⟨.slice (some ⟨b,oo,none⟩) 0 0, ?_, .rowE g1 ?_ (by omega)⟩
      ·simp [Instr.sliceAt,run_underlying hu,Instr.slice,hrun,hz,hcc,h1,h2]
      ·unfold XU;split
       ·exact .inr rfl
       ·exact .inl rfl
       ·rcases g2 with g2|g2 <;>simp_all
     |row g1 g2 g3 g4 g5=>
      rename_i b mm c;have hrun:=XA (P:=P) (b:=true) hl hh hm g2 hq rl rln rh rhn rm rmn;have hcc:Zh h n≤Ze h m c n∧Ze h m c n≤c:=by unfold Ze;split <;>omega
      have hcap: ∀q,XU m cap (Zh h n - zK l) (zK l)=some q→Ze h m c n - zK l=q:=by
       intro q hq';unfold XU at hq';cases m with
       |some m=>simp at hq';simp [Ze,hq']
       |none=>
        cases cap with
        |none=>cases hq'
        |some cc=>simp at hq';simp [Ze,g4 cc rfl,hq']
      have hcend:XU m cap (Zh h n - zK l) (zK l)=none→off+zK l+(Ze h m c n - zK l)=mm:=by
       intro hq';unfold XU at hq';cases m with
       |some m=>simp at hq'
       |none=>
        cases cap with
        |none=>have:=g5 rfl;simp only [Ze] at hcc ⊢;omega
        |some cc=>simp at hq'
      by_cases hend:Ze h m c n=zK l
      ·have h0:Zh h n - zK l=0:=by omega
       refine ⟨.slice (some ⟨b,off*ei.sz,none⟩) (Zh h n - zK l) (Ze h m c n - zK l), ?_, ?_⟩
       ·simp [Instr.sliceAt,run_underlying hu,Instr.slice,hrun,hz,hend]
       ·by_cases hl0:zK l=0
        ·rw [hl0] at hcap hcend ⊢;rw [hl0] at h0;exact .row (off:=off+0) g1 (by omega) (by omega) (by simpa using hcap) (by simpa using hcend)
        ·rw [h0,show Ze h m c n - zK l=0 by omega];rw [h0,show Ze h m c n - zK l=0 by omega] at hcap;refine .rowE g1 ?_ (by omega);unfold XU at hcap ⊢;split
         ·exact .inr rfl
         ·exact .inl rfl
         ·have:=hcap _ rfl;exact .inr (by rw [←this])
      ·refine ⟨.slice (some ⟨b,(off+zK l)*ei.sz,none⟩) (Zh h n - zK l) (Ze h m c n - zK l), ?_, .row g1 (by omega) (by omega) hcap hcend⟩;simp [Instr.sliceAt,run_underlying hu,Instr.slice,hrun,hz,hend,Addr.add_mid,Nat.add_mul]
    ·cases hs
   ·cases hs
  ·rename_i N e id sz k o hk;rw [hk] at hu;simp only [yz] at hu;split at hs
   ·rename_i ei ob he hob;have hz:=(hT e ei he).run_size (w:=w)
    split at hs
    ·rename_i hb1 hb2 hb3 hb4 hst hb5;obtain rfl:=ZD hb1;obtain rfl:=ZD hb2;obtain rfl:=ZD hb3;have hb4:=ZD hb4;have hb5:=ZD hb5;injection hs with hs;injection hs with h1 h2;subst h1 h2
     obtain ⟨hq,hlt⟩:=hq;cases hv0 with
     |ptr g1=>
      rename_i b mm;obtain ⟨_,cur,hin⟩:=hH.at_ hob (by omega) g1;have hnm:=hin.nle;obtain ⟨le1,le2⟩:=V9 hq;have hrun:=XA (P:=P) (b:=false) hl hh hm (Nat.le_refl N) hq rl rln rh rhn rm rmn;have hcc:Zh h N≤Ze h m N N∧Ze h m N N≤N:=by unfold Ze;split <;>omega
      rw [YR];refine ⟨.slice (some (if Ze h m N N=zK l then ⟨b,0,none⟩ else ⟨b,zK l*ei.sz,none⟩)) (Zh h N - zK l) (Ze h m N N - zK l), ?_, ?_⟩
      ·simp [Instr.sliceAt,run_underlying hu,hrun,hz,Instr.sureAddr,Addr.add_mid]
      ·by_cases hend:Ze h m N N=zK l
       ·by_cases hl0:zK l=0
        ·rw [if_pos hend,hl0];have:=RV.row (O:=OO X H μ) (w:=w) (sz:=ei.sz) (off:=0) (n:=Zh h N - 0) (c:=Ze h m N N - 0) (cap:=some (Ze h m N N - 0)) g1 (by omega) (by omega) (by simp) (fun h=>by cases h)
         simpa using this
        ·rw [if_pos hend,show Zh h N - zK l=0 by omega,show Ze h m N N - zK l=0 by omega];exact .rowE g1 (.inr rfl) hl0
       ·rw [if_neg hend];exact .row g1 (by omega) (by omega) (by simp) (fun h=>by cases h)
    ·cases hs
   ·cases hs
  ·rename_i s hk;rw [hk] at hu;simp only [yz] at hu;injection hs with hs;injection hs with h1 h2;subst h1 h2
   cases hv0
   obtain ⟨hq,rfl⟩:=hq
   have hmx:mx=none:=by
    cases mx with
    |none=>rfl
    |some a=>unfold x_ at hm;split at hm <;>simp_all
   subst hmx;have hrun:=XA (P:=P) (b:=false) hl hh hm (Nat.le_refl s.size) hq rl rln rh rhn rm rmn;have:=rmn rfl
   subst this;refine ⟨_, ?_, .lit _⟩;simp [Instr.sliceAt,run_underlying hu,Instr.slice,hrun]
  ·cases hs
 ·cases hs
def ZX {α:Type} (cells:List α) (off:Nat) (cs:List α):List α:=cells.take off++cs++cells.drop (off+cs.length)
theorem ql {α:Type} (cells:List α) (off:Nat) (cs:List α) (h:off+cs.length≤cells.length):(ZX cells off cs).length=cells.length:=by
 simp [ZX];omega
theorem RVs.splice_ {cells cs:List AV} {us vs:List Value} {off:Nat} (h:RVs O w μ cells us) (h':RVs O w μ cs vs):RVs O w μ (ZX cells off cs) (ZX us off vs):=by
 unfold ZX;rw [h'.1];exact ((h.take _).append h').append (h.drop _)
theorem gF (L:List Value) (k:Nat) (v:Value) (vs:List Value) (h:k<L.length):ZX (L.set k v) (k+1) vs=ZX L k (v::vs):=by
 unfold ZX
 have h1:(L.set k v).take (k+1)=L.take k++[v]:=by
  rw [List.take_succ_eq_append_getElem (by simpa using h),List.getElem_set_self,List.take_set_of_le (Nat.le_refl _)]
 rw [h1,List.drop_set_of_lt (by omega)];simp [Nat.add_comm,Nat.add_left_comm]
theorem Ki (off:Nat): ∀(vs:List Value) (j:Nat) (cells:Array Value),off+j+vs.length≤cells.size→
 (((vs.zipIdx j).foldl (fun cs (c,j)=>cs.setIfInBounds (off+j) c) cells:Array Value)).toList=ZX cells.toList (off+j) vs
 |[],j,cells,h=>by simp [ZX]
 |v::vs,j,cells,h=>by
  simp only [List.zipIdx_cons,List.foldl_cons];rw [Ki off vs (j+1) _ (by simp at h ⊢;omega)];simp at h
  rw [Array.toList_setIfInBounds];exact gF _ _ v vs (by simp;omega)
def U1 (place:Nat→Option (Nat×Nat)):List AV→List (Nat×AV)→Option (List AV)
 |cells,[]=>some cells
 |cells,(i,a)::rest=>match place i,Jw a with
  |some (off,size),some cs=>match Nat.beq cs.length size,Nat.ble (off+size) cells.length with
   |true,true=>U1 place (ZX cells off cs) rest
   |_,_=>none
  |_,_=>none
theorem Vm {place place':Nat→Option (Nat×Nat)} (hp: ∀i x,place i=some x→place' i=some x): ∀(parts:List (Nat×AV)) (cells r:List AV) (us:Array Value) (vparts:List (Nat×Value)),U1 place cells parts=some r→RVs O w μ cells us.toList→
 parts.length=vparts.length→(∀(j:Nat) i a i' v,parts[j]?=some (i,a)→vparts[j]?=some (i',v)→i=i'∧RV O w μ a v)→ ∃rs:Array Value,Instr.fill place' us vparts=some rs∧RVs O w μ r rs.toList
 |[],cells,r,us,[],h,hr,hl,hv=>by
  simp only [U1] at h;injection h with h;subst h
  exact ⟨us,rfl,hr⟩
 |[],cells,r,us,_::_,h,hr,hl,hv=>by simp at hl
 |_::_,cells,r,us,[],h,hr,hl,hv=>by simp at hl
 |(i,a)::rest,cells,r,us,(i',v)::vrest,h,hr,hl,hv=>by
  obtain ⟨rfl,hav⟩:=hv 0 i a i' v rfl rfl;simp only [U1] at h;split at h
  ·rename_i off size cs hpl hcs;split at h
   ·rename_i h1 h2;have h1:=ZD h1;have h2:=Nat.ble_eq.mp h2;have hc:=Uu hcs hav;have hsz:v.cells.size=size:=by rw [←h1,hc.1];simp
    have hus:us.size=cells.length:=by rw [hr.1];simp
    have hf:=Ki off v.cells.toList 0 us (by simp;omega);simp only [Nat.add_zero] at hf
    have hz:v.cells.zipIdx.foldl (fun cs (c,j)=>cs.setIfInBounds (off+j) c) us=(v.cells.toList.zipIdx 0).foldl (fun cs (c,j)=>cs.setIfInBounds (off+j) c) us:=by
     rw [←Array.foldl_toList,Array.toList_zipIdx]
    obtain ⟨rs,g1,g2⟩:=Vm hp rest _ r (v.cells.zipIdx.foldl (fun cs (c,j)=>cs.setIfInBounds (off+j) c) us) vrest h (by rw [hz,hf];exact hr.splice_ hc) (by simpa using hl) fun j i a i' v ha hv'=>hv (j+1) i a i' v (by simpa using ha) (by simpa using hv')
    refine ⟨rs, ?_,g2⟩;simp only [Instr.fill,hp _ _ hpl,hsz];rw [if_neg (by simp;omega)];exact g1
   ·cases h
  ·cases h
theorem xX {α:Type} (n:Nat) (l:List α) (k j:Nat) (hk:k<n) (hj:j<l.length):(List.replicate n l).flatten[k*l.length+j]?=l[j]?:=by
 induction n generalizing k with
 |zero=>omega
 |succ n ih=>
  rw [List.replicate_succ,List.flatten_cons];cases k with
  |zero=>rw [List.getElem?_append_left (by omega)];simp
  |succ k=>
   rw [List.getElem?_append_right (by rw [Nat.add_mul];omega)];rw [show (k+1)*l.length+j - l.length=k*l.length+j by rw [Nat.add_mul];omega];exact ih k (by omega)
def GQ (tab:Tab) (t:TypeId) (parts:List (Nat×AV)):Option AV:=
 match tab t with
 |some i=>match i.k with
  | .struct fs=>if (fs.all fun p=>(tab p.2).isSome)=true then (U1 (fun k=>(nth fs k).bind fun p=>(tab p.2).map fun fi=>(p.1,fi.sz)) (i.zero.map .lit) parts).map .agg else none
  | .arr n e=>match tab e with
    |some ei=>match parts with
     |[]=>match Nat.beq i.zero.length ei.sz with
      |true=>some (.arr ei.sz n fun _=>i.zero.map .lit)
      |false=>none
     |_=>(U1 (fun k=>some (k*ei.sz,ei.sz)) ((List.replicate n (i.zero.map AV.lit)).flatten) parts).map .agg
    |none=>none
  |_=>none
 |none=>none
theorem RVs.lits (vs:List Value):RVs O w μ (vs.map .lit) vs:=⟨by simp,fun j a v ha hv=>by
 simp only [List.getElem?_map,Option.map_eq_some_iff] at ha;obtain ⟨u,hu,rfl⟩:=ha;rw [hu] at hv;injection hv with hv;subst hv;exact .lit _⟩
theorem UF {fields:Array Field} {szs:List (Nat×Nat)}: ∀(l:List Field) (szs:List (Nat×Nat)),l.length=szs.length→(∀(j:Nat) (f:Field) (p:Nat×Nat),l[j]?=some f→szs[j]?=some p→(do pure (f.offset,←sizeOf f.type):Sem (Nat×Nat)).run P w= .ok p w)→
 (l.mapM fun f=>(do pure (f.offset,←sizeOf f.type):Sem (Nat×Nat))).run P w= .ok szs w
 |[],[],_,_=>by simp
 |[],_::_,h,_=>by simp at h
 |_::_,[],h,_=>by simp at h
 |f::l,p::szs,h,hr=>by
  have h0:=hr 0 f p rfl rfl;have ih:=UF (fields:=fields) (szs:=szs) l szs (by simpa using h) fun j f p hf hp=>hr (j+1) f p (by simpa using hf) (by simpa using hp)
  rw [List.mapM_cons,Sem.run_bind,h0];simp only [Result.andThen_ok,Sem.run_bind,ih,Sem.run_pure]
theorem Tv (hT:zI P tab) {t:TypeId} {parts:List (Nat×AV)} {r:AV} (h:GQ tab t parts=some r) {vparts:List (Nat×Value)} (hl:parts.length=vparts.length)
 (hv: ∀(j:Nat) i a i' v,parts[j]?=some (i,a)→vparts[j]?=some (i',v)→i=i'∧RV O w μ a v): ∃u,(Instr.build t vparts.toArray).run P w= .ok u w∧RV O w μ r u:=by
 unfold GQ at h;split at h
 ·rename_i i hi;have hty:=hT t i hi;obtain ⟨z,hz,hzc⟩:=hty.zero (w:=w);have hu:=hty.und;split at h
  ·rename_i fs hk;rw [hk] at hu;obtain ⟨fields,hf,hm⟩:=hu;split at h
   ·rename_i hall;simp only [Option.map_eq_some_iff] at h;obtain ⟨cs,hfill,rfl⟩:=h;have hzc':z.cells.toList=i.zero:=by rw [hzc];unfold TyI.zeroCells;rw [hk]
    let szs:List (Nat×Nat):=fs.map fun p=>(p.1,((tab p.2).map (·.sz)).getD 0)
    have hrun:=UF (P:=P) (w:=w) (fields:=fields) (szs:=szs) fields.toList szs (by simp [szs,←hm]) fun j f p hj hp=>by
     simp only [szs,←hm,List.map_map,List.getElem?_map,hj,Option.map_some,Option.some.injEq,Function.comp] at hp;have hmem:(f.offset,f.type)∈fs:=by rw [←hm];exact List.mem_map.2 ⟨f,List.mem_of_getElem? hj,rfl⟩
     have hs:=List.all_eq_true.1 hall _ hmem;obtain ⟨fi,hfi⟩:=Option.isSome_iff_exists.1 hs;simp only at hfi;rw [hfi] at hp;rw [←hp];simp [(hT _ _ hfi).run_size]
    obtain ⟨rs,g1,g2⟩:=Vm (w:=w) (O:=O) (μ:=μ) (place':=fun k=>szs.toArray[k]?) (fun k x hx=>by
     simp only [Option.bind_eq_some_iff,Option.map_eq_some_iff] at hx;obtain ⟨p,hp,fi,hfi,rfl⟩:=hx;rw [zH] at hp;simp [szs,hp,hfi]) parts _ cs z.cells vparts hfill (by rw [hzc'];exact RVs.lits _) hl hv
    refine ⟨.agg rs, ?_, .agg g2.1 g2.2⟩
    have hmm:(fields.mapM fun f=>(do pure (f.offset,←sizeOf f.type):Sem (Nat×Nat))).run P w= .ok szs.toArray w:=by
     rw [Array.mapM_eq_mapM_toList,Sem.run_map,hrun];rfl
    simp only [Instr.build,Sem.run_bind,hz,Result.andThen_ok,run_underlying hf,hmm,g1,Sem.run_pure]
   ·cases h
  ·rename_i n e hk;rw [hk] at hu;split at h
   ·rename_i ei he;split at h
    ·split at h
     ·rename_i hb;injection h with h
      subst h;have hzl:=ZD hb;have hv0:vparts=[]:=by simpa using hl.symm
      subst hv0;have hzc':z.cells.toList=(List.replicate n i.zero).flatten:=by rw [hzc];unfold TyI.zeroCells;rw [hk]
      refine ⟨.agg z.cells, ?_, ?_⟩
      ·simp only [yz] at hu;simp only [Instr.build,Sem.run_bind,hz,Result.andThen_ok,run_underlying hu,(hT e ei he).run_size,Sem.run_pure];simp [Instr.fill]
      ·have e1:z.cells=(z.cells.toList).toArray:=by simp
       rw [e1];refine .arr (fun u hu=>hty.zone u (by rw [←hzc];exact hu)) (by rw [hzc'];simp [hzl]) (fun k _=>by simp [hzl]) fun k j a v hk' ha hv'=> ?_
       rw [hzc',←hzl] at hv';simp only [List.getElem?_map,Option.map_eq_some_iff] at ha;obtain ⟨x,hx,rfl⟩:=ha;rw [xX n i.zero k j hk' (List.getElem?_eq_some_iff.1 hx).1,hx] at hv';injection hv' with hv';subst hv'
       exact .lit _
     ·cases h
    rename_i hnp;simp only [Option.map_eq_some_iff] at h;obtain ⟨cs,hfill,rfl⟩:=h;have hzc':z.cells.toList=(List.replicate n i.zero).flatten:=by rw [hzc];unfold TyI.zeroCells;rw [hk]
    obtain ⟨rs,g1,g2⟩:=Vm (w:=w) (O:=O) (μ:=μ) (place':=fun k=>some (k*ei.sz,ei.sz)) (fun k x hx=>hx) parts _ cs z.cells vparts hfill (by
     rw [hzc'];have:(List.replicate n (i.zero.map AV.lit)).flatten=((List.replicate n i.zero).flatten).map AV.lit:=by rw [List.map_flatten,List.map_replicate]
     rw [this];exact RVs.lits _) hl hv
    refine ⟨.agg rs, ?_, .agg g2.1 g2.2⟩;simp only [yz] at hu;simp only [Instr.build,Sem.run_bind,hz,Result.andThen_ok,run_underlying hu,(hT e ei he).run_size,g1,Sem.run_pure]
   ·cases h
  ·cases h
 ·cases h
def Q9 (n:Nat) (f:Nat→List AV):List UInt8:=(List.range n).map fun k=>match f k with|[.lit (.int .u8 x)]=>UInt8.ofNat x.toNat|_=>0
def V4 (n:Nat) (f:Nat→List AV):Prop:= ∀k,k<n→ ∃x:UInt8,f k=[.lit (.int .u8 x.toNat)]
def zcQ (tab:Tab) (src dst:TypeId) (x:AV):Ans:=
 match tab src,tab dst with
 |some si,some di=>match di.k,x with
  | .int k, .lit (.int _ z)=>some (True, .lit (.int k (k.wrap z)))
  | .str, .lit (.string s)=>some (True, .lit (.string s))
  | .str, .sl 1 n _ f=>match si.k with
    | .slice e=>match tab e with
      |some ei=>match ei.k with
       | .int .u8=>some (V4 n f, .lit (.string (str (Q9 n f))))
       |_=>none
      |none=>none
    |_=>none
  | .str, .lit (.slice none 0 0)=>match si.k with
    | .slice e=>match tab e with
      |some ei=>match ei.k with
       | .int .u8=>some (True, .lit (.string (str [])))
       |_=>none
      |none=>none
    |_=>none
  |_,_=>none
 |_,_=>none
theorem zaX {n:Nat} {f:Nat→List AV} (h:V4 n f) {v:Value} {t:Bool} (hv:RV O w μ (.sl 1 n t f) v):Sl kU8 w O v (Q9 n f):=by
 cases hv with
 |sl go g0 gm gt g1 g2 g3 gz hA=>
  rename_i A c vs;have hlen:(Q9 n f).length=n:=by simp [Q9]
  refine ⟨A,c,by rw [hlen],by rw [hlen];exact g0,gm,fun hx=> ?_⟩;obtain ⟨g,o,rfl,hg,hcell⟩:=hA (fun h=>hx (List.eq_nil_of_length_eq_zero (by rw [hlen];exact h)));refine ⟨_,vs,rfl,hg,Reps.u8_map.2 ?_,fun j u hu=>by rw [Addr.add_mid];exact hcell j u hu⟩;apply List.ext_getElem?
  intro k;by_cases hk:k<n
  ·obtain ⟨x,hx⟩:=h k hk;have hv:=g3 k 0 (.lit (.int .u8 x.toNat)) (vs[k]'(by omega)) hk (by rw [hx];rfl) (by simp [show k<vs.length by omega]);rw [List.getElem?_eq_getElem (by omega)];simp only [Q9,List.map_map,List.getElem?_map,List.getElem?_range hk,Option.map_some,Function.comp,hx];generalize vs[k]'(by omega)=vk at hv;cases hv
   simp
  ·rw [List.getElem?_eq_none (by omega),List.getElem?_eq_none (by simp [Q9];omega)]
theorem GM (hT:zI P tab) {src dst:TypeId} {x r:AV} {q:Prop} (h:zcQ tab src dst x=some (q,r)) (hq:q) {v:Value} (hv:RV O w μ x v): ∃u,(convert src dst v).run P w= .ok u w∧RV O w μ r u:=by
 unfold zcQ at h;split at h
 ·rename_i si di hs hd;have hsu:=(hT _ _ hs).und
  obtain ⟨ds,hds,_⟩:=(hT _ _ hs).row;have hdu:=(hT _ _ hd).und
  split at h
  ·rename_i k kk z hk;injection h with h;injection h with h1 h2;subst h1 h2
   rw [hk] at hdu;cases hv
   refine ⟨_, ?_, .lit _⟩;simp only [yz] at hdu;simp only [convert,Sem.run_bind,run_underlying hds,run_underlying hdu,Result.andThen_ok];cases ds <;>simp [Conv.intToInt]
  ·rename_i s hk;injection h with h;injection h with h1 h2;subst h1 h2
   rw [hk] at hdu;cases hv
   refine ⟨_, ?_, .lit _⟩;simp only [yz] at hdu;simp only [convert,Sem.run_bind,run_underlying hds,run_underlying hdu,Result.andThen_ok];cases ds <;>simp
  ·rename_i n tt f hk;split at h
   ·rename_i e hse;split at h
    ·rename_i ei he;split at h
     ·rename_i hek;injection h with h;injection h with h1 h2;subst h1 h2
      rw [hk] at hdu;rw [hse] at hsu;have heu:=(hT _ _ he).und
      rw [hek] at heu;exact ⟨_,TD hsu heu hdu (zaX hq hv), .lit _⟩
     ·cases h
    ·cases h
   ·cases h
  ·rename_i hk;split at h
   ·rename_i e hse;split at h
    ·rename_i ei he;split at h
     ·rename_i hek;injection h with h;injection h with h1 h2;subst h1 h2
      rw [hk] at hdu;rw [hse] at hsu;have heu:=(hT _ _ he).und
      rw [hek] at heu;cases hv
      exact ⟨_,TD hsu heu hdu (Sl.nil_ kU8 w (fun _=>False)), .lit _⟩
     ·cases h
    ·cases h
   ·cases h
  ·cases h
 ·cases h
def zi2 (tab:Tab) (t:TypeId) (x:AV):Option AV:=
 match tab t with
 |some i=>match i.k,x with
  | .slice _, .sl _ n _ _=>some (.lit (.int .i64 n))
  | .slice _, .row _ _ _ n _=>some (.lit (.int .i64 n))
  | .slice _, .lit (.slice none 0 0)=>some (.lit (.int .i64 0))
  | .arr n _,_=>some (.lit (.int .i64 n))
  | .str, .lit (.string s)=>some (.lit (.int .i64 s.size))
  |_,_=>none
 |none=>none
theorem zbO (hT:zI P tab) {t ty:TypeId} {x r:AV} (h:zi2 tab t x=some r) {v:Value} (hv:RV O w μ x v): ∃u,(Builtin.len_ #[t] ty #[v]).run P w= .ok u w∧RV O w μ r u:=by
 unfold zi2 at h;split at h
 ·rename_i i hi;have hu:=(hT _ _ hi).und
  split at h <;>first|(cases h;done)|(injection h with h;subst h)
  ·rename_i e sz n tt f hk;rw [hk] at hu;simp only [yz] at hu;cases hv
   exact ⟨_,by simp [Builtin.len_,run_underlying hu,goInt], .lit _⟩
  ·rename_i e id sz off n cap hk;rw [hk] at hu;simp only [yz] at hu;cases hv <;>exact ⟨_,by simp [Builtin.len_,run_underlying hu,goInt], .lit _⟩
  ·rename_i e hk;rw [hk] at hu;simp only [yz] at hu;cases hv
   exact ⟨_,by simp [Builtin.len_,run_underlying hu,goInt], .lit _⟩
  ·rename_i n e hk;rw [hk] at hu;simp only [yz] at hu;exact ⟨_,by simp [Builtin.len_,run_underlying hu,goInt], .lit _⟩
  ·rename_i s hk;rw [hk] at hu;simp only [yz] at hu;cases hv
   exact ⟨_,by simp [Builtin.len_,run_underlying hu,goInt], .lit _⟩
 ·cases h
theorem RV.lit_eq {x v:Value} (h:RV O w μ (.lit x) v):v=x:=by cases h;rfl
def zgG:AV→Option (Nat×(Nat→List AV))
 | .arr 1 n f=>some (n,f)
 | .agg cs=>some (cs.length,fun k=>[cs.getD k .junk])
 |_=>none
def un (kd:IntKind) (n:Nat) (f:Nat→List AV):Prop:= ∀k,k<n→ ∃a,f k=[.lit (.int kd a)]
def zc7:List AV→Int
 |[.lit (.int _ a)]=>a
 |_=>0
def zig (n:Nat) (f g:Nat→List AV):Bool:=decide (∀k,k<n→zc7 (f k)=zc7 (g k))
theorem G7 {x:AV} {n:Nat} {f:Nat→List AV} (h:zgG x=some (n,f)) {v:Value} (hv:RV O w μ x v) {kd:IntKind} (hi:un kd n f): ∃cs:Array Value,v= .agg cs∧cs.size=n∧ ∀k,k<n→cs[k]?=some (.int kd (zc7 (f k))):=by
 unfold zgG at h;split at h
 ·injection h with h;injection h with h1 h2;subst h1 h2
  cases hv with
  |arr h0 h1 h2 h3=>
   rename_i vs;refine ⟨_,rfl,by simpa using h1,fun k hk=> ?_⟩;obtain ⟨a,ha⟩:=hi k hk;have hlt:k*1+0<vs.length:=by omega
   have:=h3 k 0 _ _ hk (by rw [ha];rfl) (List.getElem?_eq_getElem hlt)
   have e:vs[k*1+0]= .int kd a:=this.lit_eq
   simp only [Nat.mul_one,Nat.add_zero] at e;rw [ha];simp [zc7,←e,show k<vs.length by omega]
 ·injection h with h;injection h with h1 h2;subst h1 h2
  cases hv with
  |agg h1 h2=>
   rename_i cs vs;refine ⟨_,rfl,by simpa using h1.symm,fun k hk=> ?_⟩;obtain ⟨a,ha⟩:=hi k hk;have hlt:k<vs.length:=by omega
   have:=h2 k _ _ (List.getElem?_eq_getElem hk) (List.getElem?_eq_getElem hlt)
   have e0:cs[k]= .lit (.int kd a):=by simpa [List.getD_eq_getElem?_getD,hk] using ha
   rw [e0] at this;have e:vs[k]= .int kd a:=this.lit_eq
   rw [ha];simp [zc7,←e,hlt]
 ·cases h
theorem VE {t:Nat→Bool} {β:Type} (f:Nat→β→Sem (ForInStep β)) (b d:β): ∀(l:List Nat),(∀i∈l,(f i b).run P w= .ok (if t i=true then .yield b else .done d) w)→(forIn l b f).run P w= .ok (if l.all t=true then b else d) w
 |[],_=>by simp
 |i::l,h=>by
  rw [List.forIn_cons,Sem.run_bind,h i (by simp)];simp only [Result.andThen_ok];cases ht:t i with
  |true=>
   simp only [List.all_cons,ht,Bool.true_and,if_true];exact VE (t:=t) f b d l fun i hi=>h i (by simp [hi])
  |false=>simp [List.all_cons,ht]
theorem Wm {e:TypeId} {k:IntKind} {cs:Array Value} {v:Value} {j:Nat} (he:P.underlying e=some (.int k)) (hc:cs[j]?=some v):(part e cs j).run P w= .ok v w:=by
 simp [part,isAgg,run_underlying he,hc]
theorem qs {t e:TypeId} {n d:Nat} {kd:IntKind} {xs ys:Array Value} {f g:Nat→Int} (hu:P.underlying t=some (.array n e)) (he:P.underlying e=some (.int kd)) (hs:(sizeOf e).run P w= .ok 1 w)
 (hx: ∀k,k<n→xs[k]?=some (.int kd (f k))) (hy: ∀k,k<n→ys[k]?=some (.int kd (g k))):(Op.equalIn (d+2) t (.agg xs) (.agg ys)).run P w= .ok (decide (∀k,k<n→f k=g k)) w:=by
 rw [Op.equalIn];simp only [Sem.run_bind,run_underlying hu,Result.andThen_ok,hs,Sem.run_pure];simp only [Std.Legacy.Range.forIn_eq_forIn_range'];rw [VE (t:=fun i=>f i==g i) (d:=⟨some false,()⟩)]
 ·generalize hA:(List.all _ fun i=>f i==g i)=A
  have:A=decide (∀k,k<n→f k=g k):=by
   rw [←hA,Bool.eq_iff_iff];simp [List.all_eq_true,List.mem_range'_1,Std.Legacy.Range.size]
  subst this;by_cases h: ∀k,k<n→f k=g k
  ·rw [decide_eq_true h];simp
  ·rw [decide_eq_false h];simp
 ·intro i hm;have hi:i<n:=by simp [List.mem_range'] at hm;simpa using hm
  have hp:=Wm (P:=P) (w:=w) he (hx i hi);have hq:=Wm (P:=P) (w:=w) he (hy i hi);have h2:=run_equalIn_int (P:=P) w d e kd kd (f i) (g i) he;simp [Sem.run_bind,hp,hq,h2]
  split <;>simp_all
theorem uu {op:BinOp} {t e:TypeId} {n:Nat} {kd:IntKind} {xs ys:Array Value} {f g:Nat→Int} (xo yo:Operand) (hu:P.underlying t=some (.array n e)) (he:P.underlying e=some (.int kd)) (hs:(sizeOf e).run P w= .ok 1 w)
 (hx: ∀k,k<n→xs[k]?=some (.int kd (f k))) (hy: ∀k,k<n→ys[k]?=some (.int kd (g k))):(eqGuard op t xo yo (.agg xs) (.agg ys)).run P w= .ok () w:=by
 have h1:(Op.eqGuardIn (9998+2) t (.agg xs) (.agg ys)).run P w= .ok false w:=by
  rw [Op.eqGuardIn];simp only [Sem.run_bind,run_underlying hu,Result.andThen_ok,hs,Sem.run_pure];simp only [Std.Legacy.Range.forIn_eq_forIn_range'];rw [VE (t:=fun i=>true) (d:=⟨some false,()⟩)]
  ·simp
  ·intro i hm;have hi:i<n:=by simp [List.mem_range'] at hm;simpa using hm
   have hp:=Wm (P:=P) (w:=w) he (hx i hi);have hq:=Wm (P:=P) (w:=w) he (hy i hi)
   have h2:(Op.eqGuardIn (9998+1) e (.int kd (f i)) (.int kd (g i))).run P w= .ok false w:=by
    rw [Op.eqGuardIn];simp [Sem.run_bind,run_underlying he]
   simp [Sem.run_bind,hp,hq,h2]
 have h1:(Op.eqGuardIn Op.maxDepth t (.agg xs) (.agg ys)).run P w= .ok false w:=h1
 cases op <;>simp [eqGuard,run_program,h1]
def zgW (tab:Tab) (op:BinOp) (t:TypeId) (x y:AV):Ans:=
 match tab t with
 |some i=>match i.k,op,x,y with
  | .bool, .eql, .lit (.bool a), .lit (.bool b)=>some (True, .lit (.bool (a==b)))
  | .bool, .neq, .lit (.bool a), .lit (.bool b)=>some (True, .lit (.bool (!(a==b))))
  | .arr n e,op,x,y=>match tab e,zgG x,zgG y with
    |some ei,some (m,f),some (m',g)=>match ei.k,Nat.beq m n,Nat.beq m' n,op with
     | .int kd,true,true, .eql=>some (un kd n f∧un kd n g, .lit (.bool (zig n f g)))
     | .int kd,true,true, .neq=>some (un kd n f∧un kd n g, .lit (.bool (!zig n f g)))
     |_,_,_,_=>none
    |_,_,_=>none
  |_,_,_,_=>none
 |none=>none
theorem Ua (hT:zI P tab) {op:BinOp} {t:TypeId} {x y r:AV} {q:Prop} (h:zgW tab op t x y=some (q,r)) (hq:q) {u v:Value} (hu:RV O w μ x u) (hv:RV O w μ y v) (xo yo:Operand):
 ∃z,(do eqGuard op t xo yo u v;binOp op t u v:Sem Value).run P w= .ok z w∧RV O w μ r z:=by
 unfold zgW at h;split at h
 ·rename_i i hi;have hun:=(hT _ _ hi).und
  split at h;rotate_left;rotate_left
  ·rename_i n e hk;split at h
   ·rename_i ei m f m' g he hf hg;split at h <;>first|(cases h;done)|(injection h with h;injection h with h1 h2;subst h1 h2)
    all_goals
     rename_i kd hkd hm hm';have hm:=ZD hm;have hm':=ZD hm';subst hm;subst hm';have hty:=hT _ _ he;have hue:=hty.und;rw [hkd] at hue;simp only [yz] at hue;rw [hk] at hun;simp only [yz] at hun;have hsz:(sizeOf e).run P w= .ok 1 w:=by have:=hty.run_size (w:=w);rw [hty.one (by rw [hkd];rfl)] at this;exact this
     obtain ⟨cs,rfl,hs1,hc1⟩:=G7 hf hu hq.1;obtain ⟨ds,rfl,hs2,hc2⟩:=G7 hg hv hq.2;refine ⟨_, ?_, .lit _⟩;rw [Sem.run_bind,uu xo yo hun hue hsz hc1 hc2];simp only [Result.andThen_ok]
     first
      |rw [run_eql_struct,qs (d:=9998) hun hue hsz hc1 hc2]
      |rw [run_neq_struct,qs (d:=9998) hun hue hsz hc1 hc2]
     rfl
   ·cases h
  ·cases h
  all_goals
   injection h with h;injection h with h1 h2;subst h1 h2
   rename_i hk;rw [hk] at hun;simp only [yz] at hun;cases hu;cases hv
   refine ⟨_, ?_, .lit _⟩
   have he: ∀a b:Bool,(Op.equal t (.bool a) (.bool b)).run P w= .ok (a==b) w:=fun a b=>by
    show (Op.equalIn (9999+1) t (.bool a) (.bool b)).run P w=_
    rw [Op.equalIn,Sem.run_bind,run_underlying hun];rfl
   simp only [eqGuard,binOp,Sem.run_bind,he];simp [he]
 ·cases h
def Uk:AV→Option AV
 | .ptr i sz k o=>some (.ptr i sz k o)
 | .ip cs=>some (.ip cs)
 | .fn (.func f) a b=>some (.fn (.func f) a b)
 |_=>none
def zdv:TyK→Bool
 | .int _| .bool| .str| .ptr _| .slice _| .arr _ _| .struct _| .map _ _| .func=>true
 |_=>false
def Xh (tab:Tab) (H:List zb) (ev:Operand→AV):Op→Ans
 | .move x=>some (True,ev x)
 | .assign x=>some (True,ev x)
 | .pick c a b=>match ev c,ev a,ev b with
   | .lit (.bool t), .lit x, .lit y=>some (True, .lit (bif t then x else y))
   |_,_,_=>none
 | .load t x=>jf tab t (ev x) H
 | .nilCheck x=>(Uk (ev x)).map fun r=>(True,r)
 | .binOp op t x y _=>match ev x,ev y with
   | .lit a, .lit b=>match ziW op a b with
     |some (q,r)=>some (q, .lit r)
     |none=>zgW tab op t (.lit a) (.lit b)
   |a,b=>zgW tab op t a b
 | .unOp op _ x=>match ev x with
   | .lit a=>(aUn op a).map fun r=>(True, .lit r)
   |_=>none
 | .convert s d x=>zcQ tab s d (ev x)
 | .makeInterface t x=>match tab t with
   |some i=>match zdv i.k with
    |true=>some (Nat.beq t Ps=false, .iface t (ev x))
    |false=>none
   |none=>none
 | .sliceToArrayPointer t x=>match tab t,ev x with
   |some i, .sl sz m _ f=>match i.k with
    | .arr n _=>some (n≤m∧0<n, .ip ((List.range n).map f).flatten)
    |_=>none
   |_,_=>none
 | .makeFunc fn a b=>some (True, .fn fn (a.toList.map ev) (b.toList.map ev))
 | .build t ps=>(GQ tab t (ps.toList.map fun p=>(p.1,ev p.2))).map fun r=>(True,r)
 | .slice t x lo hi mx=>qR tab H t (ev x) (lo.map ev) (hi.map ev) (mx.map ev)
 | .fieldAddr t x k=>(VD tab t (ev x) k).map fun r=>(True,r)
 | .field t x k=>gQ tab t (ev x) k
 | .indexAddr t x i=>Vj tab t (ev x) (ev i)
 | .index t x i=>GG tab t (ev x) (ev i)
 | .extract x k=>match ev x with
   | .tup vs=>(nth vs k).map fun r=>(True,r)
   |_=>none
 | .call ⟨.builtin .len,⟨[x]⟩,⟨[t]⟩⟩=>(zi2 tab t (ev x)).map fun r=>(True,r)
 | .call ⟨.builtin .max,⟨[x,y]⟩,_⟩=>match ev x,ev y with| .lit (.int k a), .lit (.int _ b)=>some (True, .lit (.int k (max a b)))|_,_=>none
 | .call ⟨.builtin .min,⟨[x,y]⟩,_⟩=>match ev x,ev y with| .lit (.int k a), .lit (.int _ b)=>some (True, .lit (.int k (min a b)))|_,_=>none
 |_=>none
theorem KW (hT:zI P tab) {ev:Operand→AV} {o:Oper} {r:AV} {q:Prop} (h:Xh tab H ev o.op=some (q,r)) (hq:q) (hH:HRel μ X H w) {ρ:Operand→Value} (hr: ∀x,RV (OO X H μ) w μ (ev x) (ρ x)):
 ∃u,(execOp ρ o).run P w= .ok (.value u) w∧RV (OO X H μ) w μ r u:=by
 have vv: ∀{s:Sem Value} {u:Value},s.run P w= .ok u w→(do pure (.value (←s)):Sem Next).run P w= .ok (.value u) w:=fun hs=>by simp [hs]
 have one: ∀{s:Sem Value},(∃u,s.run P w= .ok u w∧RV (OO X H μ) w μ r u)→ ∃u,(do pure (.value (←s)):Sem Next).run P w= .ok (.value u) w∧RV (OO X H μ) w μ r u:=fun ⟨u,h1,h2⟩=>⟨u,vv h1,h2⟩
 unfold execOp;generalize o.op=op at h;cases op <;>simp only [Xh,reduceCtorEq] at h <;>try (cases h;done)
 all_goals dsimp only
 case move x=>injection h with h;injection h with h1 h2;subst h1 h2;exact ⟨_,by simp,hr x⟩
 case assign x=>injection h with h;injection h with h1 h2;subst h1 h2;exact ⟨_,by simp,hr x⟩
 case pick c a b=>
  split at h
  ·rename_i t x y hc ha hb;injection h with h;injection h with h1 h2;subst h1 h2
   have h1:=hr c;have h2:=hr a;have h3:=hr b;rw [hc] at h1;rw [ha] at h2;rw [hb] at h3;generalize ρ c=c' at*;generalize ρ a=a' at*;generalize ρ b=b' at*;cases h1;cases h2;cases h3
   refine ⟨_, ?_, .lit _⟩;simp only [Sem.run_bind,asBool,Sem.run_pure,Result.andThen_ok];cases t <;>rfl
  ·cases h
 case load t x=>exact one (KI hT h hq hH (hr x))
 case nilCheck x=>
  simp only [Option.map_eq_some_iff,Prod.mk.injEq] at h;obtain ⟨a,ha,rfl,rfl⟩:=h;have hx:=hr x;unfold Uk at ha;split at ha <;>first|(cases ha;done)|(injection ha with ha;subst ha;rename_i he;rw [he] at hx;generalize ρ x=x' at*;refine ⟨x', ?_,hx⟩;cases hx <;>rfl)
 case binOp op t x y yt=>
  have hx:=hr x;have hy:=hr y;split at h
  ·rename_i a b ha hb;rw [ha] at hx;rw [hb] at hy;generalize ρ x=x' at*;generalize ρ y=y' at*;cases hx;cases hy
   split at h
   ·rename_i q r hbin;injection h with h;injection h with h1 h2;subst h1 h2
    exact ⟨_,vv (zbZ hbin hq t x y), .lit _⟩
   ·exact one (Ua hT h hq (.lit _) (.lit _) x y)
  ·exact one (Ua hT h hq hx hy x y)
 case unOp op t x=>
  have hx:=hr x;split at h
  ·rename_i a ha;rw [ha] at hx;generalize ρ x=x' at*;cases hx
   simp only [Option.map_eq_some_iff,Prod.mk.injEq] at h;obtain ⟨v,hv,rfl,rfl⟩:=h;exact ⟨_,vv (zfy hv), .lit _⟩
  ·cases h
 case convert s d x=>exact one (GM hT h hq (hr x))
 case makeInterface t x=>
  split at h
  ·rename_i i hi;split at h
   ·rename_i hk;injection h with h;injection h with h1 h2;subst h1 h2
    refine ⟨_,vv ?_, .iface hq (hr x)⟩;have hu:=(hT _ _ hi).und
    cases hkk:i.k <;>rw [hkk] at hk hu <;>simp only [zdv,Bool.false_eq_true] at hk <;>simp only [yz] at hu
    all_goals first
     |(simp [Instr.makeInterface,run_underlying hu];done)
     |(obtain ⟨_,hu,_⟩:=hu;simp [Instr.makeInterface,run_underlying hu];done)
     |(obtain ⟨_,_,_,hu⟩:=hu;simp [Instr.makeInterface,run_underlying hu];done)
   ·cases h
  ·cases h
 case sliceToArrayPointer t x=>
  have hx:=hr x;split at h
  ·rename_i i sz m tt f hi he;split at h
   ·rename_i n e hk;injection h with h;injection h with h1 h2;subst h1 h2
    rw [he] at hx;generalize ρ x=x' at*;have hu:=(hT _ _ hi).und
    rw [hk] at hu;simp only [yz] at hu;cases hx with
    |sl ho hc hm ht h1 h2 h3 hz hA=>
     rename_i A c vs;obtain ⟨g,o,rfl,hg,hcell⟩:=hA (by omega)
     have hlen: ∀(l:List Nat),(∀k∈l,k<m)→((l.map f).flatten).length=l.length*sz:=fun l hl=>by
      induction l with
      |nil=>simp
      |cons k l ih=>simp [h2 k (hl k (by simp)),ih fun k hk=>hl k (by simp [hk])];rw [Nat.add_mul];omega
     have hvl:n*sz≤vs.length:=by rw [h1];exact Nat.mul_le_mul_right _ hq.1
     have h00:0<vs.length:=by rw [h1];exact Nat.mul_pos (by omega) hz
     refine ⟨.pointer (some ⟨g,o,none⟩),vv (by simp [Instr.arrayAt,run_underlying hu,Nat.not_lt.2 hq.1]), .ip (vs:=vs.take (n*sz)) ?_ (fun j a v ha hv=> ?_) hg (World.block_lt_of_cell? w _ (hcell 0 _ (List.getElem?_eq_getElem h00))) fun j u hu=> ?_⟩
     ·rw [hlen _ (fun k hk=>by have:=List.mem_range.1 hk;omega)];simp [Nat.min_eq_left hvl]
     ·have hj:j<n*sz:=by have:=(List.getElem?_eq_some_iff.1 hv).1;simp at this;omega
      rw [List.getElem?_take_of_lt hj] at hv;have hjd:j / sz<n:=(Nat.div_lt_iff_lt_mul hz).2 hj
      have hjm:j % sz<sz:=Nat.mod_lt _ hz
      have hjj:j=j / sz*sz+j % sz:=(Nat.div_add_mod' j sz).symm
      have hget: ∀(l:List Nat),(∀k∈l,k<m)→ ∀(q r:Nat),r<sz→((l.map f).flatten)[q*sz+r]?=(l[q]?).bind fun k=>(f k)[r]?:=fun l=>by
       induction l with
       |nil=>intro _ q r _;simp
       |cons k l ih=>
        intro hl q r hr';simp only [List.map_cons,List.flatten_cons];cases q with
        |zero=>rw [List.getElem?_append_left (by rw [h2 k (hl k (by simp))];omega)];simp
        |succ q=>
         rw [List.getElem?_append_right (by rw [h2 k (hl k (by simp)),Nat.add_mul];omega),h2 k (hl k (by simp))];have:(q+1)*sz+r - sz=q*sz+r:=by rw [Nat.add_mul];omega
         rw [this,ih (fun k hk=>hl k (by simp [hk])) q r hr'];simp
      rw [hjj,hget _ (fun k hk=>by have:=List.mem_range.1 hk;omega) _ _ hjm] at ha;simp [List.getElem?_range hjd] at ha
      rw [hjj] at hv;exact h3 _ _ a v (by omega) ha hv
     ·rw [List.getElem?_take] at hu;split at hu
      ·exact hcell j u hu
      ·cases hu
   ·cases h
  ·cases h
 case makeFunc fn a b=>
  injection h with h;injection h with h1 h2;subst h1 h2
  refine ⟨.func fn (a.map ρ) (b.map ρ),by simp [Instr.makeFunc], ?_⟩
  have hl: ∀l:List Operand,(l.map ev).length=(l.map ρ).length∧ ∀(j:Nat) x v,(l.map ev)[j]?=some x→(l.map ρ)[j]?=some v→RV (OO X H μ) w μ x v:=fun l=>⟨by simp,fun j x v hx hv=>by
   simp only [List.getElem?_map,Option.map_eq_some_iff] at hx hv;obtain ⟨p,hp,rfl⟩:=hx;obtain ⟨p',hp',rfl⟩:=hv;rw [hp] at hp';injection hp' with hp';subst hp';exact hr _⟩
  have e: ∀z:Array Operand,z.map ρ=(z.toList.map ρ).toArray:=fun z=>by apply Array.ext';simp
  rw [e,e];exact .fn (hl _).1 (hl _).2 (hl _).1 (hl _).2
 case build t ps=>
  simp only [Option.map_eq_some_iff,Prod.mk.injEq] at h;obtain ⟨a,ha,rfl,rfl⟩:=h
  have:=Tv hT ha (w:=w) (O:=OO X H μ) (μ:=μ) (vparts:=ps.toList.map fun p=>(p.1,ρ p.2)) (by simp) fun j i x i' v hx hv=>by
   simp only [List.getElem?_map,Option.map_eq_some_iff,Prod.mk.injEq] at hx hv;obtain ⟨p,hp,rfl,rfl⟩:=hx;obtain ⟨p',hp',rfl,rfl⟩:=hv;rw [hp] at hp';injection hp' with hp';subst hp';exact ⟨rfl,hr _⟩
  have e:(ps.map fun (i,x)=>(i,ρ x))=(ps.toList.map fun p=>(p.1,ρ p.2)).toArray:=by apply Array.ext';simp
  rw [e];exact one this
 case slice t x lo hi mx=>
  have g: ∀(z:Option Operand),(∀a,z.map ev=some a→ ∃v,z.map ρ=some v∧RV (OO X H μ) w μ a v)∧(z.map ev=none→z.map ρ=none):=fun z=>by
   cases z with
   |none=>exact ⟨fun a h=>(by cases h),fun _=>rfl⟩
   |some z=>exact ⟨fun a h=>(by simp at h;subst h;exact ⟨_,rfl,hr z⟩),fun h=>(by cases h)⟩
  exact one (J1 hT h hq hH (hr x) (g lo).1 (g lo).2 (g hi).1 (g hi).2 (g mx).1 (g mx).2)
 case fieldAddr t x k=>
  simp only [Option.map_eq_some_iff,Prod.mk.injEq] at h;obtain ⟨a,ha,rfl,rfl⟩:=h;exact one (ke hT ha (hr x))
 case field t x k=>exact one (tY hT h hq (hr x))
 case indexAddr t x i=>exact one (kb hT h hq (hr x) (hr i))
 case index t x i=>exact one (T0 hT h hq (hr x) (hr i))
 case extract x k=>
  have hx:=hr x;split at h
  ·rename_i vs ha;rw [ha] at hx;generalize ρ x=x' at*;cases hx with
   |tup h1 h2=>
    rename_i us;simp only [Option.map_eq_some_iff,Prod.mk.injEq] at h;obtain ⟨a,ha,rfl,rfl⟩:=h;rw [zH] at ha;obtain ⟨v,hv1,hv2⟩:=RVs.at_ (cs:=vs) (vs:=us) ⟨h1,h2⟩ ha;exact ⟨v,vv (by simp [Instr.extract,hv1]),hv2⟩
  ·cases h
 case call c=>
  split at h <;>first|(cases h;done)|(rename_i heq;cases heq;done)|skip
  rotate_left
  ·rename_i x y ts heq;simp only [Op.call.injEq] at heq;subst heq;have hx:=hr x;have hy:=hr y;split at h
   ·rename_i k a k' b ha hb;injection h with h;injection h with h1 h2;subst h1 h2
    rw [ha] at hx;rw [hb] at hy;refine ⟨_, ?_, .lit _⟩;have:max a b=if b>a then b else a:=by omega
    simp [resolve,invoke,builtin,Builtin.max_,Builtin.max2,hx.lit_eq,hy.lit_eq,this]
   ·cases h
  ·rename_i x y ts heq;simp only [Op.call.injEq] at heq;subst heq;have hx:=hr x;have hy:=hr y;split at h
   ·rename_i k a k' b ha hb;injection h with h;injection h with h1 h2;subst h1 h2
    rw [ha] at hx;rw [hb] at hy;refine ⟨_, ?_, .lit _⟩;have:min a b=if b<a then b else a:=by omega
    simp [resolve,invoke,builtin,Builtin.min_,Builtin.min2,hx.lit_eq,hy.lit_eq,this]
   ·cases h
  rename_i x t heq;simp only [Op.call.injEq] at heq;subst heq;simp only [Option.map_eq_some_iff,Prod.mk.injEq] at h;obtain ⟨a,ha,rfl,rfl⟩:=h;obtain ⟨u,h1,h2⟩:=zbO hT ha (ty:=o.type) (hr x);refine ⟨u, ?_,h2⟩;simp [resolve,invoke,builtin,h1]
end
section
variable {P:Program} {tab:Tab} {X:Nat→Prop} {H H':List zb} {μ μ':Mu} {w w':World} {O O':Nat→Prop}
def ZO (id:Nat):Nat→AV→AV
 |0,_=> .junk
 |n+1,a=>match a with
  | .row i sz off k c=>match Nat.beq i id with|true=> .junk|false=> .row i sz off k c
  | .ptr i sz k o=>match Nat.beq i id with|true=> .junk|false=> .ptr i sz k o
  | .agg cs=> .agg (cs.map (ZO id n))
  | .tup cs=> .tup (cs.map (ZO id n))
  | .fn f a b=> .fn f (a.map (ZO id n)) (b.map (ZO id n))
  | .iface t a=> .iface t (ZO id n a)
  |a=>a
def zB:Nat→AV→Bool
 |0,_=>false
 |n+1,a=>match a with
  | .row .. | .ptr .. =>false
  | .agg cs| .tup cs=>cs.all (zB n)
  | .fn _ a b=>a.all (zB n) && b.all (zB n)
  | .iface _ a=>zB n a
  |_=>true
def zis:AV→Bool
 | .lit x=>x.oneCell'
 | .junk| .agg _| .arr .. | .tup _=>false
 |_=>true
theorem zd5 {a:AV} {v:Value} (h:zis a=true) (hv:RV O w μ a v):v.oneCell'=true:=by
 cases hv <;>simp only [zis,Bool.false_eq_true] at h <;>first|rfl|exact h
theorem Yd: ∀(n:Nat) {a:AV} {v:Value},zB n a=true→RV O w μ a v→RV O w noMu a v
 |0,_,_,h,_=>by cases h
 |n+1,a,v,h,hv=>by
  cases hv with
  |junk=>exact .junk _
  |lit=>exact .lit _
  |agg h1 h2=>exact .agg h1 fun j a v ha hv=>Yd n (List.all_eq_true.1 h _ (List.mem_of_getElem? ha)) (h2 j a v ha hv)
  |arr a1 a2 a3 a4=>exact .arr a1 a2 a3 a4
  |tup h1 h2=>exact .tup h1 fun j a v ha hv=>Yd n (List.all_eq_true.1 h _ (List.mem_of_getElem? ha)) (h2 j a v ha hv)
  |sl a0 a1 a2 a3 a4 a5 a6 a7 a8=>exact .sl a0 a1 a2 a3 a4 a5 a6 a7 a8
  |rowNil|row|rowE|ptr=>cases h
  |ip a1 a2 a3 a4 a5=>exact .ip a1 a2 a3 a4 a5
  |fn h1 h2 h3 h4=>
   simp only [zB,Bool.and_eq_true] at h;exact .fn h1 (fun j a v ha hv=>Yd n (List.all_eq_true.1 h.1 _ (List.mem_of_getElem? ha)) (h2 j a v ha hv)) h3 fun j a v ha hv=>Yd n (List.all_eq_true.1 h.2 _ (List.mem_of_getElem? ha)) (h4 j a v ha hv)
  |iface ht h1=>exact .iface ht (Yd n h h1)
  |mapv h1=>exact .mapv (Yd n h h1)
structure Moved (id:Nat) (O O':Nat→Prop) (μ μ':Mu) (w w':World):Prop where
 mu: ∀i l,i≠id→μ i=some l→μ' i=some l
 oo: ∀b,b<w.heap.size→O' b→O b
 blk: ∀b,b<w.heap.size→ ¬O b→w'.heap[b]?=w.heap[b]?
theorem Moved.upto {id:Nat} (h:Moved id O O' μ μ' w w') (k:Nat):Moved id O O' (upto k μ) (upto k μ') w w':=by
 refine ⟨fun i l hi hl=> ?_,h.oo,h.blk⟩;unfold Proofs.YtgdmkpikkfakdaaGreatDoor.upto at*;split at hl
 ·rename_i hlt;rw [if_pos hlt];exact h.mu i l hi hl
 ·cases hl
theorem qn {id:Nat} (hm:Moved id O O' μ μ' w w'): ∀(n:Nat) {a:AV} {v:Value},RV O w μ a v→RV O' w' μ' (ZO id n a) v
 |0,a,v,_=> .junk v
 |n+1,a,v,hv=>by
  have fl: ∀{cs:List AV} {vs:List Value},(∀(j:Nat) a v,cs[j]?=some a→vs[j]?=some v→RV O w μ a v)→ ∀(j:Nat) a v,(cs.map (ZO id n))[j]?=some a→vs[j]?=some v→RV O' w' μ' a v:=by
   intro cs vs h j a v ha hv;simp only [List.getElem?_map,Option.map_eq_some_iff] at ha;obtain ⟨a,ha,rfl⟩:=ha;exact qn hm n (h j a v ha hv)
  cases hv with
  |junk=>exact .junk _
  |lit=>exact .lit _
  |agg h1 h2=>exact .agg (by simpa using h1) (fl h2)
  |tup h1 h2=>exact .tup (by simpa using h1) (fl h2)
  |arr a1 a2 a3 a4=>exact .arr a1 a2 a3 fun k j a v hk ha hv=>(a4 k j a v hk ha hv).mono hm.oo hm.blk _ fun _ _ h=>h
  |sl a0 a1 a2 a3 a4 a5 a6 a7 a8=>exact (RV.sl (μ:=noMu) a0 a1 a2 a3 a4 a5 a6 a7 a8).mono hm.oo hm.blk _ fun _ _ h=>by cases h
  |ip a1 a2 a3 a4 a5=>exact (RV.ip (μ:=noMu) a1 a2 a3 a4 a5).mono hm.oo hm.blk _ fun _ _ h=>by cases h
  |rowNil h hc=>
   simp only [ZO];split
   ·exact .junk _
   ·rename_i hne;exact .rowNil (hm.mu _ _ (by rintro rfl;simp at hne) h) hc
  |row h h1 h2 h3 h4=>
   simp only [ZO];split
   ·exact .junk _
   ·rename_i hne;exact .row (hm.mu _ _ (by rintro rfl;simp at hne) h) h1 h2 h3 h4
  |rowE h h1 h2=>
   simp only [ZO];split
   ·exact .junk _
   ·rename_i hne;exact .rowE (hm.mu _ _ (by rintro rfl;simp at hne) h) h1 h2
  |ptr h=>
   simp only [ZO];split
   ·exact .junk _
   ·rename_i hne;exact .ptr (hm.mu _ _ (by rintro rfl;simp at hne) h)
  |fn h1 h2 h3 h4=>exact .fn (by simpa using h1) (fl h2) (by simpa using h3) (fl h4)
  |iface ht h1=>exact .iface ht (qn hm n h1)
  |mapv h1=>exact .mapv (qn hm n h1)
def z7 (id:Nat) (o:zb):zb:=match o.pure with|true=>o|false=>{o with f:=fun k=>(o.f k).map (ZO id 4)}
theorem Qq (id:Nat) (o:zb):(z7 id o).st=o.st:=by unfold z7;split <;>rfl
theorem HRel.new (hH:HRel μ X H w) {o:zb} {m:Nat} {cur:Array Value} (hz:0<o.sz) (hsz:cur.size=m*o.sz) (hm:m≤maxLen) (hn:o.n≤m) (h1: ∀(k j:Nat) v,k<o.n→j<o.sz→cur[k*o.sz+j]?=some v→v.oneCell'=true)
 (hf: ∀k,k<o.n→(o.f k).length=o.sz) (hc: ∀(k j:Nat) a v,k<o.n→(o.f k)[j]?=some a→cur[k*o.sz+j]?=some v→RV (OO X H μ) w (if o.pure then noMu else μ) a v) (hst:o.st=0):
 let μ':Mu:=fun i=>if i=H.length then some (some (w.heap.size,m)) else μ i
 HRel μ' X (H++[o]) (w.alloc (.cells cur o.T))∧(∀i l,μ i=some l→μ' i=some l)∧Ext μ w μ'∧Chg μ w (w.alloc (.cells cur o.T))∧
  ∀(k:Nat) {a:AV} {v:Value},RV (OO X H μ) w (upto k μ) a v→RV (OO X (H++[o]) μ') (w.alloc (.cells cur o.T)) (upto k μ') a v:=by
 intro μ'
 have hmu: ∀i l,μ i=some l→μ' i=some l:=fun i l hi=>by
  have:=hH.dom i l hi
  simp only [μ'];rw [if_neg (by omega)];exact hi
 have hb:Below w.heap.size w (w.alloc (.cells cur o.T)):=(Below.refl _ _).alloc (Nat.le_refl _) _
 have hext:Ext μ w μ':=fun i b m1 hi=>by
  simp only [μ'] at hi;split at hi
  ·injection hi with hi;injection hi with hi;injection hi with e1 e2
   exact .inr (by omega)
  ·exact .inl ⟨i,m1,hi⟩
 have hOO: ∀b,b<w.heap.size→OO X (H++[o]) μ' b→OO X H μ b:=by
  rintro b hlt (hx|⟨i,o',m',hi,hs,hm'⟩)
  ·exact .inl hx
  ·simp only [μ'] at hm';split at hm'
   ·injection hm' with hm';injection hm' with hm';injection hm' with e1 e2;omega
   ·have:=hH.dom i _ hm'
    rw [List.getElem?_append_left this] at hi;exact .inr ⟨i,o',m',hi,hs,hm'⟩
 have hrv: ∀{μ₁:Mu} {a:AV} {v:Value},RV (OO X H μ) w μ₁ a v→ ∀μ₂:Mu,(∀i l,μ₁ i=some l→μ₂ i=some l)→RV (OO X (H++[o]) μ') (w.alloc (.cells cur o.T)) μ₂ a v:=fun h μ₂ hh=>h.mono hOO (fun b hl _=>hb.block b hl) _ hh
 refine ⟨⟨fun i l hi=> ?_,fun i j b m1 m2 hi hj=> ?_,fun i b m1 hi=> ?_,fun i o' hi hs=> ?_,fun b hx=>by have:=hH.xlt b hx;simp;omega,hH.gl.step hb.size (fun b hlt _ _=>hb.block b hlt) (fun _ h=> .inl h) fun i b m1 hi=>(hext i b m1 hi).imp id .inr,hH.mp.mono hOO (fun b hl _=>hb.block b hl) fun i o' ho hs=>⟨i,o', ?_, .refl o',hmu i,fun b m1 h1=>hb.block b (hH.lt i b m1 h1).1⟩⟩,hmu,hext, .of_below hb,fun k a v h=>hrv h _ (xd hmu)⟩
 ·simp only [μ'] at hi;split at hi
  ·subst i;simp
  ·have:=hH.dom i l hi;simp;omega
 ·simp only [μ'] at hi hj;split at hi <;>split at hj
  ·omega
  ·injection hi with hi;injection hi with hi;injection hi with e1 e2
   have:=(hH.lt j b m2 hj).1;omega
  ·injection hj with hj;injection hj with hj;injection hj with e1 e2
   have:=(hH.lt i b m1 hi).1;omega
  ·exact hH.inj i j b m1 m2 hi hj
 ·simp only [μ'] at hi;split at hi
  ·injection hi with hi;injection hi with hi;injection hi with e1 e2
   subst e1;exact ⟨by simp,fun hx=>by have:=hH.xlt _ hx;omega⟩
  ·have:=hH.lt i b m1 hi
   exact ⟨by simp;omega,this.2⟩
 ·by_cases hlt:i<H.length
  ·rw [List.getElem?_append_left hlt] at hi;exact (hH.obj i o' hi hs).mono hOO (fun b hl _=>hb.block b hl) hmu fun b m1 h1=>hb.block b (hH.lt i b m1 h1).1
  ·have he:i=H.length:=by
    have:=(List.getElem?_eq_some_iff.1 hi).1
    simp at this;omega
   subst he;simp at hi
   subst hi;refine ⟨hz, .inr ⟨w.heap.size,m,cur,by simp [μ'],heap_alloc_new w _,hsz,hm,hn,h1,hf,fun k j a v hk ha hv=>hrv (hc k j a v hk ha hv) _ fun i l hi=> ?_⟩⟩;split
   ·rename_i hp;rw [if_pos hp] at hi;exact hi
   ·rename_i hp;rw [if_neg hp] at hi;exact hmu i l hi
 ·by_cases hlt:i<H.length
  ·rwa [List.getElem?_append_left hlt] at ho
  ·have he:i=H.length:=by
    have:=(List.getElem?_eq_some_iff.1 ho).1
    simp at this;omega
   subst he;simp at ho
   subst ho;omega
structure Puts (μ μ':Mu) (X:Nat→Prop) (H H':List zb) (w w':World) (id:Nat):Prop where
 live: ∃o,H[id]?=some o∧o.st % 3=0
 len:H'.length=H.length
 st: ∀i o',i≠id→H'[i]?=some o'→ ∃o1,H[i]?=some o1∧o'.st=o1.st
 mu: ∀i,i≠id→μ' i=μ i
 mid: ∀l,μ' id=some l→ ∀b m,l=some (b,m)→b<w'.heap.size∧((∃m',μ id=some (some (b,m')))∨w.heap.size≤b)
 size:w.heap.size≤w'.heap.size
 os:w'.os=w.os
 tape:w'.tape=w.tape
 output:w'.output=w.output
 blk: ∀b,b<w.heap.size→(∀m,μ id≠some (some (b,m)))→w'.heap[b]?=w.heap[b]?
theorem Puts.oo {id:Nat} (h:Puts μ μ' X H H' w w' id): ∀b,b<w.heap.size→OO X H' μ' b→OO X H μ b:=by
 rintro b hlt (hx|⟨i,o,m,hi,hs,hm⟩)
 ·exact .inl hx
 ·by_cases he:i=id
  ·subst he;obtain ⟨o0,h0,hs0⟩:=h.live;rcases (h.mid _ hm b m rfl).2 with ⟨m',hm'⟩|hge
   ·exact .inr ⟨i,o0,m',h0,hs0,hm'⟩
   ·omega
  ·obtain ⟨o1,h1,hs1⟩:=h.st i o he hi;exact .inr ⟨i,o1,m,h1,by rw [←hs1];exact hs,by rw [←h.mu i he];exact hm⟩
theorem Puts.moved {id:Nat} (h:Puts μ μ' X H H' w w' id):Moved id (OO X H μ) (OO X H' μ') μ μ' w w':=
 ⟨fun i l hi hl=>by rw [h.mu i hi];exact hl,h.oo,fun b hlt hn=>h.blk b hlt fun m hm=>by
  obtain ⟨o0,h0,hs0⟩:=h.live;exact hn (.inr ⟨id,o0,m,h0,hs0,hm⟩)⟩
theorem Puts.ext {id:Nat} (h:Puts μ μ' X H H' w w' id):Ext μ w μ':=fun i b m hi=>by
 by_cases he:i=id
 ·subst he;exact (h.mid _ hi b m rfl).2.imp (fun ⟨m',hm'⟩=>⟨i,m',hm'⟩) fun h=>h
 ·rw [h.mu i he] at hi;exact .inl ⟨i,m,hi⟩
theorem Puts.chg {id:Nat} (h:Puts μ μ' X H H' w w' id):Chg μ w w':=⟨h.os,h.tape,h.output,h.size,fun k hk hn=>h.blk k hk fun m=>hn id m⟩
theorem Puts.rel {id:Nat} (h:Puts μ μ' X H H' w w' id) (hH:HRel μ X H w) (hoth: ∀i o',i≠id→H'[i]?=some o'→o'.st<2→ObjAt (OO X H' μ') w' μ' i o')
 (hnew: ∀o',H'[id]?=some o'→o'.st<2→ObjAt (OO X H' μ') w' μ' id o') (hmp:MapsOk (OO X H' μ') w' μ' H'):HRel μ' X H' w':=by
 have hidlt:id<H.length:=by obtain ⟨o,h0,_⟩:=h.live;exact (List.getElem?_eq_some_iff.1 h0).1
 refine ⟨fun i l hi=> ?_,fun i j b m1 m2 hi hj=> ?_,fun i b m hi=> ?_,fun i o' hi hs=> ?_,fun b hx=>Nat.lt_of_lt_of_le (hH.xlt b hx) h.size,hH.gl.step h.size (fun b hlt _ hn=>h.blk b hlt (hn id)) (fun _ h=> .inl h) fun i b m hi=>(h.ext i b m hi).imp (fun h=>h) .inr,hmp⟩
 ·by_cases he:i=id
  ·subst he;rw [h.len];exact hidlt
  ·rw [h.mu i he] at hi;rw [h.len];exact hH.dom i l hi
 ·by_cases he:i=id <;>by_cases hf:j=id
  ·omega
  ·subst he;rw [h.mu j hf] at hj;rcases (h.mid _ hi b m1 rfl).2 with ⟨m',hm'⟩|hge
   ·exact hH.inj _ _ _ _ _ hm' hj
   ·have:=(hH.lt j b m2 hj).1;omega
  ·subst hf;rw [h.mu i he] at hi;rcases (h.mid _ hj b m2 rfl).2 with ⟨m',hm'⟩|hge
   ·exact hH.inj _ _ _ _ _ hi hm'
   ·have:=(hH.lt i b m1 hi).1;omega
  ·rw [h.mu i he] at hi;rw [h.mu j hf] at hj;exact hH.inj _ _ _ _ _ hi hj
 ·by_cases he:i=id
  ·subst he;obtain ⟨h1,h2⟩:=h.mid _ hi b m rfl;refine ⟨h1,fun hx=> ?_⟩;rcases h2 with ⟨m',hm'⟩|hge
   ·exact (hH.lt _ b m' hm').2 hx
   ·have:=hH.xlt b hx;omega
  ·rw [h.mu i he] at hi;have:=hH.lt i b m hi
   exact ⟨Nat.lt_of_lt_of_le this.1 h.size,this.2⟩
 ·by_cases he:i=id
  ·subst he;exact hnew o' hi hs
  ·exact hoth i o' he hi hs
theorem Puts.maps {id:Nat} (h:Puts μ μ' X H H' w w' id) (hH:HRel μ X H w) (hid: ∀o',H'[id]?=some o'→o'.st<3) (hoo: ∀i o',i≠id→H'[i]?=some o'→3≤o'.st→H[i]?=some o'):MapsOk (OO X H' μ') w' μ' H':=
 hH.mp.mono h.oo h.moved.blk fun i o' ho hs=>by
  have hi:i≠id:=fun he=>by subst he;have:=hid o' ho;omega
  exact ⟨i,o',hoo i o' hi ho hs, .refl o',fun l hl=>h.moved.mu i l hi hl,fun b m hm=>h.blk b (hH.lt i b m hm).1 fun m' hm'=>hi (hH.inj _ _ _ _ _ hm hm')⟩
theorem uR (id:Nat) {O:Nat→Prop} {H:List zb} {i:Nat} {o:zb} (h:MapsOk O w μ H) (ho:H[i]?=some o) (hs:3≤o.st):z7 id o=o:=by
 rcases h i o ho with h|h
 ·unfold z7;rw [h.1]
 ·omega
theorem Puts.others {id:Nat} (h:Puts μ μ X H H' w w' id) (hH:HRel μ X H w) (hH': ∀i,i≠id→H'[i]?=H[i]?):
 ∀i o',i≠id→H'[i]?=some o'→o'.st<2→ObjAt (OO X H' μ) w' μ i o':=fun i o' hi ho hs=>by
 rw [hH' i hi] at ho;refine (hH.obj i o' ho hs).mono h.oo h.moved.blk (fun _ _ h=>h) fun b m hm=>h.blk b (hH.lt i b m hm).1 fun m' hm'=>hi (hH.inj _ _ _ _ _ hm hm')
theorem Puts.others' {id:Nat} (h:Puts μ μ' X H H' w w' id) (hH:HRel μ X H w) (hH': ∀i,i≠id→H'[i]?=(H[i]?).map (z7 id)):
 ∀i o',i≠id→H'[i]?=some o'→o'.st<2→ObjAt (OO X H' μ') w' μ' i o':=fun i o' hi ho hs=>by
 rw [hH' i hi] at ho;simp only [Option.map_eq_some_iff] at ho;obtain ⟨o,ho,rfl⟩:=ho;rw [Qq] at hs;obtain ⟨hz,hob⟩:=hH.obj i o ho hs;have e1:(z7 id o).sz=o.sz:=by unfold z7;split <;>rfl
 have e2:(z7 id o).n=o.n:=by unfold z7;split <;>rfl
 have e3:(z7 id o).T=o.T:=by unfold z7;split <;>rfl
 refine ⟨by rw [e1];exact hz, ?_⟩;rcases hob with ⟨h1,h2⟩|⟨b,m,cur,h1,h2⟩
 ·exact .inl ⟨h.moved.mu _ _ hi h1,by rw [e2];exact h2⟩
 ·refine .inr ⟨b,m,cur,h.moved.mu _ _ hi h1, ?_⟩;have hb:=h.blk b (hH.lt i b m h1).1 fun m' hm'=>hi (hH.inj _ _ _ _ _ h1 hm')
  refine ⟨by rw [e3];exact hb.trans h2.blk,by rw [e1];exact h2.size,h2.le,by rw [e2];exact h2.nle,by rw [e1,e2];exact h2.one, ?_, ?_⟩
  ·rw [e2];intro k hk;unfold z7;split <;>simp [h2.flen k hk]
  ·rw [e1,e2];intro k j a v hk ha hv;cases hp:o.pure with
   |true=>
    have:z7 id o=o:=by unfold z7;rw [hp]
    rw [this] at ha ⊢;have:=h2.cell k j a v hk ha hv
    rw [hp] at this ⊢;exact this.mono h.oo h.moved.blk _ fun _ _ h=>h
   |false=>
    have hfp:(z7 id o).pure=false:=by unfold z7;rw [hp]
    rw [hfp];unfold z7 at ha;rw [hp] at ha;simp only [List.getElem?_map,Option.map_eq_some_iff] at ha;obtain ⟨c,hc,rfl⟩:=ha;have:=h2.cell k j c v hk hc hv
    rw [hp] at this;exact qn h.moved 4 this
structure NewOk (P:Program) (s:Sem Next) (O:Nat→Prop) (μ:Mu) (w:World) (id:Nat) (r:AV) (o:zb):Prop where
 st:o.st=0
 sz:0<o.sz
 le:o.n≤maxLen
 flen: ∀k,k<o.n→(o.f k).length=o.sz
 run: ∃u cur,s.run P w= .ok (.value u) (w.alloc (.cells cur o.T))∧cur.size=o.n*o.sz∧(∀(k j:Nat) v,k<o.n→j<o.sz→cur[k*o.sz+j]?=some v→v.oneCell'=true)∧
  (∀(k j:Nat) a v,k<o.n→(o.f k)[j]?=some a→cur[k*o.sz+j]?=some v→RV O w (if o.pure then noMu else μ) a v)∧
  ∀O' w' (μ':Mu),μ' id=some (some (w.heap.size,o.n))→RV O' w' μ' r u
abbrev zd7:=Option (Prop×AV×zb)
def lits (l:List Value):List AV:=l.map .lit
def uA (i:TyI) (tab:Tab) (t id:Nat):zd7:=
 match i.k with
 | .arr n e=>match tab e with
   |some ei=>match Nat.blt 0 ei.sz,Nat.beq i.zero.length ei.sz,Nat.ble n 1000000 with
    |true,true,true=>some (True, .ptr id ei.sz 0 0,{T:=t,sz:=ei.sz,n:=n,f:=fun _=>lits i.zero})
    |_,_,_=>none
   |none=>none
 |_=>match Nat.blt 0 i.sz with
  |true=>some (True, .ptr id i.sz 0 0,{T:=t,sz:=i.sz,n:=1,f:=fun _=>lits i.zero,box:=true})
  |false=>none
theorem GT (hT:zI P tab) {t id:Nat} {i:TyI} (hi:tab t=some i) {r:AV} {o:zb} {q:Prop} (h:uA i tab t id=some (q,r,o)):NewOk P (do pure (.value (←Instr.alloc t true (.tuple #[])))) O μ w id r o:=by
 have hty:=hT t i hi;obtain ⟨z,hz,hzc⟩:=hty.zero (w:=w)
 have hrun:(do pure (.value (←Instr.alloc t true (.tuple #[]))):Sem Next).run P w= .ok (.value (.pointer (some ⟨w.heap.size,0,none⟩))) (w.alloc (.cells z.cells t)):=by
  simp [Instr.alloc,hz,newVar,newRow]
 unfold uA at h;split at h
 ·rename_i n e hk;split at h
  ·rename_i ei he;split at h
   ·rename_i h1 h2 h3;injection h with h;injection h with _ h;injection h with e1 e2;subst e1 e2
    rw [Nat.blt_eq] at h1;have h2:=ZD h2;have h3:=Nat.ble_eq.mp h3;have hzc':z.cells.toList=(List.replicate n i.zero).flatten:=by rw [hzc];unfold TyI.zeroCells;rw [hk]
    have hget: ∀(k j:Nat) v,k<n→j<ei.sz→z.cells[k*ei.sz+j]?=some v→i.zero[j]?=some v:=fun k j v hk hj hv=>by
     rw [←Array.getElem?_toList,hzc',←h2,xX n _ k j hk (by omega)] at hv;exact hv
    refine ⟨rfl,h1,by unfold maxLen;simp only;omega,fun k hk=>by simp [lits,h2],_,_,hrun, ?_,fun k j v hk hj hv=> ?_,fun k j a v hk ha hv=> ?_,fun O' w' μ' hm=>by simpa using RV.ptr (sz:=ei.sz) (k:=0) (o:=0) hm⟩
    ·rw [←Array.length_toList,hzc'];simp [h2]
    ·have hm:=hget k j v hk hj hv;refine hty.zone v ?_;unfold TyI.zeroCells;simp only [hk, *];exact List.mem_flatten.2 ⟨i.zero,List.mem_replicate.2 ⟨by have:k<n:=hk;omega,rfl⟩,List.mem_of_getElem? hm⟩
    ·have hj:j<ei.sz:=by have:=(List.getElem?_eq_some_iff.1 ha).1;simpa [lits,h2] using this
     have hm:=hget k j v hk hj hv;simp only [lits,List.getElem?_map,Option.map_eq_some_iff] at ha;obtain ⟨u,hu,rfl⟩:=ha;rw [hu] at hm;injection hm with hm;subst hm;exact .lit _
   ·cases h
  ·cases h
 ·rename_i hk;split at h
  ·rename_i h1;injection h with h;injection h with _ h;injection h with e1 e2;subst e1 e2
   rw [Nat.blt_eq] at h1
   have hzc':i.zeroCells=i.zero:=by
    unfold TyI.zeroCells;split
    ·rename_i n e hk';exact (hk n e hk').elim
    ·rfl
   have hlen:i.zero.length=i.sz:=by rw [←hzc',hty.zlen]
   rw [hzc'] at hzc;refine ⟨rfl,h1,by unfold maxLen;simp only;omega,fun k hk=>by simp [lits,hlen],_,_,hrun,by rw [←Array.length_toList,hzc,hlen];simp,fun k j v hk hj hv=> ?_,fun k j a v hk ha hv=> ?_,fun O' w' μ' hm=>by simpa using RV.ptr (sz:=i.sz) (k:=0) (o:=0) hm⟩
   ·refine hty.zone v ?_;rw [hzc',←hzc];exact Array.mem_toList_iff.2 (Array.mem_of_getElem? hv)
   ·obtain rfl:k=0:=by simp only at hk;omega
    simp only [Nat.zero_mul,Nat.zero_add] at hv;rw [←Array.getElem?_toList,hzc] at hv;simp only [lits,List.getElem?_map,Option.map_eq_some_iff] at ha;obtain ⟨u,hu,rfl⟩:=ha;rw [hu] at hv;injection hv with hv;subst hv;exact .lit _
  ·cases h
def Q3 (a:AV) (sz:Nat):Option (List AV):=
 match Jw a with
 |some cs=>match Nat.beq cs.length sz,cs.all zis with
  |true,true=>some cs
  |_,_=>none
 |none=>none
theorem QI {a:AV} {sz:Nat} {cs:List AV} (h:Q3 a sz=some cs) {v:Value} (hv:RV O w μ a v):cs.length=sz∧RVs O w μ cs v.cells.toList∧ ∀u∈v.cells.toList,u.oneCell'=true:=by
 unfold Q3 at h;split at h
 ·rename_i cs' hc;split at h
  ·rename_i h1 h2;injection h with h;subst h
   have hr:=Uu hc hv;refine ⟨ZD h1,hr,fun u hu=> ?_⟩;obtain ⟨j,hj⟩:=List.getElem?_of_mem hu;have hlt:j<cs'.length:=by rw [hr.1];exact (List.getElem?_eq_some_iff.1 hj).1
   exact zd5 (List.all_eq_true.1 h2 _ (List.getElem_mem hlt)) (hr.2 j _ u (List.getElem?_eq_getElem hlt) hj)
  ·cases h
 ·cases h
def zko (i:TyI) (t id:Nat) (x:AV):zd7:=
 match i.k,x with
 | .arr n _, .arr sz m f=>match Nat.blt 0 sz,Nat.ble m 1000000,Nat.beq n m with
   |true,true,true=>some (True, .ptr id sz 0 0,{T:=t,sz:=sz,n:=m,f:=f})
   |_,_,_=>none
 | .arr _ _,_=>none
 |_,_=>match Q3 x i.sz,Nat.blt 0 i.sz with
  |some cs,true=>some (True, .ptr id i.sz 0 0,{T:=t,sz:=i.sz,n:=1,f:=fun _=>cs,box:=true,pure:=cs.all (zB 4)})
  |_,_=>none
theorem GW {t:TypeId} {v:Value}:(do pure (.value (←Instr.box t v)):Sem Next).run P w= .ok (.value (.pointer (some ⟨w.heap.size,0,none⟩))) (w.alloc (.cells v.cells t)):=by
 simp [Instr.box,newVar,newRow]
theorem zj0 {i:TyI} {t id:Nat} {x r:AV} {o:zb} {q:Prop} (h:zko i t id x=some (q,r,o)) {v:Value} (hv:RV O w μ x v):NewOk P (do pure (.value (←Instr.box t v))) O μ w id r o:=by
 unfold zko at h;split at h
 ·rename_i n e sz m f hk;split at h
  ·rename_i h1 h2 h3;injection h with h;injection h with _ h;injection h with e1 e2;subst e1 e2
   rw [Nat.blt_eq] at h1;have h2:=Nat.ble_eq.mp h2;cases hv with
   |arr g0 g1 g2 g3=>
    refine ⟨rfl,h1,by unfold maxLen;simp only;omega,g2,_,_,GW,by simpa [Value.cells] using g1,fun k j v hk hj hv=>g0 v (List.mem_of_getElem? (by simpa [Value.cells] using hv)),fun k j a v hk ha hv=>g3 k j a v hk ha (by simpa [Value.cells] using hv),fun O' w' μ' hm=>by simpa using RV.ptr (sz:=sz) (k:=0) (o:=0) hm⟩
  ·cases h
 ·cases h
 ·split at h
  ·rename_i cs hc h1;injection h with h;injection h with _ h;injection h with e1 e2;subst e1 e2
   rw [Nat.blt_eq] at h1;obtain ⟨g1,g2,g3⟩:=QI hc hv;refine ⟨rfl,h1,by unfold maxLen;simp only;omega,fun k hk=>g1,_,_,GW,by rw [←Array.length_toList,←g2.1,g1];simp,fun k j v hk hj hv=>g3 v (Array.mem_toList_iff.2 (Array.mem_of_getElem? hv)),fun k j a v hk ha hv=> ?_,fun O' w' μ' hm=>by simpa using RV.ptr (sz:=i.sz) (k:=0) (o:=0) hm⟩;obtain rfl:k=0:=by simp only at hk;omega
   have hr:=g2.2 j a v ha (by simpa using hv);simp only;split
   ·rename_i hp;exact Yd 4 (List.all_eq_true.1 hp _ (List.mem_of_getElem? ha)) hr
   ·exact hr
  ·cases h
def YL (ev:Operand→AV) (sz:Nat):Nat→List (Nat×Operand)→Option (List (List AV))
 |_,[]=>some []
 |k,(i,x)::rest=>match Nat.beq i k,Q3 (ev x) sz,YL ev sz (k+1) rest with
  |true,some cs,some r=>some (cs::r)
  |_,_,_=>none
def WH (css:List (List AV)) (k:Nat):List AV:=(nth css k).getD []
def W7 (tab:Tab) (ev:Operand→AV) (t len:Nat) (parts:List (Nat×Operand)) (id:Nat):zd7:=
 match tab t with
 |some i=>match i.k with
  | .slice e=>match tab e with
    |some ei=>match YL ev ei.sz 0 parts,Nat.beq parts.length len,Nat.blt 0 ei.sz,Nat.ble (len*ei.sz) 16777216 with
     |some css,true,true,true=>some (True, .row id ei.sz 0 len none,{T:=e,sz:=ei.sz,n:=len,f:=WH css,pure:=css.all fun cs=>cs.all (zB 4)})
     |_,_,_,_=>none
    |none=>none
  |_=>none
 |none=>none
theorem Qw {α:Type} (sz:Nat): ∀(l:List (List α)) (k j:Nat),(∀c∈l,c.length=sz)→j<sz→l.flatten[k*sz+j]?=(l[k]?).bind (·[j]?)
 |[],k,j,_,_=>by simp
 |c::l,0,j,h,hj=>by
  have:=h c (by simp)
  rw [List.flatten_cons,List.getElem?_append_left (by omega)];simp
 |c::l,k+1,j,h,hj=>by
  have:=h c (by simp)
  rw [List.flatten_cons,List.getElem?_append_right (by rw [Nat.add_mul];omega)];rw [show (k+1)*sz+j - c.length=k*sz+j by rw [Nat.add_mul];omega,Qw sz l k j (fun c hc=>h c (by simp [hc])) hj];simp
theorem Tn (sz:Nat): ∀(parts:List (Nat×Value)) (k:Nat) (cells:Array Value),(∀(j:Nat) p,parts[j]?=some p→p.1=k+j∧p.2.cells.size=sz)→(k+parts.length)*sz=cells.size→
 ∃rs:Array Value,Instr.fill (fun i=>some (i*sz,sz)) cells parts=some rs∧rs.toList=cells.toList.take (k*sz)++(parts.map (·.2.cells.toList)).flatten
 |[],k,cells,h,hs=>⟨cells,rfl,by
  simp only [List.length_nil,Nat.add_zero] at hs;rw [List.take_of_length_le (by simp;omega)];simp⟩
 |(i,v)::rest,k,cells,h,hs=>by
  obtain ⟨h0,h1⟩:=h 0 (i,v) rfl;simp only [Nat.add_zero] at h0 h1;subst h0
  have hz:v.cells.zipIdx.foldl (fun cs (c,j)=>cs.setIfInBounds (i*sz+j) c) cells=(v.cells.toList.zipIdx 0).foldl (fun cs (c,j)=>cs.setIfInBounds (i*sz+j) c) cells:=by
   rw [←Array.foldl_toList,Array.toList_zipIdx]
  simp only [List.length_cons] at hs
  have hb:i*sz+v.cells.size≤cells.size:=by
   rw [←hs,h1,show i+(rest.length+1)=(i+1)+rest.length by omega,Nat.add_mul (i+1),Nat.add_mul i 1];omega
  have hf:=Ki (i*sz) v.cells.toList 0 cells (by simp;omega);simp only [Nat.add_zero] at hf
  obtain ⟨rs,g1,g2⟩:=Tn sz rest (i+1) (v.cells.zipIdx.foldl (fun cs (c,j)=>cs.setIfInBounds (i*sz+j) c) cells) (fun j p hp=>by
   have:=h (j+1) p (by simpa using hp)
   exact ⟨by omega,this.2⟩) (by rw [hz,←Array.length_toList,hf,ql _ _ _ (by simp;omega)];simp;rw [←hs];congr 1;omega)
  refine ⟨rs, ?_, ?_⟩
  ·simp only [Instr.fill];rw [if_neg (by simp;omega)];exact g1
  ·rw [g2,hz,hf];unfold ZX;rw [List.take_left' (by simp [h1,Nat.add_mul];omega)];simp
theorem v_ {ev:Operand→AV} {ρ:Operand→Value} (hr: ∀x,RV O w μ (ev x) (ρ x)) (sz:Nat): ∀(parts:List (Nat×Operand)) (k:Nat) {css:List (List AV)},YL ev sz k parts=some css→
 css.length=parts.length∧ ∀(j:Nat) p,parts[j]?=some p→p.1=k+j∧(ρ p.2).cells.size=sz∧(∀u∈(ρ p.2).cells.toList,u.oneCell'=true)∧ ∃cs,css[j]?=some cs∧cs.length=sz∧RVs O w μ cs (ρ p.2).cells.toList
 |[],k,css,h=>by
  simp only [YL] at h;injection h with h;subst h
  exact ⟨rfl,fun j p hp=>by simp at hp⟩
 |(i,x)::rest,k,css,h=>by
  simp only [YL] at h;split at h
  ·rename_i cs r h1 h2 h3;injection h with h;subst h
   obtain ⟨g1,g2⟩:=v_ hr sz rest (k+1) h3;obtain ⟨b1,b2,b3⟩:=QI h2 (hr x);refine ⟨by simp [g1],fun j p hp=> ?_⟩;cases j with
   |zero=>
    simp at hp;subst hp
    exact ⟨by have:=ZD h1;omega,by rw [←Array.length_toList,←b2.1,b1],b3,cs,rfl,b1,b2⟩
   |succ j=>
    obtain ⟨e1,e2,e3,cs',e4,e5,e6⟩:=g2 j p (by simpa using hp);exact ⟨by omega,e2,e3,cs',by simpa using e4,e5,e6⟩
  ·cases h
theorem uK (hT:zI P tab) {ev:Operand→AV} {ρ:Operand→Value} (hr: ∀x,RV O w μ (ev x) (ρ x)) {t len id:Nat} {parts:Array (Nat×Operand)} {r:AV} {o:zb} {q:Prop} (h:W7 tab ev t len parts.toList id=some (q,r,o)):
 NewOk P (do pure (.value (←Instr.buildSlice t len (parts.map fun (i,x)=>(i,ρ x))))) O μ w id r o:=by
 unfold W7 at h;split at h
 ·rename_i i hi;have hu:=(hT t i hi).und
  split at h
  ·rename_i e hk;rw [hk] at hu;simp only [yz] at hu;split at h
   ·rename_i ei he;have hty:=hT e ei he;obtain ⟨z,hz,hzc⟩:=hty.zero (w:=w);split at h
    ·rename_i css h1 h2 h3 h4;injection h with h;injection h with _ h;injection h with e1 e2;subst e1 e2
     have h2:=ZD h2;rw [Nat.blt_eq] at h3;have h4:=Nat.ble_eq.mp h4;obtain ⟨g1,g2⟩:=v_ hr ei.sz parts.toList 0 h1;have hzs:z.cells.size=ei.sz:=by rw [←Array.length_toList,hzc,hty.zlen]
     have hlen:len≤len*ei.sz:=Nat.le_mul_of_pos_right _ h3
     obtain ⟨cells0,hc0,hc0s⟩: ∃cells0:Array Value,(if len*ei.sz=0 then (pure #[]:Sem (Array Value)) else do pure (←zeroValue e).cells).run P w= .ok (if len*ei.sz=0 then #[] else z.cells) w∧(Array.range (len*ei.sz)).map (fun x=>(if len*ei.sz=0 then (#[]:Array Value) else z.cells)[x % (if len*ei.sz=0 then (#[]:Array Value) else z.cells).size]!)=cells0:=by
      refine ⟨_, ?_,rfl⟩;split
      ·rfl
      ·simp [hz]
     have hcs:cells0.size=len*ei.sz:=by rw [←hc0s];simp
     let vparts:List (Nat×Value):=parts.toList.map fun p=>(p.1,ρ p.2)
     obtain ⟨rs,f1,f2⟩:=Tn ei.sz vparts 0 cells0 (fun j p hp=>by
      simp only [vparts,List.getElem?_map,Option.map_eq_some_iff] at hp;obtain ⟨p',hp',rfl⟩:=hp;exact ⟨(g2 j p' hp').1,(g2 j p' hp').2.1⟩) (by rw [hcs];simp [vparts];simp at h2;rw [h2])
     simp only [Nat.zero_mul,List.take_zero,List.nil_append] at f2
     have hflen: ∀c∈vparts.map (·.2.cells.toList),c.length=ei.sz:=by
      intro c hc;obtain ⟨p,hp,rfl⟩:=List.mem_map.1 hc;obtain ⟨j,hj⟩:=List.getElem?_of_mem hp;simp only [vparts,List.getElem?_map,Option.map_eq_some_iff] at hj;obtain ⟨p',hp',rfl⟩:=hj;simpa using (g2 j p' hp').2.1
     have hget: ∀(k j:Nat) v,k<len→j<ei.sz→rs[k*ei.sz+j]?=some v→ ∃p,parts.toList[k]?=some p∧(ρ p.2).cells.toList[j]?=some v:=by
      intro k j v hk hj hv;rw [←Array.getElem?_toList,f2,Qw ei.sz _ _ _ hflen hj] at hv;obtain ⟨p,hp⟩: ∃p,parts.toList[k]?=some p:=⟨_,List.getElem?_eq_getElem (by omega)⟩;simp only [vparts,List.map_map,List.getElem?_map,hp,Option.map_some,Option.bind_some,Function.comp] at hv;exact ⟨p,hp,hv⟩
     have hrs:rs.size=len*ei.sz:=by
      rw [←Array.length_toList,f2,List.length_flatten]
      have:(vparts.map (·.2.cells.toList)).map List.length=List.replicate len ei.sz:=by
       rw [List.eq_replicate_iff];refine ⟨by simp [vparts];simpa using h2,fun b hb=> ?_⟩;obtain ⟨c,hc,rfl⟩:=List.mem_map.1 hb;exact hflen c hc
      rw [this];simp
     have hrun:(do pure (.value (←Instr.buildSlice t len (parts.map fun (i,x)=>(i,ρ x)))):Sem Next).run P w= .ok (.value (.slice (some ⟨w.heap.size,0,none⟩) len len)) (w.alloc (.cells rs e)):=by
      have hp:(parts.map fun (i,x)=>(i,ρ x)).toList=vparts:=by simp [vparts]
      have hif: ¬len*ei.sz>2^24:=by omega
      simp only [Instr.buildSlice,Sem.run_bind,run_underlying hu,Result.andThen_ok,hty.run_size,if_neg hif,hp,newRow,Sem.run_pure,Sem.run_ite];by_cases h0:len*ei.sz=0
      ·simp only [if_pos h0] at hc0s ⊢;rw [hc0s,f1];simp
      ·simp only [if_neg h0] at hc0s ⊢;rw [hz];simp only [Result.andThen_ok];rw [hc0s,f1];simp
     refine ⟨rfl,h3,by unfold maxLen;simp only;omega,fun k hk=> ?_,_,_,hrun,hrs,fun k j v hk hj hv=> ?_,fun k j a v hk ha hv=> ?_,fun O' w' μ' hm=> ?_⟩
     ·obtain ⟨p,hp⟩: ∃p,parts.toList[k]?=some p:=⟨_,List.getElem?_eq_getElem (by have:k<len:=hk;omega)⟩;obtain ⟨_,_,_,cs,hcs',hl,_⟩:=g2 k p hp;simp only [WH,zH,hcs',Option.getD_some,hl]
     ·obtain ⟨p,hp,hv'⟩:=hget k j v hk hj hv;exact (g2 k p hp).2.2.1 v (List.mem_of_getElem? hv')
     ·have hk:k<len:=hk
      obtain ⟨p0,hp0⟩: ∃p,parts.toList[k]?=some p:=⟨_,List.getElem?_eq_getElem (by omega)⟩;obtain ⟨_,_,_,cs,hcs',hl,hrv⟩:=g2 k p0 hp0;simp only [WH,zH,hcs',Option.getD_some] at ha;have hj:j<ei.sz:=by have:=(List.getElem?_eq_some_iff.1 ha).1;omega
      obtain ⟨p,hp,hv'⟩:=hget k j v hk hj hv;rw [hp0] at hp;injection hp with hp;subst hp;have hr1:=hrv.2 j a v ha hv';simp only;split
      ·rename_i hpu;exact Yd 4 (List.all_eq_true.1 (List.all_eq_true.1 hpu _ (List.mem_of_getElem? hcs')) _ (List.mem_of_getElem? ha)) hr1
      ·exact hr1
     ·have hm:μ' id=some (some (w.heap.size,len)):=hm
      have:=RV.row (O:=O') (w:=w') (sz:=ei.sz) (off:=0) (n:=len) (c:=len) (cap:=none) hm (Nat.le_refl _) (by omega) (fun q hq=>by cases hq) (fun _=>by omega)
      simpa using this
    ·cases h
   ·cases h
  ·cases h
 ·cases h
def VI (tab:Tab) (t:TypeId) (l c:AV) (id:Nat):zd7:=
 match tab t,l,c with
 |some i, .lit (.int _ z), .lit (.int _ z')=>match i.k with
  | .slice e=>match tab e with
    |some ei=>match Nat.blt 0 ei.sz,ei.k.isAgg with
     |true,_=>some (z'=z∧0≤z∧z≤1000000000000∧z*ei.by_≤140737488355328, .row id ei.sz 0 z.toNat none,{T:=e,sz:=ei.sz,n:=z.toNat,f:=fun _=>lits ei.zeroCells})
     |_,_=>none
    |none=>none
  |_=>none
 |_,_,_=>none
theorem Pe (hT:zI P tab) {t id:Nat} {l c:AV} {r:AV} {o:zb} {q:Prop} (h:VI tab t l c id=some (q,r,o)) (hq:q) {lv cv:Value} (hl:RV O w μ l lv) (hc:RV O w μ c cv):
 NewOk P (do pure (.value (←Instr.makeSlice t lv cv))) O μ w id r o:=by
 unfold VI at h;split at h
 ·rename_i i kl z kc z' hi;have hu:=(hT t i hi).und
  split at h
  ·rename_i e hk;rw [hk] at hu;simp only [yz] at hu;split at h
   ·rename_i ei he;have hty:=hT e ei he;obtain ⟨f,hf,hfs,hfb,zv,hzv,hzc⟩:=hty.info;split at h
    ·rename_i h1;injection h with h;injection h with e0 h;injection h with e1 e2;subst e0 e1 e2
     obtain ⟨rfl,q1,q2,q3⟩:=hq;rw [Nat.blt_eq] at h1;cases hl;cases hc
     have hrun:=run_make (P:=P) w t e f zv hu hf hzv kl kc z' z' q1 (Int.le_refl _) (by rw [hfb,Int.mul_comm];omega) (by omega);have hzs:zv.cells.size=ei.sz:=by rw [←Array.length_toList,hzc,hty.zlen]
     have hget: ∀(k j:Nat) v,k<z'.toNat→j<ei.sz→(madeCells zv.cells (z'.toNat*f.size))[k*ei.sz+j]?=some v→ei.zeroCells[j]?=some v:=by
      intro k j v hk hj hv
      have hlt:k*ei.sz+j<z'.toNat*ei.sz:=by
       have:(k+1)*ei.sz≤z'.toNat*ei.sz:=Nat.mul_le_mul_right _ hk
       rw [Nat.add_mul] at this;omega
      have hmod:(k*ei.sz+j) % zv.cells.size=j:=by rw [hzs,Nat.mul_comm,Nat.mul_add_mod];exact Nat.mod_eq_of_lt hj
      simp only [madeCells,hfs,Array.getElem?_map,Array.getElem?_range,hlt,if_true,Option.map_some,Option.some.injEq] at hv;rw [hmod] at hv;rw [←hzc,←hv,Array.getElem?_toList,Array.getElem?_eq_getElem (by omega)];simp [show j<zv.cells.size by omega]
     refine ⟨rfl,h1,by unfold maxLen;simp only;omega,fun k hk=>by simp [lits,hty.zlen],_,_,(by simp only [Sem.run_bind,hrun,Result.andThen_ok,Sem.run_pure];rfl),by rw [size_madeCells,hfs],fun k j v hk hj hv=>hty.zone v (List.mem_of_getElem? (hget k j v hk hj hv)),fun k j a v hk ha hv=> ?_,fun O' w' μ' hm=> ?_⟩
     ·have hj:j<ei.sz:=by have:=(List.getElem?_eq_some_iff.1 ha).1;simpa [lits,hty.zlen] using this
      have hm:=hget k j v hk hj hv;simp only [lits,List.getElem?_map,Option.map_eq_some_iff] at ha;obtain ⟨u,hu,rfl⟩:=ha;rw [hu] at hm;injection hm with hm;subst hm;exact .lit _
     ·have hm:μ' id=some (some (w.heap.size,z'.toNat)):=hm
      have:=RV.row (O:=O') (w:=w') (sz:=ei.sz) (off:=0) (n:=z'.toNat) (c:=z'.toNat) (cap:=none) hm (Nat.le_refl _) (by omega) (fun q hq=>by cases hq) (fun _=>by omega)
      simpa using this
    ·cases h
   ·cases h
  ·cases h
 ·cases h
def Vs (tab:Tab) (ev:Operand→AV) (id:Nat):Op→zd7
 | .alloc t=>match tab t with|some i=>uA i tab t id|none=>none
 | .box t x=>match tab t with|some i=>zko i t id (ev x)|none=>none
 | .buildSlice t len parts=>W7 tab ev t len parts.toList id
 | .makeSlice t l c=>VI tab t (ev l) (ev c) id
 |_=>none
theorem Pz (hT:zI P tab) {ev:Operand→AV} {ρ:Operand→Value} (hr: ∀x,RV O w μ (ev x) (ρ x)) {id:Nat} {r:AV} {ob:zb} {q:Prop} {o:Oper} (h:Vs tab ev id o.op=some (q,r,ob)) (hq:q):NewOk P (execOp ρ o) O μ w id r ob:=by
 unfold execOp;generalize o.op=op at h;cases op <;>simp only [Vs,reduceCtorEq] at h <;>try (cases h;done)
 all_goals dsimp only
 case alloc t=>split at h;exact GT hT ‹_› h;cases h
 case box t x=>split at h;exact zj0 h (hr x);cases h
 case buildSlice t len parts=>exact uK hT hr h
 case makeSlice t l c=>exact Pe hT h hq (hr l) (hr c)
def fgA:Option Nat→AV→AV
 |none,a=>a
 |some id,a=>ZO id 4 a
def wY (P:Program) (s:Sem Next) (X:Nat→Prop) (μ:Mu) (H:List zb) (w:World) (r:AV) (H':List zb) (fg:Option Nat):Prop:=
 ∃n u w' μ',s.run P w= .ok n w'∧(n= .value u∨(n= .skip∧u=undef))∧HRel μ' X H' w'∧Ext μ w μ'∧Chg μ w w'∧RV (OO X H' μ') w' μ' r u∧ ∀(k:Nat) a v,RV (OO X H μ) w (upto k μ) a v→RV (OO X H' μ') w' (upto k μ') (fgA fg a) v∧((∀id,fg=some id→k≤id)→RV (OO X H' μ') w' (upto k μ') a v)
theorem NewOk.mut (hH:HRel μ X H w) {s:Sem Next} {r:AV} {o:zb} (h:NewOk P s (OO X H μ) μ w H.length r o):wY P s X μ H w r (H++[o]) none:=by
 obtain ⟨u,cur,h1,h2,h3,h4,h5⟩:=h.run;obtain ⟨g1,g2,g3,g4,g5⟩:=hH.new (o:=o) (m:=o.n) (cur:=cur) h.sz h2 h.le (Nat.le_refl _) h3 h.flen h4 h.st;exact ⟨_,u,_,_,h1, .inl rfl,g1,g3,g4,h5 _ _ _ (by simp),fun k a v h=>⟨g5 k h,fun _=>g5 k h⟩⟩
theorem WN {α:Type} {l cs:List α} {off:Nat} (h:off+cs.length≤l.length) (i:Nat):(ZX l off cs)[i]?=if i<off then l[i]? else if i<off+cs.length then cs[i - off]? else l[i]?:=by
 unfold ZX;have e1:(l.take off).length=off:=by simp;omega
 by_cases h1:i<off
 ·rw [if_pos h1,List.append_assoc,List.getElem?_append_left (by omega),List.getElem?_take,if_pos h1]
 ·rw [if_neg h1,List.append_assoc,List.getElem?_append_right (by omega),e1];by_cases h2:i<off+cs.length
  ·rw [if_pos h2,List.getElem?_append_left (by omega)]
  ·rw [if_neg h2,List.getElem?_append_right (by omega),List.getElem?_drop];congr 1;omega
def upd (f:Nat→List AV) (k:Nat) (c:List AV):Nat→List AV:=fun q=>match Nat.beq q k with|true=>c|false=>f q
def tw (i:TyI) (ob:zb) (k o:Nat) (x:AV):Option (Prop×zb):=
 match i.k,x with
 | .arr n _, .arr sz m f=>match ob.box,Nat.beq m n,Nat.beq sz ob.sz,Nat.beq i.sz (n*sz),Nat.beq o 0 with
   |false,true,true,true,true=>some (k=0∧ob.n=n,{ob with f:=f})
   |_,_,_,_,_=>none
 |_,_=>match Q3 x i.sz,Nat.ble (o+i.sz) ob.sz with
  |some cs,true=>some (k<ob.n,{ob with f:=match ob.box with|true=>fun _=>ZX (ob.f 0) o cs|false=>upd ob.f k (ZX (ob.f k) o cs),pure:=ob.pure && cs.all (zB 4)})
  |_,_=>none
def vc (tab:Tab) (H:List zb) (t:TypeId) (p x:AV):Option (Prop×List zb):=
 match tab t,p with
 |some i, .ptr id sz k o=>match nth H id with
  |some ob=>match ob.st,Nat.beq ob.sz sz with
   |0,true=>match tw i ob k o x with
    |some (q,ob')=>some (q∧(ob.box=true→ob.n=1),setn H id ob')
    |none=>none
   |_,_=>none
  |none=>none
 |_,_=>none
theorem u7 (hH:HRel μ X H w) {id b m off:Nat} {ob ob':zb} {cur:Array Value} (hid:H[id]?=some ob) (hs:ob.st=0) (hm:μ id=some (some (b,m))) (hin:J6 (OO X H μ) w μ b m ob cur) (hz:0<ob.sz)
 {t:TypeId} {i:TyI} (hty:TyOk P t i) {v:Value} (hl:v.cells.toList.length=i.sz) (hb:off+i.sz≤cur.size) (h1: ∀u∈v.cells.toList,u.oneCell'=true)
 (e1:ob'.T=ob.T) (e2:ob'.sz=ob.sz) (e3:ob'.n=ob.n) (e4:ob'.st=ob.st)
 (hone: ∀(k j:Nat) v',k<ob.n→j<ob.sz→(ZX cur.toList off v.cells.toList)[k*ob.sz+j]?=some v'→v'.oneCell'=true)
 (hf: ∀k,k<ob.n→(ob'.f k).length=ob.sz)
 (hc: ∀(k j:Nat) a v',k<ob.n→(ob'.f k)[j]?=some a→(ZX cur.toList off v.cells.toList)[k*ob.sz+j]?=some v'→RV (OO X H μ) w (if ob'.pure then noMu else μ) a v'):
 wY P (do Instr.storeAt t (.pointer (some ⟨b,off,none⟩)) v;pure .skip) X μ H w (.lit undef) (H.set id ob') none:=by
 have hidlt:id<H.length:=(List.getElem?_eq_some_iff.1 hid).1
 have hrun:=run_storeCells_at P b off ob.T v.cells.toList 0 cur w hin.blk (by omega) h1;simp only [Nat.add_zero] at hrun;let cur':Array Value:=(ZX cur.toList off v.cells.toList).toArray
 have hst:(do Instr.storeAt t (.pointer (some ⟨b,off,none⟩)) v;pure .skip:Sem Next).run P w= .ok .skip (w.setRow b cur'):=by
  have hsz:v.cells.size=i.sz:=by simpa using hl
  simp only [Instr.storeAt,Instr.sureAddr,storeVar,Sem.run_bind,Sem.run_pure,Result.andThen_ok,hty.run_size,hsz,ne_eq,not_true_eq_false,if_false,hrun];rfl
 have hpu:Puts μ μ X H (H.set id ob') w (w.setRow b cur') id:=
  ⟨⟨ob,hid,by omega⟩,by simp,fun i o' hi ho=>by rw [List.getElem?_set_ne (Ne.symm hi)] at ho;exact ⟨o',ho,rfl⟩,fun _ _=>rfl,fun l hl' b' m' he=>by
    subst he;rw [hm] at hl';injection hl' with hl';injection hl' with hl';injection hl' with g1 g2;subst g1;exact ⟨by simp;exact (Array.getElem?_eq_some_iff.1 hin.blk).1, .inl ⟨_,hm⟩⟩,by simp,rfl,rfl,rfl,fun b' hb' hn=>setRow_other w b b' cur' fun he=>hn m (by rw [he];exact hm)⟩
 refine ⟨.skip,undef,w.setRow b cur',μ,hst, .inr ⟨rfl,rfl⟩,hpu.rel hH (hpu.others hH fun i hi=>List.getElem?_set_ne (Ne.symm hi)) (fun o' ho' _=> ?_) (hpu.maps hH (fun o' ho'=> ?_) fun i o' hi ho' _=>(List.getElem?_set_ne (Ne.symm hi)).symm.trans ho'),hpu.ext,hpu.chg, .lit _,fun k a v' h=>⟨h.mono hpu.oo hpu.moved.blk _ fun _ _ h=>h,fun _=>h.mono hpu.oo hpu.moved.blk _ fun _ _ h=>h⟩⟩;rw [List.getElem?_set_self hidlt] at ho';injection ho' with ho';subst ho'
 refine ⟨by rw [e2];exact hz, .inr ⟨b,m,cur',hm,by rw [e1];exact setRow_heap w b cur cur' ob.T (0,0) hin.blk, ?_,hin.le,by rw [e3];exact hin.nle, ?_, ?_, ?_⟩⟩
 ·rw [e2];simp only [cur',List.size_toArray];rw [ql _ _ _ (by simp at hl ⊢;omega)];simpa using hin.size
 ·rw [e2,e3];intro k j v' hk hj hv;exact hone k j v' hk hj (by simpa [cur'] using hv)
 ·rw [e2,e3];exact hf
 ·rw [e2,e3];intro k j a v' hk ha hv;exact (hc k j a v' hk ha (by simpa [cur'] using hv)).mono hpu.oo hpu.moved.blk _ fun _ _ h=>h
 ·rw [List.getElem?_set_self hidlt] at ho';injection ho' with ho';subst ho'
  omega
theorem zcy {k k' sz o n j:Nat} (hne:k'≠k) (hj:j<sz) (ho:o+n≤sz):k'*sz+j<k*sz+o∨k*sz+o+n≤k'*sz+j:=by
 rcases Nat.lt_or_gt_of_ne hne with h|h
 ·left
  have:(k'+1)*sz≤k*sz:=Nat.mul_le_mul_right _ h
  rw [Nat.add_mul] at this;omega
 ·right
  have:(k+1)*sz≤k'*sz:=Nat.mul_le_mul_right _ h
  rw [Nat.add_mul] at this;omega
theorem P8 (hT:zI P tab) (hH:HRel μ X H w) {t:TypeId} {p x:AV} {q:Prop} {H':List zb} (h:vc tab H t p x=some (q,H')) (hq:q) {pv v:Value} (hp:RV (OO X H μ) w μ p pv) (hv:RV (OO X H μ) w μ x v):
 wY P (do Instr.storeAt t pv v;pure .skip) X μ H w (.lit undef) H' none:=by
 unfold vc at h;split at h
 ·rename_i i id sz k o hi;have hty:=hT t i hi;split at h
  ·rename_i ob hob;split at h
   ·rename_i hst hsz;have hsz:=ZD hsz;subst hsz;split at h
    ·rename_i q' ob' hso;injection h with h;injection h with e1 e2;subst e1 e2
     obtain ⟨hq,hbox⟩:=hq;cases hp with
     |ptr hm=>
      rename_i b m;obtain ⟨hz,cur,hin⟩:=hH.at_ hob (by omega) hm;rw [Zx];rw [zH] at hob;unfold tw at hso;split at hso
      ·rename_i n e sz2 m2 f hk;split at hso
       ·rename_i hb1 hb2 hb3 hb4 hb5;obtain rfl:=ZD hb2;have hb3:=ZD hb3;have hb4:=ZD hb4;obtain rfl:=ZD hb5;injection hso with hso;injection hso with e1 e2;subst e1 e2
        obtain ⟨rfl,hn⟩:=hq;subst hb3;cases hv with
        |arr g0 g1 g2 g3=>
         rename_i vs;have hvl:(Value.agg vs.toArray).cells.toList.length=i.sz:=by simp [Value.cells,g1,hb4]
         have hcs:m2*ob.sz≤cur.size:=by rw [hin.size];exact Nat.mul_le_mul_right _ (by have:=hin.nle;omega)
         have hget: ∀(k j:Nat) v',k<ob.n→j<ob.sz→(ZX cur.toList (0*ob.sz+0) (Value.agg vs.toArray).cells.toList)[k*ob.sz+j]?=some v'→vs[k*ob.sz+j]?=some v':=by
          intro k j v' hk hj hv'
          have hlt:k*ob.sz+j<m2*ob.sz:=by
           have:(k+1)*ob.sz≤m2*ob.sz:=Nat.mul_le_mul_right _ (by omega)
           rw [Nat.add_mul] at this;omega
          rw [WN (by simp [Value.cells,g1];omega)] at hv';simp only [Value.cells,Nat.zero_mul,Nat.zero_add,Nat.not_lt_zero,if_false,Nat.sub_zero,g1,hlt,if_true] at hv';exact hv'
         exact u7 hH hob hst hm hin hz hty hvl (by rw [hb4];omega) (by simpa [Value.cells] using g0) rfl rfl rfl rfl (fun k j v' hk hj hv'=>g0 v' (List.mem_of_getElem? (hget k j v' hk hj hv')))
          (fun k hk=>g2 k (by omega)) fun k j a v' hk ha hv'=>by
           have hj:j<ob.sz:=by rw [←g2 k (by omega)];exact (List.getElem?_eq_some_iff.1 ha).1
           have:=g3 k j a v' (by omega) ha (hget k j v' hk hj hv')
           simp only;split
           ·exact this
           ·exact this.up
       ·cases hso
      ·split at hso
       ·rename_i cs hcs hle;have hle:=Nat.ble_eq.mp hle;injection hso with hso;injection hso with e1 e2;subst e1 e2
        obtain ⟨c1,c2,c3⟩:=QI hcs hv;have hvl:v.cells.toList.length=i.sz:=by rw [←c2.1,c1]
        have hkb:k*ob.sz+ob.sz≤cur.size:=by
         have:(k+1)*ob.sz≤m*ob.sz:=Nat.mul_le_mul_right _ (by have:=hin.nle;omega)
         rw [hin.size];rw [Nat.add_mul] at this;omega
        have hoff:k*ob.sz+o+i.sz≤cur.size:=by omega
        obtain ⟨us,u1,u2,u3,_⟩:=qW hz hin hq;have hsl:(k*ob.sz+o)+v.cells.toList.length≤cur.toList.length:=by rw [hvl];simp;omega
        have hk_get: ∀(j:Nat) v',j<ob.sz→(ZX cur.toList (k*ob.sz+o) v.cells.toList)[k*ob.sz+j]?=some v'→(ZX us o v.cells.toList)[j]?=some v':=by
         intro j v' hj hv';rw [WN hsl] at hv';rw [WN (by rw [hvl,u2];omega)];by_cases h1:j<o
         ·rw [if_pos h1];rw [if_pos (by omega)] at hv';have hju:j<us.length:=by omega
          have:=u3 j _ (List.getElem?_eq_getElem hju)
          rw [Array.getElem?_toList,this] at hv';rw [←hv'];exact List.getElem?_eq_getElem hju
         ·rw [if_neg h1];rw [if_neg (by omega)] at hv';by_cases h2:j<o+v.cells.toList.length
          ·rw [if_pos h2];rw [if_pos (by omega)] at hv';rw [←hv'];congr 1;omega
          ·rw [if_neg h2];rw [if_neg (by omega)] at hv';have hju:j<us.length:=by omega
           have:=u3 j _ (List.getElem?_eq_getElem hju)
           rw [Array.getElem?_toList,this] at hv';rw [←hv'];exact List.getElem?_eq_getElem hju
        have hne_get: ∀(k' j:Nat) v',k'≠k→j<ob.sz→(ZX cur.toList (k*ob.sz+o) v.cells.toList)[k'*ob.sz+j]?=some v'→cur[k'*ob.sz+j]?=some v':=by
         intro k' j v' hne hj hv';rw [WN hsl] at hv';rcases zcy hne hj (n:=i.sz) hle with h1|h1
         ·rw [if_pos h1] at hv';simpa using hv'
         ·rw [if_neg (by omega),if_neg (by omega)] at hv';simpa using hv'
        have hfk: ∀k',k'<ob.n→(match ob.box with|true=>fun _=>ZX (ob.f 0) o cs|false=>upd ob.f k (ZX (ob.f k) o cs)) k'=if k'=k then ZX (ob.f k) o cs else ob.f k':=by
         intro k' hk';cases hbx:ob.box with
         |true=>
          have:=hbox hbx
          rw [if_pos (by omega),show k=0 by omega]
         |false=>
          simp only [upd];by_cases he:k'=k
          ·rw [if_pos he,he];simp
          ·rw [if_neg he]
           have:Nat.beq k' k=false:=by
            cases hbb:Nat.beq k' k with
            |false=>rfl
            |true=>exact (he (ZD hbb)).elim
           rw [this]
        have hspl:(ZX (ob.f k) o cs).length=ob.sz:=by rw [ql _ _ _ (by rw [hin.flen k hq,c1];omega),hin.flen k hq]
        refine u7 hH hob hst hm hin hz hty hvl (by omega) c3 rfl rfl rfl rfl (fun k' j v' hk' hj hv'=> ?_) (fun k' hk'=> ?_) fun k' j a v' hk' ha hv'=> ?_
        ·by_cases he:k'=k
         ·subst he;have:=hk_get j v' hj hv'
          rw [WN (by rw [hvl,u2];omega)] at this;split at this
          ·exact hin.one k' j v' hk' hj (u3 j v' this)
          ·split at this
           ·exact c3 v' (List.mem_of_getElem? this)
           ·exact hin.one k' j v' hk' hj (u3 j v' this)
         ·exact hin.one k' j v' hk' hj (hne_get k' j v' he hj hv')
        ·simp only;rw [hfk k' hk'];split
         ·exact hspl
         ·exact hin.flen k' hk'
        ·simp only at ha ⊢;rw [hfk k' hk'] at ha;split at ha
         ·rename_i he;subst he;have hj:j<ob.sz:=by rw [←hspl];exact (List.getElem?_eq_some_iff.1 ha).1
          have hg:=hk_get j v' hj hv';by_cases hpu:(ob.pure && cs.all (zB 4))=true
          ·rw [if_pos hpu];rw [Bool.and_eq_true] at hpu;rw [hpu.1] at u1;have c2':RVs (OO X H μ) w noMu cs v.cells.toList:=⟨c2.1,fun j a v ha hv=>Yd 4 (List.all_eq_true.1 hpu.2 _ (List.mem_of_getElem? ha)) (c2.2 j a v ha hv)⟩
           exact ((show RVs _ _ noMu _ _ from u1).splice_ c2').2 j a v' ha hg
          ·rw [if_neg hpu];exact (u1.opt.splice_ c2).2 j a v' ha hg
         ·rename_i he;have hj:j<ob.sz:=by rw [←hin.flen k' hk'];exact (List.getElem?_eq_some_iff.1 ha).1
          have hr:=hin.cell k' j a v' hk' ha (hne_get k' j v' he hj hv');by_cases hpu:(ob.pure && cs.all (zB 4))=true
          ·rw [if_pos hpu];rw [Bool.and_eq_true] at hpu;rw [hpu.1] at hr;exact hr
          ·rw [if_neg hpu];cases hp:ob.pure with
           |true=>rw [hp] at hr;exact RV.up hr
           |false=>rw [hp] at hr;exact hr
       ·cases hso
    ·cases h
   ·cases h
  ·cases h
 ·cases h
def JV (H:List zb) (sz:Nat):AV→Option (Prop×Nat×(Nat→List AV))
 | .sl sz' m _ g=>match Nat.beq sz' sz with|true=>some (True,m,g)|false=>none
 | .row id sz' off m _=>match nth H id with
   |some ob=>match Nat.beq sz' sz,Nat.beq ob.sz sz,Nat.blt ob.st 2,ob.pure with
    |true,true,true,true=>some (off+m≤ob.n,m,match off with|0=>ob.f|off=>fun k=>ob.f (off+k))
    |_,_,_,_=>none
   |none=>none
 | .lit (.slice none 0 0)=>some (True,0,fun _=>[])
 |_=>none
theorem um (hH:HRel μ X H w) {sz m:Nat} {g:Nat→List AV} {q:Prop} {y:AV} (h:JV H sz y=some (q,m,g)) (hq:q) {v:Value} (hv:RV (OO X H μ) w μ y v):
 ∃(A:Option Addr) (c:Nat) (news:List Value),v= .slice A m c∧news.length=m*sz∧(∀u∈news,u.oneCell'=true)∧(m≠0→ ∃a:Addr,A=some a∧ ∀j u,news[j]?=some u→w.cell? (a.add j)=some u)∧(∀k,k<m→(g k).length=sz)∧
  ∀(k j:Nat) a v,k<m→(g k)[j]?=some a→news[k*sz+j]?=some v→RV (OO X H μ) w noMu a v:=by
 unfold JV at h;split at h
 ·rename_i sz' m' tt g';split at h
  ·rename_i hb;obtain rfl:=ZD hb;injection h with h;injection h with _ h;injection h with e1 e2;subst e1 e2
   cases hv with
   |sl h0 h1 h2 h3 h4 h5 h6 h7 h8=>
    rename_i A c vs;refine ⟨A,c,vs,rfl,h4,h0,fun hm=> ?_,h5,h6⟩;obtain ⟨gg,o,rfl,_,hcell⟩:=h8 hm;exact ⟨_,rfl,fun j u hu=>by rw [Addr.add_mid];exact hcell j u hu⟩
  ·cases h
 ·rename_i id sz' off m' cap;split at h
  ·rename_i ob hob;split at h
   ·rename_i hb1 hb2 hst hpu;obtain rfl:=ZD hb1;have hb2:=ZD hb2;rw [Nat.blt_eq] at hst;injection h with h;injection h with h1 h;injection h with e1 e2;subst h1 e1 e2
    have hg: ∀k,(match off with|0=>ob.f|off=>fun k=>ob.f (off+k)) k=ob.f (off+k):=fun k=>by cases off <;>simp
    have empty:m'=0→(∃A c,v= .slice A m' c)→ ∃(A:Option Addr) (c:Nat) (news:List Value),v= .slice A m' c∧news.length=m'*sz'∧(∀u∈news,u.oneCell'=true)∧(m'≠0→ ∃a:Addr,A=some a∧ ∀j u,news[j]?=some u→w.cell? (a.add j)=some u)∧(∀k,k<m'→((match off with|0=>ob.f|off=>fun k=>ob.f (off+k)) k).length=sz')∧
     ∀(k j:Nat) a v,k<m'→((match off with|0=>ob.f|off=>fun k=>ob.f (off+k)) k)[j]?=some a→news[k*sz'+j]?=some v→RV (OO X H μ) w noMu a v:=by
     rintro rfl ⟨A,c,rfl⟩
     exact ⟨A,c,[],rfl,by simp,by simp,fun h=>(h rfl).elim,fun k hk=>by omega,fun k j a v hk=>by omega⟩
    cases hv with
    |rowNil=>exact empty rfl ⟨_,_,rfl⟩
    |rowE=>exact empty rfl ⟨_,_,rfl⟩
    |row hm hn hc hcap hend=>
     rename_i b mb c;obtain ⟨hz,cur,hin⟩:=hH.at_ hob hst hm;subst hb2;have hsz:(off+m')*ob.sz≤cur.size:=by rw [hin.size];exact Nat.mul_le_mul_right _ (by have:=hin.nle;omega)
     rw [Nat.add_mul] at hsz;have hl:((cur.toList.drop (off*ob.sz)).take (m'*ob.sz)).length=m'*ob.sz:=by simp;omega
     have hget: ∀(k j:Nat) v,k<m'→j<ob.sz→((cur.toList.drop (off*ob.sz)).take (m'*ob.sz))[k*ob.sz+j]?=some v→cur[(off+k)*ob.sz+j]?=some v:=by
      intro k j v hk hj hv;rw [List.getElem?_take] at hv;split at hv
      ·rw [Nat.add_mul,Nat.add_assoc];simpa using hv
      ·cases hv
     refine ⟨_,c,(cur.toList.drop (off*ob.sz)).take (m'*ob.sz),rfl,hl,fun u hu=> ?_,fun _=>⟨_,rfl,fun j u hu=> ?_⟩,fun k hk=>by rw [hg];exact hin.flen _ (by omega),fun k j a v hk ha hv=> ?_⟩
     ·obtain ⟨p,hp⟩:=List.getElem?_of_mem hu;have hlt:p<m'*ob.sz:=by rw [←hl];exact (List.getElem?_eq_some_iff.1 hp).1
      have hd:=Nat.div_add_mod p ob.sz;have hmod:=Nat.mod_lt p hz;have hlt2:p / ob.sz<m':=Nat.div_lt_of_lt_mul (by rw [Nat.mul_comm];exact hlt)
      exact hin.one (off+p / ob.sz) (p % ob.sz) u (by omega) hmod (hget _ _ u hlt2 hmod (by rw [show p / ob.sz*ob.sz+p % ob.sz=p by rw [Nat.mul_comm];exact hd];exact hp))
     ·rw [Addr.add_mid,cell_of_row w b _ cur ob.T (0,0) hin.blk];rw [List.getElem?_take] at hu;split at hu
      ·simpa using hu
      ·cases hu
     ·rw [hg] at ha;have hj:j<ob.sz:=by rw [←hin.flen (off+k) (by omega)];exact (List.getElem?_eq_some_iff.1 ha).1
      have:=hin.cell (off+k) j a v (by omega) ha (hget k j v hk hj hv)
      rw [hpu] at this;exact this
   ·cases h
  ·cases h
 ·injection h with h;injection h with _ h;injection h with e1 e2;subst e1 e2
  cases hv
  exact ⟨none,0,[],rfl,by simp,by simp,fun h=>(h rfl).elim,fun k hk=>by omega,fun k j a v hk=>by omega⟩
 ·cases h
def xY (n:Nat) (f g:Nat→List AV):Nat→List AV:=fun k=>match Nat.blt k n with|true=>f k|false=>g (k - n)
theorem xU {n k:Nat} {f g:Nat→List AV} (h:k<n):xY n f g k=f k:=by
 unfold xY;have:Nat.blt k n=true:=by rw [Nat.blt_eq];exact h
 rw [this]
theorem Ym {n k:Nat} {f g:Nat→List AV} (h:n≤k):xY n f g k=g (k - n):=by
 unfold xY
 have:Nat.blt k n=false:=by
  cases hb:Nat.blt k n with
  |false=>rfl
  |true=>rw [Nat.blt_eq] at hb;omega
 rw [this]
theorem uG (hT:zI P tab) (hH:HRel μ X H w) {t e ty id n m:Nat} {i ei:TyI} (hi:tab t=some i) (hk:i.k= .slice e) (he:tab e=some ei) (hz:0<ei.sz) {ob:zb} (hob:H[id]?=some ob) (hst:ob.st=0) (hsz:ob.sz=ei.sz) (hTe:ob.T=e) (hpu0:ob.pure=true) (hn:n≤ob.n)
 {s x:Value} (hs:RV (OO X H μ) w μ (.row id ei.sz 0 n none) s) {A:Option Addr} {c:Nat} {news:List Value} {g:Nat→List AV} (hx:x= .slice A m c) (hl:news.length=m*ei.sz) (h1: ∀u∈news,u.oneCell'=true)
 (hA:m≠0→ ∃a:Addr,A=some a∧ ∀j u,news[j]?=some u→w.cell? (a.add j)=some u) (hg: ∀k,k<m→(g k).length=ei.sz) (hgr: ∀(k j:Nat) a v,k<m→(g k)[j]?=some a→news[k*ei.sz+j]?=some v→RV (OO X H μ) w noMu a v)
 (h63:n+m≤maxLen) (hby:(n+m)*ei.by_≤140737488355328):
 wY P (do pure (.value (←Builtin.append_ #[t,t] ty #[s,x]))) X μ H w (.row id ei.sz 0 (n+m) none) ((H.map (z7 id)).set id {ob with n:=n+m,f:=xY n ob.f g,box:=false}) (some id):=by
 have hidlt:id<H.length:=(List.getElem?_eq_some_iff.1 hob).1
 have hu:=(hT t i hi).und
 rw [hk] at hu;simp only [yz] at hu;obtain ⟨f,hf,hfs,hfb,zv,hzv,hzc⟩:=(hT e ei he).info;have hzs:zv.cells.size=ei.sz:=by rw [←Array.length_toList,hzc,(hT e ei he).zlen]
 obtain ⟨xs,hown,hxs⟩: ∃xs,w.ownsRow 0 e ei.sz s n xs∧((n=0∧xs=[])∨ ∃b mb cur,μ id=some (some (b,mb))∧J6 (OO X H μ) w μ b mb ob cur∧xs=cur.toList.take (n*ei.sz)):=by
  cases hs with
  |rowNil h hc=>exact ⟨[],World.ownsRow_nil w 0 e ei.sz, .inl ⟨rfl,rfl⟩⟩
  |rowE h hc ho=>exact (ho rfl).elim
  |row h h2 h3 h4 h5=>
   rename_i b mb c';obtain ⟨_,cur,hin⟩:=hH.at_ (by rw [zH];exact hob) (by omega) h;have h5:=h5 rfl;have hcs:n*ei.sz≤cur.size:=by rw [hin.size,hsz];exact Nat.mul_le_mul_right _ (by omega)
   refine ⟨cur.toList.take (n*ei.sz),⟨by simp;omega, .inr ⟨b,c',cur,by simp,Nat.zero_le _,by rw [←hTe];exact hin.blk,h2,by have:=hin.le;omega,by rw [hin.size,hsz];congr 1;omega,rfl⟩⟩, .inr ⟨b,mb,cur,h,hin,rfl⟩⟩
 have happ: ∃v' w',(Builtin.append_ #[t,t] ty #[s,x]).run P w= .ok v' w'∧w'.ownsRow 0 e ei.sz v' (n+m) (xs++news)∧w.grownBy w' s.ownBlock∧(v'.ownBlock=s.ownBlock∨v'.ownBlock=some w.heap.size):=by
  subst hx;by_cases hm:m=0
  ·subst hm;have:news=[]:=List.eq_nil_of_length_eq_zero (by simpa using hl)
   subst this;refine ⟨s,w,Qt w 0 t ty e f ei.sz hu hf s n xs hown A c,by simpa using hown,World.grownBy.refl w _, .inl rfl⟩
  ·obtain ⟨a,rfl,hcell⟩:=hA hm;obtain ⟨v',w',g1,g2,g3,_,g5⟩:=run_append_own_at (P:=P) w 0 t ty e f zv ei.sz ei.by_ hu hf hzv hfs hfb hzs hz s n xs hown a m c news hl hcell h1 h63 hby (Nat.zero_le _);exact ⟨v',w',g1,g2,g3,g5⟩
 obtain ⟨v',w',hrun,hown',hgr',hblk'⟩:=happ
 have hsb: ∀b,s.ownBlock=some b→ ∃m',μ id=some (some (b,m')):=by
  intro b hb;cases hs with
  |rowNil h hc=>cases hb
  |rowE h hc ho=>exact (ho rfl).elim
  |row h h2 h3 h4 h5=>simp [Value.ownBlock] at hb;subst hb;exact ⟨_,h⟩
 obtain ⟨l',hl'⟩: ∃l':Loc,(l'=none∧v'= .slice none 0 0∧n+m=0)∨ ∃b cap cur,l'=some (b,cap)∧v'= .slice (some ⟨b,0,none⟩) (n+m) cap∧w'.heap[b]?=some (.cells cur e (0,0))∧n+m≤cap∧cap≤maxLen∧cur.size=cap*ei.sz∧cur.toList.take ((n+m)*ei.sz)=xs++news:=by
  rcases hown'.2 with ⟨h1,h2⟩|⟨b,cap,cur,h1,_,h2,h3,h4,h5,h6⟩
  ·exact ⟨none, .inl ⟨rfl,h1,h2⟩⟩
  ·exact ⟨some (b,cap), .inr ⟨b,cap,cur,rfl,h1,h2,h3,h4,h5,h6⟩⟩
 let ob':zb:={ob with n:=n+m,f:=xY n ob.f g,box:=false}
 let μ':Mu:=fun i=>if i=id then some l' else μ i
 have hpu:Puts μ μ' X H ((H.map (z7 id)).set id ob') w w' id:=
  ⟨⟨ob,hob,by omega⟩,by simp,fun i o' hi ho=>by
    rw [List.getElem?_set_ne (Ne.symm hi)] at ho;simp only [List.getElem?_map,Option.map_eq_some_iff] at ho;obtain ⟨o1,h1,rfl⟩:=ho;exact ⟨o1,h1,Qq _ _⟩,fun i hi=>by simp only [μ'];rw [if_neg hi],fun l hl b mm he=>by
    simp only [μ',if_true] at hl;injection hl with hl;subst hl
    rcases hl' with ⟨h1,_⟩|⟨b',cap,cur,h1,h2,h3,_⟩
    ·rw [h1] at he;cases he
    ·rw [h1] at he;injection he with he;injection he with e1 e2;subst e1 e2;refine ⟨(Array.getElem?_eq_some_iff.1 h3).1, ?_⟩;have hvb:v'.ownBlock=some b':=by rw [h2];rfl
     rcases hblk' with h4|h4
     ·exact .inl (hsb b' (by rw [←h4];exact hvb))
     ·rw [hvb] at h4;injection h4 with h4;exact .inr (by omega),hgr'.size,hgr'.os,hgr'.tape,hgr'.output,fun b hb hn=>hgr'.block b hb fun he=>by
      obtain ⟨m',hm'⟩:=hsb b he.symm;exact hn m' hm'⟩
 have hmaps:=hpu.maps hH (fun o' ho'=>by
  rw [List.getElem?_set_self (by simpa using hidlt)] at ho';injection ho' with ho';subst ho'
  show ob.st<3
  omega) fun i o' hi ho' hs'=>by
  rw [List.getElem?_set_ne (Ne.symm hi),List.getElem?_map,Option.map_eq_some_iff] at ho';obtain ⟨o1,h1',rfl⟩:=ho';rw [Qq] at hs';rw [uR id hH.mp h1' hs'];exact h1'
 have hrel:=hpu.rel hH (hmp:=hmaps) (hpu.others' hH fun i hi=>by rw [List.getElem?_set_ne (Ne.symm hi),List.getElem?_map]) fun o' ho' _=>by
  rw [List.getElem?_set_self (by simpa using hidlt)] at ho';injection ho' with ho';subst ho'
  refine ⟨by simp only [ob'];rw [hsz];exact hz, ?_⟩;rcases hl' with ⟨e1,h2,h3⟩|⟨b,cap,cur,e1,h2,h3,h4,h5,h6,h7⟩
  ·exact .inl ⟨by simp [μ',e1],h3⟩
  ·have hcur: ∀(k j:Nat) v,k<n+m→j<ei.sz→cur[k*ei.sz+j]?=some v→(xs++news)[k*ei.sz+j]?=some v:=by
    intro k j v hk hj hv;rw [←h7,List.getElem?_take,if_pos]
    ·simpa using hv
    ·have:(k+1)*ei.sz≤(n+m)*ei.sz:=Nat.mul_le_mul_right _ (by omega)
     rw [Nat.add_mul] at this;omega
   have hxl:xs.length=n*ei.sz:=hown.1
   have hold: ∀(k j:Nat) v,k<n→j<ei.sz→(xs++news)[k*ei.sz+j]?=some v→ ∃b mb cur0,μ id=some (some (b,mb))∧J6 (OO X H μ) w μ b mb ob cur0∧cur0[k*ei.sz+j]?=some v:=by
    intro k j v hk hj hv
    have hlt:k*ei.sz+j<n*ei.sz:=by
     have:(k+1)*ei.sz≤n*ei.sz:=Nat.mul_le_mul_right _ hk
     rw [Nat.add_mul] at this;omega
    rw [List.getElem?_append_left (by omega)] at hv;rcases hxs with ⟨h0,_⟩|⟨b,mb,cur0,g1,g2,g3⟩
    ·omega
    ·refine ⟨b,mb,cur0,g1,g2, ?_⟩;rw [g3,List.getElem?_take,if_pos hlt] at hv;simpa using hv
   have hnew: ∀(k j:Nat) v,n≤k→j<ei.sz→(xs++news)[k*ei.sz+j]?=some v→news[(k - n)*ei.sz+j]?=some v:=by
    intro k j v hk hj hv;have hge:n*ei.sz≤k*ei.sz:=Nat.mul_le_mul_right _ hk
    rw [List.getElem?_append_right (by omega),hxl] at hv;rw [←hv,Nat.sub_mul];congr 1;omega
   refine .inr ⟨b,cap,cur,by simp [μ',e1],⟨by simp only [ob'];rw [hTe];exact h3,by simp only [ob'];rw [hsz];exact h6,h5,h4, ?_, ?_, ?_⟩⟩
   ·simp only [ob'];rw [hsz];intro k j v hk hj hv;have hv:=hcur k j v hk hj hv;by_cases hkn:k<n
    ·obtain ⟨_,_,cur0,_,g2,g3⟩:=hold k j v hkn hj hv;rw [←hsz] at g3 hj;exact g2.one k j v (by omega) hj g3
    ·exact h1 v (List.mem_of_getElem? (hnew k j v (by omega) hj hv))
   ·simp only [ob'];rw [hsz];intro k hk;by_cases hkn:k<n
    ·rw [xU hkn];rcases hxs with ⟨h0,_⟩|⟨b,mb,cur0,g1,g2,g3⟩
     ·omega
     ·rw [g2.flen k (by omega),hsz]
    ·rw [Ym (by omega)];exact hg _ (by omega)
   ·intro k j a v hk ha hv;have hk:k<n+m:=hk
    have ha:(xY n ob.f g k)[j]?=some a:=ha
    have hv:cur[k*ei.sz+j]?=some v:=by rw [←hsz];exact hv
    show RV _ _ (if ob.pure then noMu else μ') a v
    by_cases hkn:k<n
    ·rw [xU hkn] at ha
     have hj:j<ei.sz:=by
      rcases hxs with ⟨h0,_⟩|⟨b,mb,cur0,g1,g2,g3⟩
      ·omega
      ·rw [←hsz,←g2.flen k (by omega)];exact (List.getElem?_eq_some_iff.1 ha).1
     obtain ⟨_,_,cur0,_,g2,g3⟩:=hold k j v hkn hj (hcur k j v hk hj hv);rw [←hsz] at g3;have hr:=g2.cell k j a v (by omega) ha g3;rw [hpu0] at hr;have hr':=RV.mono hpu.oo hpu.moved.blk hr noMu fun _ _ h=>h
     split
     ·exact hr'
     ·exact hr'.up
    ·rw [Ym (by omega)] at ha;have hj:j<ei.sz:=by rw [←hg (k - n) (by omega)];exact (List.getElem?_eq_some_iff.1 ha).1
     have hr:=hgr (k - n) j a v (by omega) ha (hnew k j v (by omega) hj (hcur k j v hk hj hv));have hr':=hr.mono hpu.oo hpu.moved.blk noMu fun _ _ h=>h
     split
     ·exact hr'
     ·exact hr'.up
 refine ⟨.value v',v',w',μ',by simp [hrun], .inl rfl,hrel,hpu.ext,hpu.chg, ?_,fun k a v h=>⟨qn (hpu.moved.upto k) 4 h,fun hk=>h.mono hpu.oo hpu.moved.blk _ fun i l hi=> ?_⟩⟩;rotate_left
 ·have hk:=hk id rfl;unfold upto at hi ⊢;split at hi
  ·rename_i hlt;rw [if_pos hlt];exact hpu.moved.mu i l (by omega) hi
  ·cases hi
 rcases hl' with ⟨h1,rfl,h3⟩|⟨b,cap,cur,h1,rfl,h3,h4,h5,h6,h7⟩
 ·rw [h3];exact .rowNil (by simp [μ',h1]) (.inl rfl)
 ·have:=RV.row (O:=OO X ((H.map (z7 id)).set id ob') μ') (w:=w') (μ:=μ') (i:=id) (sz:=ei.sz) (off:=0) (n:=n+m) (c:=cap) (m:=cap) (cap:=none) (show μ' id=some (some (b,cap)) by simp only [μ',if_true,h1]) h4 (by omega) (fun q h=>by cases h) (fun _=>by omega)
  simpa using this
end
section
abbrev fw (r:Option Nat):Fence:={Fence.wide with round:=r}
theorem QZ (r:Option Nat) (f:FuncId):(fw r).fn f:=trivial
structure YB where
 n:Nat
 y:Nat:=0
 stop:Bool:=false
 sp:Option (Nat×(Nat→List AV)×Nat):=none
 nm:Bool:=true
structure St where
 s:List AV
 H:List zb
 fg:List Nat:=[]
 nb:YB:=⟨0,0,false,none,true⟩
def zcK (g:Nat):AV:=match zaD.find? fun p=>Nat.beq p.1 g with|some p=> .ip (p.2.map AV.lit)|none=> .junk
theorem zdj {X:Nat→Prop} {H:List zb} {μ:Mu} {w:World} (h:GlobOk X μ w) (g:Nat):RV (OO X H μ) w μ (zcK g) (.pointer (some ⟨g,0,none⟩)):=by
 unfold zcK;split
 ·rename_i p hp;have hg:Nat.beq p.1 g=true:=List.find?_some (p:=fun p:Nat×List Value=>Nat.beq p.1 g) hp
  obtain rfl:p.1=g:=Nat.eq_of_beq_eq_true hg;obtain ⟨h1,h2,h3,h4⟩:=h p.1 p.2 (List.mem_of_find?_eq_some hp);refine .ip (vs:=p.2) (by simp) (fun j a v ha hv=> ?_) (fun ho=>ho.elim h2 fun ⟨i,o,m,_,_,hi⟩=>h3 i m hi) h1 fun j u hu=>by simpa using h4 j u hu
  simp only [List.getElem?_map,hv,Option.map_some,Option.some.injEq] at ha;subst ha;exact .lit _
 ·exact .junk _
def St.ev (σ:St):Operand→AV
 | .tmp t=>(nth σ.s t).getD .junk
 | .const v=> .lit v
 | .func f=> .fn (.func f) [] []
 | .global g=>zcK g
def St.put (σ:St) (d:Option Tmp) (r:AV):St:=match d with|some d=>⟨setn σ.s d r,σ.H,σ.fg,σ.nb⟩|none=>σ
def fgs (l:List Nat) (a:AV):AV:=l.foldl (fun a id=>ZO id 4 a) a
def fgk (k:Nat) (l:List Nat):List Nat:=l.filter fun i=>Nat.blt i k
theorem zgg {k n:Nat} (h:k≤n) (l:List Nat):fgk k (fgk n l)=fgk k l:=by
 unfold fgk;rw [List.filter_filter];congr 1
 funext i
 cases hb:Nat.blt i k with
 |false=>rfl
 |true=>rw [Nat.blt_eq] at hb;rw [Bool.true_and,Nat.blt_eq];omega
theorem Vo (k:Nat) (l m:List Nat):fgk k (l++m)=fgk k l++fgk k m:=List.filter_append ..
def ZM (μ:Mu) (b:Nat):Prop:= ∃i m,μ i=some (some (b,m))
structure zhb (X:Nat→Prop) (w w':World):Prop where
 os:w'.os=w.os
 tape:w'.tape=w.tape
 output:w'.output=w.output
 size:w.heap.size≤w'.heap.size
 block: ∀k,k<w.heap.size→ ¬X k→w'.heap[k]?=w.heap[k]?
abbrev ye:=(Nat→Prop)×(Nat→Prop)
structure Base (P:Program) where
 w:World
 X:Nat→Prop
 μ:Mu
 H:List zb
 Y:Nat→Prop
 sp:Option (Nat×(Nat→List AV)×Nat)
 J:Nat→Bool→ye→(Nat→Prop)→World→Prop
 kp:Option (Nat×Obj)
 C:Nat→Prop
structure Base.Ok {P:Program} (B:Base P):Prop where
 dm: ∀i l,B.μ i=some l→i<B.H.length
 keep: ∀y t F O w w' O',B.J y t F O w→zhb O w w'→(∀k,O' k→(O k∨w.heap.size≤k)∧ ¬F.2 k∧k<w'.heap.size)→B.J y t F O' w'
 more: ∀y t (F:ye) O w (G:Nat→Prop),B.J y t F O w→(∀b,F.1 b→G b∨O b)→B.J y t (G,F.2) O w
 yl: ∀l xs n,B.sp=some (l,xs,n)→ ∀y (F:ye) O w (vs:List Value),B.J y false F O w→y<n→RVs (fun b=>F.1 b∨O b) w noMu (xs y) vs→ ∀r,YieldAt (fw r) 0 P l vs.toArray w fun e w'=>
  ∃(t:Bool) (C':Nat→Prop),e= .returned (.bool t)∧B.J (y+1) (!t) (fun b=>F.1 b∨C' b,C') O w'∧(∀b,F.2 b→C' b)∧(∀b,C' b→(F.2 b∨w.heap.size≤b)∧b<w'.heap.size)∧zhb F.2 w w'
structure ChgY (Y:Nat→Prop) (μ:Mu) (w w':World):Prop where
 os:w'.os=w.os
 tape:w'.tape=w.tape
 output:w'.output=w.output
 size:w.heap.size≤w'.heap.size
 block: ∀k,k<w.heap.size→(∀i m,μ i≠some (some (k,m)))→ ¬Y k→w'.heap[k]?=w.heap[k]?
theorem ChgY.trans {Y:Nat→Prop} {μ μ':Mu} {a b c:World} (h:ChgY Y μ a b) (he:Ext μ a μ') (h':Chg μ' b c):ChgY Y μ a c:=
 ⟨h'.os.trans h.os,h'.tape.trans h.tape,h'.output.trans h.output,Nat.le_trans h.size h'.size,fun k hk hn hy=>
  (h'.block k (Nat.lt_of_lt_of_le hk h.size) fun i m hi=>by
   rcases he i k m hi with ⟨j,m',hj⟩|hlt
   ·exact hn j m' hj
   ·omega).trans (h.block k hk hn hy)⟩
def p_ (μ:Mu) (ds:List Deferred) (b:Nat):Prop:=ZM μ b∨({target:= .collected b,args:= #[]}:Deferred)∈ds
structure Ex {P:Program} (B:Base P) (μ:Mu) (nb:YB) (ds:List Deferred) (w:World):Prop where
 sp:nb.sp=B.sp
 ok:B.Ok
 jr:B.J nb.y nb.stop (B.X,B.C) (p_ μ ds) w
 marks: ∀d∈ds,∃D,d={target:= .collected D,args:= #[]}∧w.heap[D]?=some (.deferred (some []))∧ ¬ZM μ D∧ ¬B.C D∧B.X D∧B.w.heap.size≤D
 apart:ds.Pairwise (· ≠ ·)
 nm:nb.nm=true→ds=[]
 xy: ∀k,B.C k→k<B.w.heap.size→B.Y k
 kp: ∀D o,B.kp=some (D,o)→w.heap[D]?=some o∧ ¬ZM μ D∧ ¬B.C D∧D<B.w.heap.size
 cx: ∀b,B.C b→B.X b
theorem Ex.step {P:Program} {B:Base P} {μ μ':Mu} {nb:YB} {ds:List Deferred} {w w':World} (h:Ex B μ nb ds w) (hc:Chg μ w w') (he:Ext μ w μ') (hx: ∀i b m,μ' i=some (some (b,m))→b<w'.heap.size∧ ¬B.X b):Ex B μ' nb ds w':=by
 have hin: ∀k,ZM μ' k→(ZM μ k∨w.heap.size≤k)∧ ¬B.X k∧k<w'.heap.size:=fun k ⟨i,m,hi⟩=>⟨(he i k m hi).imp (fun ⟨j,m',hj⟩=>⟨j,m',hj⟩) id,(hx i k m hi).2,(hx i k m hi).1⟩
 have hmk: ∀d∈ds,∃D,d={target:= .collected D,args:= #[]}∧w'.heap[D]?=some (.deferred (some []))∧ ¬ZM μ' D∧ ¬B.C D∧B.X D∧B.w.heap.size≤D:=fun d hd=>by
  obtain ⟨D,h1,h2,h3,h4,h5,h6⟩:=h.marks d hd;have hlt:=(Array.getElem?_eq_some_iff.1 h2).1
  refine ⟨D,h1,(hc.block D hlt fun i m hi=>h3 ⟨i,m,hi⟩).trans h2,fun hD=> ?_,h4,h5,h6⟩;rcases (hin D hD).1 with h|h
  ·exact h3 h
  ·omega
 refine ⟨h.sp,h.ok,h.ok.keep _ _ _ _ w w' _ h.jr ⟨hc.os,hc.tape,hc.output,hc.size,fun k hk hn=>hc.block k hk fun i m hi=>hn (.inl ⟨i,m,hi⟩)⟩ fun k hk=> ?_,hmk,h.apart,h.nm,h.xy,fun D o ho=> ?_,h.cx⟩
 ·rcases hk with hk|hk
  ·exact ⟨(hin k hk).1.imp .inl id,fun hc=>(hin k hk).2.1 (h.cx k hc),(hin k hk).2.2⟩
  ·obtain ⟨D,h1,h2,h3,h4,h5,h6⟩:=hmk _ hk;injection h1 with h1
   injection h1 with h1
   subst h1;exact ⟨.inl (.inr hk),h4,(Array.getElem?_eq_some_iff.1 h2).1⟩
 ·obtain ⟨h1,h2,h3,h4⟩:=h.kp D o ho;have hlt:=(Array.getElem?_eq_some_iff.1 h1).1
  exact ⟨(hc.block D hlt fun i m hi=>h2 ⟨i,m,hi⟩).trans h1,fun hD=>(hin D hD).1.elim h2 fun h=>by omega,h3,h4⟩
theorem Ex.sub {P:Program} {B:Base P} {μ μ':Mu} {nb:YB} {ds:List Deferred} {w:World} (h:Ex B μ nb ds w) (hs: ∀b,ZM μ' b→ZM μ b) (hx: ∀i b m,μ' i=some (some (b,m))→b<w.heap.size∧ ¬B.X b):Ex B μ' nb ds w:=
 h.step (Chg.refl _ _) (fun i b m hi=> .inl (let ⟨j,m',hj⟩:=hs b ⟨i,m,hi⟩;⟨j,m',hj⟩)) hx
structure SRel {P:Program} (B:Base P) (μ:Mu) (σ:St) (a:Act) (w:World):Prop where
 size:σ.s.length=a.tmps.size
 slot: ∀(t:Nat) x v,σ.s[t]?=some x→a.tmps[t]?=some v→RV (OO B.X σ.H μ) w μ x v
 H:HRel μ B.X σ.H w
 df:Ex B μ σ.nb a.defers w
 chg:ChgY B.Y B.μ B.w w
 ext:Ext B.μ B.w μ
 nb:σ.nb.n=B.H.length
 le:σ.nb.n≤σ.H.length
 pres: ∀k x v,k≤σ.nb.n→RV (OO B.X B.H B.μ) B.w (upto k B.μ) x v→RV (OO B.X σ.H μ) w (upto k μ) (fgs (fgk k σ.fg) x) v
section
variable {P:Program} {tab:Tab} {B:Base P} {μ:Mu} {σ:St} {a:Act} {w:World} {r:Option Nat}
theorem SRel.ev (h:SRel B μ σ a w) (x:Operand):RV (OO B.X σ.H μ) w μ (σ.ev x) (a.eval x):=by
 cases x with
 |tmp t=>
  simp only [St.ev,Act.eval,zH];cases hs:σ.s[t]? with
  |none=>exact .junk _
  |some x=>
   have hlt:t<a.tmps.size:=by rw [←h.size];exact (List.getElem?_eq_some_iff.1 hs).1
   have:=h.slot t x a.tmps[t] hs (Array.getElem?_eq_getElem hlt)
   simpa [Array.getD_eq_getD_getElem?,hlt] using this
 |const v=>exact .lit v
 |func f=>exact .fn (vs:=[]) (us:=[]) rfl (fun j a v h=>by simp at h) rfl (fun j a v h=>by simp at h)
 |global g=>exact zdj h.H.gl g
theorem SRel.put (h:SRel B μ σ a w) {x:AV} {v:Value} (hx:RV (OO B.X σ.H μ) w μ x v) (d:Option Tmp):SRel B μ (σ.put d x) (a.put d v) w:=by
 cases d with
 |none=>exact h
 |some d=>
  refine ⟨by simp [St.put,Act.put,Zx,h.size],fun t y u hy hu=> ?_,h.H,h.df,h.chg,h.ext,h.nb,h.le,h.pres⟩;simp only [St.put,Zx,Act.put] at hy hu ⊢;rw [Array.getElem?_setIfInBounds] at hu;by_cases he:d=t
  ·subst he;rw [if_pos rfl] at hu;split at hu
   ·rename_i hlt;injection hu with hu;subst hu
    rw [List.getElem?_set_self (by rw [h.size];exact hlt)] at hy;injection hy with hy;subst hy
    exact hx
   ·cases hu
  ·rw [if_neg he] at hu;rw [List.getElem?_set_ne he] at hy;exact h.slot t y u hy hu
def St.behind (σ:St) (H':List zb) (fg:Option Nat):St:=match fg with|none=>⟨σ.s,H',σ.fg,σ.nb⟩|some id=>⟨σ.s.map (ZO id 4),H',(match Nat.blt id σ.nb.n with|true=>σ.fg++[id]|false=>σ.fg),σ.nb⟩
theorem SRel.step (h:SRel B μ σ a w) {H':List zb} {fg:Option Nat} {w':World} {μ':Mu} (hle:σ.H.length≤H'.length) (hH:HRel μ' B.X H' w') (he:Ext μ w μ') (hc:Chg μ w w') (hp: ∀(k:Nat) x v,RV (OO B.X σ.H μ) w (upto k μ) x v→RV (OO B.X H' μ') w' (upto k μ') (fgA fg x) v∧((∀id,fg=some id→k≤id)→RV (OO B.X H' μ') w' (upto k μ') x v)):
 SRel B μ' (σ.behind H' fg) a w':=by
 have hp0: ∀x v,RV (OO B.X σ.H μ) w μ x v→RV (OO B.X H' μ') w' μ' (fgA fg x) v:=fun x v hx=>
  (hp σ.H.length x v (by rw [KF h.H.dom];exact hx)).1.mono (fun _ _ h=>h) (fun _ _ _=>rfl) _ (Po _ _)
 cases fg with
 |none=>exact ⟨h.size,fun t x v hx hv=>hp0 x v (h.slot t x v hx hv),hH,h.df.step hc he hH.lt,h.chg.trans h.ext hc,h.ext.trans h.chg.size he,h.nb,Nat.le_trans h.le hle,fun k x v hk hx=>(hp k _ v (h.pres k x v hk hx)).1⟩
 |some id=>
  refine ⟨by simpa [St.behind] using h.size,fun t x v hx hv=> ?_,hH,h.df.step hc he hH.lt,h.chg.trans h.ext hc,h.ext.trans h.chg.size he,h.nb,Nat.le_trans h.le hle,fun k x v hk hx=> ?_⟩
  ·simp only [St.behind,List.getElem?_map,Option.map_eq_some_iff] at hx;obtain ⟨y,hy,rfl⟩:=hx;exact hp0 y v (h.slot t y v hy hv)
  ·have:=hp k _ v (h.pres k x v hk hx)
   simp only [St.behind] at hk ⊢;by_cases hik:id<k
   ·have e1:Nat.blt id σ.nb.n=true:=by rw [Nat.blt_eq];omega
    have e2:Nat.blt id k=true:=by rw [Nat.blt_eq];exact hik
    rw [e1,Vo];simpa [St.behind,fgs,fgA,fgk,e2] using this.1
   ·have h2:=this.2 fun id' he=>by injection he with he;subst he;omega
    have e2:Nat.blt id k=false:=by cases hb:Nat.blt id k with|false=>rfl|true=>rw [Nat.blt_eq] at hb;omega
    split
    ·rw [Vo];simpa [fgk,e2] using h2
    ·exact h2
end
section
variable {P:Program}
def Base.at_ (B:Base P) (X:ye):Base P:={B with X:=X.1,C:=X.2}
structure Grows (B:Base P) (X:ye):Prop where
 le: ∀b,B.X b→X.1 b
 new: ∀b,X.1 b→B.X b∨B.w.heap.size≤b
 cle: ∀b,B.C b→X.2 b
 cnew: ∀b,X.2 b→B.C b∨B.w.heap.size≤b
theorem Grows.refl (B:Base P):Grows B (B.X,B.C):=⟨fun _ h=>h,fun _ h=> .inl h,fun _ h=>h,fun _ h=> .inl h⟩
theorem Grows.trans {B:Base P} {X X':ye} (h:Grows B X) (h':Grows (B.at_ X) X'):Grows B X':=⟨fun b hb=>h'.le b (h.le b hb),fun b hb=>(h'.new b hb).elim (fun hb=>h.new b hb) .inr,fun b hb=>h'.cle b (h.cle b hb),fun b hb=>(h'.cnew b hb).elim (fun hb=>h.cnew b hb) .inr⟩
def SX (B:Base P) (σ:St) (a:Act) (w:World):Prop:= ∃μ X,Grows B X∧SRel (B.at_ X) μ σ a w
theorem SRel.sx {B:Base P} {μ:Mu} {σ:St} {a:Act} {w:World} (h:SRel B μ σ a w):SX B σ a w:=⟨μ,(B.X,B.C), .refl B,h⟩
theorem SX.trans {B:Base P} {X:ye} (hg:Grows B X) {σ:St} {a:Act} {w:World} (h:SX (B.at_ X) σ a w):SX B σ a w:=by
 obtain ⟨μ,X',h1,h2⟩:=h;exact ⟨μ,X',hg.trans h1,h2⟩
def Post (B:Base P) (Q:Exit→St→Prop) (e:Exit) (a:Act) (w:World):Prop:= ∃σ,Q e σ∧SX B σ a w
theorem Post.trans {B:Base P} {X:ye} (hg:Grows B X) {Q:Exit→St→Prop} {e:Exit} {a:Act} {w:World} (h:Post (B.at_ X) Q e a w):Post B Q e a w:=by
 obtain ⟨σ,h1,h2⟩:=h;exact ⟨σ,h1,h2.trans hg⟩
end
def AL (P:Program) (r:Option Nat) (l:List Oper) (Q:Exit→St→Prop) (R:List Oper) (σ:St):Prop:=
 ∀(B:Base P) (μ:Mu) (a:Act) (w:World),SRel B μ σ a w→wpListIn (fw r) 0 P l.toArray (Post B Q) R a w
def AW (P:Program) (r:Option Nat) (c:Code) (Q:Exit→St→Prop) (σ:St):Prop:=
 ∀(B:Base P) (μ:Mu) (a:Act) (w:World),SRel B μ σ a w→c.wpIn (fw r) 0 P (Post B Q) a w
def ACall (P:Program) (f:FuncId) (args:List AV) (H:List zb) (K:AV→List zb→List Nat→Prop):Prop:=
 ∀(w:World) (X:Nat→Prop) (μ:Mu) (vs:List Value),HRel μ X H w→RVs (OO X H μ) w μ args vs→Calls P f vs.toArray w fun e w'=>
  ∃v r H' fg μ',e= .returned v∧K r H' fg∧HRel μ' X H' w'∧RV (OO X H' μ') w' μ' r v∧Chg μ w w'∧Ext μ w μ'∧H.length≤H'.length∧ ∀k x u,k≤H.length→RV (OO X H μ) w (upto k μ) x u→RV (OO X H' μ') w' (upto k μ') (fgs (fgk k fg) x) u
def zS (l:List Oper) (σ:St) (o:Oper):Option Bool:=
 match o.guard with
 |none=>some true
 |some (j,want)=>match nth l j with
  |some oj=>match oj.dst with
   |some d=>match nth σ.s d with
    |some (.lit (.bool b))=>some (b==want)
    |some (.lit (.tuple _))=>some false
    |_=>none
   |none=>some false
  |none=>some false
section
variable {P:Program} {tab:Tab} {r:Option Nat} {l R:List Oper} {Q:Exit→St→Prop} {σ:St} {o:Oper}
theorem Y9 {b:Bool} (h:zS l σ o=some b) {B:Base P} {μ:Mu} {a:Act} {w:World} (hr:SRel B μ σ a w):Region.wanted o (yielded l.toArray a.tmps)=b:=by
 unfold zS at h;unfold Region.wanted;split at h
 ·rename_i hg;rw [hg];injection h
 ·rename_i j want hg;rw [hg];simp only;unfold yielded;simp only [zH] at h;simp only [List.getElem?_toArray];cases hj:l[j]? with
  |none=>simp only [hj,Option.some.injEq] at h;rw [←h];rfl
  |some oj=>
   rw [hj] at h;simp only at h;cases hd:oj.dst with
   |none=>simp only [hd,Option.some.injEq] at h;rw [←h];simp [hd]
   |some d=>
    rw [hd] at h;simp only at h
    have key: ∀x,σ.s[d]?=some x→ ∃v,a.tmps[d]?=some v∧RV (OO B.X σ.H μ) w μ x v:=fun x hx=>by
     have hlt:d<a.tmps.size:=by rw [←hr.size];exact (List.getElem?_eq_some_iff.1 hx).1
     exact ⟨_,Array.getElem?_eq_getElem hlt,hr.slot d x _ hx (Array.getElem?_eq_getElem hlt)⟩
    split at h
    ·rename_i b' hs;injection h with h;subst h
     obtain ⟨v,hv,hx⟩:=key _ hs;rw [hx.lit_eq] at hv;simp [hd,hv]
    ·rename_i b' hs;injection h with h;subst h
     obtain ⟨v,hv,hx⟩:=key _ hs;rw [hx.lit_eq] at hv;simp [hd,hv]
    ·cases h
theorem YI (h:Q .normal σ):AL P r l Q [] σ:=fun B μ a w hr=>⟨σ,h,hr.sx⟩
theorem xu (hw:zS l σ o=some true) (hd: ∀c,o.op≠ .defer c) {x:AV} {H':List zb} {fg:Option Nat}
 (h: ∀(B:Base P) (μ:Mu) (a:Act) (w:World),SRel B μ σ a w→wY P (execOp a.eval o) B.X μ σ.H w x H' fg∧σ.H.length≤H'.length) (next:AL P r l Q R ((σ.behind H' fg).put o.dst x)):AL P r l Q (o::R) σ:=by
 intro B μ a w hr;unfold wpListIn;rw [if_pos (Y9 hw hr)];obtain ⟨⟨n,u,w',μ',h1,h2,h3,h4,h5,h6,h7⟩,hle⟩:=h B μ a w hr;refine ⟨fun f _=>QZ r f, ?_⟩;rw [Oper.semAt_eq _ _ _ hd,h1];have hs:=(hr.step hle h3 h4 h5 h7).put (x:=x) (v:=u) (by cases fg <;>exact h6) o.dst
 rcases h2 with rfl|⟨rfl,rfl⟩
 ·exact next B μ' _ w' hs
 ·exact next B μ' _ w' hs
theorem xr (hw:zS l σ o=some false) (next:AL P r l Q R (σ.put o.dst (.lit undef))):AL P r l Q (o::R) σ:=by
 intro B μ a w hr;unfold wpListIn;rw [if_neg (by rw [Y9 hw hr];simp)];exact ⟨fun f _=>QZ r f,next B μ _ w (hr.put (.lit undef) o.dst)⟩
theorem Yk (hT:zI P tab) (hw:zS l σ o=some true) {q:Prop} {x:AV} (h:Xh tab σ.H σ.ev o.op=some (q,x)) (hq:q) (next:AL P r l Q R (σ.put o.dst x)):AL P r l Q (o::R) σ:=by
 have hd: ∀c,o.op≠ .defer c:=fun c hc=>by rw [hc] at h;simp [Xh] at h
 refine xu (H':=σ.H) (fg:=none) hw hd (fun B μ a w hr=> ?_) next;obtain ⟨u,h1,h2⟩:=KW hT h hq hr.H hr.ev;exact ⟨⟨_,u,w,μ,h1, .inl rfl,hr.H,Ext.refl _ _,Chg.refl _ _,h2,fun _ _ _ h=>⟨h,fun _=>h⟩⟩,Nat.le_refl _⟩
theorem Xt (hT:zI P tab) (hw:zS l σ o=some true) {q:Prop} {x:AV} {ob:zb} (h:Vs tab σ.ev σ.H.length o.op=some (q,x,ob)) (hq:q) (next:AL P r l Q R (St.put ⟨σ.s,σ.H++[ob],σ.fg,σ.nb⟩ o.dst x)):AL P r l Q (o::R) σ:=by
 have hd: ∀c,o.op≠ .defer c:=fun c hc=>by rw [hc] at h;simp [Vs] at h
 exact xu (H':=σ.H++[ob]) (fg:=none) hw hd (fun B μ a w hr=>⟨(Pz hT hr.ev h hq).mut hr.H,by simp⟩) next
theorem Gu {H H':List zb} {t:TypeId} {p x:AV} {q:Prop} (h:vc tab H t p x=some (q,H')):H'.length=H.length:=by
 unfold vc at h;repeat (split at h)
 all_goals first
  |(cases h;done)
  |(injection h with h;injection h with e1 e2;subst e2;simp [Zx])
theorem wN (hT:zI P tab) (hw:zS l σ o=some true) {t:TypeId} {px xx:Operand} (ho:o.op= .store t px xx) {q:Prop} {H':List zb} (h:vc tab σ.H t (σ.ev px) (σ.ev xx)=some (q,H')) (hq:q)
 (next:AL P r l Q R (St.put ⟨σ.s,H',σ.fg,σ.nb⟩ o.dst (.lit undef))):AL P r l Q (o::R) σ:=by
 refine xu (H':=H') (fg:=none) hw (fun c hc=>by rw [ho] at hc;cases hc) (fun B μ a w hr=> ?_) next;have:=P8 hT hr.H h hq (hr.ev px) (hr.ev xx)
 refine ⟨?_,Nat.le_of_eq (Gu h).symm⟩;unfold execOp;rw [ho];exact this
def jK (tab:Tab) (H:List zb) (t:TypeId) (s x:AV):Option (Prop×AV×List zb×Option Nat):=
 match tab t with
 |some i=>match i.k with
  | .slice e=>match tab e with
    |some ei=>match JV H ei.sz x with
     |some (q,m,g)=>match s with
      | .row id sz 0 n none=>match nth H id with
        |some ob=>match ob.st,Nat.beq sz ei.sz,Nat.beq ob.sz ei.sz,Nat.beq ob.T e,ob.pure,Nat.blt 0 ei.sz with
         |0,true,true,true,true,true=>some (q∧n≤ob.n∧(n+m)*ei.by_≤140737488355328∧n+m≤140737488355328, .row id sz 0 (n+m) none,setn (H.map (z7 id)) id {ob with n:=n+m,f:=xY n ob.f g,box:=false},some id)
         |_,_,_,_,_,_=>none
        |none=>none
      |_=>none
     |none=>none
    |none=>none
  |_=>none
 |none=>none
theorem ZT (hT:zI P tab) (hw:zS l σ o=some true) {t:TypeId} {sx xx:Operand} (ho:o.op= .call {callee:= .builtin .append,args:= #[sx,xx],argTypes:= #[t,t]}) {q:Prop} {y:AV} {H':List zb} {fg:Option Nat}
 (h:jK tab σ.H t (σ.ev sx) (σ.ev xx)=some (q,y,H',fg)) (hq:q) (next:AL P r l Q R ((σ.behind H' fg).put o.dst y)):AL P r l Q (o::R) σ:=by
 refine xu hw (fun c hc=>by rw [ho] at hc;cases hc) (fun B μ a w hr=> ?_) next
 have hex:execOp a.eval o=(do pure (.value (←Builtin.append_ #[t,t] o.type #[a.eval sx,a.eval xx])):Sem Next):=by
  unfold execOp;rw [ho];simp [resolve,invoke,builtin]
 rw [hex];have hs:=hr.ev sx;have hx:=hr.ev xx;unfold jK at h;split at h
 ·rename_i i hi;split at h
  ·rename_i e hk;split at h
   ·rename_i ei he;split at h
    ·rename_i q' m g hsrc;split at h
     ·rename_i id sz n hse;split at h
      ·rename_i ob hob;split at h
       ·rename_i hst hb1 hb2 hb3 hpu hz;injection h with h;injection h with e0 h;injection h with e1 h;injection h with e2 e3
        subst e0 e1 e2 e3;obtain ⟨q1,q2,q3,q4⟩:=hq;obtain rfl:=ZD hb1;rw [Nat.blt_eq] at hz;rw [hse] at hs;obtain ⟨A,c,news,g1,g2,g3,g4,g5,g6⟩:=um hr.H hsrc q1 hx;rw [Zx];rw [zH] at hob;refine ⟨?_,by simp⟩;exact uG hT hr.H hi hk he hz hob hst (ZD hb2) (ZD hb3) hpu q2 hs g1 g2 g3 g4 g5 g6 (by unfold maxLen;omega) q3
       ·cases h
      ·cases h
     ·cases h
    ·cases h
   ·cases h
  ·cases h
 ·cases h
theorem vE {f : FuncId} {fn : Func} {c : Code} (hf : P.funcs[f]? = some fn) (hname : (fn.name == "runtime.NumGoroutine") = false) (hb : fn.body = some c) (args : Array Value) (w : World) :
 (callFunc f args).run P w= .ok (.enter f args) w:=by
 have h1 : fn.name ≠ "runtime.NumGoroutine" := by simpa using hname
 simp [callFunc,hf,h1,hb]
theorem Pc (hw:zS l σ o=some true) {fo:Operand} {ao:List Operand} {ts:Array TypeId} (ho:o.op= .call {callee:= .value fo,args:=ao.toArray,argTypes:=ts}) {f:FuncId} {fa ca:List AV} (hf:σ.ev fo= .fn (.func f) fa ca)
 {fn : Func} {c : Code} (hfn : P.funcs[f]? = some fn) (hnm : (fn.name == "runtime.NumGoroutine") = false) (hb : fn.body = some c) {K : AV → List zb → List Nat → Prop} (h : ACall P f (fa ++ ao.map σ.ev ++ ca) σ.H K)
 (next: ∀x H' fg,K x H' fg→AL P r l Q R (St.put ⟨σ.s.map (fgs (fgk σ.H.length fg)),H',σ.fg++fgk σ.nb.n fg,σ.nb⟩ o.dst x)):AL P r l Q (o::R) σ:=by
 intro B μ a w hr;unfold wpListIn;rw [if_pos (Y9 hw hr)];refine ⟨fun f _=>QZ r f, ?_⟩;rw [Oper.semAt_eq _ _ _ (fun c hc=>by rw [ho] at hc;cases hc)];have hfv:=hr.ev fo;rw [hf] at hfv;generalize hg:a.eval fo=fv at hfv;cases hfv with
 |fn h1 h2 h3 h4=>
  rename_i vs us
  have hargs:RVs (OO B.X σ.H μ) w μ (ao.map σ.ev) (ao.map a.eval):=⟨by simp,fun j x v hx hv=>by
   simp only [List.getElem?_map,Option.map_eq_some_iff] at hx hv;obtain ⟨p,hp,rfl⟩:=hx;obtain ⟨p',hp',rfl⟩:=hv;rw [hp] at hp';injection hp' with hp';subst hp';exact hr.ev p⟩
  have hall:=((show RVs (OO B.X σ.H μ) w μ fa vs from ⟨h1,h2⟩).append hargs).append (show RVs (OO B.X σ.H μ) w μ ca us from ⟨h3,h4⟩)
  have hrun:(execOp a.eval o).run P w= .ok (.enter f (vs++ao.map a.eval++us).toArray) w:=by
   unfold execOp;rw [ho];simp only [resolve,hg,Deferred.ofValue,Sem.run_bind,Sem.run_pure,Result.andThen_ok,invoke,vE hfn hnm hb];simp
  rw [hrun];refine ⟨fun hd=>by simp [fw,Fence.wide] at hd, ?_⟩;have hcall:=h w B.X μ _ hr.H hall;have hcall:CallsIn (fw r) (0 - 1) P f (vs++ao.map a.eval++us).toArray w _:=callsIn_wide.2 hcall
  refine hcall.mono fun e w' he=> ?_
  obtain ⟨v,x,H',fg,μ',rfl,hK,g1,g2,g3,g4,gl,g5⟩:=he;refine next x H' fg hK B μ' _ w' ?_;refine SRel.put (σ:=⟨σ.s.map (fgs (fgk σ.H.length fg)),H',σ.fg++fgk σ.nb.n fg,σ.nb⟩) ⟨by simpa using hr.size,fun t y u hy hu=> ?_,g1,hr.df.step g3 g4 g1.lt,hr.chg.trans hr.ext g3,hr.ext.trans hr.chg.size g4,hr.nb,Nat.le_trans hr.le gl,fun k y u hk hy=> ?_⟩ g2 o.dst
  ·simp only [List.getElem?_map,Option.map_eq_some_iff] at hy;obtain ⟨z,hz,rfl⟩:=hy;exact (g5 σ.H.length z u (Nat.le_refl _) (by rw [KF hr.H.dom];exact hr.slot t z u hz hu)).mono (fun _ _ h=>h) (fun _ _ _=>rfl) _ (Po _ _)
  ·have:=g5 k _ u (Nat.le_trans hk hr.le) (hr.pres k y u hk hy)
   rw [Vo,zgg hk];simpa [fgs,List.foldl_append] using this
end
end
section
variable {P:Program} {tab:Tab} {r:Option Nat} {Q:Exit→St→Prop} {σ:St}
theorem AW.mono {c:Code} {Q':Exit→St→Prop} (h:AW P r c Q σ) (hq: ∀e σ,Q e σ→Q' e σ):AW P r c Q' σ:=fun B μ a w hr=>
 wpIn_mono (h B μ a w hr) fun e a w ⟨σ',h1,h2⟩=>⟨σ',hq _ _ h1,h2⟩
theorem xm (h:Q .normal σ):AW P r .skip Q σ:=fun B μ a w hr=>wpIn_skip ⟨σ,h,hr.sx⟩
theorem zfC {l:Nat} (h:Q .normal σ):AW P r (.label l) Q σ:=fun B μ a w hr=>wpIn_label ⟨σ,h,hr.sx⟩
theorem xk {id:Nat} (h:Q (.exit id) σ):AW P r (.exit id) Q σ:=fun B μ a w hr=>wpIn_exit ⟨σ,h,hr.sx⟩
theorem XZ (h:Q .ret σ):AW P r .ret Q σ:=fun B μ a w hr=>wpIn_ret ⟨σ,h,hr.sx⟩
def zF (next:St→Prop) (Q:Exit→St→Prop):Exit→St→Prop
 | .normal,σ=>next σ
 |e,σ=>Q e σ
theorem XP {x y:Code} (h:AW P r x (zF (AW P r y Q) Q) σ):AW P r (.seq x y) Q σ:=fun B μ a w hr=>
 wpIn_seq (wpIn_mono (h B μ a w hr) fun e a' w' ⟨σ',h1,h2⟩=>by
  cases e <;>simp only [zF] at h1 <;>simp only [Exit.then] <;>first|exact (let ⟨μ',X',hg,h3⟩:=h2;wpIn_mono (h1 (B.at_ X') μ' a' w' h3) fun _ _ _ h=>h.trans hg)|exact ⟨σ',h1,h2⟩)
theorem ZJ {c:Operand} {x y:Code} {b:Bool} (hc:σ.ev c= .lit (.bool b)) (ht:b=true→AW P r x Q σ) (hf:b=false→AW P r y Q σ):AW P r (.cond c x y) Q σ:=fun B μ a w hr=>by
 have h:=hr.ev c;rw [hc] at h;exact wpIn_cond_split h.lit_eq (fun hb=>ht hb B μ a w hr) (fun hb=>hf hb B μ a w hr)
def zh (id:Nat) (Q:Exit→St→Prop):Exit→St→Prop
 | .exit id',σ=>match Nat.beq id' id with|true=>Q .normal σ|false=>Q (.exit id') σ
 |e,σ=>Q e σ
theorem Yy {id:Nat} {c:Code} (h:AW P r c (zh id Q) σ):AW P r (.block id c) Q σ:=fun B μ a w hr=>
 wpIn_block (wpIn_mono (h B μ a w hr) fun e a' w' ⟨σ',h1,h2⟩=>by
  cases e <;>simp only [zh] at h1 <;>simp only [Exit.inBlock] <;>first|exact ⟨σ',h1,h2⟩|skip
  rename_i id';split at h1
  ·rename_i hb;rw [if_pos (ZD hb)];exact ⟨σ',h1,h2⟩
  ·rename_i hb;rw [if_neg (fun he=>by subst he;simp at hb)];exact ⟨σ',h1,h2⟩)
theorem yL {id:Nat} {l:List Oper} (h:AL P r l Q l σ):AW P r (.region id l.toArray false) Q σ:=fun B μ a w hr=>wpIn_region_lit (h B μ a w hr)
def AV.Le (x y:AV):Prop:= ∀(O:Nat→Prop) (w:World) (μ:Mu) (v:Value),RV O w μ x v→RV O w μ y v
theorem AV.Le.refl (x:AV):AV.Le x x:=fun _ _ _ _ h=>h
theorem AV.Le.junk (x:AV):AV.Le x .junk:=fun _ _ _ v _=> .junk v
theorem AV.Le.lit {x y:Value} (h:x=y):AV.Le (.lit x) (.lit y):=by rw [h];exact .refl _
theorem AV.Le.int {k:IntKind} {x y:Int} (h:x=y):AV.Le (.lit (.int k x)) (.lit (.int k y)):=by rw [h];exact .refl _
theorem AV.Le.eq {x y:AV} (h:x=y):AV.Le x y:=by rw [h];exact .refl _
theorem AV.Le.sl {sz n n':Nat} {t t':Bool} {f g:Nat→List AV} (hn:n=n') (ht:t'=true→t=true) (h: ∀k,k<n→g k=f k):AV.Le (.sl sz n t f) (.sl sz n' t' g):=by
 subst hn;intro O w μ v hv;cases hv with
 |sl a0 a1 a2 a3 a4 a5 a6 a7 a8=>exact .sl a0 a1 a2 (fun hh=>a3 (ht hh)) a4 (fun k hk=>by rw [h k hk];exact a5 k hk) (fun k j a v hk ha hv=>a6 k j a v hk (by rw [←h k hk];exact ha) hv) a7 a8
theorem AV.Le.row {i sz off n n':Nat} {cap:Option Nat} (hn:n=n'):AV.Le (.row i sz off n cap) (.row i sz off n' cap):=by rw [hn];exact .refl _
inductive LeS:List AV→List AV→Prop
 |nil:LeS [] []
 |cons {x y:AV} {xs ys:List AV} (h:AV.Le x y) (hs:LeS xs ys):LeS (x::xs) (y::ys)
theorem LeS.refl: ∀l:List AV,LeS l l
 |[]=> .nil
 |_::l=> .cons (.refl _) (LeS.refl l)
theorem LeS.len {xs ys:List AV} (h:LeS xs ys):xs.length=ys.length:=by induction h with|nil=>rfl|cons _ _ ih=>simp [ih]
theorem LeS.at_ {xs ys:List AV} (h:LeS xs ys): ∀{t:Nat} {y:AV},ys[t]?=some y→ ∃x,xs[t]?=some x∧AV.Le x y:=by
 induction h with
 |nil=>intro t y h;simp at h
 |cons h hs ih=>
  intro t y hy;cases t with
  |zero=>simp at hy;subst hy;exact ⟨_,rfl,h⟩
  |succ t=>simp at hy;simpa using ih hy
structure ObjLe (o o':zb):Prop where
 st:o.st≤o'.st
 T:o'.st<2→o.T=o'.T
 sz:o'.st<2→o.sz=o'.sz
 n:o'.st<2→o'.n≤o.n
 pure:o'.st<2→o'.pure=true→o.pure=true
 mp:o.st % 3=o'.st % 3∧(3≤o'.st→MapSame o o')∨o'.st<3∧0<o'.st
 f:o'.st<2→ ∀k,k<o'.n→o'.f k=o.f k∨(o'.f k).length=(o.f k).length∧ ∀(j:Nat) x y,(o.f k)[j]?=some x→(o'.f k)[j]?=some y→AV.Le x y
theorem ObjLe.refl (o:zb):ObjLe o o:=⟨Nat.le_refl _,fun _=>rfl,fun _=>rfl,fun _=>Nat.le_refl _,fun _ h=>h, .inl ⟨rfl,fun _=> .refl o⟩,fun _ _ _=> .inl rfl⟩
inductive LeH:List zb→List zb→Prop
 |nil:LeH [] []
 |cons {x y:zb} {xs ys:List zb} (h:ObjLe x y) (hs:LeH xs ys):LeH (x::xs) (y::ys)
theorem LeH.refl: ∀l:List zb,LeH l l
 |[]=> .nil
 |_::l=> .cons (.refl _) (LeH.refl l)
theorem LeH.len {xs ys:List zb} (h:LeH xs ys):xs.length=ys.length:=by induction h with|nil=>rfl|cons _ _ ih=>simp [ih]
theorem LeH.at_ {xs ys:List zb} (h:LeH xs ys): ∀{t:Nat} {y:zb},ys[t]?=some y→ ∃x,xs[t]?=some x∧ObjLe x y:=by
 induction h with
 |nil=>intro t y h;simp at h
 |cons h hs ih=>
  intro t y hy;cases t with
  |zero=>simp at hy;subst hy;exact ⟨_,rfl,h⟩
  |succ t=>simp at hy;simpa using ih hy
theorem zkP {X:Nat→Prop} {H H':List zb} {μ:Mu} (h:LeH H H'): ∀b,OO X H' μ b→OO X H μ b:=by
 rintro b (hx|⟨i,o',m,hi,hs,hm⟩)
 ·exact .inl hx
 ·obtain ⟨o,ho,hle⟩:=h.at_ hi;exact .inr ⟨i,o,m,ho,by have:=hle.st;rcases hle.mp with h|h <;>omega,hm⟩
theorem SRel.told {B:Base P} {μ:Mu} {σ':St} {a:Act} {w:World} (h:SRel B μ σ a w) (hs:LeS σ.s σ'.s) (hH:LeH σ.H σ'.H) (hf:σ'.fg=σ.fg∧σ'.nb=σ.nb):SRel B μ σ' a w:=by
 have hoo:=zkP (X:=B.X) (μ:=μ) hH;have up: ∀{μ₁:Mu} {x:AV} {v:Value},RV (OO B.X σ.H μ) w μ₁ x v→RV (OO B.X σ'.H μ) w μ₁ x v:=fun h=>h.mono (fun b _ hb=>hoo b hb) (fun _ _ _=>rfl) _ fun _ _ h=>h
 refine ⟨by rw [←hs.len];exact h.size,fun t x v hx hv=> ?_,⟨fun i l hi=>by rw [←hH.len];exact h.H.dom i l hi,h.H.inj,h.H.lt,fun i o' hi hs'=> ?_,h.H.xlt,h.H.gl,h.H.mp.mono (fun b _ hb=>hoo b hb) (fun _ _ _=>rfl) fun i o' hi hs'=>(by
  obtain ⟨o,ho,hle⟩:=hH.at_ hi;exact ⟨i,o,ho,(hle.mp.resolve_right (by omega)).2 hs',fun _ h=>h,fun _ _ _=>rfl⟩)⟩,by rw [hf.2];exact h.df,h.chg,h.ext,by rw [hf.2];exact h.nb,by rw [hf.2,←hH.len];exact h.le,fun k x v hk hx=>by rw [hf.1];rw [hf.2] at hk;exact up (h.pres k x v hk hx)⟩
 ·obtain ⟨y,hy,hle⟩:=hs.at_ hx;exact up (hle _ _ _ _ (h.slot t y v hy hv))
 ·obtain ⟨o,ho,hle⟩:=hH.at_ hi;obtain ⟨hz,hob⟩:=h.H.obj i o ho (by have:=hle.st;omega);refine ⟨by rw [←hle.sz hs'];exact hz, ?_⟩;rcases hob with ⟨h1,h2⟩|⟨b,m,cur,h1,h2⟩
  ·exact .inl ⟨h1,by have:=hle.n hs';omega⟩
  ·have hn:=hle.n hs';have e1:=hle.sz hs';refine .inr ⟨b,m,cur,h1,⟨by rw [←hle.T hs'];exact h2.blk,by rw [←e1];exact h2.size,h2.le,by have:=h2.nle;omega,fun k j v hk hj hv=>h2.one k j v (by omega) (by omega) (by rw [e1];exact hv),fun k hk=> ?_,fun k j a v hk ha hv=> ?_⟩⟩
   ·have:=h2.flen k (by omega)
    rcases hle.f hs' k hk with he|⟨he,_⟩
    ·rw [he,←e1];exact this
    ·rw [he,←e1];exact this
   ·rw [←e1] at hv
    have fin: ∀y,(o.f k)[j]?=some y→AV.Le y a→RV (OO B.X σ'.H μ) w (if o'.pure then noMu else μ) a v:=by
     intro y hy hya;have hr:=hya _ _ _ _ (h2.cell k j y v (by omega) hy hv);cases hp:o'.pure with
     |true=>rw [hle.pure hs' hp] at hr;exact up hr
     |false=>
      cases hp2:o.pure with
      |true=>rw [hp2] at hr;exact (up hr).up
      |false=>rw [hp2] at hr;exact up hr
    rcases hle.f hs' k hk with he|⟨he,hle2⟩
    ·exact fin a (by rw [←he];exact ha) (.refl _)
    ·have hlt:j<(o.f k).length:=by rw [←he];exact (List.getElem?_eq_some_iff.1 ha).1
     exact fin _ (List.getElem?_eq_getElem hlt) (hle2 j _ a (List.getElem?_eq_getElem hlt) ha)
def Qy (T sz:Nat):zb:={T:=T,sz:=sz,n:=0,f:=fun _=>[]}
theorem SRel.nilRow {B:Base P} {μ:Mu} {a:Act} {w:World} (h:SRel B μ σ a w) {t:Nat} (ht:nth σ.s t=some (.lit (.slice none 0 0))) (T sz:Nat) (hz:0<sz):
 ∃μ',SRel B μ' ⟨setn σ.s t (.row σ.H.length sz 0 0 none),σ.H++[Qy T sz],σ.fg,σ.nb⟩ a w:=by
 let μ':Mu:=fun i=>if i=σ.H.length then some none else μ i
 have hmu: ∀i l,μ i=some l→μ' i=some l:=fun i l hi=>by have:=h.H.dom i l hi;simp only [μ'];rw [if_neg (by omega)];exact hi
 have hoo: ∀b,OO B.X (σ.H++[Qy T sz]) μ' b→OO B.X σ.H μ b:=by
  rintro b (hx|⟨i,o',m',hi,hs,hm'⟩)
  ·exact .inl hx
  ·simp only [μ'] at hm';split at hm'
   ·cases hm'
   ·have:=h.H.dom i _ hm'
    rw [List.getElem?_append_left this] at hi;exact .inr ⟨i,o',m',hi,hs,hm'⟩
 have hinm: ∀b,ZM μ' b→ZM μ b:=fun b ⟨i,m,hi⟩=>by
  simp only [μ'] at hi;split at hi
  ·cases hi
  ·exact ⟨i,m,hi⟩
 have hlt': ∀i b m,μ' i=some (some (b,m))→b<w.heap.size∧ ¬B.X b:=fun i b m hi=>by
  obtain ⟨j,m',hj⟩:=hinm b ⟨i,m,hi⟩;exact h.H.lt j b m' hj
 have up: ∀{x:AV} {v:Value},RV (OO B.X σ.H μ) w μ x v→RV (OO B.X (σ.H++[Qy T sz]) μ') w μ' x v:=fun h=>h.mono (fun b _ hb=>hoo b hb) (fun _ _ _=>rfl) _ hmu
 refine ⟨μ',by simpa [Zx] using h.size,fun k x v hx hv=> ?_,⟨fun i l hi=> ?_,fun i j b m m2 hi hj=> ?_,fun i b m hi=> ?_,fun i o' hi hs=> ?_,h.H.xlt,h.H.gl.sub hinm,h.H.mp.mono (fun b _ hb=>hoo b hb) (fun _ _ _=>rfl) fun i o' ho hs=>(by
  by_cases hlt:i<σ.H.length
  ·rw [List.getElem?_append_left hlt] at ho;exact ⟨i,o',ho, .refl o',hmu i,fun _ _ _=>rfl⟩
  ·rw [List.getElem?_append_right (by omega),List.getElem?_eq_some_iff] at ho;obtain ⟨hl,ho⟩:=ho;simp at ho;subst ho;simp [Qy] at hs)⟩,h.df.sub hinm hlt',h.chg,fun i b m hi=> ?_,h.nb,by simp;have:=h.le;omega,fun k x v hk hx=>(h.pres k x v hk hx).mono (fun b _ hb=>hoo b hb) (fun _ _ _=>rfl) _ (xd hmu)⟩
 ·simp only [Zx] at hx;by_cases he:t=k
  ·subst he;have hlt:t<σ.s.length:=by rw [h.size];exact (Array.getElem?_eq_some_iff.1 hv).1
   rw [List.getElem?_set_self hlt] at hx;injection hx with hx;subst hx
   rw [zH] at ht;rw [(h.slot t _ v ht hv).lit_eq];exact .rowNil (by simp [μ']) (.inl rfl)
  ·rw [List.getElem?_set_ne he] at hx;exact up (h.slot k x v hx hv)
 ·simp only [μ'] at hi;split at hi
  ·subst i;simp
  ·have:=h.H.dom i l hi;simp;omega
 ·simp only [μ'] at hi hj;split at hi <;>split at hj <;>first|(cases hi;done)|(cases hj;done)|exact h.H.inj i j b m m2 hi hj
 ·simp only [μ'] at hi;split at hi
  ·cases hi
  ·exact h.H.lt i b m hi
 ·by_cases hlt:i<σ.H.length
  ·rw [List.getElem?_append_left hlt] at hi;exact (h.H.obj i o' hi hs).mono (fun b _ hb=>hoo b hb) (fun _ _ _=>rfl) hmu fun _ _ _=>rfl
  ·have he:i=σ.H.length:=by
    have:=(List.getElem?_eq_some_iff.1 hi).1
    simp at this;omega
   subst he;simp at hi
   subst hi;exact ⟨hz, .inl ⟨by simp [μ'],rfl⟩⟩
 ·simp only [μ'] at hi;split at hi
  ·cases hi
  ·exact h.ext i b m hi
def W8 (ob:zb) (id sz:Nat):zb:={ob with f:=fun _=>[.row id sz 0 0 none],pure:=false}
theorem SRel.nilCell {B:Base P} {μ:Mu} {a:Act} {w:World} (h:SRel B μ σ a w) {i0:Nat} {ob:zb} (ho:σ.H[i0]?=some ob) (hn:ob.n=1) (hf:ob.f 0=[.lit (.slice none 0 0)]) (T sz:Nat) (hz:0<sz) (hst3:ob.st<3):
 ∃μ',SRel B μ' ⟨σ.s,σ.H.set i0 (W8 ob σ.H.length sz)++[Qy T sz],σ.fg,σ.nb⟩ a w:=by
 let μ':Mu:=fun i=>if i=σ.H.length then some none else μ i
 have hi0:i0<σ.H.length:=(List.getElem?_eq_some_iff.1 ho).1
 have hmu: ∀i l,μ i=some l→μ' i=some l:=fun i l hi=>by have:=h.H.dom i l hi;simp only [μ'];rw [if_neg (by omega)];exact hi
 have hobj: ∀i o',(σ.H.set i0 (W8 ob σ.H.length sz)++[Qy T sz])[i]?=some o'→i<σ.H.length→(i=i0∧o'=W8 ob σ.H.length sz)∨(i≠i0∧σ.H[i]?=some o'):=fun i o' hi hlt=>by
  rw [List.getElem?_append_left (by simpa using hlt)] at hi;by_cases he:i0=i
  ·subst he;rw [List.getElem?_set_self hlt] at hi;injection hi with hi
   exact .inl ⟨rfl,hi.symm⟩
  ·rw [List.getElem?_set_ne he] at hi;exact .inr ⟨fun h=>he h.symm,hi⟩
 have hoo: ∀b,OO B.X (σ.H.set i0 (W8 ob σ.H.length sz)++[Qy T sz]) μ' b→OO B.X σ.H μ b:=by
  rintro b (hx|⟨i,o',m',hi,hs,hm'⟩)
  ·exact .inl hx
  ·simp only [μ'] at hm';split at hm'
   ·cases hm'
   ·have:=h.H.dom i _ hm'
    rcases hobj i o' hi this with ⟨rfl,rfl⟩|⟨_,h1⟩
    ·exact .inr ⟨i,ob,m',ho,hs,hm'⟩
    ·exact .inr ⟨i,o',m',h1,hs,hm'⟩
 have hinm: ∀b,ZM μ' b→ZM μ b:=fun b ⟨i,m,hi⟩=>by
  simp only [μ'] at hi;split at hi
  ·cases hi
  ·exact ⟨i,m,hi⟩
 have hlt': ∀i b m,μ' i=some (some (b,m))→b<w.heap.size∧ ¬B.X b:=fun i b m hi=>by
  obtain ⟨j,m',hj⟩:=hinm b ⟨i,m,hi⟩;exact h.H.lt j b m' hj
 have up: ∀{x:AV} {v:Value},RV (OO B.X σ.H μ) w μ x v→RV (OO B.X (σ.H.set i0 (W8 ob σ.H.length sz)++[Qy T sz]) μ') w μ' x v:=fun h=>h.mono (fun b _ hb=>hoo b hb) (fun _ _ _=>rfl) _ hmu
 refine ⟨μ',h.size,fun k x v hx hv=>up (h.slot k x v hx hv),⟨fun i l hi=> ?_,fun i j b m m2 hi hj=> ?_,hlt',fun i o' hi hs=> ?_,h.H.xlt,h.H.gl.sub hinm,h.H.mp.mono (fun b _ hb=>hoo b hb) (fun _ _ _=>rfl) fun i o' ho' hs=>(by
  by_cases hlt:i<σ.H.length
  ·rcases hobj i o' ho' hlt with ⟨rfl,rfl⟩|⟨_,h1⟩
   ·have hs:3≤ob.st:=hs
    omega
   ·exact ⟨i,o',h1, .refl o',hmu i,fun _ _ _=>rfl⟩
  ·rw [List.getElem?_append_right (by simp;omega),List.getElem?_eq_some_iff] at ho';obtain ⟨hl,ho'⟩:=ho';simp at ho';subst ho';simp [Qy] at hs)⟩,h.df.sub hinm hlt',h.chg,fun i b m hi=> ?_,h.nb,by simp;have:=h.le;omega,fun k x v hk hx=>(h.pres k x v hk hx).mono (fun b _ hb=>hoo b hb) (fun _ _ _=>rfl) _ (xd hmu)⟩
 ·simp only [μ'] at hi;split at hi
  ·subst i;simp
  ·have:=h.H.dom i l hi;simp;omega
 ·simp only [μ'] at hi hj;split at hi <;>split at hj <;>first|(cases hi;done)|(cases hj;done)|exact h.H.inj i j b m m2 hi hj
 ·by_cases hlt:i<σ.H.length
  ·rcases hobj i o' hi hlt with ⟨rfl,rfl⟩|⟨_,h1⟩
   ·obtain ⟨hz0,hat⟩:=(h.H.obj i ob ho hs).mono (O':=OO B.X (σ.H.set i (W8 ob σ.H.length sz)++[Qy T sz]) μ') (w':=w) (fun b _ hb=>hoo b hb) (fun _ _ _=>rfl) hmu fun _ _ _=>rfl
    refine ⟨hz0,hat.imp (fun h=>h) fun ⟨b,m,cur,h1,h2⟩=>⟨b,m,cur,h1,⟨h2.blk,h2.size,h2.le,h2.nle,h2.one,fun k hk=> ?_,fun k j a v hk ha hv=> ?_⟩⟩⟩
    ·have hk:k<ob.n:=hk
     have e:=h2.flen 0 (by omega);rw [hf] at e;exact e
    ·have hk:k<ob.n:=hk
     obtain rfl:k=0:=by omega
     have ha:([AV.row σ.H.length sz 0 0 none])[j]?=some a:=ha
     have hj:j=0:=by have:=(List.getElem?_eq_some_iff.1 ha).1;simp at this;exact this
     subst hj;simp at ha
     subst ha;have:=h2.cell 0 0 (.lit (.slice none 0 0)) v (by omega) (by rw [hf];rfl) hv
     rw [this.lit_eq];exact .rowNil (by simp [μ',W8]) (.inl rfl)
   ·exact (h.H.obj i o' h1 hs).mono (fun b _ hb=>hoo b hb) (fun _ _ _=>rfl) hmu fun _ _ _=>rfl
  ·have he:i=σ.H.length:=by
    have:=(List.getElem?_eq_some_iff.1 hi).1
    simp at this;omega
   subst he;simp at hi
   subst hi;exact ⟨hz, .inl ⟨by simp [μ'],rfl⟩⟩
 ·simp only [μ'] at hi;split at hi
  ·cases hi
  ·exact h.ext i b m hi
def Tells (σ σ':St):Prop:= ∀(P:Program) (B:Base P) (μ:Mu) (a:Act) (w:World),SRel B μ σ a w→ ∃μ',SRel B μ' σ' a w
theorem Tells.refl (σ:St):Tells σ σ:=fun P B μ a w h=>⟨μ,h⟩
theorem Tells.trans {σ σ' σ'':St} (h:Tells σ σ') (h':Tells σ' σ''):Tells σ σ'':=fun P B μ a w hr=>by
 obtain ⟨μ1,h1⟩:=h P B μ a w hr;exact h' P B μ1 a w h1
theorem Tells.le {s s':List AV} {H H':List zb} {fg:List Nat} {nb:YB} (hs:LeS s s') (hH:LeH H H'):Tells ⟨s,H,fg,nb⟩ ⟨s',H',fg,nb⟩:=fun P B μ a w hr=>⟨μ,hr.told hs hH ⟨rfl,rfl⟩⟩
theorem Tells.nilRow {t:Nat} (T sz:Nat) (ht:nth σ.s t=some (.lit (.slice none 0 0))) (hz:Nat.blt 0 sz=true):Tells σ ⟨setn σ.s t (.row σ.H.length sz 0 0 none),σ.H++[Qy T sz],σ.fg,σ.nb⟩:=fun P B μ a w hr=>by
 rw [Nat.blt_eq] at hz;exact hr.nilRow ht T sz hz
theorem Tells.nilCell (i T sz:Nat) {ob:zb} (ho:nth σ.H i=some ob) (hn:ob.n=1) (hf:ob.f 0=[.lit (.slice none 0 0)]) (hz:Nat.blt 0 sz=true) (hst:ob.st<3:=by exact Nat.le_of_ble_eq_true rfl):Tells σ ⟨σ.s,setn σ.H i (W8 ob σ.H.length sz)++[Qy T sz],σ.fg,σ.nb⟩:=fun P B μ a w hr=>by
 rw [Nat.blt_eq] at hz;rw [Zx];rw [zH] at ho;exact hr.nilCell ho hn hf T sz hz hst
theorem zr {c:Code} {σ':St} (ht:Tells σ σ') (h:AW P r c Q σ'):AW P r c Q σ:=fun B μ a w hr=>by
 obtain ⟨μ',hr'⟩:=ht P B μ a w hr;exact h B μ' a w hr'
theorem zz {l R:List Oper} {σ':St} (ht:Tells σ σ') (h:AL P r l Q R σ'):AL P r l Q R σ:=fun B μ a w hr=>by
 obtain ⟨μ',hr'⟩:=ht P B μ a w hr;exact h B μ' a w hr'
theorem ky {c:Code} {Q':Exit→St→Prop} (h:AW P r c Q' σ) (hq: ∀e σ,Q' e σ→ ∃σ',Tells σ σ'∧Q e σ'):AW P r c Q σ:=fun B μ a w hr=>
 wpIn_mono (h B μ a w hr) fun e a w ⟨σ1,h1,μ1,X1,hg,h2⟩=>by
  obtain ⟨σ',h3,h4⟩:=hq e σ1 h1;obtain ⟨μ',h5⟩:=h3 P (B.at_ X1) μ1 a w h2;exact ⟨σ',h4,μ',X1,hg,h5⟩
theorem H3 {c:Code} {ι:Type} (st:ι→St) (m:ι→Nat) (i0:ι) (h0:Tells σ (st i0))
 (round: ∀i,AW P r c (zF (fun σ'=> ∃j,m j<m i∧Tells σ' (st j)) Q) (st i)):AW P r (.loop c) Q σ:=by
 intro B μ a w hr
 have key: ∀a' w',∃n,(∃i,SX B (st i) a' w')→(∃i,SX B (st i) a' w'∧m i=n)∧ ∀n',(∃i,SX B (st i) a' w'∧m i=n')→n≤n':=by
  intro a' w';by_cases h: ∃i,SX B (st i) a' w'
  ·obtain ⟨i,hi⟩:=h;have hex: ∃n,∃i,SX B (st i) a' w'∧m i=n:=⟨m i,i,hi,rfl⟩
   have: ∀n,(∃i,SX B (st i) a' w'∧m i=n)→ ∃n0,(∃i,SX B (st i) a' w'∧m i=n0)∧ ∀n',(∃i,SX B (st i) a' w'∧m i=n')→n0≤n':=by
    intro n;induction n using Nat.strongRecOn with
    |_ n ih=>
     intro hn;by_cases hlt: ∃n',n'<n∧ ∃i,SX B (st i) a' w'∧m i=n'
     ·obtain ⟨n',h1,h2⟩:=hlt;exact ih n' h1 h2
     ·refine ⟨n,hn,fun n' hn'=> ?_⟩;rcases Nat.lt_or_ge n' n with h1|h1
      ·exact (hlt ⟨n',h1,hn'⟩).elim
      ·exact h1
   obtain ⟨n0,h1,h2⟩:=this _ hex.choose_spec;exact ⟨n0,fun _=>⟨h1,h2⟩⟩
  ·exact ⟨0,fun h'=>(h h').elim⟩
 have h0':SX B (st i0) a w:=by
  obtain ⟨μ1,h1⟩:=h0 P B μ a w hr;exact h1.sx
 refine wpIn_loop (fun a' w'=> ∃i,SX B (st i) a' w') (fun a' w'=>(key a' w').choose) ⟨i0,h0'⟩ fun a' w' hI=> ?_
 obtain ⟨⟨i,⟨μ1,X1,hg,hi⟩,hm⟩,_⟩:=(key a' w').choose_spec hI;refine wpIn_mono (round i (B.at_ X1) μ1 a' w' hi) fun e a2 w2 ⟨σ',h1,h2⟩=> ?_
 cases e <;>simp only [zF] at h1 <;>simp only [Exit.then] <;>first|exact ⟨σ',h1,h2.trans hg⟩|skip
 obtain ⟨j,hj,hle⟩:=h1;obtain ⟨μ2,X2,hg2,h2⟩:=h2;obtain ⟨μ3,hrj⟩:=hle P _ μ2 a2 w2 h2;have hsx:SX B (st j) a2 w2:=⟨μ3,X2,hg.trans hg2,hrj⟩
 refine ⟨⟨j,hsx⟩, ?_⟩;have:=((key a2 w2).choose_spec ⟨j,hsx⟩).2 (m j) ⟨j,hsx,rfl⟩
 omega
end
section
variable {P:Program} {tab:Tab} {X:Nat→Prop} {H H':List zb} {μ μ':Mu} {w w':World} {O O':Nat→Prop}
def ren (f:Nat→Option Nat):Nat→AV→AV
 |0,_=> .junk
 |n+1,a=>match a with
  | .row i sz off k c=>match f i with|some j=> .row j sz off k c|none=> .junk
  | .ptr i sz k o=>match f i with|some j=> .ptr j sz k o|none=> .junk
  | .agg cs=> .agg (cs.map (ren f n))
  | .tup cs=> .tup (cs.map (ren f n))
  | .fn g a b=> .fn g (a.map (ren f n)) (b.map (ren f n))
  | .iface t a=> .iface t (ren f n a)
  |a=>a
theorem Vl {f:Nat→Option Nat} (hf: ∀i j l,f i=some j→μ i=some l→μ' j=some l) (hO: ∀b,b<w.heap.size→O' b→O b) (hw: ∀b,b<w.heap.size→ ¬O b→w'.heap[b]?=w.heap[b]?): ∀(n:Nat) {a:AV} {v:Value},RV O w μ a v→RV O' w' μ' (ren f n a) v
 |0,a,v,_=> .junk v
 |n+1,a,v,hv=>by
  have fl: ∀{cs:List AV} {vs:List Value},(∀(j:Nat) a v,cs[j]?=some a→vs[j]?=some v→RV O w μ a v)→ ∀(j:Nat) a v,(cs.map (ren f n))[j]?=some a→vs[j]?=some v→RV O' w' μ' a v:=by
   intro cs vs h j a v ha hv;simp only [List.getElem?_map,Option.map_eq_some_iff] at ha;obtain ⟨a,ha,rfl⟩:=ha;exact Vl hf hO hw n (h j a v ha hv)
  cases hv with
  |junk=>exact .junk _
  |lit=>exact .lit _
  |agg h1 h2=>exact .agg (by simpa using h1) (fl h2)
  |tup h1 h2=>exact .tup (by simpa using h1) (fl h2)
  |arr a1 a2 a3 a4=>exact .arr a1 a2 a3 fun k j a v hk ha hv=>(a4 k j a v hk ha hv).mono hO hw _ fun _ _ h=>h
  |sl a0 a1 a2 a3 a4 a5 a6 a7 a8=>exact (RV.sl (μ:=noMu) a0 a1 a2 a3 a4 a5 a6 a7 a8).mono hO hw _ fun _ _ h=>by cases h
  |ip a1 a2 a3 a4 a5=>exact (RV.ip (μ:=noMu) a1 a2 a3 a4 a5).mono hO hw _ fun _ _ h=>by cases h
  |rowNil h hc=>
   simp only [ren];split
   ·exact .rowNil (hf _ _ _ ‹_› h) hc
   ·exact .junk _
  |row h h1 h2 h3 h4=>
   simp only [ren];split
   ·exact .row (hf _ _ _ ‹_› h) h1 h2 h3 h4
   ·exact .junk _
  |rowE h h1 h2=>
   simp only [ren];split
   ·exact .rowE (hf _ _ _ ‹_› h) h1 h2
   ·exact .junk _
  |ptr h=>
   simp only [ren];split
   ·exact .ptr (hf _ _ _ ‹_› h)
   ·exact .junk _
  |fn h1 h2 h3 h4=>exact .fn (by simpa using h1) (fl h2) (by simpa using h3) (fl h4)
  |iface ht h1=>exact .iface ht (Vl hf hO hw n h1)
  |mapv h1=>exact .mapv (Vl hf hO hw n h1)
def Z4 (f:Nat→Option Nat) (o:zb):zb:=match o.pure with|true=>o|false=>{o with f:=fun k=>(o.f k).map (ren f 4)}
theorem YX (f:Nat→Option Nat) (o:zb):(Z4 f o).st=o.st∧(Z4 f o).sz=o.sz∧(Z4 f o).n=o.n∧(Z4 f o).T=o.T∧(Z4 f o).pure=o.pure:=by unfold Z4;split <;>simp_all
theorem Jz {f:Nat→Option Nat} (hf: ∀i j l,f i=some j→μ i=some l→μ' j=some l) (hO: ∀b,b<w.heap.size→O' b→O b) (hw: ∀b,b<w.heap.size→ ¬O b→w'.heap[b]?=w.heap[b]?) {i j:Nat} {o:zb} (h:ObjAt O w μ i o) (hij: ∀l,μ i=some l→μ' j=some l)
 (hb: ∀b m,μ i=some (some (b,m))→w'.heap[b]?=w.heap[b]?):ObjAt O' w' μ' j (Z4 f o):=by
 obtain ⟨e0,e1,e2,e3,e4⟩:=YX f o;refine ⟨by rw [e1];exact h.1, ?_⟩;rcases h.2 with ⟨h1,h2⟩|⟨b,m,cur,h1,h2⟩
 ·exact .inl ⟨hij _ h1,by rw [e2];exact h2⟩
 ·refine .inr ⟨b,m,cur,hij _ h1,⟨by rw [e3];exact (hb b m h1).trans h2.blk,by rw [e1];exact h2.size,h2.le,by rw [e2];exact h2.nle,by rw [e1,e2];exact h2.one, ?_, ?_⟩⟩
  ·rw [e1,e2];intro k hk;unfold Z4;split <;>simp [h2.flen k hk]
  ·rw [e1,e2,e4];intro k j a v hk ha hv;cases hp:o.pure with
   |true=>
    have he:Z4 f o=o:=by unfold Z4;rw [hp]
    rw [he] at ha;have:=h2.cell k j a v hk ha hv
    rw [hp] at this;exact this.mono hO hw _ fun _ _ h=>h
   |false=>
    unfold Z4 at ha;rw [hp] at ha;simp only [List.getElem?_map,Option.map_eq_some_iff] at ha;obtain ⟨c,hc,rfl⟩:=ha;have:=h2.cell k j c v hk hc hv
    rw [hp] at this;exact Vl hf hO hw 4 this
theorem Kn (f:Nat→Option Nat) {O:Nat→Prop} {H:List zb} {i:Nat} {o:zb} (h:MapsOk O w μ H) (ho:H[i]?=some o) (hs:3≤o.st):Z4 f o=o:=by
 rcases h i o ho with h|h
 ·unfold Z4;rw [h.1]
 ·omega
def idx:List Nat→Nat→Option Nat
 |[],_=>none
 |k::ks,i=>match Nat.beq k i with|true=>some 0|false=>(idx ks i).map (· +1)
theorem p9: ∀{ks:List Nat} {i j:Nat},idx ks i=some j→ks[j]?=some i
 |[],i,j,h=>by cases h
 |k::ks,i,j,h=>by
  simp only [idx] at h;split at h
  ·rename_i hb;injection h with h;subst h;simp [ZD hb]
  ·simp only [Option.map_eq_some_iff] at h;obtain ⟨j',hj',rfl⟩:=h;simpa using p9 hj'
def Pk (f:Nat→Option Nat) (H:List zb):List Nat→Option (List zb)
 |[]=>some []
 |k::ks=>match nth H k,Pk f H ks with
  |some o,some r=>some (Z4 f o::r)
  |_,_=>none
theorem PB {f:Nat→Option Nat}: ∀{ks:List Nat} {H':List zb},Pk f H ks=some H'→H'.length=ks.length∧ ∀(j:Nat) o',H'[j]?=some o'→ ∃k o,ks[j]?=some k∧H[k]?=some o∧o'=Z4 f o
 |[],H',h=>by
  simp only [Pk] at h;injection h with h;subst h;exact ⟨rfl,fun j o' h=>by simp at h⟩
 |k::ks,H',h=>by
  simp only [Pk] at h;split at h
  ·rename_i o r h1 h2;injection h with h;subst h
   obtain ⟨g1,g2⟩:=PB h2;refine ⟨by simp [g1],fun j o' ho=> ?_⟩;cases j with
   |zero=>simp at ho;subst ho;rw [zH] at h1;exact ⟨k,o,rfl,h1,rfl⟩
   |succ j=>simp at ho;simpa using g2 j o' ho
  ·cases h
def zaw (ks:List Nat) (nb:Nat):Bool:=ks.Nodup && (List.range nb).all fun i=>nth ks i==some i
theorem SRel.sel {B:Base P} {σ:St} {a:Act} (h:SRel B μ σ a w) {ks:List Nat} {H':List zb} (hs:Pk (idx ks) σ.H ks=some H') (hk:zaw ks σ.nb.n=true):
 ∃μ',SRel B μ' ⟨σ.s.map (ren (idx ks) 4),H',σ.fg,σ.nb⟩ a w:=by
 unfold zaw at hk;rw [Bool.and_eq_true] at hk;obtain ⟨hnd,hnb⟩:=hk;have hnd:ks.Nodup:=by simpa using hnd
 have hnb: ∀i,i<σ.nb.n→ks[i]?=some i:=fun i hi=>by
  have:=List.all_eq_true.1 hnb i (List.mem_range.2 hi)
  rw [zH] at this;simpa using this
 obtain ⟨s1,s2⟩:=PB hs;let μ':Mu:=fun j=>(ks[j]?).bind μ
 have hf: ∀i j l,idx ks i=some j→μ i=some l→μ' j=some l:=fun i j l hi hm=>by simp [μ',p9 hi,hm]
 have hmu: ∀j l,μ' j=some l→ ∃k,ks[j]?=some k∧μ k=some l:=fun j l hj=>by
  simp only [μ',Option.bind_eq_some_iff] at hj;exact hj
 have hoo: ∀b,OO B.X H' μ' b→OO B.X σ.H μ b:=by
  rintro b (hx|⟨j,o',m,hj,hst,hm⟩)
  ·exact .inl hx
  ·obtain ⟨k,hk1,hk2⟩:=hmu _ _ hm;obtain ⟨k',o,hk',ho,rfl⟩:=s2 j o' hj;rw [hk1] at hk';injection hk' with hk';subst hk';exact .inr ⟨k,o,m,ho,by rw [←(YX (idx ks) o).1];exact hst,hk2⟩
 have hren: ∀{a:AV} {v:Value},RV (OO B.X σ.H μ) w μ a v→RV (OO B.X H' μ') w μ' (ren (idx ks) 4 a) v:=fun hr=>Vl hf (fun b _ hb=>hoo b hb) (fun _ _ _=>rfl) 4 hr
 refine ⟨μ',by simpa using h.size,fun t x v hx hv=> ?_,⟨fun j l hj=> ?_,fun i j b m m2 hi hj=> ?_,fun i b m hi=> ?_,fun j o' hj hst=> ?_,h.H.xlt,h.H.gl.sub (fun b ⟨i,m,hi⟩=>(let ⟨k,_,hk2⟩:=hmu _ _ hi;⟨k,m,hk2⟩)),h.H.mp.mono (fun b _ hb=>hoo b hb) (fun _ _ _=>rfl) fun j o' hj hst=>(by
  obtain ⟨k,o,hk1,ho,rfl⟩:=s2 j o' hj;rw [(YX (idx ks) o).1] at hst;exact ⟨k,o,ho,by rw [Kn _ h.H.mp ho hst];exact .refl o,fun l hl=>(by simp [μ',hk1,hl]),fun _ _ _=>rfl⟩)⟩,h.df.sub (fun b ⟨i,m,hi⟩=>(let ⟨k,_,hk2⟩:=hmu _ _ hi;⟨k,m,hk2⟩)) (fun i b m hi=>(let ⟨k,_,hk2⟩:=hmu _ _ hi;h.H.lt k b m hk2)),h.chg,fun i b m hi=> ?_,h.nb, ?_,fun k x v hk hx=> ?_⟩
 ·simp only [List.getElem?_map,Option.map_eq_some_iff] at hx;obtain ⟨y,hy,rfl⟩:=hx;exact hren (h.slot t y v hy hv)
 ·obtain ⟨k,hk1,_⟩:=hmu _ _ hj;rw [s1];exact (List.getElem?_eq_some_iff.1 hk1).1
 ·obtain ⟨k,hk1,hk2⟩:=hmu _ _ hi;obtain ⟨k',hk1',hk2'⟩:=hmu _ _ hj;have:=h.H.inj k k' b m m2 hk2 hk2'
  subst this;have h1:=List.getElem?_eq_some_iff.1 hk1;have h2:=List.getElem?_eq_some_iff.1 hk1';have hp:=List.pairwise_iff_getElem.1 hnd;rcases Nat.lt_trichotomy i j with hlt|heq|hgt
  ·exact (hp i j h1.1 h2.1 hlt (h1.2.trans h2.2.symm)).elim
  ·exact heq
  ·exact (hp j i h2.1 h1.1 hgt (h2.2.trans h1.2.symm)).elim
 ·obtain ⟨k,hk1,hk2⟩:=hmu _ _ hi;exact h.H.lt k b m hk2
 ·obtain ⟨k,o,hk1,ho,rfl⟩:=s2 j o' hj;exact Jz hf (fun b _ hb=>hoo b hb) (fun _ _ _=>rfl) (h.H.obj k o ho (by rw [←(YX (idx ks) o).1];exact hst)) (fun l hl=>by simp [μ',hk1,hl]) fun _ _ _=>rfl
 ·obtain ⟨k,hk1,hk2⟩:=hmu _ _ hi;exact h.ext k b m hk2
 ·rw [s1];rcases Nat.eq_zero_or_pos σ.nb.n with h0|h0
  ·rw [h0];exact Nat.zero_le _
  ·have:=(List.getElem?_eq_some_iff.1 (hnb (σ.nb.n - 1) (by omega))).1
   simp only;omega
 ·refine (h.pres k x v hk hx).mono (fun b _ hb=>hoo b hb) (fun _ _ _=>rfl) _ fun i l hi=> ?_
  unfold upto at hi ⊢;split at hi
  ·rename_i hlt;rw [if_pos hlt];simp [μ',hnb i (by simp only at hk;omega),hi]
  ·cases hi
theorem Tells.sel {σ:St} (ks:List Nat) {H':List zb} (hs:Pk (idx ks) σ.H ks=some H') (hk:zaw ks σ.nb.n=true):Tells σ ⟨σ.s.map (ren (idx ks) 4),H',σ.fg,σ.nb⟩:=fun P B μ a w hr=>hr.sel hs hk
def QA (tab:Tab) (σ:St):List ResultVar→Option (Prop×List AV)
 |[]=>some (True,[])
 | .tmp t::r=>match QA tab σ r with|some (q,l)=>some (q,σ.ev (.tmp t)::l)|none=>none
 | .cell c t::r=>match jf tab t (σ.ev (.tmp c)) σ.H,QA tab σ r with|some (q',x),some (q,l)=>some (q'∧q,x::l)|_,_=>none
def qJ:List AV→AV
 |[x]=>x
 |l=> .tup l
theorem za1 {t:TypeId} {p:AV} {q:Prop} {x:AV} (h:jf tab t p H=some (q,x)) {v:Value} (hv:RV O w μ p v): ∃a,v= .pointer (some a):=by
 unfold jf at h;split at h
 ·cases h
 ·split at h
  ·cases hv;exact ⟨_,rfl⟩
  ·cases hv;exact ⟨_,rfl⟩
  ·cases h
theorem Py (hT:zI P tab) {B:Base P} {σ:St} {a:Act} (h:SRel B μ σ a w): ∀(rs:List ResultVar) {q:Prop} {l:List AV},QA tab σ rs=some (q,l)→q→
 ∃vs,(rs.mapM fun x=>(match x with| .tmp t=>pure (a.tmps.getD t undef)| .cell c t=>do loadVar t (←asAddr (a.tmps.getD c undef)):Sem Value)).run P w= .ok vs w∧RVs (OO B.X σ.H μ) w μ l vs
 |[],q,l,hl,hq=>by
  simp only [QA] at hl;injection hl with hl;injection hl with _ e2;subst e2;exact ⟨[],by simp,RVs.nil⟩
 | .tmp t::rs,q,l,hl,hq=>by
   simp only [QA] at hl;split at hl
   ·rename_i q' l' hl';injection hl with hl;injection hl with e1 e2;subst e1 e2
    obtain ⟨vs,h1,h2⟩:=Py hT h rs hl' hq;exact ⟨_::vs,by rw [List.mapM_cons];simp only [Sem.run_bind,Sem.run_pure,Result.andThen_ok,h1];rfl, .cons (h.ev (.tmp t)) h2⟩
   ·cases hl
 | .cell c t::rs,q,l,hl,hq=>by
   simp only [QA] at hl;split at hl
   ·rename_i q1 x q2 l' hx hl';injection hl with hl;injection hl with e1 e2;subst e1 e2
    obtain ⟨vs,h1,h2⟩:=Py hT h rs hl' hq.2;have hc:=h.ev (.tmp c);obtain ⟨u,h3,h4⟩:=KI hT hx hq.1 h.H hc;obtain ⟨ad,had⟩:=za1 hx hc;simp only [Act.eval] at had h3;rw [had] at h3;simp only [Instr.loadAt,Instr.sureAddr,Sem.run_bind,Sem.run_pure,Result.andThen_ok] at h3;refine ⟨u::vs, ?_, .cons h4 h2⟩;have hasd:asAddr (.pointer (some ad))=(pure ad:Sem Addr):=rfl
    rw [List.mapM_cons];simp only [Sem.run_bind,had,hasd,Sem.run_pure,Result.andThen_ok,h3,h1]
   ·cases hl
theorem to: ∀{l:List AV} {vs:List Value},RVs O w μ l vs→RV O w μ (qJ l) (if h:vs.toArray.size=1 then vs.toArray[0] else .tuple vs.toArray)
 |[],vs,h=>by
  obtain rfl:=h.unnil;rw [dif_neg (by simp)];exact .tup (vs:=[]) rfl (fun j a v h=>by simp at h)
 |[x],vs,h=>by
  obtain ⟨v,us,rfl,g1,g2⟩:=h.uncons;obtain rfl:=g2.unnil;simpa [qJ] using g1
 |x::y::l,vs,h=>by
  obtain ⟨v,us,rfl,g1,g2⟩:=h.uncons;obtain ⟨v2,us2,rfl,g3,g4⟩:=g2.uncons;rw [dif_neg (by simp)];exact .tup h.1 h.2
theorem QG (hT:zI P tab) {B:Base P} {σ:St} {a:Act} (h:SRel B μ σ a w) {fn:Func} {q:Prop} {l:List AV} (hl:QA tab σ fn.results.toList=some (q,l)) (hq:q):
 ∃vs:List Value,(results fn a.tmps).run P w= .ok (if h:vs.toArray.size=1 then vs.toArray[0] else .tuple vs.toArray) w∧RVs (OO B.X σ.H μ) w μ l vs:=by
 obtain ⟨vs,h1,h2⟩:=Py hT h _ hl hq
 have hrun:(results fn a.tmps).run P w= .ok (if h:vs.toArray.size=1 then vs.toArray[0] else .tuple vs.toArray) w:=by
  unfold results;rw [Sem.run_bind,Array.mapM_eq_mapM_toList,Sem.run_map]
  erw [h1]
  rfl
 exact ⟨vs,hrun,h2⟩
def zU (tab:Tab) (rs:List ResultVar) (K:AV→List zb→List Nat→Prop):Exit→St→Prop
 | .normal,σ| .ret,σ=> ∃q l,QA tab σ rs=some (q,l)∧q∧ ∃l' H',Tells ⟨l,σ.H,σ.fg,σ.nb⟩ ⟨l',H',σ.fg,σ.nb⟩∧K (qJ l') H' σ.fg
 |_,_=>False
theorem SRel.down {B:Base P} {X':ye} {σ:St} {a:Act} (hg:Grows B X') (h:SRel (B.at_ X') μ σ a w) (he:Ex B μ σ.nb a.defers w):SRel B μ σ a w:=by
 have hoo: ∀{H:List zb} {μ:Mu} b,OO B.X H μ b→OO X'.1 H μ b:=fun b hb=>hb.imp (hg.le b) id
 have up: ∀{w:World} {H:List zb} {μ ν:Mu} {x:AV} {v:Value},RV (OO X'.1 H μ) w ν x v→RV (OO B.X H μ) w ν x v:=fun {w H μ ν x v} hx=>hx.mono (fun b _ hb=>hoo b hb) (fun _ _ _=>rfl) ν fun _ _ h=>h
 refine ⟨h.size,fun t x v hx hv=>up (h.slot t x v hx hv),⟨h.H.dom,h.H.inj,fun i b m hi=>⟨(h.H.lt i b m hi).1,fun hx=>(h.H.lt i b m hi).2 (hg.le b hx)⟩,fun i o hi hs=>(h.H.obj i o hi hs).mono (fun b _ hb=>hoo b hb) (fun _ _ _=>rfl) (fun _ _ h=>h) fun _ _ _=>rfl,fun b hx=>h.H.xlt b (hg.le b hx),h.H.gl.step (Nat.le_refl _) (fun _ _ _ _=>rfl) (fun b hb=> .inl (hg.le b hb)) fun i b m hi=> .inl ⟨i,m,hi⟩,h.H.mp.mono (fun b _ hb=>hoo b hb) (fun _ _ _=>rfl) fun i o ho _=>⟨i,o,ho, .refl o,fun _ h=>h,fun _ _ _=>rfl⟩⟩,he,h.chg,h.ext,h.nb,h.le,fun k x v hk hx=>up (h.pres k x v hk ?_)⟩;exact hx.mono (fun b hb hb'=>hb'.imp (fun hx=>(hg.new b hx).elim id fun h=>absurd hb (Nat.not_lt.2 h)) id) (fun _ _ _=>rfl) _ fun _ _ h=>h
theorem SRel.obj {B:Base P} {σ:St} {t:Array Value} {ds ds':List Deferred} {D:Nat} {o o':Obj} (h:SRel B μ σ {tmps:=t,defers:=ds} w) (hD:w.heap[D]?=some o) (hnc:o.isCells=false) (hm: ¬ZM μ D) (hsz:B.w.heap.size≤D∨B.Y D)
 (hex:Ex B μ σ.nb ds' (w.putObj D o')) (hnm: ∀es c,o≠ .map es c:=by intro _ _ h;cases h):SRel B μ σ {tmps:=t,defers:=ds'} (w.putObj D o'):=by
 have hc: ∀b,∀o1 u,w.cell? ⟨b,o1,none⟩=some u→(w.putObj D o').cell? ⟨b,o1,none⟩=some u:=fun b o1 u hu=>by
  by_cases hb:b=D
  ·subst hb;unfold World.cell? at hu;simp only [hD] at hu;cases o <;>first|(cases hnc;done)|(cases hu;done)
  ·rw [World.cell?_of_block (w:=w) (World.putObj_heap_other hb)];exact hu
 have up: ∀{ν:Mu} {x:AV} {v:Value},RV (OO B.X σ.H μ) w ν x v→RV (OO B.X σ.H μ) (w.putObj D o') ν x v:=fun {ν x v} hx=>hx.monoC (fun _ _ h=>h) (by simp) (fun b _ _=>hc b) ν fun _ _ h=>h
 refine ⟨h.size,fun k x v hx hv=>up (h.slot k x v hx hv),⟨h.H.dom,h.H.inj,fun i b m hi=>by simpa using h.H.lt i b m hi,fun i o1 hi hs=>(h.H.obj i o1 hi hs).monoC (fun _ _ h=>h) (by simp) (fun b _ _=>hc b) fun b m hb=>World.putObj_heap_other (by rintro rfl;exact hm ⟨i,m,hb⟩),fun b hx=>by simpa using h.H.xlt b hx,h.H.gl.stepC (by simp) (fun b _ _ _=>hc b) (fun _ h=> .inl h) fun i b m hi=> .inl ⟨i,m,hi⟩,fun i o1 hi=>(h.H.mp i o1 hi).monoR up (fun b es c h1 h2=>⟨h1,(World.putObj_heap_other (by rintro rfl;rw [hD] at h2;injection h2 with h2;exact hnm _ _ h2)).trans h2⟩) (.refl _) (fun _ h=>h) fun b m hb=>World.putObj_heap_other (by rintro rfl;exact hm ⟨i,m,hb⟩)⟩,hex,
  ⟨h.chg.os,h.chg.tape,h.chg.output,by simpa using h.chg.size,fun k hk hn hy=>(World.putObj_heap_other (by rintro rfl;exact hsz.elim (fun h=>by omega) hy)).trans (h.chg.block k hk hn hy)⟩,h.ext,h.nb,h.le,fun k x v hk hx=>up (h.pres k x v hk hx)⟩
theorem Wb {B:Base P} {σ:St} {fn:Func} {t:Array Value} {R:Ending→World→Prop}: ∀(ds:List Deferred) {w:World},SRel B μ σ {tmps:=t,defers:=ds} w→
 (∀w',SRel B μ σ {tmps:=t,defers:=[]} w'→ ∃v,(results fn t).run P w'= .ok v w'∧R (.returned v) w')→LeavesInM Fence.wide 0 P fn t R ds .returning w
 |[],w,h,hk=>hk w h
 |d::ds,w,h,hk=>by
  obtain ⟨D,hd,h2,h3,h4,h5,h6⟩:=h.df.marks d (by simp);subst hd;have hap:=List.pairwise_cons.1 h.df.apart;refine ⟨by simp, .inl ⟨D,_,rfl,run_takeDeferred h2,Wb ds (h.obj h2 rfl h3 (.inl h6) ⟨h.df.sp,h.df.ok,h.df.ok.keep _ _ _ _ w _ _ h.df.jr ⟨rfl,rfl,rfl,by simp,fun k hk hn=>World.putObj_heap_other (by rintro rfl;exact hn (.inr (by simp)))⟩ fun k hk=> ?_,fun d' hd'=> ?_,hap.2,fun h0=>(by have:=h.df.nm h0;cases this),h.df.xy,fun D' o ho=> ?_,h.df.cx⟩) hk⟩⟩
  ·rcases hk with ⟨i,m,hi⟩|hk
   ·exact ⟨.inl (.inl ⟨i,m,hi⟩),fun hc=>(h.H.lt i k m hi).2 (h.df.cx k hc),by simpa using (h.H.lt i k m hi).1⟩
   ·obtain ⟨D',e1,e2,e3,e4,e5,e6⟩:=h.df.marks _ (List.mem_cons_of_mem _ hk);injection e1 with e1
    injection e1 with e1
    subst e1;exact ⟨.inl (.inr (List.mem_cons_of_mem _ hk)),e4,by simpa using (Array.getElem?_eq_some_iff.1 e2).1⟩
  ·obtain ⟨D',e1,e2,e3,e4,e5,e6⟩:=h.df.marks d' (List.mem_cons_of_mem _ hd');refine ⟨D',e1,(World.putObj_heap_other ?_).trans e2,e3,e4,e5,e6⟩
   rintro rfl
   exact hap.1 d' hd' e1.symm
  ·obtain ⟨e1,e2,e3,e4⟩:=h.df.kp D' o ho;exact ⟨(World.putObj_heap_other (by rintro rfl;omega)).trans e1,e2,e3,e4⟩
theorem T' (hT:zI P tab) {f:FuncId} {fn:Func} {c:Code} (hf:P.funcs[f]?=some fn) (hb:fn.body=some c) {args:List AV} {K:AV→List zb→List Nat→Prop}
 (h:AW P none c (zU tab fn.results.toList K) ⟨args++List.replicate (fn.ntmps - args.length) (.lit undef),H,[],⟨H.length,0,false,none,true⟩⟩):ACall P f args H K:=by
 intro w X μ vs hH hargs;refine callsIn_wide.1 (callsIn_of_wp_marks (F:=Fence.wide) (n:=0) hf hb trivial ?_);let B:Base P:=⟨w,X,μ,H,fun _=>False,none,fun _ _ _ _ _=>True,none,fun _=>False⟩
 have hr:SRel B μ ⟨args++List.replicate (fn.ntmps - args.length) (.lit undef),H,[],⟨H.length,0,false,none,true⟩⟩ {tmps:=vs.toArray++Array.replicate (fn.ntmps - vs.toArray.size) undef,defers:=[]} w:=by
  refine ⟨by simp [hargs.1],fun t x v hx hv=> ?_,hH,⟨rfl,⟨hH.dom,fun _ _ _ _ _ _ _ _ _ _=>trivial,fun _ _ _ _ _ _ _ _=>trivial,(fun l xs n h=>by cases h)⟩,trivial,fun d hd=>by simp at hd, .nil,fun _=>rfl,fun _ h=>h.elim,(fun D o h=>by cases h),fun _ h=>h.elim⟩,⟨rfl,rfl,rfl,Nat.le_refl _,fun _ _ _ _=>rfl⟩,Ext.refl _ _,rfl,Nat.le_refl _,fun k x v _ hx=>hx⟩;by_cases hlt:t<args.length
  ·rw [List.getElem?_append_left hlt] at hx;rw [Array.getElem?_append_left (by simpa [←hargs.1] using hlt)] at hv;exact hargs.2 t x v hx (by simpa using hv)
  ·rw [List.getElem?_append_right (by omega)] at hx;rw [Array.getElem?_append_right (by simp [←hargs.1];omega)] at hv;rw [List.getElem?_replicate] at hx;rw [Array.getElem?_replicate] at hv;split at hx
   ·injection hx with hx;subst hx
    split at hv
    ·injection hv with hv;subst hv;exact .lit _
    ·cases hv
   ·cases hx
 refine wpIn_mono (h B μ _ w hr) fun e a' w' ⟨σ',h1,μ',X',hg,h2⟩=> ?_
 have fin:(∃q l,QA tab σ' fn.results.toList=some (q,l)∧q∧ ∃l' H',Tells ⟨l,σ'.H,σ'.fg,σ'.nb⟩ ⟨l',H',σ'.fg,σ'.nb⟩∧K (qJ l') H' σ'.fg)→LeavesInM Fence.wide 0 P fn a'.tmps (fun e w'=>
  ∃v' r H' fg μ',e= .returned v'∧K r H' fg∧HRel μ' X H' w'∧RV (OO X H' μ') w' μ' r v'∧Chg μ w w'∧Ext μ w μ'∧H.length≤H'.length∧ ∀k x u,k≤H.length→RV (OO X H μ) w (upto k μ) x u→RV (OO X H' μ') w' (upto k μ') (fgs (fgk k fg) x) u) a'.defers .returning w':=by
  rintro ⟨q,l,g1,g2,l',H1,gt,g3⟩
  refine Wb a'.defers h2 fun w' h2=> ?_
  have h2:SRel B μ' σ' {tmps:=a'.tmps,defers:=[]} w':=h2.down hg ⟨h2.df.sp,⟨hH.dom,fun _ _ _ _ _ _ _ _ _ _=>trivial,fun _ _ _ _ _ _ _ _=>trivial,(fun l xs n h=>by cases h)⟩,trivial,(fun d hd=>by cases hd), .nil,fun _=>rfl,fun _ h=>h.elim,(fun D o h=>by cases h),fun _ h=>h.elim⟩
  obtain ⟨vs,g4,g5⟩:=QG hT h2 g1 g2;obtain ⟨μ1,h3⟩:=gt P B μ' {tmps:=vs.toArray,defers:=[]} w' ⟨by simpa using g5.1,fun t x v hx hv=>g5.2 t x v hx (by simpa using hv),h2.H,h2.df,h2.chg,h2.ext,h2.nb,h2.le,h2.pres⟩;have hnb:σ'.nb.n=H.length:=h2.nb
  have hlv:RVs (OO X H1 μ1) w' μ1 l' vs:=⟨by simpa using h3.size,fun j x v hx hv=>h3.slot j x v hx (by simpa using hv)⟩
  refine ⟨_,g4,_,qJ l',H1,σ'.fg,μ1,rfl,g3,h3.H,to hlv,⟨h3.chg.os,h3.chg.tape,h3.chg.output,h3.chg.size,fun k hk hn=>h3.chg.block k hk hn id⟩,h3.ext,by have:=h3.le;simp only at this;omega,fun k x u hk hx=>h3.pres k x u (by simp only;omega) hx⟩
 cases e <;>simp only [zU] at h1 <;>first|exact h1.elim|exact fin h1
def APure (P:Program) (f:FuncId) (args:List AV) (r:AV) (N:List zb):Prop:=ACall P f args [] fun r' H' _=>r'=r∧H'=N
def Yf (th:AV→Option (Prop×AV×List Nat)):List AV→Option (Prop×List AV×List Nat)
 |[]=>some (True,[],[])
 |a::l=>match th a,Yf th l with
  |some (q,x,u),some (q',xs,us)=>some (q∧q',x::xs,u++us)
  |_,_=>none
def thaw (H:List zb):Nat→AV→Option (Prop×AV×List Nat)
 |0,_=>none
 |n+1,a=>match a with
  | .row i sz off k _=>match nth H i with
    |some ob=>match ob.pure,Nat.blt ob.st 2,Nat.beq ob.sz sz with
     |true,true,true=>some (off+k≤ob.n, .sl sz k false (match off with|0=>ob.f|off=>fun j=>ob.f (off+j)),[i])
     |_,_,_=>none
    |none=>none
  | .ptr i sz k o=>match nth H i with
    |some ob=>match ob.pure,Nat.blt ob.st 2,Nat.beq ob.sz sz with
     |true,true,true=>some (k<ob.n∧o≤sz, .ip ((ob.f k).drop o),[i])
     |_,_,_=>none
    |none=>none
  | .agg cs=>match Yf (thaw H n) cs with|some (q,l,u)=>some (q, .agg l,u)|none=>none
  | .tup cs=>match Yf (thaw H n) cs with|some (q,l,u)=>some (q, .tup l,u)|none=>none
  | .fn f xs ys=>match Yf (thaw H n) xs,Yf (thaw H n) ys with|some (q,l,u),some (q',l',u')=>some (q∧q', .fn f l l',u++u')|_,_=>none
  | .iface t x=>match thaw H n x with|some (q,y,u)=>some (q, .iface t y,u)|none=>none
  |a=>some (True,a,[])
theorem Xs {th:AV→Option (Prop×AV×List Nat)} {R:Nat→Prop} (hth: ∀{a:AV} {q:Prop} {y:AV} {u:List Nat},th a=some (q,y,u)→ ∀i∈u,R i): ∀{l:List AV} {q:Prop} {ys:List AV} {u:List Nat},Yf th l=some (q,ys,u)→ ∀i∈u,R i
 |[],q,ys,u,h,i,hi=>by
  simp only [Yf] at h;injection h with h;injection h with _ h;injection h with e1 e2;subst e1 e2;cases hi
 |a::l,q,ys,u,h,i,hi=>by
  simp only [Yf] at h;split at h
  ·rename_i h1 h2;injection h with h;injection h with _ h;injection h with e1 e2;subst e1 e2
   exact (List.mem_append.1 hi).elim (hth h1 i) (Xs hth h2 i)
  ·cases h
theorem XI: ∀(n:Nat) {a:AV} {q:Prop} {y:AV} {u:List Nat},thaw H n a=some (q,y,u)→ ∀i∈u,∃ob,H[i]?=some ob∧ob.st<2
 |0,a,q,y,u,h,i,hi=>by cases h
 |n+1,a,q,y,u,h,i,hi=>by
  cases a <;>simp only [thaw] at h
  case row=>
   split at h
   ·rename_i ob hob;split at h
    ·rename_i h1 h2 h3;injection h with h;injection h with _ h;injection h with e1 e2;subst e1 e2
     obtain rfl:=List.mem_singleton.1 hi;rw [zH] at hob;exact ⟨ob,hob,Nat.blt_eq▸h2⟩
    ·cases h
   ·cases h
  case ptr=>
   split at h
   ·rename_i ob hob;split at h
    ·rename_i h1 h2 h3;injection h with h;injection h with _ h;injection h with e1 e2;subst e1 e2
     obtain rfl:=List.mem_singleton.1 hi;rw [zH] at hob;exact ⟨ob,hob,Nat.blt_eq▸h2⟩
    ·cases h
   ·cases h
  case agg=>
   split at h
   ·rename_i h1;injection h with h;injection h with _ h;injection h with e1 e2;subst e1 e2
    exact Xs (R:=fun i=> ∃ob,H[i]?=some ob∧ob.st<2) (XI n) h1 i hi
   ·cases h
  case tup=>
   split at h
   ·rename_i h1;injection h with h;injection h with _ h;injection h with e1 e2;subst e1 e2
    exact Xs (R:=fun i=> ∃ob,H[i]?=some ob∧ob.st<2) (XI n) h1 i hi
   ·cases h
  case fn=>
   split at h
   ·rename_i h1 h2;injection h with h;injection h with _ h;injection h with e1 e2;subst e1 e2
    exact (List.mem_append.1 hi).elim (Xs (R:=fun i=> ∃ob,H[i]?=some ob∧ob.st<2) (XI n) h1 i) (Xs (R:=fun i=> ∃ob,H[i]?=some ob∧ob.st<2) (XI n) h2 i)
   ·cases h
  case iface=>
   split at h
   ·rename_i h1;injection h with h;injection h with _ h;injection h with e1 e2;subst e1 e2
    exact XI n h1 i hi
   ·cases h
  all_goals (injection h with h;injection h with _ h;injection h with e1 e2;subst e1 e2;cases hi)
def Less (O:Nat→Prop) (μ:Mu) (used:List Nat) (b:Nat):Prop:=O b∧ ∀i∈used,∀m,μ i≠some (some (b,m))
theorem Less.anti {O:Nat→Prop} {u u':List Nat} (h: ∀i∈u',i∈u) {b:Nat} (hb:Less O μ u b):Less O μ u' b:=⟨hb.1,fun i hi m=>hb.2 i (h i hi) m⟩
theorem RV.less {ν ν':Mu} {u u':List Nat} {a:AV} {v:Value} (h:RV (Less O μ u') w ν a v) (hu: ∀i∈u',i∈u) (hn: ∀i l,ν i=some l→ν' i=some l):RV (Less O μ u) w ν' a v:=h.mono (fun b _ hb=>hb.anti hu) (fun _ _ _=>rfl) _ hn
theorem Xk {th:AV→Option (Prop×AV×List Nat)} (hth: ∀{a:AV} {q:Prop} {y:AV} {u:List Nat},th a=some (q,y,u)→q→ ∀{v:Value},RV (OO X H μ) w μ a v→RV (Less (OO X H μ) μ u) w noMu y v):
 ∀{l:List AV} {q:Prop} {ys:List AV} {u:List Nat},Yf th l=some (q,ys,u)→q→ ∀{vs:List Value},RVs (OO X H μ) w μ l vs→RVs (Less (OO X H μ) μ u) w noMu ys vs
 |[],q,ys,u,h,hq,vs,hv=>by
  simp only [Yf] at h;injection h with h;injection h with _ h;injection h with e1 e2;subst e1 e2;obtain rfl:=hv.unnil;exact .nil
 |a::l,q,ys,u,h,hq,vs,hv=>by
  simp only [Yf] at h;split at h
  ·rename_i q1 x u1 q2 xs u2 h1 h2;injection h with h;injection h with e0 h;injection h with e1 e2;subst e0 e1 e2
   obtain ⟨v,us,rfl,g1,g2⟩:=hv.uncons;have r1:=hth h1 hq.1 g1;have r2:=Xk hth h2 hq.2 g2;exact .cons (r1.less (fun i hi=>List.mem_append.2 (.inl hi)) fun _ _ h=>h) ⟨r2.1,fun j a v ha hv=>(r2.2 j a v ha hv).less (fun i hi=>List.mem_append.2 (.inr hi)) fun _ _ h=>h⟩
  ·cases h
theorem XN (hH:HRel μ X H w): ∀(n:Nat) {a:AV} {q:Prop} {y:AV} {u:List Nat},thaw H n a=some (q,y,u)→q→ ∀{v:Value},RV (OO X H μ) w μ a v→RV (Less (OO X H μ) μ u) w noMu y v
 |0,a,q,y,u,h,_,v,_=>by cases h
 |n+1,a,q,y,u,h,hq,v,hv=>by
  have same: ∀{a:AV} {v:Value},RV (OO X H μ) w noMu a v→RV (Less (OO X H μ) μ []) w noMu a v:=fun h=>h.mono (fun b _ hb=>hb.1) (fun _ _ _=>rfl) _ fun _ _ h=>h
  have ih:=fun {a:AV} {q:Prop} {y:AV} {u:List Nat} (h:thaw H n a=some (q,y,u)) (hq:q) {v:Value} (hv:RV (OO X H μ) w μ a v)=>XN hH n h hq hv
  cases hv with
  |junk=>simp only [thaw] at h;injection h with h;injection h with _ h;injection h with e1 e2;subst e1 e2;exact .junk _
  |lit=>simp only [thaw] at h;injection h with h;injection h with _ h;injection h with e1 e2;subst e1 e2;exact .lit _
  |arr a1 a2 a3 a4=>simp only [thaw] at h;injection h with h;injection h with _ h;injection h with e1 e2;subst e1 e2;exact same (.arr a1 a2 a3 a4)
  |sl a0 a1 a2 a3 a4 a5 a6 a7 a8=>simp only [thaw] at h;injection h with h;injection h with _ h;injection h with e1 e2;subst e1 e2;exact same (.sl a0 a1 a2 a3 a4 a5 a6 a7 a8)
  |ip a1 a2 a3 a4 a5=>simp only [thaw] at h;injection h with h;injection h with _ h;injection h with e1 e2;subst e1 e2;exact same (.ip a1 a2 a3 a4 a5)
  |ptr hm=>
   rename_i i sz k o b mb;simp only [thaw] at h;split at h
   ·rename_i ob hob;split at h
    ·rename_i hpu hst hsz;injection h with h;injection h with e0 h;injection h with e1 e2;subst e0 e1 e2
     rw [Nat.blt_eq] at hst;obtain rfl:=ZD hsz;obtain ⟨hz,cur,hin⟩:=hH.at_ hob hst hm;obtain ⟨vs,g1,g2,g3,g4⟩:=qW hz hin hq.1;rw [hpu] at g1;have g5:=g1.drop o;refine .ip g5.1 (fun j a v ha hv=>(g5.2 j a v ha hv).mono (fun b _ hb=>hb.1) (fun _ _ _=>rfl) _ fun _ _ h=>h) (fun hb=>hb.2 i (by simp) mb hm) (hH.lt i b mb hm).1 fun j u hu=> ?_
     rw [cell_of_row w b _ cur ob.T (0,0) hin.blk,Nat.add_assoc];exact g3 _ u (by simpa using hu)
    ·cases h
   ·cases h
  |agg h1 h2=>
   simp only [thaw] at h;split at h
   ·rename_i q1 l u1 hl;injection h with h;injection h with e0 h;injection h with e1 e2;subst e0 e1 e2
    have:=Xk ih hl hq ⟨h1,h2⟩
    exact .agg this.1 this.2
   ·cases h
  |tup h1 h2=>
   simp only [thaw] at h;split at h
   ·rename_i q1 l u1 hl;injection h with h;injection h with e0 h;injection h with e1 e2;subst e0 e1 e2
    have:=Xk ih hl hq ⟨h1,h2⟩
    exact .tup this.1 this.2
   ·cases h
  |fn h1 h2 h3 h4=>
   simp only [thaw] at h;split at h
   ·rename_i q1 l u1 q2 l2 u2 hl hl2;injection h with h;injection h with e0 h;injection h with e1 e2;subst e0 e1 e2
    have r1:=Xk ih hl hq.1 ⟨h1,h2⟩;have r2:=Xk ih hl2 hq.2 ⟨h3,h4⟩;exact .fn r1.1 (fun j a v ha hv=>(r1.2 j a v ha hv).less (fun i hi=>List.mem_append.2 (.inl hi)) fun _ _ h=>h) r2.1 (fun j a v ha hv=>(r2.2 j a v ha hv).less (fun i hi=>List.mem_append.2 (.inr hi)) fun _ _ h=>h)
   ·cases h
  |iface ht h1=>
   simp only [thaw] at h;split at h
   ·rename_i q1 l u1 hl;injection h with h;injection h with e0 h;injection h with e1 e2;subst e0 e1 e2
    exact .iface ht (ih hl hq h1)
   ·cases h
  |mapv h1=>
   simp only [thaw] at h;split at h
   ·rename_i q1 l u1 hl;injection h with h;injection h with e0 h;injection h with e1 e2;subst e0 e1 e2
    exact .mapv (ih hl hq h1)
   ·cases h
  |rowNil hm hc=>
   simp only [thaw] at h;split at h
   ·rename_i ob hob;split at h
    ·rename_i hpu hst hsz;injection h with h;injection h with e0 h;injection h with e1 e2;subst e0 e1 e2
     rw [Nat.blt_eq] at hst;have hz:0<ob.sz:=by rw [zH] at hob;exact (hH.obj _ ob hob hst).1
     exact .sl (vs:=[]) (by simp) (Nat.le_refl _) (by unfold maxLen;omega) (fun h=>by cases h) (by simp) (fun k hk=>by omega) (fun k j a v hk=>by omega) (by rw [←ZD hsz];exact hz) fun h=>(h rfl).elim
    ·cases h
   ·cases h
  |rowE hm hc ho=>
   simp only [thaw] at h;split at h
   ·rename_i ob hob;split at h
    ·rename_i hpu hst hsz;injection h with h;injection h with e0 h;injection h with e1 e2;subst e0 e1 e2
     rw [Nat.blt_eq] at hst;have hz:0<ob.sz:=by rw [zH] at hob;exact (hH.obj _ ob hob hst).1
     exact .sl (vs:=[]) (by simp) (Nat.le_refl _) (by unfold maxLen;omega) (fun h=>by cases h) (by simp) (fun k hk=>by omega) (fun k j a v hk=>by omega) (by rw [←ZD hsz];exact hz) fun h=>(h rfl).elim
    ·cases h
   ·cases h
  |row hm hn hc hcap hend=>
   rename_i i sz off k b mb c cap;simp only [thaw] at h;split at h
   ·rename_i ob hob;split at h
    ·rename_i hpu hst hsz;injection h with h;injection h with e0 h;injection h with e1 e2;subst e0 e1 e2
     rw [Nat.blt_eq] at hst;obtain rfl:=ZD hsz;obtain ⟨hz,cur,hin⟩:=hH.at_ hob hst hm;have hg: ∀j,(match off with|0=>ob.f|off=>fun j=>ob.f (off+j)) j=ob.f (off+j):=fun j=>by cases off <;>simp
     have hsz:(off+k)*ob.sz≤cur.size:=by rw [hin.size];exact Nat.mul_le_mul_right _ (by have:=hin.nle;omega)
     rw [Nat.add_mul] at hsz;have hl:((cur.toList.drop (off*ob.sz)).take (k*ob.sz)).length=k*ob.sz:=by simp;omega
     have hget: ∀(k' j:Nat) v,k'<k→j<ob.sz→((cur.toList.drop (off*ob.sz)).take (k*ob.sz))[k'*ob.sz+j]?=some v→cur[(off+k')*ob.sz+j]?=some v:=by
      intro k' j v hk hj hv;rw [List.getElem?_take] at hv;split at hv
      ·rw [Nat.add_mul,Nat.add_assoc];simpa using hv
      ·cases hv
     refine .sl (vs:=(cur.toList.drop (off*ob.sz)).take (k*ob.sz)) (fun u hu=> ?_) hn (by have:=hin.le;omega) (fun h=>by cases h) hl (fun k' hk'=>by rw [hg];exact hin.flen _ (by omega)) (fun k' j a v hk' ha hv=> ?_) hz fun hk0=>⟨b,off*ob.sz,rfl,fun hb=>hb.2 i (by simp) mb hm,fun j u hu=> ?_⟩
     ·obtain ⟨p,hp⟩:=List.getElem?_of_mem hu;have hlt:p<k*ob.sz:=by rw [←hl];exact (List.getElem?_eq_some_iff.1 hp).1
      have hd:=Nat.div_add_mod p ob.sz;have hmod:=Nat.mod_lt p hz;have hlt2:p / ob.sz<k:=Nat.div_lt_of_lt_mul (by rw [Nat.mul_comm];exact hlt)
      exact hin.one (off+p / ob.sz) (p % ob.sz) u (by omega) hmod (hget _ _ u hlt2 hmod (by rw [show p / ob.sz*ob.sz+p % ob.sz=p by rw [Nat.mul_comm];exact hd];exact hp))
     ·rw [hg] at ha;have hj:j<ob.sz:=by rw [←hin.flen (off+k') (by omega)];exact (List.getElem?_eq_some_iff.1 ha).1
      have:=hin.cell (off+k') j a v (by omega) ha (hget k' j v hk' hj hv)
      rw [hpu] at this;exact this.mono (fun b _ hb=>hb.1) (fun _ _ _=>rfl) _ fun _ _ h=>h
     ·rw [cell_of_row w b _ cur ob.T (0,0) hin.blk];rw [List.getElem?_take] at hu;split at hu
      ·simpa using hu
      ·cases hu
    ·cases h
   ·cases h
def Z' (used:List Nat):Nat→List zb→List zb
 |_,[]=>[]
 |k,o::l=>(match used.any (Nat.beq k) with|true=>{o with st:=max o.st 1}|false=>o)::Z' used (k+1) l
theorem WK (used:List Nat): ∀(l:List zb) (k i:Nat),(Z' used k l)[i]?=(l[i]?).map fun o=>match used.any (Nat.beq (k+i)) with|true=>{o with st:=max o.st 1}|false=>o
 |[],k,i=>by simp [Z']
 |o::l,k,0=>by simp [Z']
 |o::l,k,i+1=>by
  simp only [Z',List.getElem?_cons_succ];rw [WK used l (k+1) i,show k+1+i=k+(i+1) by omega]
theorem YT (used:List Nat): ∀(l:List zb) (k:Nat),(Z' used k l).length=l.length
 |[],k=>rfl
 |o::l,k=>by simp [Z',YT used l (k+1)]
abbrev sh (n:Nat):Nat→Option Nat:=fun i=>some (i+n)
theorem APure.at_ {f:FuncId} {args args':List AV} {r:AV} {N:List zb} (h:APure P f args' r N) {q:Prop} {used:List Nat} (ht:Yf (thaw H 4) args=some (q,args',used)) (hq:q):
 ACall P f args H fun r' H' fg=>r'=ren (sh H.length) 4 r∧H'=Z' used 0 H++N.map (Z4 (sh H.length))∧fg=[]:=by
 intro w X μ vs hH hv;have hargs:=Xk (XN hH 4) ht hq hv
 have hX1: ∀b,Less (OO X H μ) μ used b→b<w.heap.size:=by
  rintro b ⟨hx|⟨i,o,m,hi,hs,hm⟩,_⟩
  ·exact hH.xlt b hx
  ·exact (hH.lt i b m hm).1
 have hH0:HRel noMu (Less (OO X H μ) μ used) [] w:=⟨fun i l h=>(by cases h),fun i j b m m' h=>(by cases h),fun i b m h=>(by cases h),fun i o h=>(by simp at h),hX1,hH.gl.step (Nat.le_refl _) (fun _ _ _ _=>rfl) (fun b hb=>hb.1.elim .inl fun ⟨i,o,m,_,_,hm⟩=> .inr (.inl ⟨i,m,hm⟩)) fun i b m h=>(by cases h), .none fun o h=>(by cases h)⟩
 have hoo0: ∀b,OO (Less (OO X H μ) μ used) [] noMu b↔Less (OO X H μ) μ used b:=fun b=>⟨fun hb=>hb.elim id fun ⟨i,o,m,hi,_⟩=>(by simp at hi),fun hb=> .inl hb⟩
 refine (h w (Less (OO X H μ) μ used) noMu vs hH0 ⟨hargs.1,fun j a v ha hv=>(hargs.2 j a v ha hv).mono (fun b _ hb=>(hoo0 b).1 hb) (fun _ _ _=>rfl) _ fun _ _ h=>h⟩).mono fun e w' he=> ?_
 obtain ⟨v,r',H1,fg1,μ1,rfl,⟨rfl,rfl⟩,g1,g2,g3,g4,_,_⟩:=he;have hb:Below w.heap.size w w':=g3.below
 let μ':Mu:=fun i=>if i<H.length then μ i else μ1 (i - H.length)
 have hmu: ∀i l,μ i=some l→μ' i=some l:=fun i l hi=>by simp only [μ'];rw [if_pos (hH.dom i l hi)];exact hi
 have hmu1: ∀i l,μ1 i=some l→μ' (i+H.length)=some l:=fun i l hi=>by simp only [μ'];rw [if_neg (by omega)];simpa using hi
 have hnew: ∀i b m,μ1 i=some (some (b,m))→w.heap.size≤b:=fun i b m hi=>by
  rcases g4 i b m hi with ⟨j,m',hj⟩|h
  ·cases hj
  ·exact h
 have hext:Ext μ w μ':=fun i b m hi=>by
  simp only [μ'] at hi;split at hi
  ·exact .inl ⟨i,m,hi⟩
  ·exact .inr (hnew _ b m hi)
 let H2:List zb:=Z' used 0 H++H1.map (Z4 (sh H.length))
 have hobj: ∀i o,H2[i]?=some o→(∃o1,i<H.length∧H[i]?=some o1∧o=(match used.any (Nat.beq i) with|true=>{o1 with st:=max o1.st 1}|false=>o1))∨ ∃o1,H.length≤i∧H1[i - H.length]?=some o1∧o=Z4 (sh H.length) o1:=by
  intro i o hi;by_cases hlt:i<H.length
  ·left
   rw [List.getElem?_append_left (by rw [YT];exact hlt),WK] at hi;simp only [Option.map_eq_some_iff,Nat.zero_add] at hi;obtain ⟨o1,h1,h2⟩:=hi;exact ⟨o1,hlt,h1,h2.symm⟩
  ·right
   rw [List.getElem?_append_right (by rw [YT];omega),YT] at hi;simp only [List.getElem?_map,Option.map_eq_some_iff] at hi;obtain ⟨o1,h1,h2⟩:=hi;exact ⟨o1,by omega,h1,h2.symm⟩
 have hooEq: ∀b,OO X H2 μ' b→OO (Less (OO X H μ) μ used) H1 μ1 b:=by
  rintro b (hx|⟨i,o,m,hi,hs,hm⟩)
  ·exact .inl ⟨.inl hx,fun i hi m hm=>(hH.lt i b m hm).2 hx⟩
  ·rcases hobj i o hi with ⟨o1,hlt,h1,h2⟩|⟨o1,hge,h1,rfl⟩
   ·simp only [μ'] at hm;rw [if_pos hlt] at hm;left
    have hnu:used.any (Nat.beq i)=false:=by
     cases hc:used.any (Nat.beq i) with
     |false=>rfl
     |true=>
      rw [hc] at h2;simp only at h2;rw [h2] at hs;obtain ⟨i',hi',he'⟩:=List.any_eq_true.1 hc;have he':i=i':=Nat.eq_of_beq_eq_true he'
      subst he';obtain ⟨ob,ho1,ho2⟩:=Xs (R:=fun i=> ∃ob,H[i]?=some ob∧ob.st<2) (XI 4) ht i hi';rw [h1] at ho1;injection ho1 with ho1;subst ho1;simp only at hs;omega
    rw [hnu] at h2;simp only at h2;subst h2;refine ⟨.inr ⟨i,o,m,h1,hs,hm⟩,fun k hk m' hm'=> ?_⟩;have:=hH.inj _ _ _ _ _ hm hm'
    subst this;have:used.any (Nat.beq i)=true:=List.any_eq_true.2 ⟨i,hk,by simp⟩
    rw [hnu] at this;cases this
   ·simp only [μ'] at hm;rw [if_neg (by omega)] at hm;exact .inr ⟨i - H.length,o1,m,h1,by rw [←(YX (sh H.length) o1).1];exact hs,hm⟩
 have hsh: ∀i j l,sh H.length i=some j→μ1 i=some l→μ' j=some l:=fun i j l hi hm=>by
  simp only [sh] at hi;injection hi with hi;subst hi;exact hmu1 i l hm
 have hold: ∀{ν ν':Mu} {a:AV} {v:Value},RV (OO X H μ) w ν a v→(∀i l,ν i=some l→ν' i=some l)→RV (OO X H2 μ') w' ν' a v:=fun hr hn=>hr.mono (fun b hlt hb'=>by
  rcases hooEq b hb' with h|⟨i,o,m,_,_,hm⟩
  ·exact h.1
  ·have:=hnew i b m hm;omega) (fun b hlt _=>hb.block b hlt) _ hn
 refine ⟨v,_,H2,[],μ',rfl,⟨rfl,rfl,rfl⟩,⟨fun i l hi=> ?_,fun i j b m m2 hi hj=> ?_,fun i b m hi=> ?_,fun i o hi hs=> ?_,fun b hx=>Nat.lt_of_lt_of_le (hH.xlt b hx) hb.size,hH.gl.step hb.size (fun b hlt _ _=>hb.block b hlt) (fun _ h=> .inl h) fun i b m hi=>(hext i b m hi).imp (fun h=>h) .inr,fun i o hi=> ?_⟩,Vl hsh (fun b _ hb'=>hooEq b hb') (fun _ _ _=>rfl) 4 g2, .of_below hb,hext,by simp [H2,YT],fun k x u _ hx=> ?_⟩
 ·simp only [μ'] at hi;split at hi
  ·simp [H2,YT] <;>omega
  ·have:=g1.dom _ _ hi
   simp [H2,YT] <;>omega
 ·simp only [μ'] at hi hj;split at hi <;>split at hj
  ·exact hH.inj _ _ _ _ _ hi hj
  ·have:=(hH.lt i b m hi).1;have:=hnew _ b m2 hj;omega
  ·have:=(hH.lt j b m2 hj).1;have:=hnew _ b m hi;omega
  ·have:=g1.inj _ _ _ _ _ hi hj;omega
 ·simp only [μ'] at hi;split at hi
  ·have:=hH.lt i b m hi;exact ⟨Nat.lt_of_lt_of_le this.1 hb.size,this.2⟩
  ·have:=hnew _ b m hi
   exact ⟨(g1.lt _ b m hi).1,fun hx=>by have:=hH.xlt b hx;omega⟩
 ·rcases hobj i o hi with ⟨o1,hlt,h1,h2⟩|⟨o1,hge,h1,rfl⟩
  ·have hst:o1.st<2:=by
    split at h2 <;>rw [h2] at hs
    ·simp at hs;omega
    ·exact hs
   have hat:=hH.obj i o1 h1 hst
   have hfin:ObjAt (OO X H2 μ') w' μ' i o1:=hat.mono (fun b hlt hb'=>by
    rcases hooEq b hb' with h|⟨i,o,m,_,_,hm⟩
    ·exact h.1
    ·have:=hnew i b m hm;omega) (fun b hlt _=>hb.block b hlt) hmu fun b m hm=>hb.block b (hH.lt i b m hm).1
   split at h2 <;>rw [h2]
   ·obtain ⟨hz,hc⟩:=hfin;refine ⟨hz,hc.imp (fun h=>h) fun ⟨b,m,cur,e1,e2⟩=>⟨b,m,cur,e1,⟨e2.blk,e2.size,e2.le,e2.nle,e2.one,e2.flen,e2.cell⟩⟩⟩
   ·exact hfin
  ·have hat:=g1.obj _ o1 h1 (by rw [←(YX (sh H.length) o1).1];exact hs);exact Jz hsh (fun b _ hb'=>hooEq b hb') (fun _ _ _=>rfl) hat (fun l hl=>by have:=hmu1 _ l hl;rwa [Nat.sub_add_cancel hge] at this) fun _ _ _=>rfl
 ·rcases hobj i o hi with ⟨o1,hlt,h1,h2⟩|⟨o1,hge,h1,rfl⟩
  ·by_cases hs3:o.st<3
   ·exact .inr hs3
   have hsm:MapSame o1 o:=by
    split at h2
    ·subst h2;simp only at hs3;exact ⟨by simp only;omega,rfl,rfl,fun _ _=>rfl,rfl⟩
    ·subst h2;exact .refl _
   exact (hH.mp i o1 h1).mono (fun b hlt hb'=>by
    rcases hooEq b hb' with h|⟨i,o,m,_,_,hm⟩
    ·exact h.1
    ·have:=hnew i b m hm;omega) (fun b hlt _=>hb.block b hlt) hsm (hmu i) fun b m hm=>hb.block b (hH.lt i b m hm).1
  ·by_cases hs3:o1.st<3
   ·exact .inr (by rw [(YX (sh H.length) o1).1];exact hs3)
   rw [Kn _ g1.mp h1 (by omega)];exact (g1.mp _ o1 h1).mono (fun b _ hb'=>hooEq b hb') (fun _ _ _=>rfl) (.refl _) (fun l hl=>by have:=hmu1 _ l hl;rwa [Nat.sub_add_cancel hge] at this) fun _ _ _=>rfl
 ·exact hold hx (xd hmu)
section
variable {r:Option Nat} {l R:List Oper} {Q:Exit→St→Prop} {σ:St} {o:Oper}
theorem TB (hw:zS l σ o=some true) {fo:Operand} {ao:List Operand} {ts:Array TypeId} (ho:o.op= .call {callee:= .value fo,args:=ao.toArray,argTypes:=ts}) {f:FuncId} {fa ca:List AV} (hf:σ.ev fo= .fn (.func f) fa ca)
 {fn : Func} {c : Code} (hfn : P.funcs[f]? = some fn) (hnm : (fn.name == "runtime.NumGoroutine") = false) (hb : fn.body = some c) {q : Prop} {args' : List AV} {used : List Nat} (ht : Yf (thaw σ.H 4) (fa ++ ao.map σ.ev ++ ca) = some (q, args', used)) (hq : q)
 {x:AV} {N:List zb} (h:APure P f args' x N) (next:AL P r l Q R (St.put ⟨σ.s,Z' used 0 σ.H++N.map (Z4 (sh σ.H.length)),σ.fg,σ.nb⟩ o.dst (ren (sh σ.H.length) 4 x))):AL P r l Q (o::R) σ:=by
 refine Pc hw ho hf hfn hnm hb (h.at_ ht hq) fun y H' fg hK=> ?_
 obtain ⟨rfl,rfl,rfl⟩:=hK
 have e:σ.s.map (fgs (fgk σ.H.length []))=σ.s:=by
  have:(fgs (fgk σ.H.length []):AV→AV)=fun x=>x:=rfl
  rw [this];simp
 rw [e,show fgk σ.nb.n []=[] from rfl,List.append_nil];exact next
end
theorem zfb (hT:zI P tab) {f:FuncId} {fn:Func} {c:Code} (hf:P.funcs[f]?=some fn) (hb:fn.body=some c) {args:List AV} {x:AV} {N:List zb}
 (h:AW P none c (zU tab fn.results.toList fun r' H' _=>r'=x∧H'=N) ⟨args++List.replicate (fn.ntmps - args.length) (.lit undef),[],[],⟨0,0,false,none,true⟩⟩):APure P f args x N:=T' hT hf hb h
end
section
variable {P:Program} {tab:Tab} {X:Nat→Prop} {H H':List zb} {μ μ':Mu} {w w':World} {O O':Nat→Prop} {r:Option Nat} {l R:List Oper} {Q:Exit→St→Prop} {σ:St} {o:Oper}
def ziQ:AV→Option Nat
 | .sl _ n _ _=>some n
 | .row _ _ _ n _=>some n
 | .lit (.slice none 0 0)=>some 0
 |_=>none
theorem zf2 {x:AV} {n:Nat} (h:ziQ x=some n) {v:Value} (hv:RV O w μ x v): ∃A c,v= .slice A n c∧(A=none→n=0):=by
 unfold ziQ at h;split at h <;>first|(cases h;done)|(injection h with h;subst h)
 ·cases hv with
  |sl a0 a1 a2 a3 a4 a5 a6 a7 a8=>
   refine ⟨_,_,rfl,fun hA=> ?_⟩;refine Classical.byContradiction fun h=> ?_
   obtain ⟨g,o,he,_⟩:=a8 h;rw [hA] at he;cases he
 ·cases hv with
  |rowNil=>exact ⟨_,_,rfl,fun _=>rfl⟩
  |row=>exact ⟨_,_,rfl,fun h=>by cases h⟩
  |rowE=>exact ⟨_,_,rfl,fun _=>rfl⟩
 ·cases hv;exact ⟨_,_,rfl,fun _=>rfl⟩
def kB (tab:Tab) (t:TypeId):Bool:=match tab t with|some i=>(match i.k with| .slice _=>true|_=>false)|none=>false
theorem k9 (hT:zI P tab) {t:TypeId} (h:kB tab t=true): ∃e,P.underlying t=some (.slice e):=by
 unfold kB at h;split at h
 ·rename_i i hi;have hu:=(hT _ _ hi).und
  split at h
  ·rename_i e hk;rw [hk] at hu;exact ⟨e,hu⟩
  ·cases h
 ·cases h
def zkq (op:BinOp) (b:Bool):Bool:=match op with| .eql=>b|_=> !b
theorem jz (hT:zI P tab) (hw:zS l σ o=some true) {op:BinOp} {t yt:TypeId} {x:Operand} (ho:o.op= .binOp op t x (.const (.slice none 0 0)) yt) (hop:op= .eql∨op= .neq) (ht:kB tab t=true) {n:Nat} (hx:ziQ (σ.ev x)=some n)
 (next: ∀b:Bool,(b=true→n=0)→AL P r l Q R (σ.put o.dst (.lit (.bool (zkq op b))))):AL P r l Q (o::R) σ:=by
 intro B μ a w hr;obtain ⟨A,c,hv,hA⟩:=zf2 hx (hr.ev x);obtain ⟨e,hu⟩:=k9 hT ht
 have heq:(Op.equal t (.slice A n c) (.slice none 0 0)).run P w= .ok A.isNone w:=by
  show (Op.equalIn (9999+1) t (.slice A n c) (.slice none 0 0)).run P w=_
  rw [Op.equalIn,Sem.run_bind,run_underlying hu];cases A <;>rfl
 have hrun:(execOp a.eval o).run P w= .ok (.value (.bool (zkq op A.isNone))) w:=by
  have hex:execOp a.eval o=(do pure (.value (←(do eqGuard op t x (.const (.slice none 0 0)) (a.eval x) (.slice none 0 0);binOp op t (a.eval x) (.slice none 0 0)))):Sem Next):=by
   simp only [execOp,ho];rfl
  rw [hex,hv];rcases hop with rfl|rfl <;>simp [eqGuard,binOp,heq,zkq]
 unfold wpListIn;rw [if_pos (Y9 hw hr)];refine ⟨fun f _=>QZ r f, ?_⟩;rw [Oper.semAt_eq _ _ _ (fun c hc=>by rw [ho] at hc;cases hc),hrun];exact next A.isNone (fun h=>hA (by simpa using h)) B μ _ w (hr.put (.lit _) o.dst)
theorem AV.Le.nil {sz n:Nat} {f:Nat→List AV} (hn:n=0) (hz:Nat.blt 0 sz=true):AV.Le (.lit (.slice none 0 0)) (.sl sz n false f):=by
 intro O w μ v hv;rw [Nat.blt_eq] at hz;subst hn;rw [hv.lit_eq];exact .sl (vs:=[]) (by simp) (Nat.le_refl _) (by unfold maxLen;omega) (fun h=>by cases h) (by simp) (fun k hk=>by omega) (fun k j a v hk=>by omega) hz fun h=>(h rfl).elim
theorem uT {used:List Nat} {H:List zb} {w:World} {μ:Mu} {i:Nat} {o':zb} (hi:(Z' used 0 H)[i]?=some o') (hs:3≤o'.st): ∃j o,H[j]?=some o∧MapSame o o'∧(∀l,μ j=some l→μ i=some l)∧ ∀b m,μ j=some (some (b,m))→w.heap[b]?=w.heap[b]?:=by
 rw [WK] at hi;simp only [Option.map_eq_some_iff,Nat.zero_add] at hi;obtain ⟨o1,h1,h2⟩:=hi;refine ⟨i,o1,h1, ?_,fun _ h=>h,fun _ _ _=>rfl⟩;split at h2
 ·subst h2;simp only at hs;exact ⟨by simp only;omega,rfl,rfl,fun _ _=>rfl,rfl⟩
 ·subst h2;exact .refl _
theorem Tells.thaw {t:Nat} {x y:AV} {q:Prop} {used:List Nat} (hx:nth σ.s t=some x) (h:thaw σ.H 4 x=some (q,y,used)) (hq:q):Tells σ ⟨setn σ.s t y,Z' used 0 σ.H,σ.fg,σ.nb⟩:=by
 intro P B μ a w hr
 have hoo: ∀b,OO B.X (Z' used 0 σ.H) μ b→Less (OO B.X σ.H μ) μ used b:=by
  rintro b (hb|⟨i,o,m,hi,hs,hm⟩)
  ·exact ⟨.inl hb,fun i _ m hm=>(hr.H.lt i b m hm).2 hb⟩
  ·rw [WK] at hi;simp only [Option.map_eq_some_iff,Nat.zero_add] at hi;obtain ⟨o1,h1,h2⟩:=hi
   have hnu:used.any (Nat.beq i)=false:=by
    cases hc:used.any (Nat.beq i) with
    |false=>rfl
    |true=>
     rw [hc] at h2;simp only at h2;rw [←h2] at hs;obtain ⟨i',hi',he'⟩:=List.any_eq_true.1 hc;have he':i=i':=Nat.eq_of_beq_eq_true he'
     subst he';obtain ⟨ob,ho1,ho2⟩:=XI 4 h i hi';rw [h1] at ho1;injection ho1 with ho1;subst ho1;simp only at hs;omega
   rw [hnu] at h2;simp only at h2;subst h2;refine ⟨.inr ⟨i,o1,m,h1,hs,hm⟩,fun k hk m' hm'=> ?_⟩;have:=hr.H.inj _ _ _ _ _ hm hm'
   subst this;have:used.any (Nat.beq i)=true:=List.any_eq_true.2 ⟨i,hk,by simp⟩
   rw [hnu] at this;cases this
 have up: ∀{ν:Mu} {a:AV} {v:Value},RV (OO B.X σ.H μ) w ν a v→RV (OO B.X (Z' used 0 σ.H) μ) w ν a v:=fun h=>h.mono (fun b _ hb=>(hoo b hb).1) (fun _ _ _=>rfl) _ fun _ _ h=>h
 refine ⟨μ,by simpa [Zx] using hr.size,fun k z v hz hv=> ?_,⟨fun i l hi=>by simp only [YT];exact hr.H.dom i l hi,hr.H.inj,hr.H.lt,fun i o hi hs=> ?_,hr.H.xlt,hr.H.gl,hr.H.mp.mono (fun b _ hb=>(hoo b hb).1) (fun _ _ _=>rfl) fun i o hi hs=>uT hi hs⟩,hr.df,hr.chg,hr.ext,hr.nb,by simp only [YT];exact hr.le,fun k z v hk hz=>up (hr.pres k z v hk hz)⟩
 ·simp only [Zx] at hz;by_cases he:t=k
  ·subst he;have hlt:t<σ.s.length:=by rw [hr.size];exact (Array.getElem?_eq_some_iff.1 hv).1
   rw [List.getElem?_set_self hlt] at hz;injection hz with hz;subst hz
   rw [zH] at hx;exact ((XN hr.H 4 h hq (hr.slot t x v hx hv)).mono (fun b _ hb=>hoo b hb) (fun _ _ _=>rfl) _ fun _ _ h=>h).up
  ·rw [List.getElem?_set_ne he] at hz;exact up (hr.slot k z v hz hv)
 ·simp only [WK,Option.map_eq_some_iff,Nat.zero_add] at hi;obtain ⟨o1,h1,h2⟩:=hi
  have hst:o1.st<2:=by
   split at h2 <;>rw [←h2] at hs
   ·simp at hs;omega
   ·exact hs
  have hat:=hr.H.obj i o1 h1 hst;have hfin:ObjAt (OO B.X (Z' used 0 σ.H) μ) w μ i o1:=hat.mono (fun b _ hb=>(hoo b hb).1) (fun _ _ _=>rfl) (fun _ _ h=>h) fun _ _ _=>rfl
  split at h2 <;>rw [←h2]
  ·obtain ⟨hz,hc⟩:=hfin;exact ⟨hz,hc.imp (fun h=>h) fun ⟨b,m,cur,e1,e2⟩=>⟨b,m,cur,e1,⟨e2.blk,e2.size,e2.le,e2.nle,e2.one,e2.flen,e2.cell⟩⟩⟩
  ·exact hfin
theorem yG {c:Operand} {x y:Code} (hc:σ.ev c= .lit (.bool true)) (h:AW P r x Q σ):AW P r (.cond c x y) Q σ:=ZJ hc (fun _=>h) (fun h=>by cases h)
theorem yv {c:Operand} {x y:Code} (hc:σ.ev c= .lit (.bool false)) (h:AW P r y Q σ):AW P r (.cond c x y) Q σ:=ZJ hc (fun h=>by cases h) (fun _=>h)
theorem APure.le {f:FuncId} {args args':List AV} {x:AV} {N:List zb} (h:APure P f args' x N) (hl:LeS args args'):APure P f args x N:=fun w X μ vs hH hv=>h w X μ vs hH ⟨hl.len▸hv.1,fun j a v ha hu=>by
 obtain ⟨y,hy,hle⟩:=hl.at_ ha;exact hle _ _ _ _ (hv.2 j y v hy hu)⟩
def Zz:List AV→List Nat→List AV
 |s,[]=>s
 |s,t::ts=>Zz (setn s t .junk) ts
def ZB:List AV→List (Nat×AV)→List AV
 |s,[]=>s
 |s,p::ps=>ZB (setn s p.1 p.2) ps
def lst (s:List AV) (fg:List Nat) (nb:YB) (ws:List Nat) (g:List (Nat×AV)) (H:List zb):St:=⟨ZB (Zz s ws) g,H,fg,nb⟩
theorem qz {c:Code} {ι:Type} {s:List AV} {H0:List zb} {fg:List Nat} {nb:YB} (ws:List Nat) (g:ι→List (Nat×AV)) (Hs:ι→List zb) (m:ι→Nat) (i0:ι) (h0:Tells ⟨s,H0,fg,nb⟩ (lst s fg nb ws (g i0) (Hs i0)))
 (round: ∀i,AW P r c (zF (fun σ'=> ∃j,m j<m i∧Tells σ' (lst s fg nb ws (g j) (Hs j))) Q) (lst s fg nb ws (g i) (Hs i))):AW P r (.loop c) Q ⟨s,H0,fg,nb⟩:=
 H3 (fun i=>lst s fg nb ws (g i) (Hs i)) m i0 h0 round
theorem YD {n:St→Prop} (h:Q .ret σ):zF n Q .ret σ:=h
theorem yI {n:St→Prop} {id:Nat} (h:Q (.exit id) σ):zF n Q (.exit id) σ:=h
theorem xq {id:Nat} (h:Q .ret σ):zh id Q .ret σ:=h
theorem yj {id:Nat} (h:Q .normal σ):zh id Q .normal σ:=h
theorem YA {id id':Nat} (he:Nat.beq id' id=true) (h:Q .normal σ):zh id Q (.exit id') σ:=by simp only [zh,he];exact h
theorem yH {id id':Nat} (he:Nat.beq id' id=false) (h:Q (.exit id') σ):zh id Q (.exit id') σ:=by simp only [zh,he];exact h
theorem ZS {c:Code} {Q':Exit→St→Prop} (h:AW P r c Q σ):zF (AW P r c Q) Q' .normal σ:=h
theorem Z9 {rs:List ResultVar} {K:AV→List zb→List Nat→Prop} {q:Prop} {l:List AV} (h:QA tab σ rs=some (q,l)) (hq:q) (l':List AV) (H':List zb) (ht:Tells ⟨l,σ.H,σ.fg,σ.nb⟩ ⟨l',H',σ.fg,σ.nb⟩) (hk:K (qJ l') H' σ.fg):zU tab rs K .ret σ:=
 ⟨q,l,h,hq,l',H',ht,hk⟩
def ze (P : Program) (f : FuncId) : Prop := ∃ fn c, P.funcs[f]? = some fn ∧ (fn.name == "runtime.NumGoroutine") = false ∧ fn.body = some c
theorem xB (hw:zS l σ o=some true) {fo:Operand} {ao:List Operand} {ts:Array TypeId} (ho:o.op= .call {callee:= .value fo,args:=ao.toArray,argTypes:=ts}) {f:FuncId} {fa ca:List AV} (hf:σ.ev fo= .fn (.func f) fa ca) (hg:ze P f)
 {q:Prop} {args':List AV} {used:List Nat} (ht:Yf (thaw σ.H 4) (fa++ao.map σ.ev++ca)=some (q,args',used)) (hq:q)
 {x:AV} {N:List zb} (h:APure P f args' x N) (next:AL P r l Q R (St.put ⟨σ.s,Z' used 0 σ.H++N.map (Z4 (sh σ.H.length)),σ.fg,σ.nb⟩ o.dst (ren (sh σ.H.length) 4 x))):AL P r l Q (o::R) σ:=by
 obtain ⟨fn,c,h1,h2,h3⟩:=hg;exact TB hw ho hf h1 h2 h3 ht hq h next
theorem ObjLe.of {T sz n n' st:Nat} {f f':Nat→List AV} {p p' bx bx':Bool} (hn:n'≤n) (hp:p'=true→p=true) (hf: ∀k,k<n'→f' k=f k) (hm:3≤st→n'=n∧p'=p:=by intro h;first|exact absurd h (by decide)|exact ⟨rfl,rfl⟩):ObjLe ⟨T,sz,n,f,st,p,bx⟩ ⟨T,sz,n',f',st,p',bx'⟩:=
 ⟨Nat.le_refl _,fun _=>rfl,fun _=>rfl,fun _=>hn,fun _ h=>hp h, .inl ⟨rfl,fun h=>⟨rfl,(hm h).2,(hm h).1,fun k hk=>hf k ((hm h).1▸hk),rfl⟩⟩,fun _ k hk=> .inl (hf k hk)⟩
theorem zbd {c:Operand} {x y:Code} {b:Bool} (hc:σ.ev c= .lit (.bool b)) (hb:b=false) (h:AW P r y Q σ):AW P r (.cond c x y) Q σ:=yv (hb▸hc) h
theorem yJ {id id':Nat} (h:zh id Q (.exit id') σ):zh id Q (.exit id') σ:=h
theorem yX {c:Operand} {x y:Code} (h:AW P r (.cond c x y) Q σ):AW P r (.cond c x y) Q σ:=h
theorem yk (h:AL P r l Q (o::R) σ):AL P r l Q (o::R) σ:=h
theorem LeH.setf: ∀{H:List zb} {i:Nat} {ob:zb} {f':Nat→List AV},H[i]?=some ob→(∀k,k<ob.n→f' k=ob.f k)→LeH H (H.set i {ob with f:=f'})
 |[],i,ob,f',h,_=>by simp at h
 |o::H,0,ob,f',h,hf=>by
  simp at h;subst h
  exact .cons (.of (Nat.le_refl _) (fun h=>h) hf) (.refl _)
 |o::H,i+1,ob,f',h,hf=> .cons (.refl _) (LeH.setf (by simpa using h) hf)
theorem Tells.objf (i:Nat) (f':Nat→List AV) {s:List AV} {H:List zb} {fg:List Nat} {nb:YB} {ob:zb} (h:nth H i=some ob) (hf: ∀k,k<ob.n→f' k=ob.f k):Tells ⟨s,H,fg,nb⟩ ⟨s,setn H i {ob with f:=f'},fg,nb⟩:=by
 rw [Zx];rw [zH] at h;exact Tells.le (.refl _) (LeH.setf h hf)
end
end Go.Proofs.YtgdmkpikkfakdaaGreatDoor
