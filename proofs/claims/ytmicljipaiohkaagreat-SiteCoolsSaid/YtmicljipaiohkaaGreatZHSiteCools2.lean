/- Texts of this work, joined. -/
import Derived.Test.YtmicljipaiohkaaGreatZHSiteCools1
import Derived.WalkMore
import Derived.Laws.BytesArg
import Derived.Deep.LoopGhost
import Derived.Tactics2
import Derived.WalkLawsBesides
import Derived.WalkSpells
import Derived.KernelRfl
import Derived.Deep.QuietTactic
import Derived.BigQuiet
import Derived.Outline
import Derived.Lib.Hide
import Derived.Deep.DeepFit
import Derived.Test.YtmicljipaiohkaaGreatProg
import Derived.Laws.BitsAllLaws
import Derived.Laws.BitsLemmas
import Derived.Deep.RegionHeld3
set_option linter.unusedSimpArgs false
set_option linter.unusedVariables false
set_option maxRecDepth 100000
set_option maxHeartbeats 16000000
namespace Go.Proofs.YtmicljipaiohkaaGreat
open Go Go.RowKit
theorem bstr_eq {a b:ByteArray}:(a.toList==b.toList)=decide (a=b):=by
 rw[ByteArray.toList_eq,ByteArray.toList_eq,Bool.eq_iff_iff,beq_iff_eq,decide_eq_true_iff]
 exact⟨fun h=>ByteArray.ext (Array.ext' h),fun h=>by rw[h]⟩
def byteAt (s:ByteArray)(i:Nat):Int:=((s.data.toList.getD i 0).toNat:Int)
theorem byteAt_get {s:ByteArray}{i:Nat}(h:i < s.size):s[i]? =some (s.data.toList.getD i 0):=by
 have h2:i < s.data.size:=h
 rw[getElem?_pos s i h]
 congr 1
 rw[List.getD_eq_getElem?_getD,Array.getElem?_toList,Array.getElem?_eq_getElem h2]
 rfl
def bytesD:List (List D)→Option (List Int)
 |[]=>some []
 |[.v (.int .u8 n)]::l=>(bytesD l).map (n:: ·)
 |_=>none
theorem bytesD_eq:∀{rows:List (List D)}{xs:List Int},bytesD rows=some xs→rows=xs.map fun n=>[.v (.int .u8 n)]
 |[],xs,h=>by simp[bytesD]at h;subst h;rfl
 |r::rows,xs,h=>by
  unfold bytesD at h
  split at h
  ·rename_i e;cases e
  ·rename_i n l e
   cases e
   cases hb:bytesD rows with
   |none=>rw[hb]at h;cases h
   |some ys=>
    rw[hb]at h
    cases h
    rw[bytesD_eq hb]
    rfl
  ·cases h
section
variable {X:Cfg}{ops:Array Oper}{s:FS}{o:Oper}(hd:∀d,o.dst=some d→d < X.n)
include hd
theorem op_strAdd {t t':Nat}{x y:Operand}{a b:ByteArray}(ho:o.op= .binOp .add t x y t')(hx:ev s x= .d (.v (.string a)))(hy:ev s y= .d (.v (.string b)))(hl:a.size+b.size≤9223372036854775807):
 OpOK X ops s o {pv:= .d (.v (.string (a++b)))}:=
 opok_read hd fun s' he _ ac w c hc=>by
  have h1:=ev_v' hc ((he x (by simp[ho,Op.operands])).trans hx)
  have h2:=ev_v' hc ((he y (by simp[ho,Op.operands])).trans hy)
  have hr:=run_string_add_sum (P:=X.P) w a b (by omega)
  refine⟨.string (a++b),?_,.d _ _ (.v _)⟩
  simp[execOp,ho,h1,h2,eqGuard,binOp,hr]
theorem op_strEq {op:BinOp}{t t':Nat}{x y:Operand}{a b:ByteArray}{r:Bool}(ho:o.op= .binOp op t x y t')(hx:ev s x= .d (.v (.string a)))(hy:ev s y= .d (.v (.string b)))(hr:(op= .eql∧r=decide (a=b))∨(op= .neq∧r=!decide (a=b))):
 OpOK X ops s o {pv:= .d (.v (.bool r))}:=
 opok_read hd fun s' he _ ac w c hc=>by
  have h1:=ev_v' hc ((he x (by simp[ho,Op.operands])).trans hx)
  have h2:=ev_v' hc ((he y (by simp[ho,Op.operands])).trans hy)
  refine⟨.bool r,?_,.d _ _ (.v _)⟩
  rcases hr with⟨rfl,rfl⟩|⟨rfl,rfl⟩<;>simp[execOp,ho,h1,h2,eqGuard,binOp,Op.stringOp,bstr_eq]
theorem op_strLen {t:Nat}{x:Operand}{a:ByteArray}{ti:TI}(ho:o.op= .call {callee:= .builtin .len,args:=#[x],argTypes:=#[t]})(ht:tcheck X.P t=some ti)(hk:ti.kind=2)(hx:ev s x= .d (.v (.string a))):
 OpOK X ops s o {pv:= .d (.v (.int .i64 a.size))}:=
 opok_read hd fun s' he _ ac w c hc=>by
  have h1:=ev_v' hc ((he x (by simp[ho,Op.operands,Call.operands])).trans hx)
  obtain⟨i,d,z,tk⟩:=tck ht
  have hde:d= .string:=by
   have:=tk.kind
   rw[hk]at this
   cases d<;>simp[kindD]at this
   rfl
  subst hde
  refine⟨.int .i64 a.size,?_,.d _ _ (.v _)⟩
  simp[execOp,ho,h1,resolve,invoke,builtin,Builtin.len_,run_underlying tk.und,goInt]
theorem op_strIndex {t:Nat}{x y:Operand}{a:ByteArray}{k:IntKind}{n:Int}{ti:TI}(ho:o.op= .index t x y)(ht:tcheck X.P t=some ti)(hk:ti.kind=2)(hx:ev s x= .d (.v (.string a)))(hy:ev s y= .d (.v (.int k n)))(hn:0≤n)(hlt:n.toNat < a.size):
 OpOK X ops s o {pv:= .d (.v (.int .u8 (byteAt a n.toNat)))}:=
 opok_read hd fun s' he _ ac w c hc=>by
  have h1:=ev_v' hc ((he x (by simp[ho,Op.operands])).trans hx)
  have h2:=ev_v' hc ((he y (by simp[ho,Op.operands])).trans hy)
  obtain⟨i,d,z,tk⟩:=tck ht
  have hde:d= .string:=by
   have:=tk.kind
   rw[hk]at this
   cases d<;>simp[kindD]at this
   rfl
  subst hde
  refine⟨.int .u8 (byteAt a n.toNat),?_,.d _ _ (.v _)⟩
  simp[execOp,ho,h1,h2,Instr.index,asIntOf,run_underlying tk.und,hn,byteAt_get hlt,byteAt]
theorem op_strSlice {t:Nat}{x:Operand}{lo hi:Option Operand}{a:ByteArray}{ti:TI}{l h:Nat}(ho:o.op= .slice t x lo hi none)(ht:tcheck X.P t=some ti)(hk:ti.kind=2)
 (hx:ev s x= .d (.v (.string a))) (hlo:loB (lo.map (ev s))=some l) (hhi:hiB a.size (hi.map (ev s))=some h) (h1:l≤h) (h2:h≤a.size):OpOK X ops s o {pv:= .d (.v (.string (a.extract l h)))}:=
 opok_read hd fun s' he _ ac w c hc=>by
  have e1:=ev_v' hc ((he x (by simp[ho,Op.operands])).trans hx)
  rw[←map_ev (s:=s) (s':=s') (fun y hy=>he y (by simp[ho,Op.operands,hy]))]at hlo hhi
  have b1:=bound_lo hc hlo
  have b2:=bound_hi hc hhi
  obtain⟨i,d,z,tk⟩:=tck ht
  have hde:d= .string:=by
   have:=tk.kind
   rw[hk]at this
   cases d<;>simp[kindD]at this
   rfl
  subst hde
  refine⟨.string (a.extract l h),?_,.d _ _ (.v _)⟩
  have g1:(0:Int)≤(l:Int):=by omega
  have g2:(0:Int)≤(h:Int):=by omega
  have g3:(l:Int)≤(h:Int):=by omega
  have g4:(h:Int)≤(a.size:Int):=by omega
  simp only[execOp,ho,e1,Option.map_none]
  generalize lo.map ac.eval=lo' at b1
  generalize hi.map ac.eval=hi' at b2
  rcases b1 with⟨rfl,rfl⟩|⟨k,rfl⟩<;>rcases b2 with⟨rfl,rfl⟩|⟨k',rfl⟩<;>
   simp[Instr.sliceAt,Instr.slice,run_underlying tk.und,Instr.sliceBounds,Instr.sliceBound,asIntOf,g1,g2,g3,g4,h1,h2,Nat.not_lt.2 h1,Nat.not_lt.2 h2]
theorem op_strBytes {src dst e:Nat}{x:Operand}{rows:List (List D)}{xs:List Int}{ts td te:TI}(ho:o.op= .convert src dst x)(hs:tcheck X.P src=some ts)(ht:tcheck X.P dst=some td)(he':ts.elem=some e)(hte:tcheck X.P e=some te)(hi:te.int=some .u8)(hk:td.kind=2)
 (hx:ev s x= .d (.sl 1 rows)) (hb:bytesD rows=some xs):OpOK X ops s o {pv:= .d (.v (.string (strOfNums xs)))}:=
 opok_read hd fun s' he _ ac w c hc=>by
  have e1:=ev_ok hc x
  rw[he x (by simp[ho,Op.operands]),hx]at e1
  generalize hu:ac.eval x=u at e1
  have e1:=repD_inv e1
  obtain⟨i,d,z,tk⟩:=tck hs
  obtain⟨i2,d2,z2,tk2⟩:=tck ht
  obtain⟨i3,d3,z3,tk3⟩:=tck hte
  have hd1:d= .slice e:=by
   have:=tk.elem
   rw[he']at this
   cases d<;>simp[elemD]at this
   rw[this]
  have hd2:d2= .string:=by
   have:=tk2.kind
   rw[hk]at this
   cases d2<;>simp[kindD]at this
   rfl
  have hd3:d3= .int .u8:=by
   have:=tk3.int
   rw[hi]at this
   cases d3<;>simp[intD]at this
   rw[this]
  subst hd1 hd2 hd3
  have hrows:=bytesD_eq hb
  refine⟨.string (strOfNums xs),?_,.d _ _ (.v _)⟩
  cases e1 with
  |nil _ ao cap hm=>
   have:xs=[]:=by cases xs with|nil=>rfl|cons a l=>simp at hrows
   subst this
   simp only[execOp,ho,hu]
   rw[Sem.run_bind,run_convert_bytes_string w src dst e ao 0 cap tk.und tk3.und tk2.und]
   cases ao with
   |none=>rfl
   |some a=>
    have hl:(loadCells a 0).run X.P w= .ok (([]:List Int).map (Value.int .u8)).toArray w:=by simp[loadCells,loadCellsFrom]
    rw[run_bytesToString w a 0 cap [] hl]
    rfl
  |sl _ _ b off cap f hM hbl hcl hm hr h1' hcell hrep=>
   have hlen:rows.length=xs.length:=by rw[hrows,List.length_map]
   have hce:∀i,i < rows.length→w.cell? ⟨b,off+i,none⟩=some (.int .u8 (xs.getD i 0)):=fun i hi=>by
    have h0:=hcell i 0 hi (by omega)
    rw[Nat.mul_one,Nat.add_zero]at h0
    rw[h0]
    obtain⟨n,hn⟩:∃n,xs[i]? =some n:=⟨_,List.getElem?_eq_getElem (by omega)⟩
    have h2:=hrep i 0 [.v (.int .u8 n)] (.v (.int .u8 n)) (by rw[hrows,List.getElem?_map,hn];rfl) rfl
    rw[List.getD_eq_getElem?_getD,hn,Option.getD_some]
    generalize f i 0=fv at h2
    cases h2
    rfl
   have hr':=run_convert_bytes_arg (P:=X.P) w src e tk.und tk3.und b off rows.length cap xs hlen.symm hce dst tk2.und
   simp only[execOp,ho,hu]
   rw[Sem.run_bind,hr']
   rfl
theorem op_arrAddr {t e n sz k off:Nat}{x y:Operand}{kd:IntKind}{i:Int}{ti te:TI}(ho:o.op= .indexAddr t x y)(ht:tcheck X.P t=some ti)(ha:ti.arr=some (n,e))(hte:tcheck X.P e=some te)(hsz:te.size=sz)
 (hx:ev s x= .ptr k off) (hy:ev s y= .d (.v (.int kd i))) (hi:0≤i) (hlt:i.toNat < n):OpOK X ops s o {pv:= .ptr k (off+i.toNat*sz)}:=
 opok_read hd fun s' he _ ac w c hc=>by
  have e1:=ev_ok hc x
  rw[he x (by simp[ho,Op.operands]),hx]at e1
  have e2:=ev_v' hc ((he y (by simp[ho,Op.operands])).trans hy)
  generalize hu:ac.eval x=u at e1
  obtain⟨ii,d,z,tk⟩:=tck ht
  obtain⟨ie,de,ze,tke⟩:=tck hte
  have hde:d= .array n e:=by
   have:=tk.arr
   rw[ha]at this
   cases d<;>simp[arrD]at this
   rw[this.1,this.2]
  subst hde
  cases e1 with
  |ptr _ _ b hb=>
   have hcond:0≤i∧i < (n:Int):=⟨hi,by omega⟩
   refine⟨.pointer (some ⟨b,off+i.toNat*sz,none⟩),?_,.ptr k _ b hb⟩
   simp[execOp,ho,hu,e2,Instr.indexAt,Instr.sureAddr,asIntOf,run_underlying tk.und,hcond,sizeOf,typeInfo,tke.info,tke.size,hsz,Addr.add_lit]
theorem op_arrIndex {t e n:Nat}{x y:Operand}{kd:IntKind}{i:Int}{ti te:TI}{ds:List D}{q:D}(ho:o.op= .index t x y)(ht:tcheck X.P t=some ti)(ha:ti.arr=some (n,e))(hte:tcheck X.P e=some te)(hsz:te.size=1)(hag:te.agg=false)
 (hx:ev s x= .d (.agg ds)) (hy:ev s y= .d (.v (.int kd i))) (hi:0≤i) (hlt:i.toNat < n) (hq:ds[i.toNat]? =some q):OpOK X ops s o {pv:= .d q}:=
 opok_read hd fun s' he _ ac w c hc=>by
  have e1:=ev_ok hc x
  rw[he x (by simp[ho,Op.operands]),hx]at e1
  have e2:=ev_v' hc ((he y (by simp[ho,Op.operands])).trans hy)
  generalize hu:ac.eval x=u at e1
  obtain⟨ii,d,z,tk⟩:=tck ht
  obtain⟨ie,de,ze,tke⟩:=tck hte
  have hde:d= .array n e:=by
   have:=tk.arr
   rw[ha]at this
   cases d<;>simp[arrD]at this
   rw[this.1,this.2]
  subst hde
  have e1:=repD_inv e1
  cases e1 with
  |agg _ vs hl h1 hrep=>
   have hcond:0≤i∧i < (n:Int):=⟨hi,by omega⟩
   have hlt2:i.toNat < vs.length:=by rw[←hl];exact(List.getElem?_eq_some_iff.1 hq).1
   have hagg:(isAgg e).run X.P w= .ok false w:=by
    unfold isAgg
    rw[Sem.run_bind,run_underlying tke.und w]
    have:=tke.agg
    rw[hag]at this
    cases de<;>simp[aggD]at this ⊢
   refine⟨vs[i.toNat],?_,.d _ _ (hrep i.toNat q _ hq (List.getElem?_eq_getElem hlt2))⟩
   simp[execOp,ho,hu,e2,Instr.index,asIntOf,run_underlying tk.und,hcond,sizeOf,typeInfo,tke.info,tke.size,hsz,part,hagg,List.getElem?_eq_getElem hlt2]
theorem op_buildArr {t n e:Nat}{parts:Array (Nat × Operand)}{ti te:TI}{pd:List (Nat × List PV)}{out:List PV}(ho:o.op= .build t parts)(ht:tcheck X.P t=some ti)(ha:ti.arr=some (n,e))(hte:tcheck X.P e=some te)
 (hp:pd.length=parts.size) (hq:∀(j:Nat) (i:Nat) (x:Operand),parts[j]? =some (i,x)→pd[j]? =some (i,cellsP (ev s x))∧okP (ev s x)=true) (hf:fillD ((List.range n).map fun i=>(i*te.size,te.size)) (ti.zero.map fun x=> .d (.v x)) pd=some out):
 OpOK X ops s o {pv:=aggP out}:=by
 obtain⟨ii,d,z,tk⟩:=tck ht
 obtain⟨ie,de,ze,tke⟩:=tck hte
 have hde:d= .array n e:=by
  have:=tk.arr
  rw[ha]at this
  cases d<;>simp[arrD]at this
  rw[this.1,this.2]
 subst hde
 refine op_buildP hd ho ht (place:=fun i=>some (i*te.size,te.size)) (fun i p h=>?_) (fun ps=>?_) hp hq hf
 ·rw[List.getElem?_map,Option.map_eq_some_iff]at h
  obtain⟨m,hm,rfl⟩:=h
  have:=(List.getElem?_eq_some_iff.1 hm).2
  simp at this
  rw[this]
 ·unfold Program.built
  have:z.cells=ti.zero.toArray:=by rw[←tk.zcells]
  simp only[tk.info,tk.und,tk.zero,tke.info,tke.size,this]
omit hd in
theorem run_equal_if {P:Program}{t:Nat}{ms:Array (String × TypeId)}(h:P.underlying t=some (.interface ms))(d:D)(M:Nat→Prop)(w:World)(v:Value)(hv:RepD M w d v)(hn:d= .nei∨d= .v .nilIface):
 (Op.equal t v .nilIface).run P w= .ok (match d with| .nei=>false|_=>true) w:=by
 unfold Op.equal
 rcases hn with rfl|rfl
 ·cases hv
  show (Op.equalIn (9999+1) t _ .nilIface).run P w=_
  rw[Op.equalIn,Sem.run_bind,run_underlying h]
  rfl
 ·cases hv
  show (Op.equalIn (9999+1) t .nilIface .nilIface).run P w=_
  rw[Op.equalIn,Sem.run_bind,run_underlying h]
  rfl
theorem op_nilIf {op:BinOp}{t t':Nat}{x:Operand}{d:D}{ti:TI}{r:Bool}(ho:o.op= .binOp op t x (.const .nilIface) t')(ht:tcheck X.P t=some ti)(hk:ti.kind=5)(hx:ev s x= .d d)(hn:d= .nei∨d= .v .nilIface)
 (hr:(op= .eql∧r=(match d with| .nei=>false|_=>true))∨(op= .neq∧r=!(match d with| .nei=>false|_=>true))):OpOK X ops s o {pv:= .d (.v (.bool r))}:=
 opok_read hd fun s' he _ ac w c hc=>by
  have e1:=ev_ok hc x
  rw[he x (by simp[ho,Op.operands]),hx]at e1
  generalize hu:ac.eval x=u at e1
  have e1:=repD_inv e1
  obtain⟨i,dd,z,tk⟩:=tck ht
  have hde:∃ms,dd= .interface ms:=by
   have:=tk.kind
   rw[hk]at this
   cases dd<;>simp[kindD]at this
   exact⟨_,rfl⟩
  obtain⟨ms,rfl⟩:=hde
  have hq:=run_equal_if tk.und d _ w u e1 hn
  have hg:eqGuard op t x (.const .nilIface) u .nilIface=pure ():=by
   rcases hn with rfl|rfl
   ·cases e1
    rcases hr with⟨rfl,-⟩|⟨rfl,-⟩<;>rfl
   ·cases e1
    exact eqGuard_nil_constR _ _ _ _
  refine⟨.bool r,?_,.d _ _ (.v _)⟩
  have hb:(binOp op t u .nilIface).run X.P w= .ok (.bool r) w:=by
   rcases hn with rfl|rfl
   ·cases e1
    rcases hr with⟨rfl,rfl⟩|⟨rfl,rfl⟩<;>simp[binOp,hq]
   ·cases e1
    rcases hr with⟨rfl,rfl⟩|⟨rfl,rfl⟩<;>simp[binOp,hq]
  have hk2:ac.eval (.const .nilIface)= .nilIface:=rfl
  simp[execOp,ho,hu,hk2,hg,hb]
theorem op_shift {op:BinOp}{t t':Nat}{x y:Operand}{k k':IntKind}{m n:Int}{r:Value}(ho:o.op= .binOp op t x y t')(hop:op= .shl∨op= .shr)(hx:ev s x= .d (.v (.int k m)))(hy:ev s y= .d (.v (.int k' n)))(hr:intS op k m n=some r):
 OpOK X ops s o {pv:= .d (.v r)}:=
 opok_read hd fun s' he _ a w c hc=>by
  have h1:=ev_v' hc ((he x (by simp[ho,Op.operands])).trans hx)
  have h2:=ev_v' hc ((he y (by simp[ho,Op.operands])).trans hy)
  refine⟨r,?_,.d _ _ (.v _)⟩
  rcases hop with rfl|rfl
  ·simp[intS]at hr
   obtain⟨h0,rfl⟩:=hr
   simp[execOp,ho,h1,h2,eqGuard,binOp,Op.shift,Int.not_lt.2 h0]
  ·simp[intS]at hr
   obtain⟨h0,rfl⟩:=hr
   simp[execOp,ho,h1,h2,eqGuard,binOp,Op.shift,Int.not_lt.2 h0]
end
inductive SR where
 |no
 |res (p:PV) (eff:List (Nat × Chunk)) (touch:List Nat) (side:Prop)
 |call (g:Nat) (ps:List PV)
def pickS (c a b:PV):SR:=
 match c with
 | .d (.v (.bool t))=>
  match a,b with
  | .d (.v (.bool p)),.d (.v (.bool q))=> .res (.d (.v (.bool (bif t then p else q)))) [] [] True
  |_,_=> .res (if t then a else b) [] [] True
 |_=> .no
def unS (op:UnOp)(x:PV):SR:=
 match op,x with
 | .not,.d (.v (.bool b))=> .res (.d (.v (.bool (!b)))) [] [] True
 | .neg,.d (.v (.int k n))=> .res (.d (.v (.int k (k.wrap (0 - n))))) [] [] True
 |_,_=> .no
def nilS (x:PV):SR:=
 match x with
 | .ptr k off=> .res (.ptr k off) [] [] True
 | .rp k g sz i j=> .res (.rp k g sz i j) [] [] True
 | .d (.ept cs)=> .res (.d (.ept cs)) [] [] True
 |_=> .no
def binS (ti:Option TI)(q:Option Nat)(op:BinOp)(x y:PV):SR:=
 match x,y with
 | .d (.v (.int k m)),.d (.v (.int k' n))=>
  if k=k' then
   match op with
   | .quo=> .res (.d (.v (.int k (k.wrap (m.tdiv n))))) [] [] (n≠0)
   | .rem=> .res (.d (.v (.int k (m.tmod n)))) [] [] (n≠0)
   |_=>match intS op k m n with
    |some r=> .res (.d (.v r)) [] [] True
    |none=> .no
  else
   match op with
   | .shl=>match intS .shl k m n with|some r=> .res (.d (.v r)) [] [] True|none=> .no
   | .shr=>match intS .shr k m n with|some r=> .res (.d (.v r)) [] [] True|none=> .no
   |_=> .no
 | .d (.v (.string m)),.d (.v (.string n))=>
  match op with
  | .add=> .res (.d (.v (.string (m++n)))) [] [] (m.size+n.size≤9223372036854775807)
  | .eql=> .res (.d (.v (.bool (decide (m=n))))) [] [] True
  | .neq=> .res (.d (.v (.bool !decide (m=n)))) [] [] True
  |_=> .no
 | .d (.v (.bool m)),.d (.v (.bool n))=>
  match ti,op with
  |some ti,.eql=> .res (.d (.v (.bool (m==n)))) [] [] (ti.kind=1)
  |some ti,.neq=> .res (.d (.v (.bool (m !=n)))) [] [] (ti.kind=1)
  |_,_=> .no
 | .d (.v (.pointer none)),.d (.v (.pointer none))=>
  match ti,op with
  |some ti,.eql=> .res (.d (.v (.bool true))) [] [] (ti.kind=3)
  |some ti,.neq=> .res (.d (.v (.bool false))) [] [] (ti.kind=3)
  |_,_=> .no
 | .ptr _ _,.d (.v (.pointer none))=>
  match ti,op with
  |some ti,.eql=> .res (.d (.v (.bool false))) [] [] (ti.kind=3)
  |some ti,.neq=> .res (.d (.v (.bool true))) [] [] (ti.kind=3)
  |_,_=> .no
 | .rp _ _ _ _ _,.d (.v (.pointer none))=>
  match ti,op with
  |some ti,.eql=> .res (.d (.v (.bool false))) [] [] (ti.kind=3)
  |some ti,.neq=> .res (.d (.v (.bool true))) [] [] (ti.kind=3)
  |_,_=> .no
 | .d (.ept _),.d (.v (.pointer none))=>
  match ti,op with
  |some ti,.eql=> .res (.d (.v (.bool false))) [] [] (ti.kind=3)
  |some ti,.neq=> .res (.d (.v (.bool true))) [] [] (ti.kind=3)
  |_,_=> .no
 | .d (.sl _ (_::_)),.d (.v (.slice none _ _))=>
  match ti,op with
  |some ti,.eql=> .res (.d (.v (.bool false))) [] [] (ti.elem.isSome=true)
  |some ti,.neq=> .res (.d (.v (.bool true))) [] [] (ti.elem.isSome=true)
  |_,_=> .no
 | .d (.v (.slice ao _ _)),.d (.v (.slice none _ _))=>
  match ti,op with
  |some ti,.eql=> .res (.d (.v (.bool ao.isNone))) [] [] (ti.elem.isSome=true)
  |some ti,.neq=> .res (.d (.v (.bool !ao.isNone))) [] [] (ti.elem.isSome=true)
  |_,_=> .no
 | .d (.agg ds),.d (.agg es)=>
  match q,intsD ds,intsD es with
  |some n,some xs,some ys=>
   match op with
   | .eql=> .res (.d (.v (.bool (xs==ys)))) [] [] (xs.length=n∧ys.length=n)
   | .neq=> .res (.d (.v (.bool (xs !=ys)))) [] [] (xs.length=n∧ys.length=n)
   |_=> .no
  |_,_,_=> .no
 |_,_=> .no
def nifS (ti:Option TI)(op:BinOp)(x:PV):SR:=
 match ti,op,x with
 |some ti,.eql,.d .nei=> .res (.d (.v (.bool false))) [] [] (ti.kind=5)
 |some ti,.neq,.d .nei=> .res (.d (.v (.bool true))) [] [] (ti.kind=5)
 |some ti,.eql,.d (.v .nilIface)=> .res (.d (.v (.bool true))) [] [] (ti.kind=5)
 |some ti,.neq,.d (.v .nilIface)=> .res (.d (.v (.bool false))) [] [] (ti.kind=5)
 |_,_,_=> .no
def fieldS (ti:Option TI)(f:Nat)(x:PV):SR:=
 match ti with
 |some ti=>
  match ti.fields[f]? with
  |some (off,sz)=>
   match x with
   | .d (.ept ds)=> .res (.d (.ept (ds.drop off))) [] [] (sz≠0)
   | .ptr k o'=> .res (.ptr k (o'+off)) [] [] (sz≠0)
   | .rp k g sz' i j=> .res (.rp k g sz' i (j+off)) [] [] (sz≠0)
   |_=> .no
  |none=> .no
 |none=> .no
def loadS (ti:Option TI)(h:Nat→Chunk)(x:PV):SR:=
 match ti with
 |some ti=>
  match x with
  | .d (.ept ds)=>
   if ti.agg then .res (.d (.agg (ds.take ti.size))) [] [] (ti.size≤ds.length)
   else match ds with
    |d::_=> .res (.d d) [] [] (ti.size=1)
    |[]=> .no
  | .ptr k off=>
   match h k with
   | .box _ cells=>
    if ti.agg then .res (aggP ((cells.drop off).take ti.size)) [] [k] (off+ti.size≤cells.length)
    else match cells.drop off with
     |p::_=> .res p [] [k] (ti.size=1)
     |[]=> .no
   |_=> .no
  | .rp k g sz i j=>
   match h k with
   | .row _ sz' g' rows=>
    match rows[i]? with
    |some row=>
     if ti.agg then .res (aggP ((row.drop j).take ti.size)) [] [k] (g=g'∧sz=sz'∧j+ti.size≤sz)
     else match row.drop j with
      |p::_=> .res p [] [k] (g=g'∧sz=sz'∧ti.size=1∧j+1≤sz)
      |[]=> .no
    |none=> .no
   |_=> .no
  |_=> .no
 |none=> .no
def indexS (T:Nat→Option TI)(ti:Option TI)(h:Nat→Chunk)(x y:PV):SR:=
 match ti with
 |some ti=>
  match ti.elem with
  |some e=>
   match T e with
   |some te=>
    match y with
    | .d (.v (.int _ n))=>
     match x with
     | .d (.sl sz rows)=>match rows[n.toNat]? with|some row=> .res (.d (.ept row)) [] [] (te.size=sz∧0≤n)|none=> .no
     | .own k g=>
      match h k with
      | .row e' sz g' rows=> .res (.rp k g sz n.toNat 0) [] [k] (e'=e∧g'=g∧te.size=sz∧0≤n∧n.toNat < rows.length)
      |_=> .no
     | .osl k g sz st m=> .res (.rp k g sz (st+n.toNat) 0) [] [] (te.size=sz∧0≤n∧n.toNat < m)
     |_=> .no
    |_=> .no
   |none=> .no
  |none=>
   match ti.arr,x,y with
   |some (m,e),.ptr k off,.d (.v (.int _ n))=>
    match T e with
    |some te=> .res (.ptr k (off+n.toNat*te.size)) [] [] (0≤n∧n.toNat < m)
    |none=> .no
   |_,_,_=> .no
 |none=> .no
def indexV (T:Nat→Option TI)(ti:Option TI)(x y:PV):SR:=
 match ti with
 |some ti=>
  match x,y with
  | .d (.v (.string a)),.d (.v (.int _ n))=> .res (.d (.v (.int .u8 (byteAt a n.toNat)))) [] [] (ti.kind=2∧0≤n∧n.toNat < a.size)
  | .d (.agg ds),.d (.v (.int _ n))=>
   match ti.arr with
   |some (m,e)=>
    match T e with
    |some te=>match ds[n.toNat]? with|some q=> .res (.d q) [] [] (te.size=1∧te.agg=false∧0≤n∧n.toNat < m)|none=> .no
    |none=> .no
   |none=> .no
  |_,_=> .no
 |none=> .no
def extrS (x:PV)(i:Nat):SR:=
 match x with
 | .d (.tup ds)=>match ds[i]? with|some d=> .res (.d d) [] [] True|none=> .no
 | .tup ds=>match ds[i]? with|some d=> .res d [] [] True|none=> .no
 |_=> .no
def partsS (e:Env):List (Nat × Operand)→Option (List (Nat × List PV))
 |[]=>some []
 |(i,x)::l=>
  if okP (evL e x)then
   match partsS e l with
   |some pd=>some ((i,cellsP (evL e x))::pd)
   |none=>none
  else none
def buildS (T:Nat→Option TI)(ti:Option TI)(e:Env)(parts:List (Nat × Operand)):SR:=
 match ti with
 |some ti=>
  match ti.fields with
  |[]=>
   match ti.arr with
   |some (n,el)=>
    match T el,partsS e parts with
    |some te,some pd=>
     match fillD ((List.range n).map fun i=>(i*te.size,te.size)) (ti.zero.map fun x=> .d (.v x)) pd with
     |some out=> .res (aggP out) [] [] True
     |none=> .no
    |_,_=> .no
   |none=> .no
  |_::_=>
   match partsS e parts with
   |some pd=>
    match fillD ti.fields (ti.zero.map fun x=> .d (.v x)) pd with
    |some out=> .res (aggP out) [] [] True
    |none=> .no
   |none=> .no
 |none=> .no
def rowsS (e:Env):Nat→List (Nat × Operand)→Option (List (List PV))
 |_,[]=>some []
 |n,(i,x)::l=>
  if okP (evL e x)&&(i==n)then
   match rowsS e (n+1) l with
   |some rows=>some (cellsP (evL e x)::rows)
   |none=>none
  else none
def dsR:List (List PV)→Option (List (List D))
 |[]=>some []
 |r::l=>match dsOf r,dsR l with|some d,some ds=>some (d::ds)|_,_=>none
def allLen (sz:Nat):List (List PV)→Prop
 |[]=>True
 |r::l=>r.length=sz∧allLen sz l
def bslS (T:Nat→Option TI)(ti:Option TI)(nk:Nat)(e:Env)(n:Nat)(parts:List (Nat × Operand)):SR:=
 match ti with
 |some ti=>
  match ti.elem with
  |some el=>
   match T el with
   |some te=>
    match n,parts with
    |0,[]=> .res (.own nk 0) [(nk,.row el te.size 0 [])] [nk] True
    |n+1,parts=>
     match rowsS e 0 parts with
     |some rows=>
      match dsR rows with
      |some ds=> .res (.d (.sl te.size ds)) [] [] (0 < te.size∧(n+1)*te.size≤16777216∧rows.length=n+1∧allLen te.size rows)
      |none=> .res (.own nk 0) [(nk,.row el te.size 0 rows)] [nk] (0 < te.size∧(n+1)*te.size≤16777216∧rows.length=n+1∧allLen te.size rows)
     |none=> .no
    |_,_=> .no
   |none=> .no
  |none=> .no
 |none=> .no
def mkSlS (T:Nat→Option TI)(ti:Option TI)(nk:Nat)(x y:PV):SR:=
 match ti with
 |some ti=>
  match ti.elem with
  |some el=>
   match T el with
   |some te=>
    match te.zero,x,y with
    |[zv],.d (.v (.int _ n)),.d (.v (.int _ m))=> .res (.own nk 0) [(nk,.row el 1 0 (List.replicate n.toNat [.d (.v zv)]))] [nk] (n=m∧0 < n∧(te.bytes:Int)*n≤281474976710656∧n≤9223372036854775807)
    |_,_,_=> .no
   |none=> .no
  |none=> .no
 |none=> .no
def convS (T:Nat→Option TI)(ts td:Option TI)(x:PV):SR:=
 match ts,td with
 |some ts,some td=>
  match td.int,x with
  |some k,.d (.v (.int _ n))=> .res (.d (.v (.int k (k.wrap n)))) [] [] True
  |none,.d (.sl 1 rows)=>
   match ts.elem with
   |some e=>
    match T e with
    |some te=>match bytesD rows with|some xs=> .res (.d (.v (.string (strOfNums xs)))) [] [] (te.int=some .u8∧td.kind=2)|none=> .no
    |none=> .no
   |none=> .no
  |_,_=> .no
 |_,_=> .no
def lenS (ti:Option TI)(h:Nat→Chunk)(x:PV):SR:=
 match ti with
 |some ti=>
  match ti.elem with
  |some _=>
   match x with
   | .d (.sl _ rows)=> .res (.d (.v (.int .i64 rows.length))) [] [] True
   | .d (.v (.slice none 0 0))=> .res (.d (.v (.int .i64 (0:Nat)))) [] [] True
   | .own k g=>match h k with| .row _ _ g' rows=> .res (.d (.v (.int .i64 rows.length))) [] [k] (g=g')|_=> .no
   | .osl _ _ _ _ n=> .res (.d (.v (.int .i64 n))) [] [] True
   |_=> .no
  |none=>match x with| .d (.v (.string a))=> .res (.d (.v (.int .i64 a.size))) [] [] (ti.kind=2)|_=> .no
 |none=> .no
def srcS (h:Nat→Chunk)(sz:Nat)(y:PV):Option (List (List PV) × List Nat):=
 match y with
 | .d (.sl sz' news)=>if sz'=sz then some (dRows news,[])else none
 | .d (.v (.slice _ 0 _))=>some ([],[])
 | .own k g=>match h k with| .row _ sz' g' rows=>if sz'=sz∧g'=g then some (rows,[k])else none|_=>none
 | .osl k g sz' st n=>match h k with| .row _ sz'' g' rows=>if sz'=sz∧sz''=sz∧g'=g then some ((rows.drop st).take n,[k])else none|_=>none
 |_=>none
def appS (T:Nat→Option TI)(ti:Option TI)(nk:Nat)(h:Nat→Chunk)(x y:PV):SR:=
 match ti with
 |some ti=>
  match ti.elem with
  |some el=>
   match T el with
   |some te=>
    if te.size=0∨te.bytes=0 then .no else
    match srcS h te.size y with
    |some (news,ty)=>
     match x with
     | .own k g=>
      match h k with
      | .row e' sz g' rows=> .res (.own k (g+1)) [(k,.row e' sz (g+1) (rows++news))] (k::ty) (e'=el∧g'=g∧te.size=sz∧(rows.length+news.length)*te.bytes≤140737488355328)
      |_=> .no
     | .d (.v (.slice none 0 0))=> .res (.own nk 0) [(nk,.row el te.size 0 news)] (nk::ty) (news.length*te.bytes≤140737488355328)
     | .osl k g sz st n=>
      match h k with
      | .row e' sz' g' rows=> .res (.osl k g sz 0 (n+news.length)) [(k,.row e' sz' g' (setAt rows n news))] (k::ty) (st=0∧e'=el∧g'=g∧sz'=sz∧te.size=sz∧rows≠[]∧n+news.length≤rows.length)
      |_=> .no
     |_=> .no
    |none=> .no
   |none=> .no
  |none=> .no
 |none=> .no
def storeS (ti:Option TI)(h:Nat→Chunk)(dst:Option Nat)(x y:PV):SR:=
 match ti,dst with
 |some ti,none=>
  match x with
  | .ptr k off=>
   match h k with
   | .box T cells=>if okP y then .res .any [(k,.box T (setAt cells off (cellsP y)))] [k] ((cellsP y).length=ti.size∧off+ti.size≤cells.length)else .no
   |_=> .no
  | .rp k g sz i j=>
   match h k with
   | .row E sz' g' rows=>
    match rows[i]? with
    |some row=>if okP y then .res .any [(k,.row E sz' g' (rows.set i (setAt row j (cellsP y))))] [k] (g=g'∧sz=sz'∧(cellsP y).length=ti.size∧j+ti.size≤sz)else .no
    |none=> .no
   |_=> .no
  |_=> .no
 |_,_=> .no
def sliceS (T:Nat→Option TI)(ti:Option TI)(h:Nat→Chunk)(x:PV)(lo hi mx:Option PV):SR:=
 match ti with
 |some ti=>
  match ti.elem with
  |some e=>
   match T e with
   |some te=>
    match mx with
    |none=>
     match x with
     | .d (.sl sz rows)=>
      match loB lo,hiB rows.length hi with
      |some l,some r=> .res (.d (.sl sz ((rows.take r).drop l))) [] [] (te.size=sz∧l≤r∧r≤rows.length)
      |_,_=> .no
     | .own k g=>
      match h k with
      | .row e' sz g' []=>
       match loB lo,hiB 0 hi with
       |some l,some r=> .res .any [] [k] (e'=e∧g'=g∧te.size=sz∧l=0∧r=0)
       |_,_=> .no
      | .row e' sz g' rows=>
       match loB lo,hiB rows.length hi with
       |some l,some r=> .res (.osl k g sz l (r - l)) [] [k] (e'=e∧g'=g∧te.size=sz∧rows≠[]∧l≤r∧r≤rows.length)
       |_,_=> .no
      |_=> .no
     | .osl k g sz st n=>
      match h k with
      | .row e' sz' g' rows=>
       match loB lo,hiB n hi with
       |some l,some r=> .res (.osl k g sz (st+l) (r - l)) [] [k] (e'=e∧g'=g∧sz'=sz∧te.size=sz∧rows≠[]∧l≤r∧st+r≤rows.length)
       |_,_=> .no
      |_=> .no
     |_=> .no
    |some m=>
     match x,lo,hi,m with
     | .own k g,some (.d (.v (.int _ n1))),some (.d (.v (.int _ n2))),.d (.v (.int _ n3))=>
      match h k with
      | .row e' sz g' rows=> .res .any [] [k] (e'=e∧g'=g∧te.size=sz∧rows≠[]∧0≤n1∧n1≤n2∧n2≤n3∧n3≤(rows.length:Int))
      |_=> .no
     |_,_,_,_=> .no
   |none=> .no
  |none=>
   match x,mx with
   | .d (.v (.string a)),none=>
    match loB lo,hiB a.size hi with
    |some l,some r=> .res (.d (.v (.string (a.extract l r)))) [] [] (ti.kind=2∧l≤r∧r≤a.size)
    |_,_=> .no
   |_,_=> .no
 |none=> .no
def clearS (T:Nat→Option TI)(ti:Option TI)(h:Nat→Chunk)(x:PV):SR:=
 match ti with
 |some ti=>
  match ti.elem with
  |some e=>
   match T e with
   |some te=>
    match x with
    | .osl k g sz st n=>
     match h k with
     | .row e' sz' g' rows=> .res (.d (.v (.tuple #[]))) [(k,.row e' sz' g' (setAt rows st (List.replicate n (te.zero.map fun x=> .d (.v x)))))] [k] (e'=e∧g'=g∧sz'=sz∧te.size=sz∧rows≠[]∧st+n≤rows.length)
     |_=> .no
    |_=> .no
   |none=> .no
  |none=> .no
 |none=> .no
def makeMapS (ti:Option TI)(nk:Nat):SR:=
 match ti with
 |some ti=>
  match ti.mp with
  |some (n,sB)=> .res (.mref nk) [(nk,.mp n sB [])] [nk] True
  |none=> .no
 |none=> .no
def lookupS (ti:Option TI)(h:Nat→Chunk)(m x:PV)(ok:Bool):SR:=
 match ti with
 |some ti=>
  match ti.mp with
  |some (n,sB)=>
   match m with
   | .mref k=>
    match h k with
    | .mp n' sB' ents=>
     match keyP sB x with
     |some xs=> .res (if ok then .d (.tup [.v (.int .i64 ((lkE ents xs).getD 0)),.v (.bool (lkE ents xs).isSome)])else .d (.v (.int .i64 ((lkE ents xs).getD 0)))) [] [k] (n'=n∧sB'=sB∧xs.length=n)
     |none=> .no
    |_=> .no
   |_=> .no
  |none=> .no
 |none=> .no
def mapUpS (ti:Option TI)(h:Nat→Chunk)(dst:Option Nat)(m x y:PV):SR:=
 match ti,dst with
 |some ti,none=>
  match ti.mp with
  |some (n,sB)=>
   match m with
   | .mref k=>
    match h k with
    | .mp n' sB' ents=>
     match keyP sB x,y with
     |some xs,.d (.v (.int .i64 v))=> .res .any [(k,.mp n' sB' (upE ents xs v))] [k] (n'=n∧sB'=sB∧xs.length=n)
     |_,_=> .no
    |_=> .no
   |_=> .no
  |none=> .no
 |_,_=> .no
def rangeS (ti:Option TI)(h:Nat→Chunk)(nk:Nat)(m:PV):SR:=
 match ti with
 |some ti=>
  match ti.mp with
  |some (n,sB)=>
   match m with
   | .mref k=>
    match h k with
    | .mp n' sB' ents=> .res (.ptr nk 0) [(nk,.it n' sB' ents []),(k,.gone)] [k,nk] (n'=n∧sB'=sB)
    |_=> .no
   |_=> .no
  |none=> .no
 |none=> .no
def entryS (h:Nat→Chunk)(x:PV):SR:=
 match x with
 | .ptr k 0=>
  match h k with
  | .it _ _ ents seen=>
   match seen.getLast? with
   |some i=>
    match ents[i]? with
    |some kv=> .res (.tup [.any,.d (.v (.int .i64 kv.2))]) [] [k] True
    |none=> .no
   |none=> .no
  |_=> .no
 |_=> .no
def callS (f:PV)(args:List PV):SR:=
 match f with
 | .clo g caps=> .call g (args++caps)
 | .d (.clo g cd)=> .call g (args++cd.map .d)
 |_=> .no
def opS (T:Nat→Option TI)(Q:Nat→Option Nat)(e:Env)(hl:List Chunk)(o:Oper):SR:=
 match o.op with
 | .move x=> .res (evL e x) [] [] True
 | .assign x=> .res (evL e x) [] [] True
 | .pick c a b=>pickS (evL e c) (evL e a) (evL e b)
 | .unOp op _ x=>unS op (evL e x)
 | .nilCheck x=>nilS (evL e x)
 | .binOp op t x (.const .nilIface) _=>nifS (T t) op (evL e x)
 | .binOp op t x y _=>binS (T t) (Q t) op (evL e x) (evL e y)
 | .fieldAddr t x f=>fieldS (T t) f (evL e x)
 | .load t x=>loadS (T t) (hatL hl) (evL e x)
 | .indexAddr t x y=>indexS T (T t) (hatL hl) (evL e x) (evL e y)
 | .index t x y=>indexV T (T t) (evL e x) (evL e y)
 | .extract x i=>extrS (evL e x) i
 | .alloc t=>match T t with|some ti=> .res (.ptr hl.length 0) [(hl.length,.box t (ti.zero.map fun x=> .d (.v x)))] [hl.length] True|none=> .no
 | .box t x=>if okP (evL e x)then .res (.ptr hl.length 0) [(hl.length,.box t (cellsP (evL e x)))] [hl.length] True else .no
 | .store t x y=>storeS (T t) (hatL hl) o.dst (evL e x) (evL e y)
 | .build t ⟨parts⟩=>buildS T (T t) e parts
 | .buildSlice t n ⟨parts⟩=>bslS T (T t) hl.length e n parts
 | .makeFunc (.func g) ⟨[]⟩ ⟨caps⟩=> .res (.clo g (caps.map (evL e))) [] [] True
 | .convert src dst x=>convS T (T src) (T dst) (evL e x)
 | .call ⟨.builtin .len,⟨[x]⟩,⟨[t]⟩⟩=>lenS (T t) (hatL hl) (evL e x)
 | .slice t x lo hi mx=>sliceS T (T t) (hatL hl) (evL e x) (lo.map (evL e)) (hi.map (evL e)) (mx.map (evL e))
 | .call ⟨.builtin .clear,⟨[x]⟩,⟨[t]⟩⟩=>clearS T (T t) (hatL hl) (evL e x)
 | .call ⟨.builtin .append,⟨[x,y]⟩,⟨[t,t']⟩⟩=>if t=t' then appS T (T t) hl.length (hatL hl) (evL e x) (evL e y)else .no
 | .call ⟨.builtin .min,⟨[x,y]⟩,_⟩=>match evL e x,evL e y with| .d (.v (.int k m)),.d (.v (.int k' n))=>if k=k' then .res (.d (.v (.int k (if n < m then n else m)))) [] [] True else .no|_,_=> .no
 | .call ⟨.builtin .max,⟨[x,y]⟩,_⟩=>match evL e x,evL e y with| .d (.v (.int k m)),.d (.v (.int k' n))=>if k=k' then .res (.d (.v (.int k (if m < n then n else m)))) [] [] True else .no|_,_=> .no
 | .call ⟨.value f,⟨args⟩,_⟩=>callS (evL e f) (args.map (evL e))
 | .makeSlice t x y=>mkSlS T (T t) hl.length (evL e x) (evL e y)
 | .makeMap t none=>makeMapS (T t) hl.length
 | .lookup t m x ok=>lookupS (T t) (hatL hl) (evL e m) (evL e x) ok
 | .range t m=>rangeS (T t) (hatL hl) hl.length (evL e m)
 | .entry x=>entryS (hatL hl) (evL e x)
 | .mapUpdate t m x y=>mapUpS (T t) (hatL hl) o.dst (evL e m) (evL e x) (evL e y)
 | .insert t m x y=>mapUpS (T t) (hatL hl) o.dst (evL e m) (evL e x) (evL e y)
 |_=> .no
theorem hatL_end:∀(l:List Chunk),hatL l l.length= .none
 |[]=>rfl
 |_::l=>hatL_end l
structure TabOK (P:Program)(T:Nat→Option TI)(Q:Nat→Option Nat):Prop where
 t:∀t ti,T t=some ti→tcheck P t=some ti
 q:∀t n,Q t=some n→EqOK P t n
 m:∀t ti n s,T t=some ti→ti.mp=some (n,s)→MapOK P t n s
theorem run_equal_ptr {P:Program}{t e:Nat}(h:P.underlying t=some (.pointer e))(a:Addr)(w:World):(Op.equal t (.pointer (some a)) (.pointer none)).run P w= .ok false w:=by
 unfold Op.equal
 show (Op.equalIn (9999+1) t _ _).run P w=_
 rw[Op.equalIn,Sem.run_bind,run_underlying h]
 rfl
theorem run_equal_nil {P:Program}{t e:Nat}(h:P.underlying t=some (.pointer e))(w:World):(Op.equal t (.pointer none) (.pointer none)).run P w= .ok true w:=by
 unfold Op.equal
 show (Op.equalIn (9999+1) t _ _).run P w=_
 rw[Op.equalIn,Sem.run_bind,run_underlying h]
 rfl
theorem op_nilNil {X:Cfg}{ops:Array Oper}{s:FS}{o:Oper}(hd:∀d,o.dst=some d→d < X.n){ti:TI}{op:BinOp}{t t':Nat}{x y:Operand}{r:Bool}(ho:o.op= .binOp op t x y t')(ht:tcheck X.P t=some ti)(hb:ti.kind=3)(hx:ev s x= .d (.v (.pointer none)))(hy:ev s y= .d (.v (.pointer none)))
 (hr:(op= .eql∧r=true)∨(op= .neq∧r=false)):OpOK X ops s o {pv:= .d (.v (.bool r))}:=
 opok_read hd fun s' he _ a w c hc=>by
  have h1:=ev_v' hc ((he x (by simp[ho,Op.operands])).trans hx)
  have h2:=ev_v' hc ((he y (by simp[ho,Op.operands])).trans hy)
  obtain⟨i,d,z,tk⟩:=tck ht
  obtain⟨el,rfl⟩:∃el,d= .pointer el:=by
   have:=tk.kind
   rw[hb]at this
   cases d<;>simp[kindD]at this
   exact⟨_,rfl⟩
  refine⟨.bool r,?_,.d _ _ (.v _)⟩
  rcases hr with⟨rfl,rfl⟩|⟨rfl,rfl⟩<;>simp[execOp,ho,h1,h2,eqGuard,binOp,run_equal_nil tk.und]
theorem run_equal_slnil {P:Program}{t e:Nat}(h:P.underlying t=some (.slice e))(a:Option Addr)(n c n' c':Nat)(w:World):(Op.equal t (.slice a n c) (.slice none n' c')).run P w= .ok a.isNone w:=by
 unfold Op.equal
 show (Op.equalIn (9999+1) t _ _).run P w=_
 rw[Op.equalIn,Sem.run_bind,run_underlying h]
 cases a<;>rfl
theorem op_slNil {X:Cfg}{ops:Array Oper}{s:FS}{o:Oper}(hd:∀d,o.dst=some d→d < X.n){ti:TI}{op:BinOp}{t t' n' c':Nat}{x y:Operand}{r z:Bool}(ho:o.op= .binOp op t x y t')(ht:tcheck X.P t=some ti)(hb:ti.elem.isSome=true)
 (hx:(∃sz a l,ev s x= .d (.sl sz (a::l))∧z=false)∨∃ao n c,ev s x= .d (.v (.slice ao n c))∧z=ao.isNone) (hy:ev s y= .d (.v (.slice none n' c')))
 (hr:(op= .eql∧r=z)∨(op= .neq∧r=!z)):OpOK X ops s o {pv:= .d (.v (.bool r))}:=
 opok_read hd fun s' he _ a w c hc=>by
  have e1:=ev_ok hc x
  rw[he x (by simp[ho,Op.operands])]at e1
  have h2:=ev_v' hc ((he y (by simp[ho,Op.operands])).trans hy)
  generalize hu:a.eval x=u at e1
  obtain⟨i,d,zz,tk⟩:=tck ht
  obtain⟨el,rfl⟩:∃el,d= .slice el:=by
   have:=tk.elem
   obtain⟨el,hel⟩:=Option.isSome_iff_exists.1 hb
   rw[hel]at this
   cases d<;>simp[elemD]at this
   exact⟨_,rfl⟩
  obtain⟨ao,n,cap,rfl,hz⟩:∃ao n cap,u= .slice ao n cap∧z=ao.isNone:=by
   rcases hx with⟨sz,b,l,hx,rfl⟩|⟨ao,n,cap,hx,rfl⟩
   ·rw[hx]at e1
    have e1:=repD_inv e1
    cases e1 with
    |sl _ _ b off cap=>exact⟨_,_,cap,rfl,rfl⟩
   ·rw[hx]at e1
    have e1:=repD_inv e1
    cases e1
    exact⟨_,_,_,rfl,rfl⟩
  subst hz
  refine⟨.bool r,?_,.d _ _ (.v _)⟩
  rcases hr with⟨rfl,rfl⟩|⟨rfl,rfl⟩<;>simp[execOp,ho,hu,h2,eqGuard,binOp,run_equal_slnil tk.und]
theorem op_ptrNil {X:Cfg}{ops:Array Oper}{s:FS}{o:Oper}(hd:∀d,o.dst=some d→d < X.n){ti:TI}{op:BinOp}{t t':Nat}{x y:Operand}{r:Bool}(ho:o.op= .binOp op t x y t')(ht:tcheck X.P t=some ti)(hb:ti.kind=3)
 (hx:(∃k off,ev s x= .ptr k off)∨(∃k g sz i j,ev s x= .rp k g sz i j)∨∃ds,ev s x= .d (.ept ds)) (hy:ev s y= .d (.v (.pointer none)))
 (hr:(op= .eql∧r=false)∨(op= .neq∧r=true)):OpOK X ops s o {pv:= .d (.v (.bool r))}:=
 opok_read hd fun s' he _ a w c hc=>by
  have h1:∃ad,a.eval x= .pointer (some ad):=by
   have:=ev_ok hc x
   rw[he x (by simp[ho,Op.operands])]at this
   generalize a.eval x=u at this
   rcases hx with⟨k,off,hx⟩|⟨k,g,sz,i,j,hx⟩|⟨ds,hx⟩<;>rw[hx]at this
   ·cases this;exact⟨_,rfl⟩
   ·cases this;exact⟨_,rfl⟩
   ·have:=repD_inv this
    cases this;exact⟨_,rfl⟩
  obtain⟨ad,h1⟩:=h1
  have h2:=ev_v' hc ((he y (by simp[ho,Op.operands])).trans hy)
  obtain⟨i,d,z,tk⟩:=tck ht
  obtain⟨el,rfl⟩:∃el,d= .pointer el:=by
   have:=tk.kind
   rw[hb]at this
   cases d<;>simp[kindD]at this
   exact⟨_,rfl⟩
  refine⟨.bool r,?_,.d _ _ (.v _)⟩
  rcases hr with⟨rfl,rfl⟩|⟨rfl,rfl⟩<;>simp[execOp,ho,h1,h2,eqGuard,binOp,run_equal_ptr tk.und]
theorem op_nilCheckRp {X:Cfg}{ops:Array Oper}{s:FS}{o:Oper}(hd:∀d,o.dst=some d→d < X.n){x:Operand}{k g sz i j:Nat}(ho:o.op= .nilCheck x)(hx:ev s x= .rp k g sz i j):OpOK X ops s o {pv:= .rp k g sz i j}:=
 opok_read hd fun s' he _ a w c hc=>by
  have:=ev_ok hc x
  rw[he x (by simp[ho,Op.operands]),hx]at this
  generalize hu:a.eval x=u at this
  cases this with
  |rp _ _ _ _ _ b n cap h=>exact⟨_,by simp[execOp,ho,hu],.rp k g sz i j b n cap h⟩
section
variable {X:Cfg}{ops:Array Oper}{e:Env}{hl:List Chunk}{o:Oper}{T:Nat→Option TI}{Q:Nat→Option Nat}(hTQ:TabOK X.P T Q)(hd:∀d,o.dst=some d→d < X.n){p:PV}{eff:List (Nat × Chunk)}{touch:List Nat}{side:Prop}
include hd
theorem pickS_ok {x y z:Operand}(ho:o.op= .pick x y z)(h:pickS (evL e x) (evL e y) (evL e z)= .res p eff touch side)(_hs:side):OpOK X ops (mkF e hl) o {pv:=p,eff:=eff,touch:=touch}:=by
 unfold pickS at h
 split at h
 ·rename_i t hx
  have key:=op_pick (X:=X) (ops:=ops) (s:=mkF e hl) hd ho ((ev_mk e hl x).trans hx)
  rw[ev_mk,ev_mk]at key
  split at h
  ·rename_i a b ha hb
   cases h
   rw[ha,hb]at key
   cases t<;>exact key
  ·cases h
   exact key
 ·cases h
theorem unS_ok {op:UnOp}{t:Nat}{x:Operand}(ho:o.op= .unOp op t x)(h:unS op (evL e x)= .res p eff touch side)(_hs:side):OpOK X ops (mkF e hl) o {pv:=p,eff:=eff,touch:=touch}:=by
 unfold unS at h
 split at h
 ·rename_i b hx
  cases h
  exact op_not hd ho ((ev_mk e hl x).trans hx)
 ·rename_i k n hx
  cases h
  exact op_neg hd ho ((ev_mk e hl x).trans hx)
 ·cases h
theorem nilS_ok {x:Operand}(ho:o.op= .nilCheck x)(h:nilS (evL e x)= .res p eff touch side)(_hs:side):OpOK X ops (mkF e hl) o {pv:=p,eff:=eff,touch:=touch}:=by
 unfold nilS at h
 split at h
 ·rename_i k off hx
  cases h
  have:=op_nilCheck (X:=X) (ops:=ops) (s:=mkF e hl) hd ho (.inl ⟨k,off,(ev_mk e hl x).trans hx⟩)
  rwa [ev_mk,hx]at this
 ·rename_i k g sz i j hx
  cases h
  exact op_nilCheckRp hd ho ((ev_mk e hl x).trans hx)
 ·rename_i cs hx
  cases h
  have:=op_nilCheck (X:=X) (ops:=ops) (s:=mkF e hl) hd ho (.inr ⟨cs,(ev_mk e hl x).trans hx⟩)
  rwa [ev_mk,hx]at this
 ·cases h
include hTQ in
theorem binS_ok {op:BinOp}{t t':Nat}{x y:Operand}(ho:o.op= .binOp op t x y t')(h:binS (T t) (Q t) op (evL e x) (evL e y)= .res p eff touch side)(hs:side):OpOK X ops (mkF e hl) o {pv:=p,eff:=eff,touch:=touch}:=by
 unfold binS at h
 split at h
 ·rename_i k m k' n hx hy
  split at h
  ·rename_i hk
   subst hk
   split at h
   ·cases h
    exact op_divrem hd ho ((ev_mk e hl x).trans hx) ((ev_mk e hl y).trans hy) hs (.inl ⟨rfl,rfl⟩)
   ·cases h
    exact op_divrem hd ho ((ev_mk e hl x).trans hx) ((ev_mk e hl y).trans hy) hs (.inr ⟨rfl,rfl⟩)
   ·split at h
    ·rename_i r hr
     cases h
     exact op_int hd ho ((ev_mk e hl x).trans hx) ((ev_mk e hl y).trans hy) hr
    ·cases h
  ·split at h
   ·split at h
    ·rename_i r hr
     cases h
     exact op_shift hd ho (.inl rfl) ((ev_mk e hl x).trans hx) ((ev_mk e hl y).trans hy) hr
    ·cases h
   ·split at h
    ·rename_i r hr
     cases h
     exact op_shift hd ho (.inr rfl) ((ev_mk e hl x).trans hx) ((ev_mk e hl y).trans hy) hr
    ·cases h
   ·cases h
 ·rename_i m n hx hy
  split at h
  ·cases h
   exact op_strAdd hd ho ((ev_mk e hl x).trans hx) ((ev_mk e hl y).trans hy) hs
  ·cases h
   exact op_strEq hd ho ((ev_mk e hl x).trans hx) ((ev_mk e hl y).trans hy) (.inl ⟨rfl,rfl⟩)
  ·cases h
   exact op_strEq hd ho ((ev_mk e hl x).trans hx) ((ev_mk e hl y).trans hy) (.inr ⟨rfl,rfl⟩)
  ·cases h
 ·rename_i m n hx hy
  split at h
  ·rename_i ti ht
   cases h
   exact op_boolEq hd ho (hTQ.t t _ ht) hs ((ev_mk e hl x).trans hx) ((ev_mk e hl y).trans hy) (.inl ⟨rfl,rfl⟩)
  ·rename_i ti ht
   cases h
   exact op_boolEq hd ho (hTQ.t t _ ht) hs ((ev_mk e hl x).trans hx) ((ev_mk e hl y).trans hy) (.inr ⟨rfl,rfl⟩)
  ·cases h
 ·rename_i hx hy
  split at h
  ·rename_i ti ht
   cases h
   exact op_nilNil hd ho (hTQ.t t _ ht) hs ((ev_mk e hl x).trans hx) ((ev_mk e hl y).trans hy) (.inl ⟨rfl,rfl⟩)
  ·rename_i ti ht
   cases h
   exact op_nilNil hd ho (hTQ.t t _ ht) hs ((ev_mk e hl x).trans hx) ((ev_mk e hl y).trans hy) (.inr ⟨rfl,rfl⟩)
  ·cases h
 ·rename_i k off hx hy
  split at h
  ·rename_i ti ht
   cases h
   exact op_ptrNil hd ho (hTQ.t t _ ht) hs (.inl ⟨k,off,(ev_mk e hl x).trans hx⟩) ((ev_mk e hl y).trans hy) (.inl ⟨rfl,rfl⟩)
  ·rename_i ti ht
   cases h
   exact op_ptrNil hd ho (hTQ.t t _ ht) hs (.inl ⟨k,off,(ev_mk e hl x).trans hx⟩) ((ev_mk e hl y).trans hy) (.inr ⟨rfl,rfl⟩)
  ·cases h
 ·rename_i k g sz i j hx hy
  split at h
  ·rename_i ti ht
   cases h
   exact op_ptrNil hd ho (hTQ.t t _ ht) hs (.inr (.inl ⟨k,g,sz,i,j,(ev_mk e hl x).trans hx⟩)) ((ev_mk e hl y).trans hy) (.inl ⟨rfl,rfl⟩)
  ·rename_i ti ht
   cases h
   exact op_ptrNil hd ho (hTQ.t t _ ht) hs (.inr (.inl ⟨k,g,sz,i,j,(ev_mk e hl x).trans hx⟩)) ((ev_mk e hl y).trans hy) (.inr ⟨rfl,rfl⟩)
  ·cases h
 ·rename_i ds hx hy
  split at h
  ·rename_i ti ht
   cases h
   exact op_ptrNil hd ho (hTQ.t t _ ht) hs (.inr (.inr ⟨ds,(ev_mk e hl x).trans hx⟩)) ((ev_mk e hl y).trans hy) (.inl ⟨rfl,rfl⟩)
  ·rename_i ti ht
   cases h
   exact op_ptrNil hd ho (hTQ.t t _ ht) hs (.inr (.inr ⟨ds,(ev_mk e hl x).trans hx⟩)) ((ev_mk e hl y).trans hy) (.inr ⟨rfl,rfl⟩)
  ·cases h
 ·rename_i sz a l n' c' hx hy
  split at h
  ·rename_i ti ht
   cases h
   exact op_slNil hd ho (hTQ.t t _ ht) hs (.inl ⟨_,_,_,(ev_mk e hl x).trans hx,rfl⟩) ((ev_mk e hl y).trans hy) (.inl ⟨rfl,rfl⟩)
  ·rename_i ti ht
   cases h
   exact op_slNil hd ho (hTQ.t t _ ht) hs (.inl ⟨_,_,_,(ev_mk e hl x).trans hx,rfl⟩) ((ev_mk e hl y).trans hy) (.inr ⟨rfl,rfl⟩)
  ·cases h
 ·rename_i ao n c n' c' hx hy
  split at h
  ·rename_i ti ht
   cases h
   exact op_slNil hd ho (hTQ.t t _ ht) hs (.inr ⟨_,_,_,(ev_mk e hl x).trans hx,rfl⟩) ((ev_mk e hl y).trans hy) (.inl ⟨rfl,rfl⟩)
  ·rename_i ti ht
   cases h
   exact op_slNil hd ho (hTQ.t t _ ht) hs (.inr ⟨_,_,_,(ev_mk e hl x).trans hx,rfl⟩) ((ev_mk e hl y).trans hy) (.inr ⟨rfl,rfl⟩)
  ·cases h
 ·rename_i ds es hx hy
  split at h
  ·rename_i n xs ys hq h1 h2
   split at h
   ·cases h
    exact op_eqAgg hd ho (hTQ.q t n hq) (.inl rfl) ((ev_mk e hl x).trans hx) ((ev_mk e hl y).trans hy) h1 h2 hs.1 hs.2
   ·cases h
    have:=op_eqAgg (X:=X) (ops:=ops) (s:=mkF e hl) hd ho (hTQ.q t n hq) (.inr rfl) ((ev_mk e hl x).trans hx) ((ev_mk e hl y).trans hy) h1 h2 hs.1 hs.2
    simpa using this
   ·cases h
  ·cases h
 ·cases h
include hTQ in
theorem fieldS_ok {t f:Nat}{x:Operand}(ho:o.op= .fieldAddr t x f)(h:fieldS (T t) f (evL e x)= .res p eff touch side)(hs:side):OpOK X ops (mkF e hl) o {pv:=p,eff:=eff,touch:=touch}:=by
 unfold fieldS at h
 split at h
 ·rename_i ti ht
  split at h
  ·rename_i off sz hf
   split at h
   ·rename_i ds hx
    cases h
    exact op_field hd ho (hTQ.t t ti ht) hf hs ((ev_mk e hl x).trans hx)
   ·rename_i k o' hx
    cases h
    exact op_fieldPtr hd ho (hTQ.t t ti ht) hf hs ((ev_mk e hl x).trans hx)
   ·rename_i k g sz' i j hx
    cases h
    exact op_fieldRp hd ho (hTQ.t t ti ht) hf hs ((ev_mk e hl x).trans hx)
   ·cases h
  ·cases h
 ·cases h
omit hd in
theorem drop_cons {α:Type}{l:List α}{j:Nat}{d:α}{r:List α}(h:l.drop j=d::r):l[j]? =some d:=by
 have:=List.getElem?_drop (xs:=l) (i:=j) (j:=0)
 rw[h]at this
 simpa using this.symm
include hTQ in
theorem loadS_ok {t:Nat}{x:Operand}(ho:o.op= .load t x)(h:loadS (T t) (hatL hl) (evL e x)= .res p eff touch side)(hs:side):OpOK X ops (mkF e hl) o {pv:=p,eff:=eff,touch:=touch}:=by
 unfold loadS at h
 split at h
 ·rename_i ti ht
  have ht:=hTQ.t t ti ht
  split at h
  ·rename_i ds hx
   have hx:=(ev_mk e hl x).trans hx
   split at h
   ·rename_i hag
    cases h
    exact op_loadE hd ho ht hx hs (.inl ⟨hag,rfl⟩)
   ·rename_i hag
    split at h
    ·rename_i d r
     cases h
     have hs':ti.size=1:=hs
     exact op_loadE hd ho ht hx (by rw[hs'];simp) (.inr ⟨by simpa using hag,hs',rfl⟩)
    ·cases h
  ·rename_i k off hx
   have hx:=(ev_mk e hl x).trans hx
   split at h
   ·rename_i TT cells hk
    split at h
    ·rename_i hag
     cases h
     exact op_loadP hd ho ht hx (s:=mkF e hl) hk hs (.inl ⟨hag,rfl⟩)
    ·rename_i hag
     split at h
     ·rename_i q r hc
      cases h
      have hs':ti.size=1:=hs
      have hc':=drop_cons hc
      exact op_loadP hd ho ht hx (s:=mkF e hl) hk (by have:=(List.getElem?_eq_some_iff.1 hc').1;omega) (.inr ⟨by simpa using hag,hs',hc'⟩)
     ·cases h
   ·cases h
  ·rename_i k g sz i j hx
   have hx:=(ev_mk e hl x).trans hx
   split at h
   ·rename_i E sz' g' rows hk
    split at h
    ·rename_i row hrow
     split at h
     ·rename_i hag
      cases h
      obtain⟨rfl,rfl,hj⟩:=hs
      exact op_loadRp hd ho ht hx (s:=mkF e hl) hk hrow hj (.inl ⟨hag,rfl⟩)
     ·rename_i hag
      split at h
      ·rename_i d r hc
       cases h
       obtain⟨rfl,rfl,hs',hj⟩:=hs
       have hc':=drop_cons hc
       exact op_loadRp hd ho ht hx (s:=mkF e hl) hk hrow (by omega) (.inr ⟨by simpa using hag,hs',hc'⟩)
      ·cases h
    ·cases h
   ·cases h
  ·cases h
 ·cases h
include hTQ in
theorem nifS_ok {op:BinOp}{t t':Nat}{x:Operand}(ho:o.op= .binOp op t x (.const .nilIface) t')(h:nifS (T t) op (evL e x)= .res p eff touch side)(hs:side):OpOK X ops (mkF e hl) o {pv:=p,eff:=eff,touch:=touch}:=by
 unfold nifS at h
 split at h
 ·rename_i ti ht hx
  cases h
  exact op_nilIf hd ho (hTQ.t _ _ ht) hs ((ev_mk e hl x).trans hx) (.inl rfl) (.inl ⟨rfl,rfl⟩)
 ·rename_i ti ht hx
  cases h
  exact op_nilIf hd ho (hTQ.t _ _ ht) hs ((ev_mk e hl x).trans hx) (.inl rfl) (.inr ⟨rfl,rfl⟩)
 ·rename_i ti ht hx
  cases h
  exact op_nilIf hd ho (hTQ.t _ _ ht) hs ((ev_mk e hl x).trans hx) (.inr rfl) (.inl ⟨rfl,rfl⟩)
 ·rename_i ti ht hx
  cases h
  exact op_nilIf hd ho (hTQ.t _ _ ht) hs ((ev_mk e hl x).trans hx) (.inr rfl) (.inr ⟨rfl,rfl⟩)
 ·cases h
include hTQ in
theorem indexS_ok {t:Nat}{x y:Operand}(ho:o.op= .indexAddr t x y)(h:indexS T (T t) (hatL hl) (evL e x) (evL e y)= .res p eff touch side)(hs:side):OpOK X ops (mkF e hl) o {pv:=p,eff:=eff,touch:=touch}:=by
 unfold indexS at h
 split at h
 ·rename_i ti ht
  split at h
  ·rename_i el he
   split at h
   ·rename_i te hte
    split at h
    ·rename_i kd n hy
     have hy:=(ev_mk e hl y).trans hy
     split at h
     ·rename_i sz rows hx
      split at h
      ·rename_i row hrow
       cases h
       exact op_index hd ho (hTQ.t t ti ht) he (hTQ.t el te hte) hs.1 ((ev_mk e hl x).trans hx) hy hs.2 hrow
      ·cases h
     ·rename_i k g hx
      split at h
      ·rename_i e' sz g' rows hk
       cases h
       obtain⟨rfl,rfl,h1,h2,h3⟩:=hs
       exact op_indexOwn hd ho (hTQ.t t ti ht) he (hTQ.t _ te hte) h1 ((ev_mk e hl x).trans hx) (s:=mkF e hl) hk hy h2 h3
      ·cases h
     ·rename_i k g sz st m hx
      cases h
      exact op_indexOsl hd ho (hTQ.t t ti ht) he (hTQ.t _ te hte) hs.1 ((ev_mk e hl x).trans hx) (s:=mkF e hl) hy hs.2.1 hs.2.2
     ·cases h
    ·cases h
   ·cases h
  ·split at h
   ·rename_i m el k off kd n ha hx hy
    split at h
    ·rename_i te hte
     cases h
     exact op_arrAddr hd ho (hTQ.t t ti ht) ha (hTQ.t el te hte) rfl ((ev_mk e hl x).trans hx) ((ev_mk e hl y).trans hy) hs.1 hs.2
    ·cases h
   ·cases h
 ·cases h
include hTQ in
theorem indexV_ok {t:Nat}{x y:Operand}(ho:o.op= .index t x y)(h:indexV T (T t) (evL e x) (evL e y)= .res p eff touch side)(hs:side):OpOK X ops (mkF e hl) o {pv:=p,eff:=eff,touch:=touch}:=by
 unfold indexV at h
 split at h
 ·rename_i ti ht
  split at h
  ·rename_i a kd n hx hy
   cases h
   exact op_strIndex hd ho (hTQ.t t ti ht) hs.1 ((ev_mk e hl x).trans hx) ((ev_mk e hl y).trans hy) hs.2.1 hs.2.2
  ·rename_i ds kd n hx hy
   split at h
   ·rename_i m el ha
    split at h
    ·rename_i te hte
     split at h
     ·rename_i q hq
      cases h
      exact op_arrIndex hd ho (hTQ.t t ti ht) ha (hTQ.t el te hte) hs.1 hs.2.1 ((ev_mk e hl x).trans hx) ((ev_mk e hl y).trans hy) hs.2.2.1 hs.2.2.2 hq
     ·cases h
    ·cases h
   ·cases h
  ·cases h
 ·cases h
theorem extrS_ok {x:Operand}{i:Nat}(ho:o.op= .extract x i)(h:extrS (evL e x) i= .res p eff touch side)(_hs:side):OpOK X ops (mkF e hl) o {pv:=p,eff:=eff,touch:=touch}:=by
 unfold extrS at h
 split at h
 ·rename_i ds hx
  split at h
  ·rename_i d hi
   cases h
   exact op_extract hd ho ((ev_mk e hl x).trans hx) hi
  ·cases h
 ·rename_i ds hx
  split at h
  ·rename_i d hi
   cases h
   exact op_extractP hd ho ((ev_mk e hl x).trans hx) hi
  ·cases h
 ·cases h
omit hd in
theorem partsS_ok:∀{parts:List (Nat × Operand)}{pd:List (Nat × List PV)},partsS e parts=some pd→pd.length=parts.length∧∀(j:Nat) (i:Nat) (x:Operand),parts[j]? =some (i,x)→pd[j]? =some (i,cellsP (evL e x))∧okP (evL e x)=true
 |[],pd,h=>by cases h;simp
 |(i,x)::l,pd,h=>by
  unfold partsS at h
  split at h
  ·rename_i hok
   split at h
   ·rename_i pd' h2
    cases h
    obtain⟨q1,q2⟩:=partsS_ok h2
    refine⟨by simp[q1],fun j i' y hj=>?_⟩
    cases j with
    |zero=>
     simp at hj
     obtain⟨rfl,rfl⟩:=hj
     exact⟨rfl,hok⟩
    |succ j=>simpa using q2 j i' y (by simpa using hj)
   ·cases h
  ·cases h
include hTQ in
theorem buildS_ok {t:Nat}{parts:List (Nat × Operand)}(ho:o.op= .build t ⟨parts⟩)(h:buildS T (T t) e parts= .res p eff touch side)(_hs:side):OpOK X ops (mkF e hl) o {pv:=p,eff:=eff,touch:=touch}:=by
 unfold buildS at h
 split at h
 ·rename_i ti ht
  split at h
  ·split at h
   ·rename_i n el ha
    split at h
    ·rename_i te pd hte hp
     split at h
     ·rename_i out hf
      cases h
      obtain⟨q1,q2⟩:=partsS_ok hp
      refine op_buildArr hd ho (hTQ.t t ti ht) ha (hTQ.t el te hte) (pd:=pd) (by simpa using q1) (fun j i x hj=>?_) hf
      obtain⟨r1,r2⟩:=q2 j i x (by simpa using hj)
      rw[ev_mk]
      exact⟨r1,r2⟩
     ·cases h
    ·cases h
   ·cases h
  ·rename_i f fs hfl
   split at h
   ·rename_i pd hp
    split at h
    ·rename_i out hf
     cases h
     obtain⟨q1,q2⟩:=partsS_ok hp
     refine op_build hd ho (hTQ.t t ti ht) (by rw[hfl];simp) (pd:=pd) (by simpa using q1) (fun j i x hj=>?_) (by rw[←hf,hfl])
     obtain⟨r1,r2⟩:=q2 j i x (by simpa using hj)
     rw[ev_mk]
     exact⟨r1,r2⟩
    ·cases h
   ·cases h
 ·cases h
omit hd in
theorem rowsS_ok:∀{parts:List (Nat × Operand)}{n:Nat}{rows:List (List PV)},rowsS e n parts=some rows→parts.length=rows.length∧∀(j:Nat) (i:Nat) (x:Operand),parts[j]? =some (i,x)→
 i=n+j∧rows[j]? =some (cellsP (evL e x))∧okP (evL e x)=true
 |[],n,rows,h=>by cases h;simp
 |(i,x)::l,n,rows,h=>by
  unfold rowsS at h
  split at h
  ·rename_i hok
   simp only[Bool.and_eq_true,beq_iff_eq]at hok
   split at h
   ·rename_i rows' h2
    cases h
    obtain⟨q1,q2⟩:=rowsS_ok h2
    refine⟨by simp[q1],fun j i' y hj=>?_⟩
    cases j with
    |zero=>
     simp at hj
     obtain⟨rfl,rfl⟩:=hj
     exact⟨by omega,rfl,hok.1⟩
    |succ j=>
     obtain⟨r0,r1,r3⟩:=q2 j i' y (by simpa using hj)
     exact⟨by omega,by simpa using r1,r3⟩
   ·cases h
  ·cases h
omit hd in
theorem dsR_at:∀{rows:List (List PV)}{ds:List (List D)},dsR rows=some ds→rows.length=ds.length∧∀(j:Nat) (r:List PV),rows[j]? =some r→∃d,ds[j]? =some d∧dsOf r=some d
 |[],ds,h=>by cases h;simp
 |r::l,ds,h=>by
  unfold dsR at h
  split at h
  ·rename_i d ds' h1 h2
   cases h
   obtain⟨q1,q2⟩:=dsR_at h2
   refine⟨by simp[q1],fun j x hj=>?_⟩
   cases j with
   |zero=>simp at hj;subst hj;exact⟨d,rfl,h1⟩
   |succ j=>simpa using q2 j x (by simpa using hj)
  ·cases h
omit hd in
theorem allLen_mem {sz:Nat}:∀{rows:List (List PV)},allLen sz rows→∀r∈rows,r.length=sz
 |r::rows,h,q,hq=>by
  rcases List.mem_cons.1 hq with rfl|hq
  ·exact h.1
  ·exact allLen_mem h.2 q hq
include hTQ in
theorem bslS_ok (hml:X.m≤hl.length){t n:Nat}{parts:List (Nat × Operand)}(ho:o.op= .buildSlice t n ⟨parts⟩)(h:bslS T (T t) hl.length e n parts= .res p eff touch side)(hs:side):OpOK X ops (mkF e hl) o {pv:=p,eff:=eff,touch:=touch}:=by
 unfold bslS at h
 split at h
 ·rename_i ti ht
  split at h
  ·rename_i el he
   split at h
   ·rename_i te hte
    split at h
    ·cases h
     exact op_buildSlice0 hd ho (hTQ.t t ti ht) he (hTQ.t el te hte) (s:=mkF e hl) (hatL_end hl) (by omega)
    ·rename_i n' parts'
     split at h
     ·rename_i rows hr
      obtain⟨q1,q2⟩:=rowsS_ok hr
      split at h
      ·rename_i ds hds
       cases h
       obtain⟨h1,h2,h3,h4⟩:=hs
       obtain⟨g1,g2⟩:=dsR_at hds
       refine op_buildSlice hd ho (hTQ.t t ti ht) he (hTQ.t el te hte) rfl h1 (by omega) h2 (by omega) (by simp;omega) (fun j i x hj=>?_)
       obtain⟨r0,r1,r3⟩:=q2 j i x (by simpa using hj)
       obtain⟨d,g3,g4⟩:=g2 j _ r1
       have hlen:=allLen_mem h4 _ (List.mem_of_getElem? r1)
       refine⟨by omega,d,g3,by rw[ev_mk];exact g4,by rw[ev_mk];exact r3,?_⟩
       have:=congrArg List.length (dsOf_eq g4)
       rw[List.length_map]at this
       omega
      ·cases h
       obtain⟨h1,h2,h3,h4⟩:=hs
       refine op_buildSliceO hd ho (hTQ.t t ti ht) he (hTQ.t el te hte) rfl h1 (by omega) h2 h3 (by simp;omega) (s:=mkF e hl) (hatL_end hl) (by omega) (fun j i x hj=>?_)
       obtain⟨r0,r1,r3⟩:=q2 j i x (by simpa using hj)
       rw[ev_mk]
       exact⟨by omega,r1,r3,allLen_mem h4 _ (List.mem_of_getElem? r1)⟩
     ·cases h
    ·cases h
   ·cases h
  ·cases h
 ·cases h
include hTQ in
theorem mkSlS_ok (hml:X.m≤hl.length){t:Nat}{x y:Operand}(ho:o.op= .makeSlice t x y)(h:mkSlS T (T t) hl.length (evL e x) (evL e y)= .res p eff touch side)(hs:side):OpOK X ops (mkF e hl) o {pv:=p,eff:=eff,touch:=touch}:=by
 unfold mkSlS at h
 split at h
 ·rename_i ti ht
  split at h
  ·rename_i el he
   split at h
   ·rename_i te hte
    split at h
    ·rename_i zv kx n ky m hz hx hy
     cases h
     obtain⟨h1,h2,h3,h4⟩:=hs
     subst h1
     exact op_makeSlice hd ho (hTQ.t t ti ht) he (hTQ.t el te hte) hz h2 h3 h4 (s:=mkF e hl) (by rw[ev_mk];exact hx) (by rw[ev_mk];exact hy) (hatL_end hl) (by omega)
    ·cases h
   ·cases h
  ·cases h
 ·cases h
include hTQ in
theorem convS_ok {src dst:Nat}{x:Operand}(ho:o.op= .convert src dst x)(h:convS T (T src) (T dst) (evL e x)= .res p eff touch side)(hs:side):OpOK X ops (mkF e hl) o {pv:=p,eff:=eff,touch:=touch}:=by
 unfold convS at h
 split at h
 ·rename_i ts td h1 h2
  split at h
  ·rename_i k k' n hi hx
   cases h
   exact op_convert hd ho (hTQ.t _ _ h1) (hTQ.t _ _ h2) hi ((ev_mk e hl x).trans hx)
  ·rename_i rows hi hx
   split at h
   ·rename_i el he
    split at h
    ·rename_i te hte
     split at h
     ·rename_i xs hb
      cases h
      exact op_strBytes hd ho (hTQ.t _ _ h1) (hTQ.t _ _ h2) he (hTQ.t _ _ hte) hs.1 hs.2 ((ev_mk e hl x).trans hx) hb
     ·cases h
    ·cases h
   ·cases h
  ·cases h
 ·cases h
include hTQ in
theorem lenS_ok {t:Nat}{x:Operand}(ho:o.op= .call ⟨.builtin .len,⟨[x]⟩,⟨[t]⟩⟩)(h:lenS (T t) (hatL hl) (evL e x)= .res p eff touch side)(hs:side):OpOK X ops (mkF e hl) o {pv:=p,eff:=eff,touch:=touch}:=by
 unfold lenS at h
 split at h
 ·rename_i ti ht
  split at h
  ·rename_i el he
   split at h
   ·rename_i sz rows hx
    cases h
    exact op_len (ty:=0) hd ho (hTQ.t _ _ ht) he ((ev_mk e hl x).trans hx) (.inl ⟨_,_,rfl,rfl⟩)
   ·rename_i hx
    cases h
    exact op_len (ty:=0) hd ho (hTQ.t _ _ ht) he ((ev_mk e hl x).trans hx) (.inr ⟨rfl,rfl⟩)
   ·rename_i k g hx
    split at h
    ·rename_i E sz g' rows hk
     cases h
     subst hs
     exact op_lenOwn hd ho (hTQ.t _ _ ht) he ((ev_mk e hl x).trans hx) (s:=mkF e hl) hk
    ·cases h
   ·rename_i k g sz st n hx
    cases h
    exact op_lenOsl hd ho (hTQ.t _ _ ht) he ((ev_mk e hl x).trans hx)
   ·cases h
  ·split at h
   ·rename_i a hx
    cases h
    exact op_strLen hd ho (hTQ.t _ _ ht) hs ((ev_mk e hl x).trans hx)
   ·cases h
 ·cases h
omit hd in
theorem srcS_ok {sz:Nat}{y:PV}{news:List (List PV)}{ty:List Nat}(h:srcS (hatL hl) sz y=some (news,ty)):SrcP (mkF e hl) sz y news ty:=by
 unfold srcS at h
 split at h
 ·split at h
  ·rename_i e1
   subst e1
   cases h
   exact .sl _
  ·cases h
 ·cases h
  exact .nil _ _
 ·split at h
  ·rename_i E sz' g' rows hk
   split at h
   ·rename_i e1
    obtain⟨rfl,rfl⟩:=e1
    cases h
    exact .own _ _ _ _ hk
   ·cases h
  ·cases h
 ·split at h
  ·rename_i E sz' g' rows hk
   split at h
   ·rename_i e1
    obtain⟨rfl,rfl,rfl⟩:=e1
    cases h
    exact .osl _ _ _ _ _ _ hk
   ·cases h
  ·cases h
 ·cases h
include hTQ in
theorem appS_ok (hml:X.m≤hl.length){t:Nat}{x y:Operand}(ho:o.op= .call ⟨.builtin .append,⟨[x,y]⟩,⟨[t,t]⟩⟩)(h:appS T (T t) hl.length (hatL hl) (evL e x) (evL e y)= .res p eff touch side)(hs:side):OpOK X ops (mkF e hl) o {pv:=p,eff:=eff,touch:=touch}:=by
 unfold appS at h
 split at h
 ·rename_i ti ht
  split at h
  ·rename_i el he
   split at h
   ·rename_i te hte
    split at h
    ·cases h
    ·rename_i hz
     have hz1:0 < te.size:=by omega
     have hz2:0 < te.bytes:=by omega
     have big:∀m:Nat,m*te.bytes≤140737488355328→m≤9223372036854775807:=fun m hm=>by
      have:=Nat.le_mul_of_pos_right m hz2
      omega
     split at h
     ·rename_i news ty hsrc
      have hsrc:=srcS_ok (e:=e) (hl:=hl) hsrc
      rw[←ev_mk e hl]at hsrc
      split at h
      ·rename_i k g hx
       split at h
       ·rename_i e' sz g' rows hk
        cases h
        obtain⟨rfl,rfl,rfl,hb⟩:=hs
        exact op_append hd ho (hTQ.t _ _ ht) he (hTQ.t _ _ hte) rfl hz1 ((ev_mk e hl x).trans hx) (s:=mkF e hl) hk hsrc (big _ hb) hb
       ·cases h
      ·rename_i hx
       cases h
       exact op_appendNil hd ho (hTQ.t _ _ ht) he (hTQ.t _ _ hte) rfl hz1 ((ev_mk e hl x).trans hx) (s:=mkF e hl) (hatL_end hl) (by omega) hsrc (big _ hs) hs
      ·rename_i k g sz st n hx
       split at h
       ·rename_i e' sz' g' rows hk
        cases h
        obtain⟨rfl,rfl,rfl,rfl,rfl,h1,h2⟩:=hs
        exact op_appendOsl hd ho (hTQ.t _ _ ht) he (hTQ.t _ _ hte) rfl hz1 ((ev_mk e hl x).trans hx) (s:=mkF e hl) hk h1 hsrc h2
       ·cases h
      ·cases h
     ·cases h
   ·cases h
  ·cases h
 ·cases h
include hTQ in
theorem sliceS_ok {t:Nat}{x:Operand}{lo hi mx:Option Operand}(ho:o.op= .slice t x lo hi mx)(h:sliceS T (T t) (hatL hl) (evL e x) (lo.map (evL e)) (hi.map (evL e)) (mx.map (evL e))= .res p eff touch side)(hs:side):OpOK X ops (mkF e hl) o {pv:=p,eff:=eff,touch:=touch}:=by
 have hm:∀y:Option Operand,y.map (evL e)=y.map (ev (mkF e hl)):=fun y=>by cases y<;>simp[ev_mk]
 rw[hm lo,hm hi]at h
 unfold sliceS at h
 split at h
 ·rename_i ti ht
  split at h
  ·rename_i el he
   split at h
   ·rename_i te hte
    split at h
    ·rename_i hmx
     have hmx:mx=none:=by simpa using hmx
     subst hmx
     split at h
     ·rename_i sz rows hx
      split at h
      ·rename_i l r hlo hhi
       cases h
       exact op_sliceD hd ho (hTQ.t _ _ ht) he (hTQ.t _ _ hte) hs.1 ((ev_mk e hl x).trans hx) hlo hhi hs.2.1 hs.2.2
      ·cases h
     ·rename_i k g hx
      split at h
      ·rename_i e' sz g' hk
       split at h
       ·rename_i l r hlo hhi
        cases h
        obtain⟨rfl,rfl,h1,rfl,rfl⟩:=hs
        exact op_sliceOwn0 hd ho (hTQ.t _ _ ht) he (hTQ.t _ _ hte) h1 ((ev_mk e hl x).trans hx) (s:=mkF e hl) hk hlo hhi
       ·cases h
      ·rename_i e' sz g' rows hne hk
       split at h
       ·rename_i l r hlo hhi
        cases h
        obtain⟨rfl,rfl,h1,h2,h3,h4⟩:=hs
        exact op_sliceOwn hd ho (hTQ.t _ _ ht) he (hTQ.t _ _ hte) h1 ((ev_mk e hl x).trans hx) (s:=mkF e hl) hk h2 hlo hhi h3 h4
       ·cases h
      ·cases h
     ·rename_i k g sz st n hx
      split at h
      ·rename_i e' sz' g' rows hk
       split at h
       ·rename_i l r hlo hhi
        cases h
        obtain⟨rfl,rfl,rfl,h1,h2,h3,h4⟩:=hs
        exact op_sliceOsl hd ho (hTQ.t _ _ ht) he (hTQ.t _ _ hte) h1 ((ev_mk e hl x).trans hx) (s:=mkF e hl) hk h2 hlo hhi h3 h4
       ·cases h
      ·cases h
     ·cases h
    ·rename_i m hmx
     split at h
     ·rename_i k g k1 n1 k2 n2 k3 n3 hx hlo hhi
      split at h
      ·rename_i e' sz g' rows hk
       cases h
       obtain⟨rfl,rfl,h1,h2,h3,h4,h5,h6⟩:=hs
       cases lo with
       |none=>cases hlo
       |some y1=>cases hi with
        |none=>cases hhi
        |some y2=>cases mx with
         |none=>cases hmx
         |some y3=>
          simp only[Option.map_some,Option.some.injEq]at hlo hhi hmx
          exact op_slice3 hd ho (hTQ.t _ _ ht) he (hTQ.t _ _ hte) h1 ((ev_mk e hl x).trans hx) (s:=mkF e hl) hk h2 hlo hhi ((ev_mk e hl y3).trans hmx) h3 h4 h5 h6
      ·cases h
     ·cases h
   ·cases h
  ·split at h
   ·rename_i a hx hmx
    have hmx:mx=none:=by simpa using hmx
    subst hmx
    split at h
    ·rename_i l r hlo hhi
     cases h
     exact op_strSlice hd ho (hTQ.t _ _ ht) hs.1 ((ev_mk e hl x).trans hx) hlo hhi hs.2.1 hs.2.2
    ·cases h
   ·cases h
 ·cases h
include hTQ in
theorem clearS_ok {t:Nat}{x:Operand}(ho:o.op= .call ⟨.builtin .clear,⟨[x]⟩,⟨[t]⟩⟩)(h:clearS T (T t) (hatL hl) (evL e x)= .res p eff touch side)(hs:side):OpOK X ops (mkF e hl) o {pv:=p,eff:=eff,touch:=touch}:=by
 unfold clearS at h
 split at h
 ·rename_i ti ht
  split at h
  ·rename_i el he
   split at h
   ·rename_i te hte
    split at h
    ·rename_i k g sz st n hx
     split at h
     ·rename_i e' sz' g' rows hk
      cases h
      obtain⟨rfl,rfl,rfl,h1,h2,h3⟩:=hs
      exact op_clearOsl hd ho (hTQ.t _ _ ht) he (hTQ.t _ _ hte) h1 ((ev_mk e hl x).trans hx) (s:=mkF e hl) hk h2 h3
     ·cases h
    ·cases h
   ·cases h
  ·cases h
 ·cases h
include hTQ in
theorem storeS_ok {t:Nat}{x y:Operand}(ho:o.op= .store t x y)(h:storeS (T t) (hatL hl) o.dst (evL e x) (evL e y)= .res p eff touch side)(hs:side):OpOK X ops (mkF e hl) o {pv:=p,eff:=eff,touch:=touch}:=by
 unfold storeS at h
 split at h
 ·rename_i ti ht hdst
  split at h
  ·rename_i k off hx
   split at h
   ·rename_i TT cells hk
    split at h
    ·rename_i hok
     cases h
     have:=op_store (X:=X) (ops:=ops) hd ho hdst (hTQ.t _ _ ht) ((ev_mk e hl x).trans hx) (s:=mkF e hl) hk (y:=y) (by rw[ev_mk];exact hok) (by rw[ev_mk];exact hs.1) hs.2
     rwa [ev_mk]at this
    ·cases h
   ·cases h
  ·rename_i k g sz i j hx
   split at h
   ·rename_i E sz' g' rows hk
    split at h
    ·rename_i row hrow
     split at h
     ·rename_i hok
      cases h
      obtain⟨rfl,rfl,h1,h2⟩:=hs
      have:=op_storeRp (X:=X) (ops:=ops) hd ho hdst (hTQ.t _ _ ht) ((ev_mk e hl x).trans hx) (s:=mkF e hl) hk hrow (y:=y) (by rw[ev_mk];exact hok) (by rw[ev_mk];exact h1) h2
      rwa [ev_mk]at this
     ·cases h
    ·cases h
   ·cases h
  ·cases h
 ·cases h
theorem makeMapS_ok (hml:X.m≤hl.length){t:Nat}(ho:o.op= .makeMap t none)(h:makeMapS (T t) hl.length= .res p eff touch side):OpOK X ops (mkF e hl) o {pv:=p,eff:=eff,touch:=touch}:=by
 unfold makeMapS at h
 split at h
 ·split at h
  ·cases h
   exact op_makeMap hd ho (s:=mkF e hl) (hatL_end hl) (by omega)
  ·cases h
 ·cases h
include hTQ in
theorem rangeS_ok (hml:X.m≤hl.length){t:Nat}{m:Operand}(ho:o.op= .range t m)(h:rangeS (T t) (hatL hl) hl.length (evL e m)= .res p eff touch side)(hs:side):OpOK X ops (mkF e hl) o {pv:=p,eff:=eff,touch:=touch}:=by
 unfold rangeS at h
 split at h
 ·rename_i ti ht
  split at h
  ·rename_i n sB hmp
   split at h
   ·rename_i k hm
    split at h
    ·rename_i n' sB' ents hk
     cases h
     obtain⟨rfl,rfl⟩:=hs
     exact op_range (X:=X) (ops:=ops) hd ho (hTQ.m _ _ _ _ ht hmp) ((ev_mk e hl m).trans hm) (s:=mkF e hl) hk (hatL_end hl) (by omega)
    ·cases h
   ·cases h
  ·cases h
 ·cases h
omit hTQ in
theorem entryS_ok {x:Operand}(ho:o.op= .entry x)(h:entryS (hatL hl) (evL e x)= .res p eff touch side):OpOK X ops (mkF e hl) o {pv:=p,eff:=eff,touch:=touch}:=by
 unfold entryS at h
 split at h
 ·rename_i k hx
  split at h
  ·rename_i n sB ents seen hk
   split at h
   ·rename_i i hi
    split at h
    ·rename_i kv hkv
     cases h
     exact op_entry (X:=X) (ops:=ops) hd ho ((ev_mk e hl x).trans hx) (s:=mkF e hl) hk hi hkv
    ·cases h
   ·cases h
  ·cases h
 ·cases h
include hTQ in
theorem lookupS_ok {t:Nat}{m x:Operand}{ok:Bool}(ho:o.op= .lookup t m x ok)(h:lookupS (T t) (hatL hl) (evL e m) (evL e x) ok= .res p eff touch side)(hs:side):OpOK X ops (mkF e hl) o {pv:=p,eff:=eff,touch:=touch}:=by
 unfold lookupS at h
 split at h
 ·rename_i ti ht
  split at h
  ·rename_i n sB hmp
   split at h
   ·rename_i k hm
    split at h
    ·rename_i n' sB' ents hk
     split at h
     ·rename_i xs hx
      cases h
      obtain⟨rfl,rfl,h3⟩:=hs
      exact op_lookup (X:=X) (ops:=ops) hd ho (hTQ.m _ _ _ _ ht hmp) ((ev_mk e hl m).trans hm) (s:=mkF e hl) hk (by rw[ev_mk];exact hx) h3
     ·cases h
    ·cases h
   ·cases h
  ·cases h
 ·cases h
include hTQ in
theorem mapUpS_ok {t:Nat}{m x y:Operand}(ho:o.op= .mapUpdate t m x y∨o.op= .insert t m x y)(h:mapUpS (T t) (hatL hl) o.dst (evL e m) (evL e x) (evL e y)= .res p eff touch side)(hs:side):OpOK X ops (mkF e hl) o {pv:=p,eff:=eff,touch:=touch}:=by
 unfold mapUpS at h
 split at h
 ·rename_i ti ht hdst
  split at h
  ·rename_i n sB hmp
   split at h
   ·rename_i k hm
    split at h
    ·rename_i n' sB' ents hk
     split at h
     ·rename_i xs v hx hy
      cases h
      obtain⟨rfl,rfl,h3⟩:=hs
      exact op_mapUpdate (X:=X) (ops:=ops) hd ho hdst (hTQ.m _ _ _ _ ht hmp) ((ev_mk e hl m).trans hm) (s:=mkF e hl) hk (by rw[ev_mk];exact hx) h3 ((ev_mk e hl y).trans hy)
     ·cases h
    ·cases h
   ·cases h
  ·cases h
 ·cases h
end
section
variable {X:Cfg}{ops:Array Oper}{e:Env}{hl:List Chunk}{o:Oper}{T:Nat→Option TI}{Q:Nat→Option Nat}(hTQ:TabOK X.P T Q)(hd:∀d,o.dst=some d→d < X.n)
include hTQ hd
theorem opS_ok (hml:X.m≤hl.length){p:PV}{eff:List (Nat × Chunk)}{touch:List Nat}{side:Prop}(h:opS T Q e hl o= .res p eff touch side)(hs:side):OpOK X ops (mkF e hl) o {pv:=p,eff:=eff,touch:=touch}:=by
 unfold opS at h
 split at h
 ·rename_i x ho
  cases h
  have:=op_move (X:=X) (ops:=ops) (s:=mkF e hl) hd ho
  rwa [ev_mk]at this
 ·rename_i x ho
  cases h
  have:=op_assign (X:=X) (ops:=ops) (s:=mkF e hl) hd ho
  rwa [ev_mk]at this
 ·rename_i ho;exact pickS_ok hd ho h hs
 ·rename_i ho;exact unS_ok hd ho h hs
 ·rename_i ho;exact nilS_ok hd ho h hs
 ·rename_i ho;exact nifS_ok hTQ hd ho h hs
 ·rename_i ho;exact binS_ok hTQ hd ho h hs
 ·rename_i ho;exact fieldS_ok hTQ hd ho h hs
 ·rename_i ho;exact loadS_ok hTQ hd ho h hs
 ·rename_i ho;exact indexS_ok hTQ hd ho h hs
 ·rename_i ho;exact indexV_ok hTQ hd ho h hs
 ·rename_i ho;exact extrS_ok hd ho h hs
 ·rename_i t ho
  split at h
  ·rename_i ti ht
   cases h
   exact op_alloc hd ho (hTQ.t _ _ ht) (s:=mkF e hl) (hatL_end hl) (by omega)
  ·cases h
 ·rename_i t x ho
  split at h
  ·rename_i hok
   cases h
   have:=op_box (X:=X) (ops:=ops) (s:=mkF e hl) hd ho (hatL_end hl) (by omega) (by rw[ev_mk];exact hok)
   rwa [ev_mk]at this
  ·cases h
 ·rename_i ho;exact storeS_ok hTQ hd ho h hs
 ·rename_i ho;exact buildS_ok hTQ hd ho h hs
 ·rename_i ho;exact bslS_ok hTQ hd hml ho h hs
 ·rename_i g caps ho
  cases h
  have:=op_makeFunc (X:=X) (ops:=ops) (s:=mkF e hl) hd ho
  have e1:(List.map (ev (mkF e hl)) caps)=caps.map (evL e):=List.map_congr_left fun x _=>ev_mk e hl x
  simp only at this
  rwa [e1]at this
 ·rename_i ho;exact convS_ok hTQ hd ho h hs
 ·rename_i ho;exact lenS_ok hTQ hd ho h hs
 ·rename_i ho;exact sliceS_ok hTQ hd ho h hs
 ·rename_i ho;exact clearS_ok hTQ hd ho h hs
 ·rename_i x y t t' ho
  split at h
  ·rename_i e1
   subst e1
   exact appS_ok hTQ hd hml ho h hs
  ·cases h
 ·rename_i x y tys ho
  split at h
  ·rename_i k m k' n hx hy
   split at h
   ·rename_i e1
    subst e1
    cases h
    exact op_min hd ho ((ev_mk e hl x).trans hx) ((ev_mk e hl y).trans hy)
   ·cases h
  ·cases h
 ·rename_i x y tys ho
  split at h
  ·rename_i k m k' n hx hy
   split at h
   ·rename_i e1
    subst e1
    cases h
    exact op_max hd ho ((ev_mk e hl x).trans hx) ((ev_mk e hl y).trans hy)
   ·cases h
  ·cases h
 ·unfold callS at h
  split at h<;>cases h
 ·rename_i ho;exact mkSlS_ok hTQ hd hml ho h hs
 ·rename_i ho;exact makeMapS_ok hd hml ho h
 ·rename_i ho;exact lookupS_ok hTQ hd ho h hs
 ·rename_i ho;exact rangeS_ok hTQ hd hml ho h hs
 ·rename_i ho;exact entryS_ok hd ho h
 ·rename_i ho;exact mapUpS_ok hTQ hd (.inl ho) h hs
 ·rename_i ho;exact mapUpS_ok hTQ hd (.inr ho) h hs
 ·cases h
omit hTQ hd in
theorem opS_call {g:Nat}{ps:List PV}(h:opS T Q e hl o= .call g ps):∃(fo:Operand) (args:List Operand) (tys:Array Nat) (caps:List PV),o.op= .call ⟨.value fo,⟨args⟩,tys⟩∧(evL e fo= .clo g caps∨∃cd:List D,evL e fo= .d (.clo g cd)∧caps=cd.map .d)∧ps=args.map (evL e)++caps:=by
 have key:∀(fo:Operand) (args:List Operand) (tys:Array Nat),o.op= .call ⟨.value fo,⟨args⟩,tys⟩→callS (evL e fo) (args.map (evL e))= .call g ps→∃(fo:Operand) (args:List Operand) (tys:Array Nat) (caps:List PV),o.op= .call ⟨.value fo,⟨args⟩,tys⟩∧(evL e fo= .clo g caps∨∃cd:List D,evL e fo= .d (.clo g cd)∧caps=cd.map .d)∧ps=args.map (evL e)++caps:=by
  intro fo args tys ho h
  unfold callS at h
  split at h
  ·rename_i g' caps hfo
   cases h
   exact⟨fo,args,tys,caps,ho,.inl hfo,rfl⟩
  ·rename_i g' cd hfo
   cases h
   exact⟨fo,args,tys,_,ho,.inr ⟨cd,hfo,rfl⟩,rfl⟩
  ·cases h
 unfold opS at h
 split at h<;>first
  |(rename_i ho;exact key _ _ _ ho h)
  |(exfalso;revert h;unfold pickS;repeat(first|(split)|(intro h;cases h)))
  |(exfalso;revert h;unfold unS;repeat(first|(split)|(intro h;cases h)))
  |(exfalso;revert h;unfold nilS;repeat(first|(split)|(intro h;cases h)))
  |(exfalso;revert h;unfold nifS;repeat(first|(split)|(intro h;cases h)))
  |(exfalso;revert h;unfold binS;repeat(first|(split)|(intro h;cases h)))
  |(exfalso;revert h;unfold fieldS;repeat(first|(split)|(intro h;cases h)))
  |(exfalso;revert h;unfold loadS;repeat(first|(split)|(intro h;cases h)))
  |(exfalso;revert h;unfold indexV;repeat(first|(split)|(intro h;cases h)))
  |(exfalso;revert h;unfold indexS;repeat(first|(split)|(intro h;cases h)))
  |(exfalso;revert h;unfold extrS;repeat(first|(split)|(intro h;cases h)))
  |(exfalso;revert h;unfold storeS;repeat(first|(split)|(intro h;cases h)))
  |(exfalso;revert h;unfold buildS;repeat(first|(split)|(intro h;cases h)))
  |(exfalso;revert h;unfold bslS;repeat(first|(split)|(intro h;cases h)))
  |(exfalso;revert h;unfold convS;repeat(first|(split)|(intro h;cases h)))
  |(exfalso;revert h;unfold lenS;repeat(first|(split)|(intro h;cases h)))
  |(exfalso;revert h;unfold appS;repeat(first|(split)|(intro h;cases h)))
  |(exfalso;revert h;unfold sliceS;repeat(first|(split)|(intro h;cases h)))
  |(exfalso;revert h;unfold clearS;repeat(first|(split)|(intro h;cases h)))
  |(exfalso;revert h;unfold mkSlS;repeat(first|(split)|(intro h;cases h)))
  |(exfalso;revert h;unfold makeMapS;repeat(first|(split)|(intro h;cases h)))
  |(exfalso;revert h;unfold lookupS;repeat(first|(split)|(intro h;cases h)))
  |(exfalso;revert h;unfold rangeS;repeat(first|(split)|(intro h;cases h)))
  |(exfalso;revert h;unfold entryS;repeat(first|(split)|(intro h;cases h)))
  |(exfalso;revert h;unfold mapUpS;repeat(first|(split)|(intro h;cases h)))
  |(exfalso;revert h;repeat(first|(split)|(intro h;cases h)))
end
def putE (e:Env)(dst:Option Nat)(p:PV):Env:=
 match dst with
 |some d=>(d,p)::e
 |none=>e
def setC:List Chunk→Nat→Chunk→List Chunk
 |[],0,c=>[c]
 |[],_+1,_=>[]
 |_::l,0,c=>c::l
 |a::l,k+1,c=>a::setC l k c
def effC:List (Nat × Chunk)→List Chunk→List Chunk
 |[],h=>h
 |(k,c)::l,h=>setC (effC l h) k c
theorem hatL_setC:∀{h:List Chunk}{k:Nat}{c:Chunk},k≤h.length→∀k',hatL (setC h k c) k'=if k'=k then c else hatL h k'
 |[],0,c,_,k'=>by cases k'<;>simp[setC,hatL]
 |[],k+1,c,h,k'=>by simp at h
 |a::l,0,c,_,k'=>by cases k'<;>simp[setC,hatL]
 |a::l,k+1,c,h,k'=>by
  cases k' with
  |zero=>simp[setC,hatL]
  |succ k'=>
   simp only[setC,hatL]
   rw[hatL_setC (by simpa using h)]
   simp
theorem setC_len:∀{h:List Chunk}{k:Nat}{c:Chunk},h.length≤(setC h k c).length
 |[],0,c=>by simp[setC]
 |[],k+1,c=>by simp[setC]
 |a::l,0,c=>by simp[setC]
 |a::l,k+1,c=>by
  have:=setC_len (h:=l) (k:=k) (c:=c)
  simpa[setC]using this
theorem effC_len:∀{eff:List (Nat × Chunk)}{h:List Chunk},h.length≤(effC eff h).length
 |[],_=>Nat.le_refl _
 |(_,_)::_,_=>Nat.le_trans effC_len setC_len
theorem hatL_effC:∀{eff:List (Nat × Chunk)}{h:List Chunk},(∀kc∈eff,kc.1≤h.length)→∀k',hatL (effC eff h) k'=effH eff (hatL h) k'
 |[],_,_,_=>rfl
 |(k,c)::l,h,hk,k'=>by
  simp only[effC,effH]
  rw[hatL_setC (Nat.le_trans (hk (k,c) (by simp)) effC_len),hatL_effC fun kc hkc=>hk kc (by simp[hkc])]
theorem mkF_app {e:Env}{h:List Chunk}{dst:Option Nat}{p:PV}{eff:List (Nat × Chunk)}{touch:List Nat}(hk:∀kc∈eff,kc.1≤h.length):(mkF e h).app dst {pv:=p,eff:=eff,touch:=touch}=mkF (putE e dst p) (effC eff h):=by
 have h1:hatL (effC eff h)=effH eff (hatL h):=funext (hatL_effC hk)
 cases dst with
 |none=>simp only[FS.app,FS.put,mkF,putE,h1]
 |some d=>
  simp only[FS.app,FS.put,mkF,putE,h1]
  congr 1
theorem setC_lt:∀{h:List Chunk}{k:Nat}{c:Chunk},k < h.length→(setC h k c).length=h.length
 |a::l,0,c,_=>rfl
 |a::l,k+1,c,hk=>by simp only[setC,List.length_cons];rw[setC_lt (by simpa using hk)]
theorem setC_end:∀{h:List Chunk}{c:Chunk},(setC h h.length c).length=h.length+1
 |[],c=>rfl
 |a::l,c=>by simp only[setC,List.length_cons];rw[setC_end]
def heapM (ρ:Nat→Nat):Nat→List Chunk→List Chunk→List Chunk
 |_,[],h=>h
 |j,c::l,h=>heapM ρ (j+1) l (setC h (ρ j) (renC ρ c))
theorem effH_put {ρ:Nat→Nat}(inj:∀i j,ρ i=ρ j→i=j){c:Chunk}:∀(l:List Chunk) (i j:Nat) (h:Nat→Chunk),j < i→∀k,effH (effM ρ i l) (fun k'=>if k'=ρ j then c else h k') k=if k=ρ j then c else effH (effM ρ i l) h k
 |[],i,j,h,hj,k=>rfl
 |d::l,i,j,h,hj,k=>by
  simp only[effM,effH]
  by_cases e:k=ρ i
  ·rw[if_pos e,if_pos e,if_neg (fun e2=>by have:=inj _ _ (e.symm.trans e2);omega)]
  ·rw[if_neg e,if_neg e]
   exact effH_put inj l (i+1) j h (by omega) k
theorem heapM_ok {ls:List Nat}{nk:Nat}(hnd:ls.Nodup)(hlt:∀k∈ls,k < nk):∀(l:List Chunk) (i:Nat) (h:List Chunk),(i≤ls.length→h.length=nk)→(ls.length≤i→h.length=nk+(i - ls.length))→
 (∀k,hatL (heapM (rid ls nk) i l h) k=effH (effM (rid ls nk) i l) (hatL h) k)∧h.length≤(heapM (rid ls nk) i l h).length
 |[],i,h,_,_=>⟨fun _=>rfl,Nat.le_refl _⟩
 |c::l,i,h,h1,h2=>by
  have inj:∀i j,rid ls nk i=rid ls nk j→i=j:=fun i j e=>rid_inj hnd hlt e
  rcases Nat.lt_or_ge i ls.length with hi|hi
  ·have hlen:=h1 (by omega)
   have hk:rid ls nk i < h.length:=by rw[hlen];exact hlt _ (List.mem_of_getElem? (rid_old hi))
   have hset:=setC_lt (c:=renC (rid ls nk) c) hk
   obtain⟨q1,q2⟩:=heapM_ok hnd hlt l (i+1) (setC h (rid ls nk i) (renC (rid ls nk) c)) (fun _=>hset.trans hlen) (fun hge=>by rw[hset,hlen];omega)
   refine⟨fun k=>?_,by rw[hset]at q2;exact q2⟩
   simp only[heapM,effM,effH]
   rw[q1 k,show hatL (setC h (rid ls nk i) (renC (rid ls nk) c))=fun k'=>if k'=rid ls nk i then renC (rid ls nk) c else hatL h k' from funext (hatL_setC (Nat.le_of_lt hk))]
   exact effH_put inj l (i+1) i _ (by omega) k
  ·have hlen:=h2 hi
   have hk:rid ls nk i=h.length:=by
    have:=rid_new ls nk (i - ls.length)
    rw[show ls.length+(i - ls.length)=i by omega]at this
    omega
   have hset:(setC h (rid ls nk i) (renC (rid ls nk) c)).length=h.length+1:=by rw[hk];exact setC_end
   obtain⟨q1,q2⟩:=heapM_ok hnd hlt l (i+1) (setC h (rid ls nk i) (renC (rid ls nk) c)) (fun hge=>by omega) (fun _=>by rw[hset,hlen];omega)
   refine⟨fun k=>?_,Nat.le_trans (by omega) q2⟩
   simp only[heapM,effM,effH]
   rw[q1 k,show hatL (setC h (rid ls nk i) (renC (rid ls nk) c))=fun k'=>if k'=rid ls nk i then renC (rid ls nk) c else hatL h k' from funext (hatL_setC (by omega))]
   exact effH_put inj l (i+1) i _ (by omega) k
def yieldD (dj:Option Nat)(e:Env):Option (Option Bool):=
 match dj with
 |none=>some none
 |some t=>match look e t with
  | .d (.v (.bool b))=>some (some b)
  | .d (.v (.tuple _))=>some none
  |_=>none
def guardD (ds:List (Option Nat))(e:Env)(o:Oper):Option Bool:=
 match o.guard with
 |none=>some true
 |some (j,want)=>(yieldD (ds.getD j none) e).map (·==some want)
theorem guardD_ok {ops:Array Oper}{e:Env}{h:List Chunk}{o:Oper}:guardS ops (mkF e h) o=guardD (ops.toList.map (·.dst)) e o:=by
 unfold guardS guardD
 cases o.guard with
 |none=>rfl
 |some jw=>
  obtain⟨j,want⟩:=jw
  simp only
  congr 1
  unfold yieldS yieldD
  have:(ops[j]?).bind (·.dst)=(ops.toList.map (·.dst)).getD j none:=by
   simp only[List.getD_eq_getElem?_getD,List.getElem?_map,Array.getElem?_toList]
   cases ops[j]? <;>rfl
  rw[this]
  rfl
def dstB (n:Nat)(o:Oper):Bool:=match o.dst with|some d=>decide (d < n)|none=>true
def vwL (h:Nat→Chunk)(ps:List PV):Option (List D):=viewL (vw h) ps
def tcL (h:Nat→Chunk)(ps:List PV):List Nat:=tchL (tc h) ps
def mids (ls:List Nat)(nk n:Nat):List Nat:=(List.range n).map (rid ls nk)
def runO (P:Program)(r:SR)(dst:Option Nat)(e:Env)(h:List Chunk)(sm:List (List Nat × List Nat))(R:Env→List Chunk→List (List Nat × List Nat)→Prop):Prop:=
 match r with
 | .no=>False
 | .res p eff touch side=>side∧(eff.all fun kc=>decide (kc.1≤h.length))=true∧R (putE e dst p) (effC eff h) ((eff.map (·.1),touch)::sm)
 | .call g ps=>(∃ds r,vwL (hatL h) ps=some ds∧PSpec P g ds r∧(tcL (hatL h) ps=[]∨r.flat=true)∧R (putE e dst (.d r)) h (([],tcL (hatL h) ps)::sm))∨
  (∃ls args h0 r h1,MSpec P g args h0 r h1∧ps=renL (rid ls h.length) args∧ls.length=h0.length∧ls.Nodup∧(∀k∈ls,k < h.length)∧lentOK (hatL h) (rid ls h.length) 0 h0∧
   R (putE e dst (ren (rid ls h.length) r)) (heapM (rid ls h.length) 0 h1 h) ((mids ls h.length h1.length,mids ls h.length h1.length)::sm))∨
  ∃ls args h0 r,MSpec P g args h0 r h0∧ps=renL (rid ls h.length) args∧ls.length=h0.length∧ls.Nodup∧(∀k∈ls,k < h.length)∧lentOK (hatL h) (rid ls h.length) 0 h0∧
   R (putE e dst (ren (rid ls h.length) r)) h (([],mids ls h.length h0.length)::sm)
def sOps (P:Program)(n:Nat)(T:Nat→Option TI)(Q:Nat→Option Nat)(draw:Bool)(ops:Array Oper)(ds:List (Option Nat)):List Oper→Env→List Chunk→List (List Nat × List Nat)→(Env→List Chunk→Prop)→Prop
 |[],e,h,sm,K=>(draw=true→(indepB ops sm.reverse&&edgesB ops)=true)∧K e h
 |o::l,e,h,sm,K=>
  match guardD ds e o with
  |some g=>
   dstB n o=true∧
   (g=true→runO P (opS T Q e h o) o.dst e h sm (fun e' h' sm'=>sOps P n T Q draw ops ds l e' h' sm' K))∧
   (g=false→sOps P n T Q draw ops ds l (putE e o.dst (.d (.v undef))) h (([],[])::sm) K)
  |none=>False
theorem sOps_sound {X:Cfg}{T:Nat→Option TI}{Q:Nat→Option Nat}(hTQ:TabOK X.P T Q){draw:Bool}{ops:Array Oper}{K:Env→List Chunk→Prop}:∀(l:List Oper) (i:Nat) (e:Env) (h:List Chunk) (sm:List (List Nat × List Nat)),X.m≤h.length→ops.toList.drop i=l→i≤ops.size→
 sOps X.P X.n T Q draw ops (ops.toList.map (·.dst)) l e h sm K→∃its e' h',TraceOK X ops (mkF e h) i its∧runS (mkF e h) its=mkF e' h'∧(draw=true→(indepB ops (sm.reverse++smOf its)&&edgesB ops)=true)∧K e' h'
 |[],i,e,h,sm,hml,hl,hi,hs=>by
  refine⟨[],e,h,?_,rfl,by simpa[smOf]using hs.1,hs.2⟩
  have:=congrArg List.length hl
  simp at this
  simp only[TraceOK]
  omega
 |o::l,i,e,h,sm,hml,hl,hi,hs=>by
  have hlt:i < ops.size:=by
   have:=congrArg List.length hl
   simp at this
   omega
  have hoi:ops[i]? =some o:=by
   have:=List.getElem?_drop (xs:=ops.toList) (i:=i) (j:=0)
   rw[hl]at this
   simpa using this.symm
  have hl':ops.toList.drop (i+1)=l:=by
   rw[←List.drop_drop,hl];rfl
  unfold sOps at hs
  split at hs
  ·rename_i g hg
   obtain⟨hdst,h1,h2⟩:=hs
   have hd:∀d,o.dst=some d→d < X.n:=by
    intro d hd
    unfold dstB at hdst
    rw[hd]at hdst
    simpa using hdst
   have hgS:guardS ops (mkF e h) o=some g:=guardD_ok.trans hg
   have step:∀(res:Res) (e2:Env) (h2:List Chunk),ItOK X ops (mkF e h) ⟨o,g,res⟩→(mkF e h).app o.dst res=mkF e2 h2→h.length≤h2.length→sOps X.P X.n T Q draw ops (ops.toList.map (·.dst)) l e2 h2 ((res.eff.map (·.1),res.touch)::sm) K→
    ∃its e' h',TraceOK X ops (mkF e h) i its∧runS (mkF e h) its=mkF e' h'∧(draw=true→(indepB ops (sm.reverse++smOf its)&&edgesB ops)=true)∧K e' h':=by
    intro res e2 h2 hit happ hlen hs
    obtain⟨its,e',h',t1,t2,t3,t4⟩:=sOps_sound hTQ l (i+1) e2 h2 _ (by omega) hl' (by omega) hs
    refine⟨⟨o,g,res⟩::its,e',h',⟨hoi,hit,by rw[happ];exact t1⟩,?_,fun hdr=>?_,t4⟩
    ·show runS ((mkF e h).app o.dst res) its=_
     rw[happ]
     exact t2
    ·have:=t3 hdr
     simpa[smOf]using this
   cases g with
   |true=>
    have h1:=h1 rfl
    unfold runO at h1
    split at h1
    ·exact h1.elim
    ·rename_i p eff touch side hop
     obtain⟨hside,heff,hrest⟩:=h1
     have hk:∀kc∈eff,kc.1≤h.length:=fun kc hkc=>by
      have:=List.all_eq_true.1 heff kc hkc
      simpa using this
     exact step ⟨p,eff,touch⟩ _ _ ⟨hgS,fun _=>opS_ok hTQ hd hml hop hside,fun hf=>by cases hf⟩ (mkF_app hk) effC_len hrest
    ·rename_i g ps hop
     obtain⟨fo,args,tys,caps,ho,hf,rfl⟩:=opS_call hop
     have e1:(List.map (ev (mkF e h)) args)=args.map (evL e):=List.map_congr_left fun x _=>ev_mk e h x
     have hf':ev (mkF e h) fo= .clo g caps∨∃cd:List D,ev (mkF e h) fo= .d (.clo g cd)∧caps=cd.map .d:=by rw[ev_mk];exact hf
     rcases h1 with⟨ds,r,hv,hp,hfl,hrest⟩|⟨ls,margs,h0,r,hh1,hM,hps,g1,g2,g3,g4,hrest⟩|⟨ls,margs,h0,r,hM,hps,g1,g2,g3,g4,hrest⟩
     ·have:=op_call (X:=X) (ops:=ops) (s:=mkF e h) hd ho hf' (by simp only;rw[e1];exact hv) hp (by simp only;rw[e1];exact hfl)
      simp only at this
      rw[e1]at this
      exact step ⟨.d r,[],_⟩ _ h ⟨hgS,fun _=>this,fun hf=>by cases hf⟩ (mkF_app (fun kc h=>by simp at h)) (Nat.le_refl _) hrest
     ·have:=op_mcall (X:=X) (ops:=ops) (s:=mkF e h) (ls:=ls) (nk:=h.length) hd ho hf' hM (by simp only;rw[e1];exact hps) g1 g2 g3 g4 (fun i _=>hat_over h (h.length+i) (by omega)) hml
      obtain⟨q1,q2⟩:=heapM_ok g2 g3 hh1 0 h (fun _=>rfl) (fun h0=>by omega)
      refine step ⟨_,_,_⟩ (putE e o.dst (ren (rid ls h.length) r)) (heapM (rid ls h.length) 0 hh1 h) ⟨hgS,fun _=>this,fun hf=>by cases hf⟩ ?_ q2 ?_
      ·have h3:hatL (heapM (rid ls h.length) 0 hh1 h)=effH (effM (rid ls h.length) 0 hh1) (hatL h):=funext q1
       cases hdd:o.dst with
       |none=>simp only[FS.app,FS.put,mkF,putE,h3]
       |some d=>
        simp only[FS.app,FS.put,mkF,putE,h3]
        congr 1
      ·have h4:(effM (rid ls h.length) 0 hh1).map (·.1)=mids ls h.length hh1.length:=by
        rw[effM_keys]
        exact List.map_congr_left fun j _=>by rw[Nat.zero_add]
       simp only
       rw[h4]
       exact hrest
     ·have:=op_rcall (X:=X) (ops:=ops) (s:=mkF e h) (ls:=ls) (nk:=h.length) hd ho hf' hM (by simp only;rw[e1];exact hps) g1 g2 g3 g4 hml
      exact step ⟨ren (rid ls h.length) r,[],_⟩ _ h ⟨hgS,fun _=>this,fun hf=>by cases hf⟩ (mkF_app (fun kc h=>by simp at h)) (Nat.le_refl _) hrest
   |false=>
    exact step undefR _ h ⟨hgS,(fun hf=>(by cases hf)),fun _=>⟨rfl,hd⟩⟩ (mkF_app (fun kc h=>by simp at h)) (Nat.le_refl _) (h2 rfl)
  ·exact hs.elim
theorem region_sound {X:Cfg}{T:Nat→Option TI}{Q:Nat→Option Nat}(hTQ:TabOK X.P T Q)(hm:X.P.follows .mixedOrders=true){id:Nat}{draw:Bool}{ops:Array Oper}{K:Env→List Chunk→Prop}{e:Env}{h:List Chunk}{a:Act}{w:World}{R:Exit→Act→World→Prop}(hml:X.m≤h.length)
 (hs:sOps X.P X.n T Q draw ops (ops.toList.map (·.dst)) ops.toList e h [] K) (hr:Real X (mkF e h) a w) (hR:∀e' h' a' w',K e' h'→Real X (mkF e' h') a' w'→R .normal a' w'):(Code.region id ops draw).wp X.P R a w:=by
 obtain⟨its,e',h',t1,t2,t3,t4⟩:=sOps_sound hTQ ops.toList 0 e h [] hml rfl (Nat.zero_le _) hs
 refine region_real hm id draw t1 (fun hd=>?_) hr (fun a' w' hr'=>hR e' h' a' w' t4 (by rw[←t2];exact hr'))
 have:=t3 hd
 simpa using this
def Weak (P:Program)(n m:Nat)(e:Env)(h:List Chunk)(e':Env)(h':List Chunk):Prop:=∀X:Cfg,X.P=P→X.n=n→X.m=m→∀a w,Real X (mkF e h) a w→Real X (mkF e' h') a w
def RK (X:Cfg)(K:Exit→Env→List Chunk→Prop)(x:Exit)(a:Act)(w:World):Prop:=∃e h,K x e h∧Real X (mkF e h) a w
def swp (P:Program)(n m:Nat)(c:Code)(K:Exit→Env→List Chunk→Prop)(e:Env)(h:List Chunk):Prop:=∀X:Cfg,X.P=P→X.n=n→X.m=m→∀a w,Real X (mkF e h) a w→c.wp P (RK X K) a w
def argP:List PV→Nat→Env
 |[],_=>[]
 |p::l,i=>(i,p)::argP l (i+1)
theorem look_argP:∀(ps:List PV) (i t:Nat),look (argP ps i) t=if i≤t then (match ps[t - i]? with|some p=>p|none=> .any)else .any
 |[],i,t=>by simp[argP,look]
 |d::l,i,t=>by
  simp only[argP,look]
  by_cases h:t=i
  ·subst h
   simp
  ·rw[if_neg h,look_argP l (i+1) t]
   by_cases h2:i≤t
   ·rw[if_pos h2,if_pos (by omega),show t - i=(t - (i+1))+1 by omega,List.getElem?_cons_succ]
   ·rw[if_neg h2,if_neg (by omega)]
def retPV (T:Nat→Option TI)(e:Env)(h:List Chunk):ResultVar→Option PV
 | .tmp t=>some (look e t)
 | .cell a t=>
  match look e a,T t with
  | .ptr k off,some ti=>
   match hatL h k with
   | .box _ cells=>
    if off+ti.size≤cells.length then
     if ti.agg then some (aggP ((cells.drop off).take ti.size))
     else match cells.drop off with
      |p::_=>if ti.size=1 then some p else none
      |[]=>none
    else none
   |_=>none
  |_,_=>none
def retPL (T:Nat→Option TI)(e:Env)(h:List Chunk):List ResultVar→Option (List PV)
 |[]=>some []
 |r::l=>match retPV T e h r,retPL T e h l with|some d,some ds=>some (d::ds)|_,_=>none
def retP:List PV→PV
 |[p]=>p
 |ps=>tupP ps
def DLe (d d':D):Prop:=∀(M:Nat→Prop) (w:World) (v:Value),RepD M w d v→RepD M w d' v
theorem DLe.refl (d:D):DLe d d:=fun _ _ _ h=>h
theorem DLe.nil (sz:Nat):DLe (.v (.slice none 0 0)) (.sl sz []):=fun _ _ _ h=>by cases h;exact .nil _ _ _ (by omega)
def dles:List D→List D→Prop
 |[],[]=>True
 |a::l,b::m=>DLe a b∧dles l m
 |_,_=>False
theorem dles_at:∀{l m:List D},dles l m→l.length=m.length∧∀(j:Nat) (a b:D),l[j]? =some a→m[j]? =some b→DLe a b
 |[],[],_=>⟨rfl,fun j a b h=>by simp at h⟩
 |[],_::_,h=>h.elim
 |_::_,[],h=>h.elim
 |a::l,b::m,⟨h1,h2⟩=>by
  obtain⟨q1,q2⟩:=dles_at h2
  refine⟨by simp[q1],fun j x y hx hy=>?_⟩
  cases j with
  |zero=>simp at hx hy;subst hx;subst hy;exact h1
  |succ j=>exact q2 j x y (by simpa using hx) (by simpa using hy)
theorem dles_rep {M:Nat→Prop}{w:World}{l m:List D}{vs:List Value}(h:dles l m)(hr:RepDs M w l vs):RepDs M w m vs:=by
 obtain⟨q1,q2⟩:=dles_at h
 refine⟨q1 ▸ hr.1,fun j d x hj hx=>?_⟩
 have hlt:j < l.length:=by rw[q1];exact(List.getElem?_eq_some_iff.1 hj).1
 have hl:l[j]? =some l[j]:=List.getElem?_eq_getElem hlt
 exact q2 j _ d hl hj M w x (hr.2 j _ x hl hx)
theorem DLe.agg {l m:List D}(h:dles l m)(h1:m.all D.one=true):DLe (.agg l) (.agg m):=fun M w v hr=>by
 cases hr with
 |agg _ vs hl _ hrep=>
  have:=dles_rep h ⟨hl,hrep⟩
  exact .agg m vs this.1 (by simpa using h1) this.2
theorem DLe.tup {l m:List D}(h:dles l m):DLe (.tup l) (.tup m):=fun M w v hr=>by
 cases hr with
 |tup _ vs hl hrep=>
  have:=dles_rep h ⟨hl,hrep⟩
  exact .tup m vs this.1 this.2
theorem PSpec.args {P:Program}{f:Nat}{ds ds':List D}{r:D}(h:PSpec P f ds' r)(hd:dles ds ds'):PSpec P f ds r:=⟨h.1,fun M w vs hM hG hds=>h.2 M w vs hM hG (dles_rep hd hds)⟩
theorem PSpec.res {P:Program}{f:Nat}{ds:List D}{r r':D}(h:PSpec P f ds r)(hr:DLe r r'):PSpec P f ds r':=⟨h.1,fun M w vs hM hG hds=>(h.2 M w vs hM hG hds).mono fun e w' ⟨v,he,hv,hx⟩=>⟨v,he,hr M w' v hv,hx⟩⟩
def RetOK (T:Nat→Option TI)(rs:List ResultVar)(r:D)(x:Exit)(e:Env)(h:List Chunk):Prop:=(x= .normal∨x= .ret)∧∃ps d,retPL T e h rs=some ps∧vw (hatL h) (retP ps)=some d∧DLe d r
def RetM (P:Program)(m:Nat)(T:Nat→Option TI)(rs:List ResultVar)(r:PV)(h1:List Chunk)(x:Exit)(e:Env)(h:List Chunk):Prop:=(x= .normal∨x= .ret)∧∃ps,retPL T e h rs=some ps∧Weak P 1 m [(0,retP ps)] h [(0,r)] h1
def resSem (tmps:Array Value):ResultVar→Sem Value
 | .tmp t=>pure (tmps.getD t undef)
 | .cell a t=>do loadVar t (←asAddr (tmps.getD a undef))
theorem results_run {P:Program}{tmps:Array Value}{w:World}:∀(rs:List ResultVar) (vs:List Value),rs.length=vs.length→
 (∀(j:Nat) (r:ResultVar) (v:Value),rs[j]? =some r→vs[j]? =some v→(resSem tmps r).run P w= .ok v w)→(rs.mapM (resSem tmps)).run P w= .ok vs w
 |[],[],_,_=>by simp
 |[],_::_,h,_=>by simp at h
 |_::_,[],h,_=>by simp at h
 |r::rs,v::vs,h,hr=>by
  have h0:=hr 0 r v rfl rfl
  have ih:=results_run (P:=P) (tmps:=tmps) (w:=w) rs vs (by simpa using h) fun j r v h1 h2=>hr (j+1) r v (by simpa using h1) (by simpa using h2)
  rw[List.mapM_cons,Sem.run_bind,h0]
  simp only[Result.andThen_ok,Sem.run_bind,ih]
  rfl
theorem ret_one {X:Cfg}{T:Nat→Option TI}{Q:Nat→Option Nat}(hTQ:TabOK X.P T Q){e:Env}{h:List Chunk}{a:Act}{w:World}{c:Cx}(hc:RealC X (mkF e h) a w c)(rv:ResultVar)(p:PV)(hrv:retPV T e h rv=some p):
 ∃v,(resSem a.tmps rv).run X.P w= .ok v w∧RepP c w p v:=by
 cases rv with
 |tmp t=>cases hrv;exact⟨_,rfl,hc.env t⟩
 |cell b t=>
  simp only[retPV]at hrv
  split at hrv
  ·rename_i k off ti hb' ht
   split at hrv
   ·rename_i TT cells hk
    split at hrv
    ·rename_i hsz
     have hck:=hc.chunk k
     have hk':(mkF e h).heap k= .box TT cells:=hk
     rw[hk']at hck
     have henv:=hc.env b
     have hb2:(mkF e h).env b= .ptr k off:=hb'
     rw[hb2]at henv
     generalize hu:a.tmps.getD b undef=u at henv
     cases henv with
     |ptr _ _ bb hbb=>
      cases hck with
      |box _ _ b'' us hb'' hh hrr h1=>
       rw[hbb]at hb''
       cases hb''
       have hul:us.length=cells.length:=hrr.1.symm
       have hlen:((us.drop off).take ti.size).length=ti.size:=by rw[List.length_take,List.length_drop];omega
       have hcell:∀(j:Nat) (v:Value),((us.drop off).take ti.size)[j]? =some v→w.cell? ⟨bb,off+j,none⟩=some v:=fun j v hj=>by
        simp[World.cell?,hh,(take_drop_at hj).2]
       have hload:∀(h0:ti.agg=false→∃v,(us.drop off).take ti.size=[v]),(loadVar t ⟨bb,off,none⟩).run X.P w= .ok (if ti.agg then .agg ((us.drop off).take ti.size).toArray else ((us.drop off).take ti.size).headD undef) w:=by
        intro h0
        have:=run_loadAt (hTQ.t t ti ht) w bb off ((us.drop off).take ti.size) hlen hcell h0
        simpa[Instr.loadAt,Instr.sureAddr]using this
       cases hag:ti.agg with
       |true=>
        rw[hag,if_pos rfl]at hrv
        cases hrv
        have hl:=hload (fun h=>by rw[hag]at h;cases h)
        rw[hag,if_pos rfl]at hl
        exact⟨_,by simp[resSem,hu,asAddr,hl],rep_aggP (hrr.part off ti.size) (fun d hd=>h1 d (List.mem_of_mem_drop (List.mem_of_mem_take hd)))⟩
       |false=>
        rw[hag,if_neg (by simp)]at hrv
        split at hrv
        ·rename_i q l hdr
         split at hrv
         ·rename_i h1'
          cases hrv
          have hp:=drop_cons hdr
          obtain⟨v,hv⟩:∃v,us[off]? =some v:=⟨us[off]'(by omega),List.getElem?_eq_getElem _⟩
          have hone:(us.drop off).take ti.size=[v]:=by
           rw[h1',List.drop_eq_getElem_cons (by omega)]
           simp only[List.take_succ_cons,List.take_zero]
           rw[List.getElem?_eq_getElem (by omega)]at hv
           simpa using hv
          have hl:=hload (fun _=>⟨v,hone⟩)
          rw[hag,if_neg (by simp),hone]at hl
          exact⟨v,by simp[resSem,hu,asAddr,hl],hrr.2 off p v hp hv⟩
         ·cases hrv
        ·cases hrv
    ·cases hrv
   ·cases hrv
  ·cases hrv
theorem ret_all {X:Cfg}{T:Nat→Option TI}{Q:Nat→Option Nat}(hTQ:TabOK X.P T Q){e:Env}{h:List Chunk}{a:Act}{w:World}{c:Cx}(hc:RealC X (mkF e h) a w c){fn:Func}{ps:List PV}(hret:retPL T e h fn.results.toList=some ps):
 ∃v,(results fn a.tmps).run X.P w= .ok v w∧RepP c w (retP ps) v:=by
 have hlist:∀(rs:List ResultVar) (ps:List PV),retPL T e h rs=some ps→∃vs:List Value,rs.length=vs.length∧RepPs c w ps vs∧
  (∀(j:Nat) (r:ResultVar) (v:Value),rs[j]? =some r→vs[j]? =some v→(resSem a.tmps r).run X.P w= .ok v w):=by
  intro rs
  induction rs with
  |nil=>
   intro ds hds
   simp[retPL]at hds
   subst hds
   exact⟨[],rfl,⟨rfl,fun j d x h=>by simp at h⟩,fun j r v h=>by simp at h⟩
  |cons rv rs ih=>
   intro ds hds
   simp only[retPL]at hds
   split at hds
   ·rename_i d ds' h1 h2
    cases hds
    obtain⟨v,hv1,hv2⟩:=ret_one hTQ hc rv d h1
    obtain⟨vs,g1,g2,g3⟩:=ih ds' h2
    refine⟨v::vs,by simp[g1],⟨by simp[g2.1],fun j d x hj hx=>?_⟩,fun j r x hj hx=>?_⟩
    ·cases j with
     |zero=>simp at hj hx;subst hj;subst hx;exact hv2
     |succ j=>exact g2.2 j d x (by simpa using hj) (by simpa using hx)
    ·cases j with
     |zero=>simp at hj hx;subst hj;subst hx;exact hv1
     |succ j=>exact g3 j r x (by simpa using hj) (by simpa using hx)
   ·cases hds
 obtain⟨vs,g1,g2,g3⟩:=hlist _ _ hret
 have hrun:=results_run (P:=X.P) (tmps:=a.tmps) (w:=w) fn.results.toList vs g1 g3
 have hres:(results fn a.tmps).run X.P w= .ok (if h:vs.length=1 then vs[0]else .tuple vs.toArray) w:=by
  have e1:results fn a.tmps=(do let vs ←fn.results.mapM (resSem a.tmps);pure (if h:vs.size=1 then vs[0]else .tuple vs)):=by
   unfold results
   congr 1
  rw[e1,Sem.run_bind,Array.mapM_eq_mapM_toList]
  simp[hrun]
 refine⟨_,hres,?_⟩
 by_cases h1:vs.length=1
 ·rw[dif_pos h1]
  obtain⟨d,rfl⟩:=List.length_eq_one_iff.1 (g2.1.trans h1)
  exact g2.2 0 d _ rfl (List.getElem?_eq_getElem (by omega))
 ·rw[dif_neg h1]
  have:retP ps=tupP ps:=by
   unfold retP
   split
   ·exact absurd g2.1.symm h1
   ·rfl
  rw[this]
  exact rep_tupP g2
theorem args_env {c:Cx}{w:World}{ps:List PV}{vs:List Value}{n:Nat}(hds:RepPs c w ps vs)(t:Nat):RepP c w (look (argP ps 0) t) ((vs.toArray++Array.replicate (n - vs.toArray.size) undef).getD t undef):=by
 rw[look_argP]
 rw[if_pos (Nat.zero_le _),Nat.sub_zero]
 cases hd:ps[t]? with
 |none=>exact .any _
 |some d=>
  have hlt:t < vs.length:=by rw[←hds.1];exact(List.getElem?_eq_some_iff.1 hd).1
  have hv:vs[t]? =some vs[t]:=List.getElem?_eq_getElem hlt
  have:=hds.2 t d _ hd hv
  simp only[Array.getD_eq_getD_getElem?,Array.getElem?_append,List.size_toArray,hlt,if_true,List.getElem?_toArray,hv,Option.getD_some]
  exact this
theorem pspec_intro {P:Program}{f:Nat}{fn:Func}{c:Code}{T:Nat→Option TI}{Q:Nat→Option Nat}(hTQ:TabOK P T Q)(hf:P.funcs[f]? =some fn)(hb:fn.body=some c)(hn:FnOK P f){ds:List D}{r:D}(hl:ds.length≤fn.ntmps)
 (hp:swp P fn.ntmps 0 c (RetOK T fn.results.toList r) (argP (ds.map .d) 0) []):PSpec P f ds r:=by
 refine⟨hn,fun M w vs hM hG hds=>?_⟩
 have hvl:vs.length=ds.length:=hds.1.symm
 let c0:Cx:={M:=M,bl:=fun _=>none,ov:=fun _ _=>none}
 let X:Cfg:={P:=P,n:=fn.ntmps,m:=0,w0:=w,M0:=M,L:=fun _=>False,c0:=c0}
 have hreal:Real X (mkF (argP (ds.map .d) 0) []) {tmps:=vs.toArray++Array.replicate (fn.ntmps - vs.toArray.size) undef,defers:=[]} w:=by
  refine⟨c0,by simp[X];omega,rfl,ExtL.refl _ _,hG.keep ⟨Nat.le_refl _,fun _ _ _=>rfl,fun b _ h=>h.elim id False.elim⟩,fun b hb=>⟨hM b hb,id⟩,fun b=>⟨.inl,fun h=>?_⟩,fun k b h=>?_,fun k k' b h _=>?_,fun t=>args_env (repPs_d (c:=c0) hds) t,fun k=>?_,fun k hk=>absurd hk (Nat.not_lt_zero _)⟩
  ·rcases h with h|⟨k,h⟩
   ·exact h
   ·simp[mkF,hatL,Cx.block]at h
  ·simp[mkF,hatL,Cx.block]at h
  ·simp[mkF,hatL,Cx.block]at h
  ·simp only[mkF,hatL]
   exact .none rfl fun _=>rfl
 refine calls_of_wp hf hb (wp_mono (hp X rfl rfl rfl _ _ hreal) fun ex a w' hq=>?_)
 obtain⟨e,h,⟨hx,ps,d,hret,hv,hle⟩,hr⟩:=hq
 obtain⟨cx,hc⟩:=hr
 obtain⟨v,hrun,hrep⟩:=ret_all hTQ hc hret
 have hd:=viewF_ok hc (T:=tc (hatL h) (retP ps)) 6 hv (fun _ h=>h) hrep
 have hd2:RepD M w' d v:=by
  refine hd.keep ⟨Nat.le_refl _,fun _ _ _=>rfl,fun b _ hb=>⟨(hc.mu b).2 (.inl hb),fun k _ e=>?_⟩⟩
  rcases(hc.new k b e).1 with h1|h1
  ·exact h1
  ·have:=(hc.fresh b hb).1
   omega
 rcases hx with rfl|rfl
 ·exact⟨hc.defers,v,hrun,v,rfl,hle _ _ _ hd2,hc.ext.ext⟩
 ·exact⟨hc.defers,v,hrun,v,rfl,hle _ _ _ hd2,hc.ext.ext⟩
theorem mspec_intro {P:Program}{f:Nat}{fn:Func}{c:Code}{T:Nat→Option TI}{Q:Nat→Option Nat}(hTQ:TabOK P T Q)(hf:P.funcs[f]? =some fn)(hb:fn.body=some c)(hn:FnOK P f){args:List PV}{h0 h1:List Chunk}{r:PV}(hl:args.length≤fn.ntmps)
 (hle:h0.length≤h1.length) (hba:belowL h0.length args=true) (hbh:belowH h0.length h0=true) (hp:swp P fn.ntmps h0.length c (RetM P h0.length T fn.results.toList r h1) (argP args 0) h0):MSpec P f args h0 r h1:=by
 refine⟨hn,hle,hba,hbh,fun X hXP hXn hXm w cx vs hc hargs=>?_⟩
 subst hXP
 have hvl:vs.length=args.length:=hargs.1.symm
 have hreal:Real {X with n:=fn.ntmps} (mkF (argP args 0) h0) {tmps:=vs.toArray++Array.replicate (fn.ntmps - vs.toArray.size) undef,defers:=[]} w:=
  ⟨cx,by simp;omega,rfl,hc.ext,hc.inv,hc.fresh,hc.mu,hc.new,hc.apart,fun t=>args_env hargs t,hc.chunk,hc.lent⟩
 refine calls_of_wp hf hb (wp_mono (hp {X with n:=fn.ntmps} rfl rfl hXm _ _ hreal) fun ex a w' hq=>?_)
 obtain⟨e,h,⟨hx,ps,hret,hweak⟩,hr⟩:=hq
 obtain⟨c2,hc2⟩:=hr
 obtain⟨v,hrun,hrep⟩:=ret_all (X:={X with n:=fn.ntmps}) hTQ hc2 hret
 have hr3:Real {X with n:=1} (mkF [(0,retP ps)] h) {tmps:=#[v],defers:=[]} w':=by
  refine⟨c2,rfl,rfl,hc2.ext,hc2.inv,hc2.fresh,hc2.mu,hc2.new,hc2.apart,fun t=>?_,hc2.chunk,hc2.lent⟩
  simp only[mkF,look]
  by_cases ht:t=0
  ·subst ht
   rw[if_pos rfl]
   exact hrep
  ·rw[if_neg ht]
   exact .any _
 obtain⟨c3,hc3⟩:=hweak {X with n:=1} rfl rfl hXm _ _ hr3
 have hv3:RepP c3 w' r v:=hc3.env 0
 have hfin:RealC X (mkF [] h1) act0 w' c3:=⟨hXn.symm,rfl,hc3.ext,hc3.inv,hc3.fresh,hc3.mu,hc3.new,hc3.apart,fun t=> .any _,hc3.chunk,hc3.lent⟩
 rcases hx with rfl|rfl
 ·exact⟨hc2.defers,v,hrun,v,c3,rfl,hv3,hfin⟩
 ·exact⟨hc2.defers,v,hrun,v,c3,rfl,hv3,hfin⟩
def qPost (W:World)(R:Value→Prop)(e:Ending)(w':World):Prop:=(∃u,e= .returned u∧R u)∧Ext W w'
def qUp (P:Program)(W w:World)(R:Value→Prop):Result Next→Prop
 | .ok (.value u) w'=>w'=w∧R u
 | .ok .skip w'=>w'=w∧R undef
 | .ok (.enter f args) w'=>w'=w∧Calls P f args w (qPost W R)
 |_=>False
attribute [go_sem] qUp
section
variable {P:Program}{ops:Array Oper}{W:World}{Q:Act→Prop}{o:Oper}{rest:List Oper}{a:Act}
theorem qUp_quiet {w:World}{v:Value}{r:Result Next}(h:∀R:Value→Prop,R v→qUp P W w R r):Oper.quietUpon P (Ext W) w v r:=by
 have h1:=h (·=v) rfl
 unfold qUp at h1
 unfold Oper.quietUpon
 split at h1
 ·exact h1
 ·exact⟨h1.1,h1.2.symm⟩
 ·refine⟨h1.1,h1.2.mono ?_⟩
  rintro e w' ⟨⟨u,rfl,rfl⟩,hw⟩
  exact⟨rfl,hw⟩
 ·exact h1.elim
section
variable {j d:Nat}{v:Value}{W:World}{Q:Act→Prop}
theorem yields_bool {b:Bool}(hd:(ops[j]?).bind (·.dst)=some d)(hv:a.tmps.toList[d]? =some v)(hb:v= .bool b):yielded ops a.tmps j=some b:=by
 subst hb
 rw[Array.getElem?_toList]at hv
 simp[yielded,hd,hv]
theorem yields_undef (hd:(ops[j]?).bind (·.dst)=some d)(hv:a.tmps.toList[d]? =some v)(hb:v=undef):yielded ops a.tmps j=none:=by
 subst hb
 rw[Array.getElem?_toList]at hv
 simp[yielded,hd,hv,undef]
theorem want_0 (hg:o.guard=none):Region.wanted o (yielded ops a.tmps)=true:=by simp[Region.wanted,hg]
theorem want_b {b:Bool}(hg:o.guard=some (j,b))(hd:(ops[j]?).bind (·.dst)=some d)(hv:a.tmps.toList[d]? =some v)(hb:v= .bool b):Region.wanted o (yielded ops a.tmps)=true:=by
 simp[Region.wanted,hg,yields_bool hd hv hb]
end
end
section
variable {P:Program}{ops:Array Oper}{w:World}{Q:Exit→Act→World→Prop}{a:Act}{n:Nat}{listed:Array Bool}
end
theorem ret_int {k:IntKind}{a b:Int}(h:a=b):Ending.returned (.int k a)= .returned (.int k b):=by rw[h]
theorem ret_bool {a b:Bool}(h:a=b):Ending.returned (.bool a)= .returned (.bool b):=by rw[h]
section
open Go.Proofs
theorem ofInt_i64 (a:Nat)(ha:a < 9223372036854775808):(BitVec.ofInt 64 (a:Int)).toNat=a:=by
 rw[BitVec.ofInt_natCast,BitVec.toNat_ofNat];exact Nat.mod_eq_of_lt (by omega)
theorem i64_and_nat (a b:Nat)(ha:a < 9223372036854775808)(hb:b < 9223372036854775808):bits .and .i64 (a:Int) (b:Int)=((a&&& b:Nat):Int):=by
 have hx:a&&& b < 2 ^ 63:=Nat.and_lt_two_pow _ (by omega)
 show IntKind.i64.wrap ((BitVec.ofInt 64 (a:Int)&&& BitVec.ofInt 64 (b:Int)).toNat:Int)=_
 rw[BitVec.toNat_and,ofInt_i64 a ha,ofInt_i64 b hb,IntKind.wrap_i64]
 omega
end
def tabT:Nat→Option TI
 |3=>some {agg:=false,size:=1,bytes:=8,zero:=[.int .i64 0],fields:=[],elem:=none,int:=some .i64,kind:=0,mp:=none}
 |4=>some {agg:=false,size:=1,bytes:=1,zero:=[.bool false],fields:=[],elem:=none,int:=none,kind:=1,mp:=none}
 |37=>some {agg:=false,size:=1,bytes:=8,zero:=[.int .i64 0],fields:=[],elem:=none,int:=some .i64,kind:=0,mp:=none}
 |32=>some {agg:=true,size:=2,bytes:=16,zero:=[.int .i64 0,.int .i64 0],fields:=[(0,1),(1,1)],elem:=none,int:=none,kind:=0,mp:=none}
 |151=>some {agg:=true,size:=3,bytes:=40,zero:=[.int .i64 0,.int .i64 0,.slice none 0 0],fields:=[(0,2),(2,1)],elem:=none,int:=none,kind:=0,mp:=none}
 |34=>some {agg:=true,size:=4,bytes:=32,zero:=[.int .i64 0,.int .i64 0,.int .i64 0,.int .i64 0],fields:=[(0,1),(1,1),(2,1),(3,1)],elem:=none,int:=none,kind:=0,mp:=none}
 |68=>some {agg:=true,size:=5,bytes:=40,zero:=[.int .i64 0,.int .i64 0,.int .i64 0,.int .i64 0,.int .i64 0],fields:=[(0,2),(2,1),(3,1),(4,1)],elem:=none,int:=none,kind:=0,mp:=none}
 |62=>some {agg:=true,size:=9,bytes:=88,zero:=[.int .i64 0,.int .i64 0,.int .i64 0,.int .i64 0,.int .i64 0,.int .i64 0,.int .i64 0,.int .i64 0,.slice none 0 0],fields:=[(0,1),(1,1),(2,2),(4,4),(8,1)],elem:=none,int:=none,kind:=0,mp:=none}
 |24=>some {agg:=true,size:=2,bytes:=32,zero:=[.int .i64 0,.slice none 0 0],fields:=[(0,1),(1,1)],elem:=none,int:=none,kind:=0,mp:=none}
 |74=>some {agg:=true,size:=2,bytes:=32,zero:=[.int .i64 0,.slice none 0 0],fields:=[(0,1),(1,1)],elem:=none,int:=none,kind:=0,mp:=none}
 |71=>some {agg:=true,size:=4,bytes:=48,zero:=[.int .i64 0,.int .i64 0,.int .i64 0,.slice none 0 0],fields:=[(0,1),(1,2),(3,1)],elem:=none,int:=none,kind:=0,mp:=none}
 |58=>some {agg:=true,size:=3,bytes:=24,zero:=[.int .i64 0,.int .i64 0,.int .i64 0],fields:=[(0,2),(2,1)],elem:=none,int:=none,kind:=0,mp:=none}
 |55=>some {agg:=true,size:=3,bytes:=56,zero:=[.int .i64 0,.slice none 0 0,.slice none 0 0],fields:=[(0,1),(1,1),(2,1)],elem:=none,int:=none,kind:=0,mp:=none}
 |76=>some {agg:=true,size:=2,bytes:=16,zero:=[.int .i64 0,.int .i64 0],fields:=[(0,1),(1,1)],elem:=none,int:=none,kind:=0,mp:=none}
 |28=>some {agg:=true,size:=2,bytes:=48,zero:=[.slice none 0 0,.slice none 0 0],fields:=[(0,1),(1,1)],elem:=none,int:=none,kind:=0,mp:=none}
 |30=>some {agg:=true,size:=4,bytes:=80,zero:=[.int .i64 0,.slice none 0 0,.slice none 0 0,.slice none 0 0],fields:=[(0,2),(2,2)],elem:=none,int:=none,kind:=0,mp:=none}
 |36=>some {agg:=true,size:=10,bytes:=80,zero:=[.int .i64 0,.int .i64 0,.int .i64 0,.int .i64 0,.int .i64 0,.int .i64 0,.int .i64 0,.int .i64 0,.int .i64 0,.int .i64 0],fields:=[(0,1),(1,1),(2,1),(3,1),(4,2),(6,4)],elem:=none,int:=none,kind:=0,mp:=none}
 |39=>some {agg:=true,size:=4,bytes:=32,zero:=[.int .i64 0,.int .i64 0,.int .i64 0,.int .i64 0],fields:=[(0,1),(1,2),(3,1)],elem:=none,int:=none,kind:=0,mp:=none}
 |72=>some {agg:=false,size:=1,bytes:=24,zero:=[.slice none 0 0],fields:=[],elem:=some 3,int:=none,kind:=0,mp:=none}
 |232=>some {agg:=false,size:=1,bytes:=24,zero:=[.slice none 0 0],fields:=[],elem:=some 4,int:=none,kind:=0,mp:=none}
 |149=>some {agg:=false,size:=1,bytes:=24,zero:=[.slice none 0 0],fields:=[],elem:=some 32,int:=none,kind:=0,mp:=none}
 |60=>some {agg:=false,size:=1,bytes:=24,zero:=[.slice none 0 0],fields:=[],elem:=some 68,int:=none,kind:=0,mp:=none}
 |22=>some {agg:=false,size:=1,bytes:=24,zero:=[.slice none 0 0],fields:=[],elem:=some 62,int:=none,kind:=0,mp:=none}
 |69=>some {agg:=false,size:=1,bytes:=24,zero:=[.slice none 0 0],fields:=[],elem:=some 74,int:=none,kind:=0,mp:=none}
 |53=>some {agg:=false,size:=1,bytes:=24,zero:=[.slice none 0 0],fields:=[],elem:=some 71,int:=none,kind:=0,mp:=none}
 |52=>some {agg:=false,size:=1,bytes:=24,zero:=[.slice none 0 0],fields:=[],elem:=some 58,int:=none,kind:=0,mp:=none}
 |25=>some {agg:=false,size:=1,bytes:=24,zero:=[.slice none 0 0],fields:=[],elem:=some 55,int:=none,kind:=0,mp:=none}
 |26=>some {agg:=false,size:=1,bytes:=24,zero:=[.slice none 0 0],fields:=[],elem:=some 76,int:=none,kind:=0,mp:=none}
 |46=>some {agg:=false,size:=1,bytes:=24,zero:=[.slice none 0 0],fields:=[],elem:=some 36,int:=none,kind:=0,mp:=none}
 |47=>some {agg:=false,size:=1,bytes:=24,zero:=[.slice none 0 0],fields:=[],elem:=some 39,int:=none,kind:=0,mp:=none}
 |95=>some {agg:=true,size:=3,bytes:=24,zero:=[.int .i64 0,.int .i64 0,.int .i64 0],fields:=[(0,2),(2,1)],elem:=none,int:=none,kind:=0,mp:=none}
 |86=>some {agg:=true,size:=18,bytes:=192,zero:=[.int .i64 0,.slice none 0 0,.slice none 0 0,.slice none 0 0,.int .i64 0,.int .i64 0,.int .i64 0,.int .i64 0,.int .i64 0,.int .i64 0,.int .i64 0,.int .i64 0,.int .i64 0,.int .i64 0,.int .i64 0,.int .i64 0,.int .i64 0,.int .i64 0],fields:=[(0,4),(4,10),(14,4)],elem:=none,int:=none,kind:=0,mp:=none}
 |5=>some {agg:=false,size:=1,bytes:=1,zero:=[.int .u8 0],fields:=[],elem:=none,int:=some .u8,kind:=0,mp:=none}
 |9=>some {agg:=false,size:=1,bytes:=16,zero:=[.string ByteArray.empty],fields:=[],elem:=none,int:=none,kind:=2,mp:=none}
 |21=>some {agg:=false,size:=1,bytes:=4,zero:=[.int .i32 0],fields:=[],elem:=none,int:=some .i32,kind:=0,mp:=none}
 |83=>some {agg:=false,size:=1,bytes:=8,zero:=[.pointer none],fields:=[],elem:=none,int:=none,kind:=3,mp:=none}
 |104=>some {agg:=false,size:=1,bytes:=8,zero:=[.pointer none],fields:=[],elem:=none,int:=none,kind:=3,mp:=none}
 |107=>some {agg:=false,size:=1,bytes:=8,zero:=[.pointer none],fields:=[],elem:=none,int:=none,kind:=3,mp:=none}
 |117=>some {agg:=false,size:=1,bytes:=8,zero:=[.pointer none],fields:=[],elem:=none,int:=none,kind:=3,mp:=none}
 |147=>some {agg:=false,size:=1,bytes:=8,zero:=[.pointer none],fields:=[],elem:=none,int:=none,kind:=3,mp:=none}
 |210=>some {agg:=false,size:=1,bytes:=8,zero:=[.pointer none],fields:=[],elem:=none,int:=none,kind:=3,mp:=none}
 |214=>some {agg:=false,size:=1,bytes:=8,zero:=[.pointer none],fields:=[],elem:=none,int:=none,kind:=3,mp:=none}
 |234=>some {agg:=false,size:=1,bytes:=8,zero:=[.int .u64 0],fields:=[],elem:=none,int:=some .u64,kind:=0,mp:=none}
 |281=>some {agg:=false,size:=1,bytes:=4,zero:=[.int .u32 0],fields:=[],elem:=none,int:=some .u32,kind:=0,mp:=none}
 |283=>some {agg:=false,size:=1,bytes:=8,zero:=[.int .u64 0],fields:=[],elem:=none,int:=some .u64,kind:=0,mp:=none}
 |108=>some {agg:=false,size:=1,bytes:=8,zero:=[.map none],fields:=[],elem:=none,int:=none,kind:=4,mp:=some (1,false)}
 |109=>some {agg:=false,size:=1,bytes:=8,zero:=[.map none],fields:=[],elem:=none,int:=none,kind:=4,mp:=some (1,false)}
 |92=>some {agg:=false,size:=1,bytes:=8,zero:=[.map none],fields:=[],elem:=none,int:=none,kind:=4,mp:=some (3,true)}
 |_=>none
theorem tabT_ok:∀t ti,tabT t=some ti→tcheck Tryz.prog t=some ti:=by
 intro t ti h
 unfold tabT at h
 split at h<;>first|(cases h;kernel_rfl)|cases h
theorem eq_Prefix:EqOK Tryz.prog 32 2:=by
 intro w xs ys x y op hx hy hop
 match xs,ys,hx,hy with
 |[a0,a1],[b0,b1],_,_=>
  clear hx hy
  rcases hop with rfl|rfl<;>(simp only[List.map_cons,List.map_nil];go_simp)<;>by_cases h0:a0=b0<;>by_cases h1:a1=b1<;>simp[bne,h0,h1]
theorem eq_Rule:EqOK Tryz.prog 34 4:=by
 intro w xs ys x y op hx hy hop
 match xs,ys,hx,hy with
 |[a0,a1,a2,a3],[b0,b1,b2,b3],_,_=>
  clear hx hy
  rcases hop with rfl|rfl<;>(simp only[List.map_cons,List.map_nil];go_simp)<;>by_cases h0:a0=b0<;>by_cases h1:a1=b1<;>by_cases h2:a2=b2<;>by_cases h3:a3=b3<;>simp[bne,h0,h1,h2,h3]
theorem eq_Lease:EqOK Tryz.prog 68 5:=by
 intro w xs ys x y op hx hy hop
 match xs,ys,hx,hy with
 |[a0,a1,a2,a3,a4],[b0,b1,b2,b3,b4],_,_=>
  clear hx hy
  rcases hop with rfl|rfl<;>(simp only[List.map_cons,List.map_nil];go_simp)<;>by_cases h0:a0=b0<;>by_cases h1:a1=b1<;>by_cases h2:a2=b2<;>by_cases h3:a3=b3<;>by_cases h4:a4=b4<;>simp[bne,h0,h1,h2,h3,h4]
theorem eq_Range:EqOK Tryz.prog 58 3:=by
 intro w xs ys x y op hx hy hop
 match xs,ys,hx,hy with
 |[a0,a1,a2],[b0,b1,b2],_,_=>
  clear hx hy
  rcases hop with rfl|rfl<;>(simp only[List.map_cons,List.map_nil];go_simp)<;>by_cases h0:a0=b0<;>by_cases h1:a1=b1<;>by_cases h2:a2=b2<;>simp[bne,h0,h1,h2]
theorem eq_Link:EqOK Tryz.prog 76 2:=by
 intro w xs ys x y op hx hy hop
 match xs,ys,hx,hy with
 |[a0,a1],[b0,b1],_,_=>
  clear hx hy
  rcases hop with rfl|rfl<;>(simp only[List.map_cons,List.map_nil];go_simp)<;>by_cases h0:a0=b0<;>by_cases h1:a1=b1<;>simp[bne,h0,h1]
theorem eq_Answer:EqOK Tryz.prog 39 4:=by
 intro w xs ys x y op hx hy hop
 match xs,ys,hx,hy with
 |[a0,a1,a2,a3],[b0,b1,b2,b3],_,_=>
  clear hx hy
  rcases hop with rfl|rfl<;>(simp only[List.map_cons,List.map_nil];go_simp)<;>by_cases h0:a0=b0<;>by_cases h1:a1=b1<;>by_cases h2:a2=b2<;>by_cases h3:a3=b3<;>simp[bne,h0,h1,h2,h3]
def tabQ:Nat→Option Nat
 |32=>some 2
 |34=>some 4
 |68=>some 5
 |58=>some 3
 |76=>some 2
 |39=>some 4
 |_=>none
theorem map_108:MapOK Tryz.prog 108 1 false:=mapOK_int Tryz.underlying108 Tryz.underlying3 (by kernel_rfl)
theorem map_109:MapOK Tryz.prog 109 1 false:=mapOK_int Tryz.underlying109 Tryz.underlying3 (by kernel_rfl)
theorem key_92:KeyOK Tryz.prog 95 3 true:=by
 refine keyOK_st (by kernel_rfl) (fun em w xs hx=>?_) (fun w xs ys hx hy=>?_)
 ·match xs,hx with
  |[a0,a1,a2],_=>
   clear hx
   simp only[keyV,if_true,List.map_cons,List.map_nil]
   have key:∀n,(Instr.checkKey em (n+1+1+1) 95 (.agg #[.int .i64 a0,.int .i64 a1,.int .i64 a2])).run Tryz.prog w= .ok () w:=by
    intro n
    simp[Instr.checkKey,run_underlying Tryz.underlying3,run_underlying Tryz.underlying32,run_underlying Tryz.underlying95,part,isAgg,go_sem]
   exact key 9997
 ·match xs,ys,hx,hy with
  |[a0,a1,a2],[b0,b1,b2],_,_=>
   clear hx hy
   simp only[keyV,if_true,List.map_cons,List.map_nil]
   show (Op.equalIn 10000 95 _ _).run _ _=_
   go_simp
   by_cases h0:a0=b0<;>by_cases h1:a1=b1<;>by_cases h2:a2=b2<;>simp[h0,h1,h2]
theorem map_92:MapOK Tryz.prog 92 3 true:=by
 obtain⟨i,hi,hz⟩:=Option.map_eq_some_iff.1 (show (Tryz.prog.info? 3).map (·.zero)=some (some (.int .i64 0)) by kernel_rfl)
 exact⟨95,3,i,Tryz.underlying92,hi,hz,key_92⟩
theorem tabM_ok:∀t ti n s,tabT t=some ti→ti.mp=some (n,s)→MapOK Tryz.prog t n s:=by
 intro t ti n s h hm
 unfold tabT at h
 split at h
 ·cases h;cases hm
 ·cases h;cases hm
 ·cases h;cases hm
 ·cases h;cases hm
 ·cases h;cases hm
 ·cases h;cases hm
 ·cases h;cases hm
 ·cases h;cases hm
 ·cases h;cases hm
 ·cases h;cases hm
 ·cases h;cases hm
 ·cases h;cases hm
 ·cases h;cases hm
 ·cases h;cases hm
 ·cases h;cases hm
 ·cases h;cases hm
 ·cases h;cases hm
 ·cases h;cases hm
 ·cases h;cases hm
 ·cases h;cases hm
 ·cases h;cases hm
 ·cases h;cases hm
 ·cases h;cases hm
 ·cases h;cases hm
 ·cases h;cases hm
 ·cases h;cases hm
 ·cases h;cases hm
 ·cases h;cases hm
 ·cases h;cases hm
 ·cases h;cases hm
 ·cases h;cases hm
 ·cases h;cases hm
 ·cases h;cases hm
 ·cases h;cases hm
 ·cases h;cases hm
 ·cases h;cases hm
 ·cases h;cases hm
 ·cases h;cases hm
 ·cases h;cases hm
 ·cases h;cases hm
 ·cases h;cases hm
 ·cases h;cases hm
 ·cases h;cases hm
 ·cases h;cases hm
 ·cases h;cases hm
 ·cases h;cases hm;exact map_108
 ·cases h;cases hm;exact map_109
 ·cases h;cases hm;exact map_92
 ·cases h
theorem tab_ok:TabOK Tryz.prog tabT tabQ:=by
 refine⟨tabT_ok,fun t n h=>?_,tabM_ok⟩
 unfold tabQ at h
 split at h
 ·cases h;exact eq_Prefix
 ·cases h;exact eq_Rule
 ·cases h;exact eq_Lease
 ·cases h;exact eq_Range
 ·cases h;exact eq_Link
 ·cases h;exact eq_Answer
 ·cases h
theorem fnok_of {P:Program}{f:Nat}{fn:Func}{c:Code}(hf:P.funcs[f]? =some fn)(hname:(fn.name== "runtime.NumGoroutine")=false)(hb:fn.body=some c):FnOK P f:=by
 intro args w
 simp[callFunc,hf,hb]
 simpa using hname
theorem ob_tt:(some true==some true)=true:=rfl
theorem ob_ff:(some false==some false)=true:=rfl
theorem ob_tf:(some true==some false)=false:=rfl
theorem ob_ft:(some false==some true)=false:=rfl
theorem ob_nt:((none:Option Bool)==some true)=false:=rfl
theorem ob_nf:((none:Option Bool)==some false)=false:=rfl
section
variable {P:Program}{n m:Nat}{T:Nat→Option TI}{Q:Nat→Option Nat}{K:Exit→Env→List Chunk→Prop}{e:Env}{h:List Chunk}
def seqK (C:Env→List Chunk→Prop)(K:Exit→Env→List Chunk→Prop):Exit→Env→List Chunk→Prop
 | .normal,e,h=>C e h
 |x,e,h=>K x e h
theorem pwp_seq {a b:Code}(hp:∀C:Env→List Chunk→Prop,(∀e h,swp P n m b K e h→C e h)→swp P n m a (seqK C K) e h):swp P n m (.seq a b) K e h:=by
 intro X hX hn hXm ac w hr
 have:=hp (fun e h=>swp P n m b K e h) (fun _ _ h=>h) X hX hn hXm ac w hr
 refine wp_seq (wp_mono this fun ex a' w' hq=>?_)
 obtain⟨e',h',hk,hr'⟩:=hq
 cases ex with
 |normal=>exact hk X hX hn hXm a' w' hr'
 |_=>exact⟨e',h',hk,hr'⟩
def blkK (id:Nat)(C:Env→List Chunk→Prop)(K:Exit→Env→List Chunk→Prop):Exit→Env→List Chunk→Prop
 | .normal,e,h=>C e h
 | .exit i,e,h=>if i=id then C e h else K (.exit i) e h
 |x,e,h=>K x e h
theorem pwp_block {id:Nat}{c:Code}(hp:∀C:Env→List Chunk→Prop,(∀e h,K .normal e h→C e h)→swp P n m c (blkK id C K) e h):swp P n m (.block id c) K e h:=by
 intro X hX hn hXm ac w hr
 have:=hp (fun e h=>K .normal e h) (fun _ _ h=>h) X hX hn hXm ac w hr
 refine wp_block (wp_mono this fun ex a' w' hq=>?_)
 obtain⟨e',h',hk,hr'⟩:=hq
 cases ex with
 |exit i=>
  simp only[Exit.inBlock,blkK]at*
  by_cases hi:i=id
  ·rw[if_pos hi]at hk ⊢
   exact⟨e',h',hk,hr'⟩
  ·rw[if_neg hi]at hk ⊢
   exact⟨e',h',hk,hr'⟩
 |_=>exact⟨e',h',hk,hr'⟩
def grdO (P:Program)(g:Option Bool)(r:SR)(dst:Option Nat)(e:Env)(h:List Chunk)(sm:List (List Nat × List Nat))(R:Env→List Chunk→List (List Nat × List Nat)→Prop):Prop:=
 match g with
 |some true=>runO P r dst e h sm R
 |some false=>R (putE e dst (.d (.v undef))) h (([],[])::sm)
 |none=>False
section
variable {sm:List (List Nat × List Nat)}{dst:Option Nat}{R:Env→List Chunk→List (List Nat × List Nat)→Prop}
theorem runO_P {g:Nat}{ps:List PV}{ds:List D}{r:D}(hv:vwL (hatL h) ps=some ds)(hp:PSpec P g ds r)(hf:tcL (hatL h) ps=[]∨r.flat=true)(hR:R (putE e dst (.d r)) h (([],tcL (hatL h) ps)::sm)):runO P (.call g ps) dst e h sm R:=
 .inl ⟨ds,r,hv,hp,hf,hR⟩
theorem runO_M (ls:List Nat){g:Nat}{ps args:List PV}{h0 h1:List Chunk}{r:PV}(hM:MSpec P g args h0 r h1)(hps:ps=renL (rid ls h.length) args)(hl:ls.length=h0.length)(hnd:ls.Nodup)(hlt:∀k∈ls,k < h.length)(hlent:lentOK (hatL h) (rid ls h.length) 0 h0)
 (hR:R (putE e dst (ren (rid ls h.length) r)) (heapM (rid ls h.length) 0 h1 h) ((mids ls h.length h1.length,mids ls h.length h1.length)::sm)):runO P (.call g ps) dst e h sm R:=
 .inr (.inl ⟨ls,args,h0,r,h1,hM,hps,hl,hnd,hlt,hlent,hR⟩)
end
theorem sOps_cons {draw:Bool}{ops:Array Oper}{ds:List (Option Nat)}{o:Oper}{l:List Oper}{sm:List (List Nat × List Nat)}{K:Env→List Chunk→Prop}(hd:dstB n o=true)
 (hp:∀R:Env→List Chunk→List (List Nat × List Nat)→Prop,(∀e h sm,sOps P n T Q draw ops ds l e h sm K→R e h sm)→grdO P (guardD ds e o) (opS T Q e h o) o.dst e h sm R):sOps P n T Q draw ops ds (o::l) e h sm K:=by
 have hp:=hp (sOps P n T Q draw ops ds l · · · K) fun _ _ _ h=>h
 unfold sOps
 unfold grdO at hp
 split at hp
 ·rename_i g hg
  rw[hg]
  exact⟨hd,fun _=>hp,fun h=>by cases h⟩
 ·rename_i g hg
  rw[hg]
  exact⟨hd,(fun h=>(by cases h)),fun _=>hp⟩
 ·exact hp.elim
theorem pwp_cond {c:Operand}{a b:Code}{t:Bool}(hc:evL e c= .d (.v (.bool t)))(h1:t=true→swp P n m a K e h)(h2:t=false→swp P n m b K e h):swp P n m (.cond c a b) K e h:=by
 intro X hX hn hXm ac w hr
 have hv:ac.eval c= .bool t:=by
  obtain⟨cx,hcx⟩:=hr
  exact ev_v' hcx ((ev_mk e h c).trans hc)
 refine wp_cond hv ?_
 cases t with
 |true=>exact h1 rfl X hX hn hXm ac w hr
 |false=>exact h2 rfl X hX hn hXm ac w hr
theorem pwp_skip (h1:K .normal e h):swp P n m .skip K e h:=fun X _ _ _ a w hr=>wp_skip ⟨e,h,h1,hr⟩
theorem pwp_exit {id:Nat}(h1:K (.exit id) e h):swp P n m (.exit id) K e h:=fun X _ _ _ a w hr=>wp_exit ⟨e,h,h1,hr⟩
theorem pwp_ret (h1:K .ret e h):swp P n m .ret K e h:=fun X _ _ _ a w hr=>wp_ret ⟨e,h,h1,hr⟩
theorem pwp_label {l:Nat}(h1:K .normal e h):swp P n m (.label l) K e h:=fun X _ _ _ a w hr=>wp_label ⟨e,h,h1,hr⟩
theorem pwp_loop {c:Code}(I:Nat→Env→List Chunk→Prop)(mm:Nat)(e1:Env)(h1:List Chunk)(h0:I mm e1 h1)(hw:Weak P n m e h e1 h1)
 (hr:∀k e h,I k e h→∀C:Env→List Chunk→Prop,(∀k' e1 h1 e h,k' < k→I k' e1 h1→Weak P n m e h e1 h1→C e h)→swp P n m c (seqK C K) e h):swp P n m (.loop c) K e h:=by
 intro X hX hn hXm a w hreal
 refine wp_loop_ghost (fun k a w=>∃e h,I k e h∧Real X (mkF e h) a w) mm ⟨e1,h1,h0,hw X hX hn hXm a w hreal⟩ ?_
 rintro k a w ⟨e,h,hI,hreal⟩
 have:=hr k e h hI (fun e' h'=>∃k' e1 h1,k' < k∧I k' e1 h1∧Weak P n m e' h' e1 h1) (fun k' e1 h1 e h a b c=>⟨k',e1,h1,a,b,c⟩) X hX hn hXm a w hreal
 refine wp_mono this fun ex a' w' hq=>?_
 obtain⟨e',h',hk,hr'⟩:=hq
 cases ex with
 |normal=>
  obtain⟨k',e2,h2,hlt,hI2,hw2⟩:=hk
  exact⟨k',hlt,e2,h2,hI2,hw2 X hX hn hXm a' w' hr'⟩
 |_=>exact⟨e',h',hk,hr'⟩
end
theorem weak_look {P:Program}{n m:Nat}{e e':Env}{h:List Chunk}(hl:∀t,look e' t= .any∨look e' t=look e t):Weak P n m e h e' h:=by
 intro X _ _ _ a w hr
 obtain⟨c,hc⟩:=hr
 refine⟨c,hc.size,hc.defers,hc.ext,hc.inv,hc.fresh,hc.mu,hc.new,hc.apart,fun t=>?_,hc.chunk,hc.lent⟩
 show RepP c w (look e' t) _
 rcases hl t with h|h
 ·rw[h];exact .any _
 ·rw[h];exact hc.env t
theorem mixed:Tryz.prog.follows .mixedOrders=true:=by kernel_rfl
theorem Weak.refl (P:Program)(n m:Nat)(e:Env)(h:List Chunk):Weak P n m e h e h:=fun _ _ _ _ _ _ h=>h
theorem dRows_get (l:List (List D))(i:Nat):(dRows l)[i]? =(l[i]?).map (·.map .d):=by simp[dRows]
theorem dRows_len (l:List (List D)):(dRows l).length=l.length:=by simp[dRows]
theorem dRows_app (a b:List (List D)):dRows a++dRows b=dRows (a++b):=by simp[dRows]
theorem hatL_lt {h:List Chunk}{k:Nat}(hk:hatL h k≠ .none):k < h.length:=by
 induction h generalizing k with
 |nil=>simp[hatL]at hk
 |cons c l ih=>
  cases k with
  |zero=>simp
  |succ k=>simpa using ih (by simpa[hatL]using hk)
def Cx.cut (c:Cx)(n:Nat):Cx:={M:=c.M,bl:=fun k=>if k < n then c.bl k else none,ov:=fun k g=>if k < n then c.ov k g else none}
theorem RepP.cut {c:Cx}{w:World}{n:Nat}{p:PV}{v:Value}(h:RepP c w p v):belowP n p=true→RepP (c.cut n) w p v:=by
 induction h with
 |d x v h=>intro _;exact .d x v h
 |any v=>intro _;exact .any v
 |ptr k off b h=>intro hb;simp only[belowP,decide_eq_true_eq]at hb;exact .ptr k off b (by show (if k < n then c.bl k else none)=_;rw[if_pos hb];exact h)
 |own k g v h h1=>intro hb;simp only[belowP,decide_eq_true_eq]at hb;exact .own k g v (by show (if k < n then c.ov k g else none)=_;rw[if_pos hb];exact h) h1
 |rp k g sz i j b m cap h=>intro hb;simp only[belowP,decide_eq_true_eq]at hb;exact .rp k g sz i j b m cap (by show (if k < n then c.ov k g else none)=_;rw[if_pos hb];exact h)
 |osl k g sz a m b o N cap h hn hc h2=>intro hb;simp only[belowP,decide_eq_true_eq]at hb;exact .osl k g sz a m b o N cap (by show (if k < n then c.ov k g else none)=_;rw[if_pos hb];exact h) hn hc h2
 |mref k b h=>intro hb;simp only[belowP,decide_eq_true_eq]at hb;exact .mref k b (by show (if k < n then c.bl k else none)=_;rw[if_pos hb];exact h)
 |agg caps vs hl h1 hrep ih=>
  intro hb
  simp only[belowP]at hb
  exact .agg caps vs hl h1 fun j d x hj hx=>ih j d x hj hx (belowL_mem hb d (List.mem_of_getElem? hj))
 |tup caps vs hl hrep ih=>
  intro hb
  simp only[belowP]at hb
  exact .tup caps vs hl fun j d x hj hx=>ih j d x hj hx (belowL_mem hb d (List.mem_of_getElem? hj))
 |clo g caps vs hl hrep ih=>
  intro hb
  simp only[belowP]at hb
  exact .clo g caps vs hl fun j d x hj hx=>ih j d x hj hx (belowL_mem hb d (List.mem_of_getElem? hj))
theorem look_sub:∀{e e':Env},subE e e'→∀t,look e' t= .any∨look e' t=look e t
 |_,[],_,_=> .inl rfl
 |e,(t',p)::l,⟨h1,h2⟩,t=>by
  simp only[look]
  by_cases ht:t=t'
  ·rw[if_pos ht,ht];exact .inr h1.symm
  ·rw[if_neg ht];exact look_sub h2 t
theorem hat_app:∀(h x:List Chunk) (k:Nat),k < h.length→hatL (h++x) k=hatL h k
 |c::l,x,0,_=>rfl
 |c::l,x,k+1,hk=>by simpa[hatL]using hat_app l x k (by simpa using hk)
theorem hat_far:∀(h:List Chunk) (k:Nat),h.length≤k→hatL h k= .none
 |[],_,_=>rfl
 |c::l,0,h=>by simp at h
 |c::l,k+1,h=>by simpa[hatL]using hat_far l k (by simpa using h)
theorem weak_forget {P:Program}{n m:Nat}{e e':Env}{h h':List Chunk}(x:List Chunk)(hm:m≤h'.length)(hh:h=h'++x)(he:subE e e')(hb:belowE h'.length e'=true)(hbh:belowH h'.length h'=true):Weak P n m e h e' h':=by
 intro X _ _ hXm a w hr
 obtain⟨c,hc⟩:=hr
 subst hh
 have hf:=hc.freeze ((List.range x.length).map (h'.length+ ·))
 have hmem:∀k,k∈(List.range x.length).map (h'.length+ ·)↔h'.length≤k∧k < h'.length+x.length:=by
  intro k
  simp only[List.mem_map,List.mem_range]
  constructor
  ·rintro⟨j,hj,rfl⟩;omega
  ·intro hk;exact⟨k - h'.length,by omega,by omega⟩
 have hlow:∀k,k < h'.length→effH (((List.range x.length).map (h'.length+ ·)).map fun k=>(k,.gone)) (hatL (h'++x)) k=hatL h' k:=by
  intro k hk
  rw[effH_gone,if_neg (fun h=>by have:=(hmem k).1 h;omega),hat_app h' x k hk]
 have hhigh:∀k,h'.length≤k→∀c:Cx,c.block k (effH (((List.range x.length).map (h'.length+ ·)).map fun k=>(k,.gone)) (hatL (h'++x)) k)=none:=by
  intro k hk c
  rw[effH_gone]
  split
  ·rfl
  ·rename_i hn
   have:h'.length+x.length≤k:=by
    rcases Nat.lt_or_ge k (h'.length+x.length)with h1|h1
    ·exact absurd ((hmem k).2 ⟨hk,h1⟩) hn
    ·exact h1
   rw[hat_far _ k (by simpa using this)]
   rfl
 generalize hcc:({c with M:=lessM c (mkF e (h'++x)).heap ((List.range x.length).map (h'.length+ ·))}:Cx)=cc at hf
 have hblk:∀k,(cc.cut h'.length).block k (hatL h' k)=if k < h'.length then cc.block k (hatL h' k)else none:=by
  intro k
  by_cases hk:k < h'.length
  ·rw[if_pos hk]
   cases hatL h' k<;>simp[Cx.block,Cx.cut,hk]
  ·rw[if_neg hk,hat_far h' k (by omega)]
   rfl
 have hold:∀k b,(cc.cut h'.length).block k (hatL h' k)=some b→cc.block k (effH (((List.range x.length).map (h'.length+ ·)).map fun k=>(k,.gone)) (hatL (h'++x)) k)=some b:=by
  intro k b hb
  rw[hblk]at hb
  split at hb
  ·rename_i hk;rw[hlow k hk];exact hb
  ·cases hb
 refine⟨cc.cut h'.length,hf.size,hf.defers,hf.ext,hf.inv,hf.fresh,fun b=>?_,fun k b hb=>hf.new k b (hold k b hb),fun k k' b hb hb'=>hf.apart k k' b (hold k b hb) (hold k' b hb'),fun t=>?_,fun k=>?_,fun k hk=>?_⟩
 ·show cc.M b↔_
  rw[hf.mu b]
  constructor
  ·rintro (h0|⟨k,hk⟩)
   ·exact .inl h0
   ·refine .inr ⟨k,?_⟩
    show (cc.cut h'.length).block k (hatL h' k)=_
    rw[hblk]
    rcases Nat.lt_or_ge k h'.length with h1|h1
    ·rw[if_pos h1]
     have:=hlow k h1
     simp only[mkF]at hk
     rw[this]at hk
     exact hk
    ·simp only[mkF]at hk
     rw[hhigh k h1]at hk
     cases hk
  ·rintro (h0|⟨k,hk⟩)
   ·exact .inl h0
   ·exact .inr ⟨k,hold k b hk⟩
 ·show RepP (cc.cut h'.length) w (look e' t) _
  rcases look_sub he t with h0|h0
  ·rw[h0];exact .any _
  ·have h1:=look_below hb t
   rw[h0]at h1 ⊢
   exact(hf.env t).cut h1
 ·show ChunkOK (cc.cut h'.length) w k (hatL h' k)
  rcases Nat.lt_or_ge k h'.length with h1|h1
  ·have hck:=hf.chunk k
   simp only[mkF]at hck
   rw[hlow k h1]at hck
   have hbc:=hat_below hbh k
   have hbl:(cc.cut h'.length).bl k=cc.bl k:=by show (if k < h'.length then cc.bl k else none)=_;rw[if_pos h1]
   have hov:∀g,(cc.cut h'.length).ov k g=cc.ov k g:=fun g=>by show (if k < h'.length then cc.ov k g else none)=_;rw[if_pos h1]
   cases hch:hatL h' k with
   |none=>rw[hch]at hck;cases hck with|none q1 q2=>exact .none (by rw[hbl];exact q1) (fun g=>by rw[hov];exact q2 g)
   |gone=>exact .gone
   |box T cells=>
    rw[hch]at hck hbc
    cases hck with
    |box _ _ b vs q1 q2 q3 q4=>
     exact .box T cells b vs (by rw[hbl];exact q1) q2 ⟨q3.1,fun j d v hj hv=>(q3.2 j d v hj hv).cut (belowL_mem (by simpa[belowC]using hbc) d (List.mem_of_getElem? hj))⟩ q4
   |mp nB sB ents=>
    rw[hch]at hck
    cases hck with
    |mp _ _ _ b q1 q2 q3=>exact .mp nB sB ents b (by rw[hbl];exact q1) q2 q3
   |it nB sB ents seen=>
    rw[hch]at hck
    cases hck with
    |it _ _ _ _ b bm q1 q2 q3 q4=>exact .it nB sB ents seen b bm (by rw[hbl];exact q1) q2 q3 q4
   |row E sz g rows=>
    rw[hch]at hck hbc
    cases hck with
    |row _ _ _ _ v xs q1 q2 q3 q4 q5 q6=>exact .row E sz g rows v xs (by rw[hov];exact q1) q2 ⟨q3.1,fun j d v hj hv=>(q3.2 j d v hj hv).cut (belowL_mem (belowR_flat (by simpa[belowC]using hbc)) d (List.mem_of_getElem? hj))⟩ q4 q5 (fun g' hg=>by rw[hov];exact q6 g' hg)
  ·rw[hat_far h' k h1]
   refine .none ?_ fun g=>?_
   ·show (if k < h'.length then cc.bl k else none)=_;rw[if_neg (by omega)]
   ·show (if k < h'.length then cc.ov k g else none)=_;rw[if_neg (by omega)]
 ·have hk':k < h'.length:=by omega
  obtain⟨q1,q2⟩:=hf.lent k hk
  refine⟨?_,fun g v hv=>?_⟩
  ·show (if k < h'.length then cc.bl k else none)=_;rw[if_pos hk'];exact q1
  ·show (if k < h'.length then cc.ov k g else none)=_;rw[if_pos hk'];exact q2 g v hv
theorem Weak.trans {P:Program}{n m:Nat}{e e' e'':Env}{h h' h'':List Chunk}(h1:Weak P n m e h e' h')(h2:Weak P n m e' h' e'' h''):Weak P n m e h e'' h'':=fun X hX hn hm a w hr=>h2 X hX hn hm a w (h1 X hX hn hm a w hr)
theorem hat_snoc (h:List Chunk)(c:Chunk)(k:Nat):hatL (h++[c]) k=if k=h.length then c else hatL h k:=by
 rcases Nat.lt_trichotomy k h.length with h1|h1|h1
 ·rw[hat_app h [c] k h1,if_neg (by omega)]
 ·subst h1
  rw[if_pos rfl]
  induction h with
  |nil=>rfl
  |cons a l ih=>exact ih
 ·rw[if_neg (by omega),hat_far _ k (by simp;omega),hat_far h k (by omega)]
theorem weak_adopt {P:Program}{n m:Nat}{e:Env}{h:List Chunk}(hml:m≤h.length)(t E sz:Nat)(ht:look e t= .d (.v (.slice none 0 0))):Weak P n m e h ((t,.own h.length 0)::e) (h++[.row E sz 0 []]):=by
 intro X _ _ hXm a w hr
 obtain⟨c,hc⟩:=hr
 obtain⟨c',q1,q2⟩:=hc.new_row (k:=h.length) (w':=w) (hatL_end h) (by omega) E sz [] (.slice none 0 0) [] (Below.refl _ _) .nil (fun b hb=>by cases hb) ⟨rfl,fun j d x h=>by simp at h⟩ (by simp) (by simp)
 have hv:a.tmps.getD t undef= .slice none 0 0:=hc.bool ht
 refine⟨c',q1.size,q1.defers,q1.ext,q1.inv,q1.fresh,?_,?_,?_,fun t'=>?_,?_,q1.lent⟩
 ·intro b
  have:=q1.mu b
  simp only[effH1,mkF]at this ⊢
  simpa[hat_snoc]using this
 ·intro k b
  have:=q1.new k b
  simp only[effH1,mkF]at this ⊢
  simpa[hat_snoc]using this
 ·intro k k' b
  have:=q1.apart k k' b
  simp only[effH1,mkF]at this ⊢
  simpa[hat_snoc]using this
 ·simp only[mkF,look]
  by_cases h1:t'=t
  ·subst h1
   rw[if_pos rfl,hv]
   exact q2
  ·rw[if_neg h1]
   exact q1.env t'
 ·intro k
  have:=q1.chunk k
  simp only[effH1,mkF]at this ⊢
  simpa[hat_snoc]using this
theorem weak_adopt_box {P:Program}{n m:Nat}{e:Env}{h:List Chunk}(hml:m≤h.length)(kb T:Nat)(cells:List PV)(j E sz:Nat)(hk:hatL h kb= .box T cells)(hj:cells[j]? =some (.d (.v (.slice none 0 0)))){h':List Chunk}(hh:h'=setC h kb (.box T (setAt cells j [.own h.length 0]))++[.row E sz 0 []]):Weak P n m e h e h':=by
 intro X _ _ hXm a w hr
 subst hh
 obtain⟨c,hc⟩:=hr
 obtain⟨c',q1,q2⟩:=hc.new_row (k:=h.length) (w':=w) (hatL_end h) (by omega) E sz [] (.slice none 0 0) [] (Below.refl _ _) .nil (fun b hb=>by cases hb) ⟨rfl,fun j d x h=>by simp at h⟩ (by simp) (by simp)
 have hlt:kb < h.length:=hatL_lt (by rw[hk];simp)
 have hjl:j < cells.length:=(List.getElem?_eq_some_iff.1 hj).1
 have hsl:(setC h kb (.box T (setAt cells j [.own h.length 0]))).length=h.length:=by
  have:∀(l:List Chunk) (k:Nat) (c:Chunk),k < l.length→(setC l k c).length=l.length:=by
   intro l
   induction l with
   |nil=>intro k c hk;simp at hk
   |cons a l ih=>
    intro k c hk
    cases k with
    |zero=>rfl
    |succ k=>simp only[setC,List.length_cons];rw[ih k c (by simpa using hk)]
  exact this h kb _ hlt
 have hat:∀k,hatL (setC h kb (.box T (setAt cells j [.own h.length 0]))++[.row E sz 0 []]) k=if k=h.length then .row E sz 0 []else if k=kb then .box T (setAt cells j [.own h.length 0])else hatL h k:=by
  intro k
  rw[hat_snoc,hsl,hatL_setC (by omega)]
 have hold:∀k,effH [(h.length,Chunk.row E sz 0 [])] (hatL h) k=if k=h.length then .row E sz 0 []else hatL h k:=fun k=>rfl
 have hblk:∀k,c'.block k (hatL (setC h kb (.box T (setAt cells j [.own h.length 0]))++[.row E sz 0 []]) k)=c'.block k (effH [(h.length,Chunk.row E sz 0 [])] (hatL h) k):=by
  intro k
  rw[hat,hold]
  by_cases h1:k=h.length
  ·rw[if_pos h1,if_pos h1]
  ·rw[if_neg h1,if_neg h1]
   by_cases h2:k=kb
   ·subst h2;rw[if_pos rfl,hk];rfl
   ·rw[if_neg h2]
 refine⟨c',q1.size,q1.defers,q1.ext,q1.inv,q1.fresh,?_,?_,?_,q1.env,?_,q1.lent⟩
 ·intro b
  have:=q1.mu b
  simp only[mkF]at this ⊢
  simpa only[hblk]using this
 ·intro k b
  have:=q1.new k b
  simp only[mkF]at this ⊢
  rwa [hblk]
 ·intro k k' b
  have:=q1.apart k k' b
  simp only[mkF]at this ⊢
  rwa [hblk,hblk]
 ·intro k
  have hck:=q1.chunk k
  simp only[mkF]at hck ⊢
  rw[hat]
  rw[hold]at hck
  by_cases h1:k=h.length
  ·rw[if_pos h1]at hck ⊢;exact hck
  ·rw[if_neg h1]at hck ⊢
   by_cases h2:k=kb
   ·subst h2
    rw[if_pos rfl]
    rw[hk]at hck
    have hck0:=hc.chunk k
    simp only[mkF]at hck0
    rw[hk]at hck0
    cases hck with
    |box _ _ b vs g1 g2 g3 g4=>
     have hvj:vs[j]? =some (.slice none 0 0):=by
      have hjv:j < vs.length:=by rw[←g3.1];exact hjl
      obtain⟨u,hu⟩:∃u,vs[j]? =some u:=⟨_,List.getElem?_eq_getElem hjv⟩
      have:=g3.2 j _ u hj hu
      cases this with
      |d _ _ h=>cases h;exact hu
     have hset:setAt vs j [.slice none 0 0]=vs:=by
      apply List.ext_getElem?
      intro i
      rw[setAt_get (by simp;rw[←g3.1];exact hjl)]
      split
      ·rename_i hi
       obtain rfl:i=j:=by simp at hi;omega
       rw[hvj]
       simp
      ·rfl
     have hr1:RepPs c' w [.own h.length 0] [.slice none 0 0]:=⟨rfl,fun i d x hd hx=>by
      cases i with
      |zero=>simp at hd hx;subst hd;subst hx;exact q2
      |succ i=>simp at hd⟩
     have hr2:=repPs_set (off:=j) g3 hr1 (by simp;omega)
     rw[hset]at hr2
     exact .box T _ b vs g1 g2 hr2 (fun d hd=>(mem_setAt hd).elim (g4 d) (fun hd=>by simp at hd;subst hd;rfl))
   ·rw[if_neg h2];exact hck
mutual
def fz (k g:Nat)(d:D):PV→PV
 | .own k' g'=>if k'=k∧g'=g then .d d else .own k' g'
 | .clo f caps=> .clo f (fzL k g d caps)
 | .agg l=> .agg (fzL k g d l)
 | .tup l=> .tup (fzL k g d l)
 | .d x=> .d x
 | .any=> .any
 | .ptr k' o=> .ptr k' o
 | .rp k' g' sz i j=> .rp k' g' sz i j
 | .osl k' g' sz a n=> .osl k' g' sz a n
 | .mref k'=> .mref k'
def fzL (k g:Nat)(d:D):List PV→List PV
 |[]=>[]
 |p::l=>fz k g d p::fzL k g d l
end
theorem fzL_map (k g:Nat)(d:D):∀l,fzL k g d l=l.map (fz k g d)
 |[]=>rfl
 |p::l=>by simp only[fzL,fzL_map k g d l,List.map_cons]
theorem fzL_d (k g:Nat)(d:D):∀(l:List D),fzL k g d (l.map .d)=l.map .d
 |[]=>rfl
 |x::l=>by simp only[List.map_cons,fzL,fz,fzL_d k g d l]
def fzR (k g:Nat)(d:D):List (List PV)→List (List PV)
 |[]=>[]
 |r::l=>fzL k g d r::fzR k g d l
theorem fzR_map (k g:Nat)(d:D):∀l,fzR k g d l=l.map (·.map (fz k g d))
 |[]=>rfl
 |p::l=>by simp only[fzR,fzR_map k g d l,fzL_map,List.map_cons]
theorem fzR_d (k g:Nat)(d:D):∀(l:List (List D)),fzR k g d (dRows l)=dRows l
 |[]=>rfl
 |x::l=>by
  have:=fzR_d k g d l
  simp only[dRows]at this
  simp only[dRows,List.map_cons,fzR,fzL_d,this]
def fzC (k g:Nat)(d:D):Chunk→Chunk
 | .box T cells=> .box T (fzL k g d cells)
 | .row E sz g' rows=> .row E sz g' (fzR k g d rows)
 |c=>c
def fzE (k g:Nat)(d:D):Env→Env
 |[]=>[]
 |(t,p)::l=>(t,fz k g d p)::fzE k g d l
def fzH (k g:Nat)(d:D):Nat→List Chunk→List Chunk
 |_,[]=>[]
 |j,c::l=>(if j=k then .gone else fzC k g d c)::fzH k g d (j+1) l
theorem look_fzE (k g:Nat)(d:D):∀(e:Env) (t:Nat),look (fzE k g d e) t=fz k g d (look e t)
 |[],t=>rfl
 |(t',p)::l,t=>by
  simp only[fzE,look]
  by_cases h:t=t'
  ·rw[if_pos h,if_pos h]
  ·rw[if_neg h,if_neg h];exact look_fzE k g d l t
theorem hat_fzH (k g:Nat)(d:D):∀(h:List Chunk) (j i:Nat),hatL (fzH k g d j h) i=if i+j=k then (if i < h.length then .gone else .none)else fzC k g d (hatL h i)
 |[],j,i=>by simp[fzH,hatL,fzC]
 |c::l,j,0=>by
  simp only[fzH,hatL,Nat.zero_add,List.length_cons,Nat.zero_lt_succ,if_true]
 |c::l,j,i+1=>by
  simp only[fzH,hatL]
  rw[hat_fzH k g d l (j+1) i]
  have e1:(i+(j+1)=k)=(i+1+j=k):=by apply propext;omega
  have e2:(i < l.length)=(i+1 < (c::l).length):=by apply propext;simp
  simp only[e1,e2]
theorem weak_freeze {P:Program}{n m:Nat}{e:Env}{h:List Chunk}(k g E sz:Nat)(rows:List (List D))(hk:hatL h k= .row E sz g (dRows rows)):Weak P n m e h (fzE k g (.sl sz rows) e) (fzH k g (.sl sz rows) 0 h):=by
 intro X _ _ hXm a w hr
 obtain⟨c,hc⟩:=hr
 have hf:=hc.freeze [k]
 generalize hcc:({c with M:=lessM c (mkF e h).heap [k]}:Cx)=cc at hf
 have hbl:cc.bl=c.bl:=by rw[←hcc]
 have hov:cc.ov=c.ov:=by rw[←hcc]
 have hMM:cc.M=lessM c (hatL h) [k]:=by rw[←hcc];rfl
 have hlt:k < h.length:=hatL_lt (by rw[hk];simp)
 have key:∀(p:PV) (v:Value),RepP cc w p v→RepP cc w (fz k g (.sl sz rows) p) v:=by
  intro p v hp
  induction hp with
  |own k' g' v h1 h2=>
   simp only[fz]
   by_cases e:k'=k∧g'=g
   ·rw[if_pos e]
    obtain⟨rfl,rfl⟩:=e
    refine .d _ _ ?_
    rw[hMM]
    have hv:viewF (mkF e h).heap 1 (.own k' g')=some (.sl sz rows):=by
     simp only[viewF,mkF,hk,if_true,viewR_d,Option.map_some]
    exact viewF_ok hc (T:=[k']) 1 hv (fun k2 hk2=>by simpa[tchF,mkF,hk,tchR_d]using hk2) (.own k' g' v (by rw[←hov];exact h1) h2)
   ·rw[if_neg e];exact .own k' g' v h1 h2
  |clo f caps vs hl hrep ih=>
   simp only[fz,fzL_map]
   refine .clo f _ vs (by rw[List.length_map];exact hl) fun j d x hj hx=>?_
   rw[List.getElem?_map,Option.map_eq_some_iff]at hj
   obtain⟨y,hy,rfl⟩:=hj
   exact ih j y x hy hx
  |agg caps vs hl h1 hrep ih=>
   simp only[fz,fzL_map]
   refine .agg _ vs (by rw[List.length_map];exact hl) (fun d hd=>?_) fun j d x hj hx=>?_
   ·obtain⟨y,hy,rfl⟩:=List.mem_map.1 hd
    have:=h1 y hy
    cases y<;>simp only[fz]<;>first|exact this|(split<;>first|rfl|exact this)
   ·rw[List.getElem?_map,Option.map_eq_some_iff]at hj
    obtain⟨y,hy,rfl⟩:=hj
    exact ih j y x hy hx
  |tup caps vs hl hrep ih=>
   simp only[fz,fzL_map]
   refine .tup _ vs (by rw[List.length_map];exact hl) fun j d x hj hx=>?_
   rw[List.getElem?_map,Option.map_eq_some_iff]at hj
   obtain⟨y,hy,rfl⟩:=hj
   exact ih j y x hy hx
  |d x v h1=>exact .d x v h1
  |any v=>exact .any v
  |ptr k' off b h1=>exact .ptr k' off b h1
  |rp k' g' sz' i j b nn cap h1=>exact .rp k' g' sz' i j b nn cap h1
  |osl k' g' sz' a' nn b o N cap h1 h2 h3 h4=>exact .osl k' g' sz' a' nn b o N cap h1 h2 h3 h4
  |mref k' b h1=>exact .mref k' b h1
 have one:∀(y:PV),y.one=true→(fz k g (.sl sz rows) y).one=true:=by
  intro y hy
  cases y<;>simp only[fz]<;>first|exact hy|(split<;>first|rfl|exact hy)
 have keys:∀(l:List PV) (vs:List Value),RepPs cc w l vs→RepPs cc w (l.map (fz k g (.sl sz rows))) vs:=by
  intro l vs hl
  refine⟨by rw[List.length_map];exact hl.1,fun j d x hj hx=>?_⟩
  rw[List.getElem?_map,Option.map_eq_some_iff]at hj
  obtain⟨y,hy,rfl⟩:=hj
  exact key _ _ (hl.2 j y x hy hx)
 have hat:∀i,hatL (fzH k g (.sl sz rows) 0 h) i=fzC k g (.sl sz rows) (effH ([k].map fun k=>(k,.gone)) (hatL h) i):=by
  intro i
  rw[hat_fzH,effH_gone,Nat.add_zero]
  by_cases e:i=k
  ·subst e
   rw[if_pos rfl,if_pos hlt,if_pos (by simp)]
   rfl
  ·rw[if_neg e,if_neg (by simpa using e)]
 have blk:∀i ch,cc.block i (fzC k g (.sl sz rows) ch)=cc.block i ch:=fun i ch=>by cases ch<;>rfl
 refine⟨cc,hf.size,hf.defers,hf.ext,hf.inv,hf.fresh,fun b=>?_,fun i b hb=>?_,fun i j b hb hb'=>?_,fun t=>?_,fun i=>?_,hf.lent⟩
 ·rw[hf.mu b]
  simp only[mkF,hat,blk]
 ·simp only[mkF,hat,blk]at hb
  exact hf.new i b hb
 ·simp only[mkF,hat,blk]at hb hb'
  exact hf.apart i j b hb hb'
 ·show RepP cc w (look (fzE k g (.sl sz rows) e) t) _
  rw[look_fzE]
  exact key _ _ (hf.env t)
 ·have hck:=hf.chunk i
  simp only[mkF,hat]at hck ⊢
  generalize effH ([k].map fun k=>(k,.gone)) (hatL h) i=ch at hck
  cases hck with
  |none h1 h2=>exact .none h1 h2
  |gone=>exact .gone
  |mp nB sB ents b h1 h2 h3=>exact .mp nB sB ents b h1 h2 h3
  |it nB sB ents seen b bm h1 h2 h3 h4=>exact .it nB sB ents seen b bm h1 h2 h3 h4
  |box T cells b vs h1 h2 h3 h4=>
   refine .box T _ b vs h1 h2 (by rw[fzL_map];exact keys _ _ h3) (fun d hd=>?_)
   rw[fzL_map]at hd
   obtain⟨y,hy,rfl⟩:=List.mem_map.1 hd
   exact one y (h4 y hy)
  |row E' sz' g' rows' v xs h1 h2 h3 h4 h5 h6=>
   refine .row E' sz' g' _ v xs h1 (by rw[fzR_map,List.length_map];exact h2) (by rw[fzR_map,←List.map_flatten];exact keys _ _ h3) (fun r hr=>?_) (fun r hr d hd=>?_) h6
   ·rw[fzR_map]at hr
    obtain⟨y,hy,rfl⟩:=List.mem_map.1 hr
    rw[List.length_map];exact h4 y hy
   ·rw[fzR_map]at hr
    obtain⟨y,hy,rfl⟩:=List.mem_map.1 hr
    obtain⟨z,hz,rfl⟩:=List.mem_map.1 hd
    exact one z (h5 y hy z hz)
theorem weak_eq {P:Program}{n m:Nat}{e e':Env}{h h':List Chunk}(he:e=e')(hh:h=h'):Weak P n m e h e' h':=by
 subst he;subst hh;exact Weak.refl _ _ _ _ _
section
open Go.Proofs
def msk (n:Int):Int:=2 ^ (16 - n).toNat - 1
theorem msk_nat (n:Int):msk n=((2 ^ (16 - n).toNat - 1:Nat):Int):=by
 have:=Nat.one_le_two_pow (n:=(16 - n).toNat)
 have h4:((2 ^ (16 - n).toNat:Nat):Int)=(2:Int) ^ (16 - n).toNat:=by simp
 unfold msk;omega
theorem pow_bd (n:Int)(h0:0≤n):(2:Int) ^ (16 - n).toNat≤65536∧1≤(2:Int) ^ (16 - n).toNat:=by
 have h1:(16 - n).toNat≤16:=by omega
 have h2:=Nat.pow_le_pow_right (n:=2) (by omega) h1
 have h3:=Nat.one_le_two_pow (n:=(16 - n).toNat)
 have h4:((2 ^ (16 - n).toNat:Nat):Int)=(2:Int) ^ (16 - n).toNat:=by simp
 omega
theorem msk_bd (n:Int)(h0:0≤n):0≤msk n∧msk n≤65535:=by
 have:=pow_bd n h0
 unfold msk;omega
theorem mask_any (n:Int)(w:World)(h0:0≤n)(h1:n≤16):
 Calls Tryz.prog 49 #[.int .i64 n] w fun e w'=>e= .returned (.int .i64 (msk n))∧w=w':=by
 have hp:=pow_bd n h0
 go_enter Tryz.func49,Tryz.ntmps49
 go_wp2
 go_ret
 exact⟨rfl,rfl⟩
def chk (a l:Int):Int:=if l < 0∨l>16∨a < 0∨a>65535 then 3 else if a % 2 ^ (16 - l).toNat=0 then 0 else 1
theorem and_msk (a l:Int)(h0:0≤a)(h1:a≤65535)(h2:0≤l):bits .and .i64 a (msk l)=a % 2 ^ (16 - l).toNat:=by
 obtain⟨n,rfl⟩:=Int.eq_ofNat_of_zero_le h0
 rw[msk_nat,i64_and_nat _ _ (by omega) (by have:=msk_bd l h2;rw[msk_nat]at this;omega),Nat.and_two_pow_sub_one_eq_mod]
 simp
theorem chk_3 {a l:Int}(h:l < 0∨l>16∨a < 0∨a>65535):chk a l=3:=if_pos h
theorem chk_in {a l:Int}(h1:0≤l)(h2:l≤16)(h3:0≤a)(h4:a≤65535):chk a l=if a % 2 ^ (16 - l).toNat=0 then 0 else 1:=if_neg (by omega)
theorem check_any (a l:Int)(w:World):
 Calls Tryz.prog 114 #[.agg #[.int .i64 a,.int .i64 l]] w fun e w'=>e= .returned (.int .i64 (chk a l))∧Ext w w':=by
 by_cases hl:l < 0∨l>16∨a < 0∨a>65535
 ·have hc:=Lib.hid (chk_3 hl)
  by_cases h1:l < 0
  ·clear hl
   go_enter Tryz.func114,Tryz.ntmps114
   go_wp2_with fail
   go_ret
   exact⟨ret_int hc.out.symm,(Below.refl _ _).alloc (Nat.le_refl _) _⟩
  by_cases h2:l>16
  ·clear hl
   go_enter Tryz.func114,Tryz.ntmps114
   go_wp2_with fail
   go_ret
   exact⟨ret_int hc.out.symm,(Below.refl _ _).alloc (Nat.le_refl _) _⟩
  by_cases h3:a < 0
  ·clear hl
   go_enter Tryz.func114,Tryz.ntmps114
   go_wp2_with fail
   go_ret
   exact⟨ret_int hc.out.symm,(Below.refl _ _).alloc (Nat.le_refl _) _⟩
  have h4:a>65535:=by omega
  clear hl
  go_enter Tryz.func114,Tryz.ntmps114
  go_wp2_with fail
  go_ret
  exact⟨ret_int hc.out.symm,(Below.refl _ _).alloc (Nat.le_refl _) _⟩
 ·have hm:=msk_bd l (by omega)
  obtain⟨g1,g2,g3,g4⟩:0≤l∧l≤16∧0≤a∧a≤65535:=by omega
  clear hl
  have hc:=Lib.hid (chk_in g1 g2 g3 g4)
  have ha:=Lib.hid (and_msk a l g3 g4 g1)
  go_enter Tryz.func114,Tryz.ntmps114
  go_wp2_with fail
  go_quiet ((go_at_call 49;exact Calls.quiet_of_same ((mask_any _ _ (by omega) (by omega)).mono (fun _ _ h=>⟨h.1,h.2.symm⟩))))
  go_wp2_with fail
  ·go_ret
   rename_i h
   rw[ha.out]at h
   exact⟨ret_int (by rw[hc.out,if_neg (by simpa using h)]),below_drewN ((Below.refl _ _).alloc (Nat.le_refl _) _) _⟩
  ·go_ret
   rename_i h
   rw[ha.out]at h
   exact⟨ret_int (by rw[hc.out,if_pos (by simpa using h)]),below_drewN ((Below.refl _ _).alloc (Nat.le_refl _) _) _⟩
structure Pfx where
 at_:Int
 len:Int
 deriving DecidableEq
def Pfx.R (cs:List Value)(p:Pfx):Prop:=cs=[.int .i64 p.at_,.int .i64 p.len]
def Pfx.chk (p:Pfx):Int:=Go.Proofs.YtmicljipaiohkaaGreat.chk p.at_ p.len
theorem right_any {A:Area}{w:World}{ao:Option Addr}{cap:Nat}{l:List Pfx}(h:Sl A w 2 Pfx.R ao cap l):
 Calls Tryz.prog 48 #[.slice ao l.length cap] w fun e w'=>e= .returned (.bool (l.all fun p=>p.chk==0))∧Ext w w':=by
 have hcl:=h.cap_le
 have hcm:=h.cap_max
 go_enter Tryz.func48,Tryz.ntmps48
 go_wp2_with fail
 go_loopw [7] (fun i wr=>∃k:Nat,k≤l.length∧i= .int .i64 k∧(∀p∈l.take k,p.chk=0)∧Bel w.heap.size w wr) (fun i _=>l.length - (intOf i).toNat)
 case atStart=>exact⟨0,Nat.zero_le _,rfl,by simp,Bel.refl _⟩
 case round=>
  obtain⟨k,hk,rfl,hall,hb⟩:=hrel
  by_cases hlt:k < l.length
  ·obtain⟨b,off,cs,hao,-,-,hR,hc⟩:=h.elem k hlt
   generalize hp:l[k]=p at hR
   unfold Pfx.R at hR
   subst hR
   have hc0:=hc 0 (by simp)
   have hc1:=hc 1 (by simp)
   simp at hc0 hc1
   have hbl:=lt_of_cell hc0
   have hc0:=hb.cell hbl hc0
   have hc1:=hb.cell hbl hc1
   replace hp:=Lib.hid hp
   replace hall:=Lib.hid hall
   clear hc
   subst hao
   go_wp2_with fail
   have hle:=hb.le
   refine(check_any _ _ _).mono ?_
   rintro e w1 ⟨rfl,hw1⟩
   have hb3:Bel w.heap.size w w1:=by(repeat(first|with_reducible assumption|with_reducible exact Bel.refl _|with_reducible refine Bel.alloc ?_ _|with_reducible refine Bel.drewN ?_ _|with_reducible refine Bel.drew ?_|(with_reducible refine Bel.setCell0 ?_ ?_ _;rotate_left;(first|omega|(simp;done)|(simp;omega)))|(with_reducible refine Bel.setCell ?_ (p:=_) ?_ _;rotate_left;(first|(simp;done)|omega|(simp;omega)))|refine Bel.call ?_ (by assumption)|(refine EX.bel ?_ (by assumption) ?_;rotate_left;(first|omega|(simp;omega)))))
   replace hb3:=Lib.hid hb3
   clear hb
   by_cases hz:Go.Proofs.YtmicljipaiohkaaGreat.chk p.at_ p.len=0
   ·have hz2:(Go.Proofs.YtmicljipaiohkaaGreat.chk p.at_ p.len !=0)=false:=by simp[hz]
    replace hz:=Lib.hid hz
    go_wp2_with fail
    go_roundw
    case rel=>exact⟨k+1,by omega,by go_num,by
     intro q hq
     rw[List.take_succ_eq_append_getElem hlt]at hq
     rcases List.mem_append.1 hq with hq|hq
     ·exact hall.out q hq
     ·rw[List.mem_singleton.1 hq,hp.out];exact hz.out,hb3.out⟩
    case measure=>simp[intOf];omega
   ·have hz2:(Go.Proofs.YtmicljipaiohkaaGreat.chk p.at_ p.len !=0)=true:=by simp[hz]
    go_wp2_with fail
    go_ret
    refine⟨?_,hb3.out.bel⟩
    have:(l.all fun p=>p.chk==0)=false:=by
     rw[List.all_eq_false]
     exact⟨l[k],List.getElem_mem hlt,by rw[hp.out];simpa[Pfx.chk]using hz⟩
    rw[this];rfl
  ·obtain rfl:k=l.length:=by omega
   go_wp2_with fail
   go_ret
   refine⟨?_,hb.bel⟩
   have:(l.all fun p=>p.chk==0)=true:=by
    rw[List.all_eq_true]
    intro p hp
    rw[List.take_length]at hall
    simpa using hall p hp
   rw[this];rfl
end
theorem take_snoc {α:Type}{l:List α}{k:Nat}{x:α}(h:l[k]? =some x):l.take (k+1)=l.take k++[x]:=by
 rw[List.take_add_one,h];rfl
structure Lse where
 at_:Pfx
 kind:Int
 owner:Int
 till:Int
 deriving DecidableEq
structure Rul where
 min:Int
 max:Int
 usual:Int
 cool:Int
 deriving DecidableEq
structure Pol where
 id:Int
 up:Int
 root:Pfx
 rule:Rul
 leases:List Lse
 deriving DecidableEq
structure Bok where
 tick:Int
 pools:List Pol
 deriving DecidableEq
@[go_sem] def encI (n:Int):D:= .v (.int .i64 n)
@[go_sem] def encP (p:Pfx):List D:=[.v (.int .i64 p.at_),.v (.int .i64 p.len)]
@[go_sem] def encR (r:Rul):List D:=[.v (.int .i64 r.min),.v (.int .i64 r.max),.v (.int .i64 r.usual),.v (.int .i64 r.cool)]
@[go_sem] def encL (l:Lse):List D:=[.v (.int .i64 l.at_.at_),.v (.int .i64 l.at_.len),.v (.int .i64 l.kind),.v (.int .i64 l.owner),.v (.int .i64 l.till)]
@[go_sem] def encPol (p:Pol):List D:=[.v (.int .i64 p.id),.v (.int .i64 p.up),.v (.int .i64 p.root.at_),.v (.int .i64 p.root.len),.v (.int .i64 p.rule.min),.v (.int .i64 p.rule.max),.v (.int .i64 p.rule.usual),.v (.int .i64 p.rule.cool),.sl 5 (p.leases.map encL)]
@[go_sem] def encB (b:Bok):List D:=[.v (.int .i64 b.tick),.sl 9 (b.pools.map encPol)]
def encS (root:Pfx)(us:List Pfx):List D:=[.v (.int .i64 root.at_),.v (.int .i64 root.len),.sl 2 (us.map encP)]
theorem encP_len (p:Pfx):(encP p).length=2:=rfl
structure Fce where
 id:Int
 addrs:List Int
 deriving DecidableEq
structure Sbn where
 id:Int
 at_:Pfx
 faces:List Fce
 deriving DecidableEq
structure Rng where
 at_:Pfx
 pool:Int
 deriving DecidableEq
structure Vpc where
 id:Int
 ranges:List Rng
 subs:List Sbn
 deriving DecidableEq
@[go_sem] def encA (n:Int):List D:=[.v (.int .i64 n)]
@[go_sem] def encF (f:Fce):List D:=[.v (.int .i64 f.id),.sl 1 (f.addrs.map encA)]
@[go_sem] def encN (s:Sbn):List D:=[.v (.int .i64 s.id),.v (.int .i64 s.at_.at_),.v (.int .i64 s.at_.len),.sl 2 (s.faces.map encF)]
@[go_sem] def encG (r:Rng):List D:=[.v (.int .i64 r.at_.at_),.v (.int .i64 r.at_.len),.v (.int .i64 r.pool)]
@[go_sem] def encV (v:Vpc):List D:=[.v (.int .i64 v.id),.sl 3 (v.ranges.map encG),.sl 4 (v.subs.map encN)]
theorem encF_len (f:Fce):(encF f).length=2:=rfl
theorem encN_len (s:Sbn):(encN s).length=4:=rfl
theorem encG_len (r:Rng):(encG r).length=3:=rfl
theorem encV_len (v:Vpc):(encV v).length=3:=rfl
structure Lnk where
 a:Int
 b:Int
 deriving DecidableEq
structure Net where
 vpcs:List Vpc
 links:List Lnk
 deriving DecidableEq
@[go_sem] def encK (l:Lnk):List D:=[.v (.int .i64 l.a),.v (.int .i64 l.b)]
@[go_sem] def encT (n:Net):List D:=[.sl 3 (n.vpcs.map encV),.sl 2 (n.links.map encK)]
structure Ste where
 book:Bok
 net:Net
 deriving DecidableEq
structure Cmd where
 op:Int
 a:Int
 b:Int
 c:Int
 at_:Pfx
 rule:Rul
 deriving DecidableEq
structure Ans where
 err:Int
 at_:Pfx
 n:Int
 deriving DecidableEq
def Ans.zero:Ans:=⟨0,⟨0,0⟩,0⟩
def Ans.er (e:Int):Ans:=⟨e,⟨0,0⟩,0⟩
def Ste.zero:Ste:=⟨⟨0,[]⟩,⟨[],[]⟩⟩
@[go_sem] def encSt (s:Ste):List D:=[.v (.int .i64 s.book.tick),.sl 9 (s.book.pools.map encPol),.sl 3 (s.net.vpcs.map encV),.sl 2 (s.net.links.map encK)]
@[go_sem] def encC (c:Cmd):List D:=[.v (.int .i64 c.op),.v (.int .i64 c.a),.v (.int .i64 c.b),.v (.int .i64 c.c),.v (.int .i64 c.at_.at_),.v (.int .i64 c.at_.len),.v (.int .i64 c.rule.min),.v (.int .i64 c.rule.max),.v (.int .i64 c.rule.usual),.v (.int .i64 c.rule.cool)]
@[go_sem] def encAn (a:Ans):List D:=[.v (.int .i64 a.err),.v (.int .i64 a.at_.at_),.v (.int .i64 a.at_.len),.v (.int .i64 a.n)]
theorem hat_setC_fun (h:List Chunk)(k:Nat)(ch:Chunk)(hk:k < h.length):hatL (setC h k ch)=effH [(k,ch)] (hatL h):=by
 funext i
 rw[hatL_setC (Nat.le_of_lt hk),effH1]
theorem weak_cut {P:Program}{n m:Nat}{e:Env}{h:List Chunk}(t k g E sz l:Nat)(rows:List (List PV))(ht:look e t= .osl k g sz 0 l)(hk:hatL h k= .row E sz g rows)(hne:rows≠[])(hl:l≤rows.length){e':Env}{h':List Chunk}(he:e'=(t,.own k (g+1))::e)(hh:h'=setC h k (.row E sz (g+1) (rows.take l))):Weak P n m e h e' h':=by
 intro X _ _ hXm a w hr
 subst he
 subst hh
 obtain⟨c,hc⟩:=hr
 have hlt:k < h.length:=hatL_lt (by rw[hk];simp)
 have het:=hc.env t
 have hck:=hc.chunk k
 have ht':(mkF e h).env t= .osl k g sz 0 l:=ht
 have hk':(mkF e h).heap k= .row E sz g rows:=hk
 rw[ht']at het
 rw[hk']at hck
 generalize hv:a.tmps.getD t undef=v at het
 cases het with
 |osl _ _ _ _ _ b o N cap hov hn hcN hoo=>
  obtain⟨cur,xs,q1,q2,q3,q4,q5,q6,q7,q8,q9,q10,q11⟩:=row_cells hck hov hne
  have hrl:0 < rows.length:=List.length_pos_iff.2 hne
  obtain rfl:o=0:=by rw[hoo (by omega)];simp
  have hown:OwnV w E sz (.slice (some ⟨b,0,none⟩) l (cap - 0)) (rows.take l).length (xs.take (l*sz)):=by
   rw[List.length_take,Nat.min_eq_left hl]
   have hmul:l*sz≤rows.length*sz:=Nat.mul_le_mul_right sz hl
   refine .row b l (cap - 0) cur _ (by omega) q1 (by omega) (by omega) q11 (by rw[List.length_take];omega) ?_
   apply List.ext_getElem?
   intro j
   by_cases hj:j < l*sz
   ·rw[List.getElem?_take_of_lt hj,List.getElem?_take_of_lt hj,Array.getElem?_toList,q4 j (by omega)]
   ·rw[List.getElem?_eq_none (by rw[List.length_take];omega),List.getElem?_eq_none (by rw[List.length_take];omega)]
  obtain⟨c',r1,r2⟩:=hc.set_row (w':=w) hk' hov ⟨rfl,rfl,rfl,Nat.le_refl _,fun _ _ _=>rfl⟩ hown (.inl (by rw[ownB_pos (by omega),ownB_pos (by omega)])) (by rw[flatten_take q5];exact⟨by rw[List.length_take,List.length_take,q2.1],fun j d x hj hx=>by
   have hlt1:j < l*sz:=by
    have:=(List.getElem?_eq_some_iff.1 hj).1
    rw[List.length_take]at this;omega
   rw[List.getElem?_take_of_lt hlt1]at hj hx
   exact q2.2 j d x hj hx⟩)
   (fun r hr=>q5 r (List.mem_of_mem_take hr)) (fun r hr=>q6 r (List.mem_of_mem_take hr))
  have hfun:=hat_setC_fun h k (.row E sz (g+1) (rows.take l)) hlt
  refine⟨c',r1.size,r1.defers,r1.ext,r1.inv,r1.fresh,?_,?_,?_,fun t'=>?_,?_,r1.lent⟩
  ·intro b
   have:=r1.mu b
   simp only[mkF,hfun]at this ⊢
   exact this
  ·intro k b
   have:=r1.new k b
   simp only[mkF,hfun]at this ⊢
   exact this
  ·intro k k' b
   have:=r1.apart k k' b
   simp only[mkF,hfun]at this ⊢
   exact this
  ·simp only[mkF,look]
   by_cases h1:t'=t
   ·subst h1
    rw[if_pos rfl,hv]
    exact r2
   ·rw[if_neg h1]
    exact r1.env t'
  ·intro k
   have:=r1.chunk k
   simp only[mkF,hfun]at this ⊢
   exact this
theorem weak_bump {P:Program}{n m:Nat}{e:Env}{h:List Chunk}(t k g E sz:Nat)(rows:List (List PV))(ht:look e t= .own k g)(hk:hatL h k= .row E sz g rows){e':Env}{h':List Chunk}(he:e'=(t,.own k (g+1))::e)(hh:h'=setC h k (.row E sz (g+1) rows)):Weak P n m e h e' h':=by
 intro X _ _ hXm a w hr
 subst he
 subst hh
 obtain⟨c,hc⟩:=hr
 have hlt:k < h.length:=hatL_lt (by rw[hk];simp)
 have het:=hc.env t
 have hck:=hc.chunk k
 have ht':(mkF e h).env t= .own k g:=ht
 have hk':(mkF e h).heap k= .row E sz g rows:=hk
 rw[ht']at het
 rw[hk']at hck
 generalize hv:a.tmps.getD t undef=v at het
 cases het with
 |own _ _ _ hov h1=>
  cases hck with
  |row _ _ _ _ u xs hu hown hr hsz h1' hg=>
   rw[hov]at hu
   cases hu
   obtain⟨c',r1,r2⟩:=hc.set_row (w':=w) hk' hov ⟨rfl,rfl,rfl,Nat.le_refl _,fun _ _ _=>rfl⟩ hown (.inl rfl) hr hsz h1'
   have hfun:=hat_setC_fun h k (.row E sz (g+1) rows) hlt
   refine⟨c',r1.size,r1.defers,r1.ext,r1.inv,r1.fresh,?_,?_,?_,fun t'=>?_,?_,r1.lent⟩
   ·intro b
    have:=r1.mu b
    simp only[mkF,hfun]at this ⊢
    exact this
   ·intro k b
    have:=r1.new k b
    simp only[mkF,hfun]at this ⊢
    exact this
   ·intro k k' b
    have:=r1.apart k k' b
    simp only[mkF,hfun]at this ⊢
    exact this
   ·simp only[mkF,look]
    by_cases h1:t'=t
    ·subst h1
     rw[if_pos rfl,hv]
     exact r2
    ·rw[if_neg h1]
     exact r1.env t'
   ·intro k
    have:=r1.chunk k
    simp only[mkF,hfun]at this ⊢
    exact this
theorem look_one (p q:PV)(e:Env)(t:Nat):look ((0,q)::[(0,p)]) t=look [(0,q)] t:=by
 simp only[look]
 by_cases h0:t=0
 ·rw[if_pos h0,if_pos h0]
 ·rw[if_neg h0,if_neg h0,if_neg h0]
theorem weak_ret_bump {P:Program}{m:Nat}{h:List Chunk}(k g E sz:Nat)(rows:List (List PV))(hk:hatL h k= .row E sz g rows){e':Env}{h':List Chunk}(hw:Weak P 1 m [(0,.own k (g+1))] (setC h k (.row E sz (g+1) rows)) e' h'):Weak P 1 m [(0,.own k g)] h e' h':=
 ((weak_bump 0 k g E sz rows rfl hk rfl rfl).trans (weak_look fun t=> .inr (look_one _ _ [] t).symm)).trans hw
theorem weak_ret_adopt {P:Program}{m:Nat}{h:List Chunk}(hml:m≤h.length)(E sz:Nat){e':Env}{h':List Chunk}(hw:Weak P 1 m [(0,.own h.length 0)] (h++[.row E sz 0 []]) e' h'):Weak P 1 m [(0,.d (.v (.slice none 0 0)))] h e' h':=
 ((weak_adopt hml 0 E sz rfl).trans (weak_look fun t=> .inr (look_one _ _ [] t).symm)).trans hw
theorem weak_gone {P:Program}{n m:Nat}{e:Env}{h:List Chunk}(k:Nat)(hk:k < h.length):Weak P n m e h e (setC h k .gone):=by
 intro X _ _ hXm a w hr
 obtain⟨c,hc⟩:=hr
 have hf:=hc.freeze [k]
 have hfun:=hat_setC_fun h k .gone hk
 refine⟨_,hf.size,hf.defers,hf.ext,hf.inv,hf.fresh,?_,?_,?_,hf.env,?_,hf.lent⟩
 ·intro b
  have:=hf.mu b
  simp only[mkF,hfun,List.map_cons,List.map_nil]at this ⊢
  exact this
 ·intro k b
  have:=hf.new k b
  simp only[mkF,hfun,List.map_cons,List.map_nil]at this ⊢
  exact this
 ·intro k k' b
  have:=hf.apart k k' b
  simp only[mkF,hfun,List.map_cons,List.map_nil]at this ⊢
  exact this
 ·intro k
  have:=hf.chunk k
  simp only[mkF,hfun,List.map_cons,List.map_nil]at this ⊢
  exact this
theorem ms_empty {P:Program}{f sz:Nat}{pl ql:List PV}{h0 h1:List Chunk}{r:PV}(h:∀(ao:Option Addr) (cap:Nat),MSpec P f (pl++ .d (.v (.slice ao 0 cap))::ql) h0 r h1):MSpec P f (pl++ .d (.sl sz [])::ql) h0 r h1:=by
 have h00:=h none 0
 have hbl:∀(d d':D) (n:Nat) (pl:List PV),belowL n (pl++ .d d::ql)=belowL n (pl++ .d d'::ql):=by
  intro d d' n pl
  induction pl with
  |nil=>simp only[List.nil_append,belowL,belowP]
  |cons a pl ih=>simp only[List.cons_append,belowL,ih]
 refine⟨h00.fn,h00.le,(hbl _ _ _ pl).trans h00.ba,h00.bh,fun X hP hn hm' w c vs hr hps=>?_⟩
 have hlen:=hps.1
 obtain⟨v,hv⟩:∃v,vs[pl.length]? =some v:=⟨_,List.getElem?_eq_getElem (by rw[←hlen];simp)⟩
 have hd:=hps.2 pl.length (.d (.sl sz [])) v (by simp) hv
 have hd:=repD_inv hd
 have key:∀ao cap,v= .slice ao 0 cap→RepPs c w (pl++ .d (.v (.slice ao 0 cap))::ql) vs:=by
  rintro ao cap rfl
  refine⟨by simpa using hlen,fun j d x hj hx=>?_⟩
  rcases Nat.lt_trichotomy j pl.length with hlt|rfl|hgt
  ·exact hps.2 j d x (by rw[List.getElem?_append_left hlt]at hj ⊢;exact hj) hx
  ·rw[hv]at hx
   cases hx
   simp at hj
   subst hj
   exact .d _ _ (.v _)
  ·refine hps.2 j d x ?_ hx
   rw[List.getElem?_append_right (by omega)]at hj ⊢
   obtain⟨i,hi⟩:∃i,j - pl.length=i+1:=⟨j - pl.length - 1,by omega⟩
   rw[hi]at hj ⊢
   exact hj
 cases hd with
 |nil _ ao cap hm=>exact(h ao cap).run X hP hn hm' w c vs hr (key _ _ rfl)
 |sl _ _ b off cap f hM hb hc hm=>
  exact(h _ cap).run X hP hn hm' w c vs hr (key _ _ rfl)
theorem weak_ret_cut {P:Program}{m:Nat}{h:List Chunk}(k g E sz l:Nat)(rows:List (List PV))(hk:hatL h k= .row E sz g rows)(hne:rows≠[])(hl:l≤rows.length){e':Env}{h':List Chunk}(hw:Weak P 1 m [(0,.own k (g+1))] (setC h k (.row E sz (g+1) (rows.take l))) e' h'):Weak P 1 m [(0,.osl k g sz 0 l)] h e' h':=
 ((weak_cut 0 k g E sz l rows rfl hk hne hl rfl rfl).trans (weak_look fun t=>by
  simp only[look]
  by_cases h0:t=0
  ·rw[if_pos h0,if_pos h0];exact .inr rfl
  ·rw[if_neg h0,if_neg h0];exact .inl rfl)).trans hw
structure Tg.{u}{α:Sort u}(a:α):Type where
 mk::
def condS (p:PV)(A B:Prop)(_:Tg A)(_:Tg B):Prop:=match p with| .d (.v (.bool t))=>(t=true→A)∧(t=false→B)|_=>False
def gK (g:Option Bool)(A B:Prop)(_:Tg A)(_:Tg B):Prop:=match g with|some g=>(g=true→A)∧(g=false→B)|none=>False
def drwOK (l:List Oper)(_:Tg l)(sm:List (List Nat × List Nat)):Prop:=(indepB ⟨l⟩ sm.reverse&&edgesB ⟨l⟩)=true
def endK (draw:Bool)(l:List Oper)(_:Tg l)(sm:List (List Nat × List Nat))(A:Prop)(_:Tg A):Prop:=match draw with|true=>drwOK l ⟨⟩ sm∧A|false=>A
def guardP (ds:List (Option Nat))(e:Env)(g:Option (Nat × Bool)):Option Bool:=
 match g with
 |none=>some true
 |some (j,want)=>match ds[j]? with|some dj=>(yieldD dj e).map (·==some want)|none=>none
abbrev KT:=Exit→Env→List Chunk→Prop
def nK (K:KT):Env→List Chunk→Prop:=K .normal
def lopK (C:Env→List Chunk→Prop)(K:KT):KT
 | .normal,e,h=>C e h
 |x,e,h=>K x e h
def apK (K:KT)(_:Tg K)(x:Exit)(e:Env)(h:List Chunk):Prop:=K x e h
def opK (P:Program)(r:SR)(dst:Option Nat)(e:Env)(h:List Chunk)(sm:List (List Nat × List Nat))(R:Env→List Chunk→List (List Nat × List Nat)→Prop)(_:Tg R):Prop:=runO P r dst e h sm R
section
variable (P:Program)(n m:Nat)(T:Nat→Option TI)(Q:Nat→Option Nat)
def rO (draw:Bool)(ops:List Oper)(K:KT):(l:List Oper)→Tg (ops,K,l)→List (Option Nat)→Env→List Chunk→List (List Nat × List Nat)→Prop
 |[],_,_,e,h,sm=>endK draw ops ⟨⟩ sm (apK K ⟨⟩ .normal e h) ⟨⟩
 |o::l,_,ds,e,h,sm=>gK (guardP ds e o.guard) (opK P (opS T Q e h o) o.dst e h sm (fun e' h' sm'=>rO draw ops K l ⟨⟩ (ds++[o.dst]) e' h' sm') ⟨⟩) (rO draw ops K l ⟨⟩ (ds++[o.dst]) (putE e o.dst (.d (.v undef))) h (([],[])::sm)) ⟨⟩ ⟨⟩
def codeB:Code→Bool
 | .seq a b=>codeB a&&codeB b
 | .block _ c=>codeB c
 | .cond _ a b=>codeB a&&codeB b
 | .region _ ops _=>ops.toList.all (dstB n)
 | .loop c=>codeB c
 | .rangeFunc _ _ a b=>codeB a&&codeB b
 |_=>true
def loopK (c:Code)(K:KT)(_:Tg (c,K))(e:Env)(h:List Chunk):Prop:=codeB n c=true→swp P n m (.loop c) K e h
def elseK (c:Code)(K:KT)(_:Tg (c,K))(e:Env)(h:List Chunk):Prop:=swp P n m c K e h
def sC:(c:Code)→(K:KT)→Tg (c,K)→Env→List Chunk→Prop
 | .seq a b,K,_,e,h=>sC a (seqK (sC b K ⟨⟩) K) ⟨⟩ e h
 | .block id c,K,_,e,h=>sC c (blkK id (nK K) K) ⟨⟩ e h
 | .skip,K,_,e,h=>apK K ⟨⟩ .normal e h
 | .exit i,K,_,e,h=>apK K ⟨⟩ (.exit i) e h
 | .ret,K,_,e,h=>apK K ⟨⟩ .ret e h
 | .label _,K,_,e,h=>apK K ⟨⟩ .normal e h
 | .cond c a b,K,_,e,h=>condS (evL e c) (sC a K ⟨⟩ e h) (sC b K ⟨⟩ e h) ⟨⟩ ⟨⟩
 | .region _ ⟨ops⟩ draw,K,_,e,h=>m≤h.length∧rO P T Q draw ops K ops ⟨⟩ [] e h []
 | .loop c,K,_,e,h=>loopK P n m c K ⟨⟩ e h
 |c,K,_,e,h=>elseK P n m c K ⟨⟩ e h
end
theorem guardP_ok {ds:List (Option Nat)}{full:List (Option Nat)}(hp:∃x,full=ds++x){e:Env}{o:Oper}{g:Bool}(h:guardP ds e o.guard=some g):guardD full e o=some g:=by
 obtain⟨x,rfl⟩:=hp
 unfold guardP at h
 unfold guardD
 cases hg:o.guard with
 |none=>rw[hg]at h;exact h
 |some jw=>
  obtain⟨j,want⟩:=jw
  rw[hg]at h
  simp only at h ⊢
  cases hd:ds[j]? with
  |none=>rw[hd]at h;cases h
  |some dj=>
   rw[hd]at h
   have hj:=(List.getElem?_eq_some_iff.1 hd).1
   rw[List.getD_eq_getElem?_getD,List.getElem?_append_left hj,hd]
   exact h
theorem rO_sound {P:Program}{n:Nat}{T:Nat→Option TI}{Q:Nat→Option Nat}{draw:Bool}{ops:List Oper}{K:KT}:∀(l:List Oper) (pre:List Oper) (e:Env) (h:List Chunk) (sm:List (List Nat × List Nat)),ops=pre++l→l.all (dstB n)=true→
 rO P T Q draw ops K l ⟨⟩ (pre.map (·.dst)) e h sm→sOps P n T Q draw ⟨ops⟩ (ops.map (·.dst)) l e h sm (K .normal)
 |[],pre,e,h,sm,_,_,hs=>by
  unfold rO endK at hs
  unfold sOps
  cases draw with
  |true=>exact⟨fun _=>hs.1,hs.2⟩
  |false=>exact⟨(fun h=>(by cases h)),hs⟩
 |o::l,pre,e,h,sm,hop,hb,hs=>by
  simp only[List.all_cons,Bool.and_eq_true]at hb
  have hop':ops=(pre++[o])++l:=by rw[hop];simp
  have hds:pre.map (·.dst)++[o.dst]=(pre++[o]).map (·.dst):=by simp
  refine sOps_cons hb.1 fun R hR=>?_
  unfold rO gK at hs
  unfold grdO
  rw[hds]at hs
  split at hs
  ·rename_i g hg
   rw[guardP_ok (full:=ops.map (·.dst)) ⟨(o::l).map (·.dst),by rw[hop];simp⟩ hg]
   cases g with
   |true=>
    have hs:=hs.1 rfl
    show runO _ _ _ _ _ _ _
    unfold opK runO at hs
    unfold runO
    split at hs
    ·exact hs
    ·obtain⟨a,b,c⟩:=hs
     exact⟨a,b,hR _ _ _ (rO_sound l _ _ _ _ hop' hb.2 c)⟩
    ·rcases hs with⟨ds,r,a,b,c,d⟩|⟨ls,args,h0,r,h1,a,b,c,d,e1,f,g⟩|⟨ls,args,h0,r,a,b,c,d,e1,f,g⟩
     ·exact .inl ⟨ds,r,a,b,c,hR _ _ _ (rO_sound l _ _ _ _ hop' hb.2 d)⟩
     ·exact .inr (.inl ⟨ls,args,h0,r,h1,a,b,c,d,e1,f,hR _ _ _ (rO_sound l _ _ _ _ hop' hb.2 g)⟩)
     ·exact .inr (.inr ⟨ls,args,h0,r,a,b,c,d,e1,f,hR _ _ _ (rO_sound l _ _ _ _ hop' hb.2 g)⟩)
   |false=>exact hR _ _ _ (rO_sound l _ _ _ _ hop' hb.2 (hs.2 rfl))
  ·exact hs.elim
theorem sC_sound {P:Program}{n m:Nat}{T:Nat→Option TI}{Q:Nat→Option Nat}(hTQ:TabOK P T Q)(hmix:P.follows .mixedOrders=true):∀(c:Code) (K:KT) (e:Env) (h:List Chunk),codeB n c=true→sC P n m T Q c K ⟨⟩ e h→swp P n m c K e h
 | .seq a b,K,e,h,hb,hs=>by
  simp only[codeB,Bool.and_eq_true]at hb
  refine pwp_seq fun C hC=>?_
  intro X hX hn hXm ac w hr
  refine wp_mono (sC_sound hTQ hmix a _ e h hb.1 hs X hX hn hXm ac w hr) fun ex a' w' ⟨e',h',hk,hr'⟩=>⟨e',h',?_,hr'⟩
  cases ex with
  |normal=>exact hC _ _ (sC_sound hTQ hmix b _ _ _ hb.2 hk)
  |_=>exact hk
 | .block id c,K,e,h,hb,hs=>by
  refine pwp_block fun C hC=>?_
  intro X hX hn hXm ac w hr
  refine wp_mono (sC_sound hTQ hmix c _ e h hb hs X hX hn hXm ac w hr) fun ex a' w' ⟨e',h',hk,hr'⟩=>⟨e',h',?_,hr'⟩
  cases ex with
  |normal=>exact hC _ _ hk
  |exit i=>
   simp only[blkK]at hk ⊢
   split
   ·rename_i hi;rw[if_pos hi]at hk;exact hC _ _ hk
   ·rename_i hi;rw[if_neg hi]at hk;exact hk
  |_=>exact hk
 | .skip,K,e,h,_,hs=>pwp_skip hs
 | .exit i,K,e,h,_,hs=>pwp_exit hs
 | .ret,K,e,h,_,hs=>pwp_ret hs
 | .label _,K,e,h,_,hs=>pwp_label hs
 | .cond c a b,K,e,h,hb,hs=>by
  simp only[codeB,Bool.and_eq_true]at hb
  simp only[sC,condS]at hs
  split at hs
  ·rename_i t ht
   exact pwp_cond ht (fun h0=>sC_sound hTQ hmix a _ _ _ hb.1 (hs.1 h0)) (fun h0=>sC_sound hTQ hmix b _ _ _ hb.2 (hs.2 h0))
  ·exact hs.elim
 | .region id ⟨ops⟩ draw,K,e,h,hb,hs=>by
  intro X hX hn hXm a w hr
  subst hX
  subst hn
  subst hXm
  exact region_sound hTQ hmix (K:=K .normal) hs.1 (rO_sound ops [] _ _ _ rfl hb hs.2) hr fun e' h' a' w' hk hr'=>⟨e',h',hk,hr'⟩
 | .loop c,K,e,h,hb,hs=>hs hb
 | .rangeFunc _ _ _ _,K,e,h,_,hs=>hs
 | .scope _,K,e,h,_,hs=>hs
 | .goto _,K,e,h,_,hs=>hs
 | .refuse _,K,e,h,_,hs=>hs
section
variable {P:Program}{n m:Nat}{T:Nat→Option TI}{Q:Nat→Option Nat}
theorem loopG (hTQ:TabOK P T Q)(hmix:P.follows .mixedOrders=true){c:Code}{K:Exit→Env→List Chunk→Prop}{e:Env}{h:List Chunk}(I:Nat→Env→List Chunk→Prop)(mm:Nat)(e1:Env)(h1:List Chunk)(h0:I mm e1 h1)(hw:Weak P n m e h e1 h1)
 (hr:∀k e h,I k e h→∀C:Env→List Chunk→Prop,(∀k' e1 h1 e h,k' < k→I k' e1 h1→Weak P n m e h e1 h1→C e h)→sC P n m T Q c (lopK C K) ⟨⟩ e h):loopK P n m c K ⟨⟩ e h:=
 fun hb=>pwp_loop I mm e1 h1 h0 hw fun k e h hI C hC=>(show lopK C K=seqK C K from funext fun x=>by cases x<;>rfl) ▸ sC_sound hTQ hmix c _ _ _ hb (hr k e h hI C hC)
theorem loopN (hTQ:TabOK P T Q)(hmix:P.follows .mixedOrders=true){c:Code}{K:Exit→Env→List Chunk→Prop}{e:Env}{h:List Chunk}(N:Nat)(I:Nat→Prop)(E:Nat→Env)(H:Nat→List Chunk)(h0:I 0)(hw:Weak P n m e h (E 0) (H 0))
 (hr:∀k,k < N→I k→∀C:Env→List Chunk→Prop,(∀e h,I (k+1)→Weak P n m e h (E (k+1)) (H (k+1))→C e h)→sC P n m T Q c (lopK C K) ⟨⟩ (E k) (H k))
 (he:I N→∀C:Env→List Chunk→Prop,sC P n m T Q c (lopK C K) ⟨⟩ (E N) (H N)):loopK P n m c K ⟨⟩ e h:=by
 refine loopG hTQ hmix (fun j e h=>∃k,k≤N∧j=N - k∧I k∧e=E k∧h=H k) N (E 0) (H 0) ⟨0,Nat.zero_le _,rfl,h0,rfl,rfl⟩ hw ?_
 rintro j e h ⟨k,hk,rfl,hI,rfl,rfl⟩ C hC
 rcases Nat.lt_or_ge k N with hlt|hge
 ·exact hr k hlt hI C fun e h hI' hw'=>hC _ _ _ e h (by omega) ⟨k+1,hlt,rfl,hI',rfl,rfl⟩ hw'
 ·obtain rfl:k=N:=by omega
  exact he hI C
theorem loopL (hTQ:TabOK P T Q)(hmix:P.follows .mixedOrders=true){c:Code}{K:Exit→Env→List Chunk→Prop}{e:Env}{h:List Chunk}{α:Type}(l:List α)(I:Nat→Prop)(E:Nat→Env)(H:Nat→List Chunk)(h0:I 0)(hw:Weak P n m e h (E 0) (H 0))
 (hr:∀k x,l[k]? =some x→k < l.length→I k→∀C:Env→List Chunk→Prop,(∀e h,I (k+1)→Weak P n m e h (E (k+1)) (H (k+1))→C e h)→sC P n m T Q c (lopK C K) ⟨⟩ (E k) (H k))
 (he:I l.length→∀C:Env→List Chunk→Prop,sC P n m T Q c (lopK C K) ⟨⟩ (E l.length) (H l.length)):loopK P n m c K ⟨⟩ e h:=
 loopN hTQ hmix l.length I E H h0 hw (fun k hk hI=>hr k l[k] (List.getElem?_eq_getElem hk) hk hI) he
end
section
variable {P:Program}{n m:Nat}{T:Nat→Option TI}{Q:Nat→Option Nat}{A B:Prop}{s:Tg A}{t:Tg B}
theorem gK_t:gK (some true) A B s t=A:=by simp[gK]
theorem gK_f:gK (some false) A B s t=B:=by simp[gK]
theorem gK_i {b:Bool}(h1:b=true→A)(h2:b=false→B):gK (some b) A B s t:=⟨h1,h2⟩
theorem condS_t:condS (.d (.v (.bool true))) A B s t=A:=by simp[condS]
theorem condS_f:condS (.d (.v (.bool false))) A B s t=B:=by simp[condS]
theorem condS_i {b:Bool}(h1:b=true→A)(h2:b=false→B):condS (.d (.v (.bool b))) A B s t:=⟨h1,h2⟩
theorem ob_bt (b:Bool):(some b==some true)=b:=by cases b<;>rfl
theorem ob_bf (b:Bool):(some b==some false)=!b:=by cases b<;>rfl
theorem gK_n {b:Bool}:gK (some (!b)) A B s t=gK (some b) B A t s:=by
 cases b<;>simp[gK]
theorem condS_n {b:Bool}:condS (.d (.v (.bool (!b)))) A B s t=condS (.d (.v (.bool b))) B A t s:=by
 cases b<;>simp[condS]
theorem pick_t (a b:PV):pickS (.d (.v (.bool true))) a b= .res a [] [] True:=by
 simp only[pickS];split<;>rfl
theorem pick_f (a b:PV):pickS (.d (.v (.bool false))) a b= .res b [] [] True:=by
 simp only[pickS];split<;>rfl
theorem pick_b (t p q:Bool):pickS (.d (.v (.bool t))) (.d (.v (.bool p))) (.d (.v (.bool q)))= .res (.d (.v (.bool (bif t then p else q)))) [] [] True:=rfl
theorem endK_f (l:List Oper)(u:Tg l)(sm:List (List Nat × List Nat)):endK false l u sm A s=A:=rfl
theorem endK_t (l:List Oper)(u:Tg l)(sm:List (List Nat × List Nat)):endK true l u sm A s=(drwOK l u sm∧A):=rfl
theorem drw_i {l:List Oper}{u:Tg l}{sm:List (List Nat × List Nat)}(h:(indepB ⟨l⟩ sm.reverse&&edgesB ⟨l⟩)=true):drwOK l u sm:=h
theorem opK_res {p:PV}{eff:List (Nat × Chunk)}{touch:List Nat}{side:Prop}{dst:Option Nat}{e:Env}{h:List Chunk}{sm:List (List Nat × List Nat)}{R:Env→List Chunk→List (List Nat × List Nat)→Prop}{u:Tg R}:
 opK P (.res p eff touch side) dst e h sm R u=(side∧(eff.all fun kc=>decide (kc.1≤h.length))=true∧R (putE e dst p) (effC eff h) ((eff.map (·.1),touch)::sm)):=rfl
theorem opK_P {dst:Option Nat}{e:Env}{h:List Chunk}{sm:List (List Nat × List Nat)}{R:Env→List Chunk→List (List Nat × List Nat)→Prop}{u:Tg R}{g:Nat}{ps:List PV}{ds:List D}{r:D}{tl:List Nat}(hv:vwL (hatL h) ps=some ds)(hp:PSpec P g ds r)(ht:tcL (hatL h) ps=tl)(hf:tl=[]∨r.flat=true)(hR:R (putE e dst (.d r)) h (([],tl)::sm)):opK P (.call g ps) dst e h sm R u:=by
 subst ht;exact runO_P hv hp hf hR
def callK (P:Program)(g:Nat)(ds:List D)(tl:List Nat)(dst:Option Nat)(e:Env)(h:List Chunk)(sm:List (List Nat × List Nat))(R:Env→List Chunk→List (List Nat × List Nat)→Prop)(_:Tg R):Prop:=
 ∃r,PSpec P g ds r∧(tl=[]∨r.flat=true)∧R (putE e dst (.d r)) h (([],tl)::sm)
def callO (P:Program)(g:Nat)(ds:Option (List D))(tl:List Nat)(dst:Option Nat)(e:Env)(h:List Chunk)(sm:List (List Nat × List Nat))(R:Env→List Chunk→List (List Nat × List Nat)→Prop)(u:Tg R):Prop:=
 match ds with
 |some ds=>callK P g ds tl dst e h sm R u
 |none=>False
theorem opK_c {dst:Option Nat}{e:Env}{h:List Chunk}{sm:List (List Nat × List Nat)}{R:Env→List Chunk→List (List Nat × List Nat)→Prop}{u:Tg R}{g:Nat}{ps:List PV}(hv:callO P g (vwL (hatL h) ps) (tcL (hatL h) ps) dst e h sm R u):opK P (.call g ps) dst e h sm R u:=by
 unfold callO at hv
 split at hv
 ·rename_i ds hd
  obtain⟨r,hp,hf,hR⟩:=hv
  exact opK_P hd hp rfl hf hR
 ·exact hv.elim
theorem callK_i {g:Nat}{ds ds':List D}{tl:List Nat}{dst:Option Nat}{e:Env}{h:List Chunk}{sm:List (List Nat × List Nat)}{R:Env→List Chunk→List (List Nat × List Nat)→Prop}{u:Tg R}{r:D}(hp:PSpec P g ds' r)(hd:dles ds ds')(hf:tl=[]∨r.flat=true)(hR:R (putE e dst (.d r)) h (([],tl)::sm)):callK P g ds tl dst e h sm R u:=⟨r,hp.args hd,hf,hR⟩
theorem callK_r {g:Nat}{ds:List D}{tl:List Nat}{dst:Option Nat}{e:Env}{h:List Chunk}{sm:List (List Nat × List Nat)}{R:Env→List Chunk→List (List Nat × List Nat)→Prop}{u:Tg R}{r:D}(hp:PSpec P g ds r)(hf:tl=[]∨r.flat=true)(hR:R (putE e dst (.d r)) h (([],tl)::sm)):callK P g ds tl dst e h sm R u:=⟨r,hp,hf,hR⟩
theorem opK_M (ls:List Nat){dst:Option Nat}{e:Env}{h:List Chunk}{sm:List (List Nat × List Nat)}{R:Env→List Chunk→List (List Nat × List Nat)→Prop}{u:Tg R}{g:Nat}{ps args:List PV}{h0 h1:List Chunk}{r:PV}(hM:MSpec P g args h0 r h1)(hps:ps=renL (rid ls h.length) args)(hl:ls.length=h0.length)(hnd:ls.Nodup)(hlt:∀k∈ls,k < h.length)(hlent:lentOK (hatL h) (rid ls h.length) 0 h0)
 (hR:R (putE e dst (ren (rid ls h.length) r)) (heapM (rid ls h.length) 0 h1 h) ((mids ls h.length h1.length,mids ls h.length h1.length)::sm)):opK P (.call g ps) dst e h sm R u:=runO_M ls hM hps hl hnd hlt hlent hR
theorem opK_R (ls:List Nat){dst:Option Nat}{e:Env}{h:List Chunk}{sm:List (List Nat × List Nat)}{R:Env→List Chunk→List (List Nat × List Nat)→Prop}{u:Tg R}{g:Nat}{ps args:List PV}{h0:List Chunk}{r:PV}(hM:MSpec P g args h0 r h0)(hps:ps=renL (rid ls h.length) args)(hl:ls.length=h0.length)(hnd:ls.Nodup)(hlt:∀k∈ls,k < h.length)(hlent:lentOK (hatL h) (rid ls h.length) 0 h0)
 (hR:R (putE e dst (ren (rid ls h.length) r)) h (([],mids ls h.length h0.length)::sm)):opK P (.call g ps) dst e h sm R u:= .inr (.inr ⟨ls,args,h0,r,hM,hps,hl,hnd,hlt,hlent,hR⟩)
variable {K K1:KT}{C:Env→List Chunk→Prop}{e:Env}{h:List Chunk}{b:Code}{i id:Nat}
theorem apK_seq_n {u:Tg (seqK (sC P n m T Q b K ⟨⟩) K1)}:apK (seqK (sC P n m T Q b K ⟨⟩) K1) u .normal e h=sC P n m T Q b K ⟨⟩ e h:=rfl
theorem apK_seq_x {u:Tg (seqK C K1)}:apK (seqK C K1) u (.exit i) e h=apK K1 ⟨⟩ (.exit i) e h:=rfl
theorem apK_seq_r {u:Tg (seqK C K1)}:apK (seqK C K1) u .ret e h=apK K1 ⟨⟩ .ret e h:=rfl
theorem apK_lop_n {u:Tg (lopK C K1)}:apK (lopK C K1) u .normal e h=C e h:=rfl
theorem apK_lop_x {u:Tg (lopK C K1)}:apK (lopK C K1) u (.exit i) e h=apK K1 ⟨⟩ (.exit i) e h:=rfl
theorem apK_lop_r {u:Tg (lopK C K1)}:apK (lopK C K1) u .ret e h=apK K1 ⟨⟩ .ret e h:=rfl
theorem apK_blk_n {u:Tg (blkK id (nK K) K1)}:apK (blkK id (nK K) K1) u .normal e h=apK K ⟨⟩ .normal e h:=rfl
theorem apK_blk_r {u:Tg (blkK id (nK K) K1)}:apK (blkK id (nK K) K1) u .ret e h=apK K1 ⟨⟩ .ret e h:=rfl
theorem apK_blk_x {u:Tg (blkK id (nK K) K1)}:apK (blkK id (nK K) K1) u (.exit i) e h=if i=id then apK K ⟨⟩ .normal e h else apK K1 ⟨⟩ (.exit i) e h:=rfl
def retE (T:Nat→Option TI)(rs:List ResultVar)(r:D)(e:Env)(h:List Chunk):Prop:=
 match retPL T e h rs with
 |some ps=>match vw (hatL h) (retP ps)with
  |some d=>DLe d r
  |none=>False
 |none=>False
theorem retE_ok {rs:List ResultVar}{r:D}{x:Exit}(hx:x= .normal∨x= .ret):RetOK T rs r x e h=retE T rs r e h:=by
 apply propext
 unfold RetOK retE
 constructor
 ·rintro⟨-,ps,d,h1,h2,h3⟩
  rw[h1];simp only[h2];exact h3
 ·intro h1
  refine⟨hx,?_⟩
  split at h1
  ·rename_i ps hp
   split at h1
   ·rename_i d hd
    exact⟨ps,d,hp,hd,h1⟩
   ·exact h1.elim
  ·exact h1.elim
def retM (P:Program)(m:Nat)(T:Nat→Option TI)(rs:List ResultVar)(r:PV)(h1:List Chunk)(e:Env)(h:List Chunk):Prop:=
 match retPL T e h rs with
 |some ps=>Weak P 1 m [(0,retP ps)] h [(0,r)] h1
 |none=>False
theorem retM_ok {rs:List ResultVar}{r:PV}{h1:List Chunk}{x:Exit}(hx:x= .normal∨x= .ret):RetM P m T rs r h1 x e h=retM P m T rs r h1 e h:=by
 apply propext
 unfold RetM retM
 constructor
 ·rintro⟨-,ps,h2,h3⟩
  rw[h2];exact h3
 ·intro h2
  refine⟨hx,?_⟩
  split at h2
  ·rename_i ps hp
   exact⟨ps,hp,h2⟩
  ·exact h2.elim
theorem apK_retOK_n {rs:List ResultVar}{r:D}{u:Tg (RetOK T rs r)}:apK (RetOK T rs r) u .normal e h=retE T rs r e h:=retE_ok (.inl rfl)
theorem apK_retOK_r {rs:List ResultVar}{r:D}{u:Tg (RetOK T rs r)}:apK (RetOK T rs r) u .ret e h=retE T rs r e h:=retE_ok (.inr rfl)
theorem apK_retM_n {rs:List ResultVar}{r:PV}{h1:List Chunk}{u:Tg (RetM P m T rs r h1)}:apK (RetM P m T rs r h1) u .normal e h=retM P m T rs r h1 e h:=retM_ok (.inl rfl)
theorem apK_retM_r {rs:List ResultVar}{r:PV}{h1:List Chunk}{u:Tg (RetM P m T rs r h1)}:apK (RetM P m T rs r h1) u .ret e h=retM P m T rs r h1 e h:=retM_ok (.inr rfl)
end
def chkB (fn:Func)(nt:Nat)(c:Code)(k:Nat):Bool:=!(fn.name== "runtime.NumGoroutine")&&codeB nt c&&decide (k≤nt)
theorem ps_i {P:Program}{f:Nat}{fn:Func}{c:Code}{T:Nat→Option TI}{Q:Nat→Option Nat}{nt:Nat}{rs:Array ResultVar}(hTQ:TabOK P T Q)(hmix:P.follows .mixedOrders=true)(hf:P.funcs[f]? =some fn)(hb:fn.body=some c)(hn:fn.ntmps=nt)(hr:fn.results=rs){ds:List D}{r:D}(hc:chkB fn nt c ds.length=true)
 (hp:sC P nt 0 T Q c (RetOK T rs.toList r) ⟨⟩ (argP (ds.map .d) 0) []):PSpec P f ds r:=by
 subst hn;subst hr
 simp only[chkB,Bool.and_eq_true,Bool.not_eq_true',decide_eq_true_eq]at hc
 exact pspec_intro hTQ hf hb (fnok_of hf hc.1.1 hb) hc.2 (sC_sound hTQ hmix _ _ _ _ hc.1.2 hp)
theorem ms_i {P:Program}{f:Nat}{fn:Func}{c:Code}{T:Nat→Option TI}{Q:Nat→Option Nat}{nt:Nat}{rs:Array ResultVar}(hTQ:TabOK P T Q)(hmix:P.follows .mixedOrders=true)(hf:P.funcs[f]? =some fn)(hb:fn.body=some c)(hn:fn.ntmps=nt)(hr:fn.results=rs){args:List PV}{h0 h1:List Chunk}{r:PV}(hc:chkB fn nt c args.length=true)
 (hle:h0.length≤h1.length) (hba:belowL h0.length args=true) (hbh:belowH h0.length h0=true)
 (hp:sC P nt h0.length T Q c (RetM P h0.length T rs.toList r h1) ⟨⟩ (argP args 0) h0):MSpec P f args h0 r h1:=by
 subst hn;subst hr
 simp only[chkB,Bool.and_eq_true,Bool.not_eq_true',decide_eq_true_eq]at hc
 exact mspec_intro hTQ hf hb (fnok_of hf hc.1.1 hb) hc.2 hle hba hbh (sC_sound hTQ hmix _ _ _ _ hc.1.2 hp)
theorem setAt_zz {α:Type}(l:List α):setAt l 0 []=l:=by simp[setAt]
theorem setAt_zc {α:Type}(a x:α)(l xs:List α):setAt (a::l) 0 (x::xs)=x::setAt l 0 xs:=by simp[setAt]
theorem setAt_s {α:Type}(a:α)(n:Nat)(l xs:List α):setAt (a::l) (n+1) xs=a::setAt l n xs:=by simp only[setAt,List.take_succ_cons,List.cons_append,Nat.add_right_comm n 1,List.drop_succ_cons]
attribute [go_sem] argP
attribute [go_sem] gK_t gK_f condS_t condS_f endK_f endK_t opK_res apK_seq_n apK_seq_x apK_seq_r apK_lop_n apK_lop_x apK_lop_r apK_blk_n apK_blk_r apK_blk_x apK_retOK_n apK_retOK_r apK_retM_n apK_retM_r retE retM retPL retPV retP vw viewF viewL viewR viewL_d viewR_d viewF_d pick_t pick_f pick_b callO vwL tcL tc tchL tchF tchR tchL_d tchR_d tchF_d ob_bt ob_bf gK_n condS_n guardP sC rO
attribute [go_sem] ob_tt ob_ff ob_tf ob_ft ob_nt ob_nf opS evL look putE effC setC hatL unS nilS nifS binS intS fieldS loadS indexS indexV bytesD extrS partsS buildS allLen bslS mkSlS convS lenS appS sliceS clearS loB hiB storeS makeMapS lookupS rangeS entryS mapUpS keyP callS tabT tabQ okP cellsP PV.one D.one Value.oneCell' dsOf intsD fillD setAt_zz setAt_zc setAt_s yieldD aggP tupP dsR rowsS srcS effM heapM rid ren renL renR renC mids dRows_get dRows_len dRows_app renL_d renR_d renR_set IntKind.bits
attribute [go_sem] cond_true cond_false List.map_cons List.map_nil List.length_cons List.length_nil List.all_cons List.all_nil List.take_succ_cons List.take_zero List.drop_succ_cons List.drop_zero List.take_nil List.drop_nil List.cons_append List.nil_append List.append_nil List.append_assoc List.reverse_cons List.reverse_nil List.getElem?_cons_zero List.getElem?_cons_succ List.getElem?_nil List.getElem?_toArray List.getElem?_map Option.map_some Option.map_none Option.getD_some Option.getD_none Option.bind_some Option.bind_none Nat.zero_add Nat.add_zero decide_true decide_false Bool.and_true Bool.true_and Bool.and_false Bool.false_and Bool.and_self Bool.not_true Bool.not_false Bool.true_eq_false Bool.false_eq_true beq_self_eq_true ne_eq not_true_eq_false not_false_eq_true and_true true_and and_self or_self or_false false_or or_true true_or eq_self forall_const false_implies implies_true Int.toNat_natCast Int.natCast_nonneg Nat.lt_irrefl Nat.le_refl List.length_map List.length_append Option.some.injEq Prod.mk.injEq Nat.not_lt_zero Nat.zero_le Nat.zero_lt_succ Nat.lt_add_one List.getD_cons_zero List.getD_cons_succ List.getD_nil List.range_succ List.range_zero List.length_set List.set_cons_zero List.set_cons_succ
section
mutual
theorem ren_id:∀p:PV,ren (fun j=>j) p=p
 | .d x=>rfl
 | .any=>rfl
 | .ptr k off=>rfl
 | .own k g=>rfl
 | .rp k g sz i j=>rfl
 | .osl k g sz a n=>rfl
 | .clo g caps=>by simp only[ren,renL_id caps]
 | .agg l=>by simp only[ren,renL_id l]
 | .tup l=>by simp only[ren,renL_id l]
 | .mref k=>rfl
theorem renL_id:∀l:List PV,renL (fun j=>j) l=l
 |[]=>rfl
 |p::l=>by simp only[renL,ren_id p,renL_id l]
end
theorem renR_id:∀l:List (List PV),renR (fun j=>j) l=l
 |[]=>rfl
 |p::l=>by simp only[renR,renL_id p,renR_id l]
theorem renC_id (c:Chunk):renC (fun j=>j) c=c:=by cases c<;>simp only[renC,renL_id,renR_id]
theorem rid_range (n:Nat):rid (List.range n) n=fun j=>j:=by
 funext j
 rcases Nat.lt_or_ge j n with h|h
 ·have:=rid_old (ls:=List.range n) (nk:=n) (j:=j) (by simpa using h)
  rw[List.getElem?_range h]at this
  exact(Option.some.inj this).symm
 ·have:=rid_new (List.range n) n (j - n)
  rw[List.length_range]at this
  rw[show n+(j - n)=j by omega]at this
  exact this
theorem setC_app (a:List Chunk)(c d:Chunk)(b:List Chunk):setC (a++c::b) a.length d=a++d::b:=by
 induction a with
 |nil=>rfl
 |cons x a ih=>simp only[List.cons_append,List.length_cons,setC,ih]
@[go_sem] theorem setC_last (a:List Chunk)(d:Chunk):setC a a.length d=a++[d]:=by
 induction a with
 |nil=>rfl
 |cons x a ih=>simp only[List.cons_append,List.length_cons,setC,ih]
theorem heapM_id:∀(l pre rest:List Chunk),rest.length≤l.length→heapM (fun j=>j) pre.length l (pre++rest)=pre++l
 |[],pre,rest,h=>by
  have:rest=[]:=List.eq_nil_of_length_eq_zero (by simpa using h)
  subst this;simp[heapM]
 |c::l,pre,[],h=>by
  simp only[heapM,List.append_nil,renC_id,setC_last]
  have:=heapM_id l (pre++[c]) [] (by simp)
  simpa using this
 |c::l,pre,r::rest,h=>by
  simp only[heapM,renC_id,setC_app]
  have:=heapM_id l (pre++[c]) rest (by simpa using h)
  simpa using this
theorem lentOK_id:∀(l pre:List Chunk),lentOK (hatL (pre++l)) (fun j=>j) pre.length l
 |[],_=>trivial
 |c::l,pre=>by
  refine⟨?_,?_⟩
  ·rw[renC_id]
   induction pre with
   |nil=>rfl
   |cons a pre ih=>exact ih
  ·have:=lentOK_id l (pre++[c])
   simpa using this
section
variable {P:Program}{n m:Nat}{T:Nat→Option TI}{Q:Nat→Option Nat}
theorem opK_W {dst:Option Nat}{e:Env}{h:List Chunk}{sm:List (List Nat × List Nat)}{R:Env→List Chunk→List (List Nat × List Nat)→Prop}{u:Tg R}{g:Nat}{ps:List PV}{h1:List Chunk}{r:PV}(hM:MSpec P g ps h r h1)
 (hR:R (putE e dst r) h1 ((List.range h1.length,List.range h1.length)::sm)):opK P (.call g ps) dst e h sm R u:=by
 have hid:=rid_range h.length
 have hle:=hM.le
 refine opK_M (List.range h.length) hM (by rw[hid,renL_id]) (by simp) List.nodup_range (fun k hk=>by simpa using hk) (by rw[hid];exact lentOK_id h []) ?_
 have hh:heapM (fun j=>j) 0 h1 h=h1:=heapM_id h1 [] h hle
 have hm:mids (List.range h.length) h.length h1.length=List.range h1.length:=by
  unfold mids
  rw[hid];simp
 rw[hid,ren_id,hh,hm]
 exact hR
end
theorem dRows_take (l:List (List D))(n:Nat):(dRows l).take n=dRows (l.take n):=by simp[dRows]
theorem erase_cut {α:Type}(l:List α)(i j k:Nat)(z:α)(hi:i < l.length)(hj:j=i+1)(hk:k=i+(l.length - j)):(setAt (setAt l i ((l.drop j).take (l.length - j))) k [z]).take k=l.eraseIdx i:=by
 subst hj
 subst hk
 have h1:(l.drop (i+1)).take (l.length - (i+1))=l.drop (i+1):=List.take_of_length_le (by rw[List.length_drop];omega)
 rw[h1,List.eraseIdx_eq_take_drop_succ]
 have h2:(setAt l i (l.drop (i+1))).take (i+(l.length - (i+1)))=l.take i++l.drop (i+1):=by
  unfold setAt
  rw[List.take_append_of_le_length (by simp;omega),List.take_of_length_le (by simp;omega)]
 rw[←h2]
 have h3:i+(l.length - (i+1))≤(setAt l i (l.drop (i+1))).length:=by rw[setAt_length (by rw[List.length_drop];omega)];omega
 generalize setAt l i (l.drop (i+1))=l' at h3 ⊢
 unfold setAt
 rw[List.append_assoc,List.take_append_of_le_length (by rw[List.length_take];omega),List.take_take,Nat.min_self]
theorem map_erase {α β:Type}(f:α→β)(l:List α)(i:Nat):(l.eraseIdx i).map f=(l.map f).eraseIdx i:=by
 rw[List.eraseIdx_eq_take_drop_succ,List.eraseIdx_eq_take_drop_succ,List.map_append,List.map_take,List.map_drop]
theorem del_len {α:Type}(l:List α)(i j n:Nat)(hi:i < l.length)(hj:j=i+1)(hn:n=l.length):(setAt l i ((l.drop j).take (n - j))).length=l.length:=by
 rw[setAt_length]
 rw[List.length_take,List.length_drop];omega
theorem del_weak {P:Program}{E sz g i j n:Nat}{L:List (List D)}{z:List PV}(hi:i < L.length)(hj:j=i+1)(hn:n=L.length):
 Weak P 1 1 [(0,.osl 0 g sz 0 (i+(n - j)))] [.row E sz g (setAt (setAt (dRows L) i (((dRows L).drop j).take (n - j))) (i+(n - j)) (List.replicate 1 z))] [(0,.own 0 (g+1))] [.row E sz (g+1) (dRows (L.eraseIdx i))]:=by
 have hl:(dRows L).length=L.length:=dRows_len L
 have h1:=del_len (dRows L) i j n (by omega) hj (by omega)
 have h2:(setAt (setAt (dRows L) i (((dRows L).drop j).take (n - j))) (i+(n - j)) (List.replicate 1 z)).length=L.length:=by rw[setAt_length (by simp;omega)];omega
 refine weak_ret_cut 0 g E sz _ _ rfl (fun h=>by rw[h]at h2;simp at h2;omega) (by omega) (weak_eq rfl ?_)
 have:=erase_cut (dRows L) i j (i+(n - j)) z (by omega) hj (by omega)
 simp only[setC,List.replicate_one]
 rw[hn]at this ⊢
 rw[hl]at this
 rw[this]
 unfold dRows
 rw[map_erase]
def keptL {α:Type}(p:α→Bool)(l:List α)(j:Nat):List α:=(l.take j).filter fun x=>!p x
def mixL {α:Type}(p:α→Bool)(l:List α)(j:Nat):List α:=keptL p l j++l.drop (keptL p l j).length
theorem kept_le {α:Type}(p:α→Bool)(l:List α)(j:Nat):(keptL p l j).length≤j∧(keptL p l j).length≤l.length:=by
 have h1:=List.length_filter_le (fun x=>!p x) (l.take j)
 rw[List.length_take]at h1
 unfold keptL
 omega
theorem mix_len {α:Type}(p:α→Bool)(l:List α)(j:Nat):(mixL p l j).length=l.length:=by
 have:=kept_le p l j
 unfold mixL
 rw[List.length_append,List.length_drop];omega
theorem mix_get {α:Type}(p:α→Bool)(l:List α)(j i:Nat)(h:(keptL p l j).length≤i):(mixL p l j)[i]? =l[i]? :=by
 unfold mixL
 rw[List.getElem?_append_right h,List.getElem?_drop]
 congr 1;omega
theorem kept_succ {α:Type}{p:α→Bool}{l:List α}{j:Nat}{x:α}(hx:l[j]? =some x):keptL p l (j+1)=keptL p l j++if p x then []else [x]:=by
 unfold keptL
 rw[List.take_add_one,hx,List.filter_append]
 cases h:p x<;>simp[h]
theorem mix_t {α:Type}{p:α→Bool}{l:List α}{j:Nat}{x:α}(hx:l[j]? =some x)(hp:p x=true):keptL p l (j+1)=keptL p l j∧mixL p l (j+1)=mixL p l j:=by
 have h1:keptL p l (j+1)=keptL p l j:=by rw[kept_succ hx,hp];simp
 exact⟨h1,by unfold mixL;rw[h1]⟩
theorem mix_f {α:Type}{p:α→Bool}{l:List α}{j:Nat}{x:α}(hx:l[j]? =some x)(hp:p x=false):(keptL p l (j+1)).length=(keptL p l j).length+1∧mixL p l (j+1)=(mixL p l j).set (keptL p l j).length x:=by
 have h1:keptL p l (j+1)=keptL p l j++[x]:=by rw[kept_succ hx,hp];simp
 have hj:=(List.getElem?_eq_some_iff.1 hx).1
 have hk:=kept_le p l j
 refine⟨by rw[h1];simp,?_⟩
 unfold mixL
 rw[h1]
 obtain⟨y,hy⟩:∃y,l[(keptL p l j).length]? =some y:=⟨_,List.getElem?_eq_getElem (by omega)⟩
 have hd:l.drop (keptL p l j).length=y::l.drop ((keptL p l j).length+1):=by
  obtain⟨hlt,rfl⟩:=List.getElem?_eq_some_iff.1 hy
  exact List.drop_eq_getElem_cons hlt
 rw[hd,List.set_append_right _ _ (Nat.le_refl _),Nat.sub_self,List.set_cons_zero]
 simp
theorem mix_start {α:Type}{p:α→Bool}{l:List α}{i:Nat}(h:l.findIdx? p=some i):i < l.length∧(keptL p l (i+1)).length=i∧mixL p l (i+1)=l:=by
 obtain⟨hi,hp,hno⟩:=List.findIdx?_eq_some_iff_getElem.1 h
 have h1:keptL p l (i+1)=l.take i:=by
  rw[kept_succ (List.getElem?_eq_getElem hi),hp]
  simp only[if_true,List.append_nil]
  unfold keptL
  refine List.filter_eq_self.2 fun x hx=>?_
  obtain⟨q,hq,rfl⟩:=List.mem_iff_getElem.1 hx
  rw[List.length_take]at hq
  have:=hno q (by omega)
  simp only[List.getElem_take]
  simpa using this
 have h2:(keptL p l (i+1)).length=i:=by rw[h1,List.length_take];omega
 refine⟨hi,h2,?_⟩
 unfold mixL
 rw[h2,h1,List.take_append_drop]
theorem mix_end {α:Type}(p:α→Bool)(l:List α):keptL p l l.length=l.filter fun x=>!p x:=by
 unfold keptL
 (try rw[List.take_length])
theorem dRows_setrow {α:Type}(enc:α→List D)(l:List α)(i:Nat)(x:α):(dRows (l.map enc)).set i ((enc x).map .d)=dRows ((l.set i x).map enc):=by
 simp only[dRows,List.map_set]
structure HpOK (h:List Chunk)(k:Nat):Prop where
 a:∀c,hatL (setC h k c) k=c
 b:∀c,(setC h k c).length=h.length
 c:∀c b,hatL (setC h k c++[b]) k=c
 d:∀c b,hatL (setC h k c++[b]) h.length=b
 e:∀c b,setC (setC h k c) h.length b=setC h k c++[b]
 f:∀c b c',setC (setC h k c++[b]) k c'=setC h k c'++[b]
 g:∀c b b',setC (setC h k c++[b]) h.length b'=setC h k c++[b']
 i:∀c c',setC (setC h k c) k c'=setC h k c'
theorem setC_setC:∀(h:List Chunk) (k:Nat) (c c':Chunk),k < h.length→setC (setC h k c) k c'=setC h k c'
 |a::l,0,c,c',_=>rfl
 |a::l,k+1,c,c',h=>by simp only[setC,setC_setC l k c c' (by simpa using h)]
theorem setC_left:∀(h b:List Chunk) (k:Nat) (c:Chunk),k < h.length→setC (h++b) k c=setC h k c++b
 |a::l,b,0,c,_=>rfl
 |a::l,b,k+1,c,h=>by simp only[List.cons_append,setC,setC_left l b k c (by simpa using h)]
theorem hpOK {h:List Chunk}{k:Nat}(hk:k < h.length):HpOK h k:=by
 have hb:∀c,(setC h k c).length=h.length:=fun c=>setC_lt hk
 have ha:∀c,hatL (setC h k c) k=c:=fun c=>by rw[hatL_setC (Nat.le_of_lt hk),if_pos rfl]
 refine⟨ha,hb,fun c b=>by rw[hat_app _ _ _ (by rw[hb];exact hk),ha],fun c b=>by rw[hat_snoc,hb,if_pos rfl],fun c b=>?_,fun c b c'=>?_,fun c b b'=>?_,fun c c'=>setC_setC h k c c' hk⟩
 ·have:=setC_last (setC h k c) b
  rwa [hb]at this
 ·rw[setC_left _ _ _ _ (by rw[hb];exact hk),setC_setC h k c c' hk]
 ·have:=setC_app (setC h k c) b b' []
  rwa [hb]at this
theorem setC_same:∀(h:List Chunk) (k:Nat) (c:Chunk),hatL h k=c→k < h.length→setC h k c=h
 |a::l,0,c,e,_=>by subst e;rfl
 |a::l,k+1,c,e,h=>by simp only[setC,setC_same l k c e (by simpa using h)]
theorem belowH_setC (n:Nat):∀(h:List Chunk) (k:Nat) (c:Chunk),belowH n h=true→belowC n c=true→k < h.length→belowH n (setC h k c)=true
 |a::l,0,c,h1,h2,_=>by simp only[belowH,Bool.and_eq_true]at h1;simp only[setC,belowH,h1.2,h2,Bool.and_self]
 |a::l,k+1,c,h1,h2,h3=>by
  simp only[belowH,Bool.and_eq_true]at h1
  simp only[setC,belowH,h1.1,belowH_setC n l k c h1.2 h2 (by simpa using h3),Bool.and_self]
theorem setAt_take0 {α:Type}(l xs:List α)(n:Nat)(h:n≤l.length):(setAt l n xs).take n=l.take n:=by
 unfold setAt
 rw[List.append_assoc,List.take_append_of_le_length (by rw[List.length_take];omega),List.take_take,Nat.min_self]
theorem mixL_take {α:Type}(p:α→Bool)(l:List α):(mixL p l l.length).take (keptL p l l.length).length=l.filter fun x=>!p x:=by
 unfold mixL
 rw[List.take_append_of_le_length (Nat.le_refl _),List.take_length,mix_end]
theorem delf_weak {P:Program}{E sz g k K n:Nat}{h:List Chunk}{L:List (List D)}{z:List PV}(hk:k < h.length)(hK:K≤L.length)(h0:L≠[])(hn:n=L.length):
 Weak P 1 h.length [(0,.osl k g sz 0 (K - 0))] (setC h k (.row E sz g (setAt (dRows L) K (List.replicate (n - K) z)))) [(0,.own k (g+1))] (setC h k (.row E sz (g+1) (dRows (L.take K)))):=by
 obtain⟨ga,gb,gc,gd,ge,gf,gg,gi⟩:=hpOK hk
 have hl:(dRows L).length=L.length:=dRows_len L
 have hs:(setAt (dRows L) K (List.replicate (n - K) z)).length=L.length:=by rw[setAt_length (by simp;omega)];exact hl
 have hp:0 < L.length:=List.length_pos_iff.2 h0
 refine weak_ret_cut k g E sz _ _ (ga _) (fun e=>by rw[e]at hs;simp at hs;omega) (by omega) (weak_eq rfl ?_)
 rw[gi,Nat.sub_zero,setAt_take0 _ _ _ (by omega),dRows_take]
theorem fzR_app (k g:Nat)(d:D):∀(l m:List (List PV)),fzR k g d (l++m)=fzR k g d l++fzR k g d m
 |[],m=>rfl
 |r::l,m=>by simp only[List.cons_append,fzR,fzR_app k g d l m]
def ple (p q:PV):Prop:=p=q∨∃d d',p= .d d∧q= .d d'∧DLe d d'
def ples:List PV→List PV→Prop
 |[],[]=>True
 |p::l,q::m=>ple p q∧ples l m
 |_,_=>False
theorem ples_rep {c:Cx}{w:World}:∀{l m:List PV}{vs:List Value},ples l m→RepPs c w l vs→RepPs c w m vs
 |[],[],vs,_,h=>h
 |[],_::_,vs,h,_=>h.elim
 |_::_,[],vs,h,_=>h.elim
 |p::l,q::m,[],_,h=>by have:=h.1;simp at this
 |p::l,q::m,v::vs,⟨h1,h2⟩,h=>by
  have h3:=ples_rep (vs:=vs) h2 ⟨by simpa using h.1,fun j d x hj hx=>h.2 (j+1) d x (by simpa using hj) (by simpa using hx)⟩
  refine⟨by simpa using h3.1,fun j d x hj hx=>?_⟩
  cases j with
  |zero=>
   simp at hj hx
   subst hj;subst hx
   have h0:=h.2 0 p v rfl rfl
   rcases h1 with rfl|⟨d,d',rfl,rfl,hle⟩
   ·exact h0
   ·exact .d _ _ (hle _ _ _ (repD_inv h0))
  |succ j=>exact h3.2 j d x (by simpa using hj) (by simpa using hx)
theorem MSpec.lep {P:Program}{f:Nat}{args args':List PV}{h0 h1:List Chunk}{r:PV}(h:MSpec P f args h0 r h1)(hp:ples args' args)(hb:belowL h0.length args'=true):MSpec P f args' h0 r h1:=
 ⟨h.fn,h.le,hb,h.bh,fun X hP hn hm w c vs hr hps=>h.run X hP hn hm w c vs hr (ples_rep hp hps)⟩
theorem ms_w {P:Program}{f:Nat}{fn:Func}{c:Code}{T:Nat→Option TI}{Q:Nat→Option Nat}{nt:Nat}{rs:Array ResultVar}(hTQ:TabOK P T Q)(hmix:P.follows .mixedOrders=true)(hf:P.funcs[f]? =some fn)(hb:fn.body=some c)(hn:fn.ntmps=nt)(hr:fn.results=rs){args:List PV}{h0 h1:List Chunk}{r:PV}(hc:chkB fn nt c args.length=true)
 (hle:h0.length≤h1.length) (hba:belowL h0.length args=true) (hbh:belowH h0.length h0=true)
 (hp:sC P nt h0.length T Q c (RetM P h0.length T rs.toList r h1) ⟨⟩ (argP args 0) h0):MSpec P f args h0 r h1:=ms_i hTQ hmix hf hb hn hr hc hle hba hbh hp
end
structure Hd (Q:Prop):Prop where
 out:Q
structure Or1 (Q:Prop):Prop where
 mk::
structure Ln (ls:List Nat)(P:Program)(g:Nat)(args:List PV)(h0:List Chunk)(r:PV)(h1:List Chunk):Prop where
 out:MSpec P g args h0 r h1
structure Lr (ls:List Nat)(P:Program)(g:Nat)(args:List PV)(h0:List Chunk)(r:PV):Prop where
 out:MSpec P g args h0 r h0
theorem opK_LR {P:Program}{ls:List Nat}{dst:Option Nat}{e:Env}{h:List Chunk}{sm:List (List Nat × List Nat)}{R:Env→List Chunk→List (List Nat × List Nat)→Prop}{u:Tg R}{g:Nat}{ps args:List PV}{h0:List Chunk}{r:PV}(hL:Lr ls P g args h0 r)(hps:ps=renL (rid ls h.length) args)(hl:ls.length=h0.length)(hnd:ls.Nodup)(hlt:∀k∈ls,k < h.length)(hlent:lentOK (hatL h) (rid ls h.length) 0 h0)
 (hR:R (putE e dst (ren (rid ls h.length) r)) h (([],mids ls h.length h0.length)::sm)):opK P (.call g ps) dst e h sm R u:=opK_R ls hL.out hps hl hnd hlt hlent hR
theorem opK_L {P:Program}{ls:List Nat}{dst:Option Nat}{e:Env}{h:List Chunk}{sm:List (List Nat × List Nat)}{R:Env→List Chunk→List (List Nat × List Nat)→Prop}{u:Tg R}{g:Nat}{ps args:List PV}{h0 h1:List Chunk}{r:PV}(hL:Ln ls P g args h0 r h1)(hps:ps=renL (rid ls h.length) args)(hl:ls.length=h0.length)(hnd:ls.Nodup)(hlt:∀k∈ls,k < h.length)(hlent:lentOK (hatL h) (rid ls h.length) 0 h0)
 (hR:R (putE e dst (ren (rid ls h.length) r)) (heapM (rid ls h.length) 0 h1 h) ((mids ls h.length h1.length,mids ls h.length h1.length)::sm)):opK P (.call g ps) dst e h sm R u:=opK_M ls hL.out hps hl hnd hlt hlent hR
theorem bl {A:Prop}(h:A:=by first|rfl|simp only[belowH,belowE,belowC,belowL,belowR,belowP,belowL_d,belowR_d,List.length_cons,List.length_nil,Nat.reduceAdd,Nat.reduceLT,decide_true,Bool.and_self,Bool.and_true]):A:=h
theorem se {e e':Env}(h:subE e e':=by repeat' (first|exact trivial|(refine⟨rfl,?_⟩))):subE e e':=h
theorem wi (k:Nat)(h:k < 9223372036854775807):IntKind.i64.wrap ((k:Int)+1)=((k+1:Nat):Int):=by rw[IntKind.wrap_i64];omega
theorem dg {A:Prop}(h:A:=by repeat(first|exact DLe.refl _|exact DLe.nil _|(refine DLe.tup ?_)|(refine DLe.agg ?_ rfl)|exact trivial|(refine And.intro ?_ ?_))):A:=h
theorem dz {a b:D}(h:DLe a b:=by repeat(first|exact DLe.refl _|exact DLe.nil _|(refine DLe.tup ?_)|(refine DLe.agg ?_ rfl)|exact trivial|(refine And.intro ?_ ?_))):DLe a b:=h
theorem wf {P:Program}{n m:Nat}{e e':Env}{h h' x:List Chunk}(hm:m≤h'.length:=by simp)(hh:h=h'++x:=by rfl)(he:subE e e':=by repeat' (first|exact trivial|(refine⟨rfl,?_⟩)))
 (hb:belowE h'.length e'=true:=by first|rfl|simp only[belowH,belowE,belowC,belowL,belowR,belowP,belowL_d,belowR_d,List.length_cons,List.length_nil,Nat.reduceAdd,Nat.reduceLT,decide_true,Bool.and_self,Bool.and_true]) (hbh:belowH h'.length h'=true:=by first|rfl|simp only[belowH,belowE,belowC,belowL,belowR,belowP,belowL_d,belowR_d,List.length_cons,List.length_nil,Nat.reduceAdd,Nat.reduceLT,decide_true,Bool.and_self,Bool.and_true]):Weak P n m e h e' h':=weak_forget x hm hh he hb hbh
theorem wk0 {P:Prop}(h:P:=by
 first|((repeat' (first|(with_reducible refine And.intro ?_ ?_)|(with_reducible refine gK_i (fun hwq=>?_) (fun hwq=>?_))|(with_reducible refine condS_i (fun hwq=>?_) (fun hwq=>?_))|(with_reducible refine drw_i (by kernel_rfl))|simp -dsimp only[go_sem,seval, *,undef,List.take_length,Nat.sub_zero,bne_self_eq_false,beq_self_eq_true,Option.isSome_some,Option.isSome_none,Int.lt_irrefl]|((with_reducible refine opK_c ?_);simp -dsimp only[go_sem,seval, *,undef,List.take_length,Nat.sub_zero,bne_self_eq_false,beq_self_eq_true,Option.isSome_some,Option.isSome_none,Int.lt_irrefl];first|refine callK_r (by assumption) (by first|exact .inl rfl|exact .inr rfl) ?_|(refine callK_i (by assumption) ?_ ?_ ?_;(solve|(repeat(first|exact DLe.refl _|exact DLe.nil _|(refine DLe.tup ?_)|(refine DLe.agg ?_ rfl)|exact trivial|(refine And.intro ?_ ?_))));(solve|exact .inl rfl|exact .inr rfl)))|(refine opK_L (by assumption) ?_ ?_ ?_ ?_ ?_ ?_;(solve|rfl|simp only[go_sem,seval]);(solve|rfl);(solve|decide);(solve|simp);(solve|simp only[go_sem,seval,lentOK]))|(refine opK_LR (by assumption) ?_ ?_ ?_ ?_ ?_ ?_;(solve|rfl|simp only[go_sem,seval]);(solve|rfl);(solve|decide);(solve|simp);(solve|simp only[go_sem,seval,lentOK]))|omega|exact decide_eq_true (by omega)|exact DLe.refl _));done)|fail):P:=h
theorem wk1 {Q1 P:Prop}(q1:Q1)(h:Hd Q1→P:=by
 intro q1
 first|((repeat' (first|(with_reducible refine And.intro ?_ ?_)|(with_reducible refine gK_i (fun hwq=>?_) (fun hwq=>?_))|(with_reducible refine condS_i (fun hwq=>?_) (fun hwq=>?_))|(with_reducible refine drw_i (by kernel_rfl))|simp -dsimp only[go_sem,seval, *,undef,List.take_length,Nat.sub_zero,bne_self_eq_false,beq_self_eq_true,Option.isSome_some,Option.isSome_none,Int.lt_irrefl]|((with_reducible refine opK_c ?_);simp -dsimp only[go_sem,seval, *,undef,List.take_length,Nat.sub_zero,bne_self_eq_false,beq_self_eq_true,Option.isSome_some,Option.isSome_none,Int.lt_irrefl];first|refine callK_r (by assumption) (by first|exact .inl rfl|exact .inr rfl) ?_|(refine callK_i (by assumption) ?_ ?_ ?_;(solve|(repeat(first|exact DLe.refl _|exact DLe.nil _|(refine DLe.tup ?_)|(refine DLe.agg ?_ rfl)|exact trivial|(refine And.intro ?_ ?_))));(solve|exact .inl rfl|exact .inr rfl)))|(refine opK_L (by assumption) ?_ ?_ ?_ ?_ ?_ ?_;(solve|rfl|simp only[go_sem,seval]);(solve|rfl);(solve|decide);(solve|simp);(solve|simp only[go_sem,seval,lentOK]))|(refine opK_LR (by assumption) ?_ ?_ ?_ ?_ ?_ ?_;(solve|rfl|simp only[go_sem,seval]);(solve|rfl);(solve|decide);(solve|simp);(solve|simp only[go_sem,seval,lentOK]))|omega|exact decide_eq_true (by omega)|exact DLe.refl _));all_goals((repeat revert hwq);first|(with_reducible exact q1.out)))|fail):P:=h ⟨q1⟩
theorem wk2 {Q1 Q2 P:Prop}(q1:Q1)(q2:Q2)(h:Hd Q1→Hd Q2→P:=by
 intro q1 q2
 first|((repeat' (first|(with_reducible refine And.intro ?_ ?_)|(with_reducible refine gK_i (fun hwq=>?_) (fun hwq=>?_))|(with_reducible refine condS_i (fun hwq=>?_) (fun hwq=>?_))|(with_reducible refine drw_i (by kernel_rfl))|simp -dsimp only[go_sem,seval, *,undef,List.take_length,Nat.sub_zero,bne_self_eq_false,beq_self_eq_true,Option.isSome_some,Option.isSome_none,Int.lt_irrefl]|((with_reducible refine opK_c ?_);simp -dsimp only[go_sem,seval, *,undef,List.take_length,Nat.sub_zero,bne_self_eq_false,beq_self_eq_true,Option.isSome_some,Option.isSome_none,Int.lt_irrefl];first|refine callK_r (by assumption) (by first|exact .inl rfl|exact .inr rfl) ?_|(refine callK_i (by assumption) ?_ ?_ ?_;(solve|(repeat(first|exact DLe.refl _|exact DLe.nil _|(refine DLe.tup ?_)|(refine DLe.agg ?_ rfl)|exact trivial|(refine And.intro ?_ ?_))));(solve|exact .inl rfl|exact .inr rfl)))|(refine opK_L (by assumption) ?_ ?_ ?_ ?_ ?_ ?_;(solve|rfl|simp only[go_sem,seval]);(solve|rfl);(solve|decide);(solve|simp);(solve|simp only[go_sem,seval,lentOK]))|(refine opK_LR (by assumption) ?_ ?_ ?_ ?_ ?_ ?_;(solve|rfl|simp only[go_sem,seval]);(solve|rfl);(solve|decide);(solve|simp);(solve|simp only[go_sem,seval,lentOK]))|omega|exact decide_eq_true (by omega)|exact DLe.refl _));all_goals((repeat revert hwq);first|(with_reducible exact q1.out)|(with_reducible exact q2.out)))|fail)
 (e1:Or1 Q1:=by first|(with_reducible exact(Or1.mk:Or1 True))|exact Or1.mk) (e2:Or1 Q2:=by first|(with_reducible exact(Or1.mk:Or1 True))|exact Or1.mk):P:=h ⟨q1⟩ ⟨q2⟩
theorem wk3 {Q1 Q2 Q3 P:Prop}(q1:Q1)(q2:Q2)(q3:Q3)(h:Hd Q1→Hd Q2→Hd Q3→P:=by
 intro q1 q2 q3
 first|((repeat' (first|(with_reducible refine And.intro ?_ ?_)|(with_reducible refine gK_i (fun hwq=>?_) (fun hwq=>?_))|(with_reducible refine condS_i (fun hwq=>?_) (fun hwq=>?_))|(with_reducible refine drw_i (by kernel_rfl))|simp -dsimp only[go_sem,seval, *,undef,List.take_length,Nat.sub_zero,bne_self_eq_false,beq_self_eq_true,Option.isSome_some,Option.isSome_none,Int.lt_irrefl]|((with_reducible refine opK_c ?_);simp -dsimp only[go_sem,seval, *,undef,List.take_length,Nat.sub_zero,bne_self_eq_false,beq_self_eq_true,Option.isSome_some,Option.isSome_none,Int.lt_irrefl];first|refine callK_r (by assumption) (by first|exact .inl rfl|exact .inr rfl) ?_|(refine callK_i (by assumption) ?_ ?_ ?_;(solve|(repeat(first|exact DLe.refl _|exact DLe.nil _|(refine DLe.tup ?_)|(refine DLe.agg ?_ rfl)|exact trivial|(refine And.intro ?_ ?_))));(solve|exact .inl rfl|exact .inr rfl)))|(refine opK_L (by assumption) ?_ ?_ ?_ ?_ ?_ ?_;(solve|rfl|simp only[go_sem,seval]);(solve|rfl);(solve|decide);(solve|simp);(solve|simp only[go_sem,seval,lentOK]))|(refine opK_LR (by assumption) ?_ ?_ ?_ ?_ ?_ ?_;(solve|rfl|simp only[go_sem,seval]);(solve|rfl);(solve|decide);(solve|simp);(solve|simp only[go_sem,seval,lentOK]))|omega|exact decide_eq_true (by omega)|exact DLe.refl _));all_goals((repeat revert hwq);first|(with_reducible exact q1.out)|(with_reducible exact q2.out)|(with_reducible exact q3.out)))|fail)
 (e1:Or1 Q1:=by first|(with_reducible exact(Or1.mk:Or1 True))|exact Or1.mk) (e2:Or1 Q2:=by first|(with_reducible exact(Or1.mk:Or1 True))|exact Or1.mk) (e3:Or1 Q3:=by first|(with_reducible exact(Or1.mk:Or1 True))|exact Or1.mk):P:=h ⟨q1⟩ ⟨q2⟩ ⟨q3⟩
theorem wk4 {Q1 Q2 Q3 Q4 P:Prop}(q1:Q1)(q2:Q2)(q3:Q3)(q4:Q4)(h:Hd Q1→Hd Q2→Hd Q3→Hd Q4→P:=by
 intro q1 q2 q3 q4
 first|((repeat' (first|(with_reducible refine And.intro ?_ ?_)|(with_reducible refine gK_i (fun hwq=>?_) (fun hwq=>?_))|(with_reducible refine condS_i (fun hwq=>?_) (fun hwq=>?_))|(with_reducible refine drw_i (by kernel_rfl))|simp -dsimp only[go_sem,seval, *,undef,List.take_length,Nat.sub_zero,bne_self_eq_false,beq_self_eq_true,Option.isSome_some,Option.isSome_none,Int.lt_irrefl]|((with_reducible refine opK_c ?_);simp -dsimp only[go_sem,seval, *,undef,List.take_length,Nat.sub_zero,bne_self_eq_false,beq_self_eq_true,Option.isSome_some,Option.isSome_none,Int.lt_irrefl];first|refine callK_r (by assumption) (by first|exact .inl rfl|exact .inr rfl) ?_|(refine callK_i (by assumption) ?_ ?_ ?_;(solve|(repeat(first|exact DLe.refl _|exact DLe.nil _|(refine DLe.tup ?_)|(refine DLe.agg ?_ rfl)|exact trivial|(refine And.intro ?_ ?_))));(solve|exact .inl rfl|exact .inr rfl)))|(refine opK_L (by assumption) ?_ ?_ ?_ ?_ ?_ ?_;(solve|rfl|simp only[go_sem,seval]);(solve|rfl);(solve|decide);(solve|simp);(solve|simp only[go_sem,seval,lentOK]))|(refine opK_LR (by assumption) ?_ ?_ ?_ ?_ ?_ ?_;(solve|rfl|simp only[go_sem,seval]);(solve|rfl);(solve|decide);(solve|simp);(solve|simp only[go_sem,seval,lentOK]))|omega|exact decide_eq_true (by omega)|exact DLe.refl _));all_goals((repeat revert hwq);first|(with_reducible exact q1.out)|(with_reducible exact q2.out)|(with_reducible exact q3.out)|(with_reducible exact q4.out)))|fail)
 (e1:Or1 Q1:=by first|(with_reducible exact(Or1.mk:Or1 True))|exact Or1.mk) (e2:Or1 Q2:=by first|(with_reducible exact(Or1.mk:Or1 True))|exact Or1.mk) (e3:Or1 Q3:=by first|(with_reducible exact(Or1.mk:Or1 True))|exact Or1.mk) (e4:Or1 Q4:=by first|(with_reducible exact(Or1.mk:Or1 True))|exact Or1.mk):P:=h ⟨q1⟩ ⟨q2⟩ ⟨q3⟩ ⟨q4⟩
theorem leftOf_none {s:Bool}{ents:List (List Int × Int)}{seen:List Nat}(h:(leftOf (mapEnts s ents 0).toArray seen.toArray).size=0){i:Nat}(hi:i < ents.length):i∈seen:=by
 have hg:=mapEnts_get s ents 0 i
 rw[List.getElem?_eq_getElem hi]at hg
 have hm:=List.mem_of_getElem? hg
 refine Classical.byContradiction fun hn=>?_
 have:{key:=keyV s ents[i].1,val:=Value.int .i64 ents[i].2,born:=0+i:MapEntry}∈(leftOf (mapEnts s ents 0).toArray seen.toArray).toList:=by
  unfold leftOf
  simp
  exact⟨by simpa using hm,by simpa using hn⟩
 have hz:(leftOf (mapEnts s ents 0).toArray seen.toArray).toList=[]:=by
  have:(leftOf (mapEnts s ents 0).toArray seen.toArray)=#[]:=Array.eq_empty_of_size_eq_zero h
  rw[this]
 rw[hz]at this
 simp at this
theorem leftOf_some {s:Bool}{ents:List (List Int × Int)}{seen:List Nat}{x:MapEntry}(h:x∈(leftOf (mapEnts s ents 0).toArray seen.toArray).toList):∃i,i < ents.length∧i∉seen∧x.born=i:=by
 unfold leftOf at h
 simp at h
 have:=mapEnts_born s ents 0 x h.1
 exact⟨x.born,by omega,by simpa using h.2,rfl⟩
theorem RealC.set_it {X:Cfg}{s:FS}{a:Act}{w:World}{c:Cx}(h:RealC X s a w c){k n b bm:Nat}{sB:Bool}{ents:List (List Int × Int)}{seen:List Nat}(i:Nat)(hk:s.heap k= .it n sB ents seen)(hb:c.bl k=some b)(hh:w.heap[b]? =some (.mapIter (some bm) ents.length seen.toArray ents.length))(hM:¬c.M bm)(hm:w.heap[bm]? =some (.map (mapEnts sB ents 0).toArray ents.length)):
 RealC X {s with heap:=effH [(k,.it n sB ents (seen++[i]))] s.heap} a {w with heap:=w.heap.setIfInBounds b (.mapIter (some bm) ents.length (seen.toArray.push i) ents.length)} c:=by
 have hblk:c.block k (s.heap k)=some b:=by rw[hk];exact hb
 have hlt:b < w.heap.size:=(Array.getElem?_eq_some_iff.1 hh).1
 have hne:b≠bm:=fun e=>hM ((h.mu bm).2 (.inr ⟨k,by rw[hblk,e]⟩))
 have hst1:(w.heap.setIfInBounds b (.mapIter (some bm) ents.length (seen.toArray.push i) ents.length))[b]? =some (.mapIter (some bm) ents.length (seen.toArray.push i) ents.length):=by simp[hlt]
 have hst2:∀b',b'≠b→(w.heap.setIfInBounds b (.mapIter (some bm) ents.length (seen.toArray.push i) ents.length))[b']? =w.heap[b']? :=fun b' hb'=>by
  rw[Array.getElem?_setIfInBounds];rw[if_neg (fun e=>hb' e.symm)]
 refine h.turn c.le_refl rfl (fun _ _=>rfl) (fun _ _=>rfl) rfl rfl rfl (by simp) (fun b' _ hb'=>hst2 b' (fun e=>hb' (by rw[e];exact hblk))) (fun b'=>?_) (fun b' hb'=>?_) (fun hkp=>?_)
 ·show c.M b'↔(c.M b'∧c.block k (s.heap k)≠some b')∨c.bl k=some b'
  rw[hblk,hb]
  constructor
  ·intro hm
   by_cases e:b=b'
   ·exact .inr (by rw[e])
   ·exact .inl ⟨hm,fun h=>e (Option.some.inj h)⟩
  ·rintro (⟨hm,_⟩|e)
   ·exact hm
   ·exact(h.mu b').2 (.inr ⟨k,by rw[hblk];exact e⟩)
 ·have e:c.bl k=some b':=hb'
  refine⟨.inl (by rw[hblk,←hb];exact e),?_⟩
  simp only[Array.size_setIfInBounds]
  exact(h.new k b' (by rw[hblk,←hb];exact e)).2
 ·exact .it n sB ents (seen++[i]) b bm hb (by rw[hst1];simp) hM (by rw[hst2 bm (fun e=>hne e.symm)];exact hm)
section
variable {P:Program}{n m:Nat}{T:Nat→Option TI}{Q:Nat→Option Nat}{K K':KT}{e:Env}{h:List Chunk}
theorem swp_mono {c:Code}(hK:∀x e h,K x e h→K' x e h)(hs:swp P n m c K e h):swp P n m c K' e h:=fun X hX hn hXm a w hr=>
 wp_mono (hs X hX hn hXm a w hr) fun _ _ _ ⟨e',h',hk,hr'⟩=>⟨e',h',hK _ _ _ hk,hr'⟩
theorem swp_seq {a b:Code}(hTQ:TabOK P T Q)(hmix:P.follows .mixedOrders=true)(hb:codeB n b=true)(ha:swp P n m a (seqK (sC P n m T Q b K ⟨⟩) K) e h):swp P n m (.seq a b) K e h:=
 pwp_seq fun C hC=>swp_mono (fun x e h hk=>by
  cases x with
  |normal=>exact hC _ _ (sC_sound hTQ hmix b _ _ _ hb hk)
  |_=>exact hk) ha
theorem swp_next (hTQ:TabOK P T Q){id d1 d2 k nn:Nat}{o1 o2:Oper}{x:Operand}{sB:Bool}{ents:List (List Int × Int)}{seen:List Nat}(hml:m≤h.length)(ho1:o1.op= .next x false)(hg1:o1.guard=none)(hd1:o1.dst=some d1)(ho2:o2.op= .extract (.tmp d1) 0)(hg2:o2.guard=none)(hd2:o2.dst=some d2)(hn1:d1 < n)(hn2:d2 < n)
 (hx:evL e x= .ptr k 0) (hk:hatL h k= .it nn sB ents seen) (hkl:k < h.length)
 (h0:(∀i,i < ents.length→i∈seen)→K .normal (putE (putE e (some d1) (.tup [.d (.v (.bool false))])) (some d2) (.d (.v (.bool false)))) h)
 (h1:∀i,i < ents.length→i∉seen→K .normal (putE (putE e (some d1) (.tup [.d (.v (.bool true)),.any,.any])) (some d2) (.d (.v (.bool true)))) (effC [(k,.it nn sB ents (seen++[i]))] h)):swp P n m (.region id #[o1,o2] false) K e h:=by
 intro X hX hn hXm a w hr
 subst hX
 subst hn
 subst hXm
 obtain⟨c,hc⟩:=hr
 refine wp_region_list ?_
 show wpList X.P #[o1,o2] _ [o1,o2] a w
 unfold wpList
 rw[if_pos (by unfold Region.wanted;rw[hg1])]
 left
 have e1:=ev_ok hc x
 rw[ev_mk,hx]at e1
 have hck:=hc.chunk k
 have hk2:(mkF e h).heap k= .it nn sB ents seen:=hk
 rw[hk2]at hck
 generalize hu:a.eval x=u at e1
 have fin:∀(tp:PV) (b:Bool) (e':Env) (h':List Chunk) (a':Act) (w':World),e'=putE e (some d1) tp→(∃l,tp= .tup (.d (.v (.bool b))::l))→X.m≤h'.length→Real X (mkF e' h') a' w'→K .normal (putE e' (some d2) (.d (.v (.bool b)))) h'→wpList X.P #[o1,o2] (RK X K) [o2] a' w':=by
  rintro tp b e' h' a' w' he ⟨l,rfl⟩ hm' hr' hK
  unfold wpList
  rw[if_pos (by unfold Region.wanted;rw[hg2])]
  left
  have hop:opS T Q e' h' o2= .res (.d (.v (.bool b))) [] [] True:=by
   unfold opS
   rw[ho2]
   simp only[evL]
   rw[show look e' d1= .tup (.d (.v (.bool b))::l) by rw[he];simp[putE,look]]
   simp[extrS]
  have hok:=opS_ok (X:=X) (ops:=#[o1,o2]) hTQ (fun d hd=>by rw[hd2]at hd;cases hd;exact hn2) hm' hop trivial
  refine hok.2.2 (mkF e' h') (fun _ _=>rfl) (fun _ _=>rfl) a' w' hr' _ _ fun v w'' hr''=>?_
  unfold wpList
  refine⟨_,_,hK,?_⟩
  rw[mkF_app (fun kc h=>by simp at h),hd2]at hr''
  rw[←hd2]at hr''
  simpa[effC,hd2]using hr''
 cases e1 with
 |ptr _ _ b hb=>
  cases hck with
  |it _ _ _ _ b' bm hb' hh hM hm=>
   rw[hb]at hb'
   cases hb'
   have hput:∀(tp:PV) (v:Value) (h':List Chunk) (w':World) (c':Cx),RealC X (mkF e h') a w' c'→RepP c' w' tp v→Real X (mkF (putE e (some d1) tp) h') (a.put o1.dst v) w':=by
    intro tp v h' w' c' hc' hp
    have:=hc'.put (dst:=o1.dst) hp (fun d hd=>by rw[hd1]at hd;cases hd;exact hn1)
    have h2:=mkF_app (e:=e) (h:=h') (dst:=o1.dst) (p:=tp) (eff:=[]) (touch:=[]) (fun kc h=>by simp at h)
    rw[←hd1]
    refine⟨c',?_⟩
    show RealC X (mkF (putE e o1.dst tp) (effC [] h')) _ w' c'
    rw[←h2]
    exact this
   rcases run_next_at (P:=X.P) w o1.type b bm ents.length ents.length seen.toArray (mapEnts sB ents 0).toArray ents.length hh hm (fun x hx=>by have:=mapEnts_born sB ents 0 x (by simpa using hx);omega) (Nat.le_refl _)with⟨hz,hrun⟩|⟨x1,hx1,w1,hw1,hrun⟩
   ·unfold Oper.wp
    have hex:(execOp a.eval o1).run X.P w= .ok (.value (.tuple #[.bool false])) w:=by
     simp only[execOp,ho1,hu]
     rw[Sem.run_bind,hrun]
     rfl
    rw[hex]
    exact fin (.tup [.d (.v (.bool false))]) false _ h _ _ rfl ⟨_,rfl⟩ hml (hput _ _ h w c hc (.tup _ [.bool false] rfl (fun j d y h1 h2=>by
     match j with
     |0=>simp at h1 h2;subst h1;subst h2;exact .d _ _ (.v _)
     |j+1=>simp at h1))) (h0 fun i hi=>leftOf_none hz hi)
   ·obtain⟨i,hi,hns,hbi⟩:=leftOf_some hx1
    have hc1:RealC X (mkF e h) a w1 c:=by
     rcases hw1 with rfl|rfl
     ·exact hc
     ·exact hc.grow ⟨rfl,rfl,rfl,Nat.le_refl _,fun _ _=>rfl⟩
    have hh1:w1.heap=w.heap:=by rcases hw1 with rfl|rfl<;>rfl
    have hset:=hc1.set_it i hk2 hb (by rw[hh1];exact hh) hM (by rw[hh1];exact hm)
    unfold Oper.wp
    have hex:(execOp a.eval o1).run X.P w= .ok (.value (.tuple #[.bool true,x1.key,x1.val])) {w1 with heap:=w1.heap.setIfInBounds b (.mapIter (some bm) ents.length (seen.toArray.push i) ents.length)}:=by
     simp only[execOp,ho1,hu]
     rw[Sem.run_bind,hrun,←hbi]
     rfl
    rw[hex]
    have hlen:∀kc∈[(k,Chunk.it nn sB ents (seen++[i]))],kc.1≤h.length:=fun kc hkc=>by simp at hkc;subst hkc;omega
    have hlc:hatL (effC [(k,Chunk.it nn sB ents (seen++[i]))] h)=effH [(k,Chunk.it nn sB ents (seen++[i]))] (hatL h):=funext (hatL_effC hlen)
    have hset2:RealC X (mkF e (effC [(k,Chunk.it nn sB ents (seen++[i]))] h)) a {w1 with heap:=w1.heap.setIfInBounds b (.mapIter (some bm) ents.length (seen.toArray.push i) ents.length)} c:=by
     have:mkF e (effC [(k,Chunk.it nn sB ents (seen++[i]))] h)={mkF e h with heap:=effH [(k,.it nn sB ents (seen++[i]))] (mkF e h).heap}:=by
      simp only[mkF,hlc]
     rw[this];exact hset
    refine fin (.tup [.d (.v (.bool true)),.any,.any]) true _ _ _ _ rfl ⟨_,rfl⟩ ?_ (hput _ _ _ _ c hset2 (.tup _ [.bool true,x1.key,x1.val] rfl (fun j d y h1 h2=>by
     match j with
     |0=>simp at h1 h2;subst h1;subst h2;exact .d _ _ (.v _)
     |1=>simp at h1 h2;subst h1;exact .any _
     |2=>simp at h1 h2;subst h1;exact .any _
     |j+3=>simp at h1))) (h1 i hi hns)
    exact Nat.le_trans hml effC_len
theorem loopR {c:Code}(I:Nat→Env→List Chunk→Prop)(mm:Nat)(e1:Env)(h1:List Chunk)(h0:I mm e1 h1)(hw:Weak P n m e h e1 h1)
 (hr:∀k e h,I k e h→∀C:Env→List Chunk→Prop,(∀k' e1 h1 e h,k' < k→I k' e1 h1→Weak P n m e h e1 h1→C e h)→swp P n m c (lopK C K) e h):loopK P n m c K ⟨⟩ e h:=
 fun _=>pwp_loop I mm e1 h1 h0 hw fun k e h hI C hC=>swp_mono (fun x e h hk=>by cases x<;>exact hk) (hr k e h hI C hC)
end
@[go_sem] theorem vwL_d (h:Nat→Chunk)(l:List D):viewL (vw h) (l.map .d)=some l:=viewL_d h 6 l
@[go_sem] theorem tcL_d (h:Nat→Chunk)(l:List D):tchL (tc h) (l.map .d)=[]:=tchL_d h 6 l
def idxI {α:Type}(p:α→Bool)(l:List α):Int:=match l.findIdx? p with|some i=>(i:Int)|none=> -1
theorem idxI_some {α:Type}{p:α→Bool}{l:List α}{k:Nat}{x:α}(hx:l[k]? =some x)(hp:p x=true)(hno:∀y∈l.take k,p y=false):idxI p l=k:=by
 have h:l.findIdx? p=some k:=by
  rw[List.findIdx?_eq_some_iff_getElem]
  obtain⟨hk,hx'⟩:=List.getElem?_eq_some_iff.1 hx
  refine⟨hk,by rw[hx'];exact hp,fun j hj=>?_⟩
  have:=hno l[j] (List.mem_of_getElem? (by rw[List.getElem?_take_of_lt hj];exact List.getElem?_eq_getElem (by omega)))
  rw[this];simp
 simp[idxI,h]
theorem idxI_none {α:Type}{p:α→Bool}{l:List α}(hno:∀y∈l,p y=false):idxI p l= -1:=by
 have h:l.findIdx? p=none:=by rw[List.findIdx?_eq_none_iff];exact hno
 simp[idxI,h]
theorem idxI_any {α:Type}(p:α→Bool)(l:List α):decide (idxI p l≥0)=l.any p:=by
 unfold idxI
 cases h:l.findIdx? p with
 |none=>
  rw[List.findIdx?_eq_none_iff]at h
  have:l.any p=false:=by rw[List.any_eq_false];intro x hx;rw[h x hx];simp
  rw[this];rfl
 |some i=>
  obtain⟨hi,hp,_⟩:=List.findIdx?_eq_some_iff_getElem.1 h
  have:l.any p=true:=List.any_eq_true.2 ⟨_,List.getElem_mem hi,hp⟩
  rw[this];simp
def cmpI (a b:Int):Int:=if a < b then -1 else if a>b then 1 else 0
theorem cmpI_neg (a b:Int):decide (cmpI a b < 0)=decide (a < b):=by
 unfold cmpI
 split
 ·simp[*]
 ·split<;>simp[*]
theorem cmpI_zero (a b:Int):(cmpI a b==0)=(a==b):=by
 unfold cmpI
 split
 ·rename_i h;rw[Bool.eq_iff_iff];simp;omega
 ·split
  ·rw[Bool.eq_iff_iff];simp;omega
  ·rw[Bool.eq_iff_iff];simp;omega
theorem wrap_u64 (x:Int):IntKind.u64.wrap x=x % 18446744073709551616:=rfl
def lbN {α:Type}(key:α→Int)(t:Int)(l:List α):Nat:=l.findIdx fun x=>decide (t≤key x)
def lbB {α:Type}(key:α→Int)(t:Int)(l:List α):Bool:=match l[lbN key t l]? with|some x=>key x==t|none=>false
theorem lbN_eq {α:Type}{key:α→Int}{t:Int}{l:List α}{i:Nat}(hi:i≤l.length)(hlo:∀q (hq:q < l.length),q < i→key l[q] < t)(hhi:∀q (hq:q < l.length),i≤q→t≤key l[q]):lbN key t l=i:=by
 unfold lbN
 rcases Nat.lt_or_ge i l.length with h|h
 ·rw[List.findIdx_eq h]
  refine⟨by simpa using hhi i h (Nat.le_refl _),fun j hj=>?_⟩
  have:=hlo j (by omega) hj
  simp;omega
 ·obtain rfl:i=l.length:=by omega
  rw[List.findIdx_eq_length]
  intro x hx
  obtain⟨q,hq,rfl⟩:=List.mem_iff_getElem.1 hx
  have:=hlo q hq hq
  simp;omega
theorem pj {f nt:Nat}{fn:Func}{c:Code}{rs:Array ResultVar}{ds:List D}{r:D}(hf:Tryz.prog.funcs[f]? =some fn)(hn:fn.ntmps=nt)(hr:fn.results=rs)
 (hp:sC Tryz.prog nt 0 tabT tabQ c (RetOK tabT rs.toList r) ⟨⟩ (argP (ds.map .d) 0) []) (hb:fn.body=some c:=by exact rfl) (hc:chkB fn nt c ds.length=true:=by kernel_rfl):PSpec Tryz.prog f ds r:=ps_i tab_ok mixed hf hb hn hr hc hp
theorem mj {f nt:Nat}{fn:Func}{c:Code}{rs:Array ResultVar}{args:List PV}{h0 h1:List Chunk}{r:PV}(hf:Tryz.prog.funcs[f]? =some fn)(hn:fn.ntmps=nt)(hr:fn.results=rs)
 (hp:sC Tryz.prog nt h0.length tabT tabQ c (RetM Tryz.prog h0.length tabT rs.toList r h1) ⟨⟩ (argP args 0) h0) (hb:fn.body=some c:=by exact rfl) (hc:chkB fn nt c args.length=true:=by kernel_rfl)
 (hle:h0.length≤h1.length:=by simp) (hba:belowL h0.length args=true:=by simp[belowL,belowP]) (hbh:belowH h0.length h0=true:=by simp[belowH,belowC,belowL,belowP,belowL_d,belowR_d]):MSpec Tryz.prog f args h0 r h1:=ms_i tab_ok mixed hf hb hn hr hc hle hba hbh hp
theorem idxf_Prefix {α:Type}{enc:α→List D}(henc:∀x,(enc x).length=2)(p:α→Bool)(l:List α)(g:Nat)(caps:List D)(hl:l.length≤1000000000)(hc:∀x∈l,PSpec Tryz.prog g (.agg (enc x)::caps) (.v (.bool (p x)))):
 PSpec Tryz.prog 179 [.sl 2 (l.map enc),.clo g caps] (.v (.int .i64 (idxI p l))):=by
 refine pj Tryz.func179 Tryz.ntmps179 Tryz.results179 ?_
 refine wk1 ?_<;>intros
 refine loopG tab_ok mixed (fun m e h=>∃k:Nat,k≤l.length∧(∀x∈l.take k,p x=false)∧m=l.length - k∧e=[(8,.d (.v (.int .i64 k))),(7,.d (.v (.int .i64 l.length))),(4,.d (.v (.int .i64 0))),(1,.d (.clo g caps)),(0,.d (.sl 2 (l.map enc)))]∧h=[]) _ _ _ ⟨0,Nat.zero_le _,by simp,rfl,rfl,rfl⟩ ?_ ?_
 ·exact weak_forget [] (by simp) rfl ⟨rfl,rfl,rfl,rfl,rfl,trivial⟩ bl bl
 ·rintro m e h ⟨k,hk,hno,rfl,rfl,rfl⟩ CL hCL
  by_cases hlt:k < l.length
  ·obtain⟨x,hx⟩:∃x,l[k]? =some x:=⟨_,List.getElem?_eq_getElem hlt⟩
   have hltI:(k:Int) < (l.length:Int):=by omega
   have hwr:=wi k (by omega)
   have hlen:=henc x
   have htk:(enc x).take 2=enc x:=List.take_of_length_le (by omega)
   have hcx:=hc x (List.mem_of_getElem? hx)
   cases hp:p x with
   |false=>
    rw[hp]at hcx
    refine wk1 ?_<;>intros
    refine hCL _ _ _ _ _ ?_ ⟨k+1,hlt,?_,rfl,rfl,rfl⟩ (weak_forget [] (by simp) rfl ⟨rfl,rfl,rfl,rfl,rfl,trivial⟩ bl bl)
    ·omega
    ·intro y hy
     rw[take_snoc hx]at hy
     rcases List.mem_append.1 hy with hy|hy
     ·exact hno y hy
     ·rw[List.mem_singleton]at hy;rw[hy];exact hp
   |true=>
    rw[hp]at hcx
    have hidx:idxI p l=k:=idxI_some hx hp hno
    exact wk0
    all_goals rw[hidx]
    all_goals exact DLe.refl _
  ·obtain rfl:k=l.length:=by omega
   rw[List.take_length]at hno
   refine wk1 ?_<;>intros
   all_goals rw[idxI_none hno]
   all_goals exact DLe.refl _
theorem cntf_Prefix {α:Type}{enc:α→List D}(henc:∀x,(enc x).length=2)(p:α→Bool)(l:List α)(g:Nat)(caps:List D)(hl:l.length≤1000000000)(hc:∀x∈l,PSpec Tryz.prog g (.agg (enc x)::caps) (.v (.bool (p x)))):
 PSpec Tryz.prog 95 [.sl 2 (l.map enc),.clo g caps] (.v (.bool (l.any p))):=by
 have hi:=idxf_Prefix henc p l g caps hl hc
 have hany:=idxI_any p l
 refine pj Tryz.func95 Tryz.ntmps95 Tryz.results95 ?_
 exact wk0
 all_goals exact DLe.refl _
theorem isNaN_p (a:Int):PSpec Tryz.prog 195 [.v (.int .i64 a)] (.v (.bool false)):=by
 have h:(a !=a)=false:=by simp
 refine pj Tryz.func195 Tryz.ntmps195 Tryz.results195 ?_
 exact wk0
 all_goals exact DLe.refl _
theorem compare_p (a b:Int):PSpec Tryz.prog 113 [.v (.int .i64 a),.v (.int .i64 b)] (.v (.int .i64 (cmpI a b))):=by
 rcases Int.lt_trichotomy a b with h|h|h
 ·have h1:decide (a < b)=true:=by simpa using h
  have e:cmpI a b= -1:=by simp[cmpI,h]
  refine pj Tryz.func113 Tryz.ntmps113 Tryz.results113 ?_
  have z1z:=isNaN_p a
  have z2z:=isNaN_p b
  exact wk0
  all_goals(rw[e];exact DLe.refl _)
 ·subst h
  have e:cmpI a a=0:=by simp[cmpI]
  have h1:decide (a>a)=false:=by simp
  refine pj Tryz.func113 Tryz.ntmps113 Tryz.results113 ?_
  have z1z:=isNaN_p a
  exact wk0
  all_goals(rw[e];exact DLe.refl _)
 ·have h1:decide (a < b)=false:=by simp;omega
  have h2:decide (a>b)=true:=by simpa using h
  have e:cmpI a b=1:=by unfold cmpI;rw[if_neg (by omega),if_pos h]
  refine pj Tryz.func113 Tryz.ntmps113 Tryz.results113 ?_
  have z1z:=isNaN_p a
  have z2z:=isNaN_p b
  exact wk0
  all_goals(rw[e];exact DLe.refl _)
theorem hat_gone:∀(h:List Chunk) (k:Nat),hatL (h.map fun _=>Chunk.gone) k=if k < h.length then .gone else .none
 |[],_=>rfl
 |c::l,0=>rfl
 |c::l,k+1=>by simp only[List.map_cons,hatL,hat_gone l k,List.length_cons,Nat.add_lt_add_iff_right]
theorem ms_frz {P:Program}{f:Nat}{args:List PV}{h0:List Chunk}{ds:List D}{r:D}(hp:PSpec P f ds r)(hba:belowL h0.length args=true)(hbh:belowH h0.length h0=true)(hv:viewL (vw (hatL h0)) args=some ds)(ht:∀k∈tchL (tc (hatL h0)) args,k < h0.length):MSpec P f args h0 (.d r) (h0.map fun _=> .gone):=by
 refine⟨hp.1,by simp,hba,hbh,fun X hP hn hm w c vs hr hps=>?_⟩
 subst hP
 have hf:=hr.freeze (List.range h0.length)
 obtain⟨q1,q2⟩:=viewL_at hv
 have hrep:RepDs (lessM c (hatL h0) (List.range h0.length)) w ds vs:=⟨by rw[←q1];exact hps.1,fun j d x hj hx=>by
  obtain⟨p,hp',hpd⟩:=q2 j d hj
  exact viewF_ok hr 6 hpd (fun k hk=>List.mem_range.2 (ht k (tchL_mem (List.mem_of_getElem? hp') k hk))) (hps.2 j p x hp' hx)⟩
 refine(hp.2 _ w vs (fun b hb=>hr.lt hb.1) (hr.ginv.keep ⟨Nat.le_refl _,fun _ _ _=>rfl,fun b _ hb=>hb.1⟩) hrep).mono ?_
 rintro e w' ⟨v,rfl,hv',hx⟩
 refine⟨v,{c with M:=lessM c (hatL h0) (List.range h0.length)},rfl,.d _ _ hv',?_⟩
 have hg:=hf.grow hx
 have he:({mkF [] h0 with heap:=effH ((List.range h0.length).map fun k=>(k,.gone)) (mkF [] h0).heap}:FS)=mkF [] (h0.map fun _=> .gone):=by
  simp only[mkF,FS.mk.injEq,true_and]
  funext k
  rw[effH_gone,hat_gone]
  by_cases hk:k < h0.length
  ·rw[if_pos (List.mem_range.2 hk),if_pos hk]
  ·rw[if_neg (fun h=>hk (List.mem_range.1 h)),if_neg hk]
   exact hat_far h0 k (by omega)
 rw[he]at hg
 exact hg
theorem ple_refl (p:PV):ple p p:= .inl rfl
theorem ples_refl:∀(l:List PV),ples l l
 |[]=>trivial
 |p::l=>⟨ple_refl p,ples_refl l⟩
theorem ples_app:∀{a b c d:List PV},ples a b→ples c d→ples (a++c) (b++d)
 |[],[],_,_,_,h=>h
 |[],_::_,_,_,h,_=>h.elim
 |_::_,[],_,_,h,_=>h.elim
 |_::_,_::_,_,_,⟨h1,h2⟩,h=>⟨h1,ples_app h2 h⟩
theorem ples_len:∀{a b:List PV},ples a b→a.length=b.length
 |[],[],_=>rfl
 |[],_::_,h=>h.elim
 |_::_,[],h=>h.elim
 |_::_,_::_,⟨_,h⟩=>by simp[ples_len h]
theorem ples_d:∀{a b:List D},dles a b→ples (a.map .d) (b.map .d)
 |[],[],_=>trivial
 |[],_::_,h=>h.elim
 |_::_,[],h=>h.elim
 |_::_,_::_,⟨h1,h2⟩=>⟨.inr ⟨_,_,rfl,rfl,h1⟩,ples_d h2⟩
def rles:List (List PV)→List (List PV)→Prop
 |[],[]=>True
 |r::l,s::m=>ples r s∧rles l m
 |_,_=>False
theorem rles_refl:∀(l:List (List PV)),rles l l
 |[]=>trivial
 |r::l=>⟨ples_refl r,rles_refl l⟩
theorem rles_app:∀{a b c d:List (List PV)},rles a b→rles c d→rles (a++c) (b++d)
 |[],[],_,_,_,h=>h
 |[],_::_,_,_,h,_=>h.elim
 |_::_,[],_,_,h,_=>h.elim
 |_::_,_::_,_,_,⟨h1,h2⟩,h=>⟨h1,rles_app h2 h⟩
theorem rles_flat:∀{a b:List (List PV)},rles a b→ples a.flatten b.flatten
 |[],[],_=>trivial
 |[],_::_,h=>h.elim
 |_::_,[],h=>h.elim
 |_::_,_::_,⟨h1,h2⟩=>ples_app h1 (rles_flat h2)
theorem rles_len:∀{a b:List (List PV)},rles a b→a.length=b.length
 |[],[],_=>rfl
 |[],_::_,h=>h.elim
 |_::_,[],h=>h.elim
 |_::_,_::_,⟨_,h⟩=>by simp[rles_len h]
theorem rles_sz {sz:Nat}:∀{a b:List (List PV)},rles a b→(∀r∈a,r.length=sz)→∀r∈b,r.length=sz
 |[],[],_,_=>fun r h=>by simp at h
 |[],_::_,h,_=>h.elim
 |_::_,[],h,_=>h.elim
 |_::_,_::_,⟨h1,h2⟩,h=>fun r hr=>by
  rcases List.mem_cons.1 hr with rfl|hr
  ·rw[←ples_len h1];exact h _ (by simp)
  ·exact rles_sz h2 (fun r hr=>h r (by simp[hr])) r hr
theorem rles_mid {A B:List (List D)}{r s:List D}(h:dles r s):rles (dRows (A++r::B)) (dRows (A++s::B)):=by
 simp only[dRows,List.map_append,List.map_cons]
 exact rles_app (rles_refl _) ⟨ples_d h,rles_refl _⟩
theorem dRows_one2 {α:Type}{enc:α→List D}(h:∀x,(enc x).all D.one=true)(l:List α):∀r∈dRows (l.map enc),∀d∈r,d.one=true:=fun r hr d hd=>by
 obtain⟨q,hq,rfl⟩:=dRows_mem hr
 obtain⟨x,-,rfl⟩:=List.mem_map.1 hq
 obtain⟨y,hy,rfl⟩:=List.mem_map.1 hd
 exact List.all_eq_true.1 (h x) y hy
theorem RealC.row_le {X:Cfg}{e:Env}{h:List Chunk}{a:Act}{w:World}{c:Cx}(hr:RealC X (mkF e h) a w c){k E sz g:Nat}{rows rows':List (List PV)}(hk:hatL h k= .row E sz g rows)(hlt:k < h.length)(hle:rles rows rows')(h1:∀r∈rows',∀d∈r,d.one=true):
 RealC X (mkF e (setC h k (.row E sz g rows'))) a w c:=by
 have hh:∀k',(mkF e (setC h k (.row E sz g rows'))).heap k'=if k'=k then .row E sz g rows' else (mkF e h).heap k':=fun k'=>hatL_setC (Nat.le_of_lt hlt) k'
 have hb:∀k',c.block k' ((mkF e (setC h k (.row E sz g rows'))).heap k')=c.block k' ((mkF e h).heap k'):=by
  intro k'
  rw[hh]
  split
  ·rename_i he;subst he;show _=c.block k' (hatL h k');rw[hk];rfl
  ·rfl
 refine⟨hr.size,hr.defers,hr.ext,hr.inv,hr.fresh,fun b=>?_,fun k' b hkb=>?_,fun k' k'' b h1 h2=>?_,hr.env,fun k'=>?_,hr.lent⟩
 ·rw[hr.mu b]
  simp only[hb]
 ·rw[hb]at hkb;exact hr.new k' b hkb
 ·rw[hb]at h1 h2;exact hr.apart k' k'' b h1 h2
 ·rw[hh]
  split
  ·rename_i he
   subst he
   have hck:=hr.chunk k'
   rw[show (mkF e h).heap k'=_ from hk]at hck
   cases hck with
   |row _ _ _ _ v xs hv hown hrp hsz hone hg=>
    exact .row E sz g rows' v xs hv (by rw[←rles_len hle];exact hown) (ples_rep (rles_flat hle) hrp) (rles_sz hle hsz) h1 hg
  ·exact hr.chunk k'
theorem MSpec.leh {P:Program}{f:Nat}{args:List PV}{E sz g:Nat}{rows rows':List (List PV)}{r:PV}{h1:List Chunk}(hM:MSpec P f args [.row E sz g rows'] r h1)(hle:rles rows rows')(ho:∀r∈rows',∀d∈r,d.one=true)(hb:belowR 1 rows=true):MSpec P f args [.row E sz g rows] r h1:=
 ⟨hM.fn,hM.le,hM.ba,by simp only[List.length_cons,List.length_nil,belowH,belowC,Nat.zero_add,hb,Bool.and_self],fun X hP hn hm w c vs hr hps=>hM.run X hP hn hm w c vs (hr.row_le (k:=0) rfl (by simp) hle ho) hps⟩
theorem idxf_Range {α:Type}{enc:α→List D}(henc:∀x,(enc x).length=3)(p:α→Bool)(l:List α)(g:Nat)(caps:List D)(hl:l.length≤1000000000)(hc:∀x∈l,PSpec Tryz.prog g (.agg (enc x)::caps) (.v (.bool (p x)))):
 PSpec Tryz.prog 143 [.sl 3 (l.map enc),.clo g caps] (.v (.int .i64 (idxI p l))):=by
 refine pj Tryz.func143 Tryz.ntmps143 Tryz.results143 ?_
 refine wk1 ?_<;>intros
 refine loopG tab_ok mixed (fun m e h=>∃k:Nat,k≤l.length∧(∀x∈l.take k,p x=false)∧m=l.length - k∧e=[(8,.d (.v (.int .i64 k))),(7,.d (.v (.int .i64 l.length))),(4,.d (.v (.int .i64 0))),(1,.d (.clo g caps)),(0,.d (.sl 3 (l.map enc)))]∧h=[]) _ _ _ ⟨0,Nat.zero_le _,by simp,rfl,rfl,rfl⟩ ?_ ?_
 ·exact weak_forget [] (by simp) rfl ⟨rfl,rfl,rfl,rfl,rfl,trivial⟩ bl bl
 ·rintro m e h ⟨k,hk,hno,rfl,rfl,rfl⟩ CL hCL
  by_cases hlt:k < l.length
  ·obtain⟨x,hx⟩:∃x,l[k]? =some x:=⟨_,List.getElem?_eq_getElem hlt⟩
   have hltI:(k:Int) < (l.length:Int):=by omega
   have hwr:=wi k (by omega)
   have hlen:=henc x
   have htk:(enc x).take 3=enc x:=List.take_of_length_le (by omega)
   have hcx:=hc x (List.mem_of_getElem? hx)
   cases hp:p x with
   |false=>
    rw[hp]at hcx
    refine wk1 ?_<;>intros
    refine hCL _ _ _ _ _ ?_ ⟨k+1,hlt,?_,rfl,rfl,rfl⟩ (weak_forget [] (by simp) rfl ⟨rfl,rfl,rfl,rfl,rfl,trivial⟩ bl bl)
    ·omega
    ·intro y hy
     rw[take_snoc hx]at hy
     rcases List.mem_append.1 hy with hy|hy
     ·exact hno y hy
     ·rw[List.mem_singleton]at hy;rw[hy];exact hp
   |true=>
    rw[hp]at hcx
    have hidx:idxI p l=k:=idxI_some hx hp hno
    exact wk0
    all_goals rw[hidx]
    all_goals exact DLe.refl _
  ·obtain rfl:k=l.length:=by omega
   rw[List.take_length]at hno
   refine wk1 ?_<;>intros
   all_goals rw[idxI_none hno]
   all_goals exact DLe.refl _
theorem cntf_Range {α:Type}{enc:α→List D}(henc:∀x,(enc x).length=3)(p:α→Bool)(l:List α)(g:Nat)(caps:List D)(hl:l.length≤1000000000)(hc:∀x∈l,PSpec Tryz.prog g (.agg (enc x)::caps) (.v (.bool (p x)))):
 PSpec Tryz.prog 209 [.sl 3 (l.map enc),.clo g caps] (.v (.bool (l.any p))):=by
 have hi:=idxf_Range henc p l g caps hl hc
 have hany:=idxI_any p l
 refine pj Tryz.func209 Tryz.ntmps209 Tryz.results209 ?_
 exact wk0
 all_goals exact DLe.refl _
theorem idxf_Sub {α:Type}{enc:α→List D}(henc:∀x,(enc x).length=4)(p:α→Bool)(l:List α)(g:Nat)(caps:List D)(hl:l.length≤1000000000)(hc:∀x∈l,PSpec Tryz.prog g (.agg (enc x)::caps) (.v (.bool (p x)))):
 PSpec Tryz.prog 213 [.sl 4 (l.map enc),.clo g caps] (.v (.int .i64 (idxI p l))):=by
 refine pj Tryz.func213 Tryz.ntmps213 Tryz.results213 ?_
 refine wk1 ?_<;>intros
 refine loopG tab_ok mixed (fun m e h=>∃k:Nat,k≤l.length∧(∀x∈l.take k,p x=false)∧m=l.length - k∧e=[(8,.d (.v (.int .i64 k))),(7,.d (.v (.int .i64 l.length))),(4,.d (.v (.int .i64 0))),(1,.d (.clo g caps)),(0,.d (.sl 4 (l.map enc)))]∧h=[]) _ _ _ ⟨0,Nat.zero_le _,by simp,rfl,rfl,rfl⟩ ?_ ?_
 ·exact weak_forget [] (by simp) rfl ⟨rfl,rfl,rfl,rfl,rfl,trivial⟩ bl bl
 ·rintro m e h ⟨k,hk,hno,rfl,rfl,rfl⟩ CL hCL
  by_cases hlt:k < l.length
  ·obtain⟨x,hx⟩:∃x,l[k]? =some x:=⟨_,List.getElem?_eq_getElem hlt⟩
   have hltI:(k:Int) < (l.length:Int):=by omega
   have hwr:=wi k (by omega)
   have hlen:=henc x
   have htk:(enc x).take 4=enc x:=List.take_of_length_le (by omega)
   have hcx:=hc x (List.mem_of_getElem? hx)
   cases hp:p x with
   |false=>
    rw[hp]at hcx
    refine wk1 ?_<;>intros
    refine hCL _ _ _ _ _ ?_ ⟨k+1,hlt,?_,rfl,rfl,rfl⟩ (weak_forget [] (by simp) rfl ⟨rfl,rfl,rfl,rfl,rfl,trivial⟩ bl bl)
    ·omega
    ·intro y hy
     rw[take_snoc hx]at hy
     rcases List.mem_append.1 hy with hy|hy
     ·exact hno y hy
     ·rw[List.mem_singleton]at hy;rw[hy];exact hp
   |true=>
    rw[hp]at hcx
    have hidx:idxI p l=k:=idxI_some hx hp hno
    exact wk0
    all_goals rw[hidx]
    all_goals exact DLe.refl _
  ·obtain rfl:k=l.length:=by omega
   rw[List.take_length]at hno
   refine wk1 ?_<;>intros
   all_goals rw[idxI_none hno]
   all_goals exact DLe.refl _
theorem cntf_Sub {α:Type}{enc:α→List D}(henc:∀x,(enc x).length=4)(p:α→Bool)(l:List α)(g:Nat)(caps:List D)(hl:l.length≤1000000000)(hc:∀x∈l,PSpec Tryz.prog g (.agg (enc x)::caps) (.v (.bool (p x)))):
 PSpec Tryz.prog 145 [.sl 4 (l.map enc),.clo g caps] (.v (.bool (l.any p))):=by
 have hi:=idxf_Sub henc p l g caps hl hc
 have hany:=idxI_any p l
 refine pj Tryz.func145 Tryz.ntmps145 Tryz.results145 ?_
 exact wk0
 all_goals exact DLe.refl _
theorem idxf_Face {α:Type}{enc:α→List D}(henc:∀x,(enc x).length=2)(p:α→Bool)(l:List α)(g:Nat)(caps:List D)(hl:l.length≤1000000000)(hc:∀x∈l,PSpec Tryz.prog g (.agg (enc x)::caps) (.v (.bool (p x)))):
 PSpec Tryz.prog 217 [.sl 2 (l.map enc),.clo g caps] (.v (.int .i64 (idxI p l))):=by
 refine pj Tryz.func217 Tryz.ntmps217 Tryz.results217 ?_
 refine wk1 ?_<;>intros
 refine loopG tab_ok mixed (fun m e h=>∃k:Nat,k≤l.length∧(∀x∈l.take k,p x=false)∧m=l.length - k∧e=[(8,.d (.v (.int .i64 k))),(7,.d (.v (.int .i64 l.length))),(4,.d (.v (.int .i64 0))),(1,.d (.clo g caps)),(0,.d (.sl 2 (l.map enc)))]∧h=[]) _ _ _ ⟨0,Nat.zero_le _,by simp,rfl,rfl,rfl⟩ ?_ ?_
 ·exact weak_forget [] (by simp) rfl ⟨rfl,rfl,rfl,rfl,rfl,trivial⟩ bl bl
 ·rintro m e h ⟨k,hk,hno,rfl,rfl,rfl⟩ CL hCL
  by_cases hlt:k < l.length
  ·obtain⟨x,hx⟩:∃x,l[k]? =some x:=⟨_,List.getElem?_eq_getElem hlt⟩
   have hltI:(k:Int) < (l.length:Int):=by omega
   have hwr:=wi k (by omega)
   have hlen:=henc x
   have htk:(enc x).take 2=enc x:=List.take_of_length_le (by omega)
   have hcx:=hc x (List.mem_of_getElem? hx)
   cases hp:p x with
   |false=>
    rw[hp]at hcx
    refine wk1 ?_<;>intros
    refine hCL _ _ _ _ _ ?_ ⟨k+1,hlt,?_,rfl,rfl,rfl⟩ (weak_forget [] (by simp) rfl ⟨rfl,rfl,rfl,rfl,rfl,trivial⟩ bl bl)
    ·omega
    ·intro y hy
     rw[take_snoc hx]at hy
     rcases List.mem_append.1 hy with hy|hy
     ·exact hno y hy
     ·rw[List.mem_singleton]at hy;rw[hy];exact hp
   |true=>
    rw[hp]at hcx
    have hidx:idxI p l=k:=idxI_some hx hp hno
    exact wk0
    all_goals rw[hidx]
    all_goals exact DLe.refl _
  ·obtain rfl:k=l.length:=by omega
   rw[List.take_length]at hno
   refine wk1 ?_<;>intros
   all_goals rw[idxI_none hno]
   all_goals exact DLe.refl _
theorem cntf_Face {α:Type}{enc:α→List D}(henc:∀x,(enc x).length=2)(p:α→Bool)(l:List α)(g:Nat)(caps:List D)(hl:l.length≤1000000000)(hc:∀x∈l,PSpec Tryz.prog g (.agg (enc x)::caps) (.v (.bool (p x)))):
 PSpec Tryz.prog 230 [.sl 2 (l.map enc),.clo g caps] (.v (.bool (l.any p))):=by
 have hi:=idxf_Face henc p l g caps hl hc
 have hany:=idxI_any p l
 refine pj Tryz.func230 Tryz.ntmps230 Tryz.results230 ?_
 exact wk0
 all_goals exact DLe.refl _
def dval0:D→Value
 | .v x=>x
 |_=>undef
def dval1:D→Value
 | .v x=>x
 | .agg l=> .agg (l.map dval0).toArray
 |_=>undef
def dval:D→Value
 | .v x=>x
 | .agg l=> .agg (l.map dval0).toArray
 | .tup l=> .tuple (l.map dval1).toArray
 |_=>undef
theorem ext_list {vs:List Value}{ds:List D}{f:D→Value}(hl:ds.length=vs.length)(h:∀(j:Nat) (d:D) (x:Value),ds[j]? =some d→vs[j]? =some x→x=f d):vs=ds.map f:=by
 apply List.ext_getElem?
 intro j
 rw[List.getElem?_map]
 cases hd:ds[j]? with
 |none=>
  have:ds.length≤j:=by simpa using hd
  rw[List.getElem?_eq_none (by omega)];rfl
 |some d=>
  have hlt:j < vs.length:=by rw[←hl];exact(List.getElem?_eq_some_iff.1 hd).1
  rw[List.getElem?_eq_getElem hlt,h j d _ hd (List.getElem?_eq_getElem hlt)];rfl
theorem isV_val {M:Nat→Prop}{w:World}{d:D}{v:Value}(h:RepD M w d v)(hf:d.isV=true):v=dval0 d:=by
 cases d<;>simp[D.isV]at hf
 cases h
 rfl
theorem flat_val {M:Nat→Prop}{w:World}{d:D}{v:Value}(h:RepD M w d v)(hf:d.flat=true):v=dval d:=by
 cases h with
 |v=>rfl
 |agg cells vs hl h1 hrep=>
  simp only[D.flat,List.all_eq_true]at hf
  rw[ext_list (f:=dval0) hl fun j d x hj hx=>isV_val (hrep j d x hj hx) (hf d (List.mem_of_getElem? hj))]
  rfl
 |tup ds vs hl hrep=>
  simp only[D.flat,List.all_eq_true]at hf
  rw[ext_list (f:=dval1) hl fun j d x hj hx=>?_]
  ·rfl
  ·have h0:=hrep j d x hj hx
   have h1:=hf d (List.mem_of_getElem? hj)
   cases h0 with
   |v=>rfl
   |agg cells us hl' h1' hrep'=>
    simp only[List.all_eq_true]at h1
    rw[ext_list (f:=dval0) hl' fun j d x hj hx=>isV_val (hrep' j d x hj hx) (h1 d (List.mem_of_getElem? hj))]
    rfl
   |_=>simp at h1
 |_=>simp[D.flat]at hf
def D.aggOK:D→Bool
 | .agg l=>l.all D.one
 | .tup l=>l.all fun d=>match d with| .agg l=>l.all D.one|_=>true
 |_=>true
theorem map_rep {M:Nat→Prop}{w:World}(ds:List D)(hf:∀d∈ds,d.isV=true):∀(j:Nat) (d:D) (x:Value),ds[j]? =some d→(ds.map dval0)[j]? =some x→RepD M w d x:=by
 intro j d x hj hx
 rw[List.getElem?_map,hj]at hx
 cases hx
 have:=hf d (List.mem_of_getElem? hj)
 cases d<;>simp[D.isV]at this
 exact .v _
theorem flat_mk {M:Nat→Prop}{w:World}{d:D}(hf:d.flat=true)(h1:d.aggOK=true):RepD M w d (dval d):=by
 cases d with
 |v x=>exact .v x
 |agg l=>
  simp only[D.flat,List.all_eq_true]at hf
  simp only[D.aggOK,List.all_eq_true]at h1
  exact .agg l _ (by simp) h1 (map_rep l hf)
 |tup l=>
  simp only[D.flat,List.all_eq_true]at hf
  simp only[D.aggOK,List.all_eq_true]at h1
  refine .tup l _ (by simp) fun j d x hj hx=>?_
  rw[List.getElem?_map,hj]at hx
  cases hx
  have h2:=hf d (List.mem_of_getElem? hj)
  have h3:=h1 d (List.mem_of_getElem? hj)
  cases d with
  |v x=>exact .v x
  |agg l'=>
   simp only[List.all_eq_true]at h2 h3
   exact .agg l' _ (by simp) h3 (map_rep l' h2)
  |_=>simp at h2
 |_=>simp[D.flat]at hf
theorem pspec_flat {P:Program}{f:Nat}{ds:List D}{r:D}(hn:FnOK P f)(hf:∀d∈ds,d.flat=true)(hr:r.flat=true)(hr1:r.aggOK=true)(h:∀w,Calls P f (ds.map dval).toArray w fun e w'=>e= .returned (dval r)∧Ext w w'):PSpec P f ds r:=by
 refine⟨hn,fun M w vs _ _ hds=>?_⟩
 rw[ext_list (f:=dval) hds.1 fun j d x hj hx=>flat_val (hds.2 j d x hj hx) (hf d (List.mem_of_getElem? hj))]
 exact(h w).mono fun e w' ⟨he,hx⟩=>⟨dval r,he,flat_mk hr hr1,hx⟩
theorem repDs_cons {M:Nat→Prop}{w:World}{d:D}{ds:List D}{vs:List Value}(h:RepDs M w (d::ds) vs):∃v us,vs=v::us∧RepD M w d v∧RepDs M w ds us:=by
 cases vs with
 |nil=>have:=h.1;simp at this
 |cons v us=>exact⟨v,us,rfl,h.2 0 d v rfl rfl,⟨by simpa using h.1,fun j d x hj hx=>h.2 (j+1) d x (by simpa using hj) (by simpa using hx)⟩⟩
theorem repDs_nil {M:Nat→Prop}{w:World}{vs:List Value}(h:RepDs M w [] vs):vs=[]:=by
 cases vs with
 |nil=>rfl
 |cons v us=>have:=h.1;simp at this
theorem repD_agg {M:Nat→Prop}{w:World}{ds:List D}{v:Value}(h:RepD M w (.agg ds) v):∃vs:List Value,v= .agg vs.toArray∧RepDs M w ds vs:=by
 cases h with
 |agg _ vs hl h1 hrep=>exact⟨vs,rfl,hl,hrep⟩
theorem repD_v {M:Nat→Prop}{w:World}{x v:Value}(h:RepD M w (.v x) v):v=x:=by cases h;rfl
theorem repD_sl {M:Nat→Prop}{w:World}{us:List Pfx}{v:Value}(h:RepD M w (.sl 2 (us.map encP)) v):∃ao cap,v= .slice ao us.length cap∧Sl (fun b=>¬M b) w 2 Pfx.R ao cap us:=by
 generalize hr:us.map encP=rows at h
 have hl:us.length=rows.length:=by rw[←hr];simp
 cases h with
 |nil _ ao cap hm=>
  have:us=[]:=List.eq_nil_of_length_eq_zero (by simpa using hl)
  subst this
  exact⟨ao,cap,rfl,⟨Nat.zero_le _,hm,fun i hi=>absurd hi (Nat.not_lt_zero _)⟩⟩
 |sl _ _ b off cap f hM hb hc hm hr' h1 hcell hrep=>
  refine⟨_,cap,by rw[hl],⟨by omega,hm,fun i hi=>⟨b,off,[.int .i64 us[i].at_,.int .i64 us[i].len],rfl,hM,rfl,rfl,fun j hj=>?_⟩⟩⟩
  have hrow:rows[i]? =some (encP us[i]):=by rw[←hr,List.getElem?_map,List.getElem?_eq_getElem hi];rfl
  have hcj:=hcell i j (by omega) hj
  rw[hcj]
  match j,hj with
  |0,_=>rw[repD_v (hrep i 0 _ _ hrow rfl)];rfl
  |1,_=>rw[repD_v (hrep i 1 _ _ hrow rfl)];rfl
theorem repD_S {M:Nat→Prop}{w:World}{root:Pfx}{us:List Pfx}{v:Value}(h:RepD M w (.agg (encS root us)) v):∃uo cap,v= .agg #[.int .i64 root.at_,.int .i64 root.len,.slice uo us.length cap]∧Sl (fun b=>¬M b) w 2 Pfx.R uo cap us:=by
 obtain⟨vs,rfl,hvs⟩:=repD_agg h
 obtain⟨a,vs,rfl,ha,hvs⟩:=repDs_cons hvs
 obtain⟨b,vs,rfl,hb,hvs⟩:=repDs_cons hvs
 obtain⟨c,vs,rfl,hc,hvs⟩:=repDs_cons hvs
 rw[repDs_nil hvs,repD_v ha,repD_v hb]
 obtain⟨ao,cap,rfl,hs⟩:=repD_sl hc
 exact⟨ao,cap,rfl,hs⟩
section
open Go.Proofs
def within (n lo hi:Int):Bool:=decide (lo≤n)&&decide (n≤hi)
end
section
open Go.Proofs
def szI (n:Int):Int:=2 ^ (16 - n).toNat
theorem szI_bd {n:Int}(h0:0≤n):1≤szI n∧szI n≤65536:=by have:=pow_bd n h0;unfold szI;omega
def lastI (a l:Int):Int:=a+szI l - 1
def rightB (a l:Int):Bool:=chk a l==0
def holdB (a l x:Int):Bool:=rightB a l&&within x a (lastI a l)
theorem right_bd {a l:Int}(h:rightB a l=true):0≤l∧l≤16∧0≤a∧a≤65535∧a % szI l=0:=by
 have h0:chk a l=0:=by simpa[rightB]using h
 unfold chk at h0
 split at h0
 ·omega
 ·rename_i h1
  split at h0
  ·rename_i h2;exact⟨by omega,by omega,by omega,by omega,h2⟩
  ·omega
end
section
open Go.Proofs
theorem cellsAt_cons {w:World}{b off:Nat}{c:Value}{cs:List Value}(h:w.cell? ⟨b,off,none⟩=some c)(hs:cellsAt w b (off+1) cs):cellsAt w b off (c::cs):=by
 intro i hi
 match i with
 |0=>simpa using h
 |i+1=>have:=hs i (by simpa using hi);simpa[Nat.add_assoc,Nat.add_comm 1 i]using this
theorem cellsAt_nil {w:World}{b off:Nat}:cellsAt w b off []:=fun i hi=>absurd hi (by simp)
theorem right1 {w:World}{b:Nat}(a l:Int)(v:Bool)(hv:rightB a l=v)(h0:w.cell? ⟨b,0,none⟩=some (.int .i64 a))(h1:w.cell? ⟨b,1,none⟩=some (.int .i64 l)):
 Calls Tryz.prog 48 #[.slice (some ⟨b,0,none⟩) 1 1] w fun e w'=>e= .returned (.bool v)∧Ext w w':=by
 have h:Sl (fun _=>True) w 2 Pfx.R (some ⟨b,0,none⟩) 1 [(⟨a,l⟩:Pfx)]:=by
  refine⟨by simp,by omega,fun i hi=>?_⟩
  match i with
  |0=>exact⟨b,0,_,rfl,trivial,rfl,rfl,cellsAt_cons h0 (cellsAt_cons h1 cellsAt_nil)⟩
 refine(right_any h).mono fun e w' hh=>⟨hh.1.trans (ret_bool ?_),hh.2⟩
 rw[←hv];simp[rightB,Pfx.chk]
theorem right2 {w:World}{b:Nat}(a l c m:Int)(v:Bool)(hv:(rightB a l&&rightB c m)=v)(h0:w.cell? ⟨b,0,none⟩=some (.int .i64 a))(h1:w.cell? ⟨b,1,none⟩=some (.int .i64 l))
 (h2:w.cell? ⟨b,2,none⟩=some (.int .i64 c)) (h3:w.cell? ⟨b,3,none⟩=some (.int .i64 m)):
 Calls Tryz.prog 48 #[.slice (some ⟨b,0,none⟩) 2 2] w fun e w'=>e= .returned (.bool v)∧Ext w w':=by
 have h:Sl (fun _=>True) w 2 Pfx.R (some ⟨b,0,none⟩) 2 [(⟨a,l⟩:Pfx),⟨c,m⟩]:=by
  refine⟨by simp,by omega,fun i hi=>?_⟩
  match i with
  |0=>exact⟨b,0,_,rfl,trivial,rfl,rfl,cellsAt_cons h0 (cellsAt_cons h1 cellsAt_nil)⟩
  |1=>exact⟨b,0,_,rfl,trivial,rfl,rfl,cellsAt_cons h2 (cellsAt_cons h3 cellsAt_nil)⟩
 refine(right_any h).mono fun e w' hh=>⟨hh.1.trans (ret_bool ?_),hh.2⟩
 rw[←hv];simp[rightB,Pfx.chk]
theorem bv_andnot (x y:BitVec 64):(x&&& ~~~y).toNat=x.toNat - (x&&& y).toNat:=by
 have h1:(x&&& ~~~y)&&& (x&&& y)=0#64:=by
  ext i hi
  simp only[BitVec.getElem_and,BitVec.getElem_not,BitVec.getElem_zero]
  cases x[i]<;>cases y[i]<;>rfl
 have h2:(x&&& ~~~y)+(x&&& y)=x:=by
  rw[BitVec.add_eq_or_of_and_eq_zero _ _ h1]
  ext i hi
  simp only[BitVec.getElem_and,BitVec.getElem_not,BitVec.getElem_or]
  cases x[i]<;>cases y[i]<;>rfl
 have h4:=BitVec.toNat_add_of_and_eq_zero h1
 rw[h2]at h4
 omega
theorem andnot_msk (a l:Int)(h0:0≤a)(h1:a≤65535)(h2:0≤l):bits .andNot .i64 a (msk l)=a - a % szI l:=by
 obtain⟨n,rfl⟩:=Int.eq_ofNat_of_zero_le h0
 have hm:=msk_bd l h2
 rw[msk_nat]at hm ⊢
 show IntKind.i64.wrap ((BitVec.ofInt 64 (n:Int)&&& ~~~ BitVec.ofInt 64 _).toNat:Int)=_
 rw[bv_andnot,BitVec.toNat_and,ofInt_i64 n (by omega),ofInt_i64 _ (by omega),Nat.and_two_pow_sub_one_eq_mod,IntKind.wrap_i64]
 have:=Nat.mod_le n (2 ^ (16 - l).toNat)
 unfold szI
 have h9:((n:Int) % 2 ^ (16 - l).toNat)=((n % 2 ^ (16 - l).toNat:Nat):Int):=by simp
 omega
def sizeI (a l:Int):Int:=if rightB a l=true then szI l else 0
theorem size_any (a l:Int)(w:World):
 Calls Tryz.prog 176 #[.agg #[.int .i64 a,.int .i64 l]] w fun e w'=>e= .returned (.int .i64 (sizeI a l))∧Ext w w':=by
 cases hA:rightB a l
 case false=>
  have hs:sizeI a l=0:=by simp[sizeI,hA]
  rw[hs]
  have hv:=Lib.hid hA
  go_enter Tryz.func176,Tryz.ntmps176
  go_wp2_with (first|(go_at_call 48;refine(right1 a l _ hv.out ?_ ?_).mono ?_;go_simp;go_simp;rintro e w1 ⟨rfl,hw1⟩))
  go_ret
  refine⟨rfl,Bel.bel (B:=_) ?_⟩
  (repeat(first|with_reducible assumption|with_reducible exact Bel.refl _|with_reducible refine Bel.alloc ?_ _|with_reducible refine Bel.drewN ?_ _|with_reducible refine Bel.drew ?_|(with_reducible refine Bel.setCell0 ?_ ?_ _;rotate_left;(first|omega|(simp;done)|(simp;omega)))|(with_reducible refine Bel.setCell ?_ (p:=_) ?_ _;rotate_left;(first|(simp;done)|omega|(simp;omega)))|refine Bel.call ?_ (by assumption)|(refine EX.bel ?_ (by assumption) ?_;rotate_left;(first|omega|(simp;omega)))))
 case true=>
  have hs:sizeI a l=msk l+1:=by simp[sizeI,hA,msk,szI]
  rw[hs]
  have hv:=Lib.hid hA
  obtain⟨g1,g2,g3,g4,-⟩:=right_bd hA
  obtain⟨z1,z2⟩:=msk_bd l g1
  go_enter Tryz.func176,Tryz.ntmps176
  go_wp2_with (first|(go_at_call 48;refine(right1 a l _ hv.out ?_ ?_).mono ?_;go_simp;go_simp;rintro e w1 ⟨rfl,hw1⟩;obtain⟨hcw1,hfw1⟩:=bcell hw1;simp only[World.size_alloc]at hcw1 hfw1)|(go_at_call 49;refine(mask_any _ _ g1 g2).mono ?_;rintro e w2 ⟨rfl,rfl⟩))
  go_ret
  refine⟨rfl,Bel.bel (B:=_) ?_⟩
  (repeat(first|with_reducible assumption|with_reducible exact Bel.refl _|with_reducible refine Bel.alloc ?_ _|with_reducible refine Bel.drewN ?_ _|with_reducible refine Bel.drew ?_|(with_reducible refine Bel.setCell0 ?_ ?_ _;rotate_left;(first|omega|(simp;done)|(simp;omega)))|(with_reducible refine Bel.setCell ?_ (p:=_) ?_ _;rotate_left;(first|(simp;done)|omega|(simp;omega)))|refine Bel.call ?_ (by assumption)|(refine EX.bel ?_ (by assumption) ?_;rotate_left;(first|omega|(simp;omega)))))
end
section
variable {P:Program}{ops:Array Oper}{Q:Exit→Act→World→Prop}
def GO (P:Program)(ops:Array Oper)(Q:Exit→Act→World→Prop):Nat→Array Bool→Act→World→Prop
 |0,listed,a,W=>Region.ready .any ops listed=[]∧∀w,Ext W w→Q .normal a w
 |fuel+1,listed,a,W=>∀w,Ext W w→(Region.ready .any ops listed=[]→Q .normal a w)∧
  ∀i∈Region.ready .any ops listed,wpOp P ops Q i (fun a' w'=>Ext w w'∧GO P ops Q fuel (listed.setIfInBounds i true) a' w') a w
theorem GO.world:∀{fuel:Nat}{listed:Array Bool}{a:Act}{W W':World},Ext W W'→GO P ops Q fuel listed a W→GO P ops Q fuel listed a W'
 |0,_,_,_,_,hx,h=>⟨h.1,fun w hw=>h.2 w (ext_trans hx hw)⟩
 |_+1,_,_,_,_,hx,h=>fun w hw=>h w (ext_trans hx hw)
theorem GO.any:∀{fuel:Nat}{listed:Array Bool}{a:Act}{W:World},GO P ops Q fuel listed a W→wpAny P .any ops Q fuel listed a W
 |0,_,_,_,h=>⟨h.1,h.2 _ (Below.refl _ _)⟩
 |_+1,_,_,W,h=>⟨(h W (Below.refl _ _)).1,fun i hi=>wpOp_mono (fun _ _ h'=>GO.any h'.2) ((h W (Below.refl _ _)).2 i hi)⟩
def QY (P:Program)(ops:Array Oper)(W:World)(o:Oper)(v:Value)(a:Act):Prop:=
 (Region.wanted o (yielded ops a.tmps)=true∧∀w,Ext W w→o.quietAt P a (Ext w) w v)∨
 (Region.wanted o (yielded ops a.tmps)=false∧v=undef)
theorem QY.world {W W':World}{o:Oper}{v:Value}{a:Act}(hx:Ext W W')(h:QY P ops W o v a):QY P ops W' o v a:=
 h.imp (fun⟨h1,h2⟩=>⟨h1,fun w hw=>h2 w (ext_trans hx hw)⟩) id
theorem QY.of_same {W:World}{o:Oper}{v:Value}{a a':Act}(hy:QY P ops W o v a)(he:execOp a'.eval o=execOp a.eval o)
 (hw:Region.wanted o (yielded ops a'.tmps)=Region.wanted o (yielded ops a.tmps)):QY P ops W o v a':=by
 unfold QY Oper.quietAt at*
 rw[he,hw]
 exact hy
theorem QY.wpOp {W:World}{i:Nat}{o:Oper}{v:Value}{a:Act}(hi:ops[i]? =some o)(hy:QY P ops W o v a){K:Act→World→Prop}{w:World}(hw:Ext W w)(h:∀w',Ext w w'→K (a.put o.dst v) w'):wpOp P ops Q i K a w:=by
 unfold Go.wpOp
 simp only[hi]
 rcases hy with⟨hwa,hv⟩|⟨hwa,rfl⟩
 ·simp only[hwa,if_true]
  left
  exact Oper.wp_of_quiet (C:=Ext w) (K:=fun a'=>a'=a.put o.dst v) (Below.refl _ _) (fun a' w' hw' ha=>ha ▸ h w' hw') ⟨v,fun w'' hw''=>by
   have:=hv w'' (ext_trans hw hw'')
   unfold Oper.quietAt at*
   generalize (execOp a.eval o).run P w''=r at*
   cases r with
   |ok n u=>cases n<;>simp only[Oper.quietUpon]at this ⊢<;>first|exact this|exact⟨this.1,this.2.mono fun _ _ ⟨e1,e2⟩=>⟨e1,ext_trans hw'' e2⟩⟩
   |halt x u=>simp only[Oper.quietUpon]at this,rfl⟩
 ·simp only[hwa,Bool.false_eq_true,if_false]
  exact h w (Below.refl _ _)
theorem wpOp_putQ {W:World}{j:Nat}{oi oj:Oper}{v:Value}(hj:ops[j]? =some oj)(hap:oi.apart ops oj=true)
 (hsi:∀cs b,oi.op≠ .select cs b) (hsj:∀cs b,oj.op≠ .select cs b)
 (hQ:∀c a w,Q (.panic c) (a.put oi.dst v) w→Q (.panic c) a w) {K:Act→World→Prop}{a:Act}{w:World}
 (hy:QY P ops W oi v a) (h:wpOp P ops Q j K (a.put oi.dst v) w):
 wpOp P ops Q j (fun a' w'=>QY P ops W oi v a'∧K (a'.put oi.dst v) w') a w:=by
 obtain⟨h1,h2,h3⟩:=Oper.apart_spec hap
 have keep:∀(a:Act),QY P ops W oi v a→∀u,QY P ops W oi v (a.put oj.dst u):=fun a hy u=>
  hy.of_same (execOp_put oi hsi a oj.dst u h3) (wanted_put oi a oj.dst u h3)
 have keepD:∀d,QY P ops W oi v {a with defers:=d::a.defers}:=fun d=>hy.of_same rfl rfl
 unfold wpOp at*
 simp only[hj]at*
 rw[wanted_put oj a oi.dst v h1]at h
 split
 ·rename_i hw
  simp only[hw,if_true]at h
  rcases h with h|⟨hasks,hlets⟩
  case inr=>exact .inr ⟨by unfold Oper.asks at*;rw[execOp_put oj hsj a oi.dst v h1]at hasks;exact hasks,hlets⟩
  refine .inl ?_
  unfold Oper.wp at*
  rw[execOp_put oj hsj a oi.dst v h1]at h
  generalize (execOp a.eval oj).run P w=r at*
  cases r with
  |ok n w'=>
   cases n<;>simp only[Oper.upon]at h ⊢
   case value u=>exact⟨keep a hy u,by rw[←Act.put_comm a v u h2];exact h⟩
   case skip=>exact⟨keep a hy _,by rw[←Act.put_comm a v undef h2];exact h⟩
   case defer d=>
    refine⟨keep _ (keepD d) _,?_⟩
    rw[←Act.put_comm _ v undef h2,←Act.put_defers]
    exact h
   case enter f args=>
    refine Calls.mono h fun e w'' he=>?_
    cases e with
    |returned u=>exact⟨keep a hy u,by rw[←Act.put_comm a v u h2];exact he⟩
    |panicked c=>exact hQ _ _ _ he
    |outgrown=>exact he
   case row row args=>exact Rows.mono h fun u w'' he=>⟨keep a hy u,by rw[←Act.put_comm a v u h2];exact he⟩
  |halt x w'=>
   cases x<;>simp only[Oper.upon]at h ⊢
   case panic u=>exact hQ _ _ _ h
 ·rename_i hw
  simp only[hw]at h
  exact⟨keep a hy _,by rw[←Act.put_comm a v undef h2];exact h⟩
theorem GO_first {i:Nat}{oi:Oper}{v:Value}(hi:ops[i]? =some oi)(hsel:∀(j:Nat) (o:Oper) cs b,ops[j]? =some o→o.op≠ .select cs b)
 (hQ:∀c a w,Q (.panic c) (a.put oi.dst v) w→Q (.panic c) a w):
 ∀(fuel:Nat) (listed:Array Bool) (a:Act) (W:World),
  (∀j oj,ops[j]? =some oj→j≠i→listed.getD j true=false→(∀e∈oj.after,Region.binds .any e=true→e.on≠i)→oi.apart ops oj=true)→
  i∈Region.ready .any ops listed→QY P ops W oi v a→
  GO P ops Q fuel (listed.setIfInBounds i true) (a.put oi.dst v) W→GO P ops Q (fuel+1) listed a W:=by
 intro fuel
 induction fuel with
 |zero=>
  intro listed a W _ hr hy H w hw
  refine⟨fun h=>(by rw[h]at hr;cases hr),fun j hj=>?_⟩
  by_cases hji:j=i
  ·subst hji;exact hy.wpOp hi hw fun w' hw'=>⟨hw',H.world (ext_trans hw hw')⟩
  ·have:=ready_mono hj hji
   rw[H.1]at this
   cases this
 |succ fuel ih=>
  intro listed a W hfree hr hy H w hw
  refine⟨fun h=>(by rw[h]at hr;cases hr),fun j hj=>?_⟩
  by_cases hji:j=i
  ·subst hji;exact hy.wpOp hi hw fun w' hw'=>⟨hw',H.world (ext_trans hw hw')⟩
  ·have h1:=(H w hw).2 j (ready_mono hj hji)
   obtain⟨hjun,oj,hoj,hall⟩:=mem_ready.1 hj
   have hnot:∀e∈oj.after,Region.binds .any e=true→e.on≠i:=fun e he hb heq=>by
    have h1:=hall e he hb
    have h0:=(mem_ready.1 hr).1
    rw[heq]at h1
    rcases Nat.lt_or_ge i listed.size with h'|h'
    ·simp[h']at h0 h1;rw[h0]at h1;cases h1
    ·simp[Array.getElem?_eq_none h']at h1
   have h2:=wpOp_putQ hoj (hfree j oj hoj hji hjun hnot) (fun cs b=>hsel i oi cs b hi) (fun cs b=>hsel j oj cs b hoj) hQ (hy.world hw) h1
   have hfree':∀k ok,ops[k]? =some ok→k≠i→(listed.setIfInBounds j true).getD k true=false→
    (∀e∈ok.after,Region.binds .any e=true→e.on≠i)→oi.apart ops ok=true:=fun k ok hk hki hun hno=>by
    refine hfree k ok hk hki ?_ hno
    by_cases hjk:j=k
    ·subst hjk;exact hjun
    ·rw[getD_set_ne true hjk]at hun;exact hun
   refine wpOp_mono (fun a' w' h3=>⟨h3.2.1,ih (listed.setIfInBounds j true) a' w' hfree' (ready_mono hr (Ne.symm hji)) (h3.1.world h3.2.1) ?_⟩) h2
   rw[Array.setIfInBounds_comm _ _ hji]
   exact h3.2.2
def wpMix (P:Program)(ops:Array Oper)(Q:Exit→Act→World→Prop):List Oper→Nat→Array Bool→Act→World→Prop
 |[],_,_,a,W=>∀w,Ext W w→Q .normal a w
 |o::rest,k,listed,a,W=>
  (∃v,QY P ops W o v a∧wpMix P ops Q rest (k+1) (listed.setIfInBounds k true) (a.put o.dst v) W)∨
  (Region.ready .any ops listed=[k]∧Region.wanted o (yielded ops a.tmps)=true∧∀w,Ext W w→o.wp P a w (fun a' w'=>Ext w w'∧wpMix P ops Q rest (k+1) (listed.setIfInBounds k true) a' w') Q)
theorem mix_sound (hs:Region.noSelect ops=true)(hQ:∀c a d v w,Q (.panic c) (a.put d v) w→Q (.panic c) a w):∀(l:List Oper) (k:Nat) (listed:Array Bool) (a:Act) (W:World),(∀j,l[j]? =ops[k+j]?)→
 Region.lexFrom .any ops l.length k listed=true→wpMix P ops Q l k listed a W→GO P ops Q l.length listed a W
 |[],_,_,_,_,_,hB,h=>⟨by simpa[Region.lexFrom]using hB,h⟩
 |o::l,k,listed,a,W,hl,hB,h=>by
  have h0:ops[k]? =some o:=by simpa using (hl 0).symm
  simp only[List.length_cons,Region.lexFrom,Bool.and_eq_true]at hB
  obtain⟨⟨hr,hf⟩,hB'⟩:=hB
  have hl':∀j,l[j]? =ops[k+1+j]? :=fun j=>by have:=hl (j+1);simpa[Nat.add_assoc,Nat.add_comm 1 j]using this
  rcases h with⟨v,hy,hK⟩|⟨hone,hwa,hK⟩
  ·exact GO_first h0 (Region.noSelect_spec hs) (fun c a w=>hQ c a _ _ w) l.length listed a W (Region.free_spec h0 hf) (by simpa using hr) hy (mix_sound hs hQ l (k+1) _ _ _ hl' hB' hK)
  ·intro w hw
   refine⟨fun h=>by rw[hone]at h;simp at h,fun i hi=>?_⟩
   rw[hone]at hi
   obtain rfl:i=k:=by simpa using hi
   unfold wpOp
   simp only[h0,hwa,if_true]
   left
   exact Oper.wp_mono (fun a' w' h'=>⟨h'.1,mix_sound hs hQ l (i+1) _ _ _ hl' hB' h'.2⟩) (hK w hw)
theorem region_mix {id:Nat}{a:Act}{w:World}{l:List Oper}(hm:P.follows .mixedOrders=true)(hB:Region.lexB .any l.toArray=true)(hQ:∀c a d v w,Q (.panic c) (a.put d v) w→Q (.panic c) a w)
 (h:wpMix P l.toArray Q l 0 (Array.replicate l.length false) a w):(Code.region id l.toArray true).wp P Q a w:=by
 simp only[Region.lexB,Bool.and_eq_true]at hB
 refine wp_region_any hm ?_
 have h2:=mix_sound hB.1 hQ l 0 (Array.replicate l.length false) a w (by simp) (by simpa using hB.2) h
 have h3:=(h2.world ((Below.refl _ _).drew:Ext w w.drew)).any
 simpa using h3
section
variable {o:Oper}{rest:List Oper}{k:Nat}{listed:Array Bool}{a:Act}{W:World}
theorem mix_nil (h:∀w,Ext W w→Q .normal a w):wpMix P ops Q [] k listed a W:=h
theorem mix_skip (hw:Region.wanted o (yielded ops a.tmps)=false)(hn:wpMix P ops Q rest (k+1) (listed.setIfInBounds k true) (a.put o.dst undef) W):wpMix P ops Q (o::rest) k listed a W:=
 .inl ⟨undef,.inr ⟨hw,rfl⟩,hn⟩
theorem mix_skip_t {j d:Nat}{v:Value}(hg:o.guard=some (j,true))(hd:(ops[j]?).bind (·.dst)=some d)(hv:a.tmps.toList[d]? =some v)(hb:v= .bool false)(hn:wpMix P ops Q rest (k+1) (listed.setIfInBounds k true) (a.put o.dst undef) W):wpMix P ops Q (o::rest) k listed a W:=
 mix_skip (by simp[Region.wanted,hg,yields_bool hd hv hb]) hn
theorem mix_skip_f {j d:Nat}{v:Value}(hg:o.guard=some (j,false))(hd:(ops[j]?).bind (·.dst)=some d)(hv:a.tmps.toList[d]? =some v)(hb:v= .bool true)(hn:wpMix P ops Q rest (k+1) (listed.setIfInBounds k true) (a.put o.dst undef) W):wpMix P ops Q (o::rest) k listed a W:=
 mix_skip (by simp[Region.wanted,hg,yields_bool hd hv hb]) hn
theorem mix_skip_u {j d:Nat}{v:Value}{b:Bool}(hg:o.guard=some (j,b))(hd:(ops[j]?).bind (·.dst)=some d)(hv:a.tmps.toList[d]? =some v)(hb:v=undef)(hn:wpMix P ops Q rest (k+1) (listed.setIfInBounds k true) (a.put o.dst undef) W):wpMix P ops Q (o::rest) k listed a W:=
 mix_skip (by simp[Region.wanted,hg,yields_undef hd hv hb]) hn
theorem mix_take {v:Value}(hw:Region.wanted o (yielded ops a.tmps)=true)(h:∀w,Ext W w→∀R:Value→Prop,R v→qUp P w w R ((execOp a.eval o).run P w))
 (hn:wpMix P ops Q rest (k+1) (listed.setIfInBounds k true) (a.put o.dst v) W):wpMix P ops Q (o::rest) k listed a W:=
 .inl ⟨v,.inl ⟨hw,fun w hw=>qUp_quiet (h w hw)⟩,hn⟩
theorem mix_alone (hr:Region.ready .any ops listed=[k])(hw:Region.wanted o (yielded ops a.tmps)=true)
 (h:∀w,Ext W w→∀K:Act→World→Prop,(∀a' w',Ext w w'→wpMix P ops Q rest (k+1) (listed.setIfInBounds k true) a' w'→K a' w')→o.wp P a w K Q):wpMix P ops Q (o::rest) k listed a W:=
 .inr ⟨hr,hw,fun w hw=>h w hw _ fun _ _ h1 h2=>⟨h1,h2⟩⟩
end
theorem mcall {f:FuncId}{args:Array Value}{w:World}{R:Value→Prop}{v:Value}(h:Calls P f args w fun e w'=>e= .returned v∧Ext w w')(hR:R v):Calls P f args w (qPost w R):=
 h.mono fun _ _ ⟨he,hx⟩=>⟨⟨v,he,hR⟩,hx⟩
theorem mcall_same {f:FuncId}{args:Array Value}{w:World}{R:Value→Prop}{v:Value}(h:Calls P f args w fun e w'=>e= .returned v∧w=w')(hR:R v):Calls P f args w (qPost w R):=
 h.mono fun _ _ ⟨he,hx⟩=>⟨⟨v,he,hR⟩,hx ▸ Below.refl _ _⟩
end
section
open Go.Proofs
def insP (a l b m:Int):Bool:=rightB a l&&rightB b m&&decide (m≤l)&&(a - a % szI m==b)
theorem inside_any (a l b m:Int)(w:World):
 Calls Tryz.prog 43 #[.agg #[.int .i64 a,.int .i64 l],.agg #[.int .i64 b,.int .i64 m]] w fun e w'=>e= .returned (.bool (insP a l b m))∧Ext w w':=by
 cases hA:(rightB a l&&rightB b m)
 case false=>
  have hs:insP a l b m=false:=by simp[insP,hA]
  rw[hs]
  have hv:=Lib.hid hA
  clear hA hs
  go_enter Tryz.func43,Tryz.ntmps43
  go_wp2_with fail
  refine region_mix (by kernel_rfl) (by kernel_rfl) (fun _ _ d _ _ h=>by cases d<;>exact h) ?_
  repeat(first|((first|refine mix_skip_t rfl rfl rfl (by with_reducible rfl) ?_|refine mix_skip_f rfl rfl rfl (by with_reducible rfl) ?_|refine mix_skip_u rfl rfl rfl (by with_reducible rfl) ?_);simp only[Act.put,List.setIfInBounds_toArray,List.set_cons_zero,List.set_cons_succ])|(apply mix_take;(first|exact want_0 rfl|exact want_b rfl rfl rfl (by with_reducible rfl));intro wq hwq R hR;((have hcc:=(bcell hwq).1;(try simp only[World.size_alloc,World.size_setCell,World.size_drew,World.heap_drewN]at hcc));go_simp;first|exact hR|(fail));simp only[Act.put,List.setIfInBounds_toArray,List.set_cons_zero,List.set_cons_succ]))
  refine mix_alone (by kernel_rfl) (by first|exact want_0 rfl|exact want_b rfl rfl rfl (by with_reducible rfl)) (fun w1 hw1 K hK=>?_)
  obtain⟨hcw1,hfw1⟩:=bcell hw1
  have hzw1:=bsize hw1
  (try simp only[World.size_alloc,World.size_setCell,World.size_drew,World.heap_drewN]at hcw1 hfw1 hzw1)
  (try have l0w1:w.heap.size≤w1.heap.size:=by omega)
  (try have l1w1:w.heap.size < w1.heap.size:=by omega)
  (try have l2w1:w.heap.size+1 < w1.heap.size:=by omega)
  go_simp
  refine hK _ _ (Bel.bel (B:=_) ?_) ?_
  ·(repeat(first|with_reducible assumption|with_reducible exact Bel.refl _|with_reducible refine Bel.alloc ?_ _|with_reducible refine Bel.drewN ?_ _|with_reducible refine Bel.drew ?_|(with_reducible refine Bel.setCell0 ?_ ?_ _;rotate_left;(first|omega|(simp;done)|(simp;omega)))|(with_reducible refine Bel.setCell ?_ (p:=_) ?_ _;rotate_left;(first|(simp;done)|omega|(simp;omega)))|refine Bel.call ?_ (by assumption)|(refine EX.bel ?_ (by assumption) ?_;rotate_left;(first|omega|(simp;omega)))))
  clear hK K
  repeat(first|((first|refine mix_skip_t rfl rfl rfl (by with_reducible rfl) ?_|refine mix_skip_f rfl rfl rfl (by with_reducible rfl) ?_|refine mix_skip_u rfl rfl rfl (by with_reducible rfl) ?_);simp only[Act.put,List.setIfInBounds_toArray,List.set_cons_zero,List.set_cons_succ])|(apply mix_take;(first|exact want_0 rfl|exact want_b rfl rfl rfl (by with_reducible rfl));intro wq hwq R hR;((have hcc:=(bcell hwq).1;(try simp only[World.size_alloc,World.size_setCell,World.size_drew,World.heap_drewN]at hcc));go_simp;first|exact hR|((go_at_call 48;refine mcall (right2 a l b m _ hv.out ?_ ?_ ?_ ?_) hR;go_simp;go_simp;go_simp;go_simp)));simp only[Act.put,List.setIfInBounds_toArray,List.set_cons_zero,List.set_cons_succ]))
  refine mix_nil ?_
  intro w2 hw2
  obtain⟨hcw2,hfw2⟩:=bcell hw2
  have hzw2:=bsize hw2
  (try simp only[World.size_alloc,World.size_setCell,World.size_drew,World.heap_drewN]at hcw2 hfw2 hzw2)
  go_wp2_with fail
  go_ret
  refine⟨rfl,Bel.bel (B:=_) ?_⟩
  (repeat(first|with_reducible assumption|with_reducible exact Bel.refl _|with_reducible refine Bel.alloc ?_ _|with_reducible refine Bel.drewN ?_ _|with_reducible refine Bel.drew ?_|(with_reducible refine Bel.setCell0 ?_ ?_ _;rotate_left;(first|omega|(simp;done)|(simp;omega)))|(with_reducible refine Bel.setCell ?_ (p:=_) ?_ _;rotate_left;(first|(simp;done)|omega|(simp;omega)))|refine Bel.call ?_ (by assumption)|(refine EX.bel ?_ (by assumption) ?_;rotate_left;(first|omega|(simp;omega)))))
 case true=>
  have hA':=hA
  simp only[Bool.and_eq_true]at hA'
  obtain⟨g1,g2,g3,g4,-⟩:=right_bd hA'.1
  obtain⟨k1,k2,k3,k4,-⟩:=right_bd hA'.2
  obtain⟨z1,z2⟩:=msk_bd m k1
  have hv:=Lib.hid hA
  by_cases hm:m≤l
  ·have hs:insP a l b m=(a - a % szI m==b):=by simp[insP,hA,hm]
   rw[hs]
   have han:=andnot_msk a m g3 g4 k1
   have hmI:decide (m≤l)=true:=by simp[hm]
   clear hA hA' hs hm
   cases hE:(a - a % szI m==b)
   all_goals
    go_enter Tryz.func43,Tryz.ntmps43
    go_wp2_with fail
    refine region_mix (by kernel_rfl) (by kernel_rfl) (fun _ _ d _ _ h=>by cases d<;>exact h) ?_
    repeat(first|((first|refine mix_skip_t rfl rfl rfl (by with_reducible rfl) ?_|refine mix_skip_f rfl rfl rfl (by with_reducible rfl) ?_|refine mix_skip_u rfl rfl rfl (by with_reducible rfl) ?_);simp only[Act.put,List.setIfInBounds_toArray,List.set_cons_zero,List.set_cons_succ])|(apply mix_take;(first|exact want_0 rfl|exact want_b rfl rfl rfl (by with_reducible rfl));intro wq hwq R hR;((have hcc:=(bcell hwq).1;(try simp only[World.size_alloc,World.size_setCell,World.size_drew,World.heap_drewN]at hcc));go_simp;first|exact hR|(fail));simp only[Act.put,List.setIfInBounds_toArray,List.set_cons_zero,List.set_cons_succ]))
    refine mix_alone (by kernel_rfl) (by first|exact want_0 rfl|exact want_b rfl rfl rfl (by with_reducible rfl)) (fun w1 hw1 K hK=>?_)
    obtain⟨hcw1,hfw1⟩:=bcell hw1
    have hzw1:=bsize hw1
    (try simp only[World.size_alloc,World.size_setCell,World.size_drew,World.heap_drewN]at hcw1 hfw1 hzw1)
    (try have l0w1:w.heap.size≤w1.heap.size:=by omega)
    (try have l1w1:w.heap.size < w1.heap.size:=by omega)
    (try have l2w1:w.heap.size+1 < w1.heap.size:=by omega)
    go_simp
    refine hK _ _ (Bel.bel (B:=_) ?_) ?_
    ·(repeat(first|with_reducible assumption|with_reducible exact Bel.refl _|with_reducible refine Bel.alloc ?_ _|with_reducible refine Bel.drewN ?_ _|with_reducible refine Bel.drew ?_|(with_reducible refine Bel.setCell0 ?_ ?_ _;rotate_left;(first|omega|(simp;done)|(simp;omega)))|(with_reducible refine Bel.setCell ?_ (p:=_) ?_ _;rotate_left;(first|(simp;done)|omega|(simp;omega)))|refine Bel.call ?_ (by assumption)|(refine EX.bel ?_ (by assumption) ?_;rotate_left;(first|omega|(simp;omega)))))
    clear hK K
    repeat(first|((first|refine mix_skip_t rfl rfl rfl (by with_reducible rfl) ?_|refine mix_skip_f rfl rfl rfl (by with_reducible rfl) ?_|refine mix_skip_u rfl rfl rfl (by with_reducible rfl) ?_);simp only[Act.put,List.setIfInBounds_toArray,List.set_cons_zero,List.set_cons_succ])|(apply mix_take;(first|exact want_0 rfl|exact want_b rfl rfl rfl (by with_reducible rfl));intro wq hwq R hR;((have hcc:=(bcell hwq).1;(try simp only[World.size_alloc,World.size_setCell,World.size_drew,World.heap_drewN]at hcc));go_simp;first|exact hR|(first|(go_at_call 48;refine mcall (right2 a l b m _ hv.out ?_ ?_ ?_ ?_) hR;go_simp;go_simp;go_simp;go_simp)|(go_at_call 49;exact mcall_same (mask_any _ _ k1 k2) hR)));simp only[Act.put,List.setIfInBounds_toArray,List.set_cons_zero,List.set_cons_succ]))
    refine mix_nil ?_
    intro w2 hw2
    obtain⟨hcw2,hfw2⟩:=bcell hw2
    have hzw2:=bsize hw2
    (try simp only[World.size_alloc,World.size_setCell,World.size_drew,World.heap_drewN]at hcw2 hfw2 hzw2)
    go_wp2_with fail
    go_ret
    refine⟨rfl,Bel.bel (B:=_) ?_⟩
    (repeat(first|with_reducible assumption|with_reducible exact Bel.refl _|with_reducible refine Bel.alloc ?_ _|with_reducible refine Bel.drewN ?_ _|with_reducible refine Bel.drew ?_|(with_reducible refine Bel.setCell0 ?_ ?_ _;rotate_left;(first|omega|(simp;done)|(simp;omega)))|(with_reducible refine Bel.setCell ?_ (p:=_) ?_ _;rotate_left;(first|(simp;done)|omega|(simp;omega)))|refine Bel.call ?_ (by assumption)|(refine EX.bel ?_ (by assumption) ?_;rotate_left;(first|omega|(simp;omega)))))
  ·have hs:insP a l b m=false:=by simp[insP,hA,hm]
   rw[hs]
   have hmI:decide (m≤l)=false:=by simp[hm]
   clear hA hA' hs hm
   go_enter Tryz.func43,Tryz.ntmps43
   go_wp2_with fail
   refine region_mix (by kernel_rfl) (by kernel_rfl) (fun _ _ d _ _ h=>by cases d<;>exact h) ?_
   repeat(first|((first|refine mix_skip_t rfl rfl rfl (by with_reducible rfl) ?_|refine mix_skip_f rfl rfl rfl (by with_reducible rfl) ?_|refine mix_skip_u rfl rfl rfl (by with_reducible rfl) ?_);simp only[Act.put,List.setIfInBounds_toArray,List.set_cons_zero,List.set_cons_succ])|(apply mix_take;(first|exact want_0 rfl|exact want_b rfl rfl rfl (by with_reducible rfl));intro wq hwq R hR;((have hcc:=(bcell hwq).1;(try simp only[World.size_alloc,World.size_setCell,World.size_drew,World.heap_drewN]at hcc));go_simp;first|exact hR|(fail));simp only[Act.put,List.setIfInBounds_toArray,List.set_cons_zero,List.set_cons_succ]))
   refine mix_alone (by kernel_rfl) (by first|exact want_0 rfl|exact want_b rfl rfl rfl (by with_reducible rfl)) (fun w1 hw1 K hK=>?_)
   obtain⟨hcw1,hfw1⟩:=bcell hw1
   have hzw1:=bsize hw1
   (try simp only[World.size_alloc,World.size_setCell,World.size_drew,World.heap_drewN]at hcw1 hfw1 hzw1)
   (try have l0w1:w.heap.size≤w1.heap.size:=by omega)
   (try have l1w1:w.heap.size < w1.heap.size:=by omega)
   (try have l2w1:w.heap.size+1 < w1.heap.size:=by omega)
   go_simp
   refine hK _ _ (Bel.bel (B:=_) ?_) ?_
   ·(repeat(first|with_reducible assumption|with_reducible exact Bel.refl _|with_reducible refine Bel.alloc ?_ _|with_reducible refine Bel.drewN ?_ _|with_reducible refine Bel.drew ?_|(with_reducible refine Bel.setCell0 ?_ ?_ _;rotate_left;(first|omega|(simp;done)|(simp;omega)))|(with_reducible refine Bel.setCell ?_ (p:=_) ?_ _;rotate_left;(first|(simp;done)|omega|(simp;omega)))|refine Bel.call ?_ (by assumption)|(refine EX.bel ?_ (by assumption) ?_;rotate_left;(first|omega|(simp;omega)))))
   clear hK K
   repeat(first|((first|refine mix_skip_t rfl rfl rfl (by with_reducible rfl) ?_|refine mix_skip_f rfl rfl rfl (by with_reducible rfl) ?_|refine mix_skip_u rfl rfl rfl (by with_reducible rfl) ?_);simp only[Act.put,List.setIfInBounds_toArray,List.set_cons_zero,List.set_cons_succ])|(apply mix_take;(first|exact want_0 rfl|exact want_b rfl rfl rfl (by with_reducible rfl));intro wq hwq R hR;((have hcc:=(bcell hwq).1;(try simp only[World.size_alloc,World.size_setCell,World.size_drew,World.heap_drewN]at hcc));go_simp;first|exact hR|((go_at_call 48;refine mcall (right2 a l b m _ hv.out ?_ ?_ ?_ ?_) hR;go_simp;go_simp;go_simp;go_simp)));simp only[Act.put,List.setIfInBounds_toArray,List.set_cons_zero,List.set_cons_succ]))
   refine mix_nil ?_
   intro w2 hw2
   obtain⟨hcw2,hfw2⟩:=bcell hw2
   have hzw2:=bsize hw2
   (try simp only[World.size_alloc,World.size_setCell,World.size_drew,World.heap_drewN]at hcw2 hfw2 hzw2)
   go_wp2_with fail
   go_ret
   refine⟨rfl,Bel.bel (B:=_) ?_⟩
   (repeat(first|with_reducible assumption|with_reducible exact Bel.refl _|with_reducible refine Bel.alloc ?_ _|with_reducible refine Bel.drewN ?_ _|with_reducible refine Bel.drew ?_|(with_reducible refine Bel.setCell0 ?_ ?_ _;rotate_left;(first|omega|(simp;done)|(simp;omega)))|(with_reducible refine Bel.setCell ?_ (p:=_) ?_ _;rotate_left;(first|(simp;done)|omega|(simp;omega)))|refine Bel.call ?_ (by assumption)|(refine EX.bel ?_ (by assumption) ?_;rotate_left;(first|omega|(simp;omega)))))
end
section
open Go.Proofs
def holdP (a l x:Int):Bool:=rightB a l&&(decide (0≤x)&&(decide (x≤65535)&&(x - x % szI l==a)))
theorem holds_any (a l x:Int)(w:World):
 Calls Tryz.prog 25 #[.agg #[.int .i64 a,.int .i64 l],.int .i64 x] w fun e w'=>e= .returned (.bool (holdP a l x))∧Ext w w':=by
 cases hA:rightB a l
 case false=>
  have hs:holdP a l x=false:=by simp[holdP,hA]
  rw[hs]
  have hv:=Lib.hid hA
  clear hA hs
  go_enter Tryz.func25,Tryz.ntmps25
  go_wp2_with fail
  refine region_mix (by kernel_rfl) (by kernel_rfl) (fun _ _ d _ _ h=>by cases d<;>exact h) ?_
  repeat(first|((first|refine mix_skip_t rfl rfl rfl (by with_reducible rfl) ?_|refine mix_skip_f rfl rfl rfl (by with_reducible rfl) ?_|refine mix_skip_u rfl rfl rfl (by with_reducible rfl) ?_);simp only[Act.put,List.setIfInBounds_toArray,List.set_cons_zero,List.set_cons_succ])|(apply mix_take;(first|exact want_0 rfl|exact want_b rfl rfl rfl (by with_reducible rfl));intro wq hwq R hR;((have hcc:=(bcell hwq).1;(try simp only[World.size_alloc,World.size_setCell,World.size_drew,World.heap_drewN]at hcc));go_simp;first|exact hR|(fail));simp only[Act.put,List.setIfInBounds_toArray,List.set_cons_zero,List.set_cons_succ]))
  refine mix_alone (by kernel_rfl) (by first|exact want_0 rfl|exact want_b rfl rfl rfl (by with_reducible rfl)) (fun w1 hw1 K hK=>?_)
  obtain⟨hcw1,hfw1⟩:=bcell hw1
  have hzw1:=bsize hw1
  (try simp only[World.size_alloc,World.size_setCell,World.size_drew,World.heap_drewN]at hcw1 hfw1 hzw1)
  (try have l0w1:w.heap.size≤w1.heap.size:=by omega)
  (try have l1w1:w.heap.size < w1.heap.size:=by omega)
  (try have l2w1:w.heap.size+1 < w1.heap.size:=by omega)
  go_simp
  refine hK _ _ (Bel.bel (B:=_) ?_) ?_
  ·(repeat(first|with_reducible assumption|with_reducible exact Bel.refl _|with_reducible refine Bel.alloc ?_ _|with_reducible refine Bel.drewN ?_ _|with_reducible refine Bel.drew ?_|(with_reducible refine Bel.setCell0 ?_ ?_ _;rotate_left;(first|omega|(simp;done)|(simp;omega)))|(with_reducible refine Bel.setCell ?_ (p:=_) ?_ _;rotate_left;(first|(simp;done)|omega|(simp;omega)))|refine Bel.call ?_ (by assumption)|(refine EX.bel ?_ (by assumption) ?_;rotate_left;(first|omega|(simp;omega)))))
  clear hK K
  repeat(first|((first|refine mix_skip_t rfl rfl rfl (by with_reducible rfl) ?_|refine mix_skip_f rfl rfl rfl (by with_reducible rfl) ?_|refine mix_skip_u rfl rfl rfl (by with_reducible rfl) ?_);simp only[Act.put,List.setIfInBounds_toArray,List.set_cons_zero,List.set_cons_succ])|(apply mix_take;(first|exact want_0 rfl|exact want_b rfl rfl rfl (by with_reducible rfl));intro wq hwq R hR;((have hcc:=(bcell hwq).1;(try simp only[World.size_alloc,World.size_setCell,World.size_drew,World.heap_drewN]at hcc));go_simp;first|exact hR|((go_at_call 48;refine mcall (right1 a l _ hv.out ?_ ?_) hR;go_simp;go_simp)));simp only[Act.put,List.setIfInBounds_toArray,List.set_cons_zero,List.set_cons_succ]))
  refine mix_nil ?_
  intro w2 hw2
  obtain⟨hcw2,hfw2⟩:=bcell hw2
  have hzw2:=bsize hw2
  (try simp only[World.size_alloc,World.size_setCell,World.size_drew,World.heap_drewN]at hcw2 hfw2 hzw2)
  go_wp2_with fail
  go_ret
  refine⟨rfl,Bel.bel (B:=_) ?_⟩
  (repeat(first|with_reducible assumption|with_reducible exact Bel.refl _|with_reducible refine Bel.alloc ?_ _|with_reducible refine Bel.drewN ?_ _|with_reducible refine Bel.drew ?_|(with_reducible refine Bel.setCell0 ?_ ?_ _;rotate_left;(first|omega|(simp;done)|(simp;omega)))|(with_reducible refine Bel.setCell ?_ (p:=_) ?_ _;rotate_left;(first|(simp;done)|omega|(simp;omega)))|refine Bel.call ?_ (by assumption)|(refine EX.bel ?_ (by assumption) ?_;rotate_left;(first|omega|(simp;omega)))))
 case true=>
  obtain⟨g1,g2,g3,g4,-⟩:=right_bd hA
  obtain⟨z1,z2⟩:=msk_bd l g1
  have hv:=Lib.hid hA
  by_cases h0:0≤x
  ·by_cases h1:x≤65535
   ·have hs:holdP a l x=(x - x % szI l==a):=by simp[holdP,hA,h0,h1]
    rw[hs]
    have han:=andnot_msk x l h0 h1 g1
    have h0I:decide (0≤x)=true:=by simp[h0]
    have h1I:decide (x≤65535)=true:=by simp[h1]
    clear hA hs
    cases hE:(x - x % szI l==a)
    all_goals
     go_enter Tryz.func25,Tryz.ntmps25
     go_wp2_with fail
     refine region_mix (by kernel_rfl) (by kernel_rfl) (fun _ _ d _ _ h=>by cases d<;>exact h) ?_
     repeat(first|((first|refine mix_skip_t rfl rfl rfl (by with_reducible rfl) ?_|refine mix_skip_f rfl rfl rfl (by with_reducible rfl) ?_|refine mix_skip_u rfl rfl rfl (by with_reducible rfl) ?_);simp only[Act.put,List.setIfInBounds_toArray,List.set_cons_zero,List.set_cons_succ])|(apply mix_take;(first|exact want_0 rfl|exact want_b rfl rfl rfl (by with_reducible rfl));intro wq hwq R hR;((have hcc:=(bcell hwq).1;(try simp only[World.size_alloc,World.size_setCell,World.size_drew,World.heap_drewN]at hcc));go_simp;first|exact hR|(fail));simp only[Act.put,List.setIfInBounds_toArray,List.set_cons_zero,List.set_cons_succ]))
     refine mix_alone (by kernel_rfl) (by first|exact want_0 rfl|exact want_b rfl rfl rfl (by with_reducible rfl)) (fun w1 hw1 K hK=>?_)
     obtain⟨hcw1,hfw1⟩:=bcell hw1
     have hzw1:=bsize hw1
     (try simp only[World.size_alloc,World.size_setCell,World.size_drew,World.heap_drewN]at hcw1 hfw1 hzw1)
     (try have l0w1:w.heap.size≤w1.heap.size:=by omega)
     (try have l1w1:w.heap.size < w1.heap.size:=by omega)
     (try have l2w1:w.heap.size+1 < w1.heap.size:=by omega)
     go_simp
     refine hK _ _ (Bel.bel (B:=_) ?_) ?_
     ·(repeat(first|with_reducible assumption|with_reducible exact Bel.refl _|with_reducible refine Bel.alloc ?_ _|with_reducible refine Bel.drewN ?_ _|with_reducible refine Bel.drew ?_|(with_reducible refine Bel.setCell0 ?_ ?_ _;rotate_left;(first|omega|(simp;done)|(simp;omega)))|(with_reducible refine Bel.setCell ?_ (p:=_) ?_ _;rotate_left;(first|(simp;done)|omega|(simp;omega)))|refine Bel.call ?_ (by assumption)|(refine EX.bel ?_ (by assumption) ?_;rotate_left;(first|omega|(simp;omega)))))
     clear hK K
     repeat(first|((first|refine mix_skip_t rfl rfl rfl (by with_reducible rfl) ?_|refine mix_skip_f rfl rfl rfl (by with_reducible rfl) ?_|refine mix_skip_u rfl rfl rfl (by with_reducible rfl) ?_);simp only[Act.put,List.setIfInBounds_toArray,List.set_cons_zero,List.set_cons_succ])|(apply mix_take;(first|exact want_0 rfl|exact want_b rfl rfl rfl (by with_reducible rfl));intro wq hwq R hR;((have hcc:=(bcell hwq).1;(try simp only[World.size_alloc,World.size_setCell,World.size_drew,World.heap_drewN]at hcc));go_simp;first|exact hR|(first|(go_at_call 48;refine mcall (right1 a l _ hv.out ?_ ?_) hR;go_simp;go_simp)|(go_at_call 49;exact mcall_same (mask_any _ _ g1 g2) hR)));simp only[Act.put,List.setIfInBounds_toArray,List.set_cons_zero,List.set_cons_succ]))
     refine mix_nil ?_
     intro w2 hw2
     obtain⟨hcw2,hfw2⟩:=bcell hw2
     have hzw2:=bsize hw2
     (try simp only[World.size_alloc,World.size_setCell,World.size_drew,World.heap_drewN]at hcw2 hfw2 hzw2)
     go_wp2_with fail
     go_ret
     refine⟨rfl,Bel.bel (B:=_) ?_⟩
     (repeat(first|with_reducible assumption|with_reducible exact Bel.refl _|with_reducible refine Bel.alloc ?_ _|with_reducible refine Bel.drewN ?_ _|with_reducible refine Bel.drew ?_|(with_reducible refine Bel.setCell0 ?_ ?_ _;rotate_left;(first|omega|(simp;done)|(simp;omega)))|(with_reducible refine Bel.setCell ?_ (p:=_) ?_ _;rotate_left;(first|(simp;done)|omega|(simp;omega)))|refine Bel.call ?_ (by assumption)|(refine EX.bel ?_ (by assumption) ?_;rotate_left;(first|omega|(simp;omega)))))
   ·have hs:holdP a l x=false:=by simp[holdP,h1]
    rw[hs]
    have h0I:decide (0≤x)=true:=by simp[h0]
    have h1I:decide (x≤65535)=false:=by simp[h1]
    clear hA hs h1
    go_enter Tryz.func25,Tryz.ntmps25
    go_wp2_with fail
    refine region_mix (by kernel_rfl) (by kernel_rfl) (fun _ _ d _ _ h=>by cases d<;>exact h) ?_
    repeat(first|((first|refine mix_skip_t rfl rfl rfl (by with_reducible rfl) ?_|refine mix_skip_f rfl rfl rfl (by with_reducible rfl) ?_|refine mix_skip_u rfl rfl rfl (by with_reducible rfl) ?_);simp only[Act.put,List.setIfInBounds_toArray,List.set_cons_zero,List.set_cons_succ])|(apply mix_take;(first|exact want_0 rfl|exact want_b rfl rfl rfl (by with_reducible rfl));intro wq hwq R hR;((have hcc:=(bcell hwq).1;(try simp only[World.size_alloc,World.size_setCell,World.size_drew,World.heap_drewN]at hcc));go_simp;first|exact hR|(fail));simp only[Act.put,List.setIfInBounds_toArray,List.set_cons_zero,List.set_cons_succ]))
    refine mix_alone (by kernel_rfl) (by first|exact want_0 rfl|exact want_b rfl rfl rfl (by with_reducible rfl)) (fun w1 hw1 K hK=>?_)
    obtain⟨hcw1,hfw1⟩:=bcell hw1
    have hzw1:=bsize hw1
    (try simp only[World.size_alloc,World.size_setCell,World.size_drew,World.heap_drewN]at hcw1 hfw1 hzw1)
    (try have l0w1:w.heap.size≤w1.heap.size:=by omega)
    (try have l1w1:w.heap.size < w1.heap.size:=by omega)
    (try have l2w1:w.heap.size+1 < w1.heap.size:=by omega)
    go_simp
    refine hK _ _ (Bel.bel (B:=_) ?_) ?_
    ·(repeat(first|with_reducible assumption|with_reducible exact Bel.refl _|with_reducible refine Bel.alloc ?_ _|with_reducible refine Bel.drewN ?_ _|with_reducible refine Bel.drew ?_|(with_reducible refine Bel.setCell0 ?_ ?_ _;rotate_left;(first|omega|(simp;done)|(simp;omega)))|(with_reducible refine Bel.setCell ?_ (p:=_) ?_ _;rotate_left;(first|(simp;done)|omega|(simp;omega)))|refine Bel.call ?_ (by assumption)|(refine EX.bel ?_ (by assumption) ?_;rotate_left;(first|omega|(simp;omega)))))
    clear hK K
    repeat(first|((first|refine mix_skip_t rfl rfl rfl (by with_reducible rfl) ?_|refine mix_skip_f rfl rfl rfl (by with_reducible rfl) ?_|refine mix_skip_u rfl rfl rfl (by with_reducible rfl) ?_);simp only[Act.put,List.setIfInBounds_toArray,List.set_cons_zero,List.set_cons_succ])|(apply mix_take;(first|exact want_0 rfl|exact want_b rfl rfl rfl (by with_reducible rfl));intro wq hwq R hR;((have hcc:=(bcell hwq).1;(try simp only[World.size_alloc,World.size_setCell,World.size_drew,World.heap_drewN]at hcc));go_simp;first|exact hR|((go_at_call 48;refine mcall (right1 a l _ hv.out ?_ ?_) hR;go_simp;go_simp)));simp only[Act.put,List.setIfInBounds_toArray,List.set_cons_zero,List.set_cons_succ]))
    refine mix_nil ?_
    intro w2 hw2
    obtain⟨hcw2,hfw2⟩:=bcell hw2
    have hzw2:=bsize hw2
    (try simp only[World.size_alloc,World.size_setCell,World.size_drew,World.heap_drewN]at hcw2 hfw2 hzw2)
    go_wp2_with fail
    go_ret
    refine⟨rfl,Bel.bel (B:=_) ?_⟩
    (repeat(first|with_reducible assumption|with_reducible exact Bel.refl _|with_reducible refine Bel.alloc ?_ _|with_reducible refine Bel.drewN ?_ _|with_reducible refine Bel.drew ?_|(with_reducible refine Bel.setCell0 ?_ ?_ _;rotate_left;(first|omega|(simp;done)|(simp;omega)))|(with_reducible refine Bel.setCell ?_ (p:=_) ?_ _;rotate_left;(first|(simp;done)|omega|(simp;omega)))|refine Bel.call ?_ (by assumption)|(refine EX.bel ?_ (by assumption) ?_;rotate_left;(first|omega|(simp;omega)))))
  ·have hs:holdP a l x=false:=by simp[holdP,h0]
   rw[hs]
   have h0I:decide (0≤x)=false:=by simp[h0]
   clear hA hs h0
   go_enter Tryz.func25,Tryz.ntmps25
   go_wp2_with fail
   refine region_mix (by kernel_rfl) (by kernel_rfl) (fun _ _ d _ _ h=>by cases d<;>exact h) ?_
   repeat(first|((first|refine mix_skip_t rfl rfl rfl (by with_reducible rfl) ?_|refine mix_skip_f rfl rfl rfl (by with_reducible rfl) ?_|refine mix_skip_u rfl rfl rfl (by with_reducible rfl) ?_);simp only[Act.put,List.setIfInBounds_toArray,List.set_cons_zero,List.set_cons_succ])|(apply mix_take;(first|exact want_0 rfl|exact want_b rfl rfl rfl (by with_reducible rfl));intro wq hwq R hR;((have hcc:=(bcell hwq).1;(try simp only[World.size_alloc,World.size_setCell,World.size_drew,World.heap_drewN]at hcc));go_simp;first|exact hR|(fail));simp only[Act.put,List.setIfInBounds_toArray,List.set_cons_zero,List.set_cons_succ]))
   refine mix_alone (by kernel_rfl) (by first|exact want_0 rfl|exact want_b rfl rfl rfl (by with_reducible rfl)) (fun w1 hw1 K hK=>?_)
   obtain⟨hcw1,hfw1⟩:=bcell hw1
   have hzw1:=bsize hw1
   (try simp only[World.size_alloc,World.size_setCell,World.size_drew,World.heap_drewN]at hcw1 hfw1 hzw1)
   (try have l0w1:w.heap.size≤w1.heap.size:=by omega)
   (try have l1w1:w.heap.size < w1.heap.size:=by omega)
   (try have l2w1:w.heap.size+1 < w1.heap.size:=by omega)
   go_simp
   refine hK _ _ (Bel.bel (B:=_) ?_) ?_
   ·(repeat(first|with_reducible assumption|with_reducible exact Bel.refl _|with_reducible refine Bel.alloc ?_ _|with_reducible refine Bel.drewN ?_ _|with_reducible refine Bel.drew ?_|(with_reducible refine Bel.setCell0 ?_ ?_ _;rotate_left;(first|omega|(simp;done)|(simp;omega)))|(with_reducible refine Bel.setCell ?_ (p:=_) ?_ _;rotate_left;(first|(simp;done)|omega|(simp;omega)))|refine Bel.call ?_ (by assumption)|(refine EX.bel ?_ (by assumption) ?_;rotate_left;(first|omega|(simp;omega)))))
   clear hK K
   repeat(first|((first|refine mix_skip_t rfl rfl rfl (by with_reducible rfl) ?_|refine mix_skip_f rfl rfl rfl (by with_reducible rfl) ?_|refine mix_skip_u rfl rfl rfl (by with_reducible rfl) ?_);simp only[Act.put,List.setIfInBounds_toArray,List.set_cons_zero,List.set_cons_succ])|(apply mix_take;(first|exact want_0 rfl|exact want_b rfl rfl rfl (by with_reducible rfl));intro wq hwq R hR;((have hcc:=(bcell hwq).1;(try simp only[World.size_alloc,World.size_setCell,World.size_drew,World.heap_drewN]at hcc));go_simp;first|exact hR|((go_at_call 48;refine mcall (right1 a l _ hv.out ?_ ?_) hR;go_simp;go_simp)));simp only[Act.put,List.setIfInBounds_toArray,List.set_cons_zero,List.set_cons_succ]))
   refine mix_nil ?_
   intro w2 hw2
   obtain⟨hcw2,hfw2⟩:=bcell hw2
   have hzw2:=bsize hw2
   (try simp only[World.size_alloc,World.size_setCell,World.size_drew,World.heap_drewN]at hcw2 hfw2 hzw2)
   go_wp2_with fail
   go_ret
   refine⟨rfl,Bel.bel (B:=_) ?_⟩
   (repeat(first|with_reducible assumption|with_reducible exact Bel.refl _|with_reducible refine Bel.alloc ?_ _|with_reducible refine Bel.drewN ?_ _|with_reducible refine Bel.drew ?_|(with_reducible refine Bel.setCell0 ?_ ?_ _;rotate_left;(first|omega|(simp;done)|(simp;omega)))|(with_reducible refine Bel.setCell ?_ (p:=_) ?_ _;rotate_left;(first|(simp;done)|omega|(simp;omega)))|refine Bel.call ?_ (by assumption)|(refine EX.bel ?_ (by assumption) ?_;rotate_left;(first|omega|(simp;omega)))))
def meetP (a l b m:Int):Bool:=insP a l b m||insP b m a l
theorem meets_any (a l b m:Int)(w:World):
 Calls Tryz.prog 19 #[.agg #[.int .i64 a,.int .i64 l],.agg #[.int .i64 b,.int .i64 m]] w fun e w'=>e= .returned (.bool (meetP a l b m))∧Ext w w':=by
 unfold meetP
 cases hA:insP a l b m
 case true=>
  have hc:=inside_any a l b m
  rw[hA]at hc
  replace hc:=Lib.hid hc
  clear hA
  go_enter Tryz.func19,Tryz.ntmps19
  go_wp2_with fail
  refine(hc.out _).mono ?_
  rintro e w1 ⟨rfl,hw1⟩
  obtain⟨hcw1,hfw1⟩:=bcell hw1
  have hzw1:=bsize hw1
  (try simp only[World.size_alloc,World.size_setCell,World.size_drew,World.heap_drewN]at hcw1 hfw1 hzw1)
  go_wp2_with fail
  go_ret
  refine⟨rfl,Bel.bel (B:=_) ?_⟩
  (repeat(first|with_reducible assumption|with_reducible exact Bel.refl _|with_reducible refine Bel.alloc ?_ _|with_reducible refine Bel.drewN ?_ _|with_reducible refine Bel.drew ?_|(with_reducible refine Bel.setCell0 ?_ ?_ _;rotate_left;(first|omega|(simp;done)|(simp;omega)))|(with_reducible refine Bel.setCell ?_ (p:=_) ?_ _;rotate_left;(first|(simp;done)|omega|(simp;omega)))|refine Bel.call ?_ (by assumption)|(refine EX.bel ?_ (by assumption) ?_;rotate_left;(first|omega|(simp;omega)))))
 case false=>
  have hc:=inside_any a l b m
  rw[hA]at hc
  replace hc:=Lib.hid hc
  clear hA
  obtain⟨r,hr⟩:∃r,r=insP b m a l:=⟨_,rfl⟩
  have hd:=inside_any b m a l
  rw[←hr]at hd ⊢
  clear hr
  replace hd:=Lib.hid hd
  go_enter Tryz.func19,Tryz.ntmps19
  go_wp2_with fail
  refine(hc.out _).mono ?_
  rintro e w1 ⟨rfl,hw1⟩
  obtain⟨hcw1,hfw1⟩:=bcell hw1
  have hzw1:=bsize hw1
  (try simp only[World.size_alloc,World.size_setCell,World.size_drew,World.heap_drewN]at hcw1 hfw1 hzw1)
  go_wp2_with fail
  refine(hd.out _).mono ?_
  rintro e w2 ⟨rfl,hw2⟩
  obtain⟨hcw2,hfw2⟩:=bcell hw2
  have hzw2:=bsize hw2
  (try simp only[World.size_alloc,World.size_setCell,World.size_drew,World.heap_drewN]at hcw2 hfw2 hzw2)
  go_wp2_with fail
  go_ret
  refine⟨rfl,Bel.bel (B:=_) ?_⟩
  (repeat(first|with_reducible assumption|with_reducible exact Bel.refl _|with_reducible refine Bel.alloc ?_ _|with_reducible refine Bel.drewN ?_ _|with_reducible refine Bel.drew ?_|(with_reducible refine Bel.setCell0 ?_ ?_ _;rotate_left;(first|omega|(simp;done)|(simp;omega)))|(with_reducible refine Bel.setCell ?_ (p:=_) ?_ _;rotate_left;(first|(simp;done)|omega|(simp;omega)))|refine Bel.call ?_ (by assumption)|(refine EX.bel ?_ (by assumption) ?_;rotate_left;(first|omega|(simp;omega)))))
end
theorem check_p (p:Pfx):PSpec Tryz.prog 114 [.agg (encP p)] (.v (.int .i64 (chk p.at_ p.len))):=pspec_flat (fnok_of Tryz.func114 (by kernel_rfl) rfl) (by intro d hd;simp at hd;(repeat(first|(obtain rfl:=hd;rfl)|(rcases hd with rfl|hd; · rfl)))) rfl rfl (fun w=>check_any _ _ _)
theorem size_p (p:Pfx):PSpec Tryz.prog 176 [.agg (encP p)] (.v (.int .i64 (sizeI p.at_ p.len))):=pspec_flat (fnok_of Tryz.func176 (by kernel_rfl) rfl) (by intro d hd;simp at hd;(repeat(first|(obtain rfl:=hd;rfl)|(rcases hd with rfl|hd; · rfl)))) rfl rfl (fun w=>size_any _ _ _)
theorem inside_p (p q:Pfx):PSpec Tryz.prog 43 [.agg (encP p),.agg (encP q)] (.v (.bool (insP p.at_ p.len q.at_ q.len))):=pspec_flat (fnok_of Tryz.func43 (by kernel_rfl) rfl) (by intro d hd;simp at hd;(repeat(first|(obtain rfl:=hd;rfl)|(rcases hd with rfl|hd; · rfl)))) rfl rfl (fun w=>inside_any _ _ _ _ _)
theorem meets_p (p q:Pfx):PSpec Tryz.prog 19 [.agg (encP p),.agg (encP q)] (.v (.bool (meetP p.at_ p.len q.at_ q.len))):=pspec_flat (fnok_of Tryz.func19 (by kernel_rfl) rfl) (by intro d hd;simp at hd;(repeat(first|(obtain rfl:=hd;rfl)|(rcases hd with rfl|hd; · rfl)))) rfl rfl (fun w=>meets_any _ _ _ _ _)
end Go.Proofs.YtmicljipaiohkaaGreat
