/- Texts of this work, joined. -/
import Derived.Test.YtojojebildofnaaGreatDoorZHDeskKept1
import Derived.Maps.RangeRun
import Derived.Laws.IdiomRangeMap
import Derived.WalkMore
import Derived.Laws.BytesArg
import Derived.Deep.LoopGhost
import Derived.Deep.RegionHeld3
set_option linter.unusedSimpArgs false
set_option linter.unusedVariables false
set_option maxRecDepth 100000
set_option maxHeartbeats 16000000
namespace Go.Proofs.YtojojebildofnaaGreatDoor
open Go Go.RowKit Go.Proofs.Tryz
open _root_.List renaming getElem?_eq_getElem → VY, mem_of_getElem? → V0, map_cons → V1, length_take → V2, getElem?_eq_some_iff → V3, take_length → V4, map_nil → V5, map_append → V6, getElem?_map → V7, setIfInBounds_toArray → V8, length_append → V9, length_cons → Wc, length_map → Wg, set_cons_zero → Wi, take_of_length_le → Wj, set_cons_succ → Wl, getElem?_eq_none → Wm, getElem?_take_of_lt → Wo, mem_map → Wp, getElem?_append_right → Wq, length_drop → Wt, getD_eq_getElem?_getD → Ww, all_eq_true → Wx, replicate → Wy, eq_nil_of_length_eq_zero → WA, range → WC, append_assoc → WE, findIdx?_eq_some_iff_getElem → WF, cons_append → WH, mem_cons → WI, mem_append → WJ, getElem?_append_left → WK, mem_of_mem_drop → WL, length_nil → WM, mem_of_mem_take → WN, nil_append → WO, mem_singleton → WP, ext_getElem? → WS, getElem?_drop → WU, append_nil → WV, take_append_of_le_length → WY, getElem_mem → W8, mem_iff_getElem → W9, size_toArray → Xb, getElem?_cons_succ → Xg, mem_range → Xk, findIdx?_eq_none_iff → Xm, map_congr_left → Xr, any_eq_false → Xu, drop_eq_getElem_cons → Xv, pairwise_cons → Xz, mem_map_of_mem → XC, set_append_right → XD, take_append_drop → XE, take_zero → XH, any_eq_true → XK, flatMap_append → XL, length_pos_iff → XM, map_take → XS, take_succ_eq_append_getElem → XT, all_eq_false → X6, take_succ_cons → Yd, drop_length → Yi, eraseIdx_eq_take_drop_succ → Yv, getElem?_range → Yw, map_map → Yz, length_set → YB, getElem_take → YE, range_succ → YT, filter_append → YU
open Go.Lib renaming hid → VZ
open _root_.Nat renaming le_refl → Wa, zero_add → Wn, zero_le → Wr, reduceAdd → Ws, lt_or_ge → Wv, add_zero → Wz, mul_le_mul_right → WX, sub_zero → WZ, lt_of_lt_of_le → W4, le_trans → W6, sub_self → Xy, add_assoc → XI, not_lt_zero → XW, lt_trichotomy → X8, zero_lt_succ → Yh, eq_zero_or_pos → Yk, reduceLT → Ys, le_of_lt → YM
open Go.World renaming size_alloc → Wb, heap_drewN → We, size_drew → Wf, cell? → Xl, cell?_of_block → XR, ownsRow_nil → YV
open _root_.Bool renaming and_eq_true → Wd, and_self → WW, and_true → Xa, eq_iff_iff → Xh, true_and → Xt, false_eq_true → XF, or_eq_false_iff → Yr, eq_false_iff → Yt, false_and → YG
open _root_.Option renaming map_eq_some_iff → Wh, isSome_some → Wk, some → WD, map_some → WQ, getD_some → Xc, isSome_none → Xi, bind_some → Xn, isSome_iff_exists → XZ, map_none → Yb
open _root_.Array renaming getElem?_toList → WB, getElem?_eq_none → WT, getD_eq_getD_getElem? → W3, getElem?_eq_some_iff → W5, getElem?_eq_getElem → Xj, replicate → XB, ext' → YA
open _root_.Int renaming lt_irrefl → Xp, eq_ofNat_of_zero_le → X7, dvd_of_emod_eq_zero → Ya, pow_succ → Zc
open _root_.ByteArray renaming size_extract → Xx, ext → Yg, toList_eq → YP
theorem mb (s:Bool):∀(l:List (List Int × Int)) (j i:Nat),(aU s l j)[i]? =(l[i]?).map fun kv=>{key:=f6 s kv.1,val:= .int .i64 kv.2,born:=j+i}
 |[],j,i=>by simp[aU]
 |(k,v)::l,j,0=>by simp[aU]
 |(k,v)::l,j,i+1=>by
  simp only[aU,Xg];rw[mb s l (j+1) i];simp only[show j+1+i=j+(i+1) by omega]
theorem ir (s:Bool):∀(l:List (List Int × Int)) (j:Nat),∀x∈aU s l j,j≤x.born∧x.born < j+l.length
 |[],j,x,hx=>by simp[aU]at hx
 |(k,v)::l,j,x,hx=>by
  simp only[aU,WI]at hx;rcases hx with rfl|hx
  ·simp
  ·have:=ir s l (j+1) x hx;simp only[Wc];omega
theorem nu (s:Bool):∀(l:List (List Int × Int)) (j:Nat),((aU s l j).map (·.born)).Nodup
 |[],j=>by simp[aU]
 |(k,v)::l,j=>by
  simp only[aU,V1,List.nodup_cons,Wp,not_exists,not_and];exact⟨fun x hx e=>by have:=(ir s l (j+1) x hx).1;omega,nu s l (j+1)⟩
theorem RealC.range {X:Cfg}{s:FS}{a:Act}{w:World}{c:Cx}(h:RealC X s a w c){k nk n b:Nat}{sB:Bool}{ents:List (List Int × Int)}(hk:s.heap k= .mp n sB ents)(Qs:s.heap nk= .none)(Gc:¬nk < X.m)(hb:c.bl k=some b)(hh:w.heap[b]? =some (.map (aU sB ents 0).toArray ents.length)):
 ∃c',RealC X {s with heap:=bS [(nk,.it n sB ents []),(k,.gone)] s.heap} a (w.alloc (.mapIter (some b) ents.length #[] ents.length)) c'∧RepP c' (w.alloc (.mapIter (some b) ents.length #[] ents.length)) (.ptr nk 0) (.pointer (some ⟨w.heap.size,0,none⟩)):=by
 have h1:=h.freeze [k];have bq:nk≠k:=fun e=>by rw[e,hk]at Qs;cases Qs
 have Qt:bS ([k].map fun k=>(k,Chunk.gone)) s.heap nk= .none:=by
  simp only[V1,V5,bS,if_neg bq];exact Qs
 have bn:=h1.chunk nk;simp only at bn;rw[Qt]at bn;have hlt:b < w.heap.size:=(W5.1 hh).1;cases bn with
 |none Eg Qh=>
  have hx:=gp w (.mapIter (some b) ents.length #[] ents.length);have cR:(fun k'=>if k'=nk then some w.heap.size else c.bl k') nk=some w.heap.size:=if_pos rfl;refine⟨{M:=fun b=>jz c s.heap [k] b∨b=w.heap.size,bl:=fun k'=>if k'=nk then some w.heap.size else c.bl k',ov:=c.ov},?_,.ptr nk 0 _ cR⟩;refine h1.new_chunk (ch:= .it n sB ents []) Qt Gc hx ⟨fun k' b hb=>?_,fun _ _ _ h=>h⟩ (fun k' bq=>if_neg bq) (fun _ _=>rfl) (fun b=>?_) (fun b hb=>?_) (fun lM=>?_)
  ·have:k'≠nk:=fun e=>by subst e;rw[Eg]at hb;cases hb
   show (if k'=nk then some w.heap.size else c.bl k')=some b;rw[if_neg this];exact hb
  ·simp only[Cx.block,if_true,WD.injEq];exact⟨fun h=>h.imp id Eq.symm,fun h=>h.imp id Eq.symm⟩
  ·simp only[Cx.block,if_true,WD.injEq]at hb;rw[size_alloc];omega
  ·refine .it n sB ents [] w.heap.size b cR (gL w _) (fun hM=>?_) (by rw[hx.block b hlt];exact hh);rcases hM with hM|hM
   ·exact hM.2 k (by simp) (by rw[hk];exact hb)
   ·omega
section
variable {X:Cfg}{ops:Array Oper}{s:FS}{o:Oper}(hd:∀d,o.dst=some d→d < X.n)
include hd
theorem Hc {t k nk n:Nat}{sB:Bool}{m:Operand}{ents:List (List Int × Int)}(ho:o.op= .range t m)(hm:MapOK X.P t n sB)(Qn:ev s m= .mref k)(hk:s.heap k= .mp n sB ents)(Qs:s.heap nk= .none)(rz:¬nk < X.m):
 bj X ops s o {pv:= .ptr nk 0,eff:=[(nk,.it n sB ents []),(k,.gone)],touch:=[k,nk]}:=
 cT hd (fun kc h=>by simp at h;rcases h with rfl|rfl<;>simp) fun s' he fj a w c hc=>by
  have e1:=bo hc m;rw[he m (by simp[ho,Op.operands]),Qn]at e1;have hk':s'.heap k= .mp n sB ents:=by rw[fj k (by simp)];exact hk
  have bn:=hc.chunk k;rw[hk']at bn;generalize hu:a.eval m=u at e1;cases e1 with
  |mref _ b hb=>
   cases bn with
   |mp _ _ _ b' hb' hh hn=>
    rw[hb]at hb';cases hb';obtain⟨c',h1,h2⟩:=hc.range hk' (by rw[fj nk (by simp)];exact Qs) rz hb hh;obtain⟨kt,et,i,UC,-⟩:=hm;refine⟨_,_,_,?_,.inl rfl,c',h1,h2⟩;simp only[execOp,ho,hu];rw[Sem.run_bind,run_range_map w t kt et b _ _ UC hh];rfl
theorem He {k n i:Nat}{sB:Bool}{x:Operand}{ents:List (List Int × Int)}{seen:List Nat}{kv:List Int × Int}(ho:o.op= .entry x)(hx:ev s x= .ptr k 0)(hk:s.heap k= .it n sB ents seen)(hl:seen.getLast? =some i)(hi:ents[i]? =some kv):
 bj X ops s o {pv:= .tup [.any,.d (.v (.int .i64 kv.2))],touch:=[k]}:=
 az hd fun s' he fj a w c hc=>by
  have e1:=bo hc x;rw[he x (by simp[ho,Op.operands]),hx]at e1;have hk':s'.heap k= .it n sB ents seen:=by rw[fj k (by simp)];exact hk
  have bn:=hc.chunk k;rw[hk']at bn;generalize hu:a.eval x=u at e1;cases e1 with
  |ptr _ _ b hb=>
   cases bn with
   |it _ _ _ _ b' bm hb' hh hM hm=>
    rw[hb]at hb';cases hb';obtain⟨pre,rfl⟩:∃pre,seen=pre++[i]:=by
     rw[List.getLast?_eq_some_iff]at hl;exact hl
    have hg:=mb sB ents 0 i;rw[hi]at hg;have UD:w.heap[b]? =some (.mapIter (some bm) ents.length (pre.toArray.push i) ents.length):=by rw[hh];simp
    have bG:=run_entry_at (P:=X.P) w b bm ents.length pre.toArray (aU sB ents 0).toArray ents.length {key:=f6 sB kv.1,val:= .int .i64 kv.2,born:=i} UD hm (by
     have:=V0 hg;simpa using this) (by simpa using nu sB ents 0)
    refine⟨.tuple #[f6 sB kv.1,.int .i64 kv.2],?_,.tup _ [f6 sB kv.1,.int .i64 kv.2] rfl ?_⟩
    ·simp only[execOp,ho,hu];rw[Sem.run_bind,bG];rfl
    ·intro j d y h1 h2;match j with
     |0=>simp at h1 h2;subst h1;exact .any _
     |1=>simp at h1 h2;subst h1;subst h2;exact .d _ _ (.v _)
     |j+2=>simp at h1
end
theorem Kg {a b:ByteArray}:(a.toList==b.toList)=decide (a=b):=by
 rw[YP,YP,Xh,beq_iff_eq,decide_eq_true_iff];exact⟨fun h=>Yg (YA h),fun h=>by rw[h]⟩
def xj (s:ByteArray)(i:Nat):Int:=((s.data.toList.getD i 0).toNat:Int)
theorem BL {s:ByteArray}{i:Nat}(h:i < s.size):s[i]? =some (s.data.toList.getD i 0):=by
 have h2:i < s.data.size:=h;rw[getElem?_pos s i h];congr 1;rw[Ww,WB,Xj h2];rfl
def mc:List (List D)→Option (List Int)
 |[]=>some []
 |[.v (.int .u8 n)]::l=>(mc l).map (n:: ·)
 |_=>none
theorem vR:∀{rows:List (List D)}{xs:List Int},mc rows=some xs→rows=xs.map fun n=>[.v (.int .u8 n)]
 |[],xs,h=>by simp[mc]at h;subst h;rfl
 |r::rows,xs,h=>by
  unfold mc at h;split at h
  ·rename_i e;cases e
  ·rename_i n l e;cases e;cases hb:mc rows with
   |none=>rw[hb]at h;cases h
   |some ys=>
    rw[hb]at h;cases h;rw[vR hb];rfl
  ·cases h
section
variable {X:Cfg}{ops:Array Oper}{s:FS}{o:Oper}(hd:∀d,o.dst=some d→d < X.n)
include hd
theorem EK {t t':Nat}{x y:Operand}{a b:ByteArray}(ho:o.op= .binOp .add t x y t')(hx:ev s x= .d (.v (.string a)))(hy:ev s y= .d (.v (.string b)))(hl:a.size+b.size≤9223372036854775807):
 bj X ops s o {pv:= .d (.v (.string (a++b)))}:=
 az hd fun s' he _ ac w c hc=>by
  have h1:=cw hc ((he x (by simp[ho,Op.operands])).trans hx);have h2:=cw hc ((he y (by simp[ho,Op.operands])).trans hy);have hr:=run_string_add_sum (P:=X.P) w a b (by omega);refine⟨.string (a++b),?_,.d _ _ (.v _)⟩;simp[execOp,ho,h1,h2,eqGuard,binOp,hr]
theorem yO {op:BinOp}{t t':Nat}{x y:Operand}{a b:ByteArray}{r:Bool}(ho:o.op= .binOp op t x y t')(hx:ev s x= .d (.v (.string a)))(hy:ev s y= .d (.v (.string b)))(hr:(op= .eql∧r=decide (a=b))∨(op= .neq∧r=!decide (a=b))):
 bj X ops s o {pv:= .d (.v (.bool r))}:=
 az hd fun s' he _ ac w c hc=>by
  have h1:=cw hc ((he x (by simp[ho,Op.operands])).trans hx);have h2:=cw hc ((he y (by simp[ho,Op.operands])).trans hy);refine⟨.bool r,?_,.d _ _ (.v _)⟩;rcases hr with⟨rfl,rfl⟩|⟨rfl,rfl⟩<;>simp[execOp,ho,h1,h2,eqGuard,binOp,Op.stringOp,Kg]
theorem EL {t:Nat}{x:Operand}{a:ByteArray}{ti:TI}(ho:o.op= .call {callee:= .builtin .len,args:=#[x],argTypes:=#[t]})(ht:aI X.P t=some ti)(hk:ti.kind=2)(hx:ev s x= .d (.v (.string a))):
 bj X ops s o {pv:= .d (.v (.int .i64 a.size))}:=
 az hd fun s' he _ ac w c hc=>by
  have h1:=cw hc ((he x (by simp[ho,Op.operands,Call.operands])).trans hx);obtain⟨i,d,z,tk⟩:=fk ht;have ib:d= .string:=by
   have:=tk.kind;rw[hk]at this;cases d<;>simp[ni]at this;rfl
  subst ib;refine⟨.int .i64 a.size,?_,.d _ _ (.v _)⟩;simp[execOp,ho,h1,resolve,invoke,builtin,Builtin.len_,run_underlying tk.und,goInt]
theorem yP {t:Nat}{x y:Operand}{a:ByteArray}{k:IntKind}{n:Int}{ti:TI}(ho:o.op= .index t x y)(ht:aI X.P t=some ti)(hk:ti.kind=2)(hx:ev s x= .d (.v (.string a)))(hy:ev s y= .d (.v (.int k n)))(hn:0≤n)(hlt:n.toNat < a.size):
 bj X ops s o {pv:= .d (.v (.int .u8 (xj a n.toNat)))}:=
 az hd fun s' he _ ac w c hc=>by
  have h1:=cw hc ((he x (by simp[ho,Op.operands])).trans hx);have h2:=cw hc ((he y (by simp[ho,Op.operands])).trans hy);obtain⟨i,d,z,tk⟩:=fk ht;have ib:d= .string:=by
   have:=tk.kind;rw[hk]at this;cases d<;>simp[ni]at this;rfl
  subst ib;refine⟨.int .u8 (xj a n.toNat),?_,.d _ _ (.v _)⟩;simp[execOp,ho,h1,h2,Instr.index,asIntOf,run_underlying tk.und,hn,BL hlt,xj]
theorem yQ {t:Nat}{x:Operand}{lo hi:Option Operand}{a:ByteArray}{ti:TI}{l h:Nat}(ho:o.op= .slice t x lo hi none)(ht:aI X.P t=some ti)(hk:ti.kind=2)
 (hx:ev s x= .d (.v (.string a))) (jq:Dj (lo.map (ev s))=some l) (jN:Dk a.size (hi.map (ev s))=some h) (h1:l≤h) (h2:h≤a.size):bj X ops s o {pv:= .d (.v (.string (a.extract l h)))}:=
 az hd fun s' he _ ac w c hc=>by
  have e1:=cw hc ((he x (by simp[ho,Op.operands])).trans hx);rw[←sF (s:=s) (s':=s') (fun y hy=>he y (by simp[ho,Op.operands,hy]))]at jq jN;have b1:=l7 hc jq;have b2:=l8 hc jN;obtain⟨i,d,z,tk⟩:=fk ht;have ib:d= .string:=by
   have:=tk.kind;rw[hk]at this;cases d<;>simp[ni]at this;rfl
  subst ib;refine⟨.string (a.extract l h),?_,.d _ _ (.v _)⟩;have g1:(0:Int)≤(l:Int):=by omega
  have g2:(0:Int)≤(h:Int):=by omega
  have g3:(l:Int)≤(h:Int):=by omega
  have g4:(h:Int)≤(a.size:Int):=by omega
  simp only[execOp,ho,e1,Yb];generalize lo.map ac.eval=lo' at b1;generalize hi.map ac.eval=hi' at b2;rcases b1 with⟨rfl,rfl⟩|⟨k,rfl⟩<;>rcases b2 with⟨rfl,rfl⟩|⟨k',rfl⟩<;>
   simp[Instr.sliceAt,Instr.slice,run_underlying tk.und,Instr.sliceBounds,Instr.sliceBound,asIntOf,g1,g2,g3,g4,h1,h2,Nat.not_lt.2 h1,Nat.not_lt.2 h2]
theorem yR {src dst e:Nat}{x:Operand}{rows:List (List D)}{xs:List Int}{ts td te:TI}(ho:o.op= .convert src dst x)(hs:aI X.P src=some ts)(ht:aI X.P dst=some td)(he':ts.elem=some e)(eP:aI X.P e=some te)(hi:te.int=some .u8)(hk:td.kind=2)
 (hx:ev s x= .d (.sl 1 rows)) (hb:mc rows=some xs):bj X ops s o {pv:= .d (.v (.string (strOfNums xs)))}:=
 az hd fun s' he _ ac w c hc=>by
  have e1:=bo hc x;rw[he x (by simp[ho,Op.operands]),hx]at e1;generalize hu:ac.eval x=u at e1;have e1:=bA e1;obtain⟨i,d,z,tk⟩:=fk hs;obtain⟨i2,d2,z2,tk2⟩:=fk ht;obtain⟨i3,d3,z3,tk3⟩:=fk eP;have A4:d= .slice e:=by
   have:=tk.elem;rw[he']at this;cases d<;>simp[eu]at this;rw[this]
  have yf:d2= .string:=by
   have:=tk2.kind;rw[hk]at this;cases d2<;>simp[ni]at this;rfl
  have Ml:d3= .int .u8:=by
   have:=tk3.int;rw[hi]at this;cases d3<;>simp[J8]at this;rw[this]
  subst A4 yf Ml;have Jr:=vR hb;refine⟨.string (strOfNums xs),?_,.d _ _ (.v _)⟩;cases e1 with
  |nil _ ao cap hm=>
   have:xs=[]:=by cases xs with|nil=>rfl|cons a l=>simp at Jr
   subst this;simp only[execOp,ho,hu];rw[Sem.run_bind,run_convert_bytes_string w src dst e ao 0 cap tk.und tk3.und tk2.und];cases ao with
   |none=>rfl
   |some a=>
    have hl:(loadCells a 0).run X.P w= .ok (([]:List Int).map (Value.int .u8)).toArray w:=by simp[loadCells,loadCellsFrom]
    rw[run_bytesToString w a 0 cap [] hl];rfl
  |sl _ _ b off cap f hM oz gh hm hr h1' bE aV=>
   have bc:rows.length=xs.length:=by rw[Jr,Wg]
   have UE:∀i,i < rows.length→w.cell? ⟨b,off+i,none⟩=some (.int .u8 (xs.getD i 0)):=fun i hi=>by
    have h0:=bE i 0 hi (by omega);rw[Nat.mul_one,Wz]at h0;rw[h0];obtain⟨n,hn⟩:∃n,xs[i]? =some n:=⟨_,VY (by omega)⟩;have h2:=aV i 0 [.v (.int .u8 n)] (.v (.int .u8 n)) (by rw[Jr,V7,hn];rfl) rfl;rw[Ww,hn,Xc];generalize f i 0=fv at h2;cases h2;rfl
   have hr':=run_convert_bytes_arg (P:=X.P) w src e tk.und tk3.und b off rows.length cap xs bc.symm UE dst tk2.und;simp only[execOp,ho,hu];rw[Sem.run_bind,hr'];rfl
theorem BM {t e n sz k off:Nat}{x y:Operand}{kd:IntKind}{i:Int}{ti te:TI}(ho:o.op= .indexAddr t x y)(ht:aI X.P t=some ti)(ha:ti.arr=some (n,e))(eP:aI X.P e=some te)(ck:te.size=sz)
 (hx:ev s x= .ptr k off) (hy:ev s y= .d (.v (.int kd i))) (hi:0≤i) (hlt:i.toNat < n):bj X ops s o {pv:= .ptr k (off+i.toNat*sz)}:=
 az hd fun s' he _ ac w c hc=>by
  have e1:=bo hc x;rw[he x (by simp[ho,Op.operands]),hx]at e1;have e2:=cw hc ((he y (by simp[ho,Op.operands])).trans hy);generalize hu:ac.eval x=u at e1;obtain⟨ii,d,z,tk⟩:=fk ht;obtain⟨ie,de,ze,tke⟩:=fk eP;have ib:d= .array n e:=by
   have:=tk.arr;rw[ha]at this;cases d<;>simp[GW]at this;rw[this.1,this.2]
  subst ib;cases e1 with
  |ptr _ _ b hb=>
   have pG:0≤i∧i < (n:Int):=⟨hi,by omega⟩;refine⟨.pointer (some ⟨b,off+i.toNat*sz,none⟩),?_,.ptr k _ b hb⟩;simp[execOp,ho,hu,e2,Instr.indexAt,Instr.sureAddr,asIntOf,run_underlying tk.und,pG,sizeOf,typeInfo,tke.info,tke.size,ck,Addr.add_lit]
theorem yS {t e n:Nat}{x y:Operand}{kd:IntKind}{i:Int}{ti te:TI}{ds:List D}{q:D}(ho:o.op= .index t x y)(ht:aI X.P t=some ti)(ha:ti.arr=some (n,e))(eP:aI X.P e=some te)(ck:te.size=1)(nd:te.agg=false)
 (hx:ev s x= .d (.agg ds)) (hy:ev s y= .d (.v (.int kd i))) (hi:0≤i) (hlt:i.toNat < n) (hq:ds[i.toNat]? =some q):bj X ops s o {pv:= .d q}:=
 az hd fun s' he _ ac w c hc=>by
  have e1:=bo hc x;rw[he x (by simp[ho,Op.operands]),hx]at e1;have e2:=cw hc ((he y (by simp[ho,Op.operands])).trans hy);generalize hu:ac.eval x=u at e1;obtain⟨ii,d,z,tk⟩:=fk ht;obtain⟨ie,de,ze,tke⟩:=fk eP;have ib:d= .array n e:=by
   have:=tk.arr;rw[ha]at this;cases d<;>simp[GW]at this;rw[this.1,this.2]
  subst ib;have e1:=bA e1;cases e1 with
  |agg _ vs hl h1 aV=>
   have pG:0≤i∧i < (n:Int):=⟨hi,by omega⟩;have Mm:i.toNat < vs.length:=by rw[←hl];exact(V3.1 hq).1
   have F9:(isAgg e).run X.P w= .ok false w:=by
    unfold isAgg;rw[Sem.run_bind,run_underlying tke.und w];have:=tke.agg;rw[nd]at this;cases de<;>simp[J7]at this ⊢
   refine⟨vs[i.toNat],?_,.d _ _ (aV i.toNat q _ hq (VY Mm))⟩;simp[execOp,ho,hu,e2,Instr.index,asIntOf,run_underlying tk.und,pG,sizeOf,typeInfo,tke.info,tke.size,ck,part,F9,VY Mm]
theorem yT {t n e:Nat}{parts:Array (Nat × Operand)}{ti te:TI}{pd:List (Nat × List PV)}{out:List PV}(ho:o.op= .build t parts)(ht:aI X.P t=some ti)(ha:ti.arr=some (n,e))(eP:aI X.P e=some te)
 (hp:pd.length=parts.size) (hq:∀(j:Nat) (i:Nat) (x:Operand),parts[j]? =some (i,x)→pd[j]? =some (i,cj (ev s x))∧vH (ev s x)=true) (hf:nm ((WC n).map fun i=>(i*te.size,te.size)) (ti.zero.map fun x=> .d (.v x)) pd=some out):
 bj X ops s o {pv:=pU out}:=by
 obtain⟨ii,d,z,tk⟩:=fk ht;obtain⟨ie,de,ze,tke⟩:=fk eP;have ib:d= .array n e:=by
  have:=tk.arr;rw[ha]at this;cases d<;>simp[GW]at this;rw[this.1,this.2]
 subst ib;refine vI hd ho ht (place:=fun i=>some (i*te.size,te.size)) (fun i p h=>?_) (fun ps=>?_) hp hq hf
 ·rw[V7,Wh]at h;obtain⟨m,hm,rfl⟩:=h;have:=(V3.1 hm).2;simp at this;rw[this]
 ·unfold Program.built;have:z.cells=ti.zero.toArray:=by rw[←tk.zcells]
  simp only[tk.info,tk.und,tk.zero,tke.info,tke.size,this]
omit hd in
theorem xk {P:Program}{t:Nat}{ms:Array (String × TypeId)}(h:P.underlying t=some (.interface ms))(d:D)(M:Nat→Prop)(w:World)(v:Value)(hv:RepD M w d v)(hn:d= .nei∨d= .v .nilIface):
 (Op.equal t v .nilIface).run P w= .ok (match d with| .nei=>false|_=>true) w:=by
 unfold Op.equal;rcases hn with rfl|rfl
 ·cases hv;show (Op.equalIn (9999+1) t _ .nilIface).run P w=_;rw[Op.equalIn,Sem.run_bind,run_underlying h];rfl
 ·cases hv;show (Op.equalIn (9999+1) t .nilIface .nilIface).run P w=_;rw[Op.equalIn,Sem.run_bind,run_underlying h];rfl
theorem oV {op:BinOp}{t t':Nat}{x:Operand}{d:D}{ti:TI}{r:Bool}(ho:o.op= .binOp op t x (.const .nilIface) t')(ht:aI X.P t=some ti)(hk:ti.kind=5)(hx:ev s x= .d d)(hn:d= .nei∨d= .v .nilIface)
 (hr:(op= .eql∧r=(match d with| .nei=>false|_=>true))∨(op= .neq∧r=!(match d with| .nei=>false|_=>true))):bj X ops s o {pv:= .d (.v (.bool r))}:=
 az hd fun s' he _ ac w c hc=>by
  have e1:=bo hc x;rw[he x (by simp[ho,Op.operands]),hx]at e1;generalize hu:ac.eval x=u at e1;have e1:=bA e1;obtain⟨i,dd,z,tk⟩:=fk ht;have ib:∃ms,dd= .interface ms:=by
   have:=tk.kind;rw[hk]at this;cases dd<;>simp[ni]at this;exact⟨_,rfl⟩
  obtain⟨ms,rfl⟩:=ib;have hq:=xk tk.und d _ w u e1 hn;have hg:eqGuard op t x (.const .nilIface) u .nilIface=pure ():=by
   rcases hn with rfl|rfl
   ·cases e1;rcases hr with⟨rfl,-⟩|⟨rfl,-⟩<;>rfl
   ·cases e1;exact eqGuard_nil_constR _ _ _ _
  refine⟨.bool r,?_,.d _ _ (.v _)⟩;have hb:(binOp op t u .nilIface).run X.P w= .ok (.bool r) w:=by
   rcases hn with rfl|rfl
   ·cases e1;rcases hr with⟨rfl,rfl⟩|⟨rfl,rfl⟩<;>simp[binOp,hq]
   ·cases e1;rcases hr with⟨rfl,rfl⟩|⟨rfl,rfl⟩<;>simp[binOp,hq]
  have kD:ac.eval (.const .nilIface)= .nilIface:=rfl;simp[execOp,ho,hu,kD,hg,hb]
theorem yU {op:BinOp}{t t':Nat}{x y:Operand}{k k':IntKind}{m n:Int}{r:Value}(ho:o.op= .binOp op t x y t')(jU:op= .shl∨op= .shr)(hx:ev s x= .d (.v (.int k m)))(hy:ev s y= .d (.v (.int k' n)))(hr:wZ op k m n=some r):
 bj X ops s o {pv:= .d (.v r)}:=
 az hd fun s' he _ a w c hc=>by
  have h1:=cw hc ((he x (by simp[ho,Op.operands])).trans hx);have h2:=cw hc ((he y (by simp[ho,Op.operands])).trans hy);refine⟨r,?_,.d _ _ (.v _)⟩;rcases jU with rfl|rfl
  ·simp[wZ]at hr;obtain⟨h0,rfl⟩:=hr;simp[execOp,ho,h1,h2,eqGuard,binOp,Op.shift,Int.not_lt.2 h0]
  ·simp[wZ]at hr;obtain⟨h0,rfl⟩:=hr;simp[execOp,ho,h1,h2,eqGuard,binOp,Op.shift,Int.not_lt.2 h0]
end
inductive SR where
 |no
 |res (p:PV) (eff:List (Nat × Chunk)) (touch:List Nat) (side:Prop)
 |call (g:Nat) (ps:List PV)
def oW (c a b:PV):SR:=
 match c with
 | .d (.v (.bool t))=>
  match a,b with
  | .d (.v (.bool p)),.d (.v (.bool q))=> .res (.d (.v (.bool (bif t then p else q)))) [] [] True
  |_,_=> .res (if t then a else b) [] [] True
 |_=> .no
def PC (op:UnOp)(x:PV):SR:=
 match op,x with
 | .not,.d (.v (.bool b))=> .res (.d (.v (.bool (!b)))) [] [] True
 | .neg,.d (.v (.int k n))=> .res (.d (.v (.int k (k.wrap (0 - n))))) [] [] True
 |_,_=> .no
def Hf (x:PV):SR:=
 match x with
 | .ptr k off=> .res (.ptr k off) [] [] True
 | .rp k g sz i j=> .res (.rp k g sz i j) [] [] True
 | .d (.ept cs)=> .res (.d (.ept cs)) [] [] True
 |_=> .no
def Hg (ti:Option TI)(q:Option Nat)(op:BinOp)(x y:PV):SR:=
 match x,y with
 | .d (.v (.int k m)),.d (.v (.int k' n))=>
  if k=k' then
   match op with
   | .quo=> .res (.d (.v (.int k (k.wrap (m.tdiv n))))) [] [] (n≠0)
   | .rem=> .res (.d (.v (.int k (m.tmod n)))) [] [] (n≠0)
   |_=>match wZ op k m n with
    |some r=> .res (.d (.v r)) [] [] True
    |none=> .no
  else
   match op with
   | .shl=>match wZ .shl k m n with|some r=> .res (.d (.v r)) [] [] True|none=> .no
   | .shr=>match wZ .shr k m n with|some r=> .res (.d (.v r)) [] [] True|none=> .no
   |_=> .no
 | .d (.v (.string m)),.d (.v (.string n))=>
  match op with
  | .add=> .res (.d (.v (.string (m++n)))) [] [] (m.size+n.size≤9223372036854775807)
  | .eql=> .res (.d (.v (.bool (decide (m=n))))) [] [] True
  | .neq=> .res (.d (.v (.bool !decide (m=n)))) [] [] True
  |_=> .no
 | .d (.v (.bool m)),.d (.v (.bool n))=>
  match ti,op with
  |some ti,.eql=> .res (.d (.v (.bool (m==n)))) [] [] (ti.kind=1)
  |some ti,.neq=> .res (.d (.v (.bool (m !=n)))) [] [] (ti.kind=1)
  |_,_=> .no
 | .d (.v (.pointer none)),.d (.v (.pointer none))=>
  match ti,op with
  |some ti,.eql=> .res (.d (.v (.bool true))) [] [] (ti.kind=3)
  |some ti,.neq=> .res (.d (.v (.bool false))) [] [] (ti.kind=3)
  |_,_=> .no
 | .ptr _ _,.d (.v (.pointer none))=>
  match ti,op with
  |some ti,.eql=> .res (.d (.v (.bool false))) [] [] (ti.kind=3)
  |some ti,.neq=> .res (.d (.v (.bool true))) [] [] (ti.kind=3)
  |_,_=> .no
 | .rp _ _ _ _ _,.d (.v (.pointer none))=>
  match ti,op with
  |some ti,.eql=> .res (.d (.v (.bool false))) [] [] (ti.kind=3)
  |some ti,.neq=> .res (.d (.v (.bool true))) [] [] (ti.kind=3)
  |_,_=> .no
 | .d (.ept _),.d (.v (.pointer none))=>
  match ti,op with
  |some ti,.eql=> .res (.d (.v (.bool false))) [] [] (ti.kind=3)
  |some ti,.neq=> .res (.d (.v (.bool true))) [] [] (ti.kind=3)
  |_,_=> .no
 | .d (.sl _ (_::_)),.d (.v (.slice none _ _))=>
  match ti,op with
  |some ti,.eql=> .res (.d (.v (.bool false))) [] [] (ti.elem.isSome=true)
  |some ti,.neq=> .res (.d (.v (.bool true))) [] [] (ti.elem.isSome=true)
  |_,_=> .no
 | .d (.v (.slice ao _ _)),.d (.v (.slice none _ _))=>
  match ti,op with
  |some ti,.eql=> .res (.d (.v (.bool ao.isNone))) [] [] (ti.elem.isSome=true)
  |some ti,.neq=> .res (.d (.v (.bool !ao.isNone))) [] [] (ti.elem.isSome=true)
  |_,_=> .no
 | .d (.agg ds),.d (.agg es)=>
  match q,nj ds,nj es with
  |some n,some xs,some ys=>
   match op with
   | .eql=> .res (.d (.v (.bool (xs==ys)))) [] [] (xs.length=n∧ys.length=n)
   | .neq=> .res (.d (.v (.bool (xs !=ys)))) [] [] (xs.length=n∧ys.length=n)
   |_=> .no
  |_,_,_=> .no
 |_,_=> .no
def Hh (ti:Option TI)(op:BinOp)(x:PV):SR:=
 match ti,op,x with
 |some ti,.eql,.d .nei=> .res (.d (.v (.bool false))) [] [] (ti.kind=5)
 |some ti,.neq,.d .nei=> .res (.d (.v (.bool true))) [] [] (ti.kind=5)
 |some ti,.eql,.d (.v .nilIface)=> .res (.d (.v (.bool true))) [] [] (ti.kind=5)
 |some ti,.neq,.d (.v .nilIface)=> .res (.d (.v (.bool false))) [] [] (ti.kind=5)
 |_,_,_=> .no
def sM (ti:Option TI)(f:Nat)(x:PV):SR:=
 match ti with
 |some ti=>
  match ti.fields[f]? with
  |some (off,sz)=>
   match x with
   | .d (.ept ds)=> .res (.d (.ept (ds.drop off))) [] [] (sz≠0)
   | .ptr k o'=> .res (.ptr k (o'+off)) [] [] (sz≠0)
   | .rp k g sz' i j=> .res (.rp k g sz' i (j+off)) [] [] (sz≠0)
   |_=> .no
  |none=> .no
 |none=> .no
def yV (ti:Option TI)(h:Nat→Chunk)(x:PV):SR:=
 match ti with
 |some ti=>
  match x with
  | .d (.ept ds)=>
   if ti.agg then .res (.d (.agg (ds.take ti.size))) [] [] (ti.size≤ds.length)
   else match ds with
    |d::_=> .res (.d d) [] [] (ti.size=1)
    |[]=> .no
  | .ptr k off=>
   match h k with
   | .box _ cells=>
    if ti.agg then .res (pU ((cells.drop off).take ti.size)) [] [k] (off+ti.size≤cells.length)
    else match cells.drop off with
     |p::_=> .res p [] [k] (ti.size=1)
     |[]=> .no
   |_=> .no
  | .rp k g sz i j=>
   match h k with
   | .row _ sz' g' rows=>
    match rows[i]? with
    |some row=>
     if ti.agg then .res (pU ((row.drop j).take ti.size)) [] [k] (g=g'∧sz=sz'∧j+ti.size≤sz)
     else match row.drop j with
      |p::_=> .res p [] [k] (g=g'∧sz=sz'∧ti.size=1∧j+1≤sz)
      |[]=> .no
    |none=> .no
   |_=> .no
  |_=> .no
 |none=> .no
def sN (T:Nat→Option TI)(ti:Option TI)(h:Nat→Chunk)(x y:PV):SR:=
 match ti with
 |some ti=>
  match ti.elem with
  |some e=>
   match T e with
   |some te=>
    match y with
    | .d (.v (.int _ n))=>
     match x with
     | .d (.sl sz rows)=>match rows[n.toNat]? with|some row=> .res (.d (.ept row)) [] [] (te.size=sz∧0≤n)|none=> .no
     | .own k g=>
      match h k with
      | .row e' sz g' rows=> .res (.rp k g sz n.toNat 0) [] [k] (e'=e∧g'=g∧te.size=sz∧0≤n∧n.toNat < rows.length)
      |_=> .no
     | .osl k g sz st m=> .res (.rp k g sz (st+n.toNat) 0) [] [] (te.size=sz∧0≤n∧n.toNat < m)
     |_=> .no
    |_=> .no
   |none=> .no
  |none=>
   match ti.arr,x,y with
   |some (m,e),.ptr k off,.d (.v (.int _ n))=>
    match T e with
    |some te=> .res (.ptr k (off+n.toNat*te.size)) [] [] (0≤n∧n.toNat < m)
    |none=> .no
   |_,_,_=> .no
 |none=> .no
def sO (T:Nat→Option TI)(ti:Option TI)(x y:PV):SR:=
 match ti with
 |some ti=>
  match x,y with
  | .d (.v (.string a)),.d (.v (.int _ n))=> .res (.d (.v (.int .u8 (xj a n.toNat)))) [] [] (ti.kind=2∧0≤n∧n.toNat < a.size)
  | .d (.agg ds),.d (.v (.int _ n))=>
   match ti.arr with
   |some (m,e)=>
    match T e with
    |some te=>match ds[n.toNat]? with|some q=> .res (.d q) [] [] (te.size=1∧te.agg=false∧0≤n∧n.toNat < m)|none=> .no
    |none=> .no
   |none=> .no
  |_,_=> .no
 |none=> .no
def vS (x:PV)(i:Nat):SR:=
 match x with
 | .d (.tup ds)=>match ds[i]? with|some d=> .res (.d d) [] [] True|none=> .no
 | .tup ds=>match ds[i]? with|some d=> .res d [] [] True|none=> .no
 |_=> .no
def p4 (e:bK):List (Nat × Operand)→Option (List (Nat × List PV))
 |[]=>some []
 |(i,x)::l=>
  if vH (cK e x)then
   match p4 e l with
   |some pd=>some ((i,cj (cK e x))::pd)
   |none=>none
  else none
def sP (T:Nat→Option TI)(ti:Option TI)(e:bK)(parts:List (Nat × Operand)):SR:=
 match ti with
 |some ti=>
  match ti.fields with
  |[]=>
   match ti.arr with
   |some (n,el)=>
    match T el,p4 e parts with
    |some te,some pd=>
     match nm ((WC n).map fun i=>(i*te.size,te.size)) (ti.zero.map fun x=> .d (.v x)) pd with
     |some out=> .res (pU out) [] [] True
     |none=> .no
    |_,_=> .no
   |none=> .no
  |_::_=>
   match p4 e parts with
   |some pd=>
    match nm ti.fields (ti.zero.map fun x=> .d (.v x)) pd with
    |some out=> .res (pU out) [] [] True
    |none=> .no
   |none=> .no
 |none=> .no
def yW (e:bK):Nat→List (Nat × Operand)→Option (List (List PV))
 |_,[]=>some []
 |n,(i,x)::l=>
  if vH (cK e x)&&(i==n)then
   match yW e (n+1) l with
   |some rows=>some (cj (cK e x)::rows)
   |none=>none
  else none
def Pf:List (List PV)→Option (List (List D))
 |[]=>some []
 |r::l=>match sx r,Pf l with|some d,some ds=>some (d::ds)|_,_=>none
def sQ (sz:Nat):List (List PV)→Prop
 |[]=>True
 |r::l=>r.length=sz∧sQ sz l
def Hi (T:Nat→Option TI)(ti:Option TI)(nk:Nat)(e:bK)(n:Nat)(parts:List (Nat × Operand)):SR:=
 match ti with
 |some ti=>
  match ti.elem with
  |some el=>
   match T el with
   |some te=>
    match n,parts with
    |0,[]=> .res (.own nk 0) [(nk,.row el te.size 0 [])] [nk] True
    |n+1,parts=>
     match yW e 0 parts with
     |some rows=>
      match (if te.kind=2 then none else Pf rows)with
      |some ds=> .res (.d (.sl te.size ds)) [] [] (0 < te.size∧(n+1)*te.size≤16777216∧rows.length=n+1∧sQ te.size rows)
      |none=> .res (.own nk 0) [(nk,.row el te.size 0 rows)] [nk] (0 < te.size∧(n+1)*te.size≤16777216∧rows.length=n+1∧sQ te.size rows)
     |none=> .no
    |_,_=> .no
   |none=> .no
  |none=> .no
 |none=> .no
def yX (T:Nat→Option TI)(ti:Option TI)(nk:Nat)(x y:PV):SR:=
 match ti with
 |some ti=>
  match ti.elem with
  |some el=>
   match T el with
   |some te=>
    match te.zero,x,y with
    |[zv],.d (.v (.int _ n)),.d (.v (.int _ m))=> .res (.own nk 0) [(nk,.row el 1 0 (Wy n.toNat [.d (.v zv)]))] [nk] (n=m∧0 < n∧(te.bytes:Int)*n≤281474976710656∧n≤9223372036854775807)
    |_,_,_=> .no
   |none=> .no
  |none=> .no
 |none=> .no
def yY (T:Nat→Option TI)(ts td:Option TI)(x:PV):SR:=
 match ts,td with
 |some ts,some td=>
  match td.int,x with
  |some k,.d (.v (.int _ n))=> .res (.d (.v (.int k (k.wrap n)))) [] [] True
  |none,.d (.sl 1 rows)=>
   match ts.elem with
   |some e=>
    match T e with
    |some te=>match mc rows with|some xs=> .res (.d (.v (.string (strOfNums xs)))) [] [] (te.int=some .u8∧td.kind=2)|none=> .no
    |none=> .no
   |none=> .no
  |_,_=> .no
 |_,_=> .no
def Hj (ti:Option TI)(h:Nat→Chunk)(x:PV):SR:=
 match ti with
 |some ti=>
  match ti.elem with
  |some _=>
   match x with
   | .d (.sl _ rows)=> .res (.d (.v (.int .i64 rows.length))) [] [] True
   | .d (.v (.slice none 0 0))=> .res (.d (.v (.int .i64 (0:Nat)))) [] [] True
   | .own k g=>match h k with| .row _ _ g' rows=> .res (.d (.v (.int .i64 rows.length))) [] [k] (g=g')|_=> .no
   | .osl _ _ _ _ n=> .res (.d (.v (.int .i64 n))) [] [] True
   |_=> .no
  |none=>match x with| .d (.v (.string a))=> .res (.d (.v (.int .i64 a.size))) [] [] (ti.kind=2)|_=> .no
 |none=> .no
def Kh (h:Nat→Chunk)(sz:Nat)(y:PV):Option (List (List PV) × List Nat):=
 match y with
 | .d (.sl sz' news)=>if sz'=sz then some (aa news,[])else none
 | .d (.v (.slice _ 0 _))=>some ([],[])
 | .own k g=>match h k with| .row _ sz' g' rows=>if sz'=sz∧g'=g then some (rows,[k])else none|_=>none
 | .osl k g sz' st n=>match h k with| .row _ sz'' g' rows=>if sz'=sz∧sz''=sz∧g'=g then some ((rows.drop st).take n,[k])else none|_=>none
 |_=>none
def Hk (T:Nat→Option TI)(ti:Option TI)(nk:Nat)(h:Nat→Chunk)(x y:PV):SR:=
 match ti with
 |some ti=>
  match ti.elem with
  |some el=>
   match T el with
   |some te=>
    if te.size=0∨te.bytes=0 then .no else
    match Kh h te.size y with
    |some (news,ty)=>
     match x with
     | .own k g=>
      match h k with
      | .row e' sz g' rows=> .res (.own k (g+1)) [(k,.row e' sz (g+1) (rows++news))] (k::ty) (e'=el∧g'=g∧te.size=sz∧(rows.length+news.length)*te.bytes≤140737488355328)
      |_=> .no
     | .d (.v (.slice none 0 0))=> .res (.own nk 0) [(nk,.row el te.size 0 news)] (nk::ty) (news.length*te.bytes≤140737488355328)
     | .osl k g sz st n=>
      match h k with
      | .row e' sz' g' rows=> .res (.osl k g sz 0 (n+news.length)) [(k,.row e' sz' g' (ap rows n news))] (k::ty) (st=0∧e'=el∧g'=g∧sz'=sz∧te.size=sz∧rows≠[]∧n+news.length≤rows.length)
      |_=> .no
     |_=> .no
    |none=> .no
   |none=> .no
  |none=> .no
 |none=> .no
def sR (ti:Option TI)(h:Nat→Chunk)(dst:Option Nat)(x y:PV):SR:=
 match ti,dst with
 |some ti,none=>
  match x with
  | .ptr k off=>
   match h k with
   | .box T cells=>if vH y then .res .any [(k,.box T (ap cells off (cj y)))] [k] ((cj y).length=ti.size∧off+ti.size≤cells.length)else .no
   |_=> .no
  | .rp k g sz i j=>
   match h k with
   | .row E sz' g' rows=>
    match rows[i]? with
    |some row=>if vH y then .res .any [(k,.row E sz' g' (rows.set i (ap row j (cj y))))] [k] (g=g'∧sz=sz'∧(cj y).length=ti.size∧j+ti.size≤sz)else .no
    |none=> .no
   |_=> .no
  |_=> .no
 |_,_=> .no
def sS (T:Nat→Option TI)(ti:Option TI)(h:Nat→Chunk)(x:PV)(lo hi mx:Option PV):SR:=
 match ti with
 |some ti=>
  match ti.elem with
  |some e=>
   match T e with
   |some te=>
    match mx with
    |none=>
     match x with
     | .d (.sl sz rows)=>
      match Dj lo,Dk rows.length hi with
      |some l,some r=> .res (.d (.sl sz ((rows.take r).drop l))) [] [] (te.size=sz∧l≤r∧r≤rows.length)
      |_,_=> .no
     | .own k g=>
      match h k with
      | .row e' sz g' []=>
       match Dj lo,Dk 0 hi with
       |some l,some r=> .res .any [] [k] (e'=e∧g'=g∧te.size=sz∧l=0∧r=0)
       |_,_=> .no
      | .row e' sz g' rows=>
       match Dj lo,Dk rows.length hi with
       |some l,some r=> .res (.osl k g sz l (r - l)) [] [k] (e'=e∧g'=g∧te.size=sz∧rows≠[]∧l≤r∧r≤rows.length)
       |_,_=> .no
      |_=> .no
     | .osl k g sz st n=>
      match h k with
      | .row e' sz' g' rows=>
       match Dj lo,Dk n hi with
       |some l,some r=> .res (.osl k g sz (st+l) (r - l)) [] [k] (e'=e∧g'=g∧sz'=sz∧te.size=sz∧rows≠[]∧l≤r∧st+r≤rows.length)
       |_,_=> .no
      |_=> .no
     |_=> .no
    |some m=>
     match x,lo,hi,m with
     | .own k g,some (.d (.v (.int _ n1))),some (.d (.v (.int _ n2))),.d (.v (.int _ n3))=>
      match h k with
      | .row e' sz g' rows=> .res .any [] [k] (e'=e∧g'=g∧te.size=sz∧rows≠[]∧0≤n1∧n1≤n2∧n2≤n3∧n3≤(rows.length:Int))
      |_=> .no
     |_,_,_,_=> .no
   |none=> .no
  |none=>
   match x,mx with
   | .d (.v (.string a)),none=>
    match Dj lo,Dk a.size hi with
    |some l,some r=> .res (.d (.v (.string (a.extract l r)))) [] [] (ti.kind=2∧l≤r∧r≤a.size)
    |_,_=> .no
   |_,_=> .no
 |none=> .no
def sU (T:Nat→Option TI)(ti:Option TI)(h:Nat→Chunk)(x:PV):SR:=
 match ti with
 |some ti=>
  match ti.elem with
  |some e=>
   match T e with
   |some te=>
    match x with
    | .osl k g sz st n=>
     match h k with
     | .row e' sz' g' rows=> .res (.d (.v (.tuple #[]))) [(k,.row e' sz' g' (ap rows st (Wy n (te.zero.map fun x=> .d (.v x)))))] [k] (e'=e∧g'=g∧sz'=sz∧te.size=sz∧rows≠[]∧st+n≤rows.length)
     |_=> .no
    |_=> .no
   |none=> .no
  |none=> .no
 |none=> .no
def md (ti:Option TI)(nk:Nat):SR:=
 match ti with
 |some ti=>
  match ti.mp with
  |some (n,sB)=> .res (.mref nk) [(nk,.mp n sB [])] [nk] True
  |none=> .no
 |none=> .no
def oX (ti:Option TI)(h:Nat→Chunk)(m x:PV)(ok:Bool):SR:=
 match ti with
 |some ti=>
  match ti.mp with
  |some (n,sB)=>
   match m with
   | .mref k=>
    match h k with
    | .mp n' sB' ents=>
     match BH sB x with
     |some xs=> .res (if ok then .d (.tup [.v (.int .i64 ((kN ents xs).getD 0)),.v (.bool (kN ents xs).isSome)])else .d (.v (.int .i64 ((kN ents xs).getD 0)))) [] [k] (n'=n∧sB'=sB∧xs.length=n)
     |none=> .no
    |_=> .no
   |_=> .no
  |none=> .no
 |none=> .no
def p5 (ti:Option TI)(h:Nat→Chunk)(dst:Option Nat)(m x y:PV):SR:=
 match ti,dst with
 |some ti,none=>
  match ti.mp with
  |some (n,sB)=>
   match m with
   | .mref k=>
    match h k with
    | .mp n' sB' ents=>
     match BH sB x,y with
     |some xs,.d (.v (.int .i64 v))=> .res .any [(k,.mp n' sB' (ly ents xs v))] [k] (n'=n∧sB'=sB∧xs.length=n)
     |_,_=> .no
    |_=> .no
   |_=> .no
  |none=> .no
 |_,_=> .no
def sV (ti:Option TI)(h:Nat→Chunk)(nk:Nat)(m:PV):SR:=
 match ti with
 |some ti=>
  match ti.mp with
  |some (n,sB)=>
   match m with
   | .mref k=>
    match h k with
    | .mp n' sB' ents=> .res (.ptr nk 0) [(nk,.it n' sB' ents []),(k,.gone)] [k,nk] (n'=n∧sB'=sB)
    |_=> .no
   |_=> .no
  |none=> .no
 |none=> .no
def sW (h:Nat→Chunk)(x:PV):SR:=
 match x with
 | .ptr k 0=>
  match h k with
  | .it _ _ ents seen=>
   match seen.getLast? with
   |some i=>
    match ents[i]? with
    |some kv=> .res (.tup [.any,.d (.v (.int .i64 kv.2))]) [] [k] True
    |none=> .no
   |none=> .no
  |_=> .no
 |_=> .no
def yZ (f:PV)(args:List PV):SR:=
 match f with
 | .clo g caps=> .call g (args++caps)
 | .d (.clo g cd)=> .call g (args++cd.map .d)
 |_=> .no
def JS (T:Nat→Option TI)(Q:Nat→Option Nat)(e:bK)(hl:List Chunk)(o:Oper):SR:=
 match o.op with
 | .move x=> .res (cK e x) [] [] True
 | .assign x=> .res (cK e x) [] [] True
 | .pick c a b=>oW (cK e c) (cK e a) (cK e b)
 | .unOp op _ x=>PC op (cK e x)
 | .nilCheck x=>Hf (cK e x)
 | .binOp op t x (.const .nilIface) _=>Hh (T t) op (cK e x)
 | .binOp op t x y _=>Hg (T t) (Q t) op (cK e x) (cK e y)
 | .fieldAddr t x f=>sM (T t) f (cK e x)
 | .load t x=>yV (T t) (aw hl) (cK e x)
 | .indexAddr t x y=>sN T (T t) (aw hl) (cK e x) (cK e y)
 | .index t x y=>sO T (T t) (cK e x) (cK e y)
 | .extract x i=>vS (cK e x) i
 | .alloc t=>match T t with|some ti=> .res (.ptr hl.length 0) [(hl.length,.box t (ti.zero.map fun x=> .d (.v x)))] [hl.length] True|none=> .no
 | .box t x=>if vH (cK e x)then .res (.ptr hl.length 0) [(hl.length,.box t (cj (cK e x)))] [hl.length] True else .no
 | .store t x y=>sR (T t) (aw hl) o.dst (cK e x) (cK e y)
 | .build t ⟨parts⟩=>sP T (T t) e parts
 | .buildSlice t n ⟨parts⟩=>Hi T (T t) hl.length e n parts
 | .makeFunc (.func g) ⟨[]⟩ ⟨caps⟩=> .res (.clo g (caps.map (cK e))) [] [] True
 | .convert src dst x=>yY T (T src) (T dst) (cK e x)
 | .call ⟨.builtin .len,⟨[x]⟩,⟨[t]⟩⟩=>Hj (T t) (aw hl) (cK e x)
 | .slice t x lo hi mx=>sS T (T t) (aw hl) (cK e x) (lo.map (cK e)) (hi.map (cK e)) (mx.map (cK e))
 | .call ⟨.builtin .clear,⟨[x]⟩,⟨[t]⟩⟩=>sU T (T t) (aw hl) (cK e x)
 | .call ⟨.builtin .append,⟨[x,y]⟩,⟨[t,t']⟩⟩=>if t=t' then Hk T (T t) hl.length (aw hl) (cK e x) (cK e y)else .no
 | .call ⟨.builtin .min,⟨[x,y]⟩,_⟩=>match cK e x,cK e y with| .d (.v (.int k m)),.d (.v (.int k' n))=>if k=k' then .res (.d (.v (.int k (if n < m then n else m)))) [] [] True else .no|_,_=> .no
 | .call ⟨.builtin .max,⟨[x,y]⟩,_⟩=>match cK e x,cK e y with| .d (.v (.int k m)),.d (.v (.int k' n))=>if k=k' then .res (.d (.v (.int k (if m < n then n else m)))) [] [] True else .no|_,_=> .no
 | .call ⟨.value f,⟨args⟩,_⟩=>yZ (cK e f) (args.map (cK e))
 | .makeSlice t x y=>yX T (T t) hl.length (cK e x) (cK e y)
 | .makeMap t none=>md (T t) hl.length
 | .lookup t m x ok=>oX (T t) (aw hl) (cK e m) (cK e x) ok
 | .range t m=>sV (T t) (aw hl) hl.length (cK e m)
 | .entry x=>sW (aw hl) (cK e x)
 | .mapUpdate t m x y=>p5 (T t) (aw hl) o.dst (cK e m) (cK e x) (cK e y)
 | .insert t m x y=>p5 (T t) (aw hl) o.dst (cK e m) (cK e x) (cK e y)
 |_=> .no
theorem ey:∀(l:List Chunk),aw l l.length= .none
 |[]=>rfl
 |_::l=>ey l
structure TabOK (P:Program)(T:Nat→Option TI)(Q:Nat→Option Nat):Prop where
 t:∀t ti,T t=some ti→aI P t=some ti
 q:∀t n,Q t=some n→yv P t n
 m:∀t ti n s,T t=some ti→ti.mp=some (n,s)→MapOK P t n s
theorem uN {P:Program}{t e:Nat}(h:P.underlying t=some (.pointer e))(a:Addr)(w:World):(Op.equal t (.pointer (some a)) (.pointer none)).run P w= .ok false w:=by
 unfold Op.equal;show (Op.equalIn (9999+1) t _ _).run P w=_;rw[Op.equalIn,Sem.run_bind,run_underlying h];rfl
theorem uO {P:Program}{t e:Nat}(h:P.underlying t=some (.pointer e))(w:World):(Op.equal t (.pointer none) (.pointer none)).run P w= .ok true w:=by
 unfold Op.equal;show (Op.equalIn (9999+1) t _ _).run P w=_;rw[Op.equalIn,Sem.run_bind,run_underlying h];rfl
theorem vT {X:Cfg}{ops:Array Oper}{s:FS}{o:Oper}(hd:∀d,o.dst=some d→d < X.n){ti:TI}{op:BinOp}{t t':Nat}{x y:Operand}{r:Bool}(ho:o.op= .binOp op t x y t')(ht:aI X.P t=some ti)(hb:ti.kind=3)(hx:ev s x= .d (.v (.pointer none)))(hy:ev s y= .d (.v (.pointer none)))
 (hr:(op= .eql∧r=true)∨(op= .neq∧r=false)):bj X ops s o {pv:= .d (.v (.bool r))}:=
 az hd fun s' he _ a w c hc=>by
  have h1:=cw hc ((he x (by simp[ho,Op.operands])).trans hx);have h2:=cw hc ((he y (by simp[ho,Op.operands])).trans hy);obtain⟨i,d,z,tk⟩:=fk ht;obtain⟨el,rfl⟩:∃el,d= .pointer el:=by
   have:=tk.kind;rw[hb]at this;cases d<;>simp[ni]at this;exact⟨_,rfl⟩
  refine⟨.bool r,?_,.d _ _ (.v _)⟩;rcases hr with⟨rfl,rfl⟩|⟨rfl,rfl⟩<;>simp[execOp,ho,h1,h2,eqGuard,binOp,uO tk.und]
theorem rH {P:Program}{t e:Nat}(h:P.underlying t=some (.slice e))(a:Option Addr)(n c n' c':Nat)(w:World):(Op.equal t (.slice a n c) (.slice none n' c')).run P w= .ok a.isNone w:=by
 unfold Op.equal;show (Op.equalIn (9999+1) t _ _).run P w=_;rw[Op.equalIn,Sem.run_bind,run_underlying h];cases a<;>rfl
theorem oY {X:Cfg}{ops:Array Oper}{s:FS}{o:Oper}(hd:∀d,o.dst=some d→d < X.n){ti:TI}{op:BinOp}{t t' n' c':Nat}{x y:Operand}{r z:Bool}(ho:o.op= .binOp op t x y t')(ht:aI X.P t=some ti)(hb:ti.elem.isSome=true)
 (hx:(∃sz a l,ev s x= .d (.sl sz (a::l))∧z=false)∨∃ao n c,ev s x= .d (.v (.slice ao n c))∧z=ao.isNone) (hy:ev s y= .d (.v (.slice none n' c')))
 (hr:(op= .eql∧r=z)∨(op= .neq∧r=!z)):bj X ops s o {pv:= .d (.v (.bool r))}:=
 az hd fun s' he _ a w c hc=>by
  have e1:=bo hc x;rw[he x (by simp[ho,Op.operands])]at e1;have h2:=cw hc ((he y (by simp[ho,Op.operands])).trans hy);generalize hu:a.eval x=u at e1;obtain⟨i,d,zz,tk⟩:=fk ht;obtain⟨el,rfl⟩:∃el,d= .slice el:=by
   have:=tk.elem;obtain⟨el,UF⟩:=XZ.1 hb;rw[UF]at this;cases d<;>simp[eu]at this;exact⟨_,rfl⟩
  obtain⟨ao,n,cap,rfl,hz⟩:∃ao n cap,u= .slice ao n cap∧z=ao.isNone:=by
   rcases hx with⟨sz,b,l,hx,rfl⟩|⟨ao,n,cap,hx,rfl⟩
   ·rw[hx]at e1;have e1:=bA e1;cases e1 with
    |sl _ _ b off cap=>exact⟨_,_,cap,rfl,rfl⟩
   ·rw[hx]at e1;have e1:=bA e1;cases e1;exact⟨_,_,_,rfl,rfl⟩
  subst hz;refine⟨.bool r,?_,.d _ _ (.v _)⟩;rcases hr with⟨rfl,rfl⟩|⟨rfl,rfl⟩<;>simp[execOp,ho,hu,h2,eqGuard,binOp,rH tk.und]
theorem iH {X:Cfg}{ops:Array Oper}{s:FS}{o:Oper}(hd:∀d,o.dst=some d→d < X.n){ti:TI}{op:BinOp}{t t':Nat}{x y:Operand}{r:Bool}(ho:o.op= .binOp op t x y t')(ht:aI X.P t=some ti)(hb:ti.kind=3)
 (hx:(∃k off,ev s x= .ptr k off)∨(∃k g sz i j,ev s x= .rp k g sz i j)∨∃ds,ev s x= .d (.ept ds)) (hy:ev s y= .d (.v (.pointer none)))
 (hr:(op= .eql∧r=false)∨(op= .neq∧r=true)):bj X ops s o {pv:= .d (.v (.bool r))}:=
 az hd fun s' he _ a w c hc=>by
  have h1:∃ad,a.eval x= .pointer (some ad):=by
   have:=bo hc x;rw[he x (by simp[ho,Op.operands])]at this;generalize a.eval x=u at this;rcases hx with⟨k,off,hx⟩|⟨k,g,sz,i,j,hx⟩|⟨ds,hx⟩<;>rw[hx]at this
   ·cases this;exact⟨_,rfl⟩
   ·cases this;exact⟨_,rfl⟩
   ·have:=bA this;cases this;exact⟨_,rfl⟩
  obtain⟨ad,h1⟩:=h1;have h2:=cw hc ((he y (by simp[ho,Op.operands])).trans hy);obtain⟨i,d,z,tk⟩:=fk ht;obtain⟨el,rfl⟩:∃el,d= .pointer el:=by
   have:=tk.kind;rw[hb]at this;cases d<;>simp[ni]at this;exact⟨_,rfl⟩
  refine⟨.bool r,?_,.d _ _ (.v _)⟩;rcases hr with⟨rfl,rfl⟩|⟨rfl,rfl⟩<;>simp[execOp,ho,h1,h2,eqGuard,binOp,uN tk.und]
theorem uP {X:Cfg}{ops:Array Oper}{s:FS}{o:Oper}(hd:∀d,o.dst=some d→d < X.n){x:Operand}{k g sz i j:Nat}(ho:o.op= .nilCheck x)(hx:ev s x= .rp k g sz i j):bj X ops s o {pv:= .rp k g sz i j}:=
 az hd fun s' he _ a w c hc=>by
  have:=bo hc x;rw[he x (by simp[ho,Op.operands]),hx]at this;generalize hu:a.eval x=u at this;cases this with
  |rp _ _ _ _ _ b n cap h=>exact⟨_,by simp[execOp,ho,hu],.rp k g sz i j b n cap h⟩
section
variable {X:Cfg}{ops:Array Oper}{e:bK}{hl:List Chunk}{o:Oper}{T:Nat→Option TI}{Q:Nat→Option Nat}(bB:TabOK X.P T Q)(hd:∀d,o.dst=some d→d < X.n){p:PV}{eff:List (Nat × Chunk)}{touch:List Nat}{side:Prop}
include hd
theorem Hl {x y z:Operand}(ho:o.op= .pick x y z)(h:oW (cK e x) (cK e y) (cK e z)= .res p eff touch side)(_hs:side):bj X ops (bp e hl) o {pv:=p,eff:=eff,touch:=touch}:=by
 unfold oW at h;split at h
 ·rename_i t hx;have key:=Ka (X:=X) (ops:=ops) (s:=bp e hl) hd ho ((aq e hl x).trans hx);rw[aq,aq]at key;split at h
  ·rename_i a b ha hb;cases h;rw[ha,hb]at key;cases t<;>exact key
  ·cases h;exact key
 ·cases h
theorem Nx {op:UnOp}{t:Nat}{x:Operand}(ho:o.op= .unOp op t x)(h:PC op (cK e x)= .res p eff touch side)(_hs:side):bj X ops (bp e hl) o {pv:=p,eff:=eff,touch:=touch}:=by
 unfold PC at h;split at h
 ·rename_i b hx;cases h;exact Nq hd ho ((aq e hl x).trans hx)
 ·rename_i k n hx;cases h;exact Nr hd ho ((aq e hl x).trans hx)
 ·cases h
theorem Ki {x:Operand}(ho:o.op= .nilCheck x)(h:Hf (cK e x)= .res p eff touch side)(_hs:side):bj X ops (bp e hl) o {pv:=p,eff:=eff,touch:=touch}:=by
 unfold Hf at h;split at h
 ·rename_i k off hx;cases h;have:=qR (X:=X) (ops:=ops) (s:=bp e hl) hd ho (.inl ⟨k,off,(aq e hl x).trans hx⟩);rwa [aq,hx]at this
 ·rename_i k g sz i j hx;cases h;exact uP hd ho ((aq e hl x).trans hx)
 ·rename_i cs hx;cases h;have:=qR (X:=X) (ops:=ops) (s:=bp e hl) hd ho (.inr ⟨cs,(aq e hl x).trans hx⟩);rwa [aq,hx]at this
 ·cases h
include bB in
theorem Kj {op:BinOp}{t t':Nat}{x y:Operand}(ho:o.op= .binOp op t x y t')(h:Hg (T t) (Q t) op (cK e x) (cK e y)= .res p eff touch side)(hs:side):bj X ops (bp e hl) o {pv:=p,eff:=eff,touch:=touch}:=by
 unfold Hg at h;split at h
 ·rename_i k m k' n hx hy;split at h
  ·rename_i hk;subst hk;split at h
   ·cases h;exact vE hd ho ((aq e hl x).trans hx) ((aq e hl y).trans hy) hs (.inl ⟨rfl,rfl⟩)
   ·cases h;exact vE hd ho ((aq e hl x).trans hx) ((aq e hl y).trans hy) hs (.inr ⟨rfl,rfl⟩)
   ·split at h
    ·rename_i r hr;cases h;exact Ns hd ho ((aq e hl x).trans hx) ((aq e hl y).trans hy) hr
    ·cases h
  ·split at h
   ·split at h
    ·rename_i r hr;cases h;exact yU hd ho (.inl rfl) ((aq e hl x).trans hx) ((aq e hl y).trans hy) hr
    ·cases h
   ·split at h
    ·rename_i r hr;cases h;exact yU hd ho (.inr rfl) ((aq e hl x).trans hx) ((aq e hl y).trans hy) hr
    ·cases h
   ·cases h
 ·rename_i m n hx hy;split at h
  ·cases h;exact EK hd ho ((aq e hl x).trans hx) ((aq e hl y).trans hy) hs
  ·cases h;exact yO hd ho ((aq e hl x).trans hx) ((aq e hl y).trans hy) (.inl ⟨rfl,rfl⟩)
  ·cases h;exact yO hd ho ((aq e hl x).trans hx) ((aq e hl y).trans hy) (.inr ⟨rfl,rfl⟩)
  ·cases h
 ·rename_i m n hx hy;split at h
  ·rename_i ti ht;cases h;exact vF hd ho (bB.t t _ ht) hs ((aq e hl x).trans hx) ((aq e hl y).trans hy) (.inl ⟨rfl,rfl⟩)
  ·rename_i ti ht;cases h;exact vF hd ho (bB.t t _ ht) hs ((aq e hl x).trans hx) ((aq e hl y).trans hy) (.inr ⟨rfl,rfl⟩)
  ·cases h
 ·rename_i hx hy;split at h
  ·rename_i ti ht;cases h;exact vT hd ho (bB.t t _ ht) hs ((aq e hl x).trans hx) ((aq e hl y).trans hy) (.inl ⟨rfl,rfl⟩)
  ·rename_i ti ht;cases h;exact vT hd ho (bB.t t _ ht) hs ((aq e hl x).trans hx) ((aq e hl y).trans hy) (.inr ⟨rfl,rfl⟩)
  ·cases h
 ·rename_i k off hx hy;split at h
  ·rename_i ti ht;cases h;exact iH hd ho (bB.t t _ ht) hs (.inl ⟨k,off,(aq e hl x).trans hx⟩) ((aq e hl y).trans hy) (.inl ⟨rfl,rfl⟩)
  ·rename_i ti ht;cases h;exact iH hd ho (bB.t t _ ht) hs (.inl ⟨k,off,(aq e hl x).trans hx⟩) ((aq e hl y).trans hy) (.inr ⟨rfl,rfl⟩)
  ·cases h
 ·rename_i k g sz i j hx hy;split at h
  ·rename_i ti ht;cases h;exact iH hd ho (bB.t t _ ht) hs (.inr (.inl ⟨k,g,sz,i,j,(aq e hl x).trans hx⟩)) ((aq e hl y).trans hy) (.inl ⟨rfl,rfl⟩)
  ·rename_i ti ht;cases h;exact iH hd ho (bB.t t _ ht) hs (.inr (.inl ⟨k,g,sz,i,j,(aq e hl x).trans hx⟩)) ((aq e hl y).trans hy) (.inr ⟨rfl,rfl⟩)
  ·cases h
 ·rename_i ds hx hy;split at h
  ·rename_i ti ht;cases h;exact iH hd ho (bB.t t _ ht) hs (.inr (.inr ⟨ds,(aq e hl x).trans hx⟩)) ((aq e hl y).trans hy) (.inl ⟨rfl,rfl⟩)
  ·rename_i ti ht;cases h;exact iH hd ho (bB.t t _ ht) hs (.inr (.inr ⟨ds,(aq e hl x).trans hx⟩)) ((aq e hl y).trans hy) (.inr ⟨rfl,rfl⟩)
  ·cases h
 ·rename_i sz a l n' c' hx hy;split at h
  ·rename_i ti ht;cases h;exact oY hd ho (bB.t t _ ht) hs (.inl ⟨_,_,_,(aq e hl x).trans hx,rfl⟩) ((aq e hl y).trans hy) (.inl ⟨rfl,rfl⟩)
  ·rename_i ti ht;cases h;exact oY hd ho (bB.t t _ ht) hs (.inl ⟨_,_,_,(aq e hl x).trans hx,rfl⟩) ((aq e hl y).trans hy) (.inr ⟨rfl,rfl⟩)
  ·cases h
 ·rename_i ao n c n' c' hx hy;split at h
  ·rename_i ti ht;cases h;exact oY hd ho (bB.t t _ ht) hs (.inr ⟨_,_,_,(aq e hl x).trans hx,rfl⟩) ((aq e hl y).trans hy) (.inl ⟨rfl,rfl⟩)
  ·rename_i ti ht;cases h;exact oY hd ho (bB.t t _ ht) hs (.inr ⟨_,_,_,(aq e hl x).trans hx,rfl⟩) ((aq e hl y).trans hy) (.inr ⟨rfl,rfl⟩)
  ·cases h
 ·rename_i ds es hx hy;split at h
  ·rename_i n xs ys hq h1 h2;split at h
   ·cases h;exact yw hd ho (bB.q t n hq) (.inl rfl) ((aq e hl x).trans hx) ((aq e hl y).trans hy) h1 h2 hs.1 hs.2
   ·cases h;have:=yw (X:=X) (ops:=ops) (s:=bp e hl) hd ho (bB.q t n hq) (.inr rfl) ((aq e hl x).trans hx) ((aq e hl y).trans hy) h1 h2 hs.1 hs.2;simpa using this
   ·cases h
  ·cases h
 ·cases h
include bB in
theorem EM {t f:Nat}{x:Operand}(ho:o.op= .fieldAddr t x f)(h:sM (T t) f (cK e x)= .res p eff touch side)(hs:side):bj X ops (bp e hl) o {pv:=p,eff:=eff,touch:=touch}:=by
 unfold sM at h;split at h
 ·rename_i ti ht;split at h
  ·rename_i off sz hf;split at h
   ·rename_i ds hx;cases h;exact GY hd ho (bB.t t ti ht) hf hs ((aq e hl x).trans hx)
   ·rename_i k o' hx;cases h;exact yy hd ho (bB.t t ti ht) hf hs ((aq e hl x).trans hx)
   ·rename_i k g sz' i j hx;cases h;exact BB hd ho (bB.t t ti ht) hf hs ((aq e hl x).trans hx)
   ·cases h
  ·cases h
 ·cases h
omit hd in
theorem p6 {α:Type}{l:List α}{j:Nat}{d:α}{r:List α}(h:l.drop j=d::r):l[j]? =some d:=by
 have:=WU (xs:=l) (i:=j) (j:=0);rw[h]at this;simpa using this.symm
include bB in
theorem Hm {t:Nat}{x:Operand}(ho:o.op= .load t x)(h:yV (T t) (aw hl) (cK e x)= .res p eff touch side)(hs:side):bj X ops (bp e hl) o {pv:=p,eff:=eff,touch:=touch}:=by
 unfold yV at h;split at h
 ·rename_i ti ht;have ht:=bB.t t ti ht;split at h
  ·rename_i ds hx;have hx:=(aq e hl x).trans hx;split at h
   ·rename_i nd;cases h;exact yz hd ho ht hx hs (.inl ⟨nd,rfl⟩)
   ·rename_i nd;split at h
    ·rename_i d r;cases h;have hs':ti.size=1:=hs;exact yz hd ho ht hx (by rw[hs'];simp) (.inr ⟨by simpa using nd,hs',rfl⟩)
    ·cases h
  ·rename_i k off hx;have hx:=(aq e hl x).trans hx;split at h
   ·rename_i TT cells hk;split at h
    ·rename_i nd;cases h;exact yA hd ho ht hx (s:=bp e hl) hk hs (.inl ⟨nd,rfl⟩)
    ·rename_i nd;split at h
     ·rename_i q r hc;cases h;have hs':ti.size=1:=hs;have hc':=p6 hc;exact yA hd ho ht hx (s:=bp e hl) hk (by have:=(V3.1 hc').1;omega) (.inr ⟨by simpa using nd,hs',hc'⟩)
     ·cases h
   ·cases h
  ·rename_i k g sz i j hx;have hx:=(aq e hl x).trans hx;split at h
   ·rename_i E sz' g' rows hk;split at h
    ·rename_i row bu;split at h
     ·rename_i nd;cases h;obtain⟨rfl,rfl,hj⟩:=hs;exact vJ hd ho ht hx (s:=bp e hl) hk bu hj (.inl ⟨nd,rfl⟩)
     ·rename_i nd;split at h
      ·rename_i d r hc;cases h;obtain⟨rfl,rfl,hs',hj⟩:=hs;have hc':=p6 hc;exact vJ hd ho ht hx (s:=bp e hl) hk bu (by omega) (.inr ⟨by simpa using nd,hs',hc'⟩)
      ·cases h
    ·cases h
   ·cases h
  ·cases h
 ·cases h
include bB in
theorem Kk {op:BinOp}{t t':Nat}{x:Operand}(ho:o.op= .binOp op t x (.const .nilIface) t')(h:Hh (T t) op (cK e x)= .res p eff touch side)(hs:side):bj X ops (bp e hl) o {pv:=p,eff:=eff,touch:=touch}:=by
 unfold Hh at h;split at h
 ·rename_i ti ht hx;cases h;exact oV hd ho (bB.t _ _ ht) hs ((aq e hl x).trans hx) (.inl rfl) (.inl ⟨rfl,rfl⟩)
 ·rename_i ti ht hx;cases h;exact oV hd ho (bB.t _ _ ht) hs ((aq e hl x).trans hx) (.inl rfl) (.inr ⟨rfl,rfl⟩)
 ·rename_i ti ht hx;cases h;exact oV hd ho (bB.t _ _ ht) hs ((aq e hl x).trans hx) (.inr rfl) (.inl ⟨rfl,rfl⟩)
 ·rename_i ti ht hx;cases h;exact oV hd ho (bB.t _ _ ht) hs ((aq e hl x).trans hx) (.inr rfl) (.inr ⟨rfl,rfl⟩)
 ·cases h
include bB in
theorem EN {t:Nat}{x y:Operand}(ho:o.op= .indexAddr t x y)(h:sN T (T t) (aw hl) (cK e x) (cK e y)= .res p eff touch side)(hs:side):bj X ops (bp e hl) o {pv:=p,eff:=eff,touch:=touch}:=by
 unfold sN at h;split at h
 ·rename_i ti ht;split at h
  ·rename_i el he;split at h
   ·rename_i te eP;split at h
    ·rename_i kd n hy;have hy:=(aq e hl y).trans hy;split at h
     ·rename_i sz rows hx;split at h
      ·rename_i row bu;cases h;exact G1 hd ho (bB.t t ti ht) he (bB.t el te eP) hs.1 ((aq e hl x).trans hx) hy hs.2 bu
      ·cases h
     ·rename_i k g hx;split at h
      ·rename_i e' sz g' rows hk;cases h;obtain⟨rfl,rfl,h1,h2,h3⟩:=hs;exact yD hd ho (bB.t t ti ht) he (bB.t _ te eP) h1 ((aq e hl x).trans hx) (s:=bp e hl) hk hy h2 h3
      ·cases h
     ·rename_i k g sz st m hx;cases h;exact yJ hd ho (bB.t t ti ht) he (bB.t _ te eP) hs.1 ((aq e hl x).trans hx) (s:=bp e hl) hy hs.2.1 hs.2.2
     ·cases h
    ·cases h
   ·cases h
  ·split at h
   ·rename_i m el k off kd n ha hx hy;split at h
    ·rename_i te eP;cases h;exact BM hd ho (bB.t t ti ht) ha (bB.t el te eP) rfl ((aq e hl x).trans hx) ((aq e hl y).trans hy) hs.1 hs.2
    ·cases h
   ·cases h
 ·cases h
include bB in
theorem EO {t:Nat}{x y:Operand}(ho:o.op= .index t x y)(h:sO T (T t) (cK e x) (cK e y)= .res p eff touch side)(hs:side):bj X ops (bp e hl) o {pv:=p,eff:=eff,touch:=touch}:=by
 unfold sO at h;split at h
 ·rename_i ti ht;split at h
  ·rename_i a kd n hx hy;cases h;exact yP hd ho (bB.t t ti ht) hs.1 ((aq e hl x).trans hx) ((aq e hl y).trans hy) hs.2.1 hs.2.2
  ·rename_i ds kd n hx hy;split at h
   ·rename_i m el ha;split at h
    ·rename_i te eP;split at h
     ·rename_i q hq;cases h;exact yS hd ho (bB.t t ti ht) ha (bB.t el te eP) hs.1 hs.2.1 ((aq e hl x).trans hx) ((aq e hl y).trans hy) hs.2.2.1 hs.2.2.2 hq
     ·cases h
    ·cases h
   ·cases h
  ·cases h
 ·cases h
theorem Hn {x:Operand}{i:Nat}(ho:o.op= .extract x i)(h:vS (cK e x) i= .res p eff touch side)(_hs:side):bj X ops (bp e hl) o {pv:=p,eff:=eff,touch:=touch}:=by
 unfold vS at h;split at h
 ·rename_i ds hx;split at h
  ·rename_i d hi;cases h;exact BA hd ho ((aq e hl x).trans hx) hi
  ·cases h
 ·rename_i ds hx;split at h
  ·rename_i d hi;cases h;exact yB hd ho ((aq e hl x).trans hx) hi
  ·cases h
 ·cases h
omit hd in
theorem p7:∀{parts:List (Nat × Operand)}{pd:List (Nat × List PV)},p4 e parts=some pd→pd.length=parts.length∧∀(j:Nat) (i:Nat) (x:Operand),parts[j]? =some (i,x)→pd[j]? =some (i,cj (cK e x))∧vH (cK e x)=true
 |[],pd,h=>by cases h;simp
 |(i,x)::l,pd,h=>by
  unfold p4 at h;split at h
  ·rename_i cr;split at h
   ·rename_i pd' h2;cases h;obtain⟨q1,q2⟩:=p7 h2;refine⟨by simp[q1],fun j i' y hj=>?_⟩;cases j with
    |zero=>
     simp at hj;obtain⟨rfl,rfl⟩:=hj;exact⟨rfl,cr⟩
    |succ j=>simpa using q2 j i' y (by simpa using hj)
   ·cases h
  ·cases h
include bB in
theorem EP {t:Nat}{parts:List (Nat × Operand)}(ho:o.op= .build t ⟨parts⟩)(h:sP T (T t) e parts= .res p eff touch side)(_hs:side):bj X ops (bp e hl) o {pv:=p,eff:=eff,touch:=touch}:=by
 unfold sP at h;split at h
 ·rename_i ti ht;split at h
  ·split at h
   ·rename_i n el ha;split at h
    ·rename_i te pd eP hp;split at h
     ·rename_i out hf;cases h;obtain⟨q1,q2⟩:=p7 hp;refine yT hd ho (bB.t t ti ht) ha (bB.t el te eP) (pd:=pd) (by simpa using q1) (fun j i x hj=>?_) hf;obtain⟨r1,r2⟩:=q2 j i x (by simpa using hj);rw[aq];exact⟨r1,r2⟩
     ·cases h
    ·cases h
   ·cases h
  ·rename_i f fs iN;split at h
   ·rename_i pd hp;split at h
    ·rename_i out hf;cases h;obtain⟨q1,q2⟩:=p7 hp;refine G4 hd ho (bB.t t ti ht) (by rw[iN];simp) (pd:=pd) (by simpa using q1) (fun j i x hj=>?_) (by rw[←hf,iN]);obtain⟨r1,r2⟩:=q2 j i x (by simpa using hj);rw[aq];exact⟨r1,r2⟩
    ·cases h
   ·cases h
 ·cases h
omit hd in
theorem y7:∀{parts:List (Nat × Operand)}{n:Nat}{rows:List (List PV)},yW e n parts=some rows→parts.length=rows.length∧∀(j:Nat) (i:Nat) (x:Operand),parts[j]? =some (i,x)→
 i=n+j∧rows[j]? =some (cj (cK e x))∧vH (cK e x)=true
 |[],n,rows,h=>by cases h;simp
 |(i,x)::l,n,rows,h=>by
  unfold yW at h;split at h
  ·rename_i cr;simp only[Wd,beq_iff_eq]at cr;split at h
   ·rename_i rows' h2;cases h;obtain⟨q1,q2⟩:=y7 h2;refine⟨by simp[q1],fun j i' y hj=>?_⟩;cases j with
    |zero=>
     simp at hj;obtain⟨rfl,rfl⟩:=hj;exact⟨by omega,rfl,cr.1⟩
    |succ j=>
     obtain⟨r0,r1,r3⟩:=q2 j i' y (by simpa using hj);exact⟨by omega,by simpa using r1,r3⟩
   ·cases h
  ·cases h
omit hd in
theorem Ho:∀{rows:List (List PV)}{ds:List (List D)},Pf rows=some ds→rows.length=ds.length∧∀(j:Nat) (r:List PV),rows[j]? =some r→∃d,ds[j]? =some d∧sx r=some d
 |[],ds,h=>by cases h;simp
 |r::l,ds,h=>by
  unfold Pf at h;split at h
  ·rename_i d ds' h1 h2;cases h;obtain⟨q1,q2⟩:=Ho h2;refine⟨by simp[q1],fun j x hj=>?_⟩;cases j with
   |zero=>simp at hj;subst hj;exact⟨d,rfl,h1⟩
   |succ j=>simpa using q2 j x (by simpa using hj)
  ·cases h
omit hd in
theorem nR {sz:Nat}:∀{rows:List (List PV)},sQ sz rows→∀r∈rows,r.length=sz
 |r::rows,h,q,hq=>by
  rcases WI.1 hq with rfl|hq
  ·exact h.1
  ·exact nR h.2 q hq
include bB in
theorem Kl (ik:X.m≤hl.length){t n:Nat}{parts:List (Nat × Operand)}(ho:o.op= .buildSlice t n ⟨parts⟩)(h:Hi T (T t) hl.length e n parts= .res p eff touch side)(hs:side):bj X ops (bp e hl) o {pv:=p,eff:=eff,touch:=touch}:=by
 unfold Hi at h;split at h
 ·rename_i ti ht;split at h
  ·rename_i el he;split at h
   ·rename_i te eP;split at h
    ·cases h;exact sJ hd ho (bB.t t ti ht) he (bB.t el te eP) (s:=bp e hl) (ey hl) (by omega)
    ·rename_i n' parts';split at h
     ·rename_i rows hr;obtain⟨q1,q2⟩:=y7 hr;split at h
      ·rename_i ds cZ;have cZ:Pf rows=some ds:=by
        by_cases hq:te.kind=2
        ·rw[if_pos hq]at cZ;cases cZ
        ·rw[if_neg hq]at cZ;exact cZ
       cases h;obtain⟨h1,h2,h3,h4⟩:=hs;obtain⟨g1,g2⟩:=Ho cZ;refine uM hd ho (bB.t t ti ht) he (bB.t el te eP) rfl h1 (by omega) h2 (by omega) (by simp;omega) (fun j i x hj=>?_);obtain⟨r0,r1,r3⟩:=q2 j i x (by simpa using hj);obtain⟨d,g3,g4⟩:=g2 j _ r1;have bc:=nR h4 _ (V0 r1);refine⟨by omega,d,g3,by rw[aq];exact g4,by rw[aq];exact r3,?_⟩;have:=congrArg List.length (oR g4);rw[Wg]at this;omega
      ·cases h;obtain⟨h1,h2,h3,h4⟩:=hs;refine sI hd ho (bB.t t ti ht) he (bB.t el te eP) rfl h1 (by omega) h2 h3 (by simp;omega) (s:=bp e hl) (ey hl) (by omega) (fun j i x hj=>?_);obtain⟨r0,r1,r3⟩:=q2 j i x (by simpa using hj);rw[aq];exact⟨by omega,r1,r3,nR h4 _ (V0 r1)⟩
     ·cases h
    ·cases h
   ·cases h
  ·cases h
 ·cases h
include bB in
theorem Hp (ik:X.m≤hl.length){t:Nat}{x y:Operand}(ho:o.op= .makeSlice t x y)(h:yX T (T t) hl.length (cK e x) (cK e y)= .res p eff touch side)(hs:side):bj X ops (bp e hl) o {pv:=p,eff:=eff,touch:=touch}:=by
 unfold yX at h;split at h
 ·rename_i ti ht;split at h
  ·rename_i el he;split at h
   ·rename_i te eP;split at h
    ·rename_i zv kx n ky m hz hx hy;cases h;obtain⟨h1,h2,h3,h4⟩:=hs;subst h1;exact xf hd ho (bB.t t ti ht) he (bB.t el te eP) hz h2 h3 h4 (s:=bp e hl) (by rw[aq];exact hx) (by rw[aq];exact hy) (ey hl) (by omega)
    ·cases h
   ·cases h
  ·cases h
 ·cases h
include bB in
theorem Hq {src dst:Nat}{x:Operand}(ho:o.op= .convert src dst x)(h:yY T (T src) (T dst) (cK e x)= .res p eff touch side)(hs:side):bj X ops (bp e hl) o {pv:=p,eff:=eff,touch:=touch}:=by
 unfold yY at h;split at h
 ·rename_i ts td h1 h2;split at h
  ·rename_i k k' n hi hx;cases h;exact BJ hd ho (bB.t _ _ h1) (bB.t _ _ h2) hi ((aq e hl x).trans hx)
  ·rename_i rows hi hx;split at h
   ·rename_i el he;split at h
    ·rename_i te eP;split at h
     ·rename_i xs hb;cases h;exact yR hd ho (bB.t _ _ h1) (bB.t _ _ h2) he (bB.t _ _ eP) hs.1 hs.2 ((aq e hl x).trans hx) hb
     ·cases h
    ·cases h
   ·cases h
  ·cases h
 ·cases h
include bB in
theorem Km {t:Nat}{x:Operand}(ho:o.op= .call ⟨.builtin .len,⟨[x]⟩,⟨[t]⟩⟩)(h:Hj (T t) (aw hl) (cK e x)= .res p eff touch side)(hs:side):bj X ops (bp e hl) o {pv:=p,eff:=eff,touch:=touch}:=by
 unfold Hj at h;split at h
 ·rename_i ti ht;split at h
  ·rename_i el he;split at h
   ·rename_i sz rows hx;cases h;exact G3 (ty:=0) hd ho (bB.t _ _ ht) he ((aq e hl x).trans hx) (.inl ⟨_,_,rfl,rfl⟩)
   ·rename_i hx;cases h;exact G3 (ty:=0) hd ho (bB.t _ _ ht) he ((aq e hl x).trans hx) (.inr ⟨rfl,rfl⟩)
   ·rename_i k g hx;split at h
    ·rename_i E sz g' rows hk;cases h;subst hs;exact Ez hd ho (bB.t _ _ ht) he ((aq e hl x).trans hx) (s:=bp e hl) hk
    ·cases h
   ·rename_i k g sz st n hx;cases h;exact EE hd ho (bB.t _ _ ht) he ((aq e hl x).trans hx)
   ·cases h
  ·split at h
   ·rename_i a hx;cases h;exact EL hd ho (bB.t _ _ ht) hs ((aq e hl x).trans hx)
   ·cases h
 ·cases h
omit hd in
theorem Kn {sz:Nat}{y:PV}{news:List (List PV)}{ty:List Nat}(h:Kh (aw hl) sz y=some (news,ty)):SrcP (bp e hl) sz y news ty:=by
 unfold Kh at h;split at h
 ·split at h
  ·rename_i e1;subst e1;cases h;exact .sl _
  ·cases h
 ·cases h;exact .nil _ _
 ·split at h
  ·rename_i E sz' g' rows hk;split at h
   ·rename_i e1;obtain⟨rfl,rfl⟩:=e1;cases h;exact .own _ _ _ _ hk
   ·cases h
  ·cases h
 ·split at h
  ·rename_i E sz' g' rows hk;split at h
   ·rename_i e1;obtain⟨rfl,rfl,rfl⟩:=e1;cases h;exact .osl _ _ _ _ _ _ hk
   ·cases h
  ·cases h
 ·cases h
include bB in
theorem Ko (ik:X.m≤hl.length){t:Nat}{x y:Operand}(ho:o.op= .call ⟨.builtin .append,⟨[x,y]⟩,⟨[t,t]⟩⟩)(h:Hk T (T t) hl.length (aw hl) (cK e x) (cK e y)= .res p eff touch side)(hs:side):bj X ops (bp e hl) o {pv:=p,eff:=eff,touch:=touch}:=by
 unfold Hk at h;split at h
 ·rename_i ti ht;split at h
  ·rename_i el he;split at h
   ·rename_i te eP;split at h
    ·cases h
    ·rename_i hz;have lE:0 < te.size:=by omega
     have rT:0 < te.bytes:=by omega
     have big:∀m:Nat,m*te.bytes≤140737488355328→m≤9223372036854775807:=fun m hm=>by
      have:=Nat.le_mul_of_pos_right m rT;omega
     split at h
     ·rename_i news ty pJ;have pJ:=Kn (e:=e) (hl:=hl) pJ;rw[←aq e hl]at pJ;split at h
      ·rename_i k g hx;split at h
       ·rename_i e' sz g' rows hk;cases h;obtain⟨rfl,rfl,rfl,hb⟩:=hs;exact EA hd ho (bB.t _ _ ht) he (bB.t _ _ eP) rfl lE ((aq e hl x).trans hx) (s:=bp e hl) hk pJ (big _ hb) hb
       ·cases h
      ·rename_i hx;cases h;exact w9 hd ho (bB.t _ _ ht) he (bB.t _ _ eP) rfl lE ((aq e hl x).trans hx) (s:=bp e hl) (ey hl) (by omega) pJ (big _ hs) hs
      ·rename_i k g sz st n hx;split at h
       ·rename_i e' sz' g' rows hk;cases h;obtain⟨rfl,rfl,rfl,rfl,rfl,h1,h2⟩:=hs;exact xa hd ho (bB.t _ _ ht) he (bB.t _ _ eP) rfl lE ((aq e hl x).trans hx) (s:=bp e hl) hk h1 pJ h2
       ·cases h
      ·cases h
     ·cases h
   ·cases h
  ·cases h
 ·cases h
include bB in
theorem EQ {t:Nat}{x:Operand}{lo hi mx:Option Operand}(ho:o.op= .slice t x lo hi mx)(h:sS T (T t) (aw hl) (cK e x) (lo.map (cK e)) (hi.map (cK e)) (mx.map (cK e))= .res p eff touch side)(hs:side):bj X ops (bp e hl) o {pv:=p,eff:=eff,touch:=touch}:=by
 have hm:∀y:Option Operand,y.map (cK e)=y.map (ev (bp e hl)):=fun y=>by cases y<;>simp[aq]
 rw[hm lo,hm hi]at h;unfold sS at h;split at h
 ·rename_i ti ht;split at h
  ·rename_i el he;split at h
   ·rename_i te eP;split at h
    ·rename_i A5;have A5:mx=none:=by simpa using A5
     subst A5;split at h
     ·rename_i sz rows hx;split at h
      ·rename_i l r jq jN;cases h;exact EC hd ho (bB.t _ _ ht) he (bB.t _ _ eP) hs.1 ((aq e hl x).trans hx) jq jN hs.2.1 hs.2.2
      ·cases h
     ·rename_i k g hx;split at h
      ·rename_i e' sz g' hk;split at h
       ·rename_i l r jq jN;cases h;obtain⟨rfl,rfl,h1,rfl,rfl⟩:=hs;exact xb hd ho (bB.t _ _ ht) he (bB.t _ _ eP) h1 ((aq e hl x).trans hx) (s:=bp e hl) hk jq jN
       ·cases h
      ·rename_i e' sz g' rows bq hk;split at h
       ·rename_i l r jq jN;cases h;obtain⟨rfl,rfl,h1,h2,h3,h4⟩:=hs;exact yH hd ho (bB.t _ _ ht) he (bB.t _ _ eP) h1 ((aq e hl x).trans hx) (s:=bp e hl) hk h2 jq jN h3 h4
       ·cases h
      ·cases h
     ·rename_i k g sz st n hx;split at h
      ·rename_i e' sz' g' rows hk;split at h
       ·rename_i l r jq jN;cases h;obtain⟨rfl,rfl,rfl,h1,h2,h3,h4⟩:=hs;exact yI hd ho (bB.t _ _ ht) he (bB.t _ _ eP) h1 ((aq e hl x).trans hx) (s:=bp e hl) hk h2 jq jN h3 h4
       ·cases h
      ·cases h
     ·cases h
    ·rename_i m A5;split at h
     ·rename_i k g k1 n1 k2 n2 k3 n3 hx jq jN;split at h
      ·rename_i e' sz g' rows hk;cases h;obtain⟨rfl,rfl,h1,h2,h3,h4,h5,h6⟩:=hs;cases lo with
       |none=>cases jq
       |some y1=>cases hi with
        |none=>cases jN
        |some y2=>cases mx with
         |none=>cases A5
         |some y3=>
          simp only[WQ,WD.injEq]at jq jN A5;exact ED hd ho (bB.t _ _ ht) he (bB.t _ _ eP) h1 ((aq e hl x).trans hx) (s:=bp e hl) hk h2 jq jN ((aq e hl y3).trans A5) h3 h4 h5 h6
      ·cases h
     ·cases h
   ·cases h
  ·split at h
   ·rename_i a hx A5;have A5:mx=none:=by simpa using A5
    subst A5;split at h
    ·rename_i l r jq jN;cases h;exact yQ hd ho (bB.t _ _ ht) hs.1 ((aq e hl x).trans hx) jq jN hs.2.1 hs.2.2
    ·cases h
   ·cases h
 ·cases h
include bB in
theorem ER {t:Nat}{x:Operand}(ho:o.op= .call ⟨.builtin .clear,⟨[x]⟩,⟨[t]⟩⟩)(h:sU T (T t) (aw hl) (cK e x)= .res p eff touch side)(hs:side):bj X ops (bp e hl) o {pv:=p,eff:=eff,touch:=touch}:=by
 unfold sU at h;split at h
 ·rename_i ti ht;split at h
  ·rename_i el he;split at h
   ·rename_i te eP;split at h
    ·rename_i k g sz st n hx;split at h
     ·rename_i e' sz' g' rows hk;cases h;obtain⟨rfl,rfl,rfl,h1,h2,h3⟩:=hs;exact yG hd ho (bB.t _ _ ht) he (bB.t _ _ eP) h1 ((aq e hl x).trans hx) (s:=bp e hl) hk h2 h3
     ·cases h
    ·cases h
   ·cases h
  ·cases h
 ·cases h
include bB in
theorem ES {t:Nat}{x y:Operand}(ho:o.op= .store t x y)(h:sR (T t) (aw hl) o.dst (cK e x) (cK e y)= .res p eff touch side)(hs:side):bj X ops (bp e hl) o {pv:=p,eff:=eff,touch:=touch}:=by
 unfold sR at h;split at h
 ·rename_i ti ht qH;split at h
  ·rename_i k off hx;split at h
   ·rename_i TT cells hk;split at h
    ·rename_i cr;cases h;have:=G6 (X:=X) (ops:=ops) hd ho qH (bB.t _ _ ht) ((aq e hl x).trans hx) (s:=bp e hl) hk (y:=y) (by rw[aq];exact cr) (by rw[aq];exact hs.1) hs.2;rwa [aq]at this
    ·cases h
   ·cases h
  ·rename_i k g sz i j hx;split at h
   ·rename_i E sz' g' rows hk;split at h
    ·rename_i row bu;split at h
     ·rename_i cr;cases h;obtain⟨rfl,rfl,h1,h2⟩:=hs;have:=BE (X:=X) (ops:=ops) hd ho qH (bB.t _ _ ht) ((aq e hl x).trans hx) (s:=bp e hl) hk bu (y:=y) (by rw[aq];exact cr) (by rw[aq];exact h1) h2;rwa [aq]at this
     ·cases h
    ·cases h
   ·cases h
  ·cases h
 ·cases h
theorem y8 (ik:X.m≤hl.length){t:Nat}(ho:o.op= .makeMap t none)(h:md (T t) hl.length= .res p eff touch side):bj X ops (bp e hl) o {pv:=p,eff:=eff,touch:=touch}:=by
 unfold md at h;split at h
 ·split at h
  ·cases h;exact BI hd ho (s:=bp e hl) (ey hl) (by omega)
  ·cases h
 ·cases h
include bB in
theorem ET (ik:X.m≤hl.length){t:Nat}{m:Operand}(ho:o.op= .range t m)(h:sV (T t) (aw hl) hl.length (cK e m)= .res p eff touch side)(hs:side):bj X ops (bp e hl) o {pv:=p,eff:=eff,touch:=touch}:=by
 unfold sV at h;split at h
 ·rename_i ti ht;split at h
  ·rename_i n sB Qu;split at h
   ·rename_i k hm;split at h
    ·rename_i n' sB' ents hk;cases h;obtain⟨rfl,rfl⟩:=hs;exact Hc (X:=X) (ops:=ops) hd ho (bB.m _ _ _ _ ht Qu) ((aq e hl m).trans hm) (s:=bp e hl) hk (ey hl) (by omega)
    ·cases h
   ·cases h
  ·cases h
 ·cases h
omit bB in
theorem EU {x:Operand}(ho:o.op= .entry x)(h:sW (aw hl) (cK e x)= .res p eff touch side):bj X ops (bp e hl) o {pv:=p,eff:=eff,touch:=touch}:=by
 unfold sW at h;split at h
 ·rename_i k hx;split at h
  ·rename_i n sB ents seen hk;split at h
   ·rename_i i hi;split at h
    ·rename_i kv M4;cases h;exact He (X:=X) (ops:=ops) hd ho ((aq e hl x).trans hx) (s:=bp e hl) hk hi M4
    ·cases h
   ·cases h
  ·cases h
 ·cases h
include bB in
theorem BN {t:Nat}{m x:Operand}{ok:Bool}(ho:o.op= .lookup t m x ok)(h:oX (T t) (aw hl) (cK e m) (cK e x) ok= .res p eff touch side)(hs:side):bj X ops (bp e hl) o {pv:=p,eff:=eff,touch:=touch}:=by
 unfold oX at h;split at h
 ·rename_i ti ht;split at h
  ·rename_i n sB Qu;split at h
   ·rename_i k hm;split at h
    ·rename_i n' sB' ents hk;split at h
     ·rename_i xs hx;cases h;obtain⟨rfl,rfl,h3⟩:=hs;exact EH (X:=X) (ops:=ops) hd ho (bB.m _ _ _ _ ht Qu) ((aq e hl m).trans hm) (s:=bp e hl) hk (by rw[aq];exact hx) h3
     ·cases h
    ·cases h
   ·cases h
  ·cases h
 ·cases h
include bB in
theorem vU {t:Nat}{m x y:Operand}(ho:o.op= .mapUpdate t m x y∨o.op= .insert t m x y)(h:p5 (T t) (aw hl) o.dst (cK e m) (cK e x) (cK e y)= .res p eff touch side)(hs:side):bj X ops (bp e hl) o {pv:=p,eff:=eff,touch:=touch}:=by
 unfold p5 at h;split at h
 ·rename_i ti ht qH;split at h
  ·rename_i n sB Qu;split at h
   ·rename_i k hm;split at h
    ·rename_i n' sB' ents hk;split at h
     ·rename_i xs v hx hy;cases h;obtain⟨rfl,rfl,h3⟩:=hs;exact xd (X:=X) (ops:=ops) hd ho qH (bB.m _ _ _ _ ht Qu) ((aq e hl m).trans hm) (s:=bp e hl) hk (by rw[aq];exact hx) h3 ((aq e hl y).trans hy)
     ·cases h
    ·cases h
   ·cases h
  ·cases h
 ·cases h
end
section
variable {X:Cfg}{ops:Array Oper}{e:bK}{hl:List Chunk}{o:Oper}{T:Nat→Option TI}{Q:Nat→Option Nat}(bB:TabOK X.P T Q)(hd:∀d,o.dst=some d→d < X.n)
include bB hd
theorem Hr (ik:X.m≤hl.length){p:PV}{eff:List (Nat × Chunk)}{touch:List Nat}{side:Prop}(h:JS T Q e hl o= .res p eff touch side)(hs:side):bj X ops (bp e hl) o {pv:=p,eff:=eff,touch:=touch}:=by
 unfold JS at h;split at h
 ·rename_i x ho;cases h;have:=J9 (X:=X) (ops:=ops) (s:=bp e hl) hd ho;rwa [aq]at this
 ·rename_i x ho;cases h;have:=Ex (X:=X) (ops:=ops) (s:=bp e hl) hd ho;rwa [aq]at this
 ·rename_i ho;exact Hl hd ho h hs
 ·rename_i ho;exact Nx hd ho h hs
 ·rename_i ho;exact Ki hd ho h hs
 ·rename_i ho;exact Kk bB hd ho h hs
 ·rename_i ho;exact Kj bB hd ho h hs
 ·rename_i ho;exact EM bB hd ho h hs
 ·rename_i ho;exact Hm bB hd ho h hs
 ·rename_i ho;exact EN bB hd ho h hs
 ·rename_i ho;exact EO bB hd ho h hs
 ·rename_i ho;exact Hn hd ho h hs
 ·rename_i t ho;split at h
  ·rename_i ti ht;cases h;exact G5 hd ho (bB.t _ _ ht) (s:=bp e hl) (ey hl) (by omega)
  ·cases h
 ·rename_i t x ho;split at h
  ·rename_i cr;cases h;have:=Nt (X:=X) (ops:=ops) (s:=bp e hl) hd ho (ey hl) (by omega) (by rw[aq];exact cr);rwa [aq]at this
  ·cases h
 ·rename_i ho;exact ES bB hd ho h hs
 ·rename_i ho;exact EP bB hd ho h hs
 ·rename_i ho;exact Kl bB hd ik ho h hs
 ·rename_i g caps ho;cases h;have:=yC (X:=X) (ops:=ops) (s:=bp e hl) hd ho;have e1:(List.map (ev (bp e hl)) caps)=caps.map (cK e):=Xr fun x _=>aq e hl x;simp only at this;rwa [e1]at this
 ·rename_i ho;exact Hq bB hd ho h hs
 ·rename_i ho;exact Km bB hd ho h hs
 ·rename_i ho;exact EQ bB hd ho h hs
 ·rename_i ho;exact ER bB hd ho h hs
 ·rename_i x y t t' ho;split at h
  ·rename_i e1;subst e1;exact Ko bB hd ik ho h hs
  ·cases h
 ·rename_i x y tys ho;split at h
  ·rename_i k m k' n hx hy;split at h
   ·rename_i e1;subst e1;cases h;exact Nu hd ho ((aq e hl x).trans hx) ((aq e hl y).trans hy)
   ·cases h
  ·cases h
 ·rename_i x y tys ho;split at h
  ·rename_i k m k' n hx hy;split at h
   ·rename_i e1;subst e1;cases h;exact Nv hd ho ((aq e hl x).trans hx) ((aq e hl y).trans hy)
   ·cases h
  ·cases h
 ·unfold yZ at h;split at h<;>cases h
 ·rename_i ho;exact Hp bB hd ik ho h hs
 ·rename_i ho;exact y8 hd ik ho h
 ·rename_i ho;exact BN bB hd ho h hs
 ·rename_i ho;exact ET bB hd ik ho h hs
 ·rename_i ho;exact EU hd ho h
 ·rename_i ho;exact vU bB hd (.inl ho) h hs
 ·rename_i ho;exact vU bB hd (.inr ho) h hs
 ·cases h
omit bB hd in
theorem Hs {g:Nat}{ps:List PV}(h:JS T Q e hl o= .call g ps):∃(fo:Operand) (args:List Operand) (tys:Array Nat) (caps:List PV),o.op= .call ⟨.value fo,⟨args⟩,tys⟩∧(cK e fo= .clo g caps∨∃cd:List D,cK e fo= .d (.clo g cd)∧caps=cd.map .d)∧ps=args.map (cK e)++caps:=by
 have key:∀(fo:Operand) (args:List Operand) (tys:Array Nat),o.op= .call ⟨.value fo,⟨args⟩,tys⟩→yZ (cK e fo) (args.map (cK e))= .call g ps→∃(fo:Operand) (args:List Operand) (tys:Array Nat) (caps:List PV),o.op= .call ⟨.value fo,⟨args⟩,tys⟩∧(cK e fo= .clo g caps∨∃cd:List D,cK e fo= .d (.clo g cd)∧caps=cd.map .d)∧ps=args.map (cK e)++caps:=by
  intro fo args tys ho h;unfold yZ at h;split at h
  ·rename_i g' caps OJ;cases h;exact⟨fo,args,tys,caps,ho,.inl OJ,rfl⟩
  ·rename_i g' cd OJ;cases h;exact⟨fo,args,tys,_,ho,.inr ⟨cd,OJ,rfl⟩,rfl⟩
  ·cases h
 unfold JS at h;split at h<;>first
  |(rename_i ho;exact key _ _ _ ho h)
  |(exfalso;revert h;unfold oW;repeat(first|(split)|(intro h;cases h)))
  |(exfalso;revert h;unfold PC;repeat(first|(split)|(intro h;cases h)))
  |(exfalso;revert h;unfold Hf;repeat(first|(split)|(intro h;cases h)))
  |(exfalso;revert h;unfold Hh;repeat(first|(split)|(intro h;cases h)))
  |(exfalso;revert h;unfold Hg;repeat(first|(split)|(intro h;cases h)))
  |(exfalso;revert h;unfold sM;repeat(first|(split)|(intro h;cases h)))
  |(exfalso;revert h;unfold yV;repeat(first|(split)|(intro h;cases h)))
  |(exfalso;revert h;unfold sO;repeat(first|(split)|(intro h;cases h)))
  |(exfalso;revert h;unfold sN;repeat(first|(split)|(intro h;cases h)))
  |(exfalso;revert h;unfold vS;repeat(first|(split)|(intro h;cases h)))
  |(exfalso;revert h;unfold sR;repeat(first|(split)|(intro h;cases h)))
  |(exfalso;revert h;unfold sP;repeat(first|(split)|(intro h;cases h)))
  |(exfalso;revert h;unfold Hi;repeat(first|(split)|(intro h;cases h)))
  |(exfalso;revert h;unfold yY;repeat(first|(split)|(intro h;cases h)))
  |(exfalso;revert h;unfold Hj;repeat(first|(split)|(intro h;cases h)))
  |(exfalso;revert h;unfold Hk;repeat(first|(split)|(intro h;cases h)))
  |(exfalso;revert h;unfold sS;repeat(first|(split)|(intro h;cases h)))
  |(exfalso;revert h;unfold sU;repeat(first|(split)|(intro h;cases h)))
  |(exfalso;revert h;unfold yX;repeat(first|(split)|(intro h;cases h)))
  |(exfalso;revert h;unfold md;repeat(first|(split)|(intro h;cases h)))
  |(exfalso;revert h;unfold oX;repeat(first|(split)|(intro h;cases h)))
  |(exfalso;revert h;unfold sV;repeat(first|(split)|(intro h;cases h)))
  |(exfalso;revert h;unfold sW;repeat(first|(split)|(intro h;cases h)))
  |(exfalso;revert h;unfold p5;repeat(first|(split)|(intro h;cases h)))
  |(exfalso;revert h;repeat(first|(split)|(intro h;cases h)))
end
def ez (e:bK)(dst:Option Nat)(p:PV):bK:=
 match dst with
 |some d=>(d,p)::e
 |none=>e
def bg:List Chunk→Nat→Chunk→List Chunk
 |[],0,c=>[c]
 |[],_+1,_=>[]
 |_::l,0,c=>c::l
 |a::l,k+1,c=>a::bg l k c
def nS:List (Nat × Chunk)→List Chunk→List Chunk
 |[],h=>h
 |(k,c)::l,h=>bg (nS l h) k c
theorem eI:∀{h:List Chunk}{k:Nat}{c:Chunk},k≤h.length→∀k',aw (bg h k c) k'=if k'=k then c else aw h k'
 |[],0,c,_,k'=>by cases k'<;>simp[bg,aw]
 |[],k+1,c,h,k'=>by simp at h
 |a::l,0,c,_,k'=>by cases k'<;>simp[bg,aw]
 |a::l,k+1,c,h,k'=>by
  cases k' with
  |zero=>simp[bg,aw]
  |succ k'=>
   simp only[bg,aw];rw[eI (by simpa using h)];simp
theorem y9:∀{h:List Chunk}{k:Nat}{c:Chunk},h.length≤(bg h k c).length
 |[],0,c=>by simp[bg]
 |[],k+1,c=>by simp[bg]
 |a::l,0,c=>by simp[bg]
 |a::l,k+1,c=>by
  have:=y9 (h:=l) (k:=k) (c:=c);simpa[bg]using this
theorem oZ:∀{eff:List (Nat × Chunk)}{h:List Chunk},h.length≤(nS eff h).length
 |[],_=>Wa _
 |(_,_)::_,_=>W6 oZ y9
theorem p8:∀{eff:List (Nat × Chunk)}{h:List Chunk},(∀kc∈eff,kc.1≤h.length)→∀k',aw (nS eff h) k'=bS eff (aw h) k'
 |[],_,_,_=>rfl
 |(k,c)::l,h,hk,k'=>by
  simp only[nS,bS];rw[eI (W6 (hk (k,c) (by simp)) oZ),p8 fun kc JV=>hk kc (by simp[JV])]
theorem mX {e:bK}{h:List Chunk}{dst:Option Nat}{p:PV}{eff:List (Nat × Chunk)}{touch:List Nat}(hk:∀kc∈eff,kc.1≤h.length):(bp e h).app dst {pv:=p,eff:=eff,touch:=touch}=bp (ez e dst p) (nS eff h):=by
 have h1:aw (nS eff h)=bS eff (aw h):=funext (p8 hk);cases dst with
 |none=>simp only[FS.app,FS.put,bp,ez,h1]
 |some d=>
  simp only[FS.app,FS.put,bp,ez,h1];congr 1
theorem o0:∀{h:List Chunk}{k:Nat}{c:Chunk},k < h.length→(bg h k c).length=h.length
 |a::l,0,c,_=>rfl
 |a::l,k+1,c,hk=>by simp only[bg,Wc];rw[o0 (by simpa using hk)]
theorem za:∀{h:List Chunk}{c:Chunk},(bg h h.length c).length=h.length+1
 |[],c=>rfl
 |a::l,c=>by simp only[bg,Wc];rw[za]
def fy (ρ:Nat→Nat):Nat→List Chunk→List Chunk→List Chunk
 |_,[],h=>h
 |j,c::l,h=>fy ρ (j+1) l (bg h (ρ j) (js ρ c))
theorem sX {ρ:Nat→Nat}(inj:∀i j,ρ i=ρ j→i=j){c:Chunk}:∀(l:List Chunk) (i j:Nat) (h:Nat→Chunk),j < i→∀k,bS (iq ρ i l) (fun k'=>if k'=ρ j then c else h k') k=if k=ρ j then c else bS (iq ρ i l) h k
 |[],i,j,h,hj,k=>rfl
 |d::l,i,j,h,hj,k=>by
  simp only[iq,bS];by_cases e:k=ρ i
  ·rw[if_pos e,if_pos e,if_neg (fun e2=>by have:=inj _ _ (e.symm.trans e2);omega)]
  ·rw[if_neg e,if_neg e];exact sX inj l (i+1) j h (by omega) k
theorem sY {ls:List Nat}{nk:Nat}(jX:ls.Nodup)(hlt:∀k∈ls,k < nk):∀(l:List Chunk) (i:Nat) (h:List Chunk),(i≤ls.length→h.length=nk)→(ls.length≤i→h.length=nk+(i - ls.length))→
 (∀k,aw (fy (dC ls nk) i l h) k=bS (iq (dC ls nk) i l) (aw h) k)∧h.length≤(fy (dC ls nk) i l h).length
 |[],i,h,_,_=>⟨fun _=>rfl,Wa _⟩
 |c::l,i,h,h1,h2=>by
  have inj:∀i j,dC ls nk i=dC ls nk j→i=j:=fun i j e=>xg jX hlt e;rcases Wv i ls.length with hi|hi
  ·have bc:=h1 (by omega);have hk:dC ls nk i < h.length:=by rw[bc];exact hlt _ (V0 (kP hi))
   have jV:=o0 (c:=js (dC ls nk) c) hk;obtain⟨q1,q2⟩:=sY jX hlt l (i+1) (bg h (dC ls nk i) (js (dC ls nk) c)) (fun _=>jV.trans bc) (fun hge=>by rw[jV,bc];omega);refine⟨fun k=>?_,by rw[jV]at q2;exact q2⟩;simp only[fy,iq,bS];rw[q1 k,show aw (bg h (dC ls nk i) (js (dC ls nk) c))=fun k'=>if k'=dC ls nk i then js (dC ls nk) c else aw h k' from funext (eI (YM hk))];exact sX inj l (i+1) i _ (by omega) k
  ·have bc:=h2 hi;have hk:dC ls nk i=h.length:=by
    have:=ip ls nk (i - ls.length);rw[show ls.length+(i - ls.length)=i by omega]at this;omega
   have jV:(bg h (dC ls nk i) (js (dC ls nk) c)).length=h.length+1:=by rw[hk];exact za
   obtain⟨q1,q2⟩:=sY jX hlt l (i+1) (bg h (dC ls nk i) (js (dC ls nk) c)) (fun hge=>by omega) (fun _=>by rw[jV,bc];omega);refine⟨fun k=>?_,W6 (by omega) q2⟩;simp only[fy,iq,bS];rw[q1 k,show aw (bg h (dC ls nk i) (js (dC ls nk) c))=fun k'=>if k'=dC ls nk i then js (dC ls nk) c else aw h k' from funext (eI (by omega))];exact sX inj l (i+1) i _ (by omega) k
def xm (dj:Option Nat)(e:bK):Option (Option Bool):=
 match dj with
 |none=>some none
 |some t=>match dQ e t with
  | .d (.v (.bool b))=>some (some b)
  | .d (.v (.tuple _))=>some none
  |_=>none
def p9 (ds:List (Option Nat))(e:bK)(o:Oper):Option Bool:=
 match o.guard with
 |none=>some true
 |some (j,want)=>(xm (ds.getD j none) e).map (·==some want)
theorem EV {ops:Array Oper}{e:bK}{h:List Chunk}{o:Oper}:lW ops (bp e h) o=p9 (ops.toList.map (·.dst)) e o:=by
 unfold lW p9;cases o.guard with
 |none=>rfl
 |some jw=>
  obtain⟨j,want⟩:=jw;simp only;congr 1;unfold wV xm;have:(ops[j]?).bind (·.dst)=(ops.toList.map (·.dst)).getD j none:=by
   simp only[Ww,V7,WB];cases ops[j]? <;>rfl
  rw[this];rfl
def Ht (n:Nat)(o:Oper):Bool:=match o.dst with|some d=>decide (d < n)|none=>true
def PD (h:Nat→Chunk)(ps:List PV):Option (List D):=bW (vw h) ps
def Ny (h:Nat→Chunk)(ps:List PV):List Nat:=gq (tc h) ps
def nT (ls:List Nat)(nk n:Nat):List Nat:=(WC n).map (dC ls nk)
def xn (P:Program)(r:SR)(dst:Option Nat)(e:bK)(h:List Chunk)(sm:List (List Nat × List Nat))(R:bK→List Chunk→List (List Nat × List Nat)→Prop):Prop:=
 match r with
 | .no=>False
 | .res p eff touch side=>side∧(eff.all fun kc=>decide (kc.1≤h.length))=true∧R (ez e dst p) (nS eff h) ((eff.map (·.1),touch)::sm)
 | .call g ps=>(∃ds r,PD (aw h) ps=some ds∧ae P g ds r∧(Ny (aw h) ps=[]∨r.flat=true)∧R (ez e dst (.d r)) h (([],Ny (aw h) ps)::sm))∨
  (∃ls args h0 r h1,MSpec P g args h0 r h1∧ps=fK (dC ls h.length) args∧ls.length=h0.length∧ls.Nodup∧(∀k∈ls,k < h.length)∧aX (aw h) (dC ls h.length) 0 h0∧
   R (ez e dst (ren (dC ls h.length) r)) (fy (dC ls h.length) 0 h1 h) ((nT ls h.length h1.length,nT ls h.length h1.length)::sm))∨
  ∃ls args h0 r,MSpec P g args h0 r h0∧ps=fK (dC ls h.length) args∧ls.length=h0.length∧ls.Nodup∧(∀k∈ls,k < h.length)∧aX (aw h) (dC ls h.length) 0 h0∧
   R (ez e dst (ren (dC ls h.length) r)) h (([],nT ls h.length h0.length)::sm)
def rI (P:Program)(n:Nat)(T:Nat→Option TI)(Q:Nat→Option Nat)(draw:Bool)(ops:Array Oper)(ds:List (Option Nat)):List Oper→bK→List Chunk→List (List Nat × List Nat)→(bK→List Chunk→Prop)→Prop
 |[],e,h,sm,K=>(draw=true→(lY ops sm.reverse&&l0 ops)=true)∧K e h
 |o::l,e,h,sm,K=>
  match p9 ds e o with
  |some g=>
   Ht n o=true∧
   (g=true→xn P (JS T Q e h o) o.dst e h sm (fun e' h' sm'=>rI P n T Q draw ops ds l e' h' sm' K))∧
   (g=false→rI P n T Q draw ops ds l (ez e o.dst (.d (.v undef))) h (([],[])::sm) K)
  |none=>False
theorem sZ {X:Cfg}{T:Nat→Option TI}{Q:Nat→Option Nat}(bB:TabOK X.P T Q){draw:Bool}{ops:Array Oper}{K:bK→List Chunk→Prop}:∀(l:List Oper) (i:Nat) (e:bK) (h:List Chunk) (sm:List (List Nat × List Nat)),X.m≤h.length→ops.toList.drop i=l→i≤ops.size→
 rI X.P X.n T Q draw ops (ops.toList.map (·.dst)) l e h sm K→∃its e' h',im X ops (bp e h) i its∧pT (bp e h) its=bp e' h'∧(draw=true→(lY ops (sm.reverse++Bw its)&&l0 ops)=true)∧K e' h'
 |[],i,e,h,sm,ik,hl,hi,hs=>by
  refine⟨[],e,h,?_,rfl,by simpa[Bw]using hs.1,hs.2⟩;have:=congrArg List.length hl;simp at this;simp only[im];omega
 |o::l,i,e,h,sm,ik,hl,hi,hs=>by
  have hlt:i < ops.size:=by
   have:=congrArg List.length hl;simp at this;omega
  have MU:ops[i]? =some o:=by
   have:=WU (xs:=ops.toList) (i:=i) (j:=0);rw[hl]at this;simpa using this.symm
  have hl':ops.toList.drop (i+1)=l:=by
   rw[←List.drop_drop,hl];rfl
  unfold rI at hs;split at hs
  ·rename_i g hg;obtain⟨qH,h1,h2⟩:=hs;have hd:∀d,o.dst=some d→d < X.n:=by
    intro d hd;unfold Ht at qH;rw[hd]at qH;simpa using qH
   have Qv:lW ops (bp e h) o=some g:=EV.trans hg;have step:∀(res:Res) (e2:bK) (h2:List Chunk),GR X ops (bp e h) ⟨o,g,res⟩→(bp e h).app o.dst res=bp e2 h2→h.length≤h2.length→rI X.P X.n T Q draw ops (ops.toList.map (·.dst)) l e2 h2 ((res.eff.map (·.1),res.touch)::sm) K→
    ∃its e' h',im X ops (bp e h) i its∧pT (bp e h) its=bp e' h'∧(draw=true→(lY ops (sm.reverse++Bw its)&&l0 ops)=true)∧K e' h':=by
    intro res e2 h2 MT Qw bc hs;obtain⟨its,e',h',t1,t2,t3,t4⟩:=sZ bB l (i+1) e2 h2 _ (by omega) hl' (by omega) hs;refine⟨⟨o,g,res⟩::its,e',h',⟨MU,MT,by rw[Qw];exact t1⟩,?_,fun JY=>?_,t4⟩
    ·show pT ((bp e h).app o.dst res) its=_;rw[Qw];exact t2
    ·have:=t3 JY;simpa[Bw]using this
   cases g with
   |true=>
    have h1:=h1 rfl;unfold xn at h1;split at h1
    ·exact h1.elim
    ·rename_i p eff touch side jU;obtain⟨Qx,Sp,ut⟩:=h1;have hk:∀kc∈eff,kc.1≤h.length:=fun kc JV=>by
      have:=Wx.1 Sp kc JV;simpa using this
     exact step ⟨p,eff,touch⟩ _ _ ⟨Qv,fun _=>Hr bB hd ik jU Qx,fun hf=>by cases hf⟩ (mX hk) oZ ut
    ·rename_i g ps jU;obtain⟨fo,args,tys,caps,ho,hf,rfl⟩:=Hs jU;have e1:(List.map (ev (bp e h)) args)=args.map (cK e):=Xr fun x _=>aq e h x;have hf':ev (bp e h) fo= .clo g caps∨∃cd:List D,ev (bp e h) fo= .d (.clo g cd)∧caps=cd.map .d:=by rw[aq];exact hf
     rcases h1 with⟨ds,r,hv,hp,iN,ut⟩|⟨ls,margs,h0,r,uu,hM,jn,g1,g2,g3,g4,ut⟩|⟨ls,margs,h0,r,hM,jn,g1,g2,g3,g4,ut⟩
     ·have:=Kd (X:=X) (ops:=ops) (s:=bp e h) hd ho hf' (by simp only;rw[e1];exact hv) hp (by simp only;rw[e1];exact iN);simp only at this;rw[e1]at this;exact step ⟨.d r,[],_⟩ _ h ⟨Qv,fun _=>this,fun hf=>by cases hf⟩ (mX (fun kc h=>by simp at h)) (Wa _) ut
     ·have:=yN (X:=X) (ops:=ops) (s:=bp e h) (ls:=ls) (nk:=h.length) hd ho hf' hM (by simp only;rw[e1];exact jn) g1 g2 g3 g4 (fun i _=>j9 h (h.length+i) (by omega)) ik;obtain⟨q1,q2⟩:=sY g2 g3 uu 0 h (fun _=>rfl) (fun h0=>by omega);refine step ⟨_,_,_⟩ (ez e o.dst (ren (dC ls h.length) r)) (fy (dC ls h.length) 0 uu h) ⟨Qv,fun _=>this,fun hf=>by cases hf⟩ ?_ q2 ?_
      ·have h3:aw (fy (dC ls h.length) 0 uu h)=bS (iq (dC ls h.length) 0 uu) (aw h):=funext q1;cases VD:o.dst with
       |none=>simp only[FS.app,FS.put,bp,ez,h3]
       |some d=>
        simp only[FS.app,FS.put,bp,ez,h3];congr 1
      ·have h4:(iq (dC ls h.length) 0 uu).map (·.1)=nT ls h.length uu.length:=by
        rw[p3];exact Xr fun j _=>by rw[Wn]
       simp only;rw[h4];exact ut
     ·have:=Hb (X:=X) (ops:=ops) (s:=bp e h) (ls:=ls) (nk:=h.length) hd ho hf' hM (by simp only;rw[e1];exact jn) g1 g2 g3 g4 ik;exact step ⟨ren (dC ls h.length) r,[],_⟩ _ h ⟨Qv,fun _=>this,fun hf=>by cases hf⟩ (mX (fun kc h=>by simp at h)) (Wa _) ut
   |false=>
    exact step Bu _ h ⟨Qv,(fun hf=>(by cases hf)),fun _=>⟨rfl,hd⟩⟩ (mX (fun kc h=>by simp at h)) (Wa _) (h2 rfl)
  ·exact hs.elim
theorem xo {X:Cfg}{T:Nat→Option TI}{Q:Nat→Option Nat}(bB:TabOK X.P T Q)(hm:X.P.follows .mixedOrders=true){id:Nat}{draw:Bool}{ops:Array Oper}{K:bK→List Chunk→Prop}{e:bK}{h:List Chunk}{a:Act}{w:World}{R:Exit→Act→World→Prop}(ik:X.m≤h.length)
 (hs:rI X.P X.n T Q draw ops (ops.toList.map (·.dst)) ops.toList e h [] K) (hr:il X (bp e h) a w) (hR:∀e' h' a' w',K e' h'→il X (bp e' h') a' w'→R .normal a' w'):(Code.region id ops draw).wp X.P R a w:=by
 obtain⟨its,e',h',t1,t2,t3,t4⟩:=sZ bB ops.toList 0 e h [] ik rfl (Wr _) hs;refine yu hm id draw t1 (fun hd=>?_) hr (fun a' w' hr'=>hR e' h' a' w' t4 (by rw[←t2];exact hr'));have:=t3 hd;simpa using this
def dH (P:Program)(n m:Nat)(e:bK)(h:List Chunk)(e':bK)(h':List Chunk):Prop:=∀X:Cfg,X.P=P→X.n=n→X.m=m→∀a w,il X (bp e h) a w→il X (bp e' h') a w
def RK (X:Cfg)(K:Exit→bK→List Chunk→Prop)(x:Exit)(a:Act)(w:World):Prop:=∃e h,K x e h∧il X (bp e h) a w
def qW (P:Program)(n m:Nat)(c:Code)(K:Exit→bK→List Chunk→Prop)(e:bK)(h:List Chunk):Prop:=∀X:Cfg,X.P=P→X.n=n→X.m=m→∀a w,il X (bp e h) a w→c.wp P (RK X K) a w
def nU:List PV→Nat→bK
 |[],_=>[]
 |p::l,i=>(i,p)::nU l (i+1)
theorem vV:∀(ps:List PV) (i t:Nat),dQ (nU ps i) t=if i≤t then (match ps[t - i]? with|some p=>p|none=> .any)else .any
 |[],i,t=>by simp[nU,dQ]
 |d::l,i,t=>by
  simp only[nU,dQ];by_cases h:t=i
  ·subst h;simp
  ·rw[if_neg h,vV l (i+1) t];by_cases h2:i≤t
   ·rw[if_pos h2,if_pos (by omega),show t - i=(t - (i+1))+1 by omega,Xg]
   ·rw[if_neg h2,if_neg (by omega)]
def Do (T:Nat→Option TI)(e:bK)(h:List Chunk):ResultVar→Option PV
 | .tmp t=>some (dQ e t)
 | .cell a t=>
  match dQ e a,T t with
  | .ptr k off,some ti=>
   match aw h k with
   | .box _ cells=>
    if off+ti.size≤cells.length then
     if ti.agg then some (pU ((cells.drop off).take ti.size))
     else match cells.drop off with
      |p::_=>if ti.size=1 then some p else none
      |[]=>none
    else none
   |_=>none
  |_,_=>none
def nx (T:Nat→Option TI)(e:bK)(h:List Chunk):List ResultVar→Option (List PV)
 |[]=>some []
 |r::l=>match Do T e h r,nx T e h l with|some d,some ds=>some (d::ds)|_,_=>none
def uQ:List PV→PV
 |[p]=>p
 |ps=>GZ ps
def au (d d':D):Prop:=∀(M:Nat→Prop) (w:World) (v:Value),RepD M w d v→RepD M w d' v
theorem au.refl (d:D):au d d:=fun _ _ _ h=>h
theorem au.nil (sz:Nat):au (.v (.slice none 0 0)) (.sl sz []):=fun _ _ _ h=>by cases h;exact .nil _ _ _ (by omega)
def qa:List D→List D→Prop
 |[],[]=>True
 |a::l,b::m=>au a b∧qa l m
 |_,_=>False
theorem rZ:∀{l m:List D},qa l m→l.length=m.length∧∀(j:Nat) (a b:D),l[j]? =some a→m[j]? =some b→au a b
 |[],[],_=>⟨rfl,fun j a b h=>by simp at h⟩
 |[],_::_,h=>h.elim
 |_::_,[],h=>h.elim
 |a::l,b::m,⟨h1,h2⟩=>by
  obtain⟨q1,q2⟩:=rZ h2;refine⟨by simp[q1],fun j x y hx hy=>?_⟩;cases j with
  |zero=>simp at hx hy;subst hx;subst hy;exact h1
  |succ j=>exact q2 j x y (by simpa using hx) (by simpa using hy)
theorem s5 {M:Nat→Prop}{w:World}{l m:List D}{vs:List Value}(h:qa l m)(hr:cS M w l vs):cS M w m vs:=by
 obtain⟨q1,q2⟩:=rZ h;refine⟨q1 ▸ hr.1,fun j d x hj hx=>?_⟩;have hlt:j < l.length:=by rw[q1];exact(V3.1 hj).1
 have hl:l[j]? =some l[j]:=VY hlt;exact q2 j _ d hl hj M w x (hr.2 j _ x hl hx)
theorem au.agg {l m:List D}(h:qa l m)(h1:m.all D.one=true):au (.agg l) (.agg m):=fun M w v hr=>by
 cases hr with
 |agg _ vs hl _ aV=>
  have:=s5 h ⟨hl,aV⟩;exact .agg m vs this.1 (by simpa using h1) this.2
theorem au.tup {l m:List D}(h:qa l m):au (.tup l) (.tup m):=fun M w v hr=>by
 cases hr with
 |tup _ vs hl aV=>
  have:=s5 h ⟨hl,aV⟩;exact .tup m vs this.1 this.2
theorem ae.args {P:Program}{f:Nat}{ds ds':List D}{r:D}(h:ae P f ds' r)(hd:qa ds ds'):ae P f ds r:=⟨h.1,fun M w vs hM hG cZ=>h.2 M w vs hM hG (s5 hd cZ)⟩
theorem ae.res {P:Program}{f:Nat}{ds:List D}{r r':D}(h:ae P f ds r)(hr:au r r'):ae P f ds r':=⟨h.1,fun M w vs hM hG cZ=>(h.2 M w vs hM hG cZ).mono fun e w' ⟨v,he,hv,hx⟩=>⟨v,he,hr M w' v hv,hx⟩⟩
def o3 (T:Nat→Option TI)(rs:List ResultVar)(r:D)(x:Exit)(e:bK)(h:List Chunk):Prop:=(x= .normal∨x= .ret)∧∃ps d,nx T e h rs=some ps∧vw (aw h) (uQ ps)=some d∧au d r
def uR (P:Program)(m:Nat)(T:Nat→Option TI)(rs:List ResultVar)(r:PV)(h1:List Chunk)(x:Exit)(e:bK)(h:List Chunk):Prop:=(x= .normal∨x= .ret)∧∃ps,nx T e h rs=some ps∧dH P 1 m [(0,uQ ps)] h [(0,r)] h1
def nV (tmps:Array Value):ResultVar→Sem Value
 | .tmp t=>pure (tmps.getD t undef)
 | .cell a t=>do loadVar t (←asAddr (tmps.getD a undef))
theorem qX {P:Program}{tmps:Array Value}{w:World}:∀(rs:List ResultVar) (vs:List Value),rs.length=vs.length→
 (∀(j:Nat) (r:ResultVar) (v:Value),rs[j]? =some r→vs[j]? =some v→(nV tmps r).run P w= .ok v w)→(rs.mapM (nV tmps)).run P w= .ok vs w
 |[],[],_,_=>by simp
 |[],_::_,h,_=>by simp at h
 |_::_,[],h,_=>by simp at h
 |r::rs,v::vs,h,hr=>by
  have h0:=hr 0 r v rfl rfl;have ih:=qX (P:=P) (tmps:=tmps) (w:=w) rs vs (by simpa using h) fun j r v h1 h2=>hr (j+1) r v (by simpa using h1) (by simpa using h2);rw[List.mapM_cons,Sem.run_bind,h0];simp only[Result.andThen_ok,Sem.run_bind,ih];rfl
theorem Kp {X:Cfg}{T:Nat→Option TI}{Q:Nat→Option Nat}(bB:TabOK X.P T Q){e:bK}{h:List Chunk}{a:Act}{w:World}{c:Cx}(hc:RealC X (bp e h) a w c)(rv:ResultVar)(p:PV)(yg:Do T e h rv=some p):
 ∃v,(nV a.tmps rv).run X.P w= .ok v w∧RepP c w p v:=by
 cases rv with
 |tmp t=>cases yg;exact⟨_,rfl,hc.env t⟩
 |cell b t=>
  simp only[Do]at yg;split at yg
  ·rename_i k off ti hb' ht;split at yg
   ·rename_i TT cells hk;split at yg
    ·rename_i ck;have bn:=hc.chunk k;have hk':(bp e h).heap k= .box TT cells:=hk;rw[hk']at bn;have Jm:=hc.env b;have lx:(bp e h).env b= .ptr k off:=hb';rw[lx]at Jm;generalize hu:a.tmps.getD b undef=u at Jm;cases Jm with
     |ptr _ _ bb F5=>
      cases bn with
      |box _ _ b'' us hb'' hh sg h1=>
       rw[F5]at hb'';cases hb'';have VE:us.length=cells.length:=sg.1.symm;have bc:((us.drop off).take ti.size).length=ti.size:=by rw[V2,Wt];omega
       have bE:∀(j:Nat) (v:Value),((us.drop off).take ti.size)[j]? =some v→w.cell? ⟨bb,off+j,none⟩=some v:=fun j v hj=>by
        simp[Xl,hh,(dE hj).2]
       have M5:∀(h0:ti.agg=false→∃v,(us.drop off).take ti.size=[v]),(loadVar t ⟨bb,off,none⟩).run X.P w= .ok (if ti.agg then .agg ((us.drop off).take ti.size).toArray else ((us.drop off).take ti.size).headD undef) w:=by
        intro h0;have:=kM (bB.t t ti ht) w bb off ((us.drop off).take ti.size) bc bE h0;simpa[Instr.loadAt,Instr.sureAddr]using this
       cases nd:ti.agg with
       |true=>
        rw[nd,if_pos rfl]at yg;cases yg;have hl:=M5 (fun h=>by rw[nd]at h;cases h);rw[nd,if_pos rfl]at hl;exact⟨_,by simp[nV,hu,asAddr,hl],oS (sg.part off ti.size) (fun d hd=>h1 d (WL (WN hd)))⟩
       |false=>
        rw[nd,if_neg (by simp)]at yg;split at yg
        ·rename_i q l JY;split at yg
         ·rename_i h1';cases yg;have hp:=p6 JY;obtain⟨v,hv⟩:∃v,us[off]? =some v:=⟨us[off]'(by omega),VY _⟩;have da:(us.drop off).take ti.size=[v]:=by
           rw[h1',Xv (by omega)];simp only[Yd,XH];rw[VY (by omega)]at hv;simpa using hv
          have hl:=M5 (fun _=>⟨v,da⟩);rw[nd,if_neg (by simp),da]at hl;exact⟨v,by simp[nV,hu,asAddr,hl],sg.2 off p v hp hv⟩
         ·cases yg
        ·cases yg
    ·cases yg
   ·cases yg
  ·cases yg
theorem Dp {X:Cfg}{T:Nat→Option TI}{Q:Nat→Option Nat}(bB:TabOK X.P T Q){e:bK}{h:List Chunk}{a:Act}{w:World}{c:Cx}(hc:RealC X (bp e h) a w c){fn:Func}{ps:List PV}(mL:nx T e h fn.results.toList=some ps):
 ∃v,(results fn a.tmps).run X.P w= .ok v w∧RepP c w (uQ ps) v:=by
 have Qy:∀(rs:List ResultVar) (ps:List PV),nx T e h rs=some ps→∃vs:List Value,rs.length=vs.length∧aZ c w ps vs∧
  (∀(j:Nat) (r:ResultVar) (v:Value),rs[j]? =some r→vs[j]? =some v→(nV a.tmps r).run X.P w= .ok v w):=by
  intro rs;induction rs with
  |nil=>
   intro ds cZ;simp[nx]at cZ;subst cZ;exact⟨[],rfl,⟨rfl,fun j d x h=>by simp at h⟩,fun j r v h=>by simp at h⟩
  |cons rv rs ih=>
   intro ds cZ;simp only[nx]at cZ;split at cZ
   ·rename_i d ds' h1 h2;cases cZ;obtain⟨v,pF,Js⟩:=Kp bB hc rv d h1;obtain⟨vs,g1,g2,g3⟩:=ih ds' h2;refine⟨v::vs,by simp[g1],⟨by simp[g2.1],fun j d x hj hx=>?_⟩,fun j r x hj hx=>?_⟩
    ·cases j with
     |zero=>simp at hj hx;subst hj;subst hx;exact Js
     |succ j=>exact g2.2 j d x (by simpa using hj) (by simpa using hx)
    ·cases j with
     |zero=>simp at hj hx;subst hj;subst hx;exact pF
     |succ j=>exact g3 j r x (by simpa using hj) (by simpa using hx)
   ·cases cZ
 obtain⟨vs,g1,g2,g3⟩:=Qy _ _ mL;have bG:=qX (P:=X.P) (tmps:=a.tmps) (w:=w) fn.results.toList vs g1 g3;have CR:(results fn a.tmps).run X.P w= .ok (if h:vs.length=1 then vs[0]else .tuple vs.toArray) w:=by
  have e1:results fn a.tmps=(do let vs ←fn.results.mapM (nV a.tmps);pure (if h:vs.size=1 then vs[0]else .tuple vs)):=by
   unfold results;congr 1
  rw[e1,Sem.run_bind,Array.mapM_eq_mapM_toList];simp[bG]
 refine⟨_,CR,?_⟩;by_cases h1:vs.length=1
 ·rw[dif_pos h1];obtain⟨d,rfl⟩:=List.length_eq_one_iff.1 (g2.1.trans h1);exact g2.2 0 d _ rfl (VY (by omega))
 ·rw[dif_neg h1];have:uQ ps=GZ ps:=by
   unfold uQ;split
   ·exact absurd g2.1.symm h1
   ·rfl
  rw[this];exact G0 g2
theorem zb {c:Cx}{w:World}{ps:List PV}{vs:List Value}{n:Nat}(cZ:aZ c w ps vs)(t:Nat):RepP c w (dQ (nU ps 0) t) ((vs.toArray++XB (n - vs.toArray.size) undef).getD t undef):=by
 rw[vV];rw[if_pos (Wr _),WZ];cases hd:ps[t]? with
 |none=>exact .any _
 |some d=>
  have hlt:t < vs.length:=by rw[←cZ.1];exact(V3.1 hd).1
  have hv:vs[t]? =some vs[t]:=VY hlt;have:=cZ.2 t d _ hd hv;simp only[W3,Array.getElem?_append,Xb,hlt,if_true,List.getElem?_toArray,hv,Xc];exact this
theorem zc {P:Program}{f:Nat}{fn:Func}{c:Code}{T:Nat→Option TI}{Q:Nat→Option Nat}(bB:TabOK P T Q)(hf:P.funcs[f]? =some fn)(hb:fn.body=some c)(hn:sG P f){ds:List D}{r:D}(hl:ds.length≤fn.ntmps)
 (hp:qW P fn.ntmps 0 c (o3 T fn.results.toList r) (nU (ds.map .d) 0) []):ae P f ds r:=by
 refine⟨hn,fun M w vs hM hG cZ=>?_⟩;have MV:vs.length=ds.length:=cZ.1.symm;let c0:Cx:={M:=M,bl:=fun _=>none,ov:=fun _ _=>none}
 let X:Cfg:={P:=P,n:=fn.ntmps,m:=0,w0:=w,M0:=M,L:=fun _=>False,c0:=c0}
 have kE:il X (bp (nU (ds.map .d) 0) []) {tmps:=vs.toArray++XB (fn.ntmps - vs.toArray.size) undef,defers:=[]} w:=by
  refine⟨c0,by simp[X];omega,rfl,ExtL.refl _ _,hG.keep ⟨Wa _,fun _ _ _=>rfl,fun b _ h=>h.elim id False.elim⟩,fun b hb=>⟨hM b hb,id⟩,fun b=>⟨.inl,fun h=>?_⟩,fun k b h=>?_,fun k k' b h _=>?_,fun t=>zb (mV (c:=c0) cZ) t,fun k=>?_,fun k hk=>absurd hk (XW _)⟩
  ·rcases h with h|⟨k,h⟩
   ·exact h
   ·simp[bp,aw,Cx.block]at h
  ·simp[bp,aw,Cx.block]at h
  ·simp[bp,aw,Cx.block]at h
  ·simp only[bp,aw];exact .none rfl fun _=>rfl
 refine calls_of_wp hf hb (wp_mono (hp X rfl rfl rfl _ _ kE) fun ex a w' hq=>?_);obtain⟨e,h,⟨hx,ps,d,mL,hv,hle⟩,hr⟩:=hq;obtain⟨cx,hc⟩:=hr;obtain⟨v,bG,aV⟩:=Dp bB hc mL;have hd:=iT hc (T:=tc (aw h) (uQ ps)) 6 hv (fun _ h=>h) aV;have yf:RepD M w' d v:=by
  refine hd.keep ⟨Wa _,fun _ _ _=>rfl,fun b _ hb=>⟨(hc.mu b).2 (.inl hb),fun k _ e=>?_⟩⟩;rcases(hc.new k b e).1 with h1|h1
  ·exact h1
  ·have:=(hc.fresh b hb).1;omega
 rcases hx with rfl|rfl
 ·exact⟨hc.defers,v,bG,v,rfl,hle _ _ _ yf,hc.ext.ext⟩
 ·exact⟨hc.defers,v,bG,v,rfl,hle _ _ _ yf,hc.ext.ext⟩
theorem zd {P:Program}{f:Nat}{fn:Func}{c:Code}{T:Nat→Option TI}{Q:Nat→Option Nat}(bB:TabOK P T Q)(hf:P.funcs[f]? =some fn)(hb:fn.body=some c)(hn:sG P f){args:List PV}{h0 h1:List Chunk}{r:PV}(hl:args.length≤fn.ntmps)
 (hle:h0.length≤h1.length) (CW:af h0.length args=true) (hbh:ay h0.length h0=true) (hp:qW P fn.ntmps h0.length c (uR P h0.length T fn.results.toList r h1) (nU args 0) h0):MSpec P f args h0 r h1:=by
 refine⟨hn,hle,CW,hbh,fun X UG UH oB w cx vs hc wQ=>?_⟩;subst UG;have MV:vs.length=args.length:=wQ.1.symm;have kE:il {X with n:=fn.ntmps} (bp (nU args 0) h0) {tmps:=vs.toArray++XB (fn.ntmps - vs.toArray.size) undef,defers:=[]} w:=
  ⟨cx,by simp;omega,rfl,hc.ext,hc.inv,hc.fresh,hc.mu,hc.new,hc.apart,fun t=>zb wQ t,hc.chunk,hc.lent⟩
 refine calls_of_wp hf hb (wp_mono (hp {X with n:=fn.ntmps} rfl rfl oB _ _ kE) fun ex a w' hq=>?_);obtain⟨e,h,⟨hx,ps,mL,Qz⟩,hr⟩:=hq;obtain⟨c2,uE⟩:=hr;obtain⟨v,bG,aV⟩:=Dp (X:={X with n:=fn.ntmps}) bB uE mL;have UI:il {X with n:=1} (bp [(0,uQ ps)] h) {tmps:=#[v],defers:=[]} w':=by
  refine⟨c2,rfl,rfl,uE.ext,uE.inv,uE.fresh,uE.mu,uE.new,uE.apart,fun t=>?_,uE.chunk,uE.lent⟩;simp only[bp,dQ];by_cases ht:t=0
  ·subst ht;rw[if_pos rfl];exact aV
  ·rw[if_neg ht];exact .any _
 obtain⟨c3,Mn⟩:=Qz {X with n:=1} rfl rfl oB _ _ UI;have Pq:RepP c3 w' r v:=Mn.env 0;have cv:RealC X (bp [] h1) EJ w' c3:=⟨UH.symm,rfl,Mn.ext,Mn.inv,Mn.fresh,Mn.mu,Mn.new,Mn.apart,fun t=> .any _,Mn.chunk,Mn.lent⟩;rcases hx with rfl|rfl
 ·exact⟨uE.defers,v,bG,v,c3,rfl,Pq,cv⟩
 ·exact⟨uE.defers,v,bG,v,c3,rfl,Pq,cv⟩
def uS:Nat→Option TI
 |3=>some {agg:=false,size:=1,bytes:=8,zero:=[.int .i64 0],fields:=[],elem:=none,int:=some .i64,kind:=0,mp:=none}
 |4=>some {agg:=false,size:=1,bytes:=1,zero:=[.bool false],fields:=[],elem:=none,int:=none,kind:=1,mp:=none}
 |37=>some {agg:=false,size:=1,bytes:=8,zero:=[.int .i64 0],fields:=[],elem:=none,int:=some .i64,kind:=0,mp:=none}
 |23=>some {agg:=true,size:=2,bytes:=16,zero:=[.int .i64 0,.int .i64 0],fields:=[(0,1),(1,1)],elem:=none,int:=none,kind:=0,mp:=none}
 |149=>some {agg:=true,size:=3,bytes:=40,zero:=[.int .i64 0,.int .i64 0,.slice none 0 0],fields:=[(0,2),(2,1)],elem:=none,int:=none,kind:=0,mp:=none}
 |25=>some {agg:=true,size:=4,bytes:=32,zero:=[.int .i64 0,.int .i64 0,.int .i64 0,.int .i64 0],fields:=[(0,1),(1,1),(2,1),(3,1)],elem:=none,int:=none,kind:=0,mp:=none}
 |96=>some {agg:=true,size:=5,bytes:=40,zero:=[.int .i64 0,.int .i64 0,.int .i64 0,.int .i64 0,.int .i64 0],fields:=[(0,2),(2,1),(3,1),(4,1)],elem:=none,int:=none,kind:=0,mp:=none}
 |83=>some {agg:=true,size:=9,bytes:=88,zero:=[.int .i64 0,.int .i64 0,.int .i64 0,.int .i64 0,.int .i64 0,.int .i64 0,.int .i64 0,.int .i64 0,.slice none 0 0],fields:=[(0,1),(1,1),(2,2),(4,4),(8,1)],elem:=none,int:=none,kind:=0,mp:=none}
 |30=>some {agg:=true,size:=2,bytes:=32,zero:=[.int .i64 0,.slice none 0 0],fields:=[(0,1),(1,1)],elem:=none,int:=none,kind:=0,mp:=none}
 |110=>some {agg:=true,size:=2,bytes:=32,zero:=[.int .i64 0,.slice none 0 0],fields:=[(0,1),(1,1)],elem:=none,int:=none,kind:=0,mp:=none}
 |107=>some {agg:=true,size:=4,bytes:=48,zero:=[.int .i64 0,.int .i64 0,.int .i64 0,.slice none 0 0],fields:=[(0,1),(1,2),(3,1)],elem:=none,int:=none,kind:=0,mp:=none}
 |100=>some {agg:=true,size:=3,bytes:=24,zero:=[.int .i64 0,.int .i64 0,.int .i64 0],fields:=[(0,2),(2,1)],elem:=none,int:=none,kind:=0,mp:=none}
 |88=>some {agg:=true,size:=3,bytes:=56,zero:=[.int .i64 0,.slice none 0 0,.slice none 0 0],fields:=[(0,1),(1,1),(2,1)],elem:=none,int:=none,kind:=0,mp:=none}
 |91=>some {agg:=true,size:=2,bytes:=16,zero:=[.int .i64 0,.int .i64 0],fields:=[(0,1),(1,1)],elem:=none,int:=none,kind:=0,mp:=none}
 |34=>some {agg:=true,size:=2,bytes:=48,zero:=[.slice none 0 0,.slice none 0 0],fields:=[(0,1),(1,1)],elem:=none,int:=none,kind:=0,mp:=none}
 |36=>some {agg:=true,size:=4,bytes:=80,zero:=[.int .i64 0,.slice none 0 0,.slice none 0 0,.slice none 0 0],fields:=[(0,2),(2,2)],elem:=none,int:=none,kind:=0,mp:=none}
 |27=>some {agg:=true,size:=10,bytes:=80,zero:=[.int .i64 0,.int .i64 0,.int .i64 0,.int .i64 0,.int .i64 0,.int .i64 0,.int .i64 0,.int .i64 0,.int .i64 0,.int .i64 0],fields:=[(0,1),(1,1),(2,1),(3,1),(4,2),(6,4)],elem:=none,int:=none,kind:=0,mp:=none}
 |47=>some {agg:=true,size:=4,bytes:=32,zero:=[.int .i64 0,.int .i64 0,.int .i64 0,.int .i64 0],fields:=[(0,1),(1,2),(3,1)],elem:=none,int:=none,kind:=0,mp:=none}
 |108=>some {agg:=false,size:=1,bytes:=24,zero:=[.slice none 0 0],fields:=[],elem:=some 3,int:=none,kind:=0,mp:=none}
 |212=>some {agg:=false,size:=1,bytes:=24,zero:=[.slice none 0 0],fields:=[],elem:=some 4,int:=none,kind:=0,mp:=none}
 |147=>some {agg:=false,size:=1,bytes:=24,zero:=[.slice none 0 0],fields:=[],elem:=some 23,int:=none,kind:=0,mp:=none}
 |81=>some {agg:=false,size:=1,bytes:=24,zero:=[.slice none 0 0],fields:=[],elem:=some 96,int:=none,kind:=0,mp:=none}
 |28=>some {agg:=false,size:=1,bytes:=24,zero:=[.slice none 0 0],fields:=[],elem:=some 83,int:=none,kind:=0,mp:=none}
 |105=>some {agg:=false,size:=1,bytes:=24,zero:=[.slice none 0 0],fields:=[],elem:=some 110,int:=none,kind:=0,mp:=none}
 |86=>some {agg:=false,size:=1,bytes:=24,zero:=[.slice none 0 0],fields:=[],elem:=some 107,int:=none,kind:=0,mp:=none}
 |85=>some {agg:=false,size:=1,bytes:=24,zero:=[.slice none 0 0],fields:=[],elem:=some 100,int:=none,kind:=0,mp:=none}
 |31=>some {agg:=false,size:=1,bytes:=24,zero:=[.slice none 0 0],fields:=[],elem:=some 88,int:=none,kind:=0,mp:=none}
 |32=>some {agg:=false,size:=1,bytes:=24,zero:=[.slice none 0 0],fields:=[],elem:=some 91,int:=none,kind:=0,mp:=none}
 |40=>some {agg:=false,size:=1,bytes:=24,zero:=[.slice none 0 0],fields:=[],elem:=some 27,int:=none,kind:=0,mp:=none}
 |43=>some {agg:=false,size:=1,bytes:=24,zero:=[.slice none 0 0],fields:=[],elem:=some 47,int:=none,kind:=0,mp:=none}
 |137=>some {agg:=true,size:=3,bytes:=24,zero:=[.int .i64 0,.int .i64 0,.int .i64 0],fields:=[(0,2),(2,1)],elem:=none,int:=none,kind:=0,mp:=none}
 |128=>some {agg:=true,size:=18,bytes:=192,zero:=[.int .i64 0,.slice none 0 0,.slice none 0 0,.slice none 0 0,.int .i64 0,.int .i64 0,.int .i64 0,.int .i64 0,.int .i64 0,.int .i64 0,.int .i64 0,.int .i64 0,.int .i64 0,.int .i64 0,.int .i64 0,.int .i64 0,.int .i64 0,.int .i64 0],fields:=[(0,4),(4,10),(14,4)],elem:=none,int:=none,kind:=0,mp:=none}
 |5=>some {agg:=false,size:=1,bytes:=1,zero:=[.int .u8 0],fields:=[],elem:=none,int:=some .u8,kind:=0,mp:=none}
 |9=>some {agg:=false,size:=1,bytes:=16,zero:=[.string ByteArray.empty],fields:=[],elem:=none,int:=none,kind:=2,mp:=none}
 |21=>some {agg:=false,size:=1,bytes:=4,zero:=[.int .i32 0],fields:=[],elem:=none,int:=some .i32,kind:=0,mp:=none}
 |74=>some {agg:=false,size:=1,bytes:=24,zero:=[.slice none 0 0],fields:=[],elem:=some 5,int:=none,kind:=0,mp:=none}
 |78=>some {agg:=true,size:=2,bytes:=32,zero:=[.pointer none,.slice none 0 0],fields:=[(0,2)],elem:=none,int:=none,kind:=0,mp:=none}
 |111=>some {agg:=false,size:=1,bytes:=24,zero:=[.slice none 0 0],fields:=[],elem:=some 9,int:=none,kind:=0,mp:=none}
 |114=>some {agg:=true,size:=9,bytes:=72,zero:=[.int .i64 0,.int .i64 0,.int .i64 0,.int .i64 0,.int .i64 0,.int .i64 0,.int .i64 0,.int .i64 0,.int .i64 0],fields:=[],elem:=none,int:=none,kind:=0,mp:=none,arr:=some (9,3)}
 |115=>some {agg:=false,size:=1,bytes:=8,zero:=[.int .u64 0],fields:=[],elem:=none,int:=some .u64,kind:=0,mp:=none}
 |123=>some {agg:=false,size:=1,bytes:=8,zero:=[.pointer none],fields:=[],elem:=none,int:=none,kind:=3,mp:=none}
 |125=>some {agg:=false,size:=1,bytes:=8,zero:=[.pointer none],fields:=[],elem:=none,int:=none,kind:=3,mp:=none}
 |129=>some {agg:=false,size:=1,bytes:=4,zero:=[.int .u32 0],fields:=[],elem:=none,int:=some .u32,kind:=0,mp:=none}
 |141=>some {agg:=false,size:=1,bytes:=16,zero:=[.nilIface],fields:=[],elem:=none,int:=none,kind:=5,mp:=none}
 |178=>some {agg:=false,size:=1,bytes:=8,zero:=[.pointer none],fields:=[],elem:=none,int:=none,kind:=3,mp:=none}
 |183=>some {agg:=false,size:=1,bytes:=8,zero:=[.pointer none],fields:=[],elem:=none,int:=none,kind:=3,mp:=none}
 |185=>some {agg:=false,size:=1,bytes:=8,zero:=[.pointer none],fields:=[],elem:=none,int:=none,kind:=3,mp:=none}
 |194=>some {agg:=false,size:=1,bytes:=8,zero:=[.pointer none],fields:=[],elem:=none,int:=none,kind:=3,mp:=none}
 |256=>some {agg:=false,size:=1,bytes:=8,zero:=[.pointer none],fields:=[],elem:=none,int:=none,kind:=3,mp:=none}
 |261=>some {agg:=false,size:=1,bytes:=8,zero:=[.pointer none],fields:=[],elem:=none,int:=none,kind:=3,mp:=none}
 |317=>some {agg:=false,size:=1,bytes:=8,zero:=[.int .u64 0],fields:=[],elem:=none,int:=some .u64,kind:=0,mp:=none}
 |274=>some {agg:=false,size:=1,bytes:=8,zero:=[.map none],fields:=[],elem:=none,int:=none,kind:=4,mp:=some (1,false)}
 |275=>some {agg:=false,size:=1,bytes:=8,zero:=[.map none],fields:=[],elem:=none,int:=none,kind:=4,mp:=some (1,false)}
 |134=>some {agg:=false,size:=1,bytes:=8,zero:=[.map none],fields:=[],elem:=none,int:=none,kind:=4,mp:=some (3,true)}
 |_=>none
theorem Kq:∀t ti,uS t=some ti→aI prog t=some ti:=by
 intro t ti h;unfold uS at h;split at h<;>first|(cases h;kernel_rfl)|cases h
theorem EW:yv prog 23 2:=by
 intro w xs ys x y op hx hy jU;match xs,ys,hx,hy with
 |[a0,a1],[b0,b1],_,_=>
  clear hx hy;rcases jU with rfl|rfl<;>(simp only[V1,V5];go_simp)<;>by_cases h0:a0=b0<;>by_cases h1:a1=b1<;>simp[bne,h0,h1]
theorem Kr:yv prog 25 4:=by
 intro w xs ys x y op hx hy jU;match xs,ys,hx,hy with
 |[a0,a1,a2,a3],[b0,b1,b2,b3],_,_=>
  clear hx hy;rcases jU with rfl|rfl<;>(simp only[V1,V5];go_simp)<;>by_cases h0:a0=b0<;>by_cases h1:a1=b1<;>by_cases h2:a2=b2<;>by_cases h3:a3=b3<;>simp[bne,h0,h1,h2,h3]
theorem Hu:yv prog 96 5:=by
 intro w xs ys x y op hx hy jU;match xs,ys,hx,hy with
 |[a0,a1,a2,a3,a4],[b0,b1,b2,b3,b4],_,_=>
  clear hx hy;rcases jU with rfl|rfl<;>(simp only[V1,V5];go_simp)<;>by_cases h0:a0=b0<;>by_cases h1:a1=b1<;>by_cases h2:a2=b2<;>by_cases h3:a3=b3<;>by_cases h4:a4=b4<;>simp[bne,h0,h1,h2,h3,h4]
theorem Hv:yv prog 100 3:=by
 intro w xs ys x y op hx hy jU;match xs,ys,hx,hy with
 |[a0,a1,a2],[b0,b1,b2],_,_=>
  clear hx hy;rcases jU with rfl|rfl<;>(simp only[V1,V5];go_simp)<;>by_cases h0:a0=b0<;>by_cases h1:a1=b1<;>by_cases h2:a2=b2<;>simp[bne,h0,h1,h2]
theorem Ks:yv prog 91 2:=by
 intro w xs ys x y op hx hy jU;match xs,ys,hx,hy with
 |[a0,a1],[b0,b1],_,_=>
  clear hx hy;rcases jU with rfl|rfl<;>(simp only[V1,V5];go_simp)<;>by_cases h0:a0=b0<;>by_cases h1:a1=b1<;>simp[bne,h0,h1]
theorem EY:yv prog 47 4:=by
 intro w xs ys x y op hx hy jU;match xs,ys,hx,hy with
 |[a0,a1,a2,a3],[b0,b1,b2,b3],_,_=>
  clear hx hy;rcases jU with rfl|rfl<;>(simp only[V1,V5];go_simp)<;>by_cases h0:a0=b0<;>by_cases h1:a1=b1<;>by_cases h2:a2=b2<;>by_cases h3:a3=b3<;>simp[bne,h0,h1,h2,h3]
def Hw:Nat→Option Nat
 |23=>some 2
 |25=>some 4
 |96=>some 5
 |100=>some 3
 |91=>some 2
 |47=>some 4
 |_=>none
theorem Kt:MapOK prog 274 1 false:=vM underlying274 underlying3 (by kernel_rfl)
theorem Ku:MapOK prog 275 1 false:=vM underlying275 underlying3 (by kernel_rfl)
theorem Kv:KeyOK prog 137 3 true:=by
 refine G7 (by kernel_rfl) (fun em w xs hx=>?_) (fun w xs ys hx hy=>?_)
 ·match xs,hx with
  |[a0,a1,a2],_=>
   clear hx;simp only[f6,if_true,V1,V5];have key:∀n,(Instr.checkKey em (n+1+1+1) 137 (.agg #[.int .i64 a0,.int .i64 a1,.int .i64 a2])).run prog w= .ok () w:=by
    intro n;simp[Instr.checkKey,run_underlying underlying3,run_underlying underlying23,run_underlying underlying137,part,isAgg,go_sem]
   exact key 9997
 ·match xs,ys,hx,hy with
  |[a0,a1,a2],[b0,b1,b2],_,_=>
   clear hx hy;simp only[f6,if_true,V1,V5];show (Op.equalIn 10000 137 _ _).run _ _=_;go_simp
   by_cases h0:a0=b0<;>by_cases h1:a1=b1<;>by_cases h2:a2=b2<;>simp[h0,h1,h2]
theorem Kw:MapOK prog 134 3 true:=by
 obtain⟨i,hi,hz⟩:=Wh.1 (show (prog.info? 3).map (·.zero)=some (some (.int .i64 0)) by kernel_rfl);exact⟨137,3,i,underlying134,hi,hz,Kv⟩
theorem Kx:∀t ti n s,uS t=some ti→ti.mp=some (n,s)→MapOK prog t n s:=by
 intro t ti n s h hm;unfold uS at h;split at h
 ·cases h;cases hm
 ·cases h;cases hm
 ·cases h;cases hm
 ·cases h;cases hm
 ·cases h;cases hm
 ·cases h;cases hm
 ·cases h;cases hm
 ·cases h;cases hm
 ·cases h;cases hm
 ·cases h;cases hm
 ·cases h;cases hm
 ·cases h;cases hm
 ·cases h;cases hm
 ·cases h;cases hm
 ·cases h;cases hm
 ·cases h;cases hm
 ·cases h;cases hm
 ·cases h;cases hm
 ·cases h;cases hm
 ·cases h;cases hm
 ·cases h;cases hm
 ·cases h;cases hm
 ·cases h;cases hm
 ·cases h;cases hm
 ·cases h;cases hm
 ·cases h;cases hm
 ·cases h;cases hm
 ·cases h;cases hm
 ·cases h;cases hm
 ·cases h;cases hm
 ·cases h;cases hm
 ·cases h;cases hm
 ·cases h;cases hm
 ·cases h;cases hm
 ·cases h;cases hm
 ·cases h;cases hm
 ·cases h;cases hm
 ·cases h;cases hm
 ·cases h;cases hm
 ·cases h;cases hm
 ·cases h;cases hm
 ·cases h;cases hm
 ·cases h;cases hm
 ·cases h;cases hm
 ·cases h;cases hm
 ·cases h;cases hm
 ·cases h;cases hm
 ·cases h;cases hm
 ·cases h;cases hm
 ·cases h;cases hm
 ·cases h;cases hm
 ·cases h;cases hm;exact Kt
 ·cases h;cases hm;exact Ku
 ·cases h;cases hm;exact Kw
 ·cases h
theorem ah:TabOK prog uS Hw:=by
 refine⟨Kq,fun t n h=>?_,Kx⟩;unfold Hw at h;split at h
 ·cases h;exact EW
 ·cases h;exact Kr
 ·cases h;exact Hu
 ·cases h;exact Hv
 ·cases h;exact Ks
 ·cases h;exact EY
 ·cases h
theorem ce {P:Program}{f:Nat}{fn:Func}{c:Code}(hf:P.funcs[f]? =some fn)(QA:(fn.name== "runtime.NumGoroutine")=false)(hb:fn.body=some c):sG P f:=by
 intro args w;simp[callFunc,hf,hb];simpa using QA
theorem PE:(some true==some true)=true:=rfl
theorem PF:(some false==some false)=true:=rfl
theorem PG:(some true==some false)=false:=rfl
theorem PH:(some false==some true)=false:=rfl
theorem PI:((none:Option Bool)==some true)=false:=rfl
theorem PJ:((none:Option Bool)==some false)=false:=rfl
section
variable {P:Program}{n m:Nat}{T:Nat→Option TI}{Q:Nat→Option Nat}{K:Exit→bK→List Chunk→Prop}{e:bK}{h:List Chunk}
def s6 (C:bK→List Chunk→Prop)(K:Exit→bK→List Chunk→Prop):Exit→bK→List Chunk→Prop
 | .normal,e,h=>C e h
 |x,e,h=>K x e h
theorem Dq {a b:Code}(hp:∀C:bK→List Chunk→Prop,(∀e h,qW P n m b K e h→C e h)→qW P n m a (s6 C K) e h):qW P n m (.seq a b) K e h:=by
 intro X hX hn oB ac w hr;have:=hp (fun e h=>qW P n m b K e h) (fun _ _ h=>h) X hX hn oB ac w hr;refine wp_seq (wp_mono this fun ex a' w' hq=>?_);obtain⟨e',h',hk,hr'⟩:=hq;cases ex with
 |normal=>exact hk X hX hn oB a' w' hr'
 |_=>exact⟨e',h',hk,hr'⟩
def uT (id:Nat)(C:bK→List Chunk→Prop)(K:Exit→bK→List Chunk→Prop):Exit→bK→List Chunk→Prop
 | .normal,e,h=>C e h
 | .exit i,e,h=>if i=id then C e h else K (.exit i) e h
 |x,e,h=>K x e h
theorem EZ {id:Nat}{c:Code}(hp:∀C:bK→List Chunk→Prop,(∀e h,K .normal e h→C e h)→qW P n m c (uT id C K) e h):qW P n m (.block id c) K e h:=by
 intro X hX hn oB ac w hr;have:=hp (fun e h=>K .normal e h) (fun _ _ h=>h) X hX hn oB ac w hr;refine wp_block (wp_mono this fun ex a' w' hq=>?_);obtain⟨e',h',hk,hr'⟩:=hq;cases ex with
 |exit i=>
  simp only[Exit.inBlock,uT]at*;by_cases hi:i=id
  ·rw[if_pos hi]at hk ⊢;exact⟨e',h',hk,hr'⟩
  ·rw[if_neg hi]at hk ⊢;exact⟨e',h',hk,hr'⟩
 |_=>exact⟨e',h',hk,hr'⟩
def Nz (P:Program)(g:Option Bool)(r:SR)(dst:Option Nat)(e:bK)(h:List Chunk)(sm:List (List Nat × List Nat))(R:bK→List Chunk→List (List Nat × List Nat)→Prop):Prop:=
 match g with
 |some true=>xn P r dst e h sm R
 |some false=>R (ez e dst (.d (.v undef))) h (([],[])::sm)
 |none=>False
section
variable {sm:List (List Nat × List Nat)}{dst:Option Nat}{R:bK→List Chunk→List (List Nat × List Nat)→Prop}
theorem NA {g:Nat}{ps:List PV}{ds:List D}{r:D}(hv:PD (aw h) ps=some ds)(hp:ae P g ds r)(hf:Ny (aw h) ps=[]∨r.flat=true)(hR:R (ez e dst (.d r)) h (([],Ny (aw h) ps)::sm)):xn P (.call g ps) dst e h sm R:=
 .inl ⟨ds,r,hv,hp,hf,hR⟩
theorem NB (ls:List Nat){g:Nat}{ps args:List PV}{h0 h1:List Chunk}{r:PV}(hM:MSpec P g args h0 r h1)(jn:ps=fK (dC ls h.length) args)(hl:ls.length=h0.length)(jX:ls.Nodup)(hlt:∀k∈ls,k < h.length)(fZ:aX (aw h) (dC ls h.length) 0 h0)
 (hR:R (ez e dst (ren (dC ls h.length) r)) (fy (dC ls h.length) 0 h1 h) ((nT ls h.length h1.length,nT ls h.length h1.length)::sm)):xn P (.call g ps) dst e h sm R:=
 .inr (.inl ⟨ls,args,h0,r,h1,hM,jn,hl,jX,hlt,fZ,hR⟩)
end
theorem E0 {draw:Bool}{ops:Array Oper}{ds:List (Option Nat)}{o:Oper}{l:List Oper}{sm:List (List Nat × List Nat)}{K:bK→List Chunk→Prop}(hd:Ht n o=true)
 (hp:∀R:bK→List Chunk→List (List Nat × List Nat)→Prop,(∀e h sm,rI P n T Q draw ops ds l e h sm K→R e h sm)→Nz P (p9 ds e o) (JS T Q e h o) o.dst e h sm R):rI P n T Q draw ops ds (o::l) e h sm K:=by
 have hp:=hp (rI P n T Q draw ops ds l · · · K) fun _ _ _ h=>h;unfold rI;unfold Nz at hp;split at hp
 ·rename_i g hg;rw[hg];exact⟨hd,fun _=>hp,fun h=>by cases h⟩
 ·rename_i g hg;rw[hg];exact⟨hd,(fun h=>(by cases h)),fun _=>hp⟩
 ·exact hp.elim
theorem Hy {c:Operand}{a b:Code}{t:Bool}(hc:cK e c= .d (.v (.bool t)))(h1:t=true→qW P n m a K e h)(h2:t=false→qW P n m b K e h):qW P n m (.cond c a b) K e h:=by
 intro X hX hn oB ac w hr;have hv:ac.eval c= .bool t:=by
  obtain⟨cx,gI⟩:=hr;exact cw gI ((aq e h c).trans hc)
 refine wp_cond hv ?_;cases t with
 |true=>exact h1 rfl X hX hn oB ac w hr
 |false=>exact h2 rfl X hX hn oB ac w hr
theorem Hz (h1:K .normal e h):qW P n m .skip K e h:=fun X _ _ _ a w hr=>wp_skip ⟨e,h,h1,hr⟩
theorem HA {id:Nat}(h1:K (.exit id) e h):qW P n m (.exit id) K e h:=fun X _ _ _ a w hr=>wp_exit ⟨e,h,h1,hr⟩
theorem Ky (h1:K .ret e h):qW P n m .ret K e h:=fun X _ _ _ a w hr=>wp_ret ⟨e,h,h1,hr⟩
theorem E1 {l:Nat}(h1:K .normal e h):qW P n m (.label l) K e h:=fun X _ _ _ a w hr=>wp_label ⟨e,h,h1,hr⟩
theorem zf {c:Code}(I:Nat→bK→List Chunk→Prop)(mm:Nat)(e1:bK)(h1:List Chunk)(h0:I mm e1 h1)(hw:dH P n m e h e1 h1)
 (hr:∀k e h,I k e h→∀C:bK→List Chunk→Prop,(∀k' e1 h1 e h,k' < k→I k' e1 h1→dH P n m e h e1 h1→C e h)→qW P n m c (s6 C K) e h):qW P n m (.loop c) K e h:=by
 intro X hX hn oB a w kE;refine wp_loop_ghost (fun k a w=>∃e h,I k e h∧il X (bp e h) a w) mm ⟨e1,h1,h0,hw X hX hn oB a w kE⟩ ?_;rintro k a w ⟨e,h,hI,kE⟩;have:=hr k e h hI (fun e' h'=>∃k' e1 h1,k' < k∧I k' e1 h1∧dH P n m e' h' e1 h1) (fun k' e1 h1 e h a b c=>⟨k',e1,h1,a,b,c⟩) X hX hn oB a w kE;refine wp_mono this fun ex a' w' hq=>?_;obtain⟨e',h',hk,hr'⟩:=hq;cases ex with
 |normal=>
  obtain⟨k',e2,h2,hlt,A6,cN⟩:=hk;exact⟨k',hlt,e2,h2,A6,cN X hX hn oB a' w' hr'⟩
 |_=>exact⟨e',h',hk,hr'⟩
end
def rg:Nat→List Nat
 |0=>[]
 |n+1=>n::rg n
theorem qb {P:Program}{n m:Nat}{e e':bK}{h:List Chunk}(hl:∀t,dQ e' t= .any∨dQ e' t=dQ e t):dH P n m e h e' h:=by
 intro X _ _ _ a w hr;obtain⟨c,hc⟩:=hr;refine⟨c,hc.size,hc.defers,hc.ext,hc.inv,hc.fresh,hc.mu,hc.new,hc.apart,fun t=>?_,hc.chunk,hc.lent⟩;show RepP c w (dQ e' t) _;rcases hl t with h|h
 ·rw[h];exact .any _
 ·rw[h];exact hc.env t
theorem av:prog.follows .mixedOrders=true:=by kernel_rfl
theorem dH.refl (P:Program)(n m:Nat)(e:bK)(h:List Chunk):dH P n m e h e h:=fun _ _ _ _ _ _ h=>h
theorem iI (l:List (List D))(i:Nat):(aa l)[i]? =(l[i]?).map (·.map .d):=by simp[aa]
theorem aA (l:List (List D)):(aa l).length=l.length:=by simp[aa]
theorem bi (a b:List (List D)):aa a++aa b=aa (a++b):=by simp[aa]
theorem mY {h:List Chunk}{k:Nat}(hk:aw h k≠ .none):k < h.length:=by
 induction h generalizing k with
 |nil=>simp[aw]at hk
 |cons c l ih=>
  cases k with
  |zero=>simp
  |succ k=>simpa using ih (by simpa[aw]using hk)
def Cx.cut (c:Cx)(n:Nat):Cx:={M:=c.M,bl:=fun k=>if k < n then c.bl k else none,ov:=fun k g=>if k < n then c.ov k g else none}
theorem RepP.cut {c:Cx}{w:World}{n:Nat}{p:PV}{v:Value}(h:RepP c w p v):ag n p=true→RepP (c.cut n) w p v:=by
 induction h with
 |d x v h=>intro _;exact .d x v h
 |any v=>intro _;exact .any v
 |ptr k off b h=>intro hb;simp only[ag,decide_eq_true_eq]at hb;exact .ptr k off b (by show (if k < n then c.bl k else none)=_;rw[if_pos hb];exact h)
 |own k g v h h1=>intro hb;simp only[ag,decide_eq_true_eq]at hb;exact .own k g v (by show (if k < n then c.ov k g else none)=_;rw[if_pos hb];exact h) h1
 |rp k g sz i j b m cap h=>intro hb;simp only[ag,decide_eq_true_eq]at hb;exact .rp k g sz i j b m cap (by show (if k < n then c.ov k g else none)=_;rw[if_pos hb];exact h)
 |osl k g sz a m b o N cap h hn hc h2=>intro hb;simp only[ag,decide_eq_true_eq]at hb;exact .osl k g sz a m b o N cap (by show (if k < n then c.ov k g else none)=_;rw[if_pos hb];exact h) hn hc h2
 |mref k b h=>intro hb;simp only[ag,decide_eq_true_eq]at hb;exact .mref k b (by show (if k < n then c.bl k else none)=_;rw[if_pos hb];exact h)
 |agg caps vs hl h1 aV ih=>
  intro hb;simp only[ag]at hb;exact .agg caps vs hl h1 fun j d x hj hx=>ih j d x hj hx (gu hb d (V0 hj))
 |tup caps vs hl aV ih=>
  intro hb;simp only[ag]at hb;exact .tup caps vs hl fun j d x hj hx=>ih j d x hj hx (gu hb d (V0 hj))
 |clo g caps vs hl aV ih=>
  intro hb;simp only[ag]at hb;exact .clo g caps vs hl fun j d x hj hx=>ih j d x hj hx (gu hb d (V0 hj))
theorem zg:∀{e e':bK},EI e e'→∀t,dQ e' t= .any∨dQ e' t=dQ e t
 |_,[],_,_=> .inl rfl
 |e,(t',p)::l,⟨h1,h2⟩,t=>by
  simp only[dQ];by_cases ht:t=t'
  ·rw[if_pos ht,ht];exact .inr h1.symm
  ·rw[if_neg ht];exact zg h2 t
theorem mZ:∀(h x:List Chunk) (k:Nat),k < h.length→aw (h++x) k=aw h k
 |c::l,x,0,_=>rfl
 |c::l,x,k+1,hk=>by simpa[aw]using mZ l x k (by simpa using hk)
theorem kQ:∀(h:List Chunk) (k:Nat),h.length≤k→aw h k= .none
 |[],_,_=>rfl
 |c::l,0,h=>by simp at h
 |c::l,k+1,h=>by simpa[aw]using kQ l k (by simpa using h)
theorem db {P:Program}{n m:Nat}{e e':bK}{h h':List Chunk}(x:List Chunk)(hm:m≤h'.length)(hh:h=h'++x)(he:EI e e')(hb:dn h'.length e'=true)(hbh:ay h'.length h'=true):dH P n m e h e' h':=by
 intro X _ _ oB a w hr;obtain⟨c,hc⟩:=hr;subst hh;have hf:=hc.freeze ((WC x.length).map (h'.length+ ·));have pH:∀k,k∈(WC x.length).map (h'.length+ ·)↔h'.length≤k∧k < h'.length+x.length:=by
  intro k;simp only[Wp,Xk];constructor
  ·rintro⟨j,hj,rfl⟩;omega
  ·intro hk;exact⟨k - h'.length,by omega,by omega⟩
 have vl:∀k,k < h'.length→bS (((WC x.length).map (h'.length+ ·)).map fun k=>(k,.gone)) (aw (h'++x)) k=aw h' k:=by
  intro k hk;rw[j8,if_neg (fun h=>by have:=(pH k).1 h;omega),mZ h' x k hk]
 have Ek:∀k,h'.length≤k→∀c:Cx,c.block k (bS (((WC x.length).map (h'.length+ ·)).map fun k=>(k,.gone)) (aw (h'++x)) k)=none:=by
  intro k hk c;rw[j8];split
  ·rfl
  ·rename_i hn;have:h'.length+x.length≤k:=by
    rcases Wv k (h'.length+x.length)with h1|h1
    ·exact absurd ((pH k).2 ⟨hk,h1⟩) hn
    ·exact h1
   rw[kQ _ k (by simpa using this)];rfl
 generalize gF:({c with M:=jz c (bp e (h'++x)).heap ((WC x.length).map (h'.length+ ·))}:Cx)=cc at hf;have ct:∀k,(cc.cut h'.length).block k (aw h' k)=if k < h'.length then cc.block k (aw h' k)else none:=by
  intro k;by_cases hk:k < h'.length
  ·rw[if_pos hk];cases aw h' k<;>simp[Cx.block,Cx.cut,hk]
  ·rw[if_neg hk,kQ h' k (by omega)];rfl
 have hold:∀k b,(cc.cut h'.length).block k (aw h' k)=some b→cc.block k (bS (((WC x.length).map (h'.length+ ·)).map fun k=>(k,.gone)) (aw (h'++x)) k)=some b:=by
  intro k b hb;rw[ct]at hb;split at hb
  ·rename_i hk;rw[vl k hk];exact hb
  ·cases hb
 refine⟨cc.cut h'.length,hf.size,hf.defers,hf.ext,hf.inv,hf.fresh,fun b=>?_,fun k b hb=>hf.new k b (hold k b hb),fun k k' b hb hb'=>hf.apart k k' b (hold k b hb) (hold k' b hb'),fun t=>?_,fun k=>?_,fun k hk=>?_⟩
 ·show cc.M b↔_;rw[hf.mu b];constructor
  ·rintro (h0|⟨k,hk⟩)
   ·exact .inl h0
   ·refine .inr ⟨k,?_⟩;show (cc.cut h'.length).block k (aw h' k)=_;rw[ct];rcases Wv k h'.length with h1|h1
    ·rw[if_pos h1];have:=vl k h1;simp only[bp]at hk;rw[this]at hk;exact hk
    ·simp only[bp]at hk;rw[Ek k h1]at hk;cases hk
  ·rintro (h0|⟨k,hk⟩)
   ·exact .inl h0
   ·exact .inr ⟨k,hold k b hk⟩
 ·show RepP (cc.cut h'.length) w (dQ e' t) _;rcases zg he t with h0|h0
  ·rw[h0];exact .any _
  ·have h1:=sK hb t;rw[h0]at h1 ⊢;exact(hf.env t).cut h1
 ·show ChunkOK (cc.cut h'.length) w k (aw h' k);rcases Wv k h'.length with h1|h1
  ·have bn:=hf.chunk k;simp only[bp]at bn;rw[vl k h1]at bn;have El:=pZ hbh k;have oz:(cc.cut h'.length).bl k=cc.bl k:=by show (if k < h'.length then cc.bl k else none)=_;rw[if_pos h1]
   have dy:∀g,(cc.cut h'.length).ov k g=cc.ov k g:=fun g=>by show (if k < h'.length then cc.ov k g else none)=_;rw[if_pos h1]
   cases Gp:aw h' k with
   |none=>rw[Gp]at bn;cases bn with|none q1 q2=>exact .none (by rw[oz];exact q1) (fun g=>by rw[dy];exact q2 g)
   |gone=>exact .gone
   |box T cells=>
    rw[Gp]at bn El;cases bn with
    |box _ _ b vs q1 q2 q3 q4=>
     exact .box T cells b vs (by rw[oz];exact q1) q2 ⟨q3.1,fun j d v hj hv=>(q3.2 j d v hj hv).cut (gu (by simpa[aH]using El) d (V0 hj))⟩ q4
   |mp nB sB ents=>
    rw[Gp]at bn;cases bn with
    |mp _ _ _ b q1 q2 q3=>exact .mp nB sB ents b (by rw[oz];exact q1) q2 q3
   |it nB sB ents seen=>
    rw[Gp]at bn;cases bn with
    |it _ _ _ _ b bm q1 q2 q3 q4=>exact .it nB sB ents seen b bm (by rw[oz];exact q1) q2 q3 q4
   |row E sz g rows=>
    rw[Gp]at bn El;cases bn with
    |row _ _ _ _ v xs q1 q2 q3 q4 q5 q6=>exact .row E sz g rows v xs (by rw[dy];exact q1) q2 ⟨q3.1,fun j d v hj hv=>(q3.2 j d v hj hv).cut (gu (qU (by simpa[aH]using El)) d (V0 hj))⟩ q4 q5 (fun g' hg=>by rw[dy];exact q6 g' hg)
  ·rw[kQ h' k h1];refine .none ?_ fun g=>?_
   ·show (if k < h'.length then cc.bl k else none)=_;rw[if_neg (by omega)]
   ·show (if k < h'.length then cc.ov k g else none)=_;rw[if_neg (by omega)]
 ·have hk':k < h'.length:=by omega
  obtain⟨q1,q2⟩:=hf.lent k hk;refine⟨?_,fun g v hv=>?_⟩
  ·show (if k < h'.length then cc.bl k else none)=_;rw[if_pos hk'];exact q1
  ·show (if k < h'.length then cc.ov k g else none)=_;rw[if_pos hk'];exact q2 g v hv
theorem dH.trans {P:Program}{n m:Nat}{e e' e'':bK}{h h' h'':List Chunk}(h1:dH P n m e h e' h')(h2:dH P n m e' h' e'' h''):dH P n m e h e'' h'':=fun X hX hn hm a w hr=>h2 X hX hn hm a w (h1 X hX hn hm a w hr)
theorem gN (h:List Chunk)(c:Chunk)(k:Nat):aw (h++[c]) k=if k=h.length then c else aw h k:=by
 rcases X8 k h.length with h1|h1|h1
 ·rw[mZ h [c] k h1,if_neg (by omega)]
 ·subst h1;rw[if_pos rfl];induction h with
  |nil=>rfl
  |cons a l ih=>exact ih
 ·rw[if_neg (by omega),kQ _ k (by simp;omega),kQ h k (by omega)]
theorem dO {P:Program}{n m:Nat}{e:bK}{h:List Chunk}(ik:m≤h.length)(t E sz:Nat)(ht:dQ e t= .d (.v (.slice none 0 0))):dH P n m e h ((t,.own h.length 0)::e) (h++[.row E sz 0 []]):=by
 intro X _ _ oB a w hr;obtain⟨c,hc⟩:=hr;obtain⟨c',q1,q2⟩:=hc.new_row (k:=h.length) (w':=w) (ey h) (by omega) E sz [] (.slice none 0 0) [] (Below.refl _ _) .nil (fun b hb=>by cases hb) ⟨rfl,fun j d x h=>by simp at h⟩ (by simp) (by simp);have hv:a.tmps.getD t undef= .slice none 0 0:=hc.bool ht;refine⟨c',q1.size,q1.defers,q1.ext,q1.inv,q1.fresh,?_,?_,?_,fun t'=>?_,?_,q1.lent⟩
 ·intro b;have:=q1.mu b;simp only[oO,bp]at this ⊢;simpa[gN]using this
 ·intro k b;have:=q1.new k b;simp only[oO,bp]at this ⊢;simpa[gN]using this
 ·intro k k' b;have:=q1.apart k k' b;simp only[oO,bp]at this ⊢;simpa[gN]using this
 ·simp only[bp,dQ];by_cases h1:t'=t
  ·subst h1;rw[if_pos rfl,hv];exact q2
  ·rw[if_neg h1];exact q1.env t'
 ·intro k;have:=q1.chunk k;simp only[oO,bp]at this ⊢;simpa[gN]using this
theorem aJ {P:Program}{n m:Nat}{e:bK}{h:List Chunk}(ik:m≤h.length)(kb T:Nat)(cells:List PV)(j E sz:Nat)(hk:aw h kb= .box T cells)(hj:cells[j]? =some (.d (.v (.slice none 0 0)))){h':List Chunk}(hh:h'=bg h kb (.box T (ap cells j [.own h.length 0]))++[.row E sz 0 []]):dH P n m e h e h':=by
 intro X _ _ oB a w hr;subst hh;obtain⟨c,hc⟩:=hr;obtain⟨c',q1,q2⟩:=hc.new_row (k:=h.length) (w':=w) (ey h) (by omega) E sz [] (.slice none 0 0) [] (Below.refl _ _) .nil (fun b hb=>by cases hb) ⟨rfl,fun j d x h=>by simp at h⟩ (by simp) (by simp);have hlt:kb < h.length:=mY (by rw[hk];simp);have OO:j < cells.length:=(V3.1 hj).1;have xY:(bg h kb (.box T (ap cells j [.own h.length 0]))).length=h.length:=by
  have:∀(l:List Chunk) (k:Nat) (c:Chunk),k < l.length→(bg l k c).length=l.length:=by
   intro l;induction l with
   |nil=>intro k c hk;simp at hk
   |cons a l ih=>
    intro k c hk;cases k with
    |zero=>rfl
    |succ k=>simp only[bg,Wc];rw[ih k c (by simpa using hk)]
  exact this h kb _ hlt
 have oE:∀k,aw (bg h kb (.box T (ap cells j [.own h.length 0]))++[.row E sz 0 []]) k=if k=h.length then .row E sz 0 []else if k=kb then .box T (ap cells j [.own h.length 0])else aw h k:=by
  intro k;rw[gN,xY,eI (by omega)]
 have hold:∀k,bS [(h.length,Chunk.row E sz 0 [])] (aw h) k=if k=h.length then .row E sz 0 []else aw h k:=fun k=>rfl;have ct:∀k,c'.block k (aw (bg h kb (.box T (ap cells j [.own h.length 0]))++[.row E sz 0 []]) k)=c'.block k (bS [(h.length,Chunk.row E sz 0 [])] (aw h) k):=by
  intro k;rw[oE,hold];by_cases h1:k=h.length
  ·rw[if_pos h1,if_pos h1]
  ·rw[if_neg h1,if_neg h1];by_cases h2:k=kb
   ·subst h2;rw[if_pos rfl,hk];rfl
   ·rw[if_neg h2]
 refine⟨c',q1.size,q1.defers,q1.ext,q1.inv,q1.fresh,?_,?_,?_,q1.env,?_,q1.lent⟩
 ·intro b;have:=q1.mu b;simp only[bp]at this ⊢;simpa only[ct]using this
 ·intro k b;have:=q1.new k b;simp only[bp]at this ⊢;rwa [ct]
 ·intro k k' b;have:=q1.apart k k' b;simp only[bp]at this ⊢;rwa [ct,ct]
 ·intro k;have bn:=q1.chunk k;simp only[bp]at bn ⊢;rw[oE];rw[hold]at bn;by_cases h1:k=h.length
  ·rw[if_pos h1]at bn ⊢;exact bn
  ·rw[if_neg h1]at bn ⊢;by_cases h2:k=kb
   ·subst h2;rw[if_pos rfl];rw[hk]at bn;have x8:=hc.chunk k;simp only[bp]at x8;rw[hk]at x8;cases bn with
    |box _ _ b vs g1 g2 g3 g4=>
     have UJ:vs[j]? =some (.slice none 0 0):=by
      have UK:j < vs.length:=by rw[←g3.1];exact OO
      obtain⟨u,hu⟩:∃u,vs[j]? =some u:=⟨_,VY UK⟩;have:=g3.2 j _ u hj hu;cases this with
      |d _ _ h=>cases h;exact hu
     have jV:ap vs j [.slice none 0 0]=vs:=by
      apply WS;intro i;rw[fu (by simp;rw[←g3.1];exact OO)];split
      ·rename_i hi;obtain rfl:i=j:=by simp at hi;omega
       rw[UJ];simp
      ·rfl
     have ur:aZ c' w [.own h.length 0] [.slice none 0 0]:=⟨rfl,fun i d x hd hx=>by
      cases i with
      |zero=>simp at hd hx;subst hd;subst hx;exact q2
      |succ i=>simp at hd⟩
     have x7:=j3 (off:=j) g3 ur (by simp;omega);rw[jV]at x7;exact .box T _ b vs g1 g2 x7 (fun d hd=>(iG hd).elim (g4 d) (fun hd=>by simp at hd;subst hd;rfl))
   ·rw[if_neg h2];exact bn
mutual
def fz (k g:Nat)(d:D):PV→PV
 | .own k' g'=>if k'=k∧g'=g then .d d else .own k' g'
 | .clo f caps=> .clo f (f8 k g d caps)
 | .agg l=> .agg (f8 k g d l)
 | .tup l=> .tup (f8 k g d l)
 | .d x=> .d x
 | .any=> .any
 | .ptr k' o=> .ptr k' o
 | .rp k' g' sz i j=> .rp k' g' sz i j
 | .osl k' g' sz a n=> .osl k' g' sz a n
 | .mref k'=> .mref k'
def f8 (k g:Nat)(d:D):List PV→List PV
 |[]=>[]
 |p::l=>fz k g d p::f8 k g d l
end
theorem kR (k g:Nat)(d:D):∀l,f8 k g d l=l.map (fz k g d)
 |[]=>rfl
 |p::l=>by simp only[f8,kR k g d l,V1]
theorem bY (k g:Nat)(d:D):∀(l:List D),f8 k g d (l.map .d)=l.map .d
 |[]=>rfl
 |x::l=>by simp only[V1,f8,fz,bY k g d l]
def fL (k g:Nat)(d:D):List (List PV)→List (List PV)
 |[]=>[]
 |r::l=>f8 k g d r::fL k g d l
theorem o4 (k g:Nat)(d:D):∀l,fL k g d l=l.map (·.map (fz k g d))
 |[]=>rfl
 |p::l=>by simp only[fL,o4 k g d l,kR,V1]
theorem bO (k g:Nat)(d:D):∀(l:List (List D)),fL k g d (aa l)=aa l
 |[]=>rfl
 |x::l=>by
  have:=bO k g d l;simp only[aa]at this;simp only[aa,V1,fL,bY,this]
def g9 (k g:Nat)(d:D):Chunk→Chunk
 | .box T cells=> .box T (f8 k g d cells)
 | .row E sz g' rows=> .row E sz g' (fL k g d rows)
 |c=>c
def iJ (k g:Nat)(d:D):bK→bK
 |[]=>[]
 |(t,p)::l=>(t,fz k g d p)::iJ k g d l
def fI (k g:Nat)(d:D):Nat→List Chunk→List Chunk
 |_,[]=>[]
 |j,c::l=>(if j=k then .gone else g9 k g d c)::fI k g d (j+1) l
theorem zh (k g:Nat)(d:D):∀(e:bK) (t:Nat),dQ (iJ k g d e) t=fz k g d (dQ e t)
 |[],t=>rfl
 |(t',p)::l,t=>by
  simp only[iJ,dQ];by_cases h:t=t'
  ·rw[if_pos h,if_pos h]
  ·rw[if_neg h,if_neg h];exact zh k g d l t
theorem Dr (k g:Nat)(d:D):∀(h:List Chunk) (j i:Nat),aw (fI k g d j h) i=if i+j=k then (if i < h.length then .gone else .none)else g9 k g d (aw h i)
 |[],j,i=>by simp[fI,aw,g9]
 |c::l,j,0=>by
  simp only[fI,aw,Wn,Wc,Yh,if_true]
 |c::l,j,i+1=>by
  simp only[fI,aw];rw[Dr k g d l (j+1) i];have e1:(i+(j+1)=k)=(i+1+j=k):=by apply propext;omega
  have e2:(i < l.length)=(i+1 < (c::l).length):=by apply propext;simp
  simp only[e1,e2]
theorem ax {P:Program}{n m:Nat}{e:bK}{h:List Chunk}(k g E sz:Nat)(rows:List (List D))(hk:aw h k= .row E sz g (aa rows)):dH P n m e h (iJ k g (.sl sz rows) e) (fI k g (.sl sz rows) 0 h):=by
 intro X _ _ oB a w hr;obtain⟨c,hc⟩:=hr;have hf:=hc.freeze [k];generalize gF:({c with M:=jz c (bp e h).heap [k]}:Cx)=cc at hf;have oz:cc.bl=c.bl:=by rw[←gF]
 have dy:cc.ov=c.ov:=by rw[←gF]
 have RA:cc.M=jz c (aw h) [k]:=by rw[←gF];rfl
 have hlt:k < h.length:=mY (by rw[hk];simp);have key:∀(p:PV) (v:Value),RepP cc w p v→RepP cc w (fz k g (.sl sz rows) p) v:=by
  intro p v hp;induction hp with
  |own k' g' v h1 h2=>
   simp only[fz];by_cases e:k'=k∧g'=g
   ·rw[if_pos e];obtain⟨rfl,rfl⟩:=e;refine .d _ _ ?_;rw[RA];have hv:aO (bp e h).heap 1 (.own k' g')=some (.sl sz rows):=by
     simp only[aO,bp,hk,if_true,dF,WQ]
    exact iT hc (T:=[k']) 1 hv (fun k2 kD=>by simpa[cn,bp,hk,l9]using kD) (.own k' g' v (by rw[←dy];exact h1) h2)
   ·rw[if_neg e];exact .own k' g' v h1 h2
  |clo f caps vs hl aV ih=>
   simp only[fz,kR];refine .clo f _ vs (by rw[Wg];exact hl) fun j d x hj hx=>?_;rw[V7,Wh]at hj;obtain⟨y,hy,rfl⟩:=hj;exact ih j y x hy hx
  |agg caps vs hl h1 aV ih=>
   simp only[fz,kR];refine .agg _ vs (by rw[Wg];exact hl) (fun d hd=>?_) fun j d x hj hx=>?_
   ·obtain⟨y,hy,rfl⟩:=Wp.1 hd;have:=h1 y hy;cases y<;>simp only[fz]<;>first|exact this|(split<;>first|rfl|exact this)
   ·rw[V7,Wh]at hj;obtain⟨y,hy,rfl⟩:=hj;exact ih j y x hy hx
  |tup caps vs hl aV ih=>
   simp only[fz,kR];refine .tup _ vs (by rw[Wg];exact hl) fun j d x hj hx=>?_;rw[V7,Wh]at hj;obtain⟨y,hy,rfl⟩:=hj;exact ih j y x hy hx
  |d x v h1=>exact .d x v h1
  |any v=>exact .any v
  |ptr k' off b h1=>exact .ptr k' off b h1
  |rp k' g' sz' i j b nn cap h1=>exact .rp k' g' sz' i j b nn cap h1
  |osl k' g' sz' a' nn b o N cap h1 h2 h3 h4=>exact .osl k' g' sz' a' nn b o N cap h1 h2 h3 h4
  |mref k' b h1=>exact .mref k' b h1
 have one:∀(y:PV),y.one=true→(fz k g (.sl sz rows) y).one=true:=by
  intro y hy;cases y<;>simp only[fz]<;>first|exact hy|(split<;>first|rfl|exact hy)
 have keys:∀(l:List PV) (vs:List Value),aZ cc w l vs→aZ cc w (l.map (fz k g (.sl sz rows))) vs:=by
  intro l vs hl;refine⟨by rw[Wg];exact hl.1,fun j d x hj hx=>?_⟩;rw[V7,Wh]at hj;obtain⟨y,hy,rfl⟩:=hj;exact key _ _ (hl.2 j y x hy hx)
 have oE:∀i,aw (fI k g (.sl sz rows) 0 h) i=g9 k g (.sl sz rows) (bS ([k].map fun k=>(k,.gone)) (aw h) i):=by
  intro i;rw[Dr,j8,Wz];by_cases e:i=k
  ·subst e;rw[if_pos rfl,if_pos hlt,if_pos (by simp)];rfl
  ·rw[if_neg e,if_neg (by simpa using e)]
 have ng:∀i ch,cc.block i (g9 k g (.sl sz rows) ch)=cc.block i ch:=fun i ch=>by cases ch<;>rfl
 refine⟨cc,hf.size,hf.defers,hf.ext,hf.inv,hf.fresh,fun b=>?_,fun i b hb=>?_,fun i j b hb hb'=>?_,fun t=>?_,fun i=>?_,hf.lent⟩
 ·rw[hf.mu b];simp only[bp,oE,ng]
 ·simp only[bp,oE,ng]at hb;exact hf.new i b hb
 ·simp only[bp,oE,ng]at hb hb';exact hf.apart i j b hb hb'
 ·show RepP cc w (dQ (iJ k g (.sl sz rows) e) t) _;rw[zh];exact key _ _ (hf.env t)
 ·have bn:=hf.chunk i;simp only[bp,oE]at bn ⊢;generalize bS ([k].map fun k=>(k,.gone)) (aw h) i=ch at bn;cases bn with
  |none h1 h2=>exact .none h1 h2
  |gone=>exact .gone
  |mp nB sB ents b h1 h2 h3=>exact .mp nB sB ents b h1 h2 h3
  |it nB sB ents seen b bm h1 h2 h3 h4=>exact .it nB sB ents seen b bm h1 h2 h3 h4
  |box T cells b vs h1 h2 h3 h4=>
   refine .box T _ b vs h1 h2 (by rw[kR];exact keys _ _ h3) (fun d hd=>?_);rw[kR]at hd;obtain⟨y,hy,rfl⟩:=Wp.1 hd;exact one y (h4 y hy)
  |row E' sz' g' rows' v xs h1 h2 h3 h4 h5 h6=>
   refine .row E' sz' g' _ v xs h1 (by rw[o4,Wg];exact h2) (by rw[o4,←List.map_flatten];exact keys _ _ h3) (fun r hr=>?_) (fun r hr d hd=>?_) h6
   ·rw[o4]at hr;obtain⟨y,hy,rfl⟩:=Wp.1 hr;rw[Wg];exact h4 y hy
   ·rw[o4]at hr;obtain⟨y,hy,rfl⟩:=Wp.1 hr;obtain⟨z,hz,rfl⟩:=Wp.1 hd;exact one z (h5 y hy z hz)
theorem aP {P:Program}{n m:Nat}{e e':bK}{h h':List Chunk}(he:e=e')(hh:h=h'):dH P n m e h e' h':=by
 subst he;subst hh;exact dH.refl _ _ _ _ _
section
open Go.Proofs
def BO (n:Int):Int:=2 ^ (16 - n).toNat - 1
theorem xp (n:Int):BO n=((2 ^ (16 - n).toNat - 1:Nat):Int):=by
 have:=Nat.one_le_two_pow (n:=(16 - n).toNat);have h4:((2 ^ (16 - n).toNat:Nat):Int)=(2:Int) ^ (16 - n).toNat:=by simp
 unfold BO;omega
theorem BP (n:Int)(h0:0≤n):(2:Int) ^ (16 - n).toNat≤65536∧1≤(2:Int) ^ (16 - n).toNat:=by
 have h1:(16 - n).toNat≤16:=by omega
 have h2:=Nat.pow_le_pow_right (n:=2) (by omega) h1;have h3:=Nat.one_le_two_pow (n:=(16 - n).toNat);have h4:((2 ^ (16 - n).toNat:Nat):Int)=(2:Int) ^ (16 - n).toNat:=by simp
 omega
theorem nW (n:Int)(h0:0≤n):0≤BO n∧BO n≤65535:=by
 have:=BP n h0;unfold BO;omega
theorem me (n:Int)(w:World)(h0:0≤n)(h1:n≤16):
 Calls prog 235 #[.int .i64 n] w fun e w'=>e= .returned (.int .i64 (BO n))∧w=w':=by
 have hp:=BP n h0;go_enter func235,ntmps235
 go_wp2
 go_ret
 exact⟨rfl,rfl⟩
def chk (a l:Int):Int:=if l < 0∨l>16∨a < 0∨a>65535 then 3 else if a % 2 ^ (16 - l).toNat=0 then 0 else 1
theorem Kz (a l:Int)(h0:0≤a)(h1:a≤65535)(h2:0≤l):bits .and .i64 a (BO l)=a % 2 ^ (16 - l).toNat:=by
 obtain⟨n,rfl⟩:=X7 h0;rw[xp,ym _ _ (by omega) (by have:=nW l h2;rw[xp]at this;omega),Nat.and_two_pow_sub_one_eq_mod];simp
theorem PK {a l:Int}(h:l < 0∨l>16∨a < 0∨a>65535):chk a l=3:=if_pos h
theorem HB {a l:Int}(h1:0≤l)(h2:l≤16)(h3:0≤a)(h4:a≤65535):chk a l=if a % 2 ^ (16 - l).toNat=0 then 0 else 1:=if_neg (by omega)
theorem m0 (a l:Int)(w:World):
 Calls prog 157 #[.agg #[.int .i64 a,.int .i64 l]] w fun e w'=>e= .returned (.int .i64 (chk a l))∧cW w w':=by
 by_cases hl:l < 0∨l>16∨a < 0∨a>65535
 ·have hc:=VZ (PK hl);by_cases h1:l < 0
  ·clear hl;go_enter func157,ntmps157
   go_wp2_with fail
   go_ret
   exact⟨bV hc.out.symm,(Below.refl _ _).alloc (Wa _) _⟩
  by_cases h2:l>16
  ·clear hl;go_enter func157,ntmps157
   go_wp2_with fail
   go_ret
   exact⟨bV hc.out.symm,(Below.refl _ _).alloc (Wa _) _⟩
  by_cases h3:a < 0
  ·clear hl;go_enter func157,ntmps157
   go_wp2_with fail
   go_ret
   exact⟨bV hc.out.symm,(Below.refl _ _).alloc (Wa _) _⟩
  have h4:a>65535:=by omega
  clear hl;go_enter func157,ntmps157
  go_wp2_with fail
  go_ret
  exact⟨bV hc.out.symm,(Below.refl _ _).alloc (Wa _) _⟩
 ·have hm:=nW l (by omega);obtain⟨g1,g2,g3,g4⟩:0≤l∧l≤16∧0≤a∧a≤65535:=by omega
  clear hl;have hc:=VZ (HB g1 g2 g3 g4);have ha:=VZ (Kz a l g3 g4 g1);go_enter func157,ntmps157
  go_wp2_with fail
  go_quiet ((go_at_call 235;exact Calls.quiet_of_same ((me _ _ (by omega) (by omega)).mono (fun _ _ h=>⟨h.1,h.2.symm⟩))))
  go_wp2_with fail
  ·go_ret
   rename_i h;rw[ha.out]at h;exact⟨bV (by rw[hc.out,if_neg (by simpa using h)]),below_drewN ((Below.refl _ _).alloc (Wa _) _) _⟩
  ·go_ret
   rename_i h;rw[ha.out]at h;exact⟨bV (by rw[hc.out,if_pos (by simpa using h)]),below_drewN ((Below.refl _ _).alloc (Wa _) _) _⟩
structure Pfx where
 at_:Int
 len:Int
 deriving DecidableEq
def Pfx.R (cs:List Value)(p:Pfx):Prop:=cs=[.int .i64 p.at_,.int .i64 p.len]
def Pfx.chk (p:Pfx):Int:=Go.Proofs.YtojojebildofnaaGreatDoor.chk p.at_ p.len
theorem vW {A:kJ}{w:World}{ao:Option Addr}{cap:Nat}{l:List Pfx}(h:Sl A w 2 Pfx.R ao cap l):
 Calls prog 252 #[.slice ao l.length cap] w fun e w'=>e= .returned (.bool (l.all fun p=>p.chk==0))∧cW w w':=by
 have gh:=h.cap_le;have Gr:=h.cap_max;go_enter func252,ntmps252
 go_wp2_with fail
 go_loopw [7] (fun i wr=>∃k:Nat,k≤l.length∧i= .int .i64 k∧(∀p∈l.take k,p.chk=0)∧Bel w.heap.size w wr) (fun i _=>l.length - (intOf i).toNat)
 case atStart=>exact⟨0,Wr _,rfl,by simp,Bel.refl _⟩
 case round=>
  obtain⟨k,hk,rfl,b7,hb⟩:=hrel;by_cases hlt:k < l.length
  ·obtain⟨b,off,cs,Sq,-,-,hR,hc⟩:=h.elem k hlt;generalize hp:l[k]=p at hR;unfold Pfx.R at hR;subst hR;have Gu:=hc 0 (by simp);have Mo:=hc 1 (by simp);simp at Gu Mo;have oz:=cQ Gu;have Gu:=hb.cell oz Gu;have Mo:=hb.cell oz Mo;replace hp:=VZ hp;replace b7:=VZ b7;clear hc;subst Sq;go_wp2_with fail
   have hle:=hb.le;refine(m0 _ _ _).mono ?_;rintro e w1 ⟨rfl,cJ⟩;have M6:Bel w.heap.size w w1:=by(repeat(first|with_reducible assumption|with_reducible exact Bel.refl _|with_reducible refine Bel.alloc ?_ _|with_reducible refine Bel.drewN ?_ _|with_reducible refine Bel.drew ?_|(with_reducible refine aD ?_ ?_ _;rotate_left;(first|omega|(simp;done)|(simp;omega)))|(with_reducible refine Bel.setCell ?_ (p:=_) ?_ _;rotate_left;(first|(simp;done)|omega|(simp;omega)))|refine Bel.call ?_ (by assumption)|(refine EX.bel ?_ (by assumption) ?_;rotate_left;(first|omega|(simp;omega)))))
   replace M6:=VZ M6;clear hb;by_cases hz:Go.Proofs.YtojojebildofnaaGreatDoor.chk p.at_ p.len=0
   ·have rT:(Go.Proofs.YtojojebildofnaaGreatDoor.chk p.at_ p.len !=0)=false:=by simp[hz]
    replace hz:=VZ hz;go_wp2_with fail
    go_roundw
    case rel=>exact⟨k+1,by omega,by go_num,by
     intro q hq;rw[XT hlt]at hq;rcases WJ.1 hq with hq|hq
     ·exact b7.out q hq
     ·rw[WP.1 hq,hp.out];exact hz.out,M6.out⟩
    case measure=>simp[intOf];omega
   ·have rT:(Go.Proofs.YtojojebildofnaaGreatDoor.chk p.at_ p.len !=0)=true:=by simp[hz]
    go_wp2_with fail
    go_ret
    refine⟨?_,M6.out.bel⟩;have:(l.all fun p=>p.chk==0)=false:=by
     rw[X6];exact⟨l[k],W8 hlt,by rw[hp.out];simpa[Pfx.chk]using hz⟩
    rw[this];rfl
  ·obtain rfl:k=l.length:=by omega
   go_wp2_with fail
   go_ret
   refine⟨?_,hb.bel⟩;have:(l.all fun p=>p.chk==0)=true:=by
    rw[Wx];intro p hp;rw[V4]at b7;simpa using b7 p hp
   rw[this];rfl
end
theorem aj {α:Type}{l:List α}{k:Nat}{x:α}(h:l[k]? =some x):l.take (k+1)=l.take k++[x]:=by
 rw[List.take_add_one,h];rfl
structure Lse where
 at_:Pfx
 kind:Int
 owner:Int
 till:Int
 deriving DecidableEq
structure Rul where
 min:Int
 max:Int
 usual:Int
 cool:Int
 deriving DecidableEq
structure Pol where
 id:Int
 up:Int
 root:Pfx
 rule:Rul
 leases:List Lse
 deriving DecidableEq
structure Bok where
 tick:Int
 pools:List Pol
 deriving DecidableEq
@[go_sem] def PL (n:Int):D:= .v (.int .i64 n)
@[go_sem] def aL (p:Pfx):List D:=[.v (.int .i64 p.at_),.v (.int .i64 p.len)]
@[go_sem] def zi (r:Rul):List D:=[.v (.int .i64 r.min),.v (.int .i64 r.max),.v (.int .i64 r.usual),.v (.int .i64 r.cool)]
@[go_sem] def aW (l:Lse):List D:=[.v (.int .i64 l.at_.at_),.v (.int .i64 l.at_.len),.v (.int .i64 l.kind),.v (.int .i64 l.owner),.v (.int .i64 l.till)]
@[go_sem] def al (p:Pol):List D:=[.v (.int .i64 p.id),.v (.int .i64 p.up),.v (.int .i64 p.root.at_),.v (.int .i64 p.root.len),.v (.int .i64 p.rule.min),.v (.int .i64 p.rule.max),.v (.int .i64 p.rule.usual),.v (.int .i64 p.rule.cool),.sl 5 (p.leases.map aW)]
@[go_sem] def bC (b:Bok):List D:=[.v (.int .i64 b.tick),.sl 9 (b.pools.map al)]
def KA (root:Pfx)(us:List Pfx):List D:=[.v (.int .i64 root.at_),.v (.int .i64 root.len),.sl 2 (us.map aL)]
theorem zj (p:Pfx):(aL p).length=2:=rfl
structure Fce where
 id:Int
 addrs:List Int
 deriving DecidableEq
structure Sbn where
 id:Int
 at_:Pfx
 faces:List Fce
 deriving DecidableEq
structure Rng where
 at_:Pfx
 pool:Int
 deriving DecidableEq
structure Vpc where
 id:Int
 ranges:List Rng
 subs:List Sbn
 deriving DecidableEq
@[go_sem] def dI (n:Int):List D:=[.v (.int .i64 n)]
@[go_sem] def cO (f:Fce):List D:=[.v (.int .i64 f.id),.sl 1 (f.addrs.map dI)]
@[go_sem] def bw (s:Sbn):List D:=[.v (.int .i64 s.id),.v (.int .i64 s.at_.at_),.v (.int .i64 s.at_.len),.sl 2 (s.faces.map cO)]
@[go_sem] def cf (r:Rng):List D:=[.v (.int .i64 r.at_.at_),.v (.int .i64 r.at_.len),.v (.int .i64 r.pool)]
@[go_sem] def aG (v:Vpc):List D:=[.v (.int .i64 v.id),.sl 3 (v.ranges.map cf),.sl 4 (v.subs.map bw)]
theorem s7 (f:Fce):(cO f).length=2:=rfl
theorem ke (s:Sbn):(bw s).length=4:=rfl
theorem kf (r:Rng):(cf r).length=3:=rfl
theorem fM (v:Vpc):(aG v).length=3:=rfl
structure Lnk where
 a:Int
 b:Int
 deriving DecidableEq
structure Net where
 vpcs:List Vpc
 links:List Lnk
 deriving DecidableEq
@[go_sem] def cA (l:Lnk):List D:=[.v (.int .i64 l.a),.v (.int .i64 l.b)]
@[go_sem] def fG (n:Net):List D:=[.sl 3 (n.vpcs.map aG),.sl 2 (n.links.map cA)]
structure Ste where
 book:Bok
 net:Net
 deriving DecidableEq
structure Cmd where
 op:Int
 a:Int
 b:Int
 c:Int
 at_:Pfx
 rule:Rul
 deriving DecidableEq
structure Ans where
 err:Int
 at_:Pfx
 n:Int
 deriving DecidableEq
def Ans.zero:Ans:=⟨0,⟨0,0⟩,0⟩
def Ans.er (e:Int):Ans:=⟨e,⟨0,0⟩,0⟩
def Ste.zero:Ste:=⟨⟨0,[]⟩,⟨[],[]⟩⟩
@[go_sem] def gO (s:Ste):List D:=[.v (.int .i64 s.book.tick),.sl 9 (s.book.pools.map al),.sl 3 (s.net.vpcs.map aG),.sl 2 (s.net.links.map cA)]
@[go_sem] def fl (c:Cmd):List D:=[.v (.int .i64 c.op),.v (.int .i64 c.a),.v (.int .i64 c.b),.v (.int .i64 c.c),.v (.int .i64 c.at_.at_),.v (.int .i64 c.at_.len),.v (.int .i64 c.rule.min),.v (.int .i64 c.rule.max),.v (.int .i64 c.rule.usual),.v (.int .i64 c.rule.cool)]
@[go_sem] def Ds (a:Ans):List D:=[.v (.int .i64 a.err),.v (.int .i64 a.at_.at_),.v (.int .i64 a.at_.len),.v (.int .i64 a.n)]
def vX:D→Value
 | .v x=>x
 |_=>undef
def MB:D→Value
 | .v x=>x
 | .agg l=> .agg (l.map vX).toArray
 |_=>undef
def zk:D→Value
 | .v x=>x
 | .agg l=> .agg (l.map vX).toArray
 | .tup l=> .tuple (l.map MB).toArray
 |_=>undef
theorem mf {vs:List Value}{ds:List D}{f:D→Value}(hl:ds.length=vs.length)(h:∀(j:Nat) (d:D) (x:Value),ds[j]? =some d→vs[j]? =some x→x=f d):vs=ds.map f:=by
 apply WS;intro j;rw[V7];cases hd:ds[j]? with
 |none=>
  have:ds.length≤j:=by simpa using hd
  rw[Wm (by omega)];rfl
 |some d=>
  have hlt:j < vs.length:=by rw[←hl];exact(V3.1 hd).1
  rw[VY hlt,h j d _ hd (VY hlt)];rfl
theorem Dt {M:Nat→Prop}{w:World}{d:D}{v:Value}(h:RepD M w d v)(hf:d.isV=true):v=vX d:=by
 cases d<;>simp[D.isV]at hf;cases h;rfl
theorem zl {M:Nat→Prop}{w:World}{d:D}{v:Value}(h:RepD M w d v)(hf:d.flat=true):v=zk d:=by
 cases h with
 |v=>rfl
 |agg cells vs hl h1 aV=>
  simp only[D.flat,Wx]at hf;rw[mf (f:=vX) hl fun j d x hj hx=>Dt (aV j d x hj hx) (hf d (V0 hj))];rfl
 |tup ds vs hl aV=>
  simp only[D.flat,Wx]at hf;rw[mf (f:=MB) hl fun j d x hj hx=>?_]
  ·rfl
  ·have h0:=aV j d x hj hx;have h1:=hf d (V0 hj);cases h0 with
   |v=>rfl
   |agg cells us hl' h1' mJ=>
    simp only[Wx]at h1;rw[mf (f:=vX) hl' fun j d x hj hx=>Dt (mJ j d x hj hx) (h1 d (V0 hj))];rfl
   |_=>simp at h1
 |_=>simp[D.flat]at hf
def D.aggOK:D→Bool
 | .agg l=>l.all D.one
 | .tup l=>l.all fun d=>match d with| .agg l=>l.all D.one|_=>true
 |_=>true
theorem Du {M:Nat→Prop}{w:World}(ds:List D)(hf:∀d∈ds,d.isV=true):∀(j:Nat) (d:D) (x:Value),ds[j]? =some d→(ds.map vX)[j]? =some x→RepD M w d x:=by
 intro j d x hj hx;rw[V7,hj]at hx;cases hx;have:=hf d (V0 hj);cases d<;>simp[D.isV]at this;exact .v _
theorem Dv {M:Nat→Prop}{w:World}{d:D}(hf:d.flat=true)(h1:d.aggOK=true):RepD M w d (zk d):=by
 cases d with
 |v x=>exact .v x
 |agg l=>
  simp only[D.flat,Wx]at hf;simp only[D.aggOK,Wx]at h1;exact .agg l _ (by simp) h1 (Du l hf)
 |tup l=>
  simp only[D.flat,Wx]at hf;simp only[D.aggOK,Wx]at h1;refine .tup l _ (by simp) fun j d x hj hx=>?_;rw[V7,hj]at hx;cases hx;have h2:=hf d (V0 hj);have h3:=h1 d (V0 hj);cases d with
  |v x=>exact .v x
  |agg l'=>
   simp only[Wx]at h2 h3;exact .agg l' _ (by simp) h3 (Du l' h2)
  |_=>simp at h2
 |_=>simp[D.flat]at hf
theorem eA {P:Program}{f:Nat}{ds:List D}{r:D}(hn:sG P f)(hf:∀d∈ds,d.flat=true)(hr:r.flat=true)(ur:r.aggOK=true)(h:∀w,Calls P f (ds.map zk).toArray w fun e w'=>e= .returned (zk r)∧cW w w'):ae P f ds r:=by
 refine⟨hn,fun M w vs _ _ cZ=>?_⟩;rw[mf (f:=zk) cZ.1 fun j d x hj hx=>zl (cZ.2 j d x hj hx) (hf d (V0 hj))];exact(h w).mono fun e w' ⟨he,hx⟩=>⟨zk r,he,Dv hr ur,hx⟩
theorem dZ {M:Nat→Prop}{w:World}{d:D}{ds:List D}{vs:List Value}(h:cS M w (d::ds) vs):∃v us,vs=v::us∧RepD M w d v∧cS M w ds us:=by
 cases vs with
 |nil=>have:=h.1;simp at this
 |cons v us=>exact⟨v,us,rfl,h.2 0 d v rfl rfl,⟨by simpa using h.1,fun j d x hj hx=>h.2 (j+1) d x (by simpa using hj) (by simpa using hx)⟩⟩
theorem kg {M:Nat→Prop}{w:World}{vs:List Value}(h:cS M w [] vs):vs=[]:=by
 cases vs with
 |nil=>rfl
 |cons v us=>have:=h.1;simp at this
theorem HC {M:Nat→Prop}{w:World}{ds:List D}{v:Value}(h:RepD M w (.agg ds) v):∃vs:List Value,v= .agg vs.toArray∧cS M w ds vs:=by
 cases h with
 |agg _ vs hl h1 aV=>exact⟨vs,rfl,hl,aV⟩
theorem mg {M:Nat→Prop}{w:World}{x v:Value}(h:RepD M w (.v x) v):v=x:=by cases h;rfl
theorem KB {M:Nat→Prop}{w:World}{us:List Pfx}{v:Value}(h:RepD M w (.sl 2 (us.map aL)) v):∃ao cap,v= .slice ao us.length cap∧Sl (fun b=>¬M b) w 2 Pfx.R ao cap us:=by
 generalize hr:us.map aL=rows at h;have hl:us.length=rows.length:=by rw[←hr];simp
 cases h with
 |nil _ ao cap hm=>
  have:us=[]:=WA (by simpa using hl);subst this;exact⟨ao,cap,rfl,⟨Wr _,hm,fun i hi=>absurd hi (XW _)⟩⟩
 |sl _ _ b off cap f hM hb hc hm hr' h1 bE aV=>
  refine⟨_,cap,by rw[hl],⟨by omega,hm,fun i hi=>⟨b,off,[.int .i64 us[i].at_,.int .i64 us[i].len],rfl,hM,rfl,rfl,fun j hj=>?_⟩⟩⟩;have bu:rows[i]? =some (aL us[i]):=by rw[←hr,V7,VY hi];rfl
  have UL:=bE i j (by omega) hj;rw[UL];match j,hj with
  |0,_=>rw[mg (aV i 0 _ _ bu rfl)];rfl
  |1,_=>rw[mg (aV i 1 _ _ bu rfl)];rfl
theorem HD {M:Nat→Prop}{w:World}{root:Pfx}{us:List Pfx}{v:Value}(h:RepD M w (.agg (KA root us)) v):∃uo cap,v= .agg #[.int .i64 root.at_,.int .i64 root.len,.slice uo us.length cap]∧Sl (fun b=>¬M b) w 2 Pfx.R uo cap us:=by
 obtain⟨vs,rfl,qI⟩:=HC h;obtain⟨a,vs,rfl,ha,qI⟩:=dZ qI;obtain⟨b,vs,rfl,hb,qI⟩:=dZ qI;obtain⟨c,vs,rfl,hc,qI⟩:=dZ qI;rw[kg qI,mg ha,mg hb];obtain⟨ao,cap,rfl,hs⟩:=KB hc;exact⟨ao,cap,rfl,hs⟩
theorem E2 {α:Type}{M:Nat→Prop}{A:kJ}{w:World}{k:Nat}{R:List Value→α→Prop}{f:α→List Value}{l:List α}{ao:Option Addr}{cap:Nat}(h:Sl A w k R ao cap l)(hR:∀cs x,R cs x→cs=f x)(hk:∀x,(f x).length=k)(h0:0 < k)(h1:∀x,∀v∈f x,v.oneCell'=true)(hA:∀b,A b→¬M b):RepD M w (.sl k (l.map fun x=>(f x).map .v)) (.slice ao l.length cap):=by
 cases l with
 |nil=>exact .nil k ao cap h.cap_max
 |cons u us=>
  obtain⟨b,off,cs,rfl,Sr,hl,VF,mK⟩:=h.elem 0 (by simp);have bE:∀i (hi:i < (u::us).length) j,j < k→w.cell? ⟨b,off+i*k+j,none⟩=some ((f ((u::us)[i])).getD j undef):=by
   intro i hi j hj;obtain⟨b',off',cs',e,-,hl',hR',CX⟩:=h.elem i hi;cases e;have:=CX j (by omega);have e2:=hR _ _ hR';subst e2;rw[this];simp only[Ww,VY (show j < (f (u::us)[i]).length by rw[hk];exact hj),Xc]
  have bc:((u::us).map fun x=>(f x).map D.v).length=(u::us).length:=by simp
  rw[←bc];refine .sl k ((u::us).map fun x=>(f x).map D.v) b off cap (fun i j=>(f ((u::us).getD i u)).getD j undef) (hA b Sr) (cQ (bE 0 (by simp) 0 h0)) (by rw[bc];exact h.cap_le) h.cap_max (fun r hr=>?_) (fun r hr=>?_) (fun i j hi hj=>?_) (fun i j row d hi hj=>?_)
  ·obtain⟨x,-,rfl⟩:=Wp.1 hr;rw[Wg];exact hk x
  ·obtain⟨x,-,rfl⟩:=Wp.1 hr;intro d hd;obtain⟨v,hv,rfl⟩:=Wp.1 hd;exact h1 x v hv
  ·have hi':i < (u::us).length:=by simpa using hi
   rw[bE i hi' j hj];simp only[Ww,VY hi',Xc]
  ·rw[V7]at hi;simp only[Wh]at hi;obtain⟨x,hx,rfl⟩:=hi;rw[V7]at hj;simp only[Wh]at hj;obtain⟨v,hv,rfl⟩:=hj;simp only[Ww,hx,hv,Xc];exact .v _
def uU (c:Cmd):WCmd:=⟨c.op,c.a,c.b,c.c,c.at_.at_,c.at_.len,c.rule.min,c.rule.max,c.rule.usual,c.rule.cool⟩
def NC (c:WCmd):Cmd:=⟨c.op,c.a,c.b,c.c,⟨c.at_,c.len⟩,⟨c.min,c.max,c.usual,c.cool⟩⟩
theorem E3 (c:Cmd):NC (uU c)=c:=rfl
def pN (c:Cmd):Bool:=(uU c).ok
def BQ (c:Cmd):ByteArray:=nN (uU c)
def KC (c:Cmd):ByteArray:=gn (BQ c)
theorem E4 (c:Cmd):(BQ c).size=37:=mS _
theorem E5 (c:Cmd):(KC c).size=42:=lU _
theorem KD (c:Cmd):ae prog 23 [.agg (fl c)] (.tup [.v (.string (if pN c then BQ c else⟨#[]⟩)),.v (.int .i64 (if pN c then 0 else 3))]):=by
 refine eA (ce func23 (by kernel_rfl) rfl) (by intro d hd;simp at hd;subst hd;rfl) rfl rfl fun w=>(Eu (uU c) w).mono fun e w' h=>⟨h.1.trans ?_,h.2⟩;unfold pS pN BQ;split<;>rfl
theorem KE (s:ByteArray)(h:s.size≤255):ae prog 25 [.v (.string s)] (.tup [.v (.string (gn s)),.v (.int .i64 0)]):=eA (ce func25 (by kernel_rfl) rfl) (by intro d hd;simp at hd;(repeat(first|(obtain rfl:=hd;rfl)|(rcases hd with rfl|hd; · rfl)))) rfl rfl (fun w=>pR s w h)
open Classical in
noncomputable def repN (s:ByteArray):Nat:=if h:s.size≤16384∧∃n,Replayed s n then h.2.choose else 0
noncomputable def repL (s:ByteArray):List Cmd:=if s.size≤16384 then (iS s (repN s)).map NC else []
def mh (s:ByteArray):Int:=if s.size≤16384 then 0 else 2
theorem Dw {s:ByteArray}{n:Nat}(h:s.size≤16384)(k:Replayed s n):repN s=n:=by
 unfold repN;rw[dif_pos ⟨h,n,k⟩];exact(Exists.choose_spec (⟨n,k⟩:∃n,Replayed s n)).unique k
theorem qY (s:ByteArray):(repL s).length=repN s:=by
 unfold repL;split
 ·simp[ee]
 ·rename_i h;unfold repN;rw[dif_neg (fun k=>h k.1)];rfl
theorem KF {s:ByteArray}{M:Nat→Prop}{w:World}{e:Ending}{w':World}(hM:∀b,M b→b < w.heap.size)(h:GP s w e w'):∃v,e= .returned v∧RepD M w' (.tup [.sl 10 ((repL s).map fl),.v (.int .i64 (42*(repN s:Int))),.v (.int .i64 (mh s))]) v∧cW w w':=by
 rcases h with⟨h,n,ao,cap,hr,rfl,hs,hx⟩|⟨h,rfl,rfl⟩
 ·have hn:=Dw h hr;refine⟨_,rfl,.tup _ [_,_,_] rfl fun j d x hj hx=>?_,hx⟩;unfold repL mh at hj;match j with
  |0=>
   cases hx;rw[if_pos h,hn]at hj;cases hj;have:=E2 (M:=M) (f:=fun c:WCmd=>c.cs.toList) hs (fun _ _ h=>h) (fun _=>rfl) (by omega) (fun x v hv=>by simp[WCmd.cs]at hv;rcases hv with rfl|rfl|rfl|rfl|rfl|rfl|rfl|rfl|rfl|rfl<;>rfl) (fun b hb hm=>by have:=hM b hm;omega);rw[ee]at this;rw[Yz];exact this
  |1=>cases hj;cases hx;rw[hn];exact .v _
  |2=>cases hj;cases hx;rw[if_pos h];exact .v _
  |j+3=>simp at hj
 ·have hn:repN s=0:=by unfold repN;rw[dif_neg (by omega)]
  refine⟨_,rfl,.tup _ [_,_,_] rfl fun j d x hj hx=>?_,Below.refl _ _⟩;unfold repL mh at hj;match j with
  |0=>
   cases hx;rw[if_neg (by omega)]at hj;cases hj;exact .nil _ _ _ (by omega)
  |1=>cases hj;cases hx;rw[hn];exact .v _
  |2=>cases hj;cases hx;rw[if_neg (by omega)];exact .v _
  |j+3=>simp at hj
theorem zm (s:ByteArray):ae prog 18 [.v (.string s)] (.tup [.sl 10 ((repL s).map fl),.v (.int .i64 (42*(repN s:Int))),.v (.int .i64 (mh s))]):=by
 refine⟨ce func18 (by kernel_rfl) rfl,fun M w vs hM hG cZ=>?_⟩;obtain⟨v,vs,rfl,h1,cZ⟩:=dZ cZ;rw[kg cZ,mg h1];exact(Bt s w).mono fun e w' h=>KF hM h
theorem kS (h:List Chunk)(k:Nat)(ch:Chunk)(hk:k < h.length):aw (bg h k ch)=bS [(k,ch)] (aw h):=by
 funext i;rw[eI (YM hk),oO]
theorem HE {P:Program}{n m:Nat}{e:bK}{h:List Chunk}(t k g E sz l:Nat)(rows:List (List PV))(ht:dQ e t= .osl k g sz 0 l)(hk:aw h k= .row E sz g rows)(bq:rows≠[])(hl:l≤rows.length){e':bK}{h':List Chunk}(he:e'=(t,.own k (g+1))::e)(hh:h'=bg h k (.row E sz (g+1) (rows.take l))):dH P n m e h e' h':=by
 intro X _ _ oB a w hr;subst he;subst hh;obtain⟨c,hc⟩:=hr;have hlt:k < h.length:=mY (by rw[hk];simp);have OP:=hc.env t;have bn:=hc.chunk k;have ht':(bp e h).env t= .osl k g sz 0 l:=ht;have hk':(bp e h).heap k= .row E sz g rows:=hk;rw[ht']at OP;rw[hk']at bn;generalize hv:a.tmps.getD t undef=v at OP;cases OP with
 |osl _ _ _ _ _ b o N cap dy hn MZ Jo=>
  obtain⟨cur,xs,q1,q2,q3,q4,q5,q6,q7,q8,q9,q10,q11⟩:=di bn dy bq;have wP:0 < rows.length:=XM.2 bq;obtain rfl:o=0:=by rw[Jo (by omega)];simp
  have bf:OwnV w E sz (.slice (some ⟨b,0,none⟩) l (cap - 0)) (rows.take l).length (xs.take (l*sz)):=by
   rw[V2,Nat.min_eq_left hl];have OF:l*sz≤rows.length*sz:=WX sz hl;refine .row b l (cap - 0) cur _ (by omega) q1 (by omega) (by omega) q11 (by rw[V2];omega) ?_;apply WS;intro j;by_cases hj:j < l*sz
   ·rw[Wo hj,Wo hj,WB,q4 j (by omega)]
   ·rw[Wm (by rw[V2];omega),Wm (by rw[V2];omega)]
  obtain⟨c',r1,r2⟩:=hc.set_row (w':=w) hk' dy ⟨rfl,rfl,rfl,Wa _,fun _ _ _=>rfl⟩ bf (.inl (by rw[cg (by omega),cg (by omega)])) (by rw[fJ q5];exact⟨by rw[V2,V2,q2.1],fun j d x hj hx=>by
   have CY:j < l*sz:=by
    have:=(V3.1 hj).1;rw[V2]at this;omega
   rw[Wo CY]at hj hx;exact q2.2 j d x hj hx⟩)
   (fun r hr=>q5 r (WN hr)) (fun r hr=>q6 r (WN hr))
  have kF:=kS h k (.row E sz (g+1) (rows.take l)) hlt;refine⟨c',r1.size,r1.defers,r1.ext,r1.inv,r1.fresh,?_,?_,?_,fun t'=>?_,?_,r1.lent⟩
  ·intro b;have:=r1.mu b;simp only[bp,kF]at this ⊢;exact this
  ·intro k b;have:=r1.new k b;simp only[bp,kF]at this ⊢;exact this
  ·intro k k' b;have:=r1.apart k k' b;simp only[bp,kF]at this ⊢;exact this
  ·simp only[bp,dQ];by_cases h1:t'=t
   ·subst h1;rw[if_pos rfl,hv];exact r2
   ·rw[if_neg h1];exact r1.env t'
  ·intro k;have:=r1.chunk k;simp only[bp,kF]at this ⊢;exact this
theorem E6 {P:Program}{n m:Nat}{e:bK}{h:List Chunk}(t k g E sz:Nat)(rows:List (List PV))(ht:dQ e t= .own k g)(hk:aw h k= .row E sz g rows){e':bK}{h':List Chunk}(he:e'=(t,.own k (g+1))::e)(hh:h'=bg h k (.row E sz (g+1) rows)):dH P n m e h e' h':=by
 intro X _ _ oB a w hr;subst he;subst hh;obtain⟨c,hc⟩:=hr;have hlt:k < h.length:=mY (by rw[hk];simp);have OP:=hc.env t;have bn:=hc.chunk k;have ht':(bp e h).env t= .own k g:=ht;have hk':(bp e h).heap k= .row E sz g rows:=hk;rw[ht']at OP;rw[hk']at bn;generalize hv:a.tmps.getD t undef=v at OP;cases OP with
 |own _ _ _ dy h1=>
  cases bn with
  |row _ _ _ _ u xs hu bf hr ck h1' hg=>
   rw[dy]at hu;cases hu;obtain⟨c',r1,r2⟩:=hc.set_row (w':=w) hk' dy ⟨rfl,rfl,rfl,Wa _,fun _ _ _=>rfl⟩ bf (.inl rfl) hr ck h1';have kF:=kS h k (.row E sz (g+1) rows) hlt;refine⟨c',r1.size,r1.defers,r1.ext,r1.inv,r1.fresh,?_,?_,?_,fun t'=>?_,?_,r1.lent⟩
   ·intro b;have:=r1.mu b;simp only[bp,kF]at this ⊢;exact this
   ·intro k b;have:=r1.new k b;simp only[bp,kF]at this ⊢;exact this
   ·intro k k' b;have:=r1.apart k k' b;simp only[bp,kF]at this ⊢;exact this
   ·simp only[bp,dQ];by_cases h1:t'=t
    ·subst h1;rw[if_pos rfl,hv];exact r2
    ·rw[if_neg h1];exact r1.env t'
   ·intro k;have:=r1.chunk k;simp only[bp,kF]at this ⊢;exact this
theorem zn (p q:PV)(e:bK)(t:Nat):dQ ((0,q)::[(0,p)]) t=dQ [(0,q)] t:=by
 simp only[dQ];by_cases h0:t=0
 ·rw[if_pos h0,if_pos h0]
 ·rw[if_neg h0,if_neg h0,if_neg h0]
theorem ef {P:Program}{m:Nat}{h:List Chunk}(k g E sz:Nat)(rows:List (List PV))(hk:aw h k= .row E sz g rows){e':bK}{h':List Chunk}(hw:dH P 1 m [(0,.own k (g+1))] (bg h k (.row E sz (g+1) rows)) e' h'):dH P 1 m [(0,.own k g)] h e' h':=
 ((E6 0 k g E sz rows rfl hk rfl rfl).trans (qb fun t=> .inr (zn _ _ [] t).symm)).trans hw
theorem fN {P:Program}{m:Nat}{h:List Chunk}(ik:m≤h.length)(E sz:Nat){e':bK}{h':List Chunk}(hw:dH P 1 m [(0,.own h.length 0)] (h++[.row E sz 0 []]) e' h'):dH P 1 m [(0,.d (.v (.slice none 0 0)))] h e' h':=
 ((dO ik 0 E sz rfl).trans (qb fun t=> .inr (zn _ _ [] t).symm)).trans hw
theorem aN {P:Program}{n m:Nat}{e:bK}{h:List Chunk}(k:Nat)(hk:k < h.length):dH P n m e h e (bg h k .gone):=by
 intro X _ _ oB a w hr;obtain⟨c,hc⟩:=hr;have hf:=hc.freeze [k];have kF:=kS h k .gone hk;refine⟨_,hf.size,hf.defers,hf.ext,hf.inv,hf.fresh,?_,?_,?_,hf.env,?_,hf.lent⟩
 ·intro b;have:=hf.mu b;simp only[bp,kF,V1,V5]at this ⊢;exact this
 ·intro k b;have:=hf.new k b;simp only[bp,kF,V1,V5]at this ⊢;exact this
 ·intro k k' b;have:=hf.apart k k' b;simp only[bp,kF,V1,V5]at this ⊢;exact this
 ·intro k;have:=hf.chunk k;simp only[bp,kF,V1,V5]at this ⊢;exact this
theorem o5 {P:Program}{f sz:Nat}{pl ql:List PV}{h0 h1:List Chunk}{r:PV}(h:∀(ao:Option Addr) (cap:Nat),MSpec P f (pl++ .d (.v (.slice ao 0 cap))::ql) h0 r h1):MSpec P f (pl++ .d (.sl sz [])::ql) h0 r h1:=by
 have RB:=h none 0;have oz:∀(d d':D) (n:Nat) (pl:List PV),af n (pl++ .d d::ql)=af n (pl++ .d d'::ql):=by
  intro d d' n pl;induction pl with
  |nil=>simp only[WO,af,ag]
  |cons a pl ih=>simp only[WH,af,ih]
 refine⟨RB.fn,RB.le,(oz _ _ _ pl).trans RB.ba,RB.bh,fun X hP hn hm' w c vs hr jn=>?_⟩;have bc:=jn.1;obtain⟨v,hv⟩:∃v,vs[pl.length]? =some v:=⟨_,VY (by rw[←bc];simp)⟩;have hd:=jn.2 pl.length (.d (.sl sz [])) v (by simp) hv;have hd:=bA hd;have key:∀ao cap,v= .slice ao 0 cap→aZ c w (pl++ .d (.v (.slice ao 0 cap))::ql) vs:=by
  rintro ao cap rfl;refine⟨by simpa using bc,fun j d x hj hx=>?_⟩;rcases X8 j pl.length with hlt|rfl|hgt
  ·exact jn.2 j d x (by rw[WK hlt]at hj ⊢;exact hj) hx
  ·rw[hv]at hx;cases hx;simp at hj;subst hj;exact .d _ _ (.v _)
  ·refine jn.2 j d x ?_ hx;rw[Wq (by omega)]at hj ⊢;obtain⟨i,hi⟩:∃i,j - pl.length=i+1:=⟨j - pl.length - 1,by omega⟩;rw[hi]at hj ⊢;exact hj
 cases hd with
 |nil _ ao cap hm=>exact(h ao cap).run X hP hn hm' w c vs hr (key _ _ rfl)
 |sl _ _ b off cap f hM hb hc hm=>
  exact(h _ cap).run X hP hn hm' w c vs hr (key _ _ rfl)
theorem o6 {P:Program}{m:Nat}{h:List Chunk}(k g E sz l:Nat)(rows:List (List PV))(hk:aw h k= .row E sz g rows)(bq:rows≠[])(hl:l≤rows.length){e':bK}{h':List Chunk}(hw:dH P 1 m [(0,.own k (g+1))] (bg h k (.row E sz (g+1) (rows.take l))) e' h'):dH P 1 m [(0,.osl k g sz 0 l)] h e' h':=
 ((HE 0 k g E sz l rows rfl hk bq hl rfl rfl).trans (qb fun t=>by
  simp only[dQ];by_cases h0:t=0
  ·rw[if_pos h0,if_pos h0];exact .inr rfl
  ·rw[if_neg h0,if_neg h0];exact .inl rfl)).trans hw
structure Tg.{u}{α:Sort u}(a:α):Type where
 mk::
def ny (p:PV)(A B:Prop)(_:Tg A)(_:Tg B):Prop:=match p with| .d (.v (.bool t))=>(t=true→A)∧(t=false→B)|_=>False
def gK (g:Option Bool)(A B:Prop)(_:Tg A)(_:Tg B):Prop:=match g with|some g=>(g=true→A)∧(g=false→B)|none=>False
def HF (l:List Oper)(_:Tg l)(sm:List (List Nat × List Nat)):Prop:=(lY ⟨l⟩ sm.reverse&&l0 ⟨l⟩)=true
def KH (draw:Bool)(l:List Oper)(_:Tg l)(sm:List (List Nat × List Nat))(A:Prop)(_:Tg A):Prop:=match draw with|true=>HF l ⟨⟩ sm∧A|false=>A
def xq (ds:List (Option Nat))(e:bK)(g:Option (Nat × Bool)):Option Bool:=
 match g with
 |none=>some true
 |some (j,want)=>match ds[j]? with|some dj=>(xm dj e).map (·==some want)|none=>none
abbrev KT:=Exit→bK→List Chunk→Prop
def nK (K:KT):bK→List Chunk→Prop:=K .normal
def qc (C:bK→List Chunk→Prop)(K:KT):KT
 | .normal,e,h=>C e h
 |x,e,h=>K x e h
def qZ (K:KT)(_:Tg K)(x:Exit)(e:bK)(h:List Chunk):Prop:=K x e h
def JT (P:Program)(r:SR)(dst:Option Nat)(e:bK)(h:List Chunk)(sm:List (List Nat × List Nat))(R:bK→List Chunk→List (List Nat × List Nat)→Prop)(_:Tg R):Prop:=xn P r dst e h sm R
section
variable (P:Program)(n m:Nat)(T:Nat→Option TI)(Q:Nat→Option Nat)
def rO (draw:Bool)(ops:List Oper)(K:KT):(l:List Oper)→Tg (ops,K,l)→List (Option Nat)→bK→List Chunk→List (List Nat × List Nat)→Prop
 |[],_,_,e,h,sm=>KH draw ops ⟨⟩ sm (qZ K ⟨⟩ .normal e h) ⟨⟩
 |o::l,_,ds,e,h,sm=>gK (xq ds e o.guard) (JT P (JS T Q e h o) o.dst e h sm (fun e' h' sm'=>rO draw ops K l ⟨⟩ (ds++[o.dst]) e' h' sm') ⟨⟩) (rO draw ops K l ⟨⟩ (ds++[o.dst]) (ez e o.dst (.d (.v undef))) h (([],[])::sm)) ⟨⟩ ⟨⟩
def jA:Code→Bool
 | .seq a b=>jA a&&jA b
 | .block _ c=>jA c
 | .cond _ a b=>jA a&&jA b
 | .region _ ops _=>ops.toList.all (Ht n)
 | .loop c=>jA c
 | .rangeFunc _ _ a b=>jA a&&jA b
 |_=>true
def zo (c:Code)(K:KT)(_:Tg (c,K))(e:bK)(h:List Chunk):Prop:=jA n c=true→qW P n m (.loop c) K e h
def PM (c:Code)(K:KT)(_:Tg (c,K))(e:bK)(h:List Chunk):Prop:=qW P n m c K e h
def sC:(c:Code)→(K:KT)→Tg (c,K)→bK→List Chunk→Prop
 | .seq a b,K,_,e,h=>sC a (s6 (sC b K ⟨⟩) K) ⟨⟩ e h
 | .block id c,K,_,e,h=>sC c (uT id (nK K) K) ⟨⟩ e h
 | .skip,K,_,e,h=>qZ K ⟨⟩ .normal e h
 | .exit i,K,_,e,h=>qZ K ⟨⟩ (.exit i) e h
 | .ret,K,_,e,h=>qZ K ⟨⟩ .ret e h
 | .label _,K,_,e,h=>qZ K ⟨⟩ .normal e h
 | .cond c a b,K,_,e,h=>ny (cK e c) (sC a K ⟨⟩ e h) (sC b K ⟨⟩ e h) ⟨⟩ ⟨⟩
 | .region _ ⟨ops⟩ draw,K,_,e,h=>m≤h.length∧rO P T Q draw ops K ops ⟨⟩ [] e h []
 | .loop c,K,_,e,h=>zo P n m c K ⟨⟩ e h
 |c,K,_,e,h=>PM P n m c K ⟨⟩ e h
end
theorem E7 {ds:List (Option Nat)}{full:List (Option Nat)}(hp:∃x,full=ds++x){e:bK}{o:Oper}{g:Bool}(h:xq ds e o.guard=some g):p9 full e o=some g:=by
 obtain⟨x,rfl⟩:=hp;unfold xq at h;unfold p9;cases hg:o.guard with
 |none=>rw[hg]at h;exact h
 |some jw=>
  obtain⟨j,want⟩:=jw;rw[hg]at h;simp only at h ⊢;cases hd:ds[j]? with
  |none=>rw[hd]at h;cases h
  |some dj=>
   rw[hd]at h;have hj:=(V3.1 hd).1;rw[Ww,WK hj,hd];exact h
theorem kh {P:Program}{n:Nat}{T:Nat→Option TI}{Q:Nat→Option Nat}{draw:Bool}{ops:List Oper}{K:KT}:∀(l:List Oper) (pre:List Oper) (e:bK) (h:List Chunk) (sm:List (List Nat × List Nat)),ops=pre++l→l.all (Ht n)=true→
 rO P T Q draw ops K l ⟨⟩ (pre.map (·.dst)) e h sm→rI P n T Q draw ⟨ops⟩ (ops.map (·.dst)) l e h sm (K .normal)
 |[],pre,e,h,sm,_,_,hs=>by
  unfold rO KH at hs;unfold rI;cases draw with
  |true=>exact⟨fun _=>hs.1,hs.2⟩
  |false=>exact⟨(fun h=>(by cases h)),hs⟩
 |o::l,pre,e,h,sm,jU,hb,hs=>by
  simp only[List.all_cons,Wd]at hb;have Jt:ops=(pre++[o])++l:=by rw[jU];simp
  have cZ:pre.map (·.dst)++[o.dst]=(pre++[o]).map (·.dst):=by simp
  refine E0 hb.1 fun R hR=>?_;unfold rO gK at hs;unfold Nz;rw[cZ]at hs;split at hs
  ·rename_i g hg;rw[E7 (full:=ops.map (·.dst)) ⟨(o::l).map (·.dst),by rw[jU];simp⟩ hg];cases g with
   |true=>
    have hs:=hs.1 rfl;show xn _ _ _ _ _ _ _;unfold JT xn at hs;unfold xn;split at hs
    ·exact hs
    ·obtain⟨a,b,c⟩:=hs;exact⟨a,b,hR _ _ _ (kh l _ _ _ _ Jt hb.2 c)⟩
    ·rcases hs with⟨ds,r,a,b,c,d⟩|⟨ls,args,h0,r,h1,a,b,c,d,e1,f,g⟩|⟨ls,args,h0,r,a,b,c,d,e1,f,g⟩
     ·exact .inl ⟨ds,r,a,b,c,hR _ _ _ (kh l _ _ _ _ Jt hb.2 d)⟩
     ·exact .inr (.inl ⟨ls,args,h0,r,h1,a,b,c,d,e1,f,hR _ _ _ (kh l _ _ _ _ Jt hb.2 g)⟩)
     ·exact .inr (.inr ⟨ls,args,h0,r,a,b,c,d,e1,f,hR _ _ _ (kh l _ _ _ _ Jt hb.2 g)⟩)
   |false=>exact hR _ _ _ (kh l _ _ _ _ Jt hb.2 (hs.2 rfl))
  ·exact hs.elim
theorem fO {P:Program}{n m:Nat}{T:Nat→Option TI}{Q:Nat→Option Nat}(bB:TabOK P T Q)(kG:P.follows .mixedOrders=true):∀(c:Code) (K:KT) (e:bK) (h:List Chunk),jA n c=true→sC P n m T Q c K ⟨⟩ e h→qW P n m c K e h
 | .seq a b,K,e,h,hb,hs=>by
  simp only[jA,Wd]at hb;refine Dq fun C hC=>?_;intro X hX hn oB ac w hr;refine wp_mono (fO bB kG a _ e h hb.1 hs X hX hn oB ac w hr) fun ex a' w' ⟨e',h',hk,hr'⟩=>⟨e',h',?_,hr'⟩;cases ex with
  |normal=>exact hC _ _ (fO bB kG b _ _ _ hb.2 hk)
  |_=>exact hk
 | .block id c,K,e,h,hb,hs=>by
  refine EZ fun C hC=>?_;intro X hX hn oB ac w hr;refine wp_mono (fO bB kG c _ e h hb hs X hX hn oB ac w hr) fun ex a' w' ⟨e',h',hk,hr'⟩=>⟨e',h',?_,hr'⟩;cases ex with
  |normal=>exact hC _ _ hk
  |exit i=>
   simp only[uT]at hk ⊢;split
   ·rename_i hi;rw[if_pos hi]at hk;exact hC _ _ hk
   ·rename_i hi;rw[if_neg hi]at hk;exact hk
  |_=>exact hk
 | .skip,K,e,h,_,hs=>Hz hs
 | .exit i,K,e,h,_,hs=>HA hs
 | .ret,K,e,h,_,hs=>Ky hs
 | .label _,K,e,h,_,hs=>E1 hs
 | .cond c a b,K,e,h,hb,hs=>by
  simp only[jA,Wd]at hb;simp only[sC,ny]at hs;split at hs
  ·rename_i t ht;exact Hy ht (fun h0=>fO bB kG a _ _ _ hb.1 (hs.1 h0)) (fun h0=>fO bB kG b _ _ _ hb.2 (hs.2 h0))
  ·exact hs.elim
 | .region id ⟨ops⟩ draw,K,e,h,hb,hs=>by
  intro X hX hn oB a w hr;subst hX;subst hn;subst oB;exact xo bB kG (K:=K .normal) hs.1 (kh ops [] _ _ _ rfl hb hs.2) hr fun e' h' a' w' hk hr'=>⟨e',h',hk,hr'⟩
 | .loop c,K,e,h,hb,hs=>hs hb
 | .rangeFunc _ _ _ _,K,e,h,_,hs=>hs
 | .scope _,K,e,h,_,hs=>hs
 | .goto _,K,e,h,_,hs=>hs
 | .refuse _,K,e,h,_,hs=>hs
section
variable {P:Program}{n m:Nat}{T:Nat→Option TI}{Q:Nat→Option Nat}
theorem cp (bB:TabOK P T Q)(kG:P.follows .mixedOrders=true){c:Code}{K:Exit→bK→List Chunk→Prop}{e:bK}{h:List Chunk}(I:Nat→bK→List Chunk→Prop)(mm:Nat)(e1:bK)(h1:List Chunk)(h0:I mm e1 h1)(hw:dH P n m e h e1 h1)
 (hr:∀k e h,I k e h→∀C:bK→List Chunk→Prop,(∀k' e1 h1 e h,k' < k→I k' e1 h1→dH P n m e h e1 h1→C e h)→sC P n m T Q c (qc C K) ⟨⟩ e h):zo P n m c K ⟨⟩ e h:=
 fun hb=>zf I mm e1 h1 h0 hw fun k e h hI C hC=>(show qc C K=s6 C K from funext fun x=>by cases x<;>rfl) ▸ fO bB kG c _ _ _ hb (hr k e h hI C hC)
theorem PN (bB:TabOK P T Q)(kG:P.follows .mixedOrders=true){c:Code}{K:Exit→bK→List Chunk→Prop}{e:bK}{h:List Chunk}(N:Nat)(I:Nat→Prop)(E:Nat→bK)(H:Nat→List Chunk)(h0:I 0)(hw:dH P n m e h (E 0) (H 0))
 (hr:∀k,k < N→I k→∀C:bK→List Chunk→Prop,(∀e h,I (k+1)→dH P n m e h (E (k+1)) (H (k+1))→C e h)→sC P n m T Q c (qc C K) ⟨⟩ (E k) (H k))
 (he:I N→∀C:bK→List Chunk→Prop,sC P n m T Q c (qc C K) ⟨⟩ (E N) (H N)):zo P n m c K ⟨⟩ e h:=by
 refine cp bB kG (fun j e h=>∃k,k≤N∧j=N - k∧I k∧e=E k∧h=H k) N (E 0) (H 0) ⟨0,Wr _,rfl,h0,rfl,rfl⟩ hw ?_;rintro j e h ⟨k,hk,rfl,hI,rfl,rfl⟩ C hC;rcases Wv k N with hlt|hge
 ·exact hr k hlt hI C fun e h hI' hw'=>hC _ _ _ e h (by omega) ⟨k+1,hlt,rfl,hI',rfl,rfl⟩ hw'
 ·obtain rfl:k=N:=by omega
  exact he hI C
theorem bP (bB:TabOK P T Q)(kG:P.follows .mixedOrders=true){c:Code}{K:Exit→bK→List Chunk→Prop}{e:bK}{h:List Chunk}{α:Type}(l:List α)(I:Nat→Prop)(E:Nat→bK)(H:Nat→List Chunk)(h0:I 0)(hw:dH P n m e h (E 0) (H 0))
 (hr:∀k x,l[k]? =some x→k < l.length→I k→∀C:bK→List Chunk→Prop,(∀e h,I (k+1)→dH P n m e h (E (k+1)) (H (k+1))→C e h)→sC P n m T Q c (qc C K) ⟨⟩ (E k) (H k))
 (he:I l.length→∀C:bK→List Chunk→Prop,sC P n m T Q c (qc C K) ⟨⟩ (E l.length) (H l.length)):zo P n m c K ⟨⟩ e h:=
 PN bB kG l.length I E H h0 hw (fun k hk hI=>hr k l[k] (VY hk) hk hI) he
end
section
variable {P:Program}{n m:Nat}{T:Nat→Option TI}{Q:Nat→Option Nat}{A B:Prop}{s:Tg A}{t:Tg B}
theorem RQ:gK (some true) A B s t=A:=by simp[gK]
theorem RR:gK (some false) A B s t=B:=by simp[gK]
theorem dw {b:Bool}(h1:b=true→A)(h2:b=false→B):gK (some b) A B s t:=⟨h1,h2⟩
theorem KI:ny (.d (.v (.bool true))) A B s t=A:=by simp[ny]
theorem KJ:ny (.d (.v (.bool false))) A B s t=B:=by simp[ny]
theorem aQ {b:Bool}(h1:b=true→A)(h2:b=false→B):ny (.d (.v (.bool b))) A B s t:=⟨h1,h2⟩
theorem PO (b:Bool):(some b==some true)=b:=by cases b<;>rfl
theorem PP (b:Bool):(some b==some false)=!b:=by cases b<;>rfl
theorem RS {b:Bool}:gK (some (!b)) A B s t=gK (some b) B A t s:=by
 cases b<;>simp[gK]
theorem KK {b:Bool}:ny (.d (.v (.bool (!b)))) A B s t=ny (.d (.v (.bool b))) B A t s:=by
 cases b<;>simp[ny]
theorem ND (a b:PV):oW (.d (.v (.bool true))) a b= .res a [] [] True:=by
 simp only[oW];split<;>rfl
theorem NE (a b:PV):oW (.d (.v (.bool false))) a b= .res b [] [] True:=by
 simp only[oW];split<;>rfl
theorem NF (t p q:Bool):oW (.d (.v (.bool t))) (.d (.v (.bool p))) (.d (.v (.bool q)))= .res (.d (.v (.bool (bif t then p else q)))) [] [] True:=rfl
theorem NG (l:List Oper)(u:Tg l)(sm:List (List Nat × List Nat)):KH false l u sm A s=A:=rfl
theorem NH (l:List Oper)(u:Tg l)(sm:List (List Nat × List Nat)):KH true l u sm A s=(HF l u sm∧A):=rfl
theorem bT {l:List Oper}{u:Tg l}{sm:List (List Nat × List Nat)}(h:(lY ⟨l⟩ sm.reverse&&l0 ⟨l⟩)=true):HF l u sm:=h
theorem KL {p:PV}{eff:List (Nat × Chunk)}{touch:List Nat}{side:Prop}{dst:Option Nat}{e:bK}{h:List Chunk}{sm:List (List Nat × List Nat)}{R:bK→List Chunk→List (List Nat × List Nat)→Prop}{u:Tg R}:
 JT P (.res p eff touch side) dst e h sm R u=(side∧(eff.all fun kc=>decide (kc.1≤h.length))=true∧R (ez e dst p) (nS eff h) ((eff.map (·.1),touch)::sm)):=rfl
theorem PQ {dst:Option Nat}{e:bK}{h:List Chunk}{sm:List (List Nat × List Nat)}{R:bK→List Chunk→List (List Nat × List Nat)→Prop}{u:Tg R}{g:Nat}{ps:List PV}{ds:List D}{r:D}{tl:List Nat}(hv:PD (aw h) ps=some ds)(hp:ae P g ds r)(ht:Ny (aw h) ps=tl)(hf:tl=[]∨r.flat=true)(hR:R (ez e dst (.d r)) h (([],tl)::sm)):JT P (.call g ps) dst e h sm R u:=by
 subst ht;exact NA hv hp hf hR
def HG (P:Program)(g:Nat)(ds:List D)(tl:List Nat)(dst:Option Nat)(e:bK)(h:List Chunk)(sm:List (List Nat × List Nat))(R:bK→List Chunk→List (List Nat × List Nat)→Prop)(_:Tg R):Prop:=
 ∃r,ae P g ds r∧(tl=[]∨r.flat=true)∧R (ez e dst (.d r)) h (([],tl)::sm)
def HH (P:Program)(g:Nat)(ds:Option (List D))(tl:List Nat)(dst:Option Nat)(e:bK)(h:List Chunk)(sm:List (List Nat × List Nat))(R:bK→List Chunk→List (List Nat × List Nat)→Prop)(u:Tg R):Prop:=
 match ds with
 |some ds=>HG P g ds tl dst e h sm R u
 |none=>False
theorem bU {dst:Option Nat}{e:bK}{h:List Chunk}{sm:List (List Nat × List Nat)}{R:bK→List Chunk→List (List Nat × List Nat)→Prop}{u:Tg R}{g:Nat}{ps:List PV}(hv:HH P g (PD (aw h) ps) (Ny (aw h) ps) dst e h sm R u):JT P (.call g ps) dst e h sm R u:=by
 unfold HH at hv;split at hv
 ·rename_i ds hd;obtain⟨r,hp,hf,hR⟩:=hv;exact PQ hd hp rfl hf hR
 ·exact hv.elim
theorem aR {g:Nat}{ds ds':List D}{tl:List Nat}{dst:Option Nat}{e:bK}{h:List Chunk}{sm:List (List Nat × List Nat)}{R:bK→List Chunk→List (List Nat × List Nat)→Prop}{u:Tg R}{r:D}(hp:ae P g ds' r)(hd:qa ds ds')(hf:tl=[]∨r.flat=true)(hR:R (ez e dst (.d r)) h (([],tl)::sm)):HG P g ds tl dst e h sm R u:=⟨r,hp.args hd,hf,hR⟩
theorem aS {g:Nat}{ds:List D}{tl:List Nat}{dst:Option Nat}{e:bK}{h:List Chunk}{sm:List (List Nat × List Nat)}{R:bK→List Chunk→List (List Nat × List Nat)→Prop}{u:Tg R}{r:D}(hp:ae P g ds r)(hf:tl=[]∨r.flat=true)(hR:R (ez e dst (.d r)) h (([],tl)::sm)):HG P g ds tl dst e h sm R u:=⟨r,hp,hf,hR⟩
theorem dX (ls:List Nat){dst:Option Nat}{e:bK}{h:List Chunk}{sm:List (List Nat × List Nat)}{R:bK→List Chunk→List (List Nat × List Nat)→Prop}{u:Tg R}{g:Nat}{ps args:List PV}{h0 h1:List Chunk}{r:PV}(hM:MSpec P g args h0 r h1)(jn:ps=fK (dC ls h.length) args)(hl:ls.length=h0.length)(jX:ls.Nodup)(hlt:∀k∈ls,k < h.length)(fZ:aX (aw h) (dC ls h.length) 0 h0)
 (hR:R (ez e dst (ren (dC ls h.length) r)) (fy (dC ls h.length) 0 h1 h) ((nT ls h.length h1.length,nT ls h.length h1.length)::sm)):JT P (.call g ps) dst e h sm R u:=NB ls hM jn hl jX hlt fZ hR
theorem PR (ls:List Nat){dst:Option Nat}{e:bK}{h:List Chunk}{sm:List (List Nat × List Nat)}{R:bK→List Chunk→List (List Nat × List Nat)→Prop}{u:Tg R}{g:Nat}{ps args:List PV}{h0:List Chunk}{r:PV}(hM:MSpec P g args h0 r h0)(jn:ps=fK (dC ls h.length) args)(hl:ls.length=h0.length)(jX:ls.Nodup)(hlt:∀k∈ls,k < h.length)(fZ:aX (aw h) (dC ls h.length) 0 h0)
 (hR:R (ez e dst (ren (dC ls h.length) r)) h (([],nT ls h.length h0.length)::sm)):JT P (.call g ps) dst e h sm R u:= .inr (.inr ⟨ls,args,h0,r,hM,jn,hl,jX,hlt,fZ,hR⟩)
variable {K K1:KT}{C:bK→List Chunk→Prop}{e:bK}{h:List Chunk}{b:Code}{i id:Nat}
theorem E8 {u:Tg (s6 (sC P n m T Q b K ⟨⟩) K1)}:qZ (s6 (sC P n m T Q b K ⟨⟩) K1) u .normal e h=sC P n m T Q b K ⟨⟩ e h:=rfl
theorem E9 {u:Tg (s6 C K1)}:qZ (s6 C K1) u (.exit i) e h=qZ K1 ⟨⟩ (.exit i) e h:=rfl
theorem Fa {u:Tg (s6 C K1)}:qZ (s6 C K1) u .ret e h=qZ K1 ⟨⟩ .ret e h:=rfl
theorem Fb {u:Tg (qc C K1)}:qZ (qc C K1) u .normal e h=C e h:=rfl
theorem Fc {u:Tg (qc C K1)}:qZ (qc C K1) u (.exit i) e h=qZ K1 ⟨⟩ (.exit i) e h:=rfl
theorem Fd {u:Tg (qc C K1)}:qZ (qc C K1) u .ret e h=qZ K1 ⟨⟩ .ret e h:=rfl
theorem Fe {u:Tg (uT id (nK K) K1)}:qZ (uT id (nK K) K1) u .normal e h=qZ K ⟨⟩ .normal e h:=rfl
theorem Ff {u:Tg (uT id (nK K) K1)}:qZ (uT id (nK K) K1) u .ret e h=qZ K1 ⟨⟩ .ret e h:=rfl
theorem Fg {u:Tg (uT id (nK K) K1)}:qZ (uT id (nK K) K1) u (.exit i) e h=if i=id then qZ K ⟨⟩ .normal e h else qZ K1 ⟨⟩ (.exit i) e h:=rfl
def HI (T:Nat→Option TI)(rs:List ResultVar)(r:D)(e:bK)(h:List Chunk):Prop:=
 match nx T e h rs with
 |some ps=>match vw (aw h) (uQ ps)with
  |some d=>au d r
  |none=>False
 |none=>False
theorem Dx {rs:List ResultVar}{r:D}{x:Exit}(hx:x= .normal∨x= .ret):o3 T rs r x e h=HI T rs r e h:=by
 apply propext;unfold o3 HI;constructor
 ·rintro⟨-,ps,d,h1,h2,h3⟩;rw[h1];simp only[h2];exact h3
 ·intro h1;refine⟨hx,?_⟩;split at h1
  ·rename_i ps hp;split at h1
   ·rename_i d hd;exact⟨ps,d,hp,hd,h1⟩
   ·exact h1.elim
  ·exact h1.elim
def HJ (P:Program)(m:Nat)(T:Nat→Option TI)(rs:List ResultVar)(r:PV)(h1:List Chunk)(e:bK)(h:List Chunk):Prop:=
 match nx T e h rs with
 |some ps=>dH P 1 m [(0,uQ ps)] h [(0,r)] h1
 |none=>False
theorem Dy {rs:List ResultVar}{r:PV}{h1:List Chunk}{x:Exit}(hx:x= .normal∨x= .ret):uR P m T rs r h1 x e h=HJ P m T rs r h1 e h:=by
 apply propext;unfold uR HJ;constructor
 ·rintro⟨-,ps,h2,h3⟩;rw[h2];exact h3
 ·intro h2;refine⟨hx,?_⟩;split at h2
  ·rename_i ps hp;exact⟨ps,hp,h2⟩
  ·exact h2.elim
theorem zp {rs:List ResultVar}{r:D}{u:Tg (o3 T rs r)}:qZ (o3 T rs r) u .normal e h=HI T rs r e h:=Dx (.inl rfl)
theorem zq {rs:List ResultVar}{r:D}{u:Tg (o3 T rs r)}:qZ (o3 T rs r) u .ret e h=HI T rs r e h:=Dx (.inr rfl)
theorem BR {rs:List ResultVar}{r:PV}{h1:List Chunk}{u:Tg (uR P m T rs r h1)}:qZ (uR P m T rs r h1) u .normal e h=HJ P m T rs r h1 e h:=Dy (.inl rfl)
theorem BS {rs:List ResultVar}{r:PV}{h1:List Chunk}{u:Tg (uR P m T rs r h1)}:qZ (uR P m T rs r h1) u .ret e h=HJ P m T rs r h1 e h:=Dy (.inr rfl)
end
def BT (fn:Func)(nt:Nat)(c:Code)(k:Nat):Bool:=!(fn.name== "runtime.NumGoroutine")&&jA nt c&&decide (k≤nt)
theorem RT {P:Program}{f:Nat}{fn:Func}{c:Code}{T:Nat→Option TI}{Q:Nat→Option Nat}{nt:Nat}{rs:Array ResultVar}(bB:TabOK P T Q)(kG:P.follows .mixedOrders=true)(hf:P.funcs[f]? =some fn)(hb:fn.body=some c)(hn:fn.ntmps=nt)(hr:fn.results=rs){ds:List D}{r:D}(hc:BT fn nt c ds.length=true)
 (hp:sC P nt 0 T Q c (o3 T rs.toList r) ⟨⟩ (nU (ds.map .d) 0) []):ae P f ds r:=by
 subst hn;subst hr;simp only[BT,Wd,Bool.not_eq_true',decide_eq_true_eq]at hc;exact zc bB hf hb (ce hf hc.1.1 hb) hc.2 (fO bB kG _ _ _ _ hc.1.2 hp)
theorem fP {P:Program}{f:Nat}{fn:Func}{c:Code}{T:Nat→Option TI}{Q:Nat→Option Nat}{nt:Nat}{rs:Array ResultVar}(bB:TabOK P T Q)(kG:P.follows .mixedOrders=true)(hf:P.funcs[f]? =some fn)(hb:fn.body=some c)(hn:fn.ntmps=nt)(hr:fn.results=rs){args:List PV}{h0 h1:List Chunk}{r:PV}(hc:BT fn nt c args.length=true)
 (hle:h0.length≤h1.length) (CW:af h0.length args=true) (hbh:ay h0.length h0=true)
 (hp:sC P nt h0.length T Q c (uR P h0.length T rs.toList r h1) ⟨⟩ (nU args 0) h0):MSpec P f args h0 r h1:=by
 subst hn;subst hr;simp only[BT,Wd,Bool.not_eq_true',decide_eq_true_eq]at hc;exact zd bB hf hb (ce hf hc.1.1 hb) hc.2 hle CW hbh (fO bB kG _ _ _ _ hc.1.2 hp)
theorem HK {α:Type}(l:List α):ap l 0 []=l:=by simp[ap]
theorem HL {α:Type}(a x:α)(l xs:List α):ap (a::l) 0 (x::xs)=x::ap l 0 xs:=by simp[ap]
theorem KM {α:Type}(a:α)(n:Nat)(l xs:List α):ap (a::l) (n+1) xs=a::ap l n xs:=by simp only[ap,Yd,WH,Nat.add_right_comm n 1,List.drop_succ_cons]
attribute [go_sem] nU
attribute [go_sem] RQ RR KI KJ NG NH KL E8 E9 Fa Fb Fc Fd Fe Ff Fg zp zq BR BS HI HJ nx Do uQ vw aO bW cy rY dF kO ND NE NF HH PD Ny tc gq cn uL xe l9 G9 PO PP RS KK xq sC rO
attribute [go_sem] PE PF PG PH PI PJ JS cK dQ ez nS bg aw PC Hf Hh Hg wZ sM yV sN sO mc vS p4 sP sQ Hi yX yY Hj Hk sS sU Dj Dk sR md oX sV sW p5 BH yZ uS Hw vH cj PV.one D.one Value.oneCell' sx nj nm HK HL KM xm pU GZ Pf yW Kh iq fy dC ren fK gM js nT iI aA bi BK sL Ha IntKind.bits
attribute [go_sem] cond_true cond_false V1 V5 Wc WM List.all_cons List.all_nil Yd XH List.drop_succ_cons List.drop_zero List.take_nil List.drop_nil WH WO WV WE List.reverse_cons List.reverse_nil List.getElem?_cons_zero Xg List.getElem?_nil List.getElem?_toArray V7 WQ Yb Xc Option.getD_none Xn Option.bind_none Wn Wz decide_true decide_false Xa Xt Bool.and_false YG WW Bool.not_true Bool.not_false Bool.true_eq_false XF beq_self_eq_true ne_eq not_true_eq_false not_false_eq_true and_true true_and and_self or_self or_false false_or or_true true_or eq_self forall_const false_implies implies_true Int.toNat_natCast Int.natCast_nonneg Nat.lt_irrefl Wa Wg V9 WD.injEq Prod.mk.injEq XW Wr Yh Nat.lt_add_one List.getD_cons_zero List.getD_cons_succ List.getD_nil YT List.range_zero YB Wi Wl
section
mutual
theorem HM:∀p:PV,ren (fun j=>j) p=p
 | .d x=>rfl
 | .any=>rfl
 | .ptr k off=>rfl
 | .own k g=>rfl
 | .rp k g sz i j=>rfl
 | .osl k g sz a n=>rfl
 | .clo g caps=>by simp only[ren,kT caps]
 | .agg l=>by simp only[ren,kT l]
 | .tup l=>by simp only[ren,kT l]
 | .mref k=>rfl
theorem kT:∀l:List PV,fK (fun j=>j) l=l
 |[]=>rfl
 |p::l=>by simp only[fK,HM p,kT l]
end
theorem Dz:∀l:List (List PV),gM (fun j=>j) l=l
 |[]=>rfl
 |p::l=>by simp only[gM,kT p,Dz l]
theorem xr (c:Chunk):js (fun j=>j) c=c:=by cases c<;>simp only[js,kT,Dz]
theorem Fh (n:Nat):dC (WC n) n=fun j=>j:=by
 funext j;rcases Wv j n with h|h
 ·have:=kP (ls:=WC n) (nk:=n) (j:=j) (by simpa using h);rw[Yw h]at this;exact(WD.inj this).symm
 ·have:=ip (WC n) n (j - n);rw[List.length_range]at this;rw[show n+(j - n)=j by omega]at this;exact this
theorem ki (a:List Chunk)(c d:Chunk)(b:List Chunk):bg (a++c::b) a.length d=a++d::b:=by
 induction a with
 |nil=>rfl
 |cons x a ih=>simp only[WH,Wc,bg,ih]
@[go_sem] theorem iK (a:List Chunk)(d:Chunk):bg a a.length d=a++[d]:=by
 induction a with
 |nil=>rfl
 |cons x a ih=>simp only[WH,Wc,bg,ih]
theorem s9:∀(l pre rest:List Chunk),rest.length≤l.length→fy (fun j=>j) pre.length l (pre++rest)=pre++l
 |[],pre,rest,h=>by
  have:rest=[]:=WA (by simpa using h);subst this;simp[fy]
 |c::l,pre,[],h=>by
  simp only[fy,WV,xr,iK];have:=s9 l (pre++[c]) [] (by simp);simpa using this
 |c::l,pre,r::rest,h=>by
  simp only[fy,xr,ki];have:=s9 l (pre++[c]) rest (by simpa using h);simpa using this
theorem vY:∀(l pre:List Chunk),aX (aw (pre++l)) (fun j=>j) pre.length l
 |[],_=>trivial
 |c::l,pre=>by
  refine⟨?_,?_⟩
  ·rw[xr];induction pre with
   |nil=>rfl
   |cons a pre ih=>exact ih
  ·have:=vY l (pre++[c]);simpa using this
section
variable {P:Program}{n m:Nat}{T:Nat→Option TI}{Q:Nat→Option Nat}
theorem HN {dst:Option Nat}{e:bK}{h:List Chunk}{sm:List (List Nat × List Nat)}{R:bK→List Chunk→List (List Nat × List Nat)→Prop}{u:Tg R}{g:Nat}{ps:List PV}{h1:List Chunk}{r:PV}(hM:MSpec P g ps h r h1)
 (hR:R (ez e dst r) h1 ((WC h1.length,WC h1.length)::sm)):JT P (.call g ps) dst e h sm R u:=by
 have hid:=Fh h.length;have hle:=hM.le;refine dX (WC h.length) hM (by rw[hid,kT]) (by simp) List.nodup_range (fun k hk=>by simpa using hk) (by rw[hid];exact vY h []) ?_;have hh:fy (fun j=>j) 0 h1 h=h1:=s9 h1 [] h hle;have hm:nT (WC h.length) h.length h1.length=WC h1.length:=by
  unfold nT;rw[hid];simp
 rw[hid,HM,hh,hm];exact hR
end
theorem BU (l:List (List D))(n:Nat):(aa l).take n=aa (l.take n):=by simp[aa]
theorem Fi {α:Type}(l:List α)(i j k:Nat)(z:α)(hi:i < l.length)(hj:j=i+1)(hk:k=i+(l.length - j)):(ap (ap l i ((l.drop j).take (l.length - j))) k [z]).take k=l.eraseIdx i:=by
 subst hj;subst hk;have h1:(l.drop (i+1)).take (l.length - (i+1))=l.drop (i+1):=Wj (by rw[Wt];omega);rw[h1,Yv];have h2:(ap l i (l.drop (i+1))).take (i+(l.length - (i+1)))=l.take i++l.drop (i+1):=by
  unfold ap;rw[WY (by simp;omega),Wj (by simp;omega)]
 rw[←h2];have h3:i+(l.length - (i+1))≤(ap l i (l.drop (i+1))).length:=by rw[aM (by rw[Wt];omega)];omega
 generalize ap l i (l.drop (i+1))=l' at h3 ⊢;unfold ap;rw[WE,WY (by rw[V2];omega),List.take_take,Nat.min_self]
theorem iL {α β:Type}(f:α→β)(l:List α)(i:Nat):(l.eraseIdx i).map f=(l.map f).eraseIdx i:=by
 rw[Yv,Yv,V6,XS,List.map_drop]
theorem m1 {α:Type}(l:List α)(i j n:Nat)(hi:i < l.length)(hj:j=i+1)(hn:n=l.length):(ap l i ((l.drop j).take (n - j))).length=l.length:=by
 rw[aM];rw[V2,Wt];omega
theorem mi {P:Program}{E sz g i j n:Nat}{L:List (List D)}{z:List PV}(hi:i < L.length)(hj:j=i+1)(hn:n=L.length):
 dH P 1 1 [(0,.osl 0 g sz 0 (i+(n - j)))] [.row E sz g (ap (ap (aa L) i (((aa L).drop j).take (n - j))) (i+(n - j)) (Wy 1 z))] [(0,.own 0 (g+1))] [.row E sz (g+1) (aa (L.eraseIdx i))]:=by
 have hl:(aa L).length=L.length:=aA L;have h1:=m1 (aa L) i j n (by omega) hj (by omega);have h2:(ap (ap (aa L) i (((aa L).drop j).take (n - j))) (i+(n - j)) (Wy 1 z)).length=L.length:=by rw[aM (by simp;omega)];omega
 refine o6 0 g E sz _ _ rfl (fun h=>by rw[h]at h2;simp at h2;omega) (by omega) (aP rfl ?_);have:=Fi (aa L) i j (i+(n - j)) z (by omega) hj (by omega);simp only[bg,List.replicate_one];rw[hn]at this ⊢;rw[hl]at this;rw[this];unfold aa;rw[iL]
def bL {α:Type}(p:α→Bool)(l:List α)(j:Nat):List α:=(l.take j).filter fun x=>!p x
def eX {α:Type}(p:α→Bool)(l:List α)(j:Nat):List α:=bL p l j++l.drop (bL p l j).length
theorem r5 {α:Type}(p:α→Bool)(l:List α)(j:Nat):(bL p l j).length≤j∧(bL p l j).length≤l.length:=by
 have h1:=List.length_filter_le (fun x=>!p x) (l.take j);rw[V2]at h1;unfold bL;omega
theorem DA {α:Type}(p:α→Bool)(l:List α)(j:Nat):(eX p l j).length=l.length:=by
 have:=r5 p l j;unfold eX;rw[V9,Wt];omega
theorem DB {α:Type}(p:α→Bool)(l:List α)(j i:Nat)(h:(bL p l j).length≤i):(eX p l j)[i]? =l[i]? :=by
 unfold eX;rw[Wq h,WU];congr 1;omega
theorem qd {α:Type}{p:α→Bool}{l:List α}{j:Nat}{x:α}(hx:l[j]? =some x):bL p l (j+1)=bL p l j++if p x then []else [x]:=by
 unfold bL;rw[List.take_add_one,hx,YU];cases h:p x<;>simp[h]
theorem MC {α:Type}{p:α→Bool}{l:List α}{j:Nat}{x:α}(hx:l[j]? =some x)(hp:p x=true):bL p l (j+1)=bL p l j∧eX p l (j+1)=eX p l j:=by
 have h1:bL p l (j+1)=bL p l j:=by rw[qd hx,hp];simp
 exact⟨h1,by unfold eX;rw[h1]⟩
theorem MD {α:Type}{p:α→Bool}{l:List α}{j:Nat}{x:α}(hx:l[j]? =some x)(hp:p x=false):(bL p l (j+1)).length=(bL p l j).length+1∧eX p l (j+1)=(eX p l j).set (bL p l j).length x:=by
 have h1:bL p l (j+1)=bL p l j++[x]:=by rw[qd hx,hp];simp
 have hj:=(V3.1 hx).1;have hk:=r5 p l j;refine⟨by rw[h1];simp,?_⟩;unfold eX;rw[h1];obtain⟨y,hy⟩:∃y,l[(bL p l j).length]? =some y:=⟨_,VY (by omega)⟩;have hd:l.drop (bL p l j).length=y::l.drop ((bL p l j).length+1):=by
  obtain⟨hlt,rfl⟩:=V3.1 hy;exact Xv hlt
 rw[hd,XD _ _ (Wa _),Xy,Wi];simp
theorem vZ {α:Type}{p:α→Bool}{l:List α}{i:Nat}(h:l.findIdx? p=some i):i < l.length∧(bL p l (i+1)).length=i∧eX p l (i+1)=l:=by
 obtain⟨hi,hp,df⟩:=WF.1 h;have h1:bL p l (i+1)=l.take i:=by
  rw[qd (VY hi),hp];simp only[if_true,WV];unfold bL;refine List.filter_eq_self.2 fun x hx=>?_;obtain⟨q,hq,rfl⟩:=W9.1 hx;rw[V2]at hq;have:=df q (by omega);simp only[YE];simpa using this
 have h2:(bL p l (i+1)).length=i:=by rw[h1,V2];omega
 refine⟨hi,h2,?_⟩;unfold eX;rw[h2,h1,XE]
theorem KN {α:Type}(p:α→Bool)(l:List α):bL p l l.length=l.filter fun x=>!p x:=by
 unfold bL;(try rw[V4])
theorem cB {α:Type}(enc:α→List D)(l:List α)(i:Nat)(x:α):(aa (l.map enc)).set i ((enc x).map .d)=aa ((l.set i x).map enc):=by
 simp only[aa,List.map_set]
structure HpOK (h:List Chunk)(k:Nat):Prop where
 a:∀c,aw (bg h k c) k=c
 b:∀c,(bg h k c).length=h.length
 c:∀c b,aw (bg h k c++[b]) k=c
 d:∀c b,aw (bg h k c++[b]) h.length=b
 e:∀c b,bg (bg h k c) h.length b=bg h k c++[b]
 f:∀c b c',bg (bg h k c++[b]) k c'=bg h k c'++[b]
 g:∀c b b',bg (bg h k c++[b]) h.length b'=bg h k c++[b']
 i:∀c c',bg (bg h k c) k c'=bg h k c'
theorem qe:∀(h:List Chunk) (k:Nat) (c c':Chunk),k < h.length→bg (bg h k c) k c'=bg h k c'
 |a::l,0,c,c',_=>rfl
 |a::l,k+1,c,c',h=>by simp only[bg,qe l k c c' (by simpa using h)]
theorem v4:∀(h b:List Chunk) (k:Nat) (c:Chunk),k < h.length→bg (h++b) k c=bg h k c++b
 |a::l,b,0,c,_=>rfl
 |a::l,b,k+1,c,h=>by simp only[WH,bg,v4 l b k c (by simpa using h)]
theorem NI {h:List Chunk}{k:Nat}(hk:k < h.length):HpOK h k:=by
 have hb:∀c,(bg h k c).length=h.length:=fun c=>o0 hk;have ha:∀c,aw (bg h k c) k=c:=fun c=>by rw[eI (YM hk),if_pos rfl]
 refine⟨ha,hb,fun c b=>by rw[mZ _ _ _ (by rw[hb];exact hk),ha],fun c b=>by rw[gN,hb,if_pos rfl],fun c b=>?_,fun c b c'=>?_,fun c b b'=>?_,fun c c'=>qe h k c c' hk⟩
 ·have:=iK (bg h k c) b;rwa [hb]at this
 ·rw[v4 _ _ _ _ (by rw[hb];exact hk),qe h k c c' hk]
 ·have:=ki (bg h k c) b b' [];rwa [hb]at this
theorem qf:∀(h:List Chunk) (k:Nat) (c:Chunk),aw h k=c→k < h.length→bg h k c=h
 |a::l,0,c,e,_=>by subst e;rfl
 |a::l,k+1,c,e,h=>by simp only[bg,qf l k c e (by simpa using h)]
theorem eB (n:Nat):∀(h:List Chunk) (k:Nat) (c:Chunk),ay n h=true→aH n c=true→k < h.length→ay n (bg h k c)=true
 |a::l,0,c,h1,h2,_=>by simp only[ay,Wd]at h1;simp only[bg,ay,h1.2,h2,WW]
 |a::l,k+1,c,h1,h2,h3=>by
  simp only[ay,Wd]at h1;simp only[bg,ay,h1.1,eB n l k c h1.2 h2 (by simpa using h3),WW]
theorem zr {α:Type}(l xs:List α)(n:Nat)(h:n≤l.length):(ap l n xs).take n=l.take n:=by
 unfold ap;rw[WE,WY (by rw[V2];omega),List.take_take,Nat.min_self]
theorem v5 {α:Type}(p:α→Bool)(l:List α):(eX p l l.length).take (bL p l l.length).length=l.filter fun x=>!p x:=by
 unfold eX;rw[WY (Wa _),V4,KN]
theorem v6 {P:Program}{E sz g k K n:Nat}{h:List Chunk}{L:List (List D)}{z:List PV}(hk:k < h.length)(hK:K≤L.length)(h0:L≠[])(hn:n=L.length):
 dH P 1 h.length [(0,.osl k g sz 0 (K - 0))] (bg h k (.row E sz g (ap (aa L) K (Wy (n - K) z)))) [(0,.own k (g+1))] (bg h k (.row E sz (g+1) (aa (L.take K)))):=by
 obtain⟨ga,gb,gc,gd,ge,gf,gg,gi⟩:=NI hk;have hl:(aa L).length=L.length:=aA L;have hs:(ap (aa L) K (Wy (n - K) z)).length=L.length:=by rw[aM (by simp;omega)];exact hl
 have hp:0 < L.length:=XM.2 h0;refine o6 k g E sz _ _ (ga _) (fun e=>by rw[e]at hs;simp at hs;omega) (by omega) (aP rfl ?_);rw[gi,WZ,zr _ _ _ (by omega),BU]
theorem aT (k g:Nat)(d:D):∀(l m:List (List PV)),fL k g d (l++m)=fL k g d l++fL k g d m
 |[],m=>rfl
 |r::l,m=>by simp only[WH,fL,aT k g d l m]
def Tu (p q:PV):Prop:=p=q∨∃d d',p= .d d∧q= .d d'∧au d d'
def rJ:List PV→List PV→Prop
 |[],[]=>True
 |p::l,q::m=>Tu p q∧rJ l m
 |_,_=>False
theorem o7 {c:Cx}{w:World}:∀{l m:List PV}{vs:List Value},rJ l m→aZ c w l vs→aZ c w m vs
 |[],[],vs,_,h=>h
 |[],_::_,vs,h,_=>h.elim
 |_::_,[],vs,h,_=>h.elim
 |p::l,q::m,[],_,h=>by have:=h.1;simp at this
 |p::l,q::m,v::vs,⟨h1,h2⟩,h=>by
  have h3:=o7 (vs:=vs) h2 ⟨by simpa using h.1,fun j d x hj hx=>h.2 (j+1) d x (by simpa using hj) (by simpa using hx)⟩;refine⟨by simpa using h3.1,fun j d x hj hx=>?_⟩;cases j with
  |zero=>
   simp at hj hx;subst hj;subst hx;have h0:=h.2 0 p v rfl rfl;rcases h1 with rfl|⟨d,d',rfl,rfl,hle⟩
   ·exact h0
   ·exact .d _ _ (hle _ _ _ (bA h0))
  |succ j=>exact h3.2 j d x (by simpa using hj) (by simpa using hx)
theorem MSpec.lep {P:Program}{f:Nat}{args args':List PV}{h0 h1:List Chunk}{r:PV}(h:MSpec P f args h0 r h1)(hp:rJ args' args)(hb:af h0.length args'=true):MSpec P f args' h0 r h1:=
 ⟨h.fn,h.le,hb,h.bh,fun X hP hn hm w c vs hr jn=>h.run X hP hn hm w c vs hr (o7 hp jn)⟩
theorem zt {P:Program}{f:Nat}{fn:Func}{c:Code}{T:Nat→Option TI}{Q:Nat→Option Nat}{nt:Nat}{rs:Array ResultVar}(bB:TabOK P T Q)(kG:P.follows .mixedOrders=true)(hf:P.funcs[f]? =some fn)(hb:fn.body=some c)(hn:fn.ntmps=nt)(hr:fn.results=rs){args:List PV}{h0 h1:List Chunk}{r:PV}(hc:BT fn nt c args.length=true)
 (hle:h0.length≤h1.length) (CW:af h0.length args=true) (hbh:ay h0.length h0=true)
 (hp:sC P nt h0.length T Q c (uR P h0.length T rs.toList r h1) ⟨⟩ (nU args 0) h0):MSpec P f args h0 r h1:=fP bB kG hf hb hn hr hc hle CW hbh hp
end
structure Hd (Q:Prop):Prop where
 out:Q
structure Or1 (Q:Prop):Prop where
 mk::
structure Ln (ls:List Nat)(P:Program)(g:Nat)(args:List PV)(h0:List Chunk)(r:PV)(h1:List Chunk):Prop where
 out:MSpec P g args h0 r h1
structure Lr (ls:List Nat)(P:Program)(g:Nat)(args:List PV)(h0:List Chunk)(r:PV):Prop where
 out:MSpec P g args h0 r h0
theorem qg {P:Program}{ls:List Nat}{dst:Option Nat}{e:bK}{h:List Chunk}{sm:List (List Nat × List Nat)}{R:bK→List Chunk→List (List Nat × List Nat)→Prop}{u:Tg R}{g:Nat}{ps args:List PV}{h0:List Chunk}{r:PV}(hL:Lr ls P g args h0 r)(jn:ps=fK (dC ls h.length) args)(hl:ls.length=h0.length)(jX:ls.Nodup)(hlt:∀k∈ls,k < h.length)(fZ:aX (aw h) (dC ls h.length) 0 h0)
 (hR:R (ez e dst (ren (dC ls h.length) r)) h (([],nT ls h.length h0.length)::sm)):JT P (.call g ps) dst e h sm R u:=PR ls hL.out jn hl jX hlt fZ hR
theorem rc {P:Program}{ls:List Nat}{dst:Option Nat}{e:bK}{h:List Chunk}{sm:List (List Nat × List Nat)}{R:bK→List Chunk→List (List Nat × List Nat)→Prop}{u:Tg R}{g:Nat}{ps args:List PV}{h0 h1:List Chunk}{r:PV}(hL:Ln ls P g args h0 r h1)(jn:ps=fK (dC ls h.length) args)(hl:ls.length=h0.length)(jX:ls.Nodup)(hlt:∀k∈ls,k < h.length)(fZ:aX (aw h) (dC ls h.length) 0 h0)
 (hR:R (ez e dst (ren (dC ls h.length) r)) (fy (dC ls h.length) 0 h1 h) ((nT ls h.length h1.length,nT ls h.length h1.length)::sm)):JT P (.call g ps) dst e h sm R u:=dX ls hL.out jn hl jX hlt fZ hR
theorem bl {A:Prop}(h:A:=by first|rfl|simp only[ay,dn,aH,af,bN,ag,aK,an,Wc,WM,Ws,Ys,decide_true,WW,Xa]):A:=h
theorem se {e e':bK}(h:EI e e':=by repeat' (first|exact trivial|(refine⟨rfl,?_⟩))):EI e e':=h
theorem wi (k:Nat)(h:k < 9223372036854775807):IntKind.i64.wrap ((k:Int)+1)=((k+1:Nat):Int):=by rw[IntKind.wrap_i64];omega
theorem dg {A:Prop}(h:A:=by repeat(first|exact au.refl _|exact au.nil _|(refine au.tup ?_)|(refine au.agg ?_ rfl)|exact trivial|(refine And.intro ?_ ?_))):A:=h
theorem dz {a b:D}(h:au a b:=by repeat(first|exact au.refl _|exact au.nil _|(refine au.tup ?_)|(refine au.agg ?_ rfl)|exact trivial|(refine And.intro ?_ ?_))):au a b:=h
theorem wf {P:Program}{n m:Nat}{e e':bK}{h h' x:List Chunk}(hm:m≤h'.length:=by simp)(hh:h=h'++x:=by rfl)(he:EI e e':=by repeat' (first|exact trivial|(refine⟨rfl,?_⟩)))
 (hb:dn h'.length e'=true:=by first|rfl|simp only[ay,dn,aH,af,bN,ag,aK,an,Wc,WM,Ws,Ys,decide_true,WW,Xa]) (hbh:ay h'.length h'=true:=by first|rfl|simp only[ay,dn,aH,af,bN,ag,aK,an,Wc,WM,Ws,Ys,decide_true,WW,Xa]):dH P n m e h e' h':=db x hm hh he hb hbh
theorem bx {P:Prop}(h:P:=by
 first|((repeat' (first|(with_reducible refine And.intro ?_ ?_)|(with_reducible refine dw (fun ek=>?_) (fun ek=>?_))|(with_reducible refine aQ (fun ek=>?_) (fun ek=>?_))|(with_reducible refine bT (by kernel_rfl))|simp -dsimp only[go_sem,seval, *,undef,V4,WZ,bne_self_eq_false,beq_self_eq_true,Wk,Xi,Xp]|((with_reducible refine bU ?_);simp -dsimp only[go_sem,seval, *,undef,V4,WZ,bne_self_eq_false,beq_self_eq_true,Wk,Xi,Xp];first|refine aS (by assumption) (by first|exact .inl rfl|exact .inr rfl) ?_|(refine aR (by assumption) ?_ ?_ ?_;(solve|(repeat(first|exact au.refl _|exact au.nil _|(refine au.tup ?_)|(refine au.agg ?_ rfl)|exact trivial|(refine And.intro ?_ ?_))));(solve|exact .inl rfl|exact .inr rfl)))|(refine rc (by assumption) ?_ ?_ ?_ ?_ ?_ ?_;(solve|rfl|simp only[go_sem,seval]);(solve|rfl);(solve|decide);(solve|simp);(solve|simp only[go_sem,seval,aX]))|(refine qg (by assumption) ?_ ?_ ?_ ?_ ?_ ?_;(solve|rfl|simp only[go_sem,seval]);(solve|rfl);(solve|decide);(solve|simp);(solve|simp only[go_sem,seval,aX]))|omega|exact decide_eq_true (by omega)|exact au.refl _));done)|fail):P:=h
theorem aF {Q1 P:Prop}(q1:Q1)(h:Hd Q1→P:=by
 intro q1;first|((repeat' (first|(with_reducible refine And.intro ?_ ?_)|(with_reducible refine dw (fun ek=>?_) (fun ek=>?_))|(with_reducible refine aQ (fun ek=>?_) (fun ek=>?_))|(with_reducible refine bT (by kernel_rfl))|simp -dsimp only[go_sem,seval, *,undef,V4,WZ,bne_self_eq_false,beq_self_eq_true,Wk,Xi,Xp]|((with_reducible refine bU ?_);simp -dsimp only[go_sem,seval, *,undef,V4,WZ,bne_self_eq_false,beq_self_eq_true,Wk,Xi,Xp];first|refine aS (by assumption) (by first|exact .inl rfl|exact .inr rfl) ?_|(refine aR (by assumption) ?_ ?_ ?_;(solve|(repeat(first|exact au.refl _|exact au.nil _|(refine au.tup ?_)|(refine au.agg ?_ rfl)|exact trivial|(refine And.intro ?_ ?_))));(solve|exact .inl rfl|exact .inr rfl)))|(refine rc (by assumption) ?_ ?_ ?_ ?_ ?_ ?_;(solve|rfl|simp only[go_sem,seval]);(solve|rfl);(solve|decide);(solve|simp);(solve|simp only[go_sem,seval,aX]))|(refine qg (by assumption) ?_ ?_ ?_ ?_ ?_ ?_;(solve|rfl|simp only[go_sem,seval]);(solve|rfl);(solve|decide);(solve|simp);(solve|simp only[go_sem,seval,aX]))|omega|exact decide_eq_true (by omega)|exact au.refl _));all_goals((repeat revert ek);first|(with_reducible exact q1.out)))|fail):P:=h ⟨q1⟩
theorem Tv {Q1 Q2 P:Prop}(q1:Q1)(q2:Q2)(h:Hd Q1→Hd Q2→P:=by
 intro q1 q2;first|((repeat' (first|(with_reducible refine And.intro ?_ ?_)|(with_reducible refine dw (fun ek=>?_) (fun ek=>?_))|(with_reducible refine aQ (fun ek=>?_) (fun ek=>?_))|(with_reducible refine bT (by kernel_rfl))|simp -dsimp only[go_sem,seval, *,undef,V4,WZ,bne_self_eq_false,beq_self_eq_true,Wk,Xi,Xp]|((with_reducible refine bU ?_);simp -dsimp only[go_sem,seval, *,undef,V4,WZ,bne_self_eq_false,beq_self_eq_true,Wk,Xi,Xp];first|refine aS (by assumption) (by first|exact .inl rfl|exact .inr rfl) ?_|(refine aR (by assumption) ?_ ?_ ?_;(solve|(repeat(first|exact au.refl _|exact au.nil _|(refine au.tup ?_)|(refine au.agg ?_ rfl)|exact trivial|(refine And.intro ?_ ?_))));(solve|exact .inl rfl|exact .inr rfl)))|(refine rc (by assumption) ?_ ?_ ?_ ?_ ?_ ?_;(solve|rfl|simp only[go_sem,seval]);(solve|rfl);(solve|decide);(solve|simp);(solve|simp only[go_sem,seval,aX]))|(refine qg (by assumption) ?_ ?_ ?_ ?_ ?_ ?_;(solve|rfl|simp only[go_sem,seval]);(solve|rfl);(solve|decide);(solve|simp);(solve|simp only[go_sem,seval,aX]))|omega|exact decide_eq_true (by omega)|exact au.refl _));all_goals((repeat revert ek);first|(with_reducible exact q1.out)|(with_reducible exact q2.out)))|fail)
 (e1:Or1 Q1:=by first|(with_reducible exact(Or1.mk:Or1 True))|exact Or1.mk) (e2:Or1 Q2:=by first|(with_reducible exact(Or1.mk:Or1 True))|exact Or1.mk):P:=h ⟨q1⟩ ⟨q2⟩
theorem Pg {Q1 Q2 Q3 P:Prop}(q1:Q1)(q2:Q2)(q3:Q3)(h:Hd Q1→Hd Q2→Hd Q3→P:=by
 intro q1 q2 q3;first|((repeat' (first|(with_reducible refine And.intro ?_ ?_)|(with_reducible refine dw (fun ek=>?_) (fun ek=>?_))|(with_reducible refine aQ (fun ek=>?_) (fun ek=>?_))|(with_reducible refine bT (by kernel_rfl))|simp -dsimp only[go_sem,seval, *,undef,V4,WZ,bne_self_eq_false,beq_self_eq_true,Wk,Xi,Xp]|((with_reducible refine bU ?_);simp -dsimp only[go_sem,seval, *,undef,V4,WZ,bne_self_eq_false,beq_self_eq_true,Wk,Xi,Xp];first|refine aS (by assumption) (by first|exact .inl rfl|exact .inr rfl) ?_|(refine aR (by assumption) ?_ ?_ ?_;(solve|(repeat(first|exact au.refl _|exact au.nil _|(refine au.tup ?_)|(refine au.agg ?_ rfl)|exact trivial|(refine And.intro ?_ ?_))));(solve|exact .inl rfl|exact .inr rfl)))|(refine rc (by assumption) ?_ ?_ ?_ ?_ ?_ ?_;(solve|rfl|simp only[go_sem,seval]);(solve|rfl);(solve|decide);(solve|simp);(solve|simp only[go_sem,seval,aX]))|(refine qg (by assumption) ?_ ?_ ?_ ?_ ?_ ?_;(solve|rfl|simp only[go_sem,seval]);(solve|rfl);(solve|decide);(solve|simp);(solve|simp only[go_sem,seval,aX]))|omega|exact decide_eq_true (by omega)|exact au.refl _));all_goals((repeat revert ek);first|(with_reducible exact q1.out)|(with_reducible exact q2.out)|(with_reducible exact q3.out)))|fail)
 (e1:Or1 Q1:=by first|(with_reducible exact(Or1.mk:Or1 True))|exact Or1.mk) (e2:Or1 Q2:=by first|(with_reducible exact(Or1.mk:Or1 True))|exact Or1.mk) (e3:Or1 Q3:=by first|(with_reducible exact(Or1.mk:Or1 True))|exact Or1.mk):P:=h ⟨q1⟩ ⟨q2⟩ ⟨q3⟩
theorem RU {Q1 Q2 Q3 Q4 P:Prop}(q1:Q1)(q2:Q2)(q3:Q3)(q4:Q4)(h:Hd Q1→Hd Q2→Hd Q3→Hd Q4→P:=by
 intro q1 q2 q3 q4;first|((repeat' (first|(with_reducible refine And.intro ?_ ?_)|(with_reducible refine dw (fun ek=>?_) (fun ek=>?_))|(with_reducible refine aQ (fun ek=>?_) (fun ek=>?_))|(with_reducible refine bT (by kernel_rfl))|simp -dsimp only[go_sem,seval, *,undef,V4,WZ,bne_self_eq_false,beq_self_eq_true,Wk,Xi,Xp]|((with_reducible refine bU ?_);simp -dsimp only[go_sem,seval, *,undef,V4,WZ,bne_self_eq_false,beq_self_eq_true,Wk,Xi,Xp];first|refine aS (by assumption) (by first|exact .inl rfl|exact .inr rfl) ?_|(refine aR (by assumption) ?_ ?_ ?_;(solve|(repeat(first|exact au.refl _|exact au.nil _|(refine au.tup ?_)|(refine au.agg ?_ rfl)|exact trivial|(refine And.intro ?_ ?_))));(solve|exact .inl rfl|exact .inr rfl)))|(refine rc (by assumption) ?_ ?_ ?_ ?_ ?_ ?_;(solve|rfl|simp only[go_sem,seval]);(solve|rfl);(solve|decide);(solve|simp);(solve|simp only[go_sem,seval,aX]))|(refine qg (by assumption) ?_ ?_ ?_ ?_ ?_ ?_;(solve|rfl|simp only[go_sem,seval]);(solve|rfl);(solve|decide);(solve|simp);(solve|simp only[go_sem,seval,aX]))|omega|exact decide_eq_true (by omega)|exact au.refl _));all_goals((repeat revert ek);first|(with_reducible exact q1.out)|(with_reducible exact q2.out)|(with_reducible exact q3.out)|(with_reducible exact q4.out)))|fail)
 (e1:Or1 Q1:=by first|(with_reducible exact(Or1.mk:Or1 True))|exact Or1.mk) (e2:Or1 Q2:=by first|(with_reducible exact(Or1.mk:Or1 True))|exact Or1.mk) (e3:Or1 Q3:=by first|(with_reducible exact(Or1.mk:Or1 True))|exact Or1.mk) (e4:Or1 Q4:=by first|(with_reducible exact(Or1.mk:Or1 True))|exact Or1.mk):P:=h ⟨q1⟩ ⟨q2⟩ ⟨q3⟩ ⟨q4⟩
theorem zu {s:Bool}{ents:List (List Int × Int)}{seen:List Nat}(h:(leftOf (aU s ents 0).toArray seen.toArray).size=0){i:Nat}(hi:i < ents.length):i∈seen:=by
 have hg:=mb s ents 0 i;rw[VY hi]at hg;have hm:=V0 hg;refine Classical.byContradiction fun hn=>?_;have:{key:=f6 s ents[i].1,val:=Value.int .i64 ents[i].2,born:=0+i:MapEntry}∈(leftOf (aU s ents 0).toArray seen.toArray).toList:=by
  unfold leftOf;simp;exact⟨by simpa using hm,by simpa using hn⟩
 have hz:(leftOf (aU s ents 0).toArray seen.toArray).toList=[]:=by
  have:(leftOf (aU s ents 0).toArray seen.toArray)=#[]:=Array.eq_empty_of_size_eq_zero h;rw[this]
 rw[hz]at this;simp at this
theorem zw {s:Bool}{ents:List (List Int × Int)}{seen:List Nat}{x:MapEntry}(h:x∈(leftOf (aU s ents 0).toArray seen.toArray).toList):∃i,i < ents.length∧i∉seen∧x.born=i:=by
 unfold leftOf at h;simp at h;have:=ir s ents 0 x h.1;exact⟨x.born,by omega,by simpa using h.2,rfl⟩
theorem RealC.set_it {X:Cfg}{s:FS}{a:Act}{w:World}{c:Cx}(h:RealC X s a w c){k n b bm:Nat}{sB:Bool}{ents:List (List Int × Int)}{seen:List Nat}(i:Nat)(hk:s.heap k= .it n sB ents seen)(hb:c.bl k=some b)(hh:w.heap[b]? =some (.mapIter (some bm) ents.length seen.toArray ents.length))(hM:¬c.M bm)(hm:w.heap[bm]? =some (.map (aU sB ents 0).toArray ents.length)):
 RealC X {s with heap:=bS [(k,.it n sB ents (seen++[i]))] s.heap} a {w with heap:=w.heap.setIfInBounds b (.mapIter (some bm) ents.length (seen.toArray.push i) ents.length)} c:=by
 have ct:c.block k (s.heap k)=some b:=by rw[hk];exact hb
 have hlt:b < w.heap.size:=(W5.1 hh).1;have bq:b≠bm:=fun e=>hM ((h.mu bm).2 (.inr ⟨k,by rw[ct,e]⟩));have Ss:(w.heap.setIfInBounds b (.mapIter (some bm) ents.length (seen.toArray.push i) ents.length))[b]? =some (.mapIter (some bm) ents.length (seen.toArray.push i) ents.length):=by simp[hlt]
 have vj:∀b',b'≠b→(w.heap.setIfInBounds b (.mapIter (some bm) ents.length (seen.toArray.push i) ents.length))[b']? =w.heap[b']? :=fun b' hb'=>by
  rw[Array.getElem?_setIfInBounds];rw[if_neg (fun e=>hb' e.symm)]
 refine h.turn c.le_refl rfl (fun _ _=>rfl) (fun _ _=>rfl) rfl rfl rfl (by simp) (fun b' _ hb'=>vj b' (fun e=>hb' (by rw[e];exact ct))) (fun b'=>?_) (fun b' hb'=>?_) (fun lM=>?_)
 ·show c.M b'↔(c.M b'∧c.block k (s.heap k)≠some b')∨c.bl k=some b';rw[ct,hb];constructor
  ·intro hm;by_cases e:b=b'
   ·exact .inr (by rw[e])
   ·exact .inl ⟨hm,fun h=>e (WD.inj h)⟩
  ·rintro (⟨hm,_⟩|e)
   ·exact hm
   ·exact(h.mu b').2 (.inr ⟨k,by rw[ct];exact e⟩)
 ·have e:c.bl k=some b':=hb';refine⟨.inl (by rw[ct,←hb];exact e),?_⟩;simp only[Array.size_setIfInBounds];exact(h.new k b' (by rw[ct,←hb];exact e)).2
 ·exact .it n sB ents (seen++[i]) b bm hb (by rw[Ss];simp) hM (by rw[vj bm (fun e=>bq e.symm)];exact hm)
section
variable {P:Program}{n m:Nat}{T:Nat→Option TI}{Q:Nat→Option Nat}{K K':KT}{e:bK}{h:List Chunk}
theorem zx {c:Code}(hK:∀x e h,K x e h→K' x e h)(hs:qW P n m c K e h):qW P n m c K' e h:=fun X hX hn oB a w hr=>
 wp_mono (hs X hX hn oB a w hr) fun _ _ _ ⟨e',h',hk,hr'⟩=>⟨e',h',hK _ _ _ hk,hr'⟩
theorem DC {a b:Code}(bB:TabOK P T Q)(kG:P.follows .mixedOrders=true)(hb:jA n b=true)(ha:qW P n m a (s6 (sC P n m T Q b K ⟨⟩) K) e h):qW P n m (.seq a b) K e h:=
 Dq fun C hC=>zx (fun x e h hk=>by
  cases x with
  |normal=>exact hC _ _ (fO bB kG b _ _ _ hb hk)
  |_=>exact hk) ha
theorem zy (bB:TabOK P T Q){id d1 d2 k nn:Nat}{o1 o2:Oper}{x:Operand}{sB:Bool}{ents:List (List Int × Int)}{seen:List Nat}(ik:m≤h.length)(TM:o1.op= .next x false)(QB:o1.guard=none)(A4:o1.dst=some d1)(Ju:o2.op= .extract (.tmp d1) 0)(UM:o2.guard=none)(yf:o2.dst=some d2)(St:d1 < n)(Ef:d2 < n)
 (hx:cK e x= .ptr k 0) (hk:aw h k= .it nn sB ents seen) (Gd:k < h.length)
 (h0:(∀i,i < ents.length→i∈seen)→K .normal (ez (ez e (some d1) (.tup [.d (.v (.bool false))])) (some d2) (.d (.v (.bool false)))) h)
 (h1:∀i,i < ents.length→i∉seen→K .normal (ez (ez e (some d1) (.tup [.d (.v (.bool true)),.any,.any])) (some d2) (.d (.v (.bool true)))) (nS [(k,.it nn sB ents (seen++[i]))] h)):qW P n m (.region id #[o1,o2] false) K e h:=by
 intro X hX hn oB a w hr;subst hX;subst hn;subst oB;obtain⟨c,hc⟩:=hr;refine wp_region_list ?_;show wpList X.P #[o1,o2] _ [o1,o2] a w;unfold wpList;rw[if_pos (by unfold Region.wanted;rw[QB])];left;have e1:=bo hc x;rw[aq,hx]at e1;have bn:=hc.chunk k;have kD:(bp e h).heap k= .it nn sB ents seen:=hk;rw[kD]at bn;generalize hu:a.eval x=u at e1;have fin:∀(tp:PV) (b:Bool) (e':bK) (h':List Chunk) (a':Act) (w':World),e'=ez e (some d1) tp→(∃l,tp= .tup (.d (.v (.bool b))::l))→X.m≤h'.length→il X (bp e' h') a' w'→K .normal (ez e' (some d2) (.d (.v (.bool b)))) h'→wpList X.P #[o1,o2] (RK X K) [o2] a' w':=by
  rintro tp b e' h' a' w' he ⟨l,rfl⟩ hm' hr' hK;unfold wpList;rw[if_pos (by unfold Region.wanted;rw[UM])];left;have jU:JS T Q e' h' o2= .res (.d (.v (.bool b))) [] [] True:=by
   unfold JS;rw[Ju];simp only[cK];rw[show dQ e' d1= .tup (.d (.v (.bool b))::l) by rw[he];simp[ez,dQ]];simp[vS]
  have cr:=Hr (X:=X) (ops:=#[o1,o2]) bB (fun d hd=>by rw[yf]at hd;cases hd;exact Ef) hm' jU trivial;refine cr.2.2 (bp e' h') (fun _ _=>rfl) (fun _ _=>rfl) a' w' hr' _ _ fun v w'' hr''=>?_;unfold wpList;refine⟨_,_,hK,?_⟩;rw[mX (fun kc h=>by simp at h),yf]at hr'';rw[←yf]at hr'';simpa[nS,yf]using hr''
 cases e1 with
 |ptr _ _ b hb=>
  cases bn with
  |it _ _ _ _ b' bm hb' hh hM hm=>
   rw[hb]at hb';cases hb';have A7:∀(tp:PV) (v:Value) (h':List Chunk) (w':World) (c':Cx),RealC X (bp e h') a w' c'→RepP c' w' tp v→il X (bp (ez e (some d1) tp) h') (a.put o1.dst v) w':=by
    intro tp v h' w' c' hc' hp;have:=hc'.put (dst:=o1.dst) hp (fun d hd=>by rw[A4]at hd;cases hd;exact St);have h2:=mX (e:=e) (h:=h') (dst:=o1.dst) (p:=tp) (eff:=[]) (touch:=[]) (fun kc h=>by simp at h);rw[←A4];refine⟨c',?_⟩;show RealC X (bp (ez e o1.dst tp) (nS [] h')) _ w' c';rw[←h2];exact this
   rcases run_next_at (P:=X.P) w o1.type b bm ents.length ents.length seen.toArray (aU sB ents 0).toArray ents.length hh hm (fun x hx=>by have:=ir sB ents 0 x (by simpa using hx);omega) (Wa _)with⟨hz,bG⟩|⟨x1,nc,w1,cJ,bG⟩
   ·unfold Oper.wp;have Qc:(execOp a.eval o1).run X.P w= .ok (.value (.tuple #[.bool false])) w:=by
     simp only[execOp,TM,hu];rw[Sem.run_bind,bG];rfl
    rw[Qc];exact fin (.tup [.d (.v (.bool false))]) false _ h _ _ rfl ⟨_,rfl⟩ ik (A7 _ _ h w c hc (.tup _ [.bool false] rfl (fun j d y h1 h2=>by
     match j with
     |0=>simp at h1 h2;subst h1;subst h2;exact .d _ _ (.v _)
     |j+1=>simp at h1))) (h0 fun i hi=>zu hz hi)
   ·obtain⟨i,hi,OQ,R6⟩:=zw nc;have Mo:RealC X (bp e h) a w1 c:=by
     rcases cJ with rfl|rfl
     ·exact hc
     ·exact hc.grow ⟨rfl,rfl,rfl,Wa _,fun _ _=>rfl⟩
    have uu:w1.heap=w.heap:=by rcases cJ with rfl|rfl<;>rfl
    have jV:=Mo.set_it i kD hb (by rw[uu];exact hh) hM (by rw[uu];exact hm);unfold Oper.wp;have Qc:(execOp a.eval o1).run X.P w= .ok (.value (.tuple #[.bool true,x1.key,x1.val])) {w1 with heap:=w1.heap.setIfInBounds b (.mapIter (some bm) ents.length (seen.toArray.push i) ents.length)}:=by
     simp only[execOp,TM,hu];rw[Sem.run_bind,bG,←R6];rfl
    rw[Qc];have bc:∀kc∈[(k,Chunk.it nn sB ents (seen++[i]))],kc.1≤h.length:=fun kc JV=>by simp at JV;subst JV;omega
    have UN:aw (nS [(k,Chunk.it nn sB ents (seen++[i]))] h)=bS [(k,Chunk.it nn sB ents (seen++[i]))] (aw h):=funext (p8 bc);have QC:RealC X (bp e (nS [(k,Chunk.it nn sB ents (seen++[i]))] h)) a {w1 with heap:=w1.heap.setIfInBounds b (.mapIter (some bm) ents.length (seen.toArray.push i) ents.length)} c:=by
     have:bp e (nS [(k,Chunk.it nn sB ents (seen++[i]))] h)={bp e h with heap:=bS [(k,.it nn sB ents (seen++[i]))] (bp e h).heap}:=by
      simp only[bp,UN]
     rw[this];exact jV
    refine fin (.tup [.d (.v (.bool true)),.any,.any]) true _ _ _ _ rfl ⟨_,rfl⟩ ?_ (A7 _ _ _ _ c QC (.tup _ [.bool true,x1.key,x1.val] rfl (fun j d y h1 h2=>by
     match j with
     |0=>simp at h1 h2;subst h1;subst h2;exact .d _ _ (.v _)
     |1=>simp at h1 h2;subst h1;exact .any _
     |2=>simp at h1 h2;subst h1;exact .any _
     |j+3=>simp at h1))) (h1 i hi OQ)
    exact W6 ik oZ
theorem ME {c:Code}(I:Nat→bK→List Chunk→Prop)(mm:Nat)(e1:bK)(h1:List Chunk)(h0:I mm e1 h1)(hw:dH P n m e h e1 h1)
 (hr:∀k e h,I k e h→∀C:bK→List Chunk→Prop,(∀k' e1 h1 e h,k' < k→I k' e1 h1→dH P n m e h e1 h1→C e h)→qW P n m c (qc C K) e h):zo P n m c K ⟨⟩ e h:=
 fun _=>zf I mm e1 h1 h0 hw fun k e h hI C hC=>zx (fun x e h hk=>by cases x<;>exact hk) (hr k e h hI C hC)
end
@[go_sem] theorem Tw (h:Nat→Chunk)(l:List D):bW (vw h) (l.map .d)=some l:=rY h 6 l
@[go_sem] theorem Tx (h:Nat→Chunk)(l:List D):gq (tc h) (l.map .d)=[]:=xe h 6 l
def cY {α:Type}(p:α→Bool)(l:List α):Int:=match l.findIdx? p with|some i=>(i:Int)|none=> -1
theorem eJ {α:Type}{p:α→Bool}{l:List α}{k:Nat}{x:α}(hx:l[k]? =some x)(hp:p x=true)(df:∀y∈l.take k,p y=false):cY p l=k:=by
 have h:l.findIdx? p=some k:=by
  rw[WF];obtain⟨hk,hx'⟩:=V3.1 hx;refine⟨hk,by rw[hx'];exact hp,fun j hj=>?_⟩;have:=df l[j] (V0 (by rw[Wo hj];exact VY (by omega)));rw[this];simp
 simp[cY,h]
theorem eK {α:Type}{p:α→Bool}{l:List α}(df:∀y∈l,p y=false):cY p l= -1:=by
 have h:l.findIdx? p=none:=by rw[Xm];exact df
 simp[cY,h]
theorem eY {α:Type}(p:α→Bool)(l:List α):decide (cY p l≥0)=l.any p:=by
 unfold cY;cases h:l.findIdx? p with
 |none=>
  rw[Xm]at h;have:l.any p=false:=by rw[Xu];intro x hx;rw[h x hx];simp
  rw[this];rfl
 |some i=>
  obtain⟨hi,hp,_⟩:=WF.1 h;have:l.any p=true:=XK.2 ⟨_,W8 hi,hp⟩;rw[this];simp
def dx (a b:Int):Int:=if a < b then -1 else if a>b then 1 else 0
theorem o8 (a b:Int):decide (dx a b < 0)=decide (a < b):=by
 unfold dx;split
 ·simp[*]
 ·split<;>simp[*]
theorem qh (a b:Int):(dx a b==0)=(a==b):=by
 unfold dx;split
 ·rename_i h;rw[Xh];simp;omega
 ·split
  ·rw[Xh];simp;omega
  ·rw[Xh];simp;omega
theorem ta (x:Int):IntKind.u64.wrap x=x % 18446744073709551616:=rfl
def kH {α:Type}(key:α→Int)(t:Int)(l:List α):Nat:=l.findIdx fun x=>decide (t≤key x)
def o9 {α:Type}(key:α→Int)(t:Int)(l:List α):Bool:=match l[kH key t l]? with|some x=>key x==t|none=>false
theorem qi {α:Type}{key:α→Int}{t:Int}{l:List α}{i:Nat}(hi:i≤l.length)(jq:∀q (hq:q < l.length),q < i→key l[q] < t)(jN:∀q (hq:q < l.length),i≤q→t≤key l[q]):kH key t l=i:=by
 unfold kH;rcases Wv i l.length with h|h
 ·rw[List.findIdx_eq h];refine⟨by simpa using jN i h (Wa _),fun j hj=>?_⟩;have:=jq j (by omega) hj;simp;omega
 ·obtain rfl:i=l.length:=by omega
  rw[List.findIdx_eq_length];intro x hx;obtain⟨q,hq,rfl⟩:=W9.1 hx;have:=jq q hq hq;simp;omega
theorem pj {f nt:Nat}{fn:Func}{c:Code}{rs:Array ResultVar}{ds:List D}{r:D}(hf:prog.funcs[f]? =some fn)(hn:fn.ntmps=nt)(hr:fn.results=rs)
 (hp:sC prog nt 0 uS Hw c (o3 uS rs.toList r) ⟨⟩ (nU (ds.map .d) 0) []) (hb:fn.body=some c:=by exact rfl) (hc:BT fn nt c ds.length=true:=by kernel_rfl):ae prog f ds r:=RT ah av hf hb hn hr hc hp
theorem mj {f nt:Nat}{fn:Func}{c:Code}{rs:Array ResultVar}{args:List PV}{h0 h1:List Chunk}{r:PV}(hf:prog.funcs[f]? =some fn)(hn:fn.ntmps=nt)(hr:fn.results=rs)
 (hp:sC prog nt h0.length uS Hw c (uR prog h0.length uS rs.toList r h1) ⟨⟩ (nU args 0) h0) (hb:fn.body=some c:=by exact rfl) (hc:BT fn nt c args.length=true:=by kernel_rfl)
 (hle:h0.length≤h1.length:=by simp) (CW:af h0.length args=true:=by simp[af,ag]) (hbh:ay h0.length h0=true:=by simp[ay,aH,af,ag,aK,an]):MSpec prog f args h0 r h1:=fP ah av hf hb hn hr hc hle CW hbh hp
theorem zA {α:Type}{enc:α→List D}(dA:∀x,(enc x).length=2)(p:α→Bool)(l:List α)(g:Nat)(caps:List D)(hl:l.length≤1000000000)(hc:∀x∈l,ae prog g (.agg (enc x)::caps) (.v (.bool (p x)))):
 ae prog 206 [.sl 2 (l.map enc),.clo g caps] (.v (.int .i64 (cY p l))):=by
 refine pj func206 ntmps206 results206 ?_;refine aF ?_<;>intros;refine cp ah av (fun m e h=>∃k:Nat,k≤l.length∧(∀x∈l.take k,p x=false)∧m=l.length - k∧e=[(8,.d (.v (.int .i64 k))),(7,.d (.v (.int .i64 l.length))),(4,.d (.v (.int .i64 0))),(1,.d (.clo g caps)),(0,.d (.sl 2 (l.map enc)))]∧h=[]) _ _ _ ⟨0,Wr _,by simp,rfl,rfl,rfl⟩ ?_ ?_
 ·exact wf (x:=[]) (hh:=rfl) (he:=⟨rfl,rfl,rfl,rfl,rfl,trivial⟩)
 ·rintro m e h ⟨k,hk,df,rfl,rfl,rfl⟩ CL kI;by_cases hlt:k < l.length
  ·obtain⟨x,hx⟩:∃x,l[k]? =some x:=⟨_,VY hlt⟩;have ej:(k:Int) < (l.length:Int):=by omega
   have ed:=wi k (by omega);have bc:=dA x;have jp:(enc x).take 2=enc x:=Wj (by omega);have gI:=hc x (V0 hx);cases hp:p x with
   |false=>
    rw[hp]at gI;refine aF ?_<;>intros;refine kI _ _ _ _ _ ?_ ⟨k+1,hlt,?_,rfl,rfl,rfl⟩ (wf (x:=[]) (hh:=rfl) (he:=⟨rfl,rfl,rfl,rfl,rfl,trivial⟩))
    ·omega
    ·intro y hy;rw[aj hx]at hy;rcases WJ.1 hy with hy|hy
     ·exact df y hy
     ·rw[WP]at hy;rw[hy];exact hp
   |true=>
    rw[hp]at gI;have jm:cY p l=k:=eJ hx hp df;exact bx;all_goals rw[jm]
    all_goals exact au.refl _
  ·obtain rfl:k=l.length:=by omega
   rw[V4]at df;refine aF ?_<;>intros;all_goals rw[eK df]
   all_goals exact au.refl _
theorem rd {α:Type}{enc:α→List D}(dA:∀x,(enc x).length=2)(p:α→Bool)(l:List α)(g:Nat)(caps:List D)(hl:l.length≤1000000000)(hc:∀x∈l,ae prog g (.agg (enc x)::caps) (.v (.bool (p x)))):
 ae prog 122 [.sl 2 (l.map enc),.clo g caps] (.v (.bool (l.any p))):=by
 have hi:=zA dA p l g caps hl hc;have mM:=eY p l;refine pj func122 ntmps122 results122 ?_;exact bx;all_goals exact au.refl _
theorem iu (a:Int):ae prog 245 [.v (.int .i64 a)] (.v (.bool false)):=by
 have h:(a !=a)=false:=by simp
 refine pj func245 ntmps245 results245 ?_;exact bx;all_goals exact au.refl _
theorem kj (a b:Int):ae prog 176 [.v (.int .i64 a),.v (.int .i64 b)] (.v (.int .i64 (dx a b))):=by
 rcases Int.lt_trichotomy a b with h|h|h
 ·have h1:decide (a < b)=true:=by simpa using h
  have e:dx a b= -1:=by simp[dx,h]
  refine pj func176 ntmps176 results176 ?_;have z1z:=iu a;have z2z:=iu b;exact bx;all_goals(rw[e];exact au.refl _)
 ·subst h;have e:dx a a=0:=by simp[dx]
  have h1:decide (a>a)=false:=by simp
  refine pj func176 ntmps176 results176 ?_;have z1z:=iu a;exact bx;all_goals(rw[e];exact au.refl _)
 ·have h1:decide (a < b)=false:=by simp;omega
  have h2:decide (a>b)=true:=by simpa using h
  have e:dx a b=1:=by unfold dx;rw[if_neg (by omega),if_pos h]
  refine pj func176 ntmps176 results176 ?_;have z1z:=iu a;have z2z:=iu b;exact bx;all_goals(rw[e];exact au.refl _)
theorem zB:∀(h:List Chunk) (k:Nat),aw (h.map fun _=>Chunk.gone) k=if k < h.length then .gone else .none
 |[],_=>rfl
 |c::l,0=>rfl
 |c::l,k+1=>by simp only[V1,aw,zB l k,Wc,Nat.add_lt_add_iff_right]
theorem tb {P:Program}{f:Nat}{args:List PV}{h0:List Chunk}{ds:List D}{r:D}(hp:ae P f ds r)(CW:af h0.length args=true)(hbh:ay h0.length h0=true)(hv:bW (vw (aw h0)) args=some ds)(ht:∀k∈gq (tc (aw h0)) args,k < h0.length):MSpec P f args h0 (.d r) (h0.map fun _=> .gone):=by
 refine⟨hp.1,by simp,CW,hbh,fun X hP hn hm w c vs hr jn=>?_⟩;subst hP;have hf:=hr.freeze (WC h0.length);obtain⟨q1,q2⟩:=dU hv;have aV:cS (jz c (aw h0) (WC h0.length)) w ds vs:=⟨by rw[←q1];exact jn.1,fun j d x hj hx=>by
  obtain⟨p,hp',uq⟩:=q2 j d hj;exact iT hr 6 uq (fun k hk=>Xk.2 (ht k (d8 (V0 hp') k hk))) (jn.2 j p x hp' hx)⟩
 refine(hp.2 _ w vs (fun b hb=>hr.lt hb.1) (hr.ginv.keep ⟨Wa _,fun _ _ _=>rfl,fun b _ hb=>hb.1⟩) aV).mono ?_;rintro e w' ⟨v,rfl,hv',hx⟩;refine⟨v,{c with M:=jz c (aw h0) (WC h0.length)},rfl,.d _ _ hv',?_⟩;have hg:=hf.grow hx;have he:({bp [] h0 with heap:=bS ((WC h0.length).map fun k=>(k,.gone)) (bp [] h0).heap}:FS)=bp [] (h0.map fun _=> .gone):=by
  simp only[bp,FS.mk.injEq,true_and];funext k;rw[j8,zB];by_cases hk:k < h0.length
  ·rw[if_pos (Xk.2 hk),if_pos hk]
  ·rw[if_neg (fun h=>hk (Xk.1 h)),if_neg hk];exact kQ h0 k (by omega)
 rw[he]at hg;exact hg
theorem HO (p:PV):Tu p p:= .inl rfl
theorem v7:∀(l:List PV),rJ l l
 |[]=>trivial
 |p::l=>⟨HO p,v7 l⟩
theorem zC:∀{a b c d:List PV},rJ a b→rJ c d→rJ (a++c) (b++d)
 |[],[],_,_,_,h=>h
 |[],_::_,_,_,h,_=>h.elim
 |_::_,[],_,_,h,_=>h.elim
 |_::_,_::_,_,_,⟨h1,h2⟩,h=>⟨h1,zC h2 h⟩
theorem zD:∀{a b:List PV},rJ a b→a.length=b.length
 |[],[],_=>rfl
 |[],_::_,h=>h.elim
 |_::_,[],h=>h.elim
 |_::_,_::_,⟨_,h⟩=>by simp[zD h]
theorem BV:∀{a b:List D},qa a b→rJ (a.map .d) (b.map .d)
 |[],[],_=>trivial
 |[],_::_,h=>h.elim
 |_::_,[],h=>h.elim
 |_::_,_::_,⟨h1,h2⟩=>⟨.inr ⟨_,_,rfl,rfl,h1⟩,BV h2⟩
def tf:List (List PV)→List (List PV)→Prop
 |[],[]=>True
 |r::l,s::m=>rJ r s∧tf l m
 |_,_=>False
theorem qj:∀(l:List (List PV)),tf l l
 |[]=>trivial
 |r::l=>⟨v7 r,qj l⟩
theorem zF:∀{a b c d:List (List PV)},tf a b→tf c d→tf (a++c) (b++d)
 |[],[],_,_,_,h=>h
 |[],_::_,_,_,h,_=>h.elim
 |_::_,[],_,_,h,_=>h.elim
 |_::_,_::_,_,_,⟨h1,h2⟩,h=>⟨h1,zF h2 h⟩
theorem v8:∀{a b:List (List PV)},tf a b→rJ a.flatten b.flatten
 |[],[],_=>trivial
 |[],_::_,h=>h.elim
 |_::_,[],h=>h.elim
 |_::_,_::_,⟨h1,h2⟩=>zC h1 (v8 h2)
theorem zG:∀{a b:List (List PV)},tf a b→a.length=b.length
 |[],[],_=>rfl
 |[],_::_,h=>h.elim
 |_::_,[],h=>h.elim
 |_::_,_::_,⟨_,h⟩=>by simp[zG h]
theorem DD {sz:Nat}:∀{a b:List (List PV)},tf a b→(∀r∈a,r.length=sz)→∀r∈b,r.length=sz
 |[],[],_,_=>fun r h=>by simp at h
 |[],_::_,h,_=>h.elim
 |_::_,[],h,_=>h.elim
 |_::_,_::_,⟨h1,h2⟩,h=>fun r hr=>by
  rcases WI.1 hr with rfl|hr
  ·rw[←zD h1];exact h _ (by simp)
  ·exact DD h2 (fun r hr=>h r (by simp[hr])) r hr
theorem zH {A B:List (List D)}{r s:List D}(h:qa r s):tf (aa (A++r::B)) (aa (A++s::B)):=by
 simp only[aa,V6,V1];exact zF (qj _) ⟨BV h,qj _⟩
theorem nX {α:Type}{enc:α→List D}(h:∀x,(enc x).all D.one=true)(l:List α):∀r∈aa (l.map enc),∀d∈r,d.one=true:=fun r hr d hd=>by
 obtain⟨q,hq,rfl⟩:=fw hr;obtain⟨x,-,rfl⟩:=Wp.1 hq;obtain⟨y,hy,rfl⟩:=Wp.1 hd;exact Wx.1 (h x) y hy
theorem RealC.row_le {X:Cfg}{e:bK}{h:List Chunk}{a:Act}{w:World}{c:Cx}(hr:RealC X (bp e h) a w c){k E sz g:Nat}{rows rows':List (List PV)}(hk:aw h k= .row E sz g rows)(hlt:k < h.length)(hle:tf rows rows')(h1:∀r∈rows',∀d∈r,d.one=true):
 RealC X (bp e (bg h k (.row E sz g rows'))) a w c:=by
 have hh:∀k',(bp e (bg h k (.row E sz g rows'))).heap k'=if k'=k then .row E sz g rows' else (bp e h).heap k':=fun k'=>eI (YM hlt) k';have hb:∀k',c.block k' ((bp e (bg h k (.row E sz g rows'))).heap k')=c.block k' ((bp e h).heap k'):=by
  intro k';rw[hh];split
  ·rename_i he;subst he;show _=c.block k' (aw h k');rw[hk];rfl
  ·rfl
 refine⟨hr.size,hr.defers,hr.ext,hr.inv,hr.fresh,fun b=>?_,fun k' b Ej=>?_,fun k' k'' b h1 h2=>?_,hr.env,fun k'=>?_,hr.lent⟩
 ·rw[hr.mu b];simp only[hb]
 ·rw[hb]at Ej;exact hr.new k' b Ej
 ·rw[hb]at h1 h2;exact hr.apart k' k'' b h1 h2
 ·rw[hh];split
  ·rename_i he;subst he;have bn:=hr.chunk k';rw[show (bp e h).heap k'=_ from hk]at bn;cases bn with
   |row _ _ _ _ v xs hv bf Ge ck da hg=>
    exact .row E sz g rows' v xs hv (by rw[←zG hle];exact bf) (o7 (v8 hle) Ge) (DD hle ck) h1 hg
  ·exact hr.chunk k'
theorem MSpec.leh {P:Program}{f:Nat}{args:List PV}{E sz g:Nat}{rows rows':List (List PV)}{r:PV}{h1:List Chunk}(hM:MSpec P f args [.row E sz g rows'] r h1)(hle:tf rows rows')(ho:∀r∈rows',∀d∈r,d.one=true)(hb:bN 1 rows=true):MSpec P f args [.row E sz g rows] r h1:=
 ⟨hM.fn,hM.le,hM.ba,by simp only[Wc,WM,ay,aH,Wn,hb,WW],fun X hP hn hm w c vs hr jn=>hM.run X hP hn hm w c vs (hr.row_le (k:=0) rfl (by simp) hle ho) jn⟩
theorem tg {α:Type}{enc:α→List D}(dA:∀x,(enc x).length=3)(p:α→Bool)(l:List α)(g:Nat)(caps:List D)(hl:l.length≤1000000000)(hc:∀x∈l,ae prog g (.agg (enc x)::caps) (.v (.bool (p x)))):
 ae prog 185 [.sl 3 (l.map enc),.clo g caps] (.v (.int .i64 (cY p l))):=by
 refine pj func185 ntmps185 results185 ?_;refine aF ?_<;>intros;refine cp ah av (fun m e h=>∃k:Nat,k≤l.length∧(∀x∈l.take k,p x=false)∧m=l.length - k∧e=[(8,.d (.v (.int .i64 k))),(7,.d (.v (.int .i64 l.length))),(4,.d (.v (.int .i64 0))),(1,.d (.clo g caps)),(0,.d (.sl 3 (l.map enc)))]∧h=[]) _ _ _ ⟨0,Wr _,by simp,rfl,rfl,rfl⟩ ?_ ?_
 ·exact wf (x:=[]) (hh:=rfl) (he:=⟨rfl,rfl,rfl,rfl,rfl,trivial⟩)
 ·rintro m e h ⟨k,hk,df,rfl,rfl,rfl⟩ CL kI;by_cases hlt:k < l.length
  ·obtain⟨x,hx⟩:∃x,l[k]? =some x:=⟨_,VY hlt⟩;have ej:(k:Int) < (l.length:Int):=by omega
   have ed:=wi k (by omega);have bc:=dA x;have jp:(enc x).take 3=enc x:=Wj (by omega);have gI:=hc x (V0 hx);cases hp:p x with
   |false=>
    rw[hp]at gI;refine aF ?_<;>intros;refine kI _ _ _ _ _ ?_ ⟨k+1,hlt,?_,rfl,rfl,rfl⟩ (wf (x:=[]) (hh:=rfl) (he:=⟨rfl,rfl,rfl,rfl,rfl,trivial⟩))
    ·omega
    ·intro y hy;rw[aj hx]at hy;rcases WJ.1 hy with hy|hy
     ·exact df y hy
     ·rw[WP]at hy;rw[hy];exact hp
   |true=>
    rw[hp]at gI;have jm:cY p l=k:=eJ hx hp df;exact bx;all_goals rw[jm]
    all_goals exact au.refl _
  ·obtain rfl:k=l.length:=by omega
   rw[V4]at df;refine aF ?_<;>intros;all_goals rw[eK df]
   all_goals exact au.refl _
theorem kU {α:Type}{enc:α→List D}(dA:∀x,(enc x).length=3)(p:α→Bool)(l:List α)(g:Nat)(caps:List D)(hl:l.length≤1000000000)(hc:∀x∈l,ae prog g (.agg (enc x)::caps) (.v (.bool (p x)))):
 ae prog 247 [.sl 3 (l.map enc),.clo g caps] (.v (.bool (l.any p))):=by
 have hi:=tg dA p l g caps hl hc;have mM:=eY p l;refine pj func247 ntmps247 results247 ?_;exact bx;all_goals exact au.refl _
theorem th {α:Type}{enc:α→List D}(dA:∀x,(enc x).length=4)(p:α→Bool)(l:List α)(g:Nat)(caps:List D)(hl:l.length≤1000000000)(hc:∀x∈l,ae prog g (.agg (enc x)::caps) (.v (.bool (p x)))):
 ae prog 251 [.sl 4 (l.map enc),.clo g caps] (.v (.int .i64 (cY p l))):=by
 refine pj func251 ntmps251 results251 ?_;refine aF ?_<;>intros;refine cp ah av (fun m e h=>∃k:Nat,k≤l.length∧(∀x∈l.take k,p x=false)∧m=l.length - k∧e=[(8,.d (.v (.int .i64 k))),(7,.d (.v (.int .i64 l.length))),(4,.d (.v (.int .i64 0))),(1,.d (.clo g caps)),(0,.d (.sl 4 (l.map enc)))]∧h=[]) _ _ _ ⟨0,Wr _,by simp,rfl,rfl,rfl⟩ ?_ ?_
 ·exact wf (x:=[]) (hh:=rfl) (he:=⟨rfl,rfl,rfl,rfl,rfl,trivial⟩)
 ·rintro m e h ⟨k,hk,df,rfl,rfl,rfl⟩ CL kI;by_cases hlt:k < l.length
  ·obtain⟨x,hx⟩:∃x,l[k]? =some x:=⟨_,VY hlt⟩;have ej:(k:Int) < (l.length:Int):=by omega
   have ed:=wi k (by omega);have bc:=dA x;have jp:(enc x).take 4=enc x:=Wj (by omega);have gI:=hc x (V0 hx);cases hp:p x with
   |false=>
    rw[hp]at gI;refine aF ?_<;>intros;refine kI _ _ _ _ _ ?_ ⟨k+1,hlt,?_,rfl,rfl,rfl⟩ (wf (x:=[]) (hh:=rfl) (he:=⟨rfl,rfl,rfl,rfl,rfl,trivial⟩))
    ·omega
    ·intro y hy;rw[aj hx]at hy;rcases WJ.1 hy with hy|hy
     ·exact df y hy
     ·rw[WP]at hy;rw[hy];exact hp
   |true=>
    rw[hp]at gI;have jm:cY p l=k:=eJ hx hp df;exact bx;all_goals rw[jm]
    all_goals exact au.refl _
  ·obtain rfl:k=l.length:=by omega
   rw[V4]at df;refine aF ?_<;>intros;all_goals rw[eK df]
   all_goals exact au.refl _
theorem tj {α:Type}{enc:α→List D}(dA:∀x,(enc x).length=4)(p:α→Bool)(l:List α)(g:Nat)(caps:List D)(hl:l.length≤1000000000)(hc:∀x∈l,ae prog g (.agg (enc x)::caps) (.v (.bool (p x)))):
 ae prog 187 [.sl 4 (l.map enc),.clo g caps] (.v (.bool (l.any p))):=by
 have hi:=th dA p l g caps hl hc;have mM:=eY p l;refine pj func187 ntmps187 results187 ?_;exact bx;all_goals exact au.refl _
theorem v9 {α:Type}{enc:α→List D}(dA:∀x,(enc x).length=2)(p:α→Bool)(l:List α)(g:Nat)(caps:List D)(hl:l.length≤1000000000)(hc:∀x∈l,ae prog g (.agg (enc x)::caps) (.v (.bool (p x)))):
 ae prog 256 [.sl 2 (l.map enc),.clo g caps] (.v (.int .i64 (cY p l))):=by
 refine pj func256 ntmps256 results256 ?_;refine aF ?_<;>intros;refine cp ah av (fun m e h=>∃k:Nat,k≤l.length∧(∀x∈l.take k,p x=false)∧m=l.length - k∧e=[(8,.d (.v (.int .i64 k))),(7,.d (.v (.int .i64 l.length))),(4,.d (.v (.int .i64 0))),(1,.d (.clo g caps)),(0,.d (.sl 2 (l.map enc)))]∧h=[]) _ _ _ ⟨0,Wr _,by simp,rfl,rfl,rfl⟩ ?_ ?_
 ·exact wf (x:=[]) (hh:=rfl) (he:=⟨rfl,rfl,rfl,rfl,rfl,trivial⟩)
 ·rintro m e h ⟨k,hk,df,rfl,rfl,rfl⟩ CL kI;by_cases hlt:k < l.length
  ·obtain⟨x,hx⟩:∃x,l[k]? =some x:=⟨_,VY hlt⟩;have ej:(k:Int) < (l.length:Int):=by omega
   have ed:=wi k (by omega);have bc:=dA x;have jp:(enc x).take 2=enc x:=Wj (by omega);have gI:=hc x (V0 hx);cases hp:p x with
   |false=>
    rw[hp]at gI;refine aF ?_<;>intros;refine kI _ _ _ _ _ ?_ ⟨k+1,hlt,?_,rfl,rfl,rfl⟩ (wf (x:=[]) (hh:=rfl) (he:=⟨rfl,rfl,rfl,rfl,rfl,trivial⟩))
    ·omega
    ·intro y hy;rw[aj hx]at hy;rcases WJ.1 hy with hy|hy
     ·exact df y hy
     ·rw[WP]at hy;rw[hy];exact hp
   |true=>
    rw[hp]at gI;have jm:cY p l=k:=eJ hx hp df;exact bx;all_goals rw[jm]
    all_goals exact au.refl _
  ·obtain rfl:k=l.length:=by omega
   rw[V4]at df;refine aF ?_<;>intros;all_goals rw[eK df]
   all_goals exact au.refl _
theorem Fj {α:Type}{enc:α→List D}(dA:∀x,(enc x).length=2)(p:α→Bool)(l:List α)(g:Nat)(caps:List D)(hl:l.length≤1000000000)(hc:∀x∈l,ae prog g (.agg (enc x)::caps) (.v (.bool (p x)))):
 ae prog 263 [.sl 2 (l.map enc),.clo g caps] (.v (.bool (l.any p))):=by
 have hi:=v9 dA p l g caps hl hc;have mM:=eY p l;refine pj func263 ntmps263 results263 ?_;exact bx;all_goals exact au.refl _
section
open Go.Proofs
def fA (n:Int):Int:=2 ^ (16 - n).toNat
theorem fQ {n:Int}(h0:0≤n):1≤fA n∧fA n≤65536:=by have:=BP n h0;unfold fA;omega
def MF (a l:Int):Int:=a+fA l - 1
def bQ (a l:Int):Bool:=chk a l==0
def HQ (a l x:Int):Bool:=bQ a l&&lR x a (MF a l)
theorem dr {a l:Int}(h:bQ a l=true):0≤l∧l≤16∧0≤a∧a≤65535∧a % fA l=0:=by
 have h0:chk a l=0:=by simpa[bQ]using h
 unfold chk at h0;split at h0
 ·omega
 ·rename_i h1;split at h0
  ·rename_i h2;exact⟨by omega,by omega,by omega,by omega,h2⟩
  ·omega
end
section
open Go.Proofs
theorem eL {w:World}{b off:Nat}{c:Value}{cs:List Value}(h:w.cell? ⟨b,off,none⟩=some c)(hs:jx w b (off+1) cs):jx w b off (c::cs):=by
 intro i hi;match i with
 |0=>simpa using h
 |i+1=>have:=hs i (by simpa using hi);simpa[XI,Nat.add_comm 1 i]using this
theorem ml {w:World}{b off:Nat}:jx w b off []:=fun i hi=>absurd hi (by simp)
theorem qk {w:World}{b:Nat}(a l:Int)(v:Bool)(hv:bQ a l=v)(h0:w.cell? ⟨b,0,none⟩=some (.int .i64 a))(h1:w.cell? ⟨b,1,none⟩=some (.int .i64 l)):
 Calls prog 252 #[.slice (some ⟨b,0,none⟩) 1 1] w fun e w'=>e= .returned (.bool v)∧cW w w':=by
 have h:Sl (fun _=>True) w 2 Pfx.R (some ⟨b,0,none⟩) 1 [(⟨a,l⟩:Pfx)]:=by
  refine⟨by simp,by omega,fun i hi=>?_⟩;match i with
  |0=>exact⟨b,0,_,rfl,trivial,rfl,rfl,eL h0 (eL h1 ml)⟩
 refine(vW h).mono fun e w' hh=>⟨hh.1.trans (si ?_),hh.2⟩;rw[←hv];simp[bQ,Pfx.chk]
theorem BW {w:World}{b:Nat}(a l c m:Int)(v:Bool)(hv:(bQ a l&&bQ c m)=v)(h0:w.cell? ⟨b,0,none⟩=some (.int .i64 a))(h1:w.cell? ⟨b,1,none⟩=some (.int .i64 l))
 (h2:w.cell? ⟨b,2,none⟩=some (.int .i64 c)) (h3:w.cell? ⟨b,3,none⟩=some (.int .i64 m)):
 Calls prog 252 #[.slice (some ⟨b,0,none⟩) 2 2] w fun e w'=>e= .returned (.bool v)∧cW w w':=by
 have h:Sl (fun _=>True) w 2 Pfx.R (some ⟨b,0,none⟩) 2 [(⟨a,l⟩:Pfx),⟨c,m⟩]:=by
  refine⟨by simp,by omega,fun i hi=>?_⟩;match i with
  |0=>exact⟨b,0,_,rfl,trivial,rfl,rfl,eL h0 (eL h1 ml)⟩
  |1=>exact⟨b,0,_,rfl,trivial,rfl,rfl,eL h2 (eL h3 ml)⟩
 refine(vW h).mono fun e w' hh=>⟨hh.1.trans (si ?_),hh.2⟩;rw[←hv];simp[bQ,Pfx.chk]
theorem Fk (x y:BitVec 64):(x&&& ~~~y).toNat=x.toNat - (x&&& y).toNat:=by
 have h1:(x&&& ~~~y)&&& (x&&& y)=0#64:=by
  ext i hi
  simp only[BitVec.getElem_and,BitVec.getElem_not,BitVec.getElem_zero];cases x[i]<;>cases y[i]<;>rfl
 have h2:(x&&& ~~~y)+(x&&& y)=x:=by
  rw[BitVec.add_eq_or_of_and_eq_zero _ _ h1];ext i hi
  simp only[BitVec.getElem_and,BitVec.getElem_not,BitVec.getElem_or];cases x[i]<;>cases y[i]<;>rfl
 have h4:=BitVec.toNat_add_of_and_eq_zero h1;rw[h2]at h4;omega
theorem tm (a l:Int)(h0:0≤a)(h1:a≤65535)(h2:0≤l):bits .andNot .i64 a (BO l)=a - a % fA l:=by
 obtain⟨n,rfl⟩:=X7 h0;have hm:=nW l h2;rw[xp]at hm ⊢;show IntKind.i64.wrap ((BitVec.ofInt 64 (n:Int)&&& ~~~ BitVec.ofInt 64 _).toNat:Int)=_;rw[Fk,BitVec.toNat_and,iE n (by omega),iE _ (by omega),Nat.and_two_pow_sub_one_eq_mod,IntKind.wrap_i64];have:=Nat.mod_le n (2 ^ (16 - l).toNat);unfold fA;have h9:((n:Int) % 2 ^ (16 - l).toNat)=((n % 2 ^ (16 - l).toNat:Nat):Int):=by simp
 omega
def re (a l:Int):Int:=if bQ a l=true then fA l else 0
theorem zI (a l:Int)(w:World):
 Calls prog 203 #[.agg #[.int .i64 a,.int .i64 l]] w fun e w'=>e= .returned (.int .i64 (re a l))∧cW w w':=by
 cases hA:bQ a l
 case false=>
  have hs:re a l=0:=by simp[re,hA]
  rw[hs];have hv:=VZ hA;go_enter func203,ntmps203
  go_wp2_with (first|(go_at_call 252;refine(qk a l _ hv.out ?_ ?_).mono ?_;go_simp;go_simp;rintro e w1 ⟨rfl,cJ⟩))
  go_ret
  refine⟨rfl,Bel.bel (B:=_) ?_⟩;(repeat(first|with_reducible assumption|with_reducible exact Bel.refl _|with_reducible refine Bel.alloc ?_ _|with_reducible refine Bel.drewN ?_ _|with_reducible refine Bel.drew ?_|(with_reducible refine aD ?_ ?_ _;rotate_left;(first|omega|(simp;done)|(simp;omega)))|(with_reducible refine Bel.setCell ?_ (p:=_) ?_ _;rotate_left;(first|(simp;done)|omega|(simp;omega)))|refine Bel.call ?_ (by assumption)|(refine EX.bel ?_ (by assumption) ?_;rotate_left;(first|omega|(simp;omega)))))
 case true=>
  have hs:re a l=BO l+1:=by simp[re,hA,BO,fA]
  rw[hs];have hv:=VZ hA;obtain⟨g1,g2,g3,g4,-⟩:=dr hA;obtain⟨z1,z2⟩:=nW l g1;go_enter func203,ntmps203
  go_wp2_with (first|(go_at_call 252;refine(qk a l _ hv.out ?_ ?_).mono ?_;go_simp;go_simp;rintro e w1 ⟨rfl,cJ⟩;obtain⟨cM,dk⟩:=bk cJ;simp only[Wb]at cM dk)|(go_at_call 235;refine(me _ _ g1 g2).mono ?_;rintro e w2 ⟨rfl,rfl⟩))
  go_ret
  refine⟨rfl,Bel.bel (B:=_) ?_⟩;(repeat(first|with_reducible assumption|with_reducible exact Bel.refl _|with_reducible refine Bel.alloc ?_ _|with_reducible refine Bel.drewN ?_ _|with_reducible refine Bel.drew ?_|(with_reducible refine aD ?_ ?_ _;rotate_left;(first|omega|(simp;done)|(simp;omega)))|(with_reducible refine Bel.setCell ?_ (p:=_) ?_ _;rotate_left;(first|(simp;done)|omega|(simp;omega)))|refine Bel.call ?_ (by assumption)|(refine EX.bel ?_ (by assumption) ?_;rotate_left;(first|omega|(simp;omega)))))
end
section
variable {P:Program}{ops:Array Oper}{Q:Exit→Act→World→Prop}
def GO (P:Program)(ops:Array Oper)(Q:Exit→Act→World→Prop):Nat→Array Bool→Act→World→Prop
 |0,listed,a,W=>Region.ready .any ops listed=[]∧∀w,cW W w→Q .normal a w
 |fuel+1,listed,a,W=>∀w,cW W w→(Region.ready .any ops listed=[]→Q .normal a w)∧
  ∀i∈Region.ready .any ops listed,wpOp P ops Q i (fun a' w'=>cW w w'∧GO P ops Q fuel (listed.setIfInBounds i true) a' w') a w
theorem GO.world:∀{fuel:Nat}{listed:Array Bool}{a:Act}{W W':World},cW W W'→GO P ops Q fuel listed a W→GO P ops Q fuel listed a W'
 |0,_,_,_,_,hx,h=>⟨h.1,fun w hw=>h.2 w (ai hx hw)⟩
 |_+1,_,_,_,_,hx,h=>fun w hw=>h w (ai hx hw)
theorem GO.any:∀{fuel:Nat}{listed:Array Bool}{a:Act}{W:World},GO P ops Q fuel listed a W→wpAny P .any ops Q fuel listed a W
 |0,_,_,_,h=>⟨h.1,h.2 _ (Below.refl _ _)⟩
 |_+1,_,_,W,h=>⟨(h W (Below.refl _ _)).1,fun i hi=>wpOp_mono (fun _ _ h'=>GO.any h'.2) ((h W (Below.refl _ _)).2 i hi)⟩
def QY (P:Program)(ops:Array Oper)(W:World)(o:Oper)(v:Value)(a:Act):Prop:=
 (Region.wanted o (yielded ops a.tmps)=true∧∀w,cW W w→o.quietAt P a (cW w) w v)∨
 (Region.wanted o (yielded ops a.tmps)=false∧v=undef)
theorem QY.world {W W':World}{o:Oper}{v:Value}{a:Act}(hx:cW W W')(h:QY P ops W o v a):QY P ops W' o v a:=
 h.imp (fun⟨h1,h2⟩=>⟨h1,fun w hw=>h2 w (ai hx hw)⟩) id
theorem QY.of_same {W:World}{o:Oper}{v:Value}{a a':Act}(hy:QY P ops W o v a)(he:execOp a'.eval o=execOp a.eval o)
 (hw:Region.wanted o (yielded ops a'.tmps)=Region.wanted o (yielded ops a.tmps)):QY P ops W o v a':=by
 unfold QY Oper.quietAt at*;rw[he,hw];exact hy
theorem QY.wpOp {W:World}{i:Nat}{o:Oper}{v:Value}{a:Act}(hi:ops[i]? =some o)(hy:QY P ops W o v a){K:Act→World→Prop}{w:World}(hw:cW W w)(h:∀w',cW w w'→K (a.put o.dst v) w'):wpOp P ops Q i K a w:=by
 unfold Go.wpOp;simp only[hi];rcases hy with⟨yi,hv⟩|⟨yi,rfl⟩
 ·simp only[yi,if_true];left;exact Oper.wp_of_quiet (C:=cW w) (K:=fun a'=>a'=a.put o.dst v) (Below.refl _ _) (fun a' w' hw' ha=>ha ▸ h w' hw') ⟨v,fun w'' hw''=>by
   have:=hv w'' (ai hw hw'');unfold Oper.quietAt at*;generalize (execOp a.eval o).run P w''=r at*;cases r with
   |ok n u=>cases n<;>simp only[Oper.quietUpon]at this ⊢<;>first|exact this|exact⟨this.1,this.2.mono fun _ _ ⟨e1,e2⟩=>⟨e1,ai hw'' e2⟩⟩
   |halt x u=>simp only[Oper.quietUpon]at this,rfl⟩
 ·simp only[yi,XF,if_false];exact h w (Below.refl _ _)
theorem Fl {W:World}{j:Nat}{oi oj:Oper}{v:Value}(hj:ops[j]? =some oj)(QD:oi.apart ops oj=true)
 (Bm:∀cs b,oi.op≠ .select cs b) (M7:∀cs b,oj.op≠ .select cs b)
 (hQ:∀c a w,Q (.panic c) (a.put oi.dst v) w→Q (.panic c) a w) {K:Act→World→Prop}{a:Act}{w:World}
 (hy:QY P ops W oi v a) (h:wpOp P ops Q j K (a.put oi.dst v) w):
 wpOp P ops Q j (fun a' w'=>QY P ops W oi v a'∧K (a'.put oi.dst v) w') a w:=by
 obtain⟨h1,h2,h3⟩:=Oper.apart_spec QD;have keep:∀(a:Act),QY P ops W oi v a→∀u,QY P ops W oi v (a.put oj.dst u):=fun a hy u=>
  hy.of_same (execOp_put oi Bm a oj.dst u h3) (wanted_put oi a oj.dst u h3)
 have keepD:∀d,QY P ops W oi v {a with defers:=d::a.defers}:=fun d=>hy.of_same rfl rfl;unfold wpOp at*;simp only[hj]at*;rw[wanted_put oj a oi.dst v h1]at h;split
 ·rename_i hw;simp only[hw,if_true]at h;rcases h with h|⟨rB,A8⟩
  case inr=>exact .inr ⟨by unfold Oper.asks at*;rw[execOp_put oj M7 a oi.dst v h1]at rB;exact rB,A8⟩
  refine .inl ?_;unfold Oper.wp at*;rw[execOp_put oj M7 a oi.dst v h1]at h;generalize (execOp a.eval oj).run P w=r at*;cases r with
  |ok n w'=>
   cases n<;>simp only[Oper.upon]at h ⊢
   case value u=>exact⟨keep a hy u,by rw[←Act.put_comm a v u h2];exact h⟩
   case skip=>exact⟨keep a hy _,by rw[←Act.put_comm a v undef h2];exact h⟩
   case defer d=>
    refine⟨keep _ (keepD d) _,?_⟩;rw[←Act.put_comm _ v undef h2,←Act.put_defers];exact h
   case enter f args=>
    refine Calls.mono h fun e w'' he=>?_;cases e with
    |returned u=>exact⟨keep a hy u,by rw[←Act.put_comm a v u h2];exact he⟩
    |panicked c=>exact hQ _ _ _ he
    |outgrown=>exact he
   case row row args=>exact Rows.mono h fun u w'' he=>⟨keep a hy u,by rw[←Act.put_comm a v u h2];exact he⟩
  |halt x w'=>
   cases x<;>simp only[Oper.upon]at h ⊢
   case panic u=>exact hQ _ _ _ h
 ·rename_i hw;simp only[hw]at h;exact⟨keep a hy _,by rw[←Act.put_comm a v undef h2];exact h⟩
theorem HR {i:Nat}{oi:Oper}{v:Value}(hi:ops[i]? =some oi)(A9:∀(j:Nat) (o:Oper) cs b,ops[j]? =some o→o.op≠ .select cs b)
 (hQ:∀c a w,Q (.panic c) (a.put oi.dst v) w→Q (.panic c) a w):
 ∀(fuel:Nat) (listed:Array Bool) (a:Act) (W:World),
  (∀j oj,ops[j]? =some oj→j≠i→listed.getD j true=false→(∀e∈oj.after,Region.binds .any e=true→e.on≠i)→oi.apart ops oj=true)→
  i∈Region.ready .any ops listed→QY P ops W oi v a→
  GO P ops Q fuel (listed.setIfInBounds i true) (a.put oi.dst v) W→GO P ops Q (fuel+1) listed a W:=by
 intro fuel;induction fuel with
 |zero=>
  intro listed a W _ hr hy H w hw;refine⟨fun h=>(by rw[h]at hr;cases hr),fun j hj=>?_⟩;by_cases jo:j=i
  ·subst jo;exact hy.wpOp hi hw fun w' hw'=>⟨hw',H.world (ai hw hw')⟩
  ·have:=ready_mono hj jo;rw[H.1]at this;cases this
 |succ fuel ih=>
  intro listed a W rC hr hy H w hw;refine⟨fun h=>(by rw[h]at hr;cases hr),fun j hj=>?_⟩;by_cases jo:j=i
  ·subst jo;exact hy.wpOp hi hw fun w' hw'=>⟨hw',H.world (ai hw hw')⟩
  ·have h1:=(H w hw).2 j (ready_mono hj jo);obtain⟨Ba,oj,Jv,b7⟩:=mem_ready.1 hj;have Jw:∀e∈oj.after,Region.binds .any e=true→e.on≠i:=fun e he hb heq=>by
    have h1:=b7 e he hb;have h0:=(mem_ready.1 hr).1;rw[heq]at h1;rcases Wv i listed.size with h'|h'
    ·simp[h']at h0 h1;rw[h0]at h1;cases h1
    ·simp[WT h']at h1
   have h2:=Fl Jv (rC j oj Jv jo Ba Jw) (fun cs b=>A9 i oi cs b hi) (fun cs b=>A9 j oj cs b Jv) hQ (hy.world hw) h1;have uv:∀k ok,ops[k]? =some ok→k≠i→(listed.setIfInBounds j true).getD k true=false→
    (∀e∈ok.after,Region.binds .any e=true→e.on≠i)→oi.apart ops ok=true:=fun k ok hk Jy M8 df=>by
    refine rC k ok hk Jy ?_ df;by_cases CZ:j=k
    ·subst CZ;exact Ba
    ·rw[getD_set_ne true CZ]at M8;exact M8
   refine wpOp_mono (fun a' w' h3=>⟨h3.2.1,ih (listed.setIfInBounds j true) a' w' uv (ready_mono hr (Ne.symm jo)) (h3.1.world h3.2.1) ?_⟩) h2;rw[Array.setIfInBounds_comm _ _ jo];exact h3.2.2
def gQ (P:Program)(ops:Array Oper)(Q:Exit→Act→World→Prop):List Oper→Nat→Array Bool→Act→World→Prop
 |[],_,_,a,W=>∀w,cW W w→Q .normal a w
 |o::rest,k,listed,a,W=>
  (∃v,QY P ops W o v a∧gQ P ops Q rest (k+1) (listed.setIfInBounds k true) (a.put o.dst v) W)∨
  (Region.ready .any ops listed=[k]∧Region.wanted o (yielded ops a.tmps)=true∧∀w,cW W w→o.wp P a w (fun a' w'=>cW w w'∧gQ P ops Q rest (k+1) (listed.setIfInBounds k true) a' w') Q)
theorem qm (hs:Region.noSelect ops=true)(hQ:∀c a d v w,Q (.panic c) (a.put d v) w→Q (.panic c) a w):∀(l:List Oper) (k:Nat) (listed:Array Bool) (a:Act) (W:World),(∀j,l[j]? =ops[k+j]?)→
 Region.lexFrom .any ops l.length k listed=true→gQ P ops Q l k listed a W→GO P ops Q l.length listed a W
 |[],_,_,_,_,_,hB,h=>⟨by simpa[Region.lexFrom]using hB,h⟩
 |o::l,k,listed,a,W,hl,hB,h=>by
  have h0:ops[k]? =some o:=by simpa using (hl 0).symm
  simp only[Wc,Region.lexFrom,Wd]at hB;obtain⟨⟨hr,hf⟩,hB'⟩:=hB;have hl':∀j,l[j]? =ops[k+1+j]? :=fun j=>by have:=hl (j+1);simpa[XI,Nat.add_comm 1 j]using this
  rcases h with⟨v,hy,hK⟩|⟨da,yi,hK⟩
  ·exact HR h0 (Region.noSelect_spec hs) (fun c a w=>hQ c a _ _ w) l.length listed a W (Region.free_spec h0 hf) (by simpa using hr) hy (qm hs hQ l (k+1) _ _ _ hl' hB' hK)
  ·intro w hw;refine⟨fun h=>by rw[da]at h;simp at h,fun i hi=>?_⟩;rw[da]at hi;obtain rfl:i=k:=by simpa using hi
   unfold wpOp;simp only[h0,yi,if_true];left;exact Oper.wp_mono (fun a' w' h'=>⟨h'.1,qm hs hQ l (i+1) _ _ _ hl' hB' h'.2⟩) (hK w hw)
theorem dt {id:Nat}{a:Act}{w:World}{l:List Oper}(hm:P.follows .mixedOrders=true)(hB:Region.lexB .any l.toArray=true)(hQ:∀c a d v w,Q (.panic c) (a.put d v) w→Q (.panic c) a w)
 (h:gQ P l.toArray Q l 0 (XB l.length false) a w):(Code.region id l.toArray true).wp P Q a w:=by
 simp only[Region.lexB,Wd]at hB;refine wp_region_any hm ?_;have h2:=qm hB.1 hQ l 0 (XB l.length false) a w (by simp) (by simpa using hB.2) h;have h3:=(h2.world ((Below.refl _ _).drew:cW w w.drew)).any;simpa using h3
section
variable {o:Oper}{rest:List Oper}{k:Nat}{listed:Array Bool}{a:Act}{W:World}
theorem fR (h:∀w,cW W w→Q .normal a w):gQ P ops Q [] k listed a W:=h
theorem tn (hw:Region.wanted o (yielded ops a.tmps)=false)(hn:gQ P ops Q rest (k+1) (listed.setIfInBounds k true) (a.put o.dst undef) W):gQ P ops Q (o::rest) k listed a W:=
 .inl ⟨undef,.inr ⟨hw,rfl⟩,hn⟩
theorem bH {j d:Nat}{v:Value}(hg:o.guard=some (j,true))(hd:(ops[j]?).bind (·.dst)=some d)(hv:a.tmps.toList[d]? =some v)(hb:v= .bool false)(hn:gQ P ops Q rest (k+1) (listed.setIfInBounds k true) (a.put o.dst undef) W):gQ P ops Q (o::rest) k listed a W:=
 tn (by simp[Region.wanted,hg,gJ hd hv hb]) hn
theorem bI {j d:Nat}{v:Value}(hg:o.guard=some (j,false))(hd:(ops[j]?).bind (·.dst)=some d)(hv:a.tmps.toList[d]? =some v)(hb:v= .bool true)(hn:gQ P ops Q rest (k+1) (listed.setIfInBounds k true) (a.put o.dst undef) W):gQ P ops Q (o::rest) k listed a W:=
 tn (by simp[Region.wanted,hg,gJ hd hv hb]) hn
theorem bJ {j d:Nat}{v:Value}{b:Bool}(hg:o.guard=some (j,b))(hd:(ops[j]?).bind (·.dst)=some d)(hv:a.tmps.toList[d]? =some v)(hb:v=undef)(hn:gQ P ops Q rest (k+1) (listed.setIfInBounds k true) (a.put o.dst undef) W):gQ P ops Q (o::rest) k listed a W:=
 tn (by simp[Region.wanted,hg,oG hd hv hb]) hn
theorem cG {v:Value}(hw:Region.wanted o (yielded ops a.tmps)=true)(h:∀w,cW W w→∀R:Value→Prop,R v→Pz P w w R ((execOp a.eval o).run P w))
 (hn:gQ P ops Q rest (k+1) (listed.setIfInBounds k true) (a.put o.dst v) W):gQ P ops Q (o::rest) k listed a W:=
 .inl ⟨v,.inl ⟨hw,fun w hw=>vt (h w hw)⟩,hn⟩
theorem gx (hr:Region.ready .any ops listed=[k])(hw:Region.wanted o (yielded ops a.tmps)=true)
 (h:∀w,cW W w→∀K:Act→World→Prop,(∀a' w',cW w w'→gQ P ops Q rest (k+1) (listed.setIfInBounds k true) a' w'→K a' w')→o.wp P a w K Q):gQ P ops Q (o::rest) k listed a W:=
 .inr ⟨hr,hw,fun w hw=>h w hw _ fun _ _ h1 h2=>⟨h1,h2⟩⟩
end
theorem rf {f:FuncId}{args:Array Value}{w:World}{R:Value→Prop}{v:Value}(h:Calls P f args w fun e w'=>e= .returned v∧cW w w')(hR:R v):Calls P f args w (Gz w R):=
 h.mono fun _ _ ⟨he,hx⟩=>⟨⟨v,he,hR⟩,hx⟩
theorem nY {f:FuncId}{args:Array Value}{w:World}{R:Value→Prop}{v:Value}(h:Calls P f args w fun e w'=>e= .returned v∧w=w')(hR:R v):Calls P f args w (Gz w R):=
 h.mono fun _ _ ⟨he,hx⟩=>⟨⟨v,he,hR⟩,hx ▸ Below.refl _ _⟩
end
section
open Go.Proofs
def mn (a l b m:Int):Bool:=bQ a l&&bQ b m&&decide (m≤l)&&(a - a % fA m==b)
theorem iU (a l b m:Int)(w:World):
 Calls prog 189 #[.agg #[.int .i64 a,.int .i64 l],.agg #[.int .i64 b,.int .i64 m]] w fun e w'=>e= .returned (.bool (mn a l b m))∧cW w w':=by
 cases hA:(bQ a l&&bQ b m)
 case false=>
  have hs:mn a l b m=false:=by simp[mn,hA]
  rw[hs];have hv:=VZ hA;clear hA hs;go_enter func189,ntmps189
  go_wp2_with fail
  refine dt (by kernel_rfl) (by kernel_rfl) (fun _ _ d _ _ h=>by cases d<;>exact h) ?_;repeat(first|((first|refine bH rfl rfl rfl (by with_reducible rfl) ?_|refine bI rfl rfl rfl (by with_reducible rfl) ?_|refine bJ rfl rfl rfl (by with_reducible rfl) ?_);simp only[Act.put,V8,Wi,Wl])|(apply cG;(first|exact b6 rfl|exact cu rfl rfl rfl (by with_reducible rfl));intro wq ek R hR;((have gF:=(bk ek).1;(try simp only[Wb,ab,Wf,We]at gF));go_simp;first|exact hR|(fail));simp only[Act.put,V8,Wi,Wl]))
  refine gx (by kernel_rfl) (by first|exact b6 rfl|exact cu rfl rfl rfl (by with_reducible rfl)) (fun w1 cJ K hK=>?_);obtain⟨cM,dk⟩:=bk cJ;have dB:=b8 cJ;(try simp only[Wb,ab,Wf,We]at cM dk dB)
  (try have l0w1:w.heap.size≤w1.heap.size:=by omega)
  (try have l1w1:w.heap.size < w1.heap.size:=by omega)
  (try have l2w1:w.heap.size+1 < w1.heap.size:=by omega)
  go_simp
  refine hK _ _ (Bel.bel (B:=_) ?_) ?_
  ·(repeat(first|with_reducible assumption|with_reducible exact Bel.refl _|with_reducible refine Bel.alloc ?_ _|with_reducible refine Bel.drewN ?_ _|with_reducible refine Bel.drew ?_|(with_reducible refine aD ?_ ?_ _;rotate_left;(first|omega|(simp;done)|(simp;omega)))|(with_reducible refine Bel.setCell ?_ (p:=_) ?_ _;rotate_left;(first|(simp;done)|omega|(simp;omega)))|refine Bel.call ?_ (by assumption)|(refine EX.bel ?_ (by assumption) ?_;rotate_left;(first|omega|(simp;omega)))))
  clear hK K;repeat(first|((first|refine bH rfl rfl rfl (by with_reducible rfl) ?_|refine bI rfl rfl rfl (by with_reducible rfl) ?_|refine bJ rfl rfl rfl (by with_reducible rfl) ?_);simp only[Act.put,V8,Wi,Wl])|(apply cG;(first|exact b6 rfl|exact cu rfl rfl rfl (by with_reducible rfl));intro wq ek R hR;((have gF:=(bk ek).1;(try simp only[Wb,ab,Wf,We]at gF));go_simp;first|exact hR|((go_at_call 252;refine rf (BW a l b m _ hv.out ?_ ?_ ?_ ?_) hR;go_simp;go_simp;go_simp;go_simp)));simp only[Act.put,V8,Wi,Wl]))
  refine fR ?_;intro w2 cN;obtain⟨eQ,ep⟩:=bk cN;have eH:=b8 cN;(try simp only[Wb,ab,Wf,We]at eQ ep eH)
  go_wp2_with fail
  go_ret
  refine⟨rfl,Bel.bel (B:=_) ?_⟩;(repeat(first|with_reducible assumption|with_reducible exact Bel.refl _|with_reducible refine Bel.alloc ?_ _|with_reducible refine Bel.drewN ?_ _|with_reducible refine Bel.drew ?_|(with_reducible refine aD ?_ ?_ _;rotate_left;(first|omega|(simp;done)|(simp;omega)))|(with_reducible refine Bel.setCell ?_ (p:=_) ?_ _;rotate_left;(first|(simp;done)|omega|(simp;omega)))|refine Bel.call ?_ (by assumption)|(refine EX.bel ?_ (by assumption) ?_;rotate_left;(first|omega|(simp;omega)))))
 case true=>
  have hA':=hA;simp only[Wd]at hA';obtain⟨g1,g2,g3,g4,-⟩:=dr hA'.1;obtain⟨k1,k2,k3,k4,-⟩:=dr hA'.2;obtain⟨z1,z2⟩:=nW m k1;have hv:=VZ hA;by_cases hm:m≤l
  ·have hs:mn a l b m=(a - a % fA m==b):=by simp[mn,hA,hm]
   rw[hs];have UO:=tm a m g3 g4 k1;have TN:decide (m≤l)=true:=by simp[hm]
   clear hA hA' hs hm;cases hE:(a - a % fA m==b);all_goals
    go_enter func189,ntmps189
    go_wp2_with fail
    refine dt (by kernel_rfl) (by kernel_rfl) (fun _ _ d _ _ h=>by cases d<;>exact h) ?_;repeat(first|((first|refine bH rfl rfl rfl (by with_reducible rfl) ?_|refine bI rfl rfl rfl (by with_reducible rfl) ?_|refine bJ rfl rfl rfl (by with_reducible rfl) ?_);simp only[Act.put,V8,Wi,Wl])|(apply cG;(first|exact b6 rfl|exact cu rfl rfl rfl (by with_reducible rfl));intro wq ek R hR;((have gF:=(bk ek).1;(try simp only[Wb,ab,Wf,We]at gF));go_simp;first|exact hR|(fail));simp only[Act.put,V8,Wi,Wl]))
    refine gx (by kernel_rfl) (by first|exact b6 rfl|exact cu rfl rfl rfl (by with_reducible rfl)) (fun w1 cJ K hK=>?_);obtain⟨cM,dk⟩:=bk cJ;have dB:=b8 cJ;(try simp only[Wb,ab,Wf,We]at cM dk dB)
    (try have l0w1:w.heap.size≤w1.heap.size:=by omega)
    (try have l1w1:w.heap.size < w1.heap.size:=by omega)
    (try have l2w1:w.heap.size+1 < w1.heap.size:=by omega)
    go_simp
    refine hK _ _ (Bel.bel (B:=_) ?_) ?_
    ·(repeat(first|with_reducible assumption|with_reducible exact Bel.refl _|with_reducible refine Bel.alloc ?_ _|with_reducible refine Bel.drewN ?_ _|with_reducible refine Bel.drew ?_|(with_reducible refine aD ?_ ?_ _;rotate_left;(first|omega|(simp;done)|(simp;omega)))|(with_reducible refine Bel.setCell ?_ (p:=_) ?_ _;rotate_left;(first|(simp;done)|omega|(simp;omega)))|refine Bel.call ?_ (by assumption)|(refine EX.bel ?_ (by assumption) ?_;rotate_left;(first|omega|(simp;omega)))))
    clear hK K;repeat(first|((first|refine bH rfl rfl rfl (by with_reducible rfl) ?_|refine bI rfl rfl rfl (by with_reducible rfl) ?_|refine bJ rfl rfl rfl (by with_reducible rfl) ?_);simp only[Act.put,V8,Wi,Wl])|(apply cG;(first|exact b6 rfl|exact cu rfl rfl rfl (by with_reducible rfl));intro wq ek R hR;((have gF:=(bk ek).1;(try simp only[Wb,ab,Wf,We]at gF));go_simp;first|exact hR|(first|(go_at_call 252;refine rf (BW a l b m _ hv.out ?_ ?_ ?_ ?_) hR;go_simp;go_simp;go_simp;go_simp)|(go_at_call 235;exact nY (me _ _ k1 k2) hR)));simp only[Act.put,V8,Wi,Wl]))
    refine fR ?_;intro w2 cN;obtain⟨eQ,ep⟩:=bk cN;have eH:=b8 cN;(try simp only[Wb,ab,Wf,We]at eQ ep eH)
    go_wp2_with fail
    go_ret
    refine⟨rfl,Bel.bel (B:=_) ?_⟩;(repeat(first|with_reducible assumption|with_reducible exact Bel.refl _|with_reducible refine Bel.alloc ?_ _|with_reducible refine Bel.drewN ?_ _|with_reducible refine Bel.drew ?_|(with_reducible refine aD ?_ ?_ _;rotate_left;(first|omega|(simp;done)|(simp;omega)))|(with_reducible refine Bel.setCell ?_ (p:=_) ?_ _;rotate_left;(first|(simp;done)|omega|(simp;omega)))|refine Bel.call ?_ (by assumption)|(refine EX.bel ?_ (by assumption) ?_;rotate_left;(first|omega|(simp;omega)))))
  ·have hs:mn a l b m=false:=by simp[mn,hA,hm]
   rw[hs];have TN:decide (m≤l)=false:=by simp[hm]
   clear hA hA' hs hm;go_enter func189,ntmps189
   go_wp2_with fail
   refine dt (by kernel_rfl) (by kernel_rfl) (fun _ _ d _ _ h=>by cases d<;>exact h) ?_;repeat(first|((first|refine bH rfl rfl rfl (by with_reducible rfl) ?_|refine bI rfl rfl rfl (by with_reducible rfl) ?_|refine bJ rfl rfl rfl (by with_reducible rfl) ?_);simp only[Act.put,V8,Wi,Wl])|(apply cG;(first|exact b6 rfl|exact cu rfl rfl rfl (by with_reducible rfl));intro wq ek R hR;((have gF:=(bk ek).1;(try simp only[Wb,ab,Wf,We]at gF));go_simp;first|exact hR|(fail));simp only[Act.put,V8,Wi,Wl]))
   refine gx (by kernel_rfl) (by first|exact b6 rfl|exact cu rfl rfl rfl (by with_reducible rfl)) (fun w1 cJ K hK=>?_);obtain⟨cM,dk⟩:=bk cJ;have dB:=b8 cJ;(try simp only[Wb,ab,Wf,We]at cM dk dB)
   (try have l0w1:w.heap.size≤w1.heap.size:=by omega)
   (try have l1w1:w.heap.size < w1.heap.size:=by omega)
   (try have l2w1:w.heap.size+1 < w1.heap.size:=by omega)
   go_simp
   refine hK _ _ (Bel.bel (B:=_) ?_) ?_
   ·(repeat(first|with_reducible assumption|with_reducible exact Bel.refl _|with_reducible refine Bel.alloc ?_ _|with_reducible refine Bel.drewN ?_ _|with_reducible refine Bel.drew ?_|(with_reducible refine aD ?_ ?_ _;rotate_left;(first|omega|(simp;done)|(simp;omega)))|(with_reducible refine Bel.setCell ?_ (p:=_) ?_ _;rotate_left;(first|(simp;done)|omega|(simp;omega)))|refine Bel.call ?_ (by assumption)|(refine EX.bel ?_ (by assumption) ?_;rotate_left;(first|omega|(simp;omega)))))
   clear hK K;repeat(first|((first|refine bH rfl rfl rfl (by with_reducible rfl) ?_|refine bI rfl rfl rfl (by with_reducible rfl) ?_|refine bJ rfl rfl rfl (by with_reducible rfl) ?_);simp only[Act.put,V8,Wi,Wl])|(apply cG;(first|exact b6 rfl|exact cu rfl rfl rfl (by with_reducible rfl));intro wq ek R hR;((have gF:=(bk ek).1;(try simp only[Wb,ab,Wf,We]at gF));go_simp;first|exact hR|((go_at_call 252;refine rf (BW a l b m _ hv.out ?_ ?_ ?_ ?_) hR;go_simp;go_simp;go_simp;go_simp)));simp only[Act.put,V8,Wi,Wl]))
   refine fR ?_;intro w2 cN;obtain⟨eQ,ep⟩:=bk cN;have eH:=b8 cN;(try simp only[Wb,ab,Wf,We]at eQ ep eH)
   go_wp2_with fail
   go_ret
   refine⟨rfl,Bel.bel (B:=_) ?_⟩;(repeat(first|with_reducible assumption|with_reducible exact Bel.refl _|with_reducible refine Bel.alloc ?_ _|with_reducible refine Bel.drewN ?_ _|with_reducible refine Bel.drew ?_|(with_reducible refine aD ?_ ?_ _;rotate_left;(first|omega|(simp;done)|(simp;omega)))|(with_reducible refine Bel.setCell ?_ (p:=_) ?_ _;rotate_left;(first|(simp;done)|omega|(simp;omega)))|refine Bel.call ?_ (by assumption)|(refine EX.bel ?_ (by assumption) ?_;rotate_left;(first|omega|(simp;omega)))))
end
section
open Go.Proofs
def jB (a l x:Int):Bool:=bQ a l&&(decide (0≤x)&&(decide (x≤65535)&&(x - x % fA l==a)))
theorem Fm (a l x:Int)(w:World):
 Calls prog 310 #[.agg #[.int .i64 a,.int .i64 l],.int .i64 x] w fun e w'=>e= .returned (.bool (jB a l x))∧cW w w':=by
 cases hA:bQ a l
 case false=>
  have hs:jB a l x=false:=by simp[jB,hA]
  rw[hs];have hv:=VZ hA;clear hA hs;go_enter func310,ntmps310
  go_wp2_with fail
  refine dt (by kernel_rfl) (by kernel_rfl) (fun _ _ d _ _ h=>by cases d<;>exact h) ?_;repeat(first|((first|refine bH rfl rfl rfl (by with_reducible rfl) ?_|refine bI rfl rfl rfl (by with_reducible rfl) ?_|refine bJ rfl rfl rfl (by with_reducible rfl) ?_);simp only[Act.put,V8,Wi,Wl])|(apply cG;(first|exact b6 rfl|exact cu rfl rfl rfl (by with_reducible rfl));intro wq ek R hR;((have gF:=(bk ek).1;(try simp only[Wb,ab,Wf,We]at gF));go_simp;first|exact hR|(fail));simp only[Act.put,V8,Wi,Wl]))
  refine gx (by kernel_rfl) (by first|exact b6 rfl|exact cu rfl rfl rfl (by with_reducible rfl)) (fun w1 cJ K hK=>?_);obtain⟨cM,dk⟩:=bk cJ;have dB:=b8 cJ;(try simp only[Wb,ab,Wf,We]at cM dk dB)
  (try have l0w1:w.heap.size≤w1.heap.size:=by omega)
  (try have l1w1:w.heap.size < w1.heap.size:=by omega)
  (try have l2w1:w.heap.size+1 < w1.heap.size:=by omega)
  go_simp
  refine hK _ _ (Bel.bel (B:=_) ?_) ?_
  ·(repeat(first|with_reducible assumption|with_reducible exact Bel.refl _|with_reducible refine Bel.alloc ?_ _|with_reducible refine Bel.drewN ?_ _|with_reducible refine Bel.drew ?_|(with_reducible refine aD ?_ ?_ _;rotate_left;(first|omega|(simp;done)|(simp;omega)))|(with_reducible refine Bel.setCell ?_ (p:=_) ?_ _;rotate_left;(first|(simp;done)|omega|(simp;omega)))|refine Bel.call ?_ (by assumption)|(refine EX.bel ?_ (by assumption) ?_;rotate_left;(first|omega|(simp;omega)))))
  clear hK K;repeat(first|((first|refine bH rfl rfl rfl (by with_reducible rfl) ?_|refine bI rfl rfl rfl (by with_reducible rfl) ?_|refine bJ rfl rfl rfl (by with_reducible rfl) ?_);simp only[Act.put,V8,Wi,Wl])|(apply cG;(first|exact b6 rfl|exact cu rfl rfl rfl (by with_reducible rfl));intro wq ek R hR;((have gF:=(bk ek).1;(try simp only[Wb,ab,Wf,We]at gF));go_simp;first|exact hR|((go_at_call 252;refine rf (qk a l _ hv.out ?_ ?_) hR;go_simp;go_simp)));simp only[Act.put,V8,Wi,Wl]))
  refine fR ?_;intro w2 cN;obtain⟨eQ,ep⟩:=bk cN;have eH:=b8 cN;(try simp only[Wb,ab,Wf,We]at eQ ep eH)
  go_wp2_with fail
  go_ret
  refine⟨rfl,Bel.bel (B:=_) ?_⟩;(repeat(first|with_reducible assumption|with_reducible exact Bel.refl _|with_reducible refine Bel.alloc ?_ _|with_reducible refine Bel.drewN ?_ _|with_reducible refine Bel.drew ?_|(with_reducible refine aD ?_ ?_ _;rotate_left;(first|omega|(simp;done)|(simp;omega)))|(with_reducible refine Bel.setCell ?_ (p:=_) ?_ _;rotate_left;(first|(simp;done)|omega|(simp;omega)))|refine Bel.call ?_ (by assumption)|(refine EX.bel ?_ (by assumption) ?_;rotate_left;(first|omega|(simp;omega)))))
 case true=>
  obtain⟨g1,g2,g3,g4,-⟩:=dr hA;obtain⟨z1,z2⟩:=nW l g1;have hv:=VZ hA;by_cases h0:0≤x
  ·by_cases h1:x≤65535
   ·have hs:jB a l x=(x - x % fA l==a):=by simp[jB,hA,h0,h1]
    rw[hs];have UO:=tm x l h0 h1 g1;have TO:decide (0≤x)=true:=by simp[h0]
    have UP:decide (x≤65535)=true:=by simp[h1]
    clear hA hs;cases hE:(x - x % fA l==a);all_goals
     go_enter func310,ntmps310
     go_wp2_with fail
     refine dt (by kernel_rfl) (by kernel_rfl) (fun _ _ d _ _ h=>by cases d<;>exact h) ?_;repeat(first|((first|refine bH rfl rfl rfl (by with_reducible rfl) ?_|refine bI rfl rfl rfl (by with_reducible rfl) ?_|refine bJ rfl rfl rfl (by with_reducible rfl) ?_);simp only[Act.put,V8,Wi,Wl])|(apply cG;(first|exact b6 rfl|exact cu rfl rfl rfl (by with_reducible rfl));intro wq ek R hR;((have gF:=(bk ek).1;(try simp only[Wb,ab,Wf,We]at gF));go_simp;first|exact hR|(fail));simp only[Act.put,V8,Wi,Wl]))
     refine gx (by kernel_rfl) (by first|exact b6 rfl|exact cu rfl rfl rfl (by with_reducible rfl)) (fun w1 cJ K hK=>?_);obtain⟨cM,dk⟩:=bk cJ;have dB:=b8 cJ;(try simp only[Wb,ab,Wf,We]at cM dk dB)
     (try have l0w1:w.heap.size≤w1.heap.size:=by omega)
     (try have l1w1:w.heap.size < w1.heap.size:=by omega)
     (try have l2w1:w.heap.size+1 < w1.heap.size:=by omega)
     go_simp
     refine hK _ _ (Bel.bel (B:=_) ?_) ?_
     ·(repeat(first|with_reducible assumption|with_reducible exact Bel.refl _|with_reducible refine Bel.alloc ?_ _|with_reducible refine Bel.drewN ?_ _|with_reducible refine Bel.drew ?_|(with_reducible refine aD ?_ ?_ _;rotate_left;(first|omega|(simp;done)|(simp;omega)))|(with_reducible refine Bel.setCell ?_ (p:=_) ?_ _;rotate_left;(first|(simp;done)|omega|(simp;omega)))|refine Bel.call ?_ (by assumption)|(refine EX.bel ?_ (by assumption) ?_;rotate_left;(first|omega|(simp;omega)))))
     clear hK K;repeat(first|((first|refine bH rfl rfl rfl (by with_reducible rfl) ?_|refine bI rfl rfl rfl (by with_reducible rfl) ?_|refine bJ rfl rfl rfl (by with_reducible rfl) ?_);simp only[Act.put,V8,Wi,Wl])|(apply cG;(first|exact b6 rfl|exact cu rfl rfl rfl (by with_reducible rfl));intro wq ek R hR;((have gF:=(bk ek).1;(try simp only[Wb,ab,Wf,We]at gF));go_simp;first|exact hR|(first|(go_at_call 252;refine rf (qk a l _ hv.out ?_ ?_) hR;go_simp;go_simp)|(go_at_call 235;exact nY (me _ _ g1 g2) hR)));simp only[Act.put,V8,Wi,Wl]))
     refine fR ?_;intro w2 cN;obtain⟨eQ,ep⟩:=bk cN;have eH:=b8 cN;(try simp only[Wb,ab,Wf,We]at eQ ep eH)
     go_wp2_with fail
     go_ret
     refine⟨rfl,Bel.bel (B:=_) ?_⟩;(repeat(first|with_reducible assumption|with_reducible exact Bel.refl _|with_reducible refine Bel.alloc ?_ _|with_reducible refine Bel.drewN ?_ _|with_reducible refine Bel.drew ?_|(with_reducible refine aD ?_ ?_ _;rotate_left;(first|omega|(simp;done)|(simp;omega)))|(with_reducible refine Bel.setCell ?_ (p:=_) ?_ _;rotate_left;(first|(simp;done)|omega|(simp;omega)))|refine Bel.call ?_ (by assumption)|(refine EX.bel ?_ (by assumption) ?_;rotate_left;(first|omega|(simp;omega)))))
   ·have hs:jB a l x=false:=by simp[jB,h1]
    rw[hs];have TO:decide (0≤x)=true:=by simp[h0]
    have UP:decide (x≤65535)=false:=by simp[h1]
    clear hA hs h1;go_enter func310,ntmps310
    go_wp2_with fail
    refine dt (by kernel_rfl) (by kernel_rfl) (fun _ _ d _ _ h=>by cases d<;>exact h) ?_;repeat(first|((first|refine bH rfl rfl rfl (by with_reducible rfl) ?_|refine bI rfl rfl rfl (by with_reducible rfl) ?_|refine bJ rfl rfl rfl (by with_reducible rfl) ?_);simp only[Act.put,V8,Wi,Wl])|(apply cG;(first|exact b6 rfl|exact cu rfl rfl rfl (by with_reducible rfl));intro wq ek R hR;((have gF:=(bk ek).1;(try simp only[Wb,ab,Wf,We]at gF));go_simp;first|exact hR|(fail));simp only[Act.put,V8,Wi,Wl]))
    refine gx (by kernel_rfl) (by first|exact b6 rfl|exact cu rfl rfl rfl (by with_reducible rfl)) (fun w1 cJ K hK=>?_);obtain⟨cM,dk⟩:=bk cJ;have dB:=b8 cJ;(try simp only[Wb,ab,Wf,We]at cM dk dB)
    (try have l0w1:w.heap.size≤w1.heap.size:=by omega)
    (try have l1w1:w.heap.size < w1.heap.size:=by omega)
    (try have l2w1:w.heap.size+1 < w1.heap.size:=by omega)
    go_simp
    refine hK _ _ (Bel.bel (B:=_) ?_) ?_
    ·(repeat(first|with_reducible assumption|with_reducible exact Bel.refl _|with_reducible refine Bel.alloc ?_ _|with_reducible refine Bel.drewN ?_ _|with_reducible refine Bel.drew ?_|(with_reducible refine aD ?_ ?_ _;rotate_left;(first|omega|(simp;done)|(simp;omega)))|(with_reducible refine Bel.setCell ?_ (p:=_) ?_ _;rotate_left;(first|(simp;done)|omega|(simp;omega)))|refine Bel.call ?_ (by assumption)|(refine EX.bel ?_ (by assumption) ?_;rotate_left;(first|omega|(simp;omega)))))
    clear hK K;repeat(first|((first|refine bH rfl rfl rfl (by with_reducible rfl) ?_|refine bI rfl rfl rfl (by with_reducible rfl) ?_|refine bJ rfl rfl rfl (by with_reducible rfl) ?_);simp only[Act.put,V8,Wi,Wl])|(apply cG;(first|exact b6 rfl|exact cu rfl rfl rfl (by with_reducible rfl));intro wq ek R hR;((have gF:=(bk ek).1;(try simp only[Wb,ab,Wf,We]at gF));go_simp;first|exact hR|((go_at_call 252;refine rf (qk a l _ hv.out ?_ ?_) hR;go_simp;go_simp)));simp only[Act.put,V8,Wi,Wl]))
    refine fR ?_;intro w2 cN;obtain⟨eQ,ep⟩:=bk cN;have eH:=b8 cN;(try simp only[Wb,ab,Wf,We]at eQ ep eH)
    go_wp2_with fail
    go_ret
    refine⟨rfl,Bel.bel (B:=_) ?_⟩;(repeat(first|with_reducible assumption|with_reducible exact Bel.refl _|with_reducible refine Bel.alloc ?_ _|with_reducible refine Bel.drewN ?_ _|with_reducible refine Bel.drew ?_|(with_reducible refine aD ?_ ?_ _;rotate_left;(first|omega|(simp;done)|(simp;omega)))|(with_reducible refine Bel.setCell ?_ (p:=_) ?_ _;rotate_left;(first|(simp;done)|omega|(simp;omega)))|refine Bel.call ?_ (by assumption)|(refine EX.bel ?_ (by assumption) ?_;rotate_left;(first|omega|(simp;omega)))))
  ·have hs:jB a l x=false:=by simp[jB,h0]
   rw[hs];have TO:decide (0≤x)=false:=by simp[h0]
   clear hA hs h0;go_enter func310,ntmps310
   go_wp2_with fail
   refine dt (by kernel_rfl) (by kernel_rfl) (fun _ _ d _ _ h=>by cases d<;>exact h) ?_;repeat(first|((first|refine bH rfl rfl rfl (by with_reducible rfl) ?_|refine bI rfl rfl rfl (by with_reducible rfl) ?_|refine bJ rfl rfl rfl (by with_reducible rfl) ?_);simp only[Act.put,V8,Wi,Wl])|(apply cG;(first|exact b6 rfl|exact cu rfl rfl rfl (by with_reducible rfl));intro wq ek R hR;((have gF:=(bk ek).1;(try simp only[Wb,ab,Wf,We]at gF));go_simp;first|exact hR|(fail));simp only[Act.put,V8,Wi,Wl]))
   refine gx (by kernel_rfl) (by first|exact b6 rfl|exact cu rfl rfl rfl (by with_reducible rfl)) (fun w1 cJ K hK=>?_);obtain⟨cM,dk⟩:=bk cJ;have dB:=b8 cJ;(try simp only[Wb,ab,Wf,We]at cM dk dB)
   (try have l0w1:w.heap.size≤w1.heap.size:=by omega)
   (try have l1w1:w.heap.size < w1.heap.size:=by omega)
   (try have l2w1:w.heap.size+1 < w1.heap.size:=by omega)
   go_simp
   refine hK _ _ (Bel.bel (B:=_) ?_) ?_
   ·(repeat(first|with_reducible assumption|with_reducible exact Bel.refl _|with_reducible refine Bel.alloc ?_ _|with_reducible refine Bel.drewN ?_ _|with_reducible refine Bel.drew ?_|(with_reducible refine aD ?_ ?_ _;rotate_left;(first|omega|(simp;done)|(simp;omega)))|(with_reducible refine Bel.setCell ?_ (p:=_) ?_ _;rotate_left;(first|(simp;done)|omega|(simp;omega)))|refine Bel.call ?_ (by assumption)|(refine EX.bel ?_ (by assumption) ?_;rotate_left;(first|omega|(simp;omega)))))
   clear hK K;repeat(first|((first|refine bH rfl rfl rfl (by with_reducible rfl) ?_|refine bI rfl rfl rfl (by with_reducible rfl) ?_|refine bJ rfl rfl rfl (by with_reducible rfl) ?_);simp only[Act.put,V8,Wi,Wl])|(apply cG;(first|exact b6 rfl|exact cu rfl rfl rfl (by with_reducible rfl));intro wq ek R hR;((have gF:=(bk ek).1;(try simp only[Wb,ab,Wf,We]at gF));go_simp;first|exact hR|((go_at_call 252;refine rf (qk a l _ hv.out ?_ ?_) hR;go_simp;go_simp)));simp only[Act.put,V8,Wi,Wl]))
   refine fR ?_;intro w2 cN;obtain⟨eQ,ep⟩:=bk cN;have eH:=b8 cN;(try simp only[Wb,ab,Wf,We]at eQ ep eH)
   go_wp2_with fail
   go_ret
   refine⟨rfl,Bel.bel (B:=_) ?_⟩;(repeat(first|with_reducible assumption|with_reducible exact Bel.refl _|with_reducible refine Bel.alloc ?_ _|with_reducible refine Bel.drewN ?_ _|with_reducible refine Bel.drew ?_|(with_reducible refine aD ?_ ?_ _;rotate_left;(first|omega|(simp;done)|(simp;omega)))|(with_reducible refine Bel.setCell ?_ (p:=_) ?_ _;rotate_left;(first|(simp;done)|omega|(simp;omega)))|refine Bel.call ?_ (by assumption)|(refine EX.bel ?_ (by assumption) ?_;rotate_left;(first|omega|(simp;omega)))))
def DE (a l b m:Int):Bool:=mn a l b m||mn b m a l
theorem wa (a l b m:Int)(w:World):
 Calls prog 124 #[.agg #[.int .i64 a,.int .i64 l],.agg #[.int .i64 b,.int .i64 m]] w fun e w'=>e= .returned (.bool (DE a l b m))∧cW w w':=by
 unfold DE;cases hA:mn a l b m
 case true=>
  have hc:=iU a l b m;rw[hA]at hc;replace hc:=VZ hc;clear hA;go_enter func124,ntmps124
  go_wp2_with fail
  refine(hc.out _).mono ?_;rintro e w1 ⟨rfl,cJ⟩;obtain⟨cM,dk⟩:=bk cJ;have dB:=b8 cJ;(try simp only[Wb,ab,Wf,We]at cM dk dB)
  go_wp2_with fail
  go_ret
  refine⟨rfl,Bel.bel (B:=_) ?_⟩;(repeat(first|with_reducible assumption|with_reducible exact Bel.refl _|with_reducible refine Bel.alloc ?_ _|with_reducible refine Bel.drewN ?_ _|with_reducible refine Bel.drew ?_|(with_reducible refine aD ?_ ?_ _;rotate_left;(first|omega|(simp;done)|(simp;omega)))|(with_reducible refine Bel.setCell ?_ (p:=_) ?_ _;rotate_left;(first|(simp;done)|omega|(simp;omega)))|refine Bel.call ?_ (by assumption)|(refine EX.bel ?_ (by assumption) ?_;rotate_left;(first|omega|(simp;omega)))))
 case false=>
  have hc:=iU a l b m;rw[hA]at hc;replace hc:=VZ hc;clear hA;obtain⟨r,hr⟩:∃r,r=mn b m a l:=⟨_,rfl⟩;have hd:=iU b m a l;rw[←hr]at hd ⊢;clear hr;replace hd:=VZ hd;go_enter func124,ntmps124
  go_wp2_with fail
  refine(hc.out _).mono ?_;rintro e w1 ⟨rfl,cJ⟩;obtain⟨cM,dk⟩:=bk cJ;have dB:=b8 cJ;(try simp only[Wb,ab,Wf,We]at cM dk dB)
  go_wp2_with fail
  refine(hd.out _).mono ?_;rintro e w2 ⟨rfl,cN⟩;obtain⟨eQ,ep⟩:=bk cN;have eH:=b8 cN;(try simp only[Wb,ab,Wf,We]at eQ ep eH)
  go_wp2_with fail
  go_ret
  refine⟨rfl,Bel.bel (B:=_) ?_⟩;(repeat(first|with_reducible assumption|with_reducible exact Bel.refl _|with_reducible refine Bel.alloc ?_ _|with_reducible refine Bel.drewN ?_ _|with_reducible refine Bel.drew ?_|(with_reducible refine aD ?_ ?_ _;rotate_left;(first|omega|(simp;done)|(simp;omega)))|(with_reducible refine Bel.setCell ?_ (p:=_) ?_ _;rotate_left;(first|(simp;done)|omega|(simp;omega)))|refine Bel.call ?_ (by assumption)|(refine EX.bel ?_ (by assumption) ?_;rotate_left;(first|omega|(simp;omega)))))
end
theorem m3 (p:Pfx):ae prog 157 [.agg (aL p)] (.v (.int .i64 (chk p.at_ p.len))):=eA (ce func157 (by kernel_rfl) rfl) (by intro d hd;simp at hd;(repeat(first|(obtain rfl:=hd;rfl)|(rcases hd with rfl|hd; · rfl)))) rfl rfl (fun w=>m0 _ _ _)
theorem NJ (p:Pfx):ae prog 203 [.agg (aL p)] (.v (.int .i64 (re p.at_ p.len))):=eA (ce func203 (by kernel_rfl) rfl) (by intro d hd;simp at hd;(repeat(first|(obtain rfl:=hd;rfl)|(rcases hd with rfl|hd; · rfl)))) rfl rfl (fun w=>zI _ _ _)
theorem zJ (p q:Pfx):ae prog 189 [.agg (aL p),.agg (aL q)] (.v (.bool (mn p.at_ p.len q.at_ q.len))):=eA (ce func189 (by kernel_rfl) rfl) (by intro d hd;simp at hd;(repeat(first|(obtain rfl:=hd;rfl)|(rcases hd with rfl|hd; · rfl)))) rfl rfl (fun w=>iU _ _ _ _ _)
theorem m4 (p q:Pfx):ae prog 124 [.agg (aL p),.agg (aL q)] (.v (.bool (DE p.at_ p.len q.at_ q.len))):=eA (ce func124 (by kernel_rfl) rfl) (by intro d hd;simp at hd;(repeat(first|(obtain rfl:=hd;rfl)|(rcases hd with rfl|hd; · rfl)))) rfl rfl (fun w=>wa _ _ _ _ _)
section
open Go.Proofs
def Pfx.meets (p q:Pfx):Bool:=DE p.at_ p.len q.at_ q.len
def Pfx.low (p:Pfx):Pfx:=⟨p.at_,p.len+1⟩
def Pfx.high (p:Pfx):Pfx:=⟨p.at_+fA (p.len+1),p.len+1⟩
def Pfx.right (p:Pfx):Bool:=bQ p.at_ p.len
def Pfx.v (p:Pfx):Value:= .agg #[.int .i64 p.at_,.int .i64 p.len]
theorem zK {a l:Int}(h0:0≤l)(h1:l≤16)(h2:0≤a)(h3:a≤65535)(h4:a % fA l=0):bQ a l=true:=by
 unfold bQ;rw[HB h0 h1 h2 h3];unfold fA at h4;simp[h4]
theorem tq {l:Int}(h0:0≤l)(h1:l < 16):fA l=2*fA (l+1):=by
 unfold fA;have:(16 - l).toNat=(16 - (l+1)).toNat+1:=by omega
 rw[this,Zc];omega
theorem r6 {l m:Int}(h0:0≤m)(h1:m≤l)(h2:l≤16):∃k:Int,fA m=fA l*k∧1≤k:=by
 refine⟨2 ^ (l - m).toNat,?_,?_⟩
 ·unfold fA;rw[←Int.pow_add];congr 1;omega
 ·have h3:=Nat.one_le_two_pow (n:=(l - m).toNat);have h4:((2 ^ (l - m).toNat:Nat):Int)=(2:Int) ^ (l - m).toNat:=by simp
  omega
theorem wb {a l:Int}(h:bQ a l=true):a+fA l≤65536:=by
 obtain⟨g1,g2,g3,g4,g5⟩:=dr h;obtain⟨k,hk,uw⟩:=r6 (Int.le_refl 0) g1 g2;have h0:fA 0=65536:=by decide
 rw[h0]at hk;have hs:=fQ g1;have hd:fA l ∣ 65536 - a:=by
  refine Int.dvd_sub ⟨k,hk⟩ (Ya g5)
 have:=Int.le_of_dvd (by omega) hd;omega
def kV (p q:Pfx):Bool:=mn p.at_ p.len q.at_ q.len
def Pfx.hi (p:Pfx):Int:=p.at_+fA p.len
theorem Pfx.bd {p:Pfx}(h:p.right=true):0≤p.len∧p.len≤16∧0≤p.at_∧p.at_≤65535∧p.at_ % fA p.len=0:=dr h
theorem Pfx.hi_bd {p:Pfx}(h:p.right=true):p.at_ < p.hi∧p.hi≤65536:=by
 have h1:=wb h;obtain⟨g1,-⟩:=p.bd h;have h2:=fQ g1;unfold Pfx.hi;omega
theorem r7 {s a b:Int}(hs:0 < s)(hb:b % s=0):a - a % s=b↔b≤a∧a < b+s:=by
 have h1:=Int.emod_nonneg a (b:=s) (by omega);have h2:=Int.emod_lt_of_pos a hs;constructor
 ·intro h;omega
 ·intro⟨h3,h4⟩;have h5:(a - b) % s=a % s:=by rw[Int.sub_emod,hb,Int.sub_zero,Int.emod_emod]
  rw[Int.emod_eq_of_lt (by omega) (by omega)]at h5;omega
theorem zL {s x:Int}(hs:0 < s)(hx:0 < x)(hd:s ∣ x):s≤x:=Int.le_of_dvd hx hd
theorem NK {p q:Pfx}(hp:p.right=true)(hq:q.right=true)(hl:q.len≤p.len)(h1:p.at_ < q.hi)(h2:q.at_ < p.hi):q.at_≤p.at_∧p.hi≤q.hi:=by
 obtain⟨a1,a2,a3,a4,a5⟩:=p.bd hp;obtain⟨b1,b2,b3,b4,b5⟩:=q.bd hq;obtain⟨k,hk,uw⟩:=r6 b1 hl a2;have s1:=fQ a1;have s2:=fQ b1;unfold Pfx.hi at*;have dq:fA p.len ∣ q.at_:=Int.dvd_trans ⟨k,hk⟩ (Ya b5);have dp:fA p.len ∣ p.at_:=Ya a5;have dm:fA p.len ∣ fA q.len:=⟨k,hk⟩;refine⟨?_,?_⟩
 ·rcases Int.lt_or_le p.at_ q.at_ with h|h
  ·have:=zL (by omega) (show 0 < q.at_ - p.at_ by omega) (Int.dvd_sub dq dp);omega
  ·exact h
 ·have:=zL (by omega) (show 0 < q.at_+fA q.len - p.at_ by omega) (Int.dvd_sub (Int.dvd_add dq dm) dp);omega
theorem mo {p q:Pfx}:kV p q=true↔p.right=true∧q.right=true∧q.len≤p.len∧q.at_≤p.at_∧p.at_ < q.hi:=by
 unfold kV mn Pfx.right;constructor
 ·intro h;simp only[Wd,decide_eq_true_eq,beq_iff_eq]at h;obtain⟨⟨⟨h1,h2⟩,h3⟩,h4⟩:=h;obtain⟨b1,b2,b3,b4,b5⟩:=dr h2;have:=(r7 (by have:=fQ b1;omega) b5).1 h4;exact⟨h1,h2,h3,this.1,this.2⟩
 ·intro⟨h1,h2,h3,h4,h5⟩;obtain⟨b1,b2,b3,b4,b5⟩:=dr h2;simp only[Wd,decide_eq_true_eq,beq_iff_eq];exact⟨⟨⟨h1,h2⟩,h3⟩,(r7 (by have:=fQ b1;omega) b5).2 ⟨h4,h5⟩⟩
theorem DF {s k:Int}(hs:0≤s)(hk:1≤k):s≤s*k:=by
 have:=Int.mul_le_mul_of_nonneg_left hk hs;rwa [Int.mul_one]at this
theorem NL {l m:Int}(h0:0≤m)(h2:l≤16)(h3:0≤l)(hm:m≤16):fA l≤fA m↔m≤l:=by
 constructor
 ·intro h;rcases Int.lt_or_le l m with hlt|hle
  ·obtain⟨k,hk,uw⟩:=r6 (l:=m) (m:=l+1) (by omega) (by omega) hm;have e:=tq h3 (by omega);have s1:=fQ h0;have:fA m≤fA (l+1):=by rw[hk];exact DF (by have:=fQ (n:=l+1) (by omega);omega) uw
   omega
  ·exact hle
 ·intro h;obtain⟨k,hk,uw⟩:=r6 h0 h h2;rw[hk];exact DF (by have:=fQ h3;omega) uw
theorem xt {p q:Pfx}:kV p q=true↔p.right=true∧q.right=true∧q.at_≤p.at_∧p.hi≤q.hi:=by
 rw[mo];constructor
 ·intro⟨h1,h2,h3,h4,h5⟩;exact⟨h1,h2,NK h1 h2 h3 h5 (by have:=p.hi_bd h1;omega)⟩
 ·intro⟨h1,h2,h3,h4⟩;have hp:=p.hi_bd h1;obtain⟨a1,a2,-⟩:=p.bd h1;obtain⟨b1,b2,-⟩:=q.bd h2;exact⟨h1,h2,(NL b1 a2 a1 b2).1 (by unfold Pfx.hi at*;omega),h3,by omega⟩
theorem qn {p q:Pfx}:p.meets q=true↔p.right=true∧q.right=true∧p.at_ < q.hi∧q.at_ < p.hi:=by
 have e:p.meets q=(kV p q||kV q p):=rfl;rw[e,Bool.or_eq_true,mo,mo];constructor
 ·rintro (⟨h1,h2,h3,h4,h5⟩|⟨h1,h2,h3,h4,h5⟩)
  ·exact⟨h1,h2,h5,by have:=p.hi_bd h1;omega⟩
  ·exact⟨h2,h1,by have:=q.hi_bd h1;omega,h5⟩
 ·intro⟨h1,h2,h3,h4⟩;rcases Int.le_total q.len p.len with hl|hl
  ·exact .inl ⟨h1,h2,hl,(NK h1 h2 hl h3 h4).1,h3⟩
  ·exact .inr ⟨h2,h1,hl,(NK h2 h1 hl h4 h3).1,h4⟩
theorem BX (p q:Pfx):p.meets q=q.meets p:=by
 rw[Xh,qn,qn];constructor<;>(intro⟨h1,h2,h3,h4⟩;exact⟨h2,h1,h4,h3⟩)
theorem qo {p:Pfx}{x:Int}:HQ p.at_ p.len x=true↔p.right=true∧p.at_≤x∧x < p.hi:=by
 unfold HQ lR MF Pfx.right Pfx.hi;simp only[Wd,decide_eq_true_eq];constructor
 ·intro⟨h1,h2,h3⟩;exact⟨h1,h2,by omega⟩
 ·intro⟨h1,h2,h3⟩;exact⟨h1,h2,by omega⟩
theorem zM (p:Pfx)(x:Int):jB p.at_ p.len x=HQ p.at_ p.len x:=by
 rw[Xh,qo];unfold jB Pfx.right;simp only[Wd,decide_eq_true_eq,beq_iff_eq];constructor
 ·intro⟨h1,h2,h3,h4⟩;obtain⟨b1,b2,b3,b4,b5⟩:=dr h1;have:=(r7 (by have:=fQ b1;omega) b5).1 h4;exact⟨h1,this.1,this.2⟩
 ·intro⟨h1,h2,h3⟩;obtain⟨b1,b2,b3,b4,b5⟩:=dr h1;have hf:=p.hi_bd h1;exact⟨h1,by omega,by omega,(r7 (by have:=fQ b1;omega) b5).2 ⟨h2,h3⟩⟩
theorem rh {a l:Int}(h:bQ a l=true):re a l=fA l:=by unfold re;rw[if_pos h]
end
def du (n:Int):Bool:=decide (1≤n)&&decide (n≤65536)
theorem iV (n:Int):ae prog 191 [.v (.int .i64 n)] (.v (.bool (du n))):=by
 cases e1:decide (n≥1)with
 |true=>
  have h1:decide (1≤n)=true:=e1;refine pj func191 ntmps191 results191 ?_;refine aF ?_<;>intros;all_goals(unfold du;rw[h1];exact au.refl _)
 |false=>
  have h1:decide (1≤n)=false:=e1;refine pj func191 ntmps191 results191 ?_;refine aF ?_<;>intros;all_goals(unfold du;rw[h1];exact au.refl _)
theorem PS {x y:Bool}(h:x=y):au (.v (.bool x)) (.v (.bool y)):=h ▸ au.refl _
def wc (f:Fce):Bool:=decide ((f.addrs.length:Int)>4)
def wd (s:Sbn):Bool:=decide ((s.faces.length:Int)>8)||s.faces.any wc
def pa (v:Vpc):Bool:=decide ((v.ranges.length:Int)>4)||(decide ((v.subs.length:Int)>6)||v.subs.any wd)
theorem HS (f:Fce):ae prog 264 [.agg (cO f)] (.v (.bool (wc f))):=by
 refine pj func264 ntmps264 results264 ?_;exact bx;all_goals exact au.refl _
theorem KO (s:Sbn):ae prog 262 [.agg (bw s)] (.v (.bool (wd s))):=by
 unfold wd;by_cases h:s.faces.length>8
 ·have h1:decide ((s.faces.length:Int)>8)=true:=by simp;omega
  rw[h1];refine pj func262 ntmps262 results262 ?_;exact bx;all_goals exact au.refl _
 ·have h1:decide ((s.faces.length:Int)>8)=false:=by simp;omega
  have hc:=Fj s7 wc s.faces 264 [] (by omega) (fun f _=>HS f);rw[h1];refine pj func262 ntmps262 results262 ?_;exact bx;all_goals exact au.refl _
theorem NN (v:Vpc):ae prog 207 [.agg (aG v)] (.v (.bool (pa v))):=by
 unfold pa;cases h1:decide ((v.ranges.length:Int)>4)with
 |true=>
  refine pj func207 ntmps207 results207 ?_;exact bx;all_goals exact au.refl _
 |false=>
  cases h2:decide ((v.subs.length:Int)>6)with
  |true=>
   refine pj func207 ntmps207 results207 ?_;exact bx;all_goals exact au.refl _
  |false=>
   have hl:v.subs.length≤6:=by simp at h2;omega
   have hc:=tj ke wd v.subs 262 [] (by omega) (fun f _=>KO f);refine pj func207 ntmps207 results207 ?_;exact bx;all_goals exact au.refl _
theorem zN {v:Vpc}(h:pa v=false):v.ranges.length≤4∧v.subs.length≤6∧∀s∈v.subs,s.faces.length≤8∧∀f∈s.faces,f.addrs.length≤4:=by
 simp only[pa,wd,wc,Yr,decide_eq_false_iff_not,Xu]at h;refine⟨by omega,by omega,fun s hs=>?_⟩;have h1:=h.2.2 s hs;simp only[Bool.not_eq_true,Yr,decide_eq_false_iff_not,Xu,decide_eq_true_eq]at h1;exact⟨by omega,fun f hf=>by have h2:=h1.2 f hf;revert h2;simp[wc];omega⟩
def fS (v:Vpc)(p:Pfx):Bool:=v.ranges.any fun r=>kV p r.at_
theorem HT (r:Rng)(p:Pfx):ae prog 253 [.agg (cf r),.ept (aL p)] (.v (.bool (kV p r.at_))):=by
 have hi:ae prog 189 [.agg (aL p),.agg (aL r.at_)] (.v (.bool (kV p r.at_))):=zJ p r.at_;refine pj func253 ntmps253 results253 ?_;exact bx
theorem pb (v:Vpc)(p:Pfx)(hl:v.ranges.length≤1000000000):ae prog 192 [.agg (aG v),.agg (aL p)] (.v (.bool (fS v p))):=by
 have hc:=kU kf (fun r=>kV p r.at_) v.ranges 253 [.ept (aL p)] hl (fun r _=>HT r p);refine pj func192 ntmps192 results192 ?_;exact bx
theorem KQ (p:Pfx)(x:Int):ae prog 310 [.agg (aL p),.v (.int .i64 x)] (.v (.bool (jB p.at_ p.len x))):=eA (ce func310 (by kernel_rfl) rfl) (by intro d hd;simp at hd;(repeat(first|(obtain rfl:=hd;rfl)|(rcases hd with rfl|hd; · rfl)))) rfl rfl (fun w=>Fm _ _ _ _)
def pc (p:Pfx)(x:Int):Bool:=jB p.at_ p.len x&&(decide (x>p.at_)&&decide (x < p.at_+fA p.len - 1))
theorem DG (p:Pfx)(x:Int):ae prog 258 [.agg (aL p),.v (.int .i64 x)] (.v (.bool (pc p x))):=by
 have hh:=KQ p x;unfold pc;cases h1:jB p.at_ p.len x with
 |false=>
  rw[h1]at hh;refine pj func258 ntmps258 results258 ?_;exact bx;all_goals exact au.refl _
 |true=>
  have hr:p.right=true:=(qo.1 (by rw[←zM];exact h1)).1;obtain⟨b1,b2,b3,b4,-⟩:=p.bd hr;have hs:=fQ b1;have Bm:=NJ p;rw[rh hr]at Bm;have cJ:IntKind.i64.wrap (p.at_+fA p.len)=p.at_+fA p.len:=by rw[IntKind.wrap_i64];omega
  have cN:IntKind.i64.wrap (p.at_+fA p.len - 1)=p.at_+fA p.len - 1:=by rw[IntKind.wrap_i64];omega
  rw[h1]at hh;generalize fA p.len=Z at*;cases h2:decide (x>p.at_)with
  |false=>
   refine pj func258 ntmps258 results258 ?_;exact bx;all_goals exact au.refl _
  |true=>
   refine pj func258 ntmps258 results258 ?_;exact bx;all_goals exact au.refl _
def eT {α:Type}(key:α→Int):List α→Bool
 |a::b::l=>decide (key a < key b)&&eT key (b::l)
 |_=>true
theorem iw {α:Type}{key:α→Int}:∀(l:List α),eT key l=true↔∀j (h:j+1 < l.length),key l[j] < key l[j+1]
 |[]=>by simp[eT]
 |[a]=>by simp[eT]
 |a::b::l=>by
  have ih:=iw (key:=key) (b::l);simp only[eT,Wd,decide_eq_true_eq,ih];constructor
  ·rintro⟨h1,h2⟩ j hj;cases j with
   |zero=>exact h1
   |succ j=>exact h2 j (by simpa using hj)
  ·intro h;exact⟨h 0 (by simp),fun j hj=>h (j+1) (by simpa using hj)⟩
theorem gy {α:Type}{key:α→Int}:∀(l:List α),eT key l=true↔l.Pairwise fun a b=>key a < key b
 |[]=>by simp[eT]
 |[a]=>by simp[eT]
 |a::b::l=>by
  have ih:=gy (key:=key) (b::l);simp only[eT,Wd,decide_eq_true_eq,ih];constructor
  ·rintro⟨h1,h2⟩;refine Xz.2 ⟨fun x hx=>?_,h2⟩;rcases WI.1 hx with rfl|hx
   ·exact h1
   ·have:=(Xz.1 h2).1 x hx;omega
  ·intro h;obtain⟨h1,h2⟩:=Xz.1 h;exact⟨h1 b (by simp),h2⟩
theorem zO {α:Type}{enc:α→List D}(dA:∀x,(enc x).length=3)(key:α→Int)(l:List α)(g:Nat)(hl:l.length≤1000000000)(hc:∀x∈l,ae prog g [.agg (enc x)] (.v (.int .i64 (key x)))):
 ae prog 208 [.sl 3 (l.map enc),.clo g []] (.v (.bool (eT key l))):=by
 refine pj func208 ntmps208 results208 ?_;refine aF ?_<;>intros;refine cp ah av (fun m e h=>∃k:Nat,1≤k∧(∀j (h:j+1 < l.length),j+1 < k→key l[j] < key l[j+1])∧m=l.length - k∧e=[(5,.d (.v (.int .i64 k))),(4,.d (.v (.bool false))),(1,.d (.clo g [])),(0,.d (.sl 3 (l.map enc)))]∧h=[]) _ _ _ ⟨1,Wa _,fun j h h1=>by omega,rfl,rfl,rfl⟩ ?_ ?_
 ·exact wf (x:=[]) (hh:=rfl) (he:=⟨rfl,rfl,rfl,rfl,trivial⟩)
 ·rintro m e h ⟨k,uw,cr,hm,rfl,rfl⟩ CL kI;by_cases hlt:k < l.length
  ·obtain⟨x,hx⟩:∃x,l[k - 1]? =some x:=⟨_,VY (by omega)⟩;obtain⟨y,hy⟩:∃y,l[k]? =some y:=⟨_,VY hlt⟩;have ej:(k:Int) < (l.length:Int):=by omega
   have ed:=wi k (by omega);have OR:IntKind.i64.wrap ((k:Int) - 1)=((k - 1:Nat):Int):=by rw[IntKind.wrap_i64];omega
   have Bb:=dA x;have TP:=dA y;have TQ:(enc x).take 3=enc x:=Wj (by omega);have Qm:(enc y).take 3=enc y:=Wj (by omega);have gI:=hc x (V0 hx);have Su:=hc y (V0 hy);have lK:l[k - 1]'(by omega)=x:=by rw[VY (by omega)]at hx;exact WD.inj hx
   have uF:l[k]=y:=by rw[VY hlt]at hy;exact WD.inj hy
   replace lK:=VZ lK;replace uF:=VZ uF;replace hm:=VZ hm;cases hge:decide (key x≥key y)with
   |true=>
    have hr:eT key l=false:=by
     rw[Yt,ne_eq,iw];intro h;have:=h (k - 1) (by omega);simp only[show k - 1+1=k by omega,lK.out,uF.out]at this;simp at hge;omega
    exact bx;all_goals(rw[hr];exact au.refl _)
   |false=>
    refine aF ?_<;>intros;refine kI _ _ _ _ _ ?_ ⟨k+1,by omega,fun j hj CZ=>?_,rfl,rfl,rfl⟩ (wf (x:=[]) (hh:=rfl) (he:=⟨rfl,rfl,rfl,rfl,trivial⟩))
    ·have:=hm.out;omega
    ·rcases Wv (j+1) k with h|h
     ·exact cr j hj h
     ·obtain rfl:j=k - 1:=by omega
      simp only[show k - 1+1=k by omega,lK.out,uF.out];simp at hge;omega
  ·have ej:decide ((k:Int) < (l.length:Int))=false:=by simp;omega
   have hr:eT key l=true:=(iw l).2 fun j hj=>cr j hj (by omega);replace hm:=VZ hm;exact bx;all_goals(rw[hr];exact au.refl _)
theorem Fn {α:Type}{enc:α→List D}(dA:∀x,(enc x).length=4)(key:α→Int)(l:List α)(g:Nat)(hl:l.length≤1000000000)(hc:∀x∈l,ae prog g [.agg (enc x)] (.v (.int .i64 (key x)))):
 ae prog 210 [.sl 4 (l.map enc),.clo g []] (.v (.bool (eT key l))):=by
 refine pj func210 ntmps210 results210 ?_;refine aF ?_<;>intros;refine cp ah av (fun m e h=>∃k:Nat,1≤k∧(∀j (h:j+1 < l.length),j+1 < k→key l[j] < key l[j+1])∧m=l.length - k∧e=[(5,.d (.v (.int .i64 k))),(4,.d (.v (.bool false))),(1,.d (.clo g [])),(0,.d (.sl 4 (l.map enc)))]∧h=[]) _ _ _ ⟨1,Wa _,fun j h h1=>by omega,rfl,rfl,rfl⟩ ?_ ?_
 ·exact wf (x:=[]) (hh:=rfl) (he:=⟨rfl,rfl,rfl,rfl,trivial⟩)
 ·rintro m e h ⟨k,uw,cr,hm,rfl,rfl⟩ CL kI;by_cases hlt:k < l.length
  ·obtain⟨x,hx⟩:∃x,l[k - 1]? =some x:=⟨_,VY (by omega)⟩;obtain⟨y,hy⟩:∃y,l[k]? =some y:=⟨_,VY hlt⟩;have ej:(k:Int) < (l.length:Int):=by omega
   have ed:=wi k (by omega);have OR:IntKind.i64.wrap ((k:Int) - 1)=((k - 1:Nat):Int):=by rw[IntKind.wrap_i64];omega
   have Bb:=dA x;have TP:=dA y;have TQ:(enc x).take 4=enc x:=Wj (by omega);have Qm:(enc y).take 4=enc y:=Wj (by omega);have gI:=hc x (V0 hx);have Su:=hc y (V0 hy);have lK:l[k - 1]'(by omega)=x:=by rw[VY (by omega)]at hx;exact WD.inj hx
   have uF:l[k]=y:=by rw[VY hlt]at hy;exact WD.inj hy
   replace lK:=VZ lK;replace uF:=VZ uF;replace hm:=VZ hm;cases hge:decide (key x≥key y)with
   |true=>
    have hr:eT key l=false:=by
     rw[Yt,ne_eq,iw];intro h;have:=h (k - 1) (by omega);simp only[show k - 1+1=k by omega,lK.out,uF.out]at this;simp at hge;omega
    exact bx;all_goals(rw[hr];exact au.refl _)
   |false=>
    refine aF ?_<;>intros;refine kI _ _ _ _ _ ?_ ⟨k+1,by omega,fun j hj CZ=>?_,rfl,rfl,rfl⟩ (wf (x:=[]) (hh:=rfl) (he:=⟨rfl,rfl,rfl,rfl,trivial⟩))
    ·have:=hm.out;omega
    ·rcases Wv (j+1) k with h|h
     ·exact cr j hj h
     ·obtain rfl:j=k - 1:=by omega
      simp only[show k - 1+1=k by omega,lK.out,uF.out];simp at hge;omega
  ·have ej:decide ((k:Int) < (l.length:Int))=false:=by simp;omega
   have hr:eT key l=true:=(iw l).2 fun j hj=>cr j hj (by omega);replace hm:=VZ hm;exact bx;all_goals(rw[hr];exact au.refl _)
theorem BY {α:Type}{enc:α→List D}(dA:∀x,(enc x).length=2)(key:α→Int)(l:List α)(g:Nat)(hl:l.length≤1000000000)(hc:∀x∈l,ae prog g [.agg (enc x)] (.v (.int .i64 (key x)))):
 ae prog 267 [.sl 2 (l.map enc),.clo g []] (.v (.bool (eT key l))):=by
 refine pj func267 ntmps267 results267 ?_;refine aF ?_<;>intros;refine cp ah av (fun m e h=>∃k:Nat,1≤k∧(∀j (h:j+1 < l.length),j+1 < k→key l[j] < key l[j+1])∧m=l.length - k∧e=[(5,.d (.v (.int .i64 k))),(4,.d (.v (.bool false))),(1,.d (.clo g [])),(0,.d (.sl 2 (l.map enc)))]∧h=[]) _ _ _ ⟨1,Wa _,fun j h h1=>by omega,rfl,rfl,rfl⟩ ?_ ?_
 ·exact wf (x:=[]) (hh:=rfl) (he:=⟨rfl,rfl,rfl,rfl,trivial⟩)
 ·rintro m e h ⟨k,uw,cr,hm,rfl,rfl⟩ CL kI;by_cases hlt:k < l.length
  ·obtain⟨x,hx⟩:∃x,l[k - 1]? =some x:=⟨_,VY (by omega)⟩;obtain⟨y,hy⟩:∃y,l[k]? =some y:=⟨_,VY hlt⟩;have ej:(k:Int) < (l.length:Int):=by omega
   have ed:=wi k (by omega);have OR:IntKind.i64.wrap ((k:Int) - 1)=((k - 1:Nat):Int):=by rw[IntKind.wrap_i64];omega
   have Bb:=dA x;have TP:=dA y;have TQ:(enc x).take 2=enc x:=Wj (by omega);have Qm:(enc y).take 2=enc y:=Wj (by omega);have gI:=hc x (V0 hx);have Su:=hc y (V0 hy);have lK:l[k - 1]'(by omega)=x:=by rw[VY (by omega)]at hx;exact WD.inj hx
   have uF:l[k]=y:=by rw[VY hlt]at hy;exact WD.inj hy
   replace lK:=VZ lK;replace uF:=VZ uF;replace hm:=VZ hm;cases hge:decide (key x≥key y)with
   |true=>
    have hr:eT key l=false:=by
     rw[Yt,ne_eq,iw];intro h;have:=h (k - 1) (by omega);simp only[show k - 1+1=k by omega,lK.out,uF.out]at this;simp at hge;omega
    exact bx;all_goals(rw[hr];exact au.refl _)
   |false=>
    refine aF ?_<;>intros;refine kI _ _ _ _ _ ?_ ⟨k+1,by omega,fun j hj CZ=>?_,rfl,rfl,rfl⟩ (wf (x:=[]) (hh:=rfl) (he:=⟨rfl,rfl,rfl,rfl,trivial⟩))
    ·have:=hm.out;omega
    ·rcases Wv (j+1) k with h|h
     ·exact cr j hj h
     ·obtain rfl:j=k - 1:=by omega
      simp only[show k - 1+1=k by omega,lK.out,uF.out];simp at hge;omega
  ·have ej:decide ((k:Int) < (l.length:Int))=false:=by simp;omega
   have hr:eT key l=true:=(iw l).2 fun j hj=>cr j hj (by omega);replace hm:=VZ hm;exact bx;all_goals(rw[hr];exact au.refl _)
theorem Fo (l:List Int)(g:Nat)(hl:l.length≤1000000000)(hc:∀x,ae prog g [.v (.int .i64 x)] (.v (.int .i64 x))):
 ae prog 265 [.sl 1 (l.map dI),.clo g []] (.v (.bool (eT (fun x=>x) l))):=by
 refine pj func265 ntmps265 results265 ?_;refine aF ?_<;>intros;refine cp ah av (fun m e h=>∃k:Nat,1≤k∧(∀j (h:j+1 < l.length),j+1 < k→l[j] < l[j+1])∧m=l.length - k∧e=[(5,.d (.v (.int .i64 k))),(4,.d (.v (.bool false))),(1,.d (.clo g [])),(0,.d (.sl 1 (l.map dI)))]∧h=[]) _ _ _ ⟨1,Wa _,fun j h h1=>by omega,rfl,rfl,rfl⟩ ?_ ?_
 ·exact wf (x:=[]) (hh:=rfl) (he:=⟨rfl,rfl,rfl,rfl,trivial⟩)
 ·rintro m e h ⟨k,uw,cr,hm,rfl,rfl⟩ CL kI;by_cases hlt:k < l.length
  ·obtain⟨x,hx⟩:∃x,l[k - 1]? =some x:=⟨_,VY (by omega)⟩;obtain⟨y,hy⟩:∃y,l[k]? =some y:=⟨_,VY hlt⟩;have ej:(k:Int) < (l.length:Int):=by omega
   have ed:=wi k (by omega);have OR:IntKind.i64.wrap ((k:Int) - 1)=((k - 1:Nat):Int):=by rw[IntKind.wrap_i64];omega
   have gI:=hc x;have Su:=hc y;have lK:l[k - 1]'(by omega)=x:=by rw[VY (by omega)]at hx;exact WD.inj hx
   have uF:l[k]=y:=by rw[VY hlt]at hy;exact WD.inj hy
   replace lK:=VZ lK;replace uF:=VZ uF;replace hm:=VZ hm;cases hge:decide (x≥y)with
   |true=>
    have hr:eT (fun x=>x) l=false:=by
     rw[Yt,ne_eq,iw];intro h;have:=h (k - 1) (by omega);simp only[show k - 1+1=k by omega,lK.out,uF.out]at this;simp at hge;omega
    exact bx;all_goals(rw[hr];exact au.refl _)
   |false=>
    refine aF ?_<;>intros;refine kI _ _ _ _ _ ?_ ⟨k+1,by omega,fun j hj CZ=>?_,rfl,rfl,rfl⟩ (wf (x:=[]) (hh:=rfl) (he:=⟨rfl,rfl,rfl,rfl,trivial⟩))
    ·have:=hm.out;omega
    ·rcases Wv (j+1) k with h|h
     ·exact cr j hj h
     ·obtain rfl:j=k - 1:=by omega
      simp only[show k - 1+1=k by omega,lK.out,uF.out];simp at hge;omega
  ·have ej:decide ((k:Int) < (l.length:Int))=false:=by simp;omega
   have hr:eT (fun x=>x) l=true:=(iw l).2 fun j hj=>cr j hj (by omega);replace hm:=VZ hm;exact bx;all_goals(rw[hr];exact au.refl _)
def fm:List Pfx→List Pfx→Bool
 |_,[]=>true
 |pre,p::l=>!(pre.any p.meets)&&fm (pre++[p]) l
theorem HU (q p:Pfx):ae prog 269 [.agg (aL q),.ept (aL p)] (.v (.bool (p.meets q))):=by
 have hm:ae prog 124 [.agg (aL p),.agg (aL q)] (.v (.bool (p.meets q))):=m4 p q;refine pj func269 ntmps269 results269 ?_;exact bx
theorem pf {α:Type}{l:List α}{k:Nat}{x:α}(h:l[k]? =some x):l.drop k=x::l.drop (k+1):=by
 obtain⟨hk,rfl⟩:=V3.1 h;exact Xv hk
theorem DH (l:List Pfx)(hl:l.length≤1000000000):ae prog 213 [.sl 2 (l.map aL)] (.v (.bool (fm [] l))):=by
 refine pj func213 ntmps213 results213 ?_;refine aF ?_<;>intros;refine bP ah av l (fun k=>fm [] l=fm (l.take k) (l.drop k)) (fun k=>[(7,.d (.v (.int .i64 k))),(6,.d (.v (.int .i64 l.length))),(5,.d (.sl 2 (l.map aL))),(2,.d (.v (.bool false))),(0,.d (.sl 2 (l.map aL)))]) (fun _=>[]) rfl (wf (x:=[]) (hh:=rfl) (he:=⟨rfl,rfl,rfl,rfl,rfl,trivial⟩)) ?_ ?_
 ·intro k p hp hk hI C hC;have g8:(k:Int) < (l.length:Int):=by omega
  have ed:=wi k (by omega);have lN:=rd zj p.meets (l.take k) 269 [.ept (aL p)] (by rw[V2];omega) (fun q _=>HU q p);rw[XS]at lN;rw[pf hp]at hI;simp only[fm,←aj hp]at hI;replace hI:=VZ hI;have Gd:k≤l.length:=by omega
  cases ha:(l.take k).any p.meets with
  |true=>
   rw[ha]at lN;refine aF ?_<;>intros;all_goals(rw[hI.out,ha];exact au.refl _)
  |false=>
   rw[ha]at lN;refine aF ?_<;>intros;exact hC _ _ (by rw[hI.out,ha];rfl) (wf)
 ·intro hI C;rw[Yi]at hI;replace hI:=VZ hI;refine aF ?_<;>intros;all_goals(rw[hI.out];exact au.refl _)
end Go.Proofs.YtojojebildofnaaGreatDoor
