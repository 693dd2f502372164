/- Texts of this work, joined. -/
import Derived.Test.YtojojebildofnaaGreatDoorZHDeskShows3
import Derived.Deep.RegionLaw
import Derived.Shelf.RegionOpenPlain
import Derived.Lib.Overlaps
import Derived.Lib.AppendZerosOnto
import Derived.Laws.Externs
import Derived.Lib.SliceRun
import Derived.Deep.Slices
import Derived.Deep.Fields
import Derived.ChangeSame
import Derived.OpenShut
import Derived.ProofKit
import Derived.Carry
import Derived.ChangeMaps5
import Derived.DataShut
import Derived.Shelf.SlSortCmp.WholeK
import Derived.Sort.Grow
set_option linter.unusedSimpArgs false
set_option linter.unusedVariables false
set_option maxRecDepth 100000
set_option maxHeartbeats 16000000
namespace Go.Proofs.YtojojebildofnaaGreatDoor
open Go Go.RowKit Go.Proofs.Tryz
open _root_.List renaming getElem?_eq_getElem → Xj, mem_of_getElem? → Xl, map_cons → Xm, setIfInBounds_toArray → Xn, getElem?_eq_some_iff → Xo, length_take → Xp, take_length → Xq, length_append → Xt, set_cons_zero → Xv, set_cons_succ → Xw, map_nil → Xx, map_append → Xz, getElem?_map → XA, all_eq_true → XB, length_cons → XD, getD_eq_getElem?_getD → XE, length_map → XF, mem_map → XH, take_of_length_le → XI, pairwise_iff_getElem → XM, getElem?_eq_none → XN, getElem?_append_right → XP, getElem?_take_of_lt → XQ, replicate → XR, length_drop → XS, append_assoc → XT, findIdx?_eq_some_iff_getElem → XV, mem_cons → XY, eq_nil_of_length_eq_zero → XZ, range → X3, mem_append → X4, getElem?_append_left → X5, cons_append → X6, mem_singleton → X7, length_nil → X8, getElem_of_mem → X9, append_nil → Ya, mem_of_mem_drop → Yb, mem_of_mem_take → Yc, any_eq_true → Yd, nil_append → Ye, mem_iff_getElem → Yf, ext_getElem? → Yh, getElem?_drop → Yk, getElem_mem → Ym, take_append_of_le_length → Yp, any_eq_false → Yw, findIdx?_eq_none_iff → Yx, size_toArray → YB, take → YD, flatten_cons → YE, find?_eq_none → YF, foldl_cons → YG, getElem?_cons_succ → YJ, pairwise_cons → YM, mem_of_find?_eq_some → YO, mem_range → YP, take_append_drop → YU, drop_eq_getElem_cons → YV, all_eq_false → YX, flatMap_append → Y1, map_congr_left → Y2, toList_toArray → Y3, pairwise_map → Y5, mem_or_eq_of_mem_set → Y6, mem_map_of_mem → Za, set_append_right → Zc, drop_length → Zf, find?_eq_some_iff_getElem → Zg, length_pos_iff → Zh, filter_filter → Zj, getElem?_take → Zk, pairwise_append → Zp, take_succ_eq_append_getElem → Zq, mem_filter → Zt, find?_some → Zv, length_filter_le → Zw, eq_of_mem_replicate → Zx, map_take → Zz, flatMap_cons → ZF, all_append → ZU, getElem_take → ZX, getElem_map → Z4, mem_flatten → Z5, filter_congr → B', flatten_append → L', nodup_append → X', take_sublist → Y', getElem?_set → _a
open Go.Lib renaming hid → Xk
open Go.World renaming size_alloc → Xr, heap_drewN → Xs, size_drew → Xu, cell? → YQ, cell?_of_block → Zn, setRow → ZK, ownsRow_nil → Q'
open _root_.Bool renaming and_eq_true → Xy, eq_iff_iff → Yl, and_self → Yn, and_true → Yz, true_and → YC, eq_false_iff → YK, false_eq_true → YY, not_eq_true' → ZV, false_or → Z0, and_assoc → Z'
open _root_.Nat renaming le_refl → XC, zero_add → XK, zero_le → XL, lt_or_ge → XO, reduceAdd → XU, reduceEqDiff → XW, add_zero → X0, mul_le_mul_right → Yo, sub_zero → Yr, lt_of_lt_of_le → Yt, le_trans → Yu, succ_mul → YI, not_lt_zero → YT, lt_trichotomy → Y4, sub_self → Y8, add_assoc → Zd, eq_zero_or_pos → Zl, mul_comm → Zs, add_mul → Zu, div_lt_of_lt_mul → ZB, zero_lt_succ → ZM, min → ZS, div_add_mod → ZT, reduceLT → ZY, min_self → z', min_def → C', le_of_lt → G', mod_lt → _i, lt_or_eq_of_le → _j, le_of_lt_succ → _l
open _root_.Option renaming map_eq_some_iff → XG, isSome_some → XJ, some → XX, map_some → Yg, isNone_some → Yv, getD_some → Yy, isSome_none → YL, bind_some → YW, map_none → Zi, isNone_none → Zm, isSome_iff_exists → Zy
open _root_.Array renaming getElem?_toList → X2, getElem?_eq_none → Yj, getElem?_eq_some_iff → Yq, getElem?_eq_getElem → YN, getElem?_modify → Y0, replicate → Y9, toList_append → N'
open _root_.Int renaming lt_irrefl → YZ, dvd_of_emod_eq_zero → ZG, fdiv_eq_ediv_of_nonneg → ZP, pow_succ → _o
open _root_.ByteArray renaming size_extract → Y7
section
open Go.Proofs
theorem eA {P:Program}{w:World}{dT sT e:TypeId}{ie:TypeInfo}{sz g o dl dc sl sc:Nat}{a:Addr}{cur:Array Value}{E:TypeId}(ys:List Value)
 (ht:P.underlying dT=some (.slice e)) (hi:P.info? e=some ie) (cM:ie.size=sz) (hn:ys.length=ZS sl dl*sz) (sE:∀j u,ys[j]? =some u→w.cell? (a.add j)=some u) (h1:∀u∈ys,u.oneCell'=true)
 (hh:w.heap[g]? =some (.cells cur E (0,0))) (ho:o+ys.length≤cur.size) (ty:TypeId):
 (Builtin.copy_ #[dT,sT] ty #[.slice (some ⟨g,o,none⟩) dl dc,.slice (some a) sl sc]).run P w= .ok (goInt (ZS sl dl)) (w.setRow g (av cur.toList o ys).toArray):=by
 have T5:=run_firstCells_some (P:=P) w sz (ZS sl dl) a sl sc ys hn sE;have fU:=run_storeCells_at P g o E ys 0 cur w hh (by simp;omega) h1;have pX:(storeCells ⟨g,o,none⟩ ys).run P w= .ok () (w.setRow g (av cur.toList o ys).toArray):=by
  rw[fU];simp[av]
 simp[Builtin.copy_,run_underlying ht,Builtin.lenOf,sizeOf,typeInfo,hi,cM,T5,pX]
theorem jh {P:Program}(w:World){ops:Array Oper}{rest:List Oper}{o:Oper}{a:Act}{Q:Exit→Act→World→Prop}(WC:o.guard=none)(d s:Operand)(t t':TypeId)
 (ho:o.op= .call {callee:= .builtin .copy,args:=#[d,s],argTypes:=#[t,t']}) (v u:Value) (hd:a.eval d=v) (hs:a.eval s=u) {v':Value}{w':World}
 (hr:(Builtin.copy_ #[t,t'] o.type #[v,u]).run P w= .ok v' w') (h:wpList P ops Q rest (a.put o.dst v') w'):wpList P ops Q (o::rest) a w:=
 wpList_plain WC fun _ hK=>by
  unfold Oper.wp;simp only[execOp,ho,resolve,invoke,builtin,Sem.run_bind,Sem.run_pure,Result.andThen_ok,List.map_toArray,Xm,Xx,hd,hs,hr];exact hK _ _ h
theorem lN {P:Program}{ops:Array Oper}{o:Oper}{a:Act}{w:World}{K:Act→World→Prop}{Q:Exit→Act→World→Prop}{E:Prop}(hg:o.guard=none)(d x:Operand)(dT sT:TypeId)
 (l9:o.op=Op.call {callee:=Callee.builtin Builtin.copy,args:=#[d,x],argTypes:=#[dT,sT]}) (v u:Value) (hd:a.eval d=v) (hx:a.eval x=u) {v':Value}{w':World}
 (hr:(Builtin.copy_ #[dT,sT] o.type #[v,u]).run P w= .ok v' w') (hK:K (a.put o.dst v') w'):if Region.wanted o (yielded ops a.tmps)=true then Oper.wp P o a w K Q else E:=by
 have hw:Region.wanted o (yielded ops a.tmps)=true:=by simp[Region.wanted,hg]
 rw[if_pos hw];unfold Oper.wp;simp only[execOp,l9,resolve,invoke,builtin,Sem.run_bind,Sem.run_pure,Result.andThen_ok,List.map_toArray,Xm,Xx,hd,hx,hr];exact hK
theorem qg {P:Program}(w:World){ops:Array Oper}{rest:List Oper}{o:Oper}{a:Act}{Q:Exit→Act→World→Prop}(WC:o.guard=none)(d s:Operand)(t t':TypeId)
 (ho:o.op= .call {callee:= .builtin .append,args:=#[d,s],argTypes:=#[t,t']}) (v u:Value) (hd:a.eval d=v) (hs:a.eval s=u) {v':Value}{w':World}
 (hr:(Builtin.append_ #[t,t'] o.type #[v,u]).run P w= .ok v' w') (h:wpList P ops Q rest (a.put o.dst v') w'):wpList P ops Q (o::rest) a w:=
 wpList_plain WC fun _ hK=>by
  unfold Oper.wp;simp only[execOp,ho,resolve,invoke,builtin,Sem.run_bind,Sem.run_pure,Result.andThen_ok,List.map_toArray,Xm,Xx,hd,hs,hr];exact hK _ _ h
theorem mN {P:Program}(w:World)(tS tR e:TypeId)(ht:P.underlying tS=some (.slice e))(size:Nat)(hz:∀w,(Go.sizeOf e).run P w= .ok size w)(a b:Addr)(la ca lb cb:Nat)(bH:a.block≠b.block)(sA:TypeId × Nat)(Ko:w.shape? a.block=some sA)(KL:sA.2≠0)
 (cur:Array Value) (E:TypeId) (hb:w.heap[b.block]? =some (.cells cur E (0,0))) (hc:cur.size≠0):
 (Extern.SlicesOverlaps.overlaps #[tS,tS] #[tR] #[.slice (some a) la ca,.slice (some b) lb cb]).run P w= .ok (.bool false) w:=by
 have VG:(a.block !=b.block)=true:=by simpa using bH
 have a0D:(a.block==b.block)=false:=by simpa using bH
 have sx:w.shape? b.block=some (E,cur.size):=by simp[World.shape?,hb]
 have oe:∀o,w.frozen? ⟨b.block,o,none⟩=false:=fun o=>by simp[World.frozen?,hb]
 have a0E:w.frozen? b=false:=by simp[World.frozen?,hb]
 obtain⟨k,hk⟩:∃k,cur.size=k+1:=⟨cur.size - 1,by omega⟩;rw[hk]at sx;change Sem.run P (α:=Value) (do
  let some t:=(#[tS,tS]:Array TypeId)[0]? |stuck "slices.overlaps: no parameter types"
  let .slice elem ←underlying t|stuck "slices.overlaps: slice type expected"
  let size ←sizeOf elem
  match (some a:Option Addr),(some b:Option Addr)with
  |some a,some b=>
   if la=0∨lb=0∨size=0 then pure (Value.bool false)
   else if a.block !=b.block&&(←frozen a)&&(←frozen b)then unsupported .addressObserved
   else do
    if a.block !=b.block then do
     noView a;noView b
     if ←mayBeOne a b then return Value.bool ((←choose (.extern "sameAddr.stringBytes" 2))==1)
    pure (Value.bool (a.block==b.block&&a.off < b.off+lb*size&&b.off < a.off+la*size))
  |_,_=>pure (Value.bool false)) w=_
 by_cases h0:la=0∨lb=0∨size=0
 ·simp[run_underlying ht,hz,h0]
 ·obtain⟨tA,nA⟩:=sA;obtain⟨q,rfl⟩:∃q,nA=q+1:=⟨nA - 1,by simp at KL;omega⟩;cases sL:w.frozen? a<;>cases a0F:w.frozen? ⟨a.block,q+1,none⟩<;>
   simp[run_underlying ht,hz,h0,VG,a0D,frozen,noView,viewAt,mayBeOne,stringish,shape,Sem.run,Ko,sx,sL,a0F,oe,a0E]
def Bj (w:World)(E g sz n:Nat)(zs:List Value)(e:Ending)(w':World):Prop:=
 ∃(G:Nat) (R:List Value),n+1≤G∧G≤9223372036854775807∧R.length=G*sz∧R.take ((n+1)*sz)=zs∧e= .returned (.slice (some ⟨w.heap.size,0,none⟩) (n+1) G)∧OneB w w' (some g)∧w'.heap[w.heap.size]? =some (.cells R.toArray E (0,0))
theorem mO {w:World}{g:Nat}{cur:Array Value}{E:TypeId}(hh:w.heap[g]? =some (.cells cur E (0,0)))(o:Nat):w.cell? ⟨g,o,none⟩=cur[o]? :=by
 simp[YQ,hh]
def Ti (w:World)(E sz g n:Nat)(zs:List Value)(e:Ending)(w':World):Prop:=
 ∃v',e= .returned v'∧OwnV w' E sz v' n zs∧OneB w w' (some g)∧(cQ v'=some g∨∀b,cQ v'=some b→w.heap.size≤b)
theorem uu {w:World}{b o:Nat}{u:Value}(h:w.cell? ⟨b,o,none⟩=some u):∃sA,w.shape? b=some sA∧sA.2≠0:=by
 cases hb:w.heap[b]? with
 |none=>simp[YQ,hb]at h
 |some ob=>
  cases ob with
  |cells c e f=>
   have h':c[o]? =some u:=by simpa[YQ,hb]using h
   have:=(Yq.1 h').1;exact⟨(e,c.size),by simp[World.shape?,hb],by simp only;omega⟩
  |_=>simp[YQ,hb]at h
theorem MV {P:Program}{f E sz g i:Nat}{rows:List (List D)}{x:List D}(RU:vR P f)(BQ:0 < sz)(hi:i < rows.length)
 (raw:∀(w:World) (gb cap vb vo vc:Nat) (cur:Array Value) (xs ys:List Value),w.heap[gb]? =some (.cells cur E (0,0))→cap≤maxLen→rows.length≤cap→cur.size=cap*sz→xs.length=rows.length*sz→cur.toList.take (rows.length*sz)=xs→(∀u∈xs,u.oneCell'=true)→
  ys.length=sz→(∀u∈ys,u.oneCell'=true)→vb≠gb→(∀j u,ys[j]? =some u→w.cell? ⟨vb,vo+j,none⟩=some u)→
  Calls P f #[.slice (some ⟨gb,0,none⟩) rows.length cap,.int .i64 i,.slice (some ⟨vb,vo,none⟩) 1 vc] w (Ti w E sz gb (rows.length+1) (xs.take (i*sz)++ys++xs.drop (i*sz)))):
 MSpec P f [.own 0 g,.d (.v (.int .i64 i)),.d (.sl sz [x])] [.row E sz g (ab rows)] (.own 0 (g+1)) [.row E sz (g+1) (ab (rows.take i++x::rows.drop i))]:=by
 refine⟨RU,XC _,by simp[ai,aj],by simp[az,aH,aq],fun X hP hn hm w c vs hr kg=>?_⟩;have aT:=kg.1;match vs,aT with
 |[v0,v1,v2],_=>
  have r0:=kg.2 0 _ v0 rfl rfl;have r1:=bS (kg.2 1 _ v1 rfl rfl);have r2:=bS (kg.2 2 _ v2 rfl rfl);have bH:ab rows≠[]:=fun e=>by
   have:rows.length=0:=by rw[←aC rows,e];rfl
   omega
  have bD:=hr.chunk 0;cases r0 with
  |own _ _ _ ed h1=>
   obtain⟨gb,cap,rfl⟩:=ml bD ed bH;obtain⟨cur,xs,q1,q2,q3,q4,q5,q6,q7,q8,q9,q10,q11⟩:=dV bD ed bH;have OQ:=bj.one q2 (fun d hd=>by obtain⟨r,hr,hd⟩:=Z5.1 hd;exact q6 r hr d hd);rw[aC]at q3 q4 q8 q10 ed ⊢;cases r1;have hMg:c.M gb:=(hr.mu gb).2 (.inr ⟨0,by
    have tU:0 < cap:=by omega
    simp only[bG,aw,Cx.block,ed,YW];exact cF tU⟩)
   have Kz:cur.toList.take (rows.length*sz)=xs:=by
    apply Yh;intro j;by_cases hj:j < rows.length*sz
    ·rw[XQ hj,X2,q4 j hj]
    ·rw[XN (by rw[Xp];omega),XN (by omega)]
   cases r2 with
   |sl _ _ vb vo vc ff hM hb hc' hm' hr' h1' bY aY=>
    obtain⟨ys,y1,-,y2,y3,y4,y5,y6⟩:=vO (w:=w) BQ (RepD.sl (M:=c.M) sz [x] vb vo vc ff hM hb hc' hm' hr' h1' bY aY);have y1':ys.length=sz:=by simpa using y1
    have iD:=raw w gb cap vb vo vc cur xs ys q1 q9 q10 q11 q3 Kz OQ y1' y4 (fun e=>hM (e ▸ hMg)) (fun j u hj=>by have:=y3 j u hj;rwa [Addr.add_lit]at this);refine iD.mono fun e w' ⟨v',he,bt,di,jg⟩=>?_;have GM:∀r∈ab (rows.take i++x::rows.drop i),r.length=sz:=fun r hr=>by
     obtain⟨q,hq,rfl⟩:=gI hr;rw[XF];rcases X4.1 hq with h|h
     ·have:=q5 (q.map .d) (XH.2 ⟨q,Yc h,rfl⟩);simpa using this
     ·rcases XY.1 h with rfl|h
      ·exact y5 _ (by simp)
      ·have:=q5 (q.map .d) (XH.2 ⟨q,Yb h,rfl⟩);simpa using this
    have Up:∀r∈ab (rows.take i++x::rows.drop i),∀d∈r,d.one=true:=fun r hr d hd=>by
     obtain⟨q,hq,rfl⟩:=gI hr;rcases X4.1 hq with h|h
     ·exact q6 (q.map .d) (XH.2 ⟨q,Yc h,rfl⟩) d hd
     ·rcases XY.1 h with rfl|h
      ·obtain⟨y,hy,rfl⟩:=XH.1 hd;exact y6 _ (by simp) y hy
      ·exact q6 (q.map .d) (XH.2 ⟨q,Yb h,rfl⟩) d hd
    have hflat:(ab (rows.take i++x::rows.drop i)).flatten=((ab rows).flatten.take (i*sz))++x.map .d++((ab rows).flatten.drop (i*sz)):=by
     rw[←ic q5,←jY q5];simp only[ab,Xz,Xm,L',YE,Zz,List.map_drop,XT]
    have pm:bj c w (ab (rows.take i++x::rows.drop i)).flatten (xs.take (i*sz)++ys++xs.drop (i*sz)):=by
     rw[hflat];refine sU (sU ?_ ?_) ?_
     ·have:=q2.part 0 (i*sz);simpa using this
     ·have:=pu y2;simpa using this
     ·have:=q2.part (i*sz) xs.length;rw[XI (by rw[XS,q2.1];omega),XI (by rw[XS];omega)]at this;exact this
    have tU:0 < cap:=by omega
    obtain⟨c',s1,s2⟩:=hr.set_row (k:=0) (rows':=ab (rows.take i++x::rows.drop i)) (v':=v') rfl ed (by rw[cF tU];exact di) (by
     have:(ab (rows.take i++x::rows.drop i)).length=rows.length+1:=by rw[aC,Xt,Xp,XD,XS];omega
     rw[this];exact bt) (by rw[cF tU];exact jg) pm GM Up
    have mZ:cz [(0,Chunk.row E sz (g+1) (ab (rows.take i++x::rows.drop i)))] (bG [] [.row E sz g (ab rows)]).heap=aw [.row E sz (g+1) (ab (rows.take i++x::rows.drop i))]:=by
     funext k;rw[ry];cases k with
     |zero=>rfl
     |succ k=>rfl
    rw[mZ]at s1;exact⟨v',c',he,s2,s1⟩
theorem DR {sz n i:Nat}{cur:List Value}{xs ys:List Value}(hn:n < i+1+n)(hi:i < n)(hc:(n+1)*sz≤cur.length)(hl:xs.length=n*sz)(va:ys.length=sz)(ht:cur.take (n*sz)=xs):
 (av (av cur ((i+1)*sz) (xs.drop (i*sz))) (i*sz) ys).take ((n+1)*sz)=xs.take (i*sz)++ys++xs.drop (i*sz)∧(av (av cur ((i+1)*sz) (xs.drop (i*sz))) (i*sz) ys).length=cur.length:=by
 have h1:i*sz≤n*sz:=Yo sz (by omega);have h2:(i+1)*sz=i*sz+sz:=YI i sz;have h3:(n+1)*sz=n*sz+sz:=YI n sz;have rh:(xs.drop (i*sz)).length=n*sz - i*sz:=by rw[XS,hl]
 have hA:(av cur ((i+1)*sz) (xs.drop (i*sz))).length=cur.length:=aR (by omega);have hB:(av (av cur ((i+1)*sz) (xs.drop (i*sz))) (i*sz) ys).length=cur.length:=by rw[aR (by omega)];exact hA
 refine⟨?_,hB⟩;apply Yh;intro q;by_cases hq:q < (n+1)*sz
 ·rw[XQ hq,gH (by omega),gH (by omega)];by_cases c1:q < i*sz
  ·rw[if_neg (by omega),if_neg (by omega),XT,X5 (by rw[Xp];omega),XQ c1,←ht,XQ (by omega)]
  ·by_cases c2:q < i*sz+sz
   ·rw[if_pos (by omega),XT,XP (by rw[Xp];omega),X5 (by rw[Xp];omega),Xp];congr 1;omega
   ·rw[if_neg (by omega),if_pos (by omega),XP (by rw[Xt,Xp];omega)];congr 1;rw[Xt,Xp];omega
 ·rw[XN (by rw[Xp];omega),XN (by simp only[Xt,Xp,rh];omega)]
theorem pk:(prog.info? 96).map (fun i=>(i.zero,i.size,i.bytes))=some (some (.agg #[.int .i64 0,.int .i64 0,.int .i64 0,.int .i64 0,.int .i64 0]),5,40):=by kernel_rfl
theorem wX (g cap n i vb vo vc:Nat)(cur:Array Value)(xs ys:List Value)(w:World)(hh:w.heap[g]? =some (.cells cur 96 (0,0)))(hm:cap≤9223372036854775807)(hs:cur.size=cap*5)(hl:xs.length=n*5)(ht:cur.toList.take (n*5)=xs)
 (oh:∀u∈xs,u.oneCell'=true) (hi:i < n) (gZ:n+1≤cap) (va:ys.length=5) (RJ:∀u∈ys,u.oneCell'=true) (Sq:vb≠g) (EM:∀j u,ys[j]? =some u→w.cell? ⟨vb,vo+j,none⟩=some u)
 (sA:TypeId × Nat) (Ko:w.shape? vb=some sA) (KL:sA.2≠0):
 Calls prog 241 #[.slice (some ⟨g,0,none⟩) n cap,.int .i64 i,.slice (some ⟨vb,vo,none⟩) 1 vc] w fun e w'=>
  e= .returned (.slice (some ⟨g,0,none⟩) (n+1) cap)∧w'=(w.drew.setRow g (av cur.toList ((i+1)*5) (xs.drop (i*5))).toArray).setRow g (av (av cur.toList ((i+1)*5) (xs.drop (i*5))) (i*5) ys).toArray:=by
 obtain⟨i0,p3,Au,nZ,uZ⟩:=info_parts pk;have al:prog.follows .mixedOrders=true:=by kernel_rfl
 have BP:(i:Int)+1=((i+1:Nat):Int):=by omega
 obtain⟨j,hj⟩:∃j,j=i+1:=⟨_,rfl⟩;obtain⟨m,GN⟩:∃m,m=n+1:=⟨_,rfl⟩;have cM:∀w,(sizeOf 96).run prog w= .ok 5 w:=fun w=>by simp[sizeOf,typeInfo,p3,nZ]
 have ed:∀lb cb,(callFunc 281 #[.slice (some ⟨vb,vo,none⟩) 1 vc,.slice (some ⟨g,j*5,none⟩) lb cb]).run prog w= .ok (.value (.bool false)) w:=fun lb cb=>by
  rw[run_callFunc_extern (fn:=f281) (by kernel_rfl) (by kernel_rfl) (by kernel_rfl) (by kernel_rfl) (e:=Extern.SlicesOverlaps.overlaps #[81,81] #[4]) (by kernel_rfl),
   mN w 81 4 96 underlying81 5 cM ⟨vb,vo,none⟩ ⟨g,j*5,none⟩ 1 vc lb cb Sq sA Ko KL cur 96 hh (by omega)]
  rfl
 have rh:(xs.drop (i*5)).length=(n - i)*5:=by rw[XS,hl];omega
 have ji:∀q u,xs[q]? =some u→cur[q]? =some u:=fun q u hq=>by
  rw[←ht,Zk]at hq;split at hq
  ·rwa [X2]at hq
  ·cases hq
 obtain⟨C1,za⟩:∃C1:Array Value,C1=(av cur.toList (j*5) (xs.drop (i*5))).toArray:=⟨_,rfl⟩;have t6:C1.size=cap*5:=by rw[za,YB,aR (by simp;omega)];simpa using hs
 obtain⟨W1,ri⟩:∃W1,W1=w.drew.setRow g C1:=⟨_,rfl⟩;have GP:∀ty dc sc,(Builtin.copy_ #[81,81] ty #[.slice (some ⟨g,j*5,none⟩) (m - j) dc,.slice (some ⟨g,i*5,none⟩) (m - i) sc]).run prog w.drew= .ok (goInt (ZS (m - i) (m - j))) W1:=fun ty dc sc=>by
  rw[ri,za];exact eA (e:=96) (sz:=5) (xs.drop (i*5)) underlying81 p3 nZ (by rw[rh,show ZS (m - i) (m - j)=n - i from (by simp only[C'];split<;>omega)]) (fun q u hq=>by
   rw[Addr.add_lit,mO (w:=w.drew) hh];rw[Yk]at hq;have:=ji _ u hq;rw[←this]) (fun u hu=>oh u (Yb hu)) (w:=w.drew) hh (by rw[rh,hs];omega) ty
 have xX:W1.heap[g]? =some (.cells C1 96 (0,0)):=by rw[ri];exact setRow_heap _ g _ _ _ _ hh
 have GQ:∀(W:World),W=W1→∀ty dc,(Builtin.copy_ #[81,81] ty #[.slice (some ⟨g,i*5,none⟩) (m - i) dc,.slice (some ⟨vb,vo,none⟩) 1 vc]).run prog W= .ok (goInt (ZS 1 (m - i))) (W1.setRow g (av C1.toList (i*5) ys).toArray):=fun W hW ty dc=>by
  subst hW;exact eA (e:=96) (sz:=5) ys underlying81 p3 nZ (by rw[va,show ZS 1 (m - i)=1 from (by simp only[C'];split<;>omega)]) (fun q u hq=>by
   rw[Addr.add_lit,ri];have:=EM q u hq;rw[←this];exact Zn (a:=⟨vb,vo+q,none⟩) (by rw[setRow_other _ _ _ _ Sq];rfl)) RJ xX (by rw[va,t6];omega) ty
 have bV:IntKind.i64.wrap ((i:Int)+1)=(j:Int):=by rw[IntKind.wrap_i64];omega
 have cI:IntKind.i64.wrap ((n:Int)+1)=(m:Int):=by rw[IntKind.wrap_i64];omega
 have bZ:Hid (W1.setRow g (av C1.toList (i*5) ys).toArray=(w.drew.setRow g (av cur.toList ((i+1)*5) (xs.drop (i*5))).toArray).setRow g (av (av cur.toList ((i+1)*5) (xs.drop (i*5))) (i*5) ys).toArray):=by
  show W1.setRow g (av C1.toList (i*5) ys).toArray=_;rw[ri,za,hj]
 have Uq:¬((i:Int)=(n:Int)):=by omega
 have pT:i≤n:=by omega
 have nQ:¬(cap=j):=by omega
 have Sv:¬(cap=i):=by omega
 have hb4:j≤m:=by omega
 have hb5:i≤m:=by omega
 have hb6:m≤cap:=by omega
 have hb7:¬((cap:Int) < (m:Int)):=by omega
 rw[←GN];have KH:=Xk hj;have jk:=Xk GN;have hW:=Xk ri;have hC:=Xk za;clear hj GN ri za ht hl hs va t6 rh ji BP xX Au nZ uZ hh;go_enter func241,ntmps241
 go_wp2_with (simp only[ed])
 go_region_law_o (refine lN rfl _ _ 81 81 rfl _ _ (by simp[Act.eval,Act.put]) (by simp[Act.eval,Act.put]) (GP _ _ _) ?_)
 go_wp2_with (at_builtin;refine jh _ rfl _ _ 81 81 rfl _ _ rfl rfl (GQ _ rfl _ _) ?_)
 go_ret
 exact⟨rfl,bZ.out⟩
theorem wY (g cap n i vb vo vc:Nat)(cur:Array Value)(xs ys:List Value)(w:World)(hh:w.heap[g]? =some (.cells cur 96 (0,0)))(hm:cap≤1000000000)(KE:n≤cap)(hs:cur.size=cap*5)(hl:xs.length=n*5)(ht:cur.toList.take (n*5)=xs)
 (oh:∀u∈xs,u.oneCell'=true) (hi:i < n) (gZ:¬n+1≤cap) (va:ys.length=5) (RJ:∀u∈ys,u.oneCell'=true) (EM:∀j u,ys[j]? =some u→w.cell? ⟨vb,vo+j,none⟩=some u):
 Calls prog 241 #[.slice (some ⟨g,0,none⟩) n cap,.int .i64 i,.slice (some ⟨vb,vo,none⟩) 1 vc] w (Bj w 96 g 5 n (xs.take (i*5)++ys++xs.drop (i*5))):=by
 obtain⟨i0,p3,Au,nZ,uZ⟩:=info_parts pk;have al:prog.follows .mixedOrders=true:=by kernel_rfl
 obtain⟨j,hj⟩:∃j,j=i+1:=⟨_,rfl⟩;obtain⟨m,GN⟩:∃m,m=n+1:=⟨_,rfl⟩;obtain⟨k,hk⟩:∃k,k=m - i:=⟨_,rfl⟩;obtain⟨B,hB⟩:∃B,B=w.heap.size:=⟨_,rfl⟩;have hgB:g < B:=by rw[hB];exact mr hh
 have OL:vb < B:=by
  obtain⟨u,hu⟩:∃u,ys[0]? =some u:=⟨_,Xj (by omega)⟩;have:=EM 0 u hu;rw[hB];rcases XO vb w.heap.size with h|h
  ·exact h
  ·simp[YQ,Yj h]at this
 have ji:∀q u,xs[q]? =some u→cur[q]? =some u:=fun q u hq=>by
  rw[←ht,Zk]at hq;split at hq
  ·rwa [X2]at hq
  ·cases hq
 have hold:(Builtin.firstCells i0.size i (.slice (some ⟨g,0,none⟩) i cap)).run prog w.drew= .ok (xs.take (i*5)).toArray w.drew:=by
  rw[nZ];exact run_firstCells_some w.drew 5 i ⟨g,0,none⟩ i cap (xs.take (i*5)) (by rw[Xp];omega) (fun q u hq=>by
   rw[Addr.add_lit,mO (w:=w.drew) hh,XK];rw[Zk]at hq;split at hq
   ·exact ji q u hq
   ·cases hq)
 obtain⟨G,hG⟩:∃G,G=grownCap w (i+k) cap 96:=⟨_,rfl⟩;have Ur:i+k=m:=by omega
 have hGm:m≤G:=by rw[hG,Ur];exact grownCap_ge w _ _ _
 have Us:G≤9223372036854775807:=by
  have:=grownCap_le_maxLen w (i+k) cap 96 (by unfold maxLen;omega);rw[←hG]at this;unfold maxLen at this;omega
 obtain⟨C0,RV⟩:∃C0:Array Value,C0=(xs.take (i*5)).toArray++Builtin.zeroCells (Value.agg #[.int .i64 0,.int .i64 0,.int .i64 0,.int .i64 0,.int .i64 0]).cells k++Builtin.zeroCells (Value.agg #[.int .i64 0,.int .i64 0,.int .i64 0,.int .i64 0,.int .i64 0]).cells (G - m):=⟨_,rfl⟩;have WD:∀ty,(Builtin.append_ #[81,3] ty #[.slice (some ⟨g,0,none⟩) i cap,.int .i64 ((m:Int) - (i:Int))]).run prog w= .ok (.slice (some ⟨B,0,none⟩) m G) (w.drew.alloc (.cells C0 96)):=fun ty=>by
  have hz:=Lib.run_append_grow_zeros (P:=prog) w 81 3 ty 96 i0 _ .i64 .i64 underlying81 underlying3 p3 Au (some ⟨g,0,none⟩) i cap (xs.take (i*5)) hold k (by omega) (by omega) (by omega) (by omega) (by rw[uZ];omega) (by rw[uZ];exact growslice_fits (by omega) (by omega));rw[←hG,Ur,←hB]at hz;rw[show (m:Int) - (i:Int)=(k:Int) by omega,hz,RV]
 have GR:C0.size=G*5:=by
  rw[RV];simp[Builtin.zeroCells,Value.cells];omega
 obtain⟨W0,E4⟩:∃W0,W0=w.drew.alloc (.cells C0 96):=⟨_,rfl⟩;rw[←E4]at WD;have Ut:W0.heap[B]? =some (.cells C0 96 (0,0)):=by rw[E4,hB];exact jm w.drew _
 have x9:∀b,b < B→W0.heap[b]? =w.heap[b]? :=fun b hb=>by
  rw[E4];simp only[World.alloc,Array.getElem?_push];rw[if_neg (by show ¬b=w.heap.size;omega)];rfl
 obtain⟨C1,za⟩:∃C1:Array Value,C1=(av C0.toList (i*5) ys).toArray:=⟨_,rfl⟩;have t6:C1.size=G*5:=by rw[za,YB,aR (by simp;omega)];simpa using GR
 obtain⟨W1,ri⟩:∃W1,W1=W0.setRow B C1:=⟨_,rfl⟩;have GP:∀ty dc,(Builtin.copy_ #[81,81] ty #[.slice (some ⟨B,i*5,none⟩) (m - i) dc,.slice (some ⟨vb,vo,none⟩) 1 vc]).run prog W0= .ok (goInt (ZS 1 (m - i))) W1:=fun ty dc=>by
  rw[ri,za];exact eA (e:=96) (sz:=5) ys underlying81 p3 nZ (by rw[va,show ZS 1 (m - i)=1 from (by simp only[C'];split<;>omega)]) (fun q u hq=>by
   rw[Addr.add_lit];rw[←EM q u hq];exact Zn (a:=⟨vb,vo+q,none⟩) (x9 vb OL)) RJ Ut (by rw[va,GR];omega) ty
 have xX:W1.heap[B]? =some (.cells C1 96 (0,0)):=by rw[ri];exact setRow_heap _ B _ _ _ _ Ut
 have ya:∀b,b < B→W1.heap[b]? =w.heap[b]? :=fun b hb=>by rw[ri,setRow_other _ _ _ _ (by omega)];exact x9 b hb
 have rh:(xs.drop (i*5)).length=(n - i)*5:=by rw[XS,hl];omega
 have GQ:∀ty dc sc,(Builtin.copy_ #[81,81] ty #[.slice (some ⟨B,j*5,none⟩) (m - j) dc,.slice (some ⟨g,i*5,none⟩) (n - i) sc]).run prog W1.drew= .ok (goInt (ZS (n - i) (m - j))) (W1.drew.setRow B (av C1.toList (j*5) (xs.drop (i*5))).toArray):=fun ty dc sc=>by
  exact eA (e:=96) (sz:=5) (xs.drop (i*5)) underlying81 p3 nZ (by rw[rh,show ZS (n - i) (m - j)=n - i from (by simp only[C'];split<;>omega)]) (fun q u hq=>by
   rw[Addr.add_lit,mO (w:=W1.drew) (show W1.heap[g]? =_ from (ya g hgB).trans hh)];rw[Yk]at hq;have:=ji _ u hq;rw[←this]) (fun u hu=>oh u (Yb hu)) (w:=W1.drew) xX (by rw[rh,t6];omega) ty
 have hR:Hid (∀e,e=Ending.returned (.slice (some ⟨B,0,none⟩) m G)→Bj w 96 g 5 n (xs.take (i*5)++ys++xs.drop (i*5)) e (W1.drew.setRow B (av C1.toList (j*5) (xs.drop (i*5))).toArray)):=by
  intro e he;refine⟨G,av C1.toList (j*5) (xs.drop (i*5)),by omega,Us,?_,?_,by rw[he,hB,GN],?_,?_⟩
  ·rw[aR (by rw[rh];simp;omega)];simpa using t6
  ·rw[za,Y3];have e1:C0.toList.take (i*5)=xs.take (i*5):=by
    rw[RV];simp only[N',XT];rw[Yp (by simp;omega),XI (by rw[Xp];omega)]
   rw[show (n+1)*5=j*5+(xs.drop (i*5)).length by rw[rh];omega];unfold av;rw[Yp (by simp;omega),XI (by simp;omega)];congr 1;rw[e1,Yp (by simp;omega),XI (by simp;omega)]
  ·refine⟨?_,?_,?_,?_,fun b hb _=>?_⟩
   ·rw[ri,E4];rfl
   ·rw[ri,E4];rfl
   ·rw[ri,E4];rfl
   ·rw[ri,E4];simp[ZK]
   ·rw[setRow_other _ _ _ _ (by omega)];exact ya b (by omega)
  ·rw[←hB];exact setRow_heap W1.drew B _ _ _ _ xX
 have bV:IntKind.i64.wrap ((i:Int)+1)=(j:Int):=by rw[IntKind.wrap_i64];omega
 have cI:IntKind.i64.wrap ((n:Int)+1)=(m:Int):=by rw[IntKind.wrap_i64];omega
 have pP:IntKind.i64.wrap ((m:Int) - (i:Int))=(m:Int) - (i:Int):=by rw[IntKind.wrap_i64];omega
 have Uq:¬((i:Int)=(n:Int)):=by omega
 have pT:i≤n:=by omega
 have nQ:¬(G=j):=by omega
 have Sv:¬(G=i):=by omega
 have hb4:j≤m:=by omega
 have hb5:i≤m:=by omega
 have hb6:i≤cap:=by omega
 have hb7:(cap:Int) < (m:Int):=by omega
 have Xh:¬(cap=i):=by omega
 have hb9:j≤G:=by omega
 have a0G:i≤G:=by omega
 clear hold GR t6 rh va hl hs ht hh Ut xX x9 ya ji Ur Au nZ uZ hG E4 ri RV za hk hj GN hB gZ;go_enter func241,ntmps241
 go_wp2_with (at_builtin;first|refine qg _ rfl _ _ 81 3 rfl _ _ rfl rfl (WD _) ?_|refine jh _ rfl _ _ 81 81 rfl _ _ rfl rfl (GP _ _) ?_)
 go_region_law_o (refine lN rfl _ _ 81 81 rfl _ _ (by simp[Act.eval,Act.put]) (by simp[Act.eval,Act.put]) (GQ _ _ _) ?_)
 go_wp2_with fail
 go_ret
 exact hR.out _ rfl
theorem Bk (l:List Lse)(x:Lse)(i g:Nat)(hi:i≤l.length)(hl:l.length≤1000000):
 MSpec prog 241 [.own 0 g,.d (.v (.int .i64 i)),.d (.sl 5 [aQ x])] [.row 96 5 g (ab (l.map aQ))] (.own 0 (g+1)) [.row 96 5 (g+1) (ab ((l.take i++x::l.drop i).map aQ))]:=by
 rcases XO i l.length with hlt|hge
 ·have h1:=MV (P:=prog) (f:=241) (E:=96) (sz:=5) (g:=g) (i:=i) (rows:=l.map aQ) (x:=aQ x) (bU func241 (by kernel_rfl) rfl) (by omega) (by simpa using hlt) (by
   simp only[XF];intro w gb cap vb vo vc cur xs ys q1 q2 q3 q4 q5 q6 q7 q8 q9 q10 q11;obtain⟨u,hu⟩:∃u,ys[0]? =some u:=⟨_,Xj (by omega)⟩;obtain⟨sA,Ko,KL⟩:=uu (q11 0 u hu);unfold maxLen at q2;by_cases gZ:l.length+1≤cap
   ·refine(wX gb cap l.length i vb vo vc cur xs ys w q1 (by omega) q4 q5 q6 q7 hlt gZ q8 q9 q10 q11 sA Ko KL).mono ?_;rintro e w' ⟨rfl,rfl⟩;obtain⟨t1,t2⟩:=DR (sz:=5) (n:=l.length) (i:=i) (cur:=cur.toList) (xs:=xs) (ys:=ys) (by omega) hlt (by simp;omega) q5 q8 q6;have V8:(w.drew.setRow gb (av cur.toList ((i+1)*5) (xs.drop (i*5))).toArray).heap[gb]? =some (.cells (av cur.toList ((i+1)*5) (xs.drop (i*5))).toArray 96 (0,0)):=setRow_heap _ gb _ _ _ _ q1;refine⟨_,rfl,.row gb (l.length+1) cap _ _ (by omega) (setRow_heap _ gb _ _ _ _ V8) gZ q2 (by rw[YB,t2];simpa using q4) (by rw[←t1,Xp,t2];simp;omega) (by rw[Y3];exact t1),⟨rfl,rfl,rfl,by simp[ZK],fun b hb bH=>?_⟩,.inl (cF (by omega))⟩;have cK:b≠gb:=fun e=>bH (by rw[e]);rw[setRow_other _ _ _ _ cK,setRow_other _ _ _ _ cK];rfl
   ·refine(wY gb cap l.length i vb vo vc cur xs ys w q1 (by omega) q3 q4 q5 q6 q7 hlt gZ q8 q9 q11).mono ?_;rintro e w' ⟨G,R,h1,h2,h3,h4,rfl,h6,h7⟩;exact⟨_,rfl,.row w.heap.size (l.length+1) G R.toArray _ (by omega) h7 h1 h2 (by simpa using h3) (by rw[←h4,Xp,h3];omega) (by simpa using h4),h6,.inr fun b hb=>by rw[cF (by omega)]at hb;cases hb;exact XC _⟩)
  rw[Xz,Zz,Xm,List.map_drop];exact h1
 ·obtain rfl:i=l.length:=by omega
  rw[Xq,Zf];by_cases h0:l=[]
  ·subst h0;refine mj func241 ntmps241 results241 ?_;repeat' (first|(with_reducible refine And.intro ?_ ?_)|(with_reducible refine dO (fun _=>?_) (fun _=>?_))|(with_reducible refine aN (fun _=>?_) (fun _=>?_))|(with_reducible refine cg (by kernel_rfl))|simp -dsimp only[go_sem,seval, *,aQ,ab,XJ]|((with_reducible refine ci ?_);simp -dsimp only[go_sem,seval,aQ,ab,XJ];first|refine aP (by first|assumption|fail) (by first|exact .inl rfl|exact .inr rfl) ?_|refine aO (by assumption) (by repeat(first|exact ap.refl _|exact ap.nil _|(refine ap.tup ?_)|(refine ap.agg ?_ rfl)|exact trivial|(refine And.intro ?_ ?_))) (by first|exact .inl rfl|exact .inr rfl) ?_)|omega|exact decide_eq_true (by omega)|exact ap.refl _)
   all_goals exact aV rfl rfl
  ·have bH:¬ab (l.map aQ)=[]:=by simpa[ab]using h0
   refine mj func241 ntmps241 results241 ?_;repeat' (first|(with_reducible refine And.intro ?_ ?_)|(with_reducible refine dO (fun _=>?_) (fun _=>?_))|(with_reducible refine aN (fun _=>?_) (fun _=>?_))|(with_reducible refine cg (by kernel_rfl))|simp -dsimp only[go_sem,seval, *,aQ,XJ]|((with_reducible refine ci ?_);simp -dsimp only[go_sem,seval,aQ,XJ];first|refine aP (by first|assumption|fail) (by first|exact .inl rfl|exact .inr rfl) ?_|refine aO (by assumption) (by repeat(first|exact ap.refl _|exact ap.nil _|(refine ap.tup ?_)|(refine ap.agg ?_ rfl)|exact trivial|(refine And.intro ?_ ?_))) (by first|exact .inl rfl|exact .inr rfl) ?_)|omega|exact decide_eq_true (by omega)|exact ap.refl _)
   all_goals exact aV rfl (by simp[aQ,ab])
theorem qp:(prog.info? 83).map (fun i=>(i.zero,i.size,i.bytes))=some (some (.agg #[.int .i64 0,.int .i64 0,.int .i64 0,.int .i64 0,.int .i64 0,.int .i64 0,.int .i64 0,.int .i64 0,.slice none 0 0]),9,88):=by kernel_rfl
theorem yF (g cap n i vb vo vc:Nat)(cur:Array Value)(xs ys:List Value)(w:World)(hh:w.heap[g]? =some (.cells cur 83 (0,0)))(hm:cap≤9223372036854775807)(hs:cur.size=cap*9)(hl:xs.length=n*9)(ht:cur.toList.take (n*9)=xs)
 (oh:∀u∈xs,u.oneCell'=true) (hi:i < n) (gZ:n+1≤cap) (va:ys.length=9) (RJ:∀u∈ys,u.oneCell'=true) (Sq:vb≠g) (EM:∀j u,ys[j]? =some u→w.cell? ⟨vb,vo+j,none⟩=some u)
 (sA:TypeId × Nat) (Ko:w.shape? vb=some sA) (KL:sA.2≠0):
 Calls prog 237 #[.slice (some ⟨g,0,none⟩) n cap,.int .i64 i,.slice (some ⟨vb,vo,none⟩) 1 vc] w fun e w'=>
  e= .returned (.slice (some ⟨g,0,none⟩) (n+1) cap)∧w'=(w.drew.setRow g (av cur.toList ((i+1)*9) (xs.drop (i*9))).toArray).setRow g (av (av cur.toList ((i+1)*9) (xs.drop (i*9))) (i*9) ys).toArray:=by
 obtain⟨i0,p3,Au,nZ,uZ⟩:=info_parts qp;have al:prog.follows .mixedOrders=true:=by kernel_rfl
 have BP:(i:Int)+1=((i+1:Nat):Int):=by omega
 obtain⟨j,hj⟩:∃j,j=i+1:=⟨_,rfl⟩;obtain⟨m,GN⟩:∃m,m=n+1:=⟨_,rfl⟩;have cM:∀w,(sizeOf 83).run prog w= .ok 9 w:=fun w=>by simp[sizeOf,typeInfo,p3,nZ]
 have ed:∀lb cb,(callFunc 278 #[.slice (some ⟨vb,vo,none⟩) 1 vc,.slice (some ⟨g,j*9,none⟩) lb cb]).run prog w= .ok (.value (.bool false)) w:=fun lb cb=>by
  rw[run_callFunc_extern (fn:=f278) (by kernel_rfl) (by kernel_rfl) (by kernel_rfl) (by kernel_rfl) (e:=Extern.SlicesOverlaps.overlaps #[28,28] #[4]) (by kernel_rfl),
   mN w 28 4 83 underlying28 9 cM ⟨vb,vo,none⟩ ⟨g,j*9,none⟩ 1 vc lb cb Sq sA Ko KL cur 83 hh (by omega)]
  rfl
 have rh:(xs.drop (i*9)).length=(n - i)*9:=by rw[XS,hl];omega
 have ji:∀q u,xs[q]? =some u→cur[q]? =some u:=fun q u hq=>by
  rw[←ht,Zk]at hq;split at hq
  ·rwa [X2]at hq
  ·cases hq
 obtain⟨C1,za⟩:∃C1:Array Value,C1=(av cur.toList (j*9) (xs.drop (i*9))).toArray:=⟨_,rfl⟩;have t6:C1.size=cap*9:=by rw[za,YB,aR (by simp;omega)];simpa using hs
 obtain⟨W1,ri⟩:∃W1,W1=w.drew.setRow g C1:=⟨_,rfl⟩;have GP:∀ty dc sc,(Builtin.copy_ #[28,28] ty #[.slice (some ⟨g,j*9,none⟩) (m - j) dc,.slice (some ⟨g,i*9,none⟩) (m - i) sc]).run prog w.drew= .ok (goInt (ZS (m - i) (m - j))) W1:=fun ty dc sc=>by
  rw[ri,za];exact eA (e:=83) (sz:=9) (xs.drop (i*9)) underlying28 p3 nZ (by rw[rh,show ZS (m - i) (m - j)=n - i from (by simp only[C'];split<;>omega)]) (fun q u hq=>by
   rw[Addr.add_lit,mO (w:=w.drew) hh];rw[Yk]at hq;have:=ji _ u hq;rw[←this]) (fun u hu=>oh u (Yb hu)) (w:=w.drew) hh (by rw[rh,hs];omega) ty
 have xX:W1.heap[g]? =some (.cells C1 83 (0,0)):=by rw[ri];exact setRow_heap _ g _ _ _ _ hh
 have GQ:∀(W:World),W=W1→∀ty dc,(Builtin.copy_ #[28,28] ty #[.slice (some ⟨g,i*9,none⟩) (m - i) dc,.slice (some ⟨vb,vo,none⟩) 1 vc]).run prog W= .ok (goInt (ZS 1 (m - i))) (W1.setRow g (av C1.toList (i*9) ys).toArray):=fun W hW ty dc=>by
  subst hW;exact eA (e:=83) (sz:=9) ys underlying28 p3 nZ (by rw[va,show ZS 1 (m - i)=1 from (by simp only[C'];split<;>omega)]) (fun q u hq=>by
   rw[Addr.add_lit,ri];have:=EM q u hq;rw[←this];exact Zn (a:=⟨vb,vo+q,none⟩) (by rw[setRow_other _ _ _ _ Sq];rfl)) RJ xX (by rw[va,t6];omega) ty
 have bV:IntKind.i64.wrap ((i:Int)+1)=(j:Int):=by rw[IntKind.wrap_i64];omega
 have cI:IntKind.i64.wrap ((n:Int)+1)=(m:Int):=by rw[IntKind.wrap_i64];omega
 have bZ:Hid (W1.setRow g (av C1.toList (i*9) ys).toArray=(w.drew.setRow g (av cur.toList ((i+1)*9) (xs.drop (i*9))).toArray).setRow g (av (av cur.toList ((i+1)*9) (xs.drop (i*9))) (i*9) ys).toArray):=by
  show W1.setRow g (av C1.toList (i*9) ys).toArray=_;rw[ri,za,hj]
 have Uq:¬((i:Int)=(n:Int)):=by omega
 have pT:i≤n:=by omega
 have nQ:¬(cap=j):=by omega
 have Sv:¬(cap=i):=by omega
 have hb4:j≤m:=by omega
 have hb5:i≤m:=by omega
 have hb6:m≤cap:=by omega
 have hb7:¬((cap:Int) < (m:Int)):=by omega
 rw[←GN];have KH:=Xk hj;have jk:=Xk GN;have hW:=Xk ri;have hC:=Xk za;clear hj GN ri za ht hl hs va t6 rh ji BP xX Au nZ uZ hh;go_enter func237,ntmps237
 go_wp2_with (simp only[ed])
 go_region_law_o (refine lN rfl _ _ 28 28 rfl _ _ (by simp[Act.eval,Act.put]) (by simp[Act.eval,Act.put]) (GP _ _ _) ?_)
 go_wp2_with (at_builtin;refine jh _ rfl _ _ 28 28 rfl _ _ rfl rfl (GQ _ rfl _ _) ?_)
 go_ret
 exact⟨rfl,bZ.out⟩
theorem yG (g cap n i vb vo vc:Nat)(cur:Array Value)(xs ys:List Value)(w:World)(hh:w.heap[g]? =some (.cells cur 83 (0,0)))(hm:cap≤1000000000)(KE:n≤cap)(hs:cur.size=cap*9)(hl:xs.length=n*9)(ht:cur.toList.take (n*9)=xs)
 (oh:∀u∈xs,u.oneCell'=true) (hi:i < n) (gZ:¬n+1≤cap) (va:ys.length=9) (RJ:∀u∈ys,u.oneCell'=true) (EM:∀j u,ys[j]? =some u→w.cell? ⟨vb,vo+j,none⟩=some u):
 Calls prog 237 #[.slice (some ⟨g,0,none⟩) n cap,.int .i64 i,.slice (some ⟨vb,vo,none⟩) 1 vc] w (Bj w 83 g 9 n (xs.take (i*9)++ys++xs.drop (i*9))):=by
 obtain⟨i0,p3,Au,nZ,uZ⟩:=info_parts qp;have al:prog.follows .mixedOrders=true:=by kernel_rfl
 obtain⟨j,hj⟩:∃j,j=i+1:=⟨_,rfl⟩;obtain⟨m,GN⟩:∃m,m=n+1:=⟨_,rfl⟩;obtain⟨k,hk⟩:∃k,k=m - i:=⟨_,rfl⟩;obtain⟨B,hB⟩:∃B,B=w.heap.size:=⟨_,rfl⟩;have hgB:g < B:=by rw[hB];exact mr hh
 have OL:vb < B:=by
  obtain⟨u,hu⟩:∃u,ys[0]? =some u:=⟨_,Xj (by omega)⟩;have:=EM 0 u hu;rw[hB];rcases XO vb w.heap.size with h|h
  ·exact h
  ·simp[YQ,Yj h]at this
 have ji:∀q u,xs[q]? =some u→cur[q]? =some u:=fun q u hq=>by
  rw[←ht,Zk]at hq;split at hq
  ·rwa [X2]at hq
  ·cases hq
 have hold:(Builtin.firstCells i0.size i (.slice (some ⟨g,0,none⟩) i cap)).run prog w.drew= .ok (xs.take (i*9)).toArray w.drew:=by
  rw[nZ];exact run_firstCells_some w.drew 9 i ⟨g,0,none⟩ i cap (xs.take (i*9)) (by rw[Xp];omega) (fun q u hq=>by
   rw[Addr.add_lit,mO (w:=w.drew) hh,XK];rw[Zk]at hq;split at hq
   ·exact ji q u hq
   ·cases hq)
 obtain⟨G,hG⟩:∃G,G=grownCap w (i+k) cap 83:=⟨_,rfl⟩;have Ur:i+k=m:=by omega
 have hGm:m≤G:=by rw[hG,Ur];exact grownCap_ge w _ _ _
 have Us:G≤9223372036854775807:=by
  have:=grownCap_le_maxLen w (i+k) cap 83 (by unfold maxLen;omega);rw[←hG]at this;unfold maxLen at this;omega
 obtain⟨C0,RV⟩:∃C0:Array Value,C0=(xs.take (i*9)).toArray++Builtin.zeroCells (Value.agg #[.int .i64 0,.int .i64 0,.int .i64 0,.int .i64 0,.int .i64 0,.int .i64 0,.int .i64 0,.int .i64 0,.slice none 0 0]).cells k++Builtin.zeroCells (Value.agg #[.int .i64 0,.int .i64 0,.int .i64 0,.int .i64 0,.int .i64 0,.int .i64 0,.int .i64 0,.int .i64 0,.slice none 0 0]).cells (G - m):=⟨_,rfl⟩;have WD:∀ty,(Builtin.append_ #[28,3] ty #[.slice (some ⟨g,0,none⟩) i cap,.int .i64 ((m:Int) - (i:Int))]).run prog w= .ok (.slice (some ⟨B,0,none⟩) m G) (w.drew.alloc (.cells C0 83)):=fun ty=>by
  have hz:=Lib.run_append_grow_zeros (P:=prog) w 28 3 ty 83 i0 _ .i64 .i64 underlying28 underlying3 p3 Au (some ⟨g,0,none⟩) i cap (xs.take (i*9)) hold k (by omega) (by omega) (by omega) (by omega) (by rw[uZ];omega) (by rw[uZ];exact growslice_fits (by omega) (by omega));rw[←hG,Ur,←hB]at hz;rw[show (m:Int) - (i:Int)=(k:Int) by omega,hz,RV]
 have GR:C0.size=G*9:=by
  rw[RV];simp[Builtin.zeroCells,Value.cells];omega
 obtain⟨W0,E4⟩:∃W0,W0=w.drew.alloc (.cells C0 83):=⟨_,rfl⟩;rw[←E4]at WD;have Ut:W0.heap[B]? =some (.cells C0 83 (0,0)):=by rw[E4,hB];exact jm w.drew _
 have x9:∀b,b < B→W0.heap[b]? =w.heap[b]? :=fun b hb=>by
  rw[E4];simp only[World.alloc,Array.getElem?_push];rw[if_neg (by show ¬b=w.heap.size;omega)];rfl
 obtain⟨C1,za⟩:∃C1:Array Value,C1=(av C0.toList (i*9) ys).toArray:=⟨_,rfl⟩;have t6:C1.size=G*9:=by rw[za,YB,aR (by simp;omega)];simpa using GR
 obtain⟨W1,ri⟩:∃W1,W1=W0.setRow B C1:=⟨_,rfl⟩;have GP:∀ty dc,(Builtin.copy_ #[28,28] ty #[.slice (some ⟨B,i*9,none⟩) (m - i) dc,.slice (some ⟨vb,vo,none⟩) 1 vc]).run prog W0= .ok (goInt (ZS 1 (m - i))) W1:=fun ty dc=>by
  rw[ri,za];exact eA (e:=83) (sz:=9) ys underlying28 p3 nZ (by rw[va,show ZS 1 (m - i)=1 from (by simp only[C'];split<;>omega)]) (fun q u hq=>by
   rw[Addr.add_lit];rw[←EM q u hq];exact Zn (a:=⟨vb,vo+q,none⟩) (x9 vb OL)) RJ Ut (by rw[va,GR];omega) ty
 have xX:W1.heap[B]? =some (.cells C1 83 (0,0)):=by rw[ri];exact setRow_heap _ B _ _ _ _ Ut
 have ya:∀b,b < B→W1.heap[b]? =w.heap[b]? :=fun b hb=>by rw[ri,setRow_other _ _ _ _ (by omega)];exact x9 b hb
 have rh:(xs.drop (i*9)).length=(n - i)*9:=by rw[XS,hl];omega
 have GQ:∀ty dc sc,(Builtin.copy_ #[28,28] ty #[.slice (some ⟨B,j*9,none⟩) (m - j) dc,.slice (some ⟨g,i*9,none⟩) (n - i) sc]).run prog W1.drew= .ok (goInt (ZS (n - i) (m - j))) (W1.drew.setRow B (av C1.toList (j*9) (xs.drop (i*9))).toArray):=fun ty dc sc=>by
  exact eA (e:=83) (sz:=9) (xs.drop (i*9)) underlying28 p3 nZ (by rw[rh,show ZS (n - i) (m - j)=n - i from (by simp only[C'];split<;>omega)]) (fun q u hq=>by
   rw[Addr.add_lit,mO (w:=W1.drew) (show W1.heap[g]? =_ from (ya g hgB).trans hh)];rw[Yk]at hq;have:=ji _ u hq;rw[←this]) (fun u hu=>oh u (Yb hu)) (w:=W1.drew) xX (by rw[rh,t6];omega) ty
 have hR:Hid (∀e,e=Ending.returned (.slice (some ⟨B,0,none⟩) m G)→Bj w 83 g 9 n (xs.take (i*9)++ys++xs.drop (i*9)) e (W1.drew.setRow B (av C1.toList (j*9) (xs.drop (i*9))).toArray)):=by
  intro e he;refine⟨G,av C1.toList (j*9) (xs.drop (i*9)),by omega,Us,?_,?_,by rw[he,hB,GN],?_,?_⟩
  ·rw[aR (by rw[rh];simp;omega)];simpa using t6
  ·rw[za,Y3];have e1:C0.toList.take (i*9)=xs.take (i*9):=by
    rw[RV];simp only[N',XT];rw[Yp (by simp;omega),XI (by rw[Xp];omega)]
   rw[show (n+1)*9=j*9+(xs.drop (i*9)).length by rw[rh];omega];unfold av;rw[Yp (by simp;omega),XI (by simp;omega)];congr 1;rw[e1,Yp (by simp;omega),XI (by simp;omega)]
  ·refine⟨?_,?_,?_,?_,fun b hb _=>?_⟩
   ·rw[ri,E4];rfl
   ·rw[ri,E4];rfl
   ·rw[ri,E4];rfl
   ·rw[ri,E4];simp[ZK]
   ·rw[setRow_other _ _ _ _ (by omega)];exact ya b (by omega)
  ·rw[←hB];exact setRow_heap W1.drew B _ _ _ _ xX
 have bV:IntKind.i64.wrap ((i:Int)+1)=(j:Int):=by rw[IntKind.wrap_i64];omega
 have cI:IntKind.i64.wrap ((n:Int)+1)=(m:Int):=by rw[IntKind.wrap_i64];omega
 have pP:IntKind.i64.wrap ((m:Int) - (i:Int))=(m:Int) - (i:Int):=by rw[IntKind.wrap_i64];omega
 have Uq:¬((i:Int)=(n:Int)):=by omega
 have pT:i≤n:=by omega
 have nQ:¬(G=j):=by omega
 have Sv:¬(G=i):=by omega
 have hb4:j≤m:=by omega
 have hb5:i≤m:=by omega
 have hb6:i≤cap:=by omega
 have hb7:(cap:Int) < (m:Int):=by omega
 have Xh:¬(cap=i):=by omega
 have hb9:j≤G:=by omega
 have a0G:i≤G:=by omega
 clear hold GR t6 rh va hl hs ht hh Ut xX x9 ya ji Ur Au nZ uZ hG E4 ri RV za hk hj GN hB gZ;go_enter func237,ntmps237
 go_wp2_with (at_builtin;first|refine qg _ rfl _ _ 28 3 rfl _ _ rfl rfl (WD _) ?_|refine jh _ rfl _ _ 28 28 rfl _ _ rfl rfl (GP _ _) ?_)
 go_region_law_o (refine lN rfl _ _ 28 28 rfl _ _ (by simp[Act.eval,Act.put]) (by simp[Act.eval,Act.put]) (GQ _ _ _) ?_)
 go_wp2_with fail
 go_ret
 exact hR.out _ rfl
theorem DS (l:List Pol)(x:Pol)(i g:Nat)(hi:i≤l.length)(hl:l.length≤1000000):
 MSpec prog 237 [.own 0 g,.d (.v (.int .i64 i)),.d (.sl 9 [am x])] [.row 83 9 g (ab (l.map am))] (.own 0 (g+1)) [.row 83 9 (g+1) (ab ((l.take i++x::l.drop i).map am))]:=by
 rcases XO i l.length with hlt|hge
 ·have h1:=MV (P:=prog) (f:=237) (E:=83) (sz:=9) (g:=g) (i:=i) (rows:=l.map am) (x:=am x) (bU func237 (by kernel_rfl) rfl) (by omega) (by simpa using hlt) (by
   simp only[XF];intro w gb cap vb vo vc cur xs ys q1 q2 q3 q4 q5 q6 q7 q8 q9 q10 q11;obtain⟨u,hu⟩:∃u,ys[0]? =some u:=⟨_,Xj (by omega)⟩;obtain⟨sA,Ko,KL⟩:=uu (q11 0 u hu);unfold maxLen at q2;by_cases gZ:l.length+1≤cap
   ·refine(yF gb cap l.length i vb vo vc cur xs ys w q1 (by omega) q4 q5 q6 q7 hlt gZ q8 q9 q10 q11 sA Ko KL).mono ?_;rintro e w' ⟨rfl,rfl⟩;obtain⟨t1,t2⟩:=DR (sz:=9) (n:=l.length) (i:=i) (cur:=cur.toList) (xs:=xs) (ys:=ys) (by omega) hlt (by simp;omega) q5 q8 q6;have V8:(w.drew.setRow gb (av cur.toList ((i+1)*9) (xs.drop (i*9))).toArray).heap[gb]? =some (.cells (av cur.toList ((i+1)*9) (xs.drop (i*9))).toArray 83 (0,0)):=setRow_heap _ gb _ _ _ _ q1;refine⟨_,rfl,.row gb (l.length+1) cap _ _ (by omega) (setRow_heap _ gb _ _ _ _ V8) gZ q2 (by rw[YB,t2];simpa using q4) (by rw[←t1,Xp,t2];simp;omega) (by rw[Y3];exact t1),⟨rfl,rfl,rfl,by simp[ZK],fun b hb bH=>?_⟩,.inl (cF (by omega))⟩;have cK:b≠gb:=fun e=>bH (by rw[e]);rw[setRow_other _ _ _ _ cK,setRow_other _ _ _ _ cK];rfl
   ·refine(yG gb cap l.length i vb vo vc cur xs ys w q1 (by omega) q3 q4 q5 q6 q7 hlt gZ q8 q9 q11).mono ?_;rintro e w' ⟨G,R,h1,h2,h3,h4,rfl,h6,h7⟩;exact⟨_,rfl,.row w.heap.size (l.length+1) G R.toArray _ (by omega) h7 h1 h2 (by simpa using h3) (by rw[←h4,Xp,h3];omega) (by simpa using h4),h6,.inr fun b hb=>by rw[cF (by omega)]at hb;cases hb;exact XC _⟩)
  rw[Xz,Zz,Xm,List.map_drop];exact h1
 ·obtain rfl:i=l.length:=by omega
  rw[Xq,Zf];by_cases h0:l=[]
  ·subst h0;refine mj func237 ntmps237 results237 ?_;repeat' (first|(with_reducible refine And.intro ?_ ?_)|(with_reducible refine dO (fun _=>?_) (fun _=>?_))|(with_reducible refine aN (fun _=>?_) (fun _=>?_))|(with_reducible refine cg (by kernel_rfl))|simp -dsimp only[go_sem,seval, *,am,ab,XJ]|((with_reducible refine ci ?_);simp -dsimp only[go_sem,seval,am,ab,XJ];first|refine aP (by first|assumption|fail) (by first|exact .inl rfl|exact .inr rfl) ?_|refine aO (by assumption) (by repeat(first|exact ap.refl _|exact ap.nil _|(refine ap.tup ?_)|(refine ap.agg ?_ rfl)|exact trivial|(refine And.intro ?_ ?_))) (by first|exact .inl rfl|exact .inr rfl) ?_)|omega|exact decide_eq_true (by omega)|exact ap.refl _)
   all_goals exact aV rfl rfl
  ·have bH:¬ab (l.map am)=[]:=by simpa[ab]using h0
   refine mj func237 ntmps237 results237 ?_;repeat' (first|(with_reducible refine And.intro ?_ ?_)|(with_reducible refine dO (fun _=>?_) (fun _=>?_))|(with_reducible refine aN (fun _=>?_) (fun _=>?_))|(with_reducible refine cg (by kernel_rfl))|simp -dsimp only[go_sem,seval, *,am,XJ]|((with_reducible refine ci ?_);simp -dsimp only[go_sem,seval,am,XJ];first|refine aP (by first|assumption|fail) (by first|exact .inl rfl|exact .inr rfl) ?_|refine aO (by assumption) (by repeat(first|exact ap.refl _|exact ap.nil _|(refine ap.tup ?_)|(refine ap.agg ?_ rfl)|exact trivial|(refine And.intro ?_ ?_))) (by first|exact .inl rfl|exact .inr rfl) ?_)|omega|exact decide_eq_true (by omega)|exact ap.refl _)
   all_goals exact aV rfl (by simp[am,ab])
end
theorem Qp (b:Bok)(h8:b.pools.length≤8)(iG:∀p∈b.pools,p.leases.length≤32):
 MSpec prog 232 [.d (.agg (bN b))] [] (.ptr 1 0) [.gone,.box 30 [.d (.v (.int .i64 b.tick)),.own 2 b.pools.length],.row 83 9 b.pools.length (ab (b.pools.map am))]:=by
 refine mj func232 ntmps232 results232 ?_;refine ay ?_<;>intros;refine br af al b.pools (fun _=>True) (fun k=>[(13,.d (.v (.int .i64 k))),(12,.d (.v (.int .i64 b.pools.length))),(11,.d (.sl 9 (b.pools.map am))),(3,.ptr 1 0),(2,.d (.v (.pointer none)))])
  (fun k=>[.gone,.box 30 [.d (.v (.int .i64 b.tick)),.own 2 k],.row 83 9 k (ab ((b.pools.take k).map am))]) trivial ?_ ?_ ?_
 ·refine(aU 0 (by simp)).trans ((aL (by simp) 1 30 [.d (.v (.int .i64 b.tick)),.d (.v (.slice none 0 0))] 1 83 9 rfl rfl rfl).trans ?_);exact wf
 ·intro k p hp hk _ C hC;have fy:(k:Int) < (b.pools.length:Int):=by omega
  have dW:=wi k (by omega);have oa:=iG p (Xl hp);have pT:k+1≤100:=by omega
  have hlt:(YD k b.pools).length=k:=by rw[Xp];omega
  have z1z:=Ln.mk (ls:=[]) (gN aQ p.leases (by omega));refine ay ?_<;>intros;refine hC _ _ trivial ((aA 4 1 96 5 (p.leases.map aQ) rfl).trans ?_);simp only[lG,fz,jE,iL,kG,iV,bg,cG,cS,Xm,Xx,XU,XW,reduceIte,and_true,true_and,and_self,and_false,false_and,XK,X0,reduceCtorEq];exact wf (hh:=(by rw[ah hp,Xz,Xm,Xx,←aW];rfl))
 ·intro _ C;refine ay ?_<;>intros;(try rw[Xq])
  exact aV rfl rfl
def an (p:Pol)(v:PV):List PV:=[.d (.v (.int .i64 p.id)),.d (.v (.int .i64 p.up)),.d (.v (.int .i64 p.root.at_)),.d (.v (.int .i64 p.root.len)),.d (.v (.int .i64 p.rule.min)),.d (.v (.int .i64 p.rule.max)),.d (.v (.int .i64 p.rule.usual)),.d (.v (.int .i64 p.rule.cool)),v]
def eU (pre:List Pol)(r:List PV)(post:List Pol):List (List PV):=ab (pre.map am)++r::ab (post.map am)
@[go_sem] theorem wZ (pre:List Pol)(r:List PV)(post:List Pol):(eU pre r post).length=pre.length+1+post.length:=by
 simp[eU,aC];omega
theorem ju (n:Nat):∀(l m:List (List PV)),ct n (l++m)=(ct n l&&ct n m)
 |[],m=>rfl
 |r::l,m=>by simp only[X6,ct,ju n l m,Z']
theorem gD (n:Nat)(pre:List Pol)(r:List PV)(post:List Pol):ct n (eU pre r post)=ai n r:=by
 simp only[eU,ju,ct,aq,YC,Yz]
theorem bz {A:Prop}(h:A:=by first|rfl|simp only[az,dY,aH,ai,ct,aj,aM,aq,gD,an,XD,X8,XU,ZY,decide_true,Yn,Yz]):A:=h
theorem HC (k g:Nat)(d:D)(pre:List Pol)(r:List PV)(post:List Pol):iV k g d (eU pre r post)=eU pre (jE k g d r) post:=by
 simp only[eU,bg,iV,cG]
theorem JA (pre:List Pol)(r:List PV)(post:List Pol)(q:Pol):eU pre r post++[(am q).map .d]=eU pre r (post++[q]):=by
 simp[eU,ab]
theorem Tj (b:Bok)(pre post:List Pol)(p:Pol)(hb:b.pools=pre++p::post)(h8:b.pools.length≤8)(iG:∀p∈b.pools,p.leases.length≤32):
 MSpec prog 232 [.d (.agg (bN b))] [] (.ptr 1 0) [.gone,.box 30 [.d (.v (.int .i64 b.tick)),.own 2 b.pools.length],.row 83 9 b.pools.length (eU pre (an p (.own 4 1)) post),.gone,.row 96 5 1 (ab (p.leases.map aQ))]:=by
 have aT:b.pools.length=pre.length+1+post.length:=by rw[hb];simp;omega
 have hL:=Xk hb;have cy:=Xk aT;clear hb aT;refine mj func232 ntmps232 results232 ?_;refine ay ?_<;>intros;refine cf af al (fun m e h=>(∃k,k≤pre.length∧m=b.pools.length - k∧e=[(13,.d (.v (.int .i64 k))),(12,.d (.v (.int .i64 b.pools.length))),(11,.d (.sl 9 (b.pools.map am))),(3,.ptr 1 0),(2,.d (.v (.pointer none)))]∧
  h=[.gone,.box 30 [.d (.v (.int .i64 b.tick)),.own 2 k],.row 83 9 k (ab ((pre.take k).map am))])∨
  ∃k j,k=pre.length+1+j∧j≤post.length∧m=b.pools.length - k∧e=[(13,.d (.v (.int .i64 k))),(12,.d (.v (.int .i64 b.pools.length))),(11,.d (.sl 9 (b.pools.map am))),(3,.ptr 1 0),(2,.d (.v (.pointer none)))]∧
   h=[.gone,.box 30 [.d (.v (.int .i64 b.tick)),.own 2 k],.row 83 9 k (eU pre (an p (.own 4 1)) (post.take j)),.gone,.row 96 5 1 (ab (p.leases.map aQ))]) _ _ _ (.inl ⟨0,XL _,rfl,rfl,rfl⟩) ?_ ?_
 ·refine(aU 0 (by simp)).trans ((aL (by simp) 1 30 [.d (.v (.int .i64 b.tick)),.d (.v (.slice none 0 0))] 1 83 9 rfl rfl rfl).trans ?_);exact wf
 ·rintro m e h (⟨k,hk,hm,rfl,rfl⟩|⟨k,j,OR,hj,hm,rfl,rfl⟩) C hC
  ·have fy:(k:Int) < (b.pools.length:Int):=by have:=cy.out;omega
   have dW:=wi k (by omega);have pT:k+1≤100:=by have:=cy.out;omega
   have hlt:(YD k pre).length=k:=by rw[Xp];omega
   have hm:=Xk hm;by_cases ol:k < pre.length
   ·obtain⟨q,hq⟩:∃q,pre[k]? =some q:=⟨_,Xj ol⟩;have EO:b.pools[k]? =some q:=by rw[hL.out,X5 ol];exact hq
    have oa:=iG q (Xl EO);have hq:=Xk hq;have z1z:=Ln.mk (ls:=[]) (gN aQ q.leases (by omega));refine ay ?_<;>intros;refine hC _ _ _ _ _ ?_ (.inl ⟨k+1,ol,rfl,rfl,rfl⟩) ((aA 4 1 96 5 (q.leases.map aQ) rfl).trans ?_)
    ·have:=hm.out;have:=cy.out;omega
    simp only[lG,fz,jE,iL,kG,iV,bg,cG,cS,Xm,Xx,XU,XW,reduceIte,and_true,true_and,and_self,and_false,false_and,XK,X0,reduceCtorEq];exact wf (hh:=(by rw[ah hq.out,Xz,Xm,Xx,←aW];rfl))
   ·obtain rfl:k=pre.length:=by omega
    have EO:b.pools[pre.length]? =some p:=by rw[hL.out,XP (XC _),Y8];rfl
    have oa:=iG p (Xl EO);have z1z:=Ln.mk (ls:=[]) (gN aQ p.leases (by omega));refine ay ?_<;>intros;refine hC _ _ _ _ _ ?_ (.inr ⟨pre.length+1,0,rfl,XL _,rfl,rfl,rfl⟩) ((aU 3 (by simp)).trans ?_)
    ·have:=hm.out;have:=cy.out;omega
    exact wf (hb:=bz) (hbh:=bz)
  ·have hm:=Xk hm;have E5:=Xk OR;have pT:pre.length+1+j+1≤100:=by have:=cy.out;omega
   have hlt:(YD j post).length=j:=by rw[Xp];omega
   have Kl:k≤b.pools.length:=by have:=cy.out;omega
   by_cases KM:j < post.length
   ·obtain⟨q,hq⟩:∃q,post[j]? =some q:=⟨_,Xj KM⟩;have EO:b.pools[k]? =some q:=by
     rw[hL.out,XP (by omega),show k - pre.length=j+1 by omega,YJ];exact hq
    have oa:=iG q (Xl EO);have fy:(k:Int) < (b.pools.length:Int):=by have:=cy.out;omega
    have dW:=wi k (by omega);have hq:=Xk hq;clear OR;have z1z:=Ln.mk (ls:=[]) (gN aQ q.leases (by omega));refine ay ?_<;>intros;refine hC _ _ _ _ _ ?_ (.inr ⟨k+1,j+1,by have:=E5.out;omega,KM,rfl,rfl,rfl⟩) ((aA 6 1 96 5 (q.leases.map aQ) rfl).trans ?_)
    ·have:=hm.out;have:=cy.out;have:=E5.out;omega
    simp only[lG,fz,jE,iL,kG,iV,bg,cG,cS,Xm,Xx,XU,XW,reduceIte,and_true,true_and,and_self,and_false,false_and,XK,X0,reduceCtorEq,HC,an];exact wf (hh:=(by rw[ah hq.out,←JA];rfl)) (hb:=bz) (hbh:=bz)
   ·obtain rfl:j=post.length:=by omega
    obtain rfl:k=b.pools.length:=by have:=cy.out;omega
    clear OR;refine ay ?_<;>intros;(try rw[Xq])
    exact aV rfl rfl
@[go_sem] theorem aF (ρ:Nat→Nat)(pre:List Pol)(r:List PV)(post:List Pol):jn ρ (eU pre r post)=eU pre (ig ρ r) post:=by
 have app:∀(l m:List (List PV)),jn ρ (l++m)=jn ρ l++jn ρ m:=by
  intro l m;rw[en,en,en,Xz]
 simp only[eU,app,jn,vW]
structure BookOK (b:Bok):Prop where
 n8:b.pools.length≤8
 l32:∀p∈b.pools,p.leases.length≤32
 rise:tJ b.pools
 tick:0≤b.tick∧b.tick≤1073741824
 mem:∀p∈b.pools,fL p.id=true∧iK p.root (eE p)=0∧iy p.rule p.root.len=true
 second:dk b b.pools []=true
theorem eD {b:Bok}(h:bx b=0):BookOK b:=by
 unfold bx at h;split at h
 ·cases h
 ·rename_i h8;split at h
  ·cases h
  ·rename_i ht;split at h
   ·rename_i hf;rw[Xy]at hf;have hm:=lM _ _ hf.1;refine⟨by omega,fun p hp=>?_,(j7 _ _ hf.1).1,by omega,hm,hf.2⟩;have:=(hm p hp).2.1;unfold iK at this;split at this
    ·cases this
    ·rename_i h;simpa[eE]using h
   ·cases h
theorem mP (b:Bok)(hz:∀p∈b.pools,p.leases.length≤3518437208882)(h:bx b≠0):ae prog 155 [.agg (bN b)] (.tup [.v (.pointer none),.v (.int .i64 (bx b))]):=by
 have hc:=mM b hz;have h1:(bx b !=0)=true:=by simpa using h
 refine pj func155 ntmps155 results155 ?_;exact bo
theorem iY (b:Bok)(hz:∀p∈b.pools,p.leases.length≤3518437208882)(h:bx b=0):
 MSpec prog 155 [.d (.agg (bN b))] [] (.tup [.ptr 2 0,.d (.v (.int .i64 0))]) [.gone,.gone,.box 30 [.d (.v (.int .i64 b.tick)),.own 3 b.pools.length],.row 83 9 b.pools.length (ab (b.pools.map am))]:=by
 have hc:=mM b hz;have hb:=eD h;have ho:=Qp b hb.n8 hb.l32;rw[h]at hc;replace h:=Xk h;refine mj func155 ntmps155 results155 ?_;have z1z:=Ln.mk (ls:=[]) (ho);refine ay ?_<;>intros;exact(aU 0 (by simp)).trans (aV rfl rfl)
theorem r5 (b:Bok)(pre post:List Pol)(p:Pol)(hp:b.pools=pre++p::post)(hz:∀p∈b.pools,p.leases.length≤3518437208882)(h:bx b=0):
 MSpec prog 155 [.d (.agg (bN b))] [] (.tup [.ptr 2 0,.d (.v (.int .i64 0))]) [.gone,.gone,.box 30 [.d (.v (.int .i64 b.tick)),.own 3 b.pools.length],.row 83 9 b.pools.length (eU pre (an p (.own 5 1)) post),.gone,.row 96 5 1 (ab (p.leases.map aQ))]:=by
 have hc:=mM b hz;have hb:=eD h;have ho:=Tj b pre post p hp hb.n8 hb.l32;rw[h]at hc;replace h:=Xk h;replace hp:=Xk hp;refine mj func155 ntmps155 results155 ?_;have z1z:=@an.eq_1;have z2z:=Ln.mk (ls:=[]) (ho);refine ay ?_<;>intros;exact(aU 0 (by simp)).trans (aV rfl rfl)
theorem Vu {α:Type}{key:α→Int}{l:List α}{i:Nat}{q:α}(hs:l.Pairwise fun a b=>key a < key b)(hq:l[i]? =some q):m4 key (key q) l=i∧rS key (key q) l=true:=by
 obtain⟨hi,rfl⟩:=Xo.1 hq;have h1:m4 key (key l[i]) l=i:=tt (G' hi) (fun k hk OF=>XM.1 hs k i hk hi OF) (fun k hk OF=>by
  rcases XO i k with h|h
  ·have:=XM.1 hs i k hi hk h;omega
  ·obtain rfl:k=i:=by omega
   exact Int.le_refl _)
 refine⟨h1,?_⟩;unfold rS;rw[h1,hq];simp
theorem Bl (b:Bok)(i:Nat)(q:Pol)(g:Nat)(rows:List (List PV))(hs:List Chunk)(c0:PV)(hq:b.pools[i]? =some q)(hr:tJ b.pools)(h8:b.pools.length≤8)(Aw:rows.length=b.pools.length)
 (hv:cZ (aS (aw (.box 30 [c0,.own 1 g]:: .row 83 9 g rows::hs)) 5) rows=some (b.pools.map am)) (rc:ct (hs.length+2) rows=true) (hbh:az (hs.length+2) hs=true) (KI:aj (hs.length+2) c0=true):
 MSpec prog 156 [.ptr 0 0,.d (.v (.int .i64 q.id))] (.box 30 [c0,.own 1 g]:: .row 83 9 g rows::hs) (.tup [.rp 1 g 9 i 0,.d (.v (.bool true))]) (.box 30 [c0,.own 1 g]:: .row 83 9 g rows::hs):=by
 have RT:=tH kX (fun p=>p.id) b.pools q.id 234 [] (by omega) hr (fun p _=>F5 p q.id);obtain⟨e1,e2⟩:=Vu (key:=fun p:Pol=>p.id) hr hq;rw[e1,e2]at RT;have hi:i < rows.length:=by rw[Aw];exact(Xo.1 hq).1
 have SD:(0:Int)≤(i:Int):=by omega
 replace hq:=Xk hq;replace Aw:=Xk Aw;replace e1:=Xk e1;replace e2:=Xk e2;refine Dh af al func156 rfl ntmps156 results156 (by kernel_rfl) (XC _) (by simp[ai,aj]) (by simp[az,aH,ai,aj,rc,hbh,KI]) ?_;refine ay ?_<;>intros;exact aV rfl rfl
def dB (p:Pol)(size:Int):Pfx × Int:=
 if size < p.rule.min∨size>p.rule.max then (Pfx.zero,7)else
 if (mJ p.root (eE p) size).2.1=false∨p.leases.length=32 then (Pfx.zero,8)else ((mJ p.root (eE p) size).1,0)
theorem Sd (p:Pol)(size:Int)(hl:p.leases.length≤32):ae prog 161 [.ept (am p),.v (.int .i64 size)] (.tup [.agg (aK (dB p size).1),.v (.int .i64 (dB p size).2)]):=by
 have ht:=HB p (by omega);have hf:=Qm p.root (eE p) size;refine pj func161 ntmps161 results161 ?_;refine rY ?_ ?_ ?_ ?_ ?_ ?_ ?_ ?_<;>first|(with_reducible exact True.intro)|intros
 all_goals clear ht hf
 all_goals first
  |(rw[show dB p size=(Pfx.zero,7) from by unfold dB;grind];exact ap.refl _)
  |(rw[show dB p size=(Pfx.zero,8) from by unfold dB;grind];exact ap.refl _)
  |(rw[show dB p size=((mJ p.root (eE p) size).1,0) from by unfold dB;grind];exact ap.refl _)
@[go_sem] theorem eB (pre:List Pol)(r:List PV)(post:List Pol):(eU pre r post)[pre.length]? =some r:=by
 unfold eU;rw[XP (by simp[aC])];simp[aC]
@[go_sem] theorem Vv (pre:List Pol)(r r':List PV)(post:List Pol):(eU pre r post).set pre.length r'=eU pre r' post:=by
 unfold eU;rw[Zc _ _ (by simp[aC])];simp[aC]
def qR (l:Lse)(ls:List Lse):List Lse:=ls.take (m4 (fun x=>x.at_.at_) l.at_.at_ ls)++l::ls.drop (m4 (fun x=>x.at_.at_) l.at_.at_ ls)
theorem vu {α:Type}(key:α→Int)(t:Int)(l:List α):m4 key t l≤l.length:=List.findIdx_le_length
theorem Tk (x:Lse)(t:Int):ae prog 240 [.agg (aQ x),.v (.int .i64 t)] (.v (.int .i64 (d7 x.at_.at_ t))):=by
 have hc:=mC x.at_.at_ t;refine pj func240 ntmps240 results240 ?_;exact bo
theorem JB (pre post:List Pol)(p:Pol)(ls:List Lse):eU pre (an p (.d (.sl 5 (ls.map aQ)))) post=ab ((pre++{p with leases:=ls}::post).map am):=by
 simp only[eU,ab,Xz,Xm];rfl
theorem qS {P:Program}{m:Nat}(pre post:List Pol)(p:Pol)(g g2:Nat)(ls:List Lse):eo P 1 m [(0,.d (.tup []))] [.row 83 9 g (eU pre (an p (.own 1 g2)) post),.row 96 5 g2 (ab (ls.map aQ))] [(0,.d (.tup []))] [.row 83 9 g (ab ((pre++{p with leases:=ls}::post).map am)),.gone]:=by
 refine(aA 1 g2 96 5 (ls.map aQ) rfl).trans ?_;simp only[lG,fz,jE,iL,kG,iV,bg,cG,cS,Xm,Xx,XU,XW,reduceIte,and_true,true_and,and_self,and_false,false_and,XK,X0,reduceCtorEq,HC,an];rw[←JB];exact aV rfl rfl
theorem Se (pre post:List Pol)(p:Pol)(l:Lse)(g g2:Nat)(hl:p.leases.length≤32)(hs:p.leases.Pairwise fun a b=>a.at_.at_ < b.at_.at_):
 MSpec prog 162 [.rp 0 g 9 pre.length 0,.d (.agg (aQ l))] [.row 83 9 g (eU pre (an p (.own 1 g2)) post),.row 96 5 g2 (ab (p.leases.map aQ))] (.d (.tup [])) [.row 83 9 g (ab ((pre++{p with leases:=qR l p.leases}::post).map am)),.gone]:=by
 have RT:=FT kW (fun x=>x.at_.at_) p.leases l.at_.at_ 240 [] (by omega) hs (fun x _=>Tk x l.at_.at_);have hle:=vu (fun x:Lse=>x.at_.at_) l.at_.at_ p.leases;have Uu:=Bk p.leases l (m4 (fun x:Lse=>x.at_.at_) l.at_.at_ p.leases) g2 hle (by omega);refine Dh af al func162 rfl ntmps162 results162 (by kernel_rfl) (XC _) (by simp[ai,aj]) (by simp[az,aH,gD,ai,aj,an,aq]) ?_;have z1z:=@an.eq_1;have z2z:=Ln.mk (ls:=[1]) (Uu);refine ay ?_<;>intros;refine eo.trans ?_ (qS pre post p g (g2+1) (qR l p.leases));exact wf (hb:=bz) (hbh:=bz)
def kY (p:Pol)(i:Nat)(tick:Int):List Lse:=if p.rule.cool=0 then p.leases.eraseIdx i else match p.leases[i]? with|some l=>p.leases.set i ⟨l.at_,3,0,tick+p.rule.cool⟩|none=>p.leases
theorem MW (pre post:List Pol)(p:Pol)(i g g2:Nat)(tick:Int)(hi:i < p.leases.length)(hl:p.leases.length≤32)(yf:0≤p.rule.cool∧p.rule.cool≤1024)(ht:0≤tick∧tick≤1073741824):
 MSpec prog 164 [.rp 0 g 9 pre.length 0,.d (.v (.int .i64 i)),.d (.v (.int .i64 tick))] [.row 83 9 g (eU pre (an p (.own 1 g2)) post),.row 96 5 g2 (ab (p.leases.map aQ))] (.d (.tup [])) [.row 83 9 g (ab ((pre++{p with leases:=kY p i tick}::post).map am)),.gone]:=by
 refine Dh af al func164 rfl ntmps164 results164 (by kernel_rfl) (XC _) (by simp[ai,aj]) (by simp[az,aH,gD,ai,aj,an,aq]) ?_;by_cases hc:p.rule.cool=0
 ·have gA:kY p i tick=p.leases.eraseIdx i:=by unfold kY;rw[if_pos hc]
  have dW:=wi i (by omega);have hd:=Bi (enc:=aQ) p.leases i (i+1) g2 hi rfl;have RP:(p.rule.cool==0)=true:=by simpa using hc
  rw[gA];replace gA:=Xk gA;replace hc:=Xk hc;have z1z:=@an.eq_1;have z2z:=Ln.mk (ls:=[1]) (hd);refine ay ?_<;>intros;exact qS pre post p g (g2+1) (p.leases.eraseIdx i)
 ·have dW:IntKind.i64.wrap (tick+p.rule.cool)=tick+p.rule.cool:=by rw[IntKind.wrap_i64];omega
  have RP:(p.rule.cool==0)=false:=by simpa using hc
  obtain⟨l,H5⟩:∃l,p.leases[i]? =some l:=⟨_,Xj hi⟩;have jQ:=cL aQ p.leases i ⟨l.at_,3,0,tick+p.rule.cool⟩;have gA:kY p i tick=p.leases.set i ⟨l.at_,3,0,tick+p.rule.cool⟩:=by unfold kY;rw[if_neg hc,H5]
  simp only[aQ,Xm,Xx]at jQ;rw[gA];replace gA:=Xk gA;have z1z:=@an.eq_1;refine ay ?_<;>intros;exact qS pre post p g g2 (p.leases.set i ⟨l.at_,3,0,tick+p.rule.cool⟩)
def uR (p:Pol)(ps:List Pol):List Pol:=ps.take (m4 (fun x=>x.id) p.id ps)++p::ps.drop (m4 (fun x=>x.id) p.id ps)
theorem Sf (ps:List Pol)(p:Pol)(g:Nat)(tick:D)(h8:ps.length≤8)(hr:tJ ps)(ht:tick.one=true):
 MSpec prog 160 [.ptr 0 0,.d (.agg (am p))] [.box 30 [.d tick,.own 1 g],.row 83 9 g (ab (ps.map am))] (.d (.tup [])) [.box 30 [.d tick,.own 1 (g+1)],.row 83 9 (g+1) (ab ((uR p ps).map am))]:=by
 have RT:=tH kX (fun x=>x.id) ps p.id 234 [] (by omega) hr (fun x _=>F5 x p.id);have hle:=vu (fun x:Pol=>x.id) p.id ps;have Uu:=DS ps p (m4 (fun x:Pol=>x.id) p.id ps) g hle (by omega);refine Dh af al func160 rfl ntmps160 results160 (by kernel_rfl) (XC _) (by simp[ai,aj]) (by simp[az,aH,ai,aj,aq]) ?_;have z1z:=Ln.mk (ls:=[1]) (Uu);refine ay ?_<;>intros;exact wf (hb:=bz) (hbh:=bz)
def eP (s:Ste):Int:=if bx s.book≠0 then bx s.book else if dy s.net≠0 then dy s.net else if (kQ (vt s.book) s.net.vpcs&&decide (o3 s.net.vpcs=(vt s.book).countP fun kv=>gM s.net.vpcs kv.2))=true then 0 else 1
theorem w7 {α:Type}{enc:α→List D}(ef:∀x,(enc x).length=3)(p:α→Bool)(l:List α)(g:Nat)(caps:List D)(hl:l.length≤1000000000)(hc:∀x∈l,ae prog g (.agg (enc x)::caps) (.v (.bool (p x)))):
 ae prog 129 [.sl 3 (l.map enc),.clo g caps] (.v (.int .i64 (db p l))):=by
 refine pj func129 ntmps129 results129 ?_;refine ay ?_<;>intros;refine cf af al (fun m e h=>∃k:Nat,k≤l.length∧(∀x∈l.take k,p x=false)∧m=l.length - k∧e=[(8,.d (.v (.int .i64 k))),(7,.d (.v (.int .i64 l.length))),(4,.d (.v (.int .i64 0))),(1,.d (.clo g caps)),(0,.d (.sl 3 (l.map enc)))]∧h=[]) _ _ _ ⟨0,XL _,by simp,rfl,rfl,rfl⟩ ?_ ?_
 ·exact wf (x:=[]) (hh:=rfl) (he:=⟨rfl,rfl,rfl,rfl,rfl,trivial⟩)
 ·rintro m e h ⟨k,hk,cB,rfl,rfl,rfl⟩ CL m5;by_cases hlt:k < l.length
  ·obtain⟨x,hx⟩:∃x,l[k]? =some x:=⟨_,Xj hlt⟩;have ec:(k:Int) < (l.length:Int):=by omega
   have dW:=wi k (by omega);have aT:=ef x;have gx:(enc x).take 3=enc x:=XI (by omega);have ji:=hc x (Xl hx);cases hp:p x with
   |false=>
    rw[hp]at ji;refine ay ?_<;>intros;refine m5 _ _ _ _ _ ?_ ⟨k+1,hlt,?_,rfl,rfl,rfl⟩ (wf (x:=[]) (hh:=rfl) (he:=⟨rfl,rfl,rfl,rfl,rfl,trivial⟩))
    ·omega
    ·intro y hy;rw[ah hx]at hy;rcases X4.1 hy with hy|hy
     ·exact cB y hy
     ·rw[X7]at hy;rw[hy];exact hp
   |true=>
    rw[hp]at ji;have lv:db p l=k:=fh hx hp cB;exact bo;all_goals rw[lv]
    all_goals exact ap.refl _
  ·obtain rfl:k=l.length:=by omega
   rw[Xq]at cB;refine ay ?_<;>intros;all_goals rw[fi cB]
   all_goals exact ap.refl _
theorem w8 {α:Type}{enc:α→List D}(ef:∀x,(enc x).length=3)(p:α→Bool)(l:List α)(g:Nat)(caps:List D)(hl:l.length≤1000000000)(hc:∀x∈l,ae prog g (.agg (enc x)::caps) (.v (.bool (p x)))):
 ae prog 61 [.sl 3 (l.map enc),.clo g caps] (.v (.bool (l.any p))):=by
 have hi:=w7 ef p l g caps hl hc;have pn:=go p l;refine pj func61 ntmps61 results61 ?_;exact bo;all_goals exact ap.refl _
theorem JC (v:Vpc)(o:Int):ae prog 62 [.agg (aD v),.ept [.v (.int .i64 o)]] (.v (.bool (v.id==o))):=by
 refine pj func62 ntmps62 results62 ?_;exact bo
theorem w9 (s:Ste)(hz:∀p∈s.book.pools,p.leases.length≤3518437208882):ae prog 30 [.agg (dR s)] (.v (.int .i64 (eP s))):=by
 have hb:=mM s.book hz;have hn:=wM s.net;obtain⟨R,hR⟩:∃R,R=eP s:=⟨_,rfl⟩;rw[←hR];replace hR:=Xk hR;by_cases h1:bx s.book=0
 ·rw[h1]at hb;by_cases h2:dy s.net=0
  ·rw[h2]at hn;have BX:R=if (kQ (vt s.book) s.net.vpcs&&decide (o3 s.net.vpcs=(vt s.book).countP fun kv=>gM s.net.vpcs kv.2))=true then 0 else 1:=by
    rw[hR.out];unfold eP;rw[if_neg (by simpa using h1),if_neg (by simpa using h2)]
   have Ig:=eD h1;have hu:=Ln.mk (ls:=[]) (Hu s.book (by have:=Ig.n8;omega) (fun p hp=>by have:=Ig.l32 p hp;omega));have hEl:=Qf Ig.l32;have hE8:=Ig.n8;have hEn:(vt s.book).length≤256:=Yu hEl (Yu (Yo 32 hE8) (by decide));have cB:=iM.1 h2;have hn6:=cB.n6;have Uv:∀v∈s.net.vpcs,v.ranges.length≤4:=fun v hv=>(bc (cB.vp v hv)).n4;have OI:∀k,o3 (s.net.vpcs.take k)≤24:=fun k=>Yu (Qc fun v hv=>Uv v (Yc hv)) (by rw[Xp];omega);clear Ig hEl hE8 cB;generalize vt s.book=E at*;replace BX:=Xk BX;replace Uv:=Xk Uv;replace OI:=Xk OI;clear h1 h2 hR;have gA:=Xk (⟨hn6,hEn⟩:s.net.vpcs.length≤6∧E.length≤256);clear hEn;refine pj func30 ntmps30 results30 ?_;refine ay ?_;refine br af al s.net.vpcs (fun k=>kQ E (s.net.vpcs.take k)=true) (fun k=>[(32,.d (.v (.int .i64 k))),(31,.d (.v (.int .i64 s.net.vpcs.length))),(30,.d (.sl 3 (s.net.vpcs.map aD))),(6,.d (.v (.int .i64 (o3 (s.net.vpcs.take k):Nat)))),(5,.mref 2),(1,.ptr 0 0)])
    (fun _=>[.box 36 ((dR s).map .d),.gone,.mp 3 true E]) rfl wf ?_ ?_
   ·intro k v hv hk hI C hC;have fy:(k:Int) < (s.net.vpcs.length:Int):=by omega
    have dW:=wi k (by omega);have om:=Xk (Jq hv);have bD:=Xk (OI.out k);have Uw:=Xk (Uv.out v (Xl hv));have hvx:=Xk hv;have hIx:=Xk hI;clear hI;generalize hNk:o3 (s.net.vpcs.take k)=Nk at*;clear hNk;refine ay ?_;refine br af al v.ranges (fun j=>(v.ranges.take j).all (Bb E v.id)=true) (fun j=>[(39,.d (.v (.int .i64 j))),(38,.d (.v (.int .i64 v.ranges.length))),(37,.d (.sl 3 (v.ranges.map cq))),(8,.ptr 3 0),(6,.d (.v (.int .i64 ((Nk+j:Nat):Int)))),(32,.d (.v (.int .i64 k))),(31,.d (.v (.int .i64 s.net.vpcs.length))),(30,.d (.sl 3 (s.net.vpcs.map aD))),(5,.mref 2),(1,.ptr 0 0)])
     (fun _=>[.box 36 ((dR s).map .d),.gone,.mp 3 true E,.box 88 ((aD v).map .d)]) rfl wf ?_ ?_
    ·intro j r hr hj hJ C2 kz;have mb:(j:Int) < (v.ranges.length:Int):=by omega
     have rf:IntKind.i64.wrap ((j:Int)+1)=((j+1:Nat):Int):=by have:=Uw.out;rw[IntKind.wrap_i64];omega
     have hwc:IntKind.i64.wrap (((Nk+j:Nat):Int)+1)=((Nk+(j+1):Nat):Int):=by have:=bD.out;have:=Uw.out;rw[IntKind.wrap_i64];omega
     have hrx:=Xk hr;have hJx:=Xk hJ;clear hJ;by_cases hq:Bb E v.id r=true
     ·have e1:((kl E [r.at_.at_,r.at_.len,r.pool]).getD 0 !=v.id)=false:=by unfold Bb at hq;simpa using hq
      have EO:=Xk hq;clear hq;refine ay ?_;exact kz _ _ (by rw[ah hrx.out,ZU,hJx.out];simpa using EO.out) wf
     ·have e1:((kl E [r.at_.at_,r.at_.len,r.pool]).getD 0 !=v.id)=true:=by unfold Bb at hq;simpa using hq
      have xV:R=1:=by
       rw[BX.out,if_neg];intro h;rw[Xy]at h;have h3:=XB.1 (XB.1 h.1 v (Xl hvx.out)) r (Xl hrx.out);exact hq h3
      rw[xV];replace hq:=Xk hq;exact bo
    ·intro hJ C2;rw[Xq]at hJ;replace hJ:=Xk hJ;refine ay ?_;exact hC _ _ (by unfold kQ;rw[ah hvx.out,ZU];have:=hIx.out;unfold kQ at this;rw[this];simpa using hJ.out) (wf (hh:=by rfl) (he:=by rw[om.out];repeat' (first|exact trivial|(refine⟨rfl,?_⟩))))
   ·intro hI C;rw[Xq]at hI ⊢;have a0H:=Xk (by have:=OI.out s.net.vpcs.length;rw[Xq]at this;exact this:o3 s.net.vpcs≤24);have cJ:R=if o3 s.net.vpcs=E.countP fun kv=>gM s.net.vpcs kv.2 then 0 else 1:=by
     rw[BX.out,hI,YC];simp only[decide_eq_true_eq]
    replace cJ:=Xk cJ;clear hI;generalize o3 s.net.vpcs=Nn at*;refine ay ?_;refine Sa (fun m e h=>∃(seen:List Nat) (c:Int),seen.Nodup∧(∀i∈seen,i < E.length)∧m=DM E.length seen∧c=(Nn:Int) - (seen.countP (kR E (gM s.net.vpcs)):Nat)∧seen.length≤E.length∧e=[(58,.ptr 3 0),(6,.d (.v (.int .i64 c))),(1,.ptr 0 0)]∧h=[.box 36 ((dR s).map .d),.gone,.gone,.it 3 true E seen]) _ _ _ ⟨[],(Nn:Int),List.nodup_nil,by simp,rfl,by simp,by simp,rfl,rfl⟩ wf ?_;rintro m e h ⟨seen,c,lw,hlt,hm,hc,hle,rfl,rfl⟩ C2 kz;replace hc:=Xk hc;replace hlt:=Xk hlt;refine Hk af al (by rfl) (Dl (k:=3) (x:= .tmp 58) af (by simp) rfl rfl rfl rfl rfl rfl (by decide) (by decide) rfl rfl (by simp) ?_ ?_)
    ·intro bK;have ee:=MI (p:=gM s.net.vpcs) lw hlt.out bK;by_cases hz:c=0
     ·have xV:R=0:=by rw[cJ.out,if_pos];have:=hc.out;omega
      rw[xV];subst hz;clear ee bK lw hm;change sC _ _ _ _ _ _ _ _ _ _;exact bo
     ·have xV:R=1:=by rw[cJ.out,if_neg];have:=hc.out;omega
      have uZ:(c !=0)=true:=by simpa using hz
      rw[xV];clear ee bK lw hm;replace hz:=Xk hz;change sC _ _ _ _ _ _ _ _ _ _;exact bo
    ·intro i hi Sw;obtain⟨kv,H9⟩:∃kv,E[i]? =some kv:=⟨_,Xj hi⟩;have hgl:(seen++[i]).getLast? =some i:=by simp
     have om:=w8 ij (fun v=>v.id==kv.2) s.net.vpcs 62 [.ept [.v (.int .i64 kv.2)]] (by have:=gA.out;omega) (fun v _=>JC v kv.2);have hcp:=List.countP_le_length (p:=kR E (gM s.net.vpcs)) (l:=seen);have jg:(seen++[i]).Nodup:=by rw[X'];exact⟨lw,by simp,fun a ha b hb e=>Sw (by simp at hb;subst hb;subst e;exact ha)⟩
     have H5:∀j∈seen++[i],j < E.length:=fun j hj=>by
      rcases X4.1 hj with h|h
      ·exact hlt.out j h
      ·simp at h;omega
     have sM:=Hv hi Sw;have cy:(seen++[i]).length≤E.length:=by
      have:=(jg.length_le_of_subset (fun j hj=>YP.2 (H5 j hj)):(seen++[i]).length≤(X3 E.length).length);simpa using this
     have t5:(seen++[i]).countP (kR E (gM s.net.vpcs))=seen.countP (kR E (gM s.net.vpcs))+if gM s.net.vpcs kv.2 then 1 else 0:=by
      rw[List.countP_append];simp[kR,H9]
     by_cases hb:gM s.net.vpcs kv.2=true
     ·have nQ:(s.net.vpcs.any fun v=>v.id==kv.2)=true:=hb;rw[nQ]at om;rw[if_pos hb]at t5;have hwc:IntKind.i64.wrap (c - 1)=c - 1:=by have:=hc.out;have:=a0H.out;have:=gA.out;rw[IntKind.wrap_i64];omega
      have yf:c - 1=(Nn:Int) - ((seen++[i]).countP (kR E (gM s.net.vpcs)):Nat):=by rw[t5];have:=hc.out;omega
      replace t5:=Xk t5;replace yf:=Xk yf;replace hb:=Xk hb;clear nQ;replace jg:=Xk jg;replace H5:=Xk H5;replace sM:=Xk sM;replace cy:=Xk cy;change sC _ _ _ _ _ _ _ _ _ _;refine ay ?_;exact kz _ _ _ _ _ (by rw[hm];exact sM.out) ⟨_,_,jg.out,H5.out,rfl,yf.out,cy.out,rfl,rfl⟩ wf
     ·have nQ:(s.net.vpcs.any fun v=>v.id==kv.2)=false:=by simpa[gM]using hb
      rw[nQ]at om;rw[if_neg hb]at t5;have yf:c=(Nn:Int) - ((seen++[i]).countP (kR E (gM s.net.vpcs)):Nat):=by rw[t5];have:=hc.out;omega
      replace t5:=Xk t5;replace yf:=Xk yf;replace hb:=Xk hb;clear nQ;replace jg:=Xk jg;replace H5:=Xk H5;replace sM:=Xk sM;replace cy:=Xk cy;change sC _ _ _ _ _ _ _ _ _ _;refine ay ?_;exact kz _ _ _ _ _ (by rw[hm];exact sM.out) ⟨_,_,jg.out,H5.out,rfl,yf.out,cy.out,rfl,rfl⟩ wf
  ·have e2:(dy s.net !=0)=true:=by simpa using h2
   have BX:R=dy s.net:=by rw[hR.out];unfold eP;rw[if_neg (by simpa using h1),if_pos h2]
   rw[BX];generalize dy s.net=X at*;refine pj func30 ntmps30 results30 ?_;exact bo
 ·have e2:(bx s.book !=0)=true:=by simpa using h1
  have BX:R=bx s.book:=by rw[hR.out];unfold eP;rw[if_pos h1]
  rw[BX];generalize bx s.book=X at*;refine pj func30 ntmps30 results30 ?_;exact bo
def Bok.zero:Bok:=⟨0,[]⟩
theorem gO {b:Bok}{id:Int}{q:Pol}(h:cv b id=some q):∃i:Nat,b.pools[i]? =some q∧q.id=id:=by
 have h1:=Zv h;have h2:=YO h;obtain⟨i,hi,rfl⟩:=Yf.1 h2;exact⟨i,Xj hi,by simpa using h1⟩
theorem j8 {b:Bok}{id:Int}{q:Pol}(h:cv b id=some q):∃pre post,b.pools=pre++q::post∧q.id=id:=by
 obtain⟨i,hi,he⟩:=gO h;obtain⟨hlt,rfl⟩:=Xo.1 hi;exact⟨b.pools.take i,b.pools.drop (i+1),by rw[List.getElem_cons_drop,YU],he⟩
def r6 (b:Bok)(id:Int)(root:Pfx)(r:Rul):Int:=
 if fL id=false∨chk root.at_ root.len≠0 then 3 else
 if (cv b id).isSome=true∨(b.pools.any fun p=>(p.up==0)&&p.root.meets root)=true then 6 else
 if iy r root.len=false then 1 else if b.pools.length=8 then 2 else 0
def jv (b:Bok)(id:Int)(root:Pfx)(r:Rul):Bok × Int:=
 if bx b≠0 then (Bok.zero,bx b)else if r6 b id root r≠0 then (Bok.zero,r6 b id root r)else (⟨b.tick,uR ⟨id,0,root,r,[]⟩ b.pools⟩,0)
theorem Qq (p:Pol)(root:Pfx):ae prog 159 [.agg (am p),.ept (aK root)] (.v (.bool ((p.up==0)&&p.root.meets root))):=by
 have hm:=pD p.root root;refine pj func159 ntmps159 results159 ?_;exact bo
theorem Tl (b:Bok)(id:Int)(root:Pfx)(r:Rul)(hz:∀p∈b.pools,p.leases.length≤3518437208882):ae prog 92 [.agg (bN b),.v (.int .i64 id),.agg (aK root),.agg (A4 r)] (.tup [.agg (bN (jv b id root r).1),.v (.int .i64 (jv b id root r).2)]):=by
 by_cases hc:bx b=0
 ·have dv:=eD hc;have cK:=iY b hz hc;have hid:=Ab id;have bD:=pC root;have om:=Jr kX (fun p=>(p.up==0)&&p.root.meets root) b.pools 159 [.ept (aK root)] (by have:=dv.n8;omega) (fun p _=>Qq p root);have Kr:=F3 r root;have UY:=(Sf b.pools ⟨id,0,root,r,[]⟩ b.pools.length (.v (.int .i64 b.tick)) dv.n8 dv.rise rfl).lep (args':=[.ptr 0 0,.d (.agg [.v (.int .i64 id),.v (.int .i64 0),.v (.int .i64 root.at_),.v (.int .i64 root.len),.v (.int .i64 r.min),.v (.int .i64 r.max),.v (.int .i64 r.usual),.v (.int .i64 r.cool),.v (.slice none 0 0)])]) ⟨.inl rfl,.inr ⟨_,_,rfl,rfl,dg⟩,trivial⟩ rfl;obtain⟨R,hR⟩:∃R,R=jv b id root r:=⟨_,rfl⟩;rw[←hR];replace hR:=Xk hR;cases hq:cv b id with
  |none=>
   have hf:=ny b id (by have:=dv.n8;omega) dv.rise;unfold o6 at hf;rw[hq]at hf;refine pj func92 ntmps92 results92 ?_;have z1z:=Ln.mk (ls:=[]) (cK);have z2z:=Lm.mk (Ln.mk (ls:=[6,7]) (UY));refine rY ?_ ?_ ?_ ?_ ?_ ?_ ?_ ?_<;>first|(with_reducible exact True.intro)|intros
   all_goals clear hf hid bD om Kr cK UY hz
   all_goals first
    |(rw[show R=(Bok.zero,3) from (by rw[hR.out];unfold jv r6;grind)];(try simp only[Xz,Xm]);exact dg)
    |(rw[show R=(Bok.zero,6) from (by rw[hR.out];unfold jv r6;grind)];(try simp only[Xz,Xm]);exact dg)
    |(rw[show R=(Bok.zero,1) from (by rw[hR.out];unfold jv r6;grind)];(try simp only[Xz,Xm]);exact dg)
    |(rw[show R=(Bok.zero,2) from (by rw[hR.out];unfold jv r6;grind)];(try simp only[Xz,Xm]);exact dg)
    |(rw[show R=(⟨b.tick,uR ⟨id,0,root,r,[]⟩ b.pools⟩,0) from (by rw[hR.out];unfold jv r6;grind)];(try simp only[Xz,Xm]);exact dg)
  |some q=>
   obtain⟨i,UZ,rfl⟩:=gO hq;have hf:=Bl b i q b.pools.length (ab (b.pools.map am)) [] (.d (.v (.int .i64 b.tick))) UZ dv.rise dv.n8 (by simp[aC]) (d6 _ _ _) (aq _ _) rfl rfl;replace UZ:=Xk UZ;refine pj func92 ntmps92 results92 ?_;have z1z:=Ln.mk (ls:=[]) (cK);have z2z:=Ln.mk (ls:=[6,7]) (hf);refine Ku ?_ ?_ ?_<;>intros;all_goals clear hf hid bD om Kr cK UY hz
   all_goals first
    |(rw[show R=(Bok.zero,3) from (by rw[hR.out];unfold jv r6;grind)];(try simp only[Xz,Xm]);exact dg)
    |(rw[show R=(Bok.zero,6) from (by rw[hR.out];unfold jv r6;grind)];(try simp only[Xz,Xm]);exact dg)
 ·have cK:=mP b hz hc;have hr:jv b id root r=(Bok.zero,bx b):=by unfold jv;rw[if_pos hc]
  have h1:(bx b !=0)=true:=by simpa using hc
  rw[hr];replace hr:=Xk hr;refine pj func92 ntmps92 results92 ?_;refine ay ?_<;>intros;exact dg
theorem qT (f:PV→Option D):∀(l m:List (List PV)),cZ f (l++m)=match cZ f l,cZ f m with|some a,some b=>some (a++b)|_,_=>none
 |[],m=>by simp only[Ye,cZ];cases cZ f m<;>rfl
 |r::l,m=>by
  simp only[X6,cZ,qT f l m];cases cA f r<;>cases cZ f l<;>cases cZ f m<;>rfl
@[go_sem] theorem fS (h:Nat→Chunk)(n:Nat)(pre:List Pol)(r:List PV)(post:List Pol):cZ (aS h n) (eU pre r post)=match cA (aS h n) r with|some d=>some (pre.map am++d::post.map am)|none=>none:=by
 simp only[eU,qT,cZ,d6];cases cA (aS h n) r<;>rfl
theorem qU {p:Pol}(h:iK p.root (eE p)=0):p.leases.Pairwise fun a b=>a.at_.at_ < b.at_.at_:=by
 obtain⟨h1,h2,h3,h4⟩:=Bg.1 h;unfold eE at h3 h4;rw[Y5]at h4;refine h4.imp_of_mem fun {a b} ha hb kh=>?_;have hr:=(lJ.1 (h3 a.at_ (XH.2 ⟨a,ha,rfl⟩))).1;have:=Pfx.hi_bd hr;unfold HA at kh;omega
def uS (b:Bok)(id:Int)(f:Pol→Pol):Bok:=⟨b.tick,b.pools.map fun q=>if q.id==id then f q else q⟩
theorem nz {b:Bok}{pre post:List Pol}{p:Pol}(hr:tJ b.pools)(h:b.pools=pre++p::post)(f:Pol→Pol):uS b p.id f=⟨b.tick,pre++f p::post⟩:=by
 unfold uS;rw[h];have hr':=hr;rw[h]at hr';obtain⟨h1,h2,h3⟩:=Zp.1 hr';rw[YM]at h2;have e1:pre.map (fun q=>if q.id==p.id then f q else q)=pre:=by
  conv=>rhs;rw[←List.map_id pre]
  refine Y2 fun q hq=>?_;have:=h3 q hq p (by simp);rw[if_neg (by simp;omega)];rfl
 have e2:post.map (fun q=>if q.id==p.id then f q else q)=post:=by
  conv=>rhs;rw[←List.map_id post]
  refine Y2 fun q hq=>?_;have:=h2.1 q hq;rw[if_neg (by simp;omega)];rfl
 rw[Xz,Xm,e1,e2];simp
def fX (b:Bok)(id size owner:Int):Bok × Pfx × Int:=
 if bx b≠0 then (Bok.zero,Pfx.zero,bx b)else
 match cv b id with
 |none=>(Bok.zero,Pfx.zero,5)
 |some p=>
  if fL owner=false then (Bok.zero,Pfx.zero,3)else
  let f:=dB p (if size=0 then p.rule.usual else size)
  if f.2≠0 then (Bok.zero,Pfx.zero,f.2)else (uS b id fun p=>{p with leases:=qR ⟨f.1,1,owner,0⟩ p.leases},f.1,0)
theorem MX (b:Bok)(id size owner:Int)(hz:∀p∈b.pools,p.leases.length≤3518437208882):ae prog 97 [.agg (bN b),.v (.int .i64 id),.v (.int .i64 size),.v (.int .i64 owner)] (.tup [.agg (bN (fX b id size owner).1),.agg (aK (fX b id size owner).2.1),.v (.int .i64 (fX b id size owner).2.2)]):=by
 obtain⟨R,hR⟩:∃R,R=fX b id size owner:=⟨_,rfl⟩;rw[←hR];replace hR:=Xk hR;by_cases hc:bx b=0
 ·have dv:=eD hc;have hid:=Ab owner;cases hq:cv b id with
  |none=>
   have cK:=iY b hz hc;have hf:=ny b id (by have:=dv.n8;omega) dv.rise;unfold o6 at hf;rw[hq]at hf;replace hc:=Xk hc;replace hq:=Xk hq;refine pj func97 ntmps97 results97 ?_;have z1z:=Ln.mk (ls:=[]) (cK);refine ay ?_<;>intros;rw[show R=(Bok.zero,Pfx.zero,5) from (by rw[hR.out];unfold fX;rw[if_neg (by simpa using hc.out),hq.out])];exact dg
  |some p=>
   obtain⟨pre,post,hp,rfl⟩:=j8 hq;have cK:=r5 b pre post p hp hz hc;have yn:p∈b.pools:=by rw[hp];simp
   have AC:b.pools[pre.length]? =some p:=by rw[hp,XP (XC _),Y8];rfl
   have p4:=dv.l32 p yn;have WE:cZ (aS (aw [.box 30 [.d (.v (.int .i64 b.tick)),.own 1 b.pools.length],.row 83 9 b.pools.length (eU pre (an p (.own 2 1)) post),.row 96 5 1 (ab (p.leases.map aQ))]) 5) (eU pre (an p (.own 2 1)) post)=some (b.pools.map am):=by
    rw[hp];simp only[fS,an,cA,aS,aw,d6,if_true,Yg,Xz,Xm];rfl
   have hf:=Bl b pre.length p b.pools.length (eU pre (an p (.own 2 1)) post) [.row 96 5 1 (ab (p.leases.map aQ))] (.d (.v (.int .i64 b.tick))) AC dv.rise dv.n8 (by rw[wZ,hp];simp;omega) WE (by rw[gD];rfl) (by simp only[az,aH,aq,Yn]) rfl;have OS:=fun s=>Sd p s p4;have RW:=fun l=>Se pre post p l b.pools.length 1 p4 (qU (dv.mem p yn).2.1);have hZ:=fun f=>nz dv.rise hp f;have cJ:R=if fL owner=false then (Bok.zero,Pfx.zero,3)else if (dB p (if size=0 then p.rule.usual else size)).2≠0 then (Bok.zero,Pfx.zero,(dB p (if size=0 then p.rule.usual else size)).2)else
    (⟨b.tick,pre++{p with leases:=qR ⟨(dB p (if size=0 then p.rule.usual else size)).1,1,owner,0⟩ p.leases}::post⟩,(dB p (if size=0 then p.rule.usual else size)).1,0):=by
    rw[hR.out];unfold fX;rw[if_neg (by simpa using hc),hq];simp only;rw[hZ]
   replace cJ:=Xk cJ;replace hc:=Xk hc;replace hq:=Xk hq;replace hp:=Xk hp;replace AC:=Xk AC;replace hZ:=Xk hZ;clear WE yn;cases h0:size==0 with
   |true=>
    have e0:size=0:=by simpa using h0
    have cJ:=cJ.out;rw[if_pos e0]at cJ;replace cJ:=Xk cJ;replace e0:=Xk e0;have GG:=RW ⟨(dB p p.rule.usual).1,1,owner,0⟩;have OT:=OS p.rule.usual;clear RW OS;refine pj func97 ntmps97 results97 ?_;repeat' (first|(with_reducible refine And.intro ?_ ?_)|(with_reducible refine dO (fun _=>?_) (fun _=>?_))|(with_reducible refine aN (fun _=>?_) (fun _=>?_))|(with_reducible refine cg (by kernel_rfl))|simp -dsimp only[go_sem,seval, *,bN,aK,aQ,an,aF,eB,fS,h0]|((with_reducible refine ci ?_);simp -dsimp only[go_sem,seval,bN,aK,aQ,an,aF,eB,fS,h0];first|refine aP (by first|assumption|exact hid|exact OT) (by first|exact .inl rfl|exact .inr rfl) ?_|(refine aO (by assumption) ?_ ?_ ?_;(solve|(repeat(first|exact ap.refl _|exact ap.nil _|(refine ap.tup ?_)|(refine ap.agg ?_ rfl)|exact trivial|(refine And.intro ?_ ?_))));(solve|exact .inl rfl|exact .inr rfl)))|(refine eN [] (cK) ?_ ?_ ?_ ?_ ?_ ?_;(solve|rfl|simp only[go_sem,seval,bN,an,aF]);(solve|rfl);(solve|decide);(solve|simp);(solve|simp only[go_sem,seval,aZ,bN,an,aF]))|(refine eN [5,6,8] (hf) ?_ ?_ ?_ ?_ ?_ ?_;(solve|rfl|simp only[go_sem,seval,aK,an,aF]);(solve|rfl);(solve|decide);(solve|simp);(solve|simp only[go_sem,seval,aZ,aK,an,aF]))|(refine eN [6,8] (GG) ?_ ?_ ?_ ?_ ?_ ?_;(solve|rfl|simp only[go_sem,seval,aK,aQ,an,aF]);(solve|rfl);(solve|decide);(solve|simp);(solve|simp only[go_sem,seval,aZ,aK,aQ,an,aF]))|omega|exact decide_eq_true (by omega)|exact ap.refl _)
    all_goals clear hf hid OT GG cK hz
    all_goals first
     |(rw[show R=(Bok.zero,Pfx.zero,3) from (by rw[cJ.out];grind)];(try simp only[Xz,Xm]);exact dg)
     |(rw[show R=(Bok.zero,Pfx.zero,(dB p p.rule.usual).2) from (by rw[cJ.out];grind)];(try simp only[Xz,Xm]);exact dg)
     |(rw[show R=(⟨b.tick,pre++{p with leases:=qR ⟨(dB p p.rule.usual).1,1,owner,0⟩ p.leases}::post⟩,(dB p p.rule.usual).1,0) from (by rw[cJ.out];grind)];(try simp only[Xz,Xm]);exact dg)
   |false=>
    have e0:¬size=0:=by simpa using h0
    have cJ:=cJ.out;rw[if_neg e0]at cJ;replace cJ:=Xk cJ;replace e0:=Xk e0;have GG:=RW ⟨(dB p size).1,1,owner,0⟩;have OT:=OS size;clear RW OS;refine pj func97 ntmps97 results97 ?_;repeat' (first|(with_reducible refine And.intro ?_ ?_)|(with_reducible refine dO (fun _=>?_) (fun _=>?_))|(with_reducible refine aN (fun _=>?_) (fun _=>?_))|(with_reducible refine cg (by kernel_rfl))|simp -dsimp only[go_sem,seval, *,bN,aK,aQ,an,aF,eB,fS,h0]|((with_reducible refine ci ?_);simp -dsimp only[go_sem,seval,bN,aK,aQ,an,aF,eB,fS,h0];first|refine aP (by first|assumption|exact hid|exact OT) (by first|exact .inl rfl|exact .inr rfl) ?_|(refine aO (by assumption) ?_ ?_ ?_;(solve|(repeat(first|exact ap.refl _|exact ap.nil _|(refine ap.tup ?_)|(refine ap.agg ?_ rfl)|exact trivial|(refine And.intro ?_ ?_))));(solve|exact .inl rfl|exact .inr rfl)))|(refine eN [] (cK) ?_ ?_ ?_ ?_ ?_ ?_;(solve|rfl|simp only[go_sem,seval,bN,an,aF]);(solve|rfl);(solve|decide);(solve|simp);(solve|simp only[go_sem,seval,aZ,bN,an,aF]))|(refine eN [5,6,8] (hf) ?_ ?_ ?_ ?_ ?_ ?_;(solve|rfl|simp only[go_sem,seval,aK,an,aF]);(solve|rfl);(solve|decide);(solve|simp);(solve|simp only[go_sem,seval,aZ,aK,an,aF]))|(refine eN [6,8] (GG) ?_ ?_ ?_ ?_ ?_ ?_;(solve|rfl|simp only[go_sem,seval,aK,aQ,an,aF]);(solve|rfl);(solve|decide);(solve|simp);(solve|simp only[go_sem,seval,aZ,aK,aQ,an,aF]))|omega|exact decide_eq_true (by omega)|exact ap.refl _)
    all_goals clear hf hid OT GG cK hz
    all_goals first
     |(rw[show R=(Bok.zero,Pfx.zero,3) from (by rw[cJ.out];grind)];(try simp only[Xz,Xm]);exact dg)
     |(rw[show R=(Bok.zero,Pfx.zero,(dB p size).2) from (by rw[cJ.out];grind)];(try simp only[Xz,Xm]);exact dg)
     |(rw[show R=(⟨b.tick,pre++{p with leases:=qR ⟨(dB p size).1,1,owner,0⟩ p.leases}::post⟩,(dB p size).1,0) from (by rw[cJ.out];grind)];(try simp only[Xz,Xm]);exact dg)
 ·have cK:=mP b hz hc;have h1:(bx b !=0)=true:=by simpa using hc
  have hr:R=(Bok.zero,Pfx.zero,bx b):=by rw[hR.out];unfold fX;rw[if_pos hc]
  rw[hr];replace hr:=Xk hr;refine pj func97 ntmps97 results97 ?_;refine ay ?_<;>intros;exact dg
def kZ (at_:Pfx)(l:Lse):Bool:=(l.kind==1)&&decide (l.at_=at_)
theorem Qr (l:Lse)(at_:Pfx):ae prog 172 [.agg (aQ l),.ept (aK at_)] (.v (.bool (kZ at_ l))):=by
 have he:=pI l.at_ at_;unfold kZ;rw[←he];replace he:=Xk he;refine pj func172 ntmps172 results172 ?_;exact bo
def lc (b:Bok)(id:Int)(at_:Pfx):Bok × Int:=
 if bx b≠0 then (Bok.zero,bx b)else
 match cv b id with
 |none=>(Bok.zero,5)
 |some p=>match p.leases.findIdx? (kZ at_)with
  |none=>(Bok.zero,5)
  |some i=>(uS b id fun p=>{p with leases:=kY p i b.tick},0)
theorem Ad {r:Rul}{len:Int}(h:iy r len=true):0≤r.cool∧r.cool≤1024:=by
 simp only[iy,Xy,decide_eq_true_eq]at h;exact h.2
structure ZipB (b:Bok)(pre post:List Pol)(p:Pol):Prop where
 eq:b.pools=pre++p::post
 at_:b.pools[pre.length]? =some p
 mem:p∈b.pools
 view:cZ (aS (aw [.box 30 [.d (.v (.int .i64 b.tick)),.own 1 b.pools.length],.row 83 9 b.pools.length (eU pre (an p (.own 2 1)) post),.row 96 5 1 (ab (p.leases.map aQ))]) 5) (eU pre (an p (.own 2 1)) post)=some (b.pools.map am)
 len:(eU pre (an p (.own 2 1)) post).length=b.pools.length
theorem Tm {b:Bok}{pre post:List Pol}{p:Pol}(hp:b.pools=pre++p::post):ZipB b pre post p:=by
 refine⟨hp,?_,?_,?_,?_⟩
 ·rw[hp,XP (XC _),Y8];rfl
 ·rw[hp];simp
 ·rw[hp];simp only[fS,an,cA,aS,aw,d6,if_true,Yg,Xz,Xm];rfl
 ·rw[wZ,hp];simp;omega
theorem r7 {b:Bok}(hb:BookOK b){pre post:List Pol}{p:Pol}(hz:ZipB b pre post p){i:Nat}{q:Pol}(hq:b.pools[i]? =some q):
 MSpec prog 156 [.ptr 0 0,.d (.v (.int .i64 q.id))] [.box 30 [.d (.v (.int .i64 b.tick)),.own 1 b.pools.length],.row 83 9 b.pools.length (eU pre (an p (.own 2 1)) post),.row 96 5 1 (ab (p.leases.map aQ))]
  (.tup [.rp 1 b.pools.length 9 i 0,.d (.v (.bool true))]) [.box 30 [.d (.v (.int .i64 b.tick)),.own 1 b.pools.length],.row 83 9 b.pools.length (eU pre (an p (.own 2 1)) post),.row 96 5 1 (ab (p.leases.map aQ))]:=
 Bl b i q b.pools.length _ [.row 96 5 1 (ab (p.leases.map aQ))] (.d (.v (.int .i64 b.tick))) hq hb.rise hb.n8 hz.len hz.view (by rw[gD];rfl) (by simp only[az,aH,aq,Yn]) rfl
theorem MY (b:Bok)(id:Int)(at_:Pfx)(hz:∀p∈b.pools,p.leases.length≤3518437208882):ae prog 100 [.agg (bN b),.v (.int .i64 id),.agg (aK at_)] (.tup [.agg (bN (lc b id at_).1),.v (.int .i64 (lc b id at_).2)]):=by
 obtain⟨R,hR⟩:∃R,R=lc b id at_:=⟨_,rfl⟩;rw[←hR];replace hR:=Xk hR;by_cases hc:bx b=0
 ·have dv:=eD hc;cases hq:cv b id with
  |none=>
   have cK:=iY b hz hc;have hf:=ny b id (by have:=dv.n8;omega) dv.rise;unfold o6 at hf;rw[hq]at hf;replace hc:=Xk hc;replace hq:=Xk hq;refine pj func100 ntmps100 results100 ?_;have z1z:=Ln.mk (ls:=[]) (cK);refine ay ?_<;>intros;rw[show R=(Bok.zero,5) from (by rw[hR.out];unfold lc;rw[if_neg (by simpa using hc.out),hq.out])];exact dg
  |some p=>
   obtain⟨pre,post,hp,rfl⟩:=j8 hq;have cK:=r5 b pre post p hp hz hc;have vA:=Tm hp;have hf:=r7 dv vA vA.at_;have p4:=dv.l32 p vA.mem;have ot:=nu kW (kZ at_) p.leases 172 [.ept (aK at_)] (by omega) (fun l _=>Qr l at_);have hZ:=fun f=>nz dv.rise hp f;unfold db at ot;cases Pf:p.leases.findIdx? (kZ at_)with
   |none=>
    rw[Pf]at ot;have hr:R=(Bok.zero,5):=by rw[hR.out];unfold lc;rw[if_neg (by simpa using hc),hq];simp only;rw[Pf]
    rw[hr];clear hr hZ hq hp hc Pf hR vA;refine pj func100 ntmps100 results100 ?_;repeat' (first|(with_reducible refine And.intro ?_ ?_)|(with_reducible refine dO (fun _=>?_) (fun _=>?_))|(with_reducible refine aN (fun _=>?_) (fun _=>?_))|(with_reducible refine cg (by kernel_rfl))|simp -dsimp only[go_sem,seval, *,bN,aK,an,aF,eB]|((with_reducible refine ci ?_);simp -dsimp only[go_sem,seval,bN,aK,an,aF,eB];first|refine aP (by first|assumption|exact ot) (by first|exact .inl rfl|exact .inr rfl) ?_|(refine aO (by assumption) ?_ ?_ ?_;(solve|(repeat(first|exact ap.refl _|exact ap.nil _|(refine ap.tup ?_)|(refine ap.agg ?_ rfl)|exact trivial|(refine And.intro ?_ ?_))));(solve|exact .inl rfl|exact .inr rfl)))|(refine eN [] (cK) ?_ ?_ ?_ ?_ ?_ ?_;(solve|rfl|simp only[go_sem,seval,bN,an,aF]);(solve|rfl);(solve|decide);(solve|simp);(solve|simp only[go_sem,seval,aZ,bN,an,aF]))|(refine eN [5,6,8] (hf) ?_ ?_ ?_ ?_ ?_ ?_;(solve|rfl|simp only[go_sem,seval,aK,an,aF]);(solve|rfl);(solve|decide);(solve|simp);(solve|simp only[go_sem,seval,aZ,aK,an,aF]))|omega|exact decide_eq_true (by omega)|exact ap.refl _)
    exact dg
   |some i=>
    rw[Pf]at ot;have hi:i < p.leases.length:=(XV.1 Pf).1;have gA:=MW pre post p i b.pools.length 1 b.tick hi p4 (Ad (dv.mem p vA.mem).2.2) dv.tick;have hr:R=(⟨b.tick,pre++{p with leases:=kY p i b.tick}::post⟩,0):=by rw[hR.out];unfold lc;rw[if_neg (by simpa using hc),hq];simp only;rw[Pf];simp only;rw[hZ]
    have p3:decide ((i:Int) < 0)=false:=by simp
    rw[hr];clear hr hZ hq hp hc Pf hR vA;refine pj func100 ntmps100 results100 ?_;repeat' (first|(with_reducible refine And.intro ?_ ?_)|(with_reducible refine dO (fun _=>?_) (fun _=>?_))|(with_reducible refine aN (fun _=>?_) (fun _=>?_))|(with_reducible refine cg (by kernel_rfl))|simp -dsimp only[go_sem,seval, *,bN,aK,an,aF,eB,p3]|((with_reducible refine ci ?_);simp -dsimp only[go_sem,seval,bN,aK,an,aF,eB,p3];first|refine aP (by first|assumption|exact ot) (by first|exact .inl rfl|exact .inr rfl) ?_|(refine aO (by assumption) ?_ ?_ ?_;(solve|(repeat(first|exact ap.refl _|exact ap.nil _|(refine ap.tup ?_)|(refine ap.agg ?_ rfl)|exact trivial|(refine And.intro ?_ ?_))));(solve|exact .inl rfl|exact .inr rfl)))|(refine eN [] (cK) ?_ ?_ ?_ ?_ ?_ ?_;(solve|rfl|simp only[go_sem,seval,bN,an,aF]);(solve|rfl);(solve|decide);(solve|simp);(solve|simp only[go_sem,seval,aZ,bN,an,aF]))|(refine eN [5,6,8] (hf) ?_ ?_ ?_ ?_ ?_ ?_;(solve|rfl|simp only[go_sem,seval,aK,an,aF]);(solve|rfl);(solve|decide);(solve|simp);(solve|simp only[go_sem,seval,aZ,aK,an,aF]))|(refine eN [6,8] (gA) ?_ ?_ ?_ ?_ ?_ ?_;(solve|rfl|simp only[go_sem,seval,aK,aQ,an,aF]);(solve|rfl);(solve|decide);(solve|simp);(solve|simp only[go_sem,seval,aZ,aK,aQ,an,aF]))|omega|exact decide_eq_true (by omega)|exact ap.refl _)
    all_goals exact dg
 ·have cK:=mP b hz hc;have h1:(bx b !=0)=true:=by simpa using hc
  have hr:R=(Bok.zero,bx b):=by rw[hR.out];unfold lc;rw[if_pos hc]
  rw[hr];replace hr:=Xk hr;refine pj func100 ntmps100 results100 ?_;refine ay ?_<;>intros;exact dg
def lO (b:Bok)(id up size:Int)(r:Rul):Bok × Pfx × Int:=
 if bx b≠0 then (Bok.zero,Pfx.zero,bx b)else
 if fL id=false then (Bok.zero,Pfx.zero,3)else
 match cv b up with
 |none=>(Bok.zero,Pfx.zero,5)
 |some p=>
  if (cv b id).isSome=true then (Bok.zero,Pfx.zero,6)else
  if (dB p size).2≠0 then (Bok.zero,Pfx.zero,(dB p size).2)else
  if iy r (dB p size).1.len=false then (Bok.zero,Pfx.zero,1)else
  if b.pools.length=8 then (Bok.zero,Pfx.zero,2)else
  (⟨b.tick,uR ⟨id,up,(dB p size).1,r,[]⟩ (uS b up fun p=>{p with leases:=qR ⟨(dB p size).1,2,id,0⟩ p.leases}).pools⟩,(dB p size).1,0)
theorem MZ {pre post:List Pol}{p q:Pol}(h:tJ (pre++p::post))(hq:q.id=p.id):tJ (pre++q::post):=by
 unfold tJ at h ⊢;rw[Zp,YM]at h ⊢;obtain⟨h1,⟨h2,h3⟩,h4⟩:=h;refine⟨h1,⟨fun a ha=>by rw[hq];exact h2 a ha,h3⟩,fun a ha c hc=>?_⟩;rcases XY.1 hc with rfl|hc
 ·rw[hq];exact h4 a ha p (by simp)
 ·exact h4 a ha c (by simp[hc])
theorem Tn (b:Bok)(id up size:Int)(r:Rul)(hz:∀p∈b.pools,p.leases.length≤3518437208882):ae prog 93 [.agg (bN b),.v (.int .i64 id),.v (.int .i64 up),.v (.int .i64 size),.agg (A4 r)] (.tup [.agg (bN (lO b id up size r).1),.agg (aK (lO b id up size r).2.1),.v (.int .i64 (lO b id up size r).2.2)]):=by
 obtain⟨R,hR⟩:∃R,R=lO b id up size r:=⟨_,rfl⟩;rw[←hR];replace hR:=Xk hR;by_cases hc:bx b=0
 ·have dv:=eD hc;have hid:=Ab id;cases Kq:fL id with
  |false=>
   rw[Kq]at hid;have cK:=iY b hz hc;have hr:R=(Bok.zero,Pfx.zero,3):=by rw[hR.out];unfold lO;rw[if_neg (by simpa using hc),if_pos Kq]
   rw[hr];clear hr hR hc Kq;refine pj func93 ntmps93 results93 ?_;have z1z:=Ln.mk (ls:=[]) (cK);refine ay ?_<;>intros;exact dg
  |true=>
   rw[Kq]at hid;cases hq:cv b up with
   |none=>
    have cK:=iY b hz hc;have hf:=ny b up (by have:=dv.n8;omega) dv.rise;unfold o6 at hf;rw[hq]at hf;have hr:R=(Bok.zero,Pfx.zero,5):=by rw[hR.out];unfold lO;rw[if_neg (by simpa using hc),if_neg (by simp[Kq]),hq]
    rw[hr];clear hr hR hc Kq hq;refine pj func93 ntmps93 results93 ?_;have z1z:=Ln.mk (ls:=[]) (cK);refine ay ?_<;>intros;exact dg
   |some p=>
    obtain⟨pre,post,hp,rfl⟩:=j8 hq;have cK:=r5 b pre post p hp hz hc;have vA:=Tm hp;have hf:=r7 dv vA vA.at_;have p4:=dv.l32 p vA.mem;have hZ:=fun f=>nz dv.rise hp f;have cJ:R=if (cv b id).isSome=true then (Bok.zero,Pfx.zero,6)else if (dB p size).2≠0 then (Bok.zero,Pfx.zero,(dB p size).2)else if iy r (dB p size).1.len=false then (Bok.zero,Pfx.zero,1)else
     if b.pools.length=8 then (Bok.zero,Pfx.zero,2)else (⟨b.tick,uR ⟨id,p.id,(dB p size).1,r,[]⟩ (pre++{p with leases:=qR ⟨(dB p size).1,2,id,0⟩ p.leases}::post)⟩,(dB p size).1,0):=by
     rw[hR.out];unfold lO;rw[if_neg (by simpa using hc),if_neg (by simp[Kq]),hq];simp only;rw[hZ]
    cases EO:cv b id with
    |some q=>
     obtain⟨i,UZ,he⟩:=gO EO;have E3:=r7 dv vA UZ;rw[he]at E3;have hr:R=(Bok.zero,Pfx.zero,6):=by rw[cJ,EO];rfl
     rw[hr];clear hr hR cJ hc Kq hq EO hp hZ vA UZ he;refine pj func93 ntmps93 results93 ?_;repeat' (first|(with_reducible refine And.intro ?_ ?_)|(with_reducible refine dO (fun _=>?_) (fun _=>?_))|(with_reducible refine aN (fun _=>?_) (fun _=>?_))|(with_reducible refine cg (by kernel_rfl))|simp -dsimp only[go_sem,seval, *,bN,aK,A4,an,aF,eB]|((with_reducible refine ci ?_);simp -dsimp only[go_sem,seval,bN,aK,A4,an,aF,eB];first|refine aP (by first|assumption|exact hid) (by first|exact .inl rfl|exact .inr rfl) ?_|(refine aO (by assumption) ?_ ?_ ?_;(solve|(repeat(first|exact ap.refl _|exact ap.nil _|(refine ap.tup ?_)|(refine ap.agg ?_ rfl)|exact trivial|(refine And.intro ?_ ?_))));(solve|exact .inl rfl|exact .inr rfl)))|(refine eN [] (cK) ?_ ?_ ?_ ?_ ?_ ?_;(solve|rfl|simp only[go_sem,seval,bN,an,aF]);(solve|rfl);(solve|decide);(solve|simp);(solve|simp only[go_sem,seval,aZ,bN,an,aF]))|(refine eN [6,7,9] (hf) ?_ ?_ ?_ ?_ ?_ ?_;(solve|rfl|simp only[go_sem,seval,aK,an,aF]);(solve|rfl);(solve|decide);(solve|simp);(solve|simp only[go_sem,seval,aZ,aK,an,aF]))|(refine eN [6,7,9] (E3) ?_ ?_ ?_ ?_ ?_ ?_;(solve|rfl|simp only[go_sem,seval,aK,an,aF]);(solve|rfl);(solve|decide);(solve|simp);(solve|simp only[go_sem,seval,aZ,aK,an,aF]))|omega|exact decide_eq_true (by omega)|exact ap.refl _)
     all_goals exact dg
    |none=>
     have E3:=ny b id (by have:=dv.n8;omega) dv.rise;unfold o6 at E3;rw[EO]at E3;have OS:=Sd p size p4;have Kr:=F3 r (dB p size).1;have hlt:=Se pre post p ⟨(dB p size).1,2,id,0⟩ b.pools.length 1 p4 (qU (dv.mem p vA.mem).2.1);have Xh:(pre++{p with leases:=qR ⟨(dB p size).1,2,id,0⟩ p.leases}::post).length≤8:=by
      have:=dv.n8;rw[hp]at this;simpa using this
     have aT:(pre++{p with leases:=qR ⟨(dB p size).1,2,id,0⟩ p.leases}::post).length=b.pools.length:=by rw[hp];simp
     have hrs:tJ (pre++{p with leases:=qR ⟨(dB p size).1,2,id,0⟩ p.leases}::post):=by
      have:=dv.rise;rw[hp]at this;exact MZ this rfl
     have UY:=(Sf _ ⟨id,p.id,(dB p size).1,r,[]⟩ b.pools.length (.v (.int .i64 b.tick)) Xh hrs rfl).lep (args':=[.ptr 0 0,.d (.agg [.v (.int .i64 id),.v (.int .i64 p.id),.v (.int .i64 (dB p size).1.at_),.v (.int .i64 (dB p size).1.len),.v (.int .i64 r.min),.v (.int .i64 r.max),.v (.int .i64 r.usual),.v (.int .i64 r.cool),.v (.slice none 0 0)])]) ⟨.inl rfl,.inr ⟨_,_,rfl,rfl,dg⟩,trivial⟩ rfl;have Ux:Hid (R=if (dB p size).2≠0 then (Bok.zero,Pfx.zero,(dB p size).2)else if iy r (dB p size).1.len=false then (Bok.zero,Pfx.zero,1)else
      if b.pools.length=8 then (Bok.zero,Pfx.zero,2)else (⟨b.tick,uR ⟨id,p.id,(dB p size).1,r,[]⟩ (pre++{p with leases:=qR ⟨(dB p size).1,2,id,0⟩ p.leases}::post)⟩,(dB p size).1,0)):=by
      show R=_;rw[cJ,EO];rfl
     have hvq:cZ (aS (aw [.gone]) 0) []=some []:=rfl;clear hR cJ hc Kq hq EO hZ Xh hrs hvq aT;have cJ:=Ux;clear Ux;have a1b:=Xk hp;have WE:=vA.view;simp only[fS,an,cA,aS,aw,d6,if_true,Yg]at WE;clear vA;have he:bN b=[.v (.int .i64 b.tick),.sl 9 (List.map am pre++am p::List.map am post)]:=by unfold bN;rw[hp,Xz,Xm]
     rw[he]at E3;have Ss:∀r,(eU pre r post).length=b.pools.length:=fun r=>by rw[wZ,hp];simp;omega
     clear hp WE he;refine pj func93 ntmps93 results93 ?_;repeat' (first|(with_reducible refine And.intro ?_ ?_)|(with_reducible refine dO (fun _=>?_) (fun _=>?_))|(with_reducible refine aN (fun _=>?_) (fun _=>?_))|(with_reducible refine cg (by kernel_rfl))|simp -dsimp only[go_sem,seval, *,bN,aK,A4,aQ,an,aF,eB,fS,Ss]|((with_reducible refine ci ?_);simp -dsimp only[go_sem,seval,bN,aK,A4,aQ,an,aF,eB,fS,Ss];first|refine aP (by first|assumption|exact hid|exact E3|exact OS|exact Kr) (by first|exact .inl rfl|exact .inr rfl) ?_|(refine aO (by assumption) ?_ ?_ ?_;(solve|(repeat(first|exact ap.refl _|exact ap.nil _|(refine ap.tup ?_)|(refine ap.agg ?_ rfl)|exact trivial|(refine And.intro ?_ ?_))));(solve|exact .inl rfl|exact .inr rfl)))|(refine eN [] (cK) ?_ ?_ ?_ ?_ ?_ ?_;(solve|rfl|simp only[go_sem,seval,bN,an,aF]);(solve|rfl);(solve|decide);(solve|simp);(solve|simp only[go_sem,seval,aZ,bN,an,aF]))|(refine eN [6,7,9] (hf) ?_ ?_ ?_ ?_ ?_ ?_;(solve|rfl|simp only[go_sem,seval,aK,an,aF]);(solve|rfl);(solve|decide);(solve|simp);(solve|simp only[go_sem,seval,aZ,aK,an,aF]))|(refine eN [7,9] (hlt) ?_ ?_ ?_ ?_ ?_ ?_;(solve|rfl|simp only[go_sem,seval,aK,aQ,an,aF]);(solve|rfl);(solve|decide);(solve|simp);(solve|simp only[go_sem,seval,aZ,aK,aQ,an,aF]))|(refine eN [6,7] (UY) ?_ ?_ ?_ ?_ ?_ ?_;(solve|rfl|simp only[go_sem,seval,aK]);(solve|rfl);(solve|decide);(solve|simp);(solve|simp only[go_sem,seval,aZ,aK]))|omega|exact decide_eq_true (by omega)|exact ap.refl _)
     all_goals clear hf E3 hid OS Kr hlt UY cK hz
     all_goals first
      |(rw[show R=(Bok.zero,Pfx.zero,(dB p size).2) from (by rw[cJ.out];grind)];(try simp only[Xz,Xm]);exact dg)
      |(rw[show R=(Bok.zero,Pfx.zero,1) from (by rw[cJ.out];grind)];(try simp only[Xz,Xm]);exact dg)
      |(rw[show R=(Bok.zero,Pfx.zero,2) from (by rw[cJ.out];grind)];(try simp only[Xz,Xm]);exact dg)
      |(rw[show R=(⟨b.tick,uR ⟨id,p.id,(dB p size).1,r,[]⟩ (pre++{p with leases:=qR ⟨(dB p size).1,2,id,0⟩ p.leases}::post)⟩,(dB p size).1,0) from (by rw[cJ.out];grind)];(try simp only[Xz,Xm]);exact dg)
 ·have cK:=mP b hz hc;have h1:(bx b !=0)=true:=by simpa using hc
  have hr:R=(Bok.zero,Pfx.zero,bx b):=by rw[hR.out];unfold lO;rw[if_pos hc]
  rw[hr];replace hr:=Xk hr;refine pj func93 ntmps93 results93 ?_;refine ay ?_<;>intros;exact dg
theorem M1 (l:Lse):ae prog 163 [.agg (aQ l)] (.v (.bool (l.kind !=3))):=by
 refine pj func163 ntmps163 results163 ?_;exact bo
theorem M3 (l:Lse)(id:Int):ae prog 166 [.agg (aQ l),.ept [.v (.int .i64 id)]] (.v (.bool (mL id l))):=by
 unfold mL;refine pj func166 ntmps166 results166 ?_;exact bo
theorem r8 (p:Pol)(id:Int):ae prog 168 [.agg (am p),.ept [.v (.int .i64 id)]] (.v (.bool (p.id==id))):=by
 refine pj func168 ntmps168 results168 ?_;exact bo
def l7 (b:Bok)(p:Pol):List Pol:=match cv b p.up with
 |none=>b.pools
 |some u=>match u.leases.findIdx? (mL p.id)with
  |some i=>(uS b u.id fun u=>{u with leases:=kY u i b.tick}).pools
  |none=>b.pools
def ld (b:Bok)(id:Int):Bok × Int:=
 if bx b≠0 then (Bok.zero,bx b)else
 match cv b id with
 |none=>(Bok.zero,5)
 |some p=>if (p.leases.any fun l=>l.kind !=3)=true then (Bok.zero,9)else (⟨b.tick,(l7 b p).filter fun q=>!(q.id==id)⟩,0)
theorem iZ {b:Bok}:∀(l:List Pol) (roots:List Pfx),dk b l roots=true→∀p∈l,iX b b.pools.length p=true∧∀l∈p.leases,ez b p l=true
 |[],_,_,p,hp=>by simp at hp
 |q::l,roots,h,p,hp=>by
  simp only[dk,Xy]at h;rcases XY.1 hp with rfl|hp
  ·exact⟨h.1.1,fun l hl=>XB.1 h.1.2 l hl⟩
  ·have h2:=h.2;split at h2
   ·simp only[Xy]at h2;exact iZ l _ h2.2 p hp
   ·exact iZ l _ h2 p hp
theorem HD {b:Bok}{p:Pol}(hp:cv b p.id=some p)(h1:p.id≠0)(he:p.up=p.id):∀n,iX b n p=false
 |0=>by simp[iX,he,h1]
 |n+1=>by simp[iX,he,h1,hp,HD hp h1 he n]
theorem Qs {b:Bok}{n:Nat}{p u:Pol}(h:iX b n p=true)(h0:p.up≠0)(hu:cv b p.up=some u):u.leases.any (mL p.id)=true:=by
 cases n with
 |zero=>simp[iX,h0]at h
 |succ n=>
  simp only[iX,hu,Bool.or_eq_true,Xy,beq_iff_eq]at h;rcases h with h|h
  ·exact absurd h h0
  ·exact h.1
theorem F6 {pre post:List Pol}{p q:Pol}{r:List PV}{i:Nat}(h:(pre++p::post)[i]? =some q)(bH:i≠pre.length):(eU pre r post)[i]? =some ((am q).map .d):=by
 unfold eU;rcases Y4 i pre.length with hlt|he|hgt
 ·rw[X5 hlt]at h;rw[X5 (by rw[aC,XF];exact hlt),kn,XA,h];rfl
 ·exact absurd he bH
 ·rw[XP (by omega)]at h;rw[XP (by rw[aC,XF];omega),aC,XF];obtain⟨j,hj⟩:∃j,i - pre.length=j+1:=⟨i - pre.length - 1,by omega⟩;rw[hj,YJ]at h ⊢;rw[kn,XA,h];rfl
theorem Qt (b:Bok)(id:Int)(hz:∀p∈b.pools,p.leases.length≤3518437208882):ae prog 94 [.agg (bN b),.v (.int .i64 id)] (.tup [.agg (bN (ld b id).1),.v (.int .i64 (ld b id).2)]):=by
 obtain⟨R,hR⟩:∃R,R=ld b id:=⟨_,rfl⟩;rw[←hR];replace hR:=Xk hR;by_cases hc:bx b=0
 ·have dv:=eD hc;cases hq:cv b id with
  |none=>
   have cK:=iY b hz hc;have hf:=ny b id (by have:=dv.n8;omega) dv.rise;unfold o6 at hf;rw[hq]at hf;have hr:R=(Bok.zero,5):=by rw[hR.out];unfold ld;rw[if_neg (by simpa using hc),hq]
   rw[hr];clear hr hR hc hq;refine pj func94 ntmps94 results94 ?_;have z1z:=Ln.mk (ls:=[]) (cK);refine ay ?_<;>intros;exact dg
  |some p=>
   obtain⟨i,AC,rfl⟩:=gO hq;have yn:p∈b.pools:=Xl AC;have p4:=dv.l32 p yn;have om:=qO kW (fun l=>l.kind !=3) p.leases 163 [] (by omega) (fun l _=>M1 l);have cJ:R=if (p.leases.any fun l=>l.kind !=3)=true then (Bok.zero,9)else (⟨b.tick,(l7 b p).filter fun q=>!(q.id==p.id)⟩,0):=by
    rw[hR.out];unfold ld;rw[if_neg (by simpa using hc),hq]
   replace cJ:=Xk cJ;cases hu:cv b p.up with
   |none=>
    have cK:=iY b hz hc;have hf:=Bl b i p b.pools.length (ab (b.pools.map am)) [] (.d (.v (.int .i64 b.tick))) AC dv.rise dv.n8 (by simp[aC]) (d6 _ _ _) (aq _ _) rfl rfl;have E3:=ny b p.up (by have:=dv.n8;omega) dv.rise;unfold o6 at E3;rw[hu]at E3;have gA:l7 b p=b.pools:=by unfold l7;rw[hu]
    have cJ:=cJ.out;rw[gA]at cJ;have h8:=dv.n8;replace cJ:=Xk cJ;clear hq hu gA hR hc;refine pj func94 ntmps94 results94 ?_;repeat' (first|(with_reducible refine And.intro ?_ ?_)|(with_reducible refine dO (fun _=>?_) (fun _=>?_))|(with_reducible refine aN (fun _=>?_) (fun _=>?_))|(with_reducible refine cg (by kernel_rfl))|simp -dsimp only[go_sem,seval, *,bN,aK,am,AC]|((with_reducible refine ci ?_);simp -dsimp only[go_sem,seval,bN,aK,am,AC];first|refine aP (by first|assumption|exact om|exact E3) (by first|exact .inl rfl|exact .inr rfl) ?_|(refine aO (by assumption) ?_ ?_ ?_;(solve|(repeat(first|exact ap.refl _|exact ap.nil _|(refine ap.tup ?_)|(refine ap.agg ?_ rfl)|exact trivial|(refine And.intro ?_ ?_))));(solve|exact .inl rfl|exact .inr rfl)))|(refine eN [] (cK) ?_ ?_ ?_ ?_ ?_ ?_;(solve|rfl|simp only[go_sem,seval,bN]);(solve|rfl);(solve|decide);(solve|simp);(solve|simp only[go_sem,seval,aZ,bN]))|(refine eN [5,6] (hf) ?_ ?_ ?_ ?_ ?_ ?_;(solve|rfl|simp only[go_sem,seval,bN]);(solve|rfl);(solve|decide);(solve|simp);(solve|simp only[go_sem,seval,aZ,bN]))|(refine Mn (Ac (fun q=>q.id==p.id) b.pools 6 _ _ _ _ rfl rfl ?_ ?_ ⟨[.ept [.v (.int .i64 p.id)]],rfl,fun x _=>r8 x p.id⟩ (fun m c=>⟨[.ept [.v (.int .i64 p.id)]],rfl,fun x _=>r8 x p.id⟩)) ?_)|omega|exact decide_eq_true (by omega)|exact ap.refl _)
    all_goals first
     |first|rfl|simp only[az,dY,aH,ai,ct,aj,aM,aq,gD,an,XD,X8,XU,ZY,decide_true,Yn,Yz]
     |omega
     |(rw[show R=(Bok.zero,9) from (by rw[cJ.out];grind)];(try simp only[Xz,Xm]);exact dg)
     |(rw[show R=(⟨b.tick,b.pools.filter fun q=>!(q.id==p.id)⟩,0) from (by rw[cJ.out];grind)];(try simp only[Xz,Xm]);exact dg)
   |some u=>
    obtain⟨pre,post,hp,Xi⟩:=j8 hu;have cK:=r5 b pre post u hp hz hc;have vA:=Tm hp;have bH:i≠pre.length:=by
     rintro rfl;have:=vA.at_;rw[AC]at this;obtain rfl:=XX.inj this;have h1:=(iZ _ _ dv.second p yn).1;have h2:=HD hq (by have:=(dv.mem p yn).1;rintro h;rw[h]at this;simp[fL]at this) Xi.symm b.pools.length;rw[h2]at h1;exact absurd h1 (by simp)
    have hf:=r7 dv vA AC;have E3:=r7 dv vA vA.at_;rw[Xi]at E3;have hzo:=fun r=>F6 (r:=r) (by rw[←hp];exact AC) bH;have WF:=dv.l32 u vA.mem;have pn:=Qs (iZ _ _ dv.second p yn).1 (by have:=(dv.mem u vA.mem).1;rintro h;rw[←Xi]at h;rw[h]at this;simp[fL]at this) hu;have ot:=nu kW (mL p.id) u.leases 166 [.ept [.v (.int .i64 p.id)]] (by omega) (fun l _=>M3 l p.id);obtain⟨j,hj⟩:∃j,u.leases.findIdx? (mL p.id)=some j:=by
     cases hj:u.leases.findIdx? (mL p.id)with
     |some j=>exact⟨j,rfl⟩
     |none=>
      rw[Yx]at hj;obtain⟨x,hx,pW⟩:=Yd.1 pn;rw[hj x hx]at pW;exact absurd pW (by simp)
    unfold db at ot;rw[hj]at ot;have lx:j < u.leases.length:=(XV.1 hj).1;have gA:=MW pre post u j b.pools.length 1 b.tick lx WF (Ad (dv.mem u vA.mem).2.2) dv.tick;have hcL:l7 b p=pre++{u with leases:=kY u j b.tick}::post:=by
     unfold l7;rw[hu];simp only;rw[hj];simp only;rw[nz dv.rise hp]
    have cJ:=cJ.out;rw[hcL]at cJ;replace cJ:=Xk cJ;have h8:=dv.n8;have aT:(pre++{u with leases:=kY u j b.tick}::post).length≤1000000000:=by
     rw[hp]at h8;simp at h8 ⊢;omega
    clear hq hu Xi hR hc hcL pn hj AC hp vA h8 dv bH yn;refine pj func94 ntmps94 results94 ?_;repeat' (first|(with_reducible refine And.intro ?_ ?_)|(with_reducible refine dO (fun _=>?_) (fun _=>?_))|(with_reducible refine aN (fun _=>?_) (fun _=>?_))|(with_reducible refine cg (by kernel_rfl))|simp -dsimp only[go_sem,seval, *,bN,aK,am,an,aF,eB,hzo]|((with_reducible refine ci ?_);simp -dsimp only[go_sem,seval,bN,aK,am,an,aF,eB,hzo];first|refine aP (by first|assumption|exact om|exact ot) (by first|exact .inl rfl|exact .inr rfl) ?_|(refine aO (by assumption) ?_ ?_ ?_;(solve|(repeat(first|exact ap.refl _|exact ap.nil _|(refine ap.tup ?_)|(refine ap.agg ?_ rfl)|exact trivial|(refine And.intro ?_ ?_))));(solve|exact .inl rfl|exact .inr rfl)))|(refine eN [] (cK) ?_ ?_ ?_ ?_ ?_ ?_;(solve|rfl|simp only[go_sem,seval,bN,an,aF]);(solve|rfl);(solve|decide);(solve|simp);(solve|simp only[go_sem,seval,aZ,bN,an,aF]))|(refine eN [5,6,8] (hf) ?_ ?_ ?_ ?_ ?_ ?_;(solve|rfl|simp only[go_sem,seval,aK,an,aF]);(solve|rfl);(solve|decide);(solve|simp);(solve|simp only[go_sem,seval,aZ,aK,an,aF]))|(refine eN [5,6,8] (E3) ?_ ?_ ?_ ?_ ?_ ?_;(solve|rfl|simp only[go_sem,seval,aK,an,aF]);(solve|rfl);(solve|decide);(solve|simp);(solve|simp only[go_sem,seval,aZ,aK,an,aF]))|(refine eN [6,8] (gA) ?_ ?_ ?_ ?_ ?_ ?_;(solve|rfl|simp only[go_sem,seval,aK,aQ,an,aF]);(solve|rfl);(solve|decide);(solve|simp);(solve|simp only[go_sem,seval,aZ,aK,aQ,an,aF]))|(refine Mn (Ac (fun q=>q.id==p.id) (pre++{u with leases:=kY u j b.tick}::post) 6 _ _ _ _ rfl rfl ?_ ?_ ⟨[.ept [.v (.int .i64 p.id)]],rfl,fun x _=>r8 x p.id⟩ (fun m c=>⟨[.ept [.v (.int .i64 p.id)]],rfl,fun x _=>r8 x p.id⟩)) ?_)|omega|exact decide_eq_true (by omega)|exact ap.refl _)
    all_goals first
     |first|rfl|simp only[az,dY,aH,ai,ct,aj,aM,aq,gD,an,XD,X8,XU,ZY,decide_true,Yn,Yz]
     |(simpa using aT)
     |(rw[show R=(Bok.zero,9) from (by rw[cJ.out];grind)];(try simp only[Xz,Xm]);exact dg)
     |(rw[show R=(⟨b.tick,(pre++{u with leases:=kY u j b.tick}::post).filter fun q=>!(q.id==p.id)⟩,0) from (by rw[cJ.out];grind)];(try simp only[Xz,Xm]);exact dg)
 ·have cK:=mP b hz hc;have h1:(bx b !=0)=true:=by simpa using hc
  have hr:R=(Bok.zero,bx b):=by rw[hR.out];unfold ld;rw[if_pos hc]
  rw[hr];replace hr:=Xk hr;refine pj func94 ntmps94 results94 ?_;refine ay ?_<;>intros;exact dg
def eL:Nat→List Pol→List (List PV)
 |_,[]=>[]
 |k,p::ps=>an p (.own k 1)::eL (k+2) ps
def sJ:List Pol→List Chunk
 |[]=>[]
 |p::ps=> .gone:: .row 96 5 1 (ab (p.leases.map aQ))::sJ ps
@[go_sem] theorem tK:∀(ps:List Pol) (k:Nat),(eL k ps).length=ps.length
 |[],_=>rfl
 |p::ps,k=>by simp only[eL,XD,tK ps]
theorem nC:∀ps:List Pol,(sJ ps).length=2*ps.length
 |[]=>rfl
 |p::ps=>by simp only[sJ,XD,nC ps];omega
theorem xa (p:Pol):∀(ps:List Pol) (k:Nat),eL k (ps++[p])=eL k ps++[an p (.own (k+2*ps.length) 1)]
 |[],k=>rfl
 |q::ps,k=>by
  simp only[X6,eL,xa p ps,XD];rw[show k+2+2*ps.length=k+2*(ps.length+1) by omega]
theorem DT (p:Pol):∀ps:List Pol,sJ (ps++[p])=sJ ps++[.gone,.row 96 5 1 (ab (p.leases.map aQ))]
 |[]=>rfl
 |q::ps=>by simp only[X6,sJ,DT p ps]
theorem iz (n:Nat):∀(ps:List Pol) (k:Nat),k+2*ps.length < n+2→ct n (eL k ps)=true
 |[],_,_=>rfl
 |p::ps,k,h=>by
  simp only[XD]at h;simp only[eL,ct,an,ai,aj,iz n ps (k+2) (by omega),Yz,YC,decide_eq_true_eq];omega
theorem nD (n:Nat):∀ps:List Pol,az n (sJ ps)=true
 |[]=>rfl
 |p::ps=>by simp only[sJ,az,aH,aq,nD n ps,Yn]
@[go_sem] theorem To (a:List Chunk)(c d:Chunk):bu (a++[c]) a.length d=a++[d]:=by
 have:=mB a c d [];simpa using this
@[go_sem] theorem Tp (a:List Chunk)(c e d:Chunk):bu (a++[c,e]) a.length d=a++[d,e]:=mB a c d [e]
@[go_sem] theorem UN (a:List Chunk)(c d:Chunk):bu (a++[c]) (a.length+1) d=a++[c,d]:=by
 have:=kq (a++[c]) d;rw[Xt]at this;simpa using this
@[go_sem] theorem Qu (a:List Chunk)(c:Chunk)(l:List Chunk):aw (a++c::l) a.length=c:=by
 induction a with
 |nil=>rfl
 |cons x a ih=>exact ih
@[go_sem] theorem Vw (a:List Chunk)(c d:Chunk)(l:List Chunk):aw (a++c::d::l) (a.length+1)=d:=by
 induction a with
 |nil=>rfl
 |cons x a ih=>exact ih
@[go_sem] theorem Vx (a:List Chunk)(c d e:Chunk)(l:List Chunk):aw (a++c::d::e::l) (a.length+2)=e:=by
 induction a with
 |nil=>rfl
 |cons x a ih=>exact ih
@[go_sem] theorem UO (a:List Chunk)(c e d:Chunk):bu (a++[c,e]) (a.length+2) d=a++[c,e,d]:=by
 have:=kq (a++[c,e]) d;rw[Xt]at this;simpa using this
theorem nE (n:Nat):∀(l m:List Chunk),az n (l++m)=(az n l&&az n m)
 |[],m=>rfl
 |c::l,m=>by simp only[X6,az,nE n l m,Z']
theorem Qv (b:Bok)(h8:b.pools.length≤8)(iG:∀p∈b.pools,p.leases.length≤32):
 MSpec prog 232 [.d (.agg (bN b))] [] (.ptr 1 0) (.gone:: .box 30 [.d (.v (.int .i64 b.tick)),.own 2 b.pools.length]:: .row 83 9 b.pools.length (eL 4 b.pools)::sJ b.pools):=by
 refine mj func232 ntmps232 results232 ?_;refine ay ?_<;>intros;refine br af al b.pools (fun _=>True) (fun k=>[(13,.d (.v (.int .i64 k))),(12,.d (.v (.int .i64 b.pools.length))),(11,.d (.sl 9 (b.pools.map am))),(3,.ptr 1 0),(2,.d (.v (.pointer none)))])
  (fun k=> .gone:: .box 30 [.d (.v (.int .i64 b.tick)),.own 2 k]:: .row 83 9 k (eL 4 (b.pools.take k))::sJ (b.pools.take k)) trivial ?_ ?_ ?_
 ·refine(aU 0 (by simp)).trans ((aL (by simp) 1 30 [.d (.v (.int .i64 b.tick)),.d (.v (.slice none 0 0))] 1 83 9 rfl rfl rfl).trans ?_);exact wf
 ·intro k p hp hk _ C hC;have fy:(k:Int) < (b.pools.length:Int):=by omega
  have dW:=wi k (by omega);have oa:=iG p (Xl hp);have pT:k+1≤100:=by omega
  have hlt:(YD k b.pools).length=k:=by rw[Xp];omega
  have fU:=ah hp;have Aw:=tK (b.pools.take k) 4;have gA:=nC (b.pools.take k);rw[hlt]at Aw gA;rw[fU,xa,DT,hlt]at hC;have GJ:=fun n h=>iz n (b.pools.take k) 4 h;have hbh:=fun n=>nD n (b.pools.take k);clear fU;generalize sJ (b.pools.take k)=T at*;generalize eL 4 (b.pools.take k)=rows at*;replace gA:=Xk gA;replace GJ:=Xk GJ;replace hbh:=Xk hbh;have z1z:=Ln.mk (ls:=[]) (gN aQ p.leases (by omega));refine ay ?_<;>intros;refine hC _ _ trivial ((aU (T.length+3) (by simp)).trans (dQ [.row 83 9 0 [an p (.own (T.length+4) 1)]] (by simp) (h':= .gone:: .box 30 [.d (.v (.int .i64 b.tick)),.own 2 (k+1)]:: .row 83 9 (k+1) (rows++[an p (.own (4+2*k) 1)])::(T++[.gone,.row 96 5 1 (ab (p.leases.map aQ))])) ?_ se ?_ ?_))
  ·simp only[bu];rw[mB,show T.length+4=4+2*k from by have:=gA.out;omega];simp only[X6,XT,Ye];rfl
  ·have:=gA.out;simp[dY,aj]
  ·have:=gA.out;have h1:=hbh.out (T.length+5);have h2:=GJ.out (T.length+5) (by rw[hlt];omega);simp[az,aH,ai,aj,ju,ct,aq,an,nE,h1,h2];omega
 ·intro _ C;refine ay ?_<;>intros;(try rw[Xq])
  exact aV rfl rfl
@[go_sem] theorem JD (n:Nat):∀(ps:List Pol) (j:Nat) (a:List Chunk),a.length=n+j→gJ (fun x=>n+x) j (sJ ps) a=a++sJ ps
 |[],j,a,_=>by simp[sJ,gJ]
 |p::ps,j,a,h=>by
  have h1:n+j=a.length:=h.symm;have h2:n+(j+1)=(a++[Chunk.gone]).length:=by simp only[Xt,XD,X8];omega
  simp only[sJ,gJ,lA];rw[h1,kq,h2,kq,JD n ps (j+1+1) _ (by simp;omega)];have hd:jn (fun x=>n+x) (ab (p.leases.map aQ))=ab (p.leases.map aQ):=vW _ _;rw[hd];simp
@[go_sem] theorem F7 (n:Nat):∀(ps:List Pol) (k:Nat),jn (fun x=>n+x) (eL k ps)=eL (n+k) ps
 |[],_=>rfl
 |p::ps,k=>by
  simp only[eL,jn,F7 n ps (k+2),an,ig,ren];rw[show n+(k+2)=n+k+2 by omega]
theorem JE (b:Bok)(hz:∀p∈b.pools,p.leases.length≤3518437208882)(h:bx b=0):
 MSpec prog 155 [.d (.agg (bN b))] [] (.tup [.ptr 2 0,.d (.v (.int .i64 0))]) (.gone:: .gone:: .box 30 [.d (.v (.int .i64 b.tick)),.own 3 b.pools.length]:: .row 83 9 b.pools.length (eL 5 b.pools)::sJ b.pools):=by
 have hc:=mM b hz;have hb:=eD h;have ho:=Qv b hb.n8 hb.l32;rw[h]at hc;replace h:=Xk h;refine mj func155 ntmps155 results155 ?_;have z1z:=Ln.mk (ls:=[]) (ho);refine ay ?_<;>intros;exact(aU 0 (by simp)).trans (aV rfl rfl)
def lB (D:List Pol)(r:List PV)(k:Nat)(ps:List Pol):List (List PV):=ab (D.map am)++r::eL k ps
theorem M4 (D:List Pol)(r:List PV)(k:Nat)(ps:List Pol):(lB D r k ps).length=D.length+1+ps.length:=by
 unfold lB;rw[Xt,XD,tK,aC,XF];omega
theorem M5 (D:List Pol)(r:List PV)(k:Nat)(ps:List Pol):(lB D r k ps)[D.length]? =some r:=by
 unfold lB;rw[XP (by simp[aC])];simp[aC]
theorem M6 (D:List Pol)(r r':List PV)(k:Nat)(ps:List Pol):(lB D r k ps).set D.length r'=lB D r' k ps:=by
 unfold lB;rw[Zc _ _ (by simp[aC])];simp[aC]
theorem Ae (k g:Nat)(d:D):∀(ps:List Pol) (k0:Nat),k < k0→iV k g d (eL k0 ps)=eL k0 ps
 |[],_,_=>rfl
 |p::ps,k0,h=>by
  simp only[eL,iV,Ae k g d ps (k0+2) (by omega),an,jE,fz];rw[if_neg (by omega)]
theorem HE (k g:Nat)(d:D):∀(l m:List Chunk) (i:Nat),iL k g d i (l++m)=iL k g d i l++iL k g d (i+l.length) m
 |[],m,i=>rfl
 |c::l,m,i=>by
  simp only[X6,iL,HE k g d l m (i+1),XD];rw[show i+1+l.length=i+(l.length+1) by omega]
theorem xb (k g:Nat)(d:D):∀(l:List Chunk) (i:Nat),(∀c∈l,kG k g d c=c)→(∀x,i≤x→x < i+l.length→x≠k)→iL k g d i l=l
 |[],_,_,_=>rfl
 |c::l,i,h,hx=>by
  simp only[iL];rw[if_neg (hx i (XC _) (by simp)),h c (by simp),xb k g d l (i+1) (fun c hc=>h c (by simp[hc])) (fun x h1 h2=>hx x (by omega) (by simp;omega))]
theorem HF {c:Chunk}:∀{ps:List Pol},c∈sJ ps→c= .gone∨∃ls,c= .row 96 5 1 (ab ls)
 |p::ps,h=>by
  simp only[sJ,XY]at h;rcases h with h|h|h
  ·exact .inl h
  ·exact .inr ⟨_,h⟩
  ·exact HF h
theorem M7:∀(ps:List Pol) (x:List Chunk) (i:Nat) (p:Pol),ps[i]? =some p→aw (sJ ps++x) (2*i+1)= .row 96 5 1 (ab (p.leases.map aQ))
 |q::ps,x,0,p,h=>by simp at h;subst h;rfl
 |q::ps,x,i+1,p,h=>by
  simp only[YJ]at h;have:=M7 ps x i p h;simp only[sJ,X6];rw[show 2*(i+1)+1=(2*i+1)+1+1 by omega];exact this
theorem Af:∀(a b:List Chunk) (i:Nat),aw (a++b) (a.length+i)=aw b i
 |[],b,i=>by simp
 |c::a,b,i=>by
  simp only[X6,XD];rw[show a.length+1+i=(a.length+i)+1 by omega];exact Af a b i
def gr (j:Nat)(c:Chunk)(ps:List Pol)(e:Chunk):List Chunk:=XR (2*j) .gone++(.gone::c::(sJ ps++[e]))
structure TailOK (T:Chunk→List Chunk)(j q:Nat)(ps:List Pol)(e:Chunk):Prop where
 a:∀c x,aw (T c++x) (2*j+1)=c
 a0:∀c,aw (T c) (2*j+1)=c
 b:∀c x,aw (T c++x) q=e
 b0:∀c,aw (T c) q=e
 c:∀c d,bu (T c) (2*j+1) d=T d
 len:∀c,(T c).length=q+1
 h:∀n c,aH n c=true→aH n e=true→az n (T c)=true
 r:∀c x i p,ps[i]? =some p→aw (T c++x) (2*j+1+2*(i+1))= .row 96 5 1 (ab (p.leases.map aQ))
 f:∀c g d,kG (2*j+7) g d e=e→iL (2*j+7) g d 6 (T c)=T .gone
theorem lf (j:Nat)(c:Chunk)(ps:List Pol)(e:Chunk):gr j c ps e=(XR (2*j) Chunk.gone++[.gone])++c::(sJ ps++[e]):=by
 unfold gr;simp
theorem Tq (j q:Nat)(ps:List Pol)(e:Chunk)(hq:q=2*j+2+2*ps.length):TailOK (fun c=>gr j c ps e) j q ps e:=by
 have hA:(XR (2*j) Chunk.gone++[Chunk.gone]).length=2*j+1:=by simp
 have a0:∀c,aw (gr j c ps e) (2*j+1)=c:=fun c=>by rw[lf,←hA];exact Qu _ _ _
 have hl:∀c,(gr j c ps e).length=q+1:=fun c=>by unfold gr;simp[nC];omega
 have b0:∀c,aw (gr j c ps e) q=e:=fun c=>by
  have:gr j c ps e=(XR (2*j) Chunk.gone++(.gone::c::sJ ps))++[e]:=by unfold gr;simp
  rw[this,jo,if_pos];simp[nC];omega
 refine⟨fun c x=>?_,a0,fun c x=>?_,b0,fun c d=>?_,hl,fun n c h1 h2=>?_,fun c x i p hp=>?_,fun c g d he=>?_⟩
 ·rw[pz _ _ _ (by rw[hl];omega),a0]
 ·rw[pz _ _ _ (by rw[hl];omega),b0]
 ·show bu (gr j c ps e) (2*j+1) d=gr j d ps e;rw[lf,lf,←hA];exact mB _ _ _ _
 ·have:az n (XR (2*j) Chunk.gone)=true:=by
   generalize 2*j=m;induction m with
   |zero=>rfl
   |succ m ih=>rw[List.replicate_succ];simp only[az,aH,ih,Yn]
  show az n (gr j c ps e)=true;unfold gr;simp only[nE,az,this,h1,h2,nD,Yz,YC];rfl
 ·show aw (gr j c ps e++x) _=_;have:gr j c ps e++x=(XR (2*j) Chunk.gone++[.gone,c])++(sJ ps++([e]++x)):=by unfold gr;simp
  rw[this];have aT:(XR (2*j) Chunk.gone++[.gone,c]).length=2*j+2:=by simp
  rw[show 2*j+1+2*(i+1)=(XR (2*j) Chunk.gone++[.gone,c]).length+(2*i+1) by rw[aT];omega,Af];exact M7 ps _ i p hp
 ·show iL (2*j+7) g d 6 (gr j c ps e)=gr j .gone ps e;rw[lf,lf,HE,hA];have h1:iL (2*j+7) g d 6 (XR (2*j) Chunk.gone++[Chunk.gone])=XR (2*j) Chunk.gone++[Chunk.gone]:=by
   refine xb _ _ _ _ _ (fun c hc=>?_) (fun x h1 h2=>by rw[hA]at h2;omega);have:c= .gone:=by simp at hc;rcases hc with h|h<;>first|exact h.2|exact h
   subst this;rfl
  rw[h1,show 6+(2*j+1)=2*j+7 by omega];simp only[iL,if_true];rw[xb _ _ _ _ _ (fun c hc=>?_) (fun x h1 h2=>by omega)];simp only[X4,X7]at hc;rcases hc with hc|rfl
  ·rcases HF hc with rfl|⟨ls,rfl⟩
   ·rfl
   ·simp only[kG,cG]
  ·exact he
theorem uv {h:Nat→Chunk}{n:Nat}:∀(ps:List Pol) (k:Nat),(∀i p,ps[i]? =some p→∃ls,h (k+2*i)= .row 96 5 1 (ab ls))→∃ds,cZ (aS h (n+1)) (eL k ps)=some ds
 |[],_,_=>⟨[],rfl⟩
 |p::ps,k,hk=>by
  obtain⟨ls,h1⟩:=hk 0 p rfl;obtain⟨ds,h2⟩:=uv (n:=n) ps (k+2) (fun i q hq=>by
   obtain⟨ls,h3⟩:=hk (i+1) q (by simpa using hq);exact⟨ls,by rw[←h3];congr 1;omega⟩)
  rw[Nat.mul_zero,X0]at h1;simp only[eL,cZ,h2,an,cA,aS,nd,h1,if_true,d6,Yg];exact⟨_,rfl⟩
def r9 (t:Int)(l:Lse):Bool:=(l.kind==3)&&decide (l.till≤t)
theorem HG (l:Lse)(t:Int)(x:D):ae prog 170 [.agg (aQ l),.ept [.ept [.v (.int .i64 t),x]]] (.v (.bool (r9 t l))):=by
 unfold r9;refine pj func170 ntmps170 results170 ?_;exact bo
def ft (t:Int)(p:Pol):Pol:={p with leases:=p.leases.filter fun l=>!r9 t l}
def qh (b:Bok)(n:Int):Bok × Int:=
 if bx b≠0 then (Bok.zero,bx b)else
 if n < 1∨n>1073741824 - b.tick then (Bok.zero,3)else (⟨b.tick+n,b.pools.map (ft (b.tick+n))⟩,0)
def eF (b:Bok)(t:Int)(rows:List (List PV))(T:List Chunk):List Chunk:=
 .box 30 [.d (.v (.int .i64 b.tick)),.d (.sl 9 (b.pools.map am))]:: .box 30 [.d (.v (.int .i64 0)),.d (.v (.slice none 0 0))]:: .gone:: .gone:: .box 30 [.d (.v (.int .i64 t)),.own 5 b.pools.length]:: .row 83 9 b.pools.length rows::T
theorem o7 {b:Bok}{t:Int}{rows:List (List PV)}{T:List Chunk}{n:Nat}(h1:ct n rows=true)(h2:az n T=true)(h3:6≤n):az n (eF b t rows T)=true:=by
 simp only[eF,az,aH,ai,aj,h1,h2,Yz,YC,decide_eq_true_eq];omega
theorem Tr (b:Bok)(n:Int)(hz:∀p∈b.pools,p.leases.length≤3518437208882):ae prog 95 [.agg (bN b),.v (.int .i64 n)] (.tup [.agg (bN (qh b n).1),.v (.int .i64 (qh b n).2)]):=by
 obtain⟨R,hR⟩:∃R,R=qh b n:=⟨_,rfl⟩;rw[←hR];replace hR:=Xk hR;by_cases hc:bx b=0
 ·have dv:=eD hc;have cK:=JE b hz hc;have ht:=dv.tick;have hws:IntKind.i64.wrap (1073741824 - b.tick)=1073741824 - b.tick:=by rw[IntKind.wrap_i64];omega
  have cJ:R=if n < 1∨n>1073741824 - b.tick then (Bok.zero,3)else (⟨b.tick+n,b.pools.map (ft (b.tick+n))⟩,0):=by rw[hR.out];unfold qh;rw[if_neg (by simpa using hc)]
  replace cJ:=Xk cJ;clear hR hc;by_cases hn:n < 1∨n>1073741824 - b.tick
  ·clear dv;refine pj func95 ntmps95 results95 ?_;have z1z:=Ln.mk (ls:=[]) (cK);refine Ku ?_ ?_ ?_<;>intros;all_goals first
    |(exfalso;rename_i q1 q2;simp only[decide_eq_false_iff_not]at q1 q2;omega)
    |(clear hz cK;(rw[show R=(Bok.zero,3) from (by rw[cJ.out];grind)];(try simp only[Xz,Xm]);exact dg))
  ·have h1:decide (n < 1)=false:=by simp;omega
   have h2:decide (n>1073741824 - b.tick)=false:=by simp;omega
   have SE:IntKind.i64.wrap (b.tick+n)=b.tick+n:=by rw[IntKind.wrap_i64];omega
   replace hn:=Xk hn;refine pj func95 ntmps95 results95 ?_;have z1z:=Ln.mk (ls:=[]) (cK);refine ay ?_<;>intros;have hqn:=nC b.pools;rw[hqn];refine cf af al (fun m e h=>∃(pre rest:List Pol),b.pools=pre++rest∧m=rest.length∧e=[(44,.d (.v (.int .i64 pre.length))),(43,.d (.v (.int .i64 b.pools.length))),(6,.ptr (2*b.pools.length+6) 0),(5,.d (.v (.int .i64 0))),(4,.ptr 1 0)]∧
    h=eF b (b.tick+n) (ab ((pre.map (ft (b.tick+n))).map am)++eL (2*pre.length+7) rest) (XR (2*pre.length) .gone++(sJ rest++[.box 178 [.ptr 4 0]]))) _ _ _ ⟨[],b.pools,rfl,rfl,rfl,rfl⟩ ?_ ?_
   ·refine dQ [] (by simp) (by simp only[eF,Xx,Ya,X8,Nat.mul_zero,List.replicate_zero,Ye];rfl) se (by simp[eF,dY,aj,nC]) ?_;refine o7 (by simp only[Xx,X8];exact iz _ b.pools 7 (by simp[eF,nC];omega)) ?_ (by simp[eF]);simp[nE,nD,az,aH,ai,aj,eF]
   ·rintro m e h ⟨pre,rest,If,hm,rfl,rfl⟩ C hC;cases rest with
    |nil=>
     have hN:b.pools.length=pre.length:=by rw[If];simp
     have hq:aw (XR (2*pre.length) Chunk.gone++[.box 178 [.ptr 4 0]]) (2*b.pools.length)= .box 178 [.ptr 4 0]:=by rw[jo,if_pos (by simp;omega)]
     have mb:¬(pre.length:Int) < (b.pools.length:Int):=by omega
     have WG:b.pools=pre:=by rw[If];simp
     have Ux:=cJ.out;rw[if_neg hn.out,WG]at Ux;clear hC hm If WG hN;replace mb:decide ((pre.length:Int) < (b.pools.length:Int))=false:=by simpa using mb
     simp only[eF,eL,sJ,Ya,Ye];generalize XR (2*pre.length) Chunk.gone++[Chunk.box 178 [.ptr 4 0]]=T at*;replace Ux:=Xk Ux;refine ay ?_<;>intros;rw[Ux.out];exact dg
    |cons p rest=>
     have hN:b.pools.length=pre.length+1+rest.length:=by rw[If];simp;omega
     have mb:(pre.length:Int) < (b.pools.length:Int):=by omega
     have dW:IntKind.i64.wrap ((pre.length:Int)+1)=((pre.length+1:Nat):Int):=by rw[IntKind.wrap_i64];have:=dv.n8;omega
     have oa:=dv.l32 p (by rw[If];simp);have Ss:=fun r=>M4 (pre.map (ft (b.tick+n))) r (2*pre.length+7+2) rest;have hzg:=fun r=>M5 (pre.map (ft (b.tick+n))) r (2*pre.length+7+2) rest;have KA:=fun r r'=>M6 (pre.map (ft (b.tick+n))) r r' (2*pre.length+7+2) rest;rw[XF]at Ss;simp only[XF]at hzg KA;obtain⟨T,hT,hTe⟩:∃T:Chunk→List Chunk,TailOK T pre.length (2*b.pools.length) rest (.box 178 [.ptr 4 0])∧T=fun c=>gr pre.length c rest (.box 178 [.ptr 4 0]):=⟨_,Tq pre.length (2*b.pools.length) rest (.box 178 [.ptr 4 0]) (by omega),rfl⟩;have hTg:T .gone=XR (2*(pre++[p]).length) .gone++(sJ rest++[.box 178 [.ptr 4 0]]):=by
      rw[hTe];show gr _ _ _ _=_;unfold gr;rw[Xt,XD,X8,show 2*(pre.length+(0+1))=2*pre.length+1+1 by omega,List.replicate_succ',List.replicate_succ'];simp
     have hTc:T (.row 96 5 1 (ab (p.leases.map aQ)))=XR (2*pre.length) .gone++(sJ (p::rest)++[.box 178 [.ptr 4 0]]):=by rw[hTe];rfl
     rw[←hTc];clear hTe hTc;have St:ab ((pre.map (ft (b.tick+n))).map am)++eL (2*pre.length+7) (p::rest)=lB (pre.map (ft (b.tick+n))) (an p (.own (2*pre.length+7) 1)) (2*pre.length+7+2) rest:=rfl;rw[St];clear St;have OU:∀(m:List Lse) (x:List Chunk) (v:Nat),∃d,cA (aS (aw (eF b (b.tick+n) (lB (pre.map (ft (b.tick+n))) (an p (.own (2*pre.length+7) 1)) (2*pre.length+7+2) rest) (T (.row 96 5 1 (ab (m.map aQ)))++x))) (v+5)) [.ptr (2*b.pools.length+6) 0]=some [.ept [.ept [.v (.int .i64 (b.tick+n)),d]]]:=by
      intro m x v;obtain⟨ds,dI⟩:=uv (h:=aw (eF b (b.tick+n) (lB (pre.map (ft (b.tick+n))) (an p (.own (2*pre.length+7) 1)) (2*pre.length+7+2) rest) (T (.row 96 5 1 (ab (m.map aQ)))++x))) (n:=v+1) rest (2*pre.length+7+2) (fun i q hq=>⟨q.leases.map aQ,by
       rw[show 2*pre.length+7+2+2*i=2*pre.length+1+2*(i+1)+6 by omega];exact hT.r _ x i q hq⟩)
      have h1:aw (eF b (b.tick+n) (lB (pre.map (ft (b.tick+n))) (an p (.own (2*pre.length+7) 1)) (2*pre.length+7+2) rest) (T (.row 96 5 1 (ab (m.map aQ)))++x)) (2*b.pools.length+6)= .box 178 [.ptr 4 0]:=hT.b _ x;have h2:aw (eF b (b.tick+n) (lB (pre.map (ft (b.tick+n))) (an p (.own (2*pre.length+7) 1)) (2*pre.length+7+2) rest) (T (.row 96 5 1 (ab (m.map aQ)))++x)) (2*pre.length+7)= .row 96 5 1 (ab (m.map aQ)):=hT.a _ x;have h3:∀r T',aw (eF b (b.tick+n) r T') 4= .box 30 [.d (.v (.int .i64 (b.tick+n))),.own 5 b.pools.length]:=fun _ _=>rfl;have h4:∀r T',aw (eF b (b.tick+n) r T') 5= .row 83 9 b.pools.length r:=fun _ _=>rfl;have h5:∃e,cZ (aS (aw (eF b (b.tick+n) (lB (pre.map (ft (b.tick+n))) (an p (.own (2*pre.length+7) 1)) (2*pre.length+7+2) rest) (T (.row 96 5 1 (ab (m.map aQ)))++x))) (v+2)) (lB (pre.map (ft (b.tick+n))) (an p (.own (2*pre.length+7) 1)) (2*pre.length+7+2) rest)=some e:=by
       generalize hH:aw (eF b (b.tick+n) (lB (pre.map (ft (b.tick+n))) (an p (.own (2*pre.length+7) 1)) (2*pre.length+7+2) rest) (T (.row 96 5 1 (ab (m.map aQ)))++x))=H at*;simp only[lB,qT,d6,cZ,dI,an,cA,aS,nd,h2,if_true,Yg];exact⟨_,rfl⟩
      obtain⟨e,he⟩:=h5;refine⟨.sl 9 e,?_⟩;simp only[cA,aS,h1,h3,h4,List.drop_zero,if_true,he,nd,Yg]
     have jQ:∀r c c',bu (eF b (b.tick+n) r (T c)) (2*pre.length+7) c'=eF b (b.tick+n) r (T c'):=by
      intro r c c';show _::_::_::_::_::_::bu (T c) (2*pre.length+1) c'=_;rw[hT.c];rfl
     have jO:∀m:List Lse,az (eF b (b.tick+n) (lB (pre.map (ft (b.tick+n))) (an p (.own (2*pre.length+7) 1)) (2*pre.length+7+2) rest) (T (.row 96 5 1 (ab (m.map aQ))))).length (eF b (b.tick+n) (lB (pre.map (ft (b.tick+n))) (an p (.own (2*pre.length+7) 1)) (2*pre.length+7+2) rest) (T (.row 96 5 1 (ab (m.map aQ)))))=true:=by
      intro m;have hl:(eF b (b.tick+n) (lB (pre.map (ft (b.tick+n))) (an p (.own (2*pre.length+7) 1)) (2*pre.length+7+2) rest) (T (.row 96 5 1 (ab (m.map aQ))))).length=2*b.pools.length+7:=by simp[eF,hT.len]
      rw[hl];refine o7 ?_ (hT.h _ _ (aq _ _) (by simp[aH,ai,aj])) (by omega);unfold lB;rw[ju,aq];simp only[ct,an,ai,aj,iz (2*b.pools.length+7) rest (2*pre.length+7+2) (by omega),Yz,YC,decide_eq_true_eq];first|done|omega
     have rh:=F4 (r9 (b.tick+n)) p.leases (2*pre.length+7) 1 170 [.ptr (2*b.pools.length+6) 0] (eF b (b.tick+n) (lB (pre.map (ft (b.tick+n))) (an p (.own (2*pre.length+7) 1)) (2*pre.length+7+2) rest) (T (.row 96 5 1 (ab (p.leases.map aQ))))) (hT.a0 _)
      (by simp[eF,hT.len,ai,aj]) (jO p.leases) (by omega)
      (by
       obtain⟨d,hd⟩:=OU p.leases [] 0;rw[Ya]at hd;exact⟨_,hd,fun x _=>HG x (b.tick+n) d⟩)
      (fun m c=>by
       obtain⟨d,hd⟩:=OU m [c] 1;rw[jQ];exact⟨_,hd,fun x _=>HG x (b.tick+n) d⟩)
     rw[jQ]at rh;have hTa:=hT.a0;have hTb:=hT.b0;have WH:=hT.c;have hTl:=hT.len;have hTf:=hT.f;have hTh:=hT.h;clear OU jQ jO hT cK cJ;simp only[eF,an]at rh ⊢;replace hN:=Xk hN;replace hm:=Xk hm;replace If:=Xk If;replace hTg:=Xk hTg;replace hTf:=Xk hTf;replace hTh:=Xk hTh;replace hn:=Xk hn;clear dv oa ht;repeat' (first|(with_reducible refine And.intro ?_ ?_)|(with_reducible refine dO (fun _=>?_) (fun _=>?_))|(with_reducible refine aN (fun _=>?_) (fun _=>?_))|(with_reducible refine cg (by kernel_rfl))|simp -dsimp only[go_sem,seval, *,bN,am,mb,dW,hTa,hTb,WH,hTl,hzg,Ss,KA]|((with_reducible refine ci ?_);simp -dsimp only[go_sem,seval,bN,am,mb,dW,hTa,hTb,WH,hTl,hzg,Ss,KA];first|refine aP (by first|assumption|fail) (by first|exact .inl rfl|exact .inr rfl) ?_|(refine aO (by assumption) ?_ ?_ ?_;(solve|(repeat(first|exact ap.refl _|exact ap.nil _|(refine ap.tup ?_)|(refine ap.agg ?_ rfl)|exact trivial|(refine And.intro ?_ ?_))));(solve|exact .inl rfl|exact .inr rfl)))|(refine Mn rh ?_)|omega|exact decide_eq_true (by omega)|exact ap.refl _)
     refine hC _ _ _ _ _ (by have:=hm.out;simp at this;omega) ⟨pre++[p],rest,by rw[If.out];simp,rfl,rfl,rfl⟩ ?_;refine(aA (2*pre.length+7) 2 96 5 ((p.leases.filter fun x=>!r9 (b.tick+n) x).map aQ) (hTa _)).trans ?_;have n0:=eq_false (show ¬(0=2*pre.length+7) by omega);have n1:=eq_false (show ¬(1=2*pre.length+7) by omega);have n2:=eq_false (show ¬(2=2*pre.length+7) by omega);have n3:=eq_false (show ¬(3=2*pre.length+7) by omega);have n4:=eq_false (show ¬(4=2*pre.length+7) by omega);have n5:=eq_false (show ¬(5=2*pre.length+7) by omega);have EN:=fun d=>Ae (2*pre.length+7) 2 d rest (2*pre.length+7+2) (by omega);have OS:=fun d=>hTf.out (.row 96 5 2 (ab ((p.leases.filter fun x=>!r9 (b.tick+n) x).map aQ))) 2 d rfl;simp only[lG,fz,jE,iL,kG,iV,bg,cG,cS,Xm,Xx,XU,XW,reduceIte,and_true,true_and,and_self,and_false,false_and,XK,X0,reduceCtorEq,lB,EN,OS,n0,n1,n2,n3,n4,n5,if_false];have hlp:(pre++[p]).length=pre.length+1:=by simp
     have e1:ab (((pre++[p]).map (ft (b.tick+n))).map am)++eL (2*(pre++[p]).length+7) rest=ab ((pre.map (ft (b.tick+n))).map am)++an p (.d (.sl 5 ((p.leases.filter fun x=>!r9 (b.tick+n) x).map aQ)))::eL (2*pre.length+7+2) rest:=by
      rw[hlp,show 2*(pre.length+1)+7=2*pre.length+7+2 by omega];simp[ab,ft,am,an]
     rw[e1,←hTg.out,hlp];have hle:(eF b (b.tick+n) (ab ((pre.map (ft (b.tick+n))).map am)++an p (.d (.sl 5 ((p.leases.filter fun x=>!r9 (b.tick+n) x).map aQ)))::eL (2*pre.length+7+2) rest) (T .gone)).length=2*b.pools.length+7:=by simp[eF,hTl]
     refine dQ [] (by simp) (by rw[Ya];rfl) se (by rw[hle];simp[dY,aj]) ?_;rw[hle];refine o7 ?_ (hTh.out _ _ rfl (by simp[aH,ai,aj])) (by omega);have:=hN.out;rw[ju,aq];simp only[ct,an,ai,aj,iz (2*b.pools.length+7) rest (2*pre.length+7+2) (by omega),Yz]
 ·have cK:=mP b hz hc;have h1:(bx b !=0)=true:=by simpa using hc
  have hr:R=(Bok.zero,bx b):=by rw[hR.out];unfold qh;rw[if_pos hc]
  rw[hr];replace hr:=Xk hr;refine pj func95 ntmps95 results95 ?_;refine ay ?_<;>intros;exact dg
theorem DU (p q:Rng):([p.at_.at_,p.at_.len,p.pool]==[q.at_.at_,q.at_.len,q.pool])=decide (p=q):=by
 rw[Yl];cases p;cases q;rename_i a b c d;cases a;cases c;simp[and_assoc]
theorem jx {α:Type}(enc:α→List D)(l:List α)(hl:l.length≤1000000000):
 MSpec prog 90 [.d (.sl 3 (l.map enc))] [] (.own 0 1) [.row 100 3 1 (ab (l.map enc))]:=by
 cases l with
 |nil=>
  refine rN (pl:=[]) (ql:=[]) fun ao cap=>?_;cases ao with
  |none=>
   simp only[Ye];refine mj func90 ntmps90 results90 ?_;repeat' (first|(with_reducible refine And.intro ?_ ?_)|(with_reducible refine dO (fun _=>?_) (fun _=>?_))|(with_reducible refine aN (fun _=>?_) (fun _=>?_))|(with_reducible refine cg (by kernel_rfl))|simp -dsimp only[go_sem,seval, *,Zm,XJ]|((with_reducible refine ci ?_);simp -dsimp only[go_sem,seval,Zm,XJ];first|refine aP (by first|assumption|fail) (by first|exact .inl rfl|exact .inr rfl) ?_|refine aO (by assumption) (by repeat(first|exact ap.refl _|exact ap.nil _|(refine ap.tup ?_)|(refine ap.agg ?_ rfl)|exact trivial|(refine And.intro ?_ ?_))) (by first|exact .inl rfl|exact .inr rfl) ?_)|omega|exact decide_eq_true (by omega)|exact ap.refl _)
   refine ik (h:=[]) (XC _) 100 3 ?_;exact(fg 0 0 100 3 [] rfl (aV rfl rfl))
  |some a=>
   simp only[Ye];refine mj func90 ntmps90 results90 ?_;repeat' (first|(with_reducible refine And.intro ?_ ?_)|(with_reducible refine dO (fun _=>?_) (fun _=>?_))|(with_reducible refine aN (fun _=>?_) (fun _=>?_))|(with_reducible refine cg (by kernel_rfl))|simp -dsimp only[go_sem,seval, *,Yv,XJ]|((with_reducible refine ci ?_);simp -dsimp only[go_sem,seval,Yv,XJ];first|refine aP (by first|assumption|fail) (by first|exact .inl rfl|exact .inr rfl) ?_|refine aO (by assumption) (by repeat(first|exact ap.refl _|exact ap.nil _|(refine ap.tup ?_)|(refine ap.agg ?_ rfl)|exact trivial|(refine And.intro ?_ ?_))) (by first|exact .inl rfl|exact .inr rfl) ?_)|omega|exact decide_eq_true (by omega)|exact ap.refl _)
   exact aV rfl rfl
 |cons x l=>
  simp only[XD]at hl;refine mj func90 ntmps90 results90 ?_;repeat' (first|(with_reducible refine And.intro ?_ ?_)|(with_reducible refine dO (fun _=>?_) (fun _=>?_))|(with_reducible refine aN (fun _=>?_) (fun _=>?_))|(with_reducible refine cg (by kernel_rfl))|simp -dsimp only[go_sem,seval, *,Yv,XJ]|((with_reducible refine ci ?_);simp -dsimp only[go_sem,seval,Yv,XJ];first|refine aP (by first|assumption|fail) (by first|exact .inl rfl|exact .inr rfl) ?_|refine aO (by assumption) (by repeat(first|exact ap.refl _|exact ap.nil _|(refine ap.tup ?_)|(refine ap.agg ?_ rfl)|exact trivial|(refine And.intro ?_ ?_))) (by first|exact .inl rfl|exact .inr rfl) ?_)|omega|exact decide_eq_true (by omega)|exact ap.refl _)
  all_goals first|omega|exact aV rfl rfl
theorem eM (l:List Int)(hl:l.length≤1000000000):
 MSpec prog 91 [.d (.sl 1 (l.map dF))] [] (.own 0 1) [.row 3 1 1 (ab (l.map dF))]:=by
 cases l with
 |nil=>
  refine rN (pl:=[]) (ql:=[]) fun ao cap=>?_;cases ao with
  |none=>
   simp only[Ye];refine mj func91 ntmps91 results91 ?_;repeat' (first|(with_reducible refine And.intro ?_ ?_)|(with_reducible refine dO (fun _=>?_) (fun _=>?_))|(with_reducible refine aN (fun _=>?_) (fun _=>?_))|(with_reducible refine cg (by kernel_rfl))|simp -dsimp only[go_sem,seval, *,Zm,XJ]|((with_reducible refine ci ?_);simp -dsimp only[go_sem,seval,Zm,XJ];first|refine aP (by first|assumption|fail) (by first|exact .inl rfl|exact .inr rfl) ?_|(refine aO (by assumption) ?_ ?_ ?_;(solve|(repeat(first|exact ap.refl _|exact ap.nil _|(refine ap.tup ?_)|(refine ap.agg ?_ rfl)|exact trivial|(refine And.intro ?_ ?_))));(solve|exact .inl rfl|exact .inr rfl)))|fail|omega|exact decide_eq_true (by omega)|exact ap.refl _)
   refine ik (h:=[]) (XC _) 3 1 ?_;exact(fg 0 0 3 1 [] rfl (aV rfl rfl))
  |some a=>
   simp only[Ye];refine mj func91 ntmps91 results91 ?_;repeat' (first|(with_reducible refine And.intro ?_ ?_)|(with_reducible refine dO (fun _=>?_) (fun _=>?_))|(with_reducible refine aN (fun _=>?_) (fun _=>?_))|(with_reducible refine cg (by kernel_rfl))|simp -dsimp only[go_sem,seval, *,Yv,XJ]|((with_reducible refine ci ?_);simp -dsimp only[go_sem,seval,Yv,XJ];first|refine aP (by first|assumption|fail) (by first|exact .inl rfl|exact .inr rfl) ?_|(refine aO (by assumption) ?_ ?_ ?_;(solve|(repeat(first|exact ap.refl _|exact ap.nil _|(refine ap.tup ?_)|(refine ap.agg ?_ rfl)|exact trivial|(refine And.intro ?_ ?_))));(solve|exact .inl rfl|exact .inr rfl)))|fail|omega|exact decide_eq_true (by omega)|exact ap.refl _)
   exact aV rfl rfl
 |cons x l=>
  simp only[XD]at hl;refine mj func91 ntmps91 results91 ?_;repeat' (first|(with_reducible refine And.intro ?_ ?_)|(with_reducible refine dO (fun _=>?_) (fun _=>?_))|(with_reducible refine aN (fun _=>?_) (fun _=>?_))|(with_reducible refine cg (by kernel_rfl))|simp -dsimp only[go_sem,seval, *,Yv,XJ]|((with_reducible refine ci ?_);simp -dsimp only[go_sem,seval,Yv,XJ];first|refine aP (by first|assumption|fail) (by first|exact .inl rfl|exact .inr rfl) ?_|(refine aO (by assumption) ?_ ?_ ?_;(solve|(repeat(first|exact ap.refl _|exact ap.nil _|(refine ap.tup ?_)|(refine ap.agg ?_ rfl)|exact trivial|(refine And.intro ?_ ?_))));(solve|exact .inl rfl|exact .inr rfl)))|fail|omega|exact decide_eq_true (by omega)|exact ap.refl _)
  all_goals first|omega|exact aV rfl rfl
theorem lg (v:Vpc)(h:cn v≠0):
 MSpec prog 184 [.d (.agg (aD v))] [] (.tup [.ptr 1 0,.d (.v (.int .i64 (cn v)))]) [.gone,.box 88 [.d (.v (.int .i64 0)),.d (.v (.slice none 0 0)),.d (.v (.slice none 0 0))]]:=by
 have hc:=oY v;have h1:(cn v !=0)=true:=by simpa using h
 refine mj func184 ntmps184 results184 ?_;refine ay ?_<;>intros;exact(aU 0 (by simp)).trans (aV rfl rfl)
theorem lh (v:Vpc)(h:cn v=0)(h4:v.ranges.length≤4)(h6:v.subs.length≤6)(h8:∀s∈v.subs,s.faces.length≤8∧∀f∈s.faces,f.addrs.length≤4):
 MSpec prog 184 [.d (.agg (aD v))] [] (.tup [.ptr 2 0,.d (.v (.int .i64 0))]) [.gone,.row 100 3 1 (ab (v.ranges.map cq)),.box 88 [.d (.v (.int .i64 v.id)),.own 1 1,.own 3 v.subs.length],.row 107 4 v.subs.length (ab (v.subs.map bI))]:=by
 have hc:=oY v;rw[h]at hc;replace h:=Xk h;replace h8:=Xk h8;have gA:=jx cq v.ranges (by omega);refine mj func184 ntmps184 results184 ?_;have z1z:=Ln.mk (ls:=[]) (gA);refine ay ?_<;>intros;refine br af al v.subs (fun _=>True) (fun k=>[(28,.d (.v (.int .i64 k))),(27,.d (.v (.int .i64 v.subs.length))),(26,.d (.sl 4 (v.subs.map bI))),(5,.ptr 2 0)])
  (fun k=>[.gone,.row 100 3 1 (ab (v.ranges.map cq)),.box 88 [.d (.v (.int .i64 v.id)),.own 1 1,.own 3 k],.row 107 4 k (ab ((v.subs.take k).map bI))]) trivial ?_ ?_ ?_
 ·refine(aU 0 (by simp)).trans ((aL (by simp) 2 88 [.d (.v (.int .i64 v.id)),.own 1 1,.d (.v (.slice none 0 0))] 2 107 4 rfl rfl rfl).trans ?_);exact wf (hb:=fW) (hbh:=fW)
 ·intro k s hs hk _ CO Ih;have fy:(k:Int) < (v.subs.length:Int):=by omega
  have dW:=wi k (by omega);have qt:=h8.out s (Xl hs);have pT:k+1≤100:=by omega
  have pS:(YD k v.subs).length=k:=by rw[Xp];omega
  replace hs:=Xk hs;have xT:=hs.out;refine ay ?_<;>intros;refine br af al s.faces (fun _=>True) (fun j=>[(40,.d (.v (.int .i64 j))),(39,.d (.v (.int .i64 s.faces.length))),(38,.d (.sl 2 (s.faces.map cX))),(28,.d (.v (.int .i64 k))),(27,.d (.v (.int .i64 v.subs.length))),(26,.d (.sl 4 (v.subs.map bI))),(8,.ptr 5 0),(5,.ptr 2 0)])
   (fun j=>[.gone,.row 100 3 1 (ab (v.ranges.map cq)),.box 88 [.d (.v (.int .i64 v.id)),.own 1 1,.own 3 k],.row 107 4 k (ab ((v.subs.take k).map bI)),.gone,.box 107 [.d (.v (.int .i64 s.id)),.d (.v (.int .i64 s.at_.at_)),.d (.v (.int .i64 s.at_.len)),.own 6 j],.row 110 2 j (ab ((s.faces.take j).map cX))]) trivial ?_ ?_ ?_
  ·refine(aU 4 (by simp)).trans ((aL (by simp) 5 107 [.d (.v (.int .i64 s.id)),.d (.v (.int .i64 s.at_.at_)),.d (.v (.int .i64 s.at_.len)),.d (.v (.slice none 0 0))] 3 110 2 rfl rfl rfl).trans ?_);exact wf (hb:=fW) (hbh:=fW)
  ·intro j f hf hj _ C hC;have mb:(j:Int) < (s.faces.length:Int):=by omega
   have rf:=wi j (by omega);have jC:=qt.2 f (Xl hf);have nQ:j+1≤100:=by omega
   have Az:(YD j s.faces).length=j:=by rw[Xp];omega
   replace hf:=Xk hf;have RX:=hf.out;have z1z:=Ln.mk (ls:=[]) (eM f.addrs (by omega));refine ay ?_<;>intros;refine hC _ _ trivial ((aA 8 1 3 1 (f.addrs.map dF) rfl).trans ?_);simp only[lG,fz,jE,iL,kG,iV,bg,cG,cS,Xm,Xx,XU,XW,reduceIte,and_true,true_and,and_self,and_false,false_and,XK,X0,reduceCtorEq,gp];exact wf (hh:=(by rw[ah hf.out,Xz,Xm,Xx,←aW];rfl)) (hb:=fW) (hbh:=fW)
  ·intro _ C;refine ay ?_<;>intros;refine Ih _ _ trivial ((aA 6 s.faces.length 110 2 (s.faces.map cX) rfl).trans ?_);simp only[lG,fz,jE,iL,kG,iV,bg,cG,cS,Xm,Xx,XU,XW,reduceIte,and_true,true_and,and_self,and_false,false_and,XK,X0,reduceCtorEq];exact wf (hh:=(by rw[ah hs.out,Xz,Xm,Xx,←aW];rfl)) (hb:=fW) (hbh:=fW)
 ·intro _ C;refine ay ?_<;>intros;(try rw[Xq])
  exact aV rfl rfl
section
open Go.Proofs Go.ChangeShapes Go.WideShapes Go.Deep
section
variable {H:Type}{enc:TypeId × Value→H}{P:Program}{w:World}{base:Nat}{spare:Nat→Bool}{held:Bool}
def Rd {α:Type}(enc:TypeId × Value→H)(P:Program)(w:World)(base:Nat)(spare:Nat→Bool)(held:Bool)(t:TypeId)(R:List Value→α→Prop):Prop:=
 ∀fuel cs x,DataW.trod enc P w base spare held fuel t cs=some x→∃a,R cs a
theorem Rd.map {α β:Type}{t:TypeId}{R:List Value→α→Prop}{R':List Value→β→Prop}(h:Rd enc P w base spare held t R)(f:α→β)(hf:∀cs a,R cs a→R' cs (f a)):Rd enc P w base spare held t R':=by
 intro fuel cs x hx;obtain⟨a,ha⟩:=h fuel cs x hx;exact⟨f a,hf _ _ ha⟩
def Vy (n:Int):Prop:= -9223372036854775808≤n∧n≤9223372036854775807
def xc (cs:List Value)(n:Int):Prop:=cs=[.int .i64 n]∧Vy n
theorem Qw {n:Int}(h:(Lit.int .i64 n).wf=true):Vy n:=by
 simp only[Lit.wf,Xy,decide_eq_true_eq]at h;have h1:IntKind.i64.min= -9223372036854775808:=rfl;have h2:IntKind.i64.max=9223372036854775807:=rfl;rw[h1,h2]at h;exact h
theorem eV {t:TypeId}(ht:P.underlying t=some (.int .i64)):Rd enc P w base spare held t xc:=by
 intro fuel cs x hx;obtain⟨n,h,_,hw⟩:=DataW.trod_int ht hx;exact⟨n,h,Qw hw⟩
theorem cw {α:Type}{t:TypeId}{fs:Array Field}{fuel:Nat}{cs:List Value}{x:DataW H × List MemPlace}(ht:P.underlying t=some (.struct fs))(h:DataW.trod enc P w base spare held fuel t cs=some x)
 (j:Nat) {f:Field} (hf:fs[j]? =some f) {R:List Value→α→Prop} (hr:Rd enc P w base spare held f.type R):∃a,R ((cs.drop f.offset).take (P.cellsOf f.type)) a:=by
 obtain⟨xs,n,_,_,_,aT,hg⟩:=DataW.trod_struct ht h;have h1:=hg j f hf;have hj:j < xs.length:=by rw[aT];exact(Yq.1 hf).1
 rw[Xj hj]at h1;exact hr _ _ _ h1
theorem jI {t:TypeId}{fs:Array Field}{fuel:Nat}{cs:List Value}{x:DataW H × List MemPlace}(ht:P.underlying t=some (.struct fs))(h:DataW.trod enc P w base spare held fuel t cs=some x):cs.length=P.cellsOf t:=by
 obtain⟨_,_,_,_,h,_⟩:=DataW.trod_struct ht h;exact h
theorem tL {α:Type}{Q:Nat→α→Prop}:∀(n:Nat),(∀i,i < n→∃a,Q i a)→∃l:List α,l.length=n∧∀i (h:i < l.length),Q i l[i]
 |0,_=>⟨[],rfl,fun i h=>by simp at h⟩
 |n+1,h=>by
  obtain⟨l,hl,hq⟩:=tL n fun i hi=>h i (by omega);obtain⟨a,ha⟩:=h n (by omega);refine⟨l++[a],by simp[hl],fun i hi=>?_⟩;rcases XO i l.length with h1|h1
  ·rw[List.getElem_append_left h1];exact hq i h1
  ·have:i=n:=by simp at hi;omega
   subst this;rw[List.getElem_append_right h1];simpa using ha
def inW (w:World):md:=fun b=>b < w.heap.size
theorem M8 {t:TypeId}{v:Value}{d:DataW H}{p:List MemPlace}(h:DataW.Trod enc P w base spare held t v d p):∀x∈p,x.block < w.heap.size:=by
 obtain⟨m,hm⟩:=h;exact DataW.trod_lt m _ _ _ hm
end
end
section
open Go.Proofs Go.Shelf
structure SRow (HP:List Value→Int→Prop)(sz:Nat) where
 xs:List Value
 len:xs.length=sz
 one:∀v∈xs,v.oneCell'=true
 key:Int
 head:HP xs key
@[reducible] def M9 (xs:List Value)(k:Int):Prop:=xs[0]? =some (.int .i64 k)
def E6 {HP:List Value→Int→Prop}{sz:Nat}(x y:SRow HP sz):Int:=d7 x.key y.key
theorem W4 {HP:List Value→Int→Prop}{sz:Nat}(x y:SRow HP sz):ltOf E6 x y=decide (x.key < y.key):=rR _ _
theorem a0h {HP:List Value→Int→Prop}{sz:Nat}:Sort.SWO (ltOf (E6 (HP:=HP) (sz:=sz))) where
 irrefl x:=by rw[W4];simp
 trans x y z h1 h2:=by rw[W4]at*;simp at*;omega
 ntrans x y z h1 h2:=by rw[W4]at*;simp at*;omega
@[reducible] def Na (n:Nat):Inhabited (SRow M9 (n+1)):=⟨⟨XR (n+1) (.int .i64 0),by simp,fun v hv=>by rw[Zx hv];rfl,0,by unfold M9;simp⟩⟩
theorem yH (F cur:Array Value)(h:F.size≤cur.size):(Sort.putCells id 0 F cur).toList.take F.size=F.toList∧(Sort.putCells id 0 F cur).size=cur.size:=by
 refine⟨?_,by simp[Sort.putCells]⟩;apply Yh;intro i;by_cases hi:i < F.size
 ·rw[XQ hi];have hc:i < cur.size:=by omega
  simp[Sort.putCells,hi,hc]
 ·rw[XN (by rw[Xp];omega),XN (by simp;omega)]
theorem xd {HP:List Value→Int→Prop}{sz:Nat}(n:Nat)(hs:sz=n+1)[Inhabited (SRow HP sz)](d:Array (SRow HP sz)):(Sort.flatK (fun r:SRow HP sz=>r.xs) sz d).toList=(d.toList.map (·.xs)).flatten:=by
 have bO:∀r∈d.toList.map (·.xs),r.length=sz:=fun r hr=>by
  obtain⟨x,-,rfl⟩:=XH.1 hr;exact x.len
 have aT:(d.toList.map (·.xs)).flatten.length=d.size*sz:=by rw[cD bO];simp
 apply Yh;intro t;by_cases ht:t < d.size*sz
 ·have h1:t / sz < d.size:=ZB (by rw[Zs];exact ht);have h2:t % sz < sz:=_i _ (by omega);have h3:t / sz*sz+t % sz=t:=by rw[Zs];exact ZT t sz
  have h4:=cr bO (t / sz) (t % sz) h2;rw[h3]at h4;rw[h4];have h5:=Sort.get_flatK (fun r:SRow HP sz=>r.xs) sz d t ht;have h6:t < (Sort.flatK (fun r:SRow HP sz=>r.xs) sz d).size:=by rw[Sort.size_flatK];exact ht
  rw[getElem!_pos (Sort.flatK (fun r:SRow HP sz=>r.xs) sz d) t h6]at h5;rw[X2,YN h6,h5];have hl:(d[t / sz]).xs.length=sz:=(d[t / sz]).len;have e7:(d[t / sz]).xs[t % sz]? =some ((d[t / sz]).xs[t % sz]!):=by
   rw[getElem!_pos (d[t / sz]).xs (t % sz) (by rw[hl];exact h2)];exact Xj _
  rw[getElem!_pos d (t / sz) h1];rw[XA,X2,YN h1];simp only[Yg,YW];exact e7.symm
 ·rw[XN (by simp;omega),XN (by omega)]
theorem Nb {HP:List Value→Int→Prop}{n:Nat}(inh:Inhabited (SRow HP (n+1))){P:Program}{ρ:Ren}(L:SlLaysF0.n6 P ρ){f fc E:Nat}(hf:ρ.f 6=f)(aE:∀w,(isAgg (ρ.t 24)).run P w= .ok true w)(zE:∀w,(Go.sizeOf (ρ.t 24)).run P w= .ok (n+1) w)(eg:∀args w,(callFunc fc args).run P w= .ok (.enter fc args) w)
 (OV:∀(x y:SRow HP (n+1)) (W:World),Calls P fc #[.agg x.xs.toArray,.agg y.xs.toArray] W fun e w'=>e= .returned (.int .i64 (E6 x y))∧∃q os',w'=Sort.grow (W.drewN q) os')
 (ds:List (SRow HP (n+1))) (w:World) (gb cap:Nat) (cur:Array Value) (hh:w.heap[gb]? =some (.cells cur E (0,0))) (hc:cur.toList.take (ds.length*(n+1))=(ds.map (·.xs)).flatten) (cM:ds.length*(n+1)≤cur.size) (hl:ds.length≤1000000):
 Calls P f #[.slice (some ⟨gb,0,none⟩) ds.length cap,.func (.func fc) #[] #[]] w fun e w'=>e= .returned (.tuple #[])∧∃(ds':List (SRow HP (n+1))) (cur':Array Value),ds'.Perm ds∧ds'.Pairwise (fun x y=>x.key≤y.key)∧w'.heap[gb]? =some (.cells cur' E (0,0))∧cur'.size=cur.size∧
  cur'.toList.take (ds.length*(n+1))=(ds'.map (·.xs)).flatten∧OneB w w' (some gb):=by
 have hg:gb < w.heap.size:=(Yq.1 hh).1;have jC:=xd n rfl ds.toArray;rw[Y3]at jC;have hH:Sort.HoldsK (fun r:SRow HP (n+1)=>r.xs) (n+1) w gb 0 ds.toArray:=by
  intro t ht;have ht2:=ht;rw[Sort.size_flatK,YB]at ht2;refine⟨?_,gj hh⟩;have bY:∀o,w.cell? ⟨gb,o,none⟩=cur[o]? :=fun o=>by simp[YQ,hh]
  rw[XK,bY];have h1:(cur.toList.take (ds.length*(n+1)))[t]? =cur[t]? :=by rw[XQ ht2];simp
  rw[←h1,hc,←jC,X2,getElem!_pos (Sort.flatK (fun r:SRow HP (n+1)=>r.xs) (n+1) ds.toArray) t ht,YN ht];rfl
 have WI:=AnyQ.slices_SortFunc L (n+1) aE zE (fun r:SRow HP (n+1)=>r.xs) (·.len) (·.one) E6 a0h fc #[] gb 0 cap ds.toArray w eg (fun _ _ _ _ x y=>OV x y _) hH hg (by simp;omega);rw[hf,YB]at WI;refine Calls.mono WI ?_;rintro e w' ⟨rfl,d',m,os,⟨UW,-,hp⟩,hs,rfl⟩;replace UW:d'.size=ds.length:=by simpa using UW
 have hF:(Sort.flatK (fun r:SRow HP (n+1)=>r.xs) (n+1) d').size≤cur.size:=by rw[Sort.size_flatK,UW];exact cM
 obtain⟨p1,p2⟩:=yH (Sort.flatK (fun r:SRow HP (n+1)=>r.xs) (n+1) d') cur hF;refine⟨rfl,d'.toList,Sort.putCells id 0 (Sort.flatK (fun r:SRow HP (n+1)=>r.xs) (n+1) d') cur,?_,?_,?_,p2,?_,?_⟩
 ·have e1:d'.extract 0 ds.length=d':=by rw[←UW];exact Array.extract_size
  have e2:ds.toArray.extract 0 ds.length=ds.toArray:=by simp
  rw[e1,e2]at hp;simpa using hp
 ·rw[XM];intro i j hi hj hij;have hj':j < d'.size:=by simpa using hj
  have:=hs i j (XL _) hij (by omega);rw[W4,getElem!_pos d' i (by omega),getElem!_pos d' j hj']at this;simpa using this
 ·show (Sort.grow (Sort.putRow id (Sort.ahead w m) gb 0 (Sort.flatK (fun r:SRow HP (n+1)=>r.xs) (n+1) d')) os).heap[gb]? =_;rw[Sort.heap_grow_old _ _ (by simpa using hg)];show (w.heap.modify gb (Sort.onCells _))[gb]? =_;rw[Y0,if_pos rfl,hh];rfl
 ·rw[show ds.length*(n+1)=(Sort.flatK (fun r:SRow HP (n+1)=>r.xs) (n+1) d').size by rw[Sort.size_flatK,UW],p1,xd n rfl]
 ·refine⟨rfl,rfl,rfl,?_,fun b hb bH=>?_⟩
  ·show w.heap.size≤(Sort.grow (Sort.putRow id (Sort.ahead w m) gb 0 _) os).heap.size;rw[Sort.size_grow,Sort.size_putRow,Sort.heap_ahead];omega
  ·show (Sort.grow (Sort.putRow id (Sort.ahead w m) gb 0 (Sort.flatK (fun r:SRow HP (n+1)=>r.xs) (n+1) d')) os).heap[b]? =_;rw[Sort.heap_grow_old _ _ (by simpa using hb)];show (w.heap.modify gb (Sort.onCells _))[b]? =_;rw[Y0,if_neg (fun e=>bH (by rw[e]))]
theorem Nc {α β:Type}{ka:α→Int}{kb:β→Int}{l l':List α}{d d':List β}(hk:d.map kb=l.map ka)(hp:l'.Perm l)(hs:l'.Pairwise fun x y=>ka x < ka y)(hq:d'.Perm d)(ht:d'.Pairwise fun x y=>kb x≤kb y):d'.map kb=l'.map ka:=
 List.Perm.eq_of_pairwise (le:=fun x y:Int=>x≤y) (fun a b _ _ h1 h2=>by omega) (by rw[Y5];exact ht) (by rw[Y5];exact hs.imp fun h=>by omega) ((hq.map kb).trans (by rw[hk];exact(hp.map ka).symm))
theorem HH {HP:List Value→Int→Prop}{n:Nat}(inh:Inhabited (SRow HP (n+1))){P:Program}{ρ:Ren}(L:SlLaysF0.n6 P ρ){f fc E g:Nat}(hf:ρ.f 6=f)(RU:vR P f)(aE:∀w,(isAgg (ρ.t 24)).run P w= .ok true w)(zE:∀w,(Go.sizeOf (ρ.t 24)).run P w= .ok (n+1) w)(eg:∀args w,(callFunc fc args).run P w= .ok (.enter fc args) w)
 (OV:∀(x y:SRow HP (n+1)) (W:World),Calls P fc #[.agg x.xs.toArray,.agg y.xs.toArray] W fun e w'=>e= .returned (.int .i64 (E6 x y))∧∃q os',w'=Sort.grow (W.drewN q) os')
 {α:Type} (enc:α→List D) (key:α→Int) {l l':List α} (Uy:∀x∈l,∀vs:List Value,vs.length=n+1→(∀(j:Nat) (d:D) (v:Value),(enc x)[j]? =some d→vs[j]? =some v→∃M w,RepD M w d v)→HP vs (key x)) (p5:l≠[]) (hp:l'.Perm l) (hs:l'.Pairwise fun x y=>key x < key y) (cM:l.length≤1000000):
 MSpec P f [.own 0 g,.d (.clo fc [])] [.row E (n+1) g (ab (l.map enc))] (.d (.tup [])) [.row E (n+1) g (ab (l'.map enc))]:=by
 refine⟨RU,XC _,by simp[ai,aj],by simp[az,aH,aq],fun X hP hn hm w c vs hr kg=>?_⟩;have aT:=kg.1;match vs,aT with
 |[v0,v1],_=>
  have r0:=kg.2 0 _ v0 rfl rfl;have r1:=bS (kg.2 1 _ v1 rfl rfl);have bH:ab (l.map enc)≠[]:=by simpa[ab]using p5
  have bD:=hr.chunk 0;cases r0 with
  |own _ _ _ ed h1=>
   obtain⟨gb,cap,rfl⟩:=ml bD ed bH;obtain⟨cur,xs,q1,q2,q3,q4,q5,q6,q7,q8,q9,q10,q11⟩:=dV bD ed bH;have OQ:=bj.one q2 (fun d hd=>by obtain⟨r,hr,hd⟩:=Z5.1 hd;exact q6 r hr d hd);have US:(ab (l.map enc)).length=l.length:=by rw[aC,XF]
   rw[US]at q3 q4 q8 q10 ed ⊢;have sK:v1= .func (.func fc) #[] #[]:=by
    cases r1 with
    |clo _ _ vs hl aY=>
     have:vs=[]:=by simpa using hl.symm
     subst this;rfl
   subst sK;have Kz:cur.toList.take (l.length*(n+1))=xs:=by
    apply Yh;intro j;by_cases hj:j < l.length*(n+1)
    ·rw[XQ hj,X2,q4 j hj]
    ·rw[XN (by rw[Xp];omega),XN (by omega)]
   obtain⟨ds,rh,dI⟩:=tL (Q:=fun i (r:SRow HP (n+1))=>r.xs=(xs.drop (i*(n+1))).take (n+1)∧∃x,l[i]? =some x∧r.key=key x) l.length fun i hi=>by
    have hb:(i+1)*(n+1)≤l.length*(n+1):=Yo _ hi;rw[YI]at hb;obtain⟨x,hx⟩:∃x,l[i]? =some x:=⟨_,Xj hi⟩;have VF:((xs.drop (i*(n+1))).take (n+1)).length=n+1:=by rw[Xp,XS];omega
    have h0:HP ((xs.drop (i*(n+1))).take (n+1)) (key x):=Uy x (Xl hx) _ VF fun j d v hd hv=>by
     have hj:j < n+1:=by rw[←VF];exact(Xo.1 hv).1
     rw[XQ hj,Yk]at hv;have jC:=cr q5 i j hj;rw[kn,XA,hx]at jC;simp only[Yg,YW,XA,hd]at jC;exact⟨_,_,bS (q2.2 _ _ v jC hv)⟩
    exact⟨⟨(xs.drop (i*(n+1))).take (n+1),VF,fun v hv=>OQ v (Yb (Yc hv)),key x,h0⟩,rfl,x,hx,rfl⟩
   have SF:∀r∈ds.map (·.xs),r.length=n+1:=fun r hr=>by obtain⟨x,-,rfl⟩:=XH.1 hr;exact x.len
   have hflat:(ds.map (·.xs)).flatten=xs:=by
    apply Yh;intro t;by_cases ht:t < l.length*(n+1)
    ·have h1:t / (n+1) < l.length:=ZB (by rw[Zs];exact ht);have h2:t % (n+1) < n+1:=_i _ (by omega);have h3:t / (n+1)*(n+1)+t % (n+1)=t:=by rw[Zs];exact ZT t (n+1)
     generalize t / (n+1)=i at h1 h3;generalize t % (n+1)=j at h2 h3;have h4:=cr SF i j h2;rw[h3,XA,Xj (show i < ds.length by omega)]at h4;rw[h4];simp only[Yg,YW];rw[(dI _ (show i < ds.length by omega)).1,XQ h2,Yk,h3]
    ·rw[XN (by rw[cD SF,XF,rh];omega),XN (by omega)]
   have uF:ds.map (·.key)=l.map key:=by
    apply Yh;intro i;rw[XA,XA];by_cases hi:i < l.length
    ·obtain⟨-,x,hx,hk⟩:=dI i (by omega);rw[Xj (by omega),hx];simp[hk]
    ·rw[XN (show ds.length≤i by omega),XN (show l.length≤i by omega)];rfl
   have iD:=Nb inh L hf aE zE eg OV ds w gb cap cur q1 (by rw[rh,Kz,hflat]) (by rw[rh];exact q8) (by omega);rw[rh]at iD;rw[←hP]at iD;rw[hP]at iD;refine iD.mono fun e w' ⟨he,ds',cur',hp',hs',hw',ly,t5,di⟩=>?_;have gz:=Nc (ka:=key) (kb:=SRow.key) uF hp hs hp' hs';have Uz:ds'.length=l.length:=by rw[hp'.length_eq,rh]
   have OW:l'.length=l.length:=hp.length_eq;have BY:∀r∈ds'.map (·.xs),r.length=n+1:=fun r hr=>by obtain⟨x,-,rfl⟩:=XH.1 hr;exact x.len
   have GM:∀r∈ab (l'.map enc),r.length=n+1:=fun r hr=>by
    obtain⟨q,hq,rfl⟩:=gI hr;obtain⟨x,hx,rfl⟩:=XH.1 hq;exact q5 _ (XH.2 ⟨enc x,XH.2 ⟨x,hp.mem_iff.1 hx,rfl⟩,rfl⟩)
   have Up:∀r∈ab (l'.map enc),∀d∈r,d.one=true:=fun r hr d hd=>by
    obtain⟨q,hq,rfl⟩:=gI hr;obtain⟨x,hx,rfl⟩:=XH.1 hq;exact q6 _ (XH.2 ⟨enc x,XH.2 ⟨x,hp.mem_iff.1 hx,rfl⟩,rfl⟩) d hd
   have lw:∀i j (hi:i < l.length) (hj:j < l.length),key l[i]=key l[j]→i=j:=by
    have h1:(l'.map key).Nodup:=by
     unfold List.Nodup;rw[Y5];exact hs.imp fun h=>by omega
    have h2:(l.map key).Nodup:=(hp.map key).nodup_iff.1 h1;intro i j hi hj h;rw[List.nodup_iff_pairwise_ne,XM]at h2;rcases Y4 i j with hlt|he|hlt
    ·exact absurd (by rw[Z4,Z4];exact h) (h2 i j (by simpa using hi) (by simpa using hj) hlt)
    ·exact he
    ·exact absurd (by rw[Z4,Z4];exact h.symm) (h2 j i (by simpa using hj) (by simpa using hi) hlt)
   have pm:bj c w (ab (l'.map enc)).flatten (ds'.map (·.xs)).flatten:=by
    refine⟨by rw[cD GM,cD BY,aC,XF,XF,Uz,OW],fun t d u ht hu=>?_⟩;have htl:t < l.length*(n+1):=by
     have:=(Xo.1 hu).1;rw[cD BY,XF,Uz]at this;exact this
    have h1:t / (n+1) < l.length:=ZB (by rw[Zs];exact htl);have h2:t % (n+1) < n+1:=_i _ (by omega);have h3:t / (n+1)*(n+1)+t % (n+1)=t:=by rw[Zs];exact ZT t (n+1)
    generalize t / (n+1)=i at h1 h3;generalize t % (n+1)=j at h2 h3;have e1:=cr GM (i) (j) h2;have e2:=cr BY (i) (j) h2;rw[h3,kn,XA,Xj (l:=l') (show i < l'.length by omega)]at e1;rw[h3,XA,Xj (l:=ds') (show i < ds'.length by omega)]at e2;simp only[Yg,YW]at e1 e2;obtain⟨p,oa,OM⟩:=Yf.1 (hp'.mem_iff.1 (Ym (show i < ds'.length by omega)));obtain⟨p2,a0I,WJ⟩:=Yf.1 (hp.mem_iff.1 (Ym (show i < l'.length by omega)));obtain⟨g1,x,g2,g3⟩:=dI p oa;have hx:l[p]'(by omega)=x:=by rw[Xj (by omega)]at g2;exact XX.inj g2
    have WK:(ds'[i]'(by omega)).key=key (l'[i]'(by omega)):=by
     have:=congrArg (fun z:List Int=>z[i]?) gz;simp only[XA]at this;rw[Xj (by omega),Xj (by omega)]at this;exact XX.inj this
    have hpp:p=p2:=lw p p2 (by omega) a0I (by rw[WJ,←WK,←OM,g3,hx]);subst hpp;rw[←WJ,hx]at e1;rw[←OM,g1,XQ h2,Yk]at e2;have e3:=cr q5 p (j) h2;rw[kn,XA,g2]at e3;simp only[Yg,YW]at e3;rw[←e3]at e1;rw[e1]at ht;rw[e2]at hu;exact q2.2 _ d u ht hu
   have tU:0 < cap:=by have:=Zh.2 p5;omega
   have EU:=hr.put_row (w':=w') (k:=0) (rows':=ab (l'.map enc)) (xs':=(ds'.map (·.xs)).flatten) rfl ed (by rw[cF tU];exact di) (by
    rw[aC,XF,OW];exact .row gb l.length cap cur' _ tU hw' q10 q9 (by rw[ly];exact q11) (by rw[cD BY,XF,Uz]) t5) pm GM Up
   have mZ:cz [(0,Chunk.row E (n+1) g (ab (l'.map enc)))] (bG [] [.row E (n+1) g (ab (l.map enc))]).heap=aw [.row E (n+1) g (ab (l'.map enc))]:=by
    funext k;rw[ry];cases k with
    |zero=>rfl
    |succ k=>rfl
   rw[mZ]at EU;refine⟨_,c,he,.d _ _ (.tup [] [] rfl fun j d x h=>by simp at h),EU⟩
theorem vv {n:Nat}{P:Program}{ρ:Ren}(L:SlLaysF0.n6 P ρ){f fc E g:Nat}(hf:ρ.f 6=f)(RU:vR P f)(aE:∀w,(isAgg (ρ.t 24)).run P w= .ok true w)(zE:∀w,(Go.sizeOf (ρ.t 24)).run P w= .ok (n+1) w)(eg:∀args w,(callFunc fc args).run P w= .ok (.enter fc args) w)
 (OV:∀(x y:SRow M9 (n+1)) (W:World),Calls P fc #[.agg x.xs.toArray,.agg y.xs.toArray] W fun e w'=>e= .returned (.int .i64 (E6 x y))∧∃q os',w'=Sort.grow (W.drewN q) os')
 {α:Type} (enc:α→List D) (key:α→Int) (Uy:∀x,(enc x)[0]? =some (.v (.int .i64 (key x)))) {l l':List α} (p5:l≠[]) (hp:l'.Perm l) (hs:l'.Pairwise fun x y=>key x < key y) (cM:l.length≤1000000):
 MSpec P f [.own 0 g,.d (.clo fc [])] [.row E (n+1) g (ab (l.map enc))] (.d (.tup [])) [.row E (n+1) g (ab (l'.map enc))]:=
 HH (Na n) L hf RU aE zE eg OV enc key (fun x _ vs hl hr=>by
  obtain⟨v,hv⟩:∃v,vs[0]? =some v:=⟨_,Xj (by omega)⟩;obtain⟨M,w,h⟩:=hr 0 _ v (Uy x) hv;show vs[0]? =_;rw[hv];cases h;rfl) p5 hp hs cM
end
section
open Go.Proofs Go.Shelf
theorem ku (a:Int)(W:World):Calls prog 245 #[.int .i64 a] W fun e w'=>e= .returned (.bool false)∧w'=W:=by
 go_enter func245,ntmps245
 go_wp2_with fail
 go_ret
 exact⟨dw (by simp),rfl⟩
theorem gQ (a b:Int)(W:World):Calls prog 176 #[.int .i64 a,.int .i64 b] W fun e w'=>e= .returned (.int .i64 (d7 a b))∧w'=W:=by
 by_cases h:a < b
 ·have e:d7 a b= -1:=by simp[d7,h]
  rw[e];go_enter func176,ntmps176
  go_wp2_with fail
  refine(ku a _).mono ?_;rintro e w1 ⟨rfl,rfl⟩;go_wp2_with fail
  refine(ku b _).mono ?_;rintro e w1 ⟨rfl,rfl⟩;go_wp2_with fail
  go_ret
  exact⟨bM rfl,rfl⟩
 ·by_cases h2:b < a
  ·have e:d7 a b=1:=by simp[d7,h,h2]
   rw[e];go_enter func176,ntmps176
   go_wp2_with fail
   refine(ku a _).mono ?_;rintro e w1 ⟨rfl,rfl⟩;go_wp2_with fail
   refine(ku b _).mono ?_;rintro e w1 ⟨rfl,rfl⟩;go_wp2_with fail
   go_ret
   exact⟨bM rfl,rfl⟩
  ·have e:d7 a b=0:=by simp[d7,h,h2]
   rw[e];go_enter func176,ntmps176
   go_wp2_with fail
   refine(ku a _).mono ?_;rintro e w1 ⟨rfl,rfl⟩;go_wp2_with fail
   refine(ku b _).mono ?_;rintro e w1 ⟨rfl,rfl⟩;go_wp2_with fail
   go_ret
   exact⟨bM rfl,rfl⟩
end
section
open Go.Proofs Go.Shelf
theorem Nd (x y:SRow M9 3)(W:World):Calls prog 250 #[.agg x.xs.toArray,.agg y.xs.toArray] W fun e w'=>e= .returned (.int .i64 (E6 x y))∧∃q os',w'=Sort.grow (W.drewN q) os':=by
 obtain⟨xs,xl,x1,a,xh⟩:=x;obtain⟨ys,yl,y1,b,yh⟩:=y;match xs,xl,ys,yl with
 |[u0,u1,u2],_,[v0,v1,v2],_=>
  simp[M9]at xh yh;subst xh;subst yh;have hc:=gQ a b;unfold E6;simp only;generalize d7 a b=r at*;replace hc:=Xk hc;clear x1 y1;go_enter func250,ntmps250
  go_wp2_with fail
  refine(hc.out _).mono ?_;rintro e w1 ⟨rfl,rfl⟩;go_wp2_with fail
  go_ret
  exact⟨bM rfl,0,_,by rw[Sort.alloc_eq_grow,Sort.alloc_eq_grow,Sort.grow_grow];rfl⟩
theorem F8 {l l':List Rng}(g:Nat)(p5:l≠[])(hp:l'.Perm l)(hs:l'.Pairwise fun x y=>(fun r:Rng=>r.at_.at_) x < (fun r:Rng=>r.at_.at_) y)(cM:l.length≤1000000):
 MSpec prog 249 [.own 0 g,.d (.clo 250 [])] [.row 100 3 g (ab (l.map cq))] (.d (.tup [])) [.row 100 3 g (ab (l'.map cq))]:=
 vv sortRange rfl (bU func249 (by kernel_rfl) rfl) isAgg100 sizeOf100 (enters_of func250 (by kernel_rfl) rfl) Nd cq (fun r:Rng=>r.at_.at_) (fun _=>rfl) p5 hp hs cM
end
theorem Qx (q r:Rng):ae prog 248 [.agg (cq q),.ept (cq r)] (.v (.bool (q.at_.meets r.at_))):=by
 have hm:ae prog 124 [.agg (aK q.at_),.agg (aK r.at_)] (.v (.bool (q.at_.meets r.at_))):=pD _ _;refine pj func248 ntmps248 results248 ?_;exact bo
theorem Qy (v:Vpc)(r:Rng):ae prog 183 [.agg (aD v),.agg (cq r)] (.tup [.agg (aD (dK v r).1),.v (.int .i64 (dK v r).2)]):=by
 obtain⟨R,hR⟩:∃R,R=dK v r:=⟨_,rfl⟩;rw[←hR];replace hR:=Xk hR;by_cases hc:cn v=0
 ·have hk:=bc hc;have cK:=lh v hc hk.n4 hk.n6 hk.n8;have hid:=kJ r.pool;have bD:=pC r.at_;have om:=nq mz (fun q=>q.at_.meets r.at_) v.ranges 248 [.ept (cq r)] (by have:=hk.n4;omega) (fun q _=>Qx q r);have cJ:R=if oZ v r≠0 then (Vpc.zero,oZ v r)else ({v with ranges:=fw (·.at_.at_) r v.ranges},0):=by rw[hR.out];unfold dK;rw[if_neg (by simpa using hc)]
  have hn4:=hk.n4;by_cases bP:oZ v r≠0
  ·rw[if_pos bP]at cJ;unfold oZ at cJ bP;generalize chk r.at_.at_ r.at_.len=K at*;generalize cU r.pool=I at*;generalize (v.ranges.any fun q=>q.at_.meets r.at_)=M at*;replace cJ:=Xk cJ;replace bP:=Xk bP;clear hR hc hk;have U0:((v.ranges.length:Int)==4)=decide (v.ranges.length=4):=by rw[Yl];simp;omega
   refine pj func183 ntmps183 results183 ?_;have z1z:=Ln.mk (ls:=[]) (cK);refine rY ?_ ?_ ?_ ?_ ?_ ?_ ?_ ?_<;>first|(with_reducible exact True.intro)|intros
   all_goals
    have h1:=cJ.out;have h2:=bP.out;clear hid bD om cK;first
     |(exfalso;grind)
     |(rw[show R=(Vpc.zero,1) from (by rw[h1];grind)];exact dg)
     |(rw[show R=(Vpc.zero,6) from (by rw[h1];grind)];exact dg)
     |(rw[show R=(Vpc.zero,2) from (by rw[h1];grind)];exact dg)
  ·rw[if_neg bP]at cJ;have hg:oZ v r=0:=by simpa using bP
   obtain⟨g1,g2,g3,g4⟩:chk r.at_.at_ r.at_.len=0∧cU r.pool=true∧(v.ranges.any fun q=>q.at_.meets r.at_)=false∧v.ranges.length≠4:=by
    unfold oZ at hg;generalize (v.ranges.any fun q=>q.at_.meets r.at_)=M at*;grind
   have bH:∀q∈v.ranges,q.at_.at_≠r.at_.at_:=fun q hq=>DC (j5 (hk.ranges q hq)) (by simp[Pfx.right,bq,g1]) (by have:=Yw.1 g3 q hq;simpa using this);have oq:=F8 (l:=v.ranges++[r]) (l':=fw (·.at_.at_) r v.ranges) 2 (by simp) (fR _ _ _) (fJ hk.rr bH) (by simp;omega);rw[g1]at bD;rw[g2]at hid;rw[g3]at om;have U0:((v.ranges.length:Int)==4)=false:=by simp;omega
   have pT:v.ranges.length+1≤100:=by omega
   simp only[Xz,Xm,Xx]at oq;rw[cJ];clear hR cJ hc hk bH hg bP;refine pj func183 ntmps183 results183 ?_;have z1z:=Ln.mk (ls:=[]) (cK);have z2z:=Ln.mk (ls:=[4]) (oq);exact bo
 ·have cK:=lg v hc;have h1:(cn v !=0)=true:=by simpa using hc
  have hr:R=(Vpc.zero,cn v):=by rw[hR.out];unfold dK;rw[if_pos hc]
  rw[hr];replace hr:=Xk hr;refine pj func183 ntmps183 results183 ?_;have z1z:=Ln.mk (ls:=[]) (cK);refine ay ?_<;>intros;exact dg
theorem Nf (p q:Pfx):([p.at_,p.len]==[q.at_,q.len])=decide (p=q):=by
 rw[Yl];cases p;cases q;simp
theorem DV (l:List Rng)(x:Rng)(hl:l.length≤1000000000):
 ae prog 171 [.sl 3 (l.map cq),.agg (cq x)] (.v (.int .i64 (db (fun y=>decide (x=y)) l))):=by
 refine pj func171 ntmps171 results171 ?_;refine ay ?_<;>intros;refine cf af al (fun m e h=>∃k:Nat,k≤l.length∧(∀y∈l.take k,decide (x=y)=false)∧m=l.length - k∧e=[(8,.d (.v (.int .i64 k))),(7,.d (.v (.int .i64 l.length))),(4,.d (.v (.int .i64 0))),(3,.ptr 0 0),(0,.d (.sl 3 (l.map cq)))]∧h=[.box 100 ((cq x).map .d)]) _ _ _ ⟨0,XL _,by simp,rfl,rfl,rfl⟩ (wf) ?_;rintro m e h ⟨k,hk,cB,rfl,rfl,rfl⟩ CL m5;by_cases hlt:k < l.length
 ·obtain⟨y,hy⟩:∃y,l[k]? =some y:=⟨_,Xj hlt⟩;have ec:(k:Int) < (l.length:Int):=by omega
  have dW:=wi k (by omega);have he:=DU x y;cases hp:decide (x=y)with
  |false=>
   rw[hp]at he;have BZ:∀z∈l.take (k+1),decide (x=z)=false:=fun z hz=>by
    rw[ah hy]at hz;rcases X4.1 hz with hz|hz
    ·exact cB z hz
    ·rw[X7]at hz;rw[hz];exact hp
   replace BZ:=Xk BZ;replace cB:=Xk cB;replace hp:=Xk hp;refine ay ?_<;>intros;refine m5 _ _ _ _ _ ?_ ⟨k+1,hlt,BZ.out,rfl,rfl,rfl⟩ (wf);omega
  |true=>
   rw[hp]at he;have lv:db (fun y=>decide (x=y)) l=k:=fh hy hp cB;rw[lv];replace lv:=Xk lv;replace cB:=Xk cB;replace hp:=Xk hp;exact bo;all_goals exact ap.refl _
 ·obtain rfl:k=l.length:=by omega
  rw[Xq]at cB;rw[fi cB];replace cB:=Xk cB;exact bo;all_goals exact ap.refl _
theorem xe (l:List Rng)(x:Rng)(hl:l.length≤1000000000):
 ae prog 99 [.sl 3 (l.map cq),.agg (cq x)] (.v (.bool (l.any fun y=>decide (x=y)))):=by
 have hi:=DV l x hl;have pn:=go (fun y=>decide (x=y)) l;refine pj func99 ntmps99 results99 ?_;exact bo;all_goals exact ap.refl _
@[go_sem] def iN (b:Bok)(vp lp:PV)(c:Cmd)(a:Ans):List PV:=[.d (.v (.int .i64 b.tick)),.d (.sl 9 (b.pools.map am)),vp,lp,.d (.v (.int .i64 c.op)),.d (.v (.int .i64 c.a)),.d (.v (.int .i64 c.b)),.d (.v (.int .i64 c.c)),.d (.v (.int .i64 c.at_.at_)),.d (.v (.int .i64 c.at_.len)),.d (.v (.int .i64 c.rule.min)),.d (.v (.int .i64 c.rule.max)),.d (.v (.int .i64 c.rule.usual)),.d (.v (.int .i64 c.rule.cool)),.d (.v (.int .i64 a.err)),.d (.v (.int .i64 a.at_.at_)),.d (.v (.int .i64 a.at_.len)),.d (.v (.int .i64 a.n))]
theorem Qz (v:Vpc)(c:Cmd):ae prog 96 [.agg (aD v),.ept (oN c)] (.v (.bool (v.id==c.c))):=by
 refine pj func96 ntmps96 results96 ?_;exact bo
theorem QA (v:Vpc)(c:Cmd)(hl:v.ranges.length≤1000000000):ae prog 98 [.agg (aD v),.ept (oN c)] (.v (.bool (v.ranges.any fun r=>decide ((⟨c.at_,c.a⟩:Rng)=r)))):=by
 have h:=xe v.ranges ⟨c.at_,c.a⟩ hl;generalize (v.ranges.any fun r=>decide ((⟨c.at_,c.a⟩:Rng)=r))=x at*;refine pj func98 ntmps98 results98 ?_;exact bo
def Sg (vs:List Vpc)(r:Rng):Bool:=vs.any fun v=>v.ranges.any fun x=>decide (r=x)
def qi (b:Bok)(vs:List Vpc)(c:Cmd):Bok × Ans:=
 if c.op=1 then ((jv b c.a c.at_ c.rule).1,.er (jv b c.a c.at_ c.rule).2)
 else if c.op=2 then ((lO b c.a c.b c.c c.rule).1,⟨(lO b c.a c.b c.c c.rule).2.2,(lO b c.a c.b c.c c.rule).2.1,0⟩)
 else if c.op=3 then ((ld b c.a).1,.er (ld b c.a).2)
 else if c.op=4 then ((qh b c.a).1,.er (qh b c.a).2)
 else if c.op=5 then if gM vs c.c then (b,.er 6)else ((fX b c.a c.b c.c).1,⟨(fX b c.a c.b c.c).2.2,(fX b c.a c.b c.c).2.1,0⟩)
 else if c.op=6 then if Sg vs ⟨c.at_,c.a⟩then (b,.er 9)else ((lc b c.a c.at_).1,.er (lc b c.a c.at_).2)
 else (b,.zero)
theorem Ts (b:Bok)(vs:List Vpc)(lp:List Lnk)(c:Cmd)(hz:∀p∈b.pools,p.leases.length≤3518437208882)(h6:vs.length≤6)(h4:∀v∈vs,v.ranges.length≤1000000000):
 MSpec prog 51 [.ptr 0 0] [.box 128 (iN b (.own 1 vs.length) (.d (.sl 2 (lp.map cT))) c .zero),.row 88 3 vs.length (ab (vs.map aD))] (.d (.v (.bool (decide (1≤c.op∧c.op≤6)))))
  [.box 128 (iN (qi b vs c).1 (.own 1 vs.length) (.d (.sl 2 (lp.map cT))) c (qi b vs c).2),.row 88 3 vs.length (ab (vs.map aD))]:=by
 unfold qi;by_cases h1:c.op=1
 ·rw[if_pos h1,decide_eq_true (by omega)];have hp:=Tl b c.a c.at_ c.rule hz;generalize jv b c.a c.at_ c.rule=R at*;replace hz:=Xk hz;replace h4:=Xk h4;refine im af al func51 rfl ntmps51 results51 (by kernel_rfl) (by simp) (by simp[ai,aj]) (by simp[az,aH,ai,aj,iN,aM,aq]) ?_;refine ay ?_;exact wf
 rw[if_neg h1];by_cases h2:c.op=2
 ·rw[if_pos h2,decide_eq_true (by omega)];have hp:=Tn b c.a c.b c.c c.rule hz;generalize lO b c.a c.b c.c c.rule=R at*;clear h1;replace hz:=Xk hz;replace h4:=Xk h4;refine im af al func51 rfl ntmps51 results51 (by kernel_rfl) (by simp) (by simp[ai,aj]) (by simp[az,aH,ai,aj,iN,aM,aq]) ?_;refine ay ?_;exact wf
 rw[if_neg h2];by_cases h3:c.op=3
 ·rw[if_pos h3,decide_eq_true (by omega)];have hp:=Qt b c.a hz;generalize ld b c.a=R at*;clear h1 h2;replace hz:=Xk hz;replace h4:=Xk h4;refine im af al func51 rfl ntmps51 results51 (by kernel_rfl) (by simp) (by simp[ai,aj]) (by simp[az,aH,ai,aj,iN,aM,aq]) ?_;refine ay ?_;exact wf
 rw[if_neg h3];by_cases h4':c.op=4
 ·rw[if_pos h4',decide_eq_true (by omega)];have hp:=Tr b c.a hz;generalize qh b c.a=R at*;clear h1 h2 h3;replace hz:=Xk hz;replace h4:=Xk h4;refine im af al func51 rfl ntmps51 results51 (by kernel_rfl) (by simp) (by simp[ai,aj]) (by simp[az,aH,ai,aj,iN,aM,aq]) ?_;refine ay ?_;exact wf
 rw[if_neg h4'];by_cases h5:c.op=5
 ·rw[if_pos h5,decide_eq_true (by omega)];have om:=w8 ij (fun v=>v.id==c.c) vs 96 [.ept (oN c)] (by omega) (fun v _=>Qz v c);have hp:=MX b c.a c.b c.c hz;generalize fX b c.a c.b c.c=R at*;unfold gM;clear h1 h2 h3 h4';cases hb:vs.any fun v=>v.id==c.c
  ·rw[hb]at om;replace hb:=Xk hb;simp only[oN,h5]at om;replace hz:=Xk hz;replace h4:=Xk h4;refine im af al func51 rfl ntmps51 results51 (by kernel_rfl) (by simp) (by simp[ai,aj]) (by simp[az,aH,ai,aj,iN,aM,aq]) ?_;refine ay ?_;exact wf
  ·rw[hb]at om;replace hb:=Xk hb;simp only[oN,h5]at om;clear hp;replace hz:=Xk hz;replace h4:=Xk h4;refine im af al func51 rfl ntmps51 results51 (by kernel_rfl) (by simp) (by simp[ai,aj]) (by simp[az,aH,ai,aj,iN,aM,aq]) ?_;refine ay ?_;exact wf
 rw[if_neg h5];by_cases h6':c.op=6
 ·rw[if_pos h6',decide_eq_true (by omega)];have om:=w8 ij (fun v=>v.ranges.any fun r=>decide ((⟨c.at_,c.a⟩:Rng)=r)) vs 98 [.ept (oN c)] (by omega) (fun v hv=>QA v c (h4 v hv));have hp:=MY b c.a c.at_ hz;generalize lc b c.a c.at_=R at*;unfold Sg;clear h1 h2 h3 h4' h5;cases hb:vs.any fun v=>v.ranges.any fun r=>decide ((⟨c.at_,c.a⟩:Rng)=r)
  ·rw[hb]at om;replace hb:=Xk hb;simp only[oN,h6']at om;replace hz:=Xk hz;replace h4:=Xk h4;refine im af al func51 rfl ntmps51 results51 (by kernel_rfl) (by simp) (by simp[ai,aj]) (by simp[az,aH,ai,aj,iN,aM,aq]) ?_;refine ay ?_;exact wf
  ·rw[hb]at om;replace hb:=Xk hb;simp only[oN,h6']at om;clear hp;replace hz:=Xk hz;replace h4:=Xk h4;refine im af al func51 rfl ntmps51 results51 (by kernel_rfl) (by simp) (by simp[ai,aj]) (by simp[az,aH,ai,aj,iN,aM,aq]) ?_;refine ay ?_;exact wf
 rw[if_neg h6',decide_eq_false (by omega)];have e1:(c.op==1)=false:=by simpa using h1
 have e2:(c.op==2)=false:=by simpa using h2
 have e3:(c.op==3)=false:=by simpa using h3
 have e4:(c.op==4)=false:=by simpa using h4'
 have e5:(c.op==5)=false:=by simpa using h5
 have e6:(c.op==6)=false:=by simpa using h6'
 clear h1 h2 h3 h4' h5 h6';replace hz:=Xk hz;replace h4:=Xk h4;refine im af al func51 rfl ntmps51 results51 (by kernel_rfl) (by simp) (by simp[ai,aj]) (by simp[az,aH,ai,aj,iN,aM,aq]) ?_;refine ay ?_;exact wf
theorem xf {α:Type}(enc:α→List D)(l:List α)(hl:l.length≤1000000000):
 MSpec prog 88 [.d (.sl 2 (l.map enc))] [] (.own 0 1) [.row 91 2 1 (ab (l.map enc))]:=by
 cases l with
 |nil=>
  refine rN (pl:=[]) (ql:=[]) fun ao cap=>?_;cases ao with
  |none=>
   simp only[Ye];refine mj func88 ntmps88 results88 ?_;repeat' (first|(with_reducible refine And.intro ?_ ?_)|(with_reducible refine dO (fun _=>?_) (fun _=>?_))|(with_reducible refine aN (fun _=>?_) (fun _=>?_))|(with_reducible refine cg (by kernel_rfl))|simp -dsimp only[go_sem,seval, *,Zm,XJ]|((with_reducible refine ci ?_);simp -dsimp only[go_sem,seval,Zm,XJ];first|refine aP (by first|assumption|fail) (by first|exact .inl rfl|exact .inr rfl) ?_|refine aO (by assumption) (by repeat(first|exact ap.refl _|exact ap.nil _|(refine ap.tup ?_)|(refine ap.agg ?_ rfl)|exact trivial|(refine And.intro ?_ ?_))) (by first|exact .inl rfl|exact .inr rfl) ?_)|omega|exact decide_eq_true (by omega)|exact ap.refl _)
   refine ik (h:=[]) (XC _) 91 2 ?_;exact(fg 0 0 91 2 [] rfl (aV rfl rfl))
  |some a=>
   simp only[Ye];refine mj func88 ntmps88 results88 ?_;repeat' (first|(with_reducible refine And.intro ?_ ?_)|(with_reducible refine dO (fun _=>?_) (fun _=>?_))|(with_reducible refine aN (fun _=>?_) (fun _=>?_))|(with_reducible refine cg (by kernel_rfl))|simp -dsimp only[go_sem,seval, *,Yv,XJ]|((with_reducible refine ci ?_);simp -dsimp only[go_sem,seval,Yv,XJ];first|refine aP (by first|assumption|fail) (by first|exact .inl rfl|exact .inr rfl) ?_|refine aO (by assumption) (by repeat(first|exact ap.refl _|exact ap.nil _|(refine ap.tup ?_)|(refine ap.agg ?_ rfl)|exact trivial|(refine And.intro ?_ ?_))) (by first|exact .inl rfl|exact .inr rfl) ?_)|omega|exact decide_eq_true (by omega)|exact ap.refl _)
   exact aV rfl rfl
 |cons x l=>
  simp only[XD]at hl;refine mj func88 ntmps88 results88 ?_;repeat' (first|(with_reducible refine And.intro ?_ ?_)|(with_reducible refine dO (fun _=>?_) (fun _=>?_))|(with_reducible refine aN (fun _=>?_) (fun _=>?_))|(with_reducible refine cg (by kernel_rfl))|simp -dsimp only[go_sem,seval, *,Yv,XJ]|((with_reducible refine ci ?_);simp -dsimp only[go_sem,seval,Yv,XJ];first|refine aP (by first|assumption|fail) (by first|exact .inl rfl|exact .inr rfl) ?_|refine aO (by assumption) (by repeat(first|exact ap.refl _|exact ap.nil _|(refine ap.tup ?_)|(refine ap.agg ?_ rfl)|exact trivial|(refine And.intro ?_ ?_))) (by first|exact .inl rfl|exact .inr rfl) ?_)|omega|exact decide_eq_true (by omega)|exact ap.refl _)
  all_goals first|omega|exact aV rfl rfl
theorem pK (n:Net)(h:dy n≠0):
 MSpec prog 173 [.d (.agg (eI n))] [] (.tup [.ptr 1 0,.d (.v (.int .i64 (dy n)))]) [.gone,.box 34 [.d (.v (.slice none 0 0)),.d (.v (.slice none 0 0))]]:=by
 have hc:=wM n;have h1:(dy n !=0)=true:=by simpa using h
 refine mj func173 ntmps173 results173 ?_;refine ay ?_<;>intros;exact(aU 0 (by simp)).trans (aV rfl rfl)
theorem sa (n:Net)(h:dy n=0):
 MSpec prog 173 [.d (.agg (eI n))] [] (.tup [.ptr 2 0,.d (.v (.int .i64 0))]) [.gone,.row 91 2 1 (ab (n.links.map cT)),.box 34 [.own 3 n.vpcs.length,.own 1 1],.row 88 3 n.vpcs.length (ab (n.vpcs.map aD))]:=by
 have hc:=wM n;rw[h]at hc;have cC:=iM.1 h;have n6:=cC.n6;have U1:=Xk cC.vp;have a0J:=xf cT n.links (by have:=cC.n12;omega);clear cC;replace h:=Xk h;refine mj func173 ntmps173 results173 ?_;have z1z:=Ln.mk (ls:=[]) (a0J);refine ay ?_<;>intros;refine br af al n.vpcs (fun _=>True) (fun k=>[(29,.d (.v (.int .i64 k))),(28,.d (.v (.int .i64 n.vpcs.length))),(27,.d (.sl 3 (n.vpcs.map aD))),(5,.ptr 2 0)])
  (fun k=>[.gone,.row 91 2 1 (ab (n.links.map cT)),.box 34 [.own 3 k,.own 1 1],.row 88 3 k (ab ((n.vpcs.take k).map aD))]) trivial ?_ ?_ ?_
 ·refine(aU 0 (by simp)).trans ((aL (by simp) 2 34 [.d (.v (.slice none 0 0)),.own 1 1] 0 88 3 rfl rfl rfl).trans ?_);exact wf (hb:=fW) (hbh:=fW)
 ·intro k v hv hk _ CN hCN;have fy:(k:Int) < (n.vpcs.length:Int):=by omega
  have dW:=wi k (by omega);have GC:k+1≤100:=by omega
  have hlv:(YD k n.vpcs).length=k:=by rw[Xp];omega
  have KN:=bc (U1.out v (Xl hv));have h6:=KN.n6;have h8:=Xk KN.n8;have a0K:=jx cq v.ranges (by have:=KN.n4;omega);clear KN;replace hv:=Xk hv;have sK:=hv.out;have z1z:=Ln.mk (ls:=[]) (a0K);refine ay ?_<;>intros;refine br af al v.subs (fun _=>True) (fun j=>[(42,.d (.v (.int .i64 j))),(41,.d (.v (.int .i64 v.subs.length))),(40,.d (.sl 4 (v.subs.map bI))),(8,.ptr 6 0),(29,.d (.v (.int .i64 k))),(28,.d (.v (.int .i64 n.vpcs.length))),(27,.d (.sl 3 (n.vpcs.map aD))),(5,.ptr 2 0)])
   (fun j=>[.gone,.row 91 2 1 (ab (n.links.map cT)),.box 34 [.own 3 k,.own 1 1],.row 88 3 k (ab ((n.vpcs.take k).map aD)),.gone,.row 100 3 1 (ab (v.ranges.map cq)),.box 88 [.d (.v (.int .i64 v.id)),.own 5 1,.own 7 j],.row 107 4 j (ab ((v.subs.take j).map bI))]) trivial ?_ ?_ ?_
  ·refine(aU 4 (by simp)).trans ((aL (by simp) 6 88 [.d (.v (.int .i64 v.id)),.own 5 1,.d (.v (.slice none 0 0))] 2 107 4 rfl rfl rfl).trans ?_);exact wf (hb:=fW) (hbh:=fW)
  ·intro j s hs hj _ CO Ih;have mb:(j:Int) < (v.subs.length:Int):=by omega
   have rf:=wi j (by omega);have qt:=h8.out s (Xl hs);have pT:j+1≤100:=by omega
   have pS:(YD j v.subs).length=j:=by rw[Xp];omega
   replace hs:=Xk hs;have xT:=hs.out;refine ay ?_<;>intros;refine br af al s.faces (fun _=>True) (fun i=>[(54,.d (.v (.int .i64 i))),(53,.d (.v (.int .i64 s.faces.length))),(52,.d (.sl 2 (s.faces.map cX))),(11,.ptr 9 0),(42,.d (.v (.int .i64 j))),(41,.d (.v (.int .i64 v.subs.length))),(40,.d (.sl 4 (v.subs.map bI))),(8,.ptr 6 0),(29,.d (.v (.int .i64 k))),(28,.d (.v (.int .i64 n.vpcs.length))),(27,.d (.sl 3 (n.vpcs.map aD))),(5,.ptr 2 0)])
    (fun i=>[.gone,.row 91 2 1 (ab (n.links.map cT)),.box 34 [.own 3 k,.own 1 1],.row 88 3 k (ab ((n.vpcs.take k).map aD)),.gone,.row 100 3 1 (ab (v.ranges.map cq)),.box 88 [.d (.v (.int .i64 v.id)),.own 5 1,.own 7 j],.row 107 4 j (ab ((v.subs.take j).map bI)),.gone,.box 107 [.d (.v (.int .i64 s.id)),.d (.v (.int .i64 s.at_.at_)),.d (.v (.int .i64 s.at_.len)),.own 10 i],.row 110 2 i (ab ((s.faces.take i).map cX))]) trivial ?_ ?_ ?_
   ·refine(aU 8 (by simp)).trans ((aL (by simp) 9 107 [.d (.v (.int .i64 s.id)),.d (.v (.int .i64 s.at_.at_)),.d (.v (.int .i64 s.at_.len)),.d (.v (.slice none 0 0))] 3 110 2 rfl rfl rfl).trans ?_);exact wf (hb:=fW) (hbh:=fW)
   ·intro i f hf hi _ C hC;have SD:(i:Int) < (s.faces.length:Int):=by omega
    have hwi:=wi i (by omega);have jC:=qt.2 f (Xl hf);have nQ:i+1≤100:=by omega
    have hli:(YD i s.faces).length=i:=by rw[Xp];omega
    replace hf:=Xk hf;have RX:=hf.out;have z1z:=Ln.mk (ls:=[]) (eM f.addrs (by omega));refine ay ?_<;>intros;refine hC _ _ trivial ((aA 12 1 3 1 (f.addrs.map dF) rfl).trans ?_);simp only[lG,fz,jE,iL,kG,iV,bg,cG,cS,Xm,Xx,XU,XW,reduceIte,and_true,true_and,and_self,and_false,false_and,XK,X0,reduceCtorEq];exact wf (hh:=(by rw[ah hf.out,Xz,Xm,Xx,←aW];rfl)) (hb:=fW) (hbh:=fW)
   ·intro _ C;refine ay ?_<;>intros;refine Ih _ _ trivial ((aA 10 s.faces.length 110 2 (s.faces.map cX) rfl).trans ?_);simp only[lG,fz,jE,iL,kG,iV,bg,cG,cS,Xm,Xx,XU,XW,reduceIte,and_true,true_and,and_self,and_false,false_and,XK,X0,reduceCtorEq];exact wf (hh:=(by rw[ah hs.out,Xz,Xm,Xx,←aW];rfl)) (hb:=fW) (hbh:=fW)
  ·intro _ C;refine ay ?_<;>intros;refine hCN _ _ trivial ((aA 7 v.subs.length 107 4 (v.subs.map bI) rfl).trans ?_);simp only[lG,fz,jE,iL,kG,iV,bg,cG,cS,Xm,Xx,XU,XW,reduceIte,and_true,true_and,and_self,and_false,false_and,XK,X0,reduceCtorEq];refine(aA 5 1 100 3 (v.ranges.map cq) rfl).trans ?_;simp only[lG,fz,jE,iL,kG,iV,bg,cG,cS,Xm,Xx,XU,XW,reduceIte,and_true,true_and,and_self,and_false,false_and,XK,X0,reduceCtorEq];exact wf (hh:=(by rw[ah hv.out,Xz,Xm,Xx,←aW];rfl)) (hb:=fW) (hbh:=fW)
 ·intro _ C;refine ay ?_<;>intros;exact aV rfl rfl
theorem Tt (s:Ste)(hb:BookOK s.book)(hn:NetOK s.net):
 MSpec prog 50 [.d (.agg (dR s))] [] (.agg [.d (.v (.int .i64 s.book.tick)),.d (.sl 9 (s.book.pools.map am)),.own 5 s.net.vpcs.length,.d (.sl 2 (s.net.links.map cT))]) [.gone,.gone,.gone,.gone,.gone,.row 88 3 s.net.vpcs.length (ab (s.net.vpcs.map aD))]:=by
 have n8:=hb.n8;have p4:=Xk hb.l32;have n6:=hn.n6;have U1:=Xk hn.vp;have z1:=Ln.mk (ls:=[]) (xf cT s.net.links (by have:=hn.n12;omega));clear hb hn;refine mj func50 ntmps50 results50 ?_;refine ay ?_;refine br af al s.book.pools (fun _=>True) (fun k=>[(28,.d (.v (.int .i64 k))),(27,.d (.v (.int .i64 s.book.pools.length))),(26,.d (.sl 9 (s.book.pools.map am))),(3,.ptr 3 0),(2,.ptr 1 0),(1,.ptr 0 0)])
  (fun k=>[.box 36 ((dR s).map .d),.box 36 [.d (.v (.int .i64 0)),.d (.v (.slice none 0 0)),.d (.v (.slice none 0 0)),.d (.v (.slice none 0 0))],.row 91 2 1 (ab (s.net.links.map cT)),.box 36 [.d (.v (.int .i64 s.book.tick)),.own 4 k,.d (.v (.slice none 0 0)),.own 2 1],.row 83 9 k (ab ((s.book.pools.take k).map am))]) trivial ?_ ?_ ?_
 ·refine(aL (by simp) 3 36 [.d (.v (.int .i64 s.book.tick)),.d (.v (.slice none 0 0)),.d (.v (.slice none 0 0)),.own 2 1] 1 83 9 rfl rfl rfl).trans ?_;exact wf
 ·intro k p hp hk _ C hC;have fy:(k:Int) < (s.book.pools.length:Int):=by omega
  have dW:=wi k (by omega);have oa:=p4.out p (Xl hp);have pT:k+1≤100:=by omega
  have hlt:(YD k s.book.pools).length=k:=by rw[Xp];omega
  have z2:=Ln.mk (ls:=[]) (gN aQ p.leases (by omega));refine ay ?_;refine hC _ _ trivial ((aA 6 1 96 5 (p.leases.map aQ) rfl).trans ?_);simp only[lG,fz,jE,iL,kG,iV,bg,cG,cS,Xm,Xx,XU,XW,reduceIte,and_true,true_and,and_self,and_false,false_and,XK,X0,reduceCtorEq];exact wf (hh:=by rw[ah hp,Xz,Xm,Xx,←aW];rfl)
 ·intro _ C;rw[Xq];refine ay ?_;refine br af al s.net.vpcs (fun _=>True) (fun k=>[(49,.d (.v (.int .i64 k))),(48,.d (.v (.int .i64 s.net.vpcs.length))),(47,.d (.sl 3 (s.net.vpcs.map aD))),(3,.ptr 3 0),(2,.ptr 1 0),(1,.ptr 0 0)])
   (fun k=>[.gone,.box 36 [.d (.v (.int .i64 0)),.d (.v (.slice none 0 0)),.d (.v (.slice none 0 0)),.d (.v (.slice none 0 0))],.gone,.box 36 [.d (.v (.int .i64 s.book.tick)),.d (.sl 9 (s.book.pools.map am)),.own 5 k,.d (.sl 2 (s.net.links.map cT))],.gone,.row 88 3 k (ab ((s.net.vpcs.take k).map aD))]) trivial ?_ ?_ ?_
  ·refine(aA 4 s.book.pools.length 83 9 (s.book.pools.map am) rfl).trans ?_;simp only[lG,fz,jE,iL,kG,iV,bg,cG,cS,Xm,Xx,XU,XW,reduceIte,and_true,true_and,and_self,and_false,false_and,XK,X0,reduceCtorEq];refine(aA 2 1 91 2 (s.net.links.map cT) rfl).trans ?_;simp only[lG,fz,jE,iL,kG,iV,bg,cG,cS,Xm,Xx,XU,XW,reduceIte,and_true,true_and,and_self,and_false,false_and,XK,X0,reduceCtorEq];refine(aL (by simp) 3 36 [.d (.v (.int .i64 s.book.tick)),.d (.sl 9 (s.book.pools.map am)),.d (.v (.slice none 0 0)),.d (.sl 2 (s.net.links.map cT))] 2 88 3 rfl rfl rfl).trans ?_;refine eo.trans (aU 0 (by simp[bu])) ?_;exact wf
  ·intro k v hv hk _ C hC;have fy:(k:Int) < (s.net.vpcs.length:Int):=by omega
   have dW:=wi k (by omega);have GC:k+1≤100:=by omega
   have hlv:(YD k s.net.vpcs).length=k:=by rw[Xp];omega
   have KN:=bc (U1.out v (Xl hv));have h6:=KN.n6;have h8:=Xk KN.n8;have z3:=Ln.mk (ls:=[]) (jx cq v.ranges (by have:=KN.n4;omega));clear KN;refine ay ?_;refine br af al v.subs (fun _=>True) (fun j=>[(62,.d (.v (.int .i64 j))),(61,.d (.v (.int .i64 v.subs.length))),(60,.d (.sl 4 (v.subs.map bI))),(8,.ptr 8 0),(49,.d (.v (.int .i64 k))),(48,.d (.v (.int .i64 s.net.vpcs.length))),(47,.d (.sl 3 (s.net.vpcs.map aD))),(3,.ptr 3 0),(2,.ptr 1 0),(1,.ptr 0 0)])
    (fun j=>[.gone,.box 36 [.d (.v (.int .i64 0)),.d (.v (.slice none 0 0)),.d (.v (.slice none 0 0)),.d (.v (.slice none 0 0))],.gone,.box 36 [.d (.v (.int .i64 s.book.tick)),.d (.sl 9 (s.book.pools.map am)),.own 5 k,.d (.sl 2 (s.net.links.map cT))],.gone,.row 88 3 k (ab ((s.net.vpcs.take k).map aD)),.gone,.row 100 3 1 (ab (v.ranges.map cq)),.box 88 [.d (.v (.int .i64 v.id)),.own 7 1,.own 9 j],.row 107 4 j (ab ((v.subs.take j).map bI))]) trivial ?_ ?_ ?_
   ·refine(aU 6 (by simp)).trans ((aL (by simp) 8 88 [.d (.v (.int .i64 v.id)),.own 7 1,.d (.v (.slice none 0 0))] 2 107 4 rfl rfl rfl).trans ?_);exact wf
   ·intro j u hu hj _ C2 kz;have mb:(j:Int) < (v.subs.length:Int):=by omega
    have rf:=wi j (by omega);have qt:=h8.out u (Xl hu);have pT:j+1≤100:=by omega
    have pS:(YD j v.subs).length=j:=by rw[Xp];omega
    have ym:=Xk hu;have KJ:=Xk hv;clear hv;refine ay ?_;refine br af al u.faces (fun _=>True) (fun i=>(74,.d (.v (.int .i64 i)))::(73,.d (.v (.int .i64 u.faces.length)))::(72,.d (.sl 2 (u.faces.map cX)))::(11,.ptr 11 0)::[(62,.d (.v (.int .i64 j))),(61,.d (.v (.int .i64 v.subs.length))),(60,.d (.sl 4 (v.subs.map bI))),(8,.ptr 8 0),(49,.d (.v (.int .i64 k))),(48,.d (.v (.int .i64 s.net.vpcs.length))),(47,.d (.sl 3 (s.net.vpcs.map aD))),(3,.ptr 3 0),(2,.ptr 1 0),(1,.ptr 0 0)])
     (fun i=>[.gone,.box 36 [.d (.v (.int .i64 0)),.d (.v (.slice none 0 0)),.d (.v (.slice none 0 0)),.d (.v (.slice none 0 0))],.gone,.box 36 [.d (.v (.int .i64 s.book.tick)),.d (.sl 9 (s.book.pools.map am)),.own 5 k,.d (.sl 2 (s.net.links.map cT))],.gone,.row 88 3 k (ab ((s.net.vpcs.take k).map aD)),.gone,.row 100 3 1 (ab (v.ranges.map cq)),.box 88 [.d (.v (.int .i64 v.id)),.own 7 1,.own 9 j],.row 107 4 j (ab ((v.subs.take j).map bI)),.gone,.box 107 [.d (.v (.int .i64 u.id)),.d (.v (.int .i64 u.at_.at_)),.d (.v (.int .i64 u.at_.len)),.own 12 i],.row 110 2 i (ab ((u.faces.take i).map cX))]) trivial ?_ ?_ ?_
    ·refine(aU 10 (by simp)).trans ((aL (by simp) 11 107 [.d (.v (.int .i64 u.id)),.d (.v (.int .i64 u.at_.at_)),.d (.v (.int .i64 u.at_.len)),.d (.v (.slice none 0 0))] 3 110 2 rfl rfl rfl).trans ?_);exact wf
    ·intro i f hf hi _ C3 RQ;have SD:(i:Int) < (u.faces.length:Int):=by omega
     have hwi:=wi i (by omega);have jC:=qt.2 f (Xl hf);have nQ:i+1≤100:=by omega
     have hli:(YD i u.faces).length=i:=by rw[Xp];omega
     have z4:=Ln.mk (ls:=[]) (eM f.addrs (by omega));refine ay ?_;refine RQ _ _ trivial ((aA 14 1 3 1 (f.addrs.map dF) rfl).trans ?_);simp only[lG,fz,jE,iL,kG,iV,bg,cG,cS,Xm,Xx,XU,XW,reduceIte,and_true,true_and,and_self,and_false,false_and,XK,X0,reduceCtorEq];exact wf (hh:=by rw[ah hf,Xz,Xm,Xx,←aW];rfl)
    ·intro _ C3;rw[Xq];refine ay ?_;refine kz _ _ trivial ((aA 12 u.faces.length 110 2 (u.faces.map cX) rfl).trans ?_);simp only[lG,fz,jE,iL,kG,iV,bg,cG,cS,Xm,Xx,XU,XW,reduceIte,and_true,true_and,and_self,and_false,false_and,XK,X0,reduceCtorEq];exact wf (hh:=by rw[ah ym.out,Xz,Xm,Xx,←aW];rfl)
   ·intro _ C2;rw[Xq];refine ay ?_;refine hC _ _ trivial ((aA 9 v.subs.length 107 4 (v.subs.map bI) rfl).trans ?_);simp only[lG,fz,jE,iL,kG,iV,bg,cG,cS,Xm,Xx,XU,XW,reduceIte,and_true,true_and,and_self,and_false,false_and,XK,X0,reduceCtorEq];refine(aA 7 1 100 3 (v.ranges.map cq) rfl).trans ?_;simp only[lG,fz,jE,iL,kG,iV,bg,cG,cS,Xm,Xx,XU,XW,reduceIte,and_true,true_and,and_self,and_false,false_and,XK,X0,reduceCtorEq];exact wf (hh:=by rw[ah hv,Xz,Xm,Xx,←aW];rfl)
  ·intro _ C;rw[Xq];refine ay ?_;refine eo.trans (aU 1 (by simp[bu])) ?_;refine eo.trans (aU 3 (by simp[bu])) ?_;exact wf
def Net.zero:Net:=⟨[],[]⟩
theorem qV {l:List Vpc}{id:Int}{o:Option Vpc}(h:l.find? (fun v=>v.id==id)=o):match o with|some v=>∃i,l.findIdx? (fun v=>v.id==id)=some i∧l[i]? =some v∧v.id=id|none=>l.findIdx? (fun v=>v.id==id)=none:=by
 cases o with
 |none=>
  rw[YF]at h;exact Yx.2 fun v hv=>by simpa using h v hv
 |some v=>
  obtain⟨h1,i,hi,h2,h3⟩:=Zg.1 h;refine⟨i,?_,by rw[Xj hi,h2],by simpa using h1⟩;rw[XV];exact⟨hi,by rw[h2];exact h1,fun j hj=>by simpa using h3 j hj⟩
def fM (n:Net)(id:Int):Option Nat:=n.vpcs.findIdx? fun v=>v.id==id
theorem gE {n:Net}{id:Int}{i:Nat}(h:fM n id=some i):∃v,n.vpcs[i]? =some v∧v.id=id∧i < n.vpcs.length∧eO n id=some v:=by
 cases hf:eO n id with
 |none=>have:=qV hf;unfold fM at h;rw[h]at this;cases this
 |some v=>
  obtain⟨j,h1,h2,h3⟩:=qV hf;unfold fM at h;rw[h]at h1;cases h1;exact⟨v,h2,h3,(Xo.1 h2).1,rfl⟩
theorem eW {n:Net}{id:Int}(h:fM n id=none):eO n id=none:=by
 cases hf:eO n id with
 |none=>rfl
 |some v=>
  obtain⟨j,h1,-⟩:=qV hf;unfold fM at h;rw[h]at h1;cases h1
theorem Tu {α:Type}{key:α→Int}{l:List α}{i:Nat}{q:α}(hs:l.Pairwise fun a b=>key a < key b)(hq:l[i]? =some q):m4 key (key q) l=i∧rS key (key q) l=true:=by
 obtain⟨hi,rfl⟩:=Xo.1 hq;have h1:m4 key (key l[i]) l=i:=tt (G' hi) (fun k hk OF=>XM.1 hs k i hk hi OF) (fun k hk OF=>by
  rcases XO i k with h|h
  ·have:=XM.1 hs i k hi hk h;omega
  ·obtain rfl:k=i:=by omega
   exact Int.le_refl _)
 refine⟨h1,?_⟩;unfold rS;rw[h1,hq];simp
theorem sd (n:Net)(id:Int)(gv gl i:Nat)(v:Vpc)(hv:n.vpcs[i]? =some v)(he:v.id=id)(h6:n.vpcs.length≤6)(hs:n.vpcs.Pairwise fun a b=>a.id < b.id):
 MSpec prog 126 [.ptr 0 0,.d (.v (.int .i64 id))] [.box 34 [.own 1 gv,.own 2 gl],.row 88 3 gv (ab (n.vpcs.map aD)),.row 91 2 gl (ab (n.links.map cT))] (.tup [.rp 1 gv 3 i 0,.d (.v (.bool true))])
  [.box 34 [.own 1 gv,.own 2 gl],.row 88 3 gv (ab (n.vpcs.map aD)),.row 91 2 gl (ab (n.links.map cT))]:=by
 have hb:=rX ij (fun v:Vpc=>v.id) n.vpcs id 215 [] (by omega) hs (fun v _=>vr v id);subst he;obtain⟨e1,e2⟩:=Tu (key:=fun v:Vpc=>v.id) hs hv;rw[e1,e2]at hb;have hi:=(Xo.1 hv).1;have SD:(0:Int)≤(i:Int):=by omega
 clear hs e1 e2;replace hv:=Xk hv;refine mj func126 ntmps126 results126 ?_;refine ay ?_<;>intros;exact aV rfl rfl
theorem o8 (n:Net)(id:Int)(gv gl:Nat)(hf:eO n id=none)(h6:n.vpcs.length≤6)(hs:n.vpcs.Pairwise fun a b=>a.id < b.id):
 MSpec prog 126 [.ptr 0 0,.d (.v (.int .i64 id))] [.box 34 [.own 1 gv,.own 2 gl],.row 88 3 gv (ab (n.vpcs.map aD)),.row 91 2 gl (ab (n.links.map cT))] (.d (.tup [.v (.pointer none),.v (.bool false)]))
  [.box 34 [.own 1 gv,.own 2 gl],.row 88 3 gv (ab (n.vpcs.map aD)),.row 91 2 gl (ab (n.links.map cT))]:=by
 have hb:=rX ij (fun v:Vpc=>v.id) n.vpcs id 215 [] (by omega) hs (fun v _=>vr v id);have e2:rS (fun v:Vpc=>v.id) id n.vpcs=false:=by
  cases hB:rS (fun v:Vpc=>v.id) id n.vpcs with
  |false=>rfl
  |true=>
   unfold rS at hB;cases hq:n.vpcs[m4 (fun v:Vpc=>v.id) id n.vpcs]? with
   |none=>rw[hq]at hB;cases hB
   |some v=>
    have:=ME hs hq (by rw[hq]at hB;simpa using hB);unfold eO at hf;rw[hf]at this;cases this
 rw[e2]at hb;clear hs e2 hf;refine mj func126 ntmps126 results126 ?_;refine ay ?_<;>intros;exact aV rfl rfl
theorem Ng (id:Int):ae prog 126 [.ept [.v (.slice none 0 0),.v (.slice none 0 0)],.v (.int .i64 id)] (.tup [.v (.pointer none),.v (.bool false)]):=by
 have hb:=(rX ij (fun v:Vpc=>v.id) [] id 215 [] (by simp) (by simp) (fun v _=>vr v id)).args (ds:=[.v (.slice none 0 0),.v (.int .i64 id),.clo 215 []]) ⟨ap.nil _,ap.refl _,ap.refl _,trivial⟩;have e:rS (fun v:Vpc=>v.id) id []=false:=rfl;rw[e]at hb;refine pj func126 ntmps126 results126 ?_;exact bo
def xg (n:Net)(id:Int):List Int:=(n.vpcs.filter fun v=>ck n v.id==ck n id).map (·.id)
theorem DW (x y:Lnk):([x.a,x.b]==[y.a,y.b])=decide (x=y):=by
 rw[Yl];cases x;cases y;simp
theorem xi (l:List Lnk)(x:Lnk)(hl:l.length≤1000000000):
 ae prog 180 [.sl 2 (l.map cT),.agg (cT x)] (.v (.int .i64 (db (fun y=>decide (x=y)) l))):=by
 refine pj func180 ntmps180 results180 ?_;refine ay ?_<;>intros;refine cf af al (fun m e h=>∃k:Nat,k≤l.length∧(∀y∈l.take k,decide (x=y)=false)∧m=l.length - k∧e=[(8,.d (.v (.int .i64 k))),(7,.d (.v (.int .i64 l.length))),(4,.d (.v (.int .i64 0))),(3,.ptr 0 0),(0,.d (.sl 2 (l.map cT)))]∧h=[.box 91 ((cT x).map .d)]) _ _ _ ⟨0,XL _,by simp,rfl,rfl,rfl⟩ (wf) ?_;rintro m e h ⟨k,hk,cB,rfl,rfl,rfl⟩ CL m5;by_cases hlt:k < l.length
 ·obtain⟨y,hy⟩:∃y,l[k]? =some y:=⟨_,Xj hlt⟩;have ec:(k:Int) < (l.length:Int):=by omega
  have dW:=wi k (by omega);have he:=DW x y;cases hp:decide (x=y)with
  |false=>
   rw[hp]at he;have BZ:∀z∈l.take (k+1),decide (x=z)=false:=fun z hz=>by
    rw[ah hy]at hz;rcases X4.1 hz with hz|hz
    ·exact cB z hz
    ·rw[X7]at hz;rw[hz];exact hp
   replace BZ:=Xk BZ;replace cB:=Xk cB;replace hp:=Xk hp;refine ay ?_<;>intros;refine m5 _ _ _ _ _ ?_ ⟨k+1,hlt,BZ.out,rfl,rfl,rfl⟩ (wf);omega
  |true=>
   rw[hp]at he;have lv:db (fun y=>decide (x=y)) l=k:=fh hy hp cB;rw[lv];replace lv:=Xk lv;replace cB:=Xk cB;replace hp:=Xk hp;exact bo;all_goals exact ap.refl _
 ·obtain rfl:k=l.length:=by omega
  rw[Xq]at cB;rw[fi cB];replace cB:=Xk cB;exact bo;all_goals exact ap.refl _
theorem yI (l:List Lnk)(x:Lnk)(hl:l.length≤1000000000):
 ae prog 177 [.sl 2 (l.map cT),.agg (cT x)] (.v (.bool (l.any fun y=>decide (x=y)))):=by
 have hi:=xi l x hl;have pn:=go (fun y=>decide (x=y)) l;refine pj func177 ntmps177 results177 ?_;exact bo;all_goals exact ap.refl _
theorem DX {α:Type}{enc:α→List D}(l:List α)(i j g:Nat)(hi:i < l.length)(hj:j=i+1):
 MSpec prog 181 [.own 0 g,.d (.v (.int .i64 i)),.d (.v (.int .i64 j))] [.row 91 2 g (ab (l.map enc))] (.own 0 (g+1)) [.row 91 2 (g+1) (ab ((l.eraseIdx i).map enc))]:=by
 have h1:((i:Int)==(j:Int))=false:=by simp;omega
 have bH:¬ab (l.map enc)=[]:=by cases l<;>simp[ab]at hi ⊢
 have hle:(i:Int)≤(j:Int):=by omega
 have Ou:(j:Int)≤(l.length:Int):=by omega
 have mc:(l.map enc).length=l.length:=XF _;have h2:=pB (ab (l.map enc)) i j l.length (by rw[aC,mc];exact hi) hj (by rw[aC,mc]);rw[aC,mc]at h2;have sH:=Xk hj;clear hj;have KH:j≤l.length:=by have:=sH.out;omega
 have RR:min (l.length - j) (l.length - j)=l.length - j:=z' _;have hlt:i+(l.length - j)≤l.length:=by have:=sH.out;omega
 have qr:l.length - (i+(l.length - j))=1:=by have:=sH.out;omega
 have mX:i+(l.length - j)+1≤l.length:=by have:=sH.out;omega
 have RS:¬av (ab (l.map enc)) i (((ab (l.map enc)).drop j).take (l.length - j))=[]:=by
  intro h;rw[h]at h2;simp at h2;omega
 refine mj func181 ntmps181 results181 ?_;repeat' (first|(with_reducible refine And.intro ?_ ?_)|(with_reducible refine dO (fun _=>?_) (fun _=>?_))|(with_reducible refine aN (fun _=>?_) (fun _=>?_))|(with_reducible refine cg (by kernel_rfl))|simp -dsimp only[go_sem,seval, *,h1,bH,Yr,Xp,XS]|((with_reducible refine ci ?_);simp -dsimp only[go_sem,seval,h1,bH,Yr,Xp,XS];first|refine aP (by first|assumption|fail) (by first|exact .inl rfl|exact .inr rfl) ?_|refine aO (by assumption) (by repeat(first|exact ap.refl _|exact ap.nil _|(refine ap.tup ?_)|(refine ap.agg ?_ rfl)|exact trivial|(refine And.intro ?_ ?_))) (by first|exact .inl rfl|exact .inr rfl) ?_)|omega|exact decide_eq_true (by omega)|exact ap.refl _)
 rw[kr];exact oR (by rw[mc];exact hi) sH.out mc.symm
theorem Nh (a b:Int):ae prog 178 [.v (.int .i64 a),.v (.int .i64 b)] (.agg (cT (l6 a b))):=by
 refine pj func178 ntmps178 results178 ?_;exact bo;all_goals exact ap.refl _
def nT (n:Net)(id:Int)(r:Rng):Net × Int:=
 if dy n≠0 then (Net.zero,dy n)else
 match fM n id with
 |none=>(Net.zero,5)
 |some i=>match n.vpcs[i]? with
  |none=>(Net.zero,5)
  |some v=>if (dK v r).2≠0 then (Net.zero,(dK v r).2)else if eK {n with vpcs:=n.vpcs.set i (dK v r).1}=true then ({n with vpcs:=n.vpcs.set i (dK v r).1},0)else (Net.zero,9)
theorem DY {v:Vpc}{r:Rng}(h:(dK v r).2=0):(dK v r).1.id=v.id∧(dK v r).1.ranges.length≤5:=by
 unfold dK at h ⊢;split
 ·rename_i h1;rw[if_pos h1]at h;exact absurd h h1
 ·rename_i h1;rw[if_neg h1]at h;have hk:=bc (by simpa using h1);split
  ·rename_i h2;rw[if_pos h2]at h;exact absurd h h2
  ·refine⟨rfl,?_⟩;simp only;rw[io];have:=hk.n4;omega
theorem QB (n:Net)(id:Int)(r:Rng):ae prog 106 [.agg (eI n),.v (.int .i64 id),.agg (cq r)] (.tup [.agg (eI (nT n id r).1),.v (.int .i64 (nT n id r).2)]):=by
 obtain⟨R,hR⟩:∃R,R=nT n id r:=⟨_,rfl⟩;rw[←hR];replace hR:=Xk hR;by_cases hc:dy n=0
 ·have cC:=iM.1 hc;have cK:=sa n hc;cases hx:fM n id with
  |none=>
   have gB:=o8 n id n.vpcs.length 1 (eW hx) cC.n6 cC.rise;have hr:R=(Net.zero,5):=by rw[hR.out];unfold nT;rw[if_neg (by simpa using hc),hx]
   rw[hr];clear hr hR cC hx hc;refine pj func106 ntmps106 results106 ?_;have z1z:=Ln.mk (ls:=[]) (cK);have z2z:=Ln.mk (ls:=[5,6,4]) (gB);refine ay ?_<;>intros;all_goals exact dg
  |some i=>
   obtain⟨v,hv,he,hi,GS⟩:=gE hx;have gB:=sd n id n.vpcs.length 1 i v hv he cC.n6 cC.rise;have hgp:=Qy v r;replace he:=Xk he;have SD:(0:Int)≤(i:Int):=by omega
   by_cases hg:(dK v r).2=0
   ·have Pb:=DY hg;have OM:=Bc {n with vpcs:=n.vpcs.set i (dK v r).1} (by have:=cC.n6;simp;omega) (by have:=cC.n12;simp;omega) (fun u hu=>by
     rcases Y6 hu with hu|rfl
     ·have:=(bc (cC.vp u hu)).n4;omega
     ·have:=Pb.2;omega) (by
     have e:(n.vpcs.set i (dK v r).1).map (·.id)=n.vpcs.map (·.id):=by
      rw[List.map_set,Pb.1];apply Yh;intro j;rw[_a];split
      ·rename_i hj;subst hj;rw[XF,if_pos hi,XA,hv];rfl
      ·rfl
     simp only[e];exact cC.ids)
    have cJ:R=if eK {n with vpcs:=n.vpcs.set i (dK v r).1}=true then ({n with vpcs:=n.vpcs.set i (dK v r).1},0)else (Net.zero,9):=by
     rw[hR.out];unfold nT;rw[if_neg (by simpa using hc),hx];simp only[hv];rw[if_neg (by simpa using hg)]
    rw[hg]at hgp;clear hR cC hx hc Pb hg GS;generalize (dK v r).1=w at*;have bO:(ab (n.vpcs.map aD)).set i [.d (.v (.int .i64 w.id)),.d (.sl 3 (w.ranges.map cq)),.d (.sl 4 (w.subs.map bI))]=ab ((n.vpcs.set i w).map aD):=cL aD n.vpcs i w;cases hp:eK {n with vpcs:=n.vpcs.set i w} with
    |true=>
     rw[hp]at OM cJ;have hr:R=({n with vpcs:=n.vpcs.set i w},0):=by rw[cJ];rfl
     rw[hr];clear hr cJ hp;refine pj func106 ntmps106 results106 ?_;have z1z:=Ln.mk (ls:=[]) (cK);have z2z:=Ln.mk (ls:=[5,6,4]) (gB);exact bo;all_goals exact dg
    |false=>
     rw[hp]at OM cJ;have hr:R=(Net.zero,9):=by rw[cJ];rfl
     rw[hr];clear hr cJ hp;refine pj func106 ntmps106 results106 ?_;have z1z:=Ln.mk (ls:=[]) (cK);have z2z:=Ln.mk (ls:=[5,6,4]) (gB);refine ay ?_<;>intros;all_goals exact dg
   ·have hr:R=(Net.zero,(dK v r).2):=by
     rw[hR.out];unfold nT;rw[if_neg (by simpa using hc),hx];simp only[hv];rw[if_pos hg]
    have UQ:((dK v r).2 !=0)=true:=by simpa using hg
    rw[hr];clear hr hR cC hx hc hg GS;generalize (dK v r).1=w at*;generalize (dK v r).2=E at*;refine pj func106 ntmps106 results106 ?_;have z1z:=Ln.mk (ls:=[]) (cK);have z2z:=Ln.mk (ls:=[5,6,4]) (gB);refine ay ?_<;>intros;all_goals exact dg
 ·have cK:=pK n hc;have h1:(dy n !=0)=true:=by simpa using hc
  have hr:R=(Net.zero,dy n):=by rw[hR.out];unfold nT;rw[if_pos hc]
  rw[hr];replace hr:=Xk hr;refine pj func106 ntmps106 results106 ?_;have z1z:=Ln.mk (ls:=[]) (cK);refine ay ?_<;>intros;all_goals exact dg
def o9 (n:Net)(a b:Int):Net × Int:=
 if dy n≠0 then (Net.zero,dy n)else
 match n.links.findIdx? (fun l=>decide (l6 a b=l))with
 |none=>(Net.zero,5)
 |some i=>({n with links:=n.links.eraseIdx i},0)
theorem QC (n:Net)(a b:Int):ae prog 104 [.agg (eI n),.v (.int .i64 a),.v (.int .i64 b)] (.tup [.agg (eI (o9 n a b).1),.v (.int .i64 (o9 n a b).2)]):=by
 obtain⟨R,hR⟩:∃R,R=o9 n a b:=⟨_,rfl⟩;rw[←hR];replace hR:=Xk hR;by_cases hc:dy n=0
 ·have cC:=iM.1 hc;have cK:=sa n hc;have pS:=Nh a b;have ot:=xi n.links (l6 a b) (by have:=cC.n12;omega);unfold db at ot;cases hf:n.links.findIdx? (fun l=>decide (l6 a b=l))with
  |none=>
   rw[hf]at ot;have hr:R=(Net.zero,5):=by rw[hR.out];unfold o9;rw[if_neg (by simpa using hc),hf]
   rw[hr];clear hr hR hf hc cC;generalize l6 a b=LK at*;refine pj func104 ntmps104 results104 ?_;have z1z:=Ln.mk (ls:=[]) (cK);refine ay ?_<;>intros;all_goals exact dg
  |some i=>
   rw[hf]at ot;have hi:i < n.links.length:=(XV.1 hf).1;have p3:decide ((i:Int) < 0)=false:=by simp
   have hd:=DX (enc:=cT) n.links i (i+1) 1 hi rfl;have dW:IntKind.i64.wrap ((i:Int)+1)=((i+1:Nat):Int):=by rw[IntKind.wrap_i64];have:=cC.n12;omega
   have hr:R=({n with links:=n.links.eraseIdx i},0):=by rw[hR.out];unfold o9;rw[if_neg (by simpa using hc),hf]
   rw[hr];clear hr hR hf hc cC;generalize l6 a b=LK at*;refine pj func104 ntmps104 results104 ?_;have z1z:=Ln.mk (ls:=[]) (cK);have z2z:=Ln.mk (ls:=[3]) (hd);exact bo;all_goals exact dg
 ·have cK:=pK n hc;have h1:(dy n !=0)=true:=by simpa using hc
  have hr:R=(Net.zero,dy n):=by rw[hR.out];unfold o9;rw[if_pos hc]
  rw[hr];replace hr:=Xk hr;refine pj func104 ntmps104 results104 ?_;have z1z:=Ln.mk (ls:=[]) (cK);refine ay ?_<;>intros;all_goals exact dg
section
open Go.Proofs Go.Shelf
theorem Tv (x y:SRow M9 3)(W:World):Calls prog 175 #[.agg x.xs.toArray,.agg y.xs.toArray] W fun e w'=>e= .returned (.int .i64 (E6 x y))∧∃q os',w'=Sort.grow (W.drewN q) os':=by
 obtain⟨xs,xl,x1,a,xh⟩:=x;obtain⟨ys,yl,y1,b,yh⟩:=y;match xs,xl,ys,yl with
 |[u0,u1,u2],_,[v0,v1,v2],_=>
  simp[M9]at xh yh;subst xh;subst yh;have hc:=gQ a b;unfold E6;simp only;generalize d7 a b=r at*;replace hc:=Xk hc;clear x1 y1;go_enter func175,ntmps175
  go_wp2_with fail
  refine(hc.out _).mono ?_;rintro e w1 ⟨rfl,rfl⟩;go_wp2_with fail
  go_ret
  exact⟨bM rfl,0,_,by rw[Sort.alloc_eq_grow,Sort.alloc_eq_grow,Sort.grow_grow];rfl⟩
theorem Ni {l l':List Vpc}(g:Nat)(p5:l≠[])(hp:l'.Perm l)(hs:l'.Pairwise fun x y=>(fun v:Vpc=>v.id) x < (fun v:Vpc=>v.id) y)(cM:l.length≤1000000):
 MSpec prog 174 [.own 0 g,.d (.clo 175 [])] [.row 88 3 g (ab (l.map aD))] (.d (.tup [])) [.row 88 3 g (ab (l'.map aD))]:=
 vv sortVpc rfl (bU func174 (by kernel_rfl) rfl) isAgg88 sizeOf88 (enters_of func175 (by kernel_rfl) rfl) Tv aD (fun v:Vpc=>v.id) (fun _=>rfl) p5 hp hs cM
end
structure GwB where
 n:Nat
 os:Array Obj
def EG (w w':World):Prop:=∃p:GwB,w'=Sort.grow (w.drewN p.n) p.os
theorem EG.refl (w:World):EG w w:=⟨⟨0,#[]⟩,by rw[Sort.grow_empty];rfl⟩
theorem EG.trans {w w' w'':World}(h:EG w w')(g:EG w' w''):EG w w'':=by
 obtain⟨⟨n,os⟩,rfl⟩:=h;obtain⟨⟨m,os'⟩,rfl⟩:=g;exact⟨⟨n+m,os++os'⟩,by show Sort.grow (Sort.grow ((w.drewN n).drewN m) os) os'=_;rw[Sort.grow_grow,World.drewN_drewN]⟩
theorem EG.drew (w:World):EG w w.drew:=⟨⟨1,#[]⟩,by rw[Sort.grow_empty];rfl⟩
theorem EG.alloc (w:World)(o:Obj):EG w (w.alloc o):=⟨⟨0,#[o]⟩,Sort.alloc_eq_grow w o⟩
theorem EG.ext {w w':World}(h:EG w w'):cW w w':=by
 obtain⟨⟨n,os⟩,rfl⟩:=h;exact⟨rfl,rfl,rfl,by simp[Sort.grow],fun k hk=>by simp[Sort.grow,Array.getElem?_append,hk]⟩
def Nj (W:World)(R:Value→Prop)(e:Ending)(w':World):Prop:=(∃u,e= .returned u∧R u)∧EG W w'
def QD (P:Program)(W w:World)(R:Value→Prop):Result Next→Prop
 | .ok (.value u) w'=>w'=w∧R u
 | .ok .skip w'=>w'=w∧R undef
 | .ok (.enter f args) w'=>w'=w∧Calls P f args w (Nj W R)
 |_=>False
attribute [go_sem] QD
section
variable {P:Program}{W:World}
theorem F9 {w:World}{v:Value}{r:Result Next}(h:∀R:Value→Prop,R v→QD P W w R r):Oper.quietUpon P (EG W) w v r:=by
 have h1:=h (·=v) rfl;unfold QD at h1;unfold Oper.quietUpon;split at h1
 ·exact h1
 ·exact⟨h1.1,h1.2.symm⟩
 ·refine⟨h1.1,h1.2.mono ?_⟩;rintro e w' ⟨⟨u,rfl,rfl⟩,hw⟩;exact⟨rfl,hw⟩
 ·exact h1.elim
end
section
variable {P:Program}{ops:Array Oper}{Q:Exit→Act→World→Prop}
def O8 (P:Program)(ops:Array Oper)(Q:Exit→Act→World→Prop):Nat→Array Bool→Act→World→Prop
 |0,listed,a,W=>Region.ready .any ops listed=[]∧∀w,EG W w→Q .normal a w
 |fuel+1,listed,a,W=>∀w,EG W w→(Region.ready .any ops listed=[]→Q .normal a w)∧
  ∀i∈Region.ready .any ops listed,wpOp P ops Q i (fun a' w'=>EG w w'∧O8 P ops Q fuel (listed.setIfInBounds i true) a' w') a w
theorem O8.world:∀{fuel:Nat}{listed:Array Bool}{a:Act}{W W':World},EG W W'→O8 P ops Q fuel listed a W→O8 P ops Q fuel listed a W'
 |0,_,_,_,_,hx,h=>⟨h.1,fun w hw=>h.2 w (EG.trans hx hw)⟩
 |_+1,_,_,_,_,hx,h=>fun w hw=>h w (EG.trans hx hw)
theorem O8.any:∀{fuel:Nat}{listed:Array Bool}{a:Act}{W:World},O8 P ops Q fuel listed a W→wpAny P .any ops Q fuel listed a W
 |0,_,_,_,h=>⟨h.1,h.2 _ (EG.refl _)⟩
 |_+1,_,_,W,h=>⟨(h W (EG.refl _)).1,fun i hi=>wpOp_mono (fun _ _ h'=>O8.any h'.2) ((h W (EG.refl _)).2 i hi)⟩
def E7 (P:Program)(ops:Array Oper)(W:World)(o:Oper)(v:Value)(a:Act):Prop:=
 (Region.wanted o (yielded ops a.tmps)=true∧∀w,EG W w→o.quietAt P a (EG w) w v)∨
 (Region.wanted o (yielded ops a.tmps)=false∧v=undef)
theorem E7.world {W W':World}{o:Oper}{v:Value}{a:Act}(hx:EG W W')(h:E7 P ops W o v a):E7 P ops W' o v a:=
 h.imp (fun⟨h1,h2⟩=>⟨h1,fun w hw=>h2 w (EG.trans hx hw)⟩) id
theorem E7.of_same {W:World}{o:Oper}{v:Value}{a a':Act}(hy:E7 P ops W o v a)(he:execOp a'.eval o=execOp a.eval o)
 (hw:Region.wanted o (yielded ops a'.tmps)=Region.wanted o (yielded ops a.tmps)):E7 P ops W o v a':=by
 unfold E7 Oper.quietAt at*;rw[he,hw];exact hy
theorem E7.wpOp {W:World}{i:Nat}{o:Oper}{v:Value}{a:Act}(hi:ops[i]? =some o)(hy:E7 P ops W o v a){K:Act→World→Prop}{w:World}(hw:EG W w)(h:∀w',EG w w'→K (a.put o.dst v) w'):wpOp P ops Q i K a w:=by
 unfold Go.wpOp;simp only[hi];rcases hy with⟨B7,hv⟩|⟨B7,rfl⟩
 ·simp only[B7,if_true];left;exact Oper.wp_of_quiet (C:=EG w) (K:=fun a'=>a'=a.put o.dst v) (EG.refl _) (fun a' w' hw' ha=>ha ▸ h w' hw') ⟨v,fun w'' hw''=>by
   have:=hv w'' (EG.trans hw hw'');unfold Oper.quietAt at*;generalize (execOp a.eval o).run P w''=r at*;cases r with
   |ok n u=>cases n<;>simp only[Oper.quietUpon]at this ⊢<;>first|exact this|exact⟨this.1,this.2.mono fun _ _ ⟨e1,e2⟩=>⟨e1,EG.trans hw'' e2⟩⟩
   |halt x u=>simp only[Oper.quietUpon]at this,rfl⟩
 ·simp only[B7,YY,if_false];exact h w (EG.refl _)
theorem Ga {W:World}{j:Nat}{oi oj:Oper}{v:Value}(hj:ops[j]? =some oj)(Wa:oi.apart ops oj=true)
 (Km:∀cs b,oi.op≠ .select cs b) (Sx:∀cs b,oj.op≠ .select cs b)
 (hQ:∀c a w,Q (.panic c) (a.put oi.dst v) w→Q (.panic c) a w) {K:Act→World→Prop}{a:Act}{w:World}
 (hy:E7 P ops W oi v a) (h:wpOp P ops Q j K (a.put oi.dst v) w):
 wpOp P ops Q j (fun a' w'=>E7 P ops W oi v a'∧K (a'.put oi.dst v) w') a w:=by
 obtain⟨h1,h2,h3⟩:=Oper.apart_spec Wa;have keep:∀(a:Act),E7 P ops W oi v a→∀u,E7 P ops W oi v (a.put oj.dst u):=fun a hy u=>
  hy.of_same (execOp_put oi Km a oj.dst u h3) (wanted_put oi a oj.dst u h3)
 have keepD:∀d,E7 P ops W oi v {a with defers:=d::a.defers}:=fun d=>hy.of_same rfl rfl;unfold wpOp at*;simp only[hj]at*;rw[wanted_put oj a oi.dst v h1]at h;split
 ·rename_i hw;simp only[hw,if_true]at h;rcases h with h|⟨uH,EW⟩
  case inr=>exact .inr ⟨by unfold Oper.asks at*;rw[execOp_put oj Sx a oi.dst v h1]at uH;exact uH,EW⟩
  refine .inl ?_;unfold Oper.wp at*;rw[execOp_put oj Sx a oi.dst v h1]at h;generalize (execOp a.eval oj).run P w=r at*;cases r with
  |ok n w'=>
   cases n<;>simp only[Oper.upon]at h ⊢
   case value u=>exact⟨keep a hy u,by rw[←Act.put_comm a v u h2];exact h⟩
   case skip=>exact⟨keep a hy _,by rw[←Act.put_comm a v undef h2];exact h⟩
   case defer d=>
    refine⟨keep _ (keepD d) _,?_⟩;rw[←Act.put_comm _ v undef h2,←Act.put_defers];exact h
   case enter f args=>
    refine Calls.mono h fun e w'' he=>?_;cases e with
    |returned u=>exact⟨keep a hy u,by rw[←Act.put_comm a v u h2];exact he⟩
    |panicked c=>exact hQ _ _ _ he
    |outgrown=>exact he
   case row row args=>exact Rows.mono h fun u w'' he=>⟨keep a hy u,by rw[←Act.put_comm a v u h2];exact he⟩
  |halt x w'=>
   cases x<;>simp only[Oper.upon]at h ⊢
   case panic u=>exact hQ _ _ _ h
 ·rename_i hw;simp only[hw]at h;exact⟨keep a hy _,by rw[←Act.put_comm a v undef h2];exact h⟩
theorem JF {i:Nat}{oi:Oper}{v:Value}(hi:ops[i]? =some oi)(EY:∀(j:Nat) (o:Oper) cs b,ops[j]? =some o→o.op≠ .select cs b)
 (hQ:∀c a w,Q (.panic c) (a.put oi.dst v) w→Q (.panic c) a w):
 ∀(fuel:Nat) (listed:Array Bool) (a:Act) (W:World),
  (∀j oj,ops[j]? =some oj→j≠i→listed.getD j true=false→(∀e∈oj.after,Region.binds .any e=true→e.on≠i)→oi.apart ops oj=true)→
  i∈Region.ready .any ops listed→E7 P ops W oi v a→
  O8 P ops Q fuel (listed.setIfInBounds i true) (a.put oi.dst v) W→O8 P ops Q (fuel+1) listed a W:=by
 intro fuel;induction fuel with
 |zero=>
  intro listed a W _ hr hy H w hw;refine⟨fun h=>(by rw[h]at hr;cases hr),fun j hj=>?_⟩;by_cases lx:j=i
  ·subst lx;exact hy.wpOp hi hw fun w' hw'=>⟨hw',H.world (EG.trans hw hw')⟩
  ·have:=ready_mono hj lx;rw[H.1]at this;cases this
 |succ fuel ih=>
  intro listed a W uI hr hy H w hw;refine⟨fun h=>(by rw[h]at hr;cases hr),fun j hj=>?_⟩;by_cases lx:j=i
  ·subst lx;exact hy.wpOp hi hw fun w' hw'=>⟨hw',H.world (EG.trans hw hw')⟩
  ·have h1:=(H w hw).2 j (ready_mono hj lx);obtain⟨EZ,oj,OD,bK⟩:=mem_ready.1 hj;have OE:∀e∈oj.after,Region.binds .any e=true→e.on≠i:=fun e he hb heq=>by
    have h1:=bK e he hb;have h0:=(mem_ready.1 hr).1;rw[heq]at h1;rcases XO i listed.size with h'|h'
    ·simp[h']at h0 h1;rw[h0]at h1;cases h1
    ·simp[Yj h']at h1
   have h2:=Ga OD (uI j oj OD lx EZ OE) (fun cs b=>EY i oi cs b hi) (fun cs b=>EY j oj cs b OD) hQ (hy.world hw) h1;have xY:∀k ok,ops[k]? =some ok→k≠i→(listed.setIfInBounds j true).getD k true=false→
    (∀e∈ok.after,Region.binds .any e=true→e.on≠i)→oi.apart ops ok=true:=fun k ok hk OF Sy cB=>by
    refine uI k ok hk OF ?_ cB;by_cases BT:j=k
    ·subst BT;exact EZ
    ·rw[getD_set_ne true BT]at Sy;exact Sy
   refine wpOp_mono (fun a' w' h3=>⟨h3.2.1,ih (listed.setIfInBounds j true) a' w' xY (ready_mono hr (Ne.symm lx)) (h3.1.world h3.2.1) ?_⟩) h2;rw[Array.setIfInBounds_comm _ _ lx];exact h3.2.2
def nF (P:Program)(ops:Array Oper)(Q:Exit→Act→World→Prop):List Oper→Nat→Array Bool→Act→World→Prop
 |[],_,_,a,W=>∀w,EG W w→Q .normal a w
 |o::rest,k,listed,a,W=>
  (∃v,E7 P ops W o v a∧nF P ops Q rest (k+1) (listed.setIfInBounds k true) (a.put o.dst v) W)∨
  (Region.ready .any ops listed=[k]∧Region.wanted o (yielded ops a.tmps)=true∧∀w,EG W w→o.wp P a w (fun a' w'=>EG w w'∧nF P ops Q rest (k+1) (listed.setIfInBounds k true) a' w') Q)
theorem qW (hs:Region.noSelect ops=true)(hQ:∀c a d v w,Q (.panic c) (a.put d v) w→Q (.panic c) a w):∀(l:List Oper) (k:Nat) (listed:Array Bool) (a:Act) (W:World),(∀j,l[j]? =ops[k+j]?)→
 Region.lexFrom .any ops l.length k listed=true→nF P ops Q l k listed a W→O8 P ops Q l.length listed a W
 |[],_,_,_,_,_,hB,h=>⟨by simpa[Region.lexFrom]using hB,h⟩
 |o::l,k,listed,a,W,hl,hB,h=>by
  have h0:ops[k]? =some o:=by simpa using (hl 0).symm
  simp only[XD,Region.lexFrom,Xy]at hB;obtain⟨⟨hr,hf⟩,hB'⟩:=hB;have hl':∀j,l[j]? =ops[k+1+j]? :=fun j=>by have:=hl (j+1);simpa[Zd,Nat.add_comm 1 j]using this
  rcases h with⟨v,hy,hK⟩|⟨di,B7,hK⟩
  ·exact JF h0 (Region.noSelect_spec hs) (fun c a w=>hQ c a _ _ w) l.length listed a W (Region.free_spec h0 hf) (by simpa using hr) hy (qW hs hQ l (k+1) _ _ _ hl' hB' hK)
  ·intro w hw;refine⟨fun h=>by rw[di]at h;simp at h,fun i hi=>?_⟩;rw[di]at hi;obtain rfl:i=k:=by simpa using hi
   unfold wpOp;simp only[h0,B7,if_true];left;exact Oper.wp_mono (fun a' w' h'=>⟨h'.1,qW hs hQ l (i+1) _ _ _ hl' hB' h'.2⟩) (hK w hw)
theorem DZ {id:Nat}{a:Act}{w:World}{l:List Oper}(hm:P.follows .mixedOrders=true)(hB:Region.lexB .any l.toArray=true)(hQ:∀c a d v w,Q (.panic c) (a.put d v) w→Q (.panic c) a w)
 (h:nF P l.toArray Q l 0 (Y9 l.length false) a w):(Code.region id l.toArray true).wp P Q a w:=by
 simp only[Region.lexB,Xy]at hB;refine wp_region_any hm ?_;have h2:=qW hB.1 hQ l 0 (Y9 l.length false) a w (by simp) (by simpa using hB.2) h;have h3:=(h2.world (EG.drew w:EG w w.drew)).any;simpa using h3
section
variable {o:Oper}{rest:List Oper}{k:Nat}{listed:Array Bool}{a:Act}{W:World}
theorem Nl (h:∀w,EG W w→Q .normal a w):nF P ops Q [] k listed a W:=h
theorem Ag {v:Value}(hw:Region.wanted o (yielded ops a.tmps)=true)(h:∀w,EG W w→∀R:Value→Prop,R v→QD P w w R ((execOp a.eval o).run P w))
 (hn:nF P ops Q rest (k+1) (listed.setIfInBounds k true) (a.put o.dst v) W):nF P ops Q (o::rest) k listed a W:=
 .inl ⟨v,.inl ⟨hw,fun w hw=>F9 (h w hw)⟩,hn⟩
theorem xj (hr:Region.ready .any ops listed=[k])(hw:Region.wanted o (yielded ops a.tmps)=true)
 (h:∀w,EG W w→∀K:Act→World→Prop,(∀a' w',EG w w'→nF P ops Q rest (k+1) (listed.setIfInBounds k true) a' w'→K a' w')→o.wp P a w K Q):nF P ops Q (o::rest) k listed a W:=
 .inr ⟨hr,hw,fun w hw=>h w hw _ fun _ _ h1 h2=>⟨h1,h2⟩⟩
end
theorem uw {f:FuncId}{args:Array Value}{w:World}{R:Value→Prop}{v:Value}(h:Calls P f args w fun e w'=>e= .returned v∧w=w')(hR:R v):Calls P f args w (Nj w R):=
 h.mono fun _ _ ⟨he,hx⟩=>⟨⟨v,he,hR⟩,hx ▸ EG.refl _⟩
end
section
open Go.Proofs Go.Shelf
def l8 (l:Lnk):Int:=l.a*65537+l.b
def HP2 (xs:List Value)(k:Int):Prop:=∃a b:Int,xs=[.int .i64 a,.int .i64 b]∧k=a*65537+b∧1≤b∧b≤65536
@[reducible] def JG:Inhabited (SRow HP2 (1+1)):=⟨⟨[.int .i64 0,.int .i64 1],rfl,fun v hv=>by simp at hv;rcases hv with rfl|rfl<;>rfl,1,0,1,rfl,by omega,by omega,by omega⟩⟩
theorem D0 {a b c d:Int}(h1:1≤b)(h2:b≤65536)(h3:1≤d)(h4:d≤65536):DJ [d7 a c,d7 b d]=d7 (a*65537+b) (c*65537+d):=by
 simp only[DJ,d7];repeat' split
 all_goals omega
theorem QE (x y:Int)(b:Nat)(W:World)(hx:W.cell? ⟨b,0,none⟩=some (.int .i64 x))(hy:W.cell? ⟨b,1,none⟩=some (.int .i64 y)):
 Calls prog 216 #[.slice (some ⟨b,0,none⟩) 2 2] W fun e w'=>e= .returned (.int .i64 (DJ [x,y]))∧w'=W:=by
 have lb:=dn hx;go_enter func216,ntmps216
 go_wp2_with fail
 go_loopw [5,8] (fun _ s8 wr=>∃k:Nat,s8= .int .i64 k∧((k=0)∨(k=1∧x=0)∨(k=2∧x=0∧y=0))∧wr=W) (fun _ s8 _=>2 - (intOf s8).toNat)
 case atStart=>exact⟨0,rfl,.inl rfl,rfl⟩
 case round=>
  obtain⟨k,rfl,hk,rfl⟩:=hrel;rcases hk with rfl|⟨rfl,h0⟩|⟨rfl,h0,h1⟩
  ·by_cases h0:x=0
   ·have hb:(x !=0)=false:=by simp[h0]
    replace h0:=Xk h0;go_wp2_with fail
    go_roundw
    case rel=>exact⟨1,by go_num,.inr (.inl ⟨rfl,h0.out⟩),trivial⟩
    case measure=>simp[intOf]
   ·have hb:(x !=0)=true:=by simpa using h0
    replace h0:=Xk h0;go_wp2_with fail
    go_ret
    exact⟨bM (by simp[DJ,h0.out]),rfl⟩
  ·by_cases h1:y=0
   ·have hb:(y !=0)=false:=by simp[h1]
    replace h0:=Xk h0;replace h1:=Xk h1;go_wp2_with fail
    go_roundw
    case rel=>exact⟨2,by go_num,.inr (.inr ⟨rfl,h0.out,h1.out⟩),trivial⟩
    case measure=>simp[intOf]
   ·have hb:(y !=0)=true:=by simpa using h1
    replace h0:=Xk h0;replace h1:=Xk h1;go_wp2_with fail
    go_ret
    exact⟨bM (by simp[DJ,h0.out,h1.out]),rfl⟩
  ·replace h0:=Xk h0;replace h1:=Xk h1;go_wp2_with fail
   go_ret
   exact⟨bM (by simp[DJ,h0.out,h1.out]),rfl⟩
theorem QF (x y:SRow HP2 (1+1))(W:World):Calls prog 127 #[.agg x.xs.toArray,.agg y.xs.toArray] W fun e w'=>e= .returned (.int .i64 (E6 x y))∧∃q os',w'=Sort.grow (W.drewN q) os':=by
 obtain⟨xs,xl,x1,kx,a,b,rfl,rfl,pT,nQ⟩:=x;obtain⟨ys,yl,y1,ky,c,d,rfl,rfl,ES,B6⟩:=y;unfold E6;simp only;rw[←D0 pT nQ ES B6];have h1:∀W,Calls prog 176 #[.int .i64 a,.int .i64 c] W fun e w'=>e= .returned (.int .i64 (d7 a c))∧W=w':=fun W=>(gQ a c W).mono fun _ _ ⟨e1,e2⟩=>⟨e1,e2.symm⟩;have h2:∀W,Calls prog 176 #[.int .i64 b,.int .i64 d] W fun e w'=>e= .returned (.int .i64 (d7 b d))∧W=w':=fun W=>(gQ b d W).mono fun _ _ ⟨e1,e2⟩=>⟨e1,e2.symm⟩;generalize d7 a c=A at*;generalize d7 b d=B at*;clear x1 y1 xl yl pT nQ ES B6;have key:Calls prog 127 #[.agg #[.int .i64 a,.int .i64 b],.agg #[.int .i64 c,.int .i64 d]] W fun e w'=>e= .returned (.int .i64 (DJ [A,B]))∧EG W w':=by
  have Uc:EG W ((W.alloc (.cells #[.int .i64 a,.int .i64 b] 91)).alloc (.cells #[.int .i64 c,.int .i64 d] 91)):=(EG.alloc W _).trans (EG.alloc _ _);go_enter func127,ntmps127
  go_wp2_with fail
  refine DZ (by kernel_rfl) (by kernel_rfl) (fun _ _ d _ _ h=>by cases d<;>exact h) ?_;repeat(apply Ag;(first|exact bp rfl|exact bE rfl rfl rfl (by with_reducible rfl));intro wq cE R hR;(have cE:=cE.ext;(have ee:=(aI cE).1;(try simp only[Xr,aa,Xu,Xs]at ee));go_simp;first|exact hR|(go_at_call 176;with_reducible (first|exact uw (h1 _) hR|exact uw (h2 _) hR)));simp only[Act.put,Xn,Xv,Xw])
  refine xj (by kernel_rfl) (bp rfl) (fun w3 pP K2 hK=>?_);go_simp
  refine hK _ _ (EG.alloc _ _) ?_;clear hK K2;refine xj (by kernel_rfl) (bp rfl) (fun w4 OJ K3 hK=>?_);have KI:w4.cell? ⟨w3.heap.size,0,none⟩=some (.int .i64 A):=cP OJ.ext (by simp);have RP:w4.cell? ⟨w3.heap.size,1,none⟩=some (.int .i64 B):=cP OJ.ext (by simp);go_simp
  go_at_call 216
  refine(QE A B _ w4 KI RP).mono ?_;rintro e w5 ⟨rfl,rfl⟩;go_simp
  refine hK _ _ (EG.refl _) ?_;clear hK K3;apply Ag
  ·exact bp rfl
  ·intro wq cE R hR;go_simp
   exact hR
  simp only[Act.put,Xn,Xv,Xw];refine Nl ?_;intro w6 hw6;go_wp2_with fail
  go_ret
  exact⟨bM rfl,Uc.trans (pP.trans ((EG.alloc _ _).trans (OJ.trans hw6)))⟩
 refine key.mono fun e w' ⟨he,⟨⟨q,os⟩,hw⟩⟩=>⟨he,q,os,hw⟩
theorem JH {l l':List Lnk}(g:Nat)(hb:∀x∈l,1≤x.b∧x.b≤65536)(p5:l≠[])(hp:l'.Perm l)(hs:l'.Pairwise fun x y=>l8 x < l8 y)(cM:l.length≤1000000):
 MSpec prog 179 [.own 0 g,.d (.clo 127 [])] [.row 91 2 g (ab (l.map cT))] (.d (.tup [])) [.row 91 2 g (ab (l'.map cT))]:=
 HH JG sortLink rfl (bU func179 (by kernel_rfl) rfl) isAgg91 sizeOf91 (enters_of func127 (by kernel_rfl) rfl) QF cT l8 (fun x hx vs hl hr=>by
  match vs,hl with
  |[u,v],_=>
   obtain⟨M,w,r0⟩:=hr 0 _ u rfl rfl;obtain⟨M2,w2,r1⟩:=hr 1 _ v rfl rfl;cases r0;cases r1;exact⟨x.a,x.b,rfl,rfl,hb x hx⟩) p5 hp hs cM
end
def j9 (n:Net)(id:Int):Int:=if cU id=false then 3 else if (eO n id).isSome=true then 6 else if n.vpcs.length=6 then 2 else 0
def nU (n:Net)(id:Int):Net × Int:=
 if dy n≠0 then (Net.zero,dy n)else if j9 n id≠0 then (Net.zero,j9 n id)else ({n with vpcs:=fw (·.id) ⟨id,[],[]⟩ n.vpcs},0)
theorem Gb {n:Net}{id:Int}(h:eO n id=none):∀v∈n.vpcs,v.id≠id:=fun v hv=>by
 have:=YF.1 h v hv;simpa using this
theorem QG (n:Net)(id:Int):ae prog 102 [.agg (eI n),.v (.int .i64 id)] (.tup [.agg (eI (nU n id).1),.v (.int .i64 (nU n id).2)]):=by
 obtain⟨R,hR⟩:∃R,R=nU n id:=⟨_,rfl⟩;rw[←hR];replace hR:=Xk hR;by_cases hc:dy n=0
 ·have cC:=iM.1 hc;have cK:=sa n hc;have hl6:((n.vpcs.length:Int)==6)=decide (n.vpcs.length=6):=by rw[Yl];simp;omega
  cases hx:fM n id with
  |some i=>
   obtain⟨v,hv,he,hi,GS⟩:=gE hx;have gB:=sd n id n.vpcs.length 1 i v hv he cC.n6 cC.rise;have hr:R=(Net.zero,if cU id=false then 3 else 6):=by
    rw[hR.out];unfold nU j9;rw[if_neg (by simpa using hc),GS];cases cU id<;>simp
   rw[hr];have hid:cU id=(decide (1≤id)&&decide (id≤65536)):=rfl;rw[hid];clear hr hR cC hx hc GS hv he hid;refine pj func102 ntmps102 results102 ?_;have z1z:=Ln.mk (ls:=[]) (cK);have z2z:=Ln.mk (ls:=[4,5,3]) (gB);refine Ku ?_ ?_ ?_<;>intros;all_goals first
    |(exfalso;grind)
    |(rw[if_pos (by grind)];exact dg)
    |(rw[if_neg (by grind)];exact dg)
  |none=>
   have gB:=o8 n id n.vpcs.length 1 (eW hx) cC.n6 cC.rise;have hn:=eW hx;by_cases bP:j9 n id≠0
   ·have hr:R=(Net.zero,j9 n id):=by rw[hR.out];unfold nU;rw[if_neg (by simpa using hc),if_pos bP]
    have yk:j9 n id=if cU id=false then 3 else if n.vpcs.length=6 then 2 else 0:=by unfold j9;rw[hn];rfl
    rw[hr];have hid:cU id=(decide (1≤id)&&decide (id≤65536)):=rfl;rw[yk]at bP ⊢;rw[hid]at bP ⊢;clear hr hR cC hx hc hid hn yk;replace bP:=Xk bP;refine pj func102 ntmps102 results102 ?_;have z1z:=Ln.mk (ls:=[]) (cK);have z2z:=Lm.mk (Ln.mk (ls:=[4,5,3]) (gB));refine rY ?_ ?_ ?_ ?_ ?_ ?_ ?_ ?_<;>first|(with_reducible exact True.intro)|intros
    all_goals have nQ:=bP.out
    all_goals clear bP gB cK
    all_goals first
     |(exfalso;grind)
     |(rw[if_pos (by grind)];exact dg)
     |(rw[if_neg (by grind),if_pos (by grind)];exact dg)
   ·have hr:R=({n with vpcs:=fw (·.id) ⟨id,[],[]⟩ n.vpcs},0):=by rw[hR.out];unfold nU;rw[if_neg (by simpa using hc),if_neg bP]
    have hg:j9 n id=0:=by simpa using bP
    obtain⟨g1,g2⟩:cU id=true∧n.vpcs.length≠6:=by unfold j9 at hg;rw[hn]at hg;grind
    have g3:1≤id∧id≤65536:=by simpa[cU]using g1
    have h6:=cC.n6;have oq:=Ni (l:=n.vpcs++[⟨id,[],[]⟩]) (l':=fw (·.id) ⟨id,[],[]⟩ n.vpcs) (n.vpcs.length+1) (by simp) (fR _ _ _) (fJ cC.rise fun v hv=>Gb hn v hv) (by simp;omega);have U0:((n.vpcs.length:Int)==6)=false:=by simp;omega
    have pT:n.vpcs.length+1≤100:=by omega
    have jV:decide (id < 1)=false:=by simp;omega
    have lX:decide (id>65536)=false:=by simp;omega
    simp only[Xz,Xm,Xx]at oq;have oq:=oq.leh (Ds (A:=n.vpcs.map aD) (B:=[]) (r:=[.v (.int .i64 id),.v (.slice none 0 0),.v (.slice none 0 0)]) dg) (by have:=qK (enc:=aD) (fun _=>rfl) (n.vpcs++[⟨id,[],[]⟩]);simpa using this) (aq _ _);rw[hr];clear hr hR cC hx hc hn bP hg g1 g2 g3 hl6;refine pj func102 ntmps102 results102 ?_;have z1z:=Ln.mk (ls:=[]) (cK);have z2z:=Ln.mk (ls:=[4,5,3]) (gB);have z3z:=Ln.mk (ls:=[5]) (oq);exact bo;all_goals exact dg
 ·have cK:=pK n hc;have UA:=Ng id;have h1:(dy n !=0)=true:=by simpa using hc
  have hr:R=(Net.zero,dy n):=by rw[hR.out];unfold nU;rw[if_pos hc]
  rw[hr];replace hr:=Xk hr;refine pj func102 ntmps102 results102 ?_;have z1z:=Ln.mk (ls:=[]) (cK);refine ay ?_<;>intros;all_goals exact dg
def iA (n:Net)(a b:Int):Int:=
 if a=b then 3 else if eO n a=none∨eO n b=none then 5 else if l6 a b∈n.links then 6 else
 if eK {n with links:=fw l8 (l6 a b) n.links}=false then 9 else if n.links.length+1>12 then 2 else 0
def qj (n:Net)(a b:Int):Net × Int:=
 if dy n≠0 then (Net.zero,dy n)else if iA n a b≠0 then (Net.zero,iA n a b)else ({n with links:=fw l8 (l6 a b) n.links},0)
theorem NetOK.bd {n:Net}(h:NetOK n){x:Int}(hx:x∈n.vpcs.map (·.id)):1≤x∧x≤65536:=by
 obtain⟨v,hv,rfl⟩:=XH.1 hx;have:=(bc (h.vp v hv)).id;simpa[cU]using this
theorem Nm {l m:Lnk}(h1:1≤l.b∧l.b≤65536)(h2:1≤m.b∧m.b≤65536):rW l m=d7 (l8 l) (l8 m):=D0 h1.1 h1.2 h2.1 h2.2
theorem NetOK.lsort {n:Net}(h:NetOK n):n.links.Pairwise fun a b=>l8 a < l8 b:=by
 have hb:∀l∈n.links,1≤l.b∧l.b≤65536:=fun l hl=>h.bd (h.ids l hl).2;have:=(Bd n.links).1 h.rk;have step:∀j (hj:j+1 < n.links.length),l8 n.links[j] < l8 n.links[j+1]:=fun j hj=>by
  have h1:=this j hj;rw[Nm (hb _ (Ym _)) (hb _ (Ym _))]at h1;unfold d7 at h1;split at h1
  ·assumption
  ·split at h1<;>omega
 rw[XM];intro i j hi hj hij;obtain⟨d,rfl⟩:∃d,j=i+1+d:=⟨j - i - 1,by omega⟩;induction d with
 |zero=>exact step i hj
 |succ d ih=>
  have h1:=ih (by omega) (by omega);have h2:=step (i+1+d) (by omega);exact Int.lt_trans h1 h2
theorem JI (a b:Int):(l6 a b=⟨a,b⟩∧a≤b)∨(l6 a b=⟨b,a⟩∧b≤a):=by
 unfold l6;rcases Int.lt_trichotomy a b with h|h|h
 ·left;rw[if_neg (by omega),if_pos h];exact⟨rfl,by omega⟩
 ·subst h;left;simp
 ·right;rw[if_pos h,if_neg (by omega)];exact⟨rfl,by omega⟩
theorem No {l m:Lnk}(h1:1≤l.b∧l.b≤65536)(h2:1≤m.b∧m.b≤65536)(h:l8 l=l8 m):l=m:=by
 unfold l8 at h;cases l;cases m;simp only at*;simp only[Lnk.mk.injEq];omega
theorem QH (n:Net)(a b:Int):ae prog 103 [.agg (eI n),.v (.int .i64 a),.v (.int .i64 b)] (.tup [.agg (eI (qj n a b).1),.v (.int .i64 (qj n a b).2)]):=by
 obtain⟨R,hR⟩:∃R,R=qj n a b:=⟨_,rfl⟩;rw[←hR];replace hR:=Xk hR;by_cases hc:dy n=0
 ·have cC:=iM.1 hc;have cK:=sa n hc;have pS:=Nh a b;have BX:R=if iA n a b≠0 then (Net.zero,iA n a b)else ({n with links:=fw l8 (l6 a b) n.links},0):=by rw[hR.out];unfold qj;rw[if_neg (by simpa using hc)]
  cases RY:fM n a with
  |none=>
   have sL:=o8 n a n.vpcs.length 1 (eW RY) cC.n6 cC.rise;have hr:R=(Net.zero,if a=b then 3 else 5):=by
    rw[BX,show iA n a b=if a=b then 3 else 5 by unfold iA;rw[eW RY];simp];split<;>simp
   have kh:(a==b)=decide (a=b):=rfl;rw[hr];cases x7:fM n b with
   |none=>
    have oe:=o8 n b n.vpcs.length 1 (eW x7) cC.n6 cC.rise;clear hr hR BX cC RY x7 hc;refine pj func103 ntmps103 results103 ?_;have z1z:=Ln.mk (ls:=[]) (cK);have z2z:=Lm.mk (Ln.mk (ls:=[4,5,3]) (sL));have z3z:=Lo.mk (Ln.mk (ls:=[4,5,3]) (oe));refine rY ?_ ?_ ?_ ?_ ?_ ?_ ?_ ?_<;>first|(with_reducible exact True.intro)|intros
    all_goals first
     |(exfalso;grind)
     |(rw[if_pos (by grind)];exact dg)
     |(rw[if_neg (by grind)];exact dg)
   |some j=>
    obtain⟨v,hv,he,hi,GS⟩:=gE x7;have oe:=sd n b n.vpcs.length 1 j v hv he cC.n6 cC.rise;clear hr hR BX cC RY x7 hc hv he GS hi;refine pj func103 ntmps103 results103 ?_;have z1z:=Ln.mk (ls:=[]) (cK);have z2z:=Lm.mk (Ln.mk (ls:=[4,5,3]) (sL));have z3z:=Lo.mk (Ln.mk (ls:=[4,5,3]) (oe));refine rY ?_ ?_ ?_ ?_ ?_ ?_ ?_ ?_<;>first|(with_reducible exact True.intro)|intros
    all_goals first
     |(exfalso;grind)
     |(rw[if_pos (by grind)];exact dg)
     |(rw[if_neg (by grind)];exact dg)
  |some i=>
   obtain⟨u,hu,WL,WM,Ks⟩:=gE RY;have sL:=sd n a n.vpcs.length 1 i u hu WL cC.n6 cC.rise;cases x7:fM n b with
   |none=>
    have oe:=o8 n b n.vpcs.length 1 (eW x7) cC.n6 cC.rise;have hr:R=(Net.zero,if a=b then 3 else 5):=by
     rw[BX,show iA n a b=if a=b then 3 else 5 by unfold iA;rw[eW x7];simp];split<;>simp
    rw[hr];clear hr hR BX cC RY x7 hc hu WL WM Ks;refine pj func103 ntmps103 results103 ?_;have z1z:=Ln.mk (ls:=[]) (cK);have z2z:=Lm.mk (Ln.mk (ls:=[4,5,3]) (sL));have z3z:=Lo.mk (Ln.mk (ls:=[4,5,3]) (oe));refine rY ?_ ?_ ?_ ?_ ?_ ?_ ?_ ?_<;>first|(with_reducible exact True.intro)|intros
    all_goals first
     |(exfalso;grind)
     |(rw[if_pos (by grind)];exact dg)
     |(rw[if_neg (by grind)];exact dg)
   |some j=>
    obtain⟨v,hv,heb,hib,OX⟩:=gE x7;have oe:=sd n b n.vpcs.length 1 j v hv heb cC.n6 cC.rise;by_cases kh:a=b
    ·have hr:R=(Net.zero,3):=by rw[BX,show iA n a b=3 by unfold iA;rw[if_pos kh]];rfl
     rw[hr];clear hr hR BX cC RY x7 hc hu WL WM Ks hv heb hib OX;have a0L:(a==b)=true:=by simpa using kh
     replace kh:=Xk kh;refine pj func103 ntmps103 results103 ?_;have z1z:=Ln.mk (ls:=[]) (cK);have z2z:=Lm.mk (Ln.mk (ls:=[4,5,3]) (sL));have z3z:=Lo.mk (Ln.mk (ls:=[4,5,3]) (oe));refine rY ?_ ?_ ?_ ?_ ?_ ?_ ?_ ?_<;>first|(with_reducible exact True.intro)|intros
     all_goals exact dg
    ·have a0L:(a==b)=false:=by simpa using kh
     have t5:=yI n.links (l6 a b) (by have:=cC.n12;omega);have pn:(n.links.any fun y=>decide (l6 a b=y))=decide (l6 a b∈n.links):=by
      rw[Yl,Yd];simp
     rw[pn]at t5;have cJ:R=if l6 a b∈n.links then (Net.zero,6)else if eK {n with links:=fw l8 (l6 a b) n.links}=false then (Net.zero,9)else if n.links.length+1>12 then (Net.zero,2)else ({n with links:=fw l8 (l6 a b) n.links},0):=by
      rw[BX];unfold iA;rw[if_neg kh,Ks,OX];simp only[reduceCtorEq,or_self,if_false];split
      ·rfl
      ·split
       ·rfl
       ·split<;>rfl
     by_cases fl:l6 a b∈n.links
     ·have hr:R=(Net.zero,6):=by rw[cJ,if_pos fl]
      rw[hr];rw[decide_eq_true fl]at t5;clear hr hR BX cJ cC RY x7 hc hu WL WM Ks hv heb hib OX pn fl;generalize l6 a b=LK at*;replace kh:=Xk kh;refine pj func103 ntmps103 results103 ?_;have z1z:=Ln.mk (ls:=[]) (cK);have z2z:=Lm.mk (Ln.mk (ls:=[4,5,3]) (sL));have z3z:=Lo.mk (Ln.mk (ls:=[4,5,3]) (oe));refine rY ?_ ?_ ?_ ?_ ?_ ?_ ?_ ?_<;>first|(with_reducible exact True.intro)|intros
      all_goals exact dg
     ·rw[if_neg fl]at cJ;rw[decide_eq_false fl]at t5;have Wm:a∈n.vpcs.map (·.id):=iq (by rw[Ks];rfl);have Wn:b∈n.vpcs.map (·.id):=iq (by rw[OX];rfl);have jR:∀l∈n.links,1≤l.b∧l.b≤65536:=fun l hl=>cC.bd (cC.ids l hl).2;have mc:(l6 a b).a∈n.vpcs.map (·.id)∧(l6 a b).b∈n.vpcs.map (·.id):=by
       rcases JI a b with⟨e,-⟩|⟨e,-⟩
       ·rw[e];exact⟨Wm,Wn⟩
       ·rw[e];exact⟨Wn,Wm⟩
      have UB:=cC.bd mc.2;have oq:=JH (l:=n.links++[l6 a b]) (l':=fw l8 (l6 a b) n.links) 2 (fun l hl=>by
       rcases X4.1 hl with hl|hl
       ·exact jR l hl
       ·rw[X7.1 hl];exact UB) (by simp) (fR _ _ _) (fJ cC.lsort fun y hy e=>fl (by rw[←No (jR y hy) UB e];exact hy)) (by have:=cC.n12;simp;omega)
      have OM:=Bc {n with links:=fw l8 (l6 a b) n.links} (by have:=cC.n6;simp;omega) (by have:=cC.n12;simp only[io];omega) (fun v hv=>by have:=(bc (cC.vp v hv)).n4;omega) (fun l hl=>by
       rcases mF.1 hl with rfl|hl
       ·exact mc
       ·exact cC.ids l hl)
      have Wp:=cC.n12;have pT:n.links.length+1≤100:=by omega
      have BM:(fw l8 (l6 a b) n.links).length=n.links.length+1:=io _ _ _;have WN:((n.links.length+1:Nat):Int)>12↔n.links.length+1>12:=by omega
      simp only[Xz,Xm,Xx]at oq;clear hR BX cC RY x7 hc hu WL WM Ks hv heb hib OX pn fl Wm Wn jR mc UB;generalize fw l8 (l6 a b) n.links=LS at*;generalize l6 a b=LK at*;replace kh:=Xk kh;cases hp:eK {n with links:=LS} with
      |false=>
       have hr:R=(Net.zero,9):=by rw[cJ,if_pos hp]
       rw[hp]at OM;rw[hr];clear hr cJ hp WN;refine pj func103 ntmps103 results103 ?_;have z1z:=Ln.mk (ls:=[]) (cK);have z2z:=Lm.mk (Ln.mk (ls:=[4,5,3]) (sL));have z3z:=Lo.mk (Ln.mk (ls:=[4,5,3]) (oe));have z4z:=Lo.mk (Ln.mk (ls:=[3]) (oq));refine rY ?_ ?_ ?_ ?_ ?_ ?_ ?_ ?_<;>first|(with_reducible exact True.intro)|intros
       all_goals exact dg
      |true=>
       rw[hp]at OM;by_cases BL:n.links.length+1>12
       ·have hr:R=(Net.zero,2):=by rw[cJ,if_neg (by simp[hp]),if_pos BL]
        have hbI:decide ((LS.length:Int)>12)=true:=by rw[BM];exact decide_eq_true (WN.2 BL)
        rw[hr];clear hr cJ hp WN BL;replace BM:=Xk BM;refine pj func103 ntmps103 results103 ?_;have z1z:=Ln.mk (ls:=[]) (cK);have z2z:=Lm.mk (Ln.mk (ls:=[4,5,3]) (sL));have z3z:=Lo.mk (Ln.mk (ls:=[4,5,3]) (oe));have z4z:=Lo.mk (Ln.mk (ls:=[3]) (oq));refine rY ?_ ?_ ?_ ?_ ?_ ?_ ?_ ?_<;>first|(with_reducible exact True.intro)|intros
        all_goals exact dg
       ·have hr:R=({n with links:=LS},0):=by rw[cJ,if_neg (by simp[hp]),if_neg BL]
        have hbI:decide ((LS.length:Int)>12)=false:=by rw[BM];exact decide_eq_false (fun h=>BL (WN.1 h))
        rw[hr];clear hr cJ hp WN BL;replace BM:=Xk BM;refine pj func103 ntmps103 results103 ?_;have z1z:=Ln.mk (ls:=[]) (cK);have z2z:=Lm.mk (Ln.mk (ls:=[4,5,3]) (sL));have z3z:=Lo.mk (Ln.mk (ls:=[4,5,3]) (oe));have z4z:=Lo.mk (Ln.mk (ls:=[3]) (oq));refine rY ?_ ?_ ?_ ?_ ?_ ?_ ?_ ?_<;>first|(with_reducible exact True.intro)|intros
        all_goals exact dg
 ·have cK:=pK n hc;have h1:(dy n !=0)=true:=by simpa using hc
  have hr:R=(Net.zero,dy n):=by rw[hR.out];unfold qj;rw[if_pos hc]
  rw[hr];replace hr:=Xk hr;refine pj func103 ntmps103 results103 ?_;have z1z:=Ln.mk (ls:=[]) (cK);refine ay ?_<;>intros;all_goals exact dg
def Ah (E:List (List Int × Int))(id:Int):Bool:=E.any fun kv=>kv.2==id
theorem Tw (b:Bok)(n:Net)(c:Cmd)(id:Int)(h8:b.pools.length≤1000000000)(iG:∀p∈b.pools,p.leases.length≤1000000000):
 MSpec prog 101 [.ptr 0 0,.d (.v (.int .i64 id))] [.box 128 (iN b (.own 1 n.vpcs.length) (.d (.sl 2 (n.links.map cT))) c .zero),.row 88 3 n.vpcs.length (ab (n.vpcs.map aD))] (.d (.v (.bool (Ah (vt b) id))))
  [.box 128 (iN b (.own 1 n.vpcs.length) (.d (.sl 2 (n.links.map cT))) c .zero),.row 88 3 n.vpcs.length (ab (n.vpcs.map aD))]:=by
 have hu:=Ln.mk (ls:=[]) (Hu b h8 iG);obtain⟨R,hR⟩:∃R,R=Ah (vt b) id:=⟨_,rfl⟩;rw[←hR];replace hR:=Xk hR;clear h8 iG;generalize vt b=E at*;refine im af al func101 rfl ntmps101 results101 (by kernel_rfl) (by simp) (by simp[ai,aj]) (by simp[az,aH,ai,aj,iN,aM,aq]) ?_;refine ay ?_;refine Sa (fun m e h=>∃(seen:List Nat),(∀i∈seen,∀kv,E[i]? =some kv→kv.2≠id)∧m=DM E.length seen∧e=[(13,.ptr 4 0),(1,.d (.v (.int .i64 id)))]∧h=[.box 128 (iN b (.own 1 n.vpcs.length) (.d (.sl 2 (n.links.map cT))) c .zero),.row 88 3 n.vpcs.length (ab (n.vpcs.map aD)),.gone,.gone,.it 3 true E seen]) _ _ _ ⟨[],by simp,rfl,rfl,rfl⟩ (wf (hbh:=by simp only[iN,az,dY,aH,ai,ct,aj,aM,aq,XD,X8,XU,ZY,decide_true,Yn,Yz])) ?_;rintro m e h ⟨seen,cB,hm,rfl,rfl⟩ C2 kz;replace cB:=Xk cB;refine Hk af al (by rfl) (Dl (k:=4) (x:= .tmp 13) af (by simp) rfl rfl rfl rfl rfl rfl (by decide) (by decide) rfl rfl (by simp) ?_ ?_)
 ·intro bK;have hr:R=false:=by
   rw[hR.out];unfold Ah;rw[YK];intro h;obtain⟨kv,H9,he⟩:=Yd.1 h;obtain⟨i,hi,Xg⟩:=X9 H9;exact cB.out i (bK i hi) kv (by rw[Xj hi,Xg]) (by simpa using he)
  rw[hr];clear bK hm hr;change sC _ _ _ _ _ _ _ _ _ _;refine ay ?_;exact wf
 ·intro i hi Sw;obtain⟨kv,H9⟩:∃kv,E[i]? =some kv:=⟨_,Xj hi⟩;have hgl:(seen++[i]).getLast? =some i:=by simp
  have sM:=Hv hi Sw;by_cases hid:kv.2=id
  ·have hr:R=true:=by
    rw[hR.out];unfold Ah;exact Yd.2 ⟨kv,Xl H9,by simpa using hid⟩
   rw[hr];have e1:(kv.2==id)=true:=by simpa using hid
   replace hid:=Xk hid;clear hm sM hr;change sC _ _ _ _ _ _ _ _ _ _;refine ay ?_;exact wf
  ·have e1:(kv.2==id)=false:=by simpa using hid
   have H4:∀j∈seen++[i],∀kw,E[j]? =some kw→kw.2≠id:=fun j hj kw hkw=>by
    rcases X4.1 hj with h|h
    ·exact cB.out j h kw hkw
    ·simp at h;subst h;rw[H9]at hkw;cases hkw;exact hid
   replace H4:=Xk H4;replace hid:=Xk hid;replace sM:=Xk sM;change sC _ _ _ _ _ _ _ _ _ _;refine ay ?_;exact kz _ _ _ _ _ (by rw[hm];exact sM.out) ⟨_,H4.out,rfl,rfl,rfl⟩ (wf (hbh:=by simp only[iN,az,dY,aH,ai,ct,aj,aM,aq,XD,X8,XU,ZY,decide_true,Yn,Yz]))
def D1 (c:Cmd):Bool:=decide (c.op=7∨c.op=15∨c.op=16)
def Bm (b:Bok)(n:Net)(c:Cmd):Net × Ans:=
 if c.op=7 then if Ah (vt b) c.a=true then (n,.er 6)else ((nU n c.a).1,.er (nU n c.a).2)
 else if c.op=15 then ((qj n c.a c.b).1,.er (qj n c.a c.b).2)
 else ((o9 n c.a c.b).1,.er (o9 n c.a c.b).2)
theorem Tx (b:Bok)(n:Net)(c:Cmd)(h:D1 c=false):
 MSpec prog 52 [.ptr 0 0] [.box 128 (iN b (.own 1 n.vpcs.length) (.d (.sl 2 (n.links.map cT))) c .zero),.row 88 3 n.vpcs.length (ab (n.vpcs.map aD))] (.d (.v (.bool false)))
  [.box 128 (iN b (.own 1 n.vpcs.length) (.d (.sl 2 (n.links.map cT))) c .zero),.row 88 3 n.vpcs.length (ab (n.vpcs.map aD))]:=by
 unfold D1 at h;have h:=of_decide_eq_false h;have e1:(c.op==7)=false:=by simp;omega
 have e2:(c.op==15)=false:=by simp;omega
 have e3:(c.op==16)=false:=by simp;omega
 clear h;refine im af al func52 rfl ntmps52 results52 (by kernel_rfl) (by simp) (by simp[ai,aj]) (by simp[az,aH,ai,aj,iN,aM,aq]) ?_;refine ay ?_;exact wf
theorem Ty (b:Bok)(n:Net)(c:Cmd)(h8:b.pools.length≤1000000000)(iG:∀p∈b.pools,p.leases.length≤1000000000)(h:D1 c=true):
 MSpec prog 52 [.ptr 0 0] [.box 128 (iN b (.own 1 n.vpcs.length) (.d (.sl 2 (n.links.map cT))) c .zero),.row 88 3 n.vpcs.length (ab (n.vpcs.map aD))] (.d (.v (.bool true)))
  [.box 128 (iN b (.d (.sl 3 ((Bm b n c).1.vpcs.map aD))) (.d (.sl 2 ((Bm b n c).1.links.map cT))) c (Bm b n c).2),.gone]:=by
 have l9:c.op=7∨c.op=15∨c.op=16:=of_decide_eq_true h;clear h;unfold Bm;rcases l9 with h1|h1|h1
 ·rw[if_pos h1];have ho:=Ln.mk (ls:=[0,1]) (Tw b n c c.a h8 iG);replace iG:=Xk iG;cases hb:Ah (vt b) c.a
  ·rw[hb]at ho;have hp:=Ln.mk (ls:=[1]) (tu (QG n c.a) (args:=[.agg [.own 0 n.vpcs.length,.d (.sl 2 (n.links.map cT))],.d (.v (.int .i64 c.a))]) (h0:=[.row 88 3 n.vpcs.length (ab (n.vpcs.map aD))]) (by simp[ai,aj]) (by simp[az,aH,aq]) (by simp[vw,cA,aS,aw,d6,eI]) (by simp[tc,iI,cO,aw,nf]));generalize nU n c.a=R at*;simp only[YY,if_false];simp only[iN,h1]at ho;replace hb:=Xk hb;refine im af al func52 rfl ntmps52 results52 (by kernel_rfl) (by simp) (by simp[ai,aj]) (by simp[az,aH,ai,aj,iN,aM,aq]) ?_;refine ay ?_;exact wf
  ·rw[hb]at ho;simp only[if_true];simp only[iN,h1]at ho;replace hb:=Xk hb;refine im af al func52 rfl ntmps52 results52 (by kernel_rfl) (by simp) (by simp[ai,aj]) (by simp[az,aH,ai,aj,iN,aM,aq]) ?_;refine ay ?_;refine(aA 1 n.vpcs.length 88 3 (n.vpcs.map aD) rfl).trans ?_;simp only[lG,fz,jE,iL,kG,iV,bg,cG,cS,Xm,Xx,XU,XW,reduceIte,and_true,true_and,and_self,and_false,false_and,XK,X0,reduceCtorEq];exact wf
 ·rw[if_neg (by omega),if_pos h1];have hp:=Ln.mk (ls:=[1]) (tu (QH n c.a c.b) (args:=[.agg [.own 0 n.vpcs.length,.d (.sl 2 (n.links.map cT))],.d (.v (.int .i64 c.a)),.d (.v (.int .i64 c.b))]) (h0:=[.row 88 3 n.vpcs.length (ab (n.vpcs.map aD))]) (by simp[ai,aj]) (by simp[az,aH,aq]) (by simp[vw,cA,aS,aw,d6,eI]) (by simp[tc,iI,cO,aw,nf]));generalize qj n c.a c.b=R at*;replace iG:=Xk iG;refine im af al func52 rfl ntmps52 results52 (by kernel_rfl) (by simp) (by simp[ai,aj]) (by simp[az,aH,ai,aj,iN,aM,aq]) ?_;refine ay ?_;exact wf
 ·rw[if_neg (by omega),if_neg (by omega)];have hp:=Ln.mk (ls:=[1]) (tu (QC n c.a c.b) (args:=[.agg [.own 0 n.vpcs.length,.d (.sl 2 (n.links.map cT))],.d (.v (.int .i64 c.a)),.d (.v (.int .i64 c.b))]) (h0:=[.row 88 3 n.vpcs.length (ab (n.vpcs.map aD))]) (by simp[ai,aj]) (by simp[az,aH,aq]) (by simp[vw,cA,aS,aw,d6,eI]) (by simp[tc,iI,cO,aw,nf]));generalize o9 n c.a c.b=R at*;replace iG:=Xk iG;refine im af al func52 rfl ntmps52 results52 (by kernel_rfl) (by simp) (by simp[ai,aj]) (by simp[az,aH,ai,aj,iN,aM,aq]) ?_;refine ay ?_;exact wf
theorem xk (v:Vpc)(pre post:List Sbn)(s0:Sbn)(hv:v.subs=pre++s0::post)(h:cn v=0)(h4:v.ranges.length≤4)(h6:v.subs.length≤6)(h8:∀s∈v.subs,s.faces.length≤8∧∀f∈s.faces,f.addrs.length≤4):
 MSpec prog 184 [.d (.agg (aD v))] [] (.tup [.ptr 2 0,.d (.v (.int .i64 0))]) [.gone,.row 100 3 1 (ab (v.ranges.map cq)),.box 88 [.d (.v (.int .i64 v.id)),.own 1 1,.own 3 v.subs.length],.row 107 4 v.subs.length (hO bI pre (fI s0 (.own 6 s0.faces.length)) post),
  .gone,.gone,.row 110 2 s0.faces.length (ab (s0.faces.map cX))]:=by
 have hc:=oY v;rw[h]at hc;replace h:=Xk h;replace h8:=Xk h8;have aT:v.subs.length=pre.length+1+post.length:=by rw[hv];simp;omega
 have hL:=Xk hv;have cy:=Xk aT;clear hv aT;have gA:=jx cq v.ranges (by omega);refine mj func184 ntmps184 results184 ?_;have z1z:=Ln.mk (ls:=[]) (gA);refine ay ?_<;>intros;refine cf af al (fun m e h=>(∃k,k≤pre.length∧m=v.subs.length - k∧e=[(28,.d (.v (.int .i64 k))),(27,.d (.v (.int .i64 v.subs.length))),(26,.d (.sl 4 (v.subs.map bI))),(5,.ptr 2 0)]∧
  h=[.gone,.row 100 3 1 (ab (v.ranges.map cq)),.box 88 [.d (.v (.int .i64 v.id)),.own 1 1,.own 3 k],.row 107 4 k (ab ((pre.take k).map bI))])∨
  ∃k j,k=pre.length+1+j∧j≤post.length∧m=v.subs.length - k∧e=[(28,.d (.v (.int .i64 k))),(27,.d (.v (.int .i64 v.subs.length))),(26,.d (.sl 4 (v.subs.map bI))),(5,.ptr 2 0)]∧
   h=[.gone,.row 100 3 1 (ab (v.ranges.map cq)),.box 88 [.d (.v (.int .i64 v.id)),.own 1 1,.own 3 k],.row 107 4 k (hO bI pre (fI s0 (.own 6 s0.faces.length)) (post.take j)),.gone,.gone,.row 110 2 s0.faces.length (ab (s0.faces.map cX))]) _ _ _ (.inl ⟨0,XL _,rfl,rfl,rfl⟩) ?_ ?_
 ·refine(aU 0 (by simp)).trans ((aL (by simp) 2 88 [.d (.v (.int .i64 v.id)),.own 1 1,.d (.v (.slice none 0 0))] 2 107 4 rfl rfl rfl).trans ?_);exact wf (hb:=fW) (hbh:=fW)
 ·rintro m e h (⟨k,hk,hm,rfl,rfl⟩|⟨k,q,OR,hj,hm,rfl,rfl⟩) CO Ih
  ·have fy:(k:Int) < (v.subs.length:Int):=by have:=cy.out;omega
   have dW:=wi k (by omega);have pT:k+1≤100:=by have:=cy.out;omega
   have pS:(YD k pre).length=k:=by rw[Xp];omega
   have hm:=Xk hm;by_cases ol:k < pre.length
   ·obtain⟨s,hq⟩:∃s,pre[k]? =some s:=⟨_,Xj ol⟩;have hs:v.subs[k]? =some s:=by rw[hL.out,X5 ol];exact hq
    have qt:=h8.out s (Xl hs);replace hs:=Xk hs;replace hq:=Xk hq;have xT:=hs.out;refine ay ?_<;>intros;refine br af al s.faces (fun _=>True) (fun j=>[(40,.d (.v (.int .i64 j))),(39,.d (.v (.int .i64 s.faces.length))),(38,.d (.sl 2 (s.faces.map cX))),(28,.d (.v (.int .i64 k))),(27,.d (.v (.int .i64 v.subs.length))),(26,.d (.sl 4 (v.subs.map bI))),(8,.ptr 5 0),(5,.ptr 2 0)])
     (fun j=>[.gone,.row 100 3 1 (ab (v.ranges.map cq)),.box 88 [.d (.v (.int .i64 v.id)),.own 1 1,.own 3 k],.row 107 4 k (ab ((pre.take k).map bI)),.gone,.box 107 [.d (.v (.int .i64 s.id)),.d (.v (.int .i64 s.at_.at_)),.d (.v (.int .i64 s.at_.len)),.own 6 j],.row 110 2 j (ab ((s.faces.take j).map cX))]) trivial ?_ ?_ ?_
    ·refine(aU 4 (by simp)).trans ((aL (by simp) 5 107 [.d (.v (.int .i64 s.id)),.d (.v (.int .i64 s.at_.at_)),.d (.v (.int .i64 s.at_.len)),.d (.v (.slice none 0 0))] 3 110 2 rfl rfl rfl).trans ?_);exact wf (hb:=fW) (hbh:=fW)
    ·intro j f hf hj _ C hC;have mb:(j:Int) < (s.faces.length:Int):=by omega
     have rf:=wi j (by omega);have jC:=qt.2 f (Xl hf);have nQ:j+1≤100:=by omega
     have Az:(YD j s.faces).length=j:=by rw[Xp];omega
     replace hf:=Xk hf;have RX:=hf.out;have z1z:=Ln.mk (ls:=[]) (eM f.addrs (by omega));refine ay ?_<;>intros;refine hC _ _ trivial ((aA 8 1 3 1 (f.addrs.map dF) rfl).trans ?_);simp only[lG,fz,jE,iL,kG,iV,bg,cG,cS,Xm,Xx,XU,XW,reduceIte,and_true,true_and,and_self,and_false,false_and,XK,X0,reduceCtorEq,gp];exact wf (hh:=(by rw[ah hf.out,Xz,Xm,Xx,←aW];rfl)) (hb:=fW) (hbh:=fW)
    ·intro _ C;refine ay ?_<;>intros;refine Ih _ _ _ _ _ ?_ (.inl ⟨k+1,ol,rfl,rfl,rfl⟩) ((aA 6 s.faces.length 110 2 (s.faces.map cX) rfl).trans ?_)
     ·have:=hm.out;have:=cy.out;omega
     simp only[lG,fz,jE,iL,kG,iV,bg,cG,cS,Xm,Xx,XU,XW,reduceIte,and_true,true_and,and_self,and_false,false_and,XK,X0,reduceCtorEq];exact wf (hh:=(by rw[ah hq.out,Xz,Xm,Xx,←aW];rfl)) (hb:=fW) (hbh:=fW)
   ·obtain rfl:k=pre.length:=by omega
    have hs:v.subs[pre.length]? =some s0:=by rw[hL.out,XP (XC _),Y8];rfl
    have qt:=h8.out s0 (Xl hs);replace hs:=Xk hs;have xT:=hs.out;obtain⟨k,mX⟩:∃k,k=pre.length:=⟨_,rfl⟩;obtain⟨s,Pg⟩:∃s,s=s0:=⟨_,rfl⟩;rw[←Pg]at qt xT Ih ⊢;rw[←mX]at xT fy dW pT pS Ih ⊢;rw[mX,Xq]at pS;replace Pg:=Xk Pg;replace mX:=Xk mX;refine ay ?_<;>intros;refine br af al s.faces (fun _=>True) (fun j=>[(40,.d (.v (.int .i64 j))),(39,.d (.v (.int .i64 s.faces.length))),(38,.d (.sl 2 (s.faces.map cX))),(28,.d (.v (.int .i64 k))),(27,.d (.v (.int .i64 v.subs.length))),(26,.d (.sl 4 (v.subs.map bI))),(8,.ptr 5 0),(5,.ptr 2 0)])
     (fun j=>[.gone,.row 100 3 1 (ab (v.ranges.map cq)),.box 88 [.d (.v (.int .i64 v.id)),.own 1 1,.own 3 k],.row 107 4 k (ab ((pre.take k).map bI)),.gone,.box 107 [.d (.v (.int .i64 s.id)),.d (.v (.int .i64 s.at_.at_)),.d (.v (.int .i64 s.at_.len)),.own 6 j],.row 110 2 j (ab ((s.faces.take j).map cX))]) trivial ?_ ?_ ?_
    ·refine(aU 4 (by simp)).trans ((aL (by simp) 5 107 [.d (.v (.int .i64 s.id)),.d (.v (.int .i64 s.at_.at_)),.d (.v (.int .i64 s.at_.len)),.d (.v (.slice none 0 0))] 3 110 2 rfl rfl rfl).trans ?_);exact wf (hb:=fW) (hbh:=fW)
    ·intro j f hf hj _ C hC;have mb:(j:Int) < (s.faces.length:Int):=by omega
     have rf:=wi j (by omega);have jC:=qt.2 f (Xl hf);have nQ:j+1≤100:=by omega
     have Az:(YD j s.faces).length=j:=by rw[Xp];omega
     replace hf:=Xk hf;have RX:=hf.out;have z1z:=Ln.mk (ls:=[]) (eM f.addrs (by omega));refine ay ?_<;>intros;refine hC _ _ trivial ((aA 8 1 3 1 (f.addrs.map dF) rfl).trans ?_);simp only[lG,fz,jE,iL,kG,iV,bg,cG,cS,Xm,Xx,XU,XW,reduceIte,and_true,true_and,and_self,and_false,false_and,XK,X0,reduceCtorEq,gp];exact wf (hh:=(by rw[ah hf.out,Xz,Xm,Xx,←aW];rfl)) (hb:=fW) (hbh:=fW)
    ·intro _ C;have a0M:(YD k pre).length=k:=by rw[mX.out,Xq]
     refine ay ?_<;>intros;refine Ih _ _ _ _ _ ?_ (.inr ⟨k+1,0,by rw[mX.out],XL _,rfl,rfl,rfl⟩) ((aU 5 (by simp)).trans ?_)
     ·have:=hm.out;have:=cy.out;have:=mX.out;omega
     exact wf (hh:=(by rw[mX.out,Xq];rfl)) (hb:=fW) (hbh:=fW)
  ·have hm:=Xk hm;have E5:=Xk OR;have pT:pre.length+1+q+1≤100:=by have:=cy.out;omega
   have pS:(YD q post).length=q:=by rw[Xp];omega
   have Kl:k≤v.subs.length:=by have:=cy.out;omega
   by_cases KM:q < post.length
   ·obtain⟨s,hq⟩:∃s,post[q]? =some s:=⟨_,Xj KM⟩;have hs:v.subs[k]? =some s:=by
     rw[hL.out,XP (by omega),show k - pre.length=q+1 by omega,YJ];exact hq
    have qt:=h8.out s (Xl hs);have fy:(k:Int) < (v.subs.length:Int):=by have:=cy.out;omega
    have dW:=wi k (by omega);replace hq:=Xk hq;replace hs:=Xk hs;have xT:=hs.out;clear OR;refine ay ?_<;>intros;refine br af al s.faces (fun _=>True) (fun j=>[(40,.d (.v (.int .i64 j))),(39,.d (.v (.int .i64 s.faces.length))),(38,.d (.sl 2 (s.faces.map cX))),(28,.d (.v (.int .i64 k))),(27,.d (.v (.int .i64 v.subs.length))),(26,.d (.sl 4 (v.subs.map bI))),(8,.ptr 8 0),(5,.ptr 2 0)])
     (fun j=>[.gone,.row 100 3 1 (ab (v.ranges.map cq)),.box 88 [.d (.v (.int .i64 v.id)),.own 1 1,.own 3 k],.row 107 4 k (hO bI pre (fI s0 (.own 6 s0.faces.length)) (post.take q)),.gone,.gone,.row 110 2 s0.faces.length (ab (s0.faces.map cX)),.gone,.box 107 [.d (.v (.int .i64 s.id)),.d (.v (.int .i64 s.at_.at_)),.d (.v (.int .i64 s.at_.len)),.own 9 j],.row 110 2 j (ab ((s.faces.take j).map cX))]) trivial ?_ ?_ ?_
    ·refine(aU 7 (by simp)).trans ((aL (by simp) 8 107 [.d (.v (.int .i64 s.id)),.d (.v (.int .i64 s.at_.at_)),.d (.v (.int .i64 s.at_.len)),.d (.v (.slice none 0 0))] 3 110 2 rfl rfl rfl).trans ?_);exact wf (hb:=fW) (hbh:=fW)
    ·intro j f hf hj _ C hC;have mb:(j:Int) < (s.faces.length:Int):=by omega
     have rf:=wi j (by omega);have jC:=qt.2 f (Xl hf);have nQ:j+1≤100:=by omega
     have Az:(YD j s.faces).length=j:=by rw[Xp];omega
     replace hf:=Xk hf;have RX:=hf.out;have z1z:=Ln.mk (ls:=[]) (eM f.addrs (by omega));refine ay ?_<;>intros;refine hC _ _ trivial ((aA 11 1 3 1 (f.addrs.map dF) rfl).trans ?_);simp only[lG,fz,jE,iL,kG,iV,bg,cG,cS,Xm,Xx,XU,XW,reduceIte,and_true,true_and,and_self,and_false,false_and,XK,X0,reduceCtorEq,gp];exact wf (hh:=(by rw[ah hf.out,Xz,Xm,Xx,←aW];rfl)) (hb:=fW) (hbh:=fW)
    ·intro _ C;refine ay ?_<;>intros;refine Ih _ _ _ _ _ ?_ (.inr ⟨k+1,q+1,by have:=E5.out;omega,KM,rfl,rfl,rfl⟩) ((aA 9 s.faces.length 110 2 (s.faces.map cX) rfl).trans ?_)
     ·have:=hm.out;have:=cy.out;have:=E5.out;omega
     simp only[lG,fz,jE,iL,kG,iV,bg,cG,cS,Xm,Xx,XU,XW,reduceIte,and_true,true_and,and_self,and_false,false_and,XK,X0,reduceCtorEq,gp,fI];exact wf (hh:=(by rw[ah hq.out,←tB];rfl)) (hb:=fW) (hbh:=fW)
   ·obtain rfl:q=post.length:=by omega
    obtain rfl:k=v.subs.length:=by have:=cy.out;omega
    clear OR;refine ay ?_<;>intros;(try rw[Xq])
    exact aV rfl rfl
theorem Np (v:Vpc)(pre post:List Sbn)(s0:Sbn)(preF postF:List Fce)(f0:Fce)(hv:v.subs=pre++s0::post)(RZ:s0.faces=preF++f0::postF)(h:cn v=0)(h4:v.ranges.length≤4)(h6:v.subs.length≤6)(h8:∀s∈v.subs,s.faces.length≤8∧∀f∈s.faces,f.addrs.length≤4):
 MSpec prog 184 [.d (.agg (aD v))] [] (.tup [.ptr 2 0,.d (.v (.int .i64 0))]) [.gone,.row 100 3 1 (ab (v.ranges.map cq)),.box 88 [.d (.v (.int .i64 v.id)),.own 1 1,.own 3 v.subs.length],.row 107 4 v.subs.length (hO bI pre (fI s0 (.own 6 s0.faces.length)) post),
  .gone,.gone,.row 110 2 s0.faces.length (hO cX preF (j4 f0 (.own 8 1)) postF),.gone,.row 3 1 1 (ab (f0.addrs.map dF))]:=by
 have hc:=oY v;rw[h]at hc;replace h:=Xk h;replace h8:=Xk h8;have aT:v.subs.length=pre.length+1+post.length:=by rw[hv];simp;omega
 have hL:=Xk hv;have cy:=Xk aT;clear hv aT;have SG:s0.faces.length=preF.length+1+postF.length:=by rw[RZ];simp;omega
 have hLF:=Xk RZ;have po:=Xk SG;clear RZ SG;have gA:=jx cq v.ranges (by omega);refine mj func184 ntmps184 results184 ?_;have z1z:=Ln.mk (ls:=[]) (gA);refine ay ?_<;>intros;refine cf af al (fun m e h=>(∃k,k≤pre.length∧m=v.subs.length - k∧e=[(28,.d (.v (.int .i64 k))),(27,.d (.v (.int .i64 v.subs.length))),(26,.d (.sl 4 (v.subs.map bI))),(5,.ptr 2 0)]∧
  h=[.gone,.row 100 3 1 (ab (v.ranges.map cq)),.box 88 [.d (.v (.int .i64 v.id)),.own 1 1,.own 3 k],.row 107 4 k (ab ((pre.take k).map bI))])∨
  ∃k j,k=pre.length+1+j∧j≤post.length∧m=v.subs.length - k∧e=[(28,.d (.v (.int .i64 k))),(27,.d (.v (.int .i64 v.subs.length))),(26,.d (.sl 4 (v.subs.map bI))),(5,.ptr 2 0)]∧
   h=[.gone,.row 100 3 1 (ab (v.ranges.map cq)),.box 88 [.d (.v (.int .i64 v.id)),.own 1 1,.own 3 k],.row 107 4 k (hO bI pre (fI s0 (.own 6 s0.faces.length)) (post.take j)),.gone,.gone,.row 110 2 s0.faces.length (hO cX preF (j4 f0 (.own 8 1)) postF),.gone,.row 3 1 1 (ab (f0.addrs.map dF))]) _ _ _ (.inl ⟨0,XL _,rfl,rfl,rfl⟩) ?_ ?_
 ·refine(aU 0 (by simp)).trans ((aL (by simp) 2 88 [.d (.v (.int .i64 v.id)),.own 1 1,.d (.v (.slice none 0 0))] 2 107 4 rfl rfl rfl).trans ?_);exact wf (hb:=fW) (hbh:=fW)
 ·rintro m e h (⟨k,hk,hm,rfl,rfl⟩|⟨k,q,OR,hj,hm,rfl,rfl⟩) CO Ih
  ·have fy:(k:Int) < (v.subs.length:Int):=by have:=cy.out;omega
   have dW:=wi k (by omega);have pT:k+1≤100:=by have:=cy.out;omega
   have pS:(YD k pre).length=k:=by rw[Xp];omega
   have hm:=Xk hm;by_cases ol:k < pre.length
   ·obtain⟨s,hq⟩:∃s,pre[k]? =some s:=⟨_,Xj ol⟩;have hs:v.subs[k]? =some s:=by rw[hL.out,X5 ol];exact hq
    have qt:=h8.out s (Xl hs);replace hs:=Xk hs;replace hq:=Xk hq;have xT:=hs.out;refine ay ?_<;>intros;refine br af al s.faces (fun _=>True) (fun j=>[(40,.d (.v (.int .i64 j))),(39,.d (.v (.int .i64 s.faces.length))),(38,.d (.sl 2 (s.faces.map cX))),(28,.d (.v (.int .i64 k))),(27,.d (.v (.int .i64 v.subs.length))),(26,.d (.sl 4 (v.subs.map bI))),(8,.ptr 5 0),(5,.ptr 2 0)])
     (fun j=>[.gone,.row 100 3 1 (ab (v.ranges.map cq)),.box 88 [.d (.v (.int .i64 v.id)),.own 1 1,.own 3 k],.row 107 4 k (ab ((pre.take k).map bI)),.gone,.box 107 [.d (.v (.int .i64 s.id)),.d (.v (.int .i64 s.at_.at_)),.d (.v (.int .i64 s.at_.len)),.own 6 j],.row 110 2 j (ab ((s.faces.take j).map cX))]) trivial ?_ ?_ ?_
    ·refine(aU 4 (by simp)).trans ((aL (by simp) 5 107 [.d (.v (.int .i64 s.id)),.d (.v (.int .i64 s.at_.at_)),.d (.v (.int .i64 s.at_.len)),.d (.v (.slice none 0 0))] 3 110 2 rfl rfl rfl).trans ?_);exact wf (hb:=fW) (hbh:=fW)
    ·intro j f hf hj _ C hC;have mb:(j:Int) < (s.faces.length:Int):=by omega
     have rf:=wi j (by omega);have jC:=qt.2 f (Xl hf);have nQ:j+1≤100:=by omega
     have Az:(YD j s.faces).length=j:=by rw[Xp];omega
     replace hf:=Xk hf;have RX:=hf.out;have z1z:=Ln.mk (ls:=[]) (eM f.addrs (by omega));refine ay ?_<;>intros;refine hC _ _ trivial ((aA 8 1 3 1 (f.addrs.map dF) rfl).trans ?_);simp only[lG,fz,jE,iL,kG,iV,bg,cG,cS,Xm,Xx,XU,XW,reduceIte,and_true,true_and,and_self,and_false,false_and,XK,X0,reduceCtorEq,gp];exact wf (hh:=(by rw[ah hf.out,Xz,Xm,Xx,←aW];rfl)) (hb:=fW) (hbh:=fW)
    ·intro _ C;refine ay ?_<;>intros;refine Ih _ _ _ _ _ ?_ (.inl ⟨k+1,ol,rfl,rfl,rfl⟩) ((aA 6 s.faces.length 110 2 (s.faces.map cX) rfl).trans ?_)
     ·have:=hm.out;have:=cy.out;omega
     simp only[lG,fz,jE,iL,kG,iV,bg,cG,cS,Xm,Xx,XU,XW,reduceIte,and_true,true_and,and_self,and_false,false_and,XK,X0,reduceCtorEq];exact wf (hh:=(by rw[ah hq.out,Xz,Xm,Xx,←aW];rfl)) (hb:=fW) (hbh:=fW)
   ·obtain rfl:k=pre.length:=by omega
    have hs:v.subs[pre.length]? =some s0:=by rw[hL.out,XP (XC _),Y8];rfl
    have qt:=h8.out s0 (Xl hs);replace hs:=Xk hs;have xT:=hs.out;obtain⟨k,mX⟩:∃k,k=pre.length:=⟨_,rfl⟩;rw[←mX]at xT fy dW pT pS Ih ⊢;rw[mX,Xq]at pS;replace mX:=Xk mX;refine ay ?_<;>intros;refine cf af al (fun m e h=>(∃j,j≤preF.length∧m=s0.faces.length - j∧e=[(40,.d (.v (.int .i64 j))),(39,.d (.v (.int .i64 s0.faces.length))),(38,.d (.sl 2 (s0.faces.map cX))),(28,.d (.v (.int .i64 k))),(27,.d (.v (.int .i64 v.subs.length))),(26,.d (.sl 4 (v.subs.map bI))),(8,.ptr 5 0),(5,.ptr 2 0)]∧
     h=[.gone,.row 100 3 1 (ab (v.ranges.map cq)),.box 88 [.d (.v (.int .i64 v.id)),.own 1 1,.own 3 k],.row 107 4 k (ab ((pre.take k).map bI)),.gone,.box 107 [.d (.v (.int .i64 s0.id)),.d (.v (.int .i64 s0.at_.at_)),.d (.v (.int .i64 s0.at_.len)),.own 6 j],.row 110 2 j (ab ((preF.take j).map cX))])∨
     ∃j i,j=preF.length+1+i∧i≤postF.length∧m=s0.faces.length - j∧e=[(40,.d (.v (.int .i64 j))),(39,.d (.v (.int .i64 s0.faces.length))),(38,.d (.sl 2 (s0.faces.map cX))),(28,.d (.v (.int .i64 k))),(27,.d (.v (.int .i64 v.subs.length))),(26,.d (.sl 4 (v.subs.map bI))),(8,.ptr 5 0),(5,.ptr 2 0)]∧
      h=[.gone,.row 100 3 1 (ab (v.ranges.map cq)),.box 88 [.d (.v (.int .i64 v.id)),.own 1 1,.own 3 k],.row 107 4 k (ab ((pre.take k).map bI)),.gone,.box 107 [.d (.v (.int .i64 s0.id)),.d (.v (.int .i64 s0.at_.at_)),.d (.v (.int .i64 s0.at_.len)),.own 6 j],.row 110 2 j (hO cX preF (j4 f0 (.own 8 1)) (postF.take i)),.gone,.row 3 1 1 (ab (f0.addrs.map dF))]) _ _ _ (.inl ⟨0,XL _,rfl,rfl,rfl⟩) ?_ ?_
    ·refine(aU 4 (by simp)).trans ((aL (by simp) 5 107 [.d (.v (.int .i64 s0.id)),.d (.v (.int .i64 s0.at_.at_)),.d (.v (.int .i64 s0.at_.len)),.d (.v (.slice none 0 0))] 3 110 2 rfl rfl rfl).trans ?_);exact wf (hb:=fW) (hbh:=fW)
    ·rintro m2 e h (⟨j,hj,jk,rfl,rfl⟩|⟨j,i,lx,hi,jk,rfl,rfl⟩) C hC
     ·have mb:(j:Int) < (s0.faces.length:Int):=by have:=po.out;omega
      have rf:IntKind.i64.wrap ((j:Int)+1)=((j+1:Nat):Int):=by rw[IntKind.wrap_i64];have:=qt.1;omega
      have nQ:j+1≤100:=by have:=qt.1;omega
      have Az:(YD j preF).length=j:=by rw[Xp];omega
      have jk:=Xk jk;by_cases KM:j < preF.length
      ·obtain⟨f,hq⟩:∃f,preF[j]? =some f:=⟨_,Xj KM⟩;have hf:s0.faces[j]? =some f:=by rw[hLF.out,X5 KM];exact hq
       have jC:=qt.2 f (Xl hf);replace hf:=Xk hf;replace hq:=Xk hq;have RX:=hf.out;have z1z:=Ln.mk (ls:=[]) (eM f.addrs (by omega));refine ay ?_<;>intros;refine hC _ _ _ _ _ ?_ (.inl ⟨j+1,KM,rfl,rfl,rfl⟩) ((aA 8 1 3 1 (f.addrs.map dF) rfl).trans ?_)
       ·have:=jk.out;have:=po.out;omega
       simp only[lG,fz,jE,iL,kG,iV,bg,cG,cS,Xm,Xx,XU,XW,reduceIte,and_true,true_and,and_self,and_false,false_and,XK,X0,reduceCtorEq,gp];exact wf (hh:=(by rw[ah hq.out,Xz,Xm,Xx,←aW];rfl)) (hb:=fW) (hbh:=fW)
      ·obtain rfl:j=preF.length:=by omega
       have hf:s0.faces[preF.length]? =some f0:=by rw[hLF.out,XP (XC _),Y8];rfl
       have jC:=qt.2 f0 (Xl hf);replace hf:=Xk hf;have RX:=hf.out;have z1z:=Ln.mk (ls:=[]) (eM f0.addrs (by omega));refine ay ?_<;>intros;refine hC _ _ _ _ _ ?_ (.inr ⟨preF.length+1,0,rfl,XL _,rfl,rfl,rfl⟩) ((aU 7 (by simp)).trans ?_)
       ·have:=jk.out;have:=po.out;omega
       exact wf (hb:=fW) (hbh:=fW)
     ·have jk:=Xk jk;have Kg:=Xk lx;have nQ:preF.length+1+i+1≤100:=by have:=po.out;have:=qt.1;omega
      have hli:(YD i postF).length=i:=by rw[Xp];omega
      have Pd:j≤s0.faces.length:=by have:=po.out;omega
      by_cases hip:i < postF.length
      ·obtain⟨f,hq⟩:∃f,postF[i]? =some f:=⟨_,Xj hip⟩;have hf:s0.faces[j]? =some f:=by
        rw[hLF.out,XP (by omega),show j - preF.length=i+1 by omega,YJ];exact hq
       have jC:=qt.2 f (Xl hf);have mb:(j:Int) < (s0.faces.length:Int):=by have:=po.out;omega
       have rf:IntKind.i64.wrap ((j:Int)+1)=((j+1:Nat):Int):=by rw[IntKind.wrap_i64];have:=qt.1;omega
       replace hf:=Xk hf;replace hq:=Xk hq;have RX:=hf.out;clear lx;have z1z:=Ln.mk (ls:=[]) (eM f.addrs (by omega));refine ay ?_<;>intros;refine hC _ _ _ _ _ ?_ (.inr ⟨j+1,i+1,by have:=Kg.out;omega,hip,rfl,rfl,rfl⟩) ((aA 10 1 3 1 (f.addrs.map dF) rfl).trans ?_)
       ·have:=jk.out;have:=po.out;have:=Kg.out;omega
       simp only[lG,fz,jE,iL,kG,iV,bg,cG,cS,Xm,Xx,XU,XW,reduceIte,and_true,true_and,and_self,and_false,false_and,XK,X0,reduceCtorEq,gp,j4];exact wf (hh:=(by rw[ah hq.out,←tB];rfl)) (hb:=fW) (hbh:=fW)
      ·obtain rfl:i=postF.length:=by omega
       obtain rfl:j=s0.faces.length:=by have:=po.out;omega
       clear lx;have a0M:(YD k pre).length=k:=by rw[mX.out,Xq]
       refine ay ?_<;>intros;refine Ih _ _ _ _ _ ?_ (.inr ⟨k+1,0,by rw[mX.out],XL _,rfl,rfl,rfl⟩) ((aU 5 (by simp)).trans ?_)
       ·have:=hm.out;have:=cy.out;have:=mX.out;omega
       exact wf (hh:=(by rw[mX.out,Xq];rfl)) (hb:=fW) (hbh:=fW)
  ·have hm:=Xk hm;have E5:=Xk OR;have pT:pre.length+1+q+1≤100:=by have:=cy.out;omega
   have pS:(YD q post).length=q:=by rw[Xp];omega
   have Kl:k≤v.subs.length:=by have:=cy.out;omega
   by_cases KM:q < post.length
   ·obtain⟨s,hq⟩:∃s,post[q]? =some s:=⟨_,Xj KM⟩;have hs:v.subs[k]? =some s:=by
     rw[hL.out,XP (by omega),show k - pre.length=q+1 by omega,YJ];exact hq
    have qt:=h8.out s (Xl hs);have fy:(k:Int) < (v.subs.length:Int):=by have:=cy.out;omega
    have dW:=wi k (by omega);replace hq:=Xk hq;replace hs:=Xk hs;have xT:=hs.out;clear OR;refine ay ?_<;>intros;refine br af al s.faces (fun _=>True) (fun j=>[(40,.d (.v (.int .i64 j))),(39,.d (.v (.int .i64 s.faces.length))),(38,.d (.sl 2 (s.faces.map cX))),(28,.d (.v (.int .i64 k))),(27,.d (.v (.int .i64 v.subs.length))),(26,.d (.sl 4 (v.subs.map bI))),(8,.ptr 10 0),(5,.ptr 2 0)])
     (fun j=>[.gone,.row 100 3 1 (ab (v.ranges.map cq)),.box 88 [.d (.v (.int .i64 v.id)),.own 1 1,.own 3 k],.row 107 4 k (hO bI pre (fI s0 (.own 6 s0.faces.length)) (post.take q)),.gone,.gone,.row 110 2 s0.faces.length (hO cX preF (j4 f0 (.own 8 1)) postF),.gone,.row 3 1 1 (ab (f0.addrs.map dF)),.gone,.box 107 [.d (.v (.int .i64 s.id)),.d (.v (.int .i64 s.at_.at_)),.d (.v (.int .i64 s.at_.len)),.own 11 j],.row 110 2 j (ab ((s.faces.take j).map cX))]) trivial ?_ ?_ ?_
    ·refine(aU 9 (by simp)).trans ((aL (by simp) 10 107 [.d (.v (.int .i64 s.id)),.d (.v (.int .i64 s.at_.at_)),.d (.v (.int .i64 s.at_.len)),.d (.v (.slice none 0 0))] 3 110 2 rfl rfl rfl).trans ?_);exact wf (hb:=fW) (hbh:=fW)
    ·intro j f hf hj _ C hC;have mb:(j:Int) < (s.faces.length:Int):=by omega
     have rf:=wi j (by omega);have jC:=qt.2 f (Xl hf);have nQ:j+1≤100:=by omega
     have Az:(YD j s.faces).length=j:=by rw[Xp];omega
     replace hf:=Xk hf;have RX:=hf.out;have z1z:=Ln.mk (ls:=[]) (eM f.addrs (by omega));refine ay ?_<;>intros;refine hC _ _ trivial ((aA 13 1 3 1 (f.addrs.map dF) rfl).trans ?_);simp only[lG,fz,jE,iL,kG,iV,bg,cG,cS,Xm,Xx,XU,XW,reduceIte,and_true,true_and,and_self,and_false,false_and,XK,X0,reduceCtorEq,gp];exact wf (hh:=(by rw[ah hf.out,Xz,Xm,Xx,←aW];rfl)) (hb:=fW) (hbh:=fW)
    ·intro _ C;refine ay ?_<;>intros;refine Ih _ _ _ _ _ ?_ (.inr ⟨k+1,q+1,by have:=E5.out;omega,KM,rfl,rfl,rfl⟩) ((aA 11 s.faces.length 110 2 (s.faces.map cX) rfl).trans ?_)
     ·have:=hm.out;have:=cy.out;have:=E5.out;omega
     simp only[lG,fz,jE,iL,kG,iV,bg,cG,cS,Xm,Xx,XU,XW,reduceIte,and_true,true_and,and_self,and_false,false_and,XK,X0,reduceCtorEq,gp,fI];exact wf (hh:=(by rw[ah hq.out,←tB];rfl)) (hb:=fW) (hbh:=fW)
   ·obtain rfl:q=post.length:=by omega
    obtain rfl:k=v.subs.length:=by have:=cy.out;omega
    clear OR;refine ay ?_<;>intros;(try rw[Xq])
    exact aV rfl rfl
theorem Bn {α:Type}{enc:α→List D}(l:List α)(i j g:Nat)(hi:i < l.length)(hj:j=i+1):
 MSpec prog 190 [.own 0 g,.d (.v (.int .i64 i)),.d (.v (.int .i64 j))] [.row 100 3 g (ab (l.map enc))] (.own 0 (g+1)) [.row 100 3 (g+1) (ab ((l.eraseIdx i).map enc))]:=by
 have h1:((i:Int)==(j:Int))=false:=by simp;omega
 have bH:¬ab (l.map enc)=[]:=by cases l<;>simp[ab]at hi ⊢
 have hle:(i:Int)≤(j:Int):=by omega
 have Ou:(j:Int)≤(l.length:Int):=by omega
 have mc:(l.map enc).length=l.length:=XF _;have h2:=pB (ab (l.map enc)) i j l.length (by rw[aC,mc];exact hi) hj (by rw[aC,mc]);rw[aC,mc]at h2;have sH:=Xk hj;clear hj;have KH:j≤l.length:=by have:=sH.out;omega
 have RR:min (l.length - j) (l.length - j)=l.length - j:=z' _;have hlt:i+(l.length - j)≤l.length:=by have:=sH.out;omega
 have qr:l.length - (i+(l.length - j))=1:=by have:=sH.out;omega
 have mX:i+(l.length - j)+1≤l.length:=by have:=sH.out;omega
 have RS:¬av (ab (l.map enc)) i (((ab (l.map enc)).drop j).take (l.length - j))=[]:=by
  intro h;rw[h]at h2;simp at h2;omega
 refine mj func190 ntmps190 results190 ?_;repeat' (first|(with_reducible refine And.intro ?_ ?_)|(with_reducible refine dO (fun _=>?_) (fun _=>?_))|(with_reducible refine aN (fun _=>?_) (fun _=>?_))|(with_reducible refine cg (by kernel_rfl))|simp -dsimp only[go_sem,seval, *,h1,bH,Yr,Xp,XS]|((with_reducible refine ci ?_);simp -dsimp only[go_sem,seval,h1,bH,Yr,Xp,XS];first|refine aP (by first|assumption|fail) (by first|exact .inl rfl|exact .inr rfl) ?_|refine aO (by assumption) (by repeat(first|exact ap.refl _|exact ap.nil _|(refine ap.tup ?_)|(refine ap.agg ?_ rfl)|exact trivial|(refine And.intro ?_ ?_))) (by first|exact .inl rfl|exact .inr rfl) ?_)|omega|exact decide_eq_true (by omega)|exact ap.refl _)
 rw[kr];exact oR (by rw[mc];exact hi) sH.out mc.symm
theorem Gc {α:Type}{enc:α→List D}(l:List α)(i j g:Nat)(hi:i < l.length)(hj:j=i+1):
 MSpec prog 197 [.own 0 g,.d (.v (.int .i64 i)),.d (.v (.int .i64 j))] [.row 107 4 g (ab (l.map enc))] (.own 0 (g+1)) [.row 107 4 (g+1) (ab ((l.eraseIdx i).map enc))]:=by
 have h1:((i:Int)==(j:Int))=false:=by simp;omega
 have bH:¬ab (l.map enc)=[]:=by cases l<;>simp[ab]at hi ⊢
 have hle:(i:Int)≤(j:Int):=by omega
 have Ou:(j:Int)≤(l.length:Int):=by omega
 have mc:(l.map enc).length=l.length:=XF _;have h2:=pB (ab (l.map enc)) i j l.length (by rw[aC,mc];exact hi) hj (by rw[aC,mc]);rw[aC,mc]at h2;have sH:=Xk hj;clear hj;have KH:j≤l.length:=by have:=sH.out;omega
 have RR:min (l.length - j) (l.length - j)=l.length - j:=z' _;have hlt:i+(l.length - j)≤l.length:=by have:=sH.out;omega
 have qr:l.length - (i+(l.length - j))=1:=by have:=sH.out;omega
 have mX:i+(l.length - j)+1≤l.length:=by have:=sH.out;omega
 have RS:¬av (ab (l.map enc)) i (((ab (l.map enc)).drop j).take (l.length - j))=[]:=by
  intro h;rw[h]at h2;simp at h2;omega
 refine mj func197 ntmps197 results197 ?_;repeat' (first|(with_reducible refine And.intro ?_ ?_)|(with_reducible refine dO (fun _=>?_) (fun _=>?_))|(with_reducible refine aN (fun _=>?_) (fun _=>?_))|(with_reducible refine cg (by kernel_rfl))|simp -dsimp only[go_sem,seval, *,h1,bH,Yr,Xp,XS]|((with_reducible refine ci ?_);simp -dsimp only[go_sem,seval,h1,bH,Yr,Xp,XS];first|refine aP (by first|assumption|fail) (by first|exact .inl rfl|exact .inr rfl) ?_|refine aO (by assumption) (by repeat(first|exact ap.refl _|exact ap.nil _|(refine ap.tup ?_)|(refine ap.agg ?_ rfl)|exact trivial|(refine And.intro ?_ ?_))) (by first|exact .inl rfl|exact .inr rfl) ?_)|omega|exact decide_eq_true (by omega)|exact ap.refl _)
 rw[kr];exact oR (by rw[mc];exact hi) sH.out mc.symm
theorem D2 {α:Type}{enc:α→List D}(l:List α)(i j g:Nat)(hi:i < l.length)(hj:j=i+1):
 MSpec prog 202 [.own 0 g,.d (.v (.int .i64 i)),.d (.v (.int .i64 j))] [.row 110 2 g (ab (l.map enc))] (.own 0 (g+1)) [.row 110 2 (g+1) (ab ((l.eraseIdx i).map enc))]:=by
 have h1:((i:Int)==(j:Int))=false:=by simp;omega
 have bH:¬ab (l.map enc)=[]:=by cases l<;>simp[ab]at hi ⊢
 have hle:(i:Int)≤(j:Int):=by omega
 have Ou:(j:Int)≤(l.length:Int):=by omega
 have mc:(l.map enc).length=l.length:=XF _;have h2:=pB (ab (l.map enc)) i j l.length (by rw[aC,mc];exact hi) hj (by rw[aC,mc]);rw[aC,mc]at h2;have sH:=Xk hj;clear hj;have KH:j≤l.length:=by have:=sH.out;omega
 have RR:min (l.length - j) (l.length - j)=l.length - j:=z' _;have hlt:i+(l.length - j)≤l.length:=by have:=sH.out;omega
 have qr:l.length - (i+(l.length - j))=1:=by have:=sH.out;omega
 have mX:i+(l.length - j)+1≤l.length:=by have:=sH.out;omega
 have RS:¬av (ab (l.map enc)) i (((ab (l.map enc)).drop j).take (l.length - j))=[]:=by
  intro h;rw[h]at h2;simp at h2;omega
 refine mj func202 ntmps202 results202 ?_;repeat' (first|(with_reducible refine And.intro ?_ ?_)|(with_reducible refine dO (fun _=>?_) (fun _=>?_))|(with_reducible refine aN (fun _=>?_) (fun _=>?_))|(with_reducible refine cg (by kernel_rfl))|simp -dsimp only[go_sem,seval, *,h1,bH,Yr,Xp,XS]|((with_reducible refine ci ?_);simp -dsimp only[go_sem,seval,h1,bH,Yr,Xp,XS];first|refine aP (by first|assumption|fail) (by first|exact .inl rfl|exact .inr rfl) ?_|refine aO (by assumption) (by repeat(first|exact ap.refl _|exact ap.nil _|(refine ap.tup ?_)|(refine ap.agg ?_ rfl)|exact trivial|(refine And.intro ?_ ?_))) (by first|exact .inl rfl|exact .inr rfl) ?_)|omega|exact decide_eq_true (by omega)|exact ap.refl _)
 rw[kr];exact oR (by rw[mc];exact hi) sH.out mc.symm
section
open Go.Proofs Go.Shelf
theorem Tz (x y:SRow M9 4)(W:World):Calls prog 195 #[.agg x.xs.toArray,.agg y.xs.toArray] W fun e w'=>e= .returned (.int .i64 (E6 x y))∧∃q os',w'=Sort.grow (W.drewN q) os':=by
 obtain⟨xs,xl,x1,a,xh⟩:=x;obtain⟨ys,yl,y1,b,yh⟩:=y;match xs,xl,ys,yl with
 |[u0,u1,u2,u3],_,[v0,v1,v2,v3],_=>
  simp[M9]at xh yh;subst xh;subst yh;have hc:=gQ a b;unfold E6;simp only;generalize d7 a b=r at*;replace hc:=Xk hc;clear x1 y1;go_enter func195,ntmps195
  go_wp2_with fail
  refine(hc.out _).mono ?_;rintro e w1 ⟨rfl,rfl⟩;go_wp2_with fail
  go_ret
  exact⟨bM rfl,0,_,by rw[Sort.alloc_eq_grow,Sort.alloc_eq_grow,Sort.grow_grow];rfl⟩
theorem Nq {l l':List Sbn}(g:Nat)(p5:l≠[])(hp:l'.Perm l)(hs:l'.Pairwise fun x y=>(fun s:Sbn=>s.id) x < (fun s:Sbn=>s.id) y)(cM:l.length≤1000000):
 MSpec prog 194 [.own 0 g,.d (.clo 195 [])] [.row 107 4 g (ab (l.map bI))] (.d (.tup [])) [.row 107 4 g (ab (l'.map bI))]:=
 vv sortSub rfl (bU func194 (by kernel_rfl) rfl) isAgg107 sizeOf107 (enters_of func195 (by kernel_rfl) rfl) Tz bI (fun s:Sbn=>s.id) (fun _=>rfl) p5 hp hs cM
theorem QI (x y:SRow M9 2)(W:World):Calls prog 200 #[.agg x.xs.toArray,.agg y.xs.toArray] W fun e w'=>e= .returned (.int .i64 (E6 x y))∧∃q os',w'=Sort.grow (W.drewN q) os':=by
 obtain⟨xs,xl,x1,a,xh⟩:=x;obtain⟨ys,yl,y1,b,yh⟩:=y;match xs,xl,ys,yl with
 |[u0,u1],_,[v0,v1],_=>
  simp[M9]at xh yh;subst xh;subst yh;have hc:=gQ a b;unfold E6;simp only;generalize d7 a b=r at*;replace hc:=Xk hc;clear x1 y1;go_enter func200,ntmps200
  go_wp2_with fail
  refine(hc.out _).mono ?_;rintro e w1 ⟨rfl,rfl⟩;go_wp2_with fail
  go_ret
  exact⟨bM rfl,0,_,by rw[Sort.alloc_eq_grow,Sort.alloc_eq_grow,Sort.grow_grow];rfl⟩
theorem JJ {l l':List Fce}(g:Nat)(p5:l≠[])(hp:l'.Perm l)(hs:l'.Pairwise fun x y=>(fun f:Fce=>f.id) x < (fun f:Fce=>f.id) y)(cM:l.length≤1000000):
 MSpec prog 199 [.own 0 g,.d (.clo 200 [])] [.row 110 2 g (ab (l.map cX))] (.d (.tup [])) [.row 110 2 g (ab (l'.map cX))]:=
 vv sortFace rfl (bU func199 (by kernel_rfl) rfl) isAgg110 sizeOf110 (enters_of func200 (by kernel_rfl) rfl) QI cX (fun f:Fce=>f.id) (fun _=>rfl) p5 hp hs cM
end
def Rng.zero:Rng:=⟨⟨0,0⟩,0⟩
def iB (v:Vpc)(p:Pfx):Vpc × Rng × Int:=
 if cn v≠0 then (Vpc.zero,Rng.zero,cn v)else
 match v.ranges.findIdx? (fun r=>decide (r.at_=p))with
 |none=>(Vpc.zero,Rng.zero,5)
 |some i=>if (v.subs.any fun s=>jq s.at_ p)=true then (Vpc.zero,Rng.zero,9)else ({v with ranges:=v.ranges.eraseIdx i},v.ranges.getD i Rng.zero,0)
theorem QJ (r:Rng)(p:Pfx):ae prog 186 [.agg (cq r),.ept (aK p)] (.v (.bool (decide (r.at_=p)))):=by
 have he:=Nf r.at_ p;rw[←he];replace he:=Xk he;refine pj func186 ntmps186 results186 ?_;exact bo
theorem QK (s:Sbn)(p:Pfx):ae prog 188 [.agg (bI s),.ept (aK p)] (.v (.bool (jq s.at_ p))):=by
 have hi:ae prog 189 [.agg (aK s.at_),.agg (aK p)] (.v (.bool (jq s.at_ p))):=Dv _ _;refine pj func188 ntmps188 results188 ?_;exact bo
theorem QL (v:Vpc)(p:Pfx):ae prog 107 [.agg (aD v),.agg (aK p)] (.tup [.agg (aD (iB v p).1),.agg (cq (iB v p).2.1),.v (.int .i64 (iB v p).2.2)]):=by
 obtain⟨R,hR⟩:∃R,R=iB v p:=⟨_,rfl⟩;rw[←hR];replace hR:=Xk hR;by_cases hc:cn v=0
 ·have hk:=bc hc;have cK:=lh v hc hk.n4 hk.n6 hk.n8;have ot:=wy mz (fun r=>decide (r.at_=p)) v.ranges 186 [.ept (aK p)] (by have:=hk.n4;omega) (fun r _=>QJ r p);have om:=wA my (fun s=>jq s.at_ p) v.subs 188 [.ept (aK p)] (by have:=hk.n6;omega) (fun s _=>QK s p);unfold db at ot;cases hf:v.ranges.findIdx? (fun r=>decide (r.at_=p))with
  |none=>
   rw[hf]at ot;have hr:R=(Vpc.zero,Rng.zero,5):=by rw[hR.out];unfold iB;rw[if_neg (by simpa using hc),hf]
   rw[hr];clear hr hR hf hc hk;refine pj func107 ntmps107 results107 ?_;have z1z:=Ln.mk (ls:=[]) (cK);refine ay ?_<;>intros;exact dg
  |some i=>
   rw[hf]at ot;have hi:i < v.ranges.length:=(XV.1 hf).1;obtain⟨g,hg⟩:∃g,v.ranges[i]? =some g:=⟨_,Xj hi⟩;have p3:decide ((i:Int) < 0)=false:=by simp
   have hn4:=hk.n4;cases ha:v.subs.any fun s=>jq s.at_ p with
   |true=>
    rw[ha]at om;have hr:R=(Vpc.zero,Rng.zero,9):=by rw[hR.out];unfold iB;rw[if_neg (by simpa using hc),hf];simp only;rw[if_pos ha]
    rw[hr];clear hr hR hf hc hk;refine pj func107 ntmps107 results107 ?_;have z1z:=Ln.mk (ls:=[]) (cK);refine ay ?_<;>intros;exact dg
   |false=>
    rw[ha]at om;have hr:R=({v with ranges:=v.ranges.eraseIdx i},g,0):=by
     rw[hR.out];unfold iB;rw[if_neg (by simpa using hc),hf];simp only;rw[if_neg (by simp[ha])];rw[XE,hg];rfl
    have hd:=Bn (enc:=cq) v.ranges i (i+1) 1 hi rfl;have dW:=wi i (by omega);rw[hr];clear hr hR hf hc hk;refine pj func107 ntmps107 results107 ?_;have z1z:=Ln.mk (ls:=[]) (cK);have z2z:=Ln.mk (ls:=[5]) (hd);exact bo;all_goals exact dg
 ·have cK:=lg v hc;have h1:(cn v !=0)=true:=by simpa using hc
  have hr:R=(Vpc.zero,Rng.zero,cn v):=by rw[hR.out];unfold iB;rw[if_pos hc]
  rw[hr];replace hr:=Xk hr;refine pj func107 ntmps107 results107 ?_;have z1z:=Ln.mk (ls:=[]) (cK);refine ay ?_<;>intros;exact dg
def pa (v:Vpc)(id:Int)(p:Pfx):Int:=
 if cU id=false∨eS v p=false then 3 else
 if (v.subs.any fun s=>(s.id==id)||s.at_.meets p)=true then 6 else if v.subs.length=6 then 2 else 0
def yJ (v:Vpc)(id:Int)(p:Pfx):Vpc × Int:=
 if cn v≠0 then (Vpc.zero,cn v)else if pa v id p≠0 then (Vpc.zero,pa v id p)else ({v with subs:=fw (·.id) ⟨id,p,[]⟩ v.subs},0)
theorem TA (s:Sbn)(id:Int)(p:Pfx):ae prog 193 [.agg (bI s),.ept [.v (.int .i64 id)],.ept (aK p)] (.v (.bool ((s.id==id)||s.at_.meets p))):=by
 have hm:ae prog 124 [.agg (aK s.at_),.agg (aK p)] (.v (.bool (s.at_.meets p))):=pD _ _;cases h1:s.id==id;all_goals
  refine pj func193 ntmps193 results193 ?_;exact bo
theorem TB (v:Vpc)(id:Int)(p:Pfx):ae prog 108 [.agg (aD v),.v (.int .i64 id),.agg (aK p)] (.tup [.agg (aD (yJ v id p).1),.v (.int .i64 (yJ v id p).2)]):=by
 obtain⟨R,hR⟩:∃R,R=yJ v id p:=⟨_,rfl⟩;rw[←hR];replace hR:=Xk hR;by_cases hc:cn v=0
 ·have hk:=bc hc;have cK:=lh v hc hk.n4 hk.n6 hk.n8;have hid:=kJ id;have hho:=rV v p (by have:=hk.n4;omega);have om:=wA my (fun s=>(s.id==id)||s.at_.meets p) v.subs 193 [.ept [.v (.int .i64 id)],.ept (aK p)] (by have:=hk.n6;omega) (fun s _=>TA s id p);have cJ:R=if pa v id p≠0 then (Vpc.zero,pa v id p)else ({v with subs:=fw (·.id) ⟨id,p,[]⟩ v.subs},0):=by rw[hR.out];unfold yJ;rw[if_neg (by simpa using hc)]
  have hn6:=hk.n6;by_cases bP:pa v id p≠0
  ·rw[if_pos bP]at cJ;unfold pa at cJ bP;generalize eS v p=K at*;generalize cU id=I at*;generalize (v.subs.any fun s=>(s.id==id)||s.at_.meets p)=M at*;replace cJ:=Xk cJ;replace bP:=Xk bP;clear hR hc hk;have U0:((v.subs.length:Int)==6)=decide (v.subs.length=6):=by rw[Yl];simp;omega
   refine pj func108 ntmps108 results108 ?_;have z1z:=Ln.mk (ls:=[]) (cK);refine rY ?_ ?_ ?_ ?_ ?_ ?_ ?_ ?_<;>first|(with_reducible exact True.intro)|intros
   all_goals
    have h1:=cJ.out;have h2:=bP.out;clear hid hho om cK;first
     |(exfalso;grind)
     |(rw[show R=(Vpc.zero,3) from (by rw[h1];grind)];exact dg)
     |(rw[show R=(Vpc.zero,6) from (by rw[h1];grind)];exact dg)
     |(rw[show R=(Vpc.zero,2) from (by rw[h1];grind)];exact dg)
  ·rw[if_neg bP]at cJ;have hg:pa v id p=0:=by simpa using bP
   obtain⟨g1,g2,g3,g4⟩:eS v p=true∧cU id=true∧(v.subs.any fun s=>(s.id==id)||s.at_.meets p)=false∧v.subs.length≠6:=by
    unfold pa at hg;generalize (v.subs.any fun s=>(s.id==id)||s.at_.meets p)=M at*;grind
   have bH:∀s∈v.subs,s.id≠(⟨id,p,[]⟩:Sbn).id:=fun s hs=>by have:=Yw.1 g3 s hs;simp at this;exact this.1
   have oq:=Nq (l:=v.subs++[⟨id,p,[]⟩]) (l':=fw (·.id) ⟨id,p,[]⟩ v.subs) (v.subs.length+1) (by simp) (fR _ _ _) (fJ hk.rs bH) (by simp;omega);rw[g1]at hho;rw[g2]at hid;rw[g3]at om;have U0:((v.subs.length:Int)==6)=false:=by simp;omega
   have pT:v.subs.length+1≤100:=by omega
   simp only[Xz,Xm,Xx]at oq;have oq:=oq.leh (Ds (A:=v.subs.map bI) (B:=[]) (r:=[.v (.int .i64 id),.v (.int .i64 p.at_),.v (.int .i64 p.len),.v (.slice none 0 0)]) dg) (by have:=qK (enc:=bI) (fun _=>rfl) (v.subs++[⟨id,p,[]⟩]);simpa using this) (aq _ _);rw[cJ];clear hR cJ hc hk bH hg bP;refine pj func108 ntmps108 results108 ?_;have z1z:=Ln.mk (ls:=[]) (cK);have z2z:=Ln.mk (ls:=[7]) (oq);exact bo
 ·have cK:=lg v hc;have h1:(cn v !=0)=true:=by simpa using hc
  have hr:R=(Vpc.zero,cn v):=by rw[hR.out];unfold yJ;rw[if_pos hc]
  rw[hr];replace hr:=Xk hr;refine pj func108 ntmps108 results108 ?_;have z1z:=Ln.mk (ls:=[]) (cK);refine ay ?_<;>intros;exact dg
def tM (v:Vpc)(i:Nat)(id:Int):Int:=match v.subs[i]? with|some s=>db (fun f=>f.id==id) s.faces|none=> -1
def xm (v:Vpc)(sub id:Int):Int × Int:=match v.subs.findIdx? (fun s=>s.id==sub)with|none=>(-1,-1)|some i=>(i,tM v i id)
theorem D3 (s:Sbn)(id:Int):ae prog 255 [.agg (bI s),.ept [.v (.int .i64 id)]] (.v (.bool (s.id==id))):=by
 refine pj func255 ntmps255 results255 ?_;exact bo
theorem Nr (f:Fce)(id:Int):ae prog 257 [.agg (cX f),.ept [.v (.int .i64 id)]] (.v (.bool (f.id==id))):=by
 refine pj func257 ntmps257 results257 ?_;exact bo
theorem vx (v:Vpc)(sub id:Int)(h6:v.subs.length≤6)(h8:∀s∈v.subs,s.faces.length≤8):ae prog 196 [.ept (aD v),.v (.int .i64 sub),.v (.int .i64 id)] (.tup [.v (.int .i64 (xm v sub id).1),.v (.int .i64 (xm v sub id).2)]):=by
 have ot:=wz my (fun s=>s.id==sub) v.subs 255 [.ept [.v (.int .i64 sub)]] (by omega) (fun s _=>D3 s sub);unfold xm;unfold db at ot;cases hf:v.subs.findIdx? (fun s=>s.id==sub)with
 |none=>
  rw[hf]at ot;replace hf:=Xk hf;refine pj func196 ntmps196 results196 ?_;exact bo;all_goals exact dg
 |some i=>
  rw[hf]at ot;have hi:i < v.subs.length:=(XV.1 hf).1;obtain⟨s,hs⟩:∃s,v.subs[i]? =some s:=⟨_,Xj hi⟩;have p3:decide ((i:Int) < 0)=false:=by simp
  have hfx:=zP wu (fun f=>f.id==id) s.faces 257 [.ept [.v (.int .i64 id)]] (by have:=h8 s (Xl hs);omega) (fun f _=>Nr f id);unfold tM;simp only;rw[hs];replace hf:=Xk hf;refine pj func196 ntmps196 results196 ?_;exact bo;all_goals exact dg
def jJ (v:Vpc)(id:Int):Vpc × Int:=
 if cn v≠0 then (Vpc.zero,cn v)else
 match v.subs.findIdx? (fun s=>s.id==id)with
 |none=>(Vpc.zero,5)
 |some i=>if (v.subs[i]?.map fun s=>s.faces.length)≠some 0 then (Vpc.zero,9)else ({v with subs:=v.subs.eraseIdx i},0)
theorem tN (sub id:Int):ae prog 196 [.ept [.v (.int .i64 0),.v (.slice none 0 0),.v (.slice none 0 0)],.v (.int .i64 sub),.v (.int .i64 id)] (.tup [.v (.int .i64 (-1)),.v (.int .i64 (-1))]):=by
 have ot:=(wz my (fun s=>s.id==sub) [] 255 [.ept [.v (.int .i64 sub)]] (by simp) (fun s _=>D3 s sub)).args (ds:=[.v (.slice none 0 0),.clo 255 [.ept [.v (.int .i64 sub)]]]) ⟨ap.nil _,ap.refl _,trivial⟩;unfold db at ot;simp only[List.findIdx?_nil]at ot;refine pj func196 ntmps196 results196 ?_;exact bo
theorem QM (v:Vpc)(id:Int):ae prog 109 [.agg (aD v),.v (.int .i64 id)] (.tup [.agg (aD (jJ v id).1),.v (.int .i64 (jJ v id).2)]):=by
 obtain⟨R,hR⟩:∃R,R=jJ v id:=⟨_,rfl⟩;rw[←hR];replace hR:=Xk hR;by_cases hc:cn v=0
 ·have hk:=bc hc;have cK:=lh v hc hk.n4 hk.n6 hk.n8;have gB:=vx v id 0 hk.n6 (fun s hs=>(hk.n8 s hs).1);have hn6:=hk.n6;unfold xm at gB;cases hf:v.subs.findIdx? (fun s=>s.id==id)with
  |none=>
   rw[hf]at gB;have hr:R=(Vpc.zero,5):=by rw[hR.out];unfold jJ;rw[if_neg (by simpa using hc),hf]
   rw[hr];clear hr hR hf hc hk;refine pj func109 ntmps109 results109 ?_;have z1z:=Ln.mk (ls:=[]) (cK);refine ay ?_<;>intros;exact dg
  |some i=>
   rw[hf]at gB;have hi:i < v.subs.length:=(XV.1 hf).1;obtain⟨s,hs⟩:∃s,v.subs[i]? =some s:=⟨_,Xj hi⟩;have p3:decide ((i:Int) < 0)=false:=by simp
   simp only at gB;generalize tM v i 0=FI at gB;by_cases h0:s.faces.length=0
   ·have hr:R=({v with subs:=v.subs.eraseIdx i},0):=by rw[hR.out];unfold jJ;rw[if_neg (by simpa using hc),hf];simp only;rw[hs];simp[h0]
    have hd:=Gc (enc:=bI) v.subs i (i+1) v.subs.length hi rfl;have dW:=wi i (by omega);have h0b:decide ((s.faces.length:Int)>0)=false:=by simp[h0]
    rw[hr];clear hr hR hf hc hk h0;refine pj func109 ntmps109 results109 ?_;have z1z:=Ln.mk (ls:=[]) (cK);have z2z:=Ln.mk (ls:=[5]) (hd);exact bo;all_goals exact dg
   ·have hr:R=(Vpc.zero,9):=by rw[hR.out];unfold jJ;rw[if_neg (by simpa using hc),hf];simp only;rw[hs];simp[h0]
    have h0b:decide ((s.faces.length:Int)>0)=true:=by simp;omega
    rw[hr];clear hr hR hf hc hk h0;refine pj func109 ntmps109 results109 ?_;have z1z:=Ln.mk (ls:=[]) (cK);refine ay ?_<;>intros;all_goals exact dg
 ·have cK:=lg v hc;have UA:=tN id 0;have h1:(cn v !=0)=true:=by simpa using hc
  have hr:R=(Vpc.zero,cn v):=by rw[hR.out];unfold jJ;rw[if_pos hc]
  rw[hr];replace hr:=Xk hr;refine pj func109 ntmps109 results109 ?_;have z1z:=Ln.mk (ls:=[]) (cK);refine ay ?_<;>intros;exact dg
def qX (used:List Int)(p:Pfx):Nat→Int→Option Int
 |0,_=>none
 |n+1,a=>if kL p a=true then (if a∈used then qX used p n (a+1)else some a)else none
def gF (s:Sbn):Option Int:=qX (s.faces.flatMap (·.addrs)) s.at_ 65536 (s.at_.at_+1)
theorem QN {p:Pfx}{a:Int}(h:kL p a=true):p.right=true∧p.at_ < a∧a < p.hi - 1∧a≤65535:=by
 unfold kL at h;simp only[Xy,decide_eq_true_eq]at h;have hr:=pE.1 (by rw[←rU];exact h.1);have hb:=p.hi_bd hr.1;have:p.hi=p.at_+gh p.len:=rfl;exact⟨hr.1,by omega,by omega,by omega⟩
theorem HI (s:Sbn)(h8:s.faces.length≤8)(h4:∀f∈s.faces,f.addrs.length≤4)(hr:s.at_.right=true)(lw:(s.faces.flatMap (·.addrs)).Nodup):ae prog 198 [.agg (bI s)] (.tup [.v (.int .i64 ((gF s).getD 0)),.v (.bool (gF s).isSome)]):=by
 obtain⟨r1,r2,r3,r4,-⟩:=s.at_.bd hr;replace lw:=Xk lw;refine pj func198 ntmps198 results198 ?_;refine ay ?_<;>intros;refine cf af al (fun m e h=>∃(k:Nat) (ents:List (List Int × Int)),k≤s.faces.length∧Tc ents ((s.faces.take k).flatMap (·.addrs))∧m=s.faces.length - k∧
  e=[(14,.d (.v (.int .i64 k))),(13,.d (.v (.int .i64 s.faces.length))),(12,.d (.sl 2 (s.faces.map cX))),(4,.mref 1),(3,.d (.v (.bool false))),(2,.d (.v (.int .i64 0))),(1,.ptr 0 0)]∧h=[.box 107 ((bI s).map .d),.mp 1 false ents]) _ _ _ ⟨0,[],XL _,Hq,rfl,rfl,rfl⟩ (wf) ?_
 rintro m e h ⟨k,ents,hk,pZ,hm,rfl,rfl⟩ C hC;by_cases hlt:k < s.faces.length
 ·have fy:(k:Int) < (s.faces.length:Int):=by omega
  have dW:=wi k (by omega);obtain⟨f,hf⟩:∃f,s.faces[k]? =some f:=⟨_,Xj hlt⟩;have jC:=h4 f (Xl hf);replace hm:=Xk hm;replace pZ:=Xk pZ;refine ay ?_<;>intros;refine cf af al (fun m e h=>∃(j:Nat) (ents:List (List Int × Int)),j≤f.addrs.length∧Tc ents ((s.faces.take k).flatMap (·.addrs)++f.addrs.take j)∧m=f.addrs.length - j∧
   e=[(21,.d (.v (.int .i64 j))),(20,.d (.v (.int .i64 f.addrs.length))),(19,.d (.sl 1 (f.addrs.map dF))),(14,.d (.v (.int .i64 k))),(13,.d (.v (.int .i64 s.faces.length))),(12,.d (.sl 2 (s.faces.map cX))),(4,.mref 1),(3,.d (.v (.bool false))),(2,.d (.v (.int .i64 0))),(1,.ptr 0 0)]∧h=[.box 107 ((bI s).map .d),.mp 1 false ents]) _ _ _ ⟨0,ents,XL _,by simpa using pZ.out,rfl,rfl,rfl⟩ (wf) ?_
  rintro m2 e h ⟨j,en2,hj,iF,jk,rfl,rfl⟩ C2 kz;by_cases Az:j < f.addrs.length
  ·have mb:(j:Int) < (f.addrs.length:Int):=by omega
   have rf:=wi j (by omega);obtain⟨a,ha⟩:∃a,f.addrs[j]? =some a:=⟨_,Xj Az⟩;have Ug:=iF a;have gx:f.addrs.take (j+1)=f.addrs.take j++[a]:=ah ha;have hd:a∉(s.faces.take k).flatMap (·.addrs)++f.addrs.take j:=by
    have xS:((s.faces.take k).flatMap (·.addrs)++f.addrs.take (j+1)).Sublist (s.faces.flatMap (·.addrs)):=by
     conv=>rhs;rw[←YU k s.faces,oX hf,Y1,ZF]
     exact List.Sublist.append (List.Sublist.refl _) ((Y' _ _).trans (List.sublist_append_left _ _))
    have:=xS.nodup lw.out;rw[gx,←XT,qM]at this;exact this.2
   rw[if_neg hd]at Ug;have ly:=DA iF hd;replace iF:=Xk iF;replace ly:=Xk ly;replace jk:=Xk jk;replace gx:=Xk gx;have cI:IntKind.i64.wrap 1=1:=by decide
   refine ay ?_<;>intros;refine kz _ _ _ _ _ ?_ ⟨j+1,mo en2 [a] 1,Az,?_,rfl,rfl,rfl⟩ (wf)
   ·have:=jk.out;omega
   ·rw[gx.out,←XT];exact ly.out
  ·obtain rfl:j=f.addrs.length:=by omega
   rw[Xq]at iF;have vd:(s.faces.take (k+1)).flatMap (·.addrs)=(s.faces.take k).flatMap (·.addrs)++f.addrs:=by rw[ah hf,Y1];simp
   replace jk:=Xk jk;replace iF:=Xk iF;replace vd:=Xk vd;refine ay ?_<;>intros;refine hC _ _ _ _ _ ?_ ⟨k+1,en2,hlt,?_,rfl,rfl,rfl⟩ (wf)
   ·have:=hm.out;omega
   ·rw[vd.out];exact iF.out
 ·obtain rfl:k=s.faces.length:=by omega
  rw[Xq]at pZ;replace pZ:=Xk pZ;replace hm:=Xk hm;have bV:IntKind.i64.wrap (s.at_.at_+1)=s.at_.at_+1:=by rw[IntKind.wrap_i64];omega
  refine ay ?_<;>intros;refine cf af al (fun m e h=>∃(i:Nat) (a:Int),i≤65536∧a=s.at_.at_+1+i∧gF s=qX (s.faces.flatMap (·.addrs)) s.at_ (65536 - i) a∧m=65536 - i∧
   e=[(9,.d (.v (.int .i64 a))),(4,.mref 1),(3,.d (.v (.bool false))),(2,.d (.v (.int .i64 0))),(1,.ptr 0 0)]∧h=[.box 107 ((bI s).map .d),.mp 1 false ents]) 65536 _ _ ⟨0,s.at_.at_+1,XL _,by simp,rfl,rfl,rfl,rfl⟩ (wf) ?_
  rintro m2 e h ⟨i,a,hi,WO,hle,jk,rfl,rfl⟩ C2 kz;have fl:=Ho s.at_ a;cases b1:kL s.at_ a with
  |false=>
   rw[b1]at fl;have yi:gF s=none:=by
    rw[hle];cases 65536 - i with
    |zero=>rfl
    |succ n=>rw[qX,if_neg (by simp[b1])]
   replace hle:=Xk hle;replace WO:=Xk WO;replace jk:=Xk jk;rw[yi];exact bo;all_goals exact dg
  |true=>
   have hb:=QN b1;obtain⟨n,hn⟩:∃n,65536 - i=n+1:=⟨65536 - i - 1,by omega⟩;rw[hn,qX,if_pos b1]at hle;rw[b1]at fl;have Ug:=pZ.out a;have B7:IntKind.i64.wrap (a+1)=a+1:=by rw[IntKind.wrap_i64];omega
   replace WO:=Xk WO;replace jk:=Xk jk;by_cases hu:a∈s.faces.flatMap (·.addrs)
   ·rw[if_pos hu]at Ug hle;replace hle:=Xk hle;refine ay ?_<;>intros;refine kz _ _ _ _ _ ?_ ⟨i+1,a+1,by omega,by rw[WO.out];omega,?_,rfl,rfl,rfl⟩ (wf)
    ·have:=jk.out;omega
    ·rw[hle.out];congr 1;omega
   ·rw[if_neg hu]at Ug hle;rw[hle];replace hle:=Xk hle;exact bo;all_goals exact dg
theorem Ai {v:Vpc}(hk:VpcOK v){s:Sbn}(hs:s∈v.subs):s.at_.right=true∧(s.faces.flatMap (·.addrs)).Nodup∧(s.faces.Pairwise fun a b=>a.id < b.id)∧∀f∈s.faces,kM s.at_ f=true:=by
 have h:=hk.subs s hs;unfold lZ eS dh at h;simp only[Xy,Yd,XB,decide_eq_true_eq,fQ]at h;obtain⟨-,⟨r,-,hr⟩,h1,h2,h3⟩:=h;exact⟨(oW.1 hr).1,h2,h3,h1⟩
theorem nG {α:Type}{p:α→Bool}{l:List α}{i:Nat}(h:l.findIdx? p=some i):∃pre x post,l=pre++x::post∧pre.length=i∧p x=true∧l[i]? =some x:=by
 obtain⟨hlt,hp,-⟩:=XV.1 h;exact⟨l.take i,l[i],l.drop (i+1),by rw[List.getElem_cons_drop,YU],by rw[Xp];omega,hp,Xj hlt⟩
def lP (s:Sbn)(id:Int):Int:=
 if cU id=false then 3 else if (s.faces.any fun f=>f.id==id)=true then 6 else if s.faces.length=8 then 2 else if (gF s).isSome=false then 8 else 0
def mQ (v:Vpc)(sub id:Int):Vpc × Int × Int:=
 if cn v≠0 then (Vpc.zero,0,cn v)else
 match v.subs.findIdx? (fun s=>s.id==sub)with
 |none=>(Vpc.zero,0,5)
 |some i=>match v.subs[i]? with
  |none=>(Vpc.zero,0,5)
  |some s=>if lP s id≠0 then (Vpc.zero,0,lP s id)else ({v with subs:=v.subs.set i {s with faces:=fw (·.id) ⟨id,[(gF s).getD 0]⟩ s.faces}},(gF s).getD 0,0)
theorem QO (v:Vpc)(sub id:Int):ae prog 110 [.agg (aD v),.v (.int .i64 sub),.v (.int .i64 id)] (.tup [.agg (aD (mQ v sub id).1),.v (.int .i64 (mQ v sub id).2.1),.v (.int .i64 (mQ v sub id).2.2)]):=by
 obtain⟨R,hR⟩:∃R,R=mQ v sub id:=⟨_,rfl⟩;rw[←hR];replace hR:=Xk hR;by_cases hc:cn v=0
 ·have hk:=bc hc;have gB:=vx v sub id hk.n6 (fun s hs=>(hk.n8 s hs).1);unfold xm at gB;cases hf:v.subs.findIdx? (fun s=>s.id==sub)with
  |none=>
   have cK:=lh v hc hk.n4 hk.n6 hk.n8;rw[hf]at gB;have hr:R=(Vpc.zero,0,5):=by rw[hR.out];unfold mQ;rw[if_neg (by simpa using hc),hf]
   rw[hr];clear hr hR hf hc hk;refine pj func110 ntmps110 results110 ?_;have z1z:=Ln.mk (ls:=[]) (cK);refine ay ?_<;>intros;exact dg
  |some i=>
   obtain⟨pre,s,post,hv,oa,-,hs⟩:=nG hf;have qs:=Xl hs;obtain⟨s1,s2,s3,s4⟩:=Ai hk qs;have qt:=hk.n8 s qs;have cK:=xk v pre post s hv hc hk.n4 hk.n6 hk.n8;have hle:=HI s qt.1 qt.2 s1 s2;have hid:=kJ id;have pn:=go (fun f=>f.id==id) s.faces;have p3:decide ((i:Int) < 0)=false:=by simp
   have cJ:R=if lP s id≠0 then (Vpc.zero,0,lP s id)else ({v with subs:=pre++{s with faces:=fw (·.id) ⟨id,[(gF s).getD 0]⟩ s.faces}::post},(gF s).getD 0,0):=by
    rw[hR.out];unfold mQ;rw[if_neg (by simpa using hc),hf];simp only;rw[hs];simp only;rw[hv,←oa,Zc _ _ (XC _),Y8,Xv]
   rw[hf]at gB;simp only at gB;unfold tM at gB;rw[hs]at gB;simp only[aD,hv,Xz,Xm,bI]at gB;have BM:v.subs.length=pre.length+1+post.length:=by rw[hv];simp;omega
   subst oa;simp only[bI]at hle;by_cases bP:lP s id≠0
   ·rw[if_pos bP]at cJ;unfold lP at cJ bP;generalize cU id=I at*;generalize db (fun f=>f.id==id) s.faces=IX at*;generalize (s.faces.any fun f=>f.id==id)=M at*;generalize gF s=LS at*;have U0:((s.faces.length:Int)==8)=decide (s.faces.length=8):=by rw[Yl];simp;omega
    replace cJ:=Xk cJ;replace bP:=Xk bP;clear hR hc hk hf hs qs hv;refine pj func110 ntmps110 results110 ?_;have z1z:=@fI.eq_1;have z2z:=Ln.mk (ls:=[]) (cK);refine rY ?_ ?_ ?_ ?_ ?_ ?_ ?_ ?_<;>first|(with_reducible exact True.intro)|intros
    all_goals
     have h1:=cJ.out;have h2:=bP.out;clear gB hid hle cK;first
      |(exfalso;grind)
      |(rw[show R=(Vpc.zero,0,3) from (by rw[h1];grind)];exact dg)
      |(rw[show R=(Vpc.zero,0,6) from (by rw[h1];grind)];exact dg)
      |(rw[show R=(Vpc.zero,0,2) from (by rw[h1];grind)];exact dg)
      |(rw[show R=(Vpc.zero,0,8) from (by rw[h1];grind)];exact dg)
   ·rw[if_neg bP]at cJ;have hg:lP s id=0:=by simpa using bP
    obtain⟨g1,g2,g3,g4⟩:cU id=true∧(s.faces.any fun f=>f.id==id)=false∧s.faces.length≠8∧(gF s).isSome=true:=by
     unfold lP at hg;generalize (s.faces.any fun f=>f.id==id)=M at*;grind
    obtain⟨a,ha⟩:=Zy.1 g4;have bH:∀f∈s.faces,f.id≠(⟨id,[a]⟩:Fce).id:=fun f hf=>by have:=Yw.1 g2 f hf;simpa using this
    have oq:=JJ (l:=s.faces++[⟨id,[a]⟩]) (l':=fw (·.id) ⟨id,[a]⟩ s.faces) (s.faces.length+1) (by simp) (fR _ _ _) (fJ s3 bH) (by simp;omega);rw[ha]at hle cJ;rw[g1]at hid;rw[g2]at pn;simp only[Yy,XJ]at hle cJ;have U0:((s.faces.length:Int)==8)=false:=by simp;omega
    have pT:s.faces.length+1≤100:=by omega
    simp only[Xz,Xm,Xx]at oq;rw[cJ];clear hR cJ hc hk bH hg bP hf hs qs hv g4 ha;refine pj func110 ntmps110 results110 ?_;have z1z:=@fI.eq_1;have z2z:=Ln.mk (ls:=[]) (cK);have z3z:=Ln.mk (ls:=[8]) (oq);refine ay ?_<;>intros;all_goals(simp only[aD,bI,Xz,Xm];exact dg)
 ·have cK:=lg v hc;have h1:(cn v !=0)=true:=by simpa using hc
  have hr:R=(Vpc.zero,0,cn v):=by rw[hR.out];unfold mQ;rw[if_pos hc]
  rw[hr];replace hr:=Xk hr;refine pj func110 ntmps110 results110 ?_;have z1z:=Ln.mk (ls:=[]) (cK);refine ay ?_<;>intros;exact dg
section
open Go.Proofs Go.Shelf
theorem yK (F:Array Int)(cur:Array Value)(h:F.size≤cur.size):(Sort.putCells (Value.int .i64) 0 F cur).toList.take F.size=F.toList.map (Value.int .i64)∧(Sort.putCells (Value.int .i64) 0 F cur).size=cur.size:=by
 refine⟨?_,by simp[Sort.putCells]⟩;apply Yh;intro i;by_cases hi:i < F.size
 ·rw[XQ hi];have hc:i < cur.size:=by omega
  simp[Sort.putCells,hi,hc]
 ·rw[XN (by rw[Xp];omega),XN (by simp;omega)]
theorem Ns {l l':List Int}(hp:l'.Perm l)(hs:l'.Pairwise fun x y=>x < y):(l.mergeSort fun x y=>decide (x≤y))=l':=by
 refine List.Perm.eq_of_pairwise (le:=fun x y:Int=>x≤y) (fun a b _ _ h1 h2=>by omega) ?_ (hs.imp fun h=>by omega) ((List.mergeSort_perm l _).trans hp.symm);have:=List.pairwise_mergeSort (le:=fun x y:Int=>decide (x≤y)) (fun a b c h1 h2=>by simp at*;omega) (fun a b=>by simp;omega) l;exact this.imp fun h=>by simpa using h
theorem JK {P:Program}{ρ:Ren}(L:SlLaysN.n53 P ρ){f E g:Nat}(hf:ρ.f 53=f)(RU:vR P f){l l':List Int}(p5:l≠[])(hp:l'.Perm l)(hs:l'.Pairwise fun x y=>x < y)(cM:l.length≤1000000):
 MSpec P f [.own 0 g] [.row E 1 g (ab (l.map dF))] (.d (.tup [])) [.row E 1 g (ab (l'.map dF))]:=by
 refine⟨RU,XC _,by simp[ai,aj],by simp[az,aH,aq],fun X hP hn hm w c vs hr kg=>?_⟩;have aT:=kg.1;match vs,aT with
 |[v0],_=>
  have r0:=kg.2 0 _ v0 rfl rfl;have bH:ab (l.map dF)≠[]:=by simpa[ab]using p5
  have bD:=hr.chunk 0;have jC:∀m:List Int,(ab (m.map dF)).flatten=m.map fun a=>PV.d (.v (.int .i64 a)):=by
   intro m;rw[p9];induction m with
   |nil=>rfl
   |cons a m ih=>simp[dF,ih]
  cases r0 with
  |own _ _ _ ed h1=>
   obtain⟨gb,cap,rfl⟩:=ml bD ed bH;obtain⟨cur,xs,q1,q2,q3,q4,q5,q6,q7,q8,q9,q10,q11⟩:=dV bD ed bH;have US:(ab (l.map dF)).length=l.length:=by rw[aC,XF]
   rw[US]at q3 q4 q8 q10 ed ⊢;rw[Nat.mul_one]at q3 q4 q8 q11;rw[jC]at q2;have Kz:xs=l.map (Value.int .i64):=by
    apply Yh;intro j;by_cases hj:j < l.length
    ·obtain⟨u,e1⟩:∃u,xs[j]? =some u:=⟨_,Xj (by omega)⟩;have:=q2.2 j (.d (.v (.int .i64 l[j]))) u (by rw[XA,Xj hj];rfl) e1;rw[e1,XA,Xj hj];cases bS this;rfl
    ·rw[XN (by omega),XN (by simp;omega)]
   have hH:Sort.Holds (Value.int .i64) w gb 0 l.toArray:=by
    intro j hj;have hj':j < l.length:=by simpa using hj
    have bY:∀o,w.cell? ⟨gb,o,none⟩=cur[o]? :=fun o=>by simp[YQ,q1]
    refine⟨?_,gj q1⟩;rw[XK,bY,q4 j hj',Kz,XA,Xj hj',getElem!_pos l.toArray j hj];simp
   have hg:gb < w.heap.size:=(Yq.1 q1).1;have iD:=AnyG.slices_Sort_int L gb 0 cap l w hH hg (by omega);rw[hf,Ns hp hs]at iD;refine iD.mono fun e w' ⟨he,m,os,hw'⟩=>?_;have OW:l'.length=l.length:=hp.length_eq;obtain⟨p1,p2⟩:=yK l'.toArray cur (by simp;omega);have tU:0 < cap:=by have:=Zh.2 p5;omega
   have hhb:w'.heap[gb]? =some (.cells (Sort.putCells (Value.int .i64) 0 l'.toArray cur) E (0,0)):=by
    rw[hw',Sort.heap_grow_old _ _ (by simpa using hg)];show (w.heap.modify gb (Sort.onCells _))[gb]? =_;rw[Y0,if_pos rfl,q1];rfl
   have di:OneB w w' (some gb):=by
    refine⟨by rw[hw'];rfl,by rw[hw'];rfl,by rw[hw'];rfl,?_,fun b hb bH=>?_⟩
    ·rw[hw',Sort.size_grow,Sort.size_putRow,Sort.heap_ahead];omega
    ·rw[hw',Sort.heap_grow_old _ _ (by simpa using hb)];show (w.heap.modify gb (Sort.onCells _))[b]? =_;rw[Y0,if_neg (fun e=>bH (by rw[e]))]
   have GM:∀r∈ab (l'.map dF),r.length=1:=fun r hr=>by
    obtain⟨q,hq,rfl⟩:=gI hr;obtain⟨x,-,rfl⟩:=XH.1 hq;rfl
   have pm:bj c w (ab (l'.map dF)).flatten (l'.map (Value.int .i64)):=by
    rw[jC];refine⟨by simp,fun j d v hj hv=>?_⟩;rw[XA,XG]at hj hv;obtain⟨a,ha,rfl⟩:=hj;obtain⟨b,hb,rfl⟩:=hv;rw[ha]at hb;cases hb;exact .d _ _ (.v _)
   have EU:=hr.put_row (w':=w') (k:=0) (rows':=ab (l'.map dF)) (xs':=l'.map (Value.int .i64)) rfl ed (by rw[cF tU];exact di) (by
    rw[aC,XF,OW];exact .row gb l.length cap _ _ tU hhb q10 q9 (by rw[p2,Nat.mul_one];exact q11) (by rw[XF,Nat.mul_one];omega) (by
     rw[Nat.mul_one,←OW,show l'.length=l'.toArray.size by simp,p1])) pm GM (qK (enc:=dF) (fun _=>rfl) l')
   have mZ:cz [(0,Chunk.row E 1 g (ab (l'.map dF)))] (bG [] [.row E 1 g (ab (l.map dF))]).heap=aw [.row E 1 g (ab (l'.map dF))]:=by
    funext k;rw[ry];cases k with
    |zero=>rfl
    |succ k=>rfl
   rw[mZ]at EU;refine⟨_,c,he,.d _ _ (.tup [] [] rfl fun j d x h=>by simp at h),EU⟩
theorem Nt {l l':List Int}(g:Nat)(p5:l≠[])(hp:l'.Perm l)(hs:l'.Pairwise fun x y=>x < y)(cM:l.length≤1000000):MSpec prog 201 [.own 0 g] [.row 3 1 g (ab (l.map dF))] (.d (.tup [])) [.row 3 1 g (ab (l'.map dF))]:=
 JK sortInt rfl (bU func201 (by kernel_rfl) rfl) p5 hp hs cM
end
end Go.Proofs.YtojojebildofnaaGreatDoor
