/- Texts of this work, joined. -/
import Derived.Test.YtmicljipaiohkaaGreatZHSitePlays3
import Derived.Deep.RegionLaw
import Derived.Shelf.RegionOpenPlain
import Derived.Lib.Overlaps
import Derived.Lib.AppendZerosOnto
import Derived.Laws.Externs
import Derived.Lib.SliceRun
import Derived.Deep.Slices
import Derived.Deep.Fields
import Derived.ChangeSame
import Derived.OpenShut
import Derived.ProofKit
import Derived.Carry
import Derived.ChangeMaps5
import Derived.DataShut
import Derived.Shelf.SlSortCmp.WholeK
import Derived.Sort.Grow
set_option linter.unusedSimpArgs false
set_option linter.unusedVariables false
set_option maxRecDepth 100000
set_option maxHeartbeats 16000000
namespace Go.Proofs.YtmicljipaiohkaaGreat
open Go Go.RowKit Go.Proofs.Tryz
open Go.Lib renaming hid → Xj
open _root_.List renaming getElem?_eq_getElem → Xk, mem_of_getElem? → Xl, map_cons → Xm, getElem?_eq_some_iff → Xn, map_append → Xo, length_take → Xp, setIfInBounds_toArray → Xq, take_length → Xt, map_nil → Xu, set_cons_zero → Xv, set_cons_succ → Xx, getElem?_map → Xz, length_cons → XA, length_map → XC, all_eq_true → XE, pairwise_iff_getElem → XF, findIdx?_eq_some_iff_getElem → XH, length_drop → XI, getD_eq_getElem?_getD → XJ, getElem?_append_right → XK, take_of_length_le → XN, mem_map → XQ, getElem?_take_of_lt → XS, getElem?_eq_none → XT, any_eq_true → XU, replicate → XV, length_append → XY, length_nil → XZ, mem_iff_getElem → X0, mem_append → X2, append_assoc → X3, getElem?_append_left → X4, range → X5, mem_cons → X7, cons_append → X8, eq_nil_of_length_eq_zero → X9, nil_append → Ya, getElem_of_mem → Yb, mem_singleton → Yc, mem_of_mem_drop → Yd, take → Yf, mem_of_mem_take → Yg, any_eq_false → Yh, ext_getElem? → Yj, getElem?_drop → Yk, take_append_of_le_length → Yl, getElem_mem → Ym, findIdx?_eq_none_iff → Yn, find?_eq_none → Yq, set_append_right → Yt, append_nil → Yv, getElem?_cons_succ → Yw, pairwise_cons → YC, mem_of_find?_eq_some → YF, size_toArray → YH, foldl_cons → YO, drop_eq_getElem_cons → YQ, mem_range → YR, pairwise_append → YT, flatten_cons → YU, take_append_drop → YX, filter_eq_self → Y0, toList_toArray → Y1, all_eq_false → Y2, pairwise_map → Y3, mem_or_eq_of_mem_set → Y4, drop_length → Y7, mem_map_of_mem → Y8, length_filter_le → Za, length_pos_iff → Zd, find?_some → Zh, filter_filter → Zi, getElem?_take → Zj, map_congr_left → Zr, flatMap_append → Zs, mem_filter → Zt, eq_of_mem_replicate → Zv, getElem_take → ZA, map_take → ZH, contains_iff_mem → ZL, all_append → ZO, mem_flatten → ZW, getElem_cons_drop → ZZ, filter_congr → Z2, getElem?_set → Z3, getElem_map → A', flatten_append → B', nodup_append → N', take_sublist → O', map_toArray → _f
open Go.World renaming size_alloc → Xr, heap_drewN → Xs, size_drew → Xw, cell? → YS, cell?_of_block → Zl, setRow → ZE
open _root_.Bool renaming and_eq_true → Xy, eq_iff_iff → Yi, and_self → Yp, true_and → Yr, and_true → YA, false_eq_true → YB, eq_false_iff → YE, not_eq_true' → Zz, and_eq_false_iff → ZK, false_or → ZT, and_assoc → P'
open _root_.Nat renaming le_refl → XB, zero_le → XD, zero_add → XG, reduceEqDiff → XL, reduceAdd → XM, lt_or_ge → XP, add_zero → XW, sub_zero → Yo, mul_le_mul_right → Ys, lt_of_lt_of_le → Yx, le_trans → Yy, sub_self → YG, not_lt_zero → YJ, succ_mul → YY, lt_trichotomy → Zb, mul_comm → Zp, min_self → Zq, div_lt_of_lt_mul → Zw, add_assoc → ZF, eq_zero_or_pos → ZJ, min → ZM, div_add_mod → ZN, add_mul → ZQ, reduceLT → ZR, min_def → Z6, le_of_lt → p', lt_or_eq_of_le → G', le_of_lt_succ → Q', mod_lt → Y', one_le_two_pow → Z', not_lt → _g
open _root_.Option renaming map_eq_some_iff → XO, isSome_some → XR, some → XX, map_some → Ye, isNone_some → YD, isSome_none → YZ, bind_some → Y6, isSome_iff_exists → Zf, map_none → Zg, isNone_none → Zk
open _root_.Array renaming getElem?_toList → X6, getElem?_eq_some_iff → Yz, getElem?_eq_none → YM, getElem?_eq_getElem → YP, replicate → Y5, getElem?_modify → Y9
open _root_.Int renaming dvd_of_emod_eq_zero → YL, lt_irrefl → YN, emod_eq_zero_of_dvd → ZB, le_refl → ZG, fdiv_eq_ediv_of_nonneg → Z5, lt_or_le → z', dvd_trans → C', max_eq_right → _e, max_eq_left → _i
section
open Go.Proofs
theorem eM {P:Program}{w:World}{dT sT e:TypeId}{ie:TypeInfo}{sz g o dl dc sl sc:Nat}{a:Addr}{cur:Array Value}{E:TypeId}(ys:List Value)
 (ht:P.underlying dT=some (.slice e)) (hi:P.info? e=some ie) (cP:ie.size=sz) (hn:ys.length=ZM sl dl*sz) (rG:∀j u,ys[j]? =some u→w.cell? (a.add j)=some u) (h1:∀u∈ys,u.oneCell'=true)
 (hh:w.heap[g]? =some (.cells cur E (0,0))) (ho:o+ys.length≤cur.size) (ty:TypeId):
 (Builtin.copy_ #[dT,sT] ty #[.slice (some ⟨g,o,none⟩) dl dc,.slice (some a) sl sc]).run P w= .ok (goInt (ZM sl dl)) (w.setRow g (ay cur.toList o ys).toArray):=by
 have Uj:=run_firstCells_some (P:=P) w sz (ZM sl dl) a sl sc ys hn rG;have dP:=run_storeCells_at P g o E ys 0 cur w hh (by simp;omega) h1;have pk:(storeCells ⟨g,o,none⟩ ys).run P w= .ok () (w.setRow g (ay cur.toList o ys).toArray):=by
  rw[dP];simp[ay]
 simp[Builtin.copy_,run_underlying ht,Builtin.lenOf,sizeOf,typeInfo,hi,cP,Uj,pk]
theorem jA {P:Program}(w:World){ops:Array Oper}{rest:List Oper}{o:Oper}{a:Act}{Q:Exit→Act→World→Prop}(UT:o.guard=none)(d s:Operand)(t t':TypeId)
 (ho:o.op= .call {callee:= .builtin .copy,args:=#[d,s],argTypes:=#[t,t']}) (v u:Value) (hd:a.eval d=v) (hs:a.eval s=u) {v':Value}{w':World}
 (hr:(Builtin.copy_ #[t,t'] o.type #[v,u]).run P w= .ok v' w') (h:wpList P ops Q rest (a.put o.dst v') w'):wpList P ops Q (o::rest) a w:=
 wpList_plain UT fun _ hK=>by
  unfold Oper.wp;simp only[execOp,ho,resolve,invoke,builtin,Sem.run_bind,Sem.run_pure,Result.andThen_ok,_f,Xm,Xu,hd,hs,hr];exact hK _ _ h
theorem lG {P:Program}{ops:Array Oper}{o:Oper}{a:Act}{w:World}{K:Act→World→Prop}{Q:Exit→Act→World→Prop}{E:Prop}(hg:o.guard=none)(d x:Operand)(dT sT:TypeId)
 (lQ:o.op=Op.call {callee:=Callee.builtin Builtin.copy,args:=#[d,x],argTypes:=#[dT,sT]}) (v u:Value) (hd:a.eval d=v) (hx:a.eval x=u) {v':Value}{w':World}
 (hr:(Builtin.copy_ #[dT,sT] o.type #[v,u]).run P w= .ok v' w') (hK:K (a.put o.dst v') w'):if Region.wanted o (yielded ops a.tmps)=true then Oper.wp P o a w K Q else E:=by
 have hw:Region.wanted o (yielded ops a.tmps)=true:=by simp[Region.wanted,hg]
 rw[if_pos hw];unfold Oper.wp;simp only[execOp,lQ,resolve,invoke,builtin,Sem.run_bind,Sem.run_pure,Result.andThen_ok,_f,Xm,Xu,hd,hx,hr];exact hK
theorem pD {P:Program}(w:World){ops:Array Oper}{rest:List Oper}{o:Oper}{a:Act}{Q:Exit→Act→World→Prop}(UT:o.guard=none)(d s:Operand)(t t':TypeId)
 (ho:o.op= .call {callee:= .builtin .append,args:=#[d,s],argTypes:=#[t,t']}) (v u:Value) (hd:a.eval d=v) (hs:a.eval s=u) {v':Value}{w':World}
 (hr:(Builtin.append_ #[t,t'] o.type #[v,u]).run P w= .ok v' w') (h:wpList P ops Q rest (a.put o.dst v') w'):wpList P ops Q (o::rest) a w:=
 wpList_plain UT fun _ hK=>by
  unfold Oper.wp;simp only[execOp,ho,resolve,invoke,builtin,Sem.run_bind,Sem.run_pure,Result.andThen_ok,_f,Xm,Xu,hd,hs,hr];exact hK _ _ h
theorem mz {P:Program}(w:World)(tS tR e:TypeId)(ht:P.underlying tS=some (.slice e))(size:Nat)(hz:∀w,(Go.sizeOf e).run P w= .ok size w)(a b:Addr)(la ca lb cb:Nat)(bB:a.block≠b.block)(sA:TypeId × Nat)(zh:w.shape? a.block=some sA)(I7:sA.2≠0)
 (cur:Array Value) (E:TypeId) (hb:w.heap[b.block]? =some (.cells cur E (0,0))) (hc:cur.size≠0):
 (Extern.SlicesOverlaps.overlaps #[tS,tS] #[tR] #[.slice (some a) la ca,.slice (some b) lb cb]).run P w= .ok (.bool false) w:=by
 have hnb:(a.block !=b.block)=true:=by simpa using bB
 have UU:(a.block==b.block)=false:=by simpa using bB
 have xJ:w.shape? b.block=some (E,cur.size):=by simp[World.shape?,hb]
 have lu:∀o,w.frozen? ⟨b.block,o,none⟩=false:=fun o=>by simp[World.frozen?,hb]
 have UV:w.frozen? b=false:=by simp[World.frozen?,hb]
 obtain⟨k,hk⟩:∃k,cur.size=k+1:=⟨cur.size - 1,by omega⟩;rw[hk]at xJ;change Sem.run P (α:=Value) (do
  let some t:=(#[tS,tS]:Array TypeId)[0]? |stuck "slices.overlaps: no parameter types"
  let .slice elem ←underlying t|stuck "slices.overlaps: slice type expected"
  let size ←sizeOf elem
  match (some a:Option Addr),(some b:Option Addr)with
  |some a,some b=>
   if la=0∨lb=0∨size=0 then pure (Value.bool false)
   else if a.block !=b.block&&(←frozen a)&&(←frozen b)then unsupported .addressObserved
   else do
    if a.block !=b.block then do
     noView a;noView b
     if ←mayBeOne a b then return Value.bool ((←choose (.extern "sameAddr.stringBytes" 2))==1)
    pure (Value.bool (a.block==b.block&&a.off < b.off+lb*size&&b.off < a.off+la*size))
  |_,_=>pure (Value.bool false)) w=_
 by_cases h0:la=0∨lb=0∨size=0
 ·simp[run_underlying ht,hz,h0]
 ·obtain⟨tA,nA⟩:=sA;obtain⟨q,rfl⟩:∃q,nA=q+1:=⟨nA - 1,by simp at I7;omega⟩;cases jY:w.frozen? a<;>cases UW:w.frozen? ⟨a.block,q+1,none⟩<;>
   simp[run_underlying ht,hz,h0,hnb,UU,frozen,noView,viewAt,mayBeOne,stringish,shape,Sem.run,zh,xJ,jY,UW,lu,UV]
def z0 (w:World)(E g sz n:Nat)(zs:List Value)(e:Ending)(w':World):Prop:=
 ∃(G:Nat) (R:List Value),n+1≤G∧G≤9223372036854775807∧R.length=G*sz∧R.take ((n+1)*sz)=zs∧e= .returned (.slice (some ⟨w.heap.size,0,none⟩) (n+1) G)∧OneB w w' (some g)∧w'.heap[w.heap.size]? =some (.cells R.toArray E (0,0))
theorem mA {w:World}{g:Nat}{cur:Array Value}{E:TypeId}(hh:w.heap[g]? =some (.cells cur E (0,0)))(o:Nat):w.cell? ⟨g,o,none⟩=cur[o]? :=by
 simp[YS,hh]
def Qf (w:World)(E sz g n:Nat)(zs:List Value)(e:Ending)(w':World):Prop:=
 ∃v',e= .returned v'∧OwnV w' E sz v' n zs∧OneB w w' (some g)∧(fm v'=some g∨∀b,fm v'=some b→w.heap.size≤b)
theorem tC {w:World}{b o:Nat}{u:Value}(h:w.cell? ⟨b,o,none⟩=some u):∃sA,w.shape? b=some sA∧sA.2≠0:=by
 cases hb:w.heap[b]? with
 |none=>simp[YS,hb]at h
 |some ob=>
  cases ob with
  |cells c e f=>
   have h':c[o]? =some u:=by simpa[YS,hb]using h
   have:=(Yz.1 h').1;exact⟨(e,c.size),by simp[World.shape?,hb],by simp only;omega⟩
  |_=>simp[YS,hb]at h
theorem KF {P:Program}{f E sz g i:Nat}{rows:List (List D)}{x:List D}(Rg:xg P f)(wJ:0 < sz)(hi:i < rows.length)
 (raw:∀(w:World) (gb cap vb vo vc:Nat) (cur:Array Value) (xs ys:List Value),w.heap[gb]? =some (.cells cur E (0,0))→cap≤maxLen→rows.length≤cap→cur.size=cap*sz→xs.length=rows.length*sz→cur.toList.take (rows.length*sz)=xs→(∀u∈xs,u.oneCell'=true)→
  ys.length=sz→(∀u∈ys,u.oneCell'=true)→vb≠gb→(∀j u,ys[j]? =some u→w.cell? ⟨vb,vo+j,none⟩=some u)→
  Calls P f #[.slice (some ⟨gb,0,none⟩) rows.length cap,.int .i64 i,.slice (some ⟨vb,vo,none⟩) 1 vc] w (Qf w E sz gb (rows.length+1) (xs.take (i*sz)++ys++xs.drop (i*sz)))):
 MSpec P f [.own 0 g,.d (.v (.int .i64 i)),.d (.sl sz [x])] [.row E sz g (ab rows)] (.own 0 (g+1)) [.row E sz (g+1) (ab (rows.take i++x::rows.drop i))]:=by
 refine⟨Rg,XB _,by simp[an,aq],by simp[aH,aQ,az],fun X hP hn hm w c vs hr lq=>?_⟩;have bT:=lq.1;match vs,bT with
 |[v0,v1,v2],_=>
  have r0:=lq.2 0 _ v0 rfl rfl;have r1:=co (lq.2 1 _ v1 rfl rfl);have r2:=co (lq.2 2 _ v2 rfl rfl);have bB:ab rows≠[]:=fun e=>by
   have:rows.length=0:=by rw[←aF rows,e];rfl
   omega
  have bc:=hr.chunk 0;cases r0 with
  |own _ _ _ ee h1=>
   obtain⟨gb,cap,rfl⟩:=lZ bc ee bB;obtain⟨cur,xs,q1,q2,q3,q4,q5,q6,q7,q8,q9,q10,q11⟩:=ed bc ee bB;have Mu:=bG.one q2 (fun d hd=>by obtain⟨r,hr,hd⟩:=ZW.1 hd;exact q6 r hr d hd);rw[aF]at q3 q4 q8 q10 ee ⊢;cases r1;have hMg:c.M gb:=(hr.mu gb).2 (.inr ⟨0,by
    have xN:0 < cap:=by omega
    simp only[bQ,aG,Cx.block,ee,Y6];exact dh xN⟩)
   have L3:cur.toList.take (rows.length*sz)=xs:=by
    apply Yj;intro j;by_cases hj:j < rows.length*sz
    ·rw[XS hj,X6,q4 j hj]
    ·rw[XT (by rw[Xp];omega),XT (by omega)]
   cases r2 with
   |sl _ _ vb vo vc ff hM hb hc' hm' hr' h1' dy bA=>
    obtain⟨ys,y1,-,y2,y3,y4,y5,y6⟩:=uG (w:=w) wJ (RepD.sl (M:=c.M) sz [x] vb vo vc ff hM hb hc' hm' hr' h1' dy bA);have y1':ys.length=sz:=by simpa using y1
    have iW:=raw w gb cap vb vo vc cur xs ys q1 q9 q10 q11 q3 L3 Mu y1' y4 (fun e=>hM (e ▸ hMg)) (fun j u hj=>by have:=y3 j u hj;rwa [Addr.add_lit]at this);refine iW.mono fun e w' ⟨v',he,cX,eP,jy⟩=>?_;have Fj:∀r∈ab (rows.take i++x::rows.drop i),r.length=sz:=fun r hr=>by
     obtain⟨q,hq,rfl⟩:=iq hr;rw[XC];rcases X2.1 hq with h|h
     ·have:=q5 (q.map .d) (XQ.2 ⟨q,Yg h,rfl⟩);simpa using this
     ·rcases X7.1 h with rfl|h
      ·exact y5 _ (by simp)
      ·have:=q5 (q.map .d) (XQ.2 ⟨q,Yd h,rfl⟩);simpa using this
    have Rh:∀r∈ab (rows.take i++x::rows.drop i),∀d∈r,d.one=true:=fun r hr d hd=>by
     obtain⟨q,hq,rfl⟩:=iq hr;rcases X2.1 hq with h|h
     ·exact q6 (q.map .d) (XQ.2 ⟨q,Yg h,rfl⟩) d hd
     ·rcases X7.1 h with rfl|h
      ·obtain⟨y,hy,rfl⟩:=XQ.1 hd;exact y6 _ (by simp) y hy
      ·exact q6 (q.map .d) (XQ.2 ⟨q,Yd h,rfl⟩) d hd
    have hflat:(ab (rows.take i++x::rows.drop i)).flatten=((ab rows).flatten.take (i*sz))++x.map .d++((ab rows).flatten.drop (i*sz)):=by
     rw[←iI q5,←j9 q5];simp only[ab,Xo,Xm,B',YU,ZH,List.map_drop,X3]
    have oI:bG c w (ab (rows.take i++x::rows.drop i)).flatten (xs.take (i*sz)++ys++xs.drop (i*sz)):=by
     rw[hflat];refine rV (rV ?_ ?_) ?_
     ·have:=q2.part 0 (i*sz);simpa using this
     ·have:=qw y2;simpa using this
     ·have:=q2.part (i*sz) xs.length;rw[XN (by rw[XI,q2.1];omega),XN (by rw[XI];omega)]at this;exact this
    have xN:0 < cap:=by omega
    obtain⟨c',s1,s2⟩:=hr.set_row (k:=0) (rows':=ab (rows.take i++x::rows.drop i)) (v':=v') rfl ee (by rw[dh xN];exact eP) (by
     have:(ab (rows.take i++x::rows.drop i)).length=rows.length+1:=by rw[aF,XY,Xp,XA,XI];omega
     rw[this];exact cX) (by rw[dh xN];exact jy) oI Fj Rh
    have mH:cE [(0,Chunk.row E sz (g+1) (ab (rows.take i++x::rows.drop i)))] (bQ [] [.row E sz g (ab rows)]).heap=aG [.row E sz (g+1) (ab (rows.take i++x::rows.drop i))]:=by
     funext k;rw[qt];cases k with
     |zero=>rfl
     |succ k=>rfl
    rw[mH]at s1;exact⟨v',c',he,s2,s1⟩
theorem Cg {sz n i:Nat}{cur:List Value}{xs ys:List Value}(hn:n < i+1+n)(hi:i < n)(hc:(n+1)*sz≤cur.length)(hl:xs.length=n*sz)(rF:ys.length=sz)(ht:cur.take (n*sz)=xs):
 (ay (ay cur ((i+1)*sz) (xs.drop (i*sz))) (i*sz) ys).take ((n+1)*sz)=xs.take (i*sz)++ys++xs.drop (i*sz)∧(ay (ay cur ((i+1)*sz) (xs.drop (i*sz))) (i*sz) ys).length=cur.length:=by
 have h1:i*sz≤n*sz:=Ys sz (by omega);have h2:(i+1)*sz=i*sz+sz:=YY i sz;have h3:(n+1)*sz=n*sz+sz:=YY n sz;have qm:(xs.drop (i*sz)).length=n*sz - i*sz:=by rw[XI,hl]
 have hA:(ay cur ((i+1)*sz) (xs.drop (i*sz))).length=cur.length:=bj (by omega);have hB:(ay (ay cur ((i+1)*sz) (xs.drop (i*sz))) (i*sz) ys).length=cur.length:=by rw[bj (by omega)];exact hA
 refine⟨?_,hB⟩;apply Yj;intro q;by_cases hq:q < (n+1)*sz
 ·rw[XS hq,ip (by omega),ip (by omega)];by_cases c1:q < i*sz
  ·rw[if_neg (by omega),if_neg (by omega),X3,X4 (by rw[Xp];omega),XS c1,←ht,XS (by omega)]
  ·by_cases c2:q < i*sz+sz
   ·rw[if_pos (by omega),X3,XK (by rw[Xp];omega),X4 (by rw[Xp];omega),Xp];congr 1;omega
   ·rw[if_neg (by omega),if_pos (by omega),XK (by rw[XY,Xp];omega)];congr 1;rw[XY,Xp];omega
 ·rw[XT (by rw[Xp];omega),XT (by simp only[XY,Xp,qm];omega)]
theorem oH:(prog.info? 68).map (fun i=>(i.zero,i.size,i.bytes))=some (some (.agg #[.int .i64 0,.int .i64 0,.int .i64 0,.int .i64 0,.int .i64 0]),5,40):=by kernel_rfl
theorem vO (g cap n i vb vo vc:Nat)(cur:Array Value)(xs ys:List Value)(w:World)(hh:w.heap[g]? =some (.cells cur 68 (0,0)))(hm:cap≤9223372036854775807)(hs:cur.size=cap*5)(hl:xs.length=n*5)(ht:cur.toList.take (n*5)=xs)
 (nj:∀u∈xs,u.oneCell'=true) (hi:i < n) (jc:n+1≤cap) (rF:ys.length=5) (OM:∀u∈ys,u.oneCell'=true) (L2:vb≠g) (IH:∀j u,ys[j]? =some u→w.cell? ⟨vb,vo+j,none⟩=some u)
 (sA:TypeId × Nat) (zh:w.shape? vb=some sA) (I7:sA.2≠0):
 Calls prog 204 #[.slice (some ⟨g,0,none⟩) n cap,.int .i64 i,.slice (some ⟨vb,vo,none⟩) 1 vc] w fun e w'=>
  e= .returned (.slice (some ⟨g,0,none⟩) (n+1) cap)∧w'=(w.drew.setRow g (ay cur.toList ((i+1)*5) (xs.drop (i*5))).toArray).setRow g (ay (ay cur.toList ((i+1)*5) (xs.drop (i*5))) (i*5) ys).toArray:=by
 obtain⟨i0,jU,L0,rH,DL⟩:=info_parts oH;have ak:prog.follows .mixedOrders=true:=by kernel_rfl
 have pb:(i:Int)+1=((i+1:Nat):Int):=by omega
 obtain⟨j,hj⟩:∃j,j=i+1:=⟨_,rfl⟩;obtain⟨m,Fk⟩:∃m,m=n+1:=⟨_,rfl⟩;have cP:∀w,(sizeOf 68).run prog w= .ok 5 w:=fun w=>by simp[sizeOf,typeInfo,jU,rH]
 have ee:∀lb cb,(callFunc 245 #[.slice (some ⟨vb,vo,none⟩) 1 vc,.slice (some ⟨g,j*5,none⟩) lb cb]).run prog w= .ok (.value (.bool false)) w:=fun lb cb=>by
  rw[run_callFunc_extern (fn:=f245) (by kernel_rfl) (by kernel_rfl) (by kernel_rfl) (by kernel_rfl) (e:=Extern.SlicesOverlaps.overlaps #[60,60] #[4]) (by kernel_rfl),
   mz w 60 4 68 underlying60 5 cP ⟨vb,vo,none⟩ ⟨g,j*5,none⟩ 1 vc lb cb L2 sA zh I7 cur 68 hh (by omega)]
  rfl
 have qm:(xs.drop (i*5)).length=(n - i)*5:=by rw[XI,hl];omega
 have jC:∀q u,xs[q]? =some u→cur[q]? =some u:=fun q u hq=>by
  rw[←ht,Zj]at hq;split at hq
  ·rwa [X6]at hq
  ·cases hq
 obtain⟨C1,xO⟩:∃C1:Array Value,C1=(ay cur.toList (j*5) (xs.drop (i*5))).toArray:=⟨_,rfl⟩;have sW:C1.size=cap*5:=by rw[xO,YH,bj (by simp;omega)];simpa using hs
 obtain⟨W1,qn⟩:∃W1,W1=w.drew.setRow g C1:=⟨_,rfl⟩;have Fl:∀ty dc sc,(Builtin.copy_ #[60,60] ty #[.slice (some ⟨g,j*5,none⟩) (m - j) dc,.slice (some ⟨g,i*5,none⟩) (m - i) sc]).run prog w.drew= .ok (goInt (ZM (m - i) (m - j))) W1:=fun ty dc sc=>by
  rw[qn,xO];exact eM (e:=68) (sz:=5) (xs.drop (i*5)) underlying60 jU rH (by rw[qm,show ZM (m - i) (m - j)=n - i from (by simp only[Z6];split<;>omega)]) (fun q u hq=>by
   rw[Addr.add_lit,mA (w:=w.drew) hh];rw[Yk]at hq;have:=jC _ u hq;rw[←this]) (fun u hu=>nj u (Yd hu)) (w:=w.drew) hh (by rw[qm,hs];omega) ty
 have wM:W1.heap[g]? =some (.cells C1 68 (0,0)):=by rw[qn];exact setRow_heap _ g _ _ _ _ hh
 have Fm:∀(W:World),W=W1→∀ty dc,(Builtin.copy_ #[60,60] ty #[.slice (some ⟨g,i*5,none⟩) (m - i) dc,.slice (some ⟨vb,vo,none⟩) 1 vc]).run prog W= .ok (goInt (ZM 1 (m - i))) (W1.setRow g (ay C1.toList (i*5) ys).toArray):=fun W hW ty dc=>by
  subst hW;exact eM (e:=68) (sz:=5) ys underlying60 jU rH (by rw[rF,show ZM 1 (m - i)=1 from (by simp only[Z6];split<;>omega)]) (fun q u hq=>by
   rw[Addr.add_lit,qn];have:=IH q u hq;rw[←this];exact Zl (a:=⟨vb,vo+q,none⟩) (by rw[setRow_other _ _ _ _ L2];rfl)) OM wM (by rw[rF,sW];omega) ty
 have cj:IntKind.i64.wrap ((i:Int)+1)=(j:Int):=by rw[IntKind.wrap_i64];omega
 have cA:IntKind.i64.wrap ((n:Int)+1)=(m:Int):=by rw[IntKind.wrap_i64];omega
 have rJ:Hid (W1.setRow g (ay C1.toList (i*5) ys).toArray=(w.drew.setRow g (ay cur.toList ((i+1)*5) (xs.drop (i*5))).toArray).setRow g (ay (ay cur.toList ((i+1)*5) (xs.drop (i*5))) (i*5) ys).toArray):=by
  show W1.setRow g (ay C1.toList (i*5) ys).toArray=_;rw[qn,xO,hj]
 have Ri:¬((i:Int)=(n:Int)):=by omega
 have i7:i≤n:=by omega
 have jd:¬(cap=j):=by omega
 have Pz:¬(cap=i):=by omega
 have UX:j≤m:=by omega
 have UY:i≤m:=by omega
 have UZ:m≤cap:=by omega
 have U0:¬((cap:Int) < (m:Int)):=by omega
 rw[←Fk];have I4:=Xj hj;have gT:=Xj Fk;have hW:=Xj qn;have hC:=Xj xO;clear hj Fk qn xO ht hl hs rF sW qm jC pb wM L0 rH DL hh;go_enter func204,ntmps204
 go_wp2_with (simp only[ee])
 go_region_law_o (refine lG rfl _ _ 60 60 rfl _ _ (by simp[Act.eval,Act.put]) (by simp[Act.eval,Act.put]) (Fl _ _ _) ?_)
 go_wp2_with (at_builtin;refine jA _ rfl _ _ 60 60 rfl _ _ rfl rfl (Fm _ rfl _ _) ?_)
 go_ret
 exact⟨rfl,rJ.out⟩
theorem vP (g cap n i vb vo vc:Nat)(cur:Array Value)(xs ys:List Value)(w:World)(hh:w.heap[g]? =some (.cells cur 68 (0,0)))(hm:cap≤1000000000)(I1:n≤cap)(hs:cur.size=cap*5)(hl:xs.length=n*5)(ht:cur.toList.take (n*5)=xs)
 (nj:∀u∈xs,u.oneCell'=true) (hi:i < n) (jc:¬n+1≤cap) (rF:ys.length=5) (OM:∀u∈ys,u.oneCell'=true) (IH:∀j u,ys[j]? =some u→w.cell? ⟨vb,vo+j,none⟩=some u):
 Calls prog 204 #[.slice (some ⟨g,0,none⟩) n cap,.int .i64 i,.slice (some ⟨vb,vo,none⟩) 1 vc] w (z0 w 68 g 5 n (xs.take (i*5)++ys++xs.drop (i*5))):=by
 obtain⟨i0,jU,L0,rH,DL⟩:=info_parts oH;have ak:prog.follows .mixedOrders=true:=by kernel_rfl
 obtain⟨j,hj⟩:∃j,j=i+1:=⟨_,rfl⟩;obtain⟨m,Fk⟩:∃m,m=n+1:=⟨_,rfl⟩;obtain⟨k,hk⟩:∃k,k=m - i:=⟨_,rfl⟩;obtain⟨B,hB⟩:∃B,B=w.heap.size:=⟨_,rfl⟩;have U1:g < B:=by rw[hB];exact l9 hh
 have Mi:vb < B:=by
  obtain⟨u,hu⟩:∃u,ys[0]? =some u:=⟨_,Xk (by omega)⟩;have:=IH 0 u hu;rw[hB];rcases XP vb w.heap.size with h|h
  ·exact h
  ·simp[YS,YM h]at this
 have jC:∀q u,xs[q]? =some u→cur[q]? =some u:=fun q u hq=>by
  rw[←ht,Zj]at hq;split at hq
  ·rwa [X6]at hq
  ·cases hq
 have hold:(Builtin.firstCells i0.size i (.slice (some ⟨g,0,none⟩) i cap)).run prog w.drew= .ok (xs.take (i*5)).toArray w.drew:=by
  rw[rH];exact run_firstCells_some w.drew 5 i ⟨g,0,none⟩ i cap (xs.take (i*5)) (by rw[Xp];omega) (fun q u hq=>by
   rw[Addr.add_lit,mA (w:=w.drew) hh,XG];rw[Zj]at hq;split at hq
   ·exact jC q u hq
   ·cases hq)
 obtain⟨G,hG⟩:∃G,G=grownCap w (i+k) cap 68:=⟨_,rfl⟩;have Rj:i+k=m:=by omega
 have hGm:m≤G:=by rw[hG,Rj];exact grownCap_ge w _ _ _
 have Rk:G≤9223372036854775807:=by
  have:=grownCap_le_maxLen w (i+k) cap 68 (by unfold maxLen;omega);rw[←hG]at this;unfold maxLen at this;omega
 obtain⟨C0,O0⟩:∃C0:Array Value,C0=(xs.take (i*5)).toArray++Builtin.zeroCells (Value.agg #[.int .i64 0,.int .i64 0,.int .i64 0,.int .i64 0,.int .i64 0]).cells k++Builtin.zeroCells (Value.agg #[.int .i64 0,.int .i64 0,.int .i64 0,.int .i64 0,.int .i64 0]).cells (G - m):=⟨_,rfl⟩;have Tl:∀ty,(Builtin.append_ #[60,3] ty #[.slice (some ⟨g,0,none⟩) i cap,.int .i64 ((m:Int) - (i:Int))]).run prog w= .ok (.slice (some ⟨B,0,none⟩) m G) (w.drew.alloc (.cells C0 68)):=fun ty=>by
  have hz:=Lib.run_append_grow_zeros (P:=prog) w 60 3 ty 68 i0 _ .i64 .i64 underlying60 underlying3 jU L0 (some ⟨g,0,none⟩) i cap (xs.take (i*5)) hold k (by omega) (by omega) (by omega) (by omega) (by rw[DL];omega) (by rw[DL];exact growslice_fits (by omega) (by omega));rw[←hG,Rj,←hB]at hz;rw[show (m:Int) - (i:Int)=(k:Int) by omega,hz,O0]
 have Fn:C0.size=G*5:=by
  rw[O0];simp[Builtin.zeroCells,Value.cells];omega
 obtain⟨W0,DD⟩:∃W0,W0=w.drew.alloc (.cells C0 68):=⟨_,rfl⟩;rw[←DD]at Tl;have Rl:W0.heap[B]? =some (.cells C0 68 (0,0)):=by rw[DD,hB];exact jD w.drew _
 have wT:∀b,b < B→W0.heap[b]? =w.heap[b]? :=fun b hb=>by
  rw[DD];simp only[World.alloc,Array.getElem?_push];rw[if_neg (by show ¬b=w.heap.size;omega)];rfl
 obtain⟨C1,xO⟩:∃C1:Array Value,C1=(ay C0.toList (i*5) ys).toArray:=⟨_,rfl⟩;have sW:C1.size=G*5:=by rw[xO,YH,bj (by simp;omega)];simpa using Fn
 obtain⟨W1,qn⟩:∃W1,W1=W0.setRow B C1:=⟨_,rfl⟩;have Fl:∀ty dc,(Builtin.copy_ #[60,60] ty #[.slice (some ⟨B,i*5,none⟩) (m - i) dc,.slice (some ⟨vb,vo,none⟩) 1 vc]).run prog W0= .ok (goInt (ZM 1 (m - i))) W1:=fun ty dc=>by
  rw[qn,xO];exact eM (e:=68) (sz:=5) ys underlying60 jU rH (by rw[rF,show ZM 1 (m - i)=1 from (by simp only[Z6];split<;>omega)]) (fun q u hq=>by
   rw[Addr.add_lit];rw[←IH q u hq];exact Zl (a:=⟨vb,vo+q,none⟩) (wT vb Mi)) OM Rl (by rw[rF,Fn];omega) ty
 have wM:W1.heap[B]? =some (.cells C1 68 (0,0)):=by rw[qn];exact setRow_heap _ B _ _ _ _ Rl
 have wU:∀b,b < B→W1.heap[b]? =w.heap[b]? :=fun b hb=>by rw[qn,setRow_other _ _ _ _ (by omega)];exact wT b hb
 have qm:(xs.drop (i*5)).length=(n - i)*5:=by rw[XI,hl];omega
 have Fm:∀ty dc sc,(Builtin.copy_ #[60,60] ty #[.slice (some ⟨B,j*5,none⟩) (m - j) dc,.slice (some ⟨g,i*5,none⟩) (n - i) sc]).run prog W1.drew= .ok (goInt (ZM (n - i) (m - j))) (W1.drew.setRow B (ay C1.toList (j*5) (xs.drop (i*5))).toArray):=fun ty dc sc=>by
  exact eM (e:=68) (sz:=5) (xs.drop (i*5)) underlying60 jU rH (by rw[qm,show ZM (n - i) (m - j)=n - i from (by simp only[Z6];split<;>omega)]) (fun q u hq=>by
   rw[Addr.add_lit,mA (w:=W1.drew) (show W1.heap[g]? =_ from (wU g U1).trans hh)];rw[Yk]at hq;have:=jC _ u hq;rw[←this]) (fun u hu=>nj u (Yd hu)) (w:=W1.drew) wM (by rw[qm,sW];omega) ty
 have hR:Hid (∀e,e=Ending.returned (.slice (some ⟨B,0,none⟩) m G)→z0 w 68 g 5 n (xs.take (i*5)++ys++xs.drop (i*5)) e (W1.drew.setRow B (ay C1.toList (j*5) (xs.drop (i*5))).toArray)):=by
  intro e he;refine⟨G,ay C1.toList (j*5) (xs.drop (i*5)),by omega,Rk,?_,?_,by rw[he,hB,Fk],?_,?_⟩
  ·rw[bj (by rw[qm];simp;omega)];simpa using sW
  ·rw[xO,Y1];have e1:C0.toList.take (i*5)=xs.take (i*5):=by
    rw[O0];simp only[Array.toList_append,X3];rw[Yl (by simp;omega),XN (by rw[Xp];omega)]
   rw[show (n+1)*5=j*5+(xs.drop (i*5)).length by rw[qm];omega];unfold ay;rw[Yl (by simp;omega),XN (by simp;omega)];congr 1;rw[e1,Yl (by simp;omega),XN (by simp;omega)]
  ·refine⟨?_,?_,?_,?_,fun b hb _=>?_⟩
   ·rw[qn,DD];rfl
   ·rw[qn,DD];rfl
   ·rw[qn,DD];rfl
   ·rw[qn,DD];simp[ZE]
   ·rw[setRow_other _ _ _ _ (by omega)];exact wU b (by omega)
  ·rw[←hB];exact setRow_heap W1.drew B _ _ _ _ wM
 have cj:IntKind.i64.wrap ((i:Int)+1)=(j:Int):=by rw[IntKind.wrap_i64];omega
 have cA:IntKind.i64.wrap ((n:Int)+1)=(m:Int):=by rw[IntKind.wrap_i64];omega
 have lT:IntKind.i64.wrap ((m:Int) - (i:Int))=(m:Int) - (i:Int):=by rw[IntKind.wrap_i64];omega
 have Ri:¬((i:Int)=(n:Int)):=by omega
 have i7:i≤n:=by omega
 have jd:¬(G=j):=by omega
 have Pz:¬(G=i):=by omega
 have UX:j≤m:=by omega
 have UY:i≤m:=by omega
 have UZ:i≤cap:=by omega
 have U0:(cap:Int) < (m:Int):=by omega
 have TQ:¬(cap=i):=by omega
 have hb9:j≤G:=by omega
 have U2:i≤G:=by omega
 clear hold Fn sW qm rF hl hs ht hh Rl wM wT wU jC Rj L0 rH DL hG DD qn O0 xO hk hj Fk hB jc;go_enter func204,ntmps204
 go_wp2_with (at_builtin;first|refine pD _ rfl _ _ 60 3 rfl _ _ rfl rfl (Tl _) ?_|refine jA _ rfl _ _ 60 60 rfl _ _ rfl rfl (Fl _ _) ?_)
 go_region_law_o (refine lG rfl _ _ 60 60 rfl _ _ (by simp[Act.eval,Act.put]) (by simp[Act.eval,Act.put]) (Fm _ _ _) ?_)
 go_wp2_with fail
 go_ret
 exact hR.out _ rfl
theorem Aa (l:List Lse)(x:Lse)(i g:Nat)(hi:i≤l.length)(hl:l.length≤1000000):
 MSpec prog 204 [.own 0 g,.d (.v (.int .i64 i)),.d (.sl 5 [aV x])] [.row 68 5 g (ab (l.map aV))] (.own 0 (g+1)) [.row 68 5 (g+1) (ab ((l.take i++x::l.drop i).map aV))]:=by
 rcases XP i l.length with hlt|hge
 ·have h1:=KF (P:=prog) (f:=204) (E:=68) (sz:=5) (g:=g) (i:=i) (rows:=l.map aV) (x:=aV x) (cW func204 (by kernel_rfl) rfl) (by omega) (by simpa using hlt) (by
   simp only[XC];intro w gb cap vb vo vc cur xs ys q1 q2 q3 q4 q5 q6 q7 q8 q9 q10 q11;obtain⟨u,hu⟩:∃u,ys[0]? =some u:=⟨_,Xk (by omega)⟩;obtain⟨sA,zh,I7⟩:=tC (q11 0 u hu);unfold maxLen at q2;by_cases jc:l.length+1≤cap
   ·refine(vO gb cap l.length i vb vo vc cur xs ys w q1 (by omega) q4 q5 q6 q7 hlt jc q8 q9 q10 q11 sA zh I7).mono ?_;rintro e w' ⟨rfl,rfl⟩;obtain⟨t1,t2⟩:=Cg (sz:=5) (n:=l.length) (i:=i) (cur:=cur.toList) (xs:=xs) (ys:=ys) (by omega) hlt (by simp;omega) q5 q8 q6;have SU:(w.drew.setRow gb (ay cur.toList ((i+1)*5) (xs.drop (i*5))).toArray).heap[gb]? =some (.cells (ay cur.toList ((i+1)*5) (xs.drop (i*5))).toArray 68 (0,0)):=setRow_heap _ gb _ _ _ _ q1;refine⟨_,rfl,.row gb (l.length+1) cap _ _ (by omega) (setRow_heap _ gb _ _ _ _ SU) jc q2 (by rw[YH,t2];simpa using q4) (by rw[←t1,Xp,t2];simp;omega) (by rw[Y1];exact t1),⟨rfl,rfl,rfl,by simp[ZE],fun b hb bB=>?_⟩,.inl (dh (by omega))⟩;have cQ:b≠gb:=fun e=>bB (by rw[e]);rw[setRow_other _ _ _ _ cQ,setRow_other _ _ _ _ cQ];rfl
   ·refine(vP gb cap l.length i vb vo vc cur xs ys w q1 (by omega) q3 q4 q5 q6 q7 hlt jc q8 q9 q11).mono ?_;rintro e w' ⟨G,R,h1,h2,h3,h4,rfl,h6,h7⟩;exact⟨_,rfl,.row w.heap.size (l.length+1) G R.toArray _ (by omega) h7 h1 h2 (by simpa using h3) (by rw[←h4,Xp,h3];omega) (by simpa using h4),h6,.inr fun b hb=>by rw[dh (by omega)]at hb;cases hb;exact XB _⟩)
  rw[Xo,ZH,Xm,List.map_drop];exact h1
 ·obtain rfl:i=l.length:=by omega
  rw[Xt,Y7];by_cases h0:l=[]
  ·subst h0;refine mj func204 ntmps204 results204 ?_;repeat' (first|(with_reducible refine And.intro ?_ ?_)|(with_reducible refine cm (fun _=>?_) (fun _=>?_))|(with_reducible refine aA (fun _=>?_) (fun _=>?_))|(with_reducible refine be (by kernel_rfl))|simp -dsimp only[go_sem,seval, *,aV,ab,XR]|((with_reducible refine bf ?_);simp -dsimp only[go_sem,seval,aV,ab,XR];first|refine aC (by first|assumption|fail) (by first|exact .inl rfl|exact .inr rfl) ?_|refine aB (by assumption) (by repeat(first|exact ai.refl _|exact ai.nil _|(refine ai.tup ?_)|(refine ai.agg ?_ rfl)|exact trivial|(refine And.intro ?_ ?_))) (by first|exact .inl rfl|exact .inr rfl) ?_)|omega|exact decide_eq_true (by omega)|exact ai.refl _)
   all_goals exact bo rfl rfl
  ·have bB:¬ab (l.map aV)=[]:=by simpa[ab]using h0
   refine mj func204 ntmps204 results204 ?_;repeat' (first|(with_reducible refine And.intro ?_ ?_)|(with_reducible refine cm (fun _=>?_) (fun _=>?_))|(with_reducible refine aA (fun _=>?_) (fun _=>?_))|(with_reducible refine be (by kernel_rfl))|simp -dsimp only[go_sem,seval, *,aV,XR]|((with_reducible refine bf ?_);simp -dsimp only[go_sem,seval,aV,XR];first|refine aC (by first|assumption|fail) (by first|exact .inl rfl|exact .inr rfl) ?_|refine aB (by assumption) (by repeat(first|exact ai.refl _|exact ai.nil _|(refine ai.tup ?_)|(refine ai.agg ?_ rfl)|exact trivial|(refine And.intro ?_ ?_))) (by first|exact .inl rfl|exact .inr rfl) ?_)|omega|exact decide_eq_true (by omega)|exact ai.refl _)
   all_goals exact bo rfl (by simp[aV,ab])
theorem pE:(prog.info? 62).map (fun i=>(i.zero,i.size,i.bytes))=some (some (.agg #[.int .i64 0,.int .i64 0,.int .i64 0,.int .i64 0,.int .i64 0,.int .i64 0,.int .i64 0,.int .i64 0,.slice none 0 0]),9,88):=by kernel_rfl
theorem xx (g cap n i vb vo vc:Nat)(cur:Array Value)(xs ys:List Value)(w:World)(hh:w.heap[g]? =some (.cells cur 62 (0,0)))(hm:cap≤9223372036854775807)(hs:cur.size=cap*9)(hl:xs.length=n*9)(ht:cur.toList.take (n*9)=xs)
 (nj:∀u∈xs,u.oneCell'=true) (hi:i < n) (jc:n+1≤cap) (rF:ys.length=9) (OM:∀u∈ys,u.oneCell'=true) (L2:vb≠g) (IH:∀j u,ys[j]? =some u→w.cell? ⟨vb,vo+j,none⟩=some u)
 (sA:TypeId × Nat) (zh:w.shape? vb=some sA) (I7:sA.2≠0):
 Calls prog 200 #[.slice (some ⟨g,0,none⟩) n cap,.int .i64 i,.slice (some ⟨vb,vo,none⟩) 1 vc] w fun e w'=>
  e= .returned (.slice (some ⟨g,0,none⟩) (n+1) cap)∧w'=(w.drew.setRow g (ay cur.toList ((i+1)*9) (xs.drop (i*9))).toArray).setRow g (ay (ay cur.toList ((i+1)*9) (xs.drop (i*9))) (i*9) ys).toArray:=by
 obtain⟨i0,jU,L0,rH,DL⟩:=info_parts pE;have ak:prog.follows .mixedOrders=true:=by kernel_rfl
 have pb:(i:Int)+1=((i+1:Nat):Int):=by omega
 obtain⟨j,hj⟩:∃j,j=i+1:=⟨_,rfl⟩;obtain⟨m,Fk⟩:∃m,m=n+1:=⟨_,rfl⟩;have cP:∀w,(sizeOf 62).run prog w= .ok 9 w:=fun w=>by simp[sizeOf,typeInfo,jU,rH]
 have ee:∀lb cb,(callFunc 242 #[.slice (some ⟨vb,vo,none⟩) 1 vc,.slice (some ⟨g,j*9,none⟩) lb cb]).run prog w= .ok (.value (.bool false)) w:=fun lb cb=>by
  rw[run_callFunc_extern (fn:=f242) (by kernel_rfl) (by kernel_rfl) (by kernel_rfl) (by kernel_rfl) (e:=Extern.SlicesOverlaps.overlaps #[22,22] #[4]) (by kernel_rfl),
   mz w 22 4 62 underlying22 9 cP ⟨vb,vo,none⟩ ⟨g,j*9,none⟩ 1 vc lb cb L2 sA zh I7 cur 62 hh (by omega)]
  rfl
 have qm:(xs.drop (i*9)).length=(n - i)*9:=by rw[XI,hl];omega
 have jC:∀q u,xs[q]? =some u→cur[q]? =some u:=fun q u hq=>by
  rw[←ht,Zj]at hq;split at hq
  ·rwa [X6]at hq
  ·cases hq
 obtain⟨C1,xO⟩:∃C1:Array Value,C1=(ay cur.toList (j*9) (xs.drop (i*9))).toArray:=⟨_,rfl⟩;have sW:C1.size=cap*9:=by rw[xO,YH,bj (by simp;omega)];simpa using hs
 obtain⟨W1,qn⟩:∃W1,W1=w.drew.setRow g C1:=⟨_,rfl⟩;have Fl:∀ty dc sc,(Builtin.copy_ #[22,22] ty #[.slice (some ⟨g,j*9,none⟩) (m - j) dc,.slice (some ⟨g,i*9,none⟩) (m - i) sc]).run prog w.drew= .ok (goInt (ZM (m - i) (m - j))) W1:=fun ty dc sc=>by
  rw[qn,xO];exact eM (e:=62) (sz:=9) (xs.drop (i*9)) underlying22 jU rH (by rw[qm,show ZM (m - i) (m - j)=n - i from (by simp only[Z6];split<;>omega)]) (fun q u hq=>by
   rw[Addr.add_lit,mA (w:=w.drew) hh];rw[Yk]at hq;have:=jC _ u hq;rw[←this]) (fun u hu=>nj u (Yd hu)) (w:=w.drew) hh (by rw[qm,hs];omega) ty
 have wM:W1.heap[g]? =some (.cells C1 62 (0,0)):=by rw[qn];exact setRow_heap _ g _ _ _ _ hh
 have Fm:∀(W:World),W=W1→∀ty dc,(Builtin.copy_ #[22,22] ty #[.slice (some ⟨g,i*9,none⟩) (m - i) dc,.slice (some ⟨vb,vo,none⟩) 1 vc]).run prog W= .ok (goInt (ZM 1 (m - i))) (W1.setRow g (ay C1.toList (i*9) ys).toArray):=fun W hW ty dc=>by
  subst hW;exact eM (e:=62) (sz:=9) ys underlying22 jU rH (by rw[rF,show ZM 1 (m - i)=1 from (by simp only[Z6];split<;>omega)]) (fun q u hq=>by
   rw[Addr.add_lit,qn];have:=IH q u hq;rw[←this];exact Zl (a:=⟨vb,vo+q,none⟩) (by rw[setRow_other _ _ _ _ L2];rfl)) OM wM (by rw[rF,sW];omega) ty
 have cj:IntKind.i64.wrap ((i:Int)+1)=(j:Int):=by rw[IntKind.wrap_i64];omega
 have cA:IntKind.i64.wrap ((n:Int)+1)=(m:Int):=by rw[IntKind.wrap_i64];omega
 have rJ:Hid (W1.setRow g (ay C1.toList (i*9) ys).toArray=(w.drew.setRow g (ay cur.toList ((i+1)*9) (xs.drop (i*9))).toArray).setRow g (ay (ay cur.toList ((i+1)*9) (xs.drop (i*9))) (i*9) ys).toArray):=by
  show W1.setRow g (ay C1.toList (i*9) ys).toArray=_;rw[qn,xO,hj]
 have Ri:¬((i:Int)=(n:Int)):=by omega
 have i7:i≤n:=by omega
 have jd:¬(cap=j):=by omega
 have Pz:¬(cap=i):=by omega
 have UX:j≤m:=by omega
 have UY:i≤m:=by omega
 have UZ:m≤cap:=by omega
 have U0:¬((cap:Int) < (m:Int)):=by omega
 rw[←Fk];have I4:=Xj hj;have gT:=Xj Fk;have hW:=Xj qn;have hC:=Xj xO;clear hj Fk qn xO ht hl hs rF sW qm jC pb wM L0 rH DL hh;go_enter func200,ntmps200
 go_wp2_with (simp only[ee])
 go_region_law_o (refine lG rfl _ _ 22 22 rfl _ _ (by simp[Act.eval,Act.put]) (by simp[Act.eval,Act.put]) (Fl _ _ _) ?_)
 go_wp2_with (at_builtin;refine jA _ rfl _ _ 22 22 rfl _ _ rfl rfl (Fm _ rfl _ _) ?_)
 go_ret
 exact⟨rfl,rJ.out⟩
theorem xy (g cap n i vb vo vc:Nat)(cur:Array Value)(xs ys:List Value)(w:World)(hh:w.heap[g]? =some (.cells cur 62 (0,0)))(hm:cap≤1000000000)(I1:n≤cap)(hs:cur.size=cap*9)(hl:xs.length=n*9)(ht:cur.toList.take (n*9)=xs)
 (nj:∀u∈xs,u.oneCell'=true) (hi:i < n) (jc:¬n+1≤cap) (rF:ys.length=9) (OM:∀u∈ys,u.oneCell'=true) (IH:∀j u,ys[j]? =some u→w.cell? ⟨vb,vo+j,none⟩=some u):
 Calls prog 200 #[.slice (some ⟨g,0,none⟩) n cap,.int .i64 i,.slice (some ⟨vb,vo,none⟩) 1 vc] w (z0 w 62 g 9 n (xs.take (i*9)++ys++xs.drop (i*9))):=by
 obtain⟨i0,jU,L0,rH,DL⟩:=info_parts pE;have ak:prog.follows .mixedOrders=true:=by kernel_rfl
 obtain⟨j,hj⟩:∃j,j=i+1:=⟨_,rfl⟩;obtain⟨m,Fk⟩:∃m,m=n+1:=⟨_,rfl⟩;obtain⟨k,hk⟩:∃k,k=m - i:=⟨_,rfl⟩;obtain⟨B,hB⟩:∃B,B=w.heap.size:=⟨_,rfl⟩;have U1:g < B:=by rw[hB];exact l9 hh
 have Mi:vb < B:=by
  obtain⟨u,hu⟩:∃u,ys[0]? =some u:=⟨_,Xk (by omega)⟩;have:=IH 0 u hu;rw[hB];rcases XP vb w.heap.size with h|h
  ·exact h
  ·simp[YS,YM h]at this
 have jC:∀q u,xs[q]? =some u→cur[q]? =some u:=fun q u hq=>by
  rw[←ht,Zj]at hq;split at hq
  ·rwa [X6]at hq
  ·cases hq
 have hold:(Builtin.firstCells i0.size i (.slice (some ⟨g,0,none⟩) i cap)).run prog w.drew= .ok (xs.take (i*9)).toArray w.drew:=by
  rw[rH];exact run_firstCells_some w.drew 9 i ⟨g,0,none⟩ i cap (xs.take (i*9)) (by rw[Xp];omega) (fun q u hq=>by
   rw[Addr.add_lit,mA (w:=w.drew) hh,XG];rw[Zj]at hq;split at hq
   ·exact jC q u hq
   ·cases hq)
 obtain⟨G,hG⟩:∃G,G=grownCap w (i+k) cap 62:=⟨_,rfl⟩;have Rj:i+k=m:=by omega
 have hGm:m≤G:=by rw[hG,Rj];exact grownCap_ge w _ _ _
 have Rk:G≤9223372036854775807:=by
  have:=grownCap_le_maxLen w (i+k) cap 62 (by unfold maxLen;omega);rw[←hG]at this;unfold maxLen at this;omega
 obtain⟨C0,O0⟩:∃C0:Array Value,C0=(xs.take (i*9)).toArray++Builtin.zeroCells (Value.agg #[.int .i64 0,.int .i64 0,.int .i64 0,.int .i64 0,.int .i64 0,.int .i64 0,.int .i64 0,.int .i64 0,.slice none 0 0]).cells k++Builtin.zeroCells (Value.agg #[.int .i64 0,.int .i64 0,.int .i64 0,.int .i64 0,.int .i64 0,.int .i64 0,.int .i64 0,.int .i64 0,.slice none 0 0]).cells (G - m):=⟨_,rfl⟩;have Tl:∀ty,(Builtin.append_ #[22,3] ty #[.slice (some ⟨g,0,none⟩) i cap,.int .i64 ((m:Int) - (i:Int))]).run prog w= .ok (.slice (some ⟨B,0,none⟩) m G) (w.drew.alloc (.cells C0 62)):=fun ty=>by
  have hz:=Lib.run_append_grow_zeros (P:=prog) w 22 3 ty 62 i0 _ .i64 .i64 underlying22 underlying3 jU L0 (some ⟨g,0,none⟩) i cap (xs.take (i*9)) hold k (by omega) (by omega) (by omega) (by omega) (by rw[DL];omega) (by rw[DL];exact growslice_fits (by omega) (by omega));rw[←hG,Rj,←hB]at hz;rw[show (m:Int) - (i:Int)=(k:Int) by omega,hz,O0]
 have Fn:C0.size=G*9:=by
  rw[O0];simp[Builtin.zeroCells,Value.cells];omega
 obtain⟨W0,DD⟩:∃W0,W0=w.drew.alloc (.cells C0 62):=⟨_,rfl⟩;rw[←DD]at Tl;have Rl:W0.heap[B]? =some (.cells C0 62 (0,0)):=by rw[DD,hB];exact jD w.drew _
 have wT:∀b,b < B→W0.heap[b]? =w.heap[b]? :=fun b hb=>by
  rw[DD];simp only[World.alloc,Array.getElem?_push];rw[if_neg (by show ¬b=w.heap.size;omega)];rfl
 obtain⟨C1,xO⟩:∃C1:Array Value,C1=(ay C0.toList (i*9) ys).toArray:=⟨_,rfl⟩;have sW:C1.size=G*9:=by rw[xO,YH,bj (by simp;omega)];simpa using Fn
 obtain⟨W1,qn⟩:∃W1,W1=W0.setRow B C1:=⟨_,rfl⟩;have Fl:∀ty dc,(Builtin.copy_ #[22,22] ty #[.slice (some ⟨B,i*9,none⟩) (m - i) dc,.slice (some ⟨vb,vo,none⟩) 1 vc]).run prog W0= .ok (goInt (ZM 1 (m - i))) W1:=fun ty dc=>by
  rw[qn,xO];exact eM (e:=62) (sz:=9) ys underlying22 jU rH (by rw[rF,show ZM 1 (m - i)=1 from (by simp only[Z6];split<;>omega)]) (fun q u hq=>by
   rw[Addr.add_lit];rw[←IH q u hq];exact Zl (a:=⟨vb,vo+q,none⟩) (wT vb Mi)) OM Rl (by rw[rF,Fn];omega) ty
 have wM:W1.heap[B]? =some (.cells C1 62 (0,0)):=by rw[qn];exact setRow_heap _ B _ _ _ _ Rl
 have wU:∀b,b < B→W1.heap[b]? =w.heap[b]? :=fun b hb=>by rw[qn,setRow_other _ _ _ _ (by omega)];exact wT b hb
 have qm:(xs.drop (i*9)).length=(n - i)*9:=by rw[XI,hl];omega
 have Fm:∀ty dc sc,(Builtin.copy_ #[22,22] ty #[.slice (some ⟨B,j*9,none⟩) (m - j) dc,.slice (some ⟨g,i*9,none⟩) (n - i) sc]).run prog W1.drew= .ok (goInt (ZM (n - i) (m - j))) (W1.drew.setRow B (ay C1.toList (j*9) (xs.drop (i*9))).toArray):=fun ty dc sc=>by
  exact eM (e:=62) (sz:=9) (xs.drop (i*9)) underlying22 jU rH (by rw[qm,show ZM (n - i) (m - j)=n - i from (by simp only[Z6];split<;>omega)]) (fun q u hq=>by
   rw[Addr.add_lit,mA (w:=W1.drew) (show W1.heap[g]? =_ from (wU g U1).trans hh)];rw[Yk]at hq;have:=jC _ u hq;rw[←this]) (fun u hu=>nj u (Yd hu)) (w:=W1.drew) wM (by rw[qm,sW];omega) ty
 have hR:Hid (∀e,e=Ending.returned (.slice (some ⟨B,0,none⟩) m G)→z0 w 62 g 9 n (xs.take (i*9)++ys++xs.drop (i*9)) e (W1.drew.setRow B (ay C1.toList (j*9) (xs.drop (i*9))).toArray)):=by
  intro e he;refine⟨G,ay C1.toList (j*9) (xs.drop (i*9)),by omega,Rk,?_,?_,by rw[he,hB,Fk],?_,?_⟩
  ·rw[bj (by rw[qm];simp;omega)];simpa using sW
  ·rw[xO,Y1];have e1:C0.toList.take (i*9)=xs.take (i*9):=by
    rw[O0];simp only[Array.toList_append,X3];rw[Yl (by simp;omega),XN (by rw[Xp];omega)]
   rw[show (n+1)*9=j*9+(xs.drop (i*9)).length by rw[qm];omega];unfold ay;rw[Yl (by simp;omega),XN (by simp;omega)];congr 1;rw[e1,Yl (by simp;omega),XN (by simp;omega)]
  ·refine⟨?_,?_,?_,?_,fun b hb _=>?_⟩
   ·rw[qn,DD];rfl
   ·rw[qn,DD];rfl
   ·rw[qn,DD];rfl
   ·rw[qn,DD];simp[ZE]
   ·rw[setRow_other _ _ _ _ (by omega)];exact wU b (by omega)
  ·rw[←hB];exact setRow_heap W1.drew B _ _ _ _ wM
 have cj:IntKind.i64.wrap ((i:Int)+1)=(j:Int):=by rw[IntKind.wrap_i64];omega
 have cA:IntKind.i64.wrap ((n:Int)+1)=(m:Int):=by rw[IntKind.wrap_i64];omega
 have lT:IntKind.i64.wrap ((m:Int) - (i:Int))=(m:Int) - (i:Int):=by rw[IntKind.wrap_i64];omega
 have Ri:¬((i:Int)=(n:Int)):=by omega
 have i7:i≤n:=by omega
 have jd:¬(G=j):=by omega
 have Pz:¬(G=i):=by omega
 have UX:j≤m:=by omega
 have UY:i≤m:=by omega
 have UZ:i≤cap:=by omega
 have U0:(cap:Int) < (m:Int):=by omega
 have TQ:¬(cap=i):=by omega
 have hb9:j≤G:=by omega
 have U2:i≤G:=by omega
 clear hold Fn sW qm rF hl hs ht hh Rl wM wT wU jC Rj L0 rH DL hG DD qn O0 xO hk hj Fk hB jc;go_enter func200,ntmps200
 go_wp2_with (at_builtin;first|refine pD _ rfl _ _ 22 3 rfl _ _ rfl rfl (Tl _) ?_|refine jA _ rfl _ _ 22 22 rfl _ _ rfl rfl (Fl _ _) ?_)
 go_region_law_o (refine lG rfl _ _ 22 22 rfl _ _ (by simp[Act.eval,Act.put]) (by simp[Act.eval,Act.put]) (Fm _ _ _) ?_)
 go_wp2_with fail
 go_ret
 exact hR.out _ rfl
theorem Ch (l:List Pol)(x:Pol)(i g:Nat)(hi:i≤l.length)(hl:l.length≤1000000):
 MSpec prog 200 [.own 0 g,.d (.v (.int .i64 i)),.d (.sl 9 [ah x])] [.row 62 9 g (ab (l.map ah))] (.own 0 (g+1)) [.row 62 9 (g+1) (ab ((l.take i++x::l.drop i).map ah))]:=by
 rcases XP i l.length with hlt|hge
 ·have h1:=KF (P:=prog) (f:=200) (E:=62) (sz:=9) (g:=g) (i:=i) (rows:=l.map ah) (x:=ah x) (cW func200 (by kernel_rfl) rfl) (by omega) (by simpa using hlt) (by
   simp only[XC];intro w gb cap vb vo vc cur xs ys q1 q2 q3 q4 q5 q6 q7 q8 q9 q10 q11;obtain⟨u,hu⟩:∃u,ys[0]? =some u:=⟨_,Xk (by omega)⟩;obtain⟨sA,zh,I7⟩:=tC (q11 0 u hu);unfold maxLen at q2;by_cases jc:l.length+1≤cap
   ·refine(xx gb cap l.length i vb vo vc cur xs ys w q1 (by omega) q4 q5 q6 q7 hlt jc q8 q9 q10 q11 sA zh I7).mono ?_;rintro e w' ⟨rfl,rfl⟩;obtain⟨t1,t2⟩:=Cg (sz:=9) (n:=l.length) (i:=i) (cur:=cur.toList) (xs:=xs) (ys:=ys) (by omega) hlt (by simp;omega) q5 q8 q6;have SU:(w.drew.setRow gb (ay cur.toList ((i+1)*9) (xs.drop (i*9))).toArray).heap[gb]? =some (.cells (ay cur.toList ((i+1)*9) (xs.drop (i*9))).toArray 62 (0,0)):=setRow_heap _ gb _ _ _ _ q1;refine⟨_,rfl,.row gb (l.length+1) cap _ _ (by omega) (setRow_heap _ gb _ _ _ _ SU) jc q2 (by rw[YH,t2];simpa using q4) (by rw[←t1,Xp,t2];simp;omega) (by rw[Y1];exact t1),⟨rfl,rfl,rfl,by simp[ZE],fun b hb bB=>?_⟩,.inl (dh (by omega))⟩;have cQ:b≠gb:=fun e=>bB (by rw[e]);rw[setRow_other _ _ _ _ cQ,setRow_other _ _ _ _ cQ];rfl
   ·refine(xy gb cap l.length i vb vo vc cur xs ys w q1 (by omega) q3 q4 q5 q6 q7 hlt jc q8 q9 q11).mono ?_;rintro e w' ⟨G,R,h1,h2,h3,h4,rfl,h6,h7⟩;exact⟨_,rfl,.row w.heap.size (l.length+1) G R.toArray _ (by omega) h7 h1 h2 (by simpa using h3) (by rw[←h4,Xp,h3];omega) (by simpa using h4),h6,.inr fun b hb=>by rw[dh (by omega)]at hb;cases hb;exact XB _⟩)
  rw[Xo,ZH,Xm,List.map_drop];exact h1
 ·obtain rfl:i=l.length:=by omega
  rw[Xt,Y7];by_cases h0:l=[]
  ·subst h0;refine mj func200 ntmps200 results200 ?_;repeat' (first|(with_reducible refine And.intro ?_ ?_)|(with_reducible refine cm (fun _=>?_) (fun _=>?_))|(with_reducible refine aA (fun _=>?_) (fun _=>?_))|(with_reducible refine be (by kernel_rfl))|simp -dsimp only[go_sem,seval, *,ah,ab,XR]|((with_reducible refine bf ?_);simp -dsimp only[go_sem,seval,ah,ab,XR];first|refine aC (by first|assumption|fail) (by first|exact .inl rfl|exact .inr rfl) ?_|refine aB (by assumption) (by repeat(first|exact ai.refl _|exact ai.nil _|(refine ai.tup ?_)|(refine ai.agg ?_ rfl)|exact trivial|(refine And.intro ?_ ?_))) (by first|exact .inl rfl|exact .inr rfl) ?_)|omega|exact decide_eq_true (by omega)|exact ai.refl _)
   all_goals exact bo rfl rfl
  ·have bB:¬ab (l.map ah)=[]:=by simpa[ab]using h0
   refine mj func200 ntmps200 results200 ?_;repeat' (first|(with_reducible refine And.intro ?_ ?_)|(with_reducible refine cm (fun _=>?_) (fun _=>?_))|(with_reducible refine aA (fun _=>?_) (fun _=>?_))|(with_reducible refine be (by kernel_rfl))|simp -dsimp only[go_sem,seval, *,ah,XR]|((with_reducible refine bf ?_);simp -dsimp only[go_sem,seval,ah,XR];first|refine aC (by first|assumption|fail) (by first|exact .inl rfl|exact .inr rfl) ?_|refine aB (by assumption) (by repeat(first|exact ai.refl _|exact ai.nil _|(refine ai.tup ?_)|(refine ai.agg ?_ rfl)|exact trivial|(refine And.intro ?_ ?_))) (by first|exact .inl rfl|exact .inr rfl) ?_)|omega|exact decide_eq_true (by omega)|exact ai.refl _)
   all_goals exact bo rfl (by simp[ah,ab])
end
theorem NX (b:Bok)(h8:b.pools.length≤8)(fu:∀p∈b.pools,p.leases.length≤32):
 MSpec prog 196 [.d (.agg (aS b))] [] (.ptr 1 0) [.gone,.box 24 [.d (.v (.int .i64 b.tick)),.own 2 b.pools.length],.row 62 9 b.pools.length (ab (b.pools.map ah))]:=by
 refine mj func196 ntmps196 results196 ?_;refine am ?_<;>intros;refine bg ae ak b.pools (fun _=>True) (fun k=>[(13,.d (.v (.int .i64 k))),(12,.d (.v (.int .i64 b.pools.length))),(11,.d (.sl 9 (b.pools.map ah))),(3,.ptr 1 0),(2,.d (.v (.pointer none)))])
  (fun k=>[.gone,.box 24 [.d (.v (.int .i64 b.tick)),.own 2 k],.row 62 9 k (ab ((b.pools.take k).map ah))]) trivial ?_ ?_ ?_
 ·refine(aL 0 (by simp)).trans ((au (by simp) 1 24 [.d (.v (.int .i64 b.tick)),.d (.v (.slice none 0 0))] 1 62 9 rfl rfl rfl).trans ?_);exact wf
 ·intro k p hp hk _ C hC;have dH:(k:Int) < (b.pools.length:Int):=by omega
  have cM:=wi k (by omega);have iG:=fu p (Xl hp);have i7:k+1≤100:=by omega
  have hlt:(Yf k b.pools).length=k:=by rw[Xp];omega
  have z1z:=Ln.mk (ls:=[]) (iz aV p.leases (by omega));refine am ?_<;>intros;refine hC _ _ trivial ((ap 4 1 68 5 (p.leases.map aV) rfl).trans ?_);simp only[iu,fz,gr,f7,gV,f5,aR,bR,bW,Xm,Xu,XM,XL,reduceIte,and_true,true_and,and_self,and_false,false_and,XG,XW,reduceCtorEq];exact wf (hh:=(by rw[ag hp,Xo,Xm,Xu,←aI];rfl))
 ·intro _ C;refine am ?_<;>intros;(try rw[Xt])
  exact bo rfl rfl
def av (p:Pol)(v:PV):List PV:=[.d (.v (.int .i64 p.id)),.d (.v (.int .i64 p.up)),.d (.v (.int .i64 p.root.at_)),.d (.v (.int .i64 p.root.len)),.d (.v (.int .i64 p.rule.min)),.d (.v (.int .i64 p.rule.max)),.d (.v (.int .i64 p.rule.usual)),.d (.v (.int .i64 p.rule.cool)),v]
def fE (pre:List Pol)(r:List PV)(post:List Pol):List (List PV):=ab (pre.map ah)++r::ab (post.map ah)
@[go_sem] theorem vQ (pre:List Pol)(r:List PV)(post:List Pol):(fE pre r post).length=pre.length+1+post.length:=by
 simp[fE,aF];omega
theorem jN (n:Nat):∀(l m:List (List PV)),cC n (l++m)=(cC n l&&cC n m)
 |[],m=>rfl
 |r::l,m=>by simp only[X8,cC,jN n l m,P']
theorem ik (n:Nat)(pre:List Pol)(r:List PV)(post:List Pol):cC n (fE pre r post)=an n r:=by
 simp only[fE,jN,cC,az,Yr,YA]
theorem bz {A:Prop}(h:A:=by first|rfl|simp only[aH,eh,aQ,an,cC,aq,bn,az,ik,av,XA,XZ,XM,ZR,decide_true,Yp,YA]):A:=h
theorem F5 (k g:Nat)(d:D)(pre:List Pol)(r:List PV)(post:List Pol):f5 k g d (fE pre r post)=fE pre (gr k g d r) post:=by
 simp only[fE,aR,f5,bR]
theorem HU (pre:List Pol)(r:List PV)(post:List Pol)(q:Pol):fE pre r post++[(ah q).map .d]=fE pre r (post++[q]):=by
 simp[fE,ab]
theorem Qg (b:Bok)(pre post:List Pol)(p:Pol)(hb:b.pools=pre++p::post)(h8:b.pools.length≤8)(fu:∀p∈b.pools,p.leases.length≤32):
 MSpec prog 196 [.d (.agg (aS b))] [] (.ptr 1 0) [.gone,.box 24 [.d (.v (.int .i64 b.tick)),.own 2 b.pools.length],.row 62 9 b.pools.length (fE pre (av p (.own 4 1)) post),.gone,.row 68 5 1 (ab (p.leases.map aV))]:=by
 have bT:b.pools.length=pre.length+1+post.length:=by rw[hb];simp;omega
 have hL:=Xj hb;have bU:=Xj bT;clear hb bT;refine mj func196 ntmps196 results196 ?_;refine am ?_<;>intros;refine bL ae ak (fun m e h=>(∃k,k≤pre.length∧m=b.pools.length - k∧e=[(13,.d (.v (.int .i64 k))),(12,.d (.v (.int .i64 b.pools.length))),(11,.d (.sl 9 (b.pools.map ah))),(3,.ptr 1 0),(2,.d (.v (.pointer none)))]∧
  h=[.gone,.box 24 [.d (.v (.int .i64 b.tick)),.own 2 k],.row 62 9 k (ab ((pre.take k).map ah))])∨
  ∃k j,k=pre.length+1+j∧j≤post.length∧m=b.pools.length - k∧e=[(13,.d (.v (.int .i64 k))),(12,.d (.v (.int .i64 b.pools.length))),(11,.d (.sl 9 (b.pools.map ah))),(3,.ptr 1 0),(2,.d (.v (.pointer none)))]∧
   h=[.gone,.box 24 [.d (.v (.int .i64 b.tick)),.own 2 k],.row 62 9 k (fE pre (av p (.own 4 1)) (post.take j)),.gone,.row 68 5 1 (ab (p.leases.map aV))]) _ _ _ (.inl ⟨0,XD _,rfl,rfl,rfl⟩) ?_ ?_
 ·refine(aL 0 (by simp)).trans ((au (by simp) 1 24 [.d (.v (.int .i64 b.tick)),.d (.v (.slice none 0 0))] 1 62 9 rfl rfl rfl).trans ?_);exact wf
 ·rintro m e h (⟨k,hk,hm,rfl,rfl⟩|⟨k,j,AI,hj,hm,rfl,rfl⟩) C hC
  ·have dH:(k:Int) < (b.pools.length:Int):=by have:=bU.out;omega
   have cM:=wi k (by omega);have i7:k+1≤100:=by have:=bU.out;omega
   have hlt:(Yf k pre).length=k:=by rw[Xp];omega
   have hm:=Xj hm;by_cases lK:k < pre.length
   ·obtain⟨q,hq⟩:∃q,pre[k]? =some q:=⟨_,Xk lK⟩;have po:b.pools[k]? =some q:=by rw[hL.out,X4 lK];exact hq
    have iG:=fu q (Xl po);have hq:=Xj hq;have z1z:=Ln.mk (ls:=[]) (iz aV q.leases (by omega));refine am ?_<;>intros;refine hC _ _ _ _ _ ?_ (.inl ⟨k+1,lK,rfl,rfl,rfl⟩) ((ap 4 1 68 5 (q.leases.map aV) rfl).trans ?_)
    ·have:=hm.out;have:=bU.out;omega
    simp only[iu,fz,gr,f7,gV,f5,aR,bR,bW,Xm,Xu,XM,XL,reduceIte,and_true,true_and,and_self,and_false,false_and,XG,XW,reduceCtorEq];exact wf (hh:=(by rw[ag hq.out,Xo,Xm,Xu,←aI];rfl))
   ·obtain rfl:k=pre.length:=by omega
    have po:b.pools[pre.length]? =some p:=by rw[hL.out,XK (XB _),YG];rfl
    have iG:=fu p (Xl po);have z1z:=Ln.mk (ls:=[]) (iz aV p.leases (by omega));refine am ?_<;>intros;refine hC _ _ _ _ _ ?_ (.inr ⟨pre.length+1,0,rfl,XD _,rfl,rfl,rfl⟩) ((aL 3 (by simp)).trans ?_)
    ·have:=hm.out;have:=bU.out;omega
    exact wf (hb:=bz) (hbh:=bz)
  ·have hm:=Xj hm;have rP:=Xj AI;have i7:pre.length+1+j+1≤100:=by have:=bU.out;omega
   have hlt:(Yf j post).length=j:=by rw[Xp];omega
   have uw:k≤b.pools.length:=by have:=bU.out;omega
   by_cases w8:j < post.length
   ·obtain⟨q,hq⟩:∃q,post[j]? =some q:=⟨_,Xk w8⟩;have po:b.pools[k]? =some q:=by
     rw[hL.out,XK (by omega),show k - pre.length=j+1 by omega,Yw];exact hq
    have iG:=fu q (Xl po);have dH:(k:Int) < (b.pools.length:Int):=by have:=bU.out;omega
    have cM:=wi k (by omega);have hq:=Xj hq;clear AI;have z1z:=Ln.mk (ls:=[]) (iz aV q.leases (by omega));refine am ?_<;>intros;refine hC _ _ _ _ _ ?_ (.inr ⟨k+1,j+1,by have:=rP.out;omega,w8,rfl,rfl,rfl⟩) ((ap 6 1 68 5 (q.leases.map aV) rfl).trans ?_)
    ·have:=hm.out;have:=bU.out;have:=rP.out;omega
    simp only[iu,fz,gr,f7,gV,f5,aR,bR,bW,Xm,Xu,XM,XL,reduceIte,and_true,true_and,and_self,and_false,false_and,XG,XW,reduceCtorEq,F5,av];exact wf (hh:=(by rw[ag hq.out,←HU];rfl)) (hb:=bz) (hbh:=bz)
   ·obtain rfl:j=post.length:=by omega
    obtain rfl:k=b.pools.length:=by have:=bU.out;omega
    clear AI;refine am ?_<;>intros;(try rw[Xt])
    exact bo rfl rfl
@[go_sem] theorem aO (ρ:Nat→Nat)(pre:List Pol)(r:List PV)(post:List Pol):jE ρ (fE pre r post)=fE pre (iJ ρ r) post:=by
 have app:∀(l m:List (List PV)),jE ρ (l++m)=jE ρ l++jE ρ m:=by
  intro l m;rw[eH,eH,eH,Xo]
 simp only[fE,app,jE,uN]
structure BookOK (b:Bok):Prop where
 n8:b.pools.length≤8
 l32:∀p∈b.pools,p.leases.length≤32
 rise:mZ b.pools
 tick:0≤b.tick∧b.tick≤1073741824
 mem:∀p∈b.pools,dR p.id=true∧gY p.root (dt p)=0∧fD p.rule p.root.len=true
 second:dx b b.pools []=true
theorem dF {b:Bok}(h:a9 b=0):BookOK b:=by
 unfold a9 at h;split at h
 ·cases h
 ·rename_i h8;split at h
  ·cases h
  ·rename_i ht;split at h
   ·rename_i hf;rw[Xy]at hf;have hm:=lF _ _ hf.1;refine⟨by omega,fun p hp=>?_,(kl _ _ hf.1).1,by omega,hm,hf.2⟩;have:=(hm p hp).2.1;unfold gY at this;split at this
    ·cases this
    ·rename_i h;simpa[dt]using h
   ·cases h
theorem mB (b:Bok)(hz:∀p∈b.pools,p.leases.length≤3518437208882)(h:a9 b≠0):af prog 115 [.agg (aS b)] (.tup [.v (.pointer none),.v (.int .i64 (a9 b))]):=by
 have hc:=my b hz;have h1:(a9 b !=0)=true:=by simpa using h
 refine pj func115 ntmps115 results115 ?_;exact aZ
theorem jp (b:Bok)(hz:∀p∈b.pools,p.leases.length≤3518437208882)(h:a9 b=0):
 MSpec prog 115 [.d (.agg (aS b))] [] (.tup [.ptr 2 0,.d (.v (.int .i64 0))]) [.gone,.gone,.box 24 [.d (.v (.int .i64 b.tick)),.own 3 b.pools.length],.row 62 9 b.pools.length (ab (b.pools.map ah))]:=by
 have hc:=my b hz;have hb:=dF h;have ho:=NX b hb.n8 hb.l32;rw[h]at hc;replace h:=Xj h;refine mj func115 ntmps115 results115 ?_;have z1z:=Ln.mk (ls:=[]) (ho);refine am ?_<;>intros;exact(aL 0 (by simp)).trans (bo rfl rfl)
theorem rf (b:Bok)(pre post:List Pol)(p:Pol)(hp:b.pools=pre++p::post)(hz:∀p∈b.pools,p.leases.length≤3518437208882)(h:a9 b=0):
 MSpec prog 115 [.d (.agg (aS b))] [] (.tup [.ptr 2 0,.d (.v (.int .i64 0))]) [.gone,.gone,.box 24 [.d (.v (.int .i64 b.tick)),.own 3 b.pools.length],.row 62 9 b.pools.length (fE pre (av p (.own 5 1)) post),.gone,.row 68 5 1 (ab (p.leases.map aV))]:=by
 have hc:=my b hz;have hb:=dF h;have ho:=Qg b pre post p hp hb.n8 hb.l32;rw[h]at hc;replace h:=Xj h;replace hp:=Xj hp;refine mj func115 ntmps115 results115 ?_;have z1z:=@av.eq_1;have z2z:=Ln.mk (ls:=[]) (ho);refine am ?_<;>intros;exact(aL 0 (by simp)).trans (bo rfl rfl)
theorem Si {α:Type}{key:α→Int}{l:List α}{i:Nat}{q:α}(hs:l.Pairwise fun a b=>key a < key b)(hq:l[i]? =some q):i8 key (key q) l=i∧qN key (key q) l=true:=by
 obtain⟨hi,rfl⟩:=Xn.1 hq;have h1:i8 key (key l[i]) l=i:=pT (p' hi) (fun k hk Md=>XF.1 hs k i hk hi Md) (fun k hk Md=>by
  rcases XP i k with h|h
  ·have:=XF.1 hs i k hi hk h;omega
  ·obtain rfl:k=i:=by omega
   exact ZG _)
 refine⟨h1,?_⟩;unfold qN;rw[h1,hq];simp
theorem Ab (b:Bok)(i:Nat)(q:Pol)(g:Nat)(rows:List (List PV))(hs:List Chunk)(c0:PV)(hq:b.pools[i]? =some q)(hr:mZ b.pools)(h8:b.pools.length≤8)(za:rows.length=b.pools.length)
 (hv:da (bp (aG (.box 24 [c0,.own 1 g]:: .row 62 9 g rows::hs)) 5) rows=some (b.pools.map ah)) (tP:cC (hs.length+2) rows=true) (hbh:aH (hs.length+2) hs=true) (IL:aq (hs.length+2) c0=true):
 MSpec prog 116 [.ptr 0 0,.d (.v (.int .i64 q.id))] (.box 24 [c0,.own 1 g]:: .row 62 9 g rows::hs) (.tup [.rp 1 g 9 i 0,.d (.v (.bool true))]) (.box 24 [c0,.own 1 g]:: .row 62 9 g rows::hs):=by
 have OY:=sy kX (fun p=>p.id) b.pools q.id 198 [] (by omega) hr (fun p _=>Ez p q.id);obtain⟨e1,e2⟩:=Si (key:=fun p:Pol=>p.id) hr hq;rw[e1,e2]at OY;have hi:i < rows.length:=by rw[za];exact(Xn.1 hq).1
 have MS:(0:Int)≤(i:Int):=by omega
 replace hq:=Xj hq;replace za:=Xj za;replace e1:=Xj e1;replace e2:=Xj e2;refine zN ae ak func116 rfl ntmps116 results116 (by kernel_rfl) (XB _) (by simp[an,aq]) (by simp[aH,aQ,an,aq,tP,hbh,IL]) ?_;refine am ?_<;>intros;exact bo rfl rfl
def cz (p:Pol)(size:Int):Pfx × Int:=
 if size < p.rule.min∨size>p.rule.max then (Pfx.zero,7)else
 if (ll p.root (dt p) size).2.1=false∨p.leases.length=32 then (Pfx.zero,8)else ((ll p.root (dt p) size).1,0)
theorem Pn (p:Pol)(size:Int)(hl:p.leases.length≤32):af prog 120 [.ept (ah p),.v (.int .i64 size)] (.tup [.agg (aN (cz p size).1),.v (.int .i64 (cz p size).2)]):=by
 have ht:=F4 p (by omega);have hf:=NT p.root (dt p) size;refine pj func120 ntmps120 results120 ?_;repeat' (first|(with_reducible refine And.intro ?_ ?_)|(with_reducible refine cm (fun _=>?_) (fun _=>?_))|(with_reducible refine aA (fun _=>?_) (fun _=>?_))|(with_reducible refine be (by kernel_rfl))|simp -dsimp only[go_sem,seval, *,ah,aN]|((with_reducible refine bf ?_);simp -dsimp only[go_sem,seval,ah,aN];first|refine aC (by first|assumption|exact ht|exact hf) (by first|exact .inl rfl|exact .inr rfl) ?_|(refine aB (by assumption) ?_ ?_ ?_;(solve|(repeat(first|exact ai.refl _|exact ai.nil _|(refine ai.tup ?_)|(refine ai.agg ?_ rfl)|exact trivial|(refine And.intro ?_ ?_))));(solve|exact .inl rfl|exact .inr rfl)))|fail|omega|exact decide_eq_true (by omega)|exact ai.refl _)
 all_goals clear ht hf
 all_goals first
  |(rw[show cz p size=(Pfx.zero,7) from by unfold cz;grind];exact ai.refl _)
  |(rw[show cz p size=(Pfx.zero,8) from by unfold cz;grind];exact ai.refl _)
  |(rw[show cz p size=((ll p.root (dt p) size).1,0) from by unfold cz;grind];exact ai.refl _)
@[go_sem] theorem eN (pre:List Pol)(r:List PV)(post:List Pol):(fE pre r post)[pre.length]? =some r:=by
 unfold fE;rw[XK (by simp[aF])];simp[aF]
@[go_sem] theorem Sj (pre:List Pol)(r r':List PV)(post:List Pol):(fE pre r post).set pre.length r'=fE pre r' post:=by
 unfold fE;rw[Yt _ _ (by simp[aF])];simp[aF]
def gZ (l:Lse)(ls:List Lse):List Lse:=ls.take (i8 (fun x=>x.at_.at_) l.at_.at_ ls)++l::ls.drop (i8 (fun x=>x.at_.at_) l.at_.at_ ls)
theorem oX {α:Type}(key:α→Int)(t:Int)(l:List α):i8 key t l≤l.length:=List.findIdx_le_length
theorem Qh (x:Lse)(t:Int):af prog 203 [.agg (aV x),.v (.int .i64 t)] (.v (.int .i64 (ep x.at_.at_ t))):=by
 have hc:=mg x.at_.at_ t;refine pj func203 ntmps203 results203 ?_;exact aZ
theorem HV (pre post:List Pol)(p:Pol)(ls:List Lse):fE pre (av p (.d (.sl 5 (ls.map aV)))) post=ab ((pre++{p with leases:=ls}::post).map ah):=by
 simp only[fE,ab,Xo,Xm];rfl
theorem p8 {P:Program}{m:Nat}(pre post:List Pol)(p:Pol)(g g2:Nat)(ls:List Lse):ew P 1 m [(0,.d (.tup []))] [.row 62 9 g (fE pre (av p (.own 1 g2)) post),.row 68 5 g2 (ab (ls.map aV))] [(0,.d (.tup []))] [.row 62 9 g (ab ((pre++{p with leases:=ls}::post).map ah)),.gone]:=by
 refine(ap 1 g2 68 5 (ls.map aV) rfl).trans ?_;simp only[iu,fz,gr,f7,gV,f5,aR,bR,bW,Xm,Xu,XM,XL,reduceIte,and_true,true_and,and_self,and_false,false_and,XG,XW,reduceCtorEq,F5,av];rw[←HV];exact bo rfl rfl
theorem Po (pre post:List Pol)(p:Pol)(l:Lse)(g g2:Nat)(hl:p.leases.length≤32)(hs:p.leases.Pairwise fun a b=>a.at_.at_ < b.at_.at_):
 MSpec prog 121 [.rp 0 g 9 pre.length 0,.d (.agg (aV l))] [.row 62 9 g (fE pre (av p (.own 1 g2)) post),.row 68 5 g2 (ab (p.leases.map aV))] (.d (.tup [])) [.row 62 9 g (ab ((pre++{p with leases:=gZ l p.leases}::post).map ah)),.gone]:=by
 have OY:=Em kW (fun x=>x.at_.at_) p.leases l.at_.at_ 203 [] (by omega) hs (fun x _=>Qh x l.at_.at_);have hle:=oX (fun x:Lse=>x.at_.at_) l.at_.at_ p.leases;have fq:=Aa p.leases l (i8 (fun x:Lse=>x.at_.at_) l.at_.at_ p.leases) g2 hle (by omega);refine zN ae ak func121 rfl ntmps121 results121 (by kernel_rfl) (XB _) (by simp[an,aq]) (by simp[aH,aQ,ik,an,aq,av,az]) ?_;have z1z:=@av.eq_1;have z2z:=Ln.mk (ls:=[1]) (fq);refine am ?_<;>intros;refine ew.trans ?_ (p8 pre post p g (g2+1) (gZ l p.leases));exact wf (hb:=bz) (hbh:=bz)
def jO (p:Pol)(i:Nat)(tick:Int):List Lse:=if p.rule.cool=0 then p.leases.eraseIdx i else match p.leases[i]? with|some l=>p.leases.set i ⟨l.at_,3,0,tick+p.rule.cool⟩|none=>p.leases
theorem KH (pre post:List Pol)(p:Pol)(i g g2:Nat)(tick:Int)(hi:i < p.leases.length)(hl:p.leases.length≤32)(wH:0≤p.rule.cool∧p.rule.cool≤1024)(ht:0≤tick∧tick≤1073741824):
 MSpec prog 123 [.rp 0 g 9 pre.length 0,.d (.v (.int .i64 i)),.d (.v (.int .i64 tick))] [.row 62 9 g (fE pre (av p (.own 1 g2)) post),.row 68 5 g2 (ab (p.leases.map aV))] (.d (.tup [])) [.row 62 9 g (ab ((pre++{p with leases:=jO p i tick}::post).map ah)),.gone]:=by
 refine zN ae ak func123 rfl ntmps123 results123 (by kernel_rfl) (XB _) (by simp[an,aq]) (by simp[aH,aQ,ik,an,aq,av,az]) ?_;by_cases hc:p.rule.cool=0
 ·have fS:jO p i tick=p.leases.eraseIdx i:=by unfold jO;rw[if_pos hc]
  have cM:=wi i (by omega);have hd:=zZ (enc:=aV) p.leases i (i+1) g2 hi rfl;have OS:(p.rule.cool==0)=true:=by simpa using hc
  rw[fS];replace fS:=Xj fS;replace hc:=Xj hc;have z1z:=@av.eq_1;have z2z:=Ln.mk (ls:=[1]) (hd);refine am ?_<;>intros;exact p8 pre post p g (g2+1) (p.leases.eraseIdx i)
 ·have cM:IntKind.i64.wrap (tick+p.rule.cool)=tick+p.rule.cool:=by rw[IntKind.wrap_i64];omega
  have OS:(p.rule.cool==0)=false:=by simpa using hc
  obtain⟨l,Gu⟩:∃l,p.leases[i]? =some l:=⟨_,Xk hi⟩;have gM:=bO aV p.leases i ⟨l.at_,3,0,tick+p.rule.cool⟩;have fS:jO p i tick=p.leases.set i ⟨l.at_,3,0,tick+p.rule.cool⟩:=by unfold jO;rw[if_neg hc,Gu]
  simp only[aV,Xm,Xu]at gM;rw[fS];replace fS:=Xj fS;have z1z:=@av.eq_1;refine am ?_<;>intros;exact p8 pre post p g g2 (p.leases.set i ⟨l.at_,3,0,tick+p.rule.cool⟩)
def kY (p:Pol)(ps:List Pol):List Pol:=ps.take (i8 (fun x=>x.id) p.id ps)++p::ps.drop (i8 (fun x=>x.id) p.id ps)
theorem Pp (ps:List Pol)(p:Pol)(g:Nat)(tick:D)(h8:ps.length≤8)(hr:mZ ps)(ht:tick.one=true):
 MSpec prog 119 [.ptr 0 0,.d (.agg (ah p))] [.box 24 [.d tick,.own 1 g],.row 62 9 g (ab (ps.map ah))] (.d (.tup [])) [.box 24 [.d tick,.own 1 (g+1)],.row 62 9 (g+1) (ab ((kY p ps).map ah))]:=by
 have OY:=sy kX (fun x=>x.id) ps p.id 198 [] (by omega) hr (fun x _=>Ez x p.id);have hle:=oX (fun x:Pol=>x.id) p.id ps;have fq:=Ch ps p (i8 (fun x:Pol=>x.id) p.id ps) g hle (by omega);refine zN ae ak func119 rfl ntmps119 results119 (by kernel_rfl) (XB _) (by simp[an,aq]) (by simp[aH,aQ,an,aq,az]) ?_;have z1z:=Ln.mk (ls:=[1]) (fq);refine am ?_<;>intros;exact wf (hb:=bz) (hbh:=bz)
def iA (s:Ste):Int:=if a9 s.book≠0 then a9 s.book else if cK s.net≠0 then cK s.net else if (kR (t9 s.book) s.net.vpcs&&decide (ol s.net.vpcs=(t9 s.book).countP fun kv=>gz s.net.vpcs kv.2))=true then 0 else 1
theorem vR {α:Type}{enc:α→List D}(eB:∀x,(enc x).length=3)(p:α→Bool)(l:List α)(g:Nat)(caps:List D)(hl:l.length≤1000000000)(hc:∀x∈l,af prog g (.agg (enc x)::caps) (.v (.bool (p x)))):
 af prog 100 [.sl 3 (l.map enc),.clo g caps] (.v (.int .i64 (cv p l))):=by
 refine pj func100 ntmps100 results100 ?_;refine am ?_<;>intros;refine bL ae ak (fun m e h=>∃k:Nat,k≤l.length∧(∀x∈l.take k,p x=false)∧m=l.length - k∧e=[(8,.d (.v (.int .i64 k))),(7,.d (.v (.int .i64 l.length))),(4,.d (.v (.int .i64 0))),(1,.d (.clo g caps)),(0,.d (.sl 3 (l.map enc)))]∧h=[]) _ _ _ ⟨0,XD _,by simp,rfl,rfl,rfl⟩ ?_ ?_
 ·exact wf (x:=[]) (hh:=rfl) (he:=⟨rfl,rfl,rfl,rfl,rfl,trivial⟩)
 ·rintro m e h ⟨k,hk,cf,rfl,rfl,rfl⟩ CL mJ;by_cases hlt:k < l.length
  ·obtain⟨x,hx⟩:∃x,l[k]? =some x:=⟨_,Xk hlt⟩;have en:(k:Int) < (l.length:Int):=by omega
   have cM:=wi k (by omega);have bT:=eB x;have gU:(enc x).take 3=enc x:=XN (by omega);have jC:=hc x (Xl hx);cases hp:p x with
   |false=>
    rw[hp]at jC;refine am ?_<;>intros;refine mJ _ _ _ _ _ ?_ ⟨k+1,hlt,?_,rfl,rfl,rfl⟩ (wf (x:=[]) (hh:=rfl) (he:=⟨rfl,rfl,rfl,rfl,rfl,trivial⟩))
    ·omega
    ·intro y hy;rw[ag hx]at hy;rcases X2.1 hy with hy|hy
     ·exact cf y hy
     ·rw[Yc]at hy;rw[hy];exact hp
   |true=>
    rw[hp]at jC;have ld:cv p l=k:=fV hx hp cf;exact aZ;all_goals rw[ld]
    all_goals exact ai.refl _
  ·obtain rfl:k=l.length:=by omega
   rw[Xt]at cf;refine am ?_<;>intros;all_goals rw[fW cf]
   all_goals exact ai.refl _
theorem vS {α:Type}{enc:α→List D}(eB:∀x,(enc x).length=3)(p:α→Bool)(l:List α)(g:Nat)(caps:List D)(hl:l.length≤1000000000)(hc:∀x∈l,af prog g (.agg (enc x)::caps) (.v (.bool (p x)))):
 af prog 35 [.sl 3 (l.map enc),.clo g caps] (.v (.bool (l.any p))):=by
 have hi:=vR eB p l g caps hl hc;have im:=fK p l;refine pj func35 ntmps35 results35 ?_;exact aZ;all_goals exact ai.refl _
theorem HW (v:Vpc)(o:Int):af prog 36 [.agg (al v),.ept [.v (.int .i64 o)]] (.v (.bool (v.id==o))):=by
 refine pj func36 ntmps36 results36 ?_;exact aZ
theorem Ci (s:Ste)(hz:∀p∈s.book.pools,p.leases.length≤3518437208882):af prog 11 [.agg (eW s)] (.v (.int .i64 (iA s))):=by
 have hb:=my s.book hz;have hn:=vC s.net;obtain⟨R,hR⟩:∃R,R=iA s:=⟨_,rfl⟩;rw[←hR];replace hR:=Xj hR;by_cases h1:a9 s.book=0
 ·rw[h1]at hb;by_cases h2:cK s.net=0
  ·rw[h2]at hn;have rS:R=if (kR (t9 s.book) s.net.vpcs&&decide (ol s.net.vpcs=(t9 s.book).countP fun kv=>gz s.net.vpcs kv.2))=true then 0 else 1:=by
    rw[hR.out];unfold iA;rw[if_neg (by simpa using h1),if_neg (by simpa using h2)]
   have zk:=dF h1;have hu:=Ln.mk (ls:=[]) (FW s.book (by have:=zk.n8;omega) (fun p hp=>by have:=zk.l32 p hp;omega));have Wf:=NL zk.l32;have Wg:=zk.n8;have Wh:(t9 s.book).length≤256:=Yy Wf (Yy (Ys 32 Wg) (by decide));have cf:=gO.1 h2;have DN:=cf.n6;have Rm:∀v∈s.net.vpcs,v.ranges.length≤4:=fun v hv=>(aY (cf.vp v hv)).n4;have OT:∀k,ol (s.net.vpcs.take k)≤24:=fun k=>Yy (NI fun v hv=>Rm v (Yg hv)) (by rw[Xp];omega);clear zk Wf Wg cf;generalize t9 s.book=E at*;replace rS:=Xj rS;replace Rm:=Xj Rm;replace OT:=Xj OT;clear h1 h2 hR;have fS:=Xj (⟨DN,Wh⟩:s.net.vpcs.length≤6∧E.length≤256);clear Wh;refine pj func11 ntmps11 results11 ?_;refine am ?_;refine bg ae ak s.net.vpcs (fun k=>kR E (s.net.vpcs.take k)=true) (fun k=>[(32,.d (.v (.int .i64 k))),(31,.d (.v (.int .i64 s.net.vpcs.length))),(30,.d (.sl 3 (s.net.vpcs.map al))),(6,.d (.v (.int .i64 (ol (s.net.vpcs.take k):Nat)))),(5,.mref 2),(1,.ptr 0 0)])
    (fun _=>[.box 30 ((eW s).map .d),.gone,.mp 3 true E]) rfl wf ?_ ?_
   ·intro k v hv hk hI C hC;have dH:(k:Int) < (s.net.vpcs.length:Int):=by omega
    have cM:=wi k (by omega);have nl:=Xj (HH hv);have bc:=Xj (OT.out k);have Rn:=Xj (Rm.out v (Xl hv));have Fo:=Xj hv;have hIx:=Xj hI;clear hI;generalize hNk:ol (s.net.vpcs.take k)=Nk at*;clear hNk;refine am ?_;refine bg ae ak v.ranges (fun j=>(v.ranges.take j).all (zU E v.id)=true) (fun j=>[(39,.d (.v (.int .i64 j))),(38,.d (.v (.int .i64 v.ranges.length))),(37,.d (.sl 3 (v.ranges.map bv))),(8,.ptr 3 0),(6,.d (.v (.int .i64 ((Nk+j:Nat):Int)))),(32,.d (.v (.int .i64 k))),(31,.d (.v (.int .i64 s.net.vpcs.length))),(30,.d (.sl 3 (s.net.vpcs.map al))),(5,.mref 2),(1,.ptr 0 0)])
     (fun _=>[.box 30 ((eW s).map .d),.gone,.mp 3 true E,.box 55 ((al v).map .d)]) rfl wf ?_ ?_
    ·intro j r hr hj hJ C2 jz;have ic:(j:Int) < (v.ranges.length:Int):=by omega
     have j6:IntKind.i64.wrap ((j:Int)+1)=((j+1:Nat):Int):=by have:=Rn.out;rw[IntKind.wrap_i64];omega
     have Wi:IntKind.i64.wrap (((Nk+j:Nat):Int)+1)=((Nk+(j+1):Nat):Int):=by have:=bc.out;have:=Rn.out;rw[IntKind.wrap_i64];omega
     have Wj:=Xj hr;have UL:=Xj hJ;clear hJ;by_cases hq:zU E v.id r=true
     ·have e1:((kz E [r.at_.at_,r.at_.len,r.pool]).getD 0 !=v.id)=false:=by unfold zU at hq;simpa using hq
      have po:=Xj hq;clear hq;refine am ?_;exact jz _ _ (by rw[ag Wj.out,ZO,UL.out];simpa using po.out) wf
     ·have e1:((kz E [r.at_.at_,r.at_.len,r.pool]).getD 0 !=v.id)=true:=by unfold zU at hq;simpa using hq
      have rR:R=1:=by
       rw[rS.out,if_neg];intro h;rw[Xy]at h;have h3:=XE.1 (XE.1 h.1 v (Xl Fo.out)) r (Xl Wj.out);exact hq h3
      rw[rR];replace hq:=Xj hq;exact aZ
    ·intro hJ C2;rw[Xt]at hJ;replace hJ:=Xj hJ;refine am ?_;exact hC _ _ (by unfold kR;rw[ag Fo.out,ZO];have:=hIx.out;unfold kR at this;rw[this];simpa using hJ.out) (wf (hh:=by rfl) (he:=by rw[nl.out];repeat' (first|exact trivial|(refine⟨rfl,?_⟩))))
   ·intro hI C;rw[Xt]at hI ⊢;have U3:=Xj (by have:=OT.out s.net.vpcs.length;rw[Xt]at this;exact this:ol s.net.vpcs≤24);have aP:R=if ol s.net.vpcs=E.countP fun kv=>gz s.net.vpcs kv.2 then 0 else 1:=by
     rw[rS.out,hI,Yr];simp only[decide_eq_true_eq]
    replace aP:=Xj aP;clear hI;generalize ol s.net.vpcs=Nn at*;refine am ?_;refine Ph (fun m e h=>∃(seen:List Nat) (c:Int),seen.Nodup∧(∀i∈seen,i < E.length)∧m=B9 E.length seen∧c=(Nn:Int) - (seen.countP (kS E (gz s.net.vpcs)):Nat)∧seen.length≤E.length∧e=[(58,.ptr 3 0),(6,.d (.v (.int .i64 c))),(1,.ptr 0 0)]∧h=[.box 30 ((eW s).map .d),.gone,.gone,.it 3 true E seen]) _ _ _ ⟨[],(Nn:Int),List.nodup_nil,by simp,rfl,by simp,by simp,rfl,rfl⟩ wf ?_;rintro m e h ⟨seen,c,lf,hlt,hm,hc,hle,rfl,rfl⟩ C2 jz;replace hc:=Xj hc;replace hlt:=Xj hlt;refine FH ae ak (by rfl) (BM (k:=3) (x:= .tmp 58) ae (by simp) rfl rfl rfl rfl rfl rfl (by decide) (by decide) rfl rfl (by simp) ?_ ?_)
    ·intro bP;have ef:=Km (p:=gz s.net.vpcs) lf hlt.out bP;by_cases hz:c=0
     ·have rR:R=0:=by rw[aP.out,if_pos];have:=hc.out;omega
      rw[rR];subst hz;clear ef bP lf hm;change sC _ _ _ _ _ _ _ _ _ _;exact aZ
     ·have rR:R=1:=by rw[aP.out,if_neg];have:=hc.out;omega
      have DL:(c !=0)=true:=by simpa using hz
      rw[rR];clear ef bP lf hm;replace hz:=Xj hz;change sC _ _ _ _ _ _ _ _ _ _;exact aZ
    ·intro i hi RN;obtain⟨kv,Gz⟩:∃kv,E[i]? =some kv:=⟨_,Xk hi⟩;have Wk:(seen++[i]).getLast? =some i:=by simp
     have nl:=vS iK (fun v=>v.id==kv.2) s.net.vpcs 36 [.ept [.v (.int .i64 kv.2)]] (by have:=fS.out;omega) (fun v _=>HW v kv.2);have US:=List.countP_le_length (p:=kS E (gz s.net.vpcs)) (l:=seen);have jy:(seen++[i]).Nodup:=by rw[N'];exact⟨lf,by simp,fun a ha b hb e=>RN (by simp at hb;subst hb;subst e;exact ha)⟩
     have Gu:∀j∈seen++[i],j < E.length:=fun j hj=>by
      rcases X2.1 hj with h|h
      ·exact hlt.out j h
      ·simp at h;omega
     have wV:=FX hi RN;have bU:(seen++[i]).length≤E.length:=by
      have:=(jy.length_le_of_subset (fun j hj=>YR.2 (Gu j hj)):(seen++[i]).length≤(X5 E.length).length);simpa using this
     have qk:(seen++[i]).countP (kS E (gz s.net.vpcs))=seen.countP (kS E (gz s.net.vpcs))+if gz s.net.vpcs kv.2 then 1 else 0:=by
      rw[List.countP_append];simp[kS,Gz]
     by_cases hb:gz s.net.vpcs kv.2=true
     ·have jd:(s.net.vpcs.any fun v=>v.id==kv.2)=true:=hb;rw[jd]at nl;rw[if_pos hb]at qk;have Wi:IntKind.i64.wrap (c - 1)=c - 1:=by have:=hc.out;have:=U3.out;have:=fS.out;rw[IntKind.wrap_i64];omega
      have wH:c - 1=(Nn:Int) - ((seen++[i]).countP (kS E (gz s.net.vpcs)):Nat):=by rw[qk];have:=hc.out;omega
      replace qk:=Xj qk;replace wH:=Xj wH;replace hb:=Xj hb;clear jd;replace jy:=Xj jy;replace Gu:=Xj Gu;replace wV:=Xj wV;replace bU:=Xj bU;change sC _ _ _ _ _ _ _ _ _ _;refine am ?_;exact jz _ _ _ _ _ (by rw[hm];exact wV.out) ⟨_,_,jy.out,Gu.out,rfl,wH.out,bU.out,rfl,rfl⟩ wf
     ·have jd:(s.net.vpcs.any fun v=>v.id==kv.2)=false:=by simpa[gz]using hb
      rw[jd]at nl;rw[if_neg hb]at qk;have wH:c=(Nn:Int) - ((seen++[i]).countP (kS E (gz s.net.vpcs)):Nat):=by rw[qk];have:=hc.out;omega
      replace qk:=Xj qk;replace wH:=Xj wH;replace hb:=Xj hb;clear jd;replace jy:=Xj jy;replace Gu:=Xj Gu;replace wV:=Xj wV;replace bU:=Xj bU;change sC _ _ _ _ _ _ _ _ _ _;refine am ?_;exact jz _ _ _ _ _ (by rw[hm];exact wV.out) ⟨_,_,jy.out,Gu.out,rfl,wH.out,bU.out,rfl,rfl⟩ wf
  ·have e2:(cK s.net !=0)=true:=by simpa using h2
   have rS:R=cK s.net:=by rw[hR.out];unfold iA;rw[if_neg (by simpa using h1),if_pos h2]
   rw[rS];generalize cK s.net=X at*;refine pj func11 ntmps11 results11 ?_;exact aZ
 ·have e2:(a9 s.book !=0)=true:=by simpa using h1
  have rS:R=a9 s.book:=by rw[hR.out];unfold iA;rw[if_pos h1]
  rw[rS];generalize a9 s.book=X at*;refine pj func11 ntmps11 results11 ?_;exact aZ
def Bok.zero:Bok:=⟨0,[]⟩
theorem lH {b:Bok}{id:Int}{q:Pol}(h:bK b id=some q):∃i:Nat,b.pools[i]? =some q∧q.id=id:=by
 have h1:=Zh h;have h2:=YF h;obtain⟨i,hi,rfl⟩:=X0.1 h2;exact⟨i,Xk hi,by simpa using h1⟩
theorem km {b:Bok}{id:Int}{q:Pol}(h:bK b id=some q):∃pre post,b.pools=pre++q::post∧q.id=id:=by
 obtain⟨i,hi,he⟩:=lH h;obtain⟨hlt,rfl⟩:=Xn.1 hi;exact⟨b.pools.take i,b.pools.drop (i+1),by rw[ZZ,YX],he⟩
def ns (b:Bok)(id:Int)(root:Pfx)(r:Rul):Int:=
 if dR id=false∨chk root.at_ root.len≠0 then 3 else
 if (bK b id).isSome=true∨(b.pools.any fun p=>(p.up==0)&&p.root.meets root)=true then 6 else
 if fD r root.len=false then 1 else if b.pools.length=8 then 2 else 0
def fO (b:Bok)(id:Int)(root:Pfx)(r:Rul):Bok × Int:=
 if a9 b≠0 then (Bok.zero,a9 b)else if ns b id root r≠0 then (Bok.zero,ns b id root r)else (⟨b.tick,kY ⟨id,0,root,r,[]⟩ b.pools⟩,0)
theorem NY (p:Pol)(root:Pfx):af prog 118 [.agg (ah p),.ept (aN root)] (.v (.bool ((p.up==0)&&p.root.meets root))):=by
 have hm:=oU p.root root;refine pj func118 ntmps118 results118 ?_;exact aZ
theorem Qi (b:Bok)(id:Int)(root:Pfx)(r:Rul)(hz:∀p∈b.pools,p.leases.length≤3518437208882):af prog 54 [.agg (aS b),.v (.int .i64 id),.agg (aN root),.agg (pi r)] (.tup [.agg (aS (fO b id root r).1),.v (.int .i64 (fO b id root r).2)]):=by
 by_cases hc:a9 b=0
 ·have cn:=dF hc;have cQ:=jp b hz hc;have hid:=yK id;have bc:=qS root;have nl:=HI kX (fun p=>(p.up==0)&&p.root.meets root) b.pools 118 [.ept (aN root)] (by have:=cn.n8;omega) (fun p _=>NY p root);have wS:=Ex r root;have RQ:=(Pp b.pools ⟨id,0,root,r,[]⟩ b.pools.length (.v (.int .i64 b.tick)) cn.n8 cn.rise rfl).lep (args':=[.ptr 0 0,.d (.agg [.v (.int .i64 id),.v (.int .i64 0),.v (.int .i64 root.at_),.v (.int .i64 root.len),.v (.int .i64 r.min),.v (.int .i64 r.max),.v (.int .i64 r.usual),.v (.int .i64 r.cool),.v (.slice none 0 0)])]) ⟨.inl rfl,.inr ⟨_,_,rfl,rfl,dg⟩,trivial⟩ rfl;obtain⟨R,hR⟩:∃R,R=fO b id root r:=⟨_,rfl⟩;rw[←hR];replace hR:=Xj hR;cases hq:bK b id with
  |none=>
   have hf:=m5 b id (by have:=cn.n8;omega) cn.rise;unfold ow at hf;rw[hq]at hf;refine pj func54 ntmps54 results54 ?_;repeat' (first|(with_reducible refine And.intro ?_ ?_)|(with_reducible refine cm (fun _=>?_) (fun _=>?_))|(with_reducible refine aA (fun _=>?_) (fun _=>?_))|(with_reducible refine be (by kernel_rfl))|simp -dsimp only[go_sem,seval, *,aS,aN,pi]|((with_reducible refine bf ?_);simp -dsimp only[go_sem,seval,aS,aN,pi];first|refine aC (by first|assumption|exact hf|exact hid|exact bc|exact nl|exact wS) (by first|exact .inl rfl|exact .inr rfl) ?_|(refine aB (by assumption) ?_ ?_ ?_;(solve|(repeat(first|exact ai.refl _|exact ai.nil _|(refine ai.tup ?_)|(refine ai.agg ?_ rfl)|exact trivial|(refine And.intro ?_ ?_))));(solve|exact .inl rfl|exact .inr rfl)))|(refine aX [] (cQ) ?_ ?_ ?_ ?_ ?_ ?_;(solve|rfl|simp only[go_sem,seval,aS]);(solve|rfl);(solve|decide);(solve|simp);(solve|simp only[go_sem,seval,ax,aS]))|(refine aX [6,7] (RQ) ?_ ?_ ?_ ?_ ?_ ?_;(solve|rfl|simp only[go_sem,seval,aN]);(solve|rfl);(solve|decide);(solve|simp);(solve|simp only[go_sem,seval,ax,aN]))|omega|exact decide_eq_true (by omega)|exact ai.refl _)
   all_goals clear hf hid bc nl wS cQ RQ hz
   all_goals first
    |(rw[show R=(Bok.zero,3) from (by rw[hR.out];unfold fO ns;grind)];(try simp only[Xo,Xm]);exact dg)
    |(rw[show R=(Bok.zero,6) from (by rw[hR.out];unfold fO ns;grind)];(try simp only[Xo,Xm]);exact dg)
    |(rw[show R=(Bok.zero,1) from (by rw[hR.out];unfold fO ns;grind)];(try simp only[Xo,Xm]);exact dg)
    |(rw[show R=(Bok.zero,2) from (by rw[hR.out];unfold fO ns;grind)];(try simp only[Xo,Xm]);exact dg)
    |(rw[show R=(⟨b.tick,kY ⟨id,0,root,r,[]⟩ b.pools⟩,0) from (by rw[hR.out];unfold fO ns;grind)];(try simp only[Xo,Xm]);exact dg)
  |some q=>
   obtain⟨i,OW,rfl⟩:=lH hq;have hf:=Ab b i q b.pools.length (ab (b.pools.map ah)) [] (.d (.v (.int .i64 b.tick))) OW cn.rise cn.n8 (by simp[aF]) (eG _ _ _) (az _ _) rfl rfl;replace OW:=Xj OW;refine pj func54 ntmps54 results54 ?_;have z1z:=Ln.mk (ls:=[]) (cQ);have z2z:=Ln.mk (ls:=[6,7]) (hf);refine zO ?_ ?_ ?_<;>intros;all_goals clear hf hid bc nl wS cQ RQ hz
   all_goals first
    |(rw[show R=(Bok.zero,3) from (by rw[hR.out];unfold fO ns;grind)];(try simp only[Xo,Xm]);exact dg)
    |(rw[show R=(Bok.zero,6) from (by rw[hR.out];unfold fO ns;grind)];(try simp only[Xo,Xm]);exact dg)
 ·have cQ:=mB b hz hc;have hr:fO b id root r=(Bok.zero,a9 b):=by unfold fO;rw[if_pos hc]
  have h1:(a9 b !=0)=true:=by simpa using hc
  rw[hr];replace hr:=Xj hr;refine pj func54 ntmps54 results54 ?_;refine am ?_<;>intros;exact dg
theorem p9 (f:PV→Option D):∀(l m:List (List PV)),da f (l++m)=match da f l,da f m with|some a,some b=>some (a++b)|_,_=>none
 |[],m=>by simp only[Ya,da];cases da f m<;>rfl
 |r::l,m=>by
  simp only[X8,da,p9 f l m];cases cJ f r<;>cases da f l<;>cases da f m<;>rfl
@[go_sem] theorem gI (h:Nat→Chunk)(n:Nat)(pre:List Pol)(r:List PV)(post:List Pol):da (bp h n) (fE pre r post)=match cJ (bp h n) r with|some d=>some (pre.map ah++d::post.map ah)|none=>none:=by
 simp only[fE,p9,da,eG];cases cJ (bp h n) r<;>rfl
theorem kZ {p:Pol}(h:gY p.root (dt p)=0):p.leases.Pairwise fun a b=>a.at_.at_ < b.at_.at_:=by
 obtain⟨h1,h2,h3,h4⟩:=re.1 h;unfold dt at h3 h4;rw[Y3]at h4;refine h4.imp_of_mem fun {a b} ha hb gE=>?_;have hr:=(cw.1 (h3 a.at_ (XQ.2 ⟨a,ha,rfl⟩))).1;have:=Pfx.hi_bd hr;unfold tB at gE;omega
def rg (b:Bok)(id:Int)(f:Pol→Pol):Bok:=⟨b.tick,b.pools.map fun q=>if q.id==id then f q else q⟩
theorem m6 {b:Bok}{pre post:List Pol}{p:Pol}(hr:mZ b.pools)(h:b.pools=pre++p::post)(f:Pol→Pol):rg b p.id f=⟨b.tick,pre++f p::post⟩:=by
 unfold rg;rw[h];have hr':=hr;rw[h]at hr';obtain⟨h1,h2,h3⟩:=YT.1 hr';rw[YC]at h2;have e1:pre.map (fun q=>if q.id==p.id then f q else q)=pre:=by
  conv=>rhs;rw[←List.map_id pre]
  refine Zr fun q hq=>?_;have:=h3 q hq p (by simp);rw[if_neg (by simp;omega)];rfl
 have e2:post.map (fun q=>if q.id==p.id then f q else q)=post:=by
  conv=>rhs;rw[←List.map_id post]
  refine Zr fun q hq=>?_;have:=h2.1 q hq;rw[if_neg (by simp;omega)];rfl
 rw[Xo,Xm,e1,e2];simp
def cO (b:Bok)(id size owner:Int):Bok × Pfx × Int:=
 if a9 b≠0 then (Bok.zero,Pfx.zero,a9 b)else
 match bK b id with
 |none=>(Bok.zero,Pfx.zero,5)
 |some p=>
  if dR owner=false then (Bok.zero,Pfx.zero,3)else
  let f:=cz p (if size=0 then p.rule.usual else size)
  if f.2≠0 then (Bok.zero,Pfx.zero,f.2)else (rg b id fun p=>{p with leases:=gZ ⟨f.1,1,owner,0⟩ p.leases},f.1,0)
theorem KI (b:Bok)(id size owner:Int)(hz:∀p∈b.pools,p.leases.length≤3518437208882):af prog 59 [.agg (aS b),.v (.int .i64 id),.v (.int .i64 size),.v (.int .i64 owner)] (.tup [.agg (aS (cO b id size owner).1),.agg (aN (cO b id size owner).2.1),.v (.int .i64 (cO b id size owner).2.2)]):=by
 obtain⟨R,hR⟩:∃R,R=cO b id size owner:=⟨_,rfl⟩;rw[←hR];replace hR:=Xj hR;by_cases hc:a9 b=0
 ·have cn:=dF hc;have hid:=yK owner;cases hq:bK b id with
  |none=>
   have cQ:=jp b hz hc;have hf:=m5 b id (by have:=cn.n8;omega) cn.rise;unfold ow at hf;rw[hq]at hf;replace hc:=Xj hc;replace hq:=Xj hq;refine pj func59 ntmps59 results59 ?_;have z1z:=Ln.mk (ls:=[]) (cQ);refine am ?_<;>intros;rw[show R=(Bok.zero,Pfx.zero,5) from (by rw[hR.out];unfold cO;rw[if_neg (by simpa using hc.out),hq.out])];exact dg
  |some p=>
   obtain⟨pre,post,hp,rfl⟩:=km hq;have cQ:=rf b pre post p hp hz hc;have oL:p∈b.pools:=by rw[hp];simp
   have wR:b.pools[pre.length]? =some p:=by rw[hp,XK (XB _),YG];rfl
   have nG:=cn.l32 p oL;have Tm:da (bp (aG [.box 24 [.d (.v (.int .i64 b.tick)),.own 1 b.pools.length],.row 62 9 b.pools.length (fE pre (av p (.own 2 1)) post),.row 68 5 1 (ab (p.leases.map aV))]) 5) (fE pre (av p (.own 2 1)) post)=some (b.pools.map ah):=by
    rw[hp];simp only[gI,av,cJ,bp,aG,eG,if_true,Ye,Xo,Xm];rfl
   have hf:=Ab b pre.length p b.pools.length (fE pre (av p (.own 2 1)) post) [.row 68 5 1 (ab (p.leases.map aV))] (.d (.v (.int .i64 b.tick))) wR cn.rise cn.n8 (by rw[vQ,hp];simp;omega) Tm (by rw[ik];rfl) (by simp only[aH,aQ,az,Yp]) rfl;have O1:=fun s=>Pn p s nG;have O2:=fun l=>Po pre post p l b.pools.length 1 nG (kZ (cn.mem p oL).2.1);have gj:=fun f=>m6 cn.rise hp f;have aP:R=if dR owner=false then (Bok.zero,Pfx.zero,3)else if (cz p (if size=0 then p.rule.usual else size)).2≠0 then (Bok.zero,Pfx.zero,(cz p (if size=0 then p.rule.usual else size)).2)else
    (⟨b.tick,pre++{p with leases:=gZ ⟨(cz p (if size=0 then p.rule.usual else size)).1,1,owner,0⟩ p.leases}::post⟩,(cz p (if size=0 then p.rule.usual else size)).1,0):=by
    rw[hR.out];unfold cO;rw[if_neg (by simpa using hc),hq];simp only;rw[gj]
   replace aP:=Xj aP;replace hc:=Xj hc;replace hq:=Xj hq;replace hp:=Xj hp;replace wR:=Xj wR;replace gj:=Xj gj;clear Tm oL;cases h0:size==0 with
   |true=>
    have e0:size=0:=by simpa using h0
    have aP:=aP.out;rw[if_pos e0]at aP;replace aP:=Xj aP;replace e0:=Xj e0;have Fe:=O2 ⟨(cz p p.rule.usual).1,1,owner,0⟩;have Mv:=O1 p.rule.usual;clear O2 O1;refine pj func59 ntmps59 results59 ?_;repeat' (first|(with_reducible refine And.intro ?_ ?_)|(with_reducible refine cm (fun _=>?_) (fun _=>?_))|(with_reducible refine aA (fun _=>?_) (fun _=>?_))|(with_reducible refine be (by kernel_rfl))|simp -dsimp only[go_sem,seval, *,aS,aN,aV,av,aO,eN,gI,h0]|((with_reducible refine bf ?_);simp -dsimp only[go_sem,seval,aS,aN,aV,av,aO,eN,gI,h0];first|refine aC (by first|assumption|exact hid|exact Mv) (by first|exact .inl rfl|exact .inr rfl) ?_|(refine aB (by assumption) ?_ ?_ ?_;(solve|(repeat(first|exact ai.refl _|exact ai.nil _|(refine ai.tup ?_)|(refine ai.agg ?_ rfl)|exact trivial|(refine And.intro ?_ ?_))));(solve|exact .inl rfl|exact .inr rfl)))|(refine aX [] (cQ) ?_ ?_ ?_ ?_ ?_ ?_;(solve|rfl|simp only[go_sem,seval,aS,av,aO]);(solve|rfl);(solve|decide);(solve|simp);(solve|simp only[go_sem,seval,ax,aS,av,aO]))|(refine aX [5,6,8] (hf) ?_ ?_ ?_ ?_ ?_ ?_;(solve|rfl|simp only[go_sem,seval,aN,av,aO]);(solve|rfl);(solve|decide);(solve|simp);(solve|simp only[go_sem,seval,ax,aN,av,aO]))|(refine aX [6,8] (Fe) ?_ ?_ ?_ ?_ ?_ ?_;(solve|rfl|simp only[go_sem,seval,aN,aV,av,aO]);(solve|rfl);(solve|decide);(solve|simp);(solve|simp only[go_sem,seval,ax,aN,aV,av,aO]))|omega|exact decide_eq_true (by omega)|exact ai.refl _)
    all_goals clear hf hid Mv Fe cQ hz
    all_goals first
     |(rw[show R=(Bok.zero,Pfx.zero,3) from (by rw[aP.out];grind)];(try simp only[Xo,Xm]);exact dg)
     |(rw[show R=(Bok.zero,Pfx.zero,(cz p p.rule.usual).2) from (by rw[aP.out];grind)];(try simp only[Xo,Xm]);exact dg)
     |(rw[show R=(⟨b.tick,pre++{p with leases:=gZ ⟨(cz p p.rule.usual).1,1,owner,0⟩ p.leases}::post⟩,(cz p p.rule.usual).1,0) from (by rw[aP.out];grind)];(try simp only[Xo,Xm]);exact dg)
   |false=>
    have e0:¬size=0:=by simpa using h0
    have aP:=aP.out;rw[if_neg e0]at aP;replace aP:=Xj aP;replace e0:=Xj e0;have Fe:=O2 ⟨(cz p size).1,1,owner,0⟩;have Mv:=O1 size;clear O2 O1;refine pj func59 ntmps59 results59 ?_;repeat' (first|(with_reducible refine And.intro ?_ ?_)|(with_reducible refine cm (fun _=>?_) (fun _=>?_))|(with_reducible refine aA (fun _=>?_) (fun _=>?_))|(with_reducible refine be (by kernel_rfl))|simp -dsimp only[go_sem,seval, *,aS,aN,aV,av,aO,eN,gI,h0]|((with_reducible refine bf ?_);simp -dsimp only[go_sem,seval,aS,aN,aV,av,aO,eN,gI,h0];first|refine aC (by first|assumption|exact hid|exact Mv) (by first|exact .inl rfl|exact .inr rfl) ?_|(refine aB (by assumption) ?_ ?_ ?_;(solve|(repeat(first|exact ai.refl _|exact ai.nil _|(refine ai.tup ?_)|(refine ai.agg ?_ rfl)|exact trivial|(refine And.intro ?_ ?_))));(solve|exact .inl rfl|exact .inr rfl)))|(refine aX [] (cQ) ?_ ?_ ?_ ?_ ?_ ?_;(solve|rfl|simp only[go_sem,seval,aS,av,aO]);(solve|rfl);(solve|decide);(solve|simp);(solve|simp only[go_sem,seval,ax,aS,av,aO]))|(refine aX [5,6,8] (hf) ?_ ?_ ?_ ?_ ?_ ?_;(solve|rfl|simp only[go_sem,seval,aN,av,aO]);(solve|rfl);(solve|decide);(solve|simp);(solve|simp only[go_sem,seval,ax,aN,av,aO]))|(refine aX [6,8] (Fe) ?_ ?_ ?_ ?_ ?_ ?_;(solve|rfl|simp only[go_sem,seval,aN,aV,av,aO]);(solve|rfl);(solve|decide);(solve|simp);(solve|simp only[go_sem,seval,ax,aN,aV,av,aO]))|omega|exact decide_eq_true (by omega)|exact ai.refl _)
    all_goals clear hf hid Mv Fe cQ hz
    all_goals first
     |(rw[show R=(Bok.zero,Pfx.zero,3) from (by rw[aP.out];grind)];(try simp only[Xo,Xm]);exact dg)
     |(rw[show R=(Bok.zero,Pfx.zero,(cz p size).2) from (by rw[aP.out];grind)];(try simp only[Xo,Xm]);exact dg)
     |(rw[show R=(⟨b.tick,pre++{p with leases:=gZ ⟨(cz p size).1,1,owner,0⟩ p.leases}::post⟩,(cz p size).1,0) from (by rw[aP.out];grind)];(try simp only[Xo,Xm]);exact dg)
 ·have cQ:=mB b hz hc;have h1:(a9 b !=0)=true:=by simpa using hc
  have hr:R=(Bok.zero,Pfx.zero,a9 b):=by rw[hR.out];unfold cO;rw[if_pos hc]
  rw[hr];replace hr:=Xj hr;refine pj func59 ntmps59 results59 ?_;refine am ?_<;>intros;exact dg
def i9 (at_:Pfx)(l:Lse):Bool:=(l.kind==1)&&decide (l.at_=at_)
theorem NZ (l:Lse)(at_:Pfx):af prog 131 [.agg (aV l),.ept (aN at_)] (.v (.bool (i9 at_ l))):=by
 have he:=mw l.at_ at_;unfold i9;rw[←he];replace he:=Xj he;refine pj func131 ntmps131 results131 ?_;exact aZ
def fg (b:Bok)(id:Int)(at_:Pfx):Bok × Int:=
 if a9 b≠0 then (Bok.zero,a9 b)else
 match bK b id with
 |none=>(Bok.zero,5)
 |some p=>match p.leases.findIdx? (i9 at_)with
  |none=>(Bok.zero,5)
  |some i=>(rg b id fun p=>{p with leases:=jO p i b.tick},0)
theorem oY {r:Rul}{len:Int}(h:fD r len=true):0≤r.cool∧r.cool≤1024:=by
 simp only[fD,Xy,decide_eq_true_eq]at h;exact h.2
structure ZipB (b:Bok)(pre post:List Pol)(p:Pol):Prop where
 eq:b.pools=pre++p::post
 at_:b.pools[pre.length]? =some p
 mem:p∈b.pools
 view:da (bp (aG [.box 24 [.d (.v (.int .i64 b.tick)),.own 1 b.pools.length],.row 62 9 b.pools.length (fE pre (av p (.own 2 1)) post),.row 68 5 1 (ab (p.leases.map aV))]) 5) (fE pre (av p (.own 2 1)) post)=some (b.pools.map ah)
 len:(fE pre (av p (.own 2 1)) post).length=b.pools.length
theorem Qj {b:Bok}{pre post:List Pol}{p:Pol}(hp:b.pools=pre++p::post):ZipB b pre post p:=by
 refine⟨hp,?_,?_,?_,?_⟩
 ·rw[hp,XK (XB _),YG];rfl
 ·rw[hp];simp
 ·rw[hp];simp only[gI,av,cJ,bp,aG,eG,if_true,Ye,Xo,Xm];rfl
 ·rw[vQ,hp];simp;omega
theorem ri {b:Bok}(hb:BookOK b){pre post:List Pol}{p:Pol}(hz:ZipB b pre post p){i:Nat}{q:Pol}(hq:b.pools[i]? =some q):
 MSpec prog 116 [.ptr 0 0,.d (.v (.int .i64 q.id))] [.box 24 [.d (.v (.int .i64 b.tick)),.own 1 b.pools.length],.row 62 9 b.pools.length (fE pre (av p (.own 2 1)) post),.row 68 5 1 (ab (p.leases.map aV))]
  (.tup [.rp 1 b.pools.length 9 i 0,.d (.v (.bool true))]) [.box 24 [.d (.v (.int .i64 b.tick)),.own 1 b.pools.length],.row 62 9 b.pools.length (fE pre (av p (.own 2 1)) post),.row 68 5 1 (ab (p.leases.map aV))]:=
 Ab b i q b.pools.length _ [.row 68 5 1 (ab (p.leases.map aV))] (.d (.v (.int .i64 b.tick))) hq hb.rise hb.n8 hz.len hz.view (by rw[ik];rfl) (by simp only[aH,aQ,az,Yp]) rfl
theorem KJ (b:Bok)(id:Int)(at_:Pfx)(hz:∀p∈b.pools,p.leases.length≤3518437208882):af prog 62 [.agg (aS b),.v (.int .i64 id),.agg (aN at_)] (.tup [.agg (aS (fg b id at_).1),.v (.int .i64 (fg b id at_).2)]):=by
 obtain⟨R,hR⟩:∃R,R=fg b id at_:=⟨_,rfl⟩;rw[←hR];replace hR:=Xj hR;by_cases hc:a9 b=0
 ·have cn:=dF hc;cases hq:bK b id with
  |none=>
   have cQ:=jp b hz hc;have hf:=m5 b id (by have:=cn.n8;omega) cn.rise;unfold ow at hf;rw[hq]at hf;replace hc:=Xj hc;replace hq:=Xj hq;refine pj func62 ntmps62 results62 ?_;have z1z:=Ln.mk (ls:=[]) (cQ);refine am ?_<;>intros;rw[show R=(Bok.zero,5) from (by rw[hR.out];unfold fg;rw[if_neg (by simpa using hc.out),hq.out])];exact dg
  |some p=>
   obtain⟨pre,post,hp,rfl⟩:=km hq;have cQ:=rf b pre post p hp hz hc;have uz:=Qj hp;have hf:=ri cn uz uz.at_;have nG:=cn.l32 p uz.mem;have nJ:=mW kW (i9 at_) p.leases 131 [.ept (aN at_)] (by omega) (fun l _=>NZ l at_);have gj:=fun f=>m6 cn.rise hp f;unfold cv at nJ;cases MT:p.leases.findIdx? (i9 at_)with
   |none=>
    rw[MT]at nJ;have hr:R=(Bok.zero,5):=by rw[hR.out];unfold fg;rw[if_neg (by simpa using hc),hq];simp only;rw[MT]
    rw[hr];clear hr gj hq hp hc MT hR uz;refine pj func62 ntmps62 results62 ?_;repeat' (first|(with_reducible refine And.intro ?_ ?_)|(with_reducible refine cm (fun _=>?_) (fun _=>?_))|(with_reducible refine aA (fun _=>?_) (fun _=>?_))|(with_reducible refine be (by kernel_rfl))|simp -dsimp only[go_sem,seval, *,aS,aN,av,aO,eN]|((with_reducible refine bf ?_);simp -dsimp only[go_sem,seval,aS,aN,av,aO,eN];first|refine aC (by first|assumption|exact nJ) (by first|exact .inl rfl|exact .inr rfl) ?_|(refine aB (by assumption) ?_ ?_ ?_;(solve|(repeat(first|exact ai.refl _|exact ai.nil _|(refine ai.tup ?_)|(refine ai.agg ?_ rfl)|exact trivial|(refine And.intro ?_ ?_))));(solve|exact .inl rfl|exact .inr rfl)))|(refine aX [] (cQ) ?_ ?_ ?_ ?_ ?_ ?_;(solve|rfl|simp only[go_sem,seval,aS,av,aO]);(solve|rfl);(solve|decide);(solve|simp);(solve|simp only[go_sem,seval,ax,aS,av,aO]))|(refine aX [5,6,8] (hf) ?_ ?_ ?_ ?_ ?_ ?_;(solve|rfl|simp only[go_sem,seval,aN,av,aO]);(solve|rfl);(solve|decide);(solve|simp);(solve|simp only[go_sem,seval,ax,aN,av,aO]))|omega|exact decide_eq_true (by omega)|exact ai.refl _)
    exact dg
   |some i=>
    rw[MT]at nJ;have hi:i < p.leases.length:=(XH.1 MT).1;have fS:=KH pre post p i b.pools.length 1 b.tick hi nG (oY (cn.mem p uz.mem).2.2) cn.tick;have hr:R=(⟨b.tick,pre++{p with leases:=jO p i b.tick}::post⟩,0):=by rw[hR.out];unfold fg;rw[if_neg (by simpa using hc),hq];simp only;rw[MT];simp only;rw[gj]
    have jU:decide ((i:Int) < 0)=false:=by simp
    rw[hr];clear hr gj hq hp hc MT hR uz;refine pj func62 ntmps62 results62 ?_;repeat' (first|(with_reducible refine And.intro ?_ ?_)|(with_reducible refine cm (fun _=>?_) (fun _=>?_))|(with_reducible refine aA (fun _=>?_) (fun _=>?_))|(with_reducible refine be (by kernel_rfl))|simp -dsimp only[go_sem,seval, *,aS,aN,av,aO,eN,jU]|((with_reducible refine bf ?_);simp -dsimp only[go_sem,seval,aS,aN,av,aO,eN,jU];first|refine aC (by first|assumption|exact nJ) (by first|exact .inl rfl|exact .inr rfl) ?_|(refine aB (by assumption) ?_ ?_ ?_;(solve|(repeat(first|exact ai.refl _|exact ai.nil _|(refine ai.tup ?_)|(refine ai.agg ?_ rfl)|exact trivial|(refine And.intro ?_ ?_))));(solve|exact .inl rfl|exact .inr rfl)))|(refine aX [] (cQ) ?_ ?_ ?_ ?_ ?_ ?_;(solve|rfl|simp only[go_sem,seval,aS,av,aO]);(solve|rfl);(solve|decide);(solve|simp);(solve|simp only[go_sem,seval,ax,aS,av,aO]))|(refine aX [5,6,8] (hf) ?_ ?_ ?_ ?_ ?_ ?_;(solve|rfl|simp only[go_sem,seval,aN,av,aO]);(solve|rfl);(solve|decide);(solve|simp);(solve|simp only[go_sem,seval,ax,aN,av,aO]))|(refine aX [6,8] (fS) ?_ ?_ ?_ ?_ ?_ ?_;(solve|rfl|simp only[go_sem,seval,aN,aV,av,aO]);(solve|rfl);(solve|decide);(solve|simp);(solve|simp only[go_sem,seval,ax,aN,aV,av,aO]))|omega|exact decide_eq_true (by omega)|exact ai.refl _)
    all_goals exact dg
 ·have cQ:=mB b hz hc;have h1:(a9 b !=0)=true:=by simpa using hc
  have hr:R=(Bok.zero,a9 b):=by rw[hR.out];unfold fg;rw[if_pos hc]
  rw[hr];replace hr:=Xj hr;refine pj func62 ntmps62 results62 ?_;refine am ?_<;>intros;exact dg
def fP (b:Bok)(id up size:Int)(r:Rul):Bok × Pfx × Int:=
 if a9 b≠0 then (Bok.zero,Pfx.zero,a9 b)else
 if dR id=false then (Bok.zero,Pfx.zero,3)else
 match bK b up with
 |none=>(Bok.zero,Pfx.zero,5)
 |some p=>
  if (bK b id).isSome=true then (Bok.zero,Pfx.zero,6)else
  if (cz p size).2≠0 then (Bok.zero,Pfx.zero,(cz p size).2)else
  if fD r (cz p size).1.len=false then (Bok.zero,Pfx.zero,1)else
  if b.pools.length=8 then (Bok.zero,Pfx.zero,2)else
  (⟨b.tick,kY ⟨id,up,(cz p size).1,r,[]⟩ (rg b up fun p=>{p with leases:=gZ ⟨(cz p size).1,2,id,0⟩ p.leases}).pools⟩,(cz p size).1,0)
theorem KK {pre post:List Pol}{p q:Pol}(h:mZ (pre++p::post))(hq:q.id=p.id):mZ (pre++q::post):=by
 unfold mZ at h ⊢;rw[YT,YC]at h ⊢;obtain⟨h1,⟨h2,h3⟩,h4⟩:=h;refine⟨h1,⟨fun a ha=>by rw[hq];exact h2 a ha,h3⟩,fun a ha c hc=>?_⟩;rcases X7.1 hc with rfl|hc
 ·rw[hq];exact h4 a ha p (by simp)
 ·exact h4 a ha c (by simp[hc])
theorem Qk (b:Bok)(id up size:Int)(r:Rul)(hz:∀p∈b.pools,p.leases.length≤3518437208882):af prog 55 [.agg (aS b),.v (.int .i64 id),.v (.int .i64 up),.v (.int .i64 size),.agg (pi r)] (.tup [.agg (aS (fP b id up size r).1),.agg (aN (fP b id up size r).2.1),.v (.int .i64 (fP b id up size r).2.2)]):=by
 obtain⟨R,hR⟩:∃R,R=fP b id up size r:=⟨_,rfl⟩;rw[←hR];replace hR:=Xj hR;by_cases hc:a9 b=0
 ·have cn:=dF hc;have hid:=yK id;cases Dx:dR id with
  |false=>
   rw[Dx]at hid;have cQ:=jp b hz hc;have hr:R=(Bok.zero,Pfx.zero,3):=by rw[hR.out];unfold fP;rw[if_neg (by simpa using hc),if_pos Dx]
   rw[hr];clear hr hR hc Dx;refine pj func55 ntmps55 results55 ?_;have z1z:=Ln.mk (ls:=[]) (cQ);refine am ?_<;>intros;exact dg
  |true=>
   rw[Dx]at hid;cases hq:bK b up with
   |none=>
    have cQ:=jp b hz hc;have hf:=m5 b up (by have:=cn.n8;omega) cn.rise;unfold ow at hf;rw[hq]at hf;have hr:R=(Bok.zero,Pfx.zero,5):=by rw[hR.out];unfold fP;rw[if_neg (by simpa using hc),if_neg (by simp[Dx]),hq]
    rw[hr];clear hr hR hc Dx hq;refine pj func55 ntmps55 results55 ?_;have z1z:=Ln.mk (ls:=[]) (cQ);refine am ?_<;>intros;exact dg
   |some p=>
    obtain⟨pre,post,hp,rfl⟩:=km hq;have cQ:=rf b pre post p hp hz hc;have uz:=Qj hp;have hf:=ri cn uz uz.at_;have nG:=cn.l32 p uz.mem;have gj:=fun f=>m6 cn.rise hp f;have aP:R=if (bK b id).isSome=true then (Bok.zero,Pfx.zero,6)else if (cz p size).2≠0 then (Bok.zero,Pfx.zero,(cz p size).2)else if fD r (cz p size).1.len=false then (Bok.zero,Pfx.zero,1)else
     if b.pools.length=8 then (Bok.zero,Pfx.zero,2)else (⟨b.tick,kY ⟨id,p.id,(cz p size).1,r,[]⟩ (pre++{p with leases:=gZ ⟨(cz p size).1,2,id,0⟩ p.leases}::post)⟩,(cz p size).1,0):=by
     rw[hR.out];unfold fP;rw[if_neg (by simpa using hc),if_neg (by simp[Dx]),hq];simp only;rw[gj]
    cases po:bK b id with
    |some q=>
     obtain⟨i,OW,he⟩:=lH po;have AH:=ri cn uz OW;rw[he]at AH;have hr:R=(Bok.zero,Pfx.zero,6):=by rw[aP,po];rfl
     rw[hr];clear hr hR aP hc Dx hq po hp gj uz OW he;refine pj func55 ntmps55 results55 ?_;repeat' (first|(with_reducible refine And.intro ?_ ?_)|(with_reducible refine cm (fun _=>?_) (fun _=>?_))|(with_reducible refine aA (fun _=>?_) (fun _=>?_))|(with_reducible refine be (by kernel_rfl))|simp -dsimp only[go_sem,seval, *,aS,aN,pi,av,aO,eN]|((with_reducible refine bf ?_);simp -dsimp only[go_sem,seval,aS,aN,pi,av,aO,eN];first|refine aC (by first|assumption|exact hid) (by first|exact .inl rfl|exact .inr rfl) ?_|(refine aB (by assumption) ?_ ?_ ?_;(solve|(repeat(first|exact ai.refl _|exact ai.nil _|(refine ai.tup ?_)|(refine ai.agg ?_ rfl)|exact trivial|(refine And.intro ?_ ?_))));(solve|exact .inl rfl|exact .inr rfl)))|(refine aX [] (cQ) ?_ ?_ ?_ ?_ ?_ ?_;(solve|rfl|simp only[go_sem,seval,aS,av,aO]);(solve|rfl);(solve|decide);(solve|simp);(solve|simp only[go_sem,seval,ax,aS,av,aO]))|(refine aX [6,7,9] (hf) ?_ ?_ ?_ ?_ ?_ ?_;(solve|rfl|simp only[go_sem,seval,aN,av,aO]);(solve|rfl);(solve|decide);(solve|simp);(solve|simp only[go_sem,seval,ax,aN,av,aO]))|(refine aX [6,7,9] (AH) ?_ ?_ ?_ ?_ ?_ ?_;(solve|rfl|simp only[go_sem,seval,aN,av,aO]);(solve|rfl);(solve|decide);(solve|simp);(solve|simp only[go_sem,seval,ax,aN,av,aO]))|omega|exact decide_eq_true (by omega)|exact ai.refl _)
     all_goals exact dg
    |none=>
     have AH:=m5 b id (by have:=cn.n8;omega) cn.rise;unfold ow at AH;rw[po]at AH;have O1:=Pn p size nG;have wS:=Ex r (cz p size).1;have hlt:=Po pre post p ⟨(cz p size).1,2,id,0⟩ b.pools.length 1 nG (kZ (cn.mem p uz.mem).2.1);have TQ:(pre++{p with leases:=gZ ⟨(cz p size).1,2,id,0⟩ p.leases}::post).length≤8:=by
      have:=cn.n8;rw[hp]at this;simpa using this
     have bT:(pre++{p with leases:=gZ ⟨(cz p size).1,2,id,0⟩ p.leases}::post).length=b.pools.length:=by rw[hp];simp
     have Wl:mZ (pre++{p with leases:=gZ ⟨(cz p size).1,2,id,0⟩ p.leases}::post):=by
      have:=cn.rise;rw[hp]at this;exact KK this rfl
     have RQ:=(Pp _ ⟨id,p.id,(cz p size).1,r,[]⟩ b.pools.length (.v (.int .i64 b.tick)) TQ Wl rfl).lep (args':=[.ptr 0 0,.d (.agg [.v (.int .i64 id),.v (.int .i64 p.id),.v (.int .i64 (cz p size).1.at_),.v (.int .i64 (cz p size).1.len),.v (.int .i64 r.min),.v (.int .i64 r.max),.v (.int .i64 r.usual),.v (.int .i64 r.cool),.v (.slice none 0 0)])]) ⟨.inl rfl,.inr ⟨_,_,rfl,rfl,dg⟩,trivial⟩ rfl;have fI:Hid (R=if (cz p size).2≠0 then (Bok.zero,Pfx.zero,(cz p size).2)else if fD r (cz p size).1.len=false then (Bok.zero,Pfx.zero,1)else
      if b.pools.length=8 then (Bok.zero,Pfx.zero,2)else (⟨b.tick,kY ⟨id,p.id,(cz p size).1,r,[]⟩ (pre++{p with leases:=gZ ⟨(cz p size).1,2,id,0⟩ p.leases}::post)⟩,(cz p size).1,0)):=by
      show R=_;rw[aP,po];rfl
     have hvq:da (bp (aG [.gone]) 0) []=some []:=rfl;clear hR aP hc Dx hq po gj TQ Wl hvq bT;have aP:=fI;clear fI;have a0c:=Xj hp;have Tm:=uz.view;simp only[gI,av,cJ,bp,aG,eG,if_true,Ye]at Tm;clear uz;have he:aS b=[.v (.int .i64 b.tick),.sl 9 (List.map ah pre++ah p::List.map ah post)]:=by unfold aS;rw[hp,Xo,Xm]
     rw[he]at AH;have Pw:∀r,(fE pre r post).length=b.pools.length:=fun r=>by rw[vQ,hp];simp;omega
     clear hp Tm he;refine pj func55 ntmps55 results55 ?_;repeat' (first|(with_reducible refine And.intro ?_ ?_)|(with_reducible refine cm (fun _=>?_) (fun _=>?_))|(with_reducible refine aA (fun _=>?_) (fun _=>?_))|(with_reducible refine be (by kernel_rfl))|simp -dsimp only[go_sem,seval, *,aS,aN,pi,aV,av,aO,eN,gI,Pw]|((with_reducible refine bf ?_);simp -dsimp only[go_sem,seval,aS,aN,pi,aV,av,aO,eN,gI,Pw];first|refine aC (by first|assumption|exact hid|exact AH|exact O1|exact wS) (by first|exact .inl rfl|exact .inr rfl) ?_|(refine aB (by assumption) ?_ ?_ ?_;(solve|(repeat(first|exact ai.refl _|exact ai.nil _|(refine ai.tup ?_)|(refine ai.agg ?_ rfl)|exact trivial|(refine And.intro ?_ ?_))));(solve|exact .inl rfl|exact .inr rfl)))|(refine aX [] (cQ) ?_ ?_ ?_ ?_ ?_ ?_;(solve|rfl|simp only[go_sem,seval,aS,av,aO]);(solve|rfl);(solve|decide);(solve|simp);(solve|simp only[go_sem,seval,ax,aS,av,aO]))|(refine aX [6,7,9] (hf) ?_ ?_ ?_ ?_ ?_ ?_;(solve|rfl|simp only[go_sem,seval,aN,av,aO]);(solve|rfl);(solve|decide);(solve|simp);(solve|simp only[go_sem,seval,ax,aN,av,aO]))|(refine aX [7,9] (hlt) ?_ ?_ ?_ ?_ ?_ ?_;(solve|rfl|simp only[go_sem,seval,aN,aV,av,aO]);(solve|rfl);(solve|decide);(solve|simp);(solve|simp only[go_sem,seval,ax,aN,aV,av,aO]))|(refine aX [6,7] (RQ) ?_ ?_ ?_ ?_ ?_ ?_;(solve|rfl|simp only[go_sem,seval,aN]);(solve|rfl);(solve|decide);(solve|simp);(solve|simp only[go_sem,seval,ax,aN]))|omega|exact decide_eq_true (by omega)|exact ai.refl _)
     all_goals clear hf AH hid O1 wS hlt RQ cQ hz
     all_goals first
      |(rw[show R=(Bok.zero,Pfx.zero,(cz p size).2) from (by rw[aP.out];grind)];(try simp only[Xo,Xm]);exact dg)
      |(rw[show R=(Bok.zero,Pfx.zero,1) from (by rw[aP.out];grind)];(try simp only[Xo,Xm]);exact dg)
      |(rw[show R=(Bok.zero,Pfx.zero,2) from (by rw[aP.out];grind)];(try simp only[Xo,Xm]);exact dg)
      |(rw[show R=(⟨b.tick,kY ⟨id,p.id,(cz p size).1,r,[]⟩ (pre++{p with leases:=gZ ⟨(cz p size).1,2,id,0⟩ p.leases}::post)⟩,(cz p size).1,0) from (by rw[aP.out];grind)];(try simp only[Xo,Xm]);exact dg)
 ·have cQ:=mB b hz hc;have h1:(a9 b !=0)=true:=by simpa using hc
  have hr:R=(Bok.zero,Pfx.zero,a9 b):=by rw[hR.out];unfold fP;rw[if_pos hc]
  rw[hr];replace hr:=Xj hr;refine pj func55 ntmps55 results55 ?_;refine am ?_<;>intros;exact dg
theorem KL (l:Lse):af prog 122 [.agg (aV l)] (.v (.bool (l.kind !=3))):=by
 refine pj func122 ntmps122 results122 ?_;exact aZ
theorem KM (l:Lse)(id:Int):af prog 125 [.agg (aV l),.ept [.v (.int .i64 id)]] (.v (.bool (lm id l))):=by
 unfold lm;refine pj func125 ntmps125 results125 ?_;exact aZ
theorem rj (p:Pol)(id:Int):af prog 127 [.agg (ah p),.ept [.v (.int .i64 id)]] (.v (.bool (p.id==id))):=by
 refine pj func127 ntmps127 results127 ?_;exact aZ
def il (b:Bok)(p:Pol):List Pol:=match bK b p.up with
 |none=>b.pools
 |some u=>match u.leases.findIdx? (lm p.id)with
  |some i=>(rg b u.id fun u=>{u with leases:=jO u i b.tick}).pools
  |none=>b.pools
def fh (b:Bok)(id:Int):Bok × Int:=
 if a9 b≠0 then (Bok.zero,a9 b)else
 match bK b id with
 |none=>(Bok.zero,5)
 |some p=>if (p.leases.any fun l=>l.kind !=3)=true then (Bok.zero,9)else (⟨b.tick,(il b p).filter fun q=>!(q.id==id)⟩,0)
theorem jq {b:Bok}:∀(l:List Pol) (roots:List Pfx),dx b l roots=true→∀p∈l,jM b b.pools.length p=true∧∀l∈p.leases,eL b p l=true
 |[],_,_,p,hp=>by simp at hp
 |q::l,roots,h,p,hp=>by
  simp only[dx,Xy]at h;rcases X7.1 hp with rfl|hp
  ·exact⟨h.1.1,fun l hl=>XE.1 h.1.2 l hl⟩
  ·have h2:=h.2;split at h2
   ·simp only[Xy]at h2;exact jq l _ h2.2 p hp
   ·exact jq l _ h2 p hp
theorem Ac {b:Bok}{p:Pol}(hp:bK b p.id=some p)(h1:p.id≠0)(he:p.up=p.id):∀n,jM b n p=false
 |0=>by simp[jM,he,h1]
 |n+1=>by simp[jM,he,h1,hp,Ac hp h1 he n]
theorem F6 {b:Bok}{n:Nat}{p u:Pol}(h:jM b n p=true)(h0:p.up≠0)(hu:bK b p.up=some u):u.leases.any (lm p.id)=true:=by
 cases n with
 |zero=>simp[jM,h0]at h
 |succ n=>
  simp only[jM,hu,Bool.or_eq_true,Xy,beq_iff_eq]at h;rcases h with h|h
  ·exact absurd h h0
  ·exact h.1
theorem EA {pre post:List Pol}{p q:Pol}{r:List PV}{i:Nat}(h:(pre++p::post)[i]? =some q)(bB:i≠pre.length):(fE pre r post)[i]? =some ((ah q).map .d):=by
 unfold fE;rcases Zb i pre.length with hlt|he|hgt
 ·rw[X4 hlt]at h;rw[X4 (by rw[aF,XC];exact hlt),gG,Xz,h];rfl
 ·exact absurd he bB
 ·rw[XK (by omega)]at h;rw[XK (by rw[aF,XC];omega),aF,XC];obtain⟨j,hj⟩:∃j,i - pre.length=j+1:=⟨i - pre.length - 1,by omega⟩;rw[hj,Yw]at h ⊢;rw[gG,Xz,h];rfl
theorem N0 (b:Bok)(id:Int)(hz:∀p∈b.pools,p.leases.length≤3518437208882):af prog 56 [.agg (aS b),.v (.int .i64 id)] (.tup [.agg (aS (fh b id).1),.v (.int .i64 (fh b id).2)]):=by
 obtain⟨R,hR⟩:∃R,R=fh b id:=⟨_,rfl⟩;rw[←hR];replace hR:=Xj hR;by_cases hc:a9 b=0
 ·have cn:=dF hc;cases hq:bK b id with
  |none=>
   have cQ:=jp b hz hc;have hf:=m5 b id (by have:=cn.n8;omega) cn.rise;unfold ow at hf;rw[hq]at hf;have hr:R=(Bok.zero,5):=by rw[hR.out];unfold fh;rw[if_neg (by simpa using hc),hq]
   rw[hr];clear hr hR hc hq;refine pj func56 ntmps56 results56 ?_;have z1z:=Ln.mk (ls:=[]) (cQ);refine am ?_<;>intros;exact dg
  |some p=>
   obtain⟨i,wR,rfl⟩:=lH hq;have oL:p∈b.pools:=Xl wR;have nG:=cn.l32 p oL;have nl:=p4 kW (fun l=>l.kind !=3) p.leases 122 [] (by omega) (fun l _=>KL l);have aP:R=if (p.leases.any fun l=>l.kind !=3)=true then (Bok.zero,9)else (⟨b.tick,(il b p).filter fun q=>!(q.id==p.id)⟩,0):=by
    rw[hR.out];unfold fh;rw[if_neg (by simpa using hc),hq]
   replace aP:=Xj aP;cases hu:bK b p.up with
   |none=>
    have cQ:=jp b hz hc;have hf:=Ab b i p b.pools.length (ab (b.pools.map ah)) [] (.d (.v (.int .i64 b.tick))) wR cn.rise cn.n8 (by simp[aF]) (eG _ _ _) (az _ _) rfl rfl;have AH:=m5 b p.up (by have:=cn.n8;omega) cn.rise;unfold ow at AH;rw[hu]at AH;have fS:il b p=b.pools:=by unfold il;rw[hu]
    have aP:=aP.out;rw[fS]at aP;have h8:=cn.n8;replace aP:=Xj aP;clear hq hu fS hR hc;refine pj func56 ntmps56 results56 ?_;repeat' (first|(with_reducible refine And.intro ?_ ?_)|(with_reducible refine cm (fun _=>?_) (fun _=>?_))|(with_reducible refine aA (fun _=>?_) (fun _=>?_))|(with_reducible refine be (by kernel_rfl))|simp -dsimp only[go_sem,seval, *,aS,aN,ah,wR]|((with_reducible refine bf ?_);simp -dsimp only[go_sem,seval,aS,aN,ah,wR];first|refine aC (by first|assumption|exact nl|exact AH) (by first|exact .inl rfl|exact .inr rfl) ?_|(refine aB (by assumption) ?_ ?_ ?_;(solve|(repeat(first|exact ai.refl _|exact ai.nil _|(refine ai.tup ?_)|(refine ai.agg ?_ rfl)|exact trivial|(refine And.intro ?_ ?_))));(solve|exact .inl rfl|exact .inr rfl)))|(refine aX [] (cQ) ?_ ?_ ?_ ?_ ?_ ?_;(solve|rfl|simp only[go_sem,seval,aS]);(solve|rfl);(solve|decide);(solve|simp);(solve|simp only[go_sem,seval,ax,aS]))|(refine aX [5,6] (hf) ?_ ?_ ?_ ?_ ?_ ?_;(solve|rfl|simp only[go_sem,seval,aS]);(solve|rfl);(solve|decide);(solve|simp);(solve|simp only[go_sem,seval,ax,aS]))|(refine J2 (yL (fun q=>q.id==p.id) b.pools 6 _ _ _ _ rfl rfl ?_ ?_ ⟨[.ept [.v (.int .i64 p.id)]],rfl,fun x _=>rj x p.id⟩ (fun m c=>⟨[.ept [.v (.int .i64 p.id)]],rfl,fun x _=>rj x p.id⟩)) ?_)|omega|exact decide_eq_true (by omega)|exact ai.refl _)
    all_goals first
     |first|rfl|simp only[aH,eh,aQ,an,cC,aq,bn,az,ik,av,XA,XZ,XM,ZR,decide_true,Yp,YA]
     |omega
     |(rw[show R=(Bok.zero,9) from (by rw[aP.out];grind)];(try simp only[Xo,Xm]);exact dg)
     |(rw[show R=(⟨b.tick,b.pools.filter fun q=>!(q.id==p.id)⟩,0) from (by rw[aP.out];grind)];(try simp only[Xo,Xm]);exact dg)
   |some u=>
    obtain⟨pre,post,hp,TR⟩:=km hu;have cQ:=rf b pre post u hp hz hc;have uz:=Qj hp;have bB:i≠pre.length:=by
     rintro rfl;have:=uz.at_;rw[wR]at this;obtain rfl:=XX.inj this;have h1:=(jq _ _ cn.second p oL).1;have h2:=Ac hq (by have:=(cn.mem p oL).1;rintro h;rw[h]at this;simp[dR]at this) TR.symm b.pools.length;rw[h2]at h1;exact absurd h1 (by simp)
    have hf:=ri cn uz wR;have AH:=ri cn uz uz.at_;rw[TR]at AH;have Wm:=fun r=>EA (r:=r) (by rw[←hp];exact wR) bB;have Tn:=cn.l32 u uz.mem;have im:=F6 (jq _ _ cn.second p oL).1 (by have:=(cn.mem u uz.mem).1;rintro h;rw[←TR]at h;rw[h]at this;simp[dR]at this) hu;have nJ:=mW kW (lm p.id) u.leases 125 [.ept [.v (.int .i64 p.id)]] (by omega) (fun l _=>KM l p.id);obtain⟨j,hj⟩:∃j,u.leases.findIdx? (lm p.id)=some j:=by
     cases hj:u.leases.findIdx? (lm p.id)with
     |some j=>exact⟨j,rfl⟩
     |none=>
      rw[Yn]at hj;obtain⟨x,hx,lL⟩:=XU.1 im;rw[hj x hx]at lL;exact absurd lL (by simp)
    unfold cv at nJ;rw[hj]at nJ;have jW:j < u.leases.length:=(XH.1 hj).1;have fS:=KH pre post u j b.pools.length 1 b.tick jW Tn (oY (cn.mem u uz.mem).2.2) cn.tick;have Wn:il b p=pre++{u with leases:=jO u j b.tick}::post:=by
     unfold il;rw[hu];simp only;rw[hj];simp only;rw[m6 cn.rise hp]
    have aP:=aP.out;rw[Wn]at aP;replace aP:=Xj aP;have h8:=cn.n8;have bT:(pre++{u with leases:=jO u j b.tick}::post).length≤1000000000:=by
     rw[hp]at h8;simp at h8 ⊢;omega
    clear hq hu TR hR hc Wn im hj wR hp uz h8 cn bB oL;refine pj func56 ntmps56 results56 ?_;repeat' (first|(with_reducible refine And.intro ?_ ?_)|(with_reducible refine cm (fun _=>?_) (fun _=>?_))|(with_reducible refine aA (fun _=>?_) (fun _=>?_))|(with_reducible refine be (by kernel_rfl))|simp -dsimp only[go_sem,seval, *,aS,aN,ah,av,aO,eN,Wm]|((with_reducible refine bf ?_);simp -dsimp only[go_sem,seval,aS,aN,ah,av,aO,eN,Wm];first|refine aC (by first|assumption|exact nl|exact nJ) (by first|exact .inl rfl|exact .inr rfl) ?_|(refine aB (by assumption) ?_ ?_ ?_;(solve|(repeat(first|exact ai.refl _|exact ai.nil _|(refine ai.tup ?_)|(refine ai.agg ?_ rfl)|exact trivial|(refine And.intro ?_ ?_))));(solve|exact .inl rfl|exact .inr rfl)))|(refine aX [] (cQ) ?_ ?_ ?_ ?_ ?_ ?_;(solve|rfl|simp only[go_sem,seval,aS,av,aO]);(solve|rfl);(solve|decide);(solve|simp);(solve|simp only[go_sem,seval,ax,aS,av,aO]))|(refine aX [5,6,8] (hf) ?_ ?_ ?_ ?_ ?_ ?_;(solve|rfl|simp only[go_sem,seval,aN,av,aO]);(solve|rfl);(solve|decide);(solve|simp);(solve|simp only[go_sem,seval,ax,aN,av,aO]))|(refine aX [5,6,8] (AH) ?_ ?_ ?_ ?_ ?_ ?_;(solve|rfl|simp only[go_sem,seval,aN,av,aO]);(solve|rfl);(solve|decide);(solve|simp);(solve|simp only[go_sem,seval,ax,aN,av,aO]))|(refine aX [6,8] (fS) ?_ ?_ ?_ ?_ ?_ ?_;(solve|rfl|simp only[go_sem,seval,aN,aV,av,aO]);(solve|rfl);(solve|decide);(solve|simp);(solve|simp only[go_sem,seval,ax,aN,aV,av,aO]))|(refine J2 (yL (fun q=>q.id==p.id) (pre++{u with leases:=jO u j b.tick}::post) 6 _ _ _ _ rfl rfl ?_ ?_ ⟨[.ept [.v (.int .i64 p.id)]],rfl,fun x _=>rj x p.id⟩ (fun m c=>⟨[.ept [.v (.int .i64 p.id)]],rfl,fun x _=>rj x p.id⟩)) ?_)|omega|exact decide_eq_true (by omega)|exact ai.refl _)
    all_goals first
     |first|rfl|simp only[aH,eh,aQ,an,cC,aq,bn,az,ik,av,XA,XZ,XM,ZR,decide_true,Yp,YA]
     |(simpa using bT)
     |(rw[show R=(Bok.zero,9) from (by rw[aP.out];grind)];(try simp only[Xo,Xm]);exact dg)
     |(rw[show R=(⟨b.tick,(pre++{u with leases:=jO u j b.tick}::post).filter fun q=>!(q.id==p.id)⟩,0) from (by rw[aP.out];grind)];(try simp only[Xo,Xm]);exact dg)
 ·have cQ:=mB b hz hc;have h1:(a9 b !=0)=true:=by simpa using hc
  have hr:R=(Bok.zero,a9 b):=by rw[hR.out];unfold fh;rw[if_pos hc]
  rw[hr];replace hr:=Xj hr;refine pj func56 ntmps56 results56 ?_;refine am ?_<;>intros;exact dg
def fi:Nat→List Pol→List (List PV)
 |_,[]=>[]
 |k,p::ps=>av p (.own k 1)::fi (k+2) ps
def rQ:List Pol→List Chunk
 |[]=>[]
 |p::ps=> .gone:: .row 68 5 1 (ab (p.leases.map aV))::rQ ps
@[go_sem] theorem sE:∀(ps:List Pol) (k:Nat),(fi k ps).length=ps.length
 |[],_=>rfl
 |p::ps,k=>by simp only[fi,XA,sE ps]
theorem m7:∀ps:List Pol,(rQ ps).length=2*ps.length
 |[]=>rfl
 |p::ps=>by simp only[rQ,XA,m7 ps];omega
theorem vT (p:Pol):∀(ps:List Pol) (k:Nat),fi k (ps++[p])=fi k ps++[av p (.own (k+2*ps.length) 1)]
 |[],k=>rfl
 |q::ps,k=>by
  simp only[X8,fi,vT p ps,XA];rw[show k+2+2*ps.length=k+2*(ps.length+1) by omega]
theorem Cj (p:Pol):∀ps:List Pol,rQ (ps++[p])=rQ ps++[.gone,.row 68 5 1 (ab (p.leases.map aV))]
 |[]=>rfl
 |q::ps=>by simp only[X8,rQ,Cj p ps]
theorem iT (n:Nat):∀(ps:List Pol) (k:Nat),k+2*ps.length < n+2→cC n (fi k ps)=true
 |[],_,_=>rfl
 |p::ps,k,h=>by
  simp only[XA]at h;simp only[fi,cC,av,an,aq,iT n ps (k+2) (by omega),YA,Yr,decide_eq_true_eq];omega
theorem m8 (n:Nat):∀ps:List Pol,aH n (rQ ps)=true
 |[]=>rfl
 |p::ps=>by simp only[rQ,aH,aQ,az,m8 n ps,Yp]
@[go_sem] theorem Ql (a:List Chunk)(c d:Chunk):bw (a++[c]) a.length d=a++[d]:=by
 have:=mf a c d [];simpa using this
@[go_sem] theorem Qm (a:List Chunk)(c e d:Chunk):bw (a++[c,e]) a.length d=a++[d,e]:=mf a c d [e]
@[go_sem] theorem RF (a:List Chunk)(c d:Chunk):bw (a++[c]) (a.length+1) d=a++[c,d]:=by
 have:=kC (a++[c]) d;rw[XY]at this;simpa using this
@[go_sem] theorem N1 (a:List Chunk)(c:Chunk)(l:List Chunk):aG (a++c::l) a.length=c:=by
 induction a with
 |nil=>rfl
 |cons x a ih=>exact ih
@[go_sem] theorem Sk (a:List Chunk)(c d:Chunk)(l:List Chunk):aG (a++c::d::l) (a.length+1)=d:=by
 induction a with
 |nil=>rfl
 |cons x a ih=>exact ih
@[go_sem] theorem Sm (a:List Chunk)(c d e:Chunk)(l:List Chunk):aG (a++c::d::e::l) (a.length+2)=e:=by
 induction a with
 |nil=>rfl
 |cons x a ih=>exact ih
@[go_sem] theorem RG (a:List Chunk)(c e d:Chunk):bw (a++[c,e]) (a.length+2) d=a++[c,e,d]:=by
 have:=kC (a++[c,e]) d;rw[XY]at this;simpa using this
theorem m9 (n:Nat):∀(l m:List Chunk),aH n (l++m)=(aH n l&&aH n m)
 |[],m=>rfl
 |c::l,m=>by simp only[X8,aH,m9 n l m,P']
theorem N2 (b:Bok)(h8:b.pools.length≤8)(fu:∀p∈b.pools,p.leases.length≤32):
 MSpec prog 196 [.d (.agg (aS b))] [] (.ptr 1 0) (.gone:: .box 24 [.d (.v (.int .i64 b.tick)),.own 2 b.pools.length]:: .row 62 9 b.pools.length (fi 4 b.pools)::rQ b.pools):=by
 refine mj func196 ntmps196 results196 ?_;refine am ?_<;>intros;refine bg ae ak b.pools (fun _=>True) (fun k=>[(13,.d (.v (.int .i64 k))),(12,.d (.v (.int .i64 b.pools.length))),(11,.d (.sl 9 (b.pools.map ah))),(3,.ptr 1 0),(2,.d (.v (.pointer none)))])
  (fun k=> .gone:: .box 24 [.d (.v (.int .i64 b.tick)),.own 2 k]:: .row 62 9 k (fi 4 (b.pools.take k))::rQ (b.pools.take k)) trivial ?_ ?_ ?_
 ·refine(aL 0 (by simp)).trans ((au (by simp) 1 24 [.d (.v (.int .i64 b.tick)),.d (.v (.slice none 0 0))] 1 62 9 rfl rfl rfl).trans ?_);exact wf
 ·intro k p hp hk _ C hC;have dH:(k:Int) < (b.pools.length:Int):=by omega
  have cM:=wi k (by omega);have iG:=fu p (Xl hp);have i7:k+1≤100:=by omega
  have hlt:(Yf k b.pools).length=k:=by rw[Xp];omega
  have dP:=ag hp;have za:=sE (b.pools.take k) 4;have fS:=m7 (b.pools.take k);rw[hlt]at za fS;rw[dP,vT,Cj,hlt]at hC;have tW:=fun n h=>iT n (b.pools.take k) 4 h;have hbh:=fun n=>m8 n (b.pools.take k);clear dP;generalize rQ (b.pools.take k)=T at*;generalize fi 4 (b.pools.take k)=rows at*;replace fS:=Xj fS;replace tW:=Xj tW;replace hbh:=Xj hbh;have z1z:=Ln.mk (ls:=[]) (iz aV p.leases (by omega));refine am ?_<;>intros;refine hC _ _ trivial ((aL (T.length+3) (by simp)).trans (ec [.row 62 9 0 [av p (.own (T.length+4) 1)]] (by simp) (h':= .gone:: .box 24 [.d (.v (.int .i64 b.tick)),.own 2 (k+1)]:: .row 62 9 (k+1) (rows++[av p (.own (4+2*k) 1)])::(T++[.gone,.row 68 5 1 (ab (p.leases.map aV))])) ?_ se ?_ ?_))
  ·simp only[bw];rw[mf,show T.length+4=4+2*k from by have:=fS.out;omega];simp only[X8,X3,Ya];rfl
  ·have:=fS.out;simp[eh,aq]
  ·have:=fS.out;have h1:=hbh.out (T.length+5);have h2:=tW.out (T.length+5) (by rw[hlt];omega);simp[aH,aQ,an,aq,jN,cC,az,av,m9,h1,h2];omega
 ·intro _ C;refine am ?_<;>intros;(try rw[Xt])
  exact bo rfl rfl
@[go_sem] theorem HX (n:Nat):∀(ps:List Pol) (j:Nat) (a:List Chunk),a.length=n+j→ir (fun x=>n+x) j (rQ ps) a=a++rQ ps
 |[],j,a,_=>by simp[rQ,ir]
 |p::ps,j,a,h=>by
  have h1:n+j=a.length:=h.symm;have h2:n+(j+1)=(a++[Chunk.gone]).length:=by simp only[XY,XA,XZ];omega
  simp only[rQ,ir,lj];rw[h1,kC,h2,kC,HX n ps (j+1+1) _ (by simp;omega)];have hd:jE (fun x=>n+x) (ab (p.leases.map aV))=ab (p.leases.map aV):=uN _ _;rw[hd];simp
@[go_sem] theorem EB (n:Nat):∀(ps:List Pol) (k:Nat),jE (fun x=>n+x) (fi k ps)=fi (n+k) ps
 |[],_=>rfl
 |p::ps,k=>by
  simp only[fi,jE,EB n ps (k+2),av,iJ,ren];rw[show n+(k+2)=n+k+2 by omega]
theorem HY (b:Bok)(hz:∀p∈b.pools,p.leases.length≤3518437208882)(h:a9 b=0):
 MSpec prog 115 [.d (.agg (aS b))] [] (.tup [.ptr 2 0,.d (.v (.int .i64 0))]) (.gone:: .gone:: .box 24 [.d (.v (.int .i64 b.tick)),.own 3 b.pools.length]:: .row 62 9 b.pools.length (fi 5 b.pools)::rQ b.pools):=by
 have hc:=my b hz;have hb:=dF h;have ho:=N2 b hb.n8 hb.l32;rw[h]at hc;replace h:=Xj h;refine mj func115 ntmps115 results115 ?_;have z1z:=Ln.mk (ls:=[]) (ho);refine am ?_<;>intros;exact(aL 0 (by simp)).trans (bo rfl rfl)
def ln (D:List Pol)(r:List PV)(k:Nat)(ps:List Pol):List (List PV):=ab (D.map ah)++r::fi k ps
theorem KN (D:List Pol)(r:List PV)(k:Nat)(ps:List Pol):(ln D r k ps).length=D.length+1+ps.length:=by
 unfold ln;rw[XY,XA,sE,aF,XC];omega
theorem KO (D:List Pol)(r:List PV)(k:Nat)(ps:List Pol):(ln D r k ps)[D.length]? =some r:=by
 unfold ln;rw[XK (by simp[aF])];simp[aF]
theorem KQ (D:List Pol)(r r':List PV)(k:Nat)(ps:List Pol):(ln D r k ps).set D.length r'=ln D r' k ps:=by
 unfold ln;rw[Yt _ _ (by simp[aF])];simp[aF]
theorem yM (k g:Nat)(d:D):∀(ps:List Pol) (k0:Nat),k < k0→f5 k g d (fi k0 ps)=fi k0 ps
 |[],_,_=>rfl
 |p::ps,k0,h=>by
  simp only[fi,f5,yM k g d ps (k0+2) (by omega),av,gr,fz];rw[if_neg (by omega)]
theorem F7 (k g:Nat)(d:D):∀(l m:List Chunk) (i:Nat),f7 k g d i (l++m)=f7 k g d i l++f7 k g d (i+l.length) m
 |[],m,i=>rfl
 |c::l,m,i=>by
  simp only[X8,f7,F7 k g d l m (i+1),XA];rw[show i+1+l.length=i+(l.length+1) by omega]
theorem vU (k g:Nat)(d:D):∀(l:List Chunk) (i:Nat),(∀c∈l,gV k g d c=c)→(∀x,i≤x→x < i+l.length→x≠k)→f7 k g d i l=l
 |[],_,_,_=>rfl
 |c::l,i,h,hx=>by
  simp only[f7];rw[if_neg (hx i (XB _) (by simp)),h c (by simp),vU k g d l (i+1) (fun c hc=>h c (by simp[hc])) (fun x h1 h2=>hx x (by omega) (by simp;omega))]
theorem F8 {c:Chunk}:∀{ps:List Pol},c∈rQ ps→c= .gone∨∃ls,c= .row 68 5 1 (ab ls)
 |p::ps,h=>by
  simp only[rQ,X7]at h;rcases h with h|h|h
  ·exact .inl h
  ·exact .inr ⟨_,h⟩
  ·exact F8 h
theorem KR:∀(ps:List Pol) (x:List Chunk) (i:Nat) (p:Pol),ps[i]? =some p→aG (rQ ps++x) (2*i+1)= .row 68 5 1 (ab (p.leases.map aV))
 |q::ps,x,0,p,h=>by simp at h;subst h;rfl
 |q::ps,x,i+1,p,h=>by
  simp only[Yw]at h;have:=KR ps x i p h;simp only[rQ,X8];rw[show 2*(i+1)+1=(2*i+1)+1+1 by omega];exact this
theorem yN:∀(a b:List Chunk) (i:Nat),aG (a++b) (a.length+i)=aG b i
 |[],b,i=>by simp
 |c::a,b,i=>by
  simp only[X8,XA];rw[show a.length+1+i=(a.length+i)+1 by omega];exact yN a b i
def g7 (j:Nat)(c:Chunk)(ps:List Pol)(e:Chunk):List Chunk:=XV (2*j) .gone++(.gone::c::(rQ ps++[e]))
structure TailOK (T:Chunk→List Chunk)(j q:Nat)(ps:List Pol)(e:Chunk):Prop where
 a:∀c x,aG (T c++x) (2*j+1)=c
 a0:∀c,aG (T c) (2*j+1)=c
 b:∀c x,aG (T c++x) q=e
 b0:∀c,aG (T c) q=e
 c:∀c d,bw (T c) (2*j+1) d=T d
 len:∀c,(T c).length=q+1
 h:∀n c,aQ n c=true→aQ n e=true→aH n (T c)=true
 r:∀c x i p,ps[i]? =some p→aG (T c++x) (2*j+1+2*(i+1))= .row 68 5 1 (ab (p.leases.map aV))
 f:∀c g d,gV (2*j+7) g d e=e→f7 (2*j+7) g d 6 (T c)=T .gone
theorem k5 (j:Nat)(c:Chunk)(ps:List Pol)(e:Chunk):g7 j c ps e=(XV (2*j) Chunk.gone++[.gone])++c::(rQ ps++[e]):=by
 unfold g7;simp
theorem Qn (j q:Nat)(ps:List Pol)(e:Chunk)(hq:q=2*j+2+2*ps.length):TailOK (fun c=>g7 j c ps e) j q ps e:=by
 have hA:(XV (2*j) Chunk.gone++[Chunk.gone]).length=2*j+1:=by simp
 have a0:∀c,aG (g7 j c ps e) (2*j+1)=c:=fun c=>by rw[k5,←hA];exact N1 _ _ _
 have hl:∀c,(g7 j c ps e).length=q+1:=fun c=>by unfold g7;simp[m7];omega
 have b0:∀c,aG (g7 j c ps e) q=e:=fun c=>by
  have:g7 j c ps e=(XV (2*j) Chunk.gone++(.gone::c::rQ ps))++[e]:=by unfold g7;simp
  rw[this,jG,if_pos];simp[m7];omega
 refine⟨fun c x=>?_,a0,fun c x=>?_,b0,fun c d=>?_,hl,fun n c h1 h2=>?_,fun c x i p hp=>?_,fun c g d he=>?_⟩
 ·rw[oR _ _ _ (by rw[hl];omega),a0]
 ·rw[oR _ _ _ (by rw[hl];omega),b0]
 ·show bw (g7 j c ps e) (2*j+1) d=g7 j d ps e;rw[k5,k5,←hA];exact mf _ _ _ _
 ·have:aH n (XV (2*j) Chunk.gone)=true:=by
   generalize 2*j=m;induction m with
   |zero=>rfl
   |succ m ih=>rw[List.replicate_succ];simp only[aH,aQ,ih,Yp]
  show aH n (g7 j c ps e)=true;unfold g7;simp only[m9,aH,this,h1,h2,m8,YA,Yr];rfl
 ·show aG (g7 j c ps e++x) _=_;have:g7 j c ps e++x=(XV (2*j) Chunk.gone++[.gone,c])++(rQ ps++([e]++x)):=by unfold g7;simp
  rw[this];have bT:(XV (2*j) Chunk.gone++[.gone,c]).length=2*j+2:=by simp
  rw[show 2*j+1+2*(i+1)=(XV (2*j) Chunk.gone++[.gone,c]).length+(2*i+1) by rw[bT];omega,yN];exact KR ps _ i p hp
 ·show f7 (2*j+7) g d 6 (g7 j c ps e)=g7 j .gone ps e;rw[k5,k5,F7,hA];have h1:f7 (2*j+7) g d 6 (XV (2*j) Chunk.gone++[Chunk.gone])=XV (2*j) Chunk.gone++[Chunk.gone]:=by
   refine vU _ _ _ _ _ (fun c hc=>?_) (fun x h1 h2=>by rw[hA]at h2;omega);have:c= .gone:=by simp at hc;rcases hc with h|h<;>first|exact h.2|exact h
   subst this;rfl
  rw[h1,show 6+(2*j+1)=2*j+7 by omega];simp only[f7,if_true];rw[vU _ _ _ _ _ (fun c hc=>?_) (fun x h1 h2=>by omega)];simp only[X2,Yc]at hc;rcases hc with hc|rfl
  ·rcases F8 hc with rfl|⟨ls,rfl⟩
   ·rfl
   ·simp only[gV,bR]
  ·exact he
theorem tD {h:Nat→Chunk}{n:Nat}:∀(ps:List Pol) (k:Nat),(∀i p,ps[i]? =some p→∃ls,h (k+2*i)= .row 68 5 1 (ab ls))→∃ds,da (bp h (n+1)) (fi k ps)=some ds
 |[],_,_=>⟨[],rfl⟩
 |p::ps,k,hk=>by
  obtain⟨ls,h1⟩:=hk 0 p rfl;obtain⟨ds,h2⟩:=tD (n:=n) ps (k+2) (fun i q hq=>by
   obtain⟨ls,h3⟩:=hk (i+1) q (by simpa using hq);exact⟨ls,by rw[←h3];congr 1;omega⟩)
  rw[Nat.mul_zero,XW]at h1;simp only[fi,da,h2,av,cJ,bp,mM,h1,if_true,eG,Ye];exact⟨_,rfl⟩
def jP (t:Int)(l:Lse):Bool:=(l.kind==3)&&decide (l.till≤t)
theorem F9 (l:Lse)(t:Int)(x:D):af prog 129 [.agg (aV l),.ept [.ept [.v (.int .i64 t),x]]] (.v (.bool (jP t l))):=by
 unfold jP;refine pj func129 ntmps129 results129 ?_;exact aZ
def eS (t:Int)(p:Pol):Pol:={p with leases:=p.leases.filter fun l=>!jP t l}
def iU (b:Bok)(n:Int):Bok × Int:=
 if a9 b≠0 then (Bok.zero,a9 b)else
 if n < 1∨n>1073741824 - b.tick then (Bok.zero,3)else (⟨b.tick+n,b.pools.map (eS (b.tick+n))⟩,0)
def eT (b:Bok)(t:Int)(rows:List (List PV))(T:List Chunk):List Chunk:=
 .box 24 [.d (.v (.int .i64 b.tick)),.d (.sl 9 (b.pools.map ah))]:: .box 24 [.d (.v (.int .i64 0)),.d (.v (.slice none 0 0))]:: .gone:: .gone:: .box 24 [.d (.v (.int .i64 t)),.own 5 b.pools.length]:: .row 62 9 b.pools.length rows::T
theorem ox {b:Bok}{t:Int}{rows:List (List PV)}{T:List Chunk}{n:Nat}(h1:cC n rows=true)(h2:aH n T=true)(h3:6≤n):aH n (eT b t rows T)=true:=by
 simp only[eT,aH,aQ,an,aq,h1,h2,YA,Yr,decide_eq_true_eq];omega
theorem Qo (b:Bok)(n:Int)(hz:∀p∈b.pools,p.leases.length≤3518437208882):af prog 57 [.agg (aS b),.v (.int .i64 n)] (.tup [.agg (aS (iU b n).1),.v (.int .i64 (iU b n).2)]):=by
 obtain⟨R,hR⟩:∃R,R=iU b n:=⟨_,rfl⟩;rw[←hR];replace hR:=Xj hR;by_cases hc:a9 b=0
 ·have cn:=dF hc;have cQ:=HY b hz hc;have ht:=cn.tick;have hws:IntKind.i64.wrap (1073741824 - b.tick)=1073741824 - b.tick:=by rw[IntKind.wrap_i64];omega
  have aP:R=if n < 1∨n>1073741824 - b.tick then (Bok.zero,3)else (⟨b.tick+n,b.pools.map (eS (b.tick+n))⟩,0):=by rw[hR.out];unfold iU;rw[if_neg (by simpa using hc)]
  replace aP:=Xj aP;clear hR hc;by_cases hn:n < 1∨n>1073741824 - b.tick
  ·clear cn;refine pj func57 ntmps57 results57 ?_;have z1z:=Ln.mk (ls:=[]) (cQ);refine zO ?_ ?_ ?_<;>intros;all_goals first
    |(exfalso;rename_i q1 q2;simp only[decide_eq_false_iff_not]at q1 q2;omega)
    |(clear hz cQ;(rw[show R=(Bok.zero,3) from (by rw[aP.out];grind)];(try simp only[Xo,Xm]);exact dg))
  ·have h1:decide (n < 1)=false:=by simp;omega
   have h2:decide (n>1073741824 - b.tick)=false:=by simp;omega
   have O3:IntKind.i64.wrap (b.tick+n)=b.tick+n:=by rw[IntKind.wrap_i64];omega
   replace hn:=Xj hn;refine pj func57 ntmps57 results57 ?_;have z1z:=Ln.mk (ls:=[]) (cQ);refine am ?_<;>intros;have hqn:=m7 b.pools;rw[hqn];refine bL ae ak (fun m e h=>∃(pre rest:List Pol),b.pools=pre++rest∧m=rest.length∧e=[(44,.d (.v (.int .i64 pre.length))),(43,.d (.v (.int .i64 b.pools.length))),(6,.ptr (2*b.pools.length+6) 0),(5,.d (.v (.int .i64 0))),(4,.ptr 1 0)]∧
    h=eT b (b.tick+n) (ab ((pre.map (eS (b.tick+n))).map ah)++fi (2*pre.length+7) rest) (XV (2*pre.length) .gone++(rQ rest++[.box 117 [.ptr 4 0]]))) _ _ _ ⟨[],b.pools,rfl,rfl,rfl,rfl⟩ ?_ ?_
   ·refine ec [] (by simp) (by simp only[eT,Xu,Yv,XZ,Nat.mul_zero,List.replicate_zero,Ya];rfl) se (by simp[eT,eh,aq,m7]) ?_;refine ox (by simp only[Xu,XZ];exact iT _ b.pools 7 (by simp[eT,m7];omega)) ?_ (by simp[eT]);simp[m9,m8,aH,aQ,an,aq,eT]
   ·rintro m e h ⟨pre,rest,GG,hm,rfl,rfl⟩ C hC;cases rest with
    |nil=>
     have hN:b.pools.length=pre.length:=by rw[GG];simp
     have hq:aG (XV (2*pre.length) Chunk.gone++[.box 117 [.ptr 4 0]]) (2*b.pools.length)= .box 117 [.ptr 4 0]:=by rw[jG,if_pos (by simp;omega)]
     have ic:¬(pre.length:Int) < (b.pools.length:Int):=by omega
     have To:b.pools=pre:=by rw[GG];simp
     have fI:=aP.out;rw[if_neg hn.out,To]at fI;clear hC hm GG To hN;replace ic:decide ((pre.length:Int) < (b.pools.length:Int))=false:=by simpa using ic
     simp only[eT,fi,rQ,Yv,Ya];generalize XV (2*pre.length) Chunk.gone++[Chunk.box 117 [.ptr 4 0]]=T at*;replace fI:=Xj fI;refine am ?_<;>intros;rw[fI.out];exact dg
    |cons p rest=>
     have hN:b.pools.length=pre.length+1+rest.length:=by rw[GG];simp;omega
     have ic:(pre.length:Int) < (b.pools.length:Int):=by omega
     have cM:IntKind.i64.wrap ((pre.length:Int)+1)=((pre.length+1:Nat):Int):=by rw[IntKind.wrap_i64];have:=cn.n8;omega
     have iG:=cn.l32 p (by rw[GG];simp);have Pw:=fun r=>KN (pre.map (eS (b.tick+n))) r (2*pre.length+7+2) rest;have U4:=fun r=>KO (pre.map (eS (b.tick+n))) r (2*pre.length+7+2) rest;have L1:=fun r r'=>KQ (pre.map (eS (b.tick+n))) r r' (2*pre.length+7+2) rest;rw[XC]at Pw;simp only[XC]at U4 L1;obtain⟨T,hT,U5⟩:∃T:Chunk→List Chunk,TailOK T pre.length (2*b.pools.length) rest (.box 117 [.ptr 4 0])∧T=fun c=>g7 pre.length c rest (.box 117 [.ptr 4 0]):=⟨_,Qn pre.length (2*b.pools.length) rest (.box 117 [.ptr 4 0]) (by omega),rfl⟩;have U6:T .gone=XV (2*(pre++[p]).length) .gone++(rQ rest++[.box 117 [.ptr 4 0]]):=by
      rw[U5];show g7 _ _ _ _=_;unfold g7;rw[XY,XA,XZ,show 2*(pre.length+(0+1))=2*pre.length+1+1 by omega,List.replicate_succ',List.replicate_succ'];simp
     have Wo:T (.row 68 5 1 (ab (p.leases.map aV)))=XV (2*pre.length) .gone++(rQ (p::rest)++[.box 117 [.ptr 4 0]]):=by rw[U5];rfl
     rw[←Wo];clear U5 Wo;have Px:ab ((pre.map (eS (b.tick+n))).map ah)++fi (2*pre.length+7) (p::rest)=ln (pre.map (eS (b.tick+n))) (av p (.own (2*pre.length+7) 1)) (2*pre.length+7+2) rest:=rfl;rw[Px];clear Px;have Mw:∀(m:List Lse) (x:List Chunk) (v:Nat),∃d,cJ (bp (aG (eT b (b.tick+n) (ln (pre.map (eS (b.tick+n))) (av p (.own (2*pre.length+7) 1)) (2*pre.length+7+2) rest) (T (.row 68 5 1 (ab (m.map aV)))++x))) (v+5)) [.ptr (2*b.pools.length+6) 0]=some [.ept [.ept [.v (.int .i64 (b.tick+n)),d]]]:=by
      intro m x v;obtain⟨ds,ft⟩:=tD (h:=aG (eT b (b.tick+n) (ln (pre.map (eS (b.tick+n))) (av p (.own (2*pre.length+7) 1)) (2*pre.length+7+2) rest) (T (.row 68 5 1 (ab (m.map aV)))++x))) (n:=v+1) rest (2*pre.length+7+2) (fun i q hq=>⟨q.leases.map aV,by
       rw[show 2*pre.length+7+2+2*i=2*pre.length+1+2*(i+1)+6 by omega];exact hT.r _ x i q hq⟩)
      have h1:aG (eT b (b.tick+n) (ln (pre.map (eS (b.tick+n))) (av p (.own (2*pre.length+7) 1)) (2*pre.length+7+2) rest) (T (.row 68 5 1 (ab (m.map aV)))++x)) (2*b.pools.length+6)= .box 117 [.ptr 4 0]:=hT.b _ x;have h2:aG (eT b (b.tick+n) (ln (pre.map (eS (b.tick+n))) (av p (.own (2*pre.length+7) 1)) (2*pre.length+7+2) rest) (T (.row 68 5 1 (ab (m.map aV)))++x)) (2*pre.length+7)= .row 68 5 1 (ab (m.map aV)):=hT.a _ x;have h3:∀r T',aG (eT b (b.tick+n) r T') 4= .box 24 [.d (.v (.int .i64 (b.tick+n))),.own 5 b.pools.length]:=fun _ _=>rfl;have h4:∀r T',aG (eT b (b.tick+n) r T') 5= .row 62 9 b.pools.length r:=fun _ _=>rfl;have h5:∃e,da (bp (aG (eT b (b.tick+n) (ln (pre.map (eS (b.tick+n))) (av p (.own (2*pre.length+7) 1)) (2*pre.length+7+2) rest) (T (.row 68 5 1 (ab (m.map aV)))++x))) (v+2)) (ln (pre.map (eS (b.tick+n))) (av p (.own (2*pre.length+7) 1)) (2*pre.length+7+2) rest)=some e:=by
       generalize hH:aG (eT b (b.tick+n) (ln (pre.map (eS (b.tick+n))) (av p (.own (2*pre.length+7) 1)) (2*pre.length+7+2) rest) (T (.row 68 5 1 (ab (m.map aV)))++x))=H at*;simp only[ln,p9,eG,da,ft,av,cJ,bp,mM,h2,if_true,Ye];exact⟨_,rfl⟩
      obtain⟨e,he⟩:=h5;refine⟨.sl 9 e,?_⟩;simp only[cJ,bp,h1,h3,h4,List.drop_zero,if_true,he,mM,Ye]
     have gM:∀r c c',bw (eT b (b.tick+n) r (T c)) (2*pre.length+7) c'=eT b (b.tick+n) r (T c'):=by
      intro r c c';show _::_::_::_::_::_::bw (T c) (2*pre.length+1) c'=_;rw[hT.c];rfl
     have Aw:∀m:List Lse,aH (eT b (b.tick+n) (ln (pre.map (eS (b.tick+n))) (av p (.own (2*pre.length+7) 1)) (2*pre.length+7+2) rest) (T (.row 68 5 1 (ab (m.map aV))))).length (eT b (b.tick+n) (ln (pre.map (eS (b.tick+n))) (av p (.own (2*pre.length+7) 1)) (2*pre.length+7+2) rest) (T (.row 68 5 1 (ab (m.map aV)))))=true:=by
      intro m;have hl:(eT b (b.tick+n) (ln (pre.map (eS (b.tick+n))) (av p (.own (2*pre.length+7) 1)) (2*pre.length+7+2) rest) (T (.row 68 5 1 (ab (m.map aV))))).length=2*b.pools.length+7:=by simp[eT,hT.len]
      rw[hl];refine ox ?_ (hT.h _ _ (az _ _) (by simp[aQ,an,aq])) (by omega);unfold ln;rw[jN,az];simp only[cC,av,an,aq,iT (2*b.pools.length+7) rest (2*pre.length+7+2) (by omega),YA,Yr,decide_eq_true_eq];first|done|omega
     have qm:=Ey (jP (b.tick+n)) p.leases (2*pre.length+7) 1 129 [.ptr (2*b.pools.length+6) 0] (eT b (b.tick+n) (ln (pre.map (eS (b.tick+n))) (av p (.own (2*pre.length+7) 1)) (2*pre.length+7+2) rest) (T (.row 68 5 1 (ab (p.leases.map aV))))) (hT.a0 _)
      (by simp[eT,hT.len,an,aq]) (Aw p.leases) (by omega)
      (by
       obtain⟨d,hd⟩:=Mw p.leases [] 0;rw[Yv]at hd;exact⟨_,hd,fun x _=>F9 x (b.tick+n) d⟩)
      (fun m c=>by
       obtain⟨d,hd⟩:=Mw m [c] 1;rw[gM];exact⟨_,hd,fun x _=>F9 x (b.tick+n) d⟩)
     rw[gM]at qm;have U7:=hT.a0;have Wp:=hT.b0;have Tp:=hT.c;have U8:=hT.len;have U9:=hT.f;have Va:=hT.h;clear Mw gM Aw hT cQ aP;simp only[eT,av]at qm ⊢;replace hN:=Xj hN;replace hm:=Xj hm;replace GG:=Xj GG;replace U6:=Xj U6;replace U9:=Xj U9;replace Va:=Xj Va;replace hn:=Xj hn;clear cn iG ht;repeat' (first|(with_reducible refine And.intro ?_ ?_)|(with_reducible refine cm (fun _=>?_) (fun _=>?_))|(with_reducible refine aA (fun _=>?_) (fun _=>?_))|(with_reducible refine be (by kernel_rfl))|simp -dsimp only[go_sem,seval, *,aS,ah,ic,cM,U7,Wp,Tp,U8,U4,Pw,L1]|((with_reducible refine bf ?_);simp -dsimp only[go_sem,seval,aS,ah,ic,cM,U7,Wp,Tp,U8,U4,Pw,L1];first|refine aC (by first|assumption|fail) (by first|exact .inl rfl|exact .inr rfl) ?_|(refine aB (by assumption) ?_ ?_ ?_;(solve|(repeat(first|exact ai.refl _|exact ai.nil _|(refine ai.tup ?_)|(refine ai.agg ?_ rfl)|exact trivial|(refine And.intro ?_ ?_))));(solve|exact .inl rfl|exact .inr rfl)))|(refine J2 qm ?_)|omega|exact decide_eq_true (by omega)|exact ai.refl _)
     refine hC _ _ _ _ _ (by have:=hm.out;simp at this;omega) ⟨pre++[p],rest,by rw[GG.out];simp,rfl,rfl,rfl⟩ ?_;refine(ap (2*pre.length+7) 2 68 5 ((p.leases.filter fun x=>!jP (b.tick+n) x).map aV) (U7 _)).trans ?_;have n0:=eq_false (show ¬(0=2*pre.length+7) by omega);have n1:=eq_false (show ¬(1=2*pre.length+7) by omega);have n2:=eq_false (show ¬(2=2*pre.length+7) by omega);have n3:=eq_false (show ¬(3=2*pre.length+7) by omega);have n4:=eq_false (show ¬(4=2*pre.length+7) by omega);have n5:=eq_false (show ¬(5=2*pre.length+7) by omega);have Fc:=fun d=>yM (2*pre.length+7) 2 d rest (2*pre.length+7+2) (by omega);have O1:=fun d=>U9.out (.row 68 5 2 (ab ((p.leases.filter fun x=>!jP (b.tick+n) x).map aV))) 2 d rfl;simp only[iu,fz,gr,f7,gV,f5,aR,bR,bW,Xm,Xu,XM,XL,reduceIte,and_true,true_and,and_self,and_false,false_and,XG,XW,reduceCtorEq,ln,Fc,O1,n0,n1,n2,n3,n4,n5,if_false];have Wq:(pre++[p]).length=pre.length+1:=by simp
     have e1:ab (((pre++[p]).map (eS (b.tick+n))).map ah)++fi (2*(pre++[p]).length+7) rest=ab ((pre.map (eS (b.tick+n))).map ah)++av p (.d (.sl 5 ((p.leases.filter fun x=>!jP (b.tick+n) x).map aV)))::fi (2*pre.length+7+2) rest:=by
      rw[Wq,show 2*(pre.length+1)+7=2*pre.length+7+2 by omega];simp[ab,eS,ah,av]
     rw[e1,←U6.out,Wq];have hle:(eT b (b.tick+n) (ab ((pre.map (eS (b.tick+n))).map ah)++av p (.d (.sl 5 ((p.leases.filter fun x=>!jP (b.tick+n) x).map aV)))::fi (2*pre.length+7+2) rest) (T .gone)).length=2*b.pools.length+7:=by simp[eT,U8]
     refine ec [] (by simp) (by rw[Yv];rfl) se (by rw[hle];simp[eh,aq]) ?_;rw[hle];refine ox ?_ (Va.out _ _ rfl (by simp[aQ,an,aq])) (by omega);have:=hN.out;rw[jN,az];simp only[cC,av,an,aq,iT (2*b.pools.length+7) rest (2*pre.length+7+2) (by omega),YA]
 ·have cQ:=mB b hz hc;have h1:(a9 b !=0)=true:=by simpa using hc
  have hr:R=(Bok.zero,a9 b):=by rw[hR.out];unfold iU;rw[if_pos hc]
  rw[hr];replace hr:=Xj hr;refine pj func57 ntmps57 results57 ?_;refine am ?_<;>intros;exact dg
theorem EC (l m:List Int)(hl:l.length≤1000000000)(hm:m.length≤1000000000):af prog 194 [.sl 1 (l.map cD),.sl 1 (m.map cD)] (.v (.bool (decide (l=m)))):=by
 obtain⟨R,hR⟩:∃R,R=decide (l=m):=⟨_,rfl⟩;rw[←hR];replace hR:=Xj hR;refine pj func194 ntmps194 results194 ?_;refine wX ?_ ?_<;>intros
 ·rename_i h1;exact FO (by rw[hR.out,decide_eq_false];rintro rfl;simp at h1)
 ·rename_i h1;have lR:l.length=m.length:=by simp at h1;omega
  clear h1;replace lR:=Xj lR;refine bg ae ak l (fun k=>l.take k=m.take k) (fun k=>[(5,.d (.v (.int .i64 k))),(4,.d (.v (.bool false))),(1,.d (.sl 1 (m.map cD))),(0,.d (.sl 1 (l.map cD)))]) (fun _=>[]) rfl (wf) ?_ ?_
  ·intro k x hx hk hI C hC;have dH:(k:Int) < (l.length:Int):=by omega
   have cM:=wi k (by omega);obtain⟨y,hy⟩:∃y,m[k]? =some y:=⟨_,Xk (by have:=lR.out;omega)⟩;replace hI:=Xj hI;cases h1:(x !=y)with
   |true=>
    have hb:R=false:=by
     rw[hR.out,decide_eq_false];rintro rfl;rw[hx]at hy;rw[XX.inj hy]at h1;simp at h1
    rw[hb];replace hb:=Xj hb;exact aZ;all_goals exact ai.refl _
   |false=>
    have lS:l.take (k+1)=m.take (k+1):=by rw[ag hx,ag hy,hI.out];simp at h1;rw[h1]
    replace lS:=Xj lS;refine am ?_<;>intros;exact hC _ _ lS.out (wf)
  ·intro hI C;have hb:R=true:=by
    rw[hR.out,decide_eq_true_eq];rw[Xt,lR.out,Xt]at hI;exact hI
   rw[hb];replace hb:=Xj hb;replace hI:=Xj hI;exact aZ;all_goals exact ai.refl _
theorem vV (p q:Rng):([p.at_.at_,p.at_.len,p.pool]==[q.at_.at_,q.at_.len,q.pool])=decide (p=q):=by
 rw[Yi];cases p;cases q;rename_i a b c d;cases a;cases c;simp[and_assoc]
theorem jQ {α:Type}(enc:α→List D)(l:List α)(hl:l.length≤1000000000):
 MSpec prog 52 [.d (.sl 3 (l.map enc))] [] (.own 0 1) [.row 58 3 1 (ab (l.map enc))]:=by
 cases l with
 |nil=>
  refine qI (pl:=[]) (ql:=[]) fun ao cap=>?_;cases ao with
  |none=>
   simp only[Ya];refine mj func52 ntmps52 results52 ?_;repeat' (first|(with_reducible refine And.intro ?_ ?_)|(with_reducible refine cm (fun _=>?_) (fun _=>?_))|(with_reducible refine aA (fun _=>?_) (fun _=>?_))|(with_reducible refine be (by kernel_rfl))|simp -dsimp only[go_sem,seval, *,Zk,XR]|((with_reducible refine bf ?_);simp -dsimp only[go_sem,seval,Zk,XR];first|refine aC (by first|assumption|fail) (by first|exact .inl rfl|exact .inr rfl) ?_|refine aB (by assumption) (by repeat(first|exact ai.refl _|exact ai.nil _|(refine ai.tup ?_)|(refine ai.agg ?_ rfl)|exact trivial|(refine And.intro ?_ ?_))) (by first|exact .inl rfl|exact .inr rfl) ?_)|omega|exact decide_eq_true (by omega)|exact ai.refl _)
   refine iL (h:=[]) (XB _) 58 3 ?_;exact(fT 0 0 58 3 [] rfl (bo rfl rfl))
  |some a=>
   simp only[Ya];refine mj func52 ntmps52 results52 ?_;repeat' (first|(with_reducible refine And.intro ?_ ?_)|(with_reducible refine cm (fun _=>?_) (fun _=>?_))|(with_reducible refine aA (fun _=>?_) (fun _=>?_))|(with_reducible refine be (by kernel_rfl))|simp -dsimp only[go_sem,seval, *,YD,XR]|((with_reducible refine bf ?_);simp -dsimp only[go_sem,seval,YD,XR];first|refine aC (by first|assumption|fail) (by first|exact .inl rfl|exact .inr rfl) ?_|refine aB (by assumption) (by repeat(first|exact ai.refl _|exact ai.nil _|(refine ai.tup ?_)|(refine ai.agg ?_ rfl)|exact trivial|(refine And.intro ?_ ?_))) (by first|exact .inl rfl|exact .inr rfl) ?_)|omega|exact decide_eq_true (by omega)|exact ai.refl _)
   exact bo rfl rfl
 |cons x l=>
  simp only[XA]at hl;refine mj func52 ntmps52 results52 ?_;repeat' (first|(with_reducible refine And.intro ?_ ?_)|(with_reducible refine cm (fun _=>?_) (fun _=>?_))|(with_reducible refine aA (fun _=>?_) (fun _=>?_))|(with_reducible refine be (by kernel_rfl))|simp -dsimp only[go_sem,seval, *,YD,XR]|((with_reducible refine bf ?_);simp -dsimp only[go_sem,seval,YD,XR];first|refine aC (by first|assumption|fail) (by first|exact .inl rfl|exact .inr rfl) ?_|refine aB (by assumption) (by repeat(first|exact ai.refl _|exact ai.nil _|(refine ai.tup ?_)|(refine ai.agg ?_ rfl)|exact trivial|(refine And.intro ?_ ?_))) (by first|exact .inl rfl|exact .inr rfl) ?_)|omega|exact decide_eq_true (by omega)|exact ai.refl _)
  all_goals first|omega|exact bo rfl rfl
theorem fj (l:List Int)(hl:l.length≤1000000000):
 MSpec prog 53 [.d (.sl 1 (l.map cD))] [] (.own 0 1) [.row 3 1 1 (ab (l.map cD))]:=by
 cases l with
 |nil=>
  refine qI (pl:=[]) (ql:=[]) fun ao cap=>?_;cases ao with
  |none=>
   simp only[Ya];refine mj func53 ntmps53 results53 ?_;repeat' (first|(with_reducible refine And.intro ?_ ?_)|(with_reducible refine cm (fun _=>?_) (fun _=>?_))|(with_reducible refine aA (fun _=>?_) (fun _=>?_))|(with_reducible refine be (by kernel_rfl))|simp -dsimp only[go_sem,seval, *,Zk,XR]|((with_reducible refine bf ?_);simp -dsimp only[go_sem,seval,Zk,XR];first|refine aC (by first|assumption|fail) (by first|exact .inl rfl|exact .inr rfl) ?_|(refine aB (by assumption) ?_ ?_ ?_;(solve|(repeat(first|exact ai.refl _|exact ai.nil _|(refine ai.tup ?_)|(refine ai.agg ?_ rfl)|exact trivial|(refine And.intro ?_ ?_))));(solve|exact .inl rfl|exact .inr rfl)))|fail|omega|exact decide_eq_true (by omega)|exact ai.refl _)
   refine iL (h:=[]) (XB _) 3 1 ?_;exact(fT 0 0 3 1 [] rfl (bo rfl rfl))
  |some a=>
   simp only[Ya];refine mj func53 ntmps53 results53 ?_;repeat' (first|(with_reducible refine And.intro ?_ ?_)|(with_reducible refine cm (fun _=>?_) (fun _=>?_))|(with_reducible refine aA (fun _=>?_) (fun _=>?_))|(with_reducible refine be (by kernel_rfl))|simp -dsimp only[go_sem,seval, *,YD,XR]|((with_reducible refine bf ?_);simp -dsimp only[go_sem,seval,YD,XR];first|refine aC (by first|assumption|fail) (by first|exact .inl rfl|exact .inr rfl) ?_|(refine aB (by assumption) ?_ ?_ ?_;(solve|(repeat(first|exact ai.refl _|exact ai.nil _|(refine ai.tup ?_)|(refine ai.agg ?_ rfl)|exact trivial|(refine And.intro ?_ ?_))));(solve|exact .inl rfl|exact .inr rfl)))|fail|omega|exact decide_eq_true (by omega)|exact ai.refl _)
   exact bo rfl rfl
 |cons x l=>
  simp only[XA]at hl;refine mj func53 ntmps53 results53 ?_;repeat' (first|(with_reducible refine And.intro ?_ ?_)|(with_reducible refine cm (fun _=>?_) (fun _=>?_))|(with_reducible refine aA (fun _=>?_) (fun _=>?_))|(with_reducible refine be (by kernel_rfl))|simp -dsimp only[go_sem,seval, *,YD,XR]|((with_reducible refine bf ?_);simp -dsimp only[go_sem,seval,YD,XR];first|refine aC (by first|assumption|fail) (by first|exact .inl rfl|exact .inr rfl) ?_|(refine aB (by assumption) ?_ ?_ ?_;(solve|(repeat(first|exact ai.refl _|exact ai.nil _|(refine ai.tup ?_)|(refine ai.agg ?_ rfl)|exact trivial|(refine And.intro ?_ ?_))));(solve|exact .inl rfl|exact .inr rfl)))|fail|omega|exact decide_eq_true (by omega)|exact ai.refl _)
  all_goals first|omega|exact bo rfl rfl
theorem k6 (v:Vpc)(h:bN v≠0):
 MSpec prog 142 [.d (.agg (al v))] [] (.tup [.ptr 1 0,.d (.v (.int .i64 (bN v)))]) [.gone,.box 55 [.d (.v (.int .i64 0)),.d (.v (.slice none 0 0)),.d (.v (.slice none 0 0))]]:=by
 have hc:=og v;have h1:(bN v !=0)=true:=by simpa using h
 refine mj func142 ntmps142 results142 ?_;refine am ?_<;>intros;exact(aL 0 (by simp)).trans (bo rfl rfl)
theorem k7 (v:Vpc)(h:bN v=0)(h4:v.ranges.length≤4)(h6:v.subs.length≤6)(h8:∀s∈v.subs,s.faces.length≤8∧∀f∈s.faces,f.addrs.length≤4):
 MSpec prog 142 [.d (.agg (al v))] [] (.tup [.ptr 2 0,.d (.v (.int .i64 0))]) [.gone,.row 58 3 1 (ab (v.ranges.map bv)),.box 55 [.d (.v (.int .i64 v.id)),.own 1 1,.own 3 v.subs.length],.row 71 4 v.subs.length (ab (v.subs.map aU))]:=by
 have hc:=og v;rw[h]at hc;replace h:=Xj h;replace h8:=Xj h8;have fS:=jQ bv v.ranges (by omega);refine mj func142 ntmps142 results142 ?_;have z1z:=Ln.mk (ls:=[]) (fS);refine am ?_<;>intros;refine bg ae ak v.subs (fun _=>True) (fun k=>[(28,.d (.v (.int .i64 k))),(27,.d (.v (.int .i64 v.subs.length))),(26,.d (.sl 4 (v.subs.map aU))),(5,.ptr 2 0)])
  (fun k=>[.gone,.row 58 3 1 (ab (v.ranges.map bv)),.box 55 [.d (.v (.int .i64 v.id)),.own 1 1,.own 3 k],.row 71 4 k (ab ((v.subs.take k).map aU))]) trivial ?_ ?_ ?_
 ·refine(aL 0 (by simp)).trans ((au (by simp) 2 55 [.d (.v (.int .i64 v.id)),.own 1 1,.d (.v (.slice none 0 0))] 2 71 4 rfl rfl rfl).trans ?_);exact wf (hb:=cI) (hbh:=cI)
 ·intro k s hs hk _ CO sX;have dH:(k:Int) < (v.subs.length:Int):=by omega
  have cM:=wi k (by omega);have iH:=h8.out s (Xl hs);have i7:k+1≤100:=by omega
  have i4:(Yf k v.subs).length=k:=by rw[Xp];omega
  replace hs:=Xj hs;have lh:=hs.out;refine am ?_<;>intros;refine bg ae ak s.faces (fun _=>True) (fun j=>[(40,.d (.v (.int .i64 j))),(39,.d (.v (.int .i64 s.faces.length))),(38,.d (.sl 2 (s.faces.map cl))),(28,.d (.v (.int .i64 k))),(27,.d (.v (.int .i64 v.subs.length))),(26,.d (.sl 4 (v.subs.map aU))),(8,.ptr 5 0),(5,.ptr 2 0)])
   (fun j=>[.gone,.row 58 3 1 (ab (v.ranges.map bv)),.box 55 [.d (.v (.int .i64 v.id)),.own 1 1,.own 3 k],.row 71 4 k (ab ((v.subs.take k).map aU)),.gone,.box 71 [.d (.v (.int .i64 s.id)),.d (.v (.int .i64 s.at_.at_)),.d (.v (.int .i64 s.at_.len)),.own 6 j],.row 74 2 j (ab ((s.faces.take j).map cl))]) trivial ?_ ?_ ?_
  ·refine(aL 4 (by simp)).trans ((au (by simp) 5 71 [.d (.v (.int .i64 s.id)),.d (.v (.int .i64 s.at_.at_)),.d (.v (.int .i64 s.at_.len)),.d (.v (.slice none 0 0))] 3 74 2 rfl rfl rfl).trans ?_);exact wf (hb:=cI) (hbh:=cI)
  ·intro j f hf hj _ C hC;have ic:(j:Int) < (s.faces.length:Int):=by omega
   have j6:=wi j (by omega);have gS:=iH.2 f (Xl hf);have jd:j+1≤100:=by omega
   have pf:(Yf j s.faces).length=j:=by rw[Xp];omega
   replace hf:=Xj hf;have zj:=hf.out;have z1z:=Ln.mk (ls:=[]) (fj f.addrs (by omega));refine am ?_<;>intros;refine hC _ _ trivial ((ap 8 1 3 1 (f.addrs.map cD) rfl).trans ?_);simp only[iu,fz,gr,f7,gV,f5,aR,bR,bW,Xm,Xu,XM,XL,reduceIte,and_true,true_and,and_self,and_false,false_and,XG,XW,reduceCtorEq,cV];exact wf (hh:=(by rw[ag hf.out,Xo,Xm,Xu,←aI];rfl)) (hb:=cI) (hbh:=cI)
  ·intro _ C;refine am ?_<;>intros;refine sX _ _ trivial ((ap 6 s.faces.length 74 2 (s.faces.map cl) rfl).trans ?_);simp only[iu,fz,gr,f7,gV,f5,aR,bR,bW,Xm,Xu,XM,XL,reduceIte,and_true,true_and,and_self,and_false,false_and,XG,XW,reduceCtorEq];exact wf (hh:=(by rw[ag hs.out,Xo,Xm,Xu,←aI];rfl)) (hb:=cI) (hbh:=cI)
 ·intro _ C;refine am ?_<;>intros;(try rw[Xt])
  exact bo rfl rfl
section
open Go.Proofs Go.ChangeShapes Go.WideShapes Go.Deep
section
variable {H:Type}{enc:TypeId × Value→H}{P:Program}{w:World}{base:Nat}{spare:Nat→Bool}{held:Bool}
def Rd {α:Type}(enc:TypeId × Value→H)(P:Program)(w:World)(base:Nat)(spare:Nat→Bool)(held:Bool)(t:TypeId)(R:List Value→α→Prop):Prop:=
 ∀fuel cs x,DataW.trod enc P w base spare held fuel t cs=some x→∃a,R cs a
theorem Rd.map {α β:Type}{t:TypeId}{R:List Value→α→Prop}{R':List Value→β→Prop}(h:Rd enc P w base spare held t R)(f:α→β)(hf:∀cs a,R cs a→R' cs (f a)):Rd enc P w base spare held t R':=by
 intro fuel cs x hx;obtain⟨a,ha⟩:=h fuel cs x hx;exact⟨f a,hf _ _ ha⟩
def Sn (n:Int):Prop:= -9223372036854775808≤n∧n≤9223372036854775807
def N3 (cs:List Value)(n:Int):Prop:=cs=[.int .i64 n]∧Sn n
theorem N4 {n:Int}(h:(Lit.int .i64 n).wf=true):Sn n:=by
 simp only[Lit.wf,Xy,decide_eq_true_eq]at h;have h1:IntKind.i64.min= -9223372036854775808:=rfl;have h2:IntKind.i64.max=9223372036854775807:=rfl;rw[h1,h2]at h;exact h
theorem lN {t:TypeId}(ht:P.underlying t=some (.int .i64)):Rd enc P w base spare held t N3:=by
 intro fuel cs x hx;obtain⟨n,h,_,hw⟩:=DataW.trod_int ht hx;exact⟨n,h,N4 hw⟩
theorem fQ {α:Type}{t:TypeId}{fs:Array Field}{fuel:Nat}{cs:List Value}{x:DataW H × List MemPlace}(ht:P.underlying t=some (.struct fs))(h:DataW.trod enc P w base spare held fuel t cs=some x)
 (j:Nat) {f:Field} (hf:fs[j]? =some f) {R:List Value→α→Prop} (hr:Rd enc P w base spare held f.type R):∃a,R ((cs.drop f.offset).take (P.cellsOf f.type)) a:=by
 obtain⟨xs,n,_,_,_,bT,hg⟩:=DataW.trod_struct ht h;have h1:=hg j f hf;have hj:j < xs.length:=by rw[bT];exact(Yz.1 hf).1
 rw[Xk hj]at h1;exact hr _ _ _ h1
theorem ED {t:TypeId}{fs:Array Field}{fuel:Nat}{cs:List Value}{x:DataW H × List MemPlace}(ht:P.underlying t=some (.struct fs))(h:DataW.trod enc P w base spare held fuel t cs=some x):cs.length=P.cellsOf t:=by
 obtain⟨_,_,_,_,h,_⟩:=DataW.trod_struct ht h;exact h
theorem sF {α:Type}{Q:Nat→α→Prop}:∀(n:Nat),(∀i,i < n→∃a,Q i a)→∃l:List α,l.length=n∧∀i (h:i < l.length),Q i l[i]
 |0,_=>⟨[],rfl,fun i h=>by simp at h⟩
 |n+1,h=>by
  obtain⟨l,hl,hq⟩:=sF n fun i hi=>h i (by omega);obtain⟨a,ha⟩:=h n (by omega);refine⟨l++[a],by simp[hl],fun i hi=>?_⟩;rcases XP i l.length with h1|h1
  ·rw[List.getElem_append_left h1];exact hq i h1
  ·have:i=n:=by simp at hi;omega
   subst this;rw[List.getElem_append_right h1];simpa using ha
def inW (w:World):lU:=fun b=>b < w.heap.size
theorem KS {t:TypeId}{v:Value}{d:DataW H}{p:List MemPlace}(h:DataW.Trod enc P w base spare held t v d p):∀x∈p,x.block < w.heap.size:=by
 obtain⟨m,hm⟩:=h;exact DataW.trod_lt m _ _ _ hm
end
end
section
open Go.Proofs Go.Shelf
structure SRow (HP:List Value→Int→Prop)(sz:Nat) where
 xs:List Value
 len:xs.length=sz
 one:∀v∈xs,v.oneCell'=true
 key:Int
 head:HP xs key
@[reducible] def KU (xs:List Value)(k:Int):Prop:=xs[0]? =some (.int .i64 k)
def DH {HP:List Value→Int→Prop}{sz:Nat}(x y:SRow HP sz):Int:=ep x.key y.key
theorem TE {HP:List Value→Int→Prop}{sz:Nat}(x y:SRow HP sz):ltOf DH x y=decide (x.key < y.key):=qM _ _
theorem Uc {HP:List Value→Int→Prop}{sz:Nat}:Sort.SWO (ltOf (DH (HP:=HP) (sz:=sz))) where
 irrefl x:=by rw[TE];simp
 trans x y z h1 h2:=by rw[TE]at*;simp at*;omega
 ntrans x y z h1 h2:=by rw[TE]at*;simp at*;omega
@[reducible] def KV (n:Nat):Inhabited (SRow KU (n+1)):=⟨⟨XV (n+1) (.int .i64 0),by simp,fun v hv=>by rw[Zv hv];rfl,0,by unfold KU;simp⟩⟩
theorem xz (F cur:Array Value)(h:F.size≤cur.size):(Sort.putCells id 0 F cur).toList.take F.size=F.toList∧(Sort.putCells id 0 F cur).size=cur.size:=by
 refine⟨?_,by simp[Sort.putCells]⟩;apply Yj;intro i;by_cases hi:i < F.size
 ·rw[XS hi];have hc:i < cur.size:=by omega
  simp[Sort.putCells,hi,hc]
 ·rw[XT (by rw[Xp];omega),XT (by simp;omega)]
theorem vW {HP:List Value→Int→Prop}{sz:Nat}(n:Nat)(hs:sz=n+1)[Inhabited (SRow HP sz)](d:Array (SRow HP sz)):(Sort.flatK (fun r:SRow HP sz=>r.xs) sz d).toList=(d.toList.map (·.xs)).flatten:=by
 have bY:∀r∈d.toList.map (·.xs),r.length=sz:=fun r hr=>by
  obtain⟨x,-,rfl⟩:=XQ.1 hr;exact x.len
 have bT:(d.toList.map (·.xs)).flatten.length=d.size*sz:=by rw[cN bY];simp
 apply Yj;intro t;by_cases ht:t < d.size*sz
 ·have h1:t / sz < d.size:=Zw (by rw[Zp];exact ht);have h2:t % sz < sz:=Y' _ (by omega);have h3:t / sz*sz+t % sz=t:=by rw[Zp];exact ZN t sz
  have h4:=cB bY (t / sz) (t % sz) h2;rw[h3]at h4;rw[h4];have h5:=Sort.get_flatK (fun r:SRow HP sz=>r.xs) sz d t ht;have h6:t < (Sort.flatK (fun r:SRow HP sz=>r.xs) sz d).size:=by rw[Sort.size_flatK];exact ht
  rw[getElem!_pos (Sort.flatK (fun r:SRow HP sz=>r.xs) sz d) t h6]at h5;rw[X6,YP h6,h5];have hl:(d[t / sz]).xs.length=sz:=(d[t / sz]).len;have e7:(d[t / sz]).xs[t % sz]? =some ((d[t / sz]).xs[t % sz]!):=by
   rw[getElem!_pos (d[t / sz]).xs (t % sz) (by rw[hl];exact h2)];exact Xk _
  rw[getElem!_pos d (t / sz) h1];rw[Xz,X6,YP h1];simp only[Ye,Y6];exact e7.symm
 ·rw[XT (by simp;omega),XT (by omega)]
theorem KW {HP:List Value→Int→Prop}{n:Nat}(inh:Inhabited (SRow HP (n+1))){P:Program}{ρ:Ren}(L:SlLaysF0.n6 P ρ){f fc E:Nat}(hf:ρ.f 6=f)(aE:∀w,(isAgg (ρ.t 24)).run P w= .ok true w)(zE:∀w,(Go.sizeOf (ρ.t 24)).run P w= .ok (n+1) w)(eg:∀args w,(callFunc fc args).run P w= .ok (.enter fc args) w)
 (Mx:∀(x y:SRow HP (n+1)) (W:World),Calls P fc #[.agg x.xs.toArray,.agg y.xs.toArray] W fun e w'=>e= .returned (.int .i64 (DH x y))∧∃q os',w'=Sort.grow (W.drewN q) os')
 (ds:List (SRow HP (n+1))) (w:World) (gb cap:Nat) (cur:Array Value) (hh:w.heap[gb]? =some (.cells cur E (0,0))) (hc:cur.toList.take (ds.length*(n+1))=(ds.map (·.xs)).flatten) (cP:ds.length*(n+1)≤cur.size) (hl:ds.length≤1000000):
 Calls P f #[.slice (some ⟨gb,0,none⟩) ds.length cap,.func (.func fc) #[] #[]] w fun e w'=>e= .returned (.tuple #[])∧∃(ds':List (SRow HP (n+1))) (cur':Array Value),ds'.Perm ds∧ds'.Pairwise (fun x y=>x.key≤y.key)∧w'.heap[gb]? =some (.cells cur' E (0,0))∧cur'.size=cur.size∧
  cur'.toList.take (ds.length*(n+1))=(ds'.map (·.xs)).flatten∧OneB w w' (some gb):=by
 have hg:gb < w.heap.size:=(Yz.1 hh).1;have gS:=vW n rfl ds.toArray;rw[Y1]at gS;have hH:Sort.HoldsK (fun r:SRow HP (n+1)=>r.xs) (n+1) w gb 0 ds.toArray:=by
  intro t ht;have Wr:=ht;rw[Sort.size_flatK,YH]at Wr;refine⟨?_,lM hh⟩;have dy:∀o,w.cell? ⟨gb,o,none⟩=cur[o]? :=fun o=>by simp[YS,hh]
  rw[XG,dy];have h1:(cur.toList.take (ds.length*(n+1)))[t]? =cur[t]? :=by rw[XS Wr];simp
  rw[←h1,hc,←gS,X6,getElem!_pos (Sort.flatK (fun r:SRow HP (n+1)=>r.xs) (n+1) ds.toArray) t ht,YP ht];rfl
 have Tq:=AnyQ.slices_SortFunc L (n+1) aE zE (fun r:SRow HP (n+1)=>r.xs) (·.len) (·.one) DH Uc fc #[] gb 0 cap ds.toArray w eg (fun _ _ _ _ x y=>Mx x y _) hH hg (by simp;omega);rw[hf,YH]at Tq;refine Calls.mono Tq ?_;rintro e w' ⟨rfl,d',m,os,⟨RO,-,hp⟩,hs,rfl⟩;replace RO:d'.size=ds.length:=by simpa using RO
 have hF:(Sort.flatK (fun r:SRow HP (n+1)=>r.xs) (n+1) d').size≤cur.size:=by rw[Sort.size_flatK,RO];exact cP
 obtain⟨p1,p2⟩:=xz (Sort.flatK (fun r:SRow HP (n+1)=>r.xs) (n+1) d') cur hF;refine⟨rfl,d'.toList,Sort.putCells id 0 (Sort.flatK (fun r:SRow HP (n+1)=>r.xs) (n+1) d') cur,?_,?_,?_,p2,?_,?_⟩
 ·have e1:d'.extract 0 ds.length=d':=by rw[←RO];exact Array.extract_size
  have e2:ds.toArray.extract 0 ds.length=ds.toArray:=by simp
  rw[e1,e2]at hp;simpa using hp
 ·rw[XF];intro i j hi hj hij;have hj':j < d'.size:=by simpa using hj
  have:=hs i j (XD _) hij (by omega);rw[TE,getElem!_pos d' i (by omega),getElem!_pos d' j hj']at this;simpa using this
 ·show (Sort.grow (Sort.putRow id (Sort.ahead w m) gb 0 (Sort.flatK (fun r:SRow HP (n+1)=>r.xs) (n+1) d')) os).heap[gb]? =_;rw[Sort.heap_grow_old _ _ (by simpa using hg)];show (w.heap.modify gb (Sort.onCells _))[gb]? =_;rw[Y9,if_pos rfl,hh];rfl
 ·rw[show ds.length*(n+1)=(Sort.flatK (fun r:SRow HP (n+1)=>r.xs) (n+1) d').size by rw[Sort.size_flatK,RO],p1,vW n rfl]
 ·refine⟨rfl,rfl,rfl,?_,fun b hb bB=>?_⟩
  ·show w.heap.size≤(Sort.grow (Sort.putRow id (Sort.ahead w m) gb 0 _) os).heap.size;rw[Sort.size_grow,Sort.size_putRow,Sort.heap_ahead];omega
  ·show (Sort.grow (Sort.putRow id (Sort.ahead w m) gb 0 (Sort.flatK (fun r:SRow HP (n+1)=>r.xs) (n+1) d')) os).heap[b]? =_;rw[Sort.heap_grow_old _ _ (by simpa using hb)];show (w.heap.modify gb (Sort.onCells _))[b]? =_;rw[Y9,if_neg (fun e=>bB (by rw[e]))]
theorem KX {α β:Type}{ka:α→Int}{kb:β→Int}{l l':List α}{d d':List β}(hk:d.map kb=l.map ka)(hp:l'.Perm l)(hs:l'.Pairwise fun x y=>ka x < ka y)(hq:d'.Perm d)(ht:d'.Pairwise fun x y=>kb x≤kb y):d'.map kb=l'.map ka:=
 List.Perm.eq_of_pairwise (le:=fun x y:Int=>x≤y) (fun a b _ _ h1 h2=>by omega) (by rw[Y3];exact ht) (by rw[Y3];exact hs.imp fun h=>by omega) ((hq.map kb).trans (by rw[hk];exact(hp.map ka).symm))
theorem Ga {HP:List Value→Int→Prop}{n:Nat}(inh:Inhabited (SRow HP (n+1))){P:Program}{ρ:Ren}(L:SlLaysF0.n6 P ρ){f fc E g:Nat}(hf:ρ.f 6=f)(Rg:xg P f)(aE:∀w,(isAgg (ρ.t 24)).run P w= .ok true w)(zE:∀w,(Go.sizeOf (ρ.t 24)).run P w= .ok (n+1) w)(eg:∀args w,(callFunc fc args).run P w= .ok (.enter fc args) w)
 (Mx:∀(x y:SRow HP (n+1)) (W:World),Calls P fc #[.agg x.xs.toArray,.agg y.xs.toArray] W fun e w'=>e= .returned (.int .i64 (DH x y))∧∃q os',w'=Sort.grow (W.drewN q) os')
 {α:Type} (enc:α→List D) (key:α→Int) {l l':List α} (Ro:∀x∈l,∀vs:List Value,vs.length=n+1→(∀(j:Nat) (d:D) (v:Value),(enc x)[j]? =some d→vs[j]? =some v→∃M w,RepD M w d v)→HP vs (key x)) (pG:l≠[]) (hp:l'.Perm l) (hs:l'.Pairwise fun x y=>key x < key y) (cP:l.length≤1000000):
 MSpec P f [.own 0 g,.d (.clo fc [])] [.row E (n+1) g (ab (l.map enc))] (.d (.tup [])) [.row E (n+1) g (ab (l'.map enc))]:=by
 refine⟨Rg,XB _,by simp[an,aq],by simp[aH,aQ,az],fun X hP hn hm w c vs hr lq=>?_⟩;have bT:=lq.1;match vs,bT with
 |[v0,v1],_=>
  have r0:=lq.2 0 _ v0 rfl rfl;have r1:=co (lq.2 1 _ v1 rfl rfl);have bB:ab (l.map enc)≠[]:=by simpa[ab]using pG
  have bc:=hr.chunk 0;cases r0 with
  |own _ _ _ ee h1=>
   obtain⟨gb,cap,rfl⟩:=lZ bc ee bB;obtain⟨cur,xs,q1,q2,q3,q4,q5,q6,q7,q8,q9,q10,q11⟩:=ed bc ee bB;have Mu:=bG.one q2 (fun d hd=>by obtain⟨r,hr,hd⟩:=ZW.1 hd;exact q6 r hr d hd);have pF:(ab (l.map enc)).length=l.length:=by rw[aF,XC]
   rw[pF]at q3 q4 q8 q10 ee ⊢;have AN:v1= .func (.func fc) #[] #[]:=by
    cases r1 with
    |clo _ _ vs hl bA=>
     have:vs=[]:=by simpa using hl.symm
     subst this;rfl
   subst AN;have L3:cur.toList.take (l.length*(n+1))=xs:=by
    apply Yj;intro j;by_cases hj:j < l.length*(n+1)
    ·rw[XS hj,X6,q4 j hj]
    ·rw[XT (by rw[Xp];omega),XT (by omega)]
   obtain⟨ds,qm,ft⟩:=sF (Q:=fun i (r:SRow HP (n+1))=>r.xs=(xs.drop (i*(n+1))).take (n+1)∧∃x,l[i]? =some x∧r.key=key x) l.length fun i hi=>by
    have hb:(i+1)*(n+1)≤l.length*(n+1):=Ys _ hi;rw[YY]at hb;obtain⟨x,hx⟩:∃x,l[i]? =some x:=⟨_,Xk hi⟩;have Fa:((xs.drop (i*(n+1))).take (n+1)).length=n+1:=by rw[Xp,XI];omega
    have h0:HP ((xs.drop (i*(n+1))).take (n+1)) (key x):=Ro x (Xl hx) _ Fa fun j d v hd hv=>by
     have hj:j < n+1:=by rw[←Fa];exact(Xn.1 hv).1
     rw[XS hj,Yk]at hv;have gS:=cB q5 i j hj;rw[gG,Xz,hx]at gS;simp only[Ye,Y6,Xz,hd]at gS;exact⟨_,_,co (q2.2 _ _ v gS hv)⟩
    exact⟨⟨(xs.drop (i*(n+1))).take (n+1),Fa,fun v hv=>Mu v (Yd (Yg hv)),key x,h0⟩,rfl,x,hx,rfl⟩
   have PH:∀r∈ds.map (·.xs),r.length=n+1:=fun r hr=>by obtain⟨x,-,rfl⟩:=XQ.1 hr;exact x.len
   have hflat:(ds.map (·.xs)).flatten=xs:=by
    apply Yj;intro t;by_cases ht:t < l.length*(n+1)
    ·have h1:t / (n+1) < l.length:=Zw (by rw[Zp];exact ht);have h2:t % (n+1) < n+1:=Y' _ (by omega);have h3:t / (n+1)*(n+1)+t % (n+1)=t:=by rw[Zp];exact ZN t (n+1)
     generalize t / (n+1)=i at h1 h3;generalize t % (n+1)=j at h2 h3;have h4:=cB PH i j h2;rw[h3,Xz,Xk (show i < ds.length by omega)]at h4;rw[h4];simp only[Ye,Y6];rw[(ft _ (show i < ds.length by omega)).1,XS h2,Yk,h3]
    ·rw[XT (by rw[cN PH,XC,qm];omega),XT (by omega)]
   have tQ:ds.map (·.key)=l.map key:=by
    apply Yj;intro i;rw[Xz,Xz];by_cases hi:i < l.length
    ·obtain⟨-,x,hx,hk⟩:=ft i (by omega);rw[Xk (by omega),hx];simp[hk]
    ·rw[XT (show ds.length≤i by omega),XT (show l.length≤i by omega)];rfl
   have iW:=KW inh L hf aE zE eg Mx ds w gb cap cur q1 (by rw[qm,L3,hflat]) (by rw[qm];exact q8) (by omega);rw[qm]at iW;rw[←hP]at iW;rw[hP]at iW;refine iW.mono fun e w' ⟨he,ds',cur',hp',hs',hw',fl,qk,eP⟩=>?_;have hU:=KX (ka:=key) (kb:=SRow.key) tQ hp hs hp' hs';have Rp:ds'.length=l.length:=by rw[hp'.length_eq,qm]
   have My:l'.length=l.length:=hp.length_eq;have AJ:∀r∈ds'.map (·.xs),r.length=n+1:=fun r hr=>by obtain⟨x,-,rfl⟩:=XQ.1 hr;exact x.len
   have Fj:∀r∈ab (l'.map enc),r.length=n+1:=fun r hr=>by
    obtain⟨q,hq,rfl⟩:=iq hr;obtain⟨x,hx,rfl⟩:=XQ.1 hq;exact q5 _ (XQ.2 ⟨enc x,XQ.2 ⟨x,hp.mem_iff.1 hx,rfl⟩,rfl⟩)
   have Rh:∀r∈ab (l'.map enc),∀d∈r,d.one=true:=fun r hr d hd=>by
    obtain⟨q,hq,rfl⟩:=iq hr;obtain⟨x,hx,rfl⟩:=XQ.1 hq;exact q6 _ (XQ.2 ⟨enc x,XQ.2 ⟨x,hp.mem_iff.1 hx,rfl⟩,rfl⟩) d hd
   have lf:∀i j (hi:i < l.length) (hj:j < l.length),key l[i]=key l[j]→i=j:=by
    have h1:(l'.map key).Nodup:=by
     unfold List.Nodup;rw[Y3];exact hs.imp fun h=>by omega
    have h2:(l.map key).Nodup:=(hp.map key).nodup_iff.1 h1;intro i j hi hj h;rw[List.nodup_iff_pairwise_ne,XF]at h2;rcases Zb i j with hlt|he|hlt
    ·exact absurd (by rw[A',A'];exact h) (h2 i j (by simpa using hi) (by simpa using hj) hlt)
    ·exact he
    ·exact absurd (by rw[A',A'];exact h.symm) (h2 j i (by simpa using hj) (by simpa using hi) hlt)
   have oI:bG c w (ab (l'.map enc)).flatten (ds'.map (·.xs)).flatten:=by
    refine⟨by rw[cN Fj,cN AJ,aF,XC,XC,Rp,My],fun t d u ht hu=>?_⟩;have RR:t < l.length*(n+1):=by
     have:=(Xn.1 hu).1;rw[cN AJ,XC,Rp]at this;exact this
    have h1:t / (n+1) < l.length:=Zw (by rw[Zp];exact RR);have h2:t % (n+1) < n+1:=Y' _ (by omega);have h3:t / (n+1)*(n+1)+t % (n+1)=t:=by rw[Zp];exact ZN t (n+1)
    generalize t / (n+1)=i at h1 h3;generalize t % (n+1)=j at h2 h3;have e1:=cB Fj (i) (j) h2;have e2:=cB AJ (i) (j) h2;rw[h3,gG,Xz,Xk (l:=l') (show i < l'.length by omega)]at e1;rw[h3,Xz,Xk (l:=ds') (show i < ds'.length by omega)]at e2;simp only[Ye,Y6]at e1 e2;obtain⟨p,iG,Dw⟩:=X0.1 (hp'.mem_iff.1 (Ym (show i < ds'.length by omega)));obtain⟨p2,Vb,Tr⟩:=X0.1 (hp.mem_iff.1 (Ym (show i < l'.length by omega)));obtain⟨g1,x,g2,g3⟩:=ft p iG;have hx:l[p]'(by omega)=x:=by rw[Xk (by omega)]at g2;exact XX.inj g2
    have Ts:(ds'[i]'(by omega)).key=key (l'[i]'(by omega)):=by
     have:=congrArg (fun z:List Int=>z[i]?) hU;simp only[Xz]at this;rw[Xk (by omega),Xk (by omega)]at this;exact XX.inj this
    have hpp:p=p2:=lf p p2 (by omega) Vb (by rw[Tr,←Ts,←Dw,g3,hx]);subst hpp;rw[←Tr,hx]at e1;rw[←Dw,g1,XS h2,Yk]at e2;have e3:=cB q5 p (j) h2;rw[gG,Xz,g2]at e3;simp only[Ye,Y6]at e3;rw[←e3]at e1;rw[e1]at ht;rw[e2]at hu;exact q2.2 _ d u ht hu
   have xN:0 < cap:=by have:=Zd.2 pG;omega
   have Dp:=hr.put_row (w':=w') (k:=0) (rows':=ab (l'.map enc)) (xs':=(ds'.map (·.xs)).flatten) rfl ee (by rw[dh xN];exact eP) (by
    rw[aF,XC,My];exact .row gb l.length cap cur' _ xN hw' q10 q9 (by rw[fl];exact q11) (by rw[cN AJ,XC,Rp]) qk) oI Fj Rh
   have mH:cE [(0,Chunk.row E (n+1) g (ab (l'.map enc)))] (bQ [] [.row E (n+1) g (ab (l.map enc))]).heap=aG [.row E (n+1) g (ab (l'.map enc))]:=by
    funext k;rw[qt];cases k with
    |zero=>rfl
    |succ k=>rfl
   rw[mH]at Dp;refine⟨_,c,he,.d _ _ (.tup [] [] rfl fun j d x h=>by simp at h),Dp⟩
theorem ur {n:Nat}{P:Program}{ρ:Ren}(L:SlLaysF0.n6 P ρ){f fc E g:Nat}(hf:ρ.f 6=f)(Rg:xg P f)(aE:∀w,(isAgg (ρ.t 24)).run P w= .ok true w)(zE:∀w,(Go.sizeOf (ρ.t 24)).run P w= .ok (n+1) w)(eg:∀args w,(callFunc fc args).run P w= .ok (.enter fc args) w)
 (Mx:∀(x y:SRow KU (n+1)) (W:World),Calls P fc #[.agg x.xs.toArray,.agg y.xs.toArray] W fun e w'=>e= .returned (.int .i64 (DH x y))∧∃q os',w'=Sort.grow (W.drewN q) os')
 {α:Type} (enc:α→List D) (key:α→Int) (Ro:∀x,(enc x)[0]? =some (.v (.int .i64 (key x)))) {l l':List α} (pG:l≠[]) (hp:l'.Perm l) (hs:l'.Pairwise fun x y=>key x < key y) (cP:l.length≤1000000):
 MSpec P f [.own 0 g,.d (.clo fc [])] [.row E (n+1) g (ab (l.map enc))] (.d (.tup [])) [.row E (n+1) g (ab (l'.map enc))]:=
 Ga (KV n) L hf Rg aE zE eg Mx enc key (fun x _ vs hl hr=>by
  obtain⟨v,hv⟩:∃v,vs[0]? =some v:=⟨_,Xk (by omega)⟩;obtain⟨M,w,h⟩:=hr 0 _ v (Ro x) hv;show vs[0]? =_;rw[hv];cases h;rfl) pG hp hs cP
end
section
open Go.Proofs Go.Shelf
theorem kE (a:Int)(W:World):Calls prog 195 #[.int .i64 a] W fun e w'=>e= .returned (.bool false)∧w'=W:=by
 go_enter func195,ntmps195
 go_wp2_with fail
 go_ret
 exact⟨di (by simp),rfl⟩
theorem iB (a b:Int)(W:World):Calls prog 113 #[.int .i64 a,.int .i64 b] W fun e w'=>e= .returned (.int .i64 (ep a b))∧w'=W:=by
 by_cases h:a < b
 ·have e:ep a b= -1:=by simp[ep,h]
  rw[e];go_enter func113,ntmps113
  go_wp2_with fail
  refine(kE a _).mono ?_;rintro e w1 ⟨rfl,rfl⟩;go_wp2_with fail
  refine(kE b _).mono ?_;rintro e w1 ⟨rfl,rfl⟩;go_wp2_with fail
  go_ret
  exact⟨ce rfl,rfl⟩
 ·by_cases h2:b < a
  ·have e:ep a b=1:=by simp[ep,h,h2]
   rw[e];go_enter func113,ntmps113
   go_wp2_with fail
   refine(kE a _).mono ?_;rintro e w1 ⟨rfl,rfl⟩;go_wp2_with fail
   refine(kE b _).mono ?_;rintro e w1 ⟨rfl,rfl⟩;go_wp2_with fail
   go_ret
   exact⟨ce rfl,rfl⟩
  ·have e:ep a b=0:=by simp[ep,h,h2]
   rw[e];go_enter func113,ntmps113
   go_wp2_with fail
   refine(kE a _).mono ?_;rintro e w1 ⟨rfl,rfl⟩;go_wp2_with fail
   refine(kE b _).mono ?_;rintro e w1 ⟨rfl,rfl⟩;go_wp2_with fail
   go_ret
   exact⟨ce rfl,rfl⟩
end
section
open Go.Proofs Go.Shelf
theorem KY (x y:SRow KU 3)(W:World):Calls prog 212 #[.agg x.xs.toArray,.agg y.xs.toArray] W fun e w'=>e= .returned (.int .i64 (DH x y))∧∃q os',w'=Sort.grow (W.drewN q) os':=by
 obtain⟨xs,xl,x1,a,xh⟩:=x;obtain⟨ys,yl,y1,b,yh⟩:=y;match xs,xl,ys,yl with
 |[u0,u1,u2],_,[v0,v1,v2],_=>
  simp[KU]at xh yh;subst xh;subst yh;have hc:=iB a b;unfold DH;simp only;generalize ep a b=r at*;replace hc:=Xj hc;clear x1 y1;go_enter func212,ntmps212
  go_wp2_with fail
  refine(hc.out _).mono ?_;rintro e w1 ⟨rfl,rfl⟩;go_wp2_with fail
  go_ret
  exact⟨ce rfl,0,_,by rw[Sort.alloc_eq_grow,Sort.alloc_eq_grow,Sort.grow_grow];rfl⟩
theorem EE {l l':List Rng}(g:Nat)(pG:l≠[])(hp:l'.Perm l)(hs:l'.Pairwise fun x y=>(fun r:Rng=>r.at_.at_) x < (fun r:Rng=>r.at_.at_) y)(cP:l.length≤1000000):
 MSpec prog 211 [.own 0 g,.d (.clo 212 [])] [.row 58 3 g (ab (l.map bv))] (.d (.tup [])) [.row 58 3 g (ab (l'.map bv))]:=
 ur sortRange rfl (cW func211 (by kernel_rfl) rfl) isAgg58 sizeOf58 (enters_of func212 (by kernel_rfl) rfl) KY bv (fun r:Rng=>r.at_.at_) (fun _=>rfl) pG hp hs cP
end
theorem N5 (q r:Rng):af prog 210 [.agg (bv q),.ept (bv r)] (.v (.bool (q.at_.meets r.at_))):=by
 have hm:af prog 19 [.agg (aN q.at_),.agg (aN r.at_)] (.v (.bool (q.at_.meets r.at_))):=oU _ _;refine pj func210 ntmps210 results210 ?_;exact aZ
theorem N6 (v:Vpc)(r:Rng):af prog 141 [.agg (al v),.agg (bv r)] (.tup [.agg (al (cH v r).1),.v (.int .i64 (cH v r).2)]):=by
 obtain⟨R,hR⟩:∃R,R=cH v r:=⟨_,rfl⟩;rw[←hR];replace hR:=Xj hR;by_cases hc:bN v=0
 ·have hk:=aY hc;have cQ:=k7 v hc hk.n4 hk.n6 hk.n8;have hid:=kL r.pool;have bc:=qS r.at_;have nl:=mS md (fun q=>q.at_.meets r.at_) v.ranges 210 [.ept (bv r)] (by have:=hk.n4;omega) (fun q _=>N5 q r);have aP:R=if lC v r≠0 then (Vpc.zero,lC v r)else ({v with ranges:=df (·.at_.at_) r v.ranges},0):=by rw[hR.out];unfold cH;rw[if_neg (by simpa using hc)]
  have IT:=hk.n4;by_cases bH:lC v r≠0
  ·rw[if_pos bH]at aP;unfold lC at aP bH;generalize chk r.at_.at_ r.at_.len=K at*;generalize cF r.pool=I at*;generalize (v.ranges.any fun q=>q.at_.meets r.at_)=M at*;replace aP:=Xj aP;replace bH:=Xj bH;clear hR hc hk;have I8:((v.ranges.length:Int)==4)=decide (v.ranges.length=4):=by rw[Yi];simp;omega
   refine pj func141 ntmps141 results141 ?_;repeat' (first|(with_reducible refine And.intro ?_ ?_)|(with_reducible refine cm (fun _=>?_) (fun _=>?_))|(with_reducible refine aA (fun _=>?_) (fun _=>?_))|(with_reducible refine be (by kernel_rfl))|simp -dsimp only[go_sem,seval, *,al,bv,aN,I8]|((with_reducible refine bf ?_);simp -dsimp only[go_sem,seval,al,bv,aN,I8];first|refine aC (by first|assumption|exact hid|exact bc|exact nl) (by first|exact .inl rfl|exact .inr rfl) ?_|(refine aB (by assumption) ?_ ?_ ?_;(solve|(repeat(first|exact ai.refl _|exact ai.nil _|(refine ai.tup ?_)|(refine ai.agg ?_ rfl)|exact trivial|(refine And.intro ?_ ?_))));(solve|exact .inl rfl|exact .inr rfl)))|(refine aX [] (cQ) ?_ ?_ ?_ ?_ ?_ ?_;(solve|rfl|simp only[go_sem,seval,al]);(solve|rfl);(solve|decide);(solve|simp);(solve|simp only[go_sem,seval,ax,al]))|omega|exact decide_eq_true (by omega)|exact ai.refl _)
   all_goals
    have h1:=aP.out;have h2:=bH.out;clear hid bc nl cQ;first
     |(exfalso;grind)
     |(rw[show R=(Vpc.zero,1) from (by rw[h1];grind)];exact dg)
     |(rw[show R=(Vpc.zero,6) from (by rw[h1];grind)];exact dg)
     |(rw[show R=(Vpc.zero,2) from (by rw[h1];grind)];exact dg)
  ·rw[if_neg bH]at aP;have hg:lC v r=0:=by simpa using bH
   obtain⟨g1,g2,g3,g4⟩:chk r.at_.at_ r.at_.len=0∧cF r.pool=true∧(v.ranges.any fun q=>q.at_.meets r.at_)=false∧v.ranges.length≠4:=by
    unfold lC at hg;generalize (v.ranges.any fun q=>q.at_.meets r.at_)=M at*;grind
   have bB:∀q∈v.ranges,q.at_.at_≠r.at_.at_:=fun q hq=>vv (kj (hk.ranges q hq)) (by simp[Pfx.right,bE,g1]) (by have:=Yh.1 g3 q hq;simpa using this);have nF:=EE (l:=v.ranges++[r]) (l':=df (·.at_.at_) r v.ranges) 2 (by simp) (fY _ _ _) (gx hk.rr bB) (by simp;omega);rw[g1]at bc;rw[g2]at hid;rw[g3]at nl;have I8:((v.ranges.length:Int)==4)=false:=by simp;omega
   have i7:v.ranges.length+1≤100:=by omega
   simp only[Xo,Xm,Xu]at nF;rw[aP];clear hR aP hc hk bB hg bH;refine pj func141 ntmps141 results141 ?_;have z1z:=Ln.mk (ls:=[]) (cQ);have z2z:=Ln.mk (ls:=[4]) (nF);exact aZ
 ·have cQ:=k6 v hc;have h1:(bN v !=0)=true:=by simpa using hc
  have hr:R=(Vpc.zero,bN v):=by rw[hR.out];unfold cH;rw[if_pos hc]
  rw[hr];replace hr:=Xj hr;refine pj func141 ntmps141 results141 ?_;have z1z:=Ln.mk (ls:=[]) (cQ);refine am ?_<;>intros;exact dg
theorem vX (p q:Pfx):([p.at_,p.len]==[q.at_,q.len])=decide (p=q):=by
 rw[Yi];cases p;cases q;simp
theorem Ck (l:List Rng)(x:Rng)(hl:l.length≤1000000000):
 af prog 130 [.sl 3 (l.map bv),.agg (bv x)] (.v (.int .i64 (cv (fun y=>decide (x=y)) l))):=by
 refine pj func130 ntmps130 results130 ?_;refine am ?_<;>intros;refine bL ae ak (fun m e h=>∃k:Nat,k≤l.length∧(∀y∈l.take k,decide (x=y)=false)∧m=l.length - k∧e=[(8,.d (.v (.int .i64 k))),(7,.d (.v (.int .i64 l.length))),(4,.d (.v (.int .i64 0))),(3,.ptr 0 0),(0,.d (.sl 3 (l.map bv)))]∧h=[.box 58 ((bv x).map .d)]) _ _ _ ⟨0,XD _,by simp,rfl,rfl,rfl⟩ (wf) ?_;rintro m e h ⟨k,hk,cf,rfl,rfl,rfl⟩ CL mJ;by_cases hlt:k < l.length
 ·obtain⟨y,hy⟩:∃y,l[k]? =some y:=⟨_,Xk hlt⟩;have en:(k:Int) < (l.length:Int):=by omega
  have cM:=wi k (by omega);have he:=vV x y;cases hp:decide (x=y)with
  |false=>
   rw[hp]at he;have AK:∀z∈l.take (k+1),decide (x=z)=false:=fun z hz=>by
    rw[ag hy]at hz;rcases X2.1 hz with hz|hz
    ·exact cf z hz
    ·rw[Yc]at hz;rw[hz];exact hp
   replace AK:=Xj AK;replace cf:=Xj cf;replace hp:=Xj hp;refine am ?_<;>intros;refine mJ _ _ _ _ _ ?_ ⟨k+1,hlt,AK.out,rfl,rfl,rfl⟩ (wf);omega
  |true=>
   rw[hp]at he;have ld:cv (fun y=>decide (x=y)) l=k:=fV hy hp cf;rw[ld];replace ld:=Xj ld;replace cf:=Xj cf;replace hp:=Xj hp;exact aZ;all_goals exact ai.refl _
 ·obtain rfl:k=l.length:=by omega
  rw[Xt]at cf;rw[fW cf];replace cf:=Xj cf;exact aZ;all_goals exact ai.refl _
theorem vY (l:List Rng)(x:Rng)(hl:l.length≤1000000000):
 af prog 61 [.sl 3 (l.map bv),.agg (bv x)] (.v (.bool (l.any fun y=>decide (x=y)))):=by
 have hi:=Ck l x hl;have im:=fK (fun y=>decide (x=y)) l;refine pj func61 ntmps61 results61 ?_;exact aZ;all_goals exact ai.refl _
@[go_sem] def ja (b:Bok)(vp lp:PV)(c:Cmd)(a:Ans):List PV:=[.d (.v (.int .i64 b.tick)),.d (.sl 9 (b.pools.map ah)),vp,lp,.d (.v (.int .i64 c.op)),.d (.v (.int .i64 c.a)),.d (.v (.int .i64 c.b)),.d (.v (.int .i64 c.c)),.d (.v (.int .i64 c.at_.at_)),.d (.v (.int .i64 c.at_.len)),.d (.v (.int .i64 c.rule.min)),.d (.v (.int .i64 c.rule.max)),.d (.v (.int .i64 c.rule.usual)),.d (.v (.int .i64 c.rule.cool)),.d (.v (.int .i64 a.err)),.d (.v (.int .i64 a.at_.at_)),.d (.v (.int .i64 a.at_.len)),.d (.v (.int .i64 a.n))]
theorem N7 (v:Vpc)(c:Cmd):af prog 58 [.agg (al v),.ept (kh c)] (.v (.bool (v.id==c.c))):=by
 refine pj func58 ntmps58 results58 ?_;exact aZ
theorem N8 (v:Vpc)(c:Cmd)(hl:v.ranges.length≤1000000000):af prog 60 [.agg (al v),.ept (kh c)] (.v (.bool (v.ranges.any fun r=>decide ((⟨c.at_,c.a⟩:Rng)=r)))):=by
 have h:=vY v.ranges ⟨c.at_,c.a⟩ hl;generalize (v.ranges.any fun r=>decide ((⟨c.at_,c.a⟩:Rng)=r))=x at*;refine pj func60 ntmps60 results60 ?_;exact aZ
def Gb (vs:List Vpc)(r:Rng):Bool:=vs.any fun v=>v.ranges.any fun x=>decide (r=x)
def mC (b:Bok)(vs:List Vpc)(c:Cmd):Bok × Ans:=
 if c.op=1 then ((fO b c.a c.at_ c.rule).1,.er (fO b c.a c.at_ c.rule).2)
 else if c.op=2 then ((fP b c.a c.b c.c c.rule).1,⟨(fP b c.a c.b c.c c.rule).2.2,(fP b c.a c.b c.c c.rule).2.1,0⟩)
 else if c.op=3 then ((fh b c.a).1,.er (fh b c.a).2)
 else if c.op=4 then ((iU b c.a).1,.er (iU b c.a).2)
 else if c.op=5 then if gz vs c.c then (b,.er 6)else ((cO b c.a c.b c.c).1,⟨(cO b c.a c.b c.c).2.2,(cO b c.a c.b c.c).2.1,0⟩)
 else if c.op=6 then if Gb vs ⟨c.at_,c.a⟩then (b,.er 9)else ((fg b c.a c.at_).1,.er (fg b c.a c.at_).2)
 else (b,.zero)
theorem Qp (b:Bok)(vs:List Vpc)(lp:List Lnk)(c:Cmd)(hz:∀p∈b.pools,p.leases.length≤3518437208882)(h6:vs.length≤6)(h4:∀v∈vs,v.ranges.length≤1000000000):
 MSpec prog 27 [.ptr 0 0] [.box 86 (ja b (.own 1 vs.length) (.d (.sl 2 (lp.map bJ))) c .zero),.row 55 3 vs.length (ab (vs.map al))] (.d (.v (.bool (decide (1≤c.op∧c.op≤6)))))
  [.box 86 (ja (mC b vs c).1 (.own 1 vs.length) (.d (.sl 2 (lp.map bJ))) c (mC b vs c).2),.row 55 3 vs.length (ab (vs.map al))]:=by
 unfold mC;by_cases h1:c.op=1
 ·rw[if_pos h1,decide_eq_true (by omega)];have hp:=Qi b c.a c.at_ c.rule hz;generalize fO b c.a c.at_ c.rule=R at*;replace hz:=Xj hz;replace h4:=Xj h4;refine iN ae ak func27 rfl ntmps27 results27 (by kernel_rfl) (by simp) (by simp[an,aq]) (by simp[aH,aQ,an,aq,ja,bn,az]) ?_;refine am ?_;exact wf
 rw[if_neg h1];by_cases h2:c.op=2
 ·rw[if_pos h2,decide_eq_true (by omega)];have hp:=Qk b c.a c.b c.c c.rule hz;generalize fP b c.a c.b c.c c.rule=R at*;clear h1;replace hz:=Xj hz;replace h4:=Xj h4;refine iN ae ak func27 rfl ntmps27 results27 (by kernel_rfl) (by simp) (by simp[an,aq]) (by simp[aH,aQ,an,aq,ja,bn,az]) ?_;refine am ?_;exact wf
 rw[if_neg h2];by_cases h3:c.op=3
 ·rw[if_pos h3,decide_eq_true (by omega)];have hp:=N0 b c.a hz;generalize fh b c.a=R at*;clear h1 h2;replace hz:=Xj hz;replace h4:=Xj h4;refine iN ae ak func27 rfl ntmps27 results27 (by kernel_rfl) (by simp) (by simp[an,aq]) (by simp[aH,aQ,an,aq,ja,bn,az]) ?_;refine am ?_;exact wf
 rw[if_neg h3];by_cases h4':c.op=4
 ·rw[if_pos h4',decide_eq_true (by omega)];have hp:=Qo b c.a hz;generalize iU b c.a=R at*;clear h1 h2 h3;replace hz:=Xj hz;replace h4:=Xj h4;refine iN ae ak func27 rfl ntmps27 results27 (by kernel_rfl) (by simp) (by simp[an,aq]) (by simp[aH,aQ,an,aq,ja,bn,az]) ?_;refine am ?_;exact wf
 rw[if_neg h4'];by_cases h5:c.op=5
 ·rw[if_pos h5,decide_eq_true (by omega)];have nl:=vS iK (fun v=>v.id==c.c) vs 58 [.ept (kh c)] (by omega) (fun v _=>N7 v c);have hp:=KI b c.a c.b c.c hz;generalize cO b c.a c.b c.c=R at*;unfold gz;clear h1 h2 h3 h4';cases hb:vs.any fun v=>v.id==c.c
  ·rw[hb]at nl;replace hb:=Xj hb;simp only[kh,h5]at nl;replace hz:=Xj hz;replace h4:=Xj h4;refine iN ae ak func27 rfl ntmps27 results27 (by kernel_rfl) (by simp) (by simp[an,aq]) (by simp[aH,aQ,an,aq,ja,bn,az]) ?_;refine am ?_;exact wf
  ·rw[hb]at nl;replace hb:=Xj hb;simp only[kh,h5]at nl;clear hp;replace hz:=Xj hz;replace h4:=Xj h4;refine iN ae ak func27 rfl ntmps27 results27 (by kernel_rfl) (by simp) (by simp[an,aq]) (by simp[aH,aQ,an,aq,ja,bn,az]) ?_;refine am ?_;exact wf
 rw[if_neg h5];by_cases h6':c.op=6
 ·rw[if_pos h6',decide_eq_true (by omega)];have nl:=vS iK (fun v=>v.ranges.any fun r=>decide ((⟨c.at_,c.a⟩:Rng)=r)) vs 60 [.ept (kh c)] (by omega) (fun v hv=>N8 v c (h4 v hv));have hp:=KJ b c.a c.at_ hz;generalize fg b c.a c.at_=R at*;unfold Gb;clear h1 h2 h3 h4' h5;cases hb:vs.any fun v=>v.ranges.any fun r=>decide ((⟨c.at_,c.a⟩:Rng)=r)
  ·rw[hb]at nl;replace hb:=Xj hb;simp only[kh,h6']at nl;replace hz:=Xj hz;replace h4:=Xj h4;refine iN ae ak func27 rfl ntmps27 results27 (by kernel_rfl) (by simp) (by simp[an,aq]) (by simp[aH,aQ,an,aq,ja,bn,az]) ?_;refine am ?_;exact wf
  ·rw[hb]at nl;replace hb:=Xj hb;simp only[kh,h6']at nl;clear hp;replace hz:=Xj hz;replace h4:=Xj h4;refine iN ae ak func27 rfl ntmps27 results27 (by kernel_rfl) (by simp) (by simp[an,aq]) (by simp[aH,aQ,an,aq,ja,bn,az]) ?_;refine am ?_;exact wf
 rw[if_neg h6',decide_eq_false (by omega)];have e1:(c.op==1)=false:=by simpa using h1
 have e2:(c.op==2)=false:=by simpa using h2
 have e3:(c.op==3)=false:=by simpa using h3
 have e4:(c.op==4)=false:=by simpa using h4'
 have e5:(c.op==5)=false:=by simpa using h5
 have e6:(c.op==6)=false:=by simpa using h6'
 clear h1 h2 h3 h4' h5 h6';replace hz:=Xj hz;replace h4:=Xj h4;refine iN ae ak func27 rfl ntmps27 results27 (by kernel_rfl) (by simp) (by simp[an,aq]) (by simp[aH,aQ,an,aq,ja,bn,az]) ?_;refine am ?_;exact wf
theorem vZ {α:Type}(enc:α→List D)(l:List α)(hl:l.length≤1000000000):
 MSpec prog 50 [.d (.sl 2 (l.map enc))] [] (.own 0 1) [.row 76 2 1 (ab (l.map enc))]:=by
 cases l with
 |nil=>
  refine qI (pl:=[]) (ql:=[]) fun ao cap=>?_;cases ao with
  |none=>
   simp only[Ya];refine mj func50 ntmps50 results50 ?_;repeat' (first|(with_reducible refine And.intro ?_ ?_)|(with_reducible refine cm (fun _=>?_) (fun _=>?_))|(with_reducible refine aA (fun _=>?_) (fun _=>?_))|(with_reducible refine be (by kernel_rfl))|simp -dsimp only[go_sem,seval, *,Zk,XR]|((with_reducible refine bf ?_);simp -dsimp only[go_sem,seval,Zk,XR];first|refine aC (by first|assumption|fail) (by first|exact .inl rfl|exact .inr rfl) ?_|refine aB (by assumption) (by repeat(first|exact ai.refl _|exact ai.nil _|(refine ai.tup ?_)|(refine ai.agg ?_ rfl)|exact trivial|(refine And.intro ?_ ?_))) (by first|exact .inl rfl|exact .inr rfl) ?_)|omega|exact decide_eq_true (by omega)|exact ai.refl _)
   refine iL (h:=[]) (XB _) 76 2 ?_;exact(fT 0 0 76 2 [] rfl (bo rfl rfl))
  |some a=>
   simp only[Ya];refine mj func50 ntmps50 results50 ?_;repeat' (first|(with_reducible refine And.intro ?_ ?_)|(with_reducible refine cm (fun _=>?_) (fun _=>?_))|(with_reducible refine aA (fun _=>?_) (fun _=>?_))|(with_reducible refine be (by kernel_rfl))|simp -dsimp only[go_sem,seval, *,YD,XR]|((with_reducible refine bf ?_);simp -dsimp only[go_sem,seval,YD,XR];first|refine aC (by first|assumption|fail) (by first|exact .inl rfl|exact .inr rfl) ?_|refine aB (by assumption) (by repeat(first|exact ai.refl _|exact ai.nil _|(refine ai.tup ?_)|(refine ai.agg ?_ rfl)|exact trivial|(refine And.intro ?_ ?_))) (by first|exact .inl rfl|exact .inr rfl) ?_)|omega|exact decide_eq_true (by omega)|exact ai.refl _)
   exact bo rfl rfl
 |cons x l=>
  simp only[XA]at hl;refine mj func50 ntmps50 results50 ?_;repeat' (first|(with_reducible refine And.intro ?_ ?_)|(with_reducible refine cm (fun _=>?_) (fun _=>?_))|(with_reducible refine aA (fun _=>?_) (fun _=>?_))|(with_reducible refine be (by kernel_rfl))|simp -dsimp only[go_sem,seval, *,YD,XR]|((with_reducible refine bf ?_);simp -dsimp only[go_sem,seval,YD,XR];first|refine aC (by first|assumption|fail) (by first|exact .inl rfl|exact .inr rfl) ?_|refine aB (by assumption) (by repeat(first|exact ai.refl _|exact ai.nil _|(refine ai.tup ?_)|(refine ai.agg ?_ rfl)|exact trivial|(refine And.intro ?_ ?_))) (by first|exact .inl rfl|exact .inr rfl) ?_)|omega|exact decide_eq_true (by omega)|exact ai.refl _)
  all_goals first|omega|exact bo rfl rfl
theorem oZ (n:Net)(h:cK n≠0):
 MSpec prog 132 [.d (.agg (aK n))] [] (.tup [.ptr 1 0,.d (.v (.int .i64 (cK n)))]) [.gone,.box 28 [.d (.v (.slice none 0 0)),.d (.v (.slice none 0 0))]]:=by
 have hc:=vC n;have h1:(cK n !=0)=true:=by simpa using h
 refine mj func132 ntmps132 results132 ?_;refine am ?_<;>intros;exact(aL 0 (by simp)).trans (bo rfl rfl)
theorem rl (n:Net)(h:cK n=0):
 MSpec prog 132 [.d (.agg (aK n))] [] (.tup [.ptr 2 0,.d (.v (.int .i64 0))]) [.gone,.row 76 2 1 (ab (n.links.map bJ)),.box 28 [.own 3 n.vpcs.length,.own 1 1],.row 55 3 n.vpcs.length (ab (n.vpcs.map al))]:=by
 have hc:=vC n;rw[h]at hc;have bF:=gO.1 h;have n6:=bF.n6;have RS:=Xj bF.vp;have Vc:=vZ bJ n.links (by have:=bF.n12;omega);clear bF;replace h:=Xj h;refine mj func132 ntmps132 results132 ?_;have z1z:=Ln.mk (ls:=[]) (Vc);refine am ?_<;>intros;refine bg ae ak n.vpcs (fun _=>True) (fun k=>[(29,.d (.v (.int .i64 k))),(28,.d (.v (.int .i64 n.vpcs.length))),(27,.d (.sl 3 (n.vpcs.map al))),(5,.ptr 2 0)])
  (fun k=>[.gone,.row 76 2 1 (ab (n.links.map bJ)),.box 28 [.own 3 k,.own 1 1],.row 55 3 k (ab ((n.vpcs.take k).map al))]) trivial ?_ ?_ ?_
 ·refine(aL 0 (by simp)).trans ((au (by simp) 2 28 [.d (.v (.slice none 0 0)),.own 1 1] 0 55 3 rfl rfl rfl).trans ?_);exact wf (hb:=cI) (hbh:=cI)
 ·intro k v hv hk _ CN hCN;have dH:(k:Int) < (n.vpcs.length:Int):=by omega
  have cM:=wi k (by omega);have xG:k+1≤100:=by omega
  have Ws:(Yf k n.vpcs).length=k:=by rw[Xp];omega
  have pp:=aY (RS.out v (Xl hv));have h6:=pp.n6;have h8:=Xj pp.n8;have Vd:=jQ bv v.ranges (by have:=pp.n4;omega);clear pp;replace hv:=Xj hv;have AN:=hv.out;have z1z:=Ln.mk (ls:=[]) (Vd);refine am ?_<;>intros;refine bg ae ak v.subs (fun _=>True) (fun j=>[(42,.d (.v (.int .i64 j))),(41,.d (.v (.int .i64 v.subs.length))),(40,.d (.sl 4 (v.subs.map aU))),(8,.ptr 6 0),(29,.d (.v (.int .i64 k))),(28,.d (.v (.int .i64 n.vpcs.length))),(27,.d (.sl 3 (n.vpcs.map al))),(5,.ptr 2 0)])
   (fun j=>[.gone,.row 76 2 1 (ab (n.links.map bJ)),.box 28 [.own 3 k,.own 1 1],.row 55 3 k (ab ((n.vpcs.take k).map al)),.gone,.row 58 3 1 (ab (v.ranges.map bv)),.box 55 [.d (.v (.int .i64 v.id)),.own 5 1,.own 7 j],.row 71 4 j (ab ((v.subs.take j).map aU))]) trivial ?_ ?_ ?_
  ·refine(aL 4 (by simp)).trans ((au (by simp) 6 55 [.d (.v (.int .i64 v.id)),.own 5 1,.d (.v (.slice none 0 0))] 2 71 4 rfl rfl rfl).trans ?_);exact wf (hb:=cI) (hbh:=cI)
  ·intro j s hs hj _ CO sX;have ic:(j:Int) < (v.subs.length:Int):=by omega
   have j6:=wi j (by omega);have iH:=h8.out s (Xl hs);have i7:j+1≤100:=by omega
   have i4:(Yf j v.subs).length=j:=by rw[Xp];omega
   replace hs:=Xj hs;have lh:=hs.out;refine am ?_<;>intros;refine bg ae ak s.faces (fun _=>True) (fun i=>[(54,.d (.v (.int .i64 i))),(53,.d (.v (.int .i64 s.faces.length))),(52,.d (.sl 2 (s.faces.map cl))),(11,.ptr 9 0),(42,.d (.v (.int .i64 j))),(41,.d (.v (.int .i64 v.subs.length))),(40,.d (.sl 4 (v.subs.map aU))),(8,.ptr 6 0),(29,.d (.v (.int .i64 k))),(28,.d (.v (.int .i64 n.vpcs.length))),(27,.d (.sl 3 (n.vpcs.map al))),(5,.ptr 2 0)])
    (fun i=>[.gone,.row 76 2 1 (ab (n.links.map bJ)),.box 28 [.own 3 k,.own 1 1],.row 55 3 k (ab ((n.vpcs.take k).map al)),.gone,.row 58 3 1 (ab (v.ranges.map bv)),.box 55 [.d (.v (.int .i64 v.id)),.own 5 1,.own 7 j],.row 71 4 j (ab ((v.subs.take j).map aU)),.gone,.box 71 [.d (.v (.int .i64 s.id)),.d (.v (.int .i64 s.at_.at_)),.d (.v (.int .i64 s.at_.len)),.own 10 i],.row 74 2 i (ab ((s.faces.take i).map cl))]) trivial ?_ ?_ ?_
   ·refine(aL 8 (by simp)).trans ((au (by simp) 9 71 [.d (.v (.int .i64 s.id)),.d (.v (.int .i64 s.at_.at_)),.d (.v (.int .i64 s.at_.len)),.d (.v (.slice none 0 0))] 3 74 2 rfl rfl rfl).trans ?_);exact wf (hb:=cI) (hbh:=cI)
   ·intro i f hf hi _ C hC;have MS:(i:Int) < (s.faces.length:Int):=by omega
    have ux:=wi i (by omega);have gS:=iH.2 f (Xl hf);have jd:i+1≤100:=by omega
    have Ve:(Yf i s.faces).length=i:=by rw[Xp];omega
    replace hf:=Xj hf;have zj:=hf.out;have z1z:=Ln.mk (ls:=[]) (fj f.addrs (by omega));refine am ?_<;>intros;refine hC _ _ trivial ((ap 12 1 3 1 (f.addrs.map cD) rfl).trans ?_);simp only[iu,fz,gr,f7,gV,f5,aR,bR,bW,Xm,Xu,XM,XL,reduceIte,and_true,true_and,and_self,and_false,false_and,XG,XW,reduceCtorEq];exact wf (hh:=(by rw[ag hf.out,Xo,Xm,Xu,←aI];rfl)) (hb:=cI) (hbh:=cI)
   ·intro _ C;refine am ?_<;>intros;refine sX _ _ trivial ((ap 10 s.faces.length 74 2 (s.faces.map cl) rfl).trans ?_);simp only[iu,fz,gr,f7,gV,f5,aR,bR,bW,Xm,Xu,XM,XL,reduceIte,and_true,true_and,and_self,and_false,false_and,XG,XW,reduceCtorEq];exact wf (hh:=(by rw[ag hs.out,Xo,Xm,Xu,←aI];rfl)) (hb:=cI) (hbh:=cI)
  ·intro _ C;refine am ?_<;>intros;refine hCN _ _ trivial ((ap 7 v.subs.length 71 4 (v.subs.map aU) rfl).trans ?_);simp only[iu,fz,gr,f7,gV,f5,aR,bR,bW,Xm,Xu,XM,XL,reduceIte,and_true,true_and,and_self,and_false,false_and,XG,XW,reduceCtorEq];refine(ap 5 1 58 3 (v.ranges.map bv) rfl).trans ?_;simp only[iu,fz,gr,f7,gV,f5,aR,bR,bW,Xm,Xu,XM,XL,reduceIte,and_true,true_and,and_self,and_false,false_and,XG,XW,reduceCtorEq];exact wf (hh:=(by rw[ag hv.out,Xo,Xm,Xu,←aI];rfl)) (hb:=cI) (hbh:=cI)
 ·intro _ C;refine am ?_<;>intros;exact bo rfl rfl
theorem Qq (s:Ste)(hb:BookOK s.book)(hn:NetOK s.net):
 MSpec prog 26 [.d (.agg (eW s))] [] (.agg [.d (.v (.int .i64 s.book.tick)),.d (.sl 9 (s.book.pools.map ah)),.own 5 s.net.vpcs.length,.d (.sl 2 (s.net.links.map bJ))]) [.gone,.gone,.gone,.gone,.gone,.row 55 3 s.net.vpcs.length (ab (s.net.vpcs.map al))]:=by
 have n8:=hb.n8;have nG:=Xj hb.l32;have n6:=hn.n6;have RS:=Xj hn.vp;have z1:=Ln.mk (ls:=[]) (vZ bJ s.net.links (by have:=hn.n12;omega));clear hb hn;refine mj func26 ntmps26 results26 ?_;refine am ?_;refine bg ae ak s.book.pools (fun _=>True) (fun k=>[(28,.d (.v (.int .i64 k))),(27,.d (.v (.int .i64 s.book.pools.length))),(26,.d (.sl 9 (s.book.pools.map ah))),(3,.ptr 3 0),(2,.ptr 1 0),(1,.ptr 0 0)])
  (fun k=>[.box 30 ((eW s).map .d),.box 30 [.d (.v (.int .i64 0)),.d (.v (.slice none 0 0)),.d (.v (.slice none 0 0)),.d (.v (.slice none 0 0))],.row 76 2 1 (ab (s.net.links.map bJ)),.box 30 [.d (.v (.int .i64 s.book.tick)),.own 4 k,.d (.v (.slice none 0 0)),.own 2 1],.row 62 9 k (ab ((s.book.pools.take k).map ah))]) trivial ?_ ?_ ?_
 ·refine(au (by simp) 3 30 [.d (.v (.int .i64 s.book.tick)),.d (.v (.slice none 0 0)),.d (.v (.slice none 0 0)),.own 2 1] 1 62 9 rfl rfl rfl).trans ?_;exact wf
 ·intro k p hp hk _ C hC;have dH:(k:Int) < (s.book.pools.length:Int):=by omega
  have cM:=wi k (by omega);have iG:=nG.out p (Xl hp);have i7:k+1≤100:=by omega
  have hlt:(Yf k s.book.pools).length=k:=by rw[Xp];omega
  have z2:=Ln.mk (ls:=[]) (iz aV p.leases (by omega));refine am ?_;refine hC _ _ trivial ((ap 6 1 68 5 (p.leases.map aV) rfl).trans ?_);simp only[iu,fz,gr,f7,gV,f5,aR,bR,bW,Xm,Xu,XM,XL,reduceIte,and_true,true_and,and_self,and_false,false_and,XG,XW,reduceCtorEq];exact wf (hh:=by rw[ag hp,Xo,Xm,Xu,←aI];rfl)
 ·intro _ C;rw[Xt];refine am ?_;refine bg ae ak s.net.vpcs (fun _=>True) (fun k=>[(49,.d (.v (.int .i64 k))),(48,.d (.v (.int .i64 s.net.vpcs.length))),(47,.d (.sl 3 (s.net.vpcs.map al))),(3,.ptr 3 0),(2,.ptr 1 0),(1,.ptr 0 0)])
   (fun k=>[.gone,.box 30 [.d (.v (.int .i64 0)),.d (.v (.slice none 0 0)),.d (.v (.slice none 0 0)),.d (.v (.slice none 0 0))],.gone,.box 30 [.d (.v (.int .i64 s.book.tick)),.d (.sl 9 (s.book.pools.map ah)),.own 5 k,.d (.sl 2 (s.net.links.map bJ))],.gone,.row 55 3 k (ab ((s.net.vpcs.take k).map al))]) trivial ?_ ?_ ?_
  ·refine(ap 4 s.book.pools.length 62 9 (s.book.pools.map ah) rfl).trans ?_;simp only[iu,fz,gr,f7,gV,f5,aR,bR,bW,Xm,Xu,XM,XL,reduceIte,and_true,true_and,and_self,and_false,false_and,XG,XW,reduceCtorEq];refine(ap 2 1 76 2 (s.net.links.map bJ) rfl).trans ?_;simp only[iu,fz,gr,f7,gV,f5,aR,bR,bW,Xm,Xu,XM,XL,reduceIte,and_true,true_and,and_self,and_false,false_and,XG,XW,reduceCtorEq];refine(au (by simp) 3 30 [.d (.v (.int .i64 s.book.tick)),.d (.sl 9 (s.book.pools.map ah)),.d (.v (.slice none 0 0)),.d (.sl 2 (s.net.links.map bJ))] 2 55 3 rfl rfl rfl).trans ?_;refine ew.trans (aL 0 (by simp[bw])) ?_;exact wf
  ·intro k v hv hk _ C hC;have dH:(k:Int) < (s.net.vpcs.length:Int):=by omega
   have cM:=wi k (by omega);have xG:k+1≤100:=by omega
   have Ws:(Yf k s.net.vpcs).length=k:=by rw[Xp];omega
   have pp:=aY (RS.out v (Xl hv));have h6:=pp.n6;have h8:=Xj pp.n8;have z3:=Ln.mk (ls:=[]) (jQ bv v.ranges (by have:=pp.n4;omega));clear pp;refine am ?_;refine bg ae ak v.subs (fun _=>True) (fun j=>[(62,.d (.v (.int .i64 j))),(61,.d (.v (.int .i64 v.subs.length))),(60,.d (.sl 4 (v.subs.map aU))),(8,.ptr 8 0),(49,.d (.v (.int .i64 k))),(48,.d (.v (.int .i64 s.net.vpcs.length))),(47,.d (.sl 3 (s.net.vpcs.map al))),(3,.ptr 3 0),(2,.ptr 1 0),(1,.ptr 0 0)])
    (fun j=>[.gone,.box 30 [.d (.v (.int .i64 0)),.d (.v (.slice none 0 0)),.d (.v (.slice none 0 0)),.d (.v (.slice none 0 0))],.gone,.box 30 [.d (.v (.int .i64 s.book.tick)),.d (.sl 9 (s.book.pools.map ah)),.own 5 k,.d (.sl 2 (s.net.links.map bJ))],.gone,.row 55 3 k (ab ((s.net.vpcs.take k).map al)),.gone,.row 58 3 1 (ab (v.ranges.map bv)),.box 55 [.d (.v (.int .i64 v.id)),.own 7 1,.own 9 j],.row 71 4 j (ab ((v.subs.take j).map aU))]) trivial ?_ ?_ ?_
   ·refine(aL 6 (by simp)).trans ((au (by simp) 8 55 [.d (.v (.int .i64 v.id)),.own 7 1,.d (.v (.slice none 0 0))] 2 71 4 rfl rfl rfl).trans ?_);exact wf
   ·intro j u hu hj _ C2 jz;have ic:(j:Int) < (v.subs.length:Int):=by omega
    have j6:=wi j (by omega);have iH:=h8.out u (Xl hu);have i7:j+1≤100:=by omega
    have i4:(Yf j v.subs).length=j:=by rw[Xp];omega
    have w7:=Xj hu;have SP:=Xj hv;clear hv;refine am ?_;refine bg ae ak u.faces (fun _=>True) (fun i=>(74,.d (.v (.int .i64 i)))::(73,.d (.v (.int .i64 u.faces.length)))::(72,.d (.sl 2 (u.faces.map cl)))::(11,.ptr 11 0)::[(62,.d (.v (.int .i64 j))),(61,.d (.v (.int .i64 v.subs.length))),(60,.d (.sl 4 (v.subs.map aU))),(8,.ptr 8 0),(49,.d (.v (.int .i64 k))),(48,.d (.v (.int .i64 s.net.vpcs.length))),(47,.d (.sl 3 (s.net.vpcs.map al))),(3,.ptr 3 0),(2,.ptr 1 0),(1,.ptr 0 0)])
     (fun i=>[.gone,.box 30 [.d (.v (.int .i64 0)),.d (.v (.slice none 0 0)),.d (.v (.slice none 0 0)),.d (.v (.slice none 0 0))],.gone,.box 30 [.d (.v (.int .i64 s.book.tick)),.d (.sl 9 (s.book.pools.map ah)),.own 5 k,.d (.sl 2 (s.net.links.map bJ))],.gone,.row 55 3 k (ab ((s.net.vpcs.take k).map al)),.gone,.row 58 3 1 (ab (v.ranges.map bv)),.box 55 [.d (.v (.int .i64 v.id)),.own 7 1,.own 9 j],.row 71 4 j (ab ((v.subs.take j).map aU)),.gone,.box 71 [.d (.v (.int .i64 u.id)),.d (.v (.int .i64 u.at_.at_)),.d (.v (.int .i64 u.at_.len)),.own 12 i],.row 74 2 i (ab ((u.faces.take i).map cl))]) trivial ?_ ?_ ?_
    ·refine(aL 10 (by simp)).trans ((au (by simp) 11 71 [.d (.v (.int .i64 u.id)),.d (.v (.int .i64 u.at_.at_)),.d (.v (.int .i64 u.at_.len)),.d (.v (.slice none 0 0))] 3 74 2 rfl rfl rfl).trans ?_);exact wf
    ·intro i f hf hi _ C3 PE;have MS:(i:Int) < (u.faces.length:Int):=by omega
     have ux:=wi i (by omega);have gS:=iH.2 f (Xl hf);have jd:i+1≤100:=by omega
     have Ve:(Yf i u.faces).length=i:=by rw[Xp];omega
     have z4:=Ln.mk (ls:=[]) (fj f.addrs (by omega));refine am ?_;refine PE _ _ trivial ((ap 14 1 3 1 (f.addrs.map cD) rfl).trans ?_);simp only[iu,fz,gr,f7,gV,f5,aR,bR,bW,Xm,Xu,XM,XL,reduceIte,and_true,true_and,and_self,and_false,false_and,XG,XW,reduceCtorEq];exact wf (hh:=by rw[ag hf,Xo,Xm,Xu,←aI];rfl)
    ·intro _ C3;rw[Xt];refine am ?_;refine jz _ _ trivial ((ap 12 u.faces.length 74 2 (u.faces.map cl) rfl).trans ?_);simp only[iu,fz,gr,f7,gV,f5,aR,bR,bW,Xm,Xu,XM,XL,reduceIte,and_true,true_and,and_self,and_false,false_and,XG,XW,reduceCtorEq];exact wf (hh:=by rw[ag w7.out,Xo,Xm,Xu,←aI];rfl)
   ·intro _ C2;rw[Xt];refine am ?_;refine hC _ _ trivial ((ap 9 v.subs.length 71 4 (v.subs.map aU) rfl).trans ?_);simp only[iu,fz,gr,f7,gV,f5,aR,bR,bW,Xm,Xu,XM,XL,reduceIte,and_true,true_and,and_self,and_false,false_and,XG,XW,reduceCtorEq];refine(ap 7 1 58 3 (v.ranges.map bv) rfl).trans ?_;simp only[iu,fz,gr,f7,gV,f5,aR,bR,bW,Xm,Xu,XM,XL,reduceIte,and_true,true_and,and_self,and_false,false_and,XG,XW,reduceCtorEq];exact wf (hh:=by rw[ag hv,Xo,Xm,Xu,←aI];rfl)
  ·intro _ C;rw[Xt];refine am ?_;refine ew.trans (aL 1 (by simp[bw])) ?_;refine ew.trans (aL 3 (by simp[bw])) ?_;exact wf
def Net.zero:Net:=⟨[],[]⟩
theorem qa {l:List Vpc}{id:Int}{o:Option Vpc}(h:l.find? (fun v=>v.id==id)=o):match o with|some v=>∃i,l.findIdx? (fun v=>v.id==id)=some i∧l[i]? =some v∧v.id=id|none=>l.findIdx? (fun v=>v.id==id)=none:=by
 cases o with
 |none=>
  rw[Yq]at h;exact Yn.2 fun v hv=>by simpa using h v hv
 |some v=>
  obtain⟨h1,i,hi,h2,h3⟩:=List.find?_eq_some_iff_getElem.1 h;refine⟨i,?_,by rw[Xk hi,h2],by simpa using h1⟩;rw[XH];exact⟨hi,by rw[h2];exact h1,fun j hj=>by simpa using h3 j hj⟩
def eO (n:Net)(id:Int):Option Nat:=n.vpcs.findIdx? fun v=>v.id==id
theorem ei {n:Net}{id:Int}{i:Nat}(h:eO n id=some i):∃v,n.vpcs[i]? =some v∧v.id=id∧i < n.vpcs.length∧fL n id=some v:=by
 cases hf:fL n id with
 |none=>have:=qa hf;unfold eO at h;rw[h]at this;cases this
 |some v=>
  obtain⟨j,h1,h2,h3⟩:=qa hf;unfold eO at h;rw[h]at h1;cases h1;exact⟨v,h2,h3,(Xn.1 h2).1,rfl⟩
theorem dY {n:Net}{id:Int}(h:eO n id=none):fL n id=none:=by
 cases hf:fL n id with
 |none=>rfl
 |some v=>
  obtain⟨j,h1,-⟩:=qa hf;unfold eO at h;rw[h]at h1;cases h1
theorem Qr {α:Type}{key:α→Int}{l:List α}{i:Nat}{q:α}(hs:l.Pairwise fun a b=>key a < key b)(hq:l[i]? =some q):i8 key (key q) l=i∧qN key (key q) l=true:=by
 obtain⟨hi,rfl⟩:=Xn.1 hq;have h1:i8 key (key l[i]) l=i:=pT (p' hi) (fun k hk Md=>XF.1 hs k i hk hi Md) (fun k hk Md=>by
  rcases XP i k with h|h
  ·have:=XF.1 hs i k hi hk h;omega
  ·obtain rfl:k=i:=by omega
   exact ZG _)
 refine⟨h1,?_⟩;unfold qN;rw[h1,hq];simp
theorem rm (n:Net)(id:Int)(gv gl i:Nat)(v:Vpc)(hv:n.vpcs[i]? =some v)(he:v.id=id)(h6:n.vpcs.length≤6)(hs:n.vpcs.Pairwise fun a b=>a.id < b.id):
 MSpec prog 45 [.ptr 0 0,.d (.v (.int .i64 id))] [.box 28 [.own 1 gv,.own 2 gl],.row 55 3 gv (ab (n.vpcs.map al)),.row 76 2 gl (ab (n.links.map bJ))] (.tup [.rp 1 gv 3 i 0,.d (.v (.bool true))])
  [.box 28 [.own 1 gv,.own 2 gl],.row 55 3 gv (ab (n.vpcs.map al)),.row 76 2 gl (ab (n.links.map bJ))]:=by
 have hb:=rc iK (fun v:Vpc=>v.id) n.vpcs id 112 [] (by omega) hs (fun v _=>un v id);subst he;obtain⟨e1,e2⟩:=Qr (key:=fun v:Vpc=>v.id) hs hv;rw[e1,e2]at hb;have hi:=(Xn.1 hv).1;have MS:(0:Int)≤(i:Int):=by omega
 clear hs e1 e2;replace hv:=Xj hv;refine mj func45 ntmps45 results45 ?_;refine am ?_<;>intros;exact bo rfl rfl
theorem oy (n:Net)(id:Int)(gv gl:Nat)(hf:fL n id=none)(h6:n.vpcs.length≤6)(hs:n.vpcs.Pairwise fun a b=>a.id < b.id):
 MSpec prog 45 [.ptr 0 0,.d (.v (.int .i64 id))] [.box 28 [.own 1 gv,.own 2 gl],.row 55 3 gv (ab (n.vpcs.map al)),.row 76 2 gl (ab (n.links.map bJ))] (.d (.tup [.v (.pointer none),.v (.bool false)]))
  [.box 28 [.own 1 gv,.own 2 gl],.row 55 3 gv (ab (n.vpcs.map al)),.row 76 2 gl (ab (n.links.map bJ))]:=by
 have hb:=rc iK (fun v:Vpc=>v.id) n.vpcs id 112 [] (by omega) hs (fun v _=>un v id);have e2:qN (fun v:Vpc=>v.id) id n.vpcs=false:=by
  cases hB:qN (fun v:Vpc=>v.id) id n.vpcs with
  |false=>rfl
  |true=>
   unfold qN at hB;cases hq:n.vpcs[i8 (fun v:Vpc=>v.id) id n.vpcs]? with
   |none=>rw[hq]at hB;cases hB
   |some v=>
    have:=Ki hs hq (by rw[hq]at hB;simpa using hB);unfold fL at hf;rw[hf]at this;cases this
 rw[e2]at hb;clear hs e2 hf;refine mj func45 ntmps45 results45 ?_;refine am ?_<;>intros;exact bo rfl rfl
theorem KZ (id:Int):af prog 45 [.ept [.v (.slice none 0 0),.v (.slice none 0 0)],.v (.int .i64 id)] (.tup [.v (.pointer none),.v (.bool false)]):=by
 have hb:=(rc iK (fun v:Vpc=>v.id) [] id 112 [] (by simp) (by simp) (fun v _=>un v id)).args (ds:=[.v (.slice none 0 0),.v (.int .i64 id),.clo 112 []]) ⟨ai.nil _,ai.refl _,ai.refl _,trivial⟩;have e:qN (fun v:Vpc=>v.id) id []=false:=rfl;rw[e]at hb;refine pj func45 ntmps45 results45 ?_;exact aZ
def oz (n:Net)(id:Int):List Int:=(n.vpcs.filter fun v=>aW n v.id==aW n id).map (·.id)
theorem v4 (x y:Lnk):([x.a,x.b]==[y.a,y.b])=decide (x=y):=by
 rw[Yi];cases x;cases y;simp
theorem v5 (l:List Lnk)(x:Lnk)(hl:l.length≤1000000000):
 af prog 138 [.sl 2 (l.map bJ),.agg (bJ x)] (.v (.int .i64 (cv (fun y=>decide (x=y)) l))):=by
 refine pj func138 ntmps138 results138 ?_;refine am ?_<;>intros;refine bL ae ak (fun m e h=>∃k:Nat,k≤l.length∧(∀y∈l.take k,decide (x=y)=false)∧m=l.length - k∧e=[(8,.d (.v (.int .i64 k))),(7,.d (.v (.int .i64 l.length))),(4,.d (.v (.int .i64 0))),(3,.ptr 0 0),(0,.d (.sl 2 (l.map bJ)))]∧h=[.box 76 ((bJ x).map .d)]) _ _ _ ⟨0,XD _,by simp,rfl,rfl,rfl⟩ (wf) ?_;rintro m e h ⟨k,hk,cf,rfl,rfl,rfl⟩ CL mJ;by_cases hlt:k < l.length
 ·obtain⟨y,hy⟩:∃y,l[k]? =some y:=⟨_,Xk hlt⟩;have en:(k:Int) < (l.length:Int):=by omega
  have cM:=wi k (by omega);have he:=v4 x y;cases hp:decide (x=y)with
  |false=>
   rw[hp]at he;have AK:∀z∈l.take (k+1),decide (x=z)=false:=fun z hz=>by
    rw[ag hy]at hz;rcases X2.1 hz with hz|hz
    ·exact cf z hz
    ·rw[Yc]at hz;rw[hz];exact hp
   replace AK:=Xj AK;replace cf:=Xj cf;replace hp:=Xj hp;refine am ?_<;>intros;refine mJ _ _ _ _ _ ?_ ⟨k+1,hlt,AK.out,rfl,rfl,rfl⟩ (wf);omega
  |true=>
   rw[hp]at he;have ld:cv (fun y=>decide (x=y)) l=k:=fV hy hp cf;rw[ld];replace ld:=Xj ld;replace cf:=Xj cf;replace hp:=Xj hp;exact aZ;all_goals exact ai.refl _
 ·obtain rfl:k=l.length:=by omega
  rw[Xt]at cf;rw[fW cf];replace cf:=Xj cf;exact aZ;all_goals exact ai.refl _
theorem xA (l:List Lnk)(x:Lnk)(hl:l.length≤1000000000):
 af prog 135 [.sl 2 (l.map bJ),.agg (bJ x)] (.v (.bool (l.any fun y=>decide (x=y)))):=by
 have hi:=v5 l x hl;have im:=fK (fun y=>decide (x=y)) l;refine pj func135 ntmps135 results135 ?_;exact aZ;all_goals exact ai.refl _
theorem Cl {α:Type}{enc:α→List D}(l:List α)(i j g:Nat)(hi:i < l.length)(hj:j=i+1):
 MSpec prog 139 [.own 0 g,.d (.v (.int .i64 i)),.d (.v (.int .i64 j))] [.row 76 2 g (ab (l.map enc))] (.own 0 (g+1)) [.row 76 2 (g+1) (ab ((l.eraseIdx i).map enc))]:=by
 have h1:((i:Int)==(j:Int))=false:=by simp;omega
 have bB:¬ab (l.map enc)=[]:=by cases l<;>simp[ab]at hi ⊢
 have hle:(i:Int)≤(j:Int):=by omega
 have hle2:(j:Int)≤(l.length:Int):=by omega
 have lR:(l.map enc).length=l.length:=XC _;have h2:=lA (ab (l.map enc)) i j l.length (by rw[aF,lR];exact hi) hj (by rw[aF,lR]);rw[aF,lR]at h2;have rN:=Xj hj;clear hj;have I4:j≤l.length:=by have:=rN.out;omega
 have DC:min (l.length - j) (l.length - j)=l.length - j:=Zq _;have hlt:i+(l.length - j)≤l.length:=by have:=rN.out;omega
 have pc:l.length - (i+(l.length - j))=1:=by have:=rN.out;omega
 have iV:i+(l.length - j)+1≤l.length:=by have:=rN.out;omega
 have ue:¬ay (ab (l.map enc)) i (((ab (l.map enc)).drop j).take (l.length - j))=[]:=by
  intro h;rw[h]at h2;simp at h2;omega
 refine mj func139 ntmps139 results139 ?_;repeat' (first|(with_reducible refine And.intro ?_ ?_)|(with_reducible refine cm (fun _=>?_) (fun _=>?_))|(with_reducible refine aA (fun _=>?_) (fun _=>?_))|(with_reducible refine be (by kernel_rfl))|simp -dsimp only[go_sem,seval, *,h1,bB,Yo,Xp,XI]|((with_reducible refine bf ?_);simp -dsimp only[go_sem,seval,h1,bB,Yo,Xp,XI];first|refine aC (by first|assumption|fail) (by first|exact .inl rfl|exact .inr rfl) ?_|refine aB (by assumption) (by repeat(first|exact ai.refl _|exact ai.nil _|(refine ai.tup ?_)|(refine ai.agg ?_ rfl)|exact trivial|(refine And.intro ?_ ?_))) (by first|exact .inl rfl|exact .inr rfl) ?_)|omega|exact decide_eq_true (by omega)|exact ai.refl _)
 rw[fU];exact n7 (by rw[lR];exact hi) rN.out lR.symm
theorem K0 (a b:Int):af prog 136 [.v (.int .i64 a),.v (.int .i64 b)] (.agg (bJ (fC a b))):=by
 refine pj func136 ntmps136 results136 ?_;exact aZ;all_goals exact ai.refl _
def gP (n:Net)(id:Int)(r:Rng):Net × Int:=
 if cK n≠0 then (Net.zero,cK n)else
 match eO n id with
 |none=>(Net.zero,5)
 |some i=>match n.vpcs[i]? with
  |none=>(Net.zero,5)
  |some v=>if (cH v r).2≠0 then (Net.zero,(cH v r).2)else if ez {n with vpcs:=n.vpcs.set i (cH v r).1}=true then ({n with vpcs:=n.vpcs.set i (cH v r).1},0)else (Net.zero,9)
theorem Cm {v:Vpc}{r:Rng}(h:(cH v r).2=0):(cH v r).1.id=v.id∧(cH v r).1.ranges.length≤5:=by
 unfold cH at h ⊢;split
 ·rename_i h1;rw[if_pos h1]at h;exact absurd h h1
 ·rename_i h1;rw[if_neg h1]at h;have hk:=aY (by simpa using h1);split
  ·rename_i h2;rw[if_pos h2]at h;exact absurd h h2
  ·refine⟨rfl,?_⟩;simp only;rw[fe];have:=hk.n4;omega
theorem N9 (n:Net)(id:Int)(r:Rng):af prog 68 [.agg (aK n),.v (.int .i64 id),.agg (bv r)] (.tup [.agg (aK (gP n id r).1),.v (.int .i64 (gP n id r).2)]):=by
 obtain⟨R,hR⟩:∃R,R=gP n id r:=⟨_,rfl⟩;rw[←hR];replace hR:=Xj hR;by_cases hc:cK n=0
 ·have bF:=gO.1 hc;have cQ:=rl n hc;cases hx:eO n id with
  |none=>
   have gN:=oy n id n.vpcs.length 1 (dY hx) bF.n6 bF.rise;have hr:R=(Net.zero,5):=by rw[hR.out];unfold gP;rw[if_neg (by simpa using hc),hx]
   rw[hr];clear hr hR bF hx hc;refine pj func68 ntmps68 results68 ?_;have z1z:=Ln.mk (ls:=[]) (cQ);have z2z:=Ln.mk (ls:=[5,6,4]) (gN);refine am ?_<;>intros;all_goals exact dg
  |some i=>
   obtain⟨v,hv,he,hi,sY⟩:=ei hx;have gN:=rm n id n.vpcs.length 1 i v hv he bF.n6 bF.rise;have TS:=N6 v r;replace he:=Xj he;have MS:(0:Int)≤(i:Int):=by omega
   by_cases hg:(cH v r).2=0
   ·have MM:=Cm hg;have Dw:=zV {n with vpcs:=n.vpcs.set i (cH v r).1} (by have:=bF.n6;simp;omega) (by have:=bF.n12;simp;omega) (fun u hu=>by
     rcases Y4 hu with hu|rfl
     ·have:=(aY (bF.vp u hu)).n4;omega
     ·have:=MM.2;omega) (by
     have e:(n.vpcs.set i (cH v r).1).map (·.id)=n.vpcs.map (·.id):=by
      rw[List.map_set,MM.1];apply Yj;intro j;rw[Z3];split
      ·rename_i hj;subst hj;rw[XC,if_pos hi,Xz,hv];rfl
      ·rfl
     simp only[e];exact bF.ids)
    have aP:R=if ez {n with vpcs:=n.vpcs.set i (cH v r).1}=true then ({n with vpcs:=n.vpcs.set i (cH v r).1},0)else (Net.zero,9):=by
     rw[hR.out];unfold gP;rw[if_neg (by simpa using hc),hx];simp only[hv];rw[if_neg (by simpa using hg)]
    rw[hg]at TS;clear hR bF hx hc MM hg sY;generalize (cH v r).1=w at*;have bY:(ab (n.vpcs.map al)).set i [.d (.v (.int .i64 w.id)),.d (.sl 3 (w.ranges.map bv)),.d (.sl 4 (w.subs.map aU))]=ab ((n.vpcs.set i w).map al):=bO al n.vpcs i w;cases hp:ez {n with vpcs:=n.vpcs.set i w} with
    |true=>
     rw[hp]at Dw aP;have hr:R=({n with vpcs:=n.vpcs.set i w},0):=by rw[aP];rfl
     rw[hr];clear hr aP hp;refine pj func68 ntmps68 results68 ?_;have z1z:=Ln.mk (ls:=[]) (cQ);have z2z:=Ln.mk (ls:=[5,6,4]) (gN);exact aZ;all_goals exact dg
    |false=>
     rw[hp]at Dw aP;have hr:R=(Net.zero,9):=by rw[aP];rfl
     rw[hr];clear hr aP hp;refine pj func68 ntmps68 results68 ?_;have z1z:=Ln.mk (ls:=[]) (cQ);have z2z:=Ln.mk (ls:=[5,6,4]) (gN);refine am ?_<;>intros;all_goals exact dg
   ·have hr:R=(Net.zero,(cH v r).2):=by
     rw[hR.out];unfold gP;rw[if_neg (by simpa using hc),hx];simp only[hv];rw[if_pos hg]
    have O4:((cH v r).2 !=0)=true:=by simpa using hg
    rw[hr];clear hr hR bF hx hc hg sY;generalize (cH v r).1=w at*;generalize (cH v r).2=E at*;refine pj func68 ntmps68 results68 ?_;have z1z:=Ln.mk (ls:=[]) (cQ);have z2z:=Ln.mk (ls:=[5,6,4]) (gN);refine am ?_<;>intros;all_goals exact dg
 ·have cQ:=oZ n hc;have h1:(cK n !=0)=true:=by simpa using hc
  have hr:R=(Net.zero,cK n):=by rw[hR.out];unfold gP;rw[if_pos hc]
  rw[hr];replace hr:=Xj hr;refine pj func68 ntmps68 results68 ?_;have z1z:=Ln.mk (ls:=[]) (cQ);refine am ?_<;>intros;all_goals exact dg
def iC (n:Net)(a b:Int):Net × Int:=
 if cK n≠0 then (Net.zero,cK n)else
 match n.links.findIdx? (fun l=>decide (fC a b=l))with
 |none=>(Net.zero,5)
 |some i=>({n with links:=n.links.eraseIdx i},0)
theorem Oa (n:Net)(a b:Int):af prog 66 [.agg (aK n),.v (.int .i64 a),.v (.int .i64 b)] (.tup [.agg (aK (iC n a b).1),.v (.int .i64 (iC n a b).2)]):=by
 obtain⟨R,hR⟩:∃R,R=iC n a b:=⟨_,rfl⟩;rw[←hR];replace hR:=Xj hR;by_cases hc:cK n=0
 ·have bF:=gO.1 hc;have cQ:=rl n hc;have i4:=K0 a b;have nJ:=v5 n.links (fC a b) (by have:=bF.n12;omega);unfold cv at nJ;cases hf:n.links.findIdx? (fun l=>decide (fC a b=l))with
  |none=>
   rw[hf]at nJ;have hr:R=(Net.zero,5):=by rw[hR.out];unfold iC;rw[if_neg (by simpa using hc),hf]
   rw[hr];clear hr hR hf hc bF;generalize fC a b=LK at*;refine pj func66 ntmps66 results66 ?_;have z1z:=Ln.mk (ls:=[]) (cQ);refine am ?_<;>intros;all_goals exact dg
  |some i=>
   rw[hf]at nJ;have hi:i < n.links.length:=(XH.1 hf).1;have jU:decide ((i:Int) < 0)=false:=by simp
   have hd:=Cl (enc:=bJ) n.links i (i+1) 1 hi rfl;have cM:IntKind.i64.wrap ((i:Int)+1)=((i+1:Nat):Int):=by rw[IntKind.wrap_i64];have:=bF.n12;omega
   have hr:R=({n with links:=n.links.eraseIdx i},0):=by rw[hR.out];unfold iC;rw[if_neg (by simpa using hc),hf]
   rw[hr];clear hr hR hf hc bF;generalize fC a b=LK at*;refine pj func66 ntmps66 results66 ?_;have z1z:=Ln.mk (ls:=[]) (cQ);have z2z:=Ln.mk (ls:=[3]) (hd);exact aZ;all_goals exact dg
 ·have cQ:=oZ n hc;have h1:(cK n !=0)=true:=by simpa using hc
  have hr:R=(Net.zero,cK n):=by rw[hR.out];unfold iC;rw[if_pos hc]
  rw[hr];replace hr:=Xj hr;refine pj func66 ntmps66 results66 ?_;have z1z:=Ln.mk (ls:=[]) (cQ);refine am ?_<;>intros;all_goals exact dg
section
open Go.Proofs Go.Shelf
theorem Qs (x y:SRow KU 3)(W:World):Calls prog 134 #[.agg x.xs.toArray,.agg y.xs.toArray] W fun e w'=>e= .returned (.int .i64 (DH x y))∧∃q os',w'=Sort.grow (W.drewN q) os':=by
 obtain⟨xs,xl,x1,a,xh⟩:=x;obtain⟨ys,yl,y1,b,yh⟩:=y;match xs,xl,ys,yl with
 |[u0,u1,u2],_,[v0,v1,v2],_=>
  simp[KU]at xh yh;subst xh;subst yh;have hc:=iB a b;unfold DH;simp only;generalize ep a b=r at*;replace hc:=Xj hc;clear x1 y1;go_enter func134,ntmps134
  go_wp2_with fail
  refine(hc.out _).mono ?_;rintro e w1 ⟨rfl,rfl⟩;go_wp2_with fail
  go_ret
  exact⟨ce rfl,0,_,by rw[Sort.alloc_eq_grow,Sort.alloc_eq_grow,Sort.grow_grow];rfl⟩
theorem K4 {l l':List Vpc}(g:Nat)(pG:l≠[])(hp:l'.Perm l)(hs:l'.Pairwise fun x y=>(fun v:Vpc=>v.id) x < (fun v:Vpc=>v.id) y)(cP:l.length≤1000000):
 MSpec prog 133 [.own 0 g,.d (.clo 134 [])] [.row 55 3 g (ab (l.map al))] (.d (.tup [])) [.row 55 3 g (ab (l'.map al))]:=
 ur sortVpc rfl (cW func133 (by kernel_rfl) rfl) isAgg55 sizeOf55 (enters_of func134 (by kernel_rfl) rfl) Qs al (fun v:Vpc=>v.id) (fun _=>rfl) pG hp hs cP
end
structure GwB where
 n:Nat
 os:Array Obj
def EG (w w':World):Prop:=∃p:GwB,w'=Sort.grow (w.drewN p.n) p.os
theorem EG.refl (w:World):EG w w:=⟨⟨0,#[]⟩,by rw[Sort.grow_empty];rfl⟩
theorem EG.trans {w w' w'':World}(h:EG w w')(g:EG w' w''):EG w w'':=by
 obtain⟨⟨n,os⟩,rfl⟩:=h;obtain⟨⟨m,os'⟩,rfl⟩:=g;exact⟨⟨n+m,os++os'⟩,by show Sort.grow (Sort.grow ((w.drewN n).drewN m) os) os'=_;rw[Sort.grow_grow,World.drewN_drewN]⟩
theorem EG.drew (w:World):EG w w.drew:=⟨⟨1,#[]⟩,by rw[Sort.grow_empty];rfl⟩
theorem EG.alloc (w:World)(o:Obj):EG w (w.alloc o):=⟨⟨0,#[o]⟩,Sort.alloc_eq_grow w o⟩
theorem EG.ext {w w':World}(h:EG w w'):dw w w':=by
 obtain⟨⟨n,os⟩,rfl⟩:=h;exact⟨rfl,rfl,rfl,by simp[Sort.grow],fun k hk=>by simp[Sort.grow,Array.getElem?_append,hk]⟩
def K5 (W:World)(R:Value→Prop)(e:Ending)(w':World):Prop:=(∃u,e= .returned u∧R u)∧EG W w'
def Ob (P:Program)(W w:World)(R:Value→Prop):Result Next→Prop
 | .ok (.value u) w'=>w'=w∧R u
 | .ok .skip w'=>w'=w∧R undef
 | .ok (.enter f args) w'=>w'=w∧Calls P f args w (K5 W R)
 |_=>False
attribute [go_sem] Ob
section
variable {P:Program}{W:World}
theorem EF {w:World}{v:Value}{r:Result Next}(h:∀R:Value→Prop,R v→Ob P W w R r):Oper.quietUpon P (EG W) w v r:=by
 have h1:=h (·=v) rfl;unfold Ob at h1;unfold Oper.quietUpon;split at h1
 ·exact h1
 ·exact⟨h1.1,h1.2.symm⟩
 ·refine⟨h1.1,h1.2.mono ?_⟩;rintro e w' ⟨⟨u,rfl,rfl⟩,hw⟩;exact⟨rfl,hw⟩
 ·exact h1.elim
end
section
variable {P:Program}{ops:Array Oper}{Q:Exit→Act→World→Prop}
def MI (P:Program)(ops:Array Oper)(Q:Exit→Act→World→Prop):Nat→Array Bool→Act→World→Prop
 |0,listed,a,W=>Region.ready .any ops listed=[]∧∀w,EG W w→Q .normal a w
 |fuel+1,listed,a,W=>∀w,EG W w→(Region.ready .any ops listed=[]→Q .normal a w)∧
  ∀i∈Region.ready .any ops listed,wpOp P ops Q i (fun a' w'=>EG w w'∧MI P ops Q fuel (listed.setIfInBounds i true) a' w') a w
theorem MI.world:∀{fuel:Nat}{listed:Array Bool}{a:Act}{W W':World},EG W W'→MI P ops Q fuel listed a W→MI P ops Q fuel listed a W'
 |0,_,_,_,_,hx,h=>⟨h.1,fun w hw=>h.2 w (EG.trans hx hw)⟩
 |_+1,_,_,_,_,hx,h=>fun w hw=>h w (EG.trans hx hw)
theorem MI.any:∀{fuel:Nat}{listed:Array Bool}{a:Act}{W:World},MI P ops Q fuel listed a W→wpAny P .any ops Q fuel listed a W
 |0,_,_,_,h=>⟨h.1,h.2 _ (EG.refl _)⟩
 |_+1,_,_,W,h=>⟨(h W (EG.refl _)).1,fun i hi=>wpOp_mono (fun _ _ h'=>MI.any h'.2) ((h W (EG.refl _)).2 i hi)⟩
def DI (P:Program)(ops:Array Oper)(W:World)(o:Oper)(v:Value)(a:Act):Prop:=
 (Region.wanted o (yielded ops a.tmps)=true∧∀w,EG W w→o.quietAt P a (EG w) w v)∨
 (Region.wanted o (yielded ops a.tmps)=false∧v=undef)
theorem DI.world {W W':World}{o:Oper}{v:Value}{a:Act}(hx:EG W W')(h:DI P ops W o v a):DI P ops W' o v a:=
 h.imp (fun⟨h1,h2⟩=>⟨h1,fun w hw=>h2 w (EG.trans hx hw)⟩) id
theorem DI.of_same {W:World}{o:Oper}{v:Value}{a a':Act}(hy:DI P ops W o v a)(he:execOp a'.eval o=execOp a.eval o)
 (hw:Region.wanted o (yielded ops a'.tmps)=Region.wanted o (yielded ops a.tmps)):DI P ops W o v a':=by
 unfold DI Oper.quietAt at*;rw[he,hw];exact hy
theorem DI.wpOp {W:World}{i:Nat}{o:Oper}{v:Value}{a:Act}(hi:ops[i]? =some o)(hy:DI P ops W o v a){K:Act→World→Prop}{w:World}(hw:EG W w)(h:∀w',EG w w'→K (a.put o.dst v) w'):wpOp P ops Q i K a w:=by
 unfold Go.wpOp;simp only[hi];rcases hy with⟨Az,hv⟩|⟨Az,rfl⟩
 ·simp only[Az,if_true];left;exact Oper.wp_of_quiet (C:=EG w) (K:=fun a'=>a'=a.put o.dst v) (EG.refl _) (fun a' w' hw' ha=>ha ▸ h w' hw') ⟨v,fun w'' hw''=>by
   have:=hv w'' (EG.trans hw hw'');unfold Oper.quietAt at*;generalize (execOp a.eval o).run P w''=r at*;cases r with
   |ok n u=>cases n<;>simp only[Oper.quietUpon]at this ⊢<;>first|exact this|exact⟨this.1,this.2.mono fun _ _ ⟨e1,e2⟩=>⟨e1,EG.trans hw'' e2⟩⟩
   |halt x u=>simp only[Oper.quietUpon]at this,rfl⟩
 ·simp only[Az,YB,if_false];exact h w (EG.refl _)
theorem EH {W:World}{j:Nat}{oi oj:Oper}{v:Value}(hj:ops[j]? =some oj)(GE:oi.apart ops oj=true)
 (DM:∀cs b,oi.op≠ .select cs b) (PA:∀cs b,oj.op≠ .select cs b)
 (hQ:∀c a w,Q (.panic c) (a.put oi.dst v) w→Q (.panic c) a w) {K:Act→World→Prop}{a:Act}{w:World}
 (hy:DI P ops W oi v a) (h:wpOp P ops Q j K (a.put oi.dst v) w):
 wpOp P ops Q j (fun a' w'=>DI P ops W oi v a'∧K (a'.put oi.dst v) w') a w:=by
 obtain⟨h1,h2,h3⟩:=Oper.apart_spec GE;have keep:∀(a:Act),DI P ops W oi v a→∀u,DI P ops W oi v (a.put oj.dst u):=fun a hy u=>
  hy.of_same (execOp_put oi DM a oj.dst u h3) (wanted_put oi a oj.dst u h3)
 have keepD:∀d,DI P ops W oi v {a with defers:=d::a.defers}:=fun d=>hy.of_same rfl rfl;unfold wpOp at*;simp only[hj]at*;rw[wanted_put oj a oi.dst v h1]at h;split
 ·rename_i hw;simp only[hw,if_true]at h;rcases h with h|⟨tU,Dr⟩
  case inr=>exact .inr ⟨by unfold Oper.asks at*;rw[execOp_put oj PA a oi.dst v h1]at tU;exact tU,Dr⟩
  refine .inl ?_;unfold Oper.wp at*;rw[execOp_put oj PA a oi.dst v h1]at h;generalize (execOp a.eval oj).run P w=r at*;cases r with
  |ok n w'=>
   cases n<;>simp only[Oper.upon]at h ⊢
   case value u=>exact⟨keep a hy u,by rw[←Act.put_comm a v u h2];exact h⟩
   case skip=>exact⟨keep a hy _,by rw[←Act.put_comm a v undef h2];exact h⟩
   case defer d=>
    refine⟨keep _ (keepD d) _,?_⟩;rw[←Act.put_comm _ v undef h2,←Act.put_defers];exact h
   case enter f args=>
    refine Calls.mono h fun e w'' he=>?_;cases e with
    |returned u=>exact⟨keep a hy u,by rw[←Act.put_comm a v u h2];exact he⟩
    |panicked c=>exact hQ _ _ _ he
    |outgrown=>exact he
   case row row args=>exact Rows.mono h fun u w'' he=>⟨keep a hy u,by rw[←Act.put_comm a v u h2];exact he⟩
  |halt x w'=>
   cases x<;>simp only[Oper.upon]at h ⊢
   case panic u=>exact hQ _ _ _ h
 ·rename_i hw;simp only[hw]at h;exact⟨keep a hy _,by rw[←Act.put_comm a v undef h2];exact h⟩
theorem HZ {i:Nat}{oi:Oper}{v:Value}(hi:ops[i]? =some oi)(Ds:∀(j:Nat) (o:Oper) cs b,ops[j]? =some o→o.op≠ .select cs b)
 (hQ:∀c a w,Q (.panic c) (a.put oi.dst v) w→Q (.panic c) a w):
 ∀(fuel:Nat) (listed:Array Bool) (a:Act) (W:World),
  (∀j oj,ops[j]? =some oj→j≠i→listed.getD j true=false→(∀e∈oj.after,Region.binds .any e=true→e.on≠i)→oi.apart ops oj=true)→
  i∈Region.ready .any ops listed→DI P ops W oi v a→
  MI P ops Q fuel (listed.setIfInBounds i true) (a.put oi.dst v) W→MI P ops Q (fuel+1) listed a W:=by
 intro fuel;induction fuel with
 |zero=>
  intro listed a W _ hr hy H w hw;refine⟨fun h=>(by rw[h]at hr;cases hr),fun j hj=>?_⟩;by_cases jW:j=i
  ·subst jW;exact hy.wpOp hi hw fun w' hw'=>⟨hw',H.world (EG.trans hw hw')⟩
  ·have:=ready_mono hj jW;rw[H.1]at this;cases this
 |succ fuel ih=>
  intro listed a W tV hr hy H w hw;refine⟨fun h=>(by rw[h]at hr;cases hr),fun j hj=>?_⟩;by_cases jW:j=i
  ·subst jW;exact hy.wpOp hi hw fun w' hw'=>⟨hw',H.world (EG.trans hw hw')⟩
  ·have h1:=(H w hw).2 j (ready_mono hj jW);obtain⟨Dt,oj,Mb,bP⟩:=mem_ready.1 hj;have Mc:∀e∈oj.after,Region.binds .any e=true→e.on≠i:=fun e he hb heq=>by
    have h1:=bP e he hb;have h0:=(mem_ready.1 hr).1;rw[heq]at h1;rcases XP i listed.size with h'|h'
    ·simp[h']at h0 h1;rw[h0]at h1;cases h1
    ·simp[YM h']at h1
   have h2:=EH Mb (tV j oj Mb jW Dt Mc) (fun cs b=>Ds i oi cs b hi) (fun cs b=>Ds j oj cs b Mb) hQ (hy.world hw) h1;have wN:∀k ok,ops[k]? =some ok→k≠i→(listed.setIfInBounds j true).getD k true=false→
    (∀e∈ok.after,Region.binds .any e=true→e.on≠i)→oi.apart ops ok=true:=fun k ok hk Md PB cf=>by
    refine tV k ok hk Md ?_ cf;by_cases AA:j=k
    ·subst AA;exact Dt
    ·rw[getD_set_ne true AA]at PB;exact PB
   refine wpOp_mono (fun a' w' h3=>⟨h3.2.1,ih (listed.setIfInBounds j true) a' w' wN (ready_mono hr (Ne.symm jW)) (h3.1.world h3.2.1) ?_⟩) h2;rw[Array.setIfInBounds_comm _ _ jW];exact h3.2.2
def nc (P:Program)(ops:Array Oper)(Q:Exit→Act→World→Prop):List Oper→Nat→Array Bool→Act→World→Prop
 |[],_,_,a,W=>∀w,EG W w→Q .normal a w
 |o::rest,k,listed,a,W=>
  (∃v,DI P ops W o v a∧nc P ops Q rest (k+1) (listed.setIfInBounds k true) (a.put o.dst v) W)∨
  (Region.ready .any ops listed=[k]∧Region.wanted o (yielded ops a.tmps)=true∧∀w,EG W w→o.wp P a w (fun a' w'=>EG w w'∧nc P ops Q rest (k+1) (listed.setIfInBounds k true) a' w') Q)
theorem qb (hs:Region.noSelect ops=true)(hQ:∀c a d v w,Q (.panic c) (a.put d v) w→Q (.panic c) a w):∀(l:List Oper) (k:Nat) (listed:Array Bool) (a:Act) (W:World),(∀j,l[j]? =ops[k+j]?)→
 Region.lexFrom .any ops l.length k listed=true→nc P ops Q l k listed a W→MI P ops Q l.length listed a W
 |[],_,_,_,_,_,hB,h=>⟨by simpa[Region.lexFrom]using hB,h⟩
 |o::l,k,listed,a,W,hl,hB,h=>by
  have h0:ops[k]? =some o:=by simpa using (hl 0).symm
  simp only[XA,Region.lexFrom,Xy]at hB;obtain⟨⟨hr,hf⟩,hB'⟩:=hB;have hl':∀j,l[j]? =ops[k+1+j]? :=fun j=>by have:=hl (j+1);simpa[ZF,Nat.add_comm 1 j]using this
  rcases h with⟨v,hy,hK⟩|⟨eP,Az,hK⟩
  ·exact HZ h0 (Region.noSelect_spec hs) (fun c a w=>hQ c a _ _ w) l.length listed a W (Region.free_spec h0 hf) (by simpa using hr) hy (qb hs hQ l (k+1) _ _ _ hl' hB' hK)
  ·intro w hw;refine⟨fun h=>by rw[eP]at h;simp at h,fun i hi=>?_⟩;rw[eP]at hi;obtain rfl:i=k:=by simpa using hi
   unfold wpOp;simp only[h0,Az,if_true];left;exact Oper.wp_mono (fun a' w' h'=>⟨h'.1,qb hs hQ l (i+1) _ _ _ hl' hB' h'.2⟩) (hK w hw)
theorem Cn {id:Nat}{a:Act}{w:World}{l:List Oper}(hm:P.follows .mixedOrders=true)(hB:Region.lexB .any l.toArray=true)(hQ:∀c a d v w,Q (.panic c) (a.put d v) w→Q (.panic c) a w)
 (h:nc P l.toArray Q l 0 (Y5 l.length false) a w):(Code.region id l.toArray true).wp P Q a w:=by
 simp only[Region.lexB,Xy]at hB;refine wp_region_any hm ?_;have h2:=qb hB.1 hQ l 0 (Y5 l.length false) a w (by simp) (by simpa using hB.2) h;have h3:=(h2.world (EG.drew w:EG w w.drew)).any;simpa using h3
section
variable {o:Oper}{rest:List Oper}{k:Nat}{listed:Array Bool}{a:Act}{W:World}
theorem K6 (h:∀w,EG W w→Q .normal a w):nc P ops Q [] k listed a W:=h
theorem yO {v:Value}(hw:Region.wanted o (yielded ops a.tmps)=true)(h:∀w,EG W w→∀R:Value→Prop,R v→Ob P w w R ((execOp a.eval o).run P w))
 (hn:nc P ops Q rest (k+1) (listed.setIfInBounds k true) (a.put o.dst v) W):nc P ops Q (o::rest) k listed a W:=
 .inl ⟨v,.inl ⟨hw,fun w hw=>EF (h w hw)⟩,hn⟩
theorem v6 (hr:Region.ready .any ops listed=[k])(hw:Region.wanted o (yielded ops a.tmps)=true)
 (h:∀w,EG W w→∀K:Act→World→Prop,(∀a' w',EG w w'→nc P ops Q rest (k+1) (listed.setIfInBounds k true) a' w'→K a' w')→o.wp P a w K Q):nc P ops Q (o::rest) k listed a W:=
 .inr ⟨hr,hw,fun w hw=>h w hw _ fun _ _ h1 h2=>⟨h1,h2⟩⟩
end
theorem tE {f:FuncId}{args:Array Value}{w:World}{R:Value→Prop}{v:Value}(h:Calls P f args w fun e w'=>e= .returned v∧w=w')(hR:R v):Calls P f args w (K5 w R):=
 h.mono fun _ _ ⟨he,hx⟩=>⟨⟨v,he,hR⟩,hx ▸ EG.refl _⟩
end
section
open Go.Proofs Go.Shelf
def fF (l:Lnk):Int:=l.a*65537+l.b
def VJ (xs:List Value)(k:Int):Prop:=∃a b:Int,xs=[.int .i64 a,.int .i64 b]∧k=a*65537+b∧1≤b∧b≤65536
@[reducible] def H0:Inhabited (SRow VJ (1+1)):=⟨⟨[.int .i64 0,.int .i64 1],rfl,fun v hv=>by simp at hv;rcases hv with rfl|rfl<;>rfl,1,0,1,rfl,by omega,by omega,by omega⟩⟩
theorem Co {a b c d:Int}(h1:1≤b)(h2:b≤65536)(h3:1≤d)(h4:d≤65536):B6 [ep a c,ep b d]=ep (a*65537+b) (c*65537+d):=by
 simp only[B6,ep];repeat' split
 all_goals omega
theorem Oc (x y:Int)(b:Nat)(W:World)(hx:W.cell? ⟨b,0,none⟩=some (.int .i64 x))(hy:W.cell? ⟨b,1,none⟩=some (.int .i64 y)):
 Calls prog 187 #[.slice (some ⟨b,0,none⟩) 2 2] W fun e w'=>e= .returned (.int .i64 (B6 [x,y]))∧w'=W:=by
 have lb:=dC hx;go_enter func187,ntmps187
 go_wp2_with fail
 go_loopw [5,8] (fun _ s8 wr=>∃k:Nat,s8= .int .i64 k∧((k=0)∨(k=1∧x=0)∨(k=2∧x=0∧y=0))∧wr=W) (fun _ s8 _=>2 - (intOf s8).toNat)
 case atStart=>exact⟨0,rfl,.inl rfl,rfl⟩
 case round=>
  obtain⟨k,rfl,hk,rfl⟩:=hrel;rcases hk with rfl|⟨rfl,h0⟩|⟨rfl,h0,h1⟩
  ·by_cases h0:x=0
   ·have hb:(x !=0)=false:=by simp[h0]
    replace h0:=Xj h0;go_wp2_with fail
    go_roundw
    case rel=>exact⟨1,by go_num,.inr (.inl ⟨rfl,h0.out⟩),trivial⟩
    case measure=>simp[intOf]
   ·have hb:(x !=0)=true:=by simpa using h0
    replace h0:=Xj h0;go_wp2_with fail
    go_ret
    exact⟨ce (by simp[B6,h0.out]),rfl⟩
  ·by_cases h1:y=0
   ·have hb:(y !=0)=false:=by simp[h1]
    replace h0:=Xj h0;replace h1:=Xj h1;go_wp2_with fail
    go_roundw
    case rel=>exact⟨2,by go_num,.inr (.inr ⟨rfl,h0.out,h1.out⟩),trivial⟩
    case measure=>simp[intOf]
   ·have hb:(y !=0)=true:=by simpa using h1
    replace h0:=Xj h0;replace h1:=Xj h1;go_wp2_with fail
    go_ret
    exact⟨ce (by simp[B6,h0.out,h1.out]),rfl⟩
  ·replace h0:=Xj h0;replace h1:=Xj h1;go_wp2_with fail
   go_ret
   exact⟨ce (by simp[B6,h0.out,h1.out]),rfl⟩
theorem Od (x y:SRow VJ (1+1))(W:World):Calls prog 98 #[.agg x.xs.toArray,.agg y.xs.toArray] W fun e w'=>e= .returned (.int .i64 (DH x y))∧∃q os',w'=Sort.grow (W.drewN q) os':=by
 obtain⟨xs,xl,x1,kx,a,b,rfl,rfl,i7,jd⟩:=x;obtain⟨ys,yl,y1,ky,c,d,rfl,rfl,Dn,zf⟩:=y;unfold DH;simp only;rw[←Co i7 jd Dn zf];have h1:∀W,Calls prog 113 #[.int .i64 a,.int .i64 c] W fun e w'=>e= .returned (.int .i64 (ep a c))∧W=w':=fun W=>(iB a c W).mono fun _ _ ⟨e1,e2⟩=>⟨e1,e2.symm⟩;have h2:∀W,Calls prog 113 #[.int .i64 b,.int .i64 d] W fun e w'=>e= .returned (.int .i64 (ep b d))∧W=w':=fun W=>(iB b d W).mono fun _ _ ⟨e1,e2⟩=>⟨e1,e2.symm⟩;generalize ep a c=A at*;generalize ep b d=B at*;clear x1 y1 xl yl i7 jd Dn zf;have key:Calls prog 98 #[.agg #[.int .i64 a,.int .i64 b],.agg #[.int .i64 c,.int .i64 d]] W fun e w'=>e= .returned (.int .i64 (B6 [A,B]))∧EG W w':=by
  have QP:EG W ((W.alloc (.cells #[.int .i64 a,.int .i64 b] 76)).alloc (.cells #[.int .i64 c,.int .i64 d] 76)):=(EG.alloc W _).trans (EG.alloc _ _);go_enter func98,ntmps98
  go_wp2_with fail
  refine Cn (by kernel_rfl) (by kernel_rfl) (fun _ _ d _ _ h=>by cases d<;>exact h) ?_;repeat(apply yO;(first|exact bx rfl|exact bD rfl rfl rfl (by with_reducible rfl));intro wq cL R hR;(have cL:=cL.ext;(have ef:=(aJ cL).1;(try simp only[Xr,aa,Xw,Xs]at ef));go_simp;first|exact hR|(go_at_call 113;with_reducible (first|exact tE (h1 _) hR|exact tE (h2 _) hR)));simp only[Act.put,Xq,Xv,Xx])
  refine v6 (by kernel_rfl) (bx rfl) (fun w3 lT K2 hK=>?_);go_simp
  refine hK _ _ (EG.alloc _ _) ?_;clear hK K2;refine v6 (by kernel_rfl) (bx rfl) (fun w4 AG K3 hK=>?_);have IL:w4.cell? ⟨w3.heap.size,0,none⟩=some (.int .i64 A):=bV AG.ext (by simp);have OS:w4.cell? ⟨w3.heap.size,1,none⟩=some (.int .i64 B):=bV AG.ext (by simp);go_simp
  go_at_call 187
  refine(Oc A B _ w4 IL OS).mono ?_;rintro e w5 ⟨rfl,rfl⟩;go_simp
  refine hK _ _ (EG.refl _) ?_;clear hK K3;apply yO
  ·exact bx rfl
  ·intro wq cL R hR;go_simp
   exact hR
  simp only[Act.put,Xq,Xv,Xx];refine K6 ?_;intro w6 hw6;go_wp2_with fail
  go_ret
  exact⟨ce rfl,QP.trans (lT.trans ((EG.alloc _ _).trans (AG.trans hw6)))⟩
 refine key.mono fun e w' ⟨he,⟨⟨q,os⟩,hw⟩⟩=>⟨he,q,os,hw⟩
theorem H1 {l l':List Lnk}(g:Nat)(hb:∀x∈l,1≤x.b∧x.b≤65536)(pG:l≠[])(hp:l'.Perm l)(hs:l'.Pairwise fun x y=>fF x < fF y)(cP:l.length≤1000000):
 MSpec prog 137 [.own 0 g,.d (.clo 98 [])] [.row 76 2 g (ab (l.map bJ))] (.d (.tup [])) [.row 76 2 g (ab (l'.map bJ))]:=
 Ga H0 sortLink rfl (cW func137 (by kernel_rfl) rfl) isAgg76 sizeOf76 (enters_of func98 (by kernel_rfl) rfl) Od bJ fF (fun x hx vs hl hr=>by
  match vs,hl with
  |[u,v],_=>
   obtain⟨M,w,r0⟩:=hr 0 _ u rfl rfl;obtain⟨M2,w2,r1⟩:=hr 1 _ v rfl rfl;cases r0;cases r1;exact⟨x.a,x.b,rfl,rfl,hb x hx⟩) pG hp hs cP
end
def hO (n:Net)(id:Int):Int:=if cF id=false then 3 else if (fL n id).isSome=true then 6 else if n.vpcs.length=6 then 2 else 0
def iD (n:Net)(id:Int):Net × Int:=
 if cK n≠0 then (Net.zero,cK n)else if hO n id≠0 then (Net.zero,hO n id)else ({n with vpcs:=df (·.id) ⟨id,[],[]⟩ n.vpcs},0)
theorem v7 {n:Net}{id:Int}(h:fL n id=none):∀v∈n.vpcs,v.id≠id:=fun v hv=>by
 have:=Yq.1 h v hv;simpa using this
theorem Oe (n:Net)(id:Int):af prog 64 [.agg (aK n),.v (.int .i64 id)] (.tup [.agg (aK (iD n id).1),.v (.int .i64 (iD n id).2)]):=by
 obtain⟨R,hR⟩:∃R,R=iD n id:=⟨_,rfl⟩;rw[←hR];replace hR:=Xj hR;by_cases hc:cK n=0
 ·have bF:=gO.1 hc;have cQ:=rl n hc;have Vf:((n.vpcs.length:Int)==6)=decide (n.vpcs.length=6):=by rw[Yi];simp;omega
  cases hx:eO n id with
  |some i=>
   obtain⟨v,hv,he,hi,sY⟩:=ei hx;have gN:=rm n id n.vpcs.length 1 i v hv he bF.n6 bF.rise;have hr:R=(Net.zero,if cF id=false then 3 else 6):=by
    rw[hR.out];unfold iD hO;rw[if_neg (by simpa using hc),sY];cases cF id<;>simp
   rw[hr];have hid:cF id=(decide (1≤id)&&decide (id≤65536)):=rfl;rw[hid];clear hr hR bF hx hc sY hv he hid;refine pj func64 ntmps64 results64 ?_;have z1z:=Ln.mk (ls:=[]) (cQ);have z2z:=Ln.mk (ls:=[4,5,3]) (gN);refine zO ?_ ?_ ?_<;>intros;all_goals first
    |(exfalso;grind)
    |(rw[if_pos (by grind)];exact dg)
    |(rw[if_neg (by grind)];exact dg)
  |none=>
   have gN:=oy n id n.vpcs.length 1 (dY hx) bF.n6 bF.rise;have hn:=dY hx;by_cases bH:hO n id≠0
   ·have hr:R=(Net.zero,hO n id):=by rw[hR.out];unfold iD;rw[if_neg (by simpa using hc),if_pos bH]
    have nH:hO n id=if cF id=false then 3 else if n.vpcs.length=6 then 2 else 0:=by unfold hO;rw[hn];rfl
    rw[hr];have hid:cF id=(decide (1≤id)&&decide (id≤65536)):=rfl;rw[nH]at bH ⊢;rw[hid]at bH ⊢;clear hr hR bF hx hc hid hn nH;replace bH:=Xj bH;refine pj func64 ntmps64 results64 ?_;repeat' (first|(with_reducible refine And.intro ?_ ?_)|(with_reducible refine cm (fun _=>?_) (fun _=>?_))|(with_reducible refine aA (fun _=>?_) (fun _=>?_))|(with_reducible refine be (by kernel_rfl))|simp -dsimp only[go_sem,seval, *,aK,Vf,undef]|((with_reducible refine bf ?_);simp -dsimp only[go_sem,seval,aK,Vf,undef];first|refine aC (by first|assumption|fail) (by first|exact .inl rfl|exact .inr rfl) ?_|(refine aB (by assumption) ?_ ?_ ?_;(solve|(repeat(first|exact ai.refl _|exact ai.nil _|(refine ai.tup ?_)|(refine ai.agg ?_ rfl)|exact trivial|(refine And.intro ?_ ?_))));(solve|exact .inl rfl|exact .inr rfl)))|(refine aX [] (cQ) ?_ ?_ ?_ ?_ ?_ ?_;(solve|rfl|simp only[go_sem,seval,aK]);(solve|rfl);(solve|decide);(solve|simp);(solve|simp only[go_sem,seval,ax,aK]))|(refine aX [4,5,3] (gN) ?_ ?_ ?_ ?_ ?_ ?_;(solve|rfl|simp only[go_sem,seval,aK]);(solve|rfl);(solve|decide);(solve|simp);(solve|simp only[go_sem,seval,ax,aK]))|omega|exact decide_eq_true (by omega)|exact ai.refl _)
    all_goals have jd:=bH.out
    all_goals clear bH gN cQ
    all_goals first
     |(exfalso;grind)
     |(rw[if_pos (by grind)];exact dg)
     |(rw[if_neg (by grind),if_pos (by grind)];exact dg)
   ·have hr:R=({n with vpcs:=df (·.id) ⟨id,[],[]⟩ n.vpcs},0):=by rw[hR.out];unfold iD;rw[if_neg (by simpa using hc),if_neg bH]
    have hg:hO n id=0:=by simpa using bH
    obtain⟨g1,g2⟩:cF id=true∧n.vpcs.length≠6:=by unfold hO at hg;rw[hn]at hg;grind
    have g3:1≤id∧id≤65536:=by simpa[cF]using g1
    have h6:=bF.n6;have nF:=K4 (l:=n.vpcs++[⟨id,[],[]⟩]) (l':=df (·.id) ⟨id,[],[]⟩ n.vpcs) (n.vpcs.length+1) (by simp) (fY _ _ _) (gx bF.rise fun v hv=>v7 hn v hv) (by simp;omega);have I8:((n.vpcs.length:Int)==6)=false:=by simp;omega
    have i7:n.vpcs.length+1≤100:=by omega
    have iZ:decide (id < 1)=false:=by simp;omega
    have jX:decide (id>65536)=false:=by simp;omega
    simp only[Xo,Xm,Xu]at nF;have nF:=nF.leh (qO (A:=n.vpcs.map al) (B:=[]) (r:=[.v (.int .i64 id),.v (.slice none 0 0),.v (.slice none 0 0)]) dg) (by have:=kH (enc:=al) (fun _=>rfl) (n.vpcs++[⟨id,[],[]⟩]);simpa using this) (az _ _);rw[hr];clear hr hR bF hx hc hn bH hg g1 g2 g3 Vf;refine pj func64 ntmps64 results64 ?_;have z1z:=Ln.mk (ls:=[]) (cQ);have z2z:=Ln.mk (ls:=[4,5,3]) (gN);have z3z:=Ln.mk (ls:=[5]) (nF);exact aZ;all_goals exact dg
 ·have cQ:=oZ n hc;have TU:=KZ id;have h1:(cK n !=0)=true:=by simpa using hc
  have hr:R=(Net.zero,cK n):=by rw[hR.out];unfold iD;rw[if_pos hc]
  rw[hr];replace hr:=Xj hr;refine pj func64 ntmps64 results64 ?_;have z1z:=Ln.mk (ls:=[]) (cQ);refine am ?_<;>intros;all_goals exact dg
def dS (n:Net)(a b:Int):Int:=
 if a=b then 3 else if fL n a=none∨fL n b=none then 5 else if fC a b∈n.links then 6 else
 if ez {n with links:=df fF (fC a b) n.links}=false then 9 else if n.links.length+1>12 then 2 else 0
def jb (n:Net)(a b:Int):Net × Int:=
 if cK n≠0 then (Net.zero,cK n)else if dS n a b≠0 then (Net.zero,dS n a b)else ({n with links:=df fF (fC a b) n.links},0)
theorem NetOK.bd {n:Net}(h:NetOK n){x:Int}(hx:x∈n.vpcs.map (·.id)):1≤x∧x≤65536:=by
 obtain⟨v,hv,rfl⟩:=XQ.1 hx;have:=(aY (h.vp v hv)).id;simpa[cF]using this
theorem K7 {l m:Lnk}(h1:1≤l.b∧l.b≤65536)(h2:1≤m.b∧m.b≤65536):qZ l m=ep (fF l) (fF m):=Co h1.1 h1.2 h2.1 h2.2
theorem NetOK.lsort {n:Net}(h:NetOK n):n.links.Pairwise fun a b=>fF a < fF b:=by
 have hb:∀l∈n.links,1≤l.b∧l.b≤65536:=fun l hl=>h.bd (h.ids l hl).2;have:=(zW n.links).1 h.rk;have step:∀j (hj:j+1 < n.links.length),fF n.links[j] < fF n.links[j+1]:=fun j hj=>by
  have h1:=this j hj;rw[K7 (hb _ (Ym _)) (hb _ (Ym _))]at h1;unfold ep at h1;split at h1
  ·assumption
  ·split at h1<;>omega
 rw[XF];intro i j hi hj hij;obtain⟨d,rfl⟩:∃d,j=i+1+d:=⟨j - i - 1,by omega⟩;induction d with
 |zero=>exact step i hj
 |succ d ih=>
  have h1:=ih (by omega) (by omega);have h2:=step (i+1+d) (by omega);exact Int.lt_trans h1 h2
theorem sG (a b:Int):(fC a b=⟨a,b⟩∧a≤b)∨(fC a b=⟨b,a⟩∧b≤a):=by
 unfold fC;rcases Int.lt_trichotomy a b with h|h|h
 ·left;rw[if_neg (by omega),if_pos h];exact⟨rfl,by omega⟩
 ·subst h;left;simp
 ·right;rw[if_pos h,if_neg (by omega)];exact⟨rfl,by omega⟩
theorem Cp {l m:Lnk}(h1:1≤l.b∧l.b≤65536)(h2:1≤m.b∧m.b≤65536)(h:fF l=fF m):l=m:=by
 unfold fF at h;cases l;cases m;simp only at*;simp only[Lnk.mk.injEq];omega
theorem Of (n:Net)(a b:Int):af prog 65 [.agg (aK n),.v (.int .i64 a),.v (.int .i64 b)] (.tup [.agg (aK (jb n a b).1),.v (.int .i64 (jb n a b).2)]):=by
 obtain⟨R,hR⟩:∃R,R=jb n a b:=⟨_,rfl⟩;rw[←hR];replace hR:=Xj hR;by_cases hc:cK n=0
 ·have bF:=gO.1 hc;have cQ:=rl n hc;have i4:=K0 a b;have rS:R=if dS n a b≠0 then (Net.zero,dS n a b)else ({n with links:=df fF (fC a b) n.links},0):=by rw[hR.out];unfold jb;rw[if_neg (by simpa using hc)]
  cases AL:eO n a with
  |none=>
   have jY:=oy n a n.vpcs.length 1 (dY AL) bF.n6 bF.rise;have hr:R=(Net.zero,if a=b then 3 else 5):=by
    rw[rS,show dS n a b=if a=b then 3 else 5 by unfold dS;rw[dY AL];simp];split<;>simp
   have gE:(a==b)=decide (a=b):=rfl;rw[hr];cases nI:eO n b with
   |none=>
    have lu:=oy n b n.vpcs.length 1 (dY nI) bF.n6 bF.rise;clear hr hR rS bF AL nI hc;refine pj func65 ntmps65 results65 ?_;repeat' (first|(with_reducible refine And.intro ?_ ?_)|(with_reducible refine cm (fun _=>?_) (fun _=>?_))|(with_reducible refine aA (fun _=>?_) (fun _=>?_))|(with_reducible refine be (by kernel_rfl))|simp -dsimp only[go_sem,seval, *,aK,undef]|((with_reducible refine bf ?_);simp -dsimp only[go_sem,seval,aK,undef];first|refine aC (by first|assumption|fail) (by first|exact .inl rfl|exact .inr rfl) ?_|(refine aB (by assumption) ?_ ?_ ?_;(solve|(repeat(first|exact ai.refl _|exact ai.nil _|(refine ai.tup ?_)|(refine ai.agg ?_ rfl)|exact trivial|(refine And.intro ?_ ?_))));(solve|exact .inl rfl|exact .inr rfl)))|(refine aX [] (cQ) ?_ ?_ ?_ ?_ ?_ ?_;(solve|rfl|simp only[go_sem,seval,aK]);(solve|rfl);(solve|decide);(solve|simp);(solve|simp only[go_sem,seval,ax,aK]))|(refine aX [4,5,3] (jY) ?_ ?_ ?_ ?_ ?_ ?_;(solve|rfl|simp only[go_sem,seval,aK]);(solve|rfl);(solve|decide);(solve|simp);(solve|simp only[go_sem,seval,ax,aK]))|(refine aX [4,5,3] (lu) ?_ ?_ ?_ ?_ ?_ ?_;(solve|rfl|simp only[go_sem,seval,aK]);(solve|rfl);(solve|decide);(solve|simp);(solve|simp only[go_sem,seval,ax,aK]))|omega|exact decide_eq_true (by omega)|exact ai.refl _)
    all_goals first
     |(exfalso;grind)
     |(rw[if_pos (by grind)];exact dg)
     |(rw[if_neg (by grind)];exact dg)
   |some j=>
    obtain⟨v,hv,he,hi,sY⟩:=ei nI;have lu:=rm n b n.vpcs.length 1 j v hv he bF.n6 bF.rise;clear hr hR rS bF AL nI hc hv he sY hi;refine pj func65 ntmps65 results65 ?_;repeat' (first|(with_reducible refine And.intro ?_ ?_)|(with_reducible refine cm (fun _=>?_) (fun _=>?_))|(with_reducible refine aA (fun _=>?_) (fun _=>?_))|(with_reducible refine be (by kernel_rfl))|simp -dsimp only[go_sem,seval, *,aK,undef]|((with_reducible refine bf ?_);simp -dsimp only[go_sem,seval,aK,undef];first|refine aC (by first|assumption|fail) (by first|exact .inl rfl|exact .inr rfl) ?_|(refine aB (by assumption) ?_ ?_ ?_;(solve|(repeat(first|exact ai.refl _|exact ai.nil _|(refine ai.tup ?_)|(refine ai.agg ?_ rfl)|exact trivial|(refine And.intro ?_ ?_))));(solve|exact .inl rfl|exact .inr rfl)))|(refine aX [] (cQ) ?_ ?_ ?_ ?_ ?_ ?_;(solve|rfl|simp only[go_sem,seval,aK]);(solve|rfl);(solve|decide);(solve|simp);(solve|simp only[go_sem,seval,ax,aK]))|(refine aX [4,5,3] (jY) ?_ ?_ ?_ ?_ ?_ ?_;(solve|rfl|simp only[go_sem,seval,aK]);(solve|rfl);(solve|decide);(solve|simp);(solve|simp only[go_sem,seval,ax,aK]))|(refine aX [4,5,3] (lu) ?_ ?_ ?_ ?_ ?_ ?_;(solve|rfl|simp only[go_sem,seval,aK]);(solve|rfl);(solve|decide);(solve|simp);(solve|simp only[go_sem,seval,ax,aK]))|omega|exact decide_eq_true (by omega)|exact ai.refl _)
    all_goals first
     |(exfalso;grind)
     |(rw[if_pos (by grind)];exact dg)
     |(rw[if_neg (by grind)];exact dg)
  |some i=>
   obtain⟨u,hu,O5,O6,ug⟩:=ei AL;have jY:=rm n a n.vpcs.length 1 i u hu O5 bF.n6 bF.rise;cases nI:eO n b with
   |none=>
    have lu:=oy n b n.vpcs.length 1 (dY nI) bF.n6 bF.rise;have hr:R=(Net.zero,if a=b then 3 else 5):=by
     rw[rS,show dS n a b=if a=b then 3 else 5 by unfold dS;rw[dY nI];simp];split<;>simp
    rw[hr];clear hr hR rS bF AL nI hc hu O5 O6 ug;refine pj func65 ntmps65 results65 ?_;repeat' (first|(with_reducible refine And.intro ?_ ?_)|(with_reducible refine cm (fun _=>?_) (fun _=>?_))|(with_reducible refine aA (fun _=>?_) (fun _=>?_))|(with_reducible refine be (by kernel_rfl))|simp -dsimp only[go_sem,seval, *,aK,undef]|((with_reducible refine bf ?_);simp -dsimp only[go_sem,seval,aK,undef];first|refine aC (by first|assumption|fail) (by first|exact .inl rfl|exact .inr rfl) ?_|(refine aB (by assumption) ?_ ?_ ?_;(solve|(repeat(first|exact ai.refl _|exact ai.nil _|(refine ai.tup ?_)|(refine ai.agg ?_ rfl)|exact trivial|(refine And.intro ?_ ?_))));(solve|exact .inl rfl|exact .inr rfl)))|(refine aX [] (cQ) ?_ ?_ ?_ ?_ ?_ ?_;(solve|rfl|simp only[go_sem,seval,aK]);(solve|rfl);(solve|decide);(solve|simp);(solve|simp only[go_sem,seval,ax,aK]))|(refine aX [4,5,3] (jY) ?_ ?_ ?_ ?_ ?_ ?_;(solve|rfl|simp only[go_sem,seval,aK]);(solve|rfl);(solve|decide);(solve|simp);(solve|simp only[go_sem,seval,ax,aK]))|(refine aX [4,5,3] (lu) ?_ ?_ ?_ ?_ ?_ ?_;(solve|rfl|simp only[go_sem,seval,aK]);(solve|rfl);(solve|decide);(solve|simp);(solve|simp only[go_sem,seval,ax,aK]))|omega|exact decide_eq_true (by omega)|exact ai.refl _)
    all_goals first
     |(exfalso;grind)
     |(rw[if_pos (by grind)];exact dg)
     |(rw[if_neg (by grind)];exact dg)
   |some j=>
    obtain⟨v,hv,Rq,Tt,xP⟩:=ei nI;have lu:=rm n b n.vpcs.length 1 j v hv Rq bF.n6 bF.rise;by_cases gE:a=b
    ·have hr:R=(Net.zero,3):=by rw[rS,show dS n a b=3 by unfold dS;rw[if_pos gE]];rfl
     rw[hr];clear hr hR rS bF AL nI hc hu O5 O6 ug hv Rq Tt xP;have sZ:(a==b)=true:=by simpa using gE
     replace gE:=Xj gE;refine pj func65 ntmps65 results65 ?_;repeat' (first|(with_reducible refine And.intro ?_ ?_)|(with_reducible refine cm (fun _=>?_) (fun _=>?_))|(with_reducible refine aA (fun _=>?_) (fun _=>?_))|(with_reducible refine be (by kernel_rfl))|simp -dsimp only[go_sem,seval, *,aK,sZ,undef]|((with_reducible refine bf ?_);simp -dsimp only[go_sem,seval,aK,sZ,undef];first|refine aC (by first|assumption|fail) (by first|exact .inl rfl|exact .inr rfl) ?_|(refine aB (by assumption) ?_ ?_ ?_;(solve|(repeat(first|exact ai.refl _|exact ai.nil _|(refine ai.tup ?_)|(refine ai.agg ?_ rfl)|exact trivial|(refine And.intro ?_ ?_))));(solve|exact .inl rfl|exact .inr rfl)))|(refine aX [] (cQ) ?_ ?_ ?_ ?_ ?_ ?_;(solve|rfl|simp only[go_sem,seval,aK]);(solve|rfl);(solve|decide);(solve|simp);(solve|simp only[go_sem,seval,ax,aK]))|(refine aX [4,5,3] (jY) ?_ ?_ ?_ ?_ ?_ ?_;(solve|rfl|simp only[go_sem,seval,aK]);(solve|rfl);(solve|decide);(solve|simp);(solve|simp only[go_sem,seval,ax,aK]))|(refine aX [4,5,3] (lu) ?_ ?_ ?_ ?_ ?_ ?_;(solve|rfl|simp only[go_sem,seval,aK]);(solve|rfl);(solve|decide);(solve|simp);(solve|simp only[go_sem,seval,ax,aK]))|omega|exact decide_eq_true (by omega)|exact ai.refl _)
     all_goals exact dg
    ·have sZ:(a==b)=false:=by simpa using gE
     have qk:=xA n.links (fC a b) (by have:=bF.n12;omega);have im:(n.links.any fun y=>decide (fC a b=y))=decide (fC a b∈n.links):=by
      rw[Yi,XU];simp
     rw[im]at qk;have aP:R=if fC a b∈n.links then (Net.zero,6)else if ez {n with links:=df fF (fC a b) n.links}=false then (Net.zero,9)else if n.links.length+1>12 then (Net.zero,2)else ({n with links:=df fF (fC a b) n.links},0):=by
      rw[rS];unfold dS;rw[if_neg gE,ug,xP];simp only[reduceCtorEq,or_self,if_false];split
      ·rfl
      ·split
       ·rfl
       ·split<;>rfl
     by_cases dB:fC a b∈n.links
     ·have hr:R=(Net.zero,6):=by rw[aP,if_pos dB]
      rw[hr];rw[decide_eq_true dB]at qk;clear hr hR rS aP bF AL nI hc hu O5 O6 ug hv Rq Tt xP im dB;generalize fC a b=LK at*;replace gE:=Xj gE;refine pj func65 ntmps65 results65 ?_;repeat' (first|(with_reducible refine And.intro ?_ ?_)|(with_reducible refine cm (fun _=>?_) (fun _=>?_))|(with_reducible refine aA (fun _=>?_) (fun _=>?_))|(with_reducible refine be (by kernel_rfl))|simp -dsimp only[go_sem,seval, *,aK,bJ,sZ,undef]|((with_reducible refine bf ?_);simp -dsimp only[go_sem,seval,aK,bJ,sZ,undef];first|refine aC (by first|assumption|exact i4|exact qk) (by first|exact .inl rfl|exact .inr rfl) ?_|(refine aB (by assumption) ?_ ?_ ?_;(solve|(repeat(first|exact ai.refl _|exact ai.nil _|(refine ai.tup ?_)|(refine ai.agg ?_ rfl)|exact trivial|(refine And.intro ?_ ?_))));(solve|exact .inl rfl|exact .inr rfl)))|(refine aX [] (cQ) ?_ ?_ ?_ ?_ ?_ ?_;(solve|rfl|simp only[go_sem,seval,aK]);(solve|rfl);(solve|decide);(solve|simp);(solve|simp only[go_sem,seval,ax,aK]))|(refine aX [4,5,3] (jY) ?_ ?_ ?_ ?_ ?_ ?_;(solve|rfl|simp only[go_sem,seval,aK]);(solve|rfl);(solve|decide);(solve|simp);(solve|simp only[go_sem,seval,ax,aK]))|(refine aX [4,5,3] (lu) ?_ ?_ ?_ ?_ ?_ ?_;(solve|rfl|simp only[go_sem,seval,aK]);(solve|rfl);(solve|decide);(solve|simp);(solve|simp only[go_sem,seval,ax,aK]))|omega|exact decide_eq_true (by omega)|exact ai.refl _)
      all_goals exact dg
     ·rw[if_neg dB]at aP;rw[decide_eq_false dB]at qk;have S4:a∈n.vpcs.map (·.id):=fN (by rw[ug];rfl);have S5:b∈n.vpcs.map (·.id):=fN (by rw[xP];rfl);have je:∀l∈n.links,1≤l.b∧l.b≤65536:=fun l hl=>bF.bd (bF.ids l hl).2;have lR:(fC a b).a∈n.vpcs.map (·.id)∧(fC a b).b∈n.vpcs.map (·.id):=by
       rcases sG a b with⟨e,-⟩|⟨e,-⟩
       ·rw[e];exact⟨S4,S5⟩
       ·rw[e];exact⟨S5,S4⟩
      have DE:=bF.bd lR.2;have nF:=H1 (l:=n.links++[fC a b]) (l':=df fF (fC a b) n.links) 2 (fun l hl=>by
       rcases X2.1 hl with hl|hl
       ·exact je l hl
       ·rw[Yc.1 hl];exact DE) (by simp) (fY _ _ _) (gx bF.lsort fun y hy e=>dB (by rw[←Cp (je y hy) DE e];exact hy)) (by have:=bF.n12;simp;omega)
      have Dw:=zV {n with links:=df fF (fC a b) n.links} (by have:=bF.n6;simp;omega) (by have:=bF.n12;simp only[fe];omega) (fun v hv=>by have:=(aY (bF.vp v hv)).n4;omega) (fun l hl=>by
       rcases mn.1 hl with rfl|hl
       ·exact lR
       ·exact bF.ids l hl)
      have Mh:=bF.n12;have i7:n.links.length+1≤100:=by omega
      have o9:(df fF (fC a b) n.links).length=n.links.length+1:=fe _ _ _;have PI:((n.links.length+1:Nat):Int)>12↔n.links.length+1>12:=by omega
      simp only[Xo,Xm,Xu]at nF;clear hR rS bF AL nI hc hu O5 O6 ug hv Rq Tt xP im dB S4 S5 je lR DE;generalize df fF (fC a b) n.links=LS at*;generalize fC a b=LK at*;replace gE:=Xj gE;cases hp:ez {n with links:=LS} with
      |false=>
       have hr:R=(Net.zero,9):=by rw[aP,if_pos hp]
       rw[hp]at Dw;rw[hr];clear hr aP hp PI;refine pj func65 ntmps65 results65 ?_;repeat' (first|(with_reducible refine And.intro ?_ ?_)|(with_reducible refine cm (fun _=>?_) (fun _=>?_))|(with_reducible refine aA (fun _=>?_) (fun _=>?_))|(with_reducible refine be (by kernel_rfl))|simp -dsimp only[go_sem,seval, *,aK,bJ,sZ,i7,undef]|((with_reducible refine bf ?_);simp -dsimp only[go_sem,seval,aK,bJ,sZ,i7,undef];first|refine aC (by first|assumption|exact i4|exact qk|exact Dw) (by first|exact .inl rfl|exact .inr rfl) ?_|(refine aB (by assumption) ?_ ?_ ?_;(solve|(repeat(first|exact ai.refl _|exact ai.nil _|(refine ai.tup ?_)|(refine ai.agg ?_ rfl)|exact trivial|(refine And.intro ?_ ?_))));(solve|exact .inl rfl|exact .inr rfl)))|(refine aX [] (cQ) ?_ ?_ ?_ ?_ ?_ ?_;(solve|rfl|simp only[go_sem,seval,aK]);(solve|rfl);(solve|decide);(solve|simp);(solve|simp only[go_sem,seval,ax,aK]))|(refine aX [4,5,3] (jY) ?_ ?_ ?_ ?_ ?_ ?_;(solve|rfl|simp only[go_sem,seval,aK]);(solve|rfl);(solve|decide);(solve|simp);(solve|simp only[go_sem,seval,ax,aK]))|(refine aX [4,5,3] (lu) ?_ ?_ ?_ ?_ ?_ ?_;(solve|rfl|simp only[go_sem,seval,aK]);(solve|rfl);(solve|decide);(solve|simp);(solve|simp only[go_sem,seval,ax,aK]))|(refine aX [3] (nF) ?_ ?_ ?_ ?_ ?_ ?_;(solve|rfl|simp only[go_sem,seval,bJ]);(solve|rfl);(solve|decide);(solve|simp);(solve|simp only[go_sem,seval,ax,bJ]))|omega|exact decide_eq_true (by omega)|exact ai.refl _)
       all_goals exact dg
      |true=>
       rw[hp]at Dw;by_cases IU:n.links.length+1>12
       ·have hr:R=(Net.zero,2):=by rw[aP,if_neg (by simp[hp]),if_pos IU]
        have Tu:decide ((LS.length:Int)>12)=true:=by rw[o9];exact decide_eq_true (PI.2 IU)
        rw[hr];clear hr aP hp PI IU;replace o9:=Xj o9;refine pj func65 ntmps65 results65 ?_;repeat' (first|(with_reducible refine And.intro ?_ ?_)|(with_reducible refine cm (fun _=>?_) (fun _=>?_))|(with_reducible refine aA (fun _=>?_) (fun _=>?_))|(with_reducible refine be (by kernel_rfl))|simp -dsimp only[go_sem,seval, *,aK,bJ,sZ,i7,Tu,undef]|((with_reducible refine bf ?_);simp -dsimp only[go_sem,seval,aK,bJ,sZ,i7,Tu,undef];first|refine aC (by first|assumption|exact i4|exact qk|exact Dw) (by first|exact .inl rfl|exact .inr rfl) ?_|(refine aB (by assumption) ?_ ?_ ?_;(solve|(repeat(first|exact ai.refl _|exact ai.nil _|(refine ai.tup ?_)|(refine ai.agg ?_ rfl)|exact trivial|(refine And.intro ?_ ?_))));(solve|exact .inl rfl|exact .inr rfl)))|(refine aX [] (cQ) ?_ ?_ ?_ ?_ ?_ ?_;(solve|rfl|simp only[go_sem,seval,aK]);(solve|rfl);(solve|decide);(solve|simp);(solve|simp only[go_sem,seval,ax,aK]))|(refine aX [4,5,3] (jY) ?_ ?_ ?_ ?_ ?_ ?_;(solve|rfl|simp only[go_sem,seval,aK]);(solve|rfl);(solve|decide);(solve|simp);(solve|simp only[go_sem,seval,ax,aK]))|(refine aX [4,5,3] (lu) ?_ ?_ ?_ ?_ ?_ ?_;(solve|rfl|simp only[go_sem,seval,aK]);(solve|rfl);(solve|decide);(solve|simp);(solve|simp only[go_sem,seval,ax,aK]))|(refine aX [3] (nF) ?_ ?_ ?_ ?_ ?_ ?_;(solve|rfl|simp only[go_sem,seval,bJ]);(solve|rfl);(solve|decide);(solve|simp);(solve|simp only[go_sem,seval,ax,bJ]))|omega|exact decide_eq_true (by omega)|exact ai.refl _)
        all_goals exact dg
       ·have hr:R=({n with links:=LS},0):=by rw[aP,if_neg (by simp[hp]),if_neg IU]
        have Tu:decide ((LS.length:Int)>12)=false:=by rw[o9];exact decide_eq_false (fun h=>IU (PI.1 h))
        rw[hr];clear hr aP hp PI IU;replace o9:=Xj o9;refine pj func65 ntmps65 results65 ?_;repeat' (first|(with_reducible refine And.intro ?_ ?_)|(with_reducible refine cm (fun _=>?_) (fun _=>?_))|(with_reducible refine aA (fun _=>?_) (fun _=>?_))|(with_reducible refine be (by kernel_rfl))|simp -dsimp only[go_sem,seval, *,aK,bJ,sZ,i7,Tu,undef]|((with_reducible refine bf ?_);simp -dsimp only[go_sem,seval,aK,bJ,sZ,i7,Tu,undef];first|refine aC (by first|assumption|exact i4|exact qk|exact Dw) (by first|exact .inl rfl|exact .inr rfl) ?_|(refine aB (by assumption) ?_ ?_ ?_;(solve|(repeat(first|exact ai.refl _|exact ai.nil _|(refine ai.tup ?_)|(refine ai.agg ?_ rfl)|exact trivial|(refine And.intro ?_ ?_))));(solve|exact .inl rfl|exact .inr rfl)))|(refine aX [] (cQ) ?_ ?_ ?_ ?_ ?_ ?_;(solve|rfl|simp only[go_sem,seval,aK]);(solve|rfl);(solve|decide);(solve|simp);(solve|simp only[go_sem,seval,ax,aK]))|(refine aX [4,5,3] (jY) ?_ ?_ ?_ ?_ ?_ ?_;(solve|rfl|simp only[go_sem,seval,aK]);(solve|rfl);(solve|decide);(solve|simp);(solve|simp only[go_sem,seval,ax,aK]))|(refine aX [4,5,3] (lu) ?_ ?_ ?_ ?_ ?_ ?_;(solve|rfl|simp only[go_sem,seval,aK]);(solve|rfl);(solve|decide);(solve|simp);(solve|simp only[go_sem,seval,ax,aK]))|(refine aX [3] (nF) ?_ ?_ ?_ ?_ ?_ ?_;(solve|rfl|simp only[go_sem,seval,bJ]);(solve|rfl);(solve|decide);(solve|simp);(solve|simp only[go_sem,seval,ax,bJ]))|omega|exact decide_eq_true (by omega)|exact ai.refl _)
        all_goals exact dg
 ·have cQ:=oZ n hc;have h1:(cK n !=0)=true:=by simpa using hc
  have hr:R=(Net.zero,cK n):=by rw[hR.out];unfold jb;rw[if_pos hc]
  rw[hr];replace hr:=Xj hr;refine pj func65 ntmps65 results65 ?_;have z1z:=Ln.mk (ls:=[]) (cQ);refine am ?_<;>intros;all_goals exact dg
def tF (E:List (List Int × Int))(id:Int):Bool:=E.any fun kv=>kv.2==id
theorem Qt (b:Bok)(n:Net)(c:Cmd)(id:Int)(h8:b.pools.length≤1000000000)(fu:∀p∈b.pools,p.leases.length≤1000000000):
 MSpec prog 63 [.ptr 0 0,.d (.v (.int .i64 id))] [.box 86 (ja b (.own 1 n.vpcs.length) (.d (.sl 2 (n.links.map bJ))) c .zero),.row 55 3 n.vpcs.length (ab (n.vpcs.map al))] (.d (.v (.bool (tF (t9 b) id))))
  [.box 86 (ja b (.own 1 n.vpcs.length) (.d (.sl 2 (n.links.map bJ))) c .zero),.row 55 3 n.vpcs.length (ab (n.vpcs.map al))]:=by
 have hu:=Ln.mk (ls:=[]) (FW b h8 fu);obtain⟨R,hR⟩:∃R,R=tF (t9 b) id:=⟨_,rfl⟩;rw[←hR];replace hR:=Xj hR;clear h8 fu;generalize t9 b=E at*;refine iN ae ak func63 rfl ntmps63 results63 (by kernel_rfl) (by simp) (by simp[an,aq]) (by simp[aH,aQ,an,aq,ja,bn,az]) ?_;refine am ?_;refine Ph (fun m e h=>∃(seen:List Nat),(∀i∈seen,∀kv,E[i]? =some kv→kv.2≠id)∧m=B9 E.length seen∧e=[(13,.ptr 4 0),(1,.d (.v (.int .i64 id)))]∧h=[.box 86 (ja b (.own 1 n.vpcs.length) (.d (.sl 2 (n.links.map bJ))) c .zero),.row 55 3 n.vpcs.length (ab (n.vpcs.map al)),.gone,.gone,.it 3 true E seen]) _ _ _ ⟨[],by simp,rfl,rfl,rfl⟩ (wf (hbh:=by simp only[ja,aH,eh,aQ,an,cC,aq,bn,az,XA,XZ,XM,ZR,decide_true,Yp,YA])) ?_;rintro m e h ⟨seen,cf,hm,rfl,rfl⟩ C2 jz;replace cf:=Xj cf;refine FH ae ak (by rfl) (BM (k:=4) (x:= .tmp 13) ae (by simp) rfl rfl rfl rfl rfl rfl (by decide) (by decide) rfl rfl (by simp) ?_ ?_)
 ·intro bP;have hr:R=false:=by
   rw[hR.out];unfold tF;rw[YE];intro h;obtain⟨kv,Gz,he⟩:=XU.1 h;obtain⟨i,hi,TP⟩:=Yb Gz;exact cf.out i (bP i hi) kv (by rw[Xk hi,TP]) (by simpa using he)
  rw[hr];clear bP hm hr;change sC _ _ _ _ _ _ _ _ _ _;refine am ?_;exact wf
 ·intro i hi RN;obtain⟨kv,Gz⟩:∃kv,E[i]? =some kv:=⟨_,Xk hi⟩;have Wk:(seen++[i]).getLast? =some i:=by simp
  have wV:=FX hi RN;by_cases hid:kv.2=id
  ·have hr:R=true:=by
    rw[hR.out];unfold tF;exact XU.2 ⟨kv,Xl Gz,by simpa using hid⟩
   rw[hr];have e1:(kv.2==id)=true:=by simpa using hid
   replace hid:=Xj hid;clear hm wV hr;change sC _ _ _ _ _ _ _ _ _ _;refine am ?_;exact wf
  ·have e1:(kv.2==id)=false:=by simpa using hid
   have QT:∀j∈seen++[i],∀kw,E[j]? =some kw→kw.2≠id:=fun j hj kw Vg=>by
    rcases X2.1 hj with h|h
    ·exact cf.out j h kw Vg
    ·simp at h;subst h;rw[Gz]at Vg;cases Vg;exact hid
   replace QT:=Xj QT;replace hid:=Xj hid;replace wV:=Xj wV;change sC _ _ _ _ _ _ _ _ _ _;refine am ?_;exact jz _ _ _ _ _ (by rw[hm];exact wV.out) ⟨_,QT.out,rfl,rfl,rfl⟩ (wf (hbh:=by simp only[ja,aH,eh,aQ,an,cC,aq,bn,az,XA,XZ,XM,ZR,decide_true,Yp,YA]))
def yP (c:Cmd):Bool:=decide (c.op=7∨c.op=15∨c.op=16)
def xB (b:Bok)(n:Net)(c:Cmd):Net × Ans:=
 if c.op=7 then if tF (t9 b) c.a=true then (n,.er 6)else ((iD n c.a).1,.er (iD n c.a).2)
 else if c.op=15 then ((jb n c.a c.b).1,.er (jb n c.a c.b).2)
 else ((iC n c.a c.b).1,.er (iC n c.a c.b).2)
theorem Qu (b:Bok)(n:Net)(c:Cmd)(h:yP c=false):
 MSpec prog 28 [.ptr 0 0] [.box 86 (ja b (.own 1 n.vpcs.length) (.d (.sl 2 (n.links.map bJ))) c .zero),.row 55 3 n.vpcs.length (ab (n.vpcs.map al))] (.d (.v (.bool false)))
  [.box 86 (ja b (.own 1 n.vpcs.length) (.d (.sl 2 (n.links.map bJ))) c .zero),.row 55 3 n.vpcs.length (ab (n.vpcs.map al))]:=by
 unfold yP at h;have h:=of_decide_eq_false h;have e1:(c.op==7)=false:=by simp;omega
 have e2:(c.op==15)=false:=by simp;omega
 have e3:(c.op==16)=false:=by simp;omega
 clear h;refine iN ae ak func28 rfl ntmps28 results28 (by kernel_rfl) (by simp) (by simp[an,aq]) (by simp[aH,aQ,an,aq,ja,bn,az]) ?_;refine am ?_;exact wf
theorem Qv (b:Bok)(n:Net)(c:Cmd)(h8:b.pools.length≤1000000000)(fu:∀p∈b.pools,p.leases.length≤1000000000)(h:yP c=true):
 MSpec prog 28 [.ptr 0 0] [.box 86 (ja b (.own 1 n.vpcs.length) (.d (.sl 2 (n.links.map bJ))) c .zero),.row 55 3 n.vpcs.length (ab (n.vpcs.map al))] (.d (.v (.bool true)))
  [.box 86 (ja b (.d (.sl 3 ((xB b n c).1.vpcs.map al))) (.d (.sl 2 ((xB b n c).1.links.map bJ))) c (xB b n c).2),.gone]:=by
 have lQ:c.op=7∨c.op=15∨c.op=16:=of_decide_eq_true h;clear h;unfold xB;rcases lQ with h1|h1|h1
 ·rw[if_pos h1];have ho:=Ln.mk (ls:=[0,1]) (Qt b n c c.a h8 fu);replace fu:=Xj fu;cases hb:tF (t9 b) c.a
  ·rw[hb]at ho;have hp:=Ln.mk (ls:=[1]) (vg (Oe n c.a) (args:=[.agg [.own 0 n.vpcs.length,.d (.sl 2 (n.links.map bJ))],.d (.v (.int .i64 c.a))]) (h0:=[.row 55 3 n.vpcs.length (ab (n.vpcs.map al))]) (by simp[an,aq]) (by simp[aH,aQ,az]) (by simp[vw,cJ,bp,aG,eG,aK]) (by simp[tc,jh,cT,aG,nU]));generalize iD n c.a=R at*;simp only[YB,if_false];simp only[ja,h1]at ho;replace hb:=Xj hb;refine iN ae ak func28 rfl ntmps28 results28 (by kernel_rfl) (by simp) (by simp[an,aq]) (by simp[aH,aQ,an,aq,ja,bn,az]) ?_;refine am ?_;exact wf
  ·rw[hb]at ho;simp only[if_true];simp only[ja,h1]at ho;replace hb:=Xj hb;refine iN ae ak func28 rfl ntmps28 results28 (by kernel_rfl) (by simp) (by simp[an,aq]) (by simp[aH,aQ,an,aq,ja,bn,az]) ?_;refine am ?_;refine(ap 1 n.vpcs.length 55 3 (n.vpcs.map al) rfl).trans ?_;simp only[iu,fz,gr,f7,gV,f5,aR,bR,bW,Xm,Xu,XM,XL,reduceIte,and_true,true_and,and_self,and_false,false_and,XG,XW,reduceCtorEq];exact wf
 ·rw[if_neg (by omega),if_pos h1];have hp:=Ln.mk (ls:=[1]) (vg (Of n c.a c.b) (args:=[.agg [.own 0 n.vpcs.length,.d (.sl 2 (n.links.map bJ))],.d (.v (.int .i64 c.a)),.d (.v (.int .i64 c.b))]) (h0:=[.row 55 3 n.vpcs.length (ab (n.vpcs.map al))]) (by simp[an,aq]) (by simp[aH,aQ,az]) (by simp[vw,cJ,bp,aG,eG,aK]) (by simp[tc,jh,cT,aG,nU]));generalize jb n c.a c.b=R at*;replace fu:=Xj fu;refine iN ae ak func28 rfl ntmps28 results28 (by kernel_rfl) (by simp) (by simp[an,aq]) (by simp[aH,aQ,an,aq,ja,bn,az]) ?_;refine am ?_;exact wf
 ·rw[if_neg (by omega),if_neg (by omega)];have hp:=Ln.mk (ls:=[1]) (vg (Oa n c.a c.b) (args:=[.agg [.own 0 n.vpcs.length,.d (.sl 2 (n.links.map bJ))],.d (.v (.int .i64 c.a)),.d (.v (.int .i64 c.b))]) (h0:=[.row 55 3 n.vpcs.length (ab (n.vpcs.map al))]) (by simp[an,aq]) (by simp[aH,aQ,az]) (by simp[vw,cJ,bp,aG,eG,aK]) (by simp[tc,jh,cT,aG,nU]));generalize iC n c.a c.b=R at*;replace fu:=Xj fu;refine iN ae ak func28 rfl ntmps28 results28 (by kernel_rfl) (by simp) (by simp[an,aq]) (by simp[aH,aQ,an,aq,ja,bn,az]) ?_;refine am ?_;exact wf
theorem v8 (v:Vpc)(pre post:List Sbn)(s0:Sbn)(hv:v.subs=pre++s0::post)(h:bN v=0)(h4:v.ranges.length≤4)(h6:v.subs.length≤6)(h8:∀s∈v.subs,s.faces.length≤8∧∀f∈s.faces,f.addrs.length≤4):
 MSpec prog 142 [.d (.agg (al v))] [] (.tup [.ptr 2 0,.d (.v (.int .i64 0))]) [.gone,.row 58 3 1 (ab (v.ranges.map bv)),.box 55 [.d (.v (.int .i64 v.id)),.own 1 1,.own 3 v.subs.length],.row 71 4 v.subs.length (eR aU pre (ci s0 (.own 6 s0.faces.length)) post),
  .gone,.gone,.row 74 2 s0.faces.length (ab (s0.faces.map cl))]:=by
 have hc:=og v;rw[h]at hc;replace h:=Xj h;replace h8:=Xj h8;have bT:v.subs.length=pre.length+1+post.length:=by rw[hv];simp;omega
 have hL:=Xj hv;have bU:=Xj bT;clear hv bT;have fS:=jQ bv v.ranges (by omega);refine mj func142 ntmps142 results142 ?_;have z1z:=Ln.mk (ls:=[]) (fS);refine am ?_<;>intros;refine bL ae ak (fun m e h=>(∃k,k≤pre.length∧m=v.subs.length - k∧e=[(28,.d (.v (.int .i64 k))),(27,.d (.v (.int .i64 v.subs.length))),(26,.d (.sl 4 (v.subs.map aU))),(5,.ptr 2 0)]∧
  h=[.gone,.row 58 3 1 (ab (v.ranges.map bv)),.box 55 [.d (.v (.int .i64 v.id)),.own 1 1,.own 3 k],.row 71 4 k (ab ((pre.take k).map aU))])∨
  ∃k j,k=pre.length+1+j∧j≤post.length∧m=v.subs.length - k∧e=[(28,.d (.v (.int .i64 k))),(27,.d (.v (.int .i64 v.subs.length))),(26,.d (.sl 4 (v.subs.map aU))),(5,.ptr 2 0)]∧
   h=[.gone,.row 58 3 1 (ab (v.ranges.map bv)),.box 55 [.d (.v (.int .i64 v.id)),.own 1 1,.own 3 k],.row 71 4 k (eR aU pre (ci s0 (.own 6 s0.faces.length)) (post.take j)),.gone,.gone,.row 74 2 s0.faces.length (ab (s0.faces.map cl))]) _ _ _ (.inl ⟨0,XD _,rfl,rfl,rfl⟩) ?_ ?_
 ·refine(aL 0 (by simp)).trans ((au (by simp) 2 55 [.d (.v (.int .i64 v.id)),.own 1 1,.d (.v (.slice none 0 0))] 2 71 4 rfl rfl rfl).trans ?_);exact wf (hb:=cI) (hbh:=cI)
 ·rintro m e h (⟨k,hk,hm,rfl,rfl⟩|⟨k,q,AI,hj,hm,rfl,rfl⟩) CO sX
  ·have dH:(k:Int) < (v.subs.length:Int):=by have:=bU.out;omega
   have cM:=wi k (by omega);have i7:k+1≤100:=by have:=bU.out;omega
   have i4:(Yf k pre).length=k:=by rw[Xp];omega
   have hm:=Xj hm;by_cases lK:k < pre.length
   ·obtain⟨s,hq⟩:∃s,pre[k]? =some s:=⟨_,Xk lK⟩;have hs:v.subs[k]? =some s:=by rw[hL.out,X4 lK];exact hq
    have iH:=h8.out s (Xl hs);replace hs:=Xj hs;replace hq:=Xj hq;have lh:=hs.out;refine am ?_<;>intros;refine bg ae ak s.faces (fun _=>True) (fun j=>[(40,.d (.v (.int .i64 j))),(39,.d (.v (.int .i64 s.faces.length))),(38,.d (.sl 2 (s.faces.map cl))),(28,.d (.v (.int .i64 k))),(27,.d (.v (.int .i64 v.subs.length))),(26,.d (.sl 4 (v.subs.map aU))),(8,.ptr 5 0),(5,.ptr 2 0)])
     (fun j=>[.gone,.row 58 3 1 (ab (v.ranges.map bv)),.box 55 [.d (.v (.int .i64 v.id)),.own 1 1,.own 3 k],.row 71 4 k (ab ((pre.take k).map aU)),.gone,.box 71 [.d (.v (.int .i64 s.id)),.d (.v (.int .i64 s.at_.at_)),.d (.v (.int .i64 s.at_.len)),.own 6 j],.row 74 2 j (ab ((s.faces.take j).map cl))]) trivial ?_ ?_ ?_
    ·refine(aL 4 (by simp)).trans ((au (by simp) 5 71 [.d (.v (.int .i64 s.id)),.d (.v (.int .i64 s.at_.at_)),.d (.v (.int .i64 s.at_.len)),.d (.v (.slice none 0 0))] 3 74 2 rfl rfl rfl).trans ?_);exact wf (hb:=cI) (hbh:=cI)
    ·intro j f hf hj _ C hC;have ic:(j:Int) < (s.faces.length:Int):=by omega
     have j6:=wi j (by omega);have gS:=iH.2 f (Xl hf);have jd:j+1≤100:=by omega
     have pf:(Yf j s.faces).length=j:=by rw[Xp];omega
     replace hf:=Xj hf;have zj:=hf.out;have z1z:=Ln.mk (ls:=[]) (fj f.addrs (by omega));refine am ?_<;>intros;refine hC _ _ trivial ((ap 8 1 3 1 (f.addrs.map cD) rfl).trans ?_);simp only[iu,fz,gr,f7,gV,f5,aR,bR,bW,Xm,Xu,XM,XL,reduceIte,and_true,true_and,and_self,and_false,false_and,XG,XW,reduceCtorEq,cV];exact wf (hh:=(by rw[ag hf.out,Xo,Xm,Xu,←aI];rfl)) (hb:=cI) (hbh:=cI)
    ·intro _ C;refine am ?_<;>intros;refine sX _ _ _ _ _ ?_ (.inl ⟨k+1,lK,rfl,rfl,rfl⟩) ((ap 6 s.faces.length 74 2 (s.faces.map cl) rfl).trans ?_)
     ·have:=hm.out;have:=bU.out;omega
     simp only[iu,fz,gr,f7,gV,f5,aR,bR,bW,Xm,Xu,XM,XL,reduceIte,and_true,true_and,and_self,and_false,false_and,XG,XW,reduceCtorEq];exact wf (hh:=(by rw[ag hq.out,Xo,Xm,Xu,←aI];rfl)) (hb:=cI) (hbh:=cI)
   ·obtain rfl:k=pre.length:=by omega
    have hs:v.subs[pre.length]? =some s0:=by rw[hL.out,XK (XB _),YG];rfl
    have iH:=h8.out s0 (Xl hs);replace hs:=Xj hs;have lh:=hs.out;obtain⟨k,iV⟩:∃k,k=pre.length:=⟨_,rfl⟩;obtain⟨s,oK⟩:∃s,s=s0:=⟨_,rfl⟩;rw[←oK]at iH lh sX ⊢;rw[←iV]at lh dH cM i7 i4 sX ⊢;rw[iV,Xt]at i4;replace oK:=Xj oK;replace iV:=Xj iV;refine am ?_<;>intros;refine bg ae ak s.faces (fun _=>True) (fun j=>[(40,.d (.v (.int .i64 j))),(39,.d (.v (.int .i64 s.faces.length))),(38,.d (.sl 2 (s.faces.map cl))),(28,.d (.v (.int .i64 k))),(27,.d (.v (.int .i64 v.subs.length))),(26,.d (.sl 4 (v.subs.map aU))),(8,.ptr 5 0),(5,.ptr 2 0)])
     (fun j=>[.gone,.row 58 3 1 (ab (v.ranges.map bv)),.box 55 [.d (.v (.int .i64 v.id)),.own 1 1,.own 3 k],.row 71 4 k (ab ((pre.take k).map aU)),.gone,.box 71 [.d (.v (.int .i64 s.id)),.d (.v (.int .i64 s.at_.at_)),.d (.v (.int .i64 s.at_.len)),.own 6 j],.row 74 2 j (ab ((s.faces.take j).map cl))]) trivial ?_ ?_ ?_
    ·refine(aL 4 (by simp)).trans ((au (by simp) 5 71 [.d (.v (.int .i64 s.id)),.d (.v (.int .i64 s.at_.at_)),.d (.v (.int .i64 s.at_.len)),.d (.v (.slice none 0 0))] 3 74 2 rfl rfl rfl).trans ?_);exact wf (hb:=cI) (hbh:=cI)
    ·intro j f hf hj _ C hC;have ic:(j:Int) < (s.faces.length:Int):=by omega
     have j6:=wi j (by omega);have gS:=iH.2 f (Xl hf);have jd:j+1≤100:=by omega
     have pf:(Yf j s.faces).length=j:=by rw[Xp];omega
     replace hf:=Xj hf;have zj:=hf.out;have z1z:=Ln.mk (ls:=[]) (fj f.addrs (by omega));refine am ?_<;>intros;refine hC _ _ trivial ((ap 8 1 3 1 (f.addrs.map cD) rfl).trans ?_);simp only[iu,fz,gr,f7,gV,f5,aR,bR,bW,Xm,Xu,XM,XL,reduceIte,and_true,true_and,and_self,and_false,false_and,XG,XW,reduceCtorEq,cV];exact wf (hh:=(by rw[ag hf.out,Xo,Xm,Xu,←aI];rfl)) (hb:=cI) (hbh:=cI)
    ·intro _ C;have Rr:(Yf k pre).length=k:=by rw[iV.out,Xt]
     refine am ?_<;>intros;refine sX _ _ _ _ _ ?_ (.inr ⟨k+1,0,by rw[iV.out],XD _,rfl,rfl,rfl⟩) ((aL 5 (by simp)).trans ?_)
     ·have:=hm.out;have:=bU.out;have:=iV.out;omega
     exact wf (hh:=(by rw[iV.out,Xt];rfl)) (hb:=cI) (hbh:=cI)
  ·have hm:=Xj hm;have rP:=Xj AI;have i7:pre.length+1+q+1≤100:=by have:=bU.out;omega
   have i4:(Yf q post).length=q:=by rw[Xp];omega
   have uw:k≤v.subs.length:=by have:=bU.out;omega
   by_cases w8:q < post.length
   ·obtain⟨s,hq⟩:∃s,post[q]? =some s:=⟨_,Xk w8⟩;have hs:v.subs[k]? =some s:=by
     rw[hL.out,XK (by omega),show k - pre.length=q+1 by omega,Yw];exact hq
    have iH:=h8.out s (Xl hs);have dH:(k:Int) < (v.subs.length:Int):=by have:=bU.out;omega
    have cM:=wi k (by omega);replace hq:=Xj hq;replace hs:=Xj hs;have lh:=hs.out;clear AI;refine am ?_<;>intros;refine bg ae ak s.faces (fun _=>True) (fun j=>[(40,.d (.v (.int .i64 j))),(39,.d (.v (.int .i64 s.faces.length))),(38,.d (.sl 2 (s.faces.map cl))),(28,.d (.v (.int .i64 k))),(27,.d (.v (.int .i64 v.subs.length))),(26,.d (.sl 4 (v.subs.map aU))),(8,.ptr 8 0),(5,.ptr 2 0)])
     (fun j=>[.gone,.row 58 3 1 (ab (v.ranges.map bv)),.box 55 [.d (.v (.int .i64 v.id)),.own 1 1,.own 3 k],.row 71 4 k (eR aU pre (ci s0 (.own 6 s0.faces.length)) (post.take q)),.gone,.gone,.row 74 2 s0.faces.length (ab (s0.faces.map cl)),.gone,.box 71 [.d (.v (.int .i64 s.id)),.d (.v (.int .i64 s.at_.at_)),.d (.v (.int .i64 s.at_.len)),.own 9 j],.row 74 2 j (ab ((s.faces.take j).map cl))]) trivial ?_ ?_ ?_
    ·refine(aL 7 (by simp)).trans ((au (by simp) 8 71 [.d (.v (.int .i64 s.id)),.d (.v (.int .i64 s.at_.at_)),.d (.v (.int .i64 s.at_.len)),.d (.v (.slice none 0 0))] 3 74 2 rfl rfl rfl).trans ?_);exact wf (hb:=cI) (hbh:=cI)
    ·intro j f hf hj _ C hC;have ic:(j:Int) < (s.faces.length:Int):=by omega
     have j6:=wi j (by omega);have gS:=iH.2 f (Xl hf);have jd:j+1≤100:=by omega
     have pf:(Yf j s.faces).length=j:=by rw[Xp];omega
     replace hf:=Xj hf;have zj:=hf.out;have z1z:=Ln.mk (ls:=[]) (fj f.addrs (by omega));refine am ?_<;>intros;refine hC _ _ trivial ((ap 11 1 3 1 (f.addrs.map cD) rfl).trans ?_);simp only[iu,fz,gr,f7,gV,f5,aR,bR,bW,Xm,Xu,XM,XL,reduceIte,and_true,true_and,and_self,and_false,false_and,XG,XW,reduceCtorEq,cV];exact wf (hh:=(by rw[ag hf.out,Xo,Xm,Xu,←aI];rfl)) (hb:=cI) (hbh:=cI)
    ·intro _ C;refine am ?_<;>intros;refine sX _ _ _ _ _ ?_ (.inr ⟨k+1,q+1,by have:=rP.out;omega,w8,rfl,rfl,rfl⟩) ((ap 9 s.faces.length 74 2 (s.faces.map cl) rfl).trans ?_)
     ·have:=hm.out;have:=bU.out;have:=rP.out;omega
     simp only[iu,fz,gr,f7,gV,f5,aR,bR,bW,Xm,Xu,XM,XL,reduceIte,and_true,true_and,and_self,and_false,false_and,XG,XW,reduceCtorEq,cV,ci];exact wf (hh:=(by rw[ag hq.out,←kD];rfl)) (hb:=cI) (hbh:=cI)
   ·obtain rfl:q=post.length:=by omega
    obtain rfl:k=v.subs.length:=by have:=bU.out;omega
    clear AI;refine am ?_<;>intros;(try rw[Xt])
    exact bo rfl rfl
theorem K8 (v:Vpc)(pre post:List Sbn)(s0:Sbn)(preF postF:List Fce)(f0:Fce)(hv:v.subs=pre++s0::post)(xQ:s0.faces=preF++f0::postF)(h:bN v=0)(h4:v.ranges.length≤4)(h6:v.subs.length≤6)(h8:∀s∈v.subs,s.faces.length≤8∧∀f∈s.faces,f.addrs.length≤4):
 MSpec prog 142 [.d (.agg (al v))] [] (.tup [.ptr 2 0,.d (.v (.int .i64 0))]) [.gone,.row 58 3 1 (ab (v.ranges.map bv)),.box 55 [.d (.v (.int .i64 v.id)),.own 1 1,.own 3 v.subs.length],.row 71 4 v.subs.length (eR aU pre (ci s0 (.own 6 s0.faces.length)) post),
  .gone,.gone,.row 74 2 s0.faces.length (eR cl preF (d6 f0 (.own 8 1)) postF),.gone,.row 3 1 1 (ab (f0.addrs.map cD))]:=by
 have hc:=og v;rw[h]at hc;replace h:=Xj h;replace h8:=Xj h8;have bT:v.subs.length=pre.length+1+post.length:=by rw[hv];simp;omega
 have hL:=Xj hv;have bU:=Xj bT;clear hv bT;have DF:s0.faces.length=preF.length+1+postF.length:=by rw[xQ];simp;omega
 have Rs:=Xj xQ;have gD:=Xj DF;clear xQ DF;have fS:=jQ bv v.ranges (by omega);refine mj func142 ntmps142 results142 ?_;have z1z:=Ln.mk (ls:=[]) (fS);refine am ?_<;>intros;refine bL ae ak (fun m e h=>(∃k,k≤pre.length∧m=v.subs.length - k∧e=[(28,.d (.v (.int .i64 k))),(27,.d (.v (.int .i64 v.subs.length))),(26,.d (.sl 4 (v.subs.map aU))),(5,.ptr 2 0)]∧
  h=[.gone,.row 58 3 1 (ab (v.ranges.map bv)),.box 55 [.d (.v (.int .i64 v.id)),.own 1 1,.own 3 k],.row 71 4 k (ab ((pre.take k).map aU))])∨
  ∃k j,k=pre.length+1+j∧j≤post.length∧m=v.subs.length - k∧e=[(28,.d (.v (.int .i64 k))),(27,.d (.v (.int .i64 v.subs.length))),(26,.d (.sl 4 (v.subs.map aU))),(5,.ptr 2 0)]∧
   h=[.gone,.row 58 3 1 (ab (v.ranges.map bv)),.box 55 [.d (.v (.int .i64 v.id)),.own 1 1,.own 3 k],.row 71 4 k (eR aU pre (ci s0 (.own 6 s0.faces.length)) (post.take j)),.gone,.gone,.row 74 2 s0.faces.length (eR cl preF (d6 f0 (.own 8 1)) postF),.gone,.row 3 1 1 (ab (f0.addrs.map cD))]) _ _ _ (.inl ⟨0,XD _,rfl,rfl,rfl⟩) ?_ ?_
 ·refine(aL 0 (by simp)).trans ((au (by simp) 2 55 [.d (.v (.int .i64 v.id)),.own 1 1,.d (.v (.slice none 0 0))] 2 71 4 rfl rfl rfl).trans ?_);exact wf (hb:=cI) (hbh:=cI)
 ·rintro m e h (⟨k,hk,hm,rfl,rfl⟩|⟨k,q,AI,hj,hm,rfl,rfl⟩) CO sX
  ·have dH:(k:Int) < (v.subs.length:Int):=by have:=bU.out;omega
   have cM:=wi k (by omega);have i7:k+1≤100:=by have:=bU.out;omega
   have i4:(Yf k pre).length=k:=by rw[Xp];omega
   have hm:=Xj hm;by_cases lK:k < pre.length
   ·obtain⟨s,hq⟩:∃s,pre[k]? =some s:=⟨_,Xk lK⟩;have hs:v.subs[k]? =some s:=by rw[hL.out,X4 lK];exact hq
    have iH:=h8.out s (Xl hs);replace hs:=Xj hs;replace hq:=Xj hq;have lh:=hs.out;refine am ?_<;>intros;refine bg ae ak s.faces (fun _=>True) (fun j=>[(40,.d (.v (.int .i64 j))),(39,.d (.v (.int .i64 s.faces.length))),(38,.d (.sl 2 (s.faces.map cl))),(28,.d (.v (.int .i64 k))),(27,.d (.v (.int .i64 v.subs.length))),(26,.d (.sl 4 (v.subs.map aU))),(8,.ptr 5 0),(5,.ptr 2 0)])
     (fun j=>[.gone,.row 58 3 1 (ab (v.ranges.map bv)),.box 55 [.d (.v (.int .i64 v.id)),.own 1 1,.own 3 k],.row 71 4 k (ab ((pre.take k).map aU)),.gone,.box 71 [.d (.v (.int .i64 s.id)),.d (.v (.int .i64 s.at_.at_)),.d (.v (.int .i64 s.at_.len)),.own 6 j],.row 74 2 j (ab ((s.faces.take j).map cl))]) trivial ?_ ?_ ?_
    ·refine(aL 4 (by simp)).trans ((au (by simp) 5 71 [.d (.v (.int .i64 s.id)),.d (.v (.int .i64 s.at_.at_)),.d (.v (.int .i64 s.at_.len)),.d (.v (.slice none 0 0))] 3 74 2 rfl rfl rfl).trans ?_);exact wf (hb:=cI) (hbh:=cI)
    ·intro j f hf hj _ C hC;have ic:(j:Int) < (s.faces.length:Int):=by omega
     have j6:=wi j (by omega);have gS:=iH.2 f (Xl hf);have jd:j+1≤100:=by omega
     have pf:(Yf j s.faces).length=j:=by rw[Xp];omega
     replace hf:=Xj hf;have zj:=hf.out;have z1z:=Ln.mk (ls:=[]) (fj f.addrs (by omega));refine am ?_<;>intros;refine hC _ _ trivial ((ap 8 1 3 1 (f.addrs.map cD) rfl).trans ?_);simp only[iu,fz,gr,f7,gV,f5,aR,bR,bW,Xm,Xu,XM,XL,reduceIte,and_true,true_and,and_self,and_false,false_and,XG,XW,reduceCtorEq,cV];exact wf (hh:=(by rw[ag hf.out,Xo,Xm,Xu,←aI];rfl)) (hb:=cI) (hbh:=cI)
    ·intro _ C;refine am ?_<;>intros;refine sX _ _ _ _ _ ?_ (.inl ⟨k+1,lK,rfl,rfl,rfl⟩) ((ap 6 s.faces.length 74 2 (s.faces.map cl) rfl).trans ?_)
     ·have:=hm.out;have:=bU.out;omega
     simp only[iu,fz,gr,f7,gV,f5,aR,bR,bW,Xm,Xu,XM,XL,reduceIte,and_true,true_and,and_self,and_false,false_and,XG,XW,reduceCtorEq];exact wf (hh:=(by rw[ag hq.out,Xo,Xm,Xu,←aI];rfl)) (hb:=cI) (hbh:=cI)
   ·obtain rfl:k=pre.length:=by omega
    have hs:v.subs[pre.length]? =some s0:=by rw[hL.out,XK (XB _),YG];rfl
    have iH:=h8.out s0 (Xl hs);replace hs:=Xj hs;have lh:=hs.out;obtain⟨k,iV⟩:∃k,k=pre.length:=⟨_,rfl⟩;rw[←iV]at lh dH cM i7 i4 sX ⊢;rw[iV,Xt]at i4;replace iV:=Xj iV;refine am ?_<;>intros;refine bL ae ak (fun m e h=>(∃j,j≤preF.length∧m=s0.faces.length - j∧e=[(40,.d (.v (.int .i64 j))),(39,.d (.v (.int .i64 s0.faces.length))),(38,.d (.sl 2 (s0.faces.map cl))),(28,.d (.v (.int .i64 k))),(27,.d (.v (.int .i64 v.subs.length))),(26,.d (.sl 4 (v.subs.map aU))),(8,.ptr 5 0),(5,.ptr 2 0)]∧
     h=[.gone,.row 58 3 1 (ab (v.ranges.map bv)),.box 55 [.d (.v (.int .i64 v.id)),.own 1 1,.own 3 k],.row 71 4 k (ab ((pre.take k).map aU)),.gone,.box 71 [.d (.v (.int .i64 s0.id)),.d (.v (.int .i64 s0.at_.at_)),.d (.v (.int .i64 s0.at_.len)),.own 6 j],.row 74 2 j (ab ((preF.take j).map cl))])∨
     ∃j i,j=preF.length+1+i∧i≤postF.length∧m=s0.faces.length - j∧e=[(40,.d (.v (.int .i64 j))),(39,.d (.v (.int .i64 s0.faces.length))),(38,.d (.sl 2 (s0.faces.map cl))),(28,.d (.v (.int .i64 k))),(27,.d (.v (.int .i64 v.subs.length))),(26,.d (.sl 4 (v.subs.map aU))),(8,.ptr 5 0),(5,.ptr 2 0)]∧
      h=[.gone,.row 58 3 1 (ab (v.ranges.map bv)),.box 55 [.d (.v (.int .i64 v.id)),.own 1 1,.own 3 k],.row 71 4 k (ab ((pre.take k).map aU)),.gone,.box 71 [.d (.v (.int .i64 s0.id)),.d (.v (.int .i64 s0.at_.at_)),.d (.v (.int .i64 s0.at_.len)),.own 6 j],.row 74 2 j (eR cl preF (d6 f0 (.own 8 1)) (postF.take i)),.gone,.row 3 1 1 (ab (f0.addrs.map cD))]) _ _ _ (.inl ⟨0,XD _,rfl,rfl,rfl⟩) ?_ ?_
    ·refine(aL 4 (by simp)).trans ((au (by simp) 5 71 [.d (.v (.int .i64 s0.id)),.d (.v (.int .i64 s0.at_.at_)),.d (.v (.int .i64 s0.at_.len)),.d (.v (.slice none 0 0))] 3 74 2 rfl rfl rfl).trans ?_);exact wf (hb:=cI) (hbh:=cI)
    ·rintro m2 e h (⟨j,hj,gT,rfl,rfl⟩|⟨j,i,jW,hi,gT,rfl,rfl⟩) C hC
     ·have ic:(j:Int) < (s0.faces.length:Int):=by have:=gD.out;omega
      have j6:IntKind.i64.wrap ((j:Int)+1)=((j+1:Nat):Int):=by rw[IntKind.wrap_i64];have:=iH.1;omega
      have jd:j+1≤100:=by have:=iH.1;omega
      have pf:(Yf j preF).length=j:=by rw[Xp];omega
      have gT:=Xj gT;by_cases w8:j < preF.length
      ·obtain⟨f,hq⟩:∃f,preF[j]? =some f:=⟨_,Xk w8⟩;have hf:s0.faces[j]? =some f:=by rw[Rs.out,X4 w8];exact hq
       have gS:=iH.2 f (Xl hf);replace hf:=Xj hf;replace hq:=Xj hq;have zj:=hf.out;have z1z:=Ln.mk (ls:=[]) (fj f.addrs (by omega));refine am ?_<;>intros;refine hC _ _ _ _ _ ?_ (.inl ⟨j+1,w8,rfl,rfl,rfl⟩) ((ap 8 1 3 1 (f.addrs.map cD) rfl).trans ?_)
       ·have:=gT.out;have:=gD.out;omega
       simp only[iu,fz,gr,f7,gV,f5,aR,bR,bW,Xm,Xu,XM,XL,reduceIte,and_true,true_and,and_self,and_false,false_and,XG,XW,reduceCtorEq,cV];exact wf (hh:=(by rw[ag hq.out,Xo,Xm,Xu,←aI];rfl)) (hb:=cI) (hbh:=cI)
      ·obtain rfl:j=preF.length:=by omega
       have hf:s0.faces[preF.length]? =some f0:=by rw[Rs.out,XK (XB _),YG];rfl
       have gS:=iH.2 f0 (Xl hf);replace hf:=Xj hf;have zj:=hf.out;have z1z:=Ln.mk (ls:=[]) (fj f0.addrs (by omega));refine am ?_<;>intros;refine hC _ _ _ _ _ ?_ (.inr ⟨preF.length+1,0,rfl,XD _,rfl,rfl,rfl⟩) ((aL 7 (by simp)).trans ?_)
       ·have:=gT.out;have:=gD.out;omega
       exact wf (hb:=cI) (hbh:=cI)
     ·have gT:=Xj gT;have At:=Xj jW;have jd:preF.length+1+i+1≤100:=by have:=gD.out;have:=iH.1;omega
      have Ve:(Yf i postF).length=i:=by rw[Xp];omega
      have L8:j≤s0.faces.length:=by have:=gD.out;omega
      by_cases Tv:i < postF.length
      ·obtain⟨f,hq⟩:∃f,postF[i]? =some f:=⟨_,Xk Tv⟩;have hf:s0.faces[j]? =some f:=by
        rw[Rs.out,XK (by omega),show j - preF.length=i+1 by omega,Yw];exact hq
       have gS:=iH.2 f (Xl hf);have ic:(j:Int) < (s0.faces.length:Int):=by have:=gD.out;omega
       have j6:IntKind.i64.wrap ((j:Int)+1)=((j+1:Nat):Int):=by rw[IntKind.wrap_i64];have:=iH.1;omega
       replace hf:=Xj hf;replace hq:=Xj hq;have zj:=hf.out;clear jW;have z1z:=Ln.mk (ls:=[]) (fj f.addrs (by omega));refine am ?_<;>intros;refine hC _ _ _ _ _ ?_ (.inr ⟨j+1,i+1,by have:=At.out;omega,Tv,rfl,rfl,rfl⟩) ((ap 10 1 3 1 (f.addrs.map cD) rfl).trans ?_)
       ·have:=gT.out;have:=gD.out;have:=At.out;omega
       simp only[iu,fz,gr,f7,gV,f5,aR,bR,bW,Xm,Xu,XM,XL,reduceIte,and_true,true_and,and_self,and_false,false_and,XG,XW,reduceCtorEq,cV,d6];exact wf (hh:=(by rw[ag hq.out,←kD];rfl)) (hb:=cI) (hbh:=cI)
      ·obtain rfl:i=postF.length:=by omega
       obtain rfl:j=s0.faces.length:=by have:=gD.out;omega
       clear jW;have Rr:(Yf k pre).length=k:=by rw[iV.out,Xt]
       refine am ?_<;>intros;refine sX _ _ _ _ _ ?_ (.inr ⟨k+1,0,by rw[iV.out],XD _,rfl,rfl,rfl⟩) ((aL 5 (by simp)).trans ?_)
       ·have:=hm.out;have:=bU.out;have:=iV.out;omega
       exact wf (hh:=(by rw[iV.out,Xt];rfl)) (hb:=cI) (hbh:=cI)
  ·have hm:=Xj hm;have rP:=Xj AI;have i7:pre.length+1+q+1≤100:=by have:=bU.out;omega
   have i4:(Yf q post).length=q:=by rw[Xp];omega
   have uw:k≤v.subs.length:=by have:=bU.out;omega
   by_cases w8:q < post.length
   ·obtain⟨s,hq⟩:∃s,post[q]? =some s:=⟨_,Xk w8⟩;have hs:v.subs[k]? =some s:=by
     rw[hL.out,XK (by omega),show k - pre.length=q+1 by omega,Yw];exact hq
    have iH:=h8.out s (Xl hs);have dH:(k:Int) < (v.subs.length:Int):=by have:=bU.out;omega
    have cM:=wi k (by omega);replace hq:=Xj hq;replace hs:=Xj hs;have lh:=hs.out;clear AI;refine am ?_<;>intros;refine bg ae ak s.faces (fun _=>True) (fun j=>[(40,.d (.v (.int .i64 j))),(39,.d (.v (.int .i64 s.faces.length))),(38,.d (.sl 2 (s.faces.map cl))),(28,.d (.v (.int .i64 k))),(27,.d (.v (.int .i64 v.subs.length))),(26,.d (.sl 4 (v.subs.map aU))),(8,.ptr 10 0),(5,.ptr 2 0)])
     (fun j=>[.gone,.row 58 3 1 (ab (v.ranges.map bv)),.box 55 [.d (.v (.int .i64 v.id)),.own 1 1,.own 3 k],.row 71 4 k (eR aU pre (ci s0 (.own 6 s0.faces.length)) (post.take q)),.gone,.gone,.row 74 2 s0.faces.length (eR cl preF (d6 f0 (.own 8 1)) postF),.gone,.row 3 1 1 (ab (f0.addrs.map cD)),.gone,.box 71 [.d (.v (.int .i64 s.id)),.d (.v (.int .i64 s.at_.at_)),.d (.v (.int .i64 s.at_.len)),.own 11 j],.row 74 2 j (ab ((s.faces.take j).map cl))]) trivial ?_ ?_ ?_
    ·refine(aL 9 (by simp)).trans ((au (by simp) 10 71 [.d (.v (.int .i64 s.id)),.d (.v (.int .i64 s.at_.at_)),.d (.v (.int .i64 s.at_.len)),.d (.v (.slice none 0 0))] 3 74 2 rfl rfl rfl).trans ?_);exact wf (hb:=cI) (hbh:=cI)
    ·intro j f hf hj _ C hC;have ic:(j:Int) < (s.faces.length:Int):=by omega
     have j6:=wi j (by omega);have gS:=iH.2 f (Xl hf);have jd:j+1≤100:=by omega
     have pf:(Yf j s.faces).length=j:=by rw[Xp];omega
     replace hf:=Xj hf;have zj:=hf.out;have z1z:=Ln.mk (ls:=[]) (fj f.addrs (by omega));refine am ?_<;>intros;refine hC _ _ trivial ((ap 13 1 3 1 (f.addrs.map cD) rfl).trans ?_);simp only[iu,fz,gr,f7,gV,f5,aR,bR,bW,Xm,Xu,XM,XL,reduceIte,and_true,true_and,and_self,and_false,false_and,XG,XW,reduceCtorEq,cV];exact wf (hh:=(by rw[ag hf.out,Xo,Xm,Xu,←aI];rfl)) (hb:=cI) (hbh:=cI)
    ·intro _ C;refine am ?_<;>intros;refine sX _ _ _ _ _ ?_ (.inr ⟨k+1,q+1,by have:=rP.out;omega,w8,rfl,rfl,rfl⟩) ((ap 11 s.faces.length 74 2 (s.faces.map cl) rfl).trans ?_)
     ·have:=hm.out;have:=bU.out;have:=rP.out;omega
     simp only[iu,fz,gr,f7,gV,f5,aR,bR,bW,Xm,Xu,XM,XL,reduceIte,and_true,true_and,and_self,and_false,false_and,XG,XW,reduceCtorEq,cV,ci];exact wf (hh:=(by rw[ag hq.out,←kD];rfl)) (hb:=cI) (hbh:=cI)
   ·obtain rfl:q=post.length:=by omega
    obtain rfl:k=v.subs.length:=by have:=bU.out;omega
    clear AI;refine am ?_<;>intros;(try rw[Xt])
    exact bo rfl rfl
theorem Ad {α:Type}{enc:α→List D}(l:List α)(i j g:Nat)(hi:i < l.length)(hj:j=i+1):
 MSpec prog 147 [.own 0 g,.d (.v (.int .i64 i)),.d (.v (.int .i64 j))] [.row 58 3 g (ab (l.map enc))] (.own 0 (g+1)) [.row 58 3 (g+1) (ab ((l.eraseIdx i).map enc))]:=by
 have h1:((i:Int)==(j:Int))=false:=by simp;omega
 have bB:¬ab (l.map enc)=[]:=by cases l<;>simp[ab]at hi ⊢
 have hle:(i:Int)≤(j:Int):=by omega
 have hle2:(j:Int)≤(l.length:Int):=by omega
 have lR:(l.map enc).length=l.length:=XC _;have h2:=lA (ab (l.map enc)) i j l.length (by rw[aF,lR];exact hi) hj (by rw[aF,lR]);rw[aF,lR]at h2;have rN:=Xj hj;clear hj;have I4:j≤l.length:=by have:=rN.out;omega
 have DC:min (l.length - j) (l.length - j)=l.length - j:=Zq _;have hlt:i+(l.length - j)≤l.length:=by have:=rN.out;omega
 have pc:l.length - (i+(l.length - j))=1:=by have:=rN.out;omega
 have iV:i+(l.length - j)+1≤l.length:=by have:=rN.out;omega
 have ue:¬ay (ab (l.map enc)) i (((ab (l.map enc)).drop j).take (l.length - j))=[]:=by
  intro h;rw[h]at h2;simp at h2;omega
 refine mj func147 ntmps147 results147 ?_;repeat' (first|(with_reducible refine And.intro ?_ ?_)|(with_reducible refine cm (fun _=>?_) (fun _=>?_))|(with_reducible refine aA (fun _=>?_) (fun _=>?_))|(with_reducible refine be (by kernel_rfl))|simp -dsimp only[go_sem,seval, *,h1,bB,Yo,Xp,XI]|((with_reducible refine bf ?_);simp -dsimp only[go_sem,seval,h1,bB,Yo,Xp,XI];first|refine aC (by first|assumption|fail) (by first|exact .inl rfl|exact .inr rfl) ?_|refine aB (by assumption) (by repeat(first|exact ai.refl _|exact ai.nil _|(refine ai.tup ?_)|(refine ai.agg ?_ rfl)|exact trivial|(refine And.intro ?_ ?_))) (by first|exact .inl rfl|exact .inr rfl) ?_)|omega|exact decide_eq_true (by omega)|exact ai.refl _)
 rw[fU];exact n7 (by rw[lR];exact hi) rN.out lR.symm
theorem EI {α:Type}{enc:α→List D}(l:List α)(i j g:Nat)(hi:i < l.length)(hj:j=i+1):
 MSpec prog 154 [.own 0 g,.d (.v (.int .i64 i)),.d (.v (.int .i64 j))] [.row 71 4 g (ab (l.map enc))] (.own 0 (g+1)) [.row 71 4 (g+1) (ab ((l.eraseIdx i).map enc))]:=by
 have h1:((i:Int)==(j:Int))=false:=by simp;omega
 have bB:¬ab (l.map enc)=[]:=by cases l<;>simp[ab]at hi ⊢
 have hle:(i:Int)≤(j:Int):=by omega
 have hle2:(j:Int)≤(l.length:Int):=by omega
 have lR:(l.map enc).length=l.length:=XC _;have h2:=lA (ab (l.map enc)) i j l.length (by rw[aF,lR];exact hi) hj (by rw[aF,lR]);rw[aF,lR]at h2;have rN:=Xj hj;clear hj;have I4:j≤l.length:=by have:=rN.out;omega
 have DC:min (l.length - j) (l.length - j)=l.length - j:=Zq _;have hlt:i+(l.length - j)≤l.length:=by have:=rN.out;omega
 have pc:l.length - (i+(l.length - j))=1:=by have:=rN.out;omega
 have iV:i+(l.length - j)+1≤l.length:=by have:=rN.out;omega
 have ue:¬ay (ab (l.map enc)) i (((ab (l.map enc)).drop j).take (l.length - j))=[]:=by
  intro h;rw[h]at h2;simp at h2;omega
 refine mj func154 ntmps154 results154 ?_;repeat' (first|(with_reducible refine And.intro ?_ ?_)|(with_reducible refine cm (fun _=>?_) (fun _=>?_))|(with_reducible refine aA (fun _=>?_) (fun _=>?_))|(with_reducible refine be (by kernel_rfl))|simp -dsimp only[go_sem,seval, *,h1,bB,Yo,Xp,XI]|((with_reducible refine bf ?_);simp -dsimp only[go_sem,seval,h1,bB,Yo,Xp,XI];first|refine aC (by first|assumption|fail) (by first|exact .inl rfl|exact .inr rfl) ?_|refine aB (by assumption) (by repeat(first|exact ai.refl _|exact ai.nil _|(refine ai.tup ?_)|(refine ai.agg ?_ rfl)|exact trivial|(refine And.intro ?_ ?_))) (by first|exact .inl rfl|exact .inr rfl) ?_)|omega|exact decide_eq_true (by omega)|exact ai.refl _)
 rw[fU];exact n7 (by rw[lR];exact hi) rN.out lR.symm
theorem Cq {α:Type}{enc:α→List D}(l:List α)(i j g:Nat)(hi:i < l.length)(hj:j=i+1):
 MSpec prog 159 [.own 0 g,.d (.v (.int .i64 i)),.d (.v (.int .i64 j))] [.row 74 2 g (ab (l.map enc))] (.own 0 (g+1)) [.row 74 2 (g+1) (ab ((l.eraseIdx i).map enc))]:=by
 have h1:((i:Int)==(j:Int))=false:=by simp;omega
 have bB:¬ab (l.map enc)=[]:=by cases l<;>simp[ab]at hi ⊢
 have hle:(i:Int)≤(j:Int):=by omega
 have hle2:(j:Int)≤(l.length:Int):=by omega
 have lR:(l.map enc).length=l.length:=XC _;have h2:=lA (ab (l.map enc)) i j l.length (by rw[aF,lR];exact hi) hj (by rw[aF,lR]);rw[aF,lR]at h2;have rN:=Xj hj;clear hj;have I4:j≤l.length:=by have:=rN.out;omega
 have DC:min (l.length - j) (l.length - j)=l.length - j:=Zq _;have hlt:i+(l.length - j)≤l.length:=by have:=rN.out;omega
 have pc:l.length - (i+(l.length - j))=1:=by have:=rN.out;omega
 have iV:i+(l.length - j)+1≤l.length:=by have:=rN.out;omega
 have ue:¬ay (ab (l.map enc)) i (((ab (l.map enc)).drop j).take (l.length - j))=[]:=by
  intro h;rw[h]at h2;simp at h2;omega
 refine mj func159 ntmps159 results159 ?_;repeat' (first|(with_reducible refine And.intro ?_ ?_)|(with_reducible refine cm (fun _=>?_) (fun _=>?_))|(with_reducible refine aA (fun _=>?_) (fun _=>?_))|(with_reducible refine be (by kernel_rfl))|simp -dsimp only[go_sem,seval, *,h1,bB,Yo,Xp,XI]|((with_reducible refine bf ?_);simp -dsimp only[go_sem,seval,h1,bB,Yo,Xp,XI];first|refine aC (by first|assumption|fail) (by first|exact .inl rfl|exact .inr rfl) ?_|refine aB (by assumption) (by repeat(first|exact ai.refl _|exact ai.nil _|(refine ai.tup ?_)|(refine ai.agg ?_ rfl)|exact trivial|(refine And.intro ?_ ?_))) (by first|exact .inl rfl|exact .inr rfl) ?_)|omega|exact decide_eq_true (by omega)|exact ai.refl _)
 rw[fU];exact n7 (by rw[lR];exact hi) rN.out lR.symm
section
open Go.Proofs Go.Shelf
theorem Qw (x y:SRow KU 4)(W:World):Calls prog 152 #[.agg x.xs.toArray,.agg y.xs.toArray] W fun e w'=>e= .returned (.int .i64 (DH x y))∧∃q os',w'=Sort.grow (W.drewN q) os':=by
 obtain⟨xs,xl,x1,a,xh⟩:=x;obtain⟨ys,yl,y1,b,yh⟩:=y;match xs,xl,ys,yl with
 |[u0,u1,u2,u3],_,[v0,v1,v2,v3],_=>
  simp[KU]at xh yh;subst xh;subst yh;have hc:=iB a b;unfold DH;simp only;generalize ep a b=r at*;replace hc:=Xj hc;clear x1 y1;go_enter func152,ntmps152
  go_wp2_with fail
  refine(hc.out _).mono ?_;rintro e w1 ⟨rfl,rfl⟩;go_wp2_with fail
  go_ret
  exact⟨ce rfl,0,_,by rw[Sort.alloc_eq_grow,Sort.alloc_eq_grow,Sort.grow_grow];rfl⟩
theorem K9 {l l':List Sbn}(g:Nat)(pG:l≠[])(hp:l'.Perm l)(hs:l'.Pairwise fun x y=>(fun s:Sbn=>s.id) x < (fun s:Sbn=>s.id) y)(cP:l.length≤1000000):
 MSpec prog 151 [.own 0 g,.d (.clo 152 [])] [.row 71 4 g (ab (l.map aU))] (.d (.tup [])) [.row 71 4 g (ab (l'.map aU))]:=
 ur sortSub rfl (cW func151 (by kernel_rfl) rfl) isAgg71 sizeOf71 (enters_of func152 (by kernel_rfl) rfl) Qw aU (fun s:Sbn=>s.id) (fun _=>rfl) pG hp hs cP
theorem Og (x y:SRow KU 2)(W:World):Calls prog 157 #[.agg x.xs.toArray,.agg y.xs.toArray] W fun e w'=>e= .returned (.int .i64 (DH x y))∧∃q os',w'=Sort.grow (W.drewN q) os':=by
 obtain⟨xs,xl,x1,a,xh⟩:=x;obtain⟨ys,yl,y1,b,yh⟩:=y;match xs,xl,ys,yl with
 |[u0,u1],_,[v0,v1],_=>
  simp[KU]at xh yh;subst xh;subst yh;have hc:=iB a b;unfold DH;simp only;generalize ep a b=r at*;replace hc:=Xj hc;clear x1 y1;go_enter func157,ntmps157
  go_wp2_with fail
  refine(hc.out _).mono ?_;rintro e w1 ⟨rfl,rfl⟩;go_wp2_with fail
  go_ret
  exact⟨ce rfl,0,_,by rw[Sort.alloc_eq_grow,Sort.alloc_eq_grow,Sort.grow_grow];rfl⟩
theorem H2 {l l':List Fce}(g:Nat)(pG:l≠[])(hp:l'.Perm l)(hs:l'.Pairwise fun x y=>(fun f:Fce=>f.id) x < (fun f:Fce=>f.id) y)(cP:l.length≤1000000):
 MSpec prog 156 [.own 0 g,.d (.clo 157 [])] [.row 74 2 g (ab (l.map cl))] (.d (.tup [])) [.row 74 2 g (ab (l'.map cl))]:=
 ur sortFace rfl (cW func156 (by kernel_rfl) rfl) isAgg74 sizeOf74 (enters_of func157 (by kernel_rfl) rfl) Og cl (fun f:Fce=>f.id) (fun _=>rfl) pG hp hs cP
end
def Rng.zero:Rng:=⟨⟨0,0⟩,0⟩
def dM (v:Vpc)(p:Pfx):Vpc × Rng × Int:=
 if bN v≠0 then (Vpc.zero,Rng.zero,bN v)else
 match v.ranges.findIdx? (fun r=>decide (r.at_=p))with
 |none=>(Vpc.zero,Rng.zero,5)
 |some i=>if (v.subs.any fun s=>dL s.at_ p)=true then (Vpc.zero,Rng.zero,9)else ({v with ranges:=v.ranges.eraseIdx i},v.ranges.getD i Rng.zero,0)
theorem Oh (r:Rng)(p:Pfx):af prog 144 [.agg (bv r),.ept (aN p)] (.v (.bool (decide (r.at_=p)))):=by
 have he:=vX r.at_ p;rw[←he];replace he:=Xj he;refine pj func144 ntmps144 results144 ?_;exact aZ
theorem Oi (s:Sbn)(p:Pfx):af prog 146 [.agg (aU s),.ept (aN p)] (.v (.bool (dL s.at_ p))):=by
 have hi:af prog 43 [.agg (aN s.at_),.agg (aN p)] (.v (.bool (dL s.at_ p))):=BU _ _;refine pj func146 ntmps146 results146 ?_;exact aZ
theorem Oj (v:Vpc)(p:Pfx):af prog 69 [.agg (al v),.agg (aN p)] (.tup [.agg (al (dM v p).1),.agg (bv (dM v p).2.1),.v (.int .i64 (dM v p).2.2)]):=by
 obtain⟨R,hR⟩:∃R,R=dM v p:=⟨_,rfl⟩;rw[←hR];replace hR:=Xj hR;by_cases hc:bN v=0
 ·have hk:=aY hc;have cQ:=k7 v hc hk.n4 hk.n6 hk.n8;have nJ:=vh md (fun r=>decide (r.at_=p)) v.ranges 144 [.ept (aN p)] (by have:=hk.n4;omega) (fun r _=>Oh r p);have nl:=vl mc (fun s=>dL s.at_ p) v.subs 146 [.ept (aN p)] (by have:=hk.n6;omega) (fun s _=>Oi s p);unfold cv at nJ;cases hf:v.ranges.findIdx? (fun r=>decide (r.at_=p))with
  |none=>
   rw[hf]at nJ;have hr:R=(Vpc.zero,Rng.zero,5):=by rw[hR.out];unfold dM;rw[if_neg (by simpa using hc),hf]
   rw[hr];clear hr hR hf hc hk;refine pj func69 ntmps69 results69 ?_;have z1z:=Ln.mk (ls:=[]) (cQ);refine am ?_<;>intros;exact dg
  |some i=>
   rw[hf]at nJ;have hi:i < v.ranges.length:=(XH.1 hf).1;obtain⟨g,hg⟩:∃g,v.ranges[i]? =some g:=⟨_,Xk hi⟩;have jU:decide ((i:Int) < 0)=false:=by simp
   have IT:=hk.n4;cases ha:v.subs.any fun s=>dL s.at_ p with
   |true=>
    rw[ha]at nl;have hr:R=(Vpc.zero,Rng.zero,9):=by rw[hR.out];unfold dM;rw[if_neg (by simpa using hc),hf];simp only;rw[if_pos ha]
    rw[hr];clear hr hR hf hc hk;refine pj func69 ntmps69 results69 ?_;have z1z:=Ln.mk (ls:=[]) (cQ);refine am ?_<;>intros;exact dg
   |false=>
    rw[ha]at nl;have hr:R=({v with ranges:=v.ranges.eraseIdx i},g,0):=by
     rw[hR.out];unfold dM;rw[if_neg (by simpa using hc),hf];simp only;rw[if_neg (by simp[ha])];rw[XJ,hg];rfl
    have hd:=Ad (enc:=bv) v.ranges i (i+1) 1 hi rfl;have cM:=wi i (by omega);rw[hr];clear hr hR hf hc hk;refine pj func69 ntmps69 results69 ?_;have z1z:=Ln.mk (ls:=[]) (cQ);have z2z:=Ln.mk (ls:=[5]) (hd);exact aZ;all_goals exact dg
 ·have cQ:=k6 v hc;have h1:(bN v !=0)=true:=by simpa using hc
  have hr:R=(Vpc.zero,Rng.zero,bN v):=by rw[hR.out];unfold dM;rw[if_pos hc]
  rw[hr];replace hr:=Xj hr;refine pj func69 ntmps69 results69 ?_;have z1z:=Ln.mk (ls:=[]) (cQ);refine am ?_<;>intros;exact dg
def k8 (v:Vpc)(id:Int)(p:Pfx):Int:=
 if cF id=false∨fB v p=false then 3 else
 if (v.subs.any fun s=>(s.id==id)||s.at_.meets p)=true then 6 else if v.subs.length=6 then 2 else 0
def nD (v:Vpc)(id:Int)(p:Pfx):Vpc × Int:=
 if bN v≠0 then (Vpc.zero,bN v)else if k8 v id p≠0 then (Vpc.zero,k8 v id p)else ({v with subs:=df (·.id) ⟨id,p,[]⟩ v.subs},0)
theorem Qx (s:Sbn)(id:Int)(p:Pfx):af prog 150 [.agg (aU s),.ept [.v (.int .i64 id)],.ept (aN p)] (.v (.bool ((s.id==id)||s.at_.meets p))):=by
 have hm:af prog 19 [.agg (aN s.at_),.agg (aN p)] (.v (.bool (s.at_.meets p))):=oU _ _;cases h1:s.id==id;all_goals
  refine pj func150 ntmps150 results150 ?_;exact aZ
theorem Qy (v:Vpc)(id:Int)(p:Pfx):af prog 70 [.agg (al v),.v (.int .i64 id),.agg (aN p)] (.tup [.agg (al (nD v id p).1),.v (.int .i64 (nD v id p).2)]):=by
 obtain⟨R,hR⟩:∃R,R=nD v id p:=⟨_,rfl⟩;rw[←hR];replace hR:=Xj hR;by_cases hc:bN v=0
 ·have hk:=aY hc;have cQ:=k7 v hc hk.n4 hk.n6 hk.n8;have hid:=kL id;have Vh:=qW v p (by have:=hk.n4;omega);have nl:=vl mc (fun s=>(s.id==id)||s.at_.meets p) v.subs 150 [.ept [.v (.int .i64 id)],.ept (aN p)] (by have:=hk.n6;omega) (fun s _=>Qx s id p);have aP:R=if k8 v id p≠0 then (Vpc.zero,k8 v id p)else ({v with subs:=df (·.id) ⟨id,p,[]⟩ v.subs},0):=by rw[hR.out];unfold nD;rw[if_neg (by simpa using hc)]
  have DN:=hk.n6;by_cases bH:k8 v id p≠0
  ·rw[if_pos bH]at aP;unfold k8 at aP bH;generalize fB v p=K at*;generalize cF id=I at*;generalize (v.subs.any fun s=>(s.id==id)||s.at_.meets p)=M at*;replace aP:=Xj aP;replace bH:=Xj bH;clear hR hc hk;have I8:((v.subs.length:Int)==6)=decide (v.subs.length=6):=by rw[Yi];simp;omega
   refine pj func70 ntmps70 results70 ?_;repeat' (first|(with_reducible refine And.intro ?_ ?_)|(with_reducible refine cm (fun _=>?_) (fun _=>?_))|(with_reducible refine aA (fun _=>?_) (fun _=>?_))|(with_reducible refine be (by kernel_rfl))|simp -dsimp only[go_sem,seval, *,al,aN,I8]|((with_reducible refine bf ?_);simp -dsimp only[go_sem,seval,al,aN,I8];first|refine aC (by first|assumption|exact hid|exact Vh|exact nl) (by first|exact .inl rfl|exact .inr rfl) ?_|(refine aB (by assumption) ?_ ?_ ?_;(solve|(repeat(first|exact ai.refl _|exact ai.nil _|(refine ai.tup ?_)|(refine ai.agg ?_ rfl)|exact trivial|(refine And.intro ?_ ?_))));(solve|exact .inl rfl|exact .inr rfl)))|(refine aX [] (cQ) ?_ ?_ ?_ ?_ ?_ ?_;(solve|rfl|simp only[go_sem,seval,al]);(solve|rfl);(solve|decide);(solve|simp);(solve|simp only[go_sem,seval,ax,al]))|omega|exact decide_eq_true (by omega)|exact ai.refl _)
   all_goals
    have h1:=aP.out;have h2:=bH.out;clear hid Vh nl cQ;first
     |(exfalso;grind)
     |(rw[show R=(Vpc.zero,3) from (by rw[h1];grind)];exact dg)
     |(rw[show R=(Vpc.zero,6) from (by rw[h1];grind)];exact dg)
     |(rw[show R=(Vpc.zero,2) from (by rw[h1];grind)];exact dg)
  ·rw[if_neg bH]at aP;have hg:k8 v id p=0:=by simpa using bH
   obtain⟨g1,g2,g3,g4⟩:fB v p=true∧cF id=true∧(v.subs.any fun s=>(s.id==id)||s.at_.meets p)=false∧v.subs.length≠6:=by
    unfold k8 at hg;generalize (v.subs.any fun s=>(s.id==id)||s.at_.meets p)=M at*;grind
   have bB:∀s∈v.subs,s.id≠(⟨id,p,[]⟩:Sbn).id:=fun s hs=>by have:=Yh.1 g3 s hs;simp at this;exact this.1
   have nF:=K9 (l:=v.subs++[⟨id,p,[]⟩]) (l':=df (·.id) ⟨id,p,[]⟩ v.subs) (v.subs.length+1) (by simp) (fY _ _ _) (gx hk.rs bB) (by simp;omega);rw[g1]at Vh;rw[g2]at hid;rw[g3]at nl;have I8:((v.subs.length:Int)==6)=false:=by simp;omega
   have i7:v.subs.length+1≤100:=by omega
   simp only[Xo,Xm,Xu]at nF;have nF:=nF.leh (qO (A:=v.subs.map aU) (B:=[]) (r:=[.v (.int .i64 id),.v (.int .i64 p.at_),.v (.int .i64 p.len),.v (.slice none 0 0)]) dg) (by have:=kH (enc:=aU) (fun _=>rfl) (v.subs++[⟨id,p,[]⟩]);simpa using this) (az _ _);rw[aP];clear hR aP hc hk bB hg bH;refine pj func70 ntmps70 results70 ?_;have z1z:=Ln.mk (ls:=[]) (cQ);have z2z:=Ln.mk (ls:=[7]) (nF);exact aZ
 ·have cQ:=k6 v hc;have h1:(bN v !=0)=true:=by simpa using hc
  have hr:R=(Vpc.zero,bN v):=by rw[hR.out];unfold nD;rw[if_pos hc]
  rw[hr];replace hr:=Xj hr;refine pj func70 ntmps70 results70 ?_;have z1z:=Ln.mk (ls:=[]) (cQ);refine am ?_<;>intros;exact dg
def sH (v:Vpc)(i:Nat)(id:Int):Int:=match v.subs[i]? with|some s=>cv (fun f=>f.id==id) s.faces|none=> -1
def v9 (v:Vpc)(sub id:Int):Int × Int:=match v.subs.findIdx? (fun s=>s.id==sub)with|none=>(-1,-1)|some i=>(i,sH v i id)
theorem Cr (s:Sbn)(id:Int):af prog 216 [.agg (aU s),.ept [.v (.int .i64 id)]] (.v (.bool (s.id==id))):=by
 refine pj func216 ntmps216 results216 ?_;exact aZ
theorem La (f:Fce)(id:Int):af prog 218 [.agg (cl f),.ept [.v (.int .i64 id)]] (.v (.bool (f.id==id))):=by
 refine pj func218 ntmps218 results218 ?_;exact aZ
theorem ut (v:Vpc)(sub id:Int)(h6:v.subs.length≤6)(h8:∀s∈v.subs,s.faces.length≤8):af prog 153 [.ept (al v),.v (.int .i64 sub),.v (.int .i64 id)] (.tup [.v (.int .i64 (v9 v sub id).1),.v (.int .i64 (v9 v sub id).2)]):=by
 have nJ:=vj mc (fun s=>s.id==sub) v.subs 216 [.ept [.v (.int .i64 sub)]] (by omega) (fun s _=>Cr s sub);unfold v9;unfold cv at nJ;cases hf:v.subs.findIdx? (fun s=>s.id==sub)with
 |none=>
  rw[hf]at nJ;replace hf:=Xj hf;refine pj func153 ntmps153 results153 ?_;exact aZ;all_goals exact dg
 |some i=>
  rw[hf]at nJ;have hi:i < v.subs.length:=(XH.1 hf).1;obtain⟨s,hs⟩:∃s,v.subs[i]? =some s:=⟨_,Xk hi⟩;have jU:decide ((i:Int) < 0)=false:=by simp
  have hfx:=yv u9 (fun f=>f.id==id) s.faces 218 [.ept [.v (.int .i64 id)]] (by have:=h8 s (Xl hs);omega) (fun f _=>La f id);unfold sH;simp only;rw[hs];replace hf:=Xj hf;refine pj func153 ntmps153 results153 ?_;exact aZ;all_goals exact dg
def fk (v:Vpc)(id:Int):Vpc × Int:=
 if bN v≠0 then (Vpc.zero,bN v)else
 match v.subs.findIdx? (fun s=>s.id==id)with
 |none=>(Vpc.zero,5)
 |some i=>if (v.subs[i]?.map fun s=>s.faces.length)≠some 0 then (Vpc.zero,9)else ({v with subs:=v.subs.eraseIdx i},0)
theorem sI (sub id:Int):af prog 153 [.ept [.v (.int .i64 0),.v (.slice none 0 0),.v (.slice none 0 0)],.v (.int .i64 sub),.v (.int .i64 id)] (.tup [.v (.int .i64 (-1)),.v (.int .i64 (-1))]):=by
 have nJ:=(vj mc (fun s=>s.id==sub) [] 216 [.ept [.v (.int .i64 sub)]] (by simp) (fun s _=>Cr s sub)).args (ds:=[.v (.slice none 0 0),.clo 216 [.ept [.v (.int .i64 sub)]]]) ⟨ai.nil _,ai.refl _,trivial⟩;unfold cv at nJ;simp only[List.findIdx?_nil]at nJ;refine pj func153 ntmps153 results153 ?_;exact aZ
theorem Ok (v:Vpc)(id:Int):af prog 71 [.agg (al v),.v (.int .i64 id)] (.tup [.agg (al (fk v id).1),.v (.int .i64 (fk v id).2)]):=by
 obtain⟨R,hR⟩:∃R,R=fk v id:=⟨_,rfl⟩;rw[←hR];replace hR:=Xj hR;by_cases hc:bN v=0
 ·have hk:=aY hc;have cQ:=k7 v hc hk.n4 hk.n6 hk.n8;have gN:=ut v id 0 hk.n6 (fun s hs=>(hk.n8 s hs).1);have DN:=hk.n6;unfold v9 at gN;cases hf:v.subs.findIdx? (fun s=>s.id==id)with
  |none=>
   rw[hf]at gN;have hr:R=(Vpc.zero,5):=by rw[hR.out];unfold fk;rw[if_neg (by simpa using hc),hf]
   rw[hr];clear hr hR hf hc hk;refine pj func71 ntmps71 results71 ?_;have z1z:=Ln.mk (ls:=[]) (cQ);refine am ?_<;>intros;exact dg
  |some i=>
   rw[hf]at gN;have hi:i < v.subs.length:=(XH.1 hf).1;obtain⟨s,hs⟩:∃s,v.subs[i]? =some s:=⟨_,Xk hi⟩;have jU:decide ((i:Int) < 0)=false:=by simp
   simp only at gN;generalize sH v i 0=FI at gN;by_cases h0:s.faces.length=0
   ·have hr:R=({v with subs:=v.subs.eraseIdx i},0):=by rw[hR.out];unfold fk;rw[if_neg (by simpa using hc),hf];simp only;rw[hs];simp[h0]
    have hd:=EI (enc:=aU) v.subs i (i+1) v.subs.length hi rfl;have cM:=wi i (by omega);have h0b:decide ((s.faces.length:Int)>0)=false:=by simp[h0]
    rw[hr];clear hr hR hf hc hk h0;refine pj func71 ntmps71 results71 ?_;have z1z:=Ln.mk (ls:=[]) (cQ);have z2z:=Ln.mk (ls:=[5]) (hd);exact aZ;all_goals exact dg
   ·have hr:R=(Vpc.zero,9):=by rw[hR.out];unfold fk;rw[if_neg (by simpa using hc),hf];simp only;rw[hs];simp[h0]
    have h0b:decide ((s.faces.length:Int)>0)=true:=by simp;omega
    rw[hr];clear hr hR hf hc hk h0;refine pj func71 ntmps71 results71 ?_;have z1z:=Ln.mk (ls:=[]) (cQ);refine am ?_<;>intros;all_goals exact dg
 ·have cQ:=k6 v hc;have TU:=sI id 0;have h1:(bN v !=0)=true:=by simpa using hc
  have hr:R=(Vpc.zero,bN v):=by rw[hR.out];unfold fk;rw[if_pos hc]
  rw[hr];replace hr:=Xj hr;refine pj func71 ntmps71 results71 ?_;have z1z:=Ln.mk (ls:=[]) (cQ);refine am ?_<;>intros;exact dg
def fG (used:List Int)(p:Pfx):Nat→Int→Option Int
 |0,_=>none
 |n+1,a=>if iO p a=true then (if a∈used then fG used p n (a+1)else some a)else none
def eA (s:Sbn):Option Int:=fG (s.faces.flatMap (·.addrs)) s.at_ 65536 (s.at_.at_+1)
theorem Ae {p:Pfx}{a:Int}(h:iO p a=true):p.right=true∧p.at_ < a∧a < p.hi - 1∧a≤65535:=by
 unfold iO at h;simp only[Xy,decide_eq_true_eq]at h;have hr:=mi.1 (by rw[←oe];exact h.1);have hb:=p.hi_bd hr.1;have:p.hi=p.at_+eD p.len:=rfl;exact⟨hr.1,by omega,by omega,by omega⟩
theorem Gc (s:Sbn)(h8:s.faces.length≤8)(h4:∀f∈s.faces,f.addrs.length≤4)(hr:s.at_.right=true)(lf:(s.faces.flatMap (·.addrs)).Nodup):af prog 155 [.agg (aU s)] (.tup [.v (.int .i64 ((eA s).getD 0)),.v (.bool (eA s).isSome)]):=by
 obtain⟨r1,r2,r3,r4,-⟩:=s.at_.bd hr;replace lf:=Xj lf;refine pj func155 ntmps155 results155 ?_;refine am ?_<;>intros;refine bL ae ak (fun m e h=>∃(k:Nat) (ents:List (List Int × Int)),k≤s.faces.length∧Qc ents ((s.faces.take k).flatMap (·.addrs))∧m=s.faces.length - k∧
  e=[(14,.d (.v (.int .i64 k))),(13,.d (.v (.int .i64 s.faces.length))),(12,.d (.sl 2 (s.faces.map cl))),(4,.mref 1),(3,.d (.v (.bool false))),(2,.d (.v (.int .i64 0))),(1,.ptr 0 0)]∧h=[.box 71 ((aU s).map .d),.mp 1 false ents]) _ _ _ ⟨0,[],XD _,FR,rfl,rfl,rfl⟩ (wf) ?_
 rintro m e h ⟨k,ents,hk,pm,hm,rfl,rfl⟩ C hC;by_cases hlt:k < s.faces.length
 ·have dH:(k:Int) < (s.faces.length:Int):=by omega
  have cM:=wi k (by omega);obtain⟨f,hf⟩:∃f,s.faces[k]? =some f:=⟨_,Xk hlt⟩;have gS:=h4 f (Xl hf);replace hm:=Xj hm;replace pm:=Xj pm;refine am ?_<;>intros;refine bL ae ak (fun m e h=>∃(j:Nat) (ents:List (List Int × Int)),j≤f.addrs.length∧Qc ents ((s.faces.take k).flatMap (·.addrs)++f.addrs.take j)∧m=f.addrs.length - j∧
   e=[(21,.d (.v (.int .i64 j))),(20,.d (.v (.int .i64 f.addrs.length))),(19,.d (.sl 1 (f.addrs.map cD))),(14,.d (.v (.int .i64 k))),(13,.d (.v (.int .i64 s.faces.length))),(12,.d (.sl 2 (s.faces.map cl))),(4,.mref 1),(3,.d (.v (.bool false))),(2,.d (.v (.int .i64 0))),(1,.ptr 0 0)]∧h=[.box 71 ((aU s).map .d),.mp 1 false ents]) _ _ _ ⟨0,ents,XD _,by simpa using pm.out,rfl,rfl,rfl⟩ (wf) ?_
  rintro m2 e h ⟨j,en2,hj,iY,gT,rfl,rfl⟩ C2 jz;by_cases pf:j < f.addrs.length
  ·have ic:(j:Int) < (f.addrs.length:Int):=by omega
   have j6:=wi j (by omega);obtain⟨a,ha⟩:∃a,f.addrs[j]? =some a:=⟨_,Xk pf⟩;have QU:=iY a;have gU:f.addrs.take (j+1)=f.addrs.take j++[a]:=ag ha;have hd:a∉(s.faces.take k).flatMap (·.addrs)++f.addrs.take j:=by
    have wI:((s.faces.take k).flatMap (·.addrs)++f.addrs.take (j+1)).Sublist (s.faces.flatMap (·.addrs)):=by
     conv=>rhs;rw[←YX k s.faces,jJ hf,Zs,List.flatMap_cons]
     exact List.Sublist.append (List.Sublist.refl _) ((O' _ _).trans (List.sublist_append_left _ _))
    have:=wI.nodup lf.out;rw[gU,←X3,pY]at this;exact this.2
   rw[if_neg hd]at QU;have fl:=BW iY hd;replace iY:=Xj iY;replace fl:=Xj fl;replace gT:=Xj gT;replace gU:=Xj gU;have cA:IntKind.i64.wrap 1=1:=by decide
   refine am ?_<;>intros;refine jz _ _ _ _ _ ?_ ⟨j+1,l7 en2 [a] 1,pf,?_,rfl,rfl,rfl⟩ (wf)
   ·have:=gT.out;omega
   ·rw[gU.out,←X3];exact fl.out
  ·obtain rfl:j=f.addrs.length:=by omega
   rw[Xt]at iY;have uc:(s.faces.take (k+1)).flatMap (·.addrs)=(s.faces.take k).flatMap (·.addrs)++f.addrs:=by rw[ag hf,Zs];simp
   replace gT:=Xj gT;replace iY:=Xj iY;replace uc:=Xj uc;refine am ?_<;>intros;refine hC _ _ _ _ _ ?_ ⟨k+1,en2,hlt,?_,rfl,rfl,rfl⟩ (wf)
   ·have:=hm.out;omega
   ·rw[uc.out];exact iY.out
 ·obtain rfl:k=s.faces.length:=by omega
  rw[Xt]at pm;replace pm:=Xj pm;replace hm:=Xj hm;have cj:IntKind.i64.wrap (s.at_.at_+1)=s.at_.at_+1:=by rw[IntKind.wrap_i64];omega
  refine am ?_<;>intros;refine bL ae ak (fun m e h=>∃(i:Nat) (a:Int),i≤65536∧a=s.at_.at_+1+i∧eA s=fG (s.faces.flatMap (·.addrs)) s.at_ (65536 - i) a∧m=65536 - i∧
   e=[(9,.d (.v (.int .i64 a))),(4,.mref 1),(3,.d (.v (.bool false))),(2,.d (.v (.int .i64 0))),(1,.ptr 0 0)]∧h=[.box 71 ((aU s).map .d),.mp 1 false ents]) 65536 _ _ ⟨0,s.at_.at_+1,XD _,by simp,rfl,rfl,rfl,rfl⟩ (wf) ?_
  rintro m2 e h ⟨i,a,hi,Tw,hle,gT,rfl,rfl⟩ C2 jz;have dB:=FP s.at_ a;cases b1:iO s.at_ a with
  |false=>
   rw[b1]at dB;have j5:eA s=none:=by
    rw[hle];cases 65536 - i with
    |zero=>rfl
    |succ n=>rw[fG,if_neg (by simp[b1])]
   replace hle:=Xj hle;replace Tw:=Xj Tw;replace gT:=Xj gT;rw[j5];exact aZ;all_goals exact dg
  |true=>
   have hb:=Ae b1;obtain⟨n,hn⟩:∃n,65536 - i=n+1:=⟨65536 - i - 1,by omega⟩;rw[hn,fG,if_pos b1]at hle;rw[b1]at dB;have QU:=pm.out a;have Az:IntKind.i64.wrap (a+1)=a+1:=by rw[IntKind.wrap_i64];omega
   replace Tw:=Xj Tw;replace gT:=Xj gT;by_cases hu:a∈s.faces.flatMap (·.addrs)
   ·rw[if_pos hu]at QU hle;replace hle:=Xj hle;refine am ?_<;>intros;refine jz _ _ _ _ _ ?_ ⟨i+1,a+1,by omega,by rw[Tw.out];omega,?_,rfl,rfl,rfl⟩ (wf)
    ·have:=gT.out;omega
    ·rw[hle.out];congr 1;omega
   ·rw[if_neg hu]at QU hle;rw[hle];replace hle:=Xj hle;exact aZ;all_goals exact dg
end Go.Proofs.YtmicljipaiohkaaGreat
