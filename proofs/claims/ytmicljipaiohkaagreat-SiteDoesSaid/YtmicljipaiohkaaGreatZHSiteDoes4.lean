/- Texts of this work, joined. -/
import Derived.Test.YtmicljipaiohkaaGreatZHSiteDoes3
import Derived.Deep.RegionLaw
import Derived.Shelf.RegionOpenPlain
import Derived.Lib.Overlaps
import Derived.Lib.AppendZerosOnto
import Derived.Laws.Externs
import Derived.Lib.SliceRun
import Derived.Deep.Slices
import Derived.Deep.Fields
import Derived.ChangeSame
import Derived.OpenShut
import Derived.ProofKit
import Derived.Carry
import Derived.ChangeMaps5
import Derived.DataShut
import Derived.Shelf.SlSortCmp.WholeK
import Derived.Sort.Grow
set_option linter.unusedSimpArgs false
set_option linter.unusedVariables false
set_option maxRecDepth 100000
set_option maxHeartbeats 16000000
namespace Go.Proofs.YtmicljipaiohkaaGreat
open Go Go.RowKit Go.Proofs.Tryz
open Go.Lib renaming hid → Xj
open _root_.List renaming getElem?_eq_getElem → Xk, mem_of_getElem? → Xl, map_cons → Xm, getElem?_eq_some_iff → Xn, map_append → Xo, setIfInBounds_toArray → Xp, length_take → Xq, take_length → Xt, set_cons_zero → Xu, map_nil → Xv, set_cons_succ → Xx, getElem?_map → Xz, length_cons → XA, all_eq_true → XC, length_map → XD, pairwise_iff_getElem → XF, getElem?_append_right → XH, findIdx?_eq_some_iff_getElem → XI, length_drop → XJ, getD_eq_getElem?_getD → XK, take_of_length_le → XN, mem_map → XQ, getElem?_take_of_lt → XS, getElem?_eq_none → XT, any_eq_true → XU, replicate → XV, length_append → XY, length_nil → XZ, mem_iff_getElem → X0, getElem?_append_left → X2, mem_append → X3, append_assoc → X4, range → X5, mem_cons → X7, cons_append → X8, eq_nil_of_length_eq_zero → X9, nil_append → Ya, getElem_of_mem → Yb, mem_singleton → Yc, mem_of_mem_drop → Yd, mem_of_mem_take → Yf, take → Yg, any_eq_false → Yh, ext_getElem? → Yj, getElem?_drop → Yk, take_append_of_le_length → Yl, getElem_mem → Ym, findIdx?_eq_none_iff → Yn, find?_eq_none → Yq, set_append_right → Yu, append_nil → Yw, getElem?_cons_succ → Yx, pairwise_cons → YC, mem_of_find?_eq_some → YF, size_toArray → YH, foldl_cons → YO, drop_eq_getElem_cons → YQ, mem_range → YR, pairwise_append → YT, flatten_cons → YU, take_append_drop → YX, filter_eq_self → Y0, toList_toArray → Y1, all_eq_false → Y2, pairwise_map → Y3, mem_or_eq_of_mem_set → Y4, drop_length → Y7, mem_map_of_mem → Y8, length_filter_le → Za, length_pos_iff → Zd, find?_some → Zh, filter_filter → Zi, getElem?_take → Zj, map_congr_left → Zr, flatMap_append → Zs, mem_filter → Zt, eq_of_mem_replicate → Zv, getElem_take → ZA, map_take → ZH, contains_iff_mem → ZL, all_append → ZO, mem_flatten → ZW, getElem_cons_drop → ZZ, filter_congr → Z2, getElem?_set → Z3, getElem_map → A', flatten_append → B', nodup_append → N', take_sublist → O', map_toArray → _f
open Go.World renaming size_alloc → Xr, heap_drewN → Xs, size_drew → Xw, cell? → YS, cell?_of_block → Zl, setRow → ZE
open _root_.Bool renaming and_eq_true → Xy, eq_iff_iff → Yi, and_self → Yp, true_and → Yr, and_true → YA, false_eq_true → YB, eq_false_iff → YE, not_eq_true' → Zz, and_eq_false_iff → ZK, false_or → ZT, and_assoc → P'
open _root_.Nat renaming le_refl → XB, zero_le → XE, zero_add → XG, reduceEqDiff → XL, reduceAdd → XM, lt_or_ge → XP, add_zero → XW, sub_zero → Yo, mul_le_mul_right → Yt, lt_of_lt_of_le → Yy, le_trans → Yz, sub_self → YG, not_lt_zero → YJ, succ_mul → YY, lt_trichotomy → Zb, mul_comm → Zp, min_self → Zq, div_lt_of_lt_mul → Zw, add_assoc → ZF, eq_zero_or_pos → ZJ, min → ZM, div_add_mod → ZN, add_mul → ZQ, reduceLT → ZR, min_def → Z6, le_of_lt → p', lt_or_eq_of_le → G', le_of_lt_succ → Q', mod_lt → Y', one_le_two_pow → Z', not_lt → _g
open _root_.Option renaming map_eq_some_iff → XO, isSome_some → XR, some → XX, map_some → Ye, isNone_some → YD, isSome_none → YZ, bind_some → Y6, isSome_iff_exists → Zf, map_none → Zg, isNone_none → Zk
open _root_.Array renaming getElem?_toList → X6, getElem?_eq_some_iff → Ys, getElem?_eq_none → YM, getElem?_eq_getElem → YP, replicate → Y5, getElem?_modify → Y9
open _root_.Int renaming dvd_of_emod_eq_zero → YL, lt_irrefl → YN, emod_eq_zero_of_dvd → ZB, le_refl → ZG, fdiv_eq_ediv_of_nonneg → Z5, lt_or_le → z', dvd_trans → C', max_eq_right → _e, max_eq_left → _i
section
open Go.Proofs
theorem eP {P:Program}{w:World}{dT sT e:TypeId}{ie:TypeInfo}{sz g o dl dc sl sc:Nat}{a:Addr}{cur:Array Value}{E:TypeId}(ys:List Value)
 (ht:P.underlying dT=some (.slice e)) (hi:P.info? e=some ie) (cT:ie.size=sz) (hn:ys.length=ZM sl dl*sz) (rQ:∀j u,ys[j]? =some u→w.cell? (a.add j)=some u) (h1:∀u∈ys,u.oneCell'=true)
 (hh:w.heap[g]? =some (.cells cur E (0,0))) (ho:o+ys.length≤cur.size) (ty:TypeId):
 (Builtin.copy_ #[dT,sT] ty #[.slice (some ⟨g,o,none⟩) dl dc,.slice (some a) sl sc]).run P w= .ok (goInt (ZM sl dl)) (w.setRow g (ay cur.toList o ys).toArray):=by
 have UY:=run_firstCells_some (P:=P) w sz (ZM sl dl) a sl sc ys hn rQ;have dS:=run_storeCells_at P g o E ys 0 cur w hh (by simp;omega) h1;have pq:(storeCells ⟨g,o,none⟩ ys).run P w= .ok () (w.setRow g (ay cur.toList o ys).toArray):=by
  rw[dS];simp[ay]
 simp[Builtin.copy_,run_underlying ht,Builtin.lenOf,sizeOf,typeInfo,hi,cT,UY,pq]
theorem jJ {P:Program}(w:World){ops:Array Oper}{rest:List Oper}{o:Oper}{a:Act}{Q:Exit→Act→World→Prop}(Vy:o.guard=none)(d s:Operand)(t t':TypeId)
 (ho:o.op= .call {callee:= .builtin .copy,args:=#[d,s],argTypes:=#[t,t']}) (v u:Value) (hd:a.eval d=v) (hs:a.eval s=u) {v':Value}{w':World}
 (hr:(Builtin.copy_ #[t,t'] o.type #[v,u]).run P w= .ok v' w') (h:wpList P ops Q rest (a.put o.dst v') w'):wpList P ops Q (o::rest) a w:=
 wpList_plain Vy fun _ hK=>by
  unfold Oper.wp;simp only[execOp,ho,resolve,invoke,builtin,Sem.run_bind,Sem.run_pure,Result.andThen_ok,_f,Xm,Xv,hd,hs,hr];exact hK _ _ h
theorem lK {P:Program}{ops:Array Oper}{o:Oper}{a:Act}{w:World}{K:Act→World→Prop}{Q:Exit→Act→World→Prop}{E:Prop}(hg:o.guard=none)(d x:Operand)(dT sT:TypeId)
 (lR:o.op=Op.call {callee:=Callee.builtin Builtin.copy,args:=#[d,x],argTypes:=#[dT,sT]}) (v u:Value) (hd:a.eval d=v) (hx:a.eval x=u) {v':Value}{w':World}
 (hr:(Builtin.copy_ #[dT,sT] o.type #[v,u]).run P w= .ok v' w') (hK:K (a.put o.dst v') w'):if Region.wanted o (yielded ops a.tmps)=true then Oper.wp P o a w K Q else E:=by
 have hw:Region.wanted o (yielded ops a.tmps)=true:=by simp[Region.wanted,hg]
 rw[if_pos hw];unfold Oper.wp;simp only[execOp,lR,resolve,invoke,builtin,Sem.run_bind,Sem.run_pure,Result.andThen_ok,_f,Xm,Xv,hd,hx,hr];exact hK
theorem pH {P:Program}(w:World){ops:Array Oper}{rest:List Oper}{o:Oper}{a:Act}{Q:Exit→Act→World→Prop}(Vy:o.guard=none)(d s:Operand)(t t':TypeId)
 (ho:o.op= .call {callee:= .builtin .append,args:=#[d,s],argTypes:=#[t,t']}) (v u:Value) (hd:a.eval d=v) (hs:a.eval s=u) {v':Value}{w':World}
 (hr:(Builtin.append_ #[t,t'] o.type #[v,u]).run P w= .ok v' w') (h:wpList P ops Q rest (a.put o.dst v') w'):wpList P ops Q (o::rest) a w:=
 wpList_plain Vy fun _ hK=>by
  unfold Oper.wp;simp only[execOp,ho,resolve,invoke,builtin,Sem.run_bind,Sem.run_pure,Result.andThen_ok,_f,Xm,Xv,hd,hs,hr];exact hK _ _ h
theorem mC {P:Program}(w:World)(tS tR e:TypeId)(ht:P.underlying tS=some (.slice e))(size:Nat)(hz:∀w,(Go.sizeOf e).run P w= .ok size w)(a b:Addr)(la ca lb cb:Nat)(bB:a.block≠b.block)(sA:TypeId × Nat)(zO:w.shape? a.block=some sA)(JC:sA.2≠0)
 (cur:Array Value) (E:TypeId) (hb:w.heap[b.block]? =some (.cells cur E (0,0))) (hc:cur.size≠0):
 (Extern.SlicesOverlaps.overlaps #[tS,tS] #[tR] #[.slice (some a) la ca,.slice (some b) lb cb]).run P w= .ok (.bool false) w:=by
 have hnb:(a.block !=b.block)=true:=by simpa using bB
 have Vz:(a.block==b.block)=false:=by simpa using bB
 have yg:w.shape? b.block=some (E,cur.size):=by simp[World.shape?,hb]
 have lz:∀o,w.frozen? ⟨b.block,o,none⟩=false:=fun o=>by simp[World.frozen?,hb]
 have VA:w.frozen? b=false:=by simp[World.frozen?,hb]
 obtain⟨k,hk⟩:∃k,cur.size=k+1:=⟨cur.size - 1,by omega⟩;rw[hk]at yg;change Sem.run P (α:=Value) (do
  let some t:=(#[tS,tS]:Array TypeId)[0]? |stuck "slices.overlaps: no parameter types"
  let .slice elem ←underlying t|stuck "slices.overlaps: slice type expected"
  let size ←sizeOf elem
  match (some a:Option Addr),(some b:Option Addr)with
  |some a,some b=>
   if la=0∨lb=0∨size=0 then pure (Value.bool false)
   else if a.block !=b.block&&(←frozen a)&&(←frozen b)then unsupported .addressObserved
   else do
    if a.block !=b.block then do
     noView a;noView b
     if ←mayBeOne a b then return Value.bool ((←choose (.extern "sameAddr.stringBytes" 2))==1)
    pure (Value.bool (a.block==b.block&&a.off < b.off+lb*size&&b.off < a.off+la*size))
  |_,_=>pure (Value.bool false)) w=_
 by_cases h0:la=0∨lb=0∨size=0
 ·simp[run_underlying ht,hz,h0]
 ·obtain⟨tA,nA⟩:=sA;obtain⟨q,rfl⟩:∃q,nA=q+1:=⟨nA - 1,by simp at JC;omega⟩;cases j8:w.frozen? a<;>cases VB:w.frozen? ⟨a.block,q+1,none⟩<;>
   simp[run_underlying ht,hz,h0,hnb,Vz,frozen,noView,viewAt,mayBeOne,stringish,shape,Sem.run,zO,yg,j8,VB,lz,VA]
def AC (w:World)(E g sz n:Nat)(zs:List Value)(e:Ending)(w':World):Prop:=
 ∃(G:Nat) (R:List Value),n+1≤G∧G≤9223372036854775807∧R.length=G*sz∧R.take ((n+1)*sz)=zs∧e= .returned (.slice (some ⟨w.heap.size,0,none⟩) (n+1) G)∧OneB w w' (some g)∧w'.heap[w.heap.size]? =some (.cells R.toArray E (0,0))
theorem mD {w:World}{g:Nat}{cur:Array Value}{E:TypeId}(hh:w.heap[g]? =some (.cells cur E (0,0)))(o:Nat):w.cell? ⟨g,o,none⟩=cur[o]? :=by
 simp[YS,hh]
def QT (w:World)(E sz g n:Nat)(zs:List Value)(e:Ending)(w':World):Prop:=
 ∃v',e= .returned v'∧OwnV w' E sz v' n zs∧OneB w w' (some g)∧(fr v'=some g∨∀b,fr v'=some b→w.heap.size≤b)
theorem tK {w:World}{b o:Nat}{u:Value}(h:w.cell? ⟨b,o,none⟩=some u):∃sA,w.shape? b=some sA∧sA.2≠0:=by
 cases hb:w.heap[b]? with
 |none=>simp[YS,hb]at h
 |some ob=>
  cases ob with
  |cells c e f=>
   have h':c[o]? =some u:=by simpa[YS,hb]using h
   have:=(Ys.1 h').1;exact⟨(e,c.size),by simp[World.shape?,hb],by simp only;omega⟩
  |_=>simp[YS,hb]at h
theorem Lf {P:Program}{f E sz g i:Nat}{rows:List (List D)}{x:List D}(RW:xB P f)(wZ:0 < sz)(hi:i < rows.length)
 (raw:∀(w:World) (gb cap vb vo vc:Nat) (cur:Array Value) (xs ys:List Value),w.heap[gb]? =some (.cells cur E (0,0))→cap≤maxLen→rows.length≤cap→cur.size=cap*sz→xs.length=rows.length*sz→cur.toList.take (rows.length*sz)=xs→(∀u∈xs,u.oneCell'=true)→
  ys.length=sz→(∀u∈ys,u.oneCell'=true)→vb≠gb→(∀j u,ys[j]? =some u→w.cell? ⟨vb,vo+j,none⟩=some u)→
  Calls P f #[.slice (some ⟨gb,0,none⟩) rows.length cap,.int .i64 i,.slice (some ⟨vb,vo,none⟩) 1 vc] w (QT w E sz gb (rows.length+1) (xs.take (i*sz)++ys++xs.drop (i*sz)))):
 MSpec P f [.own 0 g,.d (.v (.int .i64 i)),.d (.sl sz [x])] [.row E sz g (ab rows)] (.own 0 (g+1)) [.row E sz (g+1) (ab (rows.take i++x::rows.drop i))]:=by
 refine⟨RW,XB _,by simp[an,aq],by simp[aH,aQ,az],fun X hP hn hm w c vs hr ly=>?_⟩;have bR:=ly.1;match vs,bR with
 |[v0,v1,v2],_=>
  have r0:=ly.2 0 _ v0 rfl rfl;have r1:=cp (ly.2 1 _ v1 rfl rfl);have r2:=cp (ly.2 2 _ v2 rfl rfl);have bB:ab rows≠[]:=fun e=>by
   have:rows.length=0:=by rw[←aF rows,e];rfl
   omega
  have a9:=hr.chunk 0;cases r0 with
  |own _ _ _ eh h1=>
   obtain⟨gb,cap,rfl⟩:=l7 a9 eh bB;obtain⟨cur,xs,q1,q2,q3,q4,q5,q6,q7,q8,q9,q10,q11⟩:=ef a9 eh bB;have M6:=bH.one q2 (fun d hd=>by obtain⟨r,hr,hd⟩:=ZW.1 hd;exact q6 r hr d hd);rw[aF]at q3 q4 q8 q10 eh ⊢;cases r1;have hMg:c.M gb:=(hr.mu gb).2 (.inr ⟨0,by
    have ym:0 < cap:=by omega
    simp only[bQ,aG,Cx.block,eh,Y6];exact dk ym⟩)
   have ME:cur.toList.take (rows.length*sz)=xs:=by
    apply Yj;intro j;by_cases hj:j < rows.length*sz
    ·rw[XS hj,X6,q4 j hj]
    ·rw[XT (by rw[Xq];omega),XT (by omega)]
   cases r2 with
   |sl _ _ vb vo vc ff hM hb hc' hm' hr' h1' dC bA=>
    obtain⟨ys,y1,-,y2,y3,y4,y5,y6⟩:=uS (w:=w) wZ (RepD.sl (M:=c.M) sz [x] vb vo vc ff hM hb hc' hm' hr' h1' dC bA);have y1':ys.length=sz:=by simpa using y1
    have i8:=raw w gb cap vb vo vc cur xs ys q1 q9 q10 q11 q3 ME M6 y1' y4 (fun e=>hM (e ▸ hMg)) (fun j u hj=>by have:=y3 j u hj;rwa [Addr.add_lit]at this);refine i8.mono fun e w' ⟨v',he,da,eS,jH⟩=>?_;have FP:∀r∈ab (rows.take i++x::rows.drop i),r.length=sz:=fun r hr=>by
     obtain⟨q,hq,rfl⟩:=iB hr;rw[XD];rcases X3.1 hq with h|h
     ·have:=q5 (q.map .d) (XQ.2 ⟨q,Yf h,rfl⟩);simpa using this
     ·rcases X7.1 h with rfl|h
      ·exact y5 _ (by simp)
      ·have:=q5 (q.map .d) (XQ.2 ⟨q,Yd h,rfl⟩);simpa using this
    have RX:∀r∈ab (rows.take i++x::rows.drop i),∀d∈r,d.one=true:=fun r hr d hd=>by
     obtain⟨q,hq,rfl⟩:=iB hr;rcases X3.1 hq with h|h
     ·exact q6 (q.map .d) (XQ.2 ⟨q,Yf h,rfl⟩) d hd
     ·rcases X7.1 h with rfl|h
      ·obtain⟨y,hy,rfl⟩:=XQ.1 hd;exact y6 _ (by simp) y hy
      ·exact q6 (q.map .d) (XQ.2 ⟨q,Yd h,rfl⟩) d hd
    have hflat:(ab (rows.take i++x::rows.drop i)).flatten=((ab rows).flatten.take (i*sz))++x.map .d++((ab rows).flatten.drop (i*sz)):=by
     rw[←iQ q5,←km q5];simp only[ab,Xo,Xm,B',YU,ZH,List.map_drop,X4]
    have oO:bH c w (ab (rows.take i++x::rows.drop i)).flatten (xs.take (i*sz)++ys++xs.drop (i*sz)):=by
     rw[hflat];refine r9 (r9 ?_ ?_) ?_
     ·have:=q2.part 0 (i*sz);simpa using this
     ·have:=qD y2;simpa using this
     ·have:=q2.part (i*sz) xs.length;rw[XN (by rw[XJ,q2.1];omega),XN (by rw[XJ];omega)]at this;exact this
    have ym:0 < cap:=by omega
    obtain⟨c',s1,s2⟩:=hr.set_row (k:=0) (rows':=ab (rows.take i++x::rows.drop i)) (v':=v') rfl eh (by rw[dk ym];exact eS) (by
     have:(ab (rows.take i++x::rows.drop i)).length=rows.length+1:=by rw[aF,XY,Xq,XA,XJ];omega
     rw[this];exact da) (by rw[dk ym];exact jH) oO FP RX
    have mM:cH [(0,Chunk.row E sz (g+1) (ab (rows.take i++x::rows.drop i)))] (bQ [] [.row E sz g (ab rows)]).heap=aG [.row E sz (g+1) (ab (rows.take i++x::rows.drop i))]:=by
     funext k;rw[qA];cases k with
     |zero=>rfl
     |succ k=>rfl
    rw[mM]at s1;exact⟨v',c',he,s2,s1⟩
theorem CR {sz n i:Nat}{cur:List Value}{xs ys:List Value}(hn:n < i+1+n)(hi:i < n)(hc:(n+1)*sz≤cur.length)(hl:xs.length=n*sz)(rP:ys.length=sz)(ht:cur.take (n*sz)=xs):
 (ay (ay cur ((i+1)*sz) (xs.drop (i*sz))) (i*sz) ys).take ((n+1)*sz)=xs.take (i*sz)++ys++xs.drop (i*sz)∧(ay (ay cur ((i+1)*sz) (xs.drop (i*sz))) (i*sz) ys).length=cur.length:=by
 have h1:i*sz≤n*sz:=Yt sz (by omega);have h2:(i+1)*sz=i*sz+sz:=YY i sz;have h3:(n+1)*sz=n*sz+sz:=YY n sz;have qt:(xs.drop (i*sz)).length=n*sz - i*sz:=by rw[XJ,hl]
 have hA:(ay cur ((i+1)*sz) (xs.drop (i*sz))).length=cur.length:=bg (by omega);have hB:(ay (ay cur ((i+1)*sz) (xs.drop (i*sz))) (i*sz) ys).length=cur.length:=by rw[bg (by omega)];exact hA
 refine⟨?_,hB⟩;apply Yj;intro q;by_cases hq:q < (n+1)*sz
 ·rw[XS hq,iA (by omega),iA (by omega)];by_cases c1:q < i*sz
  ·rw[if_neg (by omega),if_neg (by omega),X4,X2 (by rw[Xq];omega),XS c1,←ht,XS (by omega)]
  ·by_cases c2:q < i*sz+sz
   ·rw[if_pos (by omega),X4,XH (by rw[Xq];omega),X2 (by rw[Xq];omega),Xq];congr 1;omega
   ·rw[if_neg (by omega),if_pos (by omega),XH (by rw[XY,Xq];omega)];congr 1;rw[XY,Xq];omega
 ·rw[XT (by rw[Xq];omega),XT (by simp only[XY,Xq,qt];omega)]
theorem oM:(prog.info? 68).map (fun i=>(i.zero,i.size,i.bytes))=some (some (.agg #[.int .i64 0,.int .i64 0,.int .i64 0,.int .i64 0,.int .i64 0]),5,40):=by kernel_rfl
theorem v4 (g cap n i vb vo vc:Nat)(cur:Array Value)(xs ys:List Value)(w:World)(hh:w.heap[g]? =some (.cells cur 68 (0,0)))(hm:cap≤9223372036854775807)(hs:cur.size=cap*5)(hl:xs.length=n*5)(ht:cur.toList.take (n*5)=xs)
 (nr:∀u∈xs,u.oneCell'=true) (hi:i < n) (jl:n+1≤cap) (rP:ys.length=5) (Pt:∀u∈ys,u.oneCell'=true) (MD:vb≠g) (Jd:∀j u,ys[j]? =some u→w.cell? ⟨vb,vo+j,none⟩=some u)
 (sA:TypeId × Nat) (zO:w.shape? vb=some sA) (JC:sA.2≠0):
 Calls prog 204 #[.slice (some ⟨g,0,none⟩) n cap,.int .i64 i,.slice (some ⟨vb,vo,none⟩) 1 vc] w fun e w'=>
  e= .returned (.slice (some ⟨g,0,none⟩) (n+1) cap)∧w'=(w.drew.setRow g (ay cur.toList ((i+1)*5) (xs.drop (i*5))).toArray).setRow g (ay (ay cur.toList ((i+1)*5) (xs.drop (i*5))) (i*5) ys).toArray:=by
 obtain⟨i0,j4,MB,rR,Eh⟩:=info_parts oM;have ak:prog.follows .mixedOrders=true:=by kernel_rfl
 have pi:(i:Int)+1=((i+1:Nat):Int):=by omega
 obtain⟨j,hj⟩:∃j,j=i+1:=⟨_,rfl⟩;obtain⟨m,FQ⟩:∃m,m=n+1:=⟨_,rfl⟩;have cT:∀w,(sizeOf 68).run prog w= .ok 5 w:=fun w=>by simp[sizeOf,typeInfo,j4,rR]
 have eh:∀lb cb,(callFunc 245 #[.slice (some ⟨vb,vo,none⟩) 1 vc,.slice (some ⟨g,j*5,none⟩) lb cb]).run prog w= .ok (.value (.bool false)) w:=fun lb cb=>by
  rw[run_callFunc_extern (fn:=f245) (by kernel_rfl) (by kernel_rfl) (by kernel_rfl) (by kernel_rfl) (e:=Extern.SlicesOverlaps.overlaps #[60,60] #[4]) (by kernel_rfl),
   mC w 60 4 68 underlying60 5 cT ⟨vb,vo,none⟩ ⟨g,j*5,none⟩ 1 vc lb cb MD sA zO JC cur 68 hh (by omega)]
  rfl
 have qt:(xs.drop (i*5)).length=(n - i)*5:=by rw[XJ,hl];omega
 have jL:∀q u,xs[q]? =some u→cur[q]? =some u:=fun q u hq=>by
  rw[←ht,Zj]at hq;split at hq
  ·rwa [X6]at hq
  ·cases hq
 obtain⟨C1,yn⟩:∃C1:Array Value,C1=(ay cur.toList (j*5) (xs.drop (i*5))).toArray:=⟨_,rfl⟩;have tg:C1.size=cap*5:=by rw[yn,YH,bg (by simp;omega)];simpa using hs
 obtain⟨W1,qu⟩:∃W1,W1=w.drew.setRow g C1:=⟨_,rfl⟩;have FR:∀ty dc sc,(Builtin.copy_ #[60,60] ty #[.slice (some ⟨g,j*5,none⟩) (m - j) dc,.slice (some ⟨g,i*5,none⟩) (m - i) sc]).run prog w.drew= .ok (goInt (ZM (m - i) (m - j))) W1:=fun ty dc sc=>by
  rw[qu,yn];exact eP (e:=68) (sz:=5) (xs.drop (i*5)) underlying60 j4 rR (by rw[qt,show ZM (m - i) (m - j)=n - i from (by simp only[Z6];split<;>omega)]) (fun q u hq=>by
   rw[Addr.add_lit,mD (w:=w.drew) hh];rw[Yk]at hq;have:=jL _ u hq;rw[←this]) (fun u hu=>nr u (Yd hu)) (w:=w.drew) hh (by rw[qt,hs];omega) ty
 have w9:W1.heap[g]? =some (.cells C1 68 (0,0)):=by rw[qu];exact setRow_heap _ g _ _ _ _ hh
 have FT:∀(W:World),W=W1→∀ty dc,(Builtin.copy_ #[60,60] ty #[.slice (some ⟨g,i*5,none⟩) (m - i) dc,.slice (some ⟨vb,vo,none⟩) 1 vc]).run prog W= .ok (goInt (ZM 1 (m - i))) (W1.setRow g (ay C1.toList (i*5) ys).toArray):=fun W hW ty dc=>by
  subst hW;exact eP (e:=68) (sz:=5) ys underlying60 j4 rR (by rw[rP,show ZM 1 (m - i)=1 from (by simp only[Z6];split<;>omega)]) (fun q u hq=>by
   rw[Addr.add_lit,qu];have:=Jd q u hq;rw[←this];exact Zl (a:=⟨vb,vo+q,none⟩) (by rw[setRow_other _ _ _ _ MD];rfl)) Pt w9 (by rw[rP,tg];omega) ty
 have cl:IntKind.i64.wrap ((i:Int)+1)=(j:Int):=by rw[IntKind.wrap_i64];omega
 have cD:IntKind.i64.wrap ((n:Int)+1)=(m:Int):=by rw[IntKind.wrap_i64];omega
 have rT:Hid (W1.setRow g (ay C1.toList (i*5) ys).toArray=(w.drew.setRow g (ay cur.toList ((i+1)*5) (xs.drop (i*5))).toArray).setRow g (ay (ay cur.toList ((i+1)*5) (xs.drop (i*5))) (i*5) ys).toArray):=by
  show W1.setRow g (ay C1.toList (i*5) ys).toArray=_;rw[qu,yn,hj]
 have RY:¬((i:Int)=(n:Int)):=by omega
 have jf:i≤n:=by omega
 have jm:¬(cap=j):=by omega
 have Qe:¬(cap=i):=by omega
 have VC:j≤m:=by omega
 have VD:i≤m:=by omega
 have VE:m≤cap:=by omega
 have VF:¬((cap:Int) < (m:Int)):=by omega
 rw[←FQ];have Jz:=Xj hj;have gZ:=Xj FQ;have hW:=Xj qu;have hC:=Xj yn;clear hj FQ qu yn ht hl hs rP tg qt jL pi w9 MB rR Eh hh;go_enter func204,ntmps204
 go_wp2_with (simp only[eh])
 go_region_law_o (refine lK rfl _ _ 60 60 rfl _ _ (by simp[Act.eval,Act.put]) (by simp[Act.eval,Act.put]) (FR _ _ _) ?_)
 go_wp2_with (at_builtin;refine jJ _ rfl _ _ 60 60 rfl _ _ rfl rfl (FT _ rfl _ _) ?_)
 go_ret
 exact⟨rfl,rT.out⟩
theorem v5 (g cap n i vb vo vc:Nat)(cur:Array Value)(xs ys:List Value)(w:World)(hh:w.heap[g]? =some (.cells cur 68 (0,0)))(hm:cap≤1000000000)(Jv:n≤cap)(hs:cur.size=cap*5)(hl:xs.length=n*5)(ht:cur.toList.take (n*5)=xs)
 (nr:∀u∈xs,u.oneCell'=true) (hi:i < n) (jl:¬n+1≤cap) (rP:ys.length=5) (Pt:∀u∈ys,u.oneCell'=true) (Jd:∀j u,ys[j]? =some u→w.cell? ⟨vb,vo+j,none⟩=some u):
 Calls prog 204 #[.slice (some ⟨g,0,none⟩) n cap,.int .i64 i,.slice (some ⟨vb,vo,none⟩) 1 vc] w (AC w 68 g 5 n (xs.take (i*5)++ys++xs.drop (i*5))):=by
 obtain⟨i0,j4,MB,rR,Eh⟩:=info_parts oM;have ak:prog.follows .mixedOrders=true:=by kernel_rfl
 obtain⟨j,hj⟩:∃j,j=i+1:=⟨_,rfl⟩;obtain⟨m,FQ⟩:∃m,m=n+1:=⟨_,rfl⟩;obtain⟨k,hk⟩:∃k,k=m - i:=⟨_,rfl⟩;obtain⟨B,hB⟩:∃B,B=w.heap.size:=⟨_,rfl⟩;have VG:g < B:=by rw[hB];exact mb hh
 have MT:vb < B:=by
  obtain⟨u,hu⟩:∃u,ys[0]? =some u:=⟨_,Xk (by omega)⟩;have:=Jd 0 u hu;rw[hB];rcases XP vb w.heap.size with h|h
  ·exact h
  ·simp[YS,YM h]at this
 have jL:∀q u,xs[q]? =some u→cur[q]? =some u:=fun q u hq=>by
  rw[←ht,Zj]at hq;split at hq
  ·rwa [X6]at hq
  ·cases hq
 have hold:(Builtin.firstCells i0.size i (.slice (some ⟨g,0,none⟩) i cap)).run prog w.drew= .ok (xs.take (i*5)).toArray w.drew:=by
  rw[rR];exact run_firstCells_some w.drew 5 i ⟨g,0,none⟩ i cap (xs.take (i*5)) (by rw[Xq];omega) (fun q u hq=>by
   rw[Addr.add_lit,mD (w:=w.drew) hh,XG];rw[Zj]at hq;split at hq
   ·exact jL q u hq
   ·cases hq)
 obtain⟨G,hG⟩:∃G,G=grownCap w (i+k) cap 68:=⟨_,rfl⟩;have RZ:i+k=m:=by omega
 have hGm:m≤G:=by rw[hG,RZ];exact grownCap_ge w _ _ _
 have R0:G≤9223372036854775807:=by
  have:=grownCap_le_maxLen w (i+k) cap 68 (by unfold maxLen;omega);rw[←hG]at this;unfold maxLen at this;omega
 obtain⟨C0,PH⟩:∃C0:Array Value,C0=(xs.take (i*5)).toArray++Builtin.zeroCells (Value.agg #[.int .i64 0,.int .i64 0,.int .i64 0,.int .i64 0,.int .i64 0]).cells k++Builtin.zeroCells (Value.agg #[.int .i64 0,.int .i64 0,.int .i64 0,.int .i64 0,.int .i64 0]).cells (G - m):=⟨_,rfl⟩;have T3:∀ty,(Builtin.append_ #[60,3] ty #[.slice (some ⟨g,0,none⟩) i cap,.int .i64 ((m:Int) - (i:Int))]).run prog w= .ok (.slice (some ⟨B,0,none⟩) m G) (w.drew.alloc (.cells C0 68)):=fun ty=>by
  have hz:=Lib.run_append_grow_zeros (P:=prog) w 60 3 ty 68 i0 _ .i64 .i64 underlying60 underlying3 j4 MB (some ⟨g,0,none⟩) i cap (xs.take (i*5)) hold k (by omega) (by omega) (by omega) (by omega) (by rw[Eh];omega) (by rw[Eh];exact growslice_fits (by omega) (by omega));rw[←hG,RZ,←hB]at hz;rw[show (m:Int) - (i:Int)=(k:Int) by omega,hz,PH]
 have FU:C0.size=G*5:=by
  rw[PH];simp[Builtin.zeroCells,Value.cells];omega
 obtain⟨W0,D9⟩:∃W0,W0=w.drew.alloc (.cells C0 68):=⟨_,rfl⟩;rw[←D9]at T3;have R1:W0.heap[B]? =some (.cells C0 68 (0,0)):=by rw[D9,hB];exact jM w.drew _
 have xj:∀b,b < B→W0.heap[b]? =w.heap[b]? :=fun b hb=>by
  rw[D9];simp only[World.alloc,Array.getElem?_push];rw[if_neg (by show ¬b=w.heap.size;omega)];rfl
 obtain⟨C1,yn⟩:∃C1:Array Value,C1=(ay C0.toList (i*5) ys).toArray:=⟨_,rfl⟩;have tg:C1.size=G*5:=by rw[yn,YH,bg (by simp;omega)];simpa using FU
 obtain⟨W1,qu⟩:∃W1,W1=W0.setRow B C1:=⟨_,rfl⟩;have FR:∀ty dc,(Builtin.copy_ #[60,60] ty #[.slice (some ⟨B,i*5,none⟩) (m - i) dc,.slice (some ⟨vb,vo,none⟩) 1 vc]).run prog W0= .ok (goInt (ZM 1 (m - i))) W1:=fun ty dc=>by
  rw[qu,yn];exact eP (e:=68) (sz:=5) ys underlying60 j4 rR (by rw[rP,show ZM 1 (m - i)=1 from (by simp only[Z6];split<;>omega)]) (fun q u hq=>by
   rw[Addr.add_lit];rw[←Jd q u hq];exact Zl (a:=⟨vb,vo+q,none⟩) (xj vb MT)) Pt R1 (by rw[rP,FU];omega) ty
 have w9:W1.heap[B]? =some (.cells C1 68 (0,0)):=by rw[qu];exact setRow_heap _ B _ _ _ _ R1
 have xk:∀b,b < B→W1.heap[b]? =w.heap[b]? :=fun b hb=>by rw[qu,setRow_other _ _ _ _ (by omega)];exact xj b hb
 have qt:(xs.drop (i*5)).length=(n - i)*5:=by rw[XJ,hl];omega
 have FT:∀ty dc sc,(Builtin.copy_ #[60,60] ty #[.slice (some ⟨B,j*5,none⟩) (m - j) dc,.slice (some ⟨g,i*5,none⟩) (n - i) sc]).run prog W1.drew= .ok (goInt (ZM (n - i) (m - j))) (W1.drew.setRow B (ay C1.toList (j*5) (xs.drop (i*5))).toArray):=fun ty dc sc=>by
  exact eP (e:=68) (sz:=5) (xs.drop (i*5)) underlying60 j4 rR (by rw[qt,show ZM (n - i) (m - j)=n - i from (by simp only[Z6];split<;>omega)]) (fun q u hq=>by
   rw[Addr.add_lit,mD (w:=W1.drew) (show W1.heap[g]? =_ from (xk g VG).trans hh)];rw[Yk]at hq;have:=jL _ u hq;rw[←this]) (fun u hu=>nr u (Yd hu)) (w:=W1.drew) w9 (by rw[qt,tg];omega) ty
 have hR:Hid (∀e,e=Ending.returned (.slice (some ⟨B,0,none⟩) m G)→AC w 68 g 5 n (xs.take (i*5)++ys++xs.drop (i*5)) e (W1.drew.setRow B (ay C1.toList (j*5) (xs.drop (i*5))).toArray)):=by
  intro e he;refine⟨G,ay C1.toList (j*5) (xs.drop (i*5)),by omega,R0,?_,?_,by rw[he,hB,FQ],?_,?_⟩
  ·rw[bg (by rw[qt];simp;omega)];simpa using tg
  ·rw[yn,Y1];have e1:C0.toList.take (i*5)=xs.take (i*5):=by
    rw[PH];simp only[Array.toList_append,X4];rw[Yl (by simp;omega),XN (by rw[Xq];omega)]
   rw[show (n+1)*5=j*5+(xs.drop (i*5)).length by rw[qt];omega];unfold ay;rw[Yl (by simp;omega),XN (by simp;omega)];congr 1;rw[e1,Yl (by simp;omega),XN (by simp;omega)]
  ·refine⟨?_,?_,?_,?_,fun b hb _=>?_⟩
   ·rw[qu,D9];rfl
   ·rw[qu,D9];rfl
   ·rw[qu,D9];rfl
   ·rw[qu,D9];simp[ZE]
   ·rw[setRow_other _ _ _ _ (by omega)];exact xk b (by omega)
  ·rw[←hB];exact setRow_heap W1.drew B _ _ _ _ w9
 have cl:IntKind.i64.wrap ((i:Int)+1)=(j:Int):=by rw[IntKind.wrap_i64];omega
 have cD:IntKind.i64.wrap ((n:Int)+1)=(m:Int):=by rw[IntKind.wrap_i64];omega
 have lV:IntKind.i64.wrap ((m:Int) - (i:Int))=(m:Int) - (i:Int):=by rw[IntKind.wrap_i64];omega
 have RY:¬((i:Int)=(n:Int)):=by omega
 have jf:i≤n:=by omega
 have jm:¬(G=j):=by omega
 have Qe:¬(G=i):=by omega
 have VC:j≤m:=by omega
 have VD:i≤m:=by omega
 have VE:i≤cap:=by omega
 have VF:(cap:Int) < (m:Int):=by omega
 have Ux:¬(cap=i):=by omega
 have hb9:j≤G:=by omega
 have VH:i≤G:=by omega
 clear hold FU tg qt rP hl hs ht hh R1 w9 xj xk jL RZ MB rR Eh hG D9 qu PH yn hk hj FQ hB jl;go_enter func204,ntmps204
 go_wp2_with (at_builtin;first|refine pH _ rfl _ _ 60 3 rfl _ _ rfl rfl (T3 _) ?_|refine jJ _ rfl _ _ 60 60 rfl _ _ rfl rfl (FR _ _) ?_)
 go_region_law_o (refine lK rfl _ _ 60 60 rfl _ _ (by simp[Act.eval,Act.put]) (by simp[Act.eval,Act.put]) (FT _ _ _) ?_)
 go_wp2_with fail
 go_ret
 exact hR.out _ rfl
theorem AD (l:List Lse)(x:Lse)(i g:Nat)(hi:i≤l.length)(hl:l.length≤1000000):
 MSpec prog 204 [.own 0 g,.d (.v (.int .i64 i)),.d (.sl 5 [aV x])] [.row 68 5 g (ab (l.map aV))] (.own 0 (g+1)) [.row 68 5 (g+1) (ab ((l.take i++x::l.drop i).map aV))]:=by
 rcases XP i l.length with hlt|hge
 ·have h1:=Lf (P:=prog) (f:=204) (E:=68) (sz:=5) (g:=g) (i:=i) (rows:=l.map aV) (x:=aV x) (cZ func204 (by kernel_rfl) rfl) (by omega) (by simpa using hlt) (by
   simp only[XD];intro w gb cap vb vo vc cur xs ys q1 q2 q3 q4 q5 q6 q7 q8 q9 q10 q11;obtain⟨u,hu⟩:∃u,ys[0]? =some u:=⟨_,Xk (by omega)⟩;obtain⟨sA,zO,JC⟩:=tK (q11 0 u hu);unfold maxLen at q2;by_cases jl:l.length+1≤cap
   ·refine(v4 gb cap l.length i vb vo vc cur xs ys w q1 (by omega) q4 q5 q6 q7 hlt jl q8 q9 q10 q11 sA zO JC).mono ?_;rintro e w' ⟨rfl,rfl⟩;obtain⟨t1,t2⟩:=CR (sz:=5) (n:=l.length) (i:=i) (cur:=cur.toList) (xs:=xs) (ys:=ys) (by omega) hlt (by simp;omega) q5 q8 q6;have TB:(w.drew.setRow gb (ay cur.toList ((i+1)*5) (xs.drop (i*5))).toArray).heap[gb]? =some (.cells (ay cur.toList ((i+1)*5) (xs.drop (i*5))).toArray 68 (0,0)):=setRow_heap _ gb _ _ _ _ q1;refine⟨_,rfl,.row gb (l.length+1) cap _ _ (by omega) (setRow_heap _ gb _ _ _ _ TB) jl q2 (by rw[YH,t2];simpa using q4) (by rw[←t1,Xq,t2];simp;omega) (by rw[Y1];exact t1),⟨rfl,rfl,rfl,by simp[ZE],fun b hb bB=>?_⟩,.inl (dk (by omega))⟩;have cU:b≠gb:=fun e=>bB (by rw[e]);rw[setRow_other _ _ _ _ cU,setRow_other _ _ _ _ cU];rfl
   ·refine(v5 gb cap l.length i vb vo vc cur xs ys w q1 (by omega) q3 q4 q5 q6 q7 hlt jl q8 q9 q11).mono ?_;rintro e w' ⟨G,R,h1,h2,h3,h4,rfl,h6,h7⟩;exact⟨_,rfl,.row w.heap.size (l.length+1) G R.toArray _ (by omega) h7 h1 h2 (by simpa using h3) (by rw[←h4,Xq,h3];omega) (by simpa using h4),h6,.inr fun b hb=>by rw[dk (by omega)]at hb;cases hb;exact XB _⟩)
  rw[Xo,ZH,Xm,List.map_drop];exact h1
 ·obtain rfl:i=l.length:=by omega
  rw[Xt,Y7];by_cases h0:l=[]
  ·subst h0;refine mj func204 ntmps204 results204 ?_;repeat' (first|(with_reducible refine And.intro ?_ ?_)|(with_reducible refine cn (fun _=>?_) (fun _=>?_))|(with_reducible refine aA (fun _=>?_) (fun _=>?_))|(with_reducible refine be (by kernel_rfl))|simp -dsimp only[go_sem,seval, *,aV,ab,XR]|((with_reducible refine bf ?_);simp -dsimp only[go_sem,seval,aV,ab,XR];first|refine aC (by first|assumption|fail) (by first|exact .inl rfl|exact .inr rfl) ?_|refine aB (by assumption) (by repeat(first|exact ai.refl _|exact ai.nil _|(refine ai.tup ?_)|(refine ai.agg ?_ rfl)|exact trivial|(refine And.intro ?_ ?_))) (by first|exact .inl rfl|exact .inr rfl) ?_)|omega|exact decide_eq_true (by omega)|exact ai.refl _)
   all_goals exact bn rfl rfl
  ·have bB:¬ab (l.map aV)=[]:=by simpa[ab]using h0
   refine mj func204 ntmps204 results204 ?_;repeat' (first|(with_reducible refine And.intro ?_ ?_)|(with_reducible refine cn (fun _=>?_) (fun _=>?_))|(with_reducible refine aA (fun _=>?_) (fun _=>?_))|(with_reducible refine be (by kernel_rfl))|simp -dsimp only[go_sem,seval, *,aV,XR]|((with_reducible refine bf ?_);simp -dsimp only[go_sem,seval,aV,XR];first|refine aC (by first|assumption|fail) (by first|exact .inl rfl|exact .inr rfl) ?_|refine aB (by assumption) (by repeat(first|exact ai.refl _|exact ai.nil _|(refine ai.tup ?_)|(refine ai.agg ?_ rfl)|exact trivial|(refine And.intro ?_ ?_))) (by first|exact .inl rfl|exact .inr rfl) ?_)|omega|exact decide_eq_true (by omega)|exact ai.refl _)
   all_goals exact bn rfl (by simp[aV,ab])
theorem pK:(prog.info? 62).map (fun i=>(i.zero,i.size,i.bytes))=some (some (.agg #[.int .i64 0,.int .i64 0,.int .i64 0,.int .i64 0,.int .i64 0,.int .i64 0,.int .i64 0,.int .i64 0,.slice none 0 0]),9,88):=by kernel_rfl
theorem xO (g cap n i vb vo vc:Nat)(cur:Array Value)(xs ys:List Value)(w:World)(hh:w.heap[g]? =some (.cells cur 62 (0,0)))(hm:cap≤9223372036854775807)(hs:cur.size=cap*9)(hl:xs.length=n*9)(ht:cur.toList.take (n*9)=xs)
 (nr:∀u∈xs,u.oneCell'=true) (hi:i < n) (jl:n+1≤cap) (rP:ys.length=9) (Pt:∀u∈ys,u.oneCell'=true) (MD:vb≠g) (Jd:∀j u,ys[j]? =some u→w.cell? ⟨vb,vo+j,none⟩=some u)
 (sA:TypeId × Nat) (zO:w.shape? vb=some sA) (JC:sA.2≠0):
 Calls prog 200 #[.slice (some ⟨g,0,none⟩) n cap,.int .i64 i,.slice (some ⟨vb,vo,none⟩) 1 vc] w fun e w'=>
  e= .returned (.slice (some ⟨g,0,none⟩) (n+1) cap)∧w'=(w.drew.setRow g (ay cur.toList ((i+1)*9) (xs.drop (i*9))).toArray).setRow g (ay (ay cur.toList ((i+1)*9) (xs.drop (i*9))) (i*9) ys).toArray:=by
 obtain⟨i0,j4,MB,rR,Eh⟩:=info_parts pK;have ak:prog.follows .mixedOrders=true:=by kernel_rfl
 have pi:(i:Int)+1=((i+1:Nat):Int):=by omega
 obtain⟨j,hj⟩:∃j,j=i+1:=⟨_,rfl⟩;obtain⟨m,FQ⟩:∃m,m=n+1:=⟨_,rfl⟩;have cT:∀w,(sizeOf 62).run prog w= .ok 9 w:=fun w=>by simp[sizeOf,typeInfo,j4,rR]
 have eh:∀lb cb,(callFunc 242 #[.slice (some ⟨vb,vo,none⟩) 1 vc,.slice (some ⟨g,j*9,none⟩) lb cb]).run prog w= .ok (.value (.bool false)) w:=fun lb cb=>by
  rw[run_callFunc_extern (fn:=f242) (by kernel_rfl) (by kernel_rfl) (by kernel_rfl) (by kernel_rfl) (e:=Extern.SlicesOverlaps.overlaps #[22,22] #[4]) (by kernel_rfl),
   mC w 22 4 62 underlying22 9 cT ⟨vb,vo,none⟩ ⟨g,j*9,none⟩ 1 vc lb cb MD sA zO JC cur 62 hh (by omega)]
  rfl
 have qt:(xs.drop (i*9)).length=(n - i)*9:=by rw[XJ,hl];omega
 have jL:∀q u,xs[q]? =some u→cur[q]? =some u:=fun q u hq=>by
  rw[←ht,Zj]at hq;split at hq
  ·rwa [X6]at hq
  ·cases hq
 obtain⟨C1,yn⟩:∃C1:Array Value,C1=(ay cur.toList (j*9) (xs.drop (i*9))).toArray:=⟨_,rfl⟩;have tg:C1.size=cap*9:=by rw[yn,YH,bg (by simp;omega)];simpa using hs
 obtain⟨W1,qu⟩:∃W1,W1=w.drew.setRow g C1:=⟨_,rfl⟩;have FR:∀ty dc sc,(Builtin.copy_ #[22,22] ty #[.slice (some ⟨g,j*9,none⟩) (m - j) dc,.slice (some ⟨g,i*9,none⟩) (m - i) sc]).run prog w.drew= .ok (goInt (ZM (m - i) (m - j))) W1:=fun ty dc sc=>by
  rw[qu,yn];exact eP (e:=62) (sz:=9) (xs.drop (i*9)) underlying22 j4 rR (by rw[qt,show ZM (m - i) (m - j)=n - i from (by simp only[Z6];split<;>omega)]) (fun q u hq=>by
   rw[Addr.add_lit,mD (w:=w.drew) hh];rw[Yk]at hq;have:=jL _ u hq;rw[←this]) (fun u hu=>nr u (Yd hu)) (w:=w.drew) hh (by rw[qt,hs];omega) ty
 have w9:W1.heap[g]? =some (.cells C1 62 (0,0)):=by rw[qu];exact setRow_heap _ g _ _ _ _ hh
 have FT:∀(W:World),W=W1→∀ty dc,(Builtin.copy_ #[22,22] ty #[.slice (some ⟨g,i*9,none⟩) (m - i) dc,.slice (some ⟨vb,vo,none⟩) 1 vc]).run prog W= .ok (goInt (ZM 1 (m - i))) (W1.setRow g (ay C1.toList (i*9) ys).toArray):=fun W hW ty dc=>by
  subst hW;exact eP (e:=62) (sz:=9) ys underlying22 j4 rR (by rw[rP,show ZM 1 (m - i)=1 from (by simp only[Z6];split<;>omega)]) (fun q u hq=>by
   rw[Addr.add_lit,qu];have:=Jd q u hq;rw[←this];exact Zl (a:=⟨vb,vo+q,none⟩) (by rw[setRow_other _ _ _ _ MD];rfl)) Pt w9 (by rw[rP,tg];omega) ty
 have cl:IntKind.i64.wrap ((i:Int)+1)=(j:Int):=by rw[IntKind.wrap_i64];omega
 have cD:IntKind.i64.wrap ((n:Int)+1)=(m:Int):=by rw[IntKind.wrap_i64];omega
 have rT:Hid (W1.setRow g (ay C1.toList (i*9) ys).toArray=(w.drew.setRow g (ay cur.toList ((i+1)*9) (xs.drop (i*9))).toArray).setRow g (ay (ay cur.toList ((i+1)*9) (xs.drop (i*9))) (i*9) ys).toArray):=by
  show W1.setRow g (ay C1.toList (i*9) ys).toArray=_;rw[qu,yn,hj]
 have RY:¬((i:Int)=(n:Int)):=by omega
 have jf:i≤n:=by omega
 have jm:¬(cap=j):=by omega
 have Qe:¬(cap=i):=by omega
 have VC:j≤m:=by omega
 have VD:i≤m:=by omega
 have VE:m≤cap:=by omega
 have VF:¬((cap:Int) < (m:Int)):=by omega
 rw[←FQ];have Jz:=Xj hj;have gZ:=Xj FQ;have hW:=Xj qu;have hC:=Xj yn;clear hj FQ qu yn ht hl hs rP tg qt jL pi w9 MB rR Eh hh;go_enter func200,ntmps200
 go_wp2_with (simp only[eh])
 go_region_law_o (refine lK rfl _ _ 22 22 rfl _ _ (by simp[Act.eval,Act.put]) (by simp[Act.eval,Act.put]) (FR _ _ _) ?_)
 go_wp2_with (at_builtin;refine jJ _ rfl _ _ 22 22 rfl _ _ rfl rfl (FT _ rfl _ _) ?_)
 go_ret
 exact⟨rfl,rT.out⟩
theorem xP (g cap n i vb vo vc:Nat)(cur:Array Value)(xs ys:List Value)(w:World)(hh:w.heap[g]? =some (.cells cur 62 (0,0)))(hm:cap≤1000000000)(Jv:n≤cap)(hs:cur.size=cap*9)(hl:xs.length=n*9)(ht:cur.toList.take (n*9)=xs)
 (nr:∀u∈xs,u.oneCell'=true) (hi:i < n) (jl:¬n+1≤cap) (rP:ys.length=9) (Pt:∀u∈ys,u.oneCell'=true) (Jd:∀j u,ys[j]? =some u→w.cell? ⟨vb,vo+j,none⟩=some u):
 Calls prog 200 #[.slice (some ⟨g,0,none⟩) n cap,.int .i64 i,.slice (some ⟨vb,vo,none⟩) 1 vc] w (AC w 62 g 9 n (xs.take (i*9)++ys++xs.drop (i*9))):=by
 obtain⟨i0,j4,MB,rR,Eh⟩:=info_parts pK;have ak:prog.follows .mixedOrders=true:=by kernel_rfl
 obtain⟨j,hj⟩:∃j,j=i+1:=⟨_,rfl⟩;obtain⟨m,FQ⟩:∃m,m=n+1:=⟨_,rfl⟩;obtain⟨k,hk⟩:∃k,k=m - i:=⟨_,rfl⟩;obtain⟨B,hB⟩:∃B,B=w.heap.size:=⟨_,rfl⟩;have VG:g < B:=by rw[hB];exact mb hh
 have MT:vb < B:=by
  obtain⟨u,hu⟩:∃u,ys[0]? =some u:=⟨_,Xk (by omega)⟩;have:=Jd 0 u hu;rw[hB];rcases XP vb w.heap.size with h|h
  ·exact h
  ·simp[YS,YM h]at this
 have jL:∀q u,xs[q]? =some u→cur[q]? =some u:=fun q u hq=>by
  rw[←ht,Zj]at hq;split at hq
  ·rwa [X6]at hq
  ·cases hq
 have hold:(Builtin.firstCells i0.size i (.slice (some ⟨g,0,none⟩) i cap)).run prog w.drew= .ok (xs.take (i*9)).toArray w.drew:=by
  rw[rR];exact run_firstCells_some w.drew 9 i ⟨g,0,none⟩ i cap (xs.take (i*9)) (by rw[Xq];omega) (fun q u hq=>by
   rw[Addr.add_lit,mD (w:=w.drew) hh,XG];rw[Zj]at hq;split at hq
   ·exact jL q u hq
   ·cases hq)
 obtain⟨G,hG⟩:∃G,G=grownCap w (i+k) cap 62:=⟨_,rfl⟩;have RZ:i+k=m:=by omega
 have hGm:m≤G:=by rw[hG,RZ];exact grownCap_ge w _ _ _
 have R0:G≤9223372036854775807:=by
  have:=grownCap_le_maxLen w (i+k) cap 62 (by unfold maxLen;omega);rw[←hG]at this;unfold maxLen at this;omega
 obtain⟨C0,PH⟩:∃C0:Array Value,C0=(xs.take (i*9)).toArray++Builtin.zeroCells (Value.agg #[.int .i64 0,.int .i64 0,.int .i64 0,.int .i64 0,.int .i64 0,.int .i64 0,.int .i64 0,.int .i64 0,.slice none 0 0]).cells k++Builtin.zeroCells (Value.agg #[.int .i64 0,.int .i64 0,.int .i64 0,.int .i64 0,.int .i64 0,.int .i64 0,.int .i64 0,.int .i64 0,.slice none 0 0]).cells (G - m):=⟨_,rfl⟩;have T3:∀ty,(Builtin.append_ #[22,3] ty #[.slice (some ⟨g,0,none⟩) i cap,.int .i64 ((m:Int) - (i:Int))]).run prog w= .ok (.slice (some ⟨B,0,none⟩) m G) (w.drew.alloc (.cells C0 62)):=fun ty=>by
  have hz:=Lib.run_append_grow_zeros (P:=prog) w 22 3 ty 62 i0 _ .i64 .i64 underlying22 underlying3 j4 MB (some ⟨g,0,none⟩) i cap (xs.take (i*9)) hold k (by omega) (by omega) (by omega) (by omega) (by rw[Eh];omega) (by rw[Eh];exact growslice_fits (by omega) (by omega));rw[←hG,RZ,←hB]at hz;rw[show (m:Int) - (i:Int)=(k:Int) by omega,hz,PH]
 have FU:C0.size=G*9:=by
  rw[PH];simp[Builtin.zeroCells,Value.cells];omega
 obtain⟨W0,D9⟩:∃W0,W0=w.drew.alloc (.cells C0 62):=⟨_,rfl⟩;rw[←D9]at T3;have R1:W0.heap[B]? =some (.cells C0 62 (0,0)):=by rw[D9,hB];exact jM w.drew _
 have xj:∀b,b < B→W0.heap[b]? =w.heap[b]? :=fun b hb=>by
  rw[D9];simp only[World.alloc,Array.getElem?_push];rw[if_neg (by show ¬b=w.heap.size;omega)];rfl
 obtain⟨C1,yn⟩:∃C1:Array Value,C1=(ay C0.toList (i*9) ys).toArray:=⟨_,rfl⟩;have tg:C1.size=G*9:=by rw[yn,YH,bg (by simp;omega)];simpa using FU
 obtain⟨W1,qu⟩:∃W1,W1=W0.setRow B C1:=⟨_,rfl⟩;have FR:∀ty dc,(Builtin.copy_ #[22,22] ty #[.slice (some ⟨B,i*9,none⟩) (m - i) dc,.slice (some ⟨vb,vo,none⟩) 1 vc]).run prog W0= .ok (goInt (ZM 1 (m - i))) W1:=fun ty dc=>by
  rw[qu,yn];exact eP (e:=62) (sz:=9) ys underlying22 j4 rR (by rw[rP,show ZM 1 (m - i)=1 from (by simp only[Z6];split<;>omega)]) (fun q u hq=>by
   rw[Addr.add_lit];rw[←Jd q u hq];exact Zl (a:=⟨vb,vo+q,none⟩) (xj vb MT)) Pt R1 (by rw[rP,FU];omega) ty
 have w9:W1.heap[B]? =some (.cells C1 62 (0,0)):=by rw[qu];exact setRow_heap _ B _ _ _ _ R1
 have xk:∀b,b < B→W1.heap[b]? =w.heap[b]? :=fun b hb=>by rw[qu,setRow_other _ _ _ _ (by omega)];exact xj b hb
 have qt:(xs.drop (i*9)).length=(n - i)*9:=by rw[XJ,hl];omega
 have FT:∀ty dc sc,(Builtin.copy_ #[22,22] ty #[.slice (some ⟨B,j*9,none⟩) (m - j) dc,.slice (some ⟨g,i*9,none⟩) (n - i) sc]).run prog W1.drew= .ok (goInt (ZM (n - i) (m - j))) (W1.drew.setRow B (ay C1.toList (j*9) (xs.drop (i*9))).toArray):=fun ty dc sc=>by
  exact eP (e:=62) (sz:=9) (xs.drop (i*9)) underlying22 j4 rR (by rw[qt,show ZM (n - i) (m - j)=n - i from (by simp only[Z6];split<;>omega)]) (fun q u hq=>by
   rw[Addr.add_lit,mD (w:=W1.drew) (show W1.heap[g]? =_ from (xk g VG).trans hh)];rw[Yk]at hq;have:=jL _ u hq;rw[←this]) (fun u hu=>nr u (Yd hu)) (w:=W1.drew) w9 (by rw[qt,tg];omega) ty
 have hR:Hid (∀e,e=Ending.returned (.slice (some ⟨B,0,none⟩) m G)→AC w 62 g 9 n (xs.take (i*9)++ys++xs.drop (i*9)) e (W1.drew.setRow B (ay C1.toList (j*9) (xs.drop (i*9))).toArray)):=by
  intro e he;refine⟨G,ay C1.toList (j*9) (xs.drop (i*9)),by omega,R0,?_,?_,by rw[he,hB,FQ],?_,?_⟩
  ·rw[bg (by rw[qt];simp;omega)];simpa using tg
  ·rw[yn,Y1];have e1:C0.toList.take (i*9)=xs.take (i*9):=by
    rw[PH];simp only[Array.toList_append,X4];rw[Yl (by simp;omega),XN (by rw[Xq];omega)]
   rw[show (n+1)*9=j*9+(xs.drop (i*9)).length by rw[qt];omega];unfold ay;rw[Yl (by simp;omega),XN (by simp;omega)];congr 1;rw[e1,Yl (by simp;omega),XN (by simp;omega)]
  ·refine⟨?_,?_,?_,?_,fun b hb _=>?_⟩
   ·rw[qu,D9];rfl
   ·rw[qu,D9];rfl
   ·rw[qu,D9];rfl
   ·rw[qu,D9];simp[ZE]
   ·rw[setRow_other _ _ _ _ (by omega)];exact xk b (by omega)
  ·rw[←hB];exact setRow_heap W1.drew B _ _ _ _ w9
 have cl:IntKind.i64.wrap ((i:Int)+1)=(j:Int):=by rw[IntKind.wrap_i64];omega
 have cD:IntKind.i64.wrap ((n:Int)+1)=(m:Int):=by rw[IntKind.wrap_i64];omega
 have lV:IntKind.i64.wrap ((m:Int) - (i:Int))=(m:Int) - (i:Int):=by rw[IntKind.wrap_i64];omega
 have RY:¬((i:Int)=(n:Int)):=by omega
 have jf:i≤n:=by omega
 have jm:¬(G=j):=by omega
 have Qe:¬(G=i):=by omega
 have VC:j≤m:=by omega
 have VD:i≤m:=by omega
 have VE:i≤cap:=by omega
 have VF:(cap:Int) < (m:Int):=by omega
 have Ux:¬(cap=i):=by omega
 have hb9:j≤G:=by omega
 have VH:i≤G:=by omega
 clear hold FU tg qt rP hl hs ht hh R1 w9 xj xk jL RZ MB rR Eh hG D9 qu PH yn hk hj FQ hB jl;go_enter func200,ntmps200
 go_wp2_with (at_builtin;first|refine pH _ rfl _ _ 22 3 rfl _ _ rfl rfl (T3 _) ?_|refine jJ _ rfl _ _ 22 22 rfl _ _ rfl rfl (FR _ _) ?_)
 go_region_law_o (refine lK rfl _ _ 22 22 rfl _ _ (by simp[Act.eval,Act.put]) (by simp[Act.eval,Act.put]) (FT _ _ _) ?_)
 go_wp2_with fail
 go_ret
 exact hR.out _ rfl
theorem CS (l:List Pol)(x:Pol)(i g:Nat)(hi:i≤l.length)(hl:l.length≤1000000):
 MSpec prog 200 [.own 0 g,.d (.v (.int .i64 i)),.d (.sl 9 [ah x])] [.row 62 9 g (ab (l.map ah))] (.own 0 (g+1)) [.row 62 9 (g+1) (ab ((l.take i++x::l.drop i).map ah))]:=by
 rcases XP i l.length with hlt|hge
 ·have h1:=Lf (P:=prog) (f:=200) (E:=62) (sz:=9) (g:=g) (i:=i) (rows:=l.map ah) (x:=ah x) (cZ func200 (by kernel_rfl) rfl) (by omega) (by simpa using hlt) (by
   simp only[XD];intro w gb cap vb vo vc cur xs ys q1 q2 q3 q4 q5 q6 q7 q8 q9 q10 q11;obtain⟨u,hu⟩:∃u,ys[0]? =some u:=⟨_,Xk (by omega)⟩;obtain⟨sA,zO,JC⟩:=tK (q11 0 u hu);unfold maxLen at q2;by_cases jl:l.length+1≤cap
   ·refine(xO gb cap l.length i vb vo vc cur xs ys w q1 (by omega) q4 q5 q6 q7 hlt jl q8 q9 q10 q11 sA zO JC).mono ?_;rintro e w' ⟨rfl,rfl⟩;obtain⟨t1,t2⟩:=CR (sz:=9) (n:=l.length) (i:=i) (cur:=cur.toList) (xs:=xs) (ys:=ys) (by omega) hlt (by simp;omega) q5 q8 q6;have TB:(w.drew.setRow gb (ay cur.toList ((i+1)*9) (xs.drop (i*9))).toArray).heap[gb]? =some (.cells (ay cur.toList ((i+1)*9) (xs.drop (i*9))).toArray 62 (0,0)):=setRow_heap _ gb _ _ _ _ q1;refine⟨_,rfl,.row gb (l.length+1) cap _ _ (by omega) (setRow_heap _ gb _ _ _ _ TB) jl q2 (by rw[YH,t2];simpa using q4) (by rw[←t1,Xq,t2];simp;omega) (by rw[Y1];exact t1),⟨rfl,rfl,rfl,by simp[ZE],fun b hb bB=>?_⟩,.inl (dk (by omega))⟩;have cU:b≠gb:=fun e=>bB (by rw[e]);rw[setRow_other _ _ _ _ cU,setRow_other _ _ _ _ cU];rfl
   ·refine(xP gb cap l.length i vb vo vc cur xs ys w q1 (by omega) q3 q4 q5 q6 q7 hlt jl q8 q9 q11).mono ?_;rintro e w' ⟨G,R,h1,h2,h3,h4,rfl,h6,h7⟩;exact⟨_,rfl,.row w.heap.size (l.length+1) G R.toArray _ (by omega) h7 h1 h2 (by simpa using h3) (by rw[←h4,Xq,h3];omega) (by simpa using h4),h6,.inr fun b hb=>by rw[dk (by omega)]at hb;cases hb;exact XB _⟩)
  rw[Xo,ZH,Xm,List.map_drop];exact h1
 ·obtain rfl:i=l.length:=by omega
  rw[Xt,Y7];by_cases h0:l=[]
  ·subst h0;refine mj func200 ntmps200 results200 ?_;repeat' (first|(with_reducible refine And.intro ?_ ?_)|(with_reducible refine cn (fun _=>?_) (fun _=>?_))|(with_reducible refine aA (fun _=>?_) (fun _=>?_))|(with_reducible refine be (by kernel_rfl))|simp -dsimp only[go_sem,seval, *,ah,ab,XR]|((with_reducible refine bf ?_);simp -dsimp only[go_sem,seval,ah,ab,XR];first|refine aC (by first|assumption|fail) (by first|exact .inl rfl|exact .inr rfl) ?_|refine aB (by assumption) (by repeat(first|exact ai.refl _|exact ai.nil _|(refine ai.tup ?_)|(refine ai.agg ?_ rfl)|exact trivial|(refine And.intro ?_ ?_))) (by first|exact .inl rfl|exact .inr rfl) ?_)|omega|exact decide_eq_true (by omega)|exact ai.refl _)
   all_goals exact bn rfl rfl
  ·have bB:¬ab (l.map ah)=[]:=by simpa[ab]using h0
   refine mj func200 ntmps200 results200 ?_;repeat' (first|(with_reducible refine And.intro ?_ ?_)|(with_reducible refine cn (fun _=>?_) (fun _=>?_))|(with_reducible refine aA (fun _=>?_) (fun _=>?_))|(with_reducible refine be (by kernel_rfl))|simp -dsimp only[go_sem,seval, *,ah,XR]|((with_reducible refine bf ?_);simp -dsimp only[go_sem,seval,ah,XR];first|refine aC (by first|assumption|fail) (by first|exact .inl rfl|exact .inr rfl) ?_|refine aB (by assumption) (by repeat(first|exact ai.refl _|exact ai.nil _|(refine ai.tup ?_)|(refine ai.agg ?_ rfl)|exact trivial|(refine And.intro ?_ ?_))) (by first|exact .inl rfl|exact .inr rfl) ?_)|omega|exact decide_eq_true (by omega)|exact ai.refl _)
   all_goals exact bn rfl (by simp[ah,ab])
end
theorem OB (b:Bok)(h8:b.pools.length≤8)(fB:∀p∈b.pools,p.leases.length≤32):
 MSpec prog 196 [.d (.agg (aS b))] [] (.ptr 1 0) [.gone,.box 24 [.d (.v (.int .i64 b.tick)),.own 2 b.pools.length],.row 62 9 b.pools.length (ab (b.pools.map ah))]:=by
 refine mj func196 ntmps196 results196 ?_;refine am ?_<;>intros;refine bo ae ak b.pools (fun _=>True) (fun k=>[(13,.d (.v (.int .i64 k))),(12,.d (.v (.int .i64 b.pools.length))),(11,.d (.sl 9 (b.pools.map ah))),(3,.ptr 1 0),(2,.d (.v (.pointer none)))])
  (fun k=>[.gone,.box 24 [.d (.v (.int .i64 b.tick)),.own 2 k],.row 62 9 k (ab ((b.pools.take k).map ah))]) trivial ?_ ?_ ?_
 ·refine(aL 0 (by simp)).trans ((au (by simp) 1 24 [.d (.v (.int .i64 b.tick)),.d (.v (.slice none 0 0))] 1 62 9 rfl rfl rfl).trans ?_);exact wf
 ·intro k p hp hk _ C hC;have dM:(k:Int) < (b.pools.length:Int):=by omega
  have cR:=wi k (by omega);have iP:=fB p (Xl hp);have jf:k+1≤100:=by omega
  have hlt:(Yg k b.pools).length=k:=by rw[Xq];omega
  have z1z:=Ln.mk (ls:=[]) (iG aV p.leases (by omega));refine am ?_<;>intros;refine hC _ _ trivial ((ap 4 1 68 5 (p.leases.map aV) rfl).trans ?_);simp only[iD,fz,gy,gj,g8,f9,aR,bS,bW,Xm,Xv,XM,XL,reduceIte,and_true,true_and,and_self,and_false,false_and,XG,XW,reduceCtorEq];exact wf (hh:=(by rw[ag hp,Xo,Xm,Xv,←aI];rfl))
 ·intro _ C;refine am ?_<;>intros;(try rw[Xt])
  exact bn rfl rfl
def av (p:Pol)(v:PV):List PV:=[.d (.v (.int .i64 p.id)),.d (.v (.int .i64 p.up)),.d (.v (.int .i64 p.root.at_)),.d (.v (.int .i64 p.root.len)),.d (.v (.int .i64 p.rule.min)),.d (.v (.int .i64 p.rule.max)),.d (.v (.int .i64 p.rule.usual)),.d (.v (.int .i64 p.rule.cool)),v]
def fI (pre:List Pol)(r:List PV)(post:List Pol):List (List PV):=ab (pre.map ah)++r::ab (post.map ah)
@[go_sem] theorem v6 (pre:List Pol)(r:List PV)(post:List Pol):(fI pre r post).length=pre.length+1+post.length:=by
 simp[fI,aF];omega
theorem jW (n:Nat):∀(l m:List (List PV)),cF n (l++m)=(cF n l&&cF n m)
 |[],m=>rfl
 |r::l,m=>by simp only[X8,cF,jW n l m,P']
theorem iu (n:Nat)(pre:List Pol)(r:List PV)(post:List Pol):cF n (fI pre r post)=an n r:=by
 simp only[fI,jW,cF,az,Yr,YA]
theorem bz {A:Prop}(h:A:=by first|rfl|simp only[aH,ek,aQ,an,cF,aq,bj,az,iu,av,XA,XZ,XM,ZR,decide_true,Yp,YA]):A:=h
theorem GD (k g:Nat)(d:D)(pre:List Pol)(r:List PV)(post:List Pol):f9 k g d (fI pre r post)=fI pre (gy k g d r) post:=by
 simp only[fI,aR,f9,bS]
theorem Ir (pre:List Pol)(r:List PV)(post:List Pol)(q:Pol):fI pre r post++[(ah q).map .d]=fI pre r (post++[q]):=by
 simp[fI,ab]
theorem QU (b:Bok)(pre post:List Pol)(p:Pol)(hb:b.pools=pre++p::post)(h8:b.pools.length≤8)(fB:∀p∈b.pools,p.leases.length≤32):
 MSpec prog 196 [.d (.agg (aS b))] [] (.ptr 1 0) [.gone,.box 24 [.d (.v (.int .i64 b.tick)),.own 2 b.pools.length],.row 62 9 b.pools.length (fI pre (av p (.own 4 1)) post),.gone,.row 68 5 1 (ab (p.leases.map aV))]:=by
 have bR:b.pools.length=pre.length+1+post.length:=by rw[hb];simp;omega
 have hL:=Xj hb;have bU:=Xj bR;clear hb bR;refine mj func196 ntmps196 results196 ?_;refine am ?_<;>intros;refine bL ae ak (fun m e h=>(∃k,k≤pre.length∧m=b.pools.length - k∧e=[(13,.d (.v (.int .i64 k))),(12,.d (.v (.int .i64 b.pools.length))),(11,.d (.sl 9 (b.pools.map ah))),(3,.ptr 1 0),(2,.d (.v (.pointer none)))]∧
  h=[.gone,.box 24 [.d (.v (.int .i64 b.tick)),.own 2 k],.row 62 9 k (ab ((pre.take k).map ah))])∨
  ∃k j,k=pre.length+1+j∧j≤post.length∧m=b.pools.length - k∧e=[(13,.d (.v (.int .i64 k))),(12,.d (.v (.int .i64 b.pools.length))),(11,.d (.sl 9 (b.pools.map ah))),(3,.ptr 1 0),(2,.d (.v (.pointer none)))]∧
   h=[.gone,.box 24 [.d (.v (.int .i64 b.tick)),.own 2 k],.row 62 9 k (fI pre (av p (.own 4 1)) (post.take j)),.gone,.row 68 5 1 (ab (p.leases.map aV))]) _ _ _ (.inl ⟨0,XE _,rfl,rfl,rfl⟩) ?_ ?_
 ·refine(aL 0 (by simp)).trans ((au (by simp) 1 24 [.d (.v (.int .i64 b.tick)),.d (.v (.slice none 0 0))] 1 62 9 rfl rfl rfl).trans ?_);exact wf
 ·rintro m e h (⟨k,hk,hm,rfl,rfl⟩|⟨k,j,Bg,hj,hm,rfl,rfl⟩) C hC
  ·have dM:(k:Int) < (b.pools.length:Int):=by have:=bU.out;omega
   have cR:=wi k (by omega);have jf:k+1≤100:=by have:=bU.out;omega
   have hlt:(Yg k pre).length=k:=by rw[Xq];omega
   have hm:=Xj hm;by_cases lM:k < pre.length
   ·obtain⟨q,hq⟩:∃q,pre[k]? =some q:=⟨_,Xk lM⟩;have pu:b.pools[k]? =some q:=by rw[hL.out,X2 lM];exact hq
    have iP:=fB q (Xl pu);have hq:=Xj hq;have z1z:=Ln.mk (ls:=[]) (iG aV q.leases (by omega));refine am ?_<;>intros;refine hC _ _ _ _ _ ?_ (.inl ⟨k+1,lM,rfl,rfl,rfl⟩) ((ap 4 1 68 5 (q.leases.map aV) rfl).trans ?_)
    ·have:=hm.out;have:=bU.out;omega
    simp only[iD,fz,gy,gj,g8,f9,aR,bS,bW,Xm,Xv,XM,XL,reduceIte,and_true,true_and,and_self,and_false,false_and,XG,XW,reduceCtorEq];exact wf (hh:=(by rw[ag hq.out,Xo,Xm,Xv,←aI];rfl))
   ·obtain rfl:k=pre.length:=by omega
    have pu:b.pools[pre.length]? =some p:=by rw[hL.out,XH (XB _),YG];rfl
    have iP:=fB p (Xl pu);have z1z:=Ln.mk (ls:=[]) (iG aV p.leases (by omega));refine am ?_<;>intros;refine hC _ _ _ _ _ ?_ (.inr ⟨pre.length+1,0,rfl,XE _,rfl,rfl,rfl⟩) ((aL 3 (by simp)).trans ?_)
    ·have:=hm.out;have:=bU.out;omega
    exact wf (hb:=bz) (hbh:=bz)
  ·have hm:=Xj hm;have rY:=Xj Bg;have jf:pre.length+1+j+1≤100:=by have:=bU.out;omega
   have hlt:(Yg j post).length=j:=by rw[Xq];omega
   have uI:k≤b.pools.length:=by have:=bU.out;omega
   by_cases xu:j < post.length
   ·obtain⟨q,hq⟩:∃q,post[j]? =some q:=⟨_,Xk xu⟩;have pu:b.pools[k]? =some q:=by
     rw[hL.out,XH (by omega),show k - pre.length=j+1 by omega,Yx];exact hq
    have iP:=fB q (Xl pu);have dM:(k:Int) < (b.pools.length:Int):=by have:=bU.out;omega
    have cR:=wi k (by omega);have hq:=Xj hq;clear Bg;have z1z:=Ln.mk (ls:=[]) (iG aV q.leases (by omega));refine am ?_<;>intros;refine hC _ _ _ _ _ ?_ (.inr ⟨k+1,j+1,by have:=rY.out;omega,xu,rfl,rfl,rfl⟩) ((ap 6 1 68 5 (q.leases.map aV) rfl).trans ?_)
    ·have:=hm.out;have:=bU.out;have:=rY.out;omega
    simp only[iD,fz,gy,gj,g8,f9,aR,bS,bW,Xm,Xv,XM,XL,reduceIte,and_true,true_and,and_self,and_false,false_and,XG,XW,reduceCtorEq,GD,av];exact wf (hh:=(by rw[ag hq.out,←Ir];rfl)) (hb:=bz) (hbh:=bz)
   ·obtain rfl:j=post.length:=by omega
    obtain rfl:k=b.pools.length:=by have:=bU.out;omega
    clear Bg;refine am ?_<;>intros;(try rw[Xt])
    exact bn rfl rfl
@[go_sem] theorem aO (ρ:Nat→Nat)(pre:List Pol)(r:List PV)(post:List Pol):jN ρ (fI pre r post)=fI pre (iR ρ r) post:=by
 have app:∀(l m:List (List PV)),jN ρ (l++m)=jN ρ l++jN ρ m:=by
  intro l m;rw[eK,eK,eK,Xo]
 simp only[fI,app,jN,uZ]
structure BookOK (b:Bok):Prop where
 n8:b.pools.length≤8
 l32:∀p∈b.pools,p.leases.length≤32
 rise:m9 b.pools
 tick:0≤b.tick∧b.tick≤1073741824
 mem:∀p∈b.pools,dV p.id=true∧hU p.root (dw p)=0∧fH p.rule p.root.len=true
 second:dB b b.pools []=true
theorem dI {b:Bok}(h:aZ b=0):BookOK b:=by
 unfold aZ at h;split at h
 ·cases h
 ·rename_i h8;split at h
  ·cases h
  ·rename_i ht;split at h
   ·rename_i hf;rw[Xy]at hf;have hm:=lJ _ _ hf.1;refine⟨by omega,fun p hp=>?_,(kA _ _ hf.1).1,by omega,hm,hf.2⟩;have:=(hm p hp).2.1;unfold hU at this;split at this
    ·cases this
    ·rename_i h;simpa[dw]using h
   ·cases h
theorem mE (b:Bok)(hz:∀p∈b.pools,p.leases.length≤3518437208882)(h:aZ b≠0):af prog 115 [.agg (aS b)] (.tup [.v (.pointer none),.v (.int .i64 (aZ b))]):=by
 have hc:=mB b hz;have h1:(aZ b !=0)=true:=by simpa using h
 refine pj func115 ntmps115 results115 ?_;exact bc
theorem jy (b:Bok)(hz:∀p∈b.pools,p.leases.length≤3518437208882)(h:aZ b=0):
 MSpec prog 115 [.d (.agg (aS b))] [] (.tup [.ptr 2 0,.d (.v (.int .i64 0))]) [.gone,.gone,.box 24 [.d (.v (.int .i64 b.tick)),.own 3 b.pools.length],.row 62 9 b.pools.length (ab (b.pools.map ah))]:=by
 have hc:=mB b hz;have hb:=dI h;have ho:=OB b hb.n8 hb.l32;rw[h]at hc;replace h:=Xj h;refine mj func115 ntmps115 results115 ?_;have z1z:=Ln.mk (ls:=[]) (ho);refine am ?_<;>intros;exact(aL 0 (by simp)).trans (bn rfl rfl)
theorem ro (b:Bok)(pre post:List Pol)(p:Pol)(hp:b.pools=pre++p::post)(hz:∀p∈b.pools,p.leases.length≤3518437208882)(h:aZ b=0):
 MSpec prog 115 [.d (.agg (aS b))] [] (.tup [.ptr 2 0,.d (.v (.int .i64 0))]) [.gone,.gone,.box 24 [.d (.v (.int .i64 b.tick)),.own 3 b.pools.length],.row 62 9 b.pools.length (fI pre (av p (.own 5 1)) post),.gone,.row 68 5 1 (ab (p.leases.map aV))]:=by
 have hc:=mB b hz;have hb:=dI h;have ho:=QU b pre post p hp hb.n8 hb.l32;rw[h]at hc;replace h:=Xj h;replace hp:=Xj hp;refine mj func115 ntmps115 results115 ?_;have z1z:=@av.eq_1;have z2z:=Ln.mk (ls:=[]) (ho);refine am ?_<;>intros;exact(aL 0 (by simp)).trans (bn rfl rfl)
theorem SZ {α:Type}{key:α→Int}{l:List α}{i:Nat}{q:α}(hs:l.Pairwise fun a b=>key a < key b)(hq:l[i]? =some q):jg key (key q) l=i∧qU key (key q) l=true:=by
 obtain⟨hi,rfl⟩:=Xn.1 hq;have h1:jg key (key l[i]) l=i:=pZ (p' hi) (fun k hk MO=>XF.1 hs k i hk hi MO) (fun k hk MO=>by
  rcases XP i k with h|h
  ·have:=XF.1 hs i k hi hk h;omega
  ·obtain rfl:k=i:=by omega
   exact ZG _)
 refine⟨h1,?_⟩;unfold qU;rw[h1,hq];simp
theorem AE (b:Bok)(i:Nat)(q:Pol)(g:Nat)(rows:List (List PV))(hs:List Chunk)(c0:PV)(hq:b.pools[i]? =some q)(hr:m9 b.pools)(h8:b.pools.length≤8)(zI:rows.length=b.pools.length)
 (hv:dh (bq (aG (.box 24 [c0,.own 1 g]:: .row 62 9 g rows::hs)) 5) rows=some (b.pools.map ah)) (tZ:cF (hs.length+2) rows=true) (hbh:aH (hs.length+2) hs=true) (Jh:aq (hs.length+2) c0=true):
 MSpec prog 116 [.ptr 0 0,.d (.v (.int .i64 q.id))] (.box 24 [c0,.own 1 g]:: .row 62 9 g rows::hs) (.tup [.rp 1 g 9 i 0,.d (.v (.bool true))]) (.box 24 [c0,.own 1 g]:: .row 62 9 g rows::hs):=by
 have PF:=sL k8 (fun p=>p.id) b.pools q.id 198 [] (by omega) hr (fun p _=>E7 p q.id);obtain⟨e1,e2⟩:=SZ (key:=fun p:Pol=>p.id) hr hq;rw[e1,e2]at PF;have hi:i < rows.length:=by rw[zI];exact(Xn.1 hq).1
 have Ny:(0:Int)≤(i:Int):=by omega
 replace hq:=Xj hq;replace zI:=Xj zI;replace e1:=Xj e1;replace e2:=Xj e2;refine Ap ae ak func116 rfl ntmps116 results116 (by kernel_rfl) (XB _) (by simp[an,aq]) (by simp[aH,aQ,an,aq,tZ,hbh,Jh]) ?_;refine am ?_<;>intros;exact bn rfl rfl
def cC (p:Pol)(size:Int):Pfx × Int:=
 if size < p.rule.min∨size>p.rule.max then (Pfx.zero,7)else
 if (lv p.root (dw p) size).2.1=false∨p.leases.length=32 then (Pfx.zero,8)else ((lv p.root (dw p) size).1,0)
theorem P2 (p:Pol)(size:Int)(hl:p.leases.length≤32):af prog 120 [.ept (ah p),.v (.int .i64 size)] (.tup [.agg (aN (cC p size).1),.v (.int .i64 (cC p size).2)]):=by
 have ht:=GC p (by omega);have hf:=Ox p.root (dw p) size;refine pj func120 ntmps120 results120 ?_;repeat' (first|(with_reducible refine And.intro ?_ ?_)|(with_reducible refine cn (fun _=>?_) (fun _=>?_))|(with_reducible refine aA (fun _=>?_) (fun _=>?_))|(with_reducible refine be (by kernel_rfl))|simp -dsimp only[go_sem,seval, *,ah,aN]|((with_reducible refine bf ?_);simp -dsimp only[go_sem,seval,ah,aN];first|refine aC (by first|assumption|exact ht|exact hf) (by first|exact .inl rfl|exact .inr rfl) ?_|(refine aB (by assumption) ?_ ?_ ?_;(solve|(repeat(first|exact ai.refl _|exact ai.nil _|(refine ai.tup ?_)|(refine ai.agg ?_ rfl)|exact trivial|(refine And.intro ?_ ?_))));(solve|exact .inl rfl|exact .inr rfl)))|fail|omega|exact decide_eq_true (by omega)|exact ai.refl _)
 all_goals clear ht hf
 all_goals first
  |(rw[show cC p size=(Pfx.zero,7) from by unfold cC;grind];exact ai.refl _)
  |(rw[show cC p size=(Pfx.zero,8) from by unfold cC;grind];exact ai.refl _)
  |(rw[show cC p size=((lv p.root (dw p) size).1,0) from by unfold cC;grind];exact ai.refl _)
@[go_sem] theorem eQ (pre:List Pol)(r:List PV)(post:List Pol):(fI pre r post)[pre.length]? =some r:=by
 unfold fI;rw[XH (by simp[aF])];simp[aF]
@[go_sem] theorem S0 (pre:List Pol)(r r':List PV)(post:List Pol):(fI pre r post).set pre.length r'=fI pre r' post:=by
 unfold fI;rw[Yu _ _ (by simp[aF])];simp[aF]
def ic (l:Lse)(ls:List Lse):List Lse:=ls.take (jg (fun x=>x.at_.at_) l.at_.at_ ls)++l::ls.drop (jg (fun x=>x.at_.at_) l.at_.at_ ls)
theorem o4 {α:Type}(key:α→Int)(t:Int)(l:List α):jg key t l≤l.length:=List.findIdx_le_length
theorem QV (x:Lse)(t:Int):af prog 203 [.agg (aV x),.v (.int .i64 t)] (.v (.int .i64 (ez x.at_.at_ t))):=by
 have hc:=ml x.at_.at_ t;refine pj func203 ntmps203 results203 ?_;exact bc
theorem Is (pre post:List Pol)(p:Pol)(ls:List Lse):fI pre (av p (.d (.sl 5 (ls.map aV)))) post=ab ((pre++{p with leases:=ls}::post).map ah):=by
 simp only[fI,ab,Xo,Xm];rfl
theorem qe {P:Program}{m:Nat}(pre post:List Pol)(p:Pol)(g g2:Nat)(ls:List Lse):eA P 1 m [(0,.d (.tup []))] [.row 62 9 g (fI pre (av p (.own 1 g2)) post),.row 68 5 g2 (ab (ls.map aV))] [(0,.d (.tup []))] [.row 62 9 g (ab ((pre++{p with leases:=ls}::post).map ah)),.gone]:=by
 refine(ap 1 g2 68 5 (ls.map aV) rfl).trans ?_;simp only[iD,fz,gy,gj,g8,f9,aR,bS,bW,Xm,Xv,XM,XL,reduceIte,and_true,true_and,and_self,and_false,false_and,XG,XW,reduceCtorEq,GD,av];rw[←Is];exact bn rfl rfl
theorem P3 (pre post:List Pol)(p:Pol)(l:Lse)(g g2:Nat)(hl:p.leases.length≤32)(hs:p.leases.Pairwise fun a b=>a.at_.at_ < b.at_.at_):
 MSpec prog 121 [.rp 0 g 9 pre.length 0,.d (.agg (aV l))] [.row 62 9 g (fI pre (av p (.own 1 g2)) post),.row 68 5 g2 (ab (p.leases.map aV))] (.d (.tup [])) [.row 62 9 g (ab ((pre++{p with leases:=ic l p.leases}::post).map ah)),.gone]:=by
 have PF:=EU k7 (fun x=>x.at_.at_) p.leases l.at_.at_ 203 [] (by omega) hs (fun x _=>QV x l.at_.at_);have hle:=o4 (fun x:Lse=>x.at_.at_) l.at_.at_ p.leases;have fu:=AD p.leases l (jg (fun x:Lse=>x.at_.at_) l.at_.at_ p.leases) g2 hle (by omega);refine Ap ae ak func121 rfl ntmps121 results121 (by kernel_rfl) (XB _) (by simp[an,aq]) (by simp[aH,aQ,iu,an,aq,av,az]) ?_;have z1z:=@av.eq_1;have z2z:=Ln.mk (ls:=[1]) (fu);refine am ?_<;>intros;refine eA.trans ?_ (qe pre post p g (g2+1) (ic l p.leases));exact wf (hb:=bz) (hbh:=bz)
def jX (p:Pol)(i:Nat)(tick:Int):List Lse:=if p.rule.cool=0 then p.leases.eraseIdx i else match p.leases[i]? with|some l=>p.leases.set i ⟨l.at_,3,0,tick+p.rule.cool⟩|none=>p.leases
theorem Lg (pre post:List Pol)(p:Pol)(i g g2:Nat)(tick:Int)(hi:i < p.leases.length)(hl:p.leases.length≤32)(wX:0≤p.rule.cool∧p.rule.cool≤1024)(ht:0≤tick∧tick≤1073741824):
 MSpec prog 123 [.rp 0 g 9 pre.length 0,.d (.v (.int .i64 i)),.d (.v (.int .i64 tick))] [.row 62 9 g (fI pre (av p (.own 1 g2)) post),.row 68 5 g2 (ab (p.leases.map aV))] (.d (.tup [])) [.row 62 9 g (ab ((pre++{p with leases:=jX p i tick}::post).map ah)),.gone]:=by
 refine Ap ae ak func123 rfl ntmps123 results123 (by kernel_rfl) (XB _) (by simp[an,aq]) (by simp[aH,aQ,iu,an,aq,av,az]) ?_;by_cases hc:p.rule.cool=0
 ·have fV:jX p i tick=p.leases.eraseIdx i:=by unfold jX;rw[if_pos hc]
  have cR:=wi i (by omega);have hd:=AB (enc:=aV) p.leases i (i+1) g2 hi rfl;have Pz:(p.rule.cool==0)=true:=by simpa using hc
  rw[fV];replace fV:=Xj fV;replace hc:=Xj hc;have z1z:=@av.eq_1;have z2z:=Ln.mk (ls:=[1]) (hd);refine am ?_<;>intros;exact qe pre post p g (g2+1) (p.leases.eraseIdx i)
 ·have cR:IntKind.i64.wrap (tick+p.rule.cool)=tick+p.rule.cool:=by rw[IntKind.wrap_i64];omega
  have Pz:(p.rule.cool==0)=false:=by simpa using hc
  obtain⟨l,G4⟩:∃l,p.leases[i]? =some l:=⟨_,Xk hi⟩;have gS:=bO aV p.leases i ⟨l.at_,3,0,tick+p.rule.cool⟩;have fV:jX p i tick=p.leases.set i ⟨l.at_,3,0,tick+p.rule.cool⟩:=by unfold jX;rw[if_neg hc,G4]
  simp only[aV,Xm,Xv]at gS;rw[fV];replace fV:=Xj fV;have z1z:=@av.eq_1;refine am ?_<;>intros;exact qe pre post p g g2 (p.leases.set i ⟨l.at_,3,0,tick+p.rule.cool⟩)
def k9 (p:Pol)(ps:List Pol):List Pol:=ps.take (jg (fun x=>x.id) p.id ps)++p::ps.drop (jg (fun x=>x.id) p.id ps)
theorem P4 (ps:List Pol)(p:Pol)(g:Nat)(tick:D)(h8:ps.length≤8)(hr:m9 ps)(ht:tick.one=true):
 MSpec prog 119 [.ptr 0 0,.d (.agg (ah p))] [.box 24 [.d tick,.own 1 g],.row 62 9 g (ab (ps.map ah))] (.d (.tup [])) [.box 24 [.d tick,.own 1 (g+1)],.row 62 9 (g+1) (ab ((k9 p ps).map ah))]:=by
 have PF:=sL k8 (fun x=>x.id) ps p.id 198 [] (by omega) hr (fun x _=>E7 x p.id);have hle:=o4 (fun x:Pol=>x.id) p.id ps;have fu:=CS ps p (jg (fun x:Pol=>x.id) p.id ps) g hle (by omega);refine Ap ae ak func119 rfl ntmps119 results119 (by kernel_rfl) (XB _) (by simp[an,aq]) (by simp[aH,aQ,an,aq,az]) ?_;have z1z:=Ln.mk (ls:=[1]) (fu);refine am ?_<;>intros;exact wf (hb:=bz) (hbh:=bz)
def ig (s:Ste):Int:=if aZ s.book≠0 then aZ s.book else if cN s.net≠0 then cN s.net else if (kX (uh s.book) s.net.vpcs&&decide (ow s.net.vpcs=(uh s.book).countP fun kv=>gD s.net.vpcs kv.2))=true then 0 else 1
theorem v7 {α:Type}{enc:α→List D}(eE:∀x,(enc x).length=3)(p:α→Bool)(l:List α)(g:Nat)(caps:List D)(hl:l.length≤1000000000)(hc:∀x∈l,af prog g (.agg (enc x)::caps) (.v (.bool (p x)))):
 af prog 100 [.sl 3 (l.map enc),.clo g caps] (.v (.int .i64 (cz p l))):=by
 refine pj func100 ntmps100 results100 ?_;refine am ?_<;>intros;refine bL ae ak (fun m e h=>∃k:Nat,k≤l.length∧(∀x∈l.take k,p x=false)∧m=l.length - k∧e=[(8,.d (.v (.int .i64 k))),(7,.d (.v (.int .i64 l.length))),(4,.d (.v (.int .i64 0))),(1,.d (.clo g caps)),(0,.d (.sl 3 (l.map enc)))]∧h=[]) _ _ _ ⟨0,XE _,by simp,rfl,rfl,rfl⟩ ?_ ?_
 ·exact wf (x:=[]) (hh:=rfl) (he:=⟨rfl,rfl,rfl,rfl,rfl,trivial⟩)
 ·rintro m e h ⟨k,hk,cg,rfl,rfl,rfl⟩ CL mO;by_cases hlt:k < l.length
  ·obtain⟨x,hx⟩:∃x,l[k]? =some x:=⟨_,Xk hlt⟩;have ew:(k:Int) < (l.length:Int):=by omega
   have cR:=wi k (by omega);have bR:=eE x;have g7:(enc x).take 3=enc x:=XN (by omega);have jL:=hc x (Xl hx);cases hp:p x with
   |false=>
    rw[hp]at jL;refine am ?_<;>intros;refine mO _ _ _ _ _ ?_ ⟨k+1,hlt,?_,rfl,rfl,rfl⟩ (wf (x:=[]) (hh:=rfl) (he:=⟨rfl,rfl,rfl,rfl,rfl,trivial⟩))
    ·omega
    ·intro y hy;rw[ag hx]at hy;rcases X3.1 hy with hy|hy
     ·exact cg y hy
     ·rw[Yc]at hy;rw[hy];exact hp
   |true=>
    rw[hp]at jL;have ll:cz p l=k:=fY hx hp cg;exact bc;all_goals rw[ll]
    all_goals exact ai.refl _
  ·obtain rfl:k=l.length:=by omega
   rw[Xt]at cg;refine am ?_<;>intros;all_goals rw[fZ cg]
   all_goals exact ai.refl _
theorem v8 {α:Type}{enc:α→List D}(eE:∀x,(enc x).length=3)(p:α→Bool)(l:List α)(g:Nat)(caps:List D)(hl:l.length≤1000000000)(hc:∀x∈l,af prog g (.agg (enc x)::caps) (.v (.bool (p x)))):
 af prog 35 [.sl 3 (l.map enc),.clo g caps] (.v (.bool (l.any p))):=by
 have hi:=v7 eE p l g caps hl hc;have iy:=fO p l;refine pj func35 ntmps35 results35 ?_;exact bc;all_goals exact ai.refl _
theorem Iu (v:Vpc)(o:Int):af prog 36 [.agg (al v),.ept [.v (.int .i64 o)]] (.v (.bool (v.id==o))):=by
 refine pj func36 ntmps36 results36 ?_;exact bc
theorem v9 (s:Ste)(hz:∀p∈s.book.pools,p.leases.length≤3518437208882):af prog 11 [.agg (fw s)] (.v (.int .i64 (ig s))):=by
 have hb:=mB s.book hz;have hn:=vO s.net;obtain⟨R,hR⟩:∃R,R=ig s:=⟨_,rfl⟩;rw[←hR];replace hR:=Xj hR;by_cases h1:aZ s.book=0
 ·rw[h1]at hb;by_cases h2:cN s.net=0
  ·rw[h2]at hn;have r6:R=if (kX (uh s.book) s.net.vpcs&&decide (ow s.net.vpcs=(uh s.book).countP fun kv=>gD s.net.vpcs kv.2))=true then 0 else 1:=by
    rw[hR.out];unfold ig;rw[if_neg (by simpa using h1),if_neg (by simpa using h2)]
   have zR:=dI h1;have hu:=Ln.mk (ls:=[]) (Gu s.book (by have:=zR.n8;omega) (fun p hp=>by have:=zR.l32 p hp;omega));have WU:=On zR.l32;have WV:=zR.n8;have WW:(uh s.book).length≤256:=Yz WU (Yz (Yt 32 WV) (by decide));have cg:=gU.1 h2;have Ej:=cg.n6;have R2:∀v∈s.net.vpcs,v.ranges.length≤4:=fun v hv=>(aY (cg.vp v hv)).n4;have PA:∀k,ow (s.net.vpcs.take k)≤24:=fun k=>Yz (Ok fun v hv=>R2 v (Yf hv)) (by rw[Xq];omega);clear zR WU WV cg;generalize uh s.book=E at*;replace r6:=Xj r6;replace R2:=Xj R2;replace PA:=Xj PA;clear h1 h2 hR;have fV:=Xj (⟨Ej,WW⟩:s.net.vpcs.length≤6∧E.length≤256);clear WW;refine pj func11 ntmps11 results11 ?_;refine am ?_;refine bo ae ak s.net.vpcs (fun k=>kX E (s.net.vpcs.take k)=true) (fun k=>[(32,.d (.v (.int .i64 k))),(31,.d (.v (.int .i64 s.net.vpcs.length))),(30,.d (.sl 3 (s.net.vpcs.map al))),(6,.d (.v (.int .i64 (ow (s.net.vpcs.take k):Nat)))),(5,.mref 2),(1,.ptr 0 0)])
    (fun _=>[.box 30 ((fw s).map .d),.gone,.mp 3 true E]) rfl wf ?_ ?_
   ·intro k v hv hk hI C hC;have dM:(k:Int) < (s.net.vpcs.length:Int):=by omega
    have cR:=wi k (by omega);have ns:=Xj (If hv);have a9:=Xj (PA.out k);have R3:=Xj (R2.out v (Xl hv));have FV:=Xj hv;have hIx:=Xj hI;clear hI;generalize hNk:ow (s.net.vpcs.take k)=Nk at*;clear hNk;refine am ?_;refine bo ae ak v.ranges (fun j=>(v.ranges.take j).all (Aw E v.id)=true) (fun j=>[(39,.d (.v (.int .i64 j))),(38,.d (.v (.int .i64 v.ranges.length))),(37,.d (.sl 3 (v.ranges.map bp))),(8,.ptr 3 0),(6,.d (.v (.int .i64 ((Nk+j:Nat):Int)))),(32,.d (.v (.int .i64 k))),(31,.d (.v (.int .i64 s.net.vpcs.length))),(30,.d (.sl 3 (s.net.vpcs.map al))),(5,.mref 2),(1,.ptr 0 0)])
     (fun _=>[.box 30 ((fw s).map .d),.gone,.mp 3 true E,.box 55 ((al v).map .d)]) rfl wf ?_ ?_
    ·intro j r hr hj hJ C2 jI;have ip:(j:Int) < (v.ranges.length:Int):=by omega
     have kj:IntKind.i64.wrap ((j:Int)+1)=((j+1:Nat):Int):=by have:=R3.out;rw[IntKind.wrap_i64];omega
     have WX:IntKind.i64.wrap (((Nk+j:Nat):Int)+1)=((Nk+(j+1):Nat):Int):=by have:=a9.out;have:=R3.out;rw[IntKind.wrap_i64];omega
     have WY:=Xj hr;have Vq:=Xj hJ;clear hJ;by_cases hq:Aw E v.id r=true
     ·have e1:((kF E [r.at_.at_,r.at_.len,r.pool]).getD 0 !=v.id)=false:=by unfold Aw at hq;simpa using hq
      have pu:=Xj hq;clear hq;refine am ?_;exact jI _ _ (by rw[ag WY.out,ZO,Vq.out];simpa using pu.out) wf
     ·have e1:((kF E [r.at_.at_,r.at_.len,r.pool]).getD 0 !=v.id)=true:=by unfold Aw at hq;simpa using hq
      have r5:R=1:=by
       rw[r6.out,if_neg];intro h;rw[Xy]at h;have h3:=XC.1 (XC.1 h.1 v (Xl FV.out)) r (Xl WY.out);exact hq h3
      rw[r5];replace hq:=Xj hq;exact bc
    ·intro hJ C2;rw[Xt]at hJ;replace hJ:=Xj hJ;refine am ?_;exact hC _ _ (by unfold kX;rw[ag FV.out,ZO];have:=hIx.out;unfold kX at this;rw[this];simpa using hJ.out) (wf (hh:=by rfl) (he:=by rw[ns.out];repeat' (first|exact trivial|(refine⟨rfl,?_⟩))))
   ·intro hI C;rw[Xt]at hI ⊢;have VI:=Xj (by have:=PA.out s.net.vpcs.length;rw[Xt]at this;exact this:ow s.net.vpcs≤24);have aP:R=if ow s.net.vpcs=E.countP fun kv=>gD s.net.vpcs kv.2 then 0 else 1:=by
     rw[r6.out,hI,Yr];simp only[decide_eq_true_eq]
    replace aP:=Xj aP;clear hI;generalize ow s.net.vpcs=Nn at*;refine am ?_;refine PY (fun m e h=>∃(seen:List Nat) (c:Int),seen.Nodup∧(∀i∈seen,i < E.length)∧m=CG E.length seen∧c=(Nn:Int) - (seen.countP (kY E (gD s.net.vpcs)):Nat)∧seen.length≤E.length∧e=[(58,.ptr 3 0),(6,.d (.v (.int .i64 c))),(1,.ptr 0 0)]∧h=[.box 30 ((fw s).map .d),.gone,.gone,.it 3 true E seen]) _ _ _ ⟨[],(Nn:Int),List.nodup_nil,by simp,rfl,by simp,by simp,rfl,rfl⟩ wf ?_;rintro m e h ⟨seen,c,lm,hlt,hm,hc,hle,rfl,rfl⟩ C2 jI;replace hc:=Xj hc;replace hlt:=Xj hlt;refine Gg ae ak (by rfl) (Ci (k:=3) (x:= .tmp 58) ae (by simp) rfl rfl rfl rfl rfl rfl (by decide) (by decide) rfl rfl (by simp) ?_ ?_)
    ·intro bP;have ei:=KS (p:=gD s.net.vpcs) lm hlt.out bP;by_cases hz:c=0
     ·have r5:R=0:=by rw[aP.out,if_pos];have:=hc.out;omega
      rw[r5];subst hz;clear ei bP lm hm;change sC _ _ _ _ _ _ _ _ _ _;exact bc
     ·have r5:R=1:=by rw[aP.out,if_neg];have:=hc.out;omega
      have Eh:(c !=0)=true:=by simpa using hz
      rw[r5];clear ei bP lm hm;replace hz:=Xj hz;change sC _ _ _ _ _ _ _ _ _ _;exact bc
    ·intro i hi Ss;obtain⟨kv,G9⟩:∃kv,E[i]? =some kv:=⟨_,Xk hi⟩;have WZ:(seen++[i]).getLast? =some i:=by simp
     have ns:=v8 iS (fun v=>v.id==kv.2) s.net.vpcs 36 [.ept [.v (.int .i64 kv.2)]] (by have:=fV.out;omega) (fun v _=>Iu v kv.2);have Vx:=List.countP_le_length (p:=kY E (gD s.net.vpcs)) (l:=seen);have jH:(seen++[i]).Nodup:=by rw[N'];exact⟨lm,by simp,fun a ha b hb e=>Ss (by simp at hb;subst hb;subst e;exact ha)⟩
     have G4:∀j∈seen++[i],j < E.length:=fun j hj=>by
      rcases X3.1 hj with h|h
      ·exact hlt.out j h
      ·simp at h;omega
     have xm:=Gv hi Ss;have bU:(seen++[i]).length≤E.length:=by
      have:=(jH.length_le_of_subset (fun j hj=>YR.2 (G4 j hj)):(seen++[i]).length≤(X5 E.length).length);simpa using this
     have qr:(seen++[i]).countP (kY E (gD s.net.vpcs))=seen.countP (kY E (gD s.net.vpcs))+if gD s.net.vpcs kv.2 then 1 else 0:=by
      rw[List.countP_append];simp[kY,G9]
     by_cases hb:gD s.net.vpcs kv.2=true
     ·have jm:(s.net.vpcs.any fun v=>v.id==kv.2)=true:=hb;rw[jm]at ns;rw[if_pos hb]at qr;have WX:IntKind.i64.wrap (c - 1)=c - 1:=by have:=hc.out;have:=VI.out;have:=fV.out;rw[IntKind.wrap_i64];omega
      have wX:c - 1=(Nn:Int) - ((seen++[i]).countP (kY E (gD s.net.vpcs)):Nat):=by rw[qr];have:=hc.out;omega
      replace qr:=Xj qr;replace wX:=Xj wX;replace hb:=Xj hb;clear jm;replace jH:=Xj jH;replace G4:=Xj G4;replace xm:=Xj xm;replace bU:=Xj bU;change sC _ _ _ _ _ _ _ _ _ _;refine am ?_;exact jI _ _ _ _ _ (by rw[hm];exact xm.out) ⟨_,_,jH.out,G4.out,rfl,wX.out,bU.out,rfl,rfl⟩ wf
     ·have jm:(s.net.vpcs.any fun v=>v.id==kv.2)=false:=by simpa[gD]using hb
      rw[jm]at ns;rw[if_neg hb]at qr;have wX:c=(Nn:Int) - ((seen++[i]).countP (kY E (gD s.net.vpcs)):Nat):=by rw[qr];have:=hc.out;omega
      replace qr:=Xj qr;replace wX:=Xj wX;replace hb:=Xj hb;clear jm;replace jH:=Xj jH;replace G4:=Xj G4;replace xm:=Xj xm;replace bU:=Xj bU;change sC _ _ _ _ _ _ _ _ _ _;refine am ?_;exact jI _ _ _ _ _ (by rw[hm];exact xm.out) ⟨_,_,jH.out,G4.out,rfl,wX.out,bU.out,rfl,rfl⟩ wf
  ·have e2:(cN s.net !=0)=true:=by simpa using h2
   have r6:R=cN s.net:=by rw[hR.out];unfold ig;rw[if_neg (by simpa using h1),if_pos h2]
   rw[r6];generalize cN s.net=X at*;refine pj func11 ntmps11 results11 ?_;exact bc
 ·have e2:(aZ s.book !=0)=true:=by simpa using h1
  have r6:R=aZ s.book:=by rw[hR.out];unfold ig;rw[if_pos h1]
  rw[r6];generalize aZ s.book=X at*;refine pj func11 ntmps11 results11 ?_;exact bc
def Bok.zero:Bok:=⟨0,[]⟩
theorem lL {b:Bok}{id:Int}{q:Pol}(h:bK b id=some q):∃i:Nat,b.pools[i]? =some q∧q.id=id:=by
 have h1:=Zh h;have h2:=YF h;obtain⟨i,hi,rfl⟩:=X0.1 h2;exact⟨i,Xk hi,by simpa using h1⟩
theorem kB {b:Bok}{id:Int}{q:Pol}(h:bK b id=some q):∃pre post,b.pools=pre++q::post∧q.id=id:=by
 obtain⟨i,hi,he⟩:=lL h;obtain⟨hlt,rfl⟩:=Xn.1 hi;exact⟨b.pools.take i,b.pools.drop (i+1),by rw[ZZ,YX],he⟩
def nC (b:Bok)(id:Int)(root:Pfx)(r:Rul):Int:=
 if dV id=false∨chk root.at_ root.len≠0 then 3 else
 if (bK b id).isSome=true∨(b.pools.any fun p=>(p.up==0)&&p.root.meets root)=true then 6 else
 if fH r root.len=false then 1 else if b.pools.length=8 then 2 else 0
def fS (b:Bok)(id:Int)(root:Pfx)(r:Rul):Bok × Int:=
 if aZ b≠0 then (Bok.zero,aZ b)else if nC b id root r≠0 then (Bok.zero,nC b id root r)else (⟨b.tick,k9 ⟨id,0,root,r,[]⟩ b.pools⟩,0)
theorem OC (p:Pol)(root:Pfx):af prog 118 [.agg (ah p),.ept (aN root)] (.v (.bool ((p.up==0)&&p.root.meets root))):=by
 have hm:=oZ p.root root;refine pj func118 ntmps118 results118 ?_;exact bc
theorem QW (b:Bok)(id:Int)(root:Pfx)(r:Rul)(hz:∀p∈b.pools,p.leases.length≤3518437208882):af prog 54 [.agg (aS b),.v (.int .i64 id),.agg (aN root),.agg (pp r)] (.tup [.agg (aS (fS b id root r).1),.v (.int .i64 (fS b id root r).2)]):=by
 by_cases hc:aZ b=0
 ·have co:=dI hc;have cU:=jy b hz hc;have hid:=zj id;have a9:=qZ root;have ns:=Ig k8 (fun p=>(p.up==0)&&p.root.meets root) b.pools 118 [.ept (aN root)] (by have:=co.n8;omega) (fun p _=>OC p root);have xg:=E5 r root;have Sv:=(P4 b.pools ⟨id,0,root,r,[]⟩ b.pools.length (.v (.int .i64 b.tick)) co.n8 co.rise rfl).lep (args':=[.ptr 0 0,.d (.agg [.v (.int .i64 id),.v (.int .i64 0),.v (.int .i64 root.at_),.v (.int .i64 root.len),.v (.int .i64 r.min),.v (.int .i64 r.max),.v (.int .i64 r.usual),.v (.int .i64 r.cool),.v (.slice none 0 0)])]) ⟨.inl rfl,.inr ⟨_,_,rfl,rfl,dg⟩,trivial⟩ rfl;obtain⟨R,hR⟩:∃R,R=fS b id root r:=⟨_,rfl⟩;rw[←hR];replace hR:=Xj hR;cases hq:bK b id with
  |none=>
   have hf:=nc b id (by have:=co.n8;omega) co.rise;unfold oB at hf;rw[hq]at hf;refine pj func54 ntmps54 results54 ?_;repeat' (first|(with_reducible refine And.intro ?_ ?_)|(with_reducible refine cn (fun _=>?_) (fun _=>?_))|(with_reducible refine aA (fun _=>?_) (fun _=>?_))|(with_reducible refine be (by kernel_rfl))|simp -dsimp only[go_sem,seval, *,aS,aN,pp]|((with_reducible refine bf ?_);simp -dsimp only[go_sem,seval,aS,aN,pp];first|refine aC (by first|assumption|exact hf|exact hid|exact a9|exact ns|exact xg) (by first|exact .inl rfl|exact .inr rfl) ?_|(refine aB (by assumption) ?_ ?_ ?_;(solve|(repeat(first|exact ai.refl _|exact ai.nil _|(refine ai.tup ?_)|(refine ai.agg ?_ rfl)|exact trivial|(refine And.intro ?_ ?_))));(solve|exact .inl rfl|exact .inr rfl)))|(refine aX [] (cU) ?_ ?_ ?_ ?_ ?_ ?_;(solve|rfl|simp only[go_sem,seval,aS]);(solve|rfl);(solve|decide);(solve|simp);(solve|simp only[go_sem,seval,ax,aS]))|(refine aX [6,7] (Sv) ?_ ?_ ?_ ?_ ?_ ?_;(solve|rfl|simp only[go_sem,seval,aN]);(solve|rfl);(solve|decide);(solve|simp);(solve|simp only[go_sem,seval,ax,aN]))|omega|exact decide_eq_true (by omega)|exact ai.refl _)
   all_goals clear hf hid a9 ns xg cU Sv hz
   all_goals first
    |(rw[show R=(Bok.zero,3) from (by rw[hR.out];unfold fS nC;grind)];(try simp only[Xo,Xm]);exact dg)
    |(rw[show R=(Bok.zero,6) from (by rw[hR.out];unfold fS nC;grind)];(try simp only[Xo,Xm]);exact dg)
    |(rw[show R=(Bok.zero,1) from (by rw[hR.out];unfold fS nC;grind)];(try simp only[Xo,Xm]);exact dg)
    |(rw[show R=(Bok.zero,2) from (by rw[hR.out];unfold fS nC;grind)];(try simp only[Xo,Xm]);exact dg)
    |(rw[show R=(⟨b.tick,k9 ⟨id,0,root,r,[]⟩ b.pools⟩,0) from (by rw[hR.out];unfold fS nC;grind)];(try simp only[Xo,Xm]);exact dg)
  |some q=>
   obtain⟨i,PD,rfl⟩:=lL hq;have hf:=AE b i q b.pools.length (ab (b.pools.map ah)) [] (.d (.v (.int .i64 b.tick))) PD co.rise co.n8 (by simp[aF]) (eJ _ _ _) (az _ _) rfl rfl;replace PD:=Xj PD;refine pj func54 ntmps54 results54 ?_;have z1z:=Ln.mk (ls:=[]) (cU);have z2z:=Ln.mk (ls:=[6,7]) (hf);refine Aq ?_ ?_ ?_<;>intros;all_goals clear hf hid a9 ns xg cU Sv hz
   all_goals first
    |(rw[show R=(Bok.zero,3) from (by rw[hR.out];unfold fS nC;grind)];(try simp only[Xo,Xm]);exact dg)
    |(rw[show R=(Bok.zero,6) from (by rw[hR.out];unfold fS nC;grind)];(try simp only[Xo,Xm]);exact dg)
 ·have cU:=mE b hz hc;have hr:fS b id root r=(Bok.zero,aZ b):=by unfold fS;rw[if_pos hc]
  have h1:(aZ b !=0)=true:=by simpa using hc
  rw[hr];replace hr:=Xj hr;refine pj func54 ntmps54 results54 ?_;refine am ?_<;>intros;exact dg
theorem qf (f:PV→Option D):∀(l m:List (List PV)),dh f (l++m)=match dh f l,dh f m with|some a,some b=>some (a++b)|_,_=>none
 |[],m=>by simp only[Ya,dh];cases dh f m<;>rfl
 |r::l,m=>by
  simp only[X8,dh,qf f l m];cases cM f r<;>cases dh f l<;>cases dh f m<;>rfl
@[go_sem] theorem gO (h:Nat→Chunk)(n:Nat)(pre:List Pol)(r:List PV)(post:List Pol):dh (bq h n) (fI pre r post)=match cM (bq h n) r with|some d=>some (pre.map ah++d::post.map ah)|none=>none:=by
 simp only[fI,qf,dh,eJ];cases cM (bq h n) r<;>rfl
theorem lc {p:Pol}(h:hU p.root (dw p)=0):p.leases.Pairwise fun a b=>a.at_.at_ < b.at_.at_:=by
 obtain⟨h1,h2,h3,h4⟩:=rn.1 h;unfold dw at h3 h4;rw[Y3]at h4;refine h4.imp_of_mem fun {a b} ha hb gJ=>?_;have hr:=(cA.1 (h3 a.at_ (XQ.2 ⟨a,ha,rfl⟩))).1;have:=Pfx.hi_bd hr;unfold tJ at gJ;omega
def rq (b:Bok)(id:Int)(f:Pol→Pol):Bok:=⟨b.tick,b.pools.map fun q=>if q.id==id then f q else q⟩
theorem nd {b:Bok}{pre post:List Pol}{p:Pol}(hr:m9 b.pools)(h:b.pools=pre++p::post)(f:Pol→Pol):rq b p.id f=⟨b.tick,pre++f p::post⟩:=by
 unfold rq;rw[h];have hr':=hr;rw[h]at hr';obtain⟨h1,h2,h3⟩:=YT.1 hr';rw[YC]at h2;have e1:pre.map (fun q=>if q.id==p.id then f q else q)=pre:=by
  conv=>rhs;rw[←List.map_id pre]
  refine Zr fun q hq=>?_;have:=h3 q hq p (by simp);rw[if_neg (by simp;omega)];rfl
 have e2:post.map (fun q=>if q.id==p.id then f q else q)=post:=by
  conv=>rhs;rw[←List.map_id post]
  refine Zr fun q hq=>?_;have:=h2.1 q hq;rw[if_neg (by simp;omega)];rfl
 rw[Xo,Xm,e1,e2];simp
def cS (b:Bok)(id size owner:Int):Bok × Pfx × Int:=
 if aZ b≠0 then (Bok.zero,Pfx.zero,aZ b)else
 match bK b id with
 |none=>(Bok.zero,Pfx.zero,5)
 |some p=>
  if dV owner=false then (Bok.zero,Pfx.zero,3)else
  let f:=cC p (if size=0 then p.rule.usual else size)
  if f.2≠0 then (Bok.zero,Pfx.zero,f.2)else (rq b id fun p=>{p with leases:=ic ⟨f.1,1,owner,0⟩ p.leases},f.1,0)
theorem Lh (b:Bok)(id size owner:Int)(hz:∀p∈b.pools,p.leases.length≤3518437208882):af prog 59 [.agg (aS b),.v (.int .i64 id),.v (.int .i64 size),.v (.int .i64 owner)] (.tup [.agg (aS (cS b id size owner).1),.agg (aN (cS b id size owner).2.1),.v (.int .i64 (cS b id size owner).2.2)]):=by
 obtain⟨R,hR⟩:∃R,R=cS b id size owner:=⟨_,rfl⟩;rw[←hR];replace hR:=Xj hR;by_cases hc:aZ b=0
 ·have co:=dI hc;have hid:=zj owner;cases hq:bK b id with
  |none=>
   have cU:=jy b hz hc;have hf:=nc b id (by have:=co.n8;omega) co.rise;unfold oB at hf;rw[hq]at hf;replace hc:=Xj hc;replace hq:=Xj hq;refine pj func59 ntmps59 results59 ?_;have z1z:=Ln.mk (ls:=[]) (cU);refine am ?_<;>intros;rw[show R=(Bok.zero,Pfx.zero,5) from (by rw[hR.out];unfold cS;rw[if_neg (by simpa using hc.out),hq.out])];exact dg
  |some p=>
   obtain⟨pre,post,hp,rfl⟩:=kB hq;have cU:=ro b pre post p hp hz hc;have oQ:p∈b.pools:=by rw[hp];simp
   have xe:b.pools[pre.length]? =some p:=by rw[hp,XH (XB _),YG];rfl
   have nL:=co.l32 p oQ;have T4:dh (bq (aG [.box 24 [.d (.v (.int .i64 b.tick)),.own 1 b.pools.length],.row 62 9 b.pools.length (fI pre (av p (.own 2 1)) post),.row 68 5 1 (ab (p.leases.map aV))]) 5) (fI pre (av p (.own 2 1)) post)=some (b.pools.map ah):=by
    rw[hp];simp only[gO,av,cM,bq,aG,eJ,if_true,Ye,Xo,Xm];rfl
   have hf:=AE b pre.length p b.pools.length (fI pre (av p (.own 2 1)) post) [.row 68 5 1 (ab (p.leases.map aV))] (.d (.v (.int .i64 b.tick))) xe co.rise co.n8 (by rw[v6,hp];simp;omega) T4 (by rw[iu];rfl) (by simp only[aH,aQ,az,Yp]) rfl;have PI:=fun s=>P2 p s nL;have PJ:=fun l=>P3 pre post p l b.pools.length 1 nL (lc (co.mem p oQ).2.1);have go:=fun f=>nd co.rise hp f;have aP:R=if dV owner=false then (Bok.zero,Pfx.zero,3)else if (cC p (if size=0 then p.rule.usual else size)).2≠0 then (Bok.zero,Pfx.zero,(cC p (if size=0 then p.rule.usual else size)).2)else
    (⟨b.tick,pre++{p with leases:=ic ⟨(cC p (if size=0 then p.rule.usual else size)).1,1,owner,0⟩ p.leases}::post⟩,(cC p (if size=0 then p.rule.usual else size)).1,0):=by
    rw[hR.out];unfold cS;rw[if_neg (by simpa using hc),hq];simp only;rw[go]
   replace aP:=Xj aP;replace hc:=Xj hc;replace hq:=Xj hq;replace hp:=Xj hp;replace xe:=Xj xe;replace go:=Xj go;clear T4 oQ;cases h0:size==0 with
   |true=>
    have e0:size=0:=by simpa using h0
    have aP:=aP.out;rw[if_pos e0]at aP;replace aP:=Xj aP;replace e0:=Xj e0;have FK:=PJ ⟨(cC p p.rule.usual).1,1,owner,0⟩;have M7:=PI p.rule.usual;clear PJ PI;refine pj func59 ntmps59 results59 ?_;repeat' (first|(with_reducible refine And.intro ?_ ?_)|(with_reducible refine cn (fun _=>?_) (fun _=>?_))|(with_reducible refine aA (fun _=>?_) (fun _=>?_))|(with_reducible refine be (by kernel_rfl))|simp -dsimp only[go_sem,seval, *,aS,aN,aV,av,aO,eQ,gO,h0]|((with_reducible refine bf ?_);simp -dsimp only[go_sem,seval,aS,aN,aV,av,aO,eQ,gO,h0];first|refine aC (by first|assumption|exact hid|exact M7) (by first|exact .inl rfl|exact .inr rfl) ?_|(refine aB (by assumption) ?_ ?_ ?_;(solve|(repeat(first|exact ai.refl _|exact ai.nil _|(refine ai.tup ?_)|(refine ai.agg ?_ rfl)|exact trivial|(refine And.intro ?_ ?_))));(solve|exact .inl rfl|exact .inr rfl)))|(refine aX [] (cU) ?_ ?_ ?_ ?_ ?_ ?_;(solve|rfl|simp only[go_sem,seval,aS,av,aO]);(solve|rfl);(solve|decide);(solve|simp);(solve|simp only[go_sem,seval,ax,aS,av,aO]))|(refine aX [5,6,8] (hf) ?_ ?_ ?_ ?_ ?_ ?_;(solve|rfl|simp only[go_sem,seval,aN,av,aO]);(solve|rfl);(solve|decide);(solve|simp);(solve|simp only[go_sem,seval,ax,aN,av,aO]))|(refine aX [6,8] (FK) ?_ ?_ ?_ ?_ ?_ ?_;(solve|rfl|simp only[go_sem,seval,aN,aV,av,aO]);(solve|rfl);(solve|decide);(solve|simp);(solve|simp only[go_sem,seval,ax,aN,aV,av,aO]))|omega|exact decide_eq_true (by omega)|exact ai.refl _)
    all_goals clear hf hid M7 FK cU hz
    all_goals first
     |(rw[show R=(Bok.zero,Pfx.zero,3) from (by rw[aP.out];grind)];(try simp only[Xo,Xm]);exact dg)
     |(rw[show R=(Bok.zero,Pfx.zero,(cC p p.rule.usual).2) from (by rw[aP.out];grind)];(try simp only[Xo,Xm]);exact dg)
     |(rw[show R=(⟨b.tick,pre++{p with leases:=ic ⟨(cC p p.rule.usual).1,1,owner,0⟩ p.leases}::post⟩,(cC p p.rule.usual).1,0) from (by rw[aP.out];grind)];(try simp only[Xo,Xm]);exact dg)
   |false=>
    have e0:¬size=0:=by simpa using h0
    have aP:=aP.out;rw[if_neg e0]at aP;replace aP:=Xj aP;replace e0:=Xj e0;have FK:=PJ ⟨(cC p size).1,1,owner,0⟩;have M7:=PI size;clear PJ PI;refine pj func59 ntmps59 results59 ?_;repeat' (first|(with_reducible refine And.intro ?_ ?_)|(with_reducible refine cn (fun _=>?_) (fun _=>?_))|(with_reducible refine aA (fun _=>?_) (fun _=>?_))|(with_reducible refine be (by kernel_rfl))|simp -dsimp only[go_sem,seval, *,aS,aN,aV,av,aO,eQ,gO,h0]|((with_reducible refine bf ?_);simp -dsimp only[go_sem,seval,aS,aN,aV,av,aO,eQ,gO,h0];first|refine aC (by first|assumption|exact hid|exact M7) (by first|exact .inl rfl|exact .inr rfl) ?_|(refine aB (by assumption) ?_ ?_ ?_;(solve|(repeat(first|exact ai.refl _|exact ai.nil _|(refine ai.tup ?_)|(refine ai.agg ?_ rfl)|exact trivial|(refine And.intro ?_ ?_))));(solve|exact .inl rfl|exact .inr rfl)))|(refine aX [] (cU) ?_ ?_ ?_ ?_ ?_ ?_;(solve|rfl|simp only[go_sem,seval,aS,av,aO]);(solve|rfl);(solve|decide);(solve|simp);(solve|simp only[go_sem,seval,ax,aS,av,aO]))|(refine aX [5,6,8] (hf) ?_ ?_ ?_ ?_ ?_ ?_;(solve|rfl|simp only[go_sem,seval,aN,av,aO]);(solve|rfl);(solve|decide);(solve|simp);(solve|simp only[go_sem,seval,ax,aN,av,aO]))|(refine aX [6,8] (FK) ?_ ?_ ?_ ?_ ?_ ?_;(solve|rfl|simp only[go_sem,seval,aN,aV,av,aO]);(solve|rfl);(solve|decide);(solve|simp);(solve|simp only[go_sem,seval,ax,aN,aV,av,aO]))|omega|exact decide_eq_true (by omega)|exact ai.refl _)
    all_goals clear hf hid M7 FK cU hz
    all_goals first
     |(rw[show R=(Bok.zero,Pfx.zero,3) from (by rw[aP.out];grind)];(try simp only[Xo,Xm]);exact dg)
     |(rw[show R=(Bok.zero,Pfx.zero,(cC p size).2) from (by rw[aP.out];grind)];(try simp only[Xo,Xm]);exact dg)
     |(rw[show R=(⟨b.tick,pre++{p with leases:=ic ⟨(cC p size).1,1,owner,0⟩ p.leases}::post⟩,(cC p size).1,0) from (by rw[aP.out];grind)];(try simp only[Xo,Xm]);exact dg)
 ·have cU:=mE b hz hc;have h1:(aZ b !=0)=true:=by simpa using hc
  have hr:R=(Bok.zero,Pfx.zero,aZ b):=by rw[hR.out];unfold cS;rw[if_pos hc]
  rw[hr];replace hr:=Xj hr;refine pj func59 ntmps59 results59 ?_;refine am ?_<;>intros;exact dg
def jh (at_:Pfx)(l:Lse):Bool:=(l.kind==1)&&decide (l.at_=at_)
theorem OD (l:Lse)(at_:Pfx):af prog 131 [.agg (aV l),.ept (aN at_)] (.v (.bool (jh at_ l))):=by
 have he:=mA l.at_ at_;unfold jh;rw[←he];replace he:=Xj he;refine pj func131 ntmps131 results131 ?_;exact bc
def fj (b:Bok)(id:Int)(at_:Pfx):Bok × Int:=
 if aZ b≠0 then (Bok.zero,aZ b)else
 match bK b id with
 |none=>(Bok.zero,5)
 |some p=>match p.leases.findIdx? (jh at_)with
  |none=>(Bok.zero,5)
  |some i=>(rq b id fun p=>{p with leases:=jX p i b.tick},0)
theorem o5 {r:Rul}{len:Int}(h:fH r len=true):0≤r.cool∧r.cool≤1024:=by
 simp only[fH,Xy,decide_eq_true_eq]at h;exact h.2
structure ZipB (b:Bok)(pre post:List Pol)(p:Pol):Prop where
 eq:b.pools=pre++p::post
 at_:b.pools[pre.length]? =some p
 mem:p∈b.pools
 view:dh (bq (aG [.box 24 [.d (.v (.int .i64 b.tick)),.own 1 b.pools.length],.row 62 9 b.pools.length (fI pre (av p (.own 2 1)) post),.row 68 5 1 (ab (p.leases.map aV))]) 5) (fI pre (av p (.own 2 1)) post)=some (b.pools.map ah)
 len:(fI pre (av p (.own 2 1)) post).length=b.pools.length
theorem QZ {b:Bok}{pre post:List Pol}{p:Pol}(hp:b.pools=pre++p::post):ZipB b pre post p:=by
 refine⟨hp,?_,?_,?_,?_⟩
 ·rw[hp,XH (XB _),YG];rfl
 ·rw[hp];simp
 ·rw[hp];simp only[gO,av,cM,bq,aG,eJ,if_true,Ye,Xo,Xm];rfl
 ·rw[v6,hp];simp;omega
theorem rt {b:Bok}(hb:BookOK b){pre post:List Pol}{p:Pol}(hz:ZipB b pre post p){i:Nat}{q:Pol}(hq:b.pools[i]? =some q):
 MSpec prog 116 [.ptr 0 0,.d (.v (.int .i64 q.id))] [.box 24 [.d (.v (.int .i64 b.tick)),.own 1 b.pools.length],.row 62 9 b.pools.length (fI pre (av p (.own 2 1)) post),.row 68 5 1 (ab (p.leases.map aV))]
  (.tup [.rp 1 b.pools.length 9 i 0,.d (.v (.bool true))]) [.box 24 [.d (.v (.int .i64 b.tick)),.own 1 b.pools.length],.row 62 9 b.pools.length (fI pre (av p (.own 2 1)) post),.row 68 5 1 (ab (p.leases.map aV))]:=
 AE b i q b.pools.length _ [.row 68 5 1 (ab (p.leases.map aV))] (.d (.v (.int .i64 b.tick))) hq hb.rise hb.n8 hz.len hz.view (by rw[iu];rfl) (by simp only[aH,aQ,az,Yp]) rfl
theorem Li (b:Bok)(id:Int)(at_:Pfx)(hz:∀p∈b.pools,p.leases.length≤3518437208882):af prog 62 [.agg (aS b),.v (.int .i64 id),.agg (aN at_)] (.tup [.agg (aS (fj b id at_).1),.v (.int .i64 (fj b id at_).2)]):=by
 obtain⟨R,hR⟩:∃R,R=fj b id at_:=⟨_,rfl⟩;rw[←hR];replace hR:=Xj hR;by_cases hc:aZ b=0
 ·have co:=dI hc;cases hq:bK b id with
  |none=>
   have cU:=jy b hz hc;have hf:=nc b id (by have:=co.n8;omega) co.rise;unfold oB at hf;rw[hq]at hf;replace hc:=Xj hc;replace hq:=Xj hq;refine pj func62 ntmps62 results62 ?_;have z1z:=Ln.mk (ls:=[]) (cU);refine am ?_<;>intros;rw[show R=(Bok.zero,5) from (by rw[hR.out];unfold fj;rw[if_neg (by simpa using hc.out),hq.out])];exact dg
  |some p=>
   obtain⟨pre,post,hp,rfl⟩:=kB hq;have cU:=ro b pre post p hp hz hc;have uL:=QZ hp;have hf:=rt co uL uL.at_;have nL:=co.l32 p uL.mem;have nP:=m6 k7 (jh at_) p.leases 131 [.ept (aN at_)] (by omega) (fun l _=>OD l at_);have go:=fun f=>nd co.rise hp f;unfold cz at nP;cases Nz:p.leases.findIdx? (jh at_)with
   |none=>
    rw[Nz]at nP;have hr:R=(Bok.zero,5):=by rw[hR.out];unfold fj;rw[if_neg (by simpa using hc),hq];simp only;rw[Nz]
    rw[hr];clear hr go hq hp hc Nz hR uL;refine pj func62 ntmps62 results62 ?_;repeat' (first|(with_reducible refine And.intro ?_ ?_)|(with_reducible refine cn (fun _=>?_) (fun _=>?_))|(with_reducible refine aA (fun _=>?_) (fun _=>?_))|(with_reducible refine be (by kernel_rfl))|simp -dsimp only[go_sem,seval, *,aS,aN,av,aO,eQ]|((with_reducible refine bf ?_);simp -dsimp only[go_sem,seval,aS,aN,av,aO,eQ];first|refine aC (by first|assumption|exact nP) (by first|exact .inl rfl|exact .inr rfl) ?_|(refine aB (by assumption) ?_ ?_ ?_;(solve|(repeat(first|exact ai.refl _|exact ai.nil _|(refine ai.tup ?_)|(refine ai.agg ?_ rfl)|exact trivial|(refine And.intro ?_ ?_))));(solve|exact .inl rfl|exact .inr rfl)))|(refine aX [] (cU) ?_ ?_ ?_ ?_ ?_ ?_;(solve|rfl|simp only[go_sem,seval,aS,av,aO]);(solve|rfl);(solve|decide);(solve|simp);(solve|simp only[go_sem,seval,ax,aS,av,aO]))|(refine aX [5,6,8] (hf) ?_ ?_ ?_ ?_ ?_ ?_;(solve|rfl|simp only[go_sem,seval,aN,av,aO]);(solve|rfl);(solve|decide);(solve|simp);(solve|simp only[go_sem,seval,ax,aN,av,aO]))|omega|exact decide_eq_true (by omega)|exact ai.refl _)
    exact dg
   |some i=>
    rw[Nz]at nP;have hi:i < p.leases.length:=(XI.1 Nz).1;have fV:=Lg pre post p i b.pools.length 1 b.tick hi nL (o5 (co.mem p uL.mem).2.2) co.tick;have hr:R=(⟨b.tick,pre++{p with leases:=jX p i b.tick}::post⟩,0):=by rw[hR.out];unfold fj;rw[if_neg (by simpa using hc),hq];simp only;rw[Nz];simp only;rw[go]
    have j4:decide ((i:Int) < 0)=false:=by simp
    rw[hr];clear hr go hq hp hc Nz hR uL;refine pj func62 ntmps62 results62 ?_;repeat' (first|(with_reducible refine And.intro ?_ ?_)|(with_reducible refine cn (fun _=>?_) (fun _=>?_))|(with_reducible refine aA (fun _=>?_) (fun _=>?_))|(with_reducible refine be (by kernel_rfl))|simp -dsimp only[go_sem,seval, *,aS,aN,av,aO,eQ,j4]|((with_reducible refine bf ?_);simp -dsimp only[go_sem,seval,aS,aN,av,aO,eQ,j4];first|refine aC (by first|assumption|exact nP) (by first|exact .inl rfl|exact .inr rfl) ?_|(refine aB (by assumption) ?_ ?_ ?_;(solve|(repeat(first|exact ai.refl _|exact ai.nil _|(refine ai.tup ?_)|(refine ai.agg ?_ rfl)|exact trivial|(refine And.intro ?_ ?_))));(solve|exact .inl rfl|exact .inr rfl)))|(refine aX [] (cU) ?_ ?_ ?_ ?_ ?_ ?_;(solve|rfl|simp only[go_sem,seval,aS,av,aO]);(solve|rfl);(solve|decide);(solve|simp);(solve|simp only[go_sem,seval,ax,aS,av,aO]))|(refine aX [5,6,8] (hf) ?_ ?_ ?_ ?_ ?_ ?_;(solve|rfl|simp only[go_sem,seval,aN,av,aO]);(solve|rfl);(solve|decide);(solve|simp);(solve|simp only[go_sem,seval,ax,aN,av,aO]))|(refine aX [6,8] (fV) ?_ ?_ ?_ ?_ ?_ ?_;(solve|rfl|simp only[go_sem,seval,aN,aV,av,aO]);(solve|rfl);(solve|decide);(solve|simp);(solve|simp only[go_sem,seval,ax,aN,aV,av,aO]))|omega|exact decide_eq_true (by omega)|exact ai.refl _)
    all_goals exact dg
 ·have cU:=mE b hz hc;have h1:(aZ b !=0)=true:=by simpa using hc
  have hr:R=(Bok.zero,aZ b):=by rw[hR.out];unfold fj;rw[if_pos hc]
  rw[hr];replace hr:=Xj hr;refine pj func62 ntmps62 results62 ?_;refine am ?_<;>intros;exact dg
def fT (b:Bok)(id up size:Int)(r:Rul):Bok × Pfx × Int:=
 if aZ b≠0 then (Bok.zero,Pfx.zero,aZ b)else
 if dV id=false then (Bok.zero,Pfx.zero,3)else
 match bK b up with
 |none=>(Bok.zero,Pfx.zero,5)
 |some p=>
  if (bK b id).isSome=true then (Bok.zero,Pfx.zero,6)else
  if (cC p size).2≠0 then (Bok.zero,Pfx.zero,(cC p size).2)else
  if fH r (cC p size).1.len=false then (Bok.zero,Pfx.zero,1)else
  if b.pools.length=8 then (Bok.zero,Pfx.zero,2)else
  (⟨b.tick,k9 ⟨id,up,(cC p size).1,r,[]⟩ (rq b up fun p=>{p with leases:=ic ⟨(cC p size).1,2,id,0⟩ p.leases}).pools⟩,(cC p size).1,0)
theorem Lj {pre post:List Pol}{p q:Pol}(h:m9 (pre++p::post))(hq:q.id=p.id):m9 (pre++q::post):=by
 unfold m9 at h ⊢;rw[YT,YC]at h ⊢;obtain⟨h1,⟨h2,h3⟩,h4⟩:=h;refine⟨h1,⟨fun a ha=>by rw[hq];exact h2 a ha,h3⟩,fun a ha c hc=>?_⟩;rcases X7.1 hc with rfl|hc
 ·rw[hq];exact h4 a ha p (by simp)
 ·exact h4 a ha c (by simp[hc])
theorem Q0 (b:Bok)(id up size:Int)(r:Rul)(hz:∀p∈b.pools,p.leases.length≤3518437208882):af prog 55 [.agg (aS b),.v (.int .i64 id),.v (.int .i64 up),.v (.int .i64 size),.agg (pp r)] (.tup [.agg (aS (fT b id up size r).1),.agg (aN (fT b id up size r).2.1),.v (.int .i64 (fT b id up size r).2.2)]):=by
 obtain⟨R,hR⟩:∃R,R=fT b id up size r:=⟨_,rfl⟩;rw[←hR];replace hR:=Xj hR;by_cases hc:aZ b=0
 ·have co:=dI hc;have hid:=zj id;cases D3:dV id with
  |false=>
   rw[D3]at hid;have cU:=jy b hz hc;have hr:R=(Bok.zero,Pfx.zero,3):=by rw[hR.out];unfold fT;rw[if_neg (by simpa using hc),if_pos D3]
   rw[hr];clear hr hR hc D3;refine pj func55 ntmps55 results55 ?_;have z1z:=Ln.mk (ls:=[]) (cU);refine am ?_<;>intros;exact dg
  |true=>
   rw[D3]at hid;cases hq:bK b up with
   |none=>
    have cU:=jy b hz hc;have hf:=nc b up (by have:=co.n8;omega) co.rise;unfold oB at hf;rw[hq]at hf;have hr:R=(Bok.zero,Pfx.zero,5):=by rw[hR.out];unfold fT;rw[if_neg (by simpa using hc),if_neg (by simp[D3]),hq]
    rw[hr];clear hr hR hc D3 hq;refine pj func55 ntmps55 results55 ?_;have z1z:=Ln.mk (ls:=[]) (cU);refine am ?_<;>intros;exact dg
   |some p=>
    obtain⟨pre,post,hp,rfl⟩:=kB hq;have cU:=ro b pre post p hp hz hc;have uL:=QZ hp;have hf:=rt co uL uL.at_;have nL:=co.l32 p uL.mem;have go:=fun f=>nd co.rise hp f;have aP:R=if (bK b id).isSome=true then (Bok.zero,Pfx.zero,6)else if (cC p size).2≠0 then (Bok.zero,Pfx.zero,(cC p size).2)else if fH r (cC p size).1.len=false then (Bok.zero,Pfx.zero,1)else
     if b.pools.length=8 then (Bok.zero,Pfx.zero,2)else (⟨b.tick,k9 ⟨id,p.id,(cC p size).1,r,[]⟩ (pre++{p with leases:=ic ⟨(cC p size).1,2,id,0⟩ p.leases}::post)⟩,(cC p size).1,0):=by
     rw[hR.out];unfold fT;rw[if_neg (by simpa using hc),if_neg (by simp[D3]),hq];simp only;rw[go]
    cases pu:bK b id with
    |some q=>
     obtain⟨i,PD,he⟩:=lL pu;have Bf:=rt co uL PD;rw[he]at Bf;have hr:R=(Bok.zero,Pfx.zero,6):=by rw[aP,pu];rfl
     rw[hr];clear hr hR aP hc D3 hq pu hp go uL PD he;refine pj func55 ntmps55 results55 ?_;repeat' (first|(with_reducible refine And.intro ?_ ?_)|(with_reducible refine cn (fun _=>?_) (fun _=>?_))|(with_reducible refine aA (fun _=>?_) (fun _=>?_))|(with_reducible refine be (by kernel_rfl))|simp -dsimp only[go_sem,seval, *,aS,aN,pp,av,aO,eQ]|((with_reducible refine bf ?_);simp -dsimp only[go_sem,seval,aS,aN,pp,av,aO,eQ];first|refine aC (by first|assumption|exact hid) (by first|exact .inl rfl|exact .inr rfl) ?_|(refine aB (by assumption) ?_ ?_ ?_;(solve|(repeat(first|exact ai.refl _|exact ai.nil _|(refine ai.tup ?_)|(refine ai.agg ?_ rfl)|exact trivial|(refine And.intro ?_ ?_))));(solve|exact .inl rfl|exact .inr rfl)))|(refine aX [] (cU) ?_ ?_ ?_ ?_ ?_ ?_;(solve|rfl|simp only[go_sem,seval,aS,av,aO]);(solve|rfl);(solve|decide);(solve|simp);(solve|simp only[go_sem,seval,ax,aS,av,aO]))|(refine aX [6,7,9] (hf) ?_ ?_ ?_ ?_ ?_ ?_;(solve|rfl|simp only[go_sem,seval,aN,av,aO]);(solve|rfl);(solve|decide);(solve|simp);(solve|simp only[go_sem,seval,ax,aN,av,aO]))|(refine aX [6,7,9] (Bf) ?_ ?_ ?_ ?_ ?_ ?_;(solve|rfl|simp only[go_sem,seval,aN,av,aO]);(solve|rfl);(solve|decide);(solve|simp);(solve|simp only[go_sem,seval,ax,aN,av,aO]))|omega|exact decide_eq_true (by omega)|exact ai.refl _)
     all_goals exact dg
    |none=>
     have Bf:=nc b id (by have:=co.n8;omega) co.rise;unfold oB at Bf;rw[pu]at Bf;have PI:=P2 p size nL;have xg:=E5 r (cC p size).1;have hlt:=P3 pre post p ⟨(cC p size).1,2,id,0⟩ b.pools.length 1 nL (lc (co.mem p uL.mem).2.1);have Ux:(pre++{p with leases:=ic ⟨(cC p size).1,2,id,0⟩ p.leases}::post).length≤8:=by
      have:=co.n8;rw[hp]at this;simpa using this
     have bR:(pre++{p with leases:=ic ⟨(cC p size).1,2,id,0⟩ p.leases}::post).length=b.pools.length:=by rw[hp];simp
     have W3:m9 (pre++{p with leases:=ic ⟨(cC p size).1,2,id,0⟩ p.leases}::post):=by
      have:=co.rise;rw[hp]at this;exact Lj this rfl
     have Sv:=(P4 _ ⟨id,p.id,(cC p size).1,r,[]⟩ b.pools.length (.v (.int .i64 b.tick)) Ux W3 rfl).lep (args':=[.ptr 0 0,.d (.agg [.v (.int .i64 id),.v (.int .i64 p.id),.v (.int .i64 (cC p size).1.at_),.v (.int .i64 (cC p size).1.len),.v (.int .i64 r.min),.v (.int .i64 r.max),.v (.int .i64 r.usual),.v (.int .i64 r.cool),.v (.slice none 0 0)])]) ⟨.inl rfl,.inr ⟨_,_,rfl,rfl,dg⟩,trivial⟩ rfl;have fM:Hid (R=if (cC p size).2≠0 then (Bok.zero,Pfx.zero,(cC p size).2)else if fH r (cC p size).1.len=false then (Bok.zero,Pfx.zero,1)else
      if b.pools.length=8 then (Bok.zero,Pfx.zero,2)else (⟨b.tick,k9 ⟨id,p.id,(cC p size).1,r,[]⟩ (pre++{p with leases:=ic ⟨(cC p size).1,2,id,0⟩ p.leases}::post)⟩,(cC p size).1,0)):=by
      show R=_;rw[aP,pu];rfl
     have hvq:dh (bq (aG [.gone]) 0) []=some []:=rfl;clear hR aP hc D3 hq pu go Ux W3 hvq bR;have aP:=fM;clear fM;have a0d:=Xj hp;have T4:=uL.view;simp only[gO,av,cM,bq,aG,eJ,if_true,Ye]at T4;clear uL;have he:aS b=[.v (.int .i64 b.tick),.sl 9 (List.map ah pre++ah p::List.map ah post)]:=by unfold aS;rw[hp,Xo,Xm]
     rw[he]at Bf;have Qb:∀r,(fI pre r post).length=b.pools.length:=fun r=>by rw[v6,hp];simp;omega
     clear hp T4 he;refine pj func55 ntmps55 results55 ?_;repeat' (first|(with_reducible refine And.intro ?_ ?_)|(with_reducible refine cn (fun _=>?_) (fun _=>?_))|(with_reducible refine aA (fun _=>?_) (fun _=>?_))|(with_reducible refine be (by kernel_rfl))|simp -dsimp only[go_sem,seval, *,aS,aN,pp,aV,av,aO,eQ,gO,Qb]|((with_reducible refine bf ?_);simp -dsimp only[go_sem,seval,aS,aN,pp,aV,av,aO,eQ,gO,Qb];first|refine aC (by first|assumption|exact hid|exact Bf|exact PI|exact xg) (by first|exact .inl rfl|exact .inr rfl) ?_|(refine aB (by assumption) ?_ ?_ ?_;(solve|(repeat(first|exact ai.refl _|exact ai.nil _|(refine ai.tup ?_)|(refine ai.agg ?_ rfl)|exact trivial|(refine And.intro ?_ ?_))));(solve|exact .inl rfl|exact .inr rfl)))|(refine aX [] (cU) ?_ ?_ ?_ ?_ ?_ ?_;(solve|rfl|simp only[go_sem,seval,aS,av,aO]);(solve|rfl);(solve|decide);(solve|simp);(solve|simp only[go_sem,seval,ax,aS,av,aO]))|(refine aX [6,7,9] (hf) ?_ ?_ ?_ ?_ ?_ ?_;(solve|rfl|simp only[go_sem,seval,aN,av,aO]);(solve|rfl);(solve|decide);(solve|simp);(solve|simp only[go_sem,seval,ax,aN,av,aO]))|(refine aX [7,9] (hlt) ?_ ?_ ?_ ?_ ?_ ?_;(solve|rfl|simp only[go_sem,seval,aN,aV,av,aO]);(solve|rfl);(solve|decide);(solve|simp);(solve|simp only[go_sem,seval,ax,aN,aV,av,aO]))|(refine aX [6,7] (Sv) ?_ ?_ ?_ ?_ ?_ ?_;(solve|rfl|simp only[go_sem,seval,aN]);(solve|rfl);(solve|decide);(solve|simp);(solve|simp only[go_sem,seval,ax,aN]))|omega|exact decide_eq_true (by omega)|exact ai.refl _)
     all_goals clear hf Bf hid PI xg hlt Sv cU hz
     all_goals first
      |(rw[show R=(Bok.zero,Pfx.zero,(cC p size).2) from (by rw[aP.out];grind)];(try simp only[Xo,Xm]);exact dg)
      |(rw[show R=(Bok.zero,Pfx.zero,1) from (by rw[aP.out];grind)];(try simp only[Xo,Xm]);exact dg)
      |(rw[show R=(Bok.zero,Pfx.zero,2) from (by rw[aP.out];grind)];(try simp only[Xo,Xm]);exact dg)
      |(rw[show R=(⟨b.tick,k9 ⟨id,p.id,(cC p size).1,r,[]⟩ (pre++{p with leases:=ic ⟨(cC p size).1,2,id,0⟩ p.leases}::post)⟩,(cC p size).1,0) from (by rw[aP.out];grind)];(try simp only[Xo,Xm]);exact dg)
 ·have cU:=mE b hz hc;have h1:(aZ b !=0)=true:=by simpa using hc
  have hr:R=(Bok.zero,Pfx.zero,aZ b):=by rw[hR.out];unfold fT;rw[if_pos hc]
  rw[hr];replace hr:=Xj hr;refine pj func55 ntmps55 results55 ?_;refine am ?_<;>intros;exact dg
theorem Lk (l:Lse):af prog 122 [.agg (aV l)] (.v (.bool (l.kind !=3))):=by
 refine pj func122 ntmps122 results122 ?_;exact bc
theorem Ll (l:Lse)(id:Int):af prog 125 [.agg (aV l),.ept [.v (.int .i64 id)]] (.v (.bool (lw id l))):=by
 unfold lw;refine pj func125 ntmps125 results125 ?_;exact bc
theorem ru (p:Pol)(id:Int):af prog 127 [.agg (ah p),.ept [.v (.int .i64 id)]] (.v (.bool (p.id==id))):=by
 refine pj func127 ntmps127 results127 ?_;exact bc
def iw (b:Bok)(p:Pol):List Pol:=match bK b p.up with
 |none=>b.pools
 |some u=>match u.leases.findIdx? (lw p.id)with
  |some i=>(rq b u.id fun u=>{u with leases:=jX u i b.tick}).pools
  |none=>b.pools
def fk (b:Bok)(id:Int):Bok × Int:=
 if aZ b≠0 then (Bok.zero,aZ b)else
 match bK b id with
 |none=>(Bok.zero,5)
 |some p=>if (p.leases.any fun l=>l.kind !=3)=true then (Bok.zero,9)else (⟨b.tick,(iw b p).filter fun q=>!(q.id==id)⟩,0)
theorem jz {b:Bok}:∀(l:List Pol) (roots:List Pfx),dB b l roots=true→∀p∈l,jV b b.pools.length p=true∧∀l∈p.leases,eO b p l=true
 |[],_,_,p,hp=>by simp at hp
 |q::l,roots,h,p,hp=>by
  simp only[dB,Xy]at h;rcases X7.1 hp with rfl|hp
  ·exact⟨h.1.1,fun l hl=>XC.1 h.1.2 l hl⟩
  ·have h2:=h.2;split at h2
   ·simp only[Xy]at h2;exact jz l _ h2.2 p hp
   ·exact jz l _ h2 p hp
theorem AF {b:Bok}{p:Pol}(hp:bK b p.id=some p)(h1:p.id≠0)(he:p.up=p.id):∀n,jV b n p=false
 |0=>by simp[jV,he,h1]
 |n+1=>by simp[jV,he,h1,hp,AF hp h1 he n]
theorem GE {b:Bok}{n:Nat}{p u:Pol}(h:jV b n p=true)(h0:p.up≠0)(hu:bK b p.up=some u):u.leases.any (lw p.id)=true:=by
 cases n with
 |zero=>simp[jV,h0]at h
 |succ n=>
  simp only[jV,hu,Bool.or_eq_true,Xy,beq_iff_eq]at h;rcases h with h|h
  ·exact absurd h h0
  ·exact h.1
theorem E8 {pre post:List Pol}{p q:Pol}{r:List PV}{i:Nat}(h:(pre++p::post)[i]? =some q)(bB:i≠pre.length):(fI pre r post)[i]? =some ((ah q).map .d):=by
 unfold fI;rcases Zb i pre.length with hlt|he|hgt
 ·rw[X2 hlt]at h;rw[X2 (by rw[aF,XD];exact hlt),gM,Xz,h];rfl
 ·exact absurd he bB
 ·rw[XH (by omega)]at h;rw[XH (by rw[aF,XD];omega),aF,XD];obtain⟨j,hj⟩:∃j,i - pre.length=j+1:=⟨i - pre.length - 1,by omega⟩;rw[hj,Yx]at h ⊢;rw[gM,Xz,h];rfl
theorem OE (b:Bok)(id:Int)(hz:∀p∈b.pools,p.leases.length≤3518437208882):af prog 56 [.agg (aS b),.v (.int .i64 id)] (.tup [.agg (aS (fk b id).1),.v (.int .i64 (fk b id).2)]):=by
 obtain⟨R,hR⟩:∃R,R=fk b id:=⟨_,rfl⟩;rw[←hR];replace hR:=Xj hR;by_cases hc:aZ b=0
 ·have co:=dI hc;cases hq:bK b id with
  |none=>
   have cU:=jy b hz hc;have hf:=nc b id (by have:=co.n8;omega) co.rise;unfold oB at hf;rw[hq]at hf;have hr:R=(Bok.zero,5):=by rw[hR.out];unfold fk;rw[if_neg (by simpa using hc),hq]
   rw[hr];clear hr hR hc hq;refine pj func56 ntmps56 results56 ?_;have z1z:=Ln.mk (ls:=[]) (cU);refine am ?_<;>intros;exact dg
  |some p=>
   obtain⟨i,xe,rfl⟩:=lL hq;have oQ:p∈b.pools:=Xl xe;have nL:=co.l32 p oQ;have ns:=qa k7 (fun l=>l.kind !=3) p.leases 122 [] (by omega) (fun l _=>Lk l);have aP:R=if (p.leases.any fun l=>l.kind !=3)=true then (Bok.zero,9)else (⟨b.tick,(iw b p).filter fun q=>!(q.id==p.id)⟩,0):=by
    rw[hR.out];unfold fk;rw[if_neg (by simpa using hc),hq]
   replace aP:=Xj aP;cases hu:bK b p.up with
   |none=>
    have cU:=jy b hz hc;have hf:=AE b i p b.pools.length (ab (b.pools.map ah)) [] (.d (.v (.int .i64 b.tick))) xe co.rise co.n8 (by simp[aF]) (eJ _ _ _) (az _ _) rfl rfl;have Bf:=nc b p.up (by have:=co.n8;omega) co.rise;unfold oB at Bf;rw[hu]at Bf;have fV:iw b p=b.pools:=by unfold iw;rw[hu]
    have aP:=aP.out;rw[fV]at aP;have h8:=co.n8;replace aP:=Xj aP;clear hq hu fV hR hc;refine pj func56 ntmps56 results56 ?_;repeat' (first|(with_reducible refine And.intro ?_ ?_)|(with_reducible refine cn (fun _=>?_) (fun _=>?_))|(with_reducible refine aA (fun _=>?_) (fun _=>?_))|(with_reducible refine be (by kernel_rfl))|simp -dsimp only[go_sem,seval, *,aS,aN,ah,xe]|((with_reducible refine bf ?_);simp -dsimp only[go_sem,seval,aS,aN,ah,xe];first|refine aC (by first|assumption|exact ns|exact Bf) (by first|exact .inl rfl|exact .inr rfl) ?_|(refine aB (by assumption) ?_ ?_ ?_;(solve|(repeat(first|exact ai.refl _|exact ai.nil _|(refine ai.tup ?_)|(refine ai.agg ?_ rfl)|exact trivial|(refine And.intro ?_ ?_))));(solve|exact .inl rfl|exact .inr rfl)))|(refine aX [] (cU) ?_ ?_ ?_ ?_ ?_ ?_;(solve|rfl|simp only[go_sem,seval,aS]);(solve|rfl);(solve|decide);(solve|simp);(solve|simp only[go_sem,seval,ax,aS]))|(refine aX [5,6] (hf) ?_ ?_ ?_ ?_ ?_ ?_;(solve|rfl|simp only[go_sem,seval,aS]);(solve|rfl);(solve|decide);(solve|simp);(solve|simp only[go_sem,seval,ax,aS]))|(refine Kw (zk (fun q=>q.id==p.id) b.pools 6 _ _ _ _ rfl rfl ?_ ?_ ⟨[.ept [.v (.int .i64 p.id)]],rfl,fun x _=>ru x p.id⟩ (fun m c=>⟨[.ept [.v (.int .i64 p.id)]],rfl,fun x _=>ru x p.id⟩)) ?_)|omega|exact decide_eq_true (by omega)|exact ai.refl _)
    all_goals first
     |first|rfl|simp only[aH,ek,aQ,an,cF,aq,bj,az,iu,av,XA,XZ,XM,ZR,decide_true,Yp,YA]
     |omega
     |(rw[show R=(Bok.zero,9) from (by rw[aP.out];grind)];(try simp only[Xo,Xm]);exact dg)
     |(rw[show R=(⟨b.tick,b.pools.filter fun q=>!(q.id==p.id)⟩,0) from (by rw[aP.out];grind)];(try simp only[Xo,Xm]);exact dg)
   |some u=>
    obtain⟨pre,post,hp,Uy⟩:=kB hu;have cU:=ro b pre post u hp hz hc;have uL:=QZ hp;have bB:i≠pre.length:=by
     rintro rfl;have:=uL.at_;rw[xe]at this;obtain rfl:=XX.inj this;have h1:=(jz _ _ co.second p oQ).1;have h2:=AF hq (by have:=(co.mem p oQ).1;rintro h;rw[h]at this;simp[dV]at this) Uy.symm b.pools.length;rw[h2]at h1;exact absurd h1 (by simp)
    have hf:=rt co uL xe;have Bf:=rt co uL uL.at_;rw[Uy]at Bf;have W4:=fun r=>E8 (r:=r) (by rw[←hp];exact xe) bB;have T5:=co.l32 u uL.mem;have iy:=GE (jz _ _ co.second p oQ).1 (by have:=(co.mem u uL.mem).1;rintro h;rw[←Uy]at h;rw[h]at this;simp[dV]at this) hu;have nP:=m6 k7 (lw p.id) u.leases 125 [.ept [.v (.int .i64 p.id)]] (by omega) (fun l _=>Ll l p.id);obtain⟨j,hj⟩:∃j,u.leases.findIdx? (lw p.id)=some j:=by
     cases hj:u.leases.findIdx? (lw p.id)with
     |some j=>exact⟨j,rfl⟩
     |none=>
      rw[Yn]at hj;obtain⟨x,hx,lO⟩:=XU.1 iy;rw[hj x hx]at lO;exact absurd lO (by simp)
    unfold cz at nP;rw[hj]at nP;have j6:j < u.leases.length:=(XI.1 hj).1;have fV:=Lg pre post u j b.pools.length 1 b.tick j6 T5 (o5 (co.mem u uL.mem).2.2) co.tick;have W5:iw b p=pre++{u with leases:=jX u j b.tick}::post:=by
     unfold iw;rw[hu];simp only;rw[hj];simp only;rw[nd co.rise hp]
    have aP:=aP.out;rw[W5]at aP;replace aP:=Xj aP;have h8:=co.n8;have bR:(pre++{u with leases:=jX u j b.tick}::post).length≤1000000000:=by
     rw[hp]at h8;simp at h8 ⊢;omega
    clear hq hu Uy hR hc W5 iy hj xe hp uL h8 co bB oQ;refine pj func56 ntmps56 results56 ?_;repeat' (first|(with_reducible refine And.intro ?_ ?_)|(with_reducible refine cn (fun _=>?_) (fun _=>?_))|(with_reducible refine aA (fun _=>?_) (fun _=>?_))|(with_reducible refine be (by kernel_rfl))|simp -dsimp only[go_sem,seval, *,aS,aN,ah,av,aO,eQ,W4]|((with_reducible refine bf ?_);simp -dsimp only[go_sem,seval,aS,aN,ah,av,aO,eQ,W4];first|refine aC (by first|assumption|exact ns|exact nP) (by first|exact .inl rfl|exact .inr rfl) ?_|(refine aB (by assumption) ?_ ?_ ?_;(solve|(repeat(first|exact ai.refl _|exact ai.nil _|(refine ai.tup ?_)|(refine ai.agg ?_ rfl)|exact trivial|(refine And.intro ?_ ?_))));(solve|exact .inl rfl|exact .inr rfl)))|(refine aX [] (cU) ?_ ?_ ?_ ?_ ?_ ?_;(solve|rfl|simp only[go_sem,seval,aS,av,aO]);(solve|rfl);(solve|decide);(solve|simp);(solve|simp only[go_sem,seval,ax,aS,av,aO]))|(refine aX [5,6,8] (hf) ?_ ?_ ?_ ?_ ?_ ?_;(solve|rfl|simp only[go_sem,seval,aN,av,aO]);(solve|rfl);(solve|decide);(solve|simp);(solve|simp only[go_sem,seval,ax,aN,av,aO]))|(refine aX [5,6,8] (Bf) ?_ ?_ ?_ ?_ ?_ ?_;(solve|rfl|simp only[go_sem,seval,aN,av,aO]);(solve|rfl);(solve|decide);(solve|simp);(solve|simp only[go_sem,seval,ax,aN,av,aO]))|(refine aX [6,8] (fV) ?_ ?_ ?_ ?_ ?_ ?_;(solve|rfl|simp only[go_sem,seval,aN,aV,av,aO]);(solve|rfl);(solve|decide);(solve|simp);(solve|simp only[go_sem,seval,ax,aN,aV,av,aO]))|(refine Kw (zk (fun q=>q.id==p.id) (pre++{u with leases:=jX u j b.tick}::post) 6 _ _ _ _ rfl rfl ?_ ?_ ⟨[.ept [.v (.int .i64 p.id)]],rfl,fun x _=>ru x p.id⟩ (fun m c=>⟨[.ept [.v (.int .i64 p.id)]],rfl,fun x _=>ru x p.id⟩)) ?_)|omega|exact decide_eq_true (by omega)|exact ai.refl _)
    all_goals first
     |first|rfl|simp only[aH,ek,aQ,an,cF,aq,bj,az,iu,av,XA,XZ,XM,ZR,decide_true,Yp,YA]
     |(simpa using bR)
     |(rw[show R=(Bok.zero,9) from (by rw[aP.out];grind)];(try simp only[Xo,Xm]);exact dg)
     |(rw[show R=(⟨b.tick,(pre++{u with leases:=jX u j b.tick}::post).filter fun q=>!(q.id==p.id)⟩,0) from (by rw[aP.out];grind)];(try simp only[Xo,Xm]);exact dg)
 ·have cU:=mE b hz hc;have h1:(aZ b !=0)=true:=by simpa using hc
  have hr:R=(Bok.zero,aZ b):=by rw[hR.out];unfold fk;rw[if_pos hc]
  rw[hr];replace hr:=Xj hr;refine pj func56 ntmps56 results56 ?_;refine am ?_<;>intros;exact dg
def fl:Nat→List Pol→List (List PV)
 |_,[]=>[]
 |k,p::ps=>av p (.own k 1)::fl (k+2) ps
def rZ:List Pol→List Chunk
 |[]=>[]
 |p::ps=> .gone:: .row 68 5 1 (ab (p.leases.map aV))::rZ ps
@[go_sem] theorem sN:∀(ps:List Pol) (k:Nat),(fl k ps).length=ps.length
 |[],_=>rfl
 |p::ps,k=>by simp only[fl,XA,sN ps]
theorem nf:∀ps:List Pol,(rZ ps).length=2*ps.length
 |[]=>rfl
 |p::ps=>by simp only[rZ,XA,nf ps];omega
theorem wa (p:Pol):∀(ps:List Pol) (k:Nat),fl k (ps++[p])=fl k ps++[av p (.own (k+2*ps.length) 1)]
 |[],k=>rfl
 |q::ps,k=>by
  simp only[X8,fl,wa p ps,XA];rw[show k+2+2*ps.length=k+2*(ps.length+1) by omega]
theorem CU (p:Pol):∀ps:List Pol,rZ (ps++[p])=rZ ps++[.gone,.row 68 5 1 (ab (p.leases.map aV))]
 |[]=>rfl
 |q::ps=>by simp only[X8,rZ,CU p ps]
theorem i5 (n:Nat):∀(ps:List Pol) (k:Nat),k+2*ps.length < n+2→cF n (fl k ps)=true
 |[],_,_=>rfl
 |p::ps,k,h=>by
  simp only[XA]at h;simp only[fl,cF,av,an,aq,i5 n ps (k+2) (by omega),YA,Yr,decide_eq_true_eq];omega
theorem ng (n:Nat):∀ps:List Pol,aH n (rZ ps)=true
 |[]=>rfl
 |p::ps=>by simp only[rZ,aH,aQ,az,ng n ps,Yp]
@[go_sem] theorem Q5 (a:List Chunk)(c d:Chunk):bw (a++[c]) a.length d=a++[d]:=by
 have:=mi a c d [];simpa using this
@[go_sem] theorem Q6 (a:List Chunk)(c e d:Chunk):bw (a++[c,e]) a.length d=a++[d,e]:=mi a c d [e]
@[go_sem] theorem Sm (a:List Chunk)(c d:Chunk):bw (a++[c]) (a.length+1) d=a++[c,d]:=by
 have:=kI (a++[c]) d;rw[XY]at this;simpa using this
@[go_sem] theorem OF (a:List Chunk)(c:Chunk)(l:List Chunk):aG (a++c::l) a.length=c:=by
 induction a with
 |nil=>rfl
 |cons x a ih=>exact ih
@[go_sem] theorem S1 (a:List Chunk)(c d:Chunk)(l:List Chunk):aG (a++c::d::l) (a.length+1)=d:=by
 induction a with
 |nil=>rfl
 |cons x a ih=>exact ih
@[go_sem] theorem S2 (a:List Chunk)(c d e:Chunk)(l:List Chunk):aG (a++c::d::e::l) (a.length+2)=e:=by
 induction a with
 |nil=>rfl
 |cons x a ih=>exact ih
@[go_sem] theorem Sn (a:List Chunk)(c e d:Chunk):bw (a++[c,e]) (a.length+2) d=a++[c,e,d]:=by
 have:=kI (a++[c,e]) d;rw[XY]at this;simpa using this
theorem nh (n:Nat):∀(l m:List Chunk),aH n (l++m)=(aH n l&&aH n m)
 |[],m=>rfl
 |c::l,m=>by simp only[X8,aH,nh n l m,P']
theorem OG (b:Bok)(h8:b.pools.length≤8)(fB:∀p∈b.pools,p.leases.length≤32):
 MSpec prog 196 [.d (.agg (aS b))] [] (.ptr 1 0) (.gone:: .box 24 [.d (.v (.int .i64 b.tick)),.own 2 b.pools.length]:: .row 62 9 b.pools.length (fl 4 b.pools)::rZ b.pools):=by
 refine mj func196 ntmps196 results196 ?_;refine am ?_<;>intros;refine bo ae ak b.pools (fun _=>True) (fun k=>[(13,.d (.v (.int .i64 k))),(12,.d (.v (.int .i64 b.pools.length))),(11,.d (.sl 9 (b.pools.map ah))),(3,.ptr 1 0),(2,.d (.v (.pointer none)))])
  (fun k=> .gone:: .box 24 [.d (.v (.int .i64 b.tick)),.own 2 k]:: .row 62 9 k (fl 4 (b.pools.take k))::rZ (b.pools.take k)) trivial ?_ ?_ ?_
 ·refine(aL 0 (by simp)).trans ((au (by simp) 1 24 [.d (.v (.int .i64 b.tick)),.d (.v (.slice none 0 0))] 1 62 9 rfl rfl rfl).trans ?_);exact wf
 ·intro k p hp hk _ C hC;have dM:(k:Int) < (b.pools.length:Int):=by omega
  have cR:=wi k (by omega);have iP:=fB p (Xl hp);have jf:k+1≤100:=by omega
  have hlt:(Yg k b.pools).length=k:=by rw[Xq];omega
  have dS:=ag hp;have zI:=sN (b.pools.take k) 4;have fV:=nf (b.pools.take k);rw[hlt]at zI fV;rw[dS,wa,CU,hlt]at hC;have t9:=fun n h=>i5 n (b.pools.take k) 4 h;have hbh:=fun n=>ng n (b.pools.take k);clear dS;generalize rZ (b.pools.take k)=T at*;generalize fl 4 (b.pools.take k)=rows at*;replace fV:=Xj fV;replace t9:=Xj t9;replace hbh:=Xj hbh;have z1z:=Ln.mk (ls:=[]) (iG aV p.leases (by omega));refine am ?_<;>intros;refine hC _ _ trivial ((aL (T.length+3) (by simp)).trans (ee [.row 62 9 0 [av p (.own (T.length+4) 1)]] (by simp) (h':= .gone:: .box 24 [.d (.v (.int .i64 b.tick)),.own 2 (k+1)]:: .row 62 9 (k+1) (rows++[av p (.own (4+2*k) 1)])::(T++[.gone,.row 68 5 1 (ab (p.leases.map aV))])) ?_ se ?_ ?_))
  ·simp only[bw];rw[mi,show T.length+4=4+2*k from by have:=fV.out;omega];simp only[X8,X4,Ya];rfl
  ·have:=fV.out;simp[ek,aq]
  ·have:=fV.out;have h1:=hbh.out (T.length+5);have h2:=t9.out (T.length+5) (by rw[hlt];omega);simp[aH,aQ,an,aq,jW,cF,az,av,nh,h1,h2];omega
 ·intro _ C;refine am ?_<;>intros;(try rw[Xt])
  exact bn rfl rfl
@[go_sem] theorem Iv (n:Nat):∀(ps:List Pol) (j:Nat) (a:List Chunk),a.length=n+j→iC (fun x=>n+x) j (rZ ps) a=a++rZ ps
 |[],j,a,_=>by simp[rZ,iC]
 |p::ps,j,a,h=>by
  have h1:n+j=a.length:=h.symm;have h2:n+(j+1)=(a++[Chunk.gone]).length:=by simp only[XY,XA,XZ];omega
  simp only[rZ,iC,lu];rw[h1,kI,h2,kI,Iv n ps (j+1+1) _ (by simp;omega)];have hd:jN (fun x=>n+x) (ab (p.leases.map aV))=ab (p.leases.map aV):=uZ _ _;rw[hd];simp
@[go_sem] theorem E9 (n:Nat):∀(ps:List Pol) (k:Nat),jN (fun x=>n+x) (fl k ps)=fl (n+k) ps
 |[],_=>rfl
 |p::ps,k=>by
  simp only[fl,jN,E9 n ps (k+2),av,iR,ren];rw[show n+(k+2)=n+k+2 by omega]
theorem Iw (b:Bok)(hz:∀p∈b.pools,p.leases.length≤3518437208882)(h:aZ b=0):
 MSpec prog 115 [.d (.agg (aS b))] [] (.tup [.ptr 2 0,.d (.v (.int .i64 0))]) (.gone:: .gone:: .box 24 [.d (.v (.int .i64 b.tick)),.own 3 b.pools.length]:: .row 62 9 b.pools.length (fl 5 b.pools)::rZ b.pools):=by
 have hc:=mB b hz;have hb:=dI h;have ho:=OG b hb.n8 hb.l32;rw[h]at hc;replace h:=Xj h;refine mj func115 ntmps115 results115 ?_;have z1z:=Ln.mk (ls:=[]) (ho);refine am ?_<;>intros;exact(aL 0 (by simp)).trans (bn rfl rfl)
def lx (D:List Pol)(r:List PV)(k:Nat)(ps:List Pol):List (List PV):=ab (D.map ah)++r::fl k ps
theorem Lm (D:List Pol)(r:List PV)(k:Nat)(ps:List Pol):(lx D r k ps).length=D.length+1+ps.length:=by
 unfold lx;rw[XY,XA,sN,aF,XD];omega
theorem Lo (D:List Pol)(r:List PV)(k:Nat)(ps:List Pol):(lx D r k ps)[D.length]? =some r:=by
 unfold lx;rw[XH (by simp[aF])];simp[aF]
theorem Lp (D:List Pol)(r r':List PV)(k:Nat)(ps:List Pol):(lx D r k ps).set D.length r'=lx D r' k ps:=by
 unfold lx;rw[Yu _ _ (by simp[aF])];simp[aF]
theorem zl (k g:Nat)(d:D):∀(ps:List Pol) (k0:Nat),k < k0→f9 k g d (fl k0 ps)=fl k0 ps
 |[],_,_=>rfl
 |p::ps,k0,h=>by
  simp only[fl,f9,zl k g d ps (k0+2) (by omega),av,gy,fz];rw[if_neg (by omega)]
theorem GF (k g:Nat)(d:D):∀(l m:List Chunk) (i:Nat),gj k g d i (l++m)=gj k g d i l++gj k g d (i+l.length) m
 |[],m,i=>rfl
 |c::l,m,i=>by
  simp only[X8,gj,GF k g d l m (i+1),XA];rw[show i+1+l.length=i+(l.length+1) by omega]
theorem wb (k g:Nat)(d:D):∀(l:List Chunk) (i:Nat),(∀c∈l,g8 k g d c=c)→(∀x,i≤x→x < i+l.length→x≠k)→gj k g d i l=l
 |[],_,_,_=>rfl
 |c::l,i,h,hx=>by
  simp only[gj];rw[if_neg (hx i (XB _) (by simp)),h c (by simp),wb k g d l (i+1) (fun c hc=>h c (by simp[hc])) (fun x h1 h2=>hx x (by omega) (by simp;omega))]
theorem GG {c:Chunk}:∀{ps:List Pol},c∈rZ ps→c= .gone∨∃ls,c= .row 68 5 1 (ab ls)
 |p::ps,h=>by
  simp only[rZ,X7]at h;rcases h with h|h|h
  ·exact .inl h
  ·exact .inr ⟨_,h⟩
  ·exact GG h
theorem Lq:∀(ps:List Pol) (x:List Chunk) (i:Nat) (p:Pol),ps[i]? =some p→aG (rZ ps++x) (2*i+1)= .row 68 5 1 (ab (p.leases.map aV))
 |q::ps,x,0,p,h=>by simp at h;subst h;rfl
 |q::ps,x,i+1,p,h=>by
  simp only[Yx]at h;have:=Lq ps x i p h;simp only[rZ,X8];rw[show 2*(i+1)+1=(2*i+1)+1+1 by omega];exact this
theorem zm:∀(a b:List Chunk) (i:Nat),aG (a++b) (a.length+i)=aG b i
 |[],b,i=>by simp
 |c::a,b,i=>by
  simp only[X8,XA];rw[show a.length+1+i=(a.length+i)+1 by omega];exact zm a b i
def ij (j:Nat)(c:Chunk)(ps:List Pol)(e:Chunk):List Chunk:=XV (2*j) .gone++(.gone::c::(rZ ps++[e]))
structure TailOK (T:Chunk→List Chunk)(j q:Nat)(ps:List Pol)(e:Chunk):Prop where
 a:∀c x,aG (T c++x) (2*j+1)=c
 a0:∀c,aG (T c) (2*j+1)=c
 b:∀c x,aG (T c++x) q=e
 b0:∀c,aG (T c) q=e
 c:∀c d,bw (T c) (2*j+1) d=T d
 len:∀c,(T c).length=q+1
 h:∀n c,aQ n c=true→aQ n e=true→aH n (T c)=true
 r:∀c x i p,ps[i]? =some p→aG (T c++x) (2*j+1+2*(i+1))= .row 68 5 1 (ab (p.leases.map aV))
 f:∀c g d,g8 (2*j+7) g d e=e→gj (2*j+7) g d 6 (T c)=T .gone
theorem ld (j:Nat)(c:Chunk)(ps:List Pol)(e:Chunk):ij j c ps e=(XV (2*j) Chunk.gone++[.gone])++c::(rZ ps++[e]):=by
 unfold ij;simp
theorem Q7 (j q:Nat)(ps:List Pol)(e:Chunk)(hq:q=2*j+2+2*ps.length):TailOK (fun c=>ij j c ps e) j q ps e:=by
 have hA:(XV (2*j) Chunk.gone++[Chunk.gone]).length=2*j+1:=by simp
 have a0:∀c,aG (ij j c ps e) (2*j+1)=c:=fun c=>by rw[ld,←hA];exact OF _ _ _
 have hl:∀c,(ij j c ps e).length=q+1:=fun c=>by unfold ij;simp[nf];omega
 have b0:∀c,aG (ij j c ps e) q=e:=fun c=>by
  have:ij j c ps e=(XV (2*j) Chunk.gone++(.gone::c::rZ ps))++[e]:=by unfold ij;simp
  rw[this,jP,if_pos];simp[nf];omega
 refine⟨fun c x=>?_,a0,fun c x=>?_,b0,fun c d=>?_,hl,fun n c h1 h2=>?_,fun c x i p hp=>?_,fun c g d he=>?_⟩
 ·rw[oW _ _ _ (by rw[hl];omega),a0]
 ·rw[oW _ _ _ (by rw[hl];omega),b0]
 ·show bw (ij j c ps e) (2*j+1) d=ij j d ps e;rw[ld,ld,←hA];exact mi _ _ _ _
 ·have:aH n (XV (2*j) Chunk.gone)=true:=by
   generalize 2*j=m;induction m with
   |zero=>rfl
   |succ m ih=>rw[List.replicate_succ];simp only[aH,aQ,ih,Yp]
  show aH n (ij j c ps e)=true;unfold ij;simp only[nh,aH,this,h1,h2,ng,YA,Yr];rfl
 ·show aG (ij j c ps e++x) _=_;have:ij j c ps e++x=(XV (2*j) Chunk.gone++[.gone,c])++(rZ ps++([e]++x)):=by unfold ij;simp
  rw[this];have bR:(XV (2*j) Chunk.gone++[.gone,c]).length=2*j+2:=by simp
  rw[show 2*j+1+2*(i+1)=(XV (2*j) Chunk.gone++[.gone,c]).length+(2*i+1) by rw[bR];omega,zm];exact Lq ps _ i p hp
 ·show gj (2*j+7) g d 6 (ij j c ps e)=ij j .gone ps e;rw[ld,ld,GF,hA];have h1:gj (2*j+7) g d 6 (XV (2*j) Chunk.gone++[Chunk.gone])=XV (2*j) Chunk.gone++[Chunk.gone]:=by
   refine wb _ _ _ _ _ (fun c hc=>?_) (fun x h1 h2=>by rw[hA]at h2;omega);have:c= .gone:=by simp at hc;rcases hc with h|h<;>first|exact h.2|exact h
   subst this;rfl
  rw[h1,show 6+(2*j+1)=2*j+7 by omega];simp only[gj,if_true];rw[wb _ _ _ _ _ (fun c hc=>?_) (fun x h1 h2=>by omega)];simp only[X3,Yc]at hc;rcases hc with hc|rfl
  ·rcases GG hc with rfl|⟨ls,rfl⟩
   ·rfl
   ·simp only[g8,bS]
  ·exact he
theorem tL {h:Nat→Chunk}{n:Nat}:∀(ps:List Pol) (k:Nat),(∀i p,ps[i]? =some p→∃ls,h (k+2*i)= .row 68 5 1 (ab ls))→∃ds,dh (bq h (n+1)) (fl k ps)=some ds
 |[],_,_=>⟨[],rfl⟩
 |p::ps,k,hk=>by
  obtain⟨ls,h1⟩:=hk 0 p rfl;obtain⟨ds,h2⟩:=tL (n:=n) ps (k+2) (fun i q hq=>by
   obtain⟨ls,h3⟩:=hk (i+1) q (by simpa using hq);exact⟨ls,by rw[←h3];congr 1;omega⟩)
  rw[Nat.mul_zero,XW]at h1;simp only[fl,dh,h2,av,cM,bq,mR,h1,if_true,eJ,Ye];exact⟨_,rfl⟩
def jY (t:Int)(l:Lse):Bool:=(l.kind==3)&&decide (l.till≤t)
theorem GH (l:Lse)(t:Int)(x:D):af prog 129 [.agg (aV l),.ept [.ept [.v (.int .i64 t),x]]] (.v (.bool (jY t l))):=by
 unfold jY;refine pj func129 ntmps129 results129 ?_;exact bc
def eW (t:Int)(p:Pol):Pol:={p with leases:=p.leases.filter fun l=>!jY t l}
def i6 (b:Bok)(n:Int):Bok × Int:=
 if aZ b≠0 then (Bok.zero,aZ b)else
 if n < 1∨n>1073741824 - b.tick then (Bok.zero,3)else (⟨b.tick+n,b.pools.map (eW (b.tick+n))⟩,0)
def eX (b:Bok)(t:Int)(rows:List (List PV))(T:List Chunk):List Chunk:=
 .box 24 [.d (.v (.int .i64 b.tick)),.d (.sl 9 (b.pools.map ah))]:: .box 24 [.d (.v (.int .i64 0)),.d (.v (.slice none 0 0))]:: .gone:: .gone:: .box 24 [.d (.v (.int .i64 t)),.own 5 b.pools.length]:: .row 62 9 b.pools.length rows::T
theorem oC {b:Bok}{t:Int}{rows:List (List PV)}{T:List Chunk}{n:Nat}(h1:cF n rows=true)(h2:aH n T=true)(h3:6≤n):aH n (eX b t rows T)=true:=by
 simp only[eX,aH,aQ,an,aq,h1,h2,YA,Yr,decide_eq_true_eq];omega
theorem Q8 (b:Bok)(n:Int)(hz:∀p∈b.pools,p.leases.length≤3518437208882):af prog 57 [.agg (aS b),.v (.int .i64 n)] (.tup [.agg (aS (i6 b n).1),.v (.int .i64 (i6 b n).2)]):=by
 obtain⟨R,hR⟩:∃R,R=i6 b n:=⟨_,rfl⟩;rw[←hR];replace hR:=Xj hR;by_cases hc:aZ b=0
 ·have co:=dI hc;have cU:=Iw b hz hc;have ht:=co.tick;have hws:IntKind.i64.wrap (1073741824 - b.tick)=1073741824 - b.tick:=by rw[IntKind.wrap_i64];omega
  have aP:R=if n < 1∨n>1073741824 - b.tick then (Bok.zero,3)else (⟨b.tick+n,b.pools.map (eW (b.tick+n))⟩,0):=by rw[hR.out];unfold i6;rw[if_neg (by simpa using hc)]
  replace aP:=Xj aP;clear hR hc;by_cases hn:n < 1∨n>1073741824 - b.tick
  ·clear co;refine pj func57 ntmps57 results57 ?_;have z1z:=Ln.mk (ls:=[]) (cU);refine Aq ?_ ?_ ?_<;>intros;all_goals first
    |(exfalso;rename_i q1 q2;simp only[decide_eq_false_iff_not]at q1 q2;omega)
    |(clear hz cU;(rw[show R=(Bok.zero,3) from (by rw[aP.out];grind)];(try simp only[Xo,Xm]);exact dg))
  ·have h1:decide (n < 1)=false:=by simp;omega
   have h2:decide (n>1073741824 - b.tick)=false:=by simp;omega
   have PK:IntKind.i64.wrap (b.tick+n)=b.tick+n:=by rw[IntKind.wrap_i64];omega
   replace hn:=Xj hn;refine pj func57 ntmps57 results57 ?_;have z1z:=Ln.mk (ls:=[]) (cU);refine am ?_<;>intros;have hqn:=nf b.pools;rw[hqn];refine bL ae ak (fun m e h=>∃(pre rest:List Pol),b.pools=pre++rest∧m=rest.length∧e=[(44,.d (.v (.int .i64 pre.length))),(43,.d (.v (.int .i64 b.pools.length))),(6,.ptr (2*b.pools.length+6) 0),(5,.d (.v (.int .i64 0))),(4,.ptr 1 0)]∧
    h=eX b (b.tick+n) (ab ((pre.map (eW (b.tick+n))).map ah)++fl (2*pre.length+7) rest) (XV (2*pre.length) .gone++(rZ rest++[.box 117 [.ptr 4 0]]))) _ _ _ ⟨[],b.pools,rfl,rfl,rfl,rfl⟩ ?_ ?_
   ·refine ee [] (by simp) (by simp only[eX,Xv,Yw,XZ,Nat.mul_zero,List.replicate_zero,Ya];rfl) se (by simp[eX,ek,aq,nf]) ?_;refine oC (by simp only[Xv,XZ];exact i5 _ b.pools 7 (by simp[eX,nf];omega)) ?_ (by simp[eX]);simp[nh,ng,aH,aQ,an,aq,eX]
   ·rintro m e h ⟨pre,rest,Hf,hm,rfl,rfl⟩ C hC;cases rest with
    |nil=>
     have hN:b.pools.length=pre.length:=by rw[Hf];simp
     have hq:aG (XV (2*pre.length) Chunk.gone++[.box 117 [.ptr 4 0]]) (2*b.pools.length)= .box 117 [.ptr 4 0]:=by rw[jP,if_pos (by simp;omega)]
     have ip:¬(pre.length:Int) < (b.pools.length:Int):=by omega
     have T6:b.pools=pre:=by rw[Hf];simp
     have fM:=aP.out;rw[if_neg hn.out,T6]at fM;clear hC hm Hf T6 hN;replace ip:decide ((pre.length:Int) < (b.pools.length:Int))=false:=by simpa using ip
     simp only[eX,fl,rZ,Yw,Ya];generalize XV (2*pre.length) Chunk.gone++[Chunk.box 117 [.ptr 4 0]]=T at*;replace fM:=Xj fM;refine am ?_<;>intros;rw[fM.out];exact dg
    |cons p rest=>
     have hN:b.pools.length=pre.length+1+rest.length:=by rw[Hf];simp;omega
     have ip:(pre.length:Int) < (b.pools.length:Int):=by omega
     have cR:IntKind.i64.wrap ((pre.length:Int)+1)=((pre.length+1:Nat):Int):=by rw[IntKind.wrap_i64];have:=co.n8;omega
     have iP:=co.l32 p (by rw[Hf];simp);have Qb:=fun r=>Lm (pre.map (eW (b.tick+n))) r (2*pre.length+7+2) rest;have VJ:=fun r=>Lo (pre.map (eW (b.tick+n))) r (2*pre.length+7+2) rest;have MC:=fun r r'=>Lp (pre.map (eW (b.tick+n))) r r' (2*pre.length+7+2) rest;rw[XD]at Qb;simp only[XD]at VJ MC;obtain⟨T,hT,VK⟩:∃T:Chunk→List Chunk,TailOK T pre.length (2*b.pools.length) rest (.box 117 [.ptr 4 0])∧T=fun c=>ij pre.length c rest (.box 117 [.ptr 4 0]):=⟨_,Q7 pre.length (2*b.pools.length) rest (.box 117 [.ptr 4 0]) (by omega),rfl⟩;have VL:T .gone=XV (2*(pre++[p]).length) .gone++(rZ rest++[.box 117 [.ptr 4 0]]):=by
      rw[VK];show ij _ _ _ _=_;unfold ij;rw[XY,XA,XZ,show 2*(pre.length+(0+1))=2*pre.length+1+1 by omega,List.replicate_succ',List.replicate_succ'];simp
     have W6:T (.row 68 5 1 (ab (p.leases.map aV)))=XV (2*pre.length) .gone++(rZ (p::rest)++[.box 117 [.ptr 4 0]]):=by rw[VK];rfl
     rw[←W6];clear VK W6;have Qc:ab ((pre.map (eW (b.tick+n))).map ah)++fl (2*pre.length+7) (p::rest)=lx (pre.map (eW (b.tick+n))) (av p (.own (2*pre.length+7) 1)) (2*pre.length+7+2) rest:=rfl;rw[Qc];clear Qc;have M8:∀(m:List Lse) (x:List Chunk) (v:Nat),∃d,cM (bq (aG (eX b (b.tick+n) (lx (pre.map (eW (b.tick+n))) (av p (.own (2*pre.length+7) 1)) (2*pre.length+7+2) rest) (T (.row 68 5 1 (ab (m.map aV)))++x))) (v+5)) [.ptr (2*b.pools.length+6) 0]=some [.ept [.ept [.v (.int .i64 (b.tick+n)),d]]]:=by
      intro m x v;obtain⟨ds,fA⟩:=tL (h:=aG (eX b (b.tick+n) (lx (pre.map (eW (b.tick+n))) (av p (.own (2*pre.length+7) 1)) (2*pre.length+7+2) rest) (T (.row 68 5 1 (ab (m.map aV)))++x))) (n:=v+1) rest (2*pre.length+7+2) (fun i q hq=>⟨q.leases.map aV,by
       rw[show 2*pre.length+7+2+2*i=2*pre.length+1+2*(i+1)+6 by omega];exact hT.r _ x i q hq⟩)
      have h1:aG (eX b (b.tick+n) (lx (pre.map (eW (b.tick+n))) (av p (.own (2*pre.length+7) 1)) (2*pre.length+7+2) rest) (T (.row 68 5 1 (ab (m.map aV)))++x)) (2*b.pools.length+6)= .box 117 [.ptr 4 0]:=hT.b _ x;have h2:aG (eX b (b.tick+n) (lx (pre.map (eW (b.tick+n))) (av p (.own (2*pre.length+7) 1)) (2*pre.length+7+2) rest) (T (.row 68 5 1 (ab (m.map aV)))++x)) (2*pre.length+7)= .row 68 5 1 (ab (m.map aV)):=hT.a _ x;have h3:∀r T',aG (eX b (b.tick+n) r T') 4= .box 24 [.d (.v (.int .i64 (b.tick+n))),.own 5 b.pools.length]:=fun _ _=>rfl;have h4:∀r T',aG (eX b (b.tick+n) r T') 5= .row 62 9 b.pools.length r:=fun _ _=>rfl;have h5:∃e,dh (bq (aG (eX b (b.tick+n) (lx (pre.map (eW (b.tick+n))) (av p (.own (2*pre.length+7) 1)) (2*pre.length+7+2) rest) (T (.row 68 5 1 (ab (m.map aV)))++x))) (v+2)) (lx (pre.map (eW (b.tick+n))) (av p (.own (2*pre.length+7) 1)) (2*pre.length+7+2) rest)=some e:=by
       generalize hH:aG (eX b (b.tick+n) (lx (pre.map (eW (b.tick+n))) (av p (.own (2*pre.length+7) 1)) (2*pre.length+7+2) rest) (T (.row 68 5 1 (ab (m.map aV)))++x))=H at*;simp only[lx,qf,eJ,dh,fA,av,cM,bq,mR,h2,if_true,Ye];exact⟨_,rfl⟩
      obtain⟨e,he⟩:=h5;refine⟨.sl 9 e,?_⟩;simp only[cM,bq,h1,h3,h4,List.drop_zero,if_true,he,mR,Ye]
     have gS:∀r c c',bw (eX b (b.tick+n) r (T c)) (2*pre.length+7) c'=eX b (b.tick+n) r (T c'):=by
      intro r c c';show _::_::_::_::_::_::bw (T c) (2*pre.length+1) c'=_;rw[hT.c];rfl
     have A4:∀m:List Lse,aH (eX b (b.tick+n) (lx (pre.map (eW (b.tick+n))) (av p (.own (2*pre.length+7) 1)) (2*pre.length+7+2) rest) (T (.row 68 5 1 (ab (m.map aV))))).length (eX b (b.tick+n) (lx (pre.map (eW (b.tick+n))) (av p (.own (2*pre.length+7) 1)) (2*pre.length+7+2) rest) (T (.row 68 5 1 (ab (m.map aV)))))=true:=by
      intro m;have hl:(eX b (b.tick+n) (lx (pre.map (eW (b.tick+n))) (av p (.own (2*pre.length+7) 1)) (2*pre.length+7+2) rest) (T (.row 68 5 1 (ab (m.map aV))))).length=2*b.pools.length+7:=by simp[eX,hT.len]
      rw[hl];refine oC ?_ (hT.h _ _ (az _ _) (by simp[aQ,an,aq])) (by omega);unfold lx;rw[jW,az];simp only[cF,av,an,aq,i5 (2*b.pools.length+7) rest (2*pre.length+7+2) (by omega),YA,Yr,decide_eq_true_eq];first|done|omega
     have qt:=E6 (jY (b.tick+n)) p.leases (2*pre.length+7) 1 129 [.ptr (2*b.pools.length+6) 0] (eX b (b.tick+n) (lx (pre.map (eW (b.tick+n))) (av p (.own (2*pre.length+7) 1)) (2*pre.length+7+2) rest) (T (.row 68 5 1 (ab (p.leases.map aV))))) (hT.a0 _)
      (by simp[eX,hT.len,an,aq]) (A4 p.leases) (by omega)
      (by
       obtain⟨d,hd⟩:=M8 p.leases [] 0;rw[Yw]at hd;exact⟨_,hd,fun x _=>GH x (b.tick+n) d⟩)
      (fun m c=>by
       obtain⟨d,hd⟩:=M8 m [c] 1;rw[gS];exact⟨_,hd,fun x _=>GH x (b.tick+n) d⟩)
     rw[gS]at qt;have VM:=hT.a0;have W7:=hT.b0;have T7:=hT.c;have VN:=hT.len;have VO:=hT.f;have VP:=hT.h;clear M8 gS A4 hT cU aP;simp only[eX,av]at qt ⊢;replace hN:=Xj hN;replace hm:=Xj hm;replace Hf:=Xj Hf;replace VL:=Xj VL;replace VO:=Xj VO;replace VP:=Xj VP;replace hn:=Xj hn;clear co iP ht;repeat' (first|(with_reducible refine And.intro ?_ ?_)|(with_reducible refine cn (fun _=>?_) (fun _=>?_))|(with_reducible refine aA (fun _=>?_) (fun _=>?_))|(with_reducible refine be (by kernel_rfl))|simp -dsimp only[go_sem,seval, *,aS,ah,ip,cR,VM,W7,T7,VN,VJ,Qb,MC]|((with_reducible refine bf ?_);simp -dsimp only[go_sem,seval,aS,ah,ip,cR,VM,W7,T7,VN,VJ,Qb,MC];first|refine aC (by first|assumption|fail) (by first|exact .inl rfl|exact .inr rfl) ?_|(refine aB (by assumption) ?_ ?_ ?_;(solve|(repeat(first|exact ai.refl _|exact ai.nil _|(refine ai.tup ?_)|(refine ai.agg ?_ rfl)|exact trivial|(refine And.intro ?_ ?_))));(solve|exact .inl rfl|exact .inr rfl)))|(refine Kw qt ?_)|omega|exact decide_eq_true (by omega)|exact ai.refl _)
     refine hC _ _ _ _ _ (by have:=hm.out;simp at this;omega) ⟨pre++[p],rest,by rw[Hf.out];simp,rfl,rfl,rfl⟩ ?_;refine(ap (2*pre.length+7) 2 68 5 ((p.leases.filter fun x=>!jY (b.tick+n) x).map aV) (VM _)).trans ?_;have n0:=eq_false (show ¬(0=2*pre.length+7) by omega);have n1:=eq_false (show ¬(1=2*pre.length+7) by omega);have n2:=eq_false (show ¬(2=2*pre.length+7) by omega);have n3:=eq_false (show ¬(3=2*pre.length+7) by omega);have n4:=eq_false (show ¬(4=2*pre.length+7) by omega);have n5:=eq_false (show ¬(5=2*pre.length+7) by omega);have FH:=fun d=>zl (2*pre.length+7) 2 d rest (2*pre.length+7+2) (by omega);have PI:=fun d=>VO.out (.row 68 5 2 (ab ((p.leases.filter fun x=>!jY (b.tick+n) x).map aV))) 2 d rfl;simp only[iD,fz,gy,gj,g8,f9,aR,bS,bW,Xm,Xv,XM,XL,reduceIte,and_true,true_and,and_self,and_false,false_and,XG,XW,reduceCtorEq,lx,FH,PI,n0,n1,n2,n3,n4,n5,if_false];have W8:(pre++[p]).length=pre.length+1:=by simp
     have e1:ab (((pre++[p]).map (eW (b.tick+n))).map ah)++fl (2*(pre++[p]).length+7) rest=ab ((pre.map (eW (b.tick+n))).map ah)++av p (.d (.sl 5 ((p.leases.filter fun x=>!jY (b.tick+n) x).map aV)))::fl (2*pre.length+7+2) rest:=by
      rw[W8,show 2*(pre.length+1)+7=2*pre.length+7+2 by omega];simp[ab,eW,ah,av]
     rw[e1,←VL.out,W8];have hle:(eX b (b.tick+n) (ab ((pre.map (eW (b.tick+n))).map ah)++av p (.d (.sl 5 ((p.leases.filter fun x=>!jY (b.tick+n) x).map aV)))::fl (2*pre.length+7+2) rest) (T .gone)).length=2*b.pools.length+7:=by simp[eX,VN]
     refine ee [] (by simp) (by rw[Yw];rfl) se (by rw[hle];simp[ek,aq]) ?_;rw[hle];refine oC ?_ (VP.out _ _ rfl (by simp[aQ,an,aq])) (by omega);have:=hN.out;rw[jW,az];simp only[cF,av,an,aq,i5 (2*b.pools.length+7) rest (2*pre.length+7+2) (by omega),YA]
 ·have cU:=mE b hz hc;have h1:(aZ b !=0)=true:=by simpa using hc
  have hr:R=(Bok.zero,aZ b):=by rw[hR.out];unfold i6;rw[if_pos hc]
  rw[hr];replace hr:=Xj hr;refine pj func57 ntmps57 results57 ?_;refine am ?_<;>intros;exact dg
theorem Fa (l m:List Int)(hl:l.length≤1000000000)(hm:m.length≤1000000000):af prog 194 [.sl 1 (l.map cy),.sl 1 (m.map cy)] (.v (.bool (decide (l=m)))):=by
 obtain⟨R,hR⟩:∃R,R=decide (l=m):=⟨_,rfl⟩;rw[←hR];replace hR:=Xj hR;refine pj func194 ntmps194 results194 ?_;refine xo ?_ ?_<;>intros
 ·rename_i h1;exact Gm (by rw[hR.out,decide_eq_false];rintro rfl;simp at h1)
 ·rename_i h1;have lS:l.length=m.length:=by simp at h1;omega
  clear h1;replace lS:=Xj lS;refine bo ae ak l (fun k=>l.take k=m.take k) (fun k=>[(5,.d (.v (.int .i64 k))),(4,.d (.v (.bool false))),(1,.d (.sl 1 (m.map cy))),(0,.d (.sl 1 (l.map cy)))]) (fun _=>[]) rfl (wf) ?_ ?_
  ·intro k x hx hk hI C hC;have dM:(k:Int) < (l.length:Int):=by omega
   have cR:=wi k (by omega);obtain⟨y,hy⟩:∃y,m[k]? =some y:=⟨_,Xk (by have:=lS.out;omega)⟩;replace hI:=Xj hI;cases h1:(x !=y)with
   |true=>
    have hb:R=false:=by
     rw[hR.out,decide_eq_false];rintro rfl;rw[hx]at hy;rw[XX.inj hy]at h1;simp at h1
    rw[hb];replace hb:=Xj hb;exact bc;all_goals exact ai.refl _
   |false=>
    have lU:l.take (k+1)=m.take (k+1):=by rw[ag hx,ag hy,hI.out];simp at h1;rw[h1]
    replace lU:=Xj lU;refine am ?_<;>intros;exact hC _ _ lU.out (wf)
  ·intro hI C;have hb:R=true:=by
    rw[hR.out,decide_eq_true_eq];rw[Xt,lS.out,Xt]at hI;exact hI
   rw[hb];replace hb:=Xj hb;replace hI:=Xj hI;exact bc;all_goals exact ai.refl _
theorem wc (p q:Rng):([p.at_.at_,p.at_.len,p.pool]==[q.at_.at_,q.at_.len,q.pool])=decide (p=q):=by
 rw[Yi];cases p;cases q;rename_i a b c d;cases a;cases c;simp[and_assoc]
theorem jZ {α:Type}(enc:α→List D)(l:List α)(hl:l.length≤1000000000):
 MSpec prog 52 [.d (.sl 3 (l.map enc))] [] (.own 0 1) [.row 58 3 1 (ab (l.map enc))]:=by
 cases l with
 |nil=>
  refine qP (pl:=[]) (ql:=[]) fun ao cap=>?_;cases ao with
  |none=>
   simp only[Ya];refine mj func52 ntmps52 results52 ?_;repeat' (first|(with_reducible refine And.intro ?_ ?_)|(with_reducible refine cn (fun _=>?_) (fun _=>?_))|(with_reducible refine aA (fun _=>?_) (fun _=>?_))|(with_reducible refine be (by kernel_rfl))|simp -dsimp only[go_sem,seval, *,Zk,XR]|((with_reducible refine bf ?_);simp -dsimp only[go_sem,seval,Zk,XR];first|refine aC (by first|assumption|fail) (by first|exact .inl rfl|exact .inr rfl) ?_|refine aB (by assumption) (by repeat(first|exact ai.refl _|exact ai.nil _|(refine ai.tup ?_)|(refine ai.agg ?_ rfl)|exact trivial|(refine And.intro ?_ ?_))) (by first|exact .inl rfl|exact .inr rfl) ?_)|omega|exact decide_eq_true (by omega)|exact ai.refl _)
   refine iT (h:=[]) (XB _) 58 3 ?_;exact(fW 0 0 58 3 [] rfl (bn rfl rfl))
  |some a=>
   simp only[Ya];refine mj func52 ntmps52 results52 ?_;repeat' (first|(with_reducible refine And.intro ?_ ?_)|(with_reducible refine cn (fun _=>?_) (fun _=>?_))|(with_reducible refine aA (fun _=>?_) (fun _=>?_))|(with_reducible refine be (by kernel_rfl))|simp -dsimp only[go_sem,seval, *,YD,XR]|((with_reducible refine bf ?_);simp -dsimp only[go_sem,seval,YD,XR];first|refine aC (by first|assumption|fail) (by first|exact .inl rfl|exact .inr rfl) ?_|refine aB (by assumption) (by repeat(first|exact ai.refl _|exact ai.nil _|(refine ai.tup ?_)|(refine ai.agg ?_ rfl)|exact trivial|(refine And.intro ?_ ?_))) (by first|exact .inl rfl|exact .inr rfl) ?_)|omega|exact decide_eq_true (by omega)|exact ai.refl _)
   exact bn rfl rfl
 |cons x l=>
  simp only[XA]at hl;refine mj func52 ntmps52 results52 ?_;repeat' (first|(with_reducible refine And.intro ?_ ?_)|(with_reducible refine cn (fun _=>?_) (fun _=>?_))|(with_reducible refine aA (fun _=>?_) (fun _=>?_))|(with_reducible refine be (by kernel_rfl))|simp -dsimp only[go_sem,seval, *,YD,XR]|((with_reducible refine bf ?_);simp -dsimp only[go_sem,seval,YD,XR];first|refine aC (by first|assumption|fail) (by first|exact .inl rfl|exact .inr rfl) ?_|refine aB (by assumption) (by repeat(first|exact ai.refl _|exact ai.nil _|(refine ai.tup ?_)|(refine ai.agg ?_ rfl)|exact trivial|(refine And.intro ?_ ?_))) (by first|exact .inl rfl|exact .inr rfl) ?_)|omega|exact decide_eq_true (by omega)|exact ai.refl _)
  all_goals first|omega|exact bn rfl rfl
theorem fm (l:List Int)(hl:l.length≤1000000000):
 MSpec prog 53 [.d (.sl 1 (l.map cy))] [] (.own 0 1) [.row 3 1 1 (ab (l.map cy))]:=by
 cases l with
 |nil=>
  refine qP (pl:=[]) (ql:=[]) fun ao cap=>?_;cases ao with
  |none=>
   simp only[Ya];refine mj func53 ntmps53 results53 ?_;repeat' (first|(with_reducible refine And.intro ?_ ?_)|(with_reducible refine cn (fun _=>?_) (fun _=>?_))|(with_reducible refine aA (fun _=>?_) (fun _=>?_))|(with_reducible refine be (by kernel_rfl))|simp -dsimp only[go_sem,seval, *,Zk,XR]|((with_reducible refine bf ?_);simp -dsimp only[go_sem,seval,Zk,XR];first|refine aC (by first|assumption|fail) (by first|exact .inl rfl|exact .inr rfl) ?_|(refine aB (by assumption) ?_ ?_ ?_;(solve|(repeat(first|exact ai.refl _|exact ai.nil _|(refine ai.tup ?_)|(refine ai.agg ?_ rfl)|exact trivial|(refine And.intro ?_ ?_))));(solve|exact .inl rfl|exact .inr rfl)))|fail|omega|exact decide_eq_true (by omega)|exact ai.refl _)
   refine iT (h:=[]) (XB _) 3 1 ?_;exact(fW 0 0 3 1 [] rfl (bn rfl rfl))
  |some a=>
   simp only[Ya];refine mj func53 ntmps53 results53 ?_;repeat' (first|(with_reducible refine And.intro ?_ ?_)|(with_reducible refine cn (fun _=>?_) (fun _=>?_))|(with_reducible refine aA (fun _=>?_) (fun _=>?_))|(with_reducible refine be (by kernel_rfl))|simp -dsimp only[go_sem,seval, *,YD,XR]|((with_reducible refine bf ?_);simp -dsimp only[go_sem,seval,YD,XR];first|refine aC (by first|assumption|fail) (by first|exact .inl rfl|exact .inr rfl) ?_|(refine aB (by assumption) ?_ ?_ ?_;(solve|(repeat(first|exact ai.refl _|exact ai.nil _|(refine ai.tup ?_)|(refine ai.agg ?_ rfl)|exact trivial|(refine And.intro ?_ ?_))));(solve|exact .inl rfl|exact .inr rfl)))|fail|omega|exact decide_eq_true (by omega)|exact ai.refl _)
   exact bn rfl rfl
 |cons x l=>
  simp only[XA]at hl;refine mj func53 ntmps53 results53 ?_;repeat' (first|(with_reducible refine And.intro ?_ ?_)|(with_reducible refine cn (fun _=>?_) (fun _=>?_))|(with_reducible refine aA (fun _=>?_) (fun _=>?_))|(with_reducible refine be (by kernel_rfl))|simp -dsimp only[go_sem,seval, *,YD,XR]|((with_reducible refine bf ?_);simp -dsimp only[go_sem,seval,YD,XR];first|refine aC (by first|assumption|fail) (by first|exact .inl rfl|exact .inr rfl) ?_|(refine aB (by assumption) ?_ ?_ ?_;(solve|(repeat(first|exact ai.refl _|exact ai.nil _|(refine ai.tup ?_)|(refine ai.agg ?_ rfl)|exact trivial|(refine And.intro ?_ ?_))));(solve|exact .inl rfl|exact .inr rfl)))|fail|omega|exact decide_eq_true (by omega)|exact ai.refl _)
  all_goals first|omega|exact bn rfl rfl
theorem lf (v:Vpc)(h:bN v≠0):
 MSpec prog 142 [.d (.agg (al v))] [] (.tup [.ptr 1 0,.d (.v (.int .i64 (bN v)))]) [.gone,.box 55 [.d (.v (.int .i64 0)),.d (.v (.slice none 0 0)),.d (.v (.slice none 0 0))]]:=by
 have hc:=ot v;have h1:(bN v !=0)=true:=by simpa using h
 refine mj func142 ntmps142 results142 ?_;refine am ?_<;>intros;exact(aL 0 (by simp)).trans (bn rfl rfl)
theorem lg (v:Vpc)(h:bN v=0)(h4:v.ranges.length≤4)(h6:v.subs.length≤6)(h8:∀s∈v.subs,s.faces.length≤8∧∀f∈s.faces,f.addrs.length≤4):
 MSpec prog 142 [.d (.agg (al v))] [] (.tup [.ptr 2 0,.d (.v (.int .i64 0))]) [.gone,.row 58 3 1 (ab (v.ranges.map bp)),.box 55 [.d (.v (.int .i64 v.id)),.own 1 1,.own 3 v.subs.length],.row 71 4 v.subs.length (ab (v.subs.map aT))]:=by
 have hc:=ot v;rw[h]at hc;replace h:=Xj h;replace h8:=Xj h8;have fV:=jZ bp v.ranges (by omega);refine mj func142 ntmps142 results142 ?_;have z1z:=Ln.mk (ls:=[]) (fV);refine am ?_<;>intros;refine bo ae ak v.subs (fun _=>True) (fun k=>[(28,.d (.v (.int .i64 k))),(27,.d (.v (.int .i64 v.subs.length))),(26,.d (.sl 4 (v.subs.map aT))),(5,.ptr 2 0)])
  (fun k=>[.gone,.row 58 3 1 (ab (v.ranges.map bp)),.box 55 [.d (.v (.int .i64 v.id)),.own 1 1,.own 3 k],.row 71 4 k (ab ((v.subs.take k).map aT))]) trivial ?_ ?_ ?_
 ·refine(aL 0 (by simp)).trans ((au (by simp) 2 55 [.d (.v (.int .i64 v.id)),.own 1 1,.d (.v (.slice none 0 0))] 2 71 4 rfl rfl rfl).trans ?_);exact wf (hb:=cL) (hbh:=cL)
 ·intro k s hs hk _ CO th;have dM:(k:Int) < (v.subs.length:Int):=by omega
  have cR:=wi k (by omega);have iO:=h8.out s (Xl hs);have jf:k+1≤100:=by omega
  have jc:(Yg k v.subs).length=k:=by rw[Xq];omega
  replace hs:=Xj hs;have lT:=hs.out;refine am ?_<;>intros;refine bo ae ak s.faces (fun _=>True) (fun j=>[(40,.d (.v (.int .i64 j))),(39,.d (.v (.int .i64 s.faces.length))),(38,.d (.sl 2 (s.faces.map cj))),(28,.d (.v (.int .i64 k))),(27,.d (.v (.int .i64 v.subs.length))),(26,.d (.sl 4 (v.subs.map aT))),(8,.ptr 5 0),(5,.ptr 2 0)])
   (fun j=>[.gone,.row 58 3 1 (ab (v.ranges.map bp)),.box 55 [.d (.v (.int .i64 v.id)),.own 1 1,.own 3 k],.row 71 4 k (ab ((v.subs.take k).map aT)),.gone,.box 71 [.d (.v (.int .i64 s.id)),.d (.v (.int .i64 s.at_.at_)),.d (.v (.int .i64 s.at_.len)),.own 6 j],.row 74 2 j (ab ((s.faces.take j).map cj))]) trivial ?_ ?_ ?_
  ·refine(aL 4 (by simp)).trans ((au (by simp) 5 71 [.d (.v (.int .i64 s.id)),.d (.v (.int .i64 s.at_.at_)),.d (.v (.int .i64 s.at_.len)),.d (.v (.slice none 0 0))] 3 74 2 rfl rfl rfl).trans ?_);exact wf (hb:=cL) (hbh:=cL)
  ·intro j f hf hj _ C hC;have ip:(j:Int) < (s.faces.length:Int):=by omega
   have kj:=wi j (by omega);have gY:=iO.2 f (Xl hf);have jm:j+1≤100:=by omega
   have pm:(Yg j s.faces).length=j:=by rw[Xq];omega
   replace hf:=Xj hf;have zQ:=hf.out;have z1z:=Ln.mk (ls:=[]) (fm f.addrs (by omega));refine am ?_<;>intros;refine hC _ _ trivial ((ap 8 1 3 1 (f.addrs.map cy) rfl).trans ?_);simp only[iD,fz,gy,gj,g8,f9,aR,bS,bW,Xm,Xv,XM,XL,reduceIte,and_true,true_and,and_self,and_false,false_and,XG,XW,reduceCtorEq,cY];exact wf (hh:=(by rw[ag hf.out,Xo,Xm,Xv,←aI];rfl)) (hb:=cL) (hbh:=cL)
  ·intro _ C;refine am ?_<;>intros;refine th _ _ trivial ((ap 6 s.faces.length 74 2 (s.faces.map cj) rfl).trans ?_);simp only[iD,fz,gy,gj,g8,f9,aR,bS,bW,Xm,Xv,XM,XL,reduceIte,and_true,true_and,and_self,and_false,false_and,XG,XW,reduceCtorEq];exact wf (hh:=(by rw[ag hs.out,Xo,Xm,Xv,←aI];rfl)) (hb:=cL) (hbh:=cL)
 ·intro _ C;refine am ?_<;>intros;(try rw[Xt])
  exact bn rfl rfl
section
open Go.Proofs Go.ChangeShapes Go.WideShapes Go.Deep
section
variable {H:Type}{enc:TypeId × Value→H}{P:Program}{w:World}{base:Nat}{spare:Nat→Bool}{held:Bool}
def Rd {α:Type}(enc:TypeId × Value→H)(P:Program)(w:World)(base:Nat)(spare:Nat→Bool)(held:Bool)(t:TypeId)(R:List Value→α→Prop):Prop:=
 ∀fuel cs x,DataW.trod enc P w base spare held fuel t cs=some x→∃a,R cs a
theorem Rd.map {α β:Type}{t:TypeId}{R:List Value→α→Prop}{R':List Value→β→Prop}(h:Rd enc P w base spare held t R)(f:α→β)(hf:∀cs a,R cs a→R' cs (f a)):Rd enc P w base spare held t R':=by
 intro fuel cs x hx;obtain⟨a,ha⟩:=h fuel cs x hx;exact⟨f a,hf _ _ ha⟩
def S3 (n:Int):Prop:= -9223372036854775808≤n∧n≤9223372036854775807
def ui (cs:List Value)(n:Int):Prop:=cs=[.int .i64 n]∧S3 n
theorem OH {n:Int}(h:(Lit.int .i64 n).wf=true):S3 n:=by
 simp only[Lit.wf,Xy,decide_eq_true_eq]at h;have h1:IntKind.i64.min= -9223372036854775808:=rfl;have h2:IntKind.i64.max=9223372036854775807:=rfl;rw[h1,h2]at h;exact h
theorem en {t:TypeId}(ht:P.underlying t=some (.int .i64)):Rd enc P w base spare held t ui:=by
 intro fuel cs x hx;obtain⟨n,h,_,hw⟩:=DataW.trod_int ht hx;exact⟨n,h,OH hw⟩
theorem bY {α:Type}{t:TypeId}{fs:Array Field}{fuel:Nat}{cs:List Value}{x:DataW H × List MemPlace}(ht:P.underlying t=some (.struct fs))(h:DataW.trod enc P w base spare held fuel t cs=some x)
 (j:Nat) {f:Field} (hf:fs[j]? =some f) {R:List Value→α→Prop} (hr:Rd enc P w base spare held f.type R):∃a,R ((cs.drop f.offset).take (P.cellsOf f.type)) a:=by
 obtain⟨xs,n,_,_,_,bR,hg⟩:=DataW.trod_struct ht h;have h1:=hg j f hf;have hj:j < xs.length:=by rw[bR];exact(Ys.1 hf).1
 rw[Xk hj]at h1;exact hr _ _ _ h1
theorem jA {t:TypeId}{fs:Array Field}{fuel:Nat}{cs:List Value}{x:DataW H × List MemPlace}(ht:P.underlying t=some (.struct fs))(h:DataW.trod enc P w base spare held fuel t cs=some x):cs.length=P.cellsOf t:=by
 obtain⟨_,_,_,_,h,_⟩:=DataW.trod_struct ht h;exact h
theorem sO {α:Type}{Q:Nat→α→Prop}:∀(n:Nat),(∀i,i < n→∃a,Q i a)→∃l:List α,l.length=n∧∀i (h:i < l.length),Q i l[i]
 |0,_=>⟨[],rfl,fun i h=>by simp at h⟩
 |n+1,h=>by
  obtain⟨l,hl,hq⟩:=sO n fun i hi=>h i (by omega);obtain⟨a,ha⟩:=h n (by omega);refine⟨l++[a],by simp[hl],fun i hi=>?_⟩;rcases XP i l.length with h1|h1
  ·rw[List.getElem_append_left h1];exact hq i h1
  ·have:i=n:=by simp at hi;omega
   subst this;rw[List.getElem_append_right h1];simpa using ha
def inW (w:World):lW:=fun b=>b < w.heap.size
theorem CV {t:TypeId}{v:Value}{d:DataW H}{p:List MemPlace}(h:DataW.Trod enc P w base spare held t v d p):∀x∈p,x.block < w.heap.size:=by
 obtain⟨m,hm⟩:=h;exact DataW.trod_lt m _ _ _ hm
end
end
section
open Go.Proofs Go.Shelf
structure SRow (HP:List Value→Int→Prop)(sz:Nat) where
 xs:List Value
 len:xs.length=sz
 one:∀v∈xs,v.oneCell'=true
 key:Int
 head:HP xs key
@[reducible] def Ls (xs:List Value)(k:Int):Prop:=xs[0]? =some (.int .i64 k)
def Ed {HP:List Value→Int→Prop}{sz:Nat}(x y:SRow HP sz):Int:=ez x.key y.key
theorem Um {HP:List Value→Int→Prop}{sz:Nat}(x y:SRow HP sz):ltOf Ed x y=decide (x.key < y.key):=qT _ _
theorem US {HP:List Value→Int→Prop}{sz:Nat}:Sort.SWO (ltOf (Ed (HP:=HP) (sz:=sz))) where
 irrefl x:=by rw[Um];simp
 trans x y z h1 h2:=by rw[Um]at*;simp at*;omega
 ntrans x y z h1 h2:=by rw[Um]at*;simp at*;omega
@[reducible] def Lt (n:Nat):Inhabited (SRow Ls (n+1)):=⟨⟨XV (n+1) (.int .i64 0),by simp,fun v hv=>by rw[Zv hv];rfl,0,by unfold Ls;simp⟩⟩
theorem xQ (F cur:Array Value)(h:F.size≤cur.size):(Sort.putCells id 0 F cur).toList.take F.size=F.toList∧(Sort.putCells id 0 F cur).size=cur.size:=by
 refine⟨?_,by simp[Sort.putCells]⟩;apply Yj;intro i;by_cases hi:i < F.size
 ·rw[XS hi];have hc:i < cur.size:=by omega
  simp[Sort.putCells,hi,hc]
 ·rw[XT (by rw[Xq];omega),XT (by simp;omega)]
theorem wd {HP:List Value→Int→Prop}{sz:Nat}(n:Nat)(hs:sz=n+1)[Inhabited (SRow HP sz)](d:Array (SRow HP sz)):(Sort.flatK (fun r:SRow HP sz=>r.xs) sz d).toList=(d.toList.map (·.xs)).flatten:=by
 have bZ:∀r∈d.toList.map (·.xs),r.length=sz:=fun r hr=>by
  obtain⟨x,-,rfl⟩:=XQ.1 hr;exact x.len
 have bR:(d.toList.map (·.xs)).flatten.length=d.size*sz:=by rw[cP bZ];simp
 apply Yj;intro t;by_cases ht:t < d.size*sz
 ·have h1:t / sz < d.size:=Zw (by rw[Zp];exact ht);have h2:t % sz < sz:=Y' _ (by omega);have h3:t / sz*sz+t % sz=t:=by rw[Zp];exact ZN t sz
  have h4:=cE bZ (t / sz) (t % sz) h2;rw[h3]at h4;rw[h4];have h5:=Sort.get_flatK (fun r:SRow HP sz=>r.xs) sz d t ht;have h6:t < (Sort.flatK (fun r:SRow HP sz=>r.xs) sz d).size:=by rw[Sort.size_flatK];exact ht
  rw[getElem!_pos (Sort.flatK (fun r:SRow HP sz=>r.xs) sz d) t h6]at h5;rw[X6,YP h6,h5];have hl:(d[t / sz]).xs.length=sz:=(d[t / sz]).len;have e7:(d[t / sz]).xs[t % sz]? =some ((d[t / sz]).xs[t % sz]!):=by
   rw[getElem!_pos (d[t / sz]).xs (t % sz) (by rw[hl];exact h2)];exact Xk _
  rw[getElem!_pos d (t / sz) h1];rw[Xz,X6,YP h1];simp only[Ye,Y6];exact e7.symm
 ·rw[XT (by simp;omega),XT (by omega)]
theorem Lu {HP:List Value→Int→Prop}{n:Nat}(inh:Inhabited (SRow HP (n+1))){P:Program}{ρ:Ren}(L:SlLaysF0.n6 P ρ){f fc E:Nat}(hf:ρ.f 6=f)(aE:∀w,(isAgg (ρ.t 24)).run P w= .ok true w)(zE:∀w,(Go.sizeOf (ρ.t 24)).run P w= .ok (n+1) w)(eg:∀args w,(callFunc fc args).run P w= .ok (.enter fc args) w)
 (M9:∀(x y:SRow HP (n+1)) (W:World),Calls P fc #[.agg x.xs.toArray,.agg y.xs.toArray] W fun e w'=>e= .returned (.int .i64 (Ed x y))∧∃q os',w'=Sort.grow (W.drewN q) os')
 (ds:List (SRow HP (n+1))) (w:World) (gb cap:Nat) (cur:Array Value) (hh:w.heap[gb]? =some (.cells cur E (0,0))) (hc:cur.toList.take (ds.length*(n+1))=(ds.map (·.xs)).flatten) (cT:ds.length*(n+1)≤cur.size) (hl:ds.length≤1000000):
 Calls P f #[.slice (some ⟨gb,0,none⟩) ds.length cap,.func (.func fc) #[] #[]] w fun e w'=>e= .returned (.tuple #[])∧∃(ds':List (SRow HP (n+1))) (cur':Array Value),ds'.Perm ds∧ds'.Pairwise (fun x y=>x.key≤y.key)∧w'.heap[gb]? =some (.cells cur' E (0,0))∧cur'.size=cur.size∧
  cur'.toList.take (ds.length*(n+1))=(ds'.map (·.xs)).flatten∧OneB w w' (some gb):=by
 have hg:gb < w.heap.size:=(Ys.1 hh).1;have gY:=wd n rfl ds.toArray;rw[Y1]at gY;have hH:Sort.HoldsK (fun r:SRow HP (n+1)=>r.xs) (n+1) w gb 0 ds.toArray:=by
  intro t ht;have W9:=ht;rw[Sort.size_flatK,YH]at W9;refine⟨?_,lP hh⟩;have dC:∀o,w.cell? ⟨gb,o,none⟩=cur[o]? :=fun o=>by simp[YS,hh]
  rw[XG,dC];have h1:(cur.toList.take (ds.length*(n+1)))[t]? =cur[t]? :=by rw[XS W9];simp
  rw[←h1,hc,←gY,X6,getElem!_pos (Sort.flatK (fun r:SRow HP (n+1)=>r.xs) (n+1) ds.toArray) t ht,YP ht];rfl
 have T8:=AnyQ.slices_SortFunc L (n+1) aE zE (fun r:SRow HP (n+1)=>r.xs) (·.len) (·.one) Ed US fc #[] gb 0 cap ds.toArray w eg (fun _ _ _ _ x y=>M9 x y _) hH hg (by simp;omega);rw[hf,YH]at T8;refine Calls.mono T8 ?_;rintro e w' ⟨rfl,d',m,os,⟨St,-,hp⟩,hs,rfl⟩;replace St:d'.size=ds.length:=by simpa using St
 have hF:(Sort.flatK (fun r:SRow HP (n+1)=>r.xs) (n+1) d').size≤cur.size:=by rw[Sort.size_flatK,St];exact cT
 obtain⟨p1,p2⟩:=xQ (Sort.flatK (fun r:SRow HP (n+1)=>r.xs) (n+1) d') cur hF;refine⟨rfl,d'.toList,Sort.putCells id 0 (Sort.flatK (fun r:SRow HP (n+1)=>r.xs) (n+1) d') cur,?_,?_,?_,p2,?_,?_⟩
 ·have e1:d'.extract 0 ds.length=d':=by rw[←St];exact Array.extract_size
  have e2:ds.toArray.extract 0 ds.length=ds.toArray:=by simp
  rw[e1,e2]at hp;simpa using hp
 ·rw[XF];intro i j hi hj hij;have hj':j < d'.size:=by simpa using hj
  have:=hs i j (XE _) hij (by omega);rw[Um,getElem!_pos d' i (by omega),getElem!_pos d' j hj']at this;simpa using this
 ·show (Sort.grow (Sort.putRow id (Sort.ahead w m) gb 0 (Sort.flatK (fun r:SRow HP (n+1)=>r.xs) (n+1) d')) os).heap[gb]? =_;rw[Sort.heap_grow_old _ _ (by simpa using hg)];show (w.heap.modify gb (Sort.onCells _))[gb]? =_;rw[Y9,if_pos rfl,hh];rfl
 ·rw[show ds.length*(n+1)=(Sort.flatK (fun r:SRow HP (n+1)=>r.xs) (n+1) d').size by rw[Sort.size_flatK,St],p1,wd n rfl]
 ·refine⟨rfl,rfl,rfl,?_,fun b hb bB=>?_⟩
  ·show w.heap.size≤(Sort.grow (Sort.putRow id (Sort.ahead w m) gb 0 _) os).heap.size;rw[Sort.size_grow,Sort.size_putRow,Sort.heap_ahead];omega
  ·show (Sort.grow (Sort.putRow id (Sort.ahead w m) gb 0 (Sort.flatK (fun r:SRow HP (n+1)=>r.xs) (n+1) d')) os).heap[b]? =_;rw[Sort.heap_grow_old _ _ (by simpa using hb)];show (w.heap.modify gb (Sort.onCells _))[b]? =_;rw[Y9,if_neg (fun e=>bB (by rw[e]))]
theorem Lv {α β:Type}{ka:α→Int}{kb:β→Int}{l l':List α}{d d':List β}(hk:d.map kb=l.map ka)(hp:l'.Perm l)(hs:l'.Pairwise fun x y=>ka x < ka y)(hq:d'.Perm d)(ht:d'.Pairwise fun x y=>kb x≤kb y):d'.map kb=l'.map ka:=
 List.Perm.eq_of_pairwise (le:=fun x y:Int=>x≤y) (fun a b _ _ h1 h2=>by omega) (by rw[Y3];exact ht) (by rw[Y3];exact hs.imp fun h=>by omega) ((hq.map kb).trans (by rw[hk];exact(hp.map ka).symm))
theorem GI {HP:List Value→Int→Prop}{n:Nat}(inh:Inhabited (SRow HP (n+1))){P:Program}{ρ:Ren}(L:SlLaysF0.n6 P ρ){f fc E g:Nat}(hf:ρ.f 6=f)(RW:xB P f)(aE:∀w,(isAgg (ρ.t 24)).run P w= .ok true w)(zE:∀w,(Go.sizeOf (ρ.t 24)).run P w= .ok (n+1) w)(eg:∀args w,(callFunc fc args).run P w= .ok (.enter fc args) w)
 (M9:∀(x y:SRow HP (n+1)) (W:World),Calls P fc #[.agg x.xs.toArray,.agg y.xs.toArray] W fun e w'=>e= .returned (.int .i64 (Ed x y))∧∃q os',w'=Sort.grow (W.drewN q) os')
 {α:Type} (enc:α→List D) (key:α→Int) {l l':List α} (R4:∀x∈l,∀vs:List Value,vs.length=n+1→(∀(j:Nat) (d:D) (v:Value),(enc x)[j]? =some d→vs[j]? =some v→∃M w,RepD M w d v)→HP vs (key x)) (pM:l≠[]) (hp:l'.Perm l) (hs:l'.Pairwise fun x y=>key x < key y) (cT:l.length≤1000000):
 MSpec P f [.own 0 g,.d (.clo fc [])] [.row E (n+1) g (ab (l.map enc))] (.d (.tup [])) [.row E (n+1) g (ab (l'.map enc))]:=by
 refine⟨RW,XB _,by simp[an,aq],by simp[aH,aQ,az],fun X hP hn hm w c vs hr ly=>?_⟩;have bR:=ly.1;match vs,bR with
 |[v0,v1],_=>
  have r0:=ly.2 0 _ v0 rfl rfl;have r1:=cp (ly.2 1 _ v1 rfl rfl);have bB:ab (l.map enc)≠[]:=by simpa[ab]using pM
  have a9:=hr.chunk 0;cases r0 with
  |own _ _ _ eh h1=>
   obtain⟨gb,cap,rfl⟩:=l7 a9 eh bB;obtain⟨cur,xs,q1,q2,q3,q4,q5,q6,q7,q8,q9,q10,q11⟩:=ef a9 eh bB;have M6:=bH.one q2 (fun d hd=>by obtain⟨r,hr,hd⟩:=ZW.1 hd;exact q6 r hr d hd);have pL:(ab (l.map enc)).length=l.length:=by rw[aF,XD]
   rw[pL]at q3 q4 q8 q10 eh ⊢;have Bl:v1= .func (.func fc) #[] #[]:=by
    cases r1 with
    |clo _ _ vs hl bA=>
     have:vs=[]:=by simpa using hl.symm
     subst this;rfl
   subst Bl;have ME:cur.toList.take (l.length*(n+1))=xs:=by
    apply Yj;intro j;by_cases hj:j < l.length*(n+1)
    ·rw[XS hj,X6,q4 j hj]
    ·rw[XT (by rw[Xq];omega),XT (by omega)]
   obtain⟨ds,qt,fA⟩:=sO (Q:=fun i (r:SRow HP (n+1))=>r.xs=(xs.drop (i*(n+1))).take (n+1)∧∃x,l[i]? =some x∧r.key=key x) l.length fun i hi=>by
    have hb:(i+1)*(n+1)≤l.length*(n+1):=Yt _ hi;rw[YY]at hb;obtain⟨x,hx⟩:∃x,l[i]? =some x:=⟨_,Xk hi⟩;have FF:((xs.drop (i*(n+1))).take (n+1)).length=n+1:=by rw[Xq,XJ];omega
    have h0:HP ((xs.drop (i*(n+1))).take (n+1)) (key x):=R4 x (Xl hx) _ FF fun j d v hd hv=>by
     have hj:j < n+1:=by rw[←FF];exact(Xn.1 hv).1
     rw[XS hj,Yk]at hv;have gY:=cE q5 i j hj;rw[gM,Xz,hx]at gY;simp only[Ye,Y6,Xz,hd]at gY;exact⟨_,_,cp (q2.2 _ _ v gY hv)⟩
    exact⟨⟨(xs.drop (i*(n+1))).take (n+1),FF,fun v hv=>M6 v (Yd (Yf hv)),key x,h0⟩,rfl,x,hx,rfl⟩
   have Qm:∀r∈ds.map (·.xs),r.length=n+1:=fun r hr=>by obtain⟨x,-,rfl⟩:=XQ.1 hr;exact x.len
   have hflat:(ds.map (·.xs)).flatten=xs:=by
    apply Yj;intro t;by_cases ht:t < l.length*(n+1)
    ·have h1:t / (n+1) < l.length:=Zw (by rw[Zp];exact ht);have h2:t % (n+1) < n+1:=Y' _ (by omega);have h3:t / (n+1)*(n+1)+t % (n+1)=t:=by rw[Zp];exact ZN t (n+1)
     generalize t / (n+1)=i at h1 h3;generalize t % (n+1)=j at h2 h3;have h4:=cE Qm i j h2;rw[h3,Xz,Xk (show i < ds.length by omega)]at h4;rw[h4];simp only[Ye,Y6];rw[(fA _ (show i < ds.length by omega)).1,XS h2,Yk,h3]
    ·rw[XT (by rw[cP Qm,XD,qt];omega),XT (by omega)]
   have t5:ds.map (·.key)=l.map key:=by
    apply Yj;intro i;rw[Xz,Xz];by_cases hi:i < l.length
    ·obtain⟨-,x,hx,hk⟩:=fA i (by omega);rw[Xk (by omega),hx];simp[hk]
    ·rw[XT (show ds.length≤i by omega),XT (show l.length≤i by omega)];rfl
   have i8:=Lu inh L hf aE zE eg M9 ds w gb cap cur q1 (by rw[qt,ME,hflat]) (by rw[qt];exact q8) (by omega);rw[qt]at i8;rw[←hP]at i8;rw[hP]at i8;refine i8.mono fun e w' ⟨he,ds',cur',hp',hs',hw',fq,qr,eS⟩=>?_;have io:=Lv (ka:=key) (kb:=SRow.key) t5 hp hs hp' hs';have R5:ds'.length=l.length:=by rw[hp'.length_eq,qt]
   have Na:l'.length=l.length:=hp.length_eq;have Bh:∀r∈ds'.map (·.xs),r.length=n+1:=fun r hr=>by obtain⟨x,-,rfl⟩:=XQ.1 hr;exact x.len
   have FP:∀r∈ab (l'.map enc),r.length=n+1:=fun r hr=>by
    obtain⟨q,hq,rfl⟩:=iB hr;obtain⟨x,hx,rfl⟩:=XQ.1 hq;exact q5 _ (XQ.2 ⟨enc x,XQ.2 ⟨x,hp.mem_iff.1 hx,rfl⟩,rfl⟩)
   have RX:∀r∈ab (l'.map enc),∀d∈r,d.one=true:=fun r hr d hd=>by
    obtain⟨q,hq,rfl⟩:=iB hr;obtain⟨x,hx,rfl⟩:=XQ.1 hq;exact q6 _ (XQ.2 ⟨enc x,XQ.2 ⟨x,hp.mem_iff.1 hx,rfl⟩,rfl⟩) d hd
   have lm:∀i j (hi:i < l.length) (hj:j < l.length),key l[i]=key l[j]→i=j:=by
    have h1:(l'.map key).Nodup:=by
     unfold List.Nodup;rw[Y3];exact hs.imp fun h=>by omega
    have h2:(l.map key).Nodup:=(hp.map key).nodup_iff.1 h1;intro i j hi hj h;rw[List.nodup_iff_pairwise_ne,XF]at h2;rcases Zb i j with hlt|he|hlt
    ·exact absurd (by rw[A',A'];exact h) (h2 i j (by simpa using hi) (by simpa using hj) hlt)
    ·exact he
    ·exact absurd (by rw[A',A'];exact h.symm) (h2 j i (by simpa using hj) (by simpa using hi) hlt)
   have oO:bH c w (ab (l'.map enc)).flatten (ds'.map (·.xs)).flatten:=by
    refine⟨by rw[cP FP,cP Bh,aF,XD,XD,R5,Na],fun t d u ht hu=>?_⟩;have Sw:t < l.length*(n+1):=by
     have:=(Xn.1 hu).1;rw[cP Bh,XD,R5]at this;exact this
    have h1:t / (n+1) < l.length:=Zw (by rw[Zp];exact Sw);have h2:t % (n+1) < n+1:=Y' _ (by omega);have h3:t / (n+1)*(n+1)+t % (n+1)=t:=by rw[Zp];exact ZN t (n+1)
    generalize t / (n+1)=i at h1 h3;generalize t % (n+1)=j at h2 h3;have e1:=cE FP (i) (j) h2;have e2:=cE Bh (i) (j) h2;rw[h3,gM,Xz,Xk (l:=l') (show i < l'.length by omega)]at e1;rw[h3,Xz,Xk (l:=ds') (show i < ds'.length by omega)]at e2;simp only[Ye,Y6]at e1 e2;obtain⟨p,iP,D2⟩:=X0.1 (hp'.mem_iff.1 (Ym (show i < ds'.length by omega)));obtain⟨p2,VQ,T9⟩:=X0.1 (hp.mem_iff.1 (Ym (show i < l'.length by omega)));obtain⟨g1,x,g2,g3⟩:=fA p iP;have hx:l[p]'(by omega)=x:=by rw[Xk (by omega)]at g2;exact XX.inj g2
    have Ua:(ds'[i]'(by omega)).key=key (l'[i]'(by omega)):=by
     have:=congrArg (fun z:List Int=>z[i]?) io;simp only[Xz]at this;rw[Xk (by omega),Xk (by omega)]at this;exact XX.inj this
    have hpp:p=p2:=lm p p2 (by omega) VQ (by rw[T9,←Ua,←D2,g3,hx]);subst hpp;rw[←T9,hx]at e1;rw[←D2,g1,XS h2,Yk]at e2;have e3:=cE q5 p (j) h2;rw[gM,Xz,g2]at e3;simp only[Ye,Y6]at e3;rw[←e3]at e1;rw[e1]at ht;rw[e2]at hu;exact q2.2 _ d u ht hu
   have ym:0 < cap:=by have:=Zd.2 pM;omega
   have DV:=hr.put_row (w':=w') (k:=0) (rows':=ab (l'.map enc)) (xs':=(ds'.map (·.xs)).flatten) rfl eh (by rw[dk ym];exact eS) (by
    rw[aF,XD,Na];exact .row gb l.length cap cur' _ ym hw' q10 q9 (by rw[fq];exact q11) (by rw[cP Bh,XD,R5]) qr) oO FP RX
   have mM:cH [(0,Chunk.row E (n+1) g (ab (l'.map enc)))] (bQ [] [.row E (n+1) g (ab (l.map enc))]).heap=aG [.row E (n+1) g (ab (l'.map enc))]:=by
    funext k;rw[qA];cases k with
    |zero=>rfl
    |succ k=>rfl
   rw[mM]at DV;refine⟨_,c,he,.d _ _ (.tup [] [] rfl fun j d x h=>by simp at h),DV⟩
theorem uE {n:Nat}{P:Program}{ρ:Ren}(L:SlLaysF0.n6 P ρ){f fc E g:Nat}(hf:ρ.f 6=f)(RW:xB P f)(aE:∀w,(isAgg (ρ.t 24)).run P w= .ok true w)(zE:∀w,(Go.sizeOf (ρ.t 24)).run P w= .ok (n+1) w)(eg:∀args w,(callFunc fc args).run P w= .ok (.enter fc args) w)
 (M9:∀(x y:SRow Ls (n+1)) (W:World),Calls P fc #[.agg x.xs.toArray,.agg y.xs.toArray] W fun e w'=>e= .returned (.int .i64 (Ed x y))∧∃q os',w'=Sort.grow (W.drewN q) os')
 {α:Type} (enc:α→List D) (key:α→Int) (R4:∀x,(enc x)[0]? =some (.v (.int .i64 (key x)))) {l l':List α} (pM:l≠[]) (hp:l'.Perm l) (hs:l'.Pairwise fun x y=>key x < key y) (cT:l.length≤1000000):
 MSpec P f [.own 0 g,.d (.clo fc [])] [.row E (n+1) g (ab (l.map enc))] (.d (.tup [])) [.row E (n+1) g (ab (l'.map enc))]:=
 GI (Lt n) L hf RW aE zE eg M9 enc key (fun x _ vs hl hr=>by
  obtain⟨v,hv⟩:∃v,vs[0]? =some v:=⟨_,Xk (by omega)⟩;obtain⟨M,w,h⟩:=hr 0 _ v (R4 x) hv;show vs[0]? =_;rw[hv];cases h;rfl) pM hp hs cT
end
section
open Go.Proofs Go.Shelf
theorem kK (a:Int)(W:World):Calls prog 195 #[.int .i64 a] W fun e w'=>e= .returned (.bool false)∧w'=W:=by
 go_enter func195,ntmps195
 go_wp2_with fail
 go_ret
 exact⟨dn (by simp),rfl⟩
theorem iH (a b:Int)(W:World):Calls prog 113 #[.int .i64 a,.int .i64 b] W fun e w'=>e= .returned (.int .i64 (ez a b))∧w'=W:=by
 by_cases h:a < b
 ·have e:ez a b= -1:=by simp[ez,h]
  rw[e];go_enter func113,ntmps113
  go_wp2_with fail
  refine(kK a _).mono ?_;rintro e w1 ⟨rfl,rfl⟩;go_wp2_with fail
  refine(kK b _).mono ?_;rintro e w1 ⟨rfl,rfl⟩;go_wp2_with fail
  go_ret
  exact⟨cf rfl,rfl⟩
 ·by_cases h2:b < a
  ·have e:ez a b=1:=by simp[ez,h,h2]
   rw[e];go_enter func113,ntmps113
   go_wp2_with fail
   refine(kK a _).mono ?_;rintro e w1 ⟨rfl,rfl⟩;go_wp2_with fail
   refine(kK b _).mono ?_;rintro e w1 ⟨rfl,rfl⟩;go_wp2_with fail
   go_ret
   exact⟨cf rfl,rfl⟩
  ·have e:ez a b=0:=by simp[ez,h,h2]
   rw[e];go_enter func113,ntmps113
   go_wp2_with fail
   refine(kK a _).mono ?_;rintro e w1 ⟨rfl,rfl⟩;go_wp2_with fail
   refine(kK b _).mono ?_;rintro e w1 ⟨rfl,rfl⟩;go_wp2_with fail
   go_ret
   exact⟨cf rfl,rfl⟩
end
section
open Go.Proofs Go.Shelf
theorem Lw (x y:SRow Ls 3)(W:World):Calls prog 212 #[.agg x.xs.toArray,.agg y.xs.toArray] W fun e w'=>e= .returned (.int .i64 (Ed x y))∧∃q os',w'=Sort.grow (W.drewN q) os':=by
 obtain⟨xs,xl,x1,a,xh⟩:=x;obtain⟨ys,yl,y1,b,yh⟩:=y;match xs,xl,ys,yl with
 |[u0,u1,u2],_,[v0,v1,v2],_=>
  simp[Ls]at xh yh;subst xh;subst yh;have hc:=iH a b;unfold Ed;simp only;generalize ez a b=r at*;replace hc:=Xj hc;clear x1 y1;go_enter func212,ntmps212
  go_wp2_with fail
  refine(hc.out _).mono ?_;rintro e w1 ⟨rfl,rfl⟩;go_wp2_with fail
  go_ret
  exact⟨cf rfl,0,_,by rw[Sort.alloc_eq_grow,Sort.alloc_eq_grow,Sort.grow_grow];rfl⟩
theorem Fb {l l':List Rng}(g:Nat)(pM:l≠[])(hp:l'.Perm l)(hs:l'.Pairwise fun x y=>(fun r:Rng=>r.at_.at_) x < (fun r:Rng=>r.at_.at_) y)(cT:l.length≤1000000):
 MSpec prog 211 [.own 0 g,.d (.clo 212 [])] [.row 58 3 g (ab (l.map bp))] (.d (.tup [])) [.row 58 3 g (ab (l'.map bp))]:=
 uE sortRange rfl (cZ func211 (by kernel_rfl) rfl) isAgg58 sizeOf58 (enters_of func212 (by kernel_rfl) rfl) Lw bp (fun r:Rng=>r.at_.at_) (fun _=>rfl) pM hp hs cT
end
theorem OI (q r:Rng):af prog 210 [.agg (bp q),.ept (bp r)] (.v (.bool (q.at_.meets r.at_))):=by
 have hm:af prog 19 [.agg (aN q.at_),.agg (aN r.at_)] (.v (.bool (q.at_.meets r.at_))):=oZ _ _;refine pj func210 ntmps210 results210 ?_;exact bc
theorem OJ (v:Vpc)(r:Rng):af prog 141 [.agg (al v),.agg (bp r)] (.tup [.agg (al (cK v r).1),.v (.int .i64 (cK v r).2)]):=by
 obtain⟨R,hR⟩:∃R,R=cK v r:=⟨_,rfl⟩;rw[←hR];replace hR:=Xj hR;by_cases hc:bN v=0
 ·have hk:=aY hc;have cU:=lg v hc hk.n4 hk.n6 hk.n8;have hid:=kR r.pool;have a9:=qZ r.at_;have ns:=mX mf (fun q=>q.at_.meets r.at_) v.ranges 210 [.ept (bp r)] (by have:=hk.n4;omega) (fun q _=>OI q r);have aP:R=if lG v r≠0 then (Vpc.zero,lG v r)else ({v with ranges:=di (·.at_.at_) r v.ranges},0):=by rw[hR.out];unfold cK;rw[if_neg (by simpa using hc)]
  have Jo:=hk.n4;by_cases bI:lG v r≠0
  ·rw[if_pos bI]at aP;unfold lG at aP bI;generalize chk r.at_.at_ r.at_.len=K at*;generalize cI r.pool=I at*;generalize (v.ranges.any fun q=>q.at_.meets r.at_)=M at*;replace aP:=Xj aP;replace bI:=Xj bI;clear hR hc hk;have JD:((v.ranges.length:Int)==4)=decide (v.ranges.length=4):=by rw[Yi];simp;omega
   refine pj func141 ntmps141 results141 ?_;repeat' (first|(with_reducible refine And.intro ?_ ?_)|(with_reducible refine cn (fun _=>?_) (fun _=>?_))|(with_reducible refine aA (fun _=>?_) (fun _=>?_))|(with_reducible refine be (by kernel_rfl))|simp -dsimp only[go_sem,seval, *,al,bp,aN,JD]|((with_reducible refine bf ?_);simp -dsimp only[go_sem,seval,al,bp,aN,JD];first|refine aC (by first|assumption|exact hid|exact a9|exact ns) (by first|exact .inl rfl|exact .inr rfl) ?_|(refine aB (by assumption) ?_ ?_ ?_;(solve|(repeat(first|exact ai.refl _|exact ai.nil _|(refine ai.tup ?_)|(refine ai.agg ?_ rfl)|exact trivial|(refine And.intro ?_ ?_))));(solve|exact .inl rfl|exact .inr rfl)))|(refine aX [] (cU) ?_ ?_ ?_ ?_ ?_ ?_;(solve|rfl|simp only[go_sem,seval,al]);(solve|rfl);(solve|decide);(solve|simp);(solve|simp only[go_sem,seval,ax,al]))|omega|exact decide_eq_true (by omega)|exact ai.refl _)
   all_goals
    have h1:=aP.out;have h2:=bI.out;clear hid a9 ns cU;first
     |(exfalso;grind)
     |(rw[show R=(Vpc.zero,1) from (by rw[h1];grind)];exact dg)
     |(rw[show R=(Vpc.zero,6) from (by rw[h1];grind)];exact dg)
     |(rw[show R=(Vpc.zero,2) from (by rw[h1];grind)];exact dg)
  ·rw[if_neg bI]at aP;have hg:lG v r=0:=by simpa using bI
   obtain⟨g1,g2,g3,g4⟩:chk r.at_.at_ r.at_.len=0∧cI r.pool=true∧(v.ranges.any fun q=>q.at_.meets r.at_)=false∧v.ranges.length≠4:=by
    unfold lG at hg;generalize (v.ranges.any fun q=>q.at_.meets r.at_)=M at*;grind
   have bB:∀q∈v.ranges,q.at_.at_≠r.at_.at_:=fun q hq=>vJ (ku (hk.ranges q hq)) (by simp[Pfx.right,bE,g1]) (by have:=Yh.1 g3 q hq;simpa using this);have nJ:=Fb (l:=v.ranges++[r]) (l':=di (·.at_.at_) r v.ranges) 2 (by simp) (f6 _ _ _) (gB hk.rr bB) (by simp;omega);rw[g1]at a9;rw[g2]at hid;rw[g3]at ns;have JD:((v.ranges.length:Int)==4)=false:=by simp;omega
   have jf:v.ranges.length+1≤100:=by omega
   simp only[Xo,Xm,Xv]at nJ;rw[aP];clear hR aP hc hk bB hg bI;refine pj func141 ntmps141 results141 ?_;have z1z:=Ln.mk (ls:=[]) (cU);have z2z:=Ln.mk (ls:=[4]) (nJ);exact bc
 ·have cU:=lf v hc;have h1:(bN v !=0)=true:=by simpa using hc
  have hr:R=(Vpc.zero,bN v):=by rw[hR.out];unfold cK;rw[if_pos hc]
  rw[hr];replace hr:=Xj hr;refine pj func141 ntmps141 results141 ?_;have z1z:=Ln.mk (ls:=[]) (cU);refine am ?_<;>intros;exact dg
theorem we (p q:Pfx):([p.at_,p.len]==[q.at_,q.len])=decide (p=q):=by
 rw[Yi];cases p;cases q;simp
theorem CW (l:List Rng)(x:Rng)(hl:l.length≤1000000000):
 af prog 130 [.sl 3 (l.map bp),.agg (bp x)] (.v (.int .i64 (cz (fun y=>decide (x=y)) l))):=by
 refine pj func130 ntmps130 results130 ?_;refine am ?_<;>intros;refine bL ae ak (fun m e h=>∃k:Nat,k≤l.length∧(∀y∈l.take k,decide (x=y)=false)∧m=l.length - k∧e=[(8,.d (.v (.int .i64 k))),(7,.d (.v (.int .i64 l.length))),(4,.d (.v (.int .i64 0))),(3,.ptr 0 0),(0,.d (.sl 3 (l.map bp)))]∧h=[.box 58 ((bp x).map .d)]) _ _ _ ⟨0,XE _,by simp,rfl,rfl,rfl⟩ (wf) ?_;rintro m e h ⟨k,hk,cg,rfl,rfl,rfl⟩ CL mO;by_cases hlt:k < l.length
 ·obtain⟨y,hy⟩:∃y,l[k]? =some y:=⟨_,Xk hlt⟩;have ew:(k:Int) < (l.length:Int):=by omega
  have cR:=wi k (by omega);have he:=wc x y;cases hp:decide (x=y)with
  |false=>
   rw[hp]at he;have Bi:∀z∈l.take (k+1),decide (x=z)=false:=fun z hz=>by
    rw[ag hy]at hz;rcases X3.1 hz with hz|hz
    ·exact cg z hz
    ·rw[Yc]at hz;rw[hz];exact hp
   replace Bi:=Xj Bi;replace cg:=Xj cg;replace hp:=Xj hp;refine am ?_<;>intros;refine mO _ _ _ _ _ ?_ ⟨k+1,hlt,Bi.out,rfl,rfl,rfl⟩ (wf);omega
  |true=>
   rw[hp]at he;have ll:cz (fun y=>decide (x=y)) l=k:=fY hy hp cg;rw[ll];replace ll:=Xj ll;replace cg:=Xj cg;replace hp:=Xj hp;exact bc;all_goals exact ai.refl _
 ·obtain rfl:k=l.length:=by omega
  rw[Xt]at cg;rw[fZ cg];replace cg:=Xj cg;exact bc;all_goals exact ai.refl _
theorem wg (l:List Rng)(x:Rng)(hl:l.length≤1000000000):
 af prog 61 [.sl 3 (l.map bp),.agg (bp x)] (.v (.bool (l.any fun y=>decide (x=y)))):=by
 have hi:=CW l x hl;have iy:=fO (fun y=>decide (x=y)) l;refine pj func61 ntmps61 results61 ?_;exact bc;all_goals exact ai.refl _
@[go_sem] def ji (b:Bok)(vp lp:PV)(c:Cmd)(a:Ans):List PV:=[.d (.v (.int .i64 b.tick)),.d (.sl 9 (b.pools.map ah)),vp,lp,.d (.v (.int .i64 c.op)),.d (.v (.int .i64 c.a)),.d (.v (.int .i64 c.b)),.d (.v (.int .i64 c.c)),.d (.v (.int .i64 c.at_.at_)),.d (.v (.int .i64 c.at_.len)),.d (.v (.int .i64 c.rule.min)),.d (.v (.int .i64 c.rule.max)),.d (.v (.int .i64 c.rule.usual)),.d (.v (.int .i64 c.rule.cool)),.d (.v (.int .i64 a.err)),.d (.v (.int .i64 a.at_.at_)),.d (.v (.int .i64 a.at_.len)),.d (.v (.int .i64 a.n))]
theorem OK (v:Vpc)(c:Cmd):af prog 58 [.agg (al v),.ept (mg c)] (.v (.bool (v.id==c.c))):=by
 refine pj func58 ntmps58 results58 ?_;exact bc
theorem OL (v:Vpc)(c:Cmd)(hl:v.ranges.length≤1000000000):af prog 60 [.agg (al v),.ept (mg c)] (.v (.bool (v.ranges.any fun r=>decide ((⟨c.at_,c.a⟩:Rng)=r)))):=by
 have h:=wg v.ranges ⟨c.at_,c.a⟩ hl;generalize (v.ranges.any fun r=>decide ((⟨c.at_,c.a⟩:Rng)=r))=x at*;refine pj func60 ntmps60 results60 ?_;exact bc
def GJ (vs:List Vpc)(r:Rng):Bool:=vs.any fun v=>v.ranges.any fun x=>decide (r=x)
def mF (b:Bok)(vs:List Vpc)(c:Cmd):Bok × Ans:=
 if c.op=1 then ((fS b c.a c.at_ c.rule).1,.er (fS b c.a c.at_ c.rule).2)
 else if c.op=2 then ((fT b c.a c.b c.c c.rule).1,⟨(fT b c.a c.b c.c c.rule).2.2,(fT b c.a c.b c.c c.rule).2.1,0⟩)
 else if c.op=3 then ((fk b c.a).1,.er (fk b c.a).2)
 else if c.op=4 then ((i6 b c.a).1,.er (i6 b c.a).2)
 else if c.op=5 then if gD vs c.c then (b,.er 6)else ((cS b c.a c.b c.c).1,⟨(cS b c.a c.b c.c).2.2,(cS b c.a c.b c.c).2.1,0⟩)
 else if c.op=6 then if GJ vs ⟨c.at_,c.a⟩then (b,.er 9)else ((fj b c.a c.at_).1,.er (fj b c.a c.at_).2)
 else (b,.zero)
theorem Q9 (b:Bok)(vs:List Vpc)(lp:List Lnk)(c:Cmd)(hz:∀p∈b.pools,p.leases.length≤3518437208882)(h6:vs.length≤6)(h4:∀v∈vs,v.ranges.length≤1000000000):
 MSpec prog 27 [.ptr 0 0] [.box 86 (ji b (.own 1 vs.length) (.d (.sl 2 (lp.map bG))) c .zero),.row 55 3 vs.length (ab (vs.map al))] (.d (.v (.bool (decide (1≤c.op∧c.op≤6)))))
  [.box 86 (ji (mF b vs c).1 (.own 1 vs.length) (.d (.sl 2 (lp.map bG))) c (mF b vs c).2),.row 55 3 vs.length (ab (vs.map al))]:=by
 unfold mF;by_cases h1:c.op=1
 ·rw[if_pos h1,decide_eq_true (by omega)];have hp:=QW b c.a c.at_ c.rule hz;generalize fS b c.a c.at_ c.rule=R at*;replace hz:=Xj hz;replace h4:=Xj h4;refine iV ae ak func27 rfl ntmps27 results27 (by kernel_rfl) (by simp) (by simp[an,aq]) (by simp[aH,aQ,an,aq,ji,bj,az]) ?_;refine am ?_;exact wf
 rw[if_neg h1];by_cases h2:c.op=2
 ·rw[if_pos h2,decide_eq_true (by omega)];have hp:=Q0 b c.a c.b c.c c.rule hz;generalize fT b c.a c.b c.c c.rule=R at*;clear h1;replace hz:=Xj hz;replace h4:=Xj h4;refine iV ae ak func27 rfl ntmps27 results27 (by kernel_rfl) (by simp) (by simp[an,aq]) (by simp[aH,aQ,an,aq,ji,bj,az]) ?_;refine am ?_;exact wf
 rw[if_neg h2];by_cases h3:c.op=3
 ·rw[if_pos h3,decide_eq_true (by omega)];have hp:=OE b c.a hz;generalize fk b c.a=R at*;clear h1 h2;replace hz:=Xj hz;replace h4:=Xj h4;refine iV ae ak func27 rfl ntmps27 results27 (by kernel_rfl) (by simp) (by simp[an,aq]) (by simp[aH,aQ,an,aq,ji,bj,az]) ?_;refine am ?_;exact wf
 rw[if_neg h3];by_cases h4':c.op=4
 ·rw[if_pos h4',decide_eq_true (by omega)];have hp:=Q8 b c.a hz;generalize i6 b c.a=R at*;clear h1 h2 h3;replace hz:=Xj hz;replace h4:=Xj h4;refine iV ae ak func27 rfl ntmps27 results27 (by kernel_rfl) (by simp) (by simp[an,aq]) (by simp[aH,aQ,an,aq,ji,bj,az]) ?_;refine am ?_;exact wf
 rw[if_neg h4'];by_cases h5:c.op=5
 ·rw[if_pos h5,decide_eq_true (by omega)];have ns:=v8 iS (fun v=>v.id==c.c) vs 58 [.ept (mg c)] (by omega) (fun v _=>OK v c);have hp:=Lh b c.a c.b c.c hz;generalize cS b c.a c.b c.c=R at*;unfold gD;clear h1 h2 h3 h4';cases hb:vs.any fun v=>v.id==c.c
  ·rw[hb]at ns;replace hb:=Xj hb;simp only[mg,h5]at ns;replace hz:=Xj hz;replace h4:=Xj h4;refine iV ae ak func27 rfl ntmps27 results27 (by kernel_rfl) (by simp) (by simp[an,aq]) (by simp[aH,aQ,an,aq,ji,bj,az]) ?_;refine am ?_;exact wf
  ·rw[hb]at ns;replace hb:=Xj hb;simp only[mg,h5]at ns;clear hp;replace hz:=Xj hz;replace h4:=Xj h4;refine iV ae ak func27 rfl ntmps27 results27 (by kernel_rfl) (by simp) (by simp[an,aq]) (by simp[aH,aQ,an,aq,ji,bj,az]) ?_;refine am ?_;exact wf
 rw[if_neg h5];by_cases h6':c.op=6
 ·rw[if_pos h6',decide_eq_true (by omega)];have ns:=v8 iS (fun v=>v.ranges.any fun r=>decide ((⟨c.at_,c.a⟩:Rng)=r)) vs 60 [.ept (mg c)] (by omega) (fun v hv=>OL v c (h4 v hv));have hp:=Li b c.a c.at_ hz;generalize fj b c.a c.at_=R at*;unfold GJ;clear h1 h2 h3 h4' h5;cases hb:vs.any fun v=>v.ranges.any fun r=>decide ((⟨c.at_,c.a⟩:Rng)=r)
  ·rw[hb]at ns;replace hb:=Xj hb;simp only[mg,h6']at ns;replace hz:=Xj hz;replace h4:=Xj h4;refine iV ae ak func27 rfl ntmps27 results27 (by kernel_rfl) (by simp) (by simp[an,aq]) (by simp[aH,aQ,an,aq,ji,bj,az]) ?_;refine am ?_;exact wf
  ·rw[hb]at ns;replace hb:=Xj hb;simp only[mg,h6']at ns;clear hp;replace hz:=Xj hz;replace h4:=Xj h4;refine iV ae ak func27 rfl ntmps27 results27 (by kernel_rfl) (by simp) (by simp[an,aq]) (by simp[aH,aQ,an,aq,ji,bj,az]) ?_;refine am ?_;exact wf
 rw[if_neg h6',decide_eq_false (by omega)];have e1:(c.op==1)=false:=by simpa using h1
 have e2:(c.op==2)=false:=by simpa using h2
 have e3:(c.op==3)=false:=by simpa using h3
 have e4:(c.op==4)=false:=by simpa using h4'
 have e5:(c.op==5)=false:=by simpa using h5
 have e6:(c.op==6)=false:=by simpa using h6'
 clear h1 h2 h3 h4' h5 h6';replace hz:=Xj hz;replace h4:=Xj h4;refine iV ae ak func27 rfl ntmps27 results27 (by kernel_rfl) (by simp) (by simp[an,aq]) (by simp[aH,aQ,an,aq,ji,bj,az]) ?_;refine am ?_;exact wf
theorem wh {α:Type}(enc:α→List D)(l:List α)(hl:l.length≤1000000000):
 MSpec prog 50 [.d (.sl 2 (l.map enc))] [] (.own 0 1) [.row 76 2 1 (ab (l.map enc))]:=by
 cases l with
 |nil=>
  refine qP (pl:=[]) (ql:=[]) fun ao cap=>?_;cases ao with
  |none=>
   simp only[Ya];refine mj func50 ntmps50 results50 ?_;repeat' (first|(with_reducible refine And.intro ?_ ?_)|(with_reducible refine cn (fun _=>?_) (fun _=>?_))|(with_reducible refine aA (fun _=>?_) (fun _=>?_))|(with_reducible refine be (by kernel_rfl))|simp -dsimp only[go_sem,seval, *,Zk,XR]|((with_reducible refine bf ?_);simp -dsimp only[go_sem,seval,Zk,XR];first|refine aC (by first|assumption|fail) (by first|exact .inl rfl|exact .inr rfl) ?_|refine aB (by assumption) (by repeat(first|exact ai.refl _|exact ai.nil _|(refine ai.tup ?_)|(refine ai.agg ?_ rfl)|exact trivial|(refine And.intro ?_ ?_))) (by first|exact .inl rfl|exact .inr rfl) ?_)|omega|exact decide_eq_true (by omega)|exact ai.refl _)
   refine iT (h:=[]) (XB _) 76 2 ?_;exact(fW 0 0 76 2 [] rfl (bn rfl rfl))
  |some a=>
   simp only[Ya];refine mj func50 ntmps50 results50 ?_;repeat' (first|(with_reducible refine And.intro ?_ ?_)|(with_reducible refine cn (fun _=>?_) (fun _=>?_))|(with_reducible refine aA (fun _=>?_) (fun _=>?_))|(with_reducible refine be (by kernel_rfl))|simp -dsimp only[go_sem,seval, *,YD,XR]|((with_reducible refine bf ?_);simp -dsimp only[go_sem,seval,YD,XR];first|refine aC (by first|assumption|fail) (by first|exact .inl rfl|exact .inr rfl) ?_|refine aB (by assumption) (by repeat(first|exact ai.refl _|exact ai.nil _|(refine ai.tup ?_)|(refine ai.agg ?_ rfl)|exact trivial|(refine And.intro ?_ ?_))) (by first|exact .inl rfl|exact .inr rfl) ?_)|omega|exact decide_eq_true (by omega)|exact ai.refl _)
   exact bn rfl rfl
 |cons x l=>
  simp only[XA]at hl;refine mj func50 ntmps50 results50 ?_;repeat' (first|(with_reducible refine And.intro ?_ ?_)|(with_reducible refine cn (fun _=>?_) (fun _=>?_))|(with_reducible refine aA (fun _=>?_) (fun _=>?_))|(with_reducible refine be (by kernel_rfl))|simp -dsimp only[go_sem,seval, *,YD,XR]|((with_reducible refine bf ?_);simp -dsimp only[go_sem,seval,YD,XR];first|refine aC (by first|assumption|fail) (by first|exact .inl rfl|exact .inr rfl) ?_|refine aB (by assumption) (by repeat(first|exact ai.refl _|exact ai.nil _|(refine ai.tup ?_)|(refine ai.agg ?_ rfl)|exact trivial|(refine And.intro ?_ ?_))) (by first|exact .inl rfl|exact .inr rfl) ?_)|omega|exact decide_eq_true (by omega)|exact ai.refl _)
  all_goals first|omega|exact bn rfl rfl
theorem o6 (n:Net)(h:cN n≠0):
 MSpec prog 132 [.d (.agg (aK n))] [] (.tup [.ptr 1 0,.d (.v (.int .i64 (cN n)))]) [.gone,.box 28 [.d (.v (.slice none 0 0)),.d (.v (.slice none 0 0))]]:=by
 have hc:=vO n;have h1:(cN n !=0)=true:=by simpa using h
 refine mj func132 ntmps132 results132 ?_;refine am ?_<;>intros;exact(aL 0 (by simp)).trans (bn rfl rfl)
theorem ry (n:Net)(h:cN n=0):
 MSpec prog 132 [.d (.agg (aK n))] [] (.tup [.ptr 2 0,.d (.v (.int .i64 0))]) [.gone,.row 76 2 1 (ab (n.links.map bG)),.box 28 [.own 3 n.vpcs.length,.own 1 1],.row 55 3 n.vpcs.length (ab (n.vpcs.map al))]:=by
 have hc:=vO n;rw[h]at hc;have bF:=gU.1 h;have n6:=bF.n6;have Sx:=Xj bF.vp;have VR:=wh bG n.links (by have:=bF.n12;omega);clear bF;replace h:=Xj h;refine mj func132 ntmps132 results132 ?_;have z1z:=Ln.mk (ls:=[]) (VR);refine am ?_<;>intros;refine bo ae ak n.vpcs (fun _=>True) (fun k=>[(29,.d (.v (.int .i64 k))),(28,.d (.v (.int .i64 n.vpcs.length))),(27,.d (.sl 3 (n.vpcs.map al))),(5,.ptr 2 0)])
  (fun k=>[.gone,.row 76 2 1 (ab (n.links.map bG)),.box 28 [.own 3 k,.own 1 1],.row 55 3 k (ab ((n.vpcs.take k).map al))]) trivial ?_ ?_ ?_
 ·refine(aL 0 (by simp)).trans ((au (by simp) 2 28 [.d (.v (.slice none 0 0)),.own 1 1] 0 55 3 rfl rfl rfl).trans ?_);exact wf (hb:=cL) (hbh:=cL)
 ·intro k v hv hk _ CN hCN;have dM:(k:Int) < (n.vpcs.length:Int):=by omega
  have cR:=wi k (by omega);have yd:k+1≤100:=by omega
  have Xa:(Yg k n.vpcs).length=k:=by rw[Xq];omega
  have pw:=aY (Sx.out v (Xl hv));have h6:=pw.n6;have h8:=Xj pw.n8;have VS:=jZ bp v.ranges (by have:=pw.n4;omega);clear pw;replace hv:=Xj hv;have Bl:=hv.out;have z1z:=Ln.mk (ls:=[]) (VS);refine am ?_<;>intros;refine bo ae ak v.subs (fun _=>True) (fun j=>[(42,.d (.v (.int .i64 j))),(41,.d (.v (.int .i64 v.subs.length))),(40,.d (.sl 4 (v.subs.map aT))),(8,.ptr 6 0),(29,.d (.v (.int .i64 k))),(28,.d (.v (.int .i64 n.vpcs.length))),(27,.d (.sl 3 (n.vpcs.map al))),(5,.ptr 2 0)])
   (fun j=>[.gone,.row 76 2 1 (ab (n.links.map bG)),.box 28 [.own 3 k,.own 1 1],.row 55 3 k (ab ((n.vpcs.take k).map al)),.gone,.row 58 3 1 (ab (v.ranges.map bp)),.box 55 [.d (.v (.int .i64 v.id)),.own 5 1,.own 7 j],.row 71 4 j (ab ((v.subs.take j).map aT))]) trivial ?_ ?_ ?_
  ·refine(aL 4 (by simp)).trans ((au (by simp) 6 55 [.d (.v (.int .i64 v.id)),.own 5 1,.d (.v (.slice none 0 0))] 2 71 4 rfl rfl rfl).trans ?_);exact wf (hb:=cL) (hbh:=cL)
  ·intro j s hs hj _ CO th;have ip:(j:Int) < (v.subs.length:Int):=by omega
   have kj:=wi j (by omega);have iO:=h8.out s (Xl hs);have jf:j+1≤100:=by omega
   have jc:(Yg j v.subs).length=j:=by rw[Xq];omega
   replace hs:=Xj hs;have lT:=hs.out;refine am ?_<;>intros;refine bo ae ak s.faces (fun _=>True) (fun i=>[(54,.d (.v (.int .i64 i))),(53,.d (.v (.int .i64 s.faces.length))),(52,.d (.sl 2 (s.faces.map cj))),(11,.ptr 9 0),(42,.d (.v (.int .i64 j))),(41,.d (.v (.int .i64 v.subs.length))),(40,.d (.sl 4 (v.subs.map aT))),(8,.ptr 6 0),(29,.d (.v (.int .i64 k))),(28,.d (.v (.int .i64 n.vpcs.length))),(27,.d (.sl 3 (n.vpcs.map al))),(5,.ptr 2 0)])
    (fun i=>[.gone,.row 76 2 1 (ab (n.links.map bG)),.box 28 [.own 3 k,.own 1 1],.row 55 3 k (ab ((n.vpcs.take k).map al)),.gone,.row 58 3 1 (ab (v.ranges.map bp)),.box 55 [.d (.v (.int .i64 v.id)),.own 5 1,.own 7 j],.row 71 4 j (ab ((v.subs.take j).map aT)),.gone,.box 71 [.d (.v (.int .i64 s.id)),.d (.v (.int .i64 s.at_.at_)),.d (.v (.int .i64 s.at_.len)),.own 10 i],.row 74 2 i (ab ((s.faces.take i).map cj))]) trivial ?_ ?_ ?_
   ·refine(aL 8 (by simp)).trans ((au (by simp) 9 71 [.d (.v (.int .i64 s.id)),.d (.v (.int .i64 s.at_.at_)),.d (.v (.int .i64 s.at_.len)),.d (.v (.slice none 0 0))] 3 74 2 rfl rfl rfl).trans ?_);exact wf (hb:=cL) (hbh:=cL)
   ·intro i f hf hi _ C hC;have Ny:(i:Int) < (s.faces.length:Int):=by omega
    have uJ:=wi i (by omega);have gY:=iO.2 f (Xl hf);have jm:i+1≤100:=by omega
    have VT:(Yg i s.faces).length=i:=by rw[Xq];omega
    replace hf:=Xj hf;have zQ:=hf.out;have z1z:=Ln.mk (ls:=[]) (fm f.addrs (by omega));refine am ?_<;>intros;refine hC _ _ trivial ((ap 12 1 3 1 (f.addrs.map cy) rfl).trans ?_);simp only[iD,fz,gy,gj,g8,f9,aR,bS,bW,Xm,Xv,XM,XL,reduceIte,and_true,true_and,and_self,and_false,false_and,XG,XW,reduceCtorEq];exact wf (hh:=(by rw[ag hf.out,Xo,Xm,Xv,←aI];rfl)) (hb:=cL) (hbh:=cL)
   ·intro _ C;refine am ?_<;>intros;refine th _ _ trivial ((ap 10 s.faces.length 74 2 (s.faces.map cj) rfl).trans ?_);simp only[iD,fz,gy,gj,g8,f9,aR,bS,bW,Xm,Xv,XM,XL,reduceIte,and_true,true_and,and_self,and_false,false_and,XG,XW,reduceCtorEq];exact wf (hh:=(by rw[ag hs.out,Xo,Xm,Xv,←aI];rfl)) (hb:=cL) (hbh:=cL)
  ·intro _ C;refine am ?_<;>intros;refine hCN _ _ trivial ((ap 7 v.subs.length 71 4 (v.subs.map aT) rfl).trans ?_);simp only[iD,fz,gy,gj,g8,f9,aR,bS,bW,Xm,Xv,XM,XL,reduceIte,and_true,true_and,and_self,and_false,false_and,XG,XW,reduceCtorEq];refine(ap 5 1 58 3 (v.ranges.map bp) rfl).trans ?_;simp only[iD,fz,gy,gj,g8,f9,aR,bS,bW,Xm,Xv,XM,XL,reduceIte,and_true,true_and,and_self,and_false,false_and,XG,XW,reduceCtorEq];exact wf (hh:=(by rw[ag hv.out,Xo,Xm,Xv,←aI];rfl)) (hb:=cL) (hbh:=cL)
 ·intro _ C;refine am ?_<;>intros;exact bn rfl rfl
theorem Ra (s:Ste)(hb:BookOK s.book)(hn:NetOK s.net):
 MSpec prog 26 [.d (.agg (fw s))] [] (.agg [.d (.v (.int .i64 s.book.tick)),.d (.sl 9 (s.book.pools.map ah)),.own 5 s.net.vpcs.length,.d (.sl 2 (s.net.links.map bG))]) [.gone,.gone,.gone,.gone,.gone,.row 55 3 s.net.vpcs.length (ab (s.net.vpcs.map al))]:=by
 have n8:=hb.n8;have nL:=Xj hb.l32;have n6:=hn.n6;have Sx:=Xj hn.vp;have z1:=Ln.mk (ls:=[]) (wh bG s.net.links (by have:=hn.n12;omega));clear hb hn;refine mj func26 ntmps26 results26 ?_;refine am ?_;refine bo ae ak s.book.pools (fun _=>True) (fun k=>[(28,.d (.v (.int .i64 k))),(27,.d (.v (.int .i64 s.book.pools.length))),(26,.d (.sl 9 (s.book.pools.map ah))),(3,.ptr 3 0),(2,.ptr 1 0),(1,.ptr 0 0)])
  (fun k=>[.box 30 ((fw s).map .d),.box 30 [.d (.v (.int .i64 0)),.d (.v (.slice none 0 0)),.d (.v (.slice none 0 0)),.d (.v (.slice none 0 0))],.row 76 2 1 (ab (s.net.links.map bG)),.box 30 [.d (.v (.int .i64 s.book.tick)),.own 4 k,.d (.v (.slice none 0 0)),.own 2 1],.row 62 9 k (ab ((s.book.pools.take k).map ah))]) trivial ?_ ?_ ?_
 ·refine(au (by simp) 3 30 [.d (.v (.int .i64 s.book.tick)),.d (.v (.slice none 0 0)),.d (.v (.slice none 0 0)),.own 2 1] 1 62 9 rfl rfl rfl).trans ?_;exact wf
 ·intro k p hp hk _ C hC;have dM:(k:Int) < (s.book.pools.length:Int):=by omega
  have cR:=wi k (by omega);have iP:=nL.out p (Xl hp);have jf:k+1≤100:=by omega
  have hlt:(Yg k s.book.pools).length=k:=by rw[Xq];omega
  have z2:=Ln.mk (ls:=[]) (iG aV p.leases (by omega));refine am ?_;refine hC _ _ trivial ((ap 6 1 68 5 (p.leases.map aV) rfl).trans ?_);simp only[iD,fz,gy,gj,g8,f9,aR,bS,bW,Xm,Xv,XM,XL,reduceIte,and_true,true_and,and_self,and_false,false_and,XG,XW,reduceCtorEq];exact wf (hh:=by rw[ag hp,Xo,Xm,Xv,←aI];rfl)
 ·intro _ C;rw[Xt];refine am ?_;refine bo ae ak s.net.vpcs (fun _=>True) (fun k=>[(49,.d (.v (.int .i64 k))),(48,.d (.v (.int .i64 s.net.vpcs.length))),(47,.d (.sl 3 (s.net.vpcs.map al))),(3,.ptr 3 0),(2,.ptr 1 0),(1,.ptr 0 0)])
   (fun k=>[.gone,.box 30 [.d (.v (.int .i64 0)),.d (.v (.slice none 0 0)),.d (.v (.slice none 0 0)),.d (.v (.slice none 0 0))],.gone,.box 30 [.d (.v (.int .i64 s.book.tick)),.d (.sl 9 (s.book.pools.map ah)),.own 5 k,.d (.sl 2 (s.net.links.map bG))],.gone,.row 55 3 k (ab ((s.net.vpcs.take k).map al))]) trivial ?_ ?_ ?_
  ·refine(ap 4 s.book.pools.length 62 9 (s.book.pools.map ah) rfl).trans ?_;simp only[iD,fz,gy,gj,g8,f9,aR,bS,bW,Xm,Xv,XM,XL,reduceIte,and_true,true_and,and_self,and_false,false_and,XG,XW,reduceCtorEq];refine(ap 2 1 76 2 (s.net.links.map bG) rfl).trans ?_;simp only[iD,fz,gy,gj,g8,f9,aR,bS,bW,Xm,Xv,XM,XL,reduceIte,and_true,true_and,and_self,and_false,false_and,XG,XW,reduceCtorEq];refine(au (by simp) 3 30 [.d (.v (.int .i64 s.book.tick)),.d (.sl 9 (s.book.pools.map ah)),.d (.v (.slice none 0 0)),.d (.sl 2 (s.net.links.map bG))] 2 55 3 rfl rfl rfl).trans ?_;refine eA.trans (aL 0 (by simp[bw])) ?_;exact wf
  ·intro k v hv hk _ C hC;have dM:(k:Int) < (s.net.vpcs.length:Int):=by omega
   have cR:=wi k (by omega);have yd:k+1≤100:=by omega
   have Xa:(Yg k s.net.vpcs).length=k:=by rw[Xq];omega
   have pw:=aY (Sx.out v (Xl hv));have h6:=pw.n6;have h8:=Xj pw.n8;have z3:=Ln.mk (ls:=[]) (jZ bp v.ranges (by have:=pw.n4;omega));clear pw;refine am ?_;refine bo ae ak v.subs (fun _=>True) (fun j=>[(62,.d (.v (.int .i64 j))),(61,.d (.v (.int .i64 v.subs.length))),(60,.d (.sl 4 (v.subs.map aT))),(8,.ptr 8 0),(49,.d (.v (.int .i64 k))),(48,.d (.v (.int .i64 s.net.vpcs.length))),(47,.d (.sl 3 (s.net.vpcs.map al))),(3,.ptr 3 0),(2,.ptr 1 0),(1,.ptr 0 0)])
    (fun j=>[.gone,.box 30 [.d (.v (.int .i64 0)),.d (.v (.slice none 0 0)),.d (.v (.slice none 0 0)),.d (.v (.slice none 0 0))],.gone,.box 30 [.d (.v (.int .i64 s.book.tick)),.d (.sl 9 (s.book.pools.map ah)),.own 5 k,.d (.sl 2 (s.net.links.map bG))],.gone,.row 55 3 k (ab ((s.net.vpcs.take k).map al)),.gone,.row 58 3 1 (ab (v.ranges.map bp)),.box 55 [.d (.v (.int .i64 v.id)),.own 7 1,.own 9 j],.row 71 4 j (ab ((v.subs.take j).map aT))]) trivial ?_ ?_ ?_
   ·refine(aL 6 (by simp)).trans ((au (by simp) 8 55 [.d (.v (.int .i64 v.id)),.own 7 1,.d (.v (.slice none 0 0))] 2 71 4 rfl rfl rfl).trans ?_);exact wf
   ·intro j u hu hj _ C2 jI;have ip:(j:Int) < (v.subs.length:Int):=by omega
    have kj:=wi j (by omega);have iO:=h8.out u (Xl hu);have jf:j+1≤100:=by omega
    have jc:(Yg j v.subs).length=j:=by rw[Xq];omega
    have xt:=Xj hu;have Ty:=Xj hv;clear hv;refine am ?_;refine bo ae ak u.faces (fun _=>True) (fun i=>(74,.d (.v (.int .i64 i)))::(73,.d (.v (.int .i64 u.faces.length)))::(72,.d (.sl 2 (u.faces.map cj)))::(11,.ptr 11 0)::[(62,.d (.v (.int .i64 j))),(61,.d (.v (.int .i64 v.subs.length))),(60,.d (.sl 4 (v.subs.map aT))),(8,.ptr 8 0),(49,.d (.v (.int .i64 k))),(48,.d (.v (.int .i64 s.net.vpcs.length))),(47,.d (.sl 3 (s.net.vpcs.map al))),(3,.ptr 3 0),(2,.ptr 1 0),(1,.ptr 0 0)])
     (fun i=>[.gone,.box 30 [.d (.v (.int .i64 0)),.d (.v (.slice none 0 0)),.d (.v (.slice none 0 0)),.d (.v (.slice none 0 0))],.gone,.box 30 [.d (.v (.int .i64 s.book.tick)),.d (.sl 9 (s.book.pools.map ah)),.own 5 k,.d (.sl 2 (s.net.links.map bG))],.gone,.row 55 3 k (ab ((s.net.vpcs.take k).map al)),.gone,.row 58 3 1 (ab (v.ranges.map bp)),.box 55 [.d (.v (.int .i64 v.id)),.own 7 1,.own 9 j],.row 71 4 j (ab ((v.subs.take j).map aT)),.gone,.box 71 [.d (.v (.int .i64 u.id)),.d (.v (.int .i64 u.at_.at_)),.d (.v (.int .i64 u.at_.len)),.own 12 i],.row 74 2 i (ab ((u.faces.take i).map cj))]) trivial ?_ ?_ ?_
    ·refine(aL 10 (by simp)).trans ((au (by simp) 11 71 [.d (.v (.int .i64 u.id)),.d (.v (.int .i64 u.at_.at_)),.d (.v (.int .i64 u.at_.len)),.d (.v (.slice none 0 0))] 3 74 2 rfl rfl rfl).trans ?_);exact wf
    ·intro i f hf hi _ C3 Qj;have Ny:(i:Int) < (u.faces.length:Int):=by omega
     have uJ:=wi i (by omega);have gY:=iO.2 f (Xl hf);have jm:i+1≤100:=by omega
     have VT:(Yg i u.faces).length=i:=by rw[Xq];omega
     have z4:=Ln.mk (ls:=[]) (fm f.addrs (by omega));refine am ?_;refine Qj _ _ trivial ((ap 14 1 3 1 (f.addrs.map cy) rfl).trans ?_);simp only[iD,fz,gy,gj,g8,f9,aR,bS,bW,Xm,Xv,XM,XL,reduceIte,and_true,true_and,and_self,and_false,false_and,XG,XW,reduceCtorEq];exact wf (hh:=by rw[ag hf,Xo,Xm,Xv,←aI];rfl)
    ·intro _ C3;rw[Xt];refine am ?_;refine jI _ _ trivial ((ap 12 u.faces.length 74 2 (u.faces.map cj) rfl).trans ?_);simp only[iD,fz,gy,gj,g8,f9,aR,bS,bW,Xm,Xv,XM,XL,reduceIte,and_true,true_and,and_self,and_false,false_and,XG,XW,reduceCtorEq];exact wf (hh:=by rw[ag xt.out,Xo,Xm,Xv,←aI];rfl)
   ·intro _ C2;rw[Xt];refine am ?_;refine hC _ _ trivial ((ap 9 v.subs.length 71 4 (v.subs.map aT) rfl).trans ?_);simp only[iD,fz,gy,gj,g8,f9,aR,bS,bW,Xm,Xv,XM,XL,reduceIte,and_true,true_and,and_self,and_false,false_and,XG,XW,reduceCtorEq];refine(ap 7 1 58 3 (v.ranges.map bp) rfl).trans ?_;simp only[iD,fz,gy,gj,g8,f9,aR,bS,bW,Xm,Xv,XM,XL,reduceIte,and_true,true_and,and_self,and_false,false_and,XG,XW,reduceCtorEq];exact wf (hh:=by rw[ag hv,Xo,Xm,Xv,←aI];rfl)
  ·intro _ C;rw[Xt];refine am ?_;refine eA.trans (aL 1 (by simp[bw])) ?_;refine eA.trans (aL 3 (by simp[bw])) ?_;exact wf
def Net.zero:Net:=⟨[],[]⟩
theorem qg {l:List Vpc}{id:Int}{o:Option Vpc}(h:l.find? (fun v=>v.id==id)=o):match o with|some v=>∃i,l.findIdx? (fun v=>v.id==id)=some i∧l[i]? =some v∧v.id=id|none=>l.findIdx? (fun v=>v.id==id)=none:=by
 cases o with
 |none=>
  rw[Yq]at h;exact Yn.2 fun v hv=>by simpa using h v hv
 |some v=>
  obtain⟨h1,i,hi,h2,h3⟩:=List.find?_eq_some_iff_getElem.1 h;refine⟨i,?_,by rw[Xk hi,h2],by simpa using h1⟩;rw[XI];exact⟨hi,by rw[h2];exact h1,fun j hj=>by simpa using h3 j hj⟩
def eR (n:Net)(id:Int):Option Nat:=n.vpcs.findIdx? fun v=>v.id==id
theorem eo {n:Net}{id:Int}{i:Nat}(h:eR n id=some i):∃v,n.vpcs[i]? =some v∧v.id=id∧i < n.vpcs.length∧fP n id=some v:=by
 cases hf:fP n id with
 |none=>have:=qg hf;unfold eR at h;rw[h]at this;cases this
 |some v=>
  obtain⟨j,h1,h2,h3⟩:=qg hf;unfold eR at h;rw[h]at h1;cases h1;exact⟨v,h2,h3,(Xn.1 h2).1,rfl⟩
theorem d5 {n:Net}{id:Int}(h:eR n id=none):fP n id=none:=by
 cases hf:fP n id with
 |none=>rfl
 |some v=>
  obtain⟨j,h1,-⟩:=qg hf;unfold eR at h;rw[h]at h1;cases h1
theorem Rb {α:Type}{key:α→Int}{l:List α}{i:Nat}{q:α}(hs:l.Pairwise fun a b=>key a < key b)(hq:l[i]? =some q):jg key (key q) l=i∧qU key (key q) l=true:=by
 obtain⟨hi,rfl⟩:=Xn.1 hq;have h1:jg key (key l[i]) l=i:=pZ (p' hi) (fun k hk MO=>XF.1 hs k i hk hi MO) (fun k hk MO=>by
  rcases XP i k with h|h
  ·have:=XF.1 hs i k hi hk h;omega
  ·obtain rfl:k=i:=by omega
   exact ZG _)
 refine⟨h1,?_⟩;unfold qU;rw[h1,hq];simp
theorem rz (n:Net)(id:Int)(gv gl i:Nat)(v:Vpc)(hv:n.vpcs[i]? =some v)(he:v.id=id)(h6:n.vpcs.length≤6)(hs:n.vpcs.Pairwise fun a b=>a.id < b.id):
 MSpec prog 45 [.ptr 0 0,.d (.v (.int .i64 id))] [.box 28 [.own 1 gv,.own 2 gl],.row 55 3 gv (ab (n.vpcs.map al)),.row 76 2 gl (ab (n.links.map bG))] (.tup [.rp 1 gv 3 i 0,.d (.v (.bool true))])
  [.box 28 [.own 1 gv,.own 2 gl],.row 55 3 gv (ab (n.vpcs.map al)),.row 76 2 gl (ab (n.links.map bG))]:=by
 have hb:=rl iS (fun v:Vpc=>v.id) n.vpcs id 112 [] (by omega) hs (fun v _=>uC v id);subst he;obtain⟨e1,e2⟩:=Rb (key:=fun v:Vpc=>v.id) hs hv;rw[e1,e2]at hb;have hi:=(Xn.1 hv).1;have Ny:(0:Int)≤(i:Int):=by omega
 clear hs e1 e2;replace hv:=Xj hv;refine mj func45 ntmps45 results45 ?_;refine am ?_<;>intros;exact bn rfl rfl
theorem oD (n:Net)(id:Int)(gv gl:Nat)(hf:fP n id=none)(h6:n.vpcs.length≤6)(hs:n.vpcs.Pairwise fun a b=>a.id < b.id):
 MSpec prog 45 [.ptr 0 0,.d (.v (.int .i64 id))] [.box 28 [.own 1 gv,.own 2 gl],.row 55 3 gv (ab (n.vpcs.map al)),.row 76 2 gl (ab (n.links.map bG))] (.d (.tup [.v (.pointer none),.v (.bool false)]))
  [.box 28 [.own 1 gv,.own 2 gl],.row 55 3 gv (ab (n.vpcs.map al)),.row 76 2 gl (ab (n.links.map bG))]:=by
 have hb:=rl iS (fun v:Vpc=>v.id) n.vpcs id 112 [] (by omega) hs (fun v _=>uC v id);have e2:qU (fun v:Vpc=>v.id) id n.vpcs=false:=by
  cases hB:qU (fun v:Vpc=>v.id) id n.vpcs with
  |false=>rfl
  |true=>
   unfold qU at hB;cases hq:n.vpcs[jg (fun v:Vpc=>v.id) id n.vpcs]? with
   |none=>rw[hq]at hB;cases hB
   |some v=>
    have:=KN hs hq (by rw[hq]at hB;simpa using hB);unfold fP at hf;rw[hf]at this;cases this
 rw[e2]at hb;clear hs e2 hf;refine mj func45 ntmps45 results45 ?_;refine am ?_<;>intros;exact bn rfl rfl
theorem Lx (id:Int):af prog 45 [.ept [.v (.slice none 0 0),.v (.slice none 0 0)],.v (.int .i64 id)] (.tup [.v (.pointer none),.v (.bool false)]):=by
 have hb:=(rl iS (fun v:Vpc=>v.id) [] id 112 [] (by simp) (by simp) (fun v _=>uC v id)).args (ds:=[.v (.slice none 0 0),.v (.int .i64 id),.clo 112 []]) ⟨ai.nil _,ai.refl _,ai.refl _,trivial⟩;have e:qU (fun v:Vpc=>v.id) id []=false:=rfl;rw[e]at hb;refine pj func45 ntmps45 results45 ?_;exact bc
def oE (n:Net)(id:Int):List Int:=(n.vpcs.filter fun v=>aW n v.id==aW n id).map (·.id)
theorem wj (x y:Lnk):([x.a,x.b]==[y.a,y.b])=decide (x=y):=by
 rw[Yi];cases x;cases y;simp
theorem wk (l:List Lnk)(x:Lnk)(hl:l.length≤1000000000):
 af prog 138 [.sl 2 (l.map bG),.agg (bG x)] (.v (.int .i64 (cz (fun y=>decide (x=y)) l))):=by
 refine pj func138 ntmps138 results138 ?_;refine am ?_<;>intros;refine bL ae ak (fun m e h=>∃k:Nat,k≤l.length∧(∀y∈l.take k,decide (x=y)=false)∧m=l.length - k∧e=[(8,.d (.v (.int .i64 k))),(7,.d (.v (.int .i64 l.length))),(4,.d (.v (.int .i64 0))),(3,.ptr 0 0),(0,.d (.sl 2 (l.map bG)))]∧h=[.box 76 ((bG x).map .d)]) _ _ _ ⟨0,XE _,by simp,rfl,rfl,rfl⟩ (wf) ?_;rintro m e h ⟨k,hk,cg,rfl,rfl,rfl⟩ CL mO;by_cases hlt:k < l.length
 ·obtain⟨y,hy⟩:∃y,l[k]? =some y:=⟨_,Xk hlt⟩;have ew:(k:Int) < (l.length:Int):=by omega
  have cR:=wi k (by omega);have he:=wj x y;cases hp:decide (x=y)with
  |false=>
   rw[hp]at he;have Bi:∀z∈l.take (k+1),decide (x=z)=false:=fun z hz=>by
    rw[ag hy]at hz;rcases X3.1 hz with hz|hz
    ·exact cg z hz
    ·rw[Yc]at hz;rw[hz];exact hp
   replace Bi:=Xj Bi;replace cg:=Xj cg;replace hp:=Xj hp;refine am ?_<;>intros;refine mO _ _ _ _ _ ?_ ⟨k+1,hlt,Bi.out,rfl,rfl,rfl⟩ (wf);omega
  |true=>
   rw[hp]at he;have ll:cz (fun y=>decide (x=y)) l=k:=fY hy hp cg;rw[ll];replace ll:=Xj ll;replace cg:=Xj cg;replace hp:=Xj hp;exact bc;all_goals exact ai.refl _
 ·obtain rfl:k=l.length:=by omega
  rw[Xt]at cg;rw[fZ cg];replace cg:=Xj cg;exact bc;all_goals exact ai.refl _
theorem xR (l:List Lnk)(x:Lnk)(hl:l.length≤1000000000):
 af prog 135 [.sl 2 (l.map bG),.agg (bG x)] (.v (.bool (l.any fun y=>decide (x=y)))):=by
 have hi:=wk l x hl;have iy:=fO (fun y=>decide (x=y)) l;refine pj func135 ntmps135 results135 ?_;exact bc;all_goals exact ai.refl _
theorem CX {α:Type}{enc:α→List D}(l:List α)(i j g:Nat)(hi:i < l.length)(hj:j=i+1):
 MSpec prog 139 [.own 0 g,.d (.v (.int .i64 i)),.d (.v (.int .i64 j))] [.row 76 2 g (ab (l.map enc))] (.own 0 (g+1)) [.row 76 2 (g+1) (ab ((l.eraseIdx i).map enc))]:=by
 have h1:((i:Int)==(j:Int))=false:=by simp;omega
 have bB:¬ab (l.map enc)=[]:=by cases l<;>simp[ab]at hi ⊢
 have hle:(i:Int)≤(j:Int):=by omega
 have hle2:(j:Int)≤(l.length:Int):=by omega
 have lS:(l.map enc).length=l.length:=XD _;have h2:=lE (ab (l.map enc)) i j l.length (by rw[aF,lS];exact hi) hj (by rw[aF,lS]);rw[aF,lS]at h2;have rX:=Xj hj;clear hj;have Jz:j≤l.length:=by have:=rX.out;omega
 have D8:min (l.length - j) (l.length - j)=l.length - j:=Zq _;have hlt:i+(l.length - j)≤l.length:=by have:=rX.out;omega
 have pk:l.length - (i+(l.length - j))=1:=by have:=rX.out;omega
 have i7:i+(l.length - j)+1≤l.length:=by have:=rX.out;omega
 have ut:¬ay (ab (l.map enc)) i (((ab (l.map enc)).drop j).take (l.length - j))=[]:=by
  intro h;rw[h]at h2;simp at h2;omega
 refine mj func139 ntmps139 results139 ?_;repeat' (first|(with_reducible refine And.intro ?_ ?_)|(with_reducible refine cn (fun _=>?_) (fun _=>?_))|(with_reducible refine aA (fun _=>?_) (fun _=>?_))|(with_reducible refine be (by kernel_rfl))|simp -dsimp only[go_sem,seval, *,h1,bB,Yo,Xq,XJ]|((with_reducible refine bf ?_);simp -dsimp only[go_sem,seval,h1,bB,Yo,Xq,XJ];first|refine aC (by first|assumption|fail) (by first|exact .inl rfl|exact .inr rfl) ?_|refine aB (by assumption) (by repeat(first|exact ai.refl _|exact ai.nil _|(refine ai.tup ?_)|(refine ai.agg ?_ rfl)|exact trivial|(refine And.intro ?_ ?_))) (by first|exact .inl rfl|exact .inr rfl) ?_)|omega|exact decide_eq_true (by omega)|exact ai.refl _)
 rw[fX];exact oe (by rw[lS];exact hi) rX.out lS.symm
theorem Ly (a b:Int):af prog 136 [.v (.int .i64 a),.v (.int .i64 b)] (.agg (bG (fG a b))):=by
 refine pj func136 ntmps136 results136 ?_;exact bc;all_goals exact ai.refl _
def gV (n:Net)(id:Int)(r:Rng):Net × Int:=
 if cN n≠0 then (Net.zero,cN n)else
 match eR n id with
 |none=>(Net.zero,5)
 |some i=>match n.vpcs[i]? with
  |none=>(Net.zero,5)
  |some v=>if (cK v r).2≠0 then (Net.zero,(cK v r).2)else if eC {n with vpcs:=n.vpcs.set i (cK v r).1}=true then ({n with vpcs:=n.vpcs.set i (cK v r).1},0)else (Net.zero,9)
theorem CY {v:Vpc}{r:Rng}(h:(cK v r).2=0):(cK v r).1.id=v.id∧(cK v r).1.ranges.length≤5:=by
 unfold cK at h ⊢;split
 ·rename_i h1;rw[if_pos h1]at h;exact absurd h h1
 ·rename_i h1;rw[if_neg h1]at h;have hk:=aY (by simpa using h1);split
  ·rename_i h2;rw[if_pos h2]at h;exact absurd h h2
  ·refine⟨rfl,?_⟩;simp only;rw[fi];have:=hk.n4;omega
theorem OM (n:Net)(id:Int)(r:Rng):af prog 68 [.agg (aK n),.v (.int .i64 id),.agg (bp r)] (.tup [.agg (aK (gV n id r).1),.v (.int .i64 (gV n id r).2)]):=by
 obtain⟨R,hR⟩:∃R,R=gV n id r:=⟨_,rfl⟩;rw[←hR];replace hR:=Xj hR;by_cases hc:cN n=0
 ·have bF:=gU.1 hc;have cU:=ry n hc;cases hx:eR n id with
  |none=>
   have gT:=oD n id n.vpcs.length 1 (d5 hx) bF.n6 bF.rise;have hr:R=(Net.zero,5):=by rw[hR.out];unfold gV;rw[if_neg (by simpa using hc),hx]
   rw[hr];clear hr hR bF hx hc;refine pj func68 ntmps68 results68 ?_;have z1z:=Ln.mk (ls:=[]) (cU);have z2z:=Ln.mk (ls:=[5,6,4]) (gT);refine am ?_<;>intros;all_goals exact dg
  |some i=>
   obtain⟨v,hv,he,hi,tj⟩:=eo hx;have gT:=rz n id n.vpcs.length 1 i v hv he bF.n6 bF.rise;have Uz:=OJ v r;replace he:=Xj he;have Ny:(0:Int)≤(i:Int):=by omega
   by_cases hg:(cK v r).2=0
   ·have Ns:=CY hg;have D2:=Ax {n with vpcs:=n.vpcs.set i (cK v r).1} (by have:=bF.n6;simp;omega) (by have:=bF.n12;simp;omega) (fun u hu=>by
     rcases Y4 hu with hu|rfl
     ·have:=(aY (bF.vp u hu)).n4;omega
     ·have:=Ns.2;omega) (by
     have e:(n.vpcs.set i (cK v r).1).map (·.id)=n.vpcs.map (·.id):=by
      rw[List.map_set,Ns.1];apply Yj;intro j;rw[Z3];split
      ·rename_i hj;subst hj;rw[XD,if_pos hi,Xz,hv];rfl
      ·rfl
     simp only[e];exact bF.ids)
    have aP:R=if eC {n with vpcs:=n.vpcs.set i (cK v r).1}=true then ({n with vpcs:=n.vpcs.set i (cK v r).1},0)else (Net.zero,9):=by
     rw[hR.out];unfold gV;rw[if_neg (by simpa using hc),hx];simp only[hv];rw[if_neg (by simpa using hg)]
    rw[hg]at Uz;clear hR bF hx hc Ns hg tj;generalize (cK v r).1=w at*;have bZ:(ab (n.vpcs.map al)).set i [.d (.v (.int .i64 w.id)),.d (.sl 3 (w.ranges.map bp)),.d (.sl 4 (w.subs.map aT))]=ab ((n.vpcs.set i w).map al):=bO al n.vpcs i w;cases hp:eC {n with vpcs:=n.vpcs.set i w} with
    |true=>
     rw[hp]at D2 aP;have hr:R=({n with vpcs:=n.vpcs.set i w},0):=by rw[aP];rfl
     rw[hr];clear hr aP hp;refine pj func68 ntmps68 results68 ?_;have z1z:=Ln.mk (ls:=[]) (cU);have z2z:=Ln.mk (ls:=[5,6,4]) (gT);exact bc;all_goals exact dg
    |false=>
     rw[hp]at D2 aP;have hr:R=(Net.zero,9):=by rw[aP];rfl
     rw[hr];clear hr aP hp;refine pj func68 ntmps68 results68 ?_;have z1z:=Ln.mk (ls:=[]) (cU);have z2z:=Ln.mk (ls:=[5,6,4]) (gT);refine am ?_<;>intros;all_goals exact dg
   ·have hr:R=(Net.zero,(cK v r).2):=by
     rw[hR.out];unfold gV;rw[if_neg (by simpa using hc),hx];simp only[hv];rw[if_pos hg]
    have PL:((cK v r).2 !=0)=true:=by simpa using hg
    rw[hr];clear hr hR bF hx hc hg tj;generalize (cK v r).1=w at*;generalize (cK v r).2=E at*;refine pj func68 ntmps68 results68 ?_;have z1z:=Ln.mk (ls:=[]) (cU);have z2z:=Ln.mk (ls:=[5,6,4]) (gT);refine am ?_<;>intros;all_goals exact dg
 ·have cU:=o6 n hc;have h1:(cN n !=0)=true:=by simpa using hc
  have hr:R=(Net.zero,cN n):=by rw[hR.out];unfold gV;rw[if_pos hc]
  rw[hr];replace hr:=Xj hr;refine pj func68 ntmps68 results68 ?_;have z1z:=Ln.mk (ls:=[]) (cU);refine am ?_<;>intros;all_goals exact dg
def iI (n:Net)(a b:Int):Net × Int:=
 if cN n≠0 then (Net.zero,cN n)else
 match n.links.findIdx? (fun l=>decide (fG a b=l))with
 |none=>(Net.zero,5)
 |some i=>({n with links:=n.links.eraseIdx i},0)
theorem ON (n:Net)(a b:Int):af prog 66 [.agg (aK n),.v (.int .i64 a),.v (.int .i64 b)] (.tup [.agg (aK (iI n a b).1),.v (.int .i64 (iI n a b).2)]):=by
 obtain⟨R,hR⟩:∃R,R=iI n a b:=⟨_,rfl⟩;rw[←hR];replace hR:=Xj hR;by_cases hc:cN n=0
 ·have bF:=gU.1 hc;have cU:=ry n hc;have jc:=Ly a b;have nP:=wk n.links (fG a b) (by have:=bF.n12;omega);unfold cz at nP;cases hf:n.links.findIdx? (fun l=>decide (fG a b=l))with
  |none=>
   rw[hf]at nP;have hr:R=(Net.zero,5):=by rw[hR.out];unfold iI;rw[if_neg (by simpa using hc),hf]
   rw[hr];clear hr hR hf hc bF;generalize fG a b=LK at*;refine pj func66 ntmps66 results66 ?_;have z1z:=Ln.mk (ls:=[]) (cU);refine am ?_<;>intros;all_goals exact dg
  |some i=>
   rw[hf]at nP;have hi:i < n.links.length:=(XI.1 hf).1;have j4:decide ((i:Int) < 0)=false:=by simp
   have hd:=CX (enc:=bG) n.links i (i+1) 1 hi rfl;have cR:IntKind.i64.wrap ((i:Int)+1)=((i+1:Nat):Int):=by rw[IntKind.wrap_i64];have:=bF.n12;omega
   have hr:R=({n with links:=n.links.eraseIdx i},0):=by rw[hR.out];unfold iI;rw[if_neg (by simpa using hc),hf]
   rw[hr];clear hr hR hf hc bF;generalize fG a b=LK at*;refine pj func66 ntmps66 results66 ?_;have z1z:=Ln.mk (ls:=[]) (cU);have z2z:=Ln.mk (ls:=[3]) (hd);exact bc;all_goals exact dg
 ·have cU:=o6 n hc;have h1:(cN n !=0)=true:=by simpa using hc
  have hr:R=(Net.zero,cN n):=by rw[hR.out];unfold iI;rw[if_pos hc]
  rw[hr];replace hr:=Xj hr;refine pj func66 ntmps66 results66 ?_;have z1z:=Ln.mk (ls:=[]) (cU);refine am ?_<;>intros;all_goals exact dg
section
open Go.Proofs Go.Shelf
theorem Rc (x y:SRow Ls 3)(W:World):Calls prog 134 #[.agg x.xs.toArray,.agg y.xs.toArray] W fun e w'=>e= .returned (.int .i64 (Ed x y))∧∃q os',w'=Sort.grow (W.drewN q) os':=by
 obtain⟨xs,xl,x1,a,xh⟩:=x;obtain⟨ys,yl,y1,b,yh⟩:=y;match xs,xl,ys,yl with
 |[u0,u1,u2],_,[v0,v1,v2],_=>
  simp[Ls]at xh yh;subst xh;subst yh;have hc:=iH a b;unfold Ed;simp only;generalize ez a b=r at*;replace hc:=Xj hc;clear x1 y1;go_enter func134,ntmps134
  go_wp2_with fail
  refine(hc.out _).mono ?_;rintro e w1 ⟨rfl,rfl⟩;go_wp2_with fail
  go_ret
  exact⟨cf rfl,0,_,by rw[Sort.alloc_eq_grow,Sort.alloc_eq_grow,Sort.grow_grow];rfl⟩
theorem Lz {l l':List Vpc}(g:Nat)(pM:l≠[])(hp:l'.Perm l)(hs:l'.Pairwise fun x y=>(fun v:Vpc=>v.id) x < (fun v:Vpc=>v.id) y)(cT:l.length≤1000000):
 MSpec prog 133 [.own 0 g,.d (.clo 134 [])] [.row 55 3 g (ab (l.map al))] (.d (.tup [])) [.row 55 3 g (ab (l'.map al))]:=
 uE sortVpc rfl (cZ func133 (by kernel_rfl) rfl) isAgg55 sizeOf55 (enters_of func134 (by kernel_rfl) rfl) Rc al (fun v:Vpc=>v.id) (fun _=>rfl) pM hp hs cT
end
structure GwB where
 n:Nat
 os:Array Obj
def EG (w w':World):Prop:=∃p:GwB,w'=Sort.grow (w.drewN p.n) p.os
theorem EG.refl (w:World):EG w w:=⟨⟨0,#[]⟩,by rw[Sort.grow_empty];rfl⟩
theorem EG.trans {w w' w'':World}(h:EG w w')(g:EG w' w''):EG w w'':=by
 obtain⟨⟨n,os⟩,rfl⟩:=h;obtain⟨⟨m,os'⟩,rfl⟩:=g;exact⟨⟨n+m,os++os'⟩,by show Sort.grow (Sort.grow ((w.drewN n).drewN m) os) os'=_;rw[Sort.grow_grow,World.drewN_drewN]⟩
theorem EG.drew (w:World):EG w w.drew:=⟨⟨1,#[]⟩,by rw[Sort.grow_empty];rfl⟩
theorem EG.alloc (w:World)(o:Obj):EG w (w.alloc o):=⟨⟨0,#[o]⟩,Sort.alloc_eq_grow w o⟩
theorem EG.ext {w w':World}(h:EG w w'):dA w w':=by
 obtain⟨⟨n,os⟩,rfl⟩:=h;exact⟨rfl,rfl,rfl,by simp[Sort.grow],fun k hk=>by simp[Sort.grow,Array.getElem?_append,hk]⟩
def LB (W:World)(R:Value→Prop)(e:Ending)(w':World):Prop:=(∃u,e= .returned u∧R u)∧EG W w'
def OO (P:Program)(W w:World)(R:Value→Prop):Result Next→Prop
 | .ok (.value u) w'=>w'=w∧R u
 | .ok .skip w'=>w'=w∧R undef
 | .ok (.enter f args) w'=>w'=w∧Calls P f args w (LB W R)
 |_=>False
attribute [go_sem] OO
section
variable {P:Program}{W:World}
theorem Fc {w:World}{v:Value}{r:Result Next}(h:∀R:Value→Prop,R v→OO P W w R r):Oper.quietUpon P (EG W) w v r:=by
 have h1:=h (·=v) rfl;unfold OO at h1;unfold Oper.quietUpon;split at h1
 ·exact h1
 ·exact⟨h1.1,h1.2.symm⟩
 ·refine⟨h1.1,h1.2.mono ?_⟩;rintro e w' ⟨⟨u,rfl,rfl⟩,hw⟩;exact⟨rfl,hw⟩
 ·exact h1.elim
end
section
variable {P:Program}{ops:Array Oper}{Q:Exit→Act→World→Prop}
def No (P:Program)(ops:Array Oper)(Q:Exit→Act→World→Prop):Nat→Array Bool→Act→World→Prop
 |0,listed,a,W=>Region.ready .any ops listed=[]∧∀w,EG W w→Q .normal a w
 |fuel+1,listed,a,W=>∀w,EG W w→(Region.ready .any ops listed=[]→Q .normal a w)∧
  ∀i∈Region.ready .any ops listed,wpOp P ops Q i (fun a' w'=>EG w w'∧No P ops Q fuel (listed.setIfInBounds i true) a' w') a w
theorem No.world:∀{fuel:Nat}{listed:Array Bool}{a:Act}{W W':World},EG W W'→No P ops Q fuel listed a W→No P ops Q fuel listed a W'
 |0,_,_,_,_,hx,h=>⟨h.1,fun w hw=>h.2 w (EG.trans hx hw)⟩
 |_+1,_,_,_,_,hx,h=>fun w hw=>h w (EG.trans hx hw)
theorem No.any:∀{fuel:Nat}{listed:Array Bool}{a:Act}{W:World},No P ops Q fuel listed a W→wpAny P .any ops Q fuel listed a W
 |0,_,_,_,h=>⟨h.1,h.2 _ (EG.refl _)⟩
 |_+1,_,_,W,h=>⟨(h W (EG.refl _)).1,fun i hi=>wpOp_mono (fun _ _ h'=>No.any h'.2) ((h W (EG.refl _)).2 i hi)⟩
def Ee (P:Program)(ops:Array Oper)(W:World)(o:Oper)(v:Value)(a:Act):Prop:=
 (Region.wanted o (yielded ops a.tmps)=true∧∀w,EG W w→o.quietAt P a (EG w) w v)∨
 (Region.wanted o (yielded ops a.tmps)=false∧v=undef)
theorem Ee.world {W W':World}{o:Oper}{v:Value}{a:Act}(hx:EG W W')(h:Ee P ops W o v a):Ee P ops W' o v a:=
 h.imp (fun⟨h1,h2⟩=>⟨h1,fun w hw=>h2 w (EG.trans hx hw)⟩) id
theorem Ee.of_same {W:World}{o:Oper}{v:Value}{a a':Act}(hy:Ee P ops W o v a)(he:execOp a'.eval o=execOp a.eval o)
 (hw:Region.wanted o (yielded ops a'.tmps)=Region.wanted o (yielded ops a.tmps)):Ee P ops W o v a':=by
 unfold Ee Oper.quietAt at*;rw[he,hw];exact hy
theorem Ee.wpOp {W:World}{i:Nat}{o:Oper}{v:Value}{a:Act}(hi:ops[i]? =some o)(hy:Ee P ops W o v a){K:Act→World→Prop}{w:World}(hw:EG W w)(h:∀w',EG w w'→K (a.put o.dst v) w'):wpOp P ops Q i K a w:=by
 unfold Go.wpOp;simp only[hi];rcases hy with⟨A7,hv⟩|⟨A7,rfl⟩
 ·simp only[A7,if_true];left;exact Oper.wp_of_quiet (C:=EG w) (K:=fun a'=>a'=a.put o.dst v) (EG.refl _) (fun a' w' hw' ha=>ha ▸ h w' hw') ⟨v,fun w'' hw''=>by
   have:=hv w'' (EG.trans hw hw'');unfold Oper.quietAt at*;generalize (execOp a.eval o).run P w''=r at*;cases r with
   |ok n u=>cases n<;>simp only[Oper.quietUpon]at this ⊢<;>first|exact this|exact⟨this.1,this.2.mono fun _ _ ⟨e1,e2⟩=>⟨e1,EG.trans hw'' e2⟩⟩
   |halt x u=>simp only[Oper.quietUpon]at this,rfl⟩
 ·simp only[A7,YB,if_false];exact h w (EG.refl _)
theorem Fd {W:World}{j:Nat}{oi oj:Oper}{v:Value}(hj:ops[j]? =some oj)(Hc:oi.apart ops oj=true)
 (Ei:∀cs b,oi.op≠ .select cs b) (Qf:∀cs b,oj.op≠ .select cs b)
 (hQ:∀c a w,Q (.panic c) (a.put oi.dst v) w→Q (.panic c) a w) {K:Act→World→Prop}{a:Act}{w:World}
 (hy:Ee P ops W oi v a) (h:wpOp P ops Q j K (a.put oi.dst v) w):
 wpOp P ops Q j (fun a' w'=>Ee P ops W oi v a'∧K (a'.put oi.dst v) w') a w:=by
 obtain⟨h1,h2,h3⟩:=Oper.apart_spec Hc;have keep:∀(a:Act),Ee P ops W oi v a→∀u,Ee P ops W oi v (a.put oj.dst u):=fun a hy u=>
  hy.of_same (execOp_put oi Ei a oj.dst u h3) (wanted_put oi a oj.dst u h3)
 have keepD:∀d,Ee P ops W oi v {a with defers:=d::a.defers}:=fun d=>hy.of_same rfl rfl;unfold wpOp at*;simp only[hj]at*;rw[wanted_put oj a oi.dst v h1]at h;split
 ·rename_i hw;simp only[hw,if_true]at h;rcases h with h|⟨t7,DX⟩
  case inr=>exact .inr ⟨by unfold Oper.asks at*;rw[execOp_put oj Qf a oi.dst v h1]at t7;exact t7,DX⟩
  refine .inl ?_;unfold Oper.wp at*;rw[execOp_put oj Qf a oi.dst v h1]at h;generalize (execOp a.eval oj).run P w=r at*;cases r with
  |ok n w'=>
   cases n<;>simp only[Oper.upon]at h ⊢
   case value u=>exact⟨keep a hy u,by rw[←Act.put_comm a v u h2];exact h⟩
   case skip=>exact⟨keep a hy _,by rw[←Act.put_comm a v undef h2];exact h⟩
   case defer d=>
    refine⟨keep _ (keepD d) _,?_⟩;rw[←Act.put_comm _ v undef h2,←Act.put_defers];exact h
   case enter f args=>
    refine Calls.mono h fun e w'' he=>?_;cases e with
    |returned u=>exact⟨keep a hy u,by rw[←Act.put_comm a v u h2];exact he⟩
    |panicked c=>exact hQ _ _ _ he
    |outgrown=>exact he
   case row row args=>exact Rows.mono h fun u w'' he=>⟨keep a hy u,by rw[←Act.put_comm a v u h2];exact he⟩
  |halt x w'=>
   cases x<;>simp only[Oper.upon]at h ⊢
   case panic u=>exact hQ _ _ _ h
 ·rename_i hw;simp only[hw]at h;exact⟨keep a hy _,by rw[←Act.put_comm a v undef h2];exact h⟩
theorem Ix {i:Nat}{oi:Oper}{v:Value}(hi:ops[i]? =some oi)(DY:∀(j:Nat) (o:Oper) cs b,ops[j]? =some o→o.op≠ .select cs b)
 (hQ:∀c a w,Q (.panic c) (a.put oi.dst v) w→Q (.panic c) a w):
 ∀(fuel:Nat) (listed:Array Bool) (a:Act) (W:World),
  (∀j oj,ops[j]? =some oj→j≠i→listed.getD j true=false→(∀e∈oj.after,Region.binds .any e=true→e.on≠i)→oi.apart ops oj=true)→
  i∈Region.ready .any ops listed→Ee P ops W oi v a→
  No P ops Q fuel (listed.setIfInBounds i true) (a.put oi.dst v) W→No P ops Q (fuel+1) listed a W:=by
 intro fuel;induction fuel with
 |zero=>
  intro listed a W _ hr hy H w hw;refine⟨fun h=>(by rw[h]at hr;cases hr),fun j hj=>?_⟩;by_cases j6:j=i
  ·subst j6;exact hy.wpOp hi hw fun w' hw'=>⟨hw',H.world (EG.trans hw hw')⟩
  ·have:=ready_mono hj j6;rw[H.1]at this;cases this
 |succ fuel ih=>
  intro listed a W t8 hr hy H w hw;refine⟨fun h=>(by rw[h]at hr;cases hr),fun j hj=>?_⟩;by_cases j6:j=i
  ·subst j6;exact hy.wpOp hi hw fun w' hw'=>⟨hw',H.world (EG.trans hw hw')⟩
  ·have h1:=(H w hw).2 j (ready_mono hj j6);obtain⟨DZ,oj,MM,bP⟩:=mem_ready.1 hj;have MN:∀e∈oj.after,Region.binds .any e=true→e.on≠i:=fun e he hb heq=>by
    have h1:=bP e he hb;have h0:=(mem_ready.1 hr).1;rw[heq]at h1;rcases XP i listed.size with h'|h'
    ·simp[h']at h0 h1;rw[h0]at h1;cases h1
    ·simp[YM h']at h1
   have h2:=Fd MM (t8 j oj MM j6 DZ MN) (fun cs b=>DY i oi cs b hi) (fun cs b=>DY j oj cs b MM) hQ (hy.world hw) h1;have xa:∀k ok,ops[k]? =some ok→k≠i→(listed.setIfInBounds j true).getD k true=false→
    (∀e∈ok.after,Region.binds .any e=true→e.on≠i)→oi.apart ops ok=true:=fun k ok hk MO Qg cg=>by
    refine t8 k ok hk MO ?_ cg;by_cases A8:j=k
    ·subst A8;exact DZ
    ·rw[getD_set_ne true A8]at Qg;exact Qg
   refine wpOp_mono (fun a' w' h3=>⟨h3.2.1,ih (listed.setIfInBounds j true) a' w' xa (ready_mono hr (Ne.symm j6)) (h3.1.world h3.2.1) ?_⟩) h2;rw[Array.setIfInBounds_comm _ _ j6];exact h3.2.2
def ni (P:Program)(ops:Array Oper)(Q:Exit→Act→World→Prop):List Oper→Nat→Array Bool→Act→World→Prop
 |[],_,_,a,W=>∀w,EG W w→Q .normal a w
 |o::rest,k,listed,a,W=>
  (∃v,Ee P ops W o v a∧ni P ops Q rest (k+1) (listed.setIfInBounds k true) (a.put o.dst v) W)∨
  (Region.ready .any ops listed=[k]∧Region.wanted o (yielded ops a.tmps)=true∧∀w,EG W w→o.wp P a w (fun a' w'=>EG w w'∧ni P ops Q rest (k+1) (listed.setIfInBounds k true) a' w') Q)
theorem qh (hs:Region.noSelect ops=true)(hQ:∀c a d v w,Q (.panic c) (a.put d v) w→Q (.panic c) a w):∀(l:List Oper) (k:Nat) (listed:Array Bool) (a:Act) (W:World),(∀j,l[j]? =ops[k+j]?)→
 Region.lexFrom .any ops l.length k listed=true→ni P ops Q l k listed a W→No P ops Q l.length listed a W
 |[],_,_,_,_,_,hB,h=>⟨by simpa[Region.lexFrom]using hB,h⟩
 |o::l,k,listed,a,W,hl,hB,h=>by
  have h0:ops[k]? =some o:=by simpa using (hl 0).symm
  simp only[XA,Region.lexFrom,Xy]at hB;obtain⟨⟨hr,hf⟩,hB'⟩:=hB;have hl':∀j,l[j]? =ops[k+1+j]? :=fun j=>by have:=hl (j+1);simpa[ZF,Nat.add_comm 1 j]using this
  rcases h with⟨v,hy,hK⟩|⟨eS,A7,hK⟩
  ·exact Ix h0 (Region.noSelect_spec hs) (fun c a w=>hQ c a _ _ w) l.length listed a W (Region.free_spec h0 hf) (by simpa using hr) hy (qh hs hQ l (k+1) _ _ _ hl' hB' hK)
  ·intro w hw;refine⟨fun h=>by rw[eS]at h;simp at h,fun i hi=>?_⟩;rw[eS]at hi;obtain rfl:i=k:=by simpa using hi
   unfold wpOp;simp only[h0,A7,if_true];left;exact Oper.wp_mono (fun a' w' h'=>⟨h'.1,qh hs hQ l (i+1) _ _ _ hl' hB' h'.2⟩) (hK w hw)
theorem CZ {id:Nat}{a:Act}{w:World}{l:List Oper}(hm:P.follows .mixedOrders=true)(hB:Region.lexB .any l.toArray=true)(hQ:∀c a d v w,Q (.panic c) (a.put d v) w→Q (.panic c) a w)
 (h:ni P l.toArray Q l 0 (Y5 l.length false) a w):(Code.region id l.toArray true).wp P Q a w:=by
 simp only[Region.lexB,Xy]at hB;refine wp_region_any hm ?_;have h2:=qh hB.1 hQ l 0 (Y5 l.length false) a w (by simp) (by simpa using hB.2) h;have h3:=(h2.world (EG.drew w:EG w w.drew)).any;simpa using h3
section
variable {o:Oper}{rest:List Oper}{k:Nat}{listed:Array Bool}{a:Act}{W:World}
theorem LC (h:∀w,EG W w→Q .normal a w):ni P ops Q [] k listed a W:=h
theorem zn {v:Value}(hw:Region.wanted o (yielded ops a.tmps)=true)(h:∀w,EG W w→∀R:Value→Prop,R v→OO P w w R ((execOp a.eval o).run P w))
 (hn:ni P ops Q rest (k+1) (listed.setIfInBounds k true) (a.put o.dst v) W):ni P ops Q (o::rest) k listed a W:=
 .inl ⟨v,.inl ⟨hw,fun w hw=>Fc (h w hw)⟩,hn⟩
theorem wl (hr:Region.ready .any ops listed=[k])(hw:Region.wanted o (yielded ops a.tmps)=true)
 (h:∀w,EG W w→∀K:Act→World→Prop,(∀a' w',EG w w'→ni P ops Q rest (k+1) (listed.setIfInBounds k true) a' w'→K a' w')→o.wp P a w K Q):ni P ops Q (o::rest) k listed a W:=
 .inr ⟨hr,hw,fun w hw=>h w hw _ fun _ _ h1 h2=>⟨h1,h2⟩⟩
end
theorem tM {f:FuncId}{args:Array Value}{w:World}{R:Value→Prop}{v:Value}(h:Calls P f args w fun e w'=>e= .returned v∧w=w')(hR:R v):Calls P f args w (LB w R):=
 h.mono fun _ _ ⟨he,hx⟩=>⟨⟨v,he,hR⟩,hx ▸ EG.refl _⟩
end
section
open Go.Proofs Go.Shelf
def fJ (l:Lnk):Int:=l.a*65537+l.b
def Wo (xs:List Value)(k:Int):Prop:=∃a b:Int,xs=[.int .i64 a,.int .i64 b]∧k=a*65537+b∧1≤b∧b≤65536
@[reducible] def Iy:Inhabited (SRow Wo (1+1)):=⟨⟨[.int .i64 0,.int .i64 1],rfl,fun v hv=>by simp at hv;rcases hv with rfl|rfl<;>rfl,1,0,1,rfl,by omega,by omega,by omega⟩⟩
theorem C4 {a b c d:Int}(h1:1≤b)(h2:b≤65536)(h3:1≤d)(h4:d≤65536):CD [ez a c,ez b d]=ez (a*65537+b) (c*65537+d):=by
 simp only[CD,ez];repeat' split
 all_goals omega
theorem OP (x y:Int)(b:Nat)(W:World)(hx:W.cell? ⟨b,0,none⟩=some (.int .i64 x))(hy:W.cell? ⟨b,1,none⟩=some (.int .i64 y)):
 Calls prog 187 #[.slice (some ⟨b,0,none⟩) 2 2] W fun e w'=>e= .returned (.int .i64 (CD [x,y]))∧w'=W:=by
 have lb:=dF hx;go_enter func187,ntmps187
 go_wp2_with fail
 go_loopw [5,8] (fun _ s8 wr=>∃k:Nat,s8= .int .i64 k∧((k=0)∨(k=1∧x=0)∨(k=2∧x=0∧y=0))∧wr=W) (fun _ s8 _=>2 - (intOf s8).toNat)
 case atStart=>exact⟨0,rfl,.inl rfl,rfl⟩
 case round=>
  obtain⟨k,rfl,hk,rfl⟩:=hrel;rcases hk with rfl|⟨rfl,h0⟩|⟨rfl,h0,h1⟩
  ·by_cases h0:x=0
   ·have hb:(x !=0)=false:=by simp[h0]
    replace h0:=Xj h0;go_wp2_with fail
    go_roundw
    case rel=>exact⟨1,by go_num,.inr (.inl ⟨rfl,h0.out⟩),trivial⟩
    case measure=>simp[intOf]
   ·have hb:(x !=0)=true:=by simpa using h0
    replace h0:=Xj h0;go_wp2_with fail
    go_ret
    exact⟨cf (by simp[CD,h0.out]),rfl⟩
  ·by_cases h1:y=0
   ·have hb:(y !=0)=false:=by simp[h1]
    replace h0:=Xj h0;replace h1:=Xj h1;go_wp2_with fail
    go_roundw
    case rel=>exact⟨2,by go_num,.inr (.inr ⟨rfl,h0.out,h1.out⟩),trivial⟩
    case measure=>simp[intOf]
   ·have hb:(y !=0)=true:=by simpa using h1
    replace h0:=Xj h0;replace h1:=Xj h1;go_wp2_with fail
    go_ret
    exact⟨cf (by simp[CD,h0.out,h1.out]),rfl⟩
  ·replace h0:=Xj h0;replace h1:=Xj h1;go_wp2_with fail
   go_ret
   exact⟨cf (by simp[CD,h0.out,h1.out]),rfl⟩
theorem OQ (x y:SRow Wo (1+1))(W:World):Calls prog 98 #[.agg x.xs.toArray,.agg y.xs.toArray] W fun e w'=>e= .returned (.int .i64 (Ed x y))∧∃q os',w'=Sort.grow (W.drewN q) os':=by
 obtain⟨xs,xl,x1,kx,a,b,rfl,rfl,jf,jm⟩:=x;obtain⟨ys,yl,y1,ky,c,d,rfl,rfl,DT,zM⟩:=y;unfold Ed;simp only;rw[←C4 jf jm DT zM];have h1:∀W,Calls prog 113 #[.int .i64 a,.int .i64 c] W fun e w'=>e= .returned (.int .i64 (ez a c))∧W=w':=fun W=>(iH a c W).mono fun _ _ ⟨e1,e2⟩=>⟨e1,e2.symm⟩;have h2:∀W,Calls prog 113 #[.int .i64 b,.int .i64 d] W fun e w'=>e= .returned (.int .i64 (ez b d))∧W=w':=fun W=>(iH b d W).mono fun _ _ ⟨e1,e2⟩=>⟨e1,e2.symm⟩;generalize ez a c=A at*;generalize ez b d=B at*;clear x1 y1 xl yl jf jm DT zM;have key:Calls prog 98 #[.agg #[.int .i64 a,.int .i64 b],.agg #[.int .i64 c,.int .i64 d]] W fun e w'=>e= .returned (.int .i64 (CD [A,B]))∧EG W w':=by
  have RB:EG W ((W.alloc (.cells #[.int .i64 a,.int .i64 b] 76)).alloc (.cells #[.int .i64 c,.int .i64 d] 76)):=(EG.alloc W _).trans (EG.alloc _ _);go_enter func98,ntmps98
  go_wp2_with fail
  refine CZ (by kernel_rfl) (by kernel_rfl) (fun _ _ d _ _ h=>by cases d<;>exact h) ?_;repeat(apply zn;(first|exact bx rfl|exact bD rfl rfl rfl (by with_reducible rfl));intro wq cO R hR;(have cO:=cO.ext;(have ei:=(aJ cO).1;(try simp only[Xr,aa,Xw,Xs]at ei));go_simp;first|exact hR|(go_at_call 113;with_reducible (first|exact tM (h1 _) hR|exact tM (h2 _) hR)));simp only[Act.put,Xp,Xu,Xx])
  refine wl (by kernel_rfl) (bx rfl) (fun w3 lV K2 hK=>?_);go_simp
  refine hK _ _ (EG.alloc _ _) ?_;clear hK K2;refine wl (by kernel_rfl) (bx rfl) (fun w4 Be K3 hK=>?_);have Jh:w4.cell? ⟨w3.heap.size,0,none⟩=some (.int .i64 A):=bV Be.ext (by simp);have Pz:w4.cell? ⟨w3.heap.size,1,none⟩=some (.int .i64 B):=bV Be.ext (by simp);go_simp
  go_at_call 187
  refine(OP A B _ w4 Jh Pz).mono ?_;rintro e w5 ⟨rfl,rfl⟩;go_simp
  refine hK _ _ (EG.refl _) ?_;clear hK K3;apply zn
  ·exact bx rfl
  ·intro wq cO R hR;go_simp
   exact hR
  simp only[Act.put,Xp,Xu,Xx];refine LC ?_;intro w6 hw6;go_wp2_with fail
  go_ret
  exact⟨cf rfl,RB.trans (lV.trans ((EG.alloc _ _).trans (Be.trans hw6)))⟩
 refine key.mono fun e w' ⟨he,⟨⟨q,os⟩,hw⟩⟩=>⟨he,q,os,hw⟩
theorem Iz {l l':List Lnk}(g:Nat)(hb:∀x∈l,1≤x.b∧x.b≤65536)(pM:l≠[])(hp:l'.Perm l)(hs:l'.Pairwise fun x y=>fJ x < fJ y)(cT:l.length≤1000000):
 MSpec prog 137 [.own 0 g,.d (.clo 98 [])] [.row 76 2 g (ab (l.map bG))] (.d (.tup [])) [.row 76 2 g (ab (l'.map bG))]:=
 GI Iy sortLink rfl (cZ func137 (by kernel_rfl) rfl) isAgg76 sizeOf76 (enters_of func98 (by kernel_rfl) rfl) OQ bG fJ (fun x hx vs hl hr=>by
  match vs,hl with
  |[u,v],_=>
   obtain⟨M,w,r0⟩:=hr 0 _ u rfl rfl;obtain⟨M2,w2,r1⟩:=hr 1 _ v rfl rfl;cases r0;cases r1;exact⟨x.a,x.b,rfl,rfl,hb x hx⟩) pM hp hs cT
end
def im (n:Net)(id:Int):Int:=if cI id=false then 3 else if (fP n id).isSome=true then 6 else if n.vpcs.length=6 then 2 else 0
def iJ (n:Net)(id:Int):Net × Int:=
 if cN n≠0 then (Net.zero,cN n)else if im n id≠0 then (Net.zero,im n id)else ({n with vpcs:=di (·.id) ⟨id,[],[]⟩ n.vpcs},0)
theorem wm {n:Net}{id:Int}(h:fP n id=none):∀v∈n.vpcs,v.id≠id:=fun v hv=>by
 have:=Yq.1 h v hv;simpa using this
theorem OR (n:Net)(id:Int):af prog 64 [.agg (aK n),.v (.int .i64 id)] (.tup [.agg (aK (iJ n id).1),.v (.int .i64 (iJ n id).2)]):=by
 obtain⟨R,hR⟩:∃R,R=iJ n id:=⟨_,rfl⟩;rw[←hR];replace hR:=Xj hR;by_cases hc:cN n=0
 ·have bF:=gU.1 hc;have cU:=ry n hc;have VU:((n.vpcs.length:Int)==6)=decide (n.vpcs.length=6):=by rw[Yi];simp;omega
  cases hx:eR n id with
  |some i=>
   obtain⟨v,hv,he,hi,tj⟩:=eo hx;have gT:=rz n id n.vpcs.length 1 i v hv he bF.n6 bF.rise;have hr:R=(Net.zero,if cI id=false then 3 else 6):=by
    rw[hR.out];unfold iJ im;rw[if_neg (by simpa using hc),tj];cases cI id<;>simp
   rw[hr];have hid:cI id=(decide (1≤id)&&decide (id≤65536)):=rfl;rw[hid];clear hr hR bF hx hc tj hv he hid;refine pj func64 ntmps64 results64 ?_;have z1z:=Ln.mk (ls:=[]) (cU);have z2z:=Ln.mk (ls:=[4,5,3]) (gT);refine Aq ?_ ?_ ?_<;>intros;all_goals first
    |(exfalso;grind)
    |(rw[if_pos (by grind)];exact dg)
    |(rw[if_neg (by grind)];exact dg)
  |none=>
   have gT:=oD n id n.vpcs.length 1 (d5 hx) bF.n6 bF.rise;have hn:=d5 hx;by_cases bI:im n id≠0
   ·have hr:R=(Net.zero,im n id):=by rw[hR.out];unfold iJ;rw[if_neg (by simpa using hc),if_pos bI]
    have nN:im n id=if cI id=false then 3 else if n.vpcs.length=6 then 2 else 0:=by unfold im;rw[hn];rfl
    rw[hr];have hid:cI id=(decide (1≤id)&&decide (id≤65536)):=rfl;rw[nN]at bI ⊢;rw[hid]at bI ⊢;clear hr hR bF hx hc hid hn nN;replace bI:=Xj bI;refine pj func64 ntmps64 results64 ?_;repeat' (first|(with_reducible refine And.intro ?_ ?_)|(with_reducible refine cn (fun _=>?_) (fun _=>?_))|(with_reducible refine aA (fun _=>?_) (fun _=>?_))|(with_reducible refine be (by kernel_rfl))|simp -dsimp only[go_sem,seval, *,aK,VU,undef]|((with_reducible refine bf ?_);simp -dsimp only[go_sem,seval,aK,VU,undef];first|refine aC (by first|assumption|fail) (by first|exact .inl rfl|exact .inr rfl) ?_|(refine aB (by assumption) ?_ ?_ ?_;(solve|(repeat(first|exact ai.refl _|exact ai.nil _|(refine ai.tup ?_)|(refine ai.agg ?_ rfl)|exact trivial|(refine And.intro ?_ ?_))));(solve|exact .inl rfl|exact .inr rfl)))|(refine aX [] (cU) ?_ ?_ ?_ ?_ ?_ ?_;(solve|rfl|simp only[go_sem,seval,aK]);(solve|rfl);(solve|decide);(solve|simp);(solve|simp only[go_sem,seval,ax,aK]))|(refine aX [4,5,3] (gT) ?_ ?_ ?_ ?_ ?_ ?_;(solve|rfl|simp only[go_sem,seval,aK]);(solve|rfl);(solve|decide);(solve|simp);(solve|simp only[go_sem,seval,ax,aK]))|omega|exact decide_eq_true (by omega)|exact ai.refl _)
    all_goals have jm:=bI.out
    all_goals clear bI gT cU
    all_goals first
     |(exfalso;grind)
     |(rw[if_pos (by grind)];exact dg)
     |(rw[if_neg (by grind),if_pos (by grind)];exact dg)
   ·have hr:R=({n with vpcs:=di (·.id) ⟨id,[],[]⟩ n.vpcs},0):=by rw[hR.out];unfold iJ;rw[if_neg (by simpa using hc),if_neg bI]
    have hg:im n id=0:=by simpa using bI
    obtain⟨g1,g2⟩:cI id=true∧n.vpcs.length≠6:=by unfold im at hg;rw[hn]at hg;grind
    have g3:1≤id∧id≤65536:=by simpa[cI]using g1
    have h6:=bF.n6;have nJ:=Lz (l:=n.vpcs++[⟨id,[],[]⟩]) (l':=di (·.id) ⟨id,[],[]⟩ n.vpcs) (n.vpcs.length+1) (by simp) (f6 _ _ _) (gB bF.rise fun v hv=>wm hn v hv) (by simp;omega);have JD:((n.vpcs.length:Int)==6)=false:=by simp;omega
    have jf:n.vpcs.length+1≤100:=by omega
    have jb:decide (id < 1)=false:=by simp;omega
    have j7:decide (id>65536)=false:=by simp;omega
    simp only[Xo,Xm,Xv]at nJ;have nJ:=nJ.leh (qV (A:=n.vpcs.map al) (B:=[]) (r:=[.v (.int .i64 id),.v (.slice none 0 0),.v (.slice none 0 0)]) dg) (by have:=kN (enc:=al) (fun _=>rfl) (n.vpcs++[⟨id,[],[]⟩]);simpa using this) (az _ _);rw[hr];clear hr hR bF hx hc hn bI hg g1 g2 g3 VU;refine pj func64 ntmps64 results64 ?_;have z1z:=Ln.mk (ls:=[]) (cU);have z2z:=Ln.mk (ls:=[4,5,3]) (gT);have z3z:=Ln.mk (ls:=[5]) (nJ);exact bc;all_goals exact dg
 ·have cU:=o6 n hc;have UA:=Lx id;have h1:(cN n !=0)=true:=by simpa using hc
  have hr:R=(Net.zero,cN n):=by rw[hR.out];unfold iJ;rw[if_pos hc]
  rw[hr];replace hr:=Xj hr;refine pj func64 ntmps64 results64 ?_;have z1z:=Ln.mk (ls:=[]) (cU);refine am ?_<;>intros;all_goals exact dg
def dW (n:Net)(a b:Int):Int:=
 if a=b then 3 else if fP n a=none∨fP n b=none then 5 else if fG a b∈n.links then 6 else
 if eC {n with links:=di fJ (fG a b) n.links}=false then 9 else if n.links.length+1>12 then 2 else 0
def jk (n:Net)(a b:Int):Net × Int:=
 if cN n≠0 then (Net.zero,cN n)else if dW n a b≠0 then (Net.zero,dW n a b)else ({n with links:=di fJ (fG a b) n.links},0)
theorem NetOK.bd {n:Net}(h:NetOK n){x:Int}(hx:x∈n.vpcs.map (·.id)):1≤x∧x≤65536:=by
 obtain⟨v,hv,rfl⟩:=XQ.1 hx;have:=(aY (h.vp v hv)).id;simpa[cI]using this
theorem LD {l m:Lnk}(h1:1≤l.b∧l.b≤65536)(h2:1≤m.b∧m.b≤65536):rj l m=ez (fJ l) (fJ m):=C4 h1.1 h1.2 h2.1 h2.2
theorem NetOK.lsort {n:Net}(h:NetOK n):n.links.Pairwise fun a b=>fJ a < fJ b:=by
 have hb:∀l∈n.links,1≤l.b∧l.b≤65536:=fun l hl=>h.bd (h.ids l hl).2;have:=(Ay n.links).1 h.rk;have step:∀j (hj:j+1 < n.links.length),fJ n.links[j] < fJ n.links[j+1]:=fun j hj=>by
  have h1:=this j hj;rw[LD (hb _ (Ym _)) (hb _ (Ym _))]at h1;unfold ez at h1;split at h1
  ·assumption
  ·split at h1<;>omega
 rw[XF];intro i j hi hj hij;obtain⟨d,rfl⟩:∃d,j=i+1+d:=⟨j - i - 1,by omega⟩;induction d with
 |zero=>exact step i hj
 |succ d ih=>
  have h1:=ih (by omega) (by omega);have h2:=step (i+1+d) (by omega);exact Int.lt_trans h1 h2
theorem sP (a b:Int):(fG a b=⟨a,b⟩∧a≤b)∨(fG a b=⟨b,a⟩∧b≤a):=by
 unfold fG;rcases Int.lt_trichotomy a b with h|h|h
 ·left;rw[if_neg (by omega),if_pos h];exact⟨rfl,by omega⟩
 ·subst h;left;simp
 ·right;rw[if_pos h,if_neg (by omega)];exact⟨rfl,by omega⟩
theorem C5 {l m:Lnk}(h1:1≤l.b∧l.b≤65536)(h2:1≤m.b∧m.b≤65536)(h:fJ l=fJ m):l=m:=by
 unfold fJ at h;cases l;cases m;simp only at*;simp only[Lnk.mk.injEq];omega
theorem OS (n:Net)(a b:Int):af prog 65 [.agg (aK n),.v (.int .i64 a),.v (.int .i64 b)] (.tup [.agg (aK (jk n a b).1),.v (.int .i64 (jk n a b).2)]):=by
 obtain⟨R,hR⟩:∃R,R=jk n a b:=⟨_,rfl⟩;rw[←hR];replace hR:=Xj hR;by_cases hc:cN n=0
 ·have bF:=gU.1 hc;have cU:=ry n hc;have jc:=Ly a b;have r6:R=if dW n a b≠0 then (Net.zero,dW n a b)else ({n with links:=di fJ (fG a b) n.links},0):=by rw[hR.out];unfold jk;rw[if_neg (by simpa using hc)]
  cases Bj:eR n a with
  |none=>
   have j8:=oD n a n.vpcs.length 1 (d5 Bj) bF.n6 bF.rise;have hr:R=(Net.zero,if a=b then 3 else 5):=by
    rw[r6,show dW n a b=if a=b then 3 else 5 by unfold dW;rw[d5 Bj];simp];split<;>simp
   have gJ:(a==b)=decide (a=b):=rfl;rw[hr];cases nO:eR n b with
   |none=>
    have lz:=oD n b n.vpcs.length 1 (d5 nO) bF.n6 bF.rise;clear hr hR r6 bF Bj nO hc;refine pj func65 ntmps65 results65 ?_;repeat' (first|(with_reducible refine And.intro ?_ ?_)|(with_reducible refine cn (fun _=>?_) (fun _=>?_))|(with_reducible refine aA (fun _=>?_) (fun _=>?_))|(with_reducible refine be (by kernel_rfl))|simp -dsimp only[go_sem,seval, *,aK,undef]|((with_reducible refine bf ?_);simp -dsimp only[go_sem,seval,aK,undef];first|refine aC (by first|assumption|fail) (by first|exact .inl rfl|exact .inr rfl) ?_|(refine aB (by assumption) ?_ ?_ ?_;(solve|(repeat(first|exact ai.refl _|exact ai.nil _|(refine ai.tup ?_)|(refine ai.agg ?_ rfl)|exact trivial|(refine And.intro ?_ ?_))));(solve|exact .inl rfl|exact .inr rfl)))|(refine aX [] (cU) ?_ ?_ ?_ ?_ ?_ ?_;(solve|rfl|simp only[go_sem,seval,aK]);(solve|rfl);(solve|decide);(solve|simp);(solve|simp only[go_sem,seval,ax,aK]))|(refine aX [4,5,3] (j8) ?_ ?_ ?_ ?_ ?_ ?_;(solve|rfl|simp only[go_sem,seval,aK]);(solve|rfl);(solve|decide);(solve|simp);(solve|simp only[go_sem,seval,ax,aK]))|(refine aX [4,5,3] (lz) ?_ ?_ ?_ ?_ ?_ ?_;(solve|rfl|simp only[go_sem,seval,aK]);(solve|rfl);(solve|decide);(solve|simp);(solve|simp only[go_sem,seval,ax,aK]))|omega|exact decide_eq_true (by omega)|exact ai.refl _)
    all_goals first
     |(exfalso;grind)
     |(rw[if_pos (by grind)];exact dg)
     |(rw[if_neg (by grind)];exact dg)
   |some j=>
    obtain⟨v,hv,he,hi,tj⟩:=eo nO;have lz:=rz n b n.vpcs.length 1 j v hv he bF.n6 bF.rise;clear hr hR r6 bF Bj nO hc hv he tj hi;refine pj func65 ntmps65 results65 ?_;repeat' (first|(with_reducible refine And.intro ?_ ?_)|(with_reducible refine cn (fun _=>?_) (fun _=>?_))|(with_reducible refine aA (fun _=>?_) (fun _=>?_))|(with_reducible refine be (by kernel_rfl))|simp -dsimp only[go_sem,seval, *,aK,undef]|((with_reducible refine bf ?_);simp -dsimp only[go_sem,seval,aK,undef];first|refine aC (by first|assumption|fail) (by first|exact .inl rfl|exact .inr rfl) ?_|(refine aB (by assumption) ?_ ?_ ?_;(solve|(repeat(first|exact ai.refl _|exact ai.nil _|(refine ai.tup ?_)|(refine ai.agg ?_ rfl)|exact trivial|(refine And.intro ?_ ?_))));(solve|exact .inl rfl|exact .inr rfl)))|(refine aX [] (cU) ?_ ?_ ?_ ?_ ?_ ?_;(solve|rfl|simp only[go_sem,seval,aK]);(solve|rfl);(solve|decide);(solve|simp);(solve|simp only[go_sem,seval,ax,aK]))|(refine aX [4,5,3] (j8) ?_ ?_ ?_ ?_ ?_ ?_;(solve|rfl|simp only[go_sem,seval,aK]);(solve|rfl);(solve|decide);(solve|simp);(solve|simp only[go_sem,seval,ax,aK]))|(refine aX [4,5,3] (lz) ?_ ?_ ?_ ?_ ?_ ?_;(solve|rfl|simp only[go_sem,seval,aK]);(solve|rfl);(solve|decide);(solve|simp);(solve|simp only[go_sem,seval,ax,aK]))|omega|exact decide_eq_true (by omega)|exact ai.refl _)
    all_goals first
     |(exfalso;grind)
     |(rw[if_pos (by grind)];exact dg)
     |(rw[if_neg (by grind)];exact dg)
  |some i=>
   obtain⟨u,hu,PM,PN,uv⟩:=eo Bj;have j8:=rz n a n.vpcs.length 1 i u hu PM bF.n6 bF.rise;cases nO:eR n b with
   |none=>
    have lz:=oD n b n.vpcs.length 1 (d5 nO) bF.n6 bF.rise;have hr:R=(Net.zero,if a=b then 3 else 5):=by
     rw[r6,show dW n a b=if a=b then 3 else 5 by unfold dW;rw[d5 nO];simp];split<;>simp
    rw[hr];clear hr hR r6 bF Bj nO hc hu PM PN uv;refine pj func65 ntmps65 results65 ?_;repeat' (first|(with_reducible refine And.intro ?_ ?_)|(with_reducible refine cn (fun _=>?_) (fun _=>?_))|(with_reducible refine aA (fun _=>?_) (fun _=>?_))|(with_reducible refine be (by kernel_rfl))|simp -dsimp only[go_sem,seval, *,aK,undef]|((with_reducible refine bf ?_);simp -dsimp only[go_sem,seval,aK,undef];first|refine aC (by first|assumption|fail) (by first|exact .inl rfl|exact .inr rfl) ?_|(refine aB (by assumption) ?_ ?_ ?_;(solve|(repeat(first|exact ai.refl _|exact ai.nil _|(refine ai.tup ?_)|(refine ai.agg ?_ rfl)|exact trivial|(refine And.intro ?_ ?_))));(solve|exact .inl rfl|exact .inr rfl)))|(refine aX [] (cU) ?_ ?_ ?_ ?_ ?_ ?_;(solve|rfl|simp only[go_sem,seval,aK]);(solve|rfl);(solve|decide);(solve|simp);(solve|simp only[go_sem,seval,ax,aK]))|(refine aX [4,5,3] (j8) ?_ ?_ ?_ ?_ ?_ ?_;(solve|rfl|simp only[go_sem,seval,aK]);(solve|rfl);(solve|decide);(solve|simp);(solve|simp only[go_sem,seval,ax,aK]))|(refine aX [4,5,3] (lz) ?_ ?_ ?_ ?_ ?_ ?_;(solve|rfl|simp only[go_sem,seval,aK]);(solve|rfl);(solve|decide);(solve|simp);(solve|simp only[go_sem,seval,ax,aK]))|omega|exact decide_eq_true (by omega)|exact ai.refl _)
    all_goals first
     |(exfalso;grind)
     |(rw[if_pos (by grind)];exact dg)
     |(rw[if_neg (by grind)];exact dg)
   |some j=>
    obtain⟨v,hv,R6,Ub,yo⟩:=eo nO;have lz:=rz n b n.vpcs.length 1 j v hv R6 bF.n6 bF.rise;by_cases gJ:a=b
    ·have hr:R=(Net.zero,3):=by rw[r6,show dW n a b=3 by unfold dW;rw[if_pos gJ]];rfl
     rw[hr];clear hr hR r6 bF Bj nO hc hu PM PN uv hv R6 Ub yo;have tm:(a==b)=true:=by simpa using gJ
     replace gJ:=Xj gJ;refine pj func65 ntmps65 results65 ?_;repeat' (first|(with_reducible refine And.intro ?_ ?_)|(with_reducible refine cn (fun _=>?_) (fun _=>?_))|(with_reducible refine aA (fun _=>?_) (fun _=>?_))|(with_reducible refine be (by kernel_rfl))|simp -dsimp only[go_sem,seval, *,aK,tm,undef]|((with_reducible refine bf ?_);simp -dsimp only[go_sem,seval,aK,tm,undef];first|refine aC (by first|assumption|fail) (by first|exact .inl rfl|exact .inr rfl) ?_|(refine aB (by assumption) ?_ ?_ ?_;(solve|(repeat(first|exact ai.refl _|exact ai.nil _|(refine ai.tup ?_)|(refine ai.agg ?_ rfl)|exact trivial|(refine And.intro ?_ ?_))));(solve|exact .inl rfl|exact .inr rfl)))|(refine aX [] (cU) ?_ ?_ ?_ ?_ ?_ ?_;(solve|rfl|simp only[go_sem,seval,aK]);(solve|rfl);(solve|decide);(solve|simp);(solve|simp only[go_sem,seval,ax,aK]))|(refine aX [4,5,3] (j8) ?_ ?_ ?_ ?_ ?_ ?_;(solve|rfl|simp only[go_sem,seval,aK]);(solve|rfl);(solve|decide);(solve|simp);(solve|simp only[go_sem,seval,ax,aK]))|(refine aX [4,5,3] (lz) ?_ ?_ ?_ ?_ ?_ ?_;(solve|rfl|simp only[go_sem,seval,aK]);(solve|rfl);(solve|decide);(solve|simp);(solve|simp only[go_sem,seval,ax,aK]))|omega|exact decide_eq_true (by omega)|exact ai.refl _)
     all_goals exact dg
    ·have tm:(a==b)=false:=by simpa using gJ
     have qr:=xR n.links (fG a b) (by have:=bF.n12;omega);have iy:(n.links.any fun y=>decide (fG a b=y))=decide (fG a b∈n.links):=by
      rw[Yi,XU];simp
     rw[iy]at qr;have aP:R=if fG a b∈n.links then (Net.zero,6)else if eC {n with links:=di fJ (fG a b) n.links}=false then (Net.zero,9)else if n.links.length+1>12 then (Net.zero,2)else ({n with links:=di fJ (fG a b) n.links},0):=by
      rw[r6];unfold dW;rw[if_neg gJ,uv,yo];simp only[reduceCtorEq,or_self,if_false];split
      ·rfl
      ·split
       ·rfl
       ·split<;>rfl
     by_cases dE:fG a b∈n.links
     ·have hr:R=(Net.zero,6):=by rw[aP,if_pos dE]
      rw[hr];rw[decide_eq_true dE]at qr;clear hr hR r6 aP bF Bj nO hc hu PM PN uv hv R6 Ub yo iy dE;generalize fG a b=LK at*;replace gJ:=Xj gJ;refine pj func65 ntmps65 results65 ?_;repeat' (first|(with_reducible refine And.intro ?_ ?_)|(with_reducible refine cn (fun _=>?_) (fun _=>?_))|(with_reducible refine aA (fun _=>?_) (fun _=>?_))|(with_reducible refine be (by kernel_rfl))|simp -dsimp only[go_sem,seval, *,aK,bG,tm,undef]|((with_reducible refine bf ?_);simp -dsimp only[go_sem,seval,aK,bG,tm,undef];first|refine aC (by first|assumption|exact jc|exact qr) (by first|exact .inl rfl|exact .inr rfl) ?_|(refine aB (by assumption) ?_ ?_ ?_;(solve|(repeat(first|exact ai.refl _|exact ai.nil _|(refine ai.tup ?_)|(refine ai.agg ?_ rfl)|exact trivial|(refine And.intro ?_ ?_))));(solve|exact .inl rfl|exact .inr rfl)))|(refine aX [] (cU) ?_ ?_ ?_ ?_ ?_ ?_;(solve|rfl|simp only[go_sem,seval,aK]);(solve|rfl);(solve|decide);(solve|simp);(solve|simp only[go_sem,seval,ax,aK]))|(refine aX [4,5,3] (j8) ?_ ?_ ?_ ?_ ?_ ?_;(solve|rfl|simp only[go_sem,seval,aK]);(solve|rfl);(solve|decide);(solve|simp);(solve|simp only[go_sem,seval,ax,aK]))|(refine aX [4,5,3] (lz) ?_ ?_ ?_ ?_ ?_ ?_;(solve|rfl|simp only[go_sem,seval,aK]);(solve|rfl);(solve|decide);(solve|simp);(solve|simp only[go_sem,seval,ax,aK]))|omega|exact decide_eq_true (by omega)|exact ai.refl _)
      all_goals exact dg
     ·rw[if_neg dE]at aP;rw[decide_eq_false dE]at qr;have TM:a∈n.vpcs.map (·.id):=fR (by rw[uv];rfl);have TN:b∈n.vpcs.map (·.id):=fR (by rw[yo];rfl);have jn:∀l∈n.links,1≤l.b∧l.b≤65536:=fun l hl=>bF.bd (bF.ids l hl).2;have lS:(fG a b).a∈n.vpcs.map (·.id)∧(fG a b).b∈n.vpcs.map (·.id):=by
       rcases sP a b with⟨e,-⟩|⟨e,-⟩
       ·rw[e];exact⟨TM,TN⟩
       ·rw[e];exact⟨TN,TM⟩
      have Ea:=bF.bd lS.2;have nJ:=Iz (l:=n.links++[fG a b]) (l':=di fJ (fG a b) n.links) 2 (fun l hl=>by
       rcases X3.1 hl with hl|hl
       ·exact jn l hl
       ·rw[Yc.1 hl];exact Ea) (by simp) (f6 _ _ _) (gB bF.lsort fun y hy e=>dE (by rw[←C5 (jn y hy) Ea e];exact hy)) (by have:=bF.n12;simp;omega)
      have D2:=Ax {n with links:=di fJ (fG a b) n.links} (by have:=bF.n6;simp;omega) (by have:=bF.n12;simp only[fi];omega) (fun v hv=>by have:=(aY (bF.vp v hv)).n4;omega) (fun l hl=>by
       rcases mr.1 hl with rfl|hl
       ·exact lS
       ·exact bF.ids l hl)
      have MS:=bF.n12;have jf:n.links.length+1≤100:=by omega
      have ph:(di fJ (fG a b) n.links).length=n.links.length+1:=fi _ _ _;have Qn:((n.links.length+1:Nat):Int)>12↔n.links.length+1>12:=by omega
      simp only[Xo,Xm,Xv]at nJ;clear hR r6 bF Bj nO hc hu PM PN uv hv R6 Ub yo iy dE TM TN jn lS Ea;generalize di fJ (fG a b) n.links=LS at*;generalize fG a b=LK at*;replace gJ:=Xj gJ;cases hp:eC {n with links:=LS} with
      |false=>
       have hr:R=(Net.zero,9):=by rw[aP,if_pos hp]
       rw[hp]at D2;rw[hr];clear hr aP hp Qn;refine pj func65 ntmps65 results65 ?_;repeat' (first|(with_reducible refine And.intro ?_ ?_)|(with_reducible refine cn (fun _=>?_) (fun _=>?_))|(with_reducible refine aA (fun _=>?_) (fun _=>?_))|(with_reducible refine be (by kernel_rfl))|simp -dsimp only[go_sem,seval, *,aK,bG,tm,jf,undef]|((with_reducible refine bf ?_);simp -dsimp only[go_sem,seval,aK,bG,tm,jf,undef];first|refine aC (by first|assumption|exact jc|exact qr|exact D2) (by first|exact .inl rfl|exact .inr rfl) ?_|(refine aB (by assumption) ?_ ?_ ?_;(solve|(repeat(first|exact ai.refl _|exact ai.nil _|(refine ai.tup ?_)|(refine ai.agg ?_ rfl)|exact trivial|(refine And.intro ?_ ?_))));(solve|exact .inl rfl|exact .inr rfl)))|(refine aX [] (cU) ?_ ?_ ?_ ?_ ?_ ?_;(solve|rfl|simp only[go_sem,seval,aK]);(solve|rfl);(solve|decide);(solve|simp);(solve|simp only[go_sem,seval,ax,aK]))|(refine aX [4,5,3] (j8) ?_ ?_ ?_ ?_ ?_ ?_;(solve|rfl|simp only[go_sem,seval,aK]);(solve|rfl);(solve|decide);(solve|simp);(solve|simp only[go_sem,seval,ax,aK]))|(refine aX [4,5,3] (lz) ?_ ?_ ?_ ?_ ?_ ?_;(solve|rfl|simp only[go_sem,seval,aK]);(solve|rfl);(solve|decide);(solve|simp);(solve|simp only[go_sem,seval,ax,aK]))|(refine aX [3] (nJ) ?_ ?_ ?_ ?_ ?_ ?_;(solve|rfl|simp only[go_sem,seval,bG]);(solve|rfl);(solve|decide);(solve|simp);(solve|simp only[go_sem,seval,ax,bG]))|omega|exact decide_eq_true (by omega)|exact ai.refl _)
       all_goals exact dg
      |true=>
       rw[hp]at D2;by_cases Jp:n.links.length+1>12
       ·have hr:R=(Net.zero,2):=by rw[aP,if_neg (by simp[hp]),if_pos Jp]
        have Uc:decide ((LS.length:Int)>12)=true:=by rw[ph];exact decide_eq_true (Qn.2 Jp)
        rw[hr];clear hr aP hp Qn Jp;replace ph:=Xj ph;refine pj func65 ntmps65 results65 ?_;repeat' (first|(with_reducible refine And.intro ?_ ?_)|(with_reducible refine cn (fun _=>?_) (fun _=>?_))|(with_reducible refine aA (fun _=>?_) (fun _=>?_))|(with_reducible refine be (by kernel_rfl))|simp -dsimp only[go_sem,seval, *,aK,bG,tm,jf,Uc,undef]|((with_reducible refine bf ?_);simp -dsimp only[go_sem,seval,aK,bG,tm,jf,Uc,undef];first|refine aC (by first|assumption|exact jc|exact qr|exact D2) (by first|exact .inl rfl|exact .inr rfl) ?_|(refine aB (by assumption) ?_ ?_ ?_;(solve|(repeat(first|exact ai.refl _|exact ai.nil _|(refine ai.tup ?_)|(refine ai.agg ?_ rfl)|exact trivial|(refine And.intro ?_ ?_))));(solve|exact .inl rfl|exact .inr rfl)))|(refine aX [] (cU) ?_ ?_ ?_ ?_ ?_ ?_;(solve|rfl|simp only[go_sem,seval,aK]);(solve|rfl);(solve|decide);(solve|simp);(solve|simp only[go_sem,seval,ax,aK]))|(refine aX [4,5,3] (j8) ?_ ?_ ?_ ?_ ?_ ?_;(solve|rfl|simp only[go_sem,seval,aK]);(solve|rfl);(solve|decide);(solve|simp);(solve|simp only[go_sem,seval,ax,aK]))|(refine aX [4,5,3] (lz) ?_ ?_ ?_ ?_ ?_ ?_;(solve|rfl|simp only[go_sem,seval,aK]);(solve|rfl);(solve|decide);(solve|simp);(solve|simp only[go_sem,seval,ax,aK]))|(refine aX [3] (nJ) ?_ ?_ ?_ ?_ ?_ ?_;(solve|rfl|simp only[go_sem,seval,bG]);(solve|rfl);(solve|decide);(solve|simp);(solve|simp only[go_sem,seval,ax,bG]))|omega|exact decide_eq_true (by omega)|exact ai.refl _)
        all_goals exact dg
       ·have hr:R=({n with links:=LS},0):=by rw[aP,if_neg (by simp[hp]),if_neg Jp]
        have Uc:decide ((LS.length:Int)>12)=false:=by rw[ph];exact decide_eq_false (fun h=>Jp (Qn.1 h))
        rw[hr];clear hr aP hp Qn Jp;replace ph:=Xj ph;refine pj func65 ntmps65 results65 ?_;repeat' (first|(with_reducible refine And.intro ?_ ?_)|(with_reducible refine cn (fun _=>?_) (fun _=>?_))|(with_reducible refine aA (fun _=>?_) (fun _=>?_))|(with_reducible refine be (by kernel_rfl))|simp -dsimp only[go_sem,seval, *,aK,bG,tm,jf,Uc,undef]|((with_reducible refine bf ?_);simp -dsimp only[go_sem,seval,aK,bG,tm,jf,Uc,undef];first|refine aC (by first|assumption|exact jc|exact qr|exact D2) (by first|exact .inl rfl|exact .inr rfl) ?_|(refine aB (by assumption) ?_ ?_ ?_;(solve|(repeat(first|exact ai.refl _|exact ai.nil _|(refine ai.tup ?_)|(refine ai.agg ?_ rfl)|exact trivial|(refine And.intro ?_ ?_))));(solve|exact .inl rfl|exact .inr rfl)))|(refine aX [] (cU) ?_ ?_ ?_ ?_ ?_ ?_;(solve|rfl|simp only[go_sem,seval,aK]);(solve|rfl);(solve|decide);(solve|simp);(solve|simp only[go_sem,seval,ax,aK]))|(refine aX [4,5,3] (j8) ?_ ?_ ?_ ?_ ?_ ?_;(solve|rfl|simp only[go_sem,seval,aK]);(solve|rfl);(solve|decide);(solve|simp);(solve|simp only[go_sem,seval,ax,aK]))|(refine aX [4,5,3] (lz) ?_ ?_ ?_ ?_ ?_ ?_;(solve|rfl|simp only[go_sem,seval,aK]);(solve|rfl);(solve|decide);(solve|simp);(solve|simp only[go_sem,seval,ax,aK]))|(refine aX [3] (nJ) ?_ ?_ ?_ ?_ ?_ ?_;(solve|rfl|simp only[go_sem,seval,bG]);(solve|rfl);(solve|decide);(solve|simp);(solve|simp only[go_sem,seval,ax,bG]))|omega|exact decide_eq_true (by omega)|exact ai.refl _)
        all_goals exact dg
 ·have cU:=o6 n hc;have h1:(cN n !=0)=true:=by simpa using hc
  have hr:R=(Net.zero,cN n):=by rw[hR.out];unfold jk;rw[if_pos hc]
  rw[hr];replace hr:=Xj hr;refine pj func65 ntmps65 results65 ?_;have z1z:=Ln.mk (ls:=[]) (cU);refine am ?_<;>intros;all_goals exact dg
def tN (E:List (List Int × Int))(id:Int):Bool:=E.any fun kv=>kv.2==id
theorem Re (b:Bok)(n:Net)(c:Cmd)(id:Int)(h8:b.pools.length≤1000000000)(fB:∀p∈b.pools,p.leases.length≤1000000000):
 MSpec prog 63 [.ptr 0 0,.d (.v (.int .i64 id))] [.box 86 (ji b (.own 1 n.vpcs.length) (.d (.sl 2 (n.links.map bG))) c .zero),.row 55 3 n.vpcs.length (ab (n.vpcs.map al))] (.d (.v (.bool (tN (uh b) id))))
  [.box 86 (ji b (.own 1 n.vpcs.length) (.d (.sl 2 (n.links.map bG))) c .zero),.row 55 3 n.vpcs.length (ab (n.vpcs.map al))]:=by
 have hu:=Ln.mk (ls:=[]) (Gu b h8 fB);obtain⟨R,hR⟩:∃R,R=tN (uh b) id:=⟨_,rfl⟩;rw[←hR];replace hR:=Xj hR;clear h8 fB;generalize uh b=E at*;refine iV ae ak func63 rfl ntmps63 results63 (by kernel_rfl) (by simp) (by simp[an,aq]) (by simp[aH,aQ,an,aq,ji,bj,az]) ?_;refine am ?_;refine PY (fun m e h=>∃(seen:List Nat),(∀i∈seen,∀kv,E[i]? =some kv→kv.2≠id)∧m=CG E.length seen∧e=[(13,.ptr 4 0),(1,.d (.v (.int .i64 id)))]∧h=[.box 86 (ji b (.own 1 n.vpcs.length) (.d (.sl 2 (n.links.map bG))) c .zero),.row 55 3 n.vpcs.length (ab (n.vpcs.map al)),.gone,.gone,.it 3 true E seen]) _ _ _ ⟨[],by simp,rfl,rfl,rfl⟩ (wf (hbh:=by simp only[ji,aH,ek,aQ,an,cF,aq,bj,az,XA,XZ,XM,ZR,decide_true,Yp,YA])) ?_;rintro m e h ⟨seen,cg,hm,rfl,rfl⟩ C2 jI;replace cg:=Xj cg;refine Gg ae ak (by rfl) (Ci (k:=4) (x:= .tmp 13) ae (by simp) rfl rfl rfl rfl rfl rfl (by decide) (by decide) rfl rfl (by simp) ?_ ?_)
 ·intro bP;have hr:R=false:=by
   rw[hR.out];unfold tN;rw[YE];intro h;obtain⟨kv,G9,he⟩:=XU.1 h;obtain⟨i,hi,Uw⟩:=Yb G9;exact cg.out i (bP i hi) kv (by rw[Xk hi,Uw]) (by simpa using he)
  rw[hr];clear bP hm hr;change sC _ _ _ _ _ _ _ _ _ _;refine am ?_;exact wf
 ·intro i hi Ss;obtain⟨kv,G9⟩:∃kv,E[i]? =some kv:=⟨_,Xk hi⟩;have WZ:(seen++[i]).getLast? =some i:=by simp
  have xm:=Gv hi Ss;by_cases hid:kv.2=id
  ·have hr:R=true:=by
    rw[hR.out];unfold tN;exact XU.2 ⟨kv,Xl G9,by simpa using hid⟩
   rw[hr];have e1:(kv.2==id)=true:=by simpa using hid
   replace hid:=Xj hid;clear hm xm hr;change sC _ _ _ _ _ _ _ _ _ _;refine am ?_;exact wf
  ·have e1:(kv.2==id)=false:=by simpa using hid
   have RF:∀j∈seen++[i],∀kw,E[j]? =some kw→kw.2≠id:=fun j hj kw VV=>by
    rcases X3.1 hj with h|h
    ·exact cg.out j h kw VV
    ·simp at h;subst h;rw[G9]at VV;cases VV;exact hid
   replace RF:=Xj RF;replace hid:=Xj hid;replace xm:=Xj xm;change sC _ _ _ _ _ _ _ _ _ _;refine am ?_;exact jI _ _ _ _ _ (by rw[hm];exact xm.out) ⟨_,RF.out,rfl,rfl,rfl⟩ (wf (hbh:=by simp only[ji,aH,ek,aQ,an,cF,aq,bj,az,XA,XZ,XM,ZR,decide_true,Yp,YA]))
def zo (c:Cmd):Bool:=decide (c.op=7∨c.op=15∨c.op=16)
def xS (b:Bok)(n:Net)(c:Cmd):Net × Ans:=
 if c.op=7 then if tN (uh b) c.a=true then (n,.er 6)else ((iJ n c.a).1,.er (iJ n c.a).2)
 else if c.op=15 then ((jk n c.a c.b).1,.er (jk n c.a c.b).2)
 else ((iI n c.a c.b).1,.er (iI n c.a c.b).2)
theorem Rf (b:Bok)(n:Net)(c:Cmd)(h:zo c=false):
 MSpec prog 28 [.ptr 0 0] [.box 86 (ji b (.own 1 n.vpcs.length) (.d (.sl 2 (n.links.map bG))) c .zero),.row 55 3 n.vpcs.length (ab (n.vpcs.map al))] (.d (.v (.bool false)))
  [.box 86 (ji b (.own 1 n.vpcs.length) (.d (.sl 2 (n.links.map bG))) c .zero),.row 55 3 n.vpcs.length (ab (n.vpcs.map al))]:=by
 unfold zo at h;have h:=of_decide_eq_false h;have e1:(c.op==7)=false:=by simp;omega
 have e2:(c.op==15)=false:=by simp;omega
 have e3:(c.op==16)=false:=by simp;omega
 clear h;refine iV ae ak func28 rfl ntmps28 results28 (by kernel_rfl) (by simp) (by simp[an,aq]) (by simp[aH,aQ,an,aq,ji,bj,az]) ?_;refine am ?_;exact wf
theorem Rg (b:Bok)(n:Net)(c:Cmd)(h8:b.pools.length≤1000000000)(fB:∀p∈b.pools,p.leases.length≤1000000000)(h:zo c=true):
 MSpec prog 28 [.ptr 0 0] [.box 86 (ji b (.own 1 n.vpcs.length) (.d (.sl 2 (n.links.map bG))) c .zero),.row 55 3 n.vpcs.length (ab (n.vpcs.map al))] (.d (.v (.bool true)))
  [.box 86 (ji b (.d (.sl 3 ((xS b n c).1.vpcs.map al))) (.d (.sl 2 ((xS b n c).1.links.map bG))) c (xS b n c).2),.gone]:=by
 have lR:c.op=7∨c.op=15∨c.op=16:=of_decide_eq_true h;clear h;unfold xS;rcases lR with h1|h1|h1
 ·rw[if_pos h1];have ho:=Ln.mk (ls:=[0,1]) (Re b n c c.a h8 fB);replace fB:=Xj fB;cases hb:tN (uh b) c.a
  ·rw[hb]at ho;have hp:=Ln.mk (ls:=[1]) (vz (OR n c.a) (args:=[.agg [.own 0 n.vpcs.length,.d (.sl 2 (n.links.map bG))],.d (.v (.int .i64 c.a))]) (h0:=[.row 55 3 n.vpcs.length (ab (n.vpcs.map al))]) (by simp[an,aq]) (by simp[aH,aQ,az]) (by simp[vw,cM,bq,aG,eJ,aK]) (by simp[tc,jq,cW,aG,nZ]));generalize iJ n c.a=R at*;simp only[YB,if_false];simp only[ji,h1]at ho;replace hb:=Xj hb;refine iV ae ak func28 rfl ntmps28 results28 (by kernel_rfl) (by simp) (by simp[an,aq]) (by simp[aH,aQ,an,aq,ji,bj,az]) ?_;refine am ?_;exact wf
  ·rw[hb]at ho;simp only[if_true];simp only[ji,h1]at ho;replace hb:=Xj hb;refine iV ae ak func28 rfl ntmps28 results28 (by kernel_rfl) (by simp) (by simp[an,aq]) (by simp[aH,aQ,an,aq,ji,bj,az]) ?_;refine am ?_;refine(ap 1 n.vpcs.length 55 3 (n.vpcs.map al) rfl).trans ?_;simp only[iD,fz,gy,gj,g8,f9,aR,bS,bW,Xm,Xv,XM,XL,reduceIte,and_true,true_and,and_self,and_false,false_and,XG,XW,reduceCtorEq];exact wf
 ·rw[if_neg (by omega),if_pos h1];have hp:=Ln.mk (ls:=[1]) (vz (OS n c.a c.b) (args:=[.agg [.own 0 n.vpcs.length,.d (.sl 2 (n.links.map bG))],.d (.v (.int .i64 c.a)),.d (.v (.int .i64 c.b))]) (h0:=[.row 55 3 n.vpcs.length (ab (n.vpcs.map al))]) (by simp[an,aq]) (by simp[aH,aQ,az]) (by simp[vw,cM,bq,aG,eJ,aK]) (by simp[tc,jq,cW,aG,nZ]));generalize jk n c.a c.b=R at*;replace fB:=Xj fB;refine iV ae ak func28 rfl ntmps28 results28 (by kernel_rfl) (by simp) (by simp[an,aq]) (by simp[aH,aQ,an,aq,ji,bj,az]) ?_;refine am ?_;exact wf
 ·rw[if_neg (by omega),if_neg (by omega)];have hp:=Ln.mk (ls:=[1]) (vz (ON n c.a c.b) (args:=[.agg [.own 0 n.vpcs.length,.d (.sl 2 (n.links.map bG))],.d (.v (.int .i64 c.a)),.d (.v (.int .i64 c.b))]) (h0:=[.row 55 3 n.vpcs.length (ab (n.vpcs.map al))]) (by simp[an,aq]) (by simp[aH,aQ,az]) (by simp[vw,cM,bq,aG,eJ,aK]) (by simp[tc,jq,cW,aG,nZ]));generalize iI n c.a c.b=R at*;replace fB:=Xj fB;refine iV ae ak func28 rfl ntmps28 results28 (by kernel_rfl) (by simp) (by simp[an,aq]) (by simp[aH,aQ,an,aq,ji,bj,az]) ?_;refine am ?_;exact wf
theorem wn (v:Vpc)(pre post:List Sbn)(s0:Sbn)(hv:v.subs=pre++s0::post)(h:bN v=0)(h4:v.ranges.length≤4)(h6:v.subs.length≤6)(h8:∀s∈v.subs,s.faces.length≤8∧∀f∈s.faces,f.addrs.length≤4):
 MSpec prog 142 [.d (.agg (al v))] [] (.tup [.ptr 2 0,.d (.v (.int .i64 0))]) [.gone,.row 58 3 1 (ab (v.ranges.map bp)),.box 55 [.d (.v (.int .i64 v.id)),.own 1 1,.own 3 v.subs.length],.row 71 4 v.subs.length (eU aT pre (ck s0 (.own 6 s0.faces.length)) post),
  .gone,.gone,.row 74 2 s0.faces.length (ab (s0.faces.map cj))]:=by
 have hc:=ot v;rw[h]at hc;replace h:=Xj h;replace h8:=Xj h8;have bR:v.subs.length=pre.length+1+post.length:=by rw[hv];simp;omega
 have hL:=Xj hv;have bU:=Xj bR;clear hv bR;have fV:=jZ bp v.ranges (by omega);refine mj func142 ntmps142 results142 ?_;have z1z:=Ln.mk (ls:=[]) (fV);refine am ?_<;>intros;refine bL ae ak (fun m e h=>(∃k,k≤pre.length∧m=v.subs.length - k∧e=[(28,.d (.v (.int .i64 k))),(27,.d (.v (.int .i64 v.subs.length))),(26,.d (.sl 4 (v.subs.map aT))),(5,.ptr 2 0)]∧
  h=[.gone,.row 58 3 1 (ab (v.ranges.map bp)),.box 55 [.d (.v (.int .i64 v.id)),.own 1 1,.own 3 k],.row 71 4 k (ab ((pre.take k).map aT))])∨
  ∃k j,k=pre.length+1+j∧j≤post.length∧m=v.subs.length - k∧e=[(28,.d (.v (.int .i64 k))),(27,.d (.v (.int .i64 v.subs.length))),(26,.d (.sl 4 (v.subs.map aT))),(5,.ptr 2 0)]∧
   h=[.gone,.row 58 3 1 (ab (v.ranges.map bp)),.box 55 [.d (.v (.int .i64 v.id)),.own 1 1,.own 3 k],.row 71 4 k (eU aT pre (ck s0 (.own 6 s0.faces.length)) (post.take j)),.gone,.gone,.row 74 2 s0.faces.length (ab (s0.faces.map cj))]) _ _ _ (.inl ⟨0,XE _,rfl,rfl,rfl⟩) ?_ ?_
 ·refine(aL 0 (by simp)).trans ((au (by simp) 2 55 [.d (.v (.int .i64 v.id)),.own 1 1,.d (.v (.slice none 0 0))] 2 71 4 rfl rfl rfl).trans ?_);exact wf (hb:=cL) (hbh:=cL)
 ·rintro m e h (⟨k,hk,hm,rfl,rfl⟩|⟨k,q,Bg,hj,hm,rfl,rfl⟩) CO th
  ·have dM:(k:Int) < (v.subs.length:Int):=by have:=bU.out;omega
   have cR:=wi k (by omega);have jf:k+1≤100:=by have:=bU.out;omega
   have jc:(Yg k pre).length=k:=by rw[Xq];omega
   have hm:=Xj hm;by_cases lM:k < pre.length
   ·obtain⟨s,hq⟩:∃s,pre[k]? =some s:=⟨_,Xk lM⟩;have hs:v.subs[k]? =some s:=by rw[hL.out,X2 lM];exact hq
    have iO:=h8.out s (Xl hs);replace hs:=Xj hs;replace hq:=Xj hq;have lT:=hs.out;refine am ?_<;>intros;refine bo ae ak s.faces (fun _=>True) (fun j=>[(40,.d (.v (.int .i64 j))),(39,.d (.v (.int .i64 s.faces.length))),(38,.d (.sl 2 (s.faces.map cj))),(28,.d (.v (.int .i64 k))),(27,.d (.v (.int .i64 v.subs.length))),(26,.d (.sl 4 (v.subs.map aT))),(8,.ptr 5 0),(5,.ptr 2 0)])
     (fun j=>[.gone,.row 58 3 1 (ab (v.ranges.map bp)),.box 55 [.d (.v (.int .i64 v.id)),.own 1 1,.own 3 k],.row 71 4 k (ab ((pre.take k).map aT)),.gone,.box 71 [.d (.v (.int .i64 s.id)),.d (.v (.int .i64 s.at_.at_)),.d (.v (.int .i64 s.at_.len)),.own 6 j],.row 74 2 j (ab ((s.faces.take j).map cj))]) trivial ?_ ?_ ?_
    ·refine(aL 4 (by simp)).trans ((au (by simp) 5 71 [.d (.v (.int .i64 s.id)),.d (.v (.int .i64 s.at_.at_)),.d (.v (.int .i64 s.at_.len)),.d (.v (.slice none 0 0))] 3 74 2 rfl rfl rfl).trans ?_);exact wf (hb:=cL) (hbh:=cL)
    ·intro j f hf hj _ C hC;have ip:(j:Int) < (s.faces.length:Int):=by omega
     have kj:=wi j (by omega);have gY:=iO.2 f (Xl hf);have jm:j+1≤100:=by omega
     have pm:(Yg j s.faces).length=j:=by rw[Xq];omega
     replace hf:=Xj hf;have zQ:=hf.out;have z1z:=Ln.mk (ls:=[]) (fm f.addrs (by omega));refine am ?_<;>intros;refine hC _ _ trivial ((ap 8 1 3 1 (f.addrs.map cy) rfl).trans ?_);simp only[iD,fz,gy,gj,g8,f9,aR,bS,bW,Xm,Xv,XM,XL,reduceIte,and_true,true_and,and_self,and_false,false_and,XG,XW,reduceCtorEq,cY];exact wf (hh:=(by rw[ag hf.out,Xo,Xm,Xv,←aI];rfl)) (hb:=cL) (hbh:=cL)
    ·intro _ C;refine am ?_<;>intros;refine th _ _ _ _ _ ?_ (.inl ⟨k+1,lM,rfl,rfl,rfl⟩) ((ap 6 s.faces.length 74 2 (s.faces.map cj) rfl).trans ?_)
     ·have:=hm.out;have:=bU.out;omega
     simp only[iD,fz,gy,gj,g8,f9,aR,bS,bW,Xm,Xv,XM,XL,reduceIte,and_true,true_and,and_self,and_false,false_and,XG,XW,reduceCtorEq];exact wf (hh:=(by rw[ag hq.out,Xo,Xm,Xv,←aI];rfl)) (hb:=cL) (hbh:=cL)
   ·obtain rfl:k=pre.length:=by omega
    have hs:v.subs[pre.length]? =some s0:=by rw[hL.out,XH (XB _),YG];rfl
    have iO:=h8.out s0 (Xl hs);replace hs:=Xj hs;have lT:=hs.out;obtain⟨k,i7⟩:∃k,k=pre.length:=⟨_,rfl⟩;obtain⟨s,qs⟩:∃s,s=s0:=⟨_,rfl⟩;rw[←qs]at iO lT th ⊢;rw[←i7]at lT dM cR jf jc th ⊢;rw[i7,Xt]at jc;replace qs:=Xj qs;replace i7:=Xj i7;refine am ?_<;>intros;refine bo ae ak s.faces (fun _=>True) (fun j=>[(40,.d (.v (.int .i64 j))),(39,.d (.v (.int .i64 s.faces.length))),(38,.d (.sl 2 (s.faces.map cj))),(28,.d (.v (.int .i64 k))),(27,.d (.v (.int .i64 v.subs.length))),(26,.d (.sl 4 (v.subs.map aT))),(8,.ptr 5 0),(5,.ptr 2 0)])
     (fun j=>[.gone,.row 58 3 1 (ab (v.ranges.map bp)),.box 55 [.d (.v (.int .i64 v.id)),.own 1 1,.own 3 k],.row 71 4 k (ab ((pre.take k).map aT)),.gone,.box 71 [.d (.v (.int .i64 s.id)),.d (.v (.int .i64 s.at_.at_)),.d (.v (.int .i64 s.at_.len)),.own 6 j],.row 74 2 j (ab ((s.faces.take j).map cj))]) trivial ?_ ?_ ?_
    ·refine(aL 4 (by simp)).trans ((au (by simp) 5 71 [.d (.v (.int .i64 s.id)),.d (.v (.int .i64 s.at_.at_)),.d (.v (.int .i64 s.at_.len)),.d (.v (.slice none 0 0))] 3 74 2 rfl rfl rfl).trans ?_);exact wf (hb:=cL) (hbh:=cL)
    ·intro j f hf hj _ C hC;have ip:(j:Int) < (s.faces.length:Int):=by omega
     have kj:=wi j (by omega);have gY:=iO.2 f (Xl hf);have jm:j+1≤100:=by omega
     have pm:(Yg j s.faces).length=j:=by rw[Xq];omega
     replace hf:=Xj hf;have zQ:=hf.out;have z1z:=Ln.mk (ls:=[]) (fm f.addrs (by omega));refine am ?_<;>intros;refine hC _ _ trivial ((ap 8 1 3 1 (f.addrs.map cy) rfl).trans ?_);simp only[iD,fz,gy,gj,g8,f9,aR,bS,bW,Xm,Xv,XM,XL,reduceIte,and_true,true_and,and_self,and_false,false_and,XG,XW,reduceCtorEq,cY];exact wf (hh:=(by rw[ag hf.out,Xo,Xm,Xv,←aI];rfl)) (hb:=cL) (hbh:=cL)
    ·intro _ C;have R7:(Yg k pre).length=k:=by rw[i7.out,Xt]
     refine am ?_<;>intros;refine th _ _ _ _ _ ?_ (.inr ⟨k+1,0,by rw[i7.out],XE _,rfl,rfl,rfl⟩) ((aL 5 (by simp)).trans ?_)
     ·have:=hm.out;have:=bU.out;have:=i7.out;omega
     exact wf (hh:=(by rw[i7.out,Xt];rfl)) (hb:=cL) (hbh:=cL)
  ·have hm:=Xj hm;have rY:=Xj Bg;have jf:pre.length+1+q+1≤100:=by have:=bU.out;omega
   have jc:(Yg q post).length=q:=by rw[Xq];omega
   have uI:k≤v.subs.length:=by have:=bU.out;omega
   by_cases xu:q < post.length
   ·obtain⟨s,hq⟩:∃s,post[q]? =some s:=⟨_,Xk xu⟩;have hs:v.subs[k]? =some s:=by
     rw[hL.out,XH (by omega),show k - pre.length=q+1 by omega,Yx];exact hq
    have iO:=h8.out s (Xl hs);have dM:(k:Int) < (v.subs.length:Int):=by have:=bU.out;omega
    have cR:=wi k (by omega);replace hq:=Xj hq;replace hs:=Xj hs;have lT:=hs.out;clear Bg;refine am ?_<;>intros;refine bo ae ak s.faces (fun _=>True) (fun j=>[(40,.d (.v (.int .i64 j))),(39,.d (.v (.int .i64 s.faces.length))),(38,.d (.sl 2 (s.faces.map cj))),(28,.d (.v (.int .i64 k))),(27,.d (.v (.int .i64 v.subs.length))),(26,.d (.sl 4 (v.subs.map aT))),(8,.ptr 8 0),(5,.ptr 2 0)])
     (fun j=>[.gone,.row 58 3 1 (ab (v.ranges.map bp)),.box 55 [.d (.v (.int .i64 v.id)),.own 1 1,.own 3 k],.row 71 4 k (eU aT pre (ck s0 (.own 6 s0.faces.length)) (post.take q)),.gone,.gone,.row 74 2 s0.faces.length (ab (s0.faces.map cj)),.gone,.box 71 [.d (.v (.int .i64 s.id)),.d (.v (.int .i64 s.at_.at_)),.d (.v (.int .i64 s.at_.len)),.own 9 j],.row 74 2 j (ab ((s.faces.take j).map cj))]) trivial ?_ ?_ ?_
    ·refine(aL 7 (by simp)).trans ((au (by simp) 8 71 [.d (.v (.int .i64 s.id)),.d (.v (.int .i64 s.at_.at_)),.d (.v (.int .i64 s.at_.len)),.d (.v (.slice none 0 0))] 3 74 2 rfl rfl rfl).trans ?_);exact wf (hb:=cL) (hbh:=cL)
    ·intro j f hf hj _ C hC;have ip:(j:Int) < (s.faces.length:Int):=by omega
     have kj:=wi j (by omega);have gY:=iO.2 f (Xl hf);have jm:j+1≤100:=by omega
     have pm:(Yg j s.faces).length=j:=by rw[Xq];omega
     replace hf:=Xj hf;have zQ:=hf.out;have z1z:=Ln.mk (ls:=[]) (fm f.addrs (by omega));refine am ?_<;>intros;refine hC _ _ trivial ((ap 11 1 3 1 (f.addrs.map cy) rfl).trans ?_);simp only[iD,fz,gy,gj,g8,f9,aR,bS,bW,Xm,Xv,XM,XL,reduceIte,and_true,true_and,and_self,and_false,false_and,XG,XW,reduceCtorEq,cY];exact wf (hh:=(by rw[ag hf.out,Xo,Xm,Xv,←aI];rfl)) (hb:=cL) (hbh:=cL)
    ·intro _ C;refine am ?_<;>intros;refine th _ _ _ _ _ ?_ (.inr ⟨k+1,q+1,by have:=rY.out;omega,xu,rfl,rfl,rfl⟩) ((ap 9 s.faces.length 74 2 (s.faces.map cj) rfl).trans ?_)
     ·have:=hm.out;have:=bU.out;have:=rY.out;omega
     simp only[iD,fz,gy,gj,g8,f9,aR,bS,bW,Xm,Xv,XM,XL,reduceIte,and_true,true_and,and_self,and_false,false_and,XG,XW,reduceCtorEq,cY,ck];exact wf (hh:=(by rw[ag hq.out,←kJ];rfl)) (hb:=cL) (hbh:=cL)
   ·obtain rfl:q=post.length:=by omega
    obtain rfl:k=v.subs.length:=by have:=bU.out;omega
    clear Bg;refine am ?_<;>intros;(try rw[Xt])
    exact bn rfl rfl
theorem LF (v:Vpc)(pre post:List Sbn)(s0:Sbn)(preF postF:List Fce)(f0:Fce)(hv:v.subs=pre++s0::post)(yp:s0.faces=preF++f0::postF)(h:bN v=0)(h4:v.ranges.length≤4)(h6:v.subs.length≤6)(h8:∀s∈v.subs,s.faces.length≤8∧∀f∈s.faces,f.addrs.length≤4):
 MSpec prog 142 [.d (.agg (al v))] [] (.tup [.ptr 2 0,.d (.v (.int .i64 0))]) [.gone,.row 58 3 1 (ab (v.ranges.map bp)),.box 55 [.d (.v (.int .i64 v.id)),.own 1 1,.own 3 v.subs.length],.row 71 4 v.subs.length (eU aT pre (ck s0 (.own 6 s0.faces.length)) post),
  .gone,.gone,.row 74 2 s0.faces.length (eU cj preF (d8 f0 (.own 8 1)) postF),.gone,.row 3 1 1 (ab (f0.addrs.map cy))]:=by
 have hc:=ot v;rw[h]at hc;replace h:=Xj h;replace h8:=Xj h8;have bR:v.subs.length=pre.length+1+post.length:=by rw[hv];simp;omega
 have hL:=Xj hv;have bU:=Xj bR;clear hv bR;have Eb:s0.faces.length=preF.length+1+postF.length:=by rw[yp];simp;omega
 have R8:=Xj yp;have gI:=Xj Eb;clear yp Eb;have fV:=jZ bp v.ranges (by omega);refine mj func142 ntmps142 results142 ?_;have z1z:=Ln.mk (ls:=[]) (fV);refine am ?_<;>intros;refine bL ae ak (fun m e h=>(∃k,k≤pre.length∧m=v.subs.length - k∧e=[(28,.d (.v (.int .i64 k))),(27,.d (.v (.int .i64 v.subs.length))),(26,.d (.sl 4 (v.subs.map aT))),(5,.ptr 2 0)]∧
  h=[.gone,.row 58 3 1 (ab (v.ranges.map bp)),.box 55 [.d (.v (.int .i64 v.id)),.own 1 1,.own 3 k],.row 71 4 k (ab ((pre.take k).map aT))])∨
  ∃k j,k=pre.length+1+j∧j≤post.length∧m=v.subs.length - k∧e=[(28,.d (.v (.int .i64 k))),(27,.d (.v (.int .i64 v.subs.length))),(26,.d (.sl 4 (v.subs.map aT))),(5,.ptr 2 0)]∧
   h=[.gone,.row 58 3 1 (ab (v.ranges.map bp)),.box 55 [.d (.v (.int .i64 v.id)),.own 1 1,.own 3 k],.row 71 4 k (eU aT pre (ck s0 (.own 6 s0.faces.length)) (post.take j)),.gone,.gone,.row 74 2 s0.faces.length (eU cj preF (d8 f0 (.own 8 1)) postF),.gone,.row 3 1 1 (ab (f0.addrs.map cy))]) _ _ _ (.inl ⟨0,XE _,rfl,rfl,rfl⟩) ?_ ?_
 ·refine(aL 0 (by simp)).trans ((au (by simp) 2 55 [.d (.v (.int .i64 v.id)),.own 1 1,.d (.v (.slice none 0 0))] 2 71 4 rfl rfl rfl).trans ?_);exact wf (hb:=cL) (hbh:=cL)
 ·rintro m e h (⟨k,hk,hm,rfl,rfl⟩|⟨k,q,Bg,hj,hm,rfl,rfl⟩) CO th
  ·have dM:(k:Int) < (v.subs.length:Int):=by have:=bU.out;omega
   have cR:=wi k (by omega);have jf:k+1≤100:=by have:=bU.out;omega
   have jc:(Yg k pre).length=k:=by rw[Xq];omega
   have hm:=Xj hm;by_cases lM:k < pre.length
   ·obtain⟨s,hq⟩:∃s,pre[k]? =some s:=⟨_,Xk lM⟩;have hs:v.subs[k]? =some s:=by rw[hL.out,X2 lM];exact hq
    have iO:=h8.out s (Xl hs);replace hs:=Xj hs;replace hq:=Xj hq;have lT:=hs.out;refine am ?_<;>intros;refine bo ae ak s.faces (fun _=>True) (fun j=>[(40,.d (.v (.int .i64 j))),(39,.d (.v (.int .i64 s.faces.length))),(38,.d (.sl 2 (s.faces.map cj))),(28,.d (.v (.int .i64 k))),(27,.d (.v (.int .i64 v.subs.length))),(26,.d (.sl 4 (v.subs.map aT))),(8,.ptr 5 0),(5,.ptr 2 0)])
     (fun j=>[.gone,.row 58 3 1 (ab (v.ranges.map bp)),.box 55 [.d (.v (.int .i64 v.id)),.own 1 1,.own 3 k],.row 71 4 k (ab ((pre.take k).map aT)),.gone,.box 71 [.d (.v (.int .i64 s.id)),.d (.v (.int .i64 s.at_.at_)),.d (.v (.int .i64 s.at_.len)),.own 6 j],.row 74 2 j (ab ((s.faces.take j).map cj))]) trivial ?_ ?_ ?_
    ·refine(aL 4 (by simp)).trans ((au (by simp) 5 71 [.d (.v (.int .i64 s.id)),.d (.v (.int .i64 s.at_.at_)),.d (.v (.int .i64 s.at_.len)),.d (.v (.slice none 0 0))] 3 74 2 rfl rfl rfl).trans ?_);exact wf (hb:=cL) (hbh:=cL)
    ·intro j f hf hj _ C hC;have ip:(j:Int) < (s.faces.length:Int):=by omega
     have kj:=wi j (by omega);have gY:=iO.2 f (Xl hf);have jm:j+1≤100:=by omega
     have pm:(Yg j s.faces).length=j:=by rw[Xq];omega
     replace hf:=Xj hf;have zQ:=hf.out;have z1z:=Ln.mk (ls:=[]) (fm f.addrs (by omega));refine am ?_<;>intros;refine hC _ _ trivial ((ap 8 1 3 1 (f.addrs.map cy) rfl).trans ?_);simp only[iD,fz,gy,gj,g8,f9,aR,bS,bW,Xm,Xv,XM,XL,reduceIte,and_true,true_and,and_self,and_false,false_and,XG,XW,reduceCtorEq,cY];exact wf (hh:=(by rw[ag hf.out,Xo,Xm,Xv,←aI];rfl)) (hb:=cL) (hbh:=cL)
    ·intro _ C;refine am ?_<;>intros;refine th _ _ _ _ _ ?_ (.inl ⟨k+1,lM,rfl,rfl,rfl⟩) ((ap 6 s.faces.length 74 2 (s.faces.map cj) rfl).trans ?_)
     ·have:=hm.out;have:=bU.out;omega
     simp only[iD,fz,gy,gj,g8,f9,aR,bS,bW,Xm,Xv,XM,XL,reduceIte,and_true,true_and,and_self,and_false,false_and,XG,XW,reduceCtorEq];exact wf (hh:=(by rw[ag hq.out,Xo,Xm,Xv,←aI];rfl)) (hb:=cL) (hbh:=cL)
   ·obtain rfl:k=pre.length:=by omega
    have hs:v.subs[pre.length]? =some s0:=by rw[hL.out,XH (XB _),YG];rfl
    have iO:=h8.out s0 (Xl hs);replace hs:=Xj hs;have lT:=hs.out;obtain⟨k,i7⟩:∃k,k=pre.length:=⟨_,rfl⟩;rw[←i7]at lT dM cR jf jc th ⊢;rw[i7,Xt]at jc;replace i7:=Xj i7;refine am ?_<;>intros;refine bL ae ak (fun m e h=>(∃j,j≤preF.length∧m=s0.faces.length - j∧e=[(40,.d (.v (.int .i64 j))),(39,.d (.v (.int .i64 s0.faces.length))),(38,.d (.sl 2 (s0.faces.map cj))),(28,.d (.v (.int .i64 k))),(27,.d (.v (.int .i64 v.subs.length))),(26,.d (.sl 4 (v.subs.map aT))),(8,.ptr 5 0),(5,.ptr 2 0)]∧
     h=[.gone,.row 58 3 1 (ab (v.ranges.map bp)),.box 55 [.d (.v (.int .i64 v.id)),.own 1 1,.own 3 k],.row 71 4 k (ab ((pre.take k).map aT)),.gone,.box 71 [.d (.v (.int .i64 s0.id)),.d (.v (.int .i64 s0.at_.at_)),.d (.v (.int .i64 s0.at_.len)),.own 6 j],.row 74 2 j (ab ((preF.take j).map cj))])∨
     ∃j i,j=preF.length+1+i∧i≤postF.length∧m=s0.faces.length - j∧e=[(40,.d (.v (.int .i64 j))),(39,.d (.v (.int .i64 s0.faces.length))),(38,.d (.sl 2 (s0.faces.map cj))),(28,.d (.v (.int .i64 k))),(27,.d (.v (.int .i64 v.subs.length))),(26,.d (.sl 4 (v.subs.map aT))),(8,.ptr 5 0),(5,.ptr 2 0)]∧
      h=[.gone,.row 58 3 1 (ab (v.ranges.map bp)),.box 55 [.d (.v (.int .i64 v.id)),.own 1 1,.own 3 k],.row 71 4 k (ab ((pre.take k).map aT)),.gone,.box 71 [.d (.v (.int .i64 s0.id)),.d (.v (.int .i64 s0.at_.at_)),.d (.v (.int .i64 s0.at_.len)),.own 6 j],.row 74 2 j (eU cj preF (d8 f0 (.own 8 1)) (postF.take i)),.gone,.row 3 1 1 (ab (f0.addrs.map cy))]) _ _ _ (.inl ⟨0,XE _,rfl,rfl,rfl⟩) ?_ ?_
    ·refine(aL 4 (by simp)).trans ((au (by simp) 5 71 [.d (.v (.int .i64 s0.id)),.d (.v (.int .i64 s0.at_.at_)),.d (.v (.int .i64 s0.at_.len)),.d (.v (.slice none 0 0))] 3 74 2 rfl rfl rfl).trans ?_);exact wf (hb:=cL) (hbh:=cL)
    ·rintro m2 e h (⟨j,hj,gZ,rfl,rfl⟩|⟨j,i,j6,hi,gZ,rfl,rfl⟩) C hC
     ·have ip:(j:Int) < (s0.faces.length:Int):=by have:=gI.out;omega
      have kj:IntKind.i64.wrap ((j:Int)+1)=((j+1:Nat):Int):=by rw[IntKind.wrap_i64];have:=iO.1;omega
      have jm:j+1≤100:=by have:=iO.1;omega
      have pm:(Yg j preF).length=j:=by rw[Xq];omega
      have gZ:=Xj gZ;by_cases xu:j < preF.length
      ·obtain⟨f,hq⟩:∃f,preF[j]? =some f:=⟨_,Xk xu⟩;have hf:s0.faces[j]? =some f:=by rw[R8.out,X2 xu];exact hq
       have gY:=iO.2 f (Xl hf);replace hf:=Xj hf;replace hq:=Xj hq;have zQ:=hf.out;have z1z:=Ln.mk (ls:=[]) (fm f.addrs (by omega));refine am ?_<;>intros;refine hC _ _ _ _ _ ?_ (.inl ⟨j+1,xu,rfl,rfl,rfl⟩) ((ap 8 1 3 1 (f.addrs.map cy) rfl).trans ?_)
       ·have:=gZ.out;have:=gI.out;omega
       simp only[iD,fz,gy,gj,g8,f9,aR,bS,bW,Xm,Xv,XM,XL,reduceIte,and_true,true_and,and_self,and_false,false_and,XG,XW,reduceCtorEq,cY];exact wf (hh:=(by rw[ag hq.out,Xo,Xm,Xv,←aI];rfl)) (hb:=cL) (hbh:=cL)
      ·obtain rfl:j=preF.length:=by omega
       have hf:s0.faces[preF.length]? =some f0:=by rw[R8.out,XH (XB _),YG];rfl
       have gY:=iO.2 f0 (Xl hf);replace hf:=Xj hf;have zQ:=hf.out;have z1z:=Ln.mk (ls:=[]) (fm f0.addrs (by omega));refine am ?_<;>intros;refine hC _ _ _ _ _ ?_ (.inr ⟨preF.length+1,0,rfl,XE _,rfl,rfl,rfl⟩) ((aL 7 (by simp)).trans ?_)
       ·have:=gZ.out;have:=gI.out;omega
       exact wf (hb:=cL) (hbh:=cL)
     ·have gZ:=Xj gZ;have AZ:=Xj j6;have jm:preF.length+1+i+1≤100:=by have:=gI.out;have:=iO.1;omega
      have VT:(Yg i postF).length=i:=by rw[Xq];omega
      have MJ:j≤s0.faces.length:=by have:=gI.out;omega
      by_cases Ud:i < postF.length
      ·obtain⟨f,hq⟩:∃f,postF[i]? =some f:=⟨_,Xk Ud⟩;have hf:s0.faces[j]? =some f:=by
        rw[R8.out,XH (by omega),show j - preF.length=i+1 by omega,Yx];exact hq
       have gY:=iO.2 f (Xl hf);have ip:(j:Int) < (s0.faces.length:Int):=by have:=gI.out;omega
       have kj:IntKind.i64.wrap ((j:Int)+1)=((j+1:Nat):Int):=by rw[IntKind.wrap_i64];have:=iO.1;omega
       replace hf:=Xj hf;replace hq:=Xj hq;have zQ:=hf.out;clear j6;have z1z:=Ln.mk (ls:=[]) (fm f.addrs (by omega));refine am ?_<;>intros;refine hC _ _ _ _ _ ?_ (.inr ⟨j+1,i+1,by have:=AZ.out;omega,Ud,rfl,rfl,rfl⟩) ((ap 10 1 3 1 (f.addrs.map cy) rfl).trans ?_)
       ·have:=gZ.out;have:=gI.out;have:=AZ.out;omega
       simp only[iD,fz,gy,gj,g8,f9,aR,bS,bW,Xm,Xv,XM,XL,reduceIte,and_true,true_and,and_self,and_false,false_and,XG,XW,reduceCtorEq,cY,d8];exact wf (hh:=(by rw[ag hq.out,←kJ];rfl)) (hb:=cL) (hbh:=cL)
      ·obtain rfl:i=postF.length:=by omega
       obtain rfl:j=s0.faces.length:=by have:=gI.out;omega
       clear j6;have R7:(Yg k pre).length=k:=by rw[i7.out,Xt]
       refine am ?_<;>intros;refine th _ _ _ _ _ ?_ (.inr ⟨k+1,0,by rw[i7.out],XE _,rfl,rfl,rfl⟩) ((aL 5 (by simp)).trans ?_)
       ·have:=hm.out;have:=bU.out;have:=i7.out;omega
       exact wf (hh:=(by rw[i7.out,Xt];rfl)) (hb:=cL) (hbh:=cL)
  ·have hm:=Xj hm;have rY:=Xj Bg;have jf:pre.length+1+q+1≤100:=by have:=bU.out;omega
   have jc:(Yg q post).length=q:=by rw[Xq];omega
   have uI:k≤v.subs.length:=by have:=bU.out;omega
   by_cases xu:q < post.length
   ·obtain⟨s,hq⟩:∃s,post[q]? =some s:=⟨_,Xk xu⟩;have hs:v.subs[k]? =some s:=by
     rw[hL.out,XH (by omega),show k - pre.length=q+1 by omega,Yx];exact hq
    have iO:=h8.out s (Xl hs);have dM:(k:Int) < (v.subs.length:Int):=by have:=bU.out;omega
    have cR:=wi k (by omega);replace hq:=Xj hq;replace hs:=Xj hs;have lT:=hs.out;clear Bg;refine am ?_<;>intros;refine bo ae ak s.faces (fun _=>True) (fun j=>[(40,.d (.v (.int .i64 j))),(39,.d (.v (.int .i64 s.faces.length))),(38,.d (.sl 2 (s.faces.map cj))),(28,.d (.v (.int .i64 k))),(27,.d (.v (.int .i64 v.subs.length))),(26,.d (.sl 4 (v.subs.map aT))),(8,.ptr 10 0),(5,.ptr 2 0)])
     (fun j=>[.gone,.row 58 3 1 (ab (v.ranges.map bp)),.box 55 [.d (.v (.int .i64 v.id)),.own 1 1,.own 3 k],.row 71 4 k (eU aT pre (ck s0 (.own 6 s0.faces.length)) (post.take q)),.gone,.gone,.row 74 2 s0.faces.length (eU cj preF (d8 f0 (.own 8 1)) postF),.gone,.row 3 1 1 (ab (f0.addrs.map cy)),.gone,.box 71 [.d (.v (.int .i64 s.id)),.d (.v (.int .i64 s.at_.at_)),.d (.v (.int .i64 s.at_.len)),.own 11 j],.row 74 2 j (ab ((s.faces.take j).map cj))]) trivial ?_ ?_ ?_
    ·refine(aL 9 (by simp)).trans ((au (by simp) 10 71 [.d (.v (.int .i64 s.id)),.d (.v (.int .i64 s.at_.at_)),.d (.v (.int .i64 s.at_.len)),.d (.v (.slice none 0 0))] 3 74 2 rfl rfl rfl).trans ?_);exact wf (hb:=cL) (hbh:=cL)
    ·intro j f hf hj _ C hC;have ip:(j:Int) < (s.faces.length:Int):=by omega
     have kj:=wi j (by omega);have gY:=iO.2 f (Xl hf);have jm:j+1≤100:=by omega
     have pm:(Yg j s.faces).length=j:=by rw[Xq];omega
     replace hf:=Xj hf;have zQ:=hf.out;have z1z:=Ln.mk (ls:=[]) (fm f.addrs (by omega));refine am ?_<;>intros;refine hC _ _ trivial ((ap 13 1 3 1 (f.addrs.map cy) rfl).trans ?_);simp only[iD,fz,gy,gj,g8,f9,aR,bS,bW,Xm,Xv,XM,XL,reduceIte,and_true,true_and,and_self,and_false,false_and,XG,XW,reduceCtorEq,cY];exact wf (hh:=(by rw[ag hf.out,Xo,Xm,Xv,←aI];rfl)) (hb:=cL) (hbh:=cL)
    ·intro _ C;refine am ?_<;>intros;refine th _ _ _ _ _ ?_ (.inr ⟨k+1,q+1,by have:=rY.out;omega,xu,rfl,rfl,rfl⟩) ((ap 11 s.faces.length 74 2 (s.faces.map cj) rfl).trans ?_)
     ·have:=hm.out;have:=bU.out;have:=rY.out;omega
     simp only[iD,fz,gy,gj,g8,f9,aR,bS,bW,Xm,Xv,XM,XL,reduceIte,and_true,true_and,and_self,and_false,false_and,XG,XW,reduceCtorEq,cY,ck];exact wf (hh:=(by rw[ag hq.out,←kJ];rfl)) (hb:=cL) (hbh:=cL)
   ·obtain rfl:q=post.length:=by omega
    obtain rfl:k=v.subs.length:=by have:=bU.out;omega
    clear Bg;refine am ?_<;>intros;(try rw[Xt])
    exact bn rfl rfl
theorem AG {α:Type}{enc:α→List D}(l:List α)(i j g:Nat)(hi:i < l.length)(hj:j=i+1):
 MSpec prog 147 [.own 0 g,.d (.v (.int .i64 i)),.d (.v (.int .i64 j))] [.row 58 3 g (ab (l.map enc))] (.own 0 (g+1)) [.row 58 3 (g+1) (ab ((l.eraseIdx i).map enc))]:=by
 have h1:((i:Int)==(j:Int))=false:=by simp;omega
 have bB:¬ab (l.map enc)=[]:=by cases l<;>simp[ab]at hi ⊢
 have hle:(i:Int)≤(j:Int):=by omega
 have hle2:(j:Int)≤(l.length:Int):=by omega
 have lS:(l.map enc).length=l.length:=XD _;have h2:=lE (ab (l.map enc)) i j l.length (by rw[aF,lS];exact hi) hj (by rw[aF,lS]);rw[aF,lS]at h2;have rX:=Xj hj;clear hj;have Jz:j≤l.length:=by have:=rX.out;omega
 have D8:min (l.length - j) (l.length - j)=l.length - j:=Zq _;have hlt:i+(l.length - j)≤l.length:=by have:=rX.out;omega
 have pk:l.length - (i+(l.length - j))=1:=by have:=rX.out;omega
 have i7:i+(l.length - j)+1≤l.length:=by have:=rX.out;omega
 have ut:¬ay (ab (l.map enc)) i (((ab (l.map enc)).drop j).take (l.length - j))=[]:=by
  intro h;rw[h]at h2;simp at h2;omega
 refine mj func147 ntmps147 results147 ?_;repeat' (first|(with_reducible refine And.intro ?_ ?_)|(with_reducible refine cn (fun _=>?_) (fun _=>?_))|(with_reducible refine aA (fun _=>?_) (fun _=>?_))|(with_reducible refine be (by kernel_rfl))|simp -dsimp only[go_sem,seval, *,h1,bB,Yo,Xq,XJ]|((with_reducible refine bf ?_);simp -dsimp only[go_sem,seval,h1,bB,Yo,Xq,XJ];first|refine aC (by first|assumption|fail) (by first|exact .inl rfl|exact .inr rfl) ?_|refine aB (by assumption) (by repeat(first|exact ai.refl _|exact ai.nil _|(refine ai.tup ?_)|(refine ai.agg ?_ rfl)|exact trivial|(refine And.intro ?_ ?_))) (by first|exact .inl rfl|exact .inr rfl) ?_)|omega|exact decide_eq_true (by omega)|exact ai.refl _)
 rw[fX];exact oe (by rw[lS];exact hi) rX.out lS.symm
theorem Fe {α:Type}{enc:α→List D}(l:List α)(i j g:Nat)(hi:i < l.length)(hj:j=i+1):
 MSpec prog 154 [.own 0 g,.d (.v (.int .i64 i)),.d (.v (.int .i64 j))] [.row 71 4 g (ab (l.map enc))] (.own 0 (g+1)) [.row 71 4 (g+1) (ab ((l.eraseIdx i).map enc))]:=by
 have h1:((i:Int)==(j:Int))=false:=by simp;omega
 have bB:¬ab (l.map enc)=[]:=by cases l<;>simp[ab]at hi ⊢
 have hle:(i:Int)≤(j:Int):=by omega
 have hle2:(j:Int)≤(l.length:Int):=by omega
 have lS:(l.map enc).length=l.length:=XD _;have h2:=lE (ab (l.map enc)) i j l.length (by rw[aF,lS];exact hi) hj (by rw[aF,lS]);rw[aF,lS]at h2;have rX:=Xj hj;clear hj;have Jz:j≤l.length:=by have:=rX.out;omega
 have D8:min (l.length - j) (l.length - j)=l.length - j:=Zq _;have hlt:i+(l.length - j)≤l.length:=by have:=rX.out;omega
 have pk:l.length - (i+(l.length - j))=1:=by have:=rX.out;omega
 have i7:i+(l.length - j)+1≤l.length:=by have:=rX.out;omega
 have ut:¬ay (ab (l.map enc)) i (((ab (l.map enc)).drop j).take (l.length - j))=[]:=by
  intro h;rw[h]at h2;simp at h2;omega
 refine mj func154 ntmps154 results154 ?_;repeat' (first|(with_reducible refine And.intro ?_ ?_)|(with_reducible refine cn (fun _=>?_) (fun _=>?_))|(with_reducible refine aA (fun _=>?_) (fun _=>?_))|(with_reducible refine be (by kernel_rfl))|simp -dsimp only[go_sem,seval, *,h1,bB,Yo,Xq,XJ]|((with_reducible refine bf ?_);simp -dsimp only[go_sem,seval,h1,bB,Yo,Xq,XJ];first|refine aC (by first|assumption|fail) (by first|exact .inl rfl|exact .inr rfl) ?_|refine aB (by assumption) (by repeat(first|exact ai.refl _|exact ai.nil _|(refine ai.tup ?_)|(refine ai.agg ?_ rfl)|exact trivial|(refine And.intro ?_ ?_))) (by first|exact .inl rfl|exact .inr rfl) ?_)|omega|exact decide_eq_true (by omega)|exact ai.refl _)
 rw[fX];exact oe (by rw[lS];exact hi) rX.out lS.symm
theorem C6 {α:Type}{enc:α→List D}(l:List α)(i j g:Nat)(hi:i < l.length)(hj:j=i+1):
 MSpec prog 159 [.own 0 g,.d (.v (.int .i64 i)),.d (.v (.int .i64 j))] [.row 74 2 g (ab (l.map enc))] (.own 0 (g+1)) [.row 74 2 (g+1) (ab ((l.eraseIdx i).map enc))]:=by
 have h1:((i:Int)==(j:Int))=false:=by simp;omega
 have bB:¬ab (l.map enc)=[]:=by cases l<;>simp[ab]at hi ⊢
 have hle:(i:Int)≤(j:Int):=by omega
 have hle2:(j:Int)≤(l.length:Int):=by omega
 have lS:(l.map enc).length=l.length:=XD _;have h2:=lE (ab (l.map enc)) i j l.length (by rw[aF,lS];exact hi) hj (by rw[aF,lS]);rw[aF,lS]at h2;have rX:=Xj hj;clear hj;have Jz:j≤l.length:=by have:=rX.out;omega
 have D8:min (l.length - j) (l.length - j)=l.length - j:=Zq _;have hlt:i+(l.length - j)≤l.length:=by have:=rX.out;omega
 have pk:l.length - (i+(l.length - j))=1:=by have:=rX.out;omega
 have i7:i+(l.length - j)+1≤l.length:=by have:=rX.out;omega
 have ut:¬ay (ab (l.map enc)) i (((ab (l.map enc)).drop j).take (l.length - j))=[]:=by
  intro h;rw[h]at h2;simp at h2;omega
 refine mj func159 ntmps159 results159 ?_;repeat' (first|(with_reducible refine And.intro ?_ ?_)|(with_reducible refine cn (fun _=>?_) (fun _=>?_))|(with_reducible refine aA (fun _=>?_) (fun _=>?_))|(with_reducible refine be (by kernel_rfl))|simp -dsimp only[go_sem,seval, *,h1,bB,Yo,Xq,XJ]|((with_reducible refine bf ?_);simp -dsimp only[go_sem,seval,h1,bB,Yo,Xq,XJ];first|refine aC (by first|assumption|fail) (by first|exact .inl rfl|exact .inr rfl) ?_|refine aB (by assumption) (by repeat(first|exact ai.refl _|exact ai.nil _|(refine ai.tup ?_)|(refine ai.agg ?_ rfl)|exact trivial|(refine And.intro ?_ ?_))) (by first|exact .inl rfl|exact .inr rfl) ?_)|omega|exact decide_eq_true (by omega)|exact ai.refl _)
 rw[fX];exact oe (by rw[lS];exact hi) rX.out lS.symm
section
open Go.Proofs Go.Shelf
theorem Rh (x y:SRow Ls 4)(W:World):Calls prog 152 #[.agg x.xs.toArray,.agg y.xs.toArray] W fun e w'=>e= .returned (.int .i64 (Ed x y))∧∃q os',w'=Sort.grow (W.drewN q) os':=by
 obtain⟨xs,xl,x1,a,xh⟩:=x;obtain⟨ys,yl,y1,b,yh⟩:=y;match xs,xl,ys,yl with
 |[u0,u1,u2,u3],_,[v0,v1,v2,v3],_=>
  simp[Ls]at xh yh;subst xh;subst yh;have hc:=iH a b;unfold Ed;simp only;generalize ez a b=r at*;replace hc:=Xj hc;clear x1 y1;go_enter func152,ntmps152
  go_wp2_with fail
  refine(hc.out _).mono ?_;rintro e w1 ⟨rfl,rfl⟩;go_wp2_with fail
  go_ret
  exact⟨cf rfl,0,_,by rw[Sort.alloc_eq_grow,Sort.alloc_eq_grow,Sort.grow_grow];rfl⟩
theorem LG {l l':List Sbn}(g:Nat)(pM:l≠[])(hp:l'.Perm l)(hs:l'.Pairwise fun x y=>(fun s:Sbn=>s.id) x < (fun s:Sbn=>s.id) y)(cT:l.length≤1000000):
 MSpec prog 151 [.own 0 g,.d (.clo 152 [])] [.row 71 4 g (ab (l.map aT))] (.d (.tup [])) [.row 71 4 g (ab (l'.map aT))]:=
 uE sortSub rfl (cZ func151 (by kernel_rfl) rfl) isAgg71 sizeOf71 (enters_of func152 (by kernel_rfl) rfl) Rh aT (fun s:Sbn=>s.id) (fun _=>rfl) pM hp hs cT
theorem OT (x y:SRow Ls 2)(W:World):Calls prog 157 #[.agg x.xs.toArray,.agg y.xs.toArray] W fun e w'=>e= .returned (.int .i64 (Ed x y))∧∃q os',w'=Sort.grow (W.drewN q) os':=by
 obtain⟨xs,xl,x1,a,xh⟩:=x;obtain⟨ys,yl,y1,b,yh⟩:=y;match xs,xl,ys,yl with
 |[u0,u1],_,[v0,v1],_=>
  simp[Ls]at xh yh;subst xh;subst yh;have hc:=iH a b;unfold Ed;simp only;generalize ez a b=r at*;replace hc:=Xj hc;clear x1 y1;go_enter func157,ntmps157
  go_wp2_with fail
  refine(hc.out _).mono ?_;rintro e w1 ⟨rfl,rfl⟩;go_wp2_with fail
  go_ret
  exact⟨cf rfl,0,_,by rw[Sort.alloc_eq_grow,Sort.alloc_eq_grow,Sort.grow_grow];rfl⟩
theorem IA {l l':List Fce}(g:Nat)(pM:l≠[])(hp:l'.Perm l)(hs:l'.Pairwise fun x y=>(fun f:Fce=>f.id) x < (fun f:Fce=>f.id) y)(cT:l.length≤1000000):
 MSpec prog 156 [.own 0 g,.d (.clo 157 [])] [.row 74 2 g (ab (l.map cj))] (.d (.tup [])) [.row 74 2 g (ab (l'.map cj))]:=
 uE sortFace rfl (cZ func156 (by kernel_rfl) rfl) isAgg74 sizeOf74 (enters_of func157 (by kernel_rfl) rfl) OT cj (fun f:Fce=>f.id) (fun _=>rfl) pM hp hs cT
end
def Rng.zero:Rng:=⟨⟨0,0⟩,0⟩
def dP (v:Vpc)(p:Pfx):Vpc × Rng × Int:=
 if bN v≠0 then (Vpc.zero,Rng.zero,bN v)else
 match v.ranges.findIdx? (fun r=>decide (r.at_=p))with
 |none=>(Vpc.zero,Rng.zero,5)
 |some i=>if (v.subs.any fun s=>dO s.at_ p)=true then (Vpc.zero,Rng.zero,9)else ({v with ranges:=v.ranges.eraseIdx i},v.ranges.getD i Rng.zero,0)
theorem OU (r:Rng)(p:Pfx):af prog 144 [.agg (bp r),.ept (aN p)] (.v (.bool (decide (r.at_=p)))):=by
 have he:=we r.at_ p;rw[←he];replace he:=Xj he;refine pj func144 ntmps144 results144 ?_;exact bc
theorem OV (s:Sbn)(p:Pfx):af prog 146 [.agg (aT s),.ept (aN p)] (.v (.bool (dO s.at_ p))):=by
 have hi:af prog 43 [.agg (aN s.at_),.agg (aN p)] (.v (.bool (dO s.at_ p))):=Cq _ _;refine pj func146 ntmps146 results146 ?_;exact bc
theorem OW (v:Vpc)(p:Pfx):af prog 69 [.agg (al v),.agg (aN p)] (.tup [.agg (al (dP v p).1),.agg (bp (dP v p).2.1),.v (.int .i64 (dP v p).2.2)]):=by
 obtain⟨R,hR⟩:∃R,R=dP v p:=⟨_,rfl⟩;rw[←hR];replace hR:=Xj hR;by_cases hc:bN v=0
 ·have hk:=aY hc;have cU:=lg v hc hk.n4 hk.n6 hk.n8;have nP:=vA mf (fun r=>decide (r.at_=p)) v.ranges 144 [.ept (aN p)] (by have:=hk.n4;omega) (fun r _=>OU r p);have ns:=vC me (fun s=>dO s.at_ p) v.subs 146 [.ept (aN p)] (by have:=hk.n6;omega) (fun s _=>OV s p);unfold cz at nP;cases hf:v.ranges.findIdx? (fun r=>decide (r.at_=p))with
  |none=>
   rw[hf]at nP;have hr:R=(Vpc.zero,Rng.zero,5):=by rw[hR.out];unfold dP;rw[if_neg (by simpa using hc),hf]
   rw[hr];clear hr hR hf hc hk;refine pj func69 ntmps69 results69 ?_;have z1z:=Ln.mk (ls:=[]) (cU);refine am ?_<;>intros;exact dg
  |some i=>
   rw[hf]at nP;have hi:i < v.ranges.length:=(XI.1 hf).1;obtain⟨g,hg⟩:∃g,v.ranges[i]? =some g:=⟨_,Xk hi⟩;have j4:decide ((i:Int) < 0)=false:=by simp
   have Jo:=hk.n4;cases ha:v.subs.any fun s=>dO s.at_ p with
   |true=>
    rw[ha]at ns;have hr:R=(Vpc.zero,Rng.zero,9):=by rw[hR.out];unfold dP;rw[if_neg (by simpa using hc),hf];simp only;rw[if_pos ha]
    rw[hr];clear hr hR hf hc hk;refine pj func69 ntmps69 results69 ?_;have z1z:=Ln.mk (ls:=[]) (cU);refine am ?_<;>intros;exact dg
   |false=>
    rw[ha]at ns;have hr:R=({v with ranges:=v.ranges.eraseIdx i},g,0):=by
     rw[hR.out];unfold dP;rw[if_neg (by simpa using hc),hf];simp only;rw[if_neg (by simp[ha])];rw[XK,hg];rfl
    have hd:=AG (enc:=bp) v.ranges i (i+1) 1 hi rfl;have cR:=wi i (by omega);rw[hr];clear hr hR hf hc hk;refine pj func69 ntmps69 results69 ?_;have z1z:=Ln.mk (ls:=[]) (cU);have z2z:=Ln.mk (ls:=[5]) (hd);exact bc;all_goals exact dg
 ·have cU:=lf v hc;have h1:(bN v !=0)=true:=by simpa using hc
  have hr:R=(Vpc.zero,Rng.zero,bN v):=by rw[hR.out];unfold dP;rw[if_pos hc]
  rw[hr];replace hr:=Xj hr;refine pj func69 ntmps69 results69 ?_;have z1z:=Ln.mk (ls:=[]) (cU);refine am ?_<;>intros;exact dg
def lh (v:Vpc)(id:Int)(p:Pfx):Int:=
 if cI id=false∨fF v p=false then 3 else
 if (v.subs.any fun s=>(s.id==id)||s.at_.meets p)=true then 6 else if v.subs.length=6 then 2 else 0
def nH (v:Vpc)(id:Int)(p:Pfx):Vpc × Int:=
 if bN v≠0 then (Vpc.zero,bN v)else if lh v id p≠0 then (Vpc.zero,lh v id p)else ({v with subs:=di (·.id) ⟨id,p,[]⟩ v.subs},0)
theorem Ri (s:Sbn)(id:Int)(p:Pfx):af prog 150 [.agg (aT s),.ept [.v (.int .i64 id)],.ept (aN p)] (.v (.bool ((s.id==id)||s.at_.meets p))):=by
 have hm:af prog 19 [.agg (aN s.at_),.agg (aN p)] (.v (.bool (s.at_.meets p))):=oZ _ _;cases h1:s.id==id;all_goals
  refine pj func150 ntmps150 results150 ?_;exact bc
theorem Rj (v:Vpc)(id:Int)(p:Pfx):af prog 70 [.agg (al v),.v (.int .i64 id),.agg (aN p)] (.tup [.agg (al (nH v id p).1),.v (.int .i64 (nH v id p).2)]):=by
 obtain⟨R,hR⟩:∃R,R=nH v id p:=⟨_,rfl⟩;rw[←hR];replace hR:=Xj hR;by_cases hc:bN v=0
 ·have hk:=aY hc;have cU:=lg v hc hk.n4 hk.n6 hk.n8;have hid:=kR id;have VW:=rf v p (by have:=hk.n4;omega);have ns:=vC me (fun s=>(s.id==id)||s.at_.meets p) v.subs 150 [.ept [.v (.int .i64 id)],.ept (aN p)] (by have:=hk.n6;omega) (fun s _=>Ri s id p);have aP:R=if lh v id p≠0 then (Vpc.zero,lh v id p)else ({v with subs:=di (·.id) ⟨id,p,[]⟩ v.subs},0):=by rw[hR.out];unfold nH;rw[if_neg (by simpa using hc)]
  have Ej:=hk.n6;by_cases bI:lh v id p≠0
  ·rw[if_pos bI]at aP;unfold lh at aP bI;generalize fF v p=K at*;generalize cI id=I at*;generalize (v.subs.any fun s=>(s.id==id)||s.at_.meets p)=M at*;replace aP:=Xj aP;replace bI:=Xj bI;clear hR hc hk;have JD:((v.subs.length:Int)==6)=decide (v.subs.length=6):=by rw[Yi];simp;omega
   refine pj func70 ntmps70 results70 ?_;repeat' (first|(with_reducible refine And.intro ?_ ?_)|(with_reducible refine cn (fun _=>?_) (fun _=>?_))|(with_reducible refine aA (fun _=>?_) (fun _=>?_))|(with_reducible refine be (by kernel_rfl))|simp -dsimp only[go_sem,seval, *,al,aN,JD]|((with_reducible refine bf ?_);simp -dsimp only[go_sem,seval,al,aN,JD];first|refine aC (by first|assumption|exact hid|exact VW|exact ns) (by first|exact .inl rfl|exact .inr rfl) ?_|(refine aB (by assumption) ?_ ?_ ?_;(solve|(repeat(first|exact ai.refl _|exact ai.nil _|(refine ai.tup ?_)|(refine ai.agg ?_ rfl)|exact trivial|(refine And.intro ?_ ?_))));(solve|exact .inl rfl|exact .inr rfl)))|(refine aX [] (cU) ?_ ?_ ?_ ?_ ?_ ?_;(solve|rfl|simp only[go_sem,seval,al]);(solve|rfl);(solve|decide);(solve|simp);(solve|simp only[go_sem,seval,ax,al]))|omega|exact decide_eq_true (by omega)|exact ai.refl _)
   all_goals
    have h1:=aP.out;have h2:=bI.out;clear hid VW ns cU;first
     |(exfalso;grind)
     |(rw[show R=(Vpc.zero,3) from (by rw[h1];grind)];exact dg)
     |(rw[show R=(Vpc.zero,6) from (by rw[h1];grind)];exact dg)
     |(rw[show R=(Vpc.zero,2) from (by rw[h1];grind)];exact dg)
  ·rw[if_neg bI]at aP;have hg:lh v id p=0:=by simpa using bI
   obtain⟨g1,g2,g3,g4⟩:fF v p=true∧cI id=true∧(v.subs.any fun s=>(s.id==id)||s.at_.meets p)=false∧v.subs.length≠6:=by
    unfold lh at hg;generalize (v.subs.any fun s=>(s.id==id)||s.at_.meets p)=M at*;grind
   have bB:∀s∈v.subs,s.id≠(⟨id,p,[]⟩:Sbn).id:=fun s hs=>by have:=Yh.1 g3 s hs;simp at this;exact this.1
   have nJ:=LG (l:=v.subs++[⟨id,p,[]⟩]) (l':=di (·.id) ⟨id,p,[]⟩ v.subs) (v.subs.length+1) (by simp) (f6 _ _ _) (gB hk.rs bB) (by simp;omega);rw[g1]at VW;rw[g2]at hid;rw[g3]at ns;have JD:((v.subs.length:Int)==6)=false:=by simp;omega
   have jf:v.subs.length+1≤100:=by omega
   simp only[Xo,Xm,Xv]at nJ;have nJ:=nJ.leh (qV (A:=v.subs.map aT) (B:=[]) (r:=[.v (.int .i64 id),.v (.int .i64 p.at_),.v (.int .i64 p.len),.v (.slice none 0 0)]) dg) (by have:=kN (enc:=aT) (fun _=>rfl) (v.subs++[⟨id,p,[]⟩]);simpa using this) (az _ _);rw[aP];clear hR aP hc hk bB hg bI;refine pj func70 ntmps70 results70 ?_;have z1z:=Ln.mk (ls:=[]) (cU);have z2z:=Ln.mk (ls:=[7]) (nJ);exact bc
 ·have cU:=lf v hc;have h1:(bN v !=0)=true:=by simpa using hc
  have hr:R=(Vpc.zero,bN v):=by rw[hR.out];unfold nH;rw[if_pos hc]
  rw[hr];replace hr:=Xj hr;refine pj func70 ntmps70 results70 ?_;have z1z:=Ln.mk (ls:=[]) (cU);refine am ?_<;>intros;exact dg
def sQ (v:Vpc)(i:Nat)(id:Int):Int:=match v.subs[i]? with|some s=>cz (fun f=>f.id==id) s.faces|none=> -1
def ws (v:Vpc)(sub id:Int):Int × Int:=match v.subs.findIdx? (fun s=>s.id==sub)with|none=>(-1,-1)|some i=>(i,sQ v i id)
theorem C7 (s:Sbn)(id:Int):af prog 216 [.agg (aT s),.ept [.v (.int .i64 id)]] (.v (.bool (s.id==id))):=by
 refine pj func216 ntmps216 results216 ?_;exact bc
theorem LH (f:Fce)(id:Int):af prog 218 [.agg (cj f),.ept [.v (.int .i64 id)]] (.v (.bool (f.id==id))):=by
 refine pj func218 ntmps218 results218 ?_;exact bc
theorem uF (v:Vpc)(sub id:Int)(h6:v.subs.length≤6)(h8:∀s∈v.subs,s.faces.length≤8):af prog 153 [.ept (al v),.v (.int .i64 sub),.v (.int .i64 id)] (.tup [.v (.int .i64 (ws v sub id).1),.v (.int .i64 (ws v sub id).2)]):=by
 have nP:=vB me (fun s=>s.id==sub) v.subs 216 [.ept [.v (.int .i64 sub)]] (by omega) (fun s _=>C7 s sub);unfold ws;unfold cz at nP;cases hf:v.subs.findIdx? (fun s=>s.id==sub)with
 |none=>
  rw[hf]at nP;replace hf:=Xj hf;refine pj func153 ntmps153 results153 ?_;exact bc;all_goals exact dg
 |some i=>
  rw[hf]at nP;have hi:i < v.subs.length:=(XI.1 hf).1;obtain⟨s,hs⟩:∃s,v.subs[i]? =some s:=⟨_,Xk hi⟩;have j4:decide ((i:Int) < 0)=false:=by simp
  have hfx:=yW vt (fun f=>f.id==id) s.faces 218 [.ept [.v (.int .i64 id)]] (by have:=h8 s (Xl hs);omega) (fun f _=>LH f id);unfold sQ;simp only;rw[hs];replace hf:=Xj hf;refine pj func153 ntmps153 results153 ?_;exact bc;all_goals exact dg
def fp (v:Vpc)(id:Int):Vpc × Int:=
 if bN v≠0 then (Vpc.zero,bN v)else
 match v.subs.findIdx? (fun s=>s.id==id)with
 |none=>(Vpc.zero,5)
 |some i=>if (v.subs[i]?.map fun s=>s.faces.length)≠some 0 then (Vpc.zero,9)else ({v with subs:=v.subs.eraseIdx i},0)
theorem sR (sub id:Int):af prog 153 [.ept [.v (.int .i64 0),.v (.slice none 0 0),.v (.slice none 0 0)],.v (.int .i64 sub),.v (.int .i64 id)] (.tup [.v (.int .i64 (-1)),.v (.int .i64 (-1))]):=by
 have nP:=(vB me (fun s=>s.id==sub) [] 216 [.ept [.v (.int .i64 sub)]] (by simp) (fun s _=>C7 s sub)).args (ds:=[.v (.slice none 0 0),.clo 216 [.ept [.v (.int .i64 sub)]]]) ⟨ai.nil _,ai.refl _,trivial⟩;unfold cz at nP;simp only[List.findIdx?_nil]at nP;refine pj func153 ntmps153 results153 ?_;exact bc
theorem OX (v:Vpc)(id:Int):af prog 71 [.agg (al v),.v (.int .i64 id)] (.tup [.agg (al (fp v id).1),.v (.int .i64 (fp v id).2)]):=by
 obtain⟨R,hR⟩:∃R,R=fp v id:=⟨_,rfl⟩;rw[←hR];replace hR:=Xj hR;by_cases hc:bN v=0
 ·have hk:=aY hc;have cU:=lg v hc hk.n4 hk.n6 hk.n8;have gT:=uF v id 0 hk.n6 (fun s hs=>(hk.n8 s hs).1);have Ej:=hk.n6;unfold ws at gT;cases hf:v.subs.findIdx? (fun s=>s.id==id)with
  |none=>
   rw[hf]at gT;have hr:R=(Vpc.zero,5):=by rw[hR.out];unfold fp;rw[if_neg (by simpa using hc),hf]
   rw[hr];clear hr hR hf hc hk;refine pj func71 ntmps71 results71 ?_;have z1z:=Ln.mk (ls:=[]) (cU);refine am ?_<;>intros;exact dg
  |some i=>
   rw[hf]at gT;have hi:i < v.subs.length:=(XI.1 hf).1;obtain⟨s,hs⟩:∃s,v.subs[i]? =some s:=⟨_,Xk hi⟩;have j4:decide ((i:Int) < 0)=false:=by simp
   simp only at gT;generalize sQ v i 0=FI at gT;by_cases h0:s.faces.length=0
   ·have hr:R=({v with subs:=v.subs.eraseIdx i},0):=by rw[hR.out];unfold fp;rw[if_neg (by simpa using hc),hf];simp only;rw[hs];simp[h0]
    have hd:=Fe (enc:=aT) v.subs i (i+1) v.subs.length hi rfl;have cR:=wi i (by omega);have h0b:decide ((s.faces.length:Int)>0)=false:=by simp[h0]
    rw[hr];clear hr hR hf hc hk h0;refine pj func71 ntmps71 results71 ?_;have z1z:=Ln.mk (ls:=[]) (cU);have z2z:=Ln.mk (ls:=[5]) (hd);exact bc;all_goals exact dg
   ·have hr:R=(Vpc.zero,9):=by rw[hR.out];unfold fp;rw[if_neg (by simpa using hc),hf];simp only;rw[hs];simp[h0]
    have h0b:decide ((s.faces.length:Int)>0)=true:=by simp;omega
    rw[hr];clear hr hR hf hc hk h0;refine pj func71 ntmps71 results71 ?_;have z1z:=Ln.mk (ls:=[]) (cU);refine am ?_<;>intros;all_goals exact dg
 ·have cU:=lf v hc;have UA:=sR id 0;have h1:(bN v !=0)=true:=by simpa using hc
  have hr:R=(Vpc.zero,bN v):=by rw[hR.out];unfold fp;rw[if_pos hc]
  rw[hr];replace hr:=Xj hr;refine pj func71 ntmps71 results71 ?_;have z1z:=Ln.mk (ls:=[]) (cU);refine am ?_<;>intros;exact dg
def fK (used:List Int)(p:Pfx):Nat→Int→Option Int
 |0,_=>none
 |n+1,a=>if iW p a=true then (if a∈used then fK used p n (a+1)else some a)else none
def eD (s:Sbn):Option Int:=fK (s.faces.flatMap (·.addrs)) s.at_ 65536 (s.at_.at_+1)
theorem AH {p:Pfx}{a:Int}(h:iW p a=true):p.right=true∧p.at_ < a∧a < p.hi - 1∧a≤65535:=by
 unfold iW at h;simp only[Xy,decide_eq_true_eq]at h;have hr:=mo.1 (by rw[←oq];exact h.1);have hb:=p.hi_bd hr.1;have:p.hi=p.at_+eG p.len:=rfl;exact⟨hr.1,by omega,by omega,by omega⟩
theorem GK (s:Sbn)(h8:s.faces.length≤8)(h4:∀f∈s.faces,f.addrs.length≤4)(hr:s.at_.right=true)(lm:(s.faces.flatMap (·.addrs)).Nodup):af prog 155 [.agg (aT s)] (.tup [.v (.int .i64 ((eD s).getD 0)),.v (.bool (eD s).isSome)]):=by
 obtain⟨r1,r2,r3,r4,-⟩:=s.at_.bd hr;replace lm:=Xj lm;refine pj func155 ntmps155 results155 ?_;refine am ?_<;>intros;refine bL ae ak (fun m e h=>∃(k:Nat) (ents:List (List Int × Int)),k≤s.faces.length∧QQ ents ((s.faces.take k).flatMap (·.addrs))∧m=s.faces.length - k∧
  e=[(14,.d (.v (.int .i64 k))),(13,.d (.v (.int .i64 s.faces.length))),(12,.d (.sl 2 (s.faces.map cj))),(4,.mref 1),(3,.d (.v (.bool false))),(2,.d (.v (.int .i64 0))),(1,.ptr 0 0)]∧h=[.box 71 ((aT s).map .d),.mp 1 false ents]) _ _ _ ⟨0,[],XE _,Gq,rfl,rfl,rfl⟩ (wf) ?_
 rintro m e h ⟨k,ents,hk,pr,hm,rfl,rfl⟩ C hC;by_cases hlt:k < s.faces.length
 ·have dM:(k:Int) < (s.faces.length:Int):=by omega
  have cR:=wi k (by omega);obtain⟨f,hf⟩:∃f,s.faces[k]? =some f:=⟨_,Xk hlt⟩;have gY:=h4 f (Xl hf);replace hm:=Xj hm;replace pr:=Xj pr;refine am ?_<;>intros;refine bL ae ak (fun m e h=>∃(j:Nat) (ents:List (List Int × Int)),j≤f.addrs.length∧QQ ents ((s.faces.take k).flatMap (·.addrs)++f.addrs.take j)∧m=f.addrs.length - j∧
   e=[(21,.d (.v (.int .i64 j))),(20,.d (.v (.int .i64 f.addrs.length))),(19,.d (.sl 1 (f.addrs.map cy))),(14,.d (.v (.int .i64 k))),(13,.d (.v (.int .i64 s.faces.length))),(12,.d (.sl 2 (s.faces.map cj))),(4,.mref 1),(3,.d (.v (.bool false))),(2,.d (.v (.int .i64 0))),(1,.ptr 0 0)]∧h=[.box 71 ((aT s).map .d),.mp 1 false ents]) _ _ _ ⟨0,ents,XE _,by simpa using pr.out,rfl,rfl,rfl⟩ (wf) ?_
  rintro m2 e h ⟨j,en2,hj,ja,gZ,rfl,rfl⟩ C2 jI;by_cases pm:j < f.addrs.length
  ·have ip:(j:Int) < (f.addrs.length:Int):=by omega
   have kj:=wi j (by omega);obtain⟨a,ha⟩:∃a,f.addrs[j]? =some a:=⟨_,Xk pm⟩;have RG:=ja a;have g7:f.addrs.take (j+1)=f.addrs.take j++[a]:=ag ha;have hd:a∉(s.faces.take k).flatMap (·.addrs)++f.addrs.take j:=by
    have wY:((s.faces.take k).flatMap (·.addrs)++f.addrs.take (j+1)).Sublist (s.faces.flatMap (·.addrs)):=by
     conv=>rhs;rw[←YX k s.faces,jS hf,Zs,List.flatMap_cons]
     exact List.Sublist.append (List.Sublist.refl _) ((O' _ _).trans (List.sublist_append_left _ _))
    have:=wY.nodup lm.out;rw[g7,←X4,p7]at this;exact this.2
   rw[if_neg hd]at RG;have fq:=Cs ja hd;replace ja:=Xj ja;replace fq:=Xj fq;replace gZ:=Xj gZ;replace g7:=Xj g7;have cD:IntKind.i64.wrap 1=1:=by decide
   refine am ?_<;>intros;refine jI _ _ _ _ _ ?_ ⟨j+1,l9 en2 [a] 1,pm,?_,rfl,rfl,rfl⟩ (wf)
   ·have:=gZ.out;omega
   ·rw[g7.out,←X4];exact fq.out
  ·obtain rfl:j=f.addrs.length:=by omega
   rw[Xt]at ja;have uq:(s.faces.take (k+1)).flatMap (·.addrs)=(s.faces.take k).flatMap (·.addrs)++f.addrs:=by rw[ag hf,Zs];simp
   replace gZ:=Xj gZ;replace ja:=Xj ja;replace uq:=Xj uq;refine am ?_<;>intros;refine hC _ _ _ _ _ ?_ ⟨k+1,en2,hlt,?_,rfl,rfl,rfl⟩ (wf)
   ·have:=hm.out;omega
   ·rw[uq.out];exact ja.out
 ·obtain rfl:k=s.faces.length:=by omega
  rw[Xt]at pr;replace pr:=Xj pr;replace hm:=Xj hm;have cl:IntKind.i64.wrap (s.at_.at_+1)=s.at_.at_+1:=by rw[IntKind.wrap_i64];omega
  refine am ?_<;>intros;refine bL ae ak (fun m e h=>∃(i:Nat) (a:Int),i≤65536∧a=s.at_.at_+1+i∧eD s=fK (s.faces.flatMap (·.addrs)) s.at_ (65536 - i) a∧m=65536 - i∧
   e=[(9,.d (.v (.int .i64 a))),(4,.mref 1),(3,.d (.v (.bool false))),(2,.d (.v (.int .i64 0))),(1,.ptr 0 0)]∧h=[.box 71 ((aT s).map .d),.mp 1 false ents]) 65536 _ _ ⟨0,s.at_.at_+1,XE _,by simp,rfl,rfl,rfl,rfl⟩ (wf) ?_
  rintro m2 e h ⟨i,a,hi,Ue,hle,gZ,rfl,rfl⟩ C2 jI;have dE:=Gn s.at_ a;cases b1:iW s.at_ a with
  |false=>
   rw[b1]at dE;have ki:eD s=none:=by
    rw[hle];cases 65536 - i with
    |zero=>rfl
    |succ n=>rw[fK,if_neg (by simp[b1])]
   replace hle:=Xj hle;replace Ue:=Xj Ue;replace gZ:=Xj gZ;rw[ki];exact bc;all_goals exact dg
  |true=>
   have hb:=AH b1;obtain⟨n,hn⟩:∃n,65536 - i=n+1:=⟨65536 - i - 1,by omega⟩;rw[hn,fK,if_pos b1]at hle;rw[b1]at dE;have RG:=pr.out a;have A7:IntKind.i64.wrap (a+1)=a+1:=by rw[IntKind.wrap_i64];omega
   replace Ue:=Xj Ue;replace gZ:=Xj gZ;by_cases hu:a∈s.faces.flatMap (·.addrs)
   ·rw[if_pos hu]at RG hle;replace hle:=Xj hle;refine am ?_<;>intros;refine jI _ _ _ _ _ ?_ ⟨i+1,a+1,by omega,by rw[Ue.out];omega,?_,rfl,rfl,rfl⟩ (wf)
    ·have:=gZ.out;omega
    ·rw[hle.out];congr 1;omega
   ·rw[if_neg hu]at RG hle;rw[hle];replace hle:=Xj hle;exact bc;all_goals exact dg
end Go.Proofs.YtmicljipaiohkaaGreat
