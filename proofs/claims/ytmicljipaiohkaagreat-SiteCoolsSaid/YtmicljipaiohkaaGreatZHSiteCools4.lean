/- Texts of this work, joined. -/
import Derived.Test.YtmicljipaiohkaaGreatZHSiteCools3
import Derived.Deep.RegionLaw
import Derived.Shelf.RegionOpenPlain
import Derived.Lib.Overlaps
import Derived.Lib.AppendZerosOnto
import Derived.Laws.Externs
import Derived.Lib.SliceRun
import Derived.Deep.Slices
import Derived.Deep.Fields
import Derived.ChangeSame
import Derived.OpenShut
import Derived.ProofKit
import Derived.Carry
import Derived.ChangeMaps5
import Derived.DataShut
import Derived.Shelf.SlSortCmp.WholeK
import Derived.Test.YtmicljipaiohkaaGreatShelf
import Derived.Sort.Grow
set_option linter.unusedSimpArgs false
set_option linter.unusedVariables false
set_option maxRecDepth 100000
set_option maxHeartbeats 16000000
namespace Go.Proofs.YtmicljipaiohkaaGreat
open Go Go.RowKit
section
open Go.Proofs
theorem run_copy_own {P:Program}{w:World}{dT sT e:TypeId}{ie:TypeInfo}{sz g o dl dc sl sc:Nat}{a:Addr}{cur:Array Value}{E:TypeId}(ys:List Value)
 (ht:P.underlying dT=some (.slice e)) (hi:P.info? e=some ie) (hsz:ie.size=sz) (hn:ys.length=Nat.min sl dl*sz) (hsrc:∀j u,ys[j]? =some u→w.cell? (a.add j)=some u) (h1:∀u∈ys,u.oneCell'=true)
 (hh:w.heap[g]? =some (.cells cur E (0,0))) (ho:o+ys.length≤cur.size) (ty:TypeId):
 (Builtin.copy_ #[dT,sT] ty #[.slice (some ⟨g,o,none⟩) dl dc,.slice (some a) sl sc]).run P w= .ok (goInt (Nat.min sl dl)) (w.setRow g (setAt cur.toList o ys).toArray):=by
 have hfc:=run_firstCells_some (P:=P) w sz (Nat.min sl dl) a sl sc ys hn hsrc
 have hst:=run_storeCells_at P g o E ys 0 cur w hh (by simp;omega) h1
 have hst2:(storeCells ⟨g,o,none⟩ ys).run P w= .ok () (w.setRow g (setAt cur.toList o ys).toArray):=by
  rw[hst]
  simp[setAt]
 simp[Builtin.copy_,run_underlying ht,Builtin.lenOf,sizeOf,typeInfo,hi,hsz,hfc,hst2]
theorem wpList_copy_r {P:Program}(w:World){ops:Array Oper}{rest:List Oper}{o:Oper}{a:Act}{Q:Exit→Act→World→Prop}(hgd:o.guard=none)(d s:Operand)(t t':TypeId)
 (ho:o.op= .call {callee:= .builtin .copy,args:=#[d,s],argTypes:=#[t,t']}) (v u:Value) (hd:a.eval d=v) (hs:a.eval s=u) {v':Value}{w':World}
 (hr:(Builtin.copy_ #[t,t'] o.type #[v,u]).run P w= .ok v' w') (h:wpList P ops Q rest (a.put o.dst v') w'):wpList P ops Q (o::rest) a w:=
 wpList_plain hgd fun _ hK=>by
  unfold Oper.wp
  simp only[execOp,ho,resolve,invoke,builtin,Sem.run_bind,Sem.run_pure,Result.andThen_ok,List.map_toArray,List.map_cons,List.map_nil,hd,hs,hr]
  exact hK _ _ h
theorem step_copy_r {P:Program}{ops:Array Oper}{o:Oper}{a:Act}{w:World}{K:Act→World→Prop}{Q:Exit→Act→World→Prop}{E:Prop}(hg:o.guard=none)(d x:Operand)(dT sT:TypeId)
 (hop:o.op=Op.call {callee:=Callee.builtin Builtin.copy,args:=#[d,x],argTypes:=#[dT,sT]}) (v u:Value) (hd:a.eval d=v) (hx:a.eval x=u) {v':Value}{w':World}
 (hr:(Builtin.copy_ #[dT,sT] o.type #[v,u]).run P w= .ok v' w') (hK:K (a.put o.dst v') w'):if Region.wanted o (yielded ops a.tmps)=true then Oper.wp P o a w K Q else E:=by
 have hw:Region.wanted o (yielded ops a.tmps)=true:=by simp[Region.wanted,hg]
 rw[if_pos hw]
 unfold Oper.wp
 simp only[execOp,hop,resolve,invoke,builtin,Sem.run_bind,Sem.run_pure,Result.andThen_ok,List.map_toArray,List.map_cons,List.map_nil,hd,hx,hr]
 exact hK
theorem wpList_appz_r {P:Program}(w:World){ops:Array Oper}{rest:List Oper}{o:Oper}{a:Act}{Q:Exit→Act→World→Prop}(hgd:o.guard=none)(d s:Operand)(t t':TypeId)
 (ho:o.op= .call {callee:= .builtin .append,args:=#[d,s],argTypes:=#[t,t']}) (v u:Value) (hd:a.eval d=v) (hs:a.eval s=u) {v':Value}{w':World}
 (hr:(Builtin.append_ #[t,t'] o.type #[v,u]).run P w= .ok v' w') (h:wpList P ops Q rest (a.put o.dst v') w'):wpList P ops Q (o::rest) a w:=
 wpList_plain hgd fun _ hK=>by
  unfold Oper.wp
  simp only[execOp,ho,resolve,invoke,builtin,Sem.run_bind,Sem.run_pure,Result.andThen_ok,List.map_toArray,List.map_cons,List.map_nil,hd,hs,hr]
  exact hK _ _ h
theorem run_overlaps_own {P:Program}(w:World)(tS tR e:TypeId)(ht:P.underlying tS=some (.slice e))(size:Nat)(hz:∀w,(Go.sizeOf e).run P w= .ok size w)(a b:Addr)(la ca lb cb:Nat)(hne:a.block≠b.block)(sA:TypeId × Nat)(hsa:w.shape? a.block=some sA)(hA0:sA.2≠0)
 (cur:Array Value) (E:TypeId) (hb:w.heap[b.block]? =some (.cells cur E (0,0))) (hc:cur.size≠0):
 (Extern.SlicesOverlaps.overlaps #[tS,tS] #[tR] #[.slice (some a) la ca,.slice (some b) lb cb]).run P w= .ok (.bool false) w:=by
 have hnb:(a.block !=b.block)=true:=by simpa using hne
 have hnb':(a.block==b.block)=false:=by simpa using hne
 have hsb:w.shape? b.block=some (E,cur.size):=by simp[World.shape?,hb]
 have hfb:∀o,w.frozen? ⟨b.block,o,none⟩=false:=fun o=>by simp[World.frozen?,hb]
 have hfb':w.frozen? b=false:=by simp[World.frozen?,hb]
 obtain⟨k,hk⟩:∃k,cur.size=k+1:=⟨cur.size - 1,by omega⟩
 rw[hk]at hsb
 change Sem.run P (α:=Value) (do
  let some t:=(#[tS,tS]:Array TypeId)[0]? |stuck "slices.overlaps: no parameter types"
  let .slice elem ←underlying t|stuck "slices.overlaps: slice type expected"
  let size ←sizeOf elem
  match (some a:Option Addr),(some b:Option Addr)with
  |some a,some b=>
   if la=0∨lb=0∨size=0 then pure (Value.bool false)
   else if a.block !=b.block&&(←frozen a)&&(←frozen b)then unsupported .addressObserved
   else do
    if a.block !=b.block then do
     noView a;noView b
     if ←mayBeOne a b then return Value.bool ((←choose (.extern "sameAddr.stringBytes" 2))==1)
    pure (Value.bool (a.block==b.block&&a.off < b.off+lb*size&&b.off < a.off+la*size))
  |_,_=>pure (Value.bool false)) w=_
 by_cases h0:la=0∨lb=0∨size=0
 ·simp[run_underlying ht,hz,h0]
 ·obtain⟨tA,nA⟩:=sA
  obtain⟨q,rfl⟩:∃q,nA=q+1:=⟨nA - 1,by simp at hA0;omega⟩
  cases hfa:w.frozen? a<;>cases hfa2:w.frozen? ⟨a.block,q+1,none⟩<;>
   simp[run_underlying ht,hz,h0,hnb,hnb',frozen,noView,viewAt,mayBeOne,stringish,shape,Sem.run,hsa,hsb,hfa,hfa2,hfb,hfb']
def InsNew (w:World)(E g sz n:Nat)(zs:List Value)(e:Ending)(w':World):Prop:=
 ∃(G:Nat) (R:List Value),n+1≤G∧G≤9223372036854775807∧R.length=G*sz∧R.take ((n+1)*sz)=zs∧e= .returned (.slice (some ⟨w.heap.size,0,none⟩) (n+1) G)∧OneB w w' (some g)∧w'.heap[w.heap.size]? =some (.cells R.toArray E (0,0))
theorem cell_row {w:World}{g:Nat}{cur:Array Value}{E:TypeId}(hh:w.heap[g]? =some (.cells cur E (0,0)))(o:Nat):w.cell? ⟨g,o,none⟩=cur[o]? :=by
 simp[World.cell?,hh]
def InsAny (w:World)(E sz g n:Nat)(zs:List Value)(e:Ending)(w':World):Prop:=
 ∃v',e= .returned v'∧OwnV w' E sz v' n zs∧OneB w w' (some g)∧(ownB v'=some g∨∀b,ownB v'=some b→w.heap.size≤b)
theorem cells_shape {w:World}{b o:Nat}{u:Value}(h:w.cell? ⟨b,o,none⟩=some u):∃sA,w.shape? b=some sA∧sA.2≠0:=by
 cases hb:w.heap[b]? with
 |none=>simp[World.cell?,hb]at h
 |some ob=>
  cases ob with
  |cells c e f=>
   have h':c[o]? =some u:=by simpa[World.cell?,hb]using h
   have:=(Array.getElem?_eq_some_iff.1 h').1
   exact⟨(e,c.size),by simp[World.shape?,hb],by simp only;omega⟩
  |_=>simp[World.cell?,hb]at h
theorem ms_ins {P:Program}{f E sz g i:Nat}{rows:List (List D)}{x:List D}(hfn:FnOK P f)(hs0:0 < sz)(hi:i < rows.length)
 (raw:∀(w:World) (gb cap vb vo vc:Nat) (cur:Array Value) (xs ys:List Value),w.heap[gb]? =some (.cells cur E (0,0))→cap≤maxLen→rows.length≤cap→cur.size=cap*sz→xs.length=rows.length*sz→cur.toList.take (rows.length*sz)=xs→(∀u∈xs,u.oneCell'=true)→
  ys.length=sz→(∀u∈ys,u.oneCell'=true)→vb≠gb→(∀j u,ys[j]? =some u→w.cell? ⟨vb,vo+j,none⟩=some u)→
  Calls P f #[.slice (some ⟨gb,0,none⟩) rows.length cap,.int .i64 i,.slice (some ⟨vb,vo,none⟩) 1 vc] w (InsAny w E sz gb (rows.length+1) (xs.take (i*sz)++ys++xs.drop (i*sz)))):
 MSpec P f [.own 0 g,.d (.v (.int .i64 i)),.d (.sl sz [x])] [.row E sz g (dRows rows)] (.own 0 (g+1)) [.row E sz (g+1) (dRows (rows.take i++x::rows.drop i))]:=by
 refine⟨hfn,Nat.le_refl _,by simp[belowL,belowP],by simp[belowH,belowC,belowR_d],fun X hP hn hm w c vs hr hps=>?_⟩
 have hlen:=hps.1
 match vs,hlen with
 |[v0,v1,v2],_=>
  have r0:=hps.2 0 _ v0 rfl rfl
  have r1:=repD_inv (hps.2 1 _ v1 rfl rfl)
  have r2:=repD_inv (hps.2 2 _ v2 rfl rfl)
  have hne:dRows rows≠[]:=fun e=>by
   have:rows.length=0:=by rw[←dRows_len rows,e];rfl
   omega
  have hck:=hr.chunk 0
  cases r0 with
  |own _ _ _ hov h1=>
   obtain⟨gb,cap,rfl⟩:=own_some hck hov hne
   obtain⟨cur,xs,q1,q2,q3,q4,q5,q6,q7,q8,q9,q10,q11⟩:=row_cells hck hov hne
   have hxone:=RepPs.one q2 (fun d hd=>by obtain⟨r,hr,hd⟩:=List.mem_flatten.1 hd;exact q6 r hr d hd)
   rw[dRows_len]at q3 q4 q8 q10 hov ⊢
   cases r1
   have hMg:c.M gb:=(hr.mu gb).2 (.inr ⟨0,by
    have hcap:0 < cap:=by omega
    simp only[mkF,hatL,Cx.block,hov,Option.bind_some]
    exact ownB_pos hcap⟩)
   have hxs:cur.toList.take (rows.length*sz)=xs:=by
    apply List.ext_getElem?
    intro j
    by_cases hj:j < rows.length*sz
    ·rw[List.getElem?_take_of_lt hj,Array.getElem?_toList,q4 j hj]
    ·rw[List.getElem?_eq_none (by rw[List.length_take];omega),List.getElem?_eq_none (by omega)]
   cases r2 with
   |sl _ _ vb vo vc ff hM hb hc' hm' hr' h1' hcell hrep=>
    obtain⟨ys,y1,-,y2,y3,y4,y5,y6⟩:=sl_cells (w:=w) hs0 (RepD.sl (M:=c.M) sz [x] vb vo vc ff hM hb hc' hm' hr' h1' hcell hrep)
    have y1':ys.length=sz:=by simpa using y1
    have hcall:=raw w gb cap vb vo vc cur xs ys q1 q9 q10 q11 q3 hxs hxone y1' y4 (fun e=>hM (e ▸ hMg)) (fun j u hj=>by have:=y3 j u hj;rwa [Addr.add_lit]at this)
    refine hcall.mono fun e w' ⟨v',he,hown,hone,hnew⟩=>?_
    have hin2:∀r∈dRows (rows.take i++x::rows.drop i),r.length=sz:=fun r hr=>by
     obtain⟨q,hq,rfl⟩:=dRows_mem hr
     rw[List.length_map]
     rcases List.mem_append.1 hq with h|h
     ·have:=q5 (q.map .d) (List.mem_map.2 ⟨q,List.mem_of_mem_take h,rfl⟩)
      simpa using this
     ·rcases List.mem_cons.1 h with rfl|h
      ·exact y5 _ (by simp)
      ·have:=q5 (q.map .d) (List.mem_map.2 ⟨q,List.mem_of_mem_drop h,rfl⟩)
       simpa using this
    have hin3:∀r∈dRows (rows.take i++x::rows.drop i),∀d∈r,d.one=true:=fun r hr d hd=>by
     obtain⟨q,hq,rfl⟩:=dRows_mem hr
     rcases List.mem_append.1 hq with h|h
     ·exact q6 (q.map .d) (List.mem_map.2 ⟨q,List.mem_of_mem_take h,rfl⟩) d hd
     ·rcases List.mem_cons.1 h with rfl|h
      ·obtain⟨y,hy,rfl⟩:=List.mem_map.1 hd
       exact y6 _ (by simp) y hy
      ·exact q6 (q.map .d) (List.mem_map.2 ⟨q,List.mem_of_mem_drop h,rfl⟩) d hd
    have hflat:(dRows (rows.take i++x::rows.drop i)).flatten=((dRows rows).flatten.take (i*sz))++x.map .d++((dRows rows).flatten.drop (i*sz)):=by
     rw[←flatten_take q5,←flatten_drop q5]
     simp only[dRows,List.map_append,List.map_cons,List.flatten_append,List.flatten_cons,List.map_take,List.map_drop,List.append_assoc]
    have hrep':RepPs c w (dRows (rows.take i++x::rows.drop i)).flatten (xs.take (i*sz)++ys++xs.drop (i*sz)):=by
     rw[hflat]
     refine repPs_app (repPs_app ?_ ?_) ?_
     ·have:=q2.part 0 (i*sz)
      simpa using this
     ·have:=repPs_d y2
      simpa using this
     ·have:=q2.part (i*sz) xs.length
      rw[List.take_of_length_le (by rw[List.length_drop,q2.1];omega),List.take_of_length_le (by rw[List.length_drop];omega)]at this
      exact this
    have hcap:0 < cap:=by omega
    obtain⟨c',s1,s2⟩:=hr.set_row (k:=0) (rows':=dRows (rows.take i++x::rows.drop i)) (v':=v') rfl hov (by rw[ownB_pos hcap];exact hone) (by
     have:(dRows (rows.take i++x::rows.drop i)).length=rows.length+1:=by rw[dRows_len,List.length_append,List.length_take,List.length_cons,List.length_drop];omega
     rw[this];exact hown) (by rw[ownB_pos hcap];exact hnew) hrep' hin2 hin3
    have hfun:effH [(0,Chunk.row E sz (g+1) (dRows (rows.take i++x::rows.drop i)))] (mkF [] [.row E sz g (dRows rows)]).heap=hatL [.row E sz (g+1) (dRows (rows.take i++x::rows.drop i))]:=by
     funext k
     rw[effH1]
     cases k with
     |zero=>rfl
     |succ k=>rfl
    rw[hfun]at s1
    exact⟨v',c',he,s2,s1⟩
theorem ins_take {sz n i:Nat}{cur:List Value}{xs ys:List Value}(hn:n < i+1+n)(hi:i < n)(hc:(n+1)*sz≤cur.length)(hl:xs.length=n*sz)(hyl:ys.length=sz)(ht:cur.take (n*sz)=xs):
 (setAt (setAt cur ((i+1)*sz) (xs.drop (i*sz))) (i*sz) ys).take ((n+1)*sz)=xs.take (i*sz)++ys++xs.drop (i*sz)∧(setAt (setAt cur ((i+1)*sz) (xs.drop (i*sz))) (i*sz) ys).length=cur.length:=by
 have h1:i*sz≤n*sz:=Nat.mul_le_mul_right sz (by omega)
 have h2:(i+1)*sz=i*sz+sz:=Nat.succ_mul i sz
 have h3:(n+1)*sz=n*sz+sz:=Nat.succ_mul n sz
 have hdl:(xs.drop (i*sz)).length=n*sz - i*sz:=by rw[List.length_drop,hl]
 have hA:(setAt cur ((i+1)*sz) (xs.drop (i*sz))).length=cur.length:=setAt_length (by omega)
 have hB:(setAt (setAt cur ((i+1)*sz) (xs.drop (i*sz))) (i*sz) ys).length=cur.length:=by rw[setAt_length (by omega)];exact hA
 refine⟨?_,hB⟩
 apply List.ext_getElem?
 intro q
 by_cases hq:q < (n+1)*sz
 ·rw[List.getElem?_take_of_lt hq,setAt_get (by omega),setAt_get (by omega)]
  by_cases c1:q < i*sz
  ·rw[if_neg (by omega),if_neg (by omega),List.append_assoc,List.getElem?_append_left (by rw[List.length_take];omega),List.getElem?_take_of_lt c1,←ht,List.getElem?_take_of_lt (by omega)]
  ·by_cases c2:q < i*sz+sz
   ·rw[if_pos (by omega),List.append_assoc,List.getElem?_append_right (by rw[List.length_take];omega),List.getElem?_append_left (by rw[List.length_take];omega),List.length_take]
    congr 1;omega
   ·rw[if_neg (by omega),if_pos (by omega),List.getElem?_append_right (by rw[List.length_append,List.length_take];omega)]
    congr 1
    rw[List.length_append,List.length_take];omega
 ·rw[List.getElem?_eq_none (by rw[List.length_take];omega),List.getElem?_eq_none (by simp only[List.length_append,List.length_take,hdl];omega)]
theorem Tryz.infoLease:(Tryz.prog.info? 68).map (fun i=>(i.zero,i.size,i.bytes))=some (some (.agg #[.int .i64 0,.int .i64 0,.int .i64 0,.int .i64 0,.int .i64 0]),5,40):=by kernel_rfl
theorem insertB2_Lease (g cap n i vb vo vc:Nat)(cur:Array Value)(xs ys:List Value)(w:World)(hh:w.heap[g]? =some (.cells cur 68 (0,0)))(hm:cap≤9223372036854775807)(hs:cur.size=cap*5)(hl:xs.length=n*5)(ht:cur.toList.take (n*5)=xs)
 (hx1:∀u∈xs,u.oneCell'=true) (hi:i < n) (hroom:n+1≤cap) (hyl:ys.length=5) (hy1:∀u∈ys,u.oneCell'=true) (hvb:vb≠g) (hys:∀j u,ys[j]? =some u→w.cell? ⟨vb,vo+j,none⟩=some u)
 (sA:TypeId × Nat) (hsa:w.shape? vb=some sA) (hA0:sA.2≠0):
 Calls Tryz.prog 204 #[.slice (some ⟨g,0,none⟩) n cap,.int .i64 i,.slice (some ⟨vb,vo,none⟩) 1 vc] w fun e w'=>
  e= .returned (.slice (some ⟨g,0,none⟩) (n+1) cap)∧w'=(w.drew.setRow g (setAt cur.toList ((i+1)*5) (xs.drop (i*5))).toArray).setRow g (setAt (setAt cur.toList ((i+1)*5) (xs.drop (i*5))) (i*5) ys).toArray:=by
 obtain⟨i0,hi0,hz0,hz1,hz2⟩:=info_parts Tryz.infoLease
 have mixed:Tryz.prog.follows .mixedOrders=true:=by kernel_rfl
 have hn0:(i:Int)+1=((i+1:Nat):Int):=by omega
 obtain⟨j,hj⟩:∃j,j=i+1:=⟨_,rfl⟩
 obtain⟨m,hmm⟩:∃m,m=n+1:=⟨_,rfl⟩
 have hsz:∀w,(sizeOf 68).run Tryz.prog w= .ok 5 w:=fun w=>by simp[sizeOf,typeInfo,hi0,hz1]
 have hov:∀lb cb,(callFunc 245 #[.slice (some ⟨vb,vo,none⟩) 1 vc,.slice (some ⟨g,j*5,none⟩) lb cb]).run Tryz.prog w= .ok (.value (.bool false)) w:=fun lb cb=>by
  rw[run_callFunc_extern (fn:=Tryz.f245) (by kernel_rfl) (by kernel_rfl) (by kernel_rfl) (by kernel_rfl) (e:=Extern.SlicesOverlaps.overlaps #[60,60] #[4]) (by kernel_rfl),
   run_overlaps_own w 60 4 68 Tryz.underlying60 5 hsz ⟨vb,vo,none⟩ ⟨g,j*5,none⟩ 1 vc lb cb hvb sA hsa hA0 cur 68 hh (by omega)]
  rfl
 have hdl:(xs.drop (i*5)).length=(n - i)*5:=by rw[List.length_drop,hl];omega
 have hcx:∀q u,xs[q]? =some u→cur[q]? =some u:=fun q u hq=>by
  rw[←ht,List.getElem?_take]at hq
  split at hq
  ·rwa [Array.getElem?_toList]at hq
  ·cases hq
 obtain⟨C1,hC1⟩:∃C1:Array Value,C1=(setAt cur.toList (j*5) (xs.drop (i*5))).toArray:=⟨_,rfl⟩
 have hC1s:C1.size=cap*5:=by rw[hC1,List.size_toArray,setAt_length (by simp;omega)];simpa using hs
 obtain⟨W1,hW1⟩:∃W1,W1=w.drew.setRow g C1:=⟨_,rfl⟩
 have hcp1:∀ty dc sc,(Builtin.copy_ #[60,60] ty #[.slice (some ⟨g,j*5,none⟩) (m - j) dc,.slice (some ⟨g,i*5,none⟩) (m - i) sc]).run Tryz.prog w.drew= .ok (goInt (Nat.min (m - i) (m - j))) W1:=fun ty dc sc=>by
  rw[hW1,hC1]
  exact run_copy_own (e:=68) (sz:=5) (xs.drop (i*5)) Tryz.underlying60 hi0 hz1 (by rw[hdl,show Nat.min (m - i) (m - j)=n - i from (by simp only[Nat.min_def];split<;>omega)]) (fun q u hq=>by
   rw[Addr.add_lit,cell_row (w:=w.drew) hh]
   rw[List.getElem?_drop]at hq
   have:=hcx _ u hq
   rw[←this]) (fun u hu=>hx1 u (List.mem_of_mem_drop hu)) (w:=w.drew) hh (by rw[hdl,hs];omega) ty
 have hh1:W1.heap[g]? =some (.cells C1 68 (0,0)):=by rw[hW1];exact setRow_heap _ g _ _ _ _ hh
 have hcp2:∀(W:World),W=W1→∀ty dc,(Builtin.copy_ #[60,60] ty #[.slice (some ⟨g,i*5,none⟩) (m - i) dc,.slice (some ⟨vb,vo,none⟩) 1 vc]).run Tryz.prog W= .ok (goInt (Nat.min 1 (m - i))) (W1.setRow g (setAt C1.toList (i*5) ys).toArray):=fun W hW ty dc=>by
  subst hW
  exact run_copy_own (e:=68) (sz:=5) ys Tryz.underlying60 hi0 hz1 (by rw[hyl,show Nat.min 1 (m - i)=1 from (by simp only[Nat.min_def];split<;>omega)]) (fun q u hq=>by
   rw[Addr.add_lit,hW1]
   have:=hys q u hq
   rw[←this]
   exact World.cell?_of_block (a:=⟨vb,vo+q,none⟩) (by rw[setRow_other _ _ _ _ hvb];rfl)) hy1 hh1 (by rw[hyl,hC1s];omega) ty
 have hw1:IntKind.i64.wrap ((i:Int)+1)=(j:Int):=by rw[IntKind.wrap_i64];omega
 have hw2:IntKind.i64.wrap ((n:Int)+1)=(m:Int):=by rw[IntKind.wrap_i64];omega
 have hfin:Hid (W1.setRow g (setAt C1.toList (i*5) ys).toArray=(w.drew.setRow g (setAt cur.toList ((i+1)*5) (xs.drop (i*5))).toArray).setRow g (setAt (setAt cur.toList ((i+1)*5) (xs.drop (i*5))) (i*5) ys).toArray):=by
  show W1.setRow g (setAt C1.toList (i*5) ys).toArray=_
  rw[hW1,hC1,hj]
 have hz2':¬((i:Int)=(n:Int)):=by omega
 have hb1:i≤n:=by omega
 have hb2:¬(cap=j):=by omega
 have hb3:¬(cap=i):=by omega
 have hb4:j≤m:=by omega
 have hb5:i≤m:=by omega
 have hb6:m≤cap:=by omega
 have hb7:¬((cap:Int) < (m:Int)):=by omega
 rw[←hmm]
 have hj2:=Lib.hid hj
 have hm2:=Lib.hid hmm
 have hW:=Lib.hid hW1
 have hC:=Lib.hid hC1
 clear hj hmm hW1 hC1 ht hl hs hyl hC1s hdl hcx hn0 hh1 hz0 hz1 hz2 hh
 go_enter Tryz.func204,Tryz.ntmps204
 go_wp2_with (simp only[hov])
 go_region_law_o (refine step_copy_r rfl _ _ 60 60 rfl _ _ (by simp[Act.eval,Act.put]) (by simp[Act.eval,Act.put]) (hcp1 _ _ _) ?_)
 go_wp2_with (at_builtin;refine wpList_copy_r _ rfl _ _ 60 60 rfl _ _ rfl rfl (hcp2 _ rfl _ _) ?_)
 go_ret
 exact⟨rfl,hfin.out⟩
theorem insertB1_Lease (g cap n i vb vo vc:Nat)(cur:Array Value)(xs ys:List Value)(w:World)(hh:w.heap[g]? =some (.cells cur 68 (0,0)))(hm:cap≤1000000000)(hnc:n≤cap)(hs:cur.size=cap*5)(hl:xs.length=n*5)(ht:cur.toList.take (n*5)=xs)
 (hx1:∀u∈xs,u.oneCell'=true) (hi:i < n) (hroom:¬n+1≤cap) (hyl:ys.length=5) (hy1:∀u∈ys,u.oneCell'=true) (hys:∀j u,ys[j]? =some u→w.cell? ⟨vb,vo+j,none⟩=some u):
 Calls Tryz.prog 204 #[.slice (some ⟨g,0,none⟩) n cap,.int .i64 i,.slice (some ⟨vb,vo,none⟩) 1 vc] w (InsNew w 68 g 5 n (xs.take (i*5)++ys++xs.drop (i*5))):=by
 obtain⟨i0,hi0,hz0,hz1,hz2⟩:=info_parts Tryz.infoLease
 have mixed:Tryz.prog.follows .mixedOrders=true:=by kernel_rfl
 obtain⟨j,hj⟩:∃j,j=i+1:=⟨_,rfl⟩
 obtain⟨m,hmm⟩:∃m,m=n+1:=⟨_,rfl⟩
 obtain⟨k,hk⟩:∃k,k=m - i:=⟨_,rfl⟩
 obtain⟨B,hB⟩:∃B,B=w.heap.size:=⟨_,rfl⟩
 have hgB:g < B:=by rw[hB];exact block_lt hh
 have hvB:vb < B:=by
  obtain⟨u,hu⟩:∃u,ys[0]? =some u:=⟨_,List.getElem?_eq_getElem (by omega)⟩
  have:=hys 0 u hu
  rw[hB]
  rcases Nat.lt_or_ge vb w.heap.size with h|h
  ·exact h
  ·simp[World.cell?,Array.getElem?_eq_none h]at this
 have hcx:∀q u,xs[q]? =some u→cur[q]? =some u:=fun q u hq=>by
  rw[←ht,List.getElem?_take]at hq
  split at hq
  ·rwa [Array.getElem?_toList]at hq
  ·cases hq
 have hold:(Builtin.firstCells i0.size i (.slice (some ⟨g,0,none⟩) i cap)).run Tryz.prog w.drew= .ok (xs.take (i*5)).toArray w.drew:=by
  rw[hz1]
  exact run_firstCells_some w.drew 5 i ⟨g,0,none⟩ i cap (xs.take (i*5)) (by rw[List.length_take];omega) (fun q u hq=>by
   rw[Addr.add_lit,cell_row (w:=w.drew) hh,Nat.zero_add]
   rw[List.getElem?_take]at hq
   split at hq
   ·exact hcx q u hq
   ·cases hq)
 obtain⟨G,hG⟩:∃G,G=grownCap w (i+k) cap 68:=⟨_,rfl⟩
 have hik:i+k=m:=by omega
 have hGm:m≤G:=by rw[hG,hik];exact grownCap_ge w _ _ _
 have hG63:G≤9223372036854775807:=by
  have:=grownCap_le_maxLen w (i+k) cap 68 (by unfold maxLen;omega)
  rw[←hG]at this
  unfold maxLen at this
  omega
 obtain⟨C0,hC0⟩:∃C0:Array Value,C0=(xs.take (i*5)).toArray++Builtin.zeroCells (Value.agg #[.int .i64 0,.int .i64 0,.int .i64 0,.int .i64 0,.int .i64 0]).cells k++Builtin.zeroCells (Value.agg #[.int .i64 0,.int .i64 0,.int .i64 0,.int .i64 0,.int .i64 0]).cells (G - m):=⟨_,rfl⟩
 have hz3:∀ty,(Builtin.append_ #[60,3] ty #[.slice (some ⟨g,0,none⟩) i cap,.int .i64 ((m:Int) - (i:Int))]).run Tryz.prog w= .ok (.slice (some ⟨B,0,none⟩) m G) (w.drew.alloc (.cells C0 68)):=fun ty=>by
  have hz:=Lib.run_append_grow_zeros (P:=Tryz.prog) w 60 3 ty 68 i0 _ .i64 .i64 Tryz.underlying60 Tryz.underlying3 hi0 hz0 (some ⟨g,0,none⟩) i cap (xs.take (i*5)) hold k (by omega) (by omega) (by omega) (by omega) (by rw[hz2];omega) (by rw[hz2];exact growslice_fits (by omega) (by omega))
  rw[←hG,hik,←hB]at hz
  rw[show (m:Int) - (i:Int)=(k:Int) by omega,hz,hC0]
 have hC0s:C0.size=G*5:=by
  rw[hC0]
  simp[Builtin.zeroCells,Value.cells]
  omega
 obtain⟨W0,hW0⟩:∃W0,W0=w.drew.alloc (.cells C0 68):=⟨_,rfl⟩
 rw[←hW0]at hz3
 have hh0:W0.heap[B]? =some (.cells C0 68 (0,0)):=by rw[hW0,hB];exact alloc_at w.drew _
 have hold0:∀b,b < B→W0.heap[b]? =w.heap[b]? :=fun b hb=>by
  rw[hW0]
  simp only[World.alloc,Array.getElem?_push]
  rw[if_neg (by show ¬b=w.heap.size;omega)]
  rfl
 obtain⟨C1,hC1⟩:∃C1:Array Value,C1=(setAt C0.toList (i*5) ys).toArray:=⟨_,rfl⟩
 have hC1s:C1.size=G*5:=by rw[hC1,List.size_toArray,setAt_length (by simp;omega)];simpa using hC0s
 obtain⟨W1,hW1⟩:∃W1,W1=W0.setRow B C1:=⟨_,rfl⟩
 have hcp1:∀ty dc,(Builtin.copy_ #[60,60] ty #[.slice (some ⟨B,i*5,none⟩) (m - i) dc,.slice (some ⟨vb,vo,none⟩) 1 vc]).run Tryz.prog W0= .ok (goInt (Nat.min 1 (m - i))) W1:=fun ty dc=>by
  rw[hW1,hC1]
  exact run_copy_own (e:=68) (sz:=5) ys Tryz.underlying60 hi0 hz1 (by rw[hyl,show Nat.min 1 (m - i)=1 from (by simp only[Nat.min_def];split<;>omega)]) (fun q u hq=>by
   rw[Addr.add_lit]
   rw[←hys q u hq]
   exact World.cell?_of_block (a:=⟨vb,vo+q,none⟩) (hold0 vb hvB)) hy1 hh0 (by rw[hyl,hC0s];omega) ty
 have hh1:W1.heap[B]? =some (.cells C1 68 (0,0)):=by rw[hW1];exact setRow_heap _ B _ _ _ _ hh0
 have hold1:∀b,b < B→W1.heap[b]? =w.heap[b]? :=fun b hb=>by rw[hW1,setRow_other _ _ _ _ (by omega)];exact hold0 b hb
 have hdl:(xs.drop (i*5)).length=(n - i)*5:=by rw[List.length_drop,hl];omega
 have hcp2:∀ty dc sc,(Builtin.copy_ #[60,60] ty #[.slice (some ⟨B,j*5,none⟩) (m - j) dc,.slice (some ⟨g,i*5,none⟩) (n - i) sc]).run Tryz.prog W1.drew= .ok (goInt (Nat.min (n - i) (m - j))) (W1.drew.setRow B (setAt C1.toList (j*5) (xs.drop (i*5))).toArray):=fun ty dc sc=>by
  exact run_copy_own (e:=68) (sz:=5) (xs.drop (i*5)) Tryz.underlying60 hi0 hz1 (by rw[hdl,show Nat.min (n - i) (m - j)=n - i from (by simp only[Nat.min_def];split<;>omega)]) (fun q u hq=>by
   rw[Addr.add_lit,cell_row (w:=W1.drew) (show W1.heap[g]? =_ from (hold1 g hgB).trans hh)]
   rw[List.getElem?_drop]at hq
   have:=hcx _ u hq
   rw[←this]) (fun u hu=>hx1 u (List.mem_of_mem_drop hu)) (w:=W1.drew) hh1 (by rw[hdl,hC1s];omega) ty
 have hR:Hid (∀e,e=Ending.returned (.slice (some ⟨B,0,none⟩) m G)→InsNew w 68 g 5 n (xs.take (i*5)++ys++xs.drop (i*5)) e (W1.drew.setRow B (setAt C1.toList (j*5) (xs.drop (i*5))).toArray)):=by
  intro e he
  refine⟨G,setAt C1.toList (j*5) (xs.drop (i*5)),by omega,hG63,?_,?_,by rw[he,hB,hmm],?_,?_⟩
  ·rw[setAt_length (by rw[hdl];simp;omega)];simpa using hC1s
  ·rw[hC1,List.toList_toArray]
   have e1:C0.toList.take (i*5)=xs.take (i*5):=by
    rw[hC0]
    simp only[Array.toList_append,List.append_assoc]
    rw[List.take_append_of_le_length (by simp;omega),List.take_of_length_le (by rw[List.length_take];omega)]
   rw[show (n+1)*5=j*5+(xs.drop (i*5)).length by rw[hdl];omega]
   unfold setAt
   rw[List.take_append_of_le_length (by simp;omega),List.take_of_length_le (by simp;omega)]
   congr 1
   rw[e1,List.take_append_of_le_length (by simp;omega),List.take_of_length_le (by simp;omega)]
  ·refine⟨?_,?_,?_,?_,fun b hb _=>?_⟩
   ·rw[hW1,hW0];rfl
   ·rw[hW1,hW0];rfl
   ·rw[hW1,hW0];rfl
   ·rw[hW1,hW0];simp[World.setRow]
   ·rw[setRow_other _ _ _ _ (by omega)];exact hold1 b (by omega)
  ·rw[←hB]
   exact setRow_heap W1.drew B _ _ _ _ hh1
 have hw1:IntKind.i64.wrap ((i:Int)+1)=(j:Int):=by rw[IntKind.wrap_i64];omega
 have hw2:IntKind.i64.wrap ((n:Int)+1)=(m:Int):=by rw[IntKind.wrap_i64];omega
 have hw3:IntKind.i64.wrap ((m:Int) - (i:Int))=(m:Int) - (i:Int):=by rw[IntKind.wrap_i64];omega
 have hz2':¬((i:Int)=(n:Int)):=by omega
 have hb1:i≤n:=by omega
 have hb2:¬(G=j):=by omega
 have hb3:¬(G=i):=by omega
 have hb4:j≤m:=by omega
 have hb5:i≤m:=by omega
 have hb6:i≤cap:=by omega
 have hb7:(cap:Int) < (m:Int):=by omega
 have hb8:¬(cap=i):=by omega
 have hb9:j≤G:=by omega
 have hb10:i≤G:=by omega
 clear hold hC0s hC1s hdl hyl hl hs ht hh hh0 hh1 hold0 hold1 hcx hik hz0 hz1 hz2 hG hW0 hW1 hC0 hC1 hk hj hmm hB hroom
 go_enter Tryz.func204,Tryz.ntmps204
 go_wp2_with (at_builtin;first|refine wpList_appz_r _ rfl _ _ 60 3 rfl _ _ rfl rfl (hz3 _) ?_|refine wpList_copy_r _ rfl _ _ 60 60 rfl _ _ rfl rfl (hcp1 _ _) ?_)
 go_region_law_o (refine step_copy_r rfl _ _ 60 60 rfl _ _ (by simp[Act.eval,Act.put]) (by simp[Act.eval,Act.put]) (hcp2 _ _ _) ?_)
 go_wp2_with fail
 go_ret
 exact hR.out _ rfl
theorem insert_Lease (l:List Lse)(x:Lse)(i g:Nat)(hi:i≤l.length)(hl:l.length≤1000000):
 MSpec Tryz.prog 204 [.own 0 g,.d (.v (.int .i64 i)),.d (.sl 5 [encL x])] [.row 68 5 g (dRows (l.map encL))] (.own 0 (g+1)) [.row 68 5 (g+1) (dRows ((l.take i++x::l.drop i).map encL))]:=by
 rcases Nat.lt_or_ge i l.length with hlt|hge
 ·have h1:=ms_ins (P:=Tryz.prog) (f:=204) (E:=68) (sz:=5) (g:=g) (i:=i) (rows:=l.map encL) (x:=encL x) (fnok_of Tryz.func204 (by kernel_rfl) rfl) (by omega) (by simpa using hlt) (by
   simp only[List.length_map]
   intro w gb cap vb vo vc cur xs ys q1 q2 q3 q4 q5 q6 q7 q8 q9 q10 q11
   obtain⟨u,hu⟩:∃u,ys[0]? =some u:=⟨_,List.getElem?_eq_getElem (by omega)⟩
   obtain⟨sA,hsa,hA0⟩:=cells_shape (q11 0 u hu)
   unfold maxLen at q2
   by_cases hroom:l.length+1≤cap
   ·refine(insertB2_Lease gb cap l.length i vb vo vc cur xs ys w q1 (by omega) q4 q5 q6 q7 hlt hroom q8 q9 q10 q11 sA hsa hA0).mono ?_
    rintro e w' ⟨rfl,rfl⟩
    obtain⟨t1,t2⟩:=ins_take (sz:=5) (n:=l.length) (i:=i) (cur:=cur.toList) (xs:=xs) (ys:=ys) (by omega) hlt (by simp;omega) q5 q8 q6
    have hg1:(w.drew.setRow gb (setAt cur.toList ((i+1)*5) (xs.drop (i*5))).toArray).heap[gb]? =some (.cells (setAt cur.toList ((i+1)*5) (xs.drop (i*5))).toArray 68 (0,0)):=setRow_heap _ gb _ _ _ _ q1
    refine⟨_,rfl,.row gb (l.length+1) cap _ _ (by omega) (setRow_heap _ gb _ _ _ _ hg1) hroom q2 (by rw[List.size_toArray,t2];simpa using q4) (by rw[←t1,List.length_take,t2];simp;omega) (by rw[List.toList_toArray];exact t1),⟨rfl,rfl,rfl,by simp[World.setRow],fun b hb hne=>?_⟩,.inl (ownB_pos (by omega))⟩
    have hbg:b≠gb:=fun e=>hne (by rw[e])
    rw[setRow_other _ _ _ _ hbg,setRow_other _ _ _ _ hbg];rfl
   ·refine(insertB1_Lease gb cap l.length i vb vo vc cur xs ys w q1 (by omega) q3 q4 q5 q6 q7 hlt hroom q8 q9 q11).mono ?_
    rintro e w' ⟨G,R,h1,h2,h3,h4,rfl,h6,h7⟩
    exact⟨_,rfl,.row w.heap.size (l.length+1) G R.toArray _ (by omega) h7 h1 h2 (by simpa using h3) (by rw[←h4,List.length_take,h3];omega) (by simpa using h4),h6,.inr fun b hb=>by rw[ownB_pos (by omega)]at hb;cases hb;exact Nat.le_refl _⟩)
  rw[List.map_append,List.map_take,List.map_cons,List.map_drop]
  exact h1
 ·obtain rfl:i=l.length:=by omega
  rw[List.take_length,List.drop_length]
  by_cases h0:l=[]
  ·subst h0
   refine mj Tryz.func204 Tryz.ntmps204 Tryz.results204 ?_
   repeat' (first|(with_reducible refine And.intro ?_ ?_)|(with_reducible refine gK_i (fun _=>?_) (fun _=>?_))|(with_reducible refine condS_i (fun _=>?_) (fun _=>?_))|(with_reducible refine drw_i (by kernel_rfl))|simp -dsimp only[go_sem,seval, *,encL,dRows,Option.isSome_some]|((with_reducible refine opK_c ?_);simp -dsimp only[go_sem,seval,encL,dRows,Option.isSome_some];first|refine callK_r (by first|assumption|fail) (by first|exact .inl rfl|exact .inr rfl) ?_|refine callK_i (by assumption) (by repeat(first|exact DLe.refl _|exact DLe.nil _|(refine DLe.tup ?_)|(refine DLe.agg ?_ rfl)|exact trivial|(refine And.intro ?_ ?_))) (by first|exact .inl rfl|exact .inr rfl) ?_)|omega|exact decide_eq_true (by omega)|exact DLe.refl _)
   all_goals exact weak_eq rfl rfl
  ·have hne:¬dRows (l.map encL)=[]:=by simpa[dRows]using h0
   refine mj Tryz.func204 Tryz.ntmps204 Tryz.results204 ?_
   repeat' (first|(with_reducible refine And.intro ?_ ?_)|(with_reducible refine gK_i (fun _=>?_) (fun _=>?_))|(with_reducible refine condS_i (fun _=>?_) (fun _=>?_))|(with_reducible refine drw_i (by kernel_rfl))|simp -dsimp only[go_sem,seval, *,encL,Option.isSome_some]|((with_reducible refine opK_c ?_);simp -dsimp only[go_sem,seval,encL,Option.isSome_some];first|refine callK_r (by first|assumption|fail) (by first|exact .inl rfl|exact .inr rfl) ?_|refine callK_i (by assumption) (by repeat(first|exact DLe.refl _|exact DLe.nil _|(refine DLe.tup ?_)|(refine DLe.agg ?_ rfl)|exact trivial|(refine And.intro ?_ ?_))) (by first|exact .inl rfl|exact .inr rfl) ?_)|omega|exact decide_eq_true (by omega)|exact DLe.refl _)
   all_goals exact weak_eq rfl (by simp[encL,dRows])
theorem Tryz.infoPool:(Tryz.prog.info? 62).map (fun i=>(i.zero,i.size,i.bytes))=some (some (.agg #[.int .i64 0,.int .i64 0,.int .i64 0,.int .i64 0,.int .i64 0,.int .i64 0,.int .i64 0,.int .i64 0,.slice none 0 0]),9,88):=by kernel_rfl
theorem insertB2_Pool (g cap n i vb vo vc:Nat)(cur:Array Value)(xs ys:List Value)(w:World)(hh:w.heap[g]? =some (.cells cur 62 (0,0)))(hm:cap≤9223372036854775807)(hs:cur.size=cap*9)(hl:xs.length=n*9)(ht:cur.toList.take (n*9)=xs)
 (hx1:∀u∈xs,u.oneCell'=true) (hi:i < n) (hroom:n+1≤cap) (hyl:ys.length=9) (hy1:∀u∈ys,u.oneCell'=true) (hvb:vb≠g) (hys:∀j u,ys[j]? =some u→w.cell? ⟨vb,vo+j,none⟩=some u)
 (sA:TypeId × Nat) (hsa:w.shape? vb=some sA) (hA0:sA.2≠0):
 Calls Tryz.prog 200 #[.slice (some ⟨g,0,none⟩) n cap,.int .i64 i,.slice (some ⟨vb,vo,none⟩) 1 vc] w fun e w'=>
  e= .returned (.slice (some ⟨g,0,none⟩) (n+1) cap)∧w'=(w.drew.setRow g (setAt cur.toList ((i+1)*9) (xs.drop (i*9))).toArray).setRow g (setAt (setAt cur.toList ((i+1)*9) (xs.drop (i*9))) (i*9) ys).toArray:=by
 obtain⟨i0,hi0,hz0,hz1,hz2⟩:=info_parts Tryz.infoPool
 have mixed:Tryz.prog.follows .mixedOrders=true:=by kernel_rfl
 have hn0:(i:Int)+1=((i+1:Nat):Int):=by omega
 obtain⟨j,hj⟩:∃j,j=i+1:=⟨_,rfl⟩
 obtain⟨m,hmm⟩:∃m,m=n+1:=⟨_,rfl⟩
 have hsz:∀w,(sizeOf 62).run Tryz.prog w= .ok 9 w:=fun w=>by simp[sizeOf,typeInfo,hi0,hz1]
 have hov:∀lb cb,(callFunc 242 #[.slice (some ⟨vb,vo,none⟩) 1 vc,.slice (some ⟨g,j*9,none⟩) lb cb]).run Tryz.prog w= .ok (.value (.bool false)) w:=fun lb cb=>by
  rw[run_callFunc_extern (fn:=Tryz.f242) (by kernel_rfl) (by kernel_rfl) (by kernel_rfl) (by kernel_rfl) (e:=Extern.SlicesOverlaps.overlaps #[22,22] #[4]) (by kernel_rfl),
   run_overlaps_own w 22 4 62 Tryz.underlying22 9 hsz ⟨vb,vo,none⟩ ⟨g,j*9,none⟩ 1 vc lb cb hvb sA hsa hA0 cur 62 hh (by omega)]
  rfl
 have hdl:(xs.drop (i*9)).length=(n - i)*9:=by rw[List.length_drop,hl];omega
 have hcx:∀q u,xs[q]? =some u→cur[q]? =some u:=fun q u hq=>by
  rw[←ht,List.getElem?_take]at hq
  split at hq
  ·rwa [Array.getElem?_toList]at hq
  ·cases hq
 obtain⟨C1,hC1⟩:∃C1:Array Value,C1=(setAt cur.toList (j*9) (xs.drop (i*9))).toArray:=⟨_,rfl⟩
 have hC1s:C1.size=cap*9:=by rw[hC1,List.size_toArray,setAt_length (by simp;omega)];simpa using hs
 obtain⟨W1,hW1⟩:∃W1,W1=w.drew.setRow g C1:=⟨_,rfl⟩
 have hcp1:∀ty dc sc,(Builtin.copy_ #[22,22] ty #[.slice (some ⟨g,j*9,none⟩) (m - j) dc,.slice (some ⟨g,i*9,none⟩) (m - i) sc]).run Tryz.prog w.drew= .ok (goInt (Nat.min (m - i) (m - j))) W1:=fun ty dc sc=>by
  rw[hW1,hC1]
  exact run_copy_own (e:=62) (sz:=9) (xs.drop (i*9)) Tryz.underlying22 hi0 hz1 (by rw[hdl,show Nat.min (m - i) (m - j)=n - i from (by simp only[Nat.min_def];split<;>omega)]) (fun q u hq=>by
   rw[Addr.add_lit,cell_row (w:=w.drew) hh]
   rw[List.getElem?_drop]at hq
   have:=hcx _ u hq
   rw[←this]) (fun u hu=>hx1 u (List.mem_of_mem_drop hu)) (w:=w.drew) hh (by rw[hdl,hs];omega) ty
 have hh1:W1.heap[g]? =some (.cells C1 62 (0,0)):=by rw[hW1];exact setRow_heap _ g _ _ _ _ hh
 have hcp2:∀(W:World),W=W1→∀ty dc,(Builtin.copy_ #[22,22] ty #[.slice (some ⟨g,i*9,none⟩) (m - i) dc,.slice (some ⟨vb,vo,none⟩) 1 vc]).run Tryz.prog W= .ok (goInt (Nat.min 1 (m - i))) (W1.setRow g (setAt C1.toList (i*9) ys).toArray):=fun W hW ty dc=>by
  subst hW
  exact run_copy_own (e:=62) (sz:=9) ys Tryz.underlying22 hi0 hz1 (by rw[hyl,show Nat.min 1 (m - i)=1 from (by simp only[Nat.min_def];split<;>omega)]) (fun q u hq=>by
   rw[Addr.add_lit,hW1]
   have:=hys q u hq
   rw[←this]
   exact World.cell?_of_block (a:=⟨vb,vo+q,none⟩) (by rw[setRow_other _ _ _ _ hvb];rfl)) hy1 hh1 (by rw[hyl,hC1s];omega) ty
 have hw1:IntKind.i64.wrap ((i:Int)+1)=(j:Int):=by rw[IntKind.wrap_i64];omega
 have hw2:IntKind.i64.wrap ((n:Int)+1)=(m:Int):=by rw[IntKind.wrap_i64];omega
 have hfin:Hid (W1.setRow g (setAt C1.toList (i*9) ys).toArray=(w.drew.setRow g (setAt cur.toList ((i+1)*9) (xs.drop (i*9))).toArray).setRow g (setAt (setAt cur.toList ((i+1)*9) (xs.drop (i*9))) (i*9) ys).toArray):=by
  show W1.setRow g (setAt C1.toList (i*9) ys).toArray=_
  rw[hW1,hC1,hj]
 have hz2':¬((i:Int)=(n:Int)):=by omega
 have hb1:i≤n:=by omega
 have hb2:¬(cap=j):=by omega
 have hb3:¬(cap=i):=by omega
 have hb4:j≤m:=by omega
 have hb5:i≤m:=by omega
 have hb6:m≤cap:=by omega
 have hb7:¬((cap:Int) < (m:Int)):=by omega
 rw[←hmm]
 have hj2:=Lib.hid hj
 have hm2:=Lib.hid hmm
 have hW:=Lib.hid hW1
 have hC:=Lib.hid hC1
 clear hj hmm hW1 hC1 ht hl hs hyl hC1s hdl hcx hn0 hh1 hz0 hz1 hz2 hh
 go_enter Tryz.func200,Tryz.ntmps200
 go_wp2_with (simp only[hov])
 go_region_law_o (refine step_copy_r rfl _ _ 22 22 rfl _ _ (by simp[Act.eval,Act.put]) (by simp[Act.eval,Act.put]) (hcp1 _ _ _) ?_)
 go_wp2_with (at_builtin;refine wpList_copy_r _ rfl _ _ 22 22 rfl _ _ rfl rfl (hcp2 _ rfl _ _) ?_)
 go_ret
 exact⟨rfl,hfin.out⟩
theorem insertB1_Pool (g cap n i vb vo vc:Nat)(cur:Array Value)(xs ys:List Value)(w:World)(hh:w.heap[g]? =some (.cells cur 62 (0,0)))(hm:cap≤1000000000)(hnc:n≤cap)(hs:cur.size=cap*9)(hl:xs.length=n*9)(ht:cur.toList.take (n*9)=xs)
 (hx1:∀u∈xs,u.oneCell'=true) (hi:i < n) (hroom:¬n+1≤cap) (hyl:ys.length=9) (hy1:∀u∈ys,u.oneCell'=true) (hys:∀j u,ys[j]? =some u→w.cell? ⟨vb,vo+j,none⟩=some u):
 Calls Tryz.prog 200 #[.slice (some ⟨g,0,none⟩) n cap,.int .i64 i,.slice (some ⟨vb,vo,none⟩) 1 vc] w (InsNew w 62 g 9 n (xs.take (i*9)++ys++xs.drop (i*9))):=by
 obtain⟨i0,hi0,hz0,hz1,hz2⟩:=info_parts Tryz.infoPool
 have mixed:Tryz.prog.follows .mixedOrders=true:=by kernel_rfl
 obtain⟨j,hj⟩:∃j,j=i+1:=⟨_,rfl⟩
 obtain⟨m,hmm⟩:∃m,m=n+1:=⟨_,rfl⟩
 obtain⟨k,hk⟩:∃k,k=m - i:=⟨_,rfl⟩
 obtain⟨B,hB⟩:∃B,B=w.heap.size:=⟨_,rfl⟩
 have hgB:g < B:=by rw[hB];exact block_lt hh
 have hvB:vb < B:=by
  obtain⟨u,hu⟩:∃u,ys[0]? =some u:=⟨_,List.getElem?_eq_getElem (by omega)⟩
  have:=hys 0 u hu
  rw[hB]
  rcases Nat.lt_or_ge vb w.heap.size with h|h
  ·exact h
  ·simp[World.cell?,Array.getElem?_eq_none h]at this
 have hcx:∀q u,xs[q]? =some u→cur[q]? =some u:=fun q u hq=>by
  rw[←ht,List.getElem?_take]at hq
  split at hq
  ·rwa [Array.getElem?_toList]at hq
  ·cases hq
 have hold:(Builtin.firstCells i0.size i (.slice (some ⟨g,0,none⟩) i cap)).run Tryz.prog w.drew= .ok (xs.take (i*9)).toArray w.drew:=by
  rw[hz1]
  exact run_firstCells_some w.drew 9 i ⟨g,0,none⟩ i cap (xs.take (i*9)) (by rw[List.length_take];omega) (fun q u hq=>by
   rw[Addr.add_lit,cell_row (w:=w.drew) hh,Nat.zero_add]
   rw[List.getElem?_take]at hq
   split at hq
   ·exact hcx q u hq
   ·cases hq)
 obtain⟨G,hG⟩:∃G,G=grownCap w (i+k) cap 62:=⟨_,rfl⟩
 have hik:i+k=m:=by omega
 have hGm:m≤G:=by rw[hG,hik];exact grownCap_ge w _ _ _
 have hG63:G≤9223372036854775807:=by
  have:=grownCap_le_maxLen w (i+k) cap 62 (by unfold maxLen;omega)
  rw[←hG]at this
  unfold maxLen at this
  omega
 obtain⟨C0,hC0⟩:∃C0:Array Value,C0=(xs.take (i*9)).toArray++Builtin.zeroCells (Value.agg #[.int .i64 0,.int .i64 0,.int .i64 0,.int .i64 0,.int .i64 0,.int .i64 0,.int .i64 0,.int .i64 0,.slice none 0 0]).cells k++Builtin.zeroCells (Value.agg #[.int .i64 0,.int .i64 0,.int .i64 0,.int .i64 0,.int .i64 0,.int .i64 0,.int .i64 0,.int .i64 0,.slice none 0 0]).cells (G - m):=⟨_,rfl⟩
 have hz3:∀ty,(Builtin.append_ #[22,3] ty #[.slice (some ⟨g,0,none⟩) i cap,.int .i64 ((m:Int) - (i:Int))]).run Tryz.prog w= .ok (.slice (some ⟨B,0,none⟩) m G) (w.drew.alloc (.cells C0 62)):=fun ty=>by
  have hz:=Lib.run_append_grow_zeros (P:=Tryz.prog) w 22 3 ty 62 i0 _ .i64 .i64 Tryz.underlying22 Tryz.underlying3 hi0 hz0 (some ⟨g,0,none⟩) i cap (xs.take (i*9)) hold k (by omega) (by omega) (by omega) (by omega) (by rw[hz2];omega) (by rw[hz2];exact growslice_fits (by omega) (by omega))
  rw[←hG,hik,←hB]at hz
  rw[show (m:Int) - (i:Int)=(k:Int) by omega,hz,hC0]
 have hC0s:C0.size=G*9:=by
  rw[hC0]
  simp[Builtin.zeroCells,Value.cells]
  omega
 obtain⟨W0,hW0⟩:∃W0,W0=w.drew.alloc (.cells C0 62):=⟨_,rfl⟩
 rw[←hW0]at hz3
 have hh0:W0.heap[B]? =some (.cells C0 62 (0,0)):=by rw[hW0,hB];exact alloc_at w.drew _
 have hold0:∀b,b < B→W0.heap[b]? =w.heap[b]? :=fun b hb=>by
  rw[hW0]
  simp only[World.alloc,Array.getElem?_push]
  rw[if_neg (by show ¬b=w.heap.size;omega)]
  rfl
 obtain⟨C1,hC1⟩:∃C1:Array Value,C1=(setAt C0.toList (i*9) ys).toArray:=⟨_,rfl⟩
 have hC1s:C1.size=G*9:=by rw[hC1,List.size_toArray,setAt_length (by simp;omega)];simpa using hC0s
 obtain⟨W1,hW1⟩:∃W1,W1=W0.setRow B C1:=⟨_,rfl⟩
 have hcp1:∀ty dc,(Builtin.copy_ #[22,22] ty #[.slice (some ⟨B,i*9,none⟩) (m - i) dc,.slice (some ⟨vb,vo,none⟩) 1 vc]).run Tryz.prog W0= .ok (goInt (Nat.min 1 (m - i))) W1:=fun ty dc=>by
  rw[hW1,hC1]
  exact run_copy_own (e:=62) (sz:=9) ys Tryz.underlying22 hi0 hz1 (by rw[hyl,show Nat.min 1 (m - i)=1 from (by simp only[Nat.min_def];split<;>omega)]) (fun q u hq=>by
   rw[Addr.add_lit]
   rw[←hys q u hq]
   exact World.cell?_of_block (a:=⟨vb,vo+q,none⟩) (hold0 vb hvB)) hy1 hh0 (by rw[hyl,hC0s];omega) ty
 have hh1:W1.heap[B]? =some (.cells C1 62 (0,0)):=by rw[hW1];exact setRow_heap _ B _ _ _ _ hh0
 have hold1:∀b,b < B→W1.heap[b]? =w.heap[b]? :=fun b hb=>by rw[hW1,setRow_other _ _ _ _ (by omega)];exact hold0 b hb
 have hdl:(xs.drop (i*9)).length=(n - i)*9:=by rw[List.length_drop,hl];omega
 have hcp2:∀ty dc sc,(Builtin.copy_ #[22,22] ty #[.slice (some ⟨B,j*9,none⟩) (m - j) dc,.slice (some ⟨g,i*9,none⟩) (n - i) sc]).run Tryz.prog W1.drew= .ok (goInt (Nat.min (n - i) (m - j))) (W1.drew.setRow B (setAt C1.toList (j*9) (xs.drop (i*9))).toArray):=fun ty dc sc=>by
  exact run_copy_own (e:=62) (sz:=9) (xs.drop (i*9)) Tryz.underlying22 hi0 hz1 (by rw[hdl,show Nat.min (n - i) (m - j)=n - i from (by simp only[Nat.min_def];split<;>omega)]) (fun q u hq=>by
   rw[Addr.add_lit,cell_row (w:=W1.drew) (show W1.heap[g]? =_ from (hold1 g hgB).trans hh)]
   rw[List.getElem?_drop]at hq
   have:=hcx _ u hq
   rw[←this]) (fun u hu=>hx1 u (List.mem_of_mem_drop hu)) (w:=W1.drew) hh1 (by rw[hdl,hC1s];omega) ty
 have hR:Hid (∀e,e=Ending.returned (.slice (some ⟨B,0,none⟩) m G)→InsNew w 62 g 9 n (xs.take (i*9)++ys++xs.drop (i*9)) e (W1.drew.setRow B (setAt C1.toList (j*9) (xs.drop (i*9))).toArray)):=by
  intro e he
  refine⟨G,setAt C1.toList (j*9) (xs.drop (i*9)),by omega,hG63,?_,?_,by rw[he,hB,hmm],?_,?_⟩
  ·rw[setAt_length (by rw[hdl];simp;omega)];simpa using hC1s
  ·rw[hC1,List.toList_toArray]
   have e1:C0.toList.take (i*9)=xs.take (i*9):=by
    rw[hC0]
    simp only[Array.toList_append,List.append_assoc]
    rw[List.take_append_of_le_length (by simp;omega),List.take_of_length_le (by rw[List.length_take];omega)]
   rw[show (n+1)*9=j*9+(xs.drop (i*9)).length by rw[hdl];omega]
   unfold setAt
   rw[List.take_append_of_le_length (by simp;omega),List.take_of_length_le (by simp;omega)]
   congr 1
   rw[e1,List.take_append_of_le_length (by simp;omega),List.take_of_length_le (by simp;omega)]
  ·refine⟨?_,?_,?_,?_,fun b hb _=>?_⟩
   ·rw[hW1,hW0];rfl
   ·rw[hW1,hW0];rfl
   ·rw[hW1,hW0];rfl
   ·rw[hW1,hW0];simp[World.setRow]
   ·rw[setRow_other _ _ _ _ (by omega)];exact hold1 b (by omega)
  ·rw[←hB]
   exact setRow_heap W1.drew B _ _ _ _ hh1
 have hw1:IntKind.i64.wrap ((i:Int)+1)=(j:Int):=by rw[IntKind.wrap_i64];omega
 have hw2:IntKind.i64.wrap ((n:Int)+1)=(m:Int):=by rw[IntKind.wrap_i64];omega
 have hw3:IntKind.i64.wrap ((m:Int) - (i:Int))=(m:Int) - (i:Int):=by rw[IntKind.wrap_i64];omega
 have hz2':¬((i:Int)=(n:Int)):=by omega
 have hb1:i≤n:=by omega
 have hb2:¬(G=j):=by omega
 have hb3:¬(G=i):=by omega
 have hb4:j≤m:=by omega
 have hb5:i≤m:=by omega
 have hb6:i≤cap:=by omega
 have hb7:(cap:Int) < (m:Int):=by omega
 have hb8:¬(cap=i):=by omega
 have hb9:j≤G:=by omega
 have hb10:i≤G:=by omega
 clear hold hC0s hC1s hdl hyl hl hs ht hh hh0 hh1 hold0 hold1 hcx hik hz0 hz1 hz2 hG hW0 hW1 hC0 hC1 hk hj hmm hB hroom
 go_enter Tryz.func200,Tryz.ntmps200
 go_wp2_with (at_builtin;first|refine wpList_appz_r _ rfl _ _ 22 3 rfl _ _ rfl rfl (hz3 _) ?_|refine wpList_copy_r _ rfl _ _ 22 22 rfl _ _ rfl rfl (hcp1 _ _) ?_)
 go_region_law_o (refine step_copy_r rfl _ _ 22 22 rfl _ _ (by simp[Act.eval,Act.put]) (by simp[Act.eval,Act.put]) (hcp2 _ _ _) ?_)
 go_wp2_with fail
 go_ret
 exact hR.out _ rfl
theorem insert_Pool (l:List Pol)(x:Pol)(i g:Nat)(hi:i≤l.length)(hl:l.length≤1000000):
 MSpec Tryz.prog 200 [.own 0 g,.d (.v (.int .i64 i)),.d (.sl 9 [encPol x])] [.row 62 9 g (dRows (l.map encPol))] (.own 0 (g+1)) [.row 62 9 (g+1) (dRows ((l.take i++x::l.drop i).map encPol))]:=by
 rcases Nat.lt_or_ge i l.length with hlt|hge
 ·have h1:=ms_ins (P:=Tryz.prog) (f:=200) (E:=62) (sz:=9) (g:=g) (i:=i) (rows:=l.map encPol) (x:=encPol x) (fnok_of Tryz.func200 (by kernel_rfl) rfl) (by omega) (by simpa using hlt) (by
   simp only[List.length_map]
   intro w gb cap vb vo vc cur xs ys q1 q2 q3 q4 q5 q6 q7 q8 q9 q10 q11
   obtain⟨u,hu⟩:∃u,ys[0]? =some u:=⟨_,List.getElem?_eq_getElem (by omega)⟩
   obtain⟨sA,hsa,hA0⟩:=cells_shape (q11 0 u hu)
   unfold maxLen at q2
   by_cases hroom:l.length+1≤cap
   ·refine(insertB2_Pool gb cap l.length i vb vo vc cur xs ys w q1 (by omega) q4 q5 q6 q7 hlt hroom q8 q9 q10 q11 sA hsa hA0).mono ?_
    rintro e w' ⟨rfl,rfl⟩
    obtain⟨t1,t2⟩:=ins_take (sz:=9) (n:=l.length) (i:=i) (cur:=cur.toList) (xs:=xs) (ys:=ys) (by omega) hlt (by simp;omega) q5 q8 q6
    have hg1:(w.drew.setRow gb (setAt cur.toList ((i+1)*9) (xs.drop (i*9))).toArray).heap[gb]? =some (.cells (setAt cur.toList ((i+1)*9) (xs.drop (i*9))).toArray 62 (0,0)):=setRow_heap _ gb _ _ _ _ q1
    refine⟨_,rfl,.row gb (l.length+1) cap _ _ (by omega) (setRow_heap _ gb _ _ _ _ hg1) hroom q2 (by rw[List.size_toArray,t2];simpa using q4) (by rw[←t1,List.length_take,t2];simp;omega) (by rw[List.toList_toArray];exact t1),⟨rfl,rfl,rfl,by simp[World.setRow],fun b hb hne=>?_⟩,.inl (ownB_pos (by omega))⟩
    have hbg:b≠gb:=fun e=>hne (by rw[e])
    rw[setRow_other _ _ _ _ hbg,setRow_other _ _ _ _ hbg];rfl
   ·refine(insertB1_Pool gb cap l.length i vb vo vc cur xs ys w q1 (by omega) q3 q4 q5 q6 q7 hlt hroom q8 q9 q11).mono ?_
    rintro e w' ⟨G,R,h1,h2,h3,h4,rfl,h6,h7⟩
    exact⟨_,rfl,.row w.heap.size (l.length+1) G R.toArray _ (by omega) h7 h1 h2 (by simpa using h3) (by rw[←h4,List.length_take,h3];omega) (by simpa using h4),h6,.inr fun b hb=>by rw[ownB_pos (by omega)]at hb;cases hb;exact Nat.le_refl _⟩)
  rw[List.map_append,List.map_take,List.map_cons,List.map_drop]
  exact h1
 ·obtain rfl:i=l.length:=by omega
  rw[List.take_length,List.drop_length]
  by_cases h0:l=[]
  ·subst h0
   refine mj Tryz.func200 Tryz.ntmps200 Tryz.results200 ?_
   repeat' (first|(with_reducible refine And.intro ?_ ?_)|(with_reducible refine gK_i (fun _=>?_) (fun _=>?_))|(with_reducible refine condS_i (fun _=>?_) (fun _=>?_))|(with_reducible refine drw_i (by kernel_rfl))|simp -dsimp only[go_sem,seval, *,encPol,dRows,Option.isSome_some]|((with_reducible refine opK_c ?_);simp -dsimp only[go_sem,seval,encPol,dRows,Option.isSome_some];first|refine callK_r (by first|assumption|fail) (by first|exact .inl rfl|exact .inr rfl) ?_|refine callK_i (by assumption) (by repeat(first|exact DLe.refl _|exact DLe.nil _|(refine DLe.tup ?_)|(refine DLe.agg ?_ rfl)|exact trivial|(refine And.intro ?_ ?_))) (by first|exact .inl rfl|exact .inr rfl) ?_)|omega|exact decide_eq_true (by omega)|exact DLe.refl _)
   all_goals exact weak_eq rfl rfl
  ·have hne:¬dRows (l.map encPol)=[]:=by simpa[dRows]using h0
   refine mj Tryz.func200 Tryz.ntmps200 Tryz.results200 ?_
   repeat' (first|(with_reducible refine And.intro ?_ ?_)|(with_reducible refine gK_i (fun _=>?_) (fun _=>?_))|(with_reducible refine condS_i (fun _=>?_) (fun _=>?_))|(with_reducible refine drw_i (by kernel_rfl))|simp -dsimp only[go_sem,seval, *,encPol,Option.isSome_some]|((with_reducible refine opK_c ?_);simp -dsimp only[go_sem,seval,encPol,Option.isSome_some];first|refine callK_r (by first|assumption|fail) (by first|exact .inl rfl|exact .inr rfl) ?_|refine callK_i (by assumption) (by repeat(first|exact DLe.refl _|exact DLe.nil _|(refine DLe.tup ?_)|(refine DLe.agg ?_ rfl)|exact trivial|(refine And.intro ?_ ?_))) (by first|exact .inl rfl|exact .inr rfl) ?_)|omega|exact decide_eq_true (by omega)|exact DLe.refl _)
   all_goals exact weak_eq rfl (by simp[encPol,dRows])
end
theorem ownD_mB (b:Bok)(h8:b.pools.length≤8)(h32:∀p∈b.pools,p.leases.length≤32):
 MSpec Tryz.prog 196 [.d (.agg (encB b))] [] (.ptr 1 0) [.gone,.box 24 [.d (.v (.int .i64 b.tick)),.own 2 b.pools.length],.row 62 9 b.pools.length (dRows (b.pools.map encPol))]:=by
 refine mj Tryz.func196 Tryz.ntmps196 Tryz.results196 ?_
 repeat' (first|(with_reducible refine And.intro ?_ ?_)|(with_reducible refine gK_i (fun _=>?_) (fun _=>?_))|(with_reducible refine condS_i (fun _=>?_) (fun _=>?_))|(with_reducible refine drw_i (by kernel_rfl))|simp -dsimp only[go_sem,seval, *,encB]|((with_reducible refine opK_c ?_);simp -dsimp only[go_sem,seval,encB];first|refine callK_r (by first|assumption|fail) (by first|exact .inl rfl|exact .inr rfl) ?_|refine callK_i (by assumption) (by repeat(first|exact DLe.refl _|exact DLe.nil _|(refine DLe.tup ?_)|(refine DLe.agg ?_ rfl)|exact trivial|(refine And.intro ?_ ?_))) (by first|exact .inl rfl|exact .inr rfl) ?_)|omega|exact decide_eq_true (by omega)|exact DLe.refl _)
 refine loopL tab_ok mixed b.pools (fun _=>True) (fun k=>[(13,.d (.v (.int .i64 k))),(12,.d (.v (.int .i64 b.pools.length))),(11,.d (.sl 9 (b.pools.map encPol))),(3,.ptr 1 0),(2,.d (.v (.pointer none)))])
  (fun k=>[.gone,.box 24 [.d (.v (.int .i64 b.tick)),.own 2 k],.row 62 9 k (dRows ((b.pools.take k).map encPol))]) trivial ?_ ?_ ?_
 ·refine(weak_gone 0 (by simp)).trans ((weak_adopt_box (by simp) 1 24 [.d (.v (.int .i64 b.tick)),.d (.v (.slice none 0 0))] 1 62 9 rfl rfl rfl).trans ?_)
  exact weak_forget _ (by simp) (by(try simp only[encB]);rfl) se bl bl
 ·intro k p hp hk _ C hC
  have hkI:(k:Int) < (b.pools.length:Int):=by omega
  have hwr:=wi k (by omega)
  have hpl:=h32 p (List.mem_of_getElem? hp)
  have hb1:k+1≤100:=by omega
  have hlt:(List.take k b.pools).length=k:=by rw[List.length_take];omega
  have z1z:=Ln.mk (ls:=[]) (clone_Lease encL p.leases (by omega))
  refine wk1 ?_<;>intros
  refine hC _ _ trivial ((weak_freeze 4 1 68 5 (p.leases.map encL) rfl).trans ?_)
  simp only[fzE,fz,fzL,fzH,fzC,fzR,fzR_app,fzR_d,fzL_d,List.map_cons,List.map_nil,Nat.reduceAdd,Nat.reduceEqDiff,reduceIte,and_true,true_and,and_self,and_false,false_and,Nat.zero_add,Nat.add_zero,reduceCtorEq]
  exact weak_forget _ (by simp) (by rw[take_snoc hp,List.map_append,List.map_cons,List.map_nil,←dRows_app];rfl) se bl bl
 ·intro _ C
  refine wk1 ?_<;>intros
  (try rw[List.take_length])
  exact weak_eq rfl rfl
def polRow (p:Pol)(v:PV):List PV:=[.d (.v (.int .i64 p.id)),.d (.v (.int .i64 p.up)),.d (.v (.int .i64 p.root.at_)),.d (.v (.int .i64 p.root.len)),.d (.v (.int .i64 p.rule.min)),.d (.v (.int .i64 p.rule.max)),.d (.v (.int .i64 p.rule.usual)),.d (.v (.int .i64 p.rule.cool)),v]
def zipR (pre:List Pol)(r:List PV)(post:List Pol):List (List PV):=dRows (pre.map encPol)++r::dRows (post.map encPol)
@[go_sem] theorem zipR_len (pre:List Pol)(r:List PV)(post:List Pol):(zipR pre r post).length=pre.length+1+post.length:=by
 simp[zipR,dRows_len];omega
theorem belowR_appB (n:Nat):∀(l m:List (List PV)),belowR n (l++m)=(belowR n l&&belowR n m)
 |[],m=>rfl
 |r::l,m=>by simp only[List.cons_append,belowR,belowR_appB n l m,Bool.and_assoc]
theorem belowR_zip (n:Nat)(pre:List Pol)(r:List PV)(post:List Pol):belowR n (zipR pre r post)=belowL n r:=by
 simp only[zipR,belowR_appB,belowR,belowR_d,Bool.true_and,Bool.and_true]
theorem bz {A:Prop}(h:A:=by first|rfl|simp only[belowH,belowE,belowC,belowL,belowR,belowP,belowL_d,belowR_d,belowR_zip,polRow,List.length_cons,List.length_nil,Nat.reduceAdd,Nat.reduceLT,decide_true,Bool.and_self,Bool.and_true]):A:=h
theorem fzR_zip (k g:Nat)(d:D)(pre:List Pol)(r:List PV)(post:List Pol):fzR k g d (zipR pre r post)=zipR pre (fzL k g d r) post:=by
 simp only[zipR,fzR_app,fzR,fzR_d]
theorem zipR_snoc (pre:List Pol)(r:List PV)(post:List Pol)(q:Pol):zipR pre r post++[(encPol q).map .d]=zipR pre r (post++[q]):=by
 simp[zipR,dRows]
theorem ownZ_m (b:Bok)(pre post:List Pol)(p:Pol)(hb:b.pools=pre++p::post)(h8:b.pools.length≤8)(h32:∀p∈b.pools,p.leases.length≤32):
 MSpec Tryz.prog 196 [.d (.agg (encB b))] [] (.ptr 1 0) [.gone,.box 24 [.d (.v (.int .i64 b.tick)),.own 2 b.pools.length],.row 62 9 b.pools.length (zipR pre (polRow p (.own 4 1)) post),.gone,.row 68 5 1 (dRows (p.leases.map encL))]:=by
 have hlen:b.pools.length=pre.length+1+post.length:=by rw[hb];simp;omega
 have hL:=Lib.hid hb
 have hlen2:=Lib.hid hlen
 clear hb hlen
 refine mj Tryz.func196 Tryz.ntmps196 Tryz.results196 ?_
 repeat' (first|(with_reducible refine And.intro ?_ ?_)|(with_reducible refine gK_i (fun _=>?_) (fun _=>?_))|(with_reducible refine condS_i (fun _=>?_) (fun _=>?_))|(with_reducible refine drw_i (by kernel_rfl))|simp -dsimp only[go_sem,seval, *,encB]|((with_reducible refine opK_c ?_);simp -dsimp only[go_sem,seval,encB];first|refine callK_r (by first|assumption|fail) (by first|exact .inl rfl|exact .inr rfl) ?_|refine callK_i (by assumption) (by repeat(first|exact DLe.refl _|exact DLe.nil _|(refine DLe.tup ?_)|(refine DLe.agg ?_ rfl)|exact trivial|(refine And.intro ?_ ?_))) (by first|exact .inl rfl|exact .inr rfl) ?_)|omega|exact decide_eq_true (by omega)|exact DLe.refl _)
 refine loopG tab_ok mixed (fun m e h=>(∃k,k≤pre.length∧m=b.pools.length - k∧e=[(13,.d (.v (.int .i64 k))),(12,.d (.v (.int .i64 b.pools.length))),(11,.d (.sl 9 (b.pools.map encPol))),(3,.ptr 1 0),(2,.d (.v (.pointer none)))]∧
  h=[.gone,.box 24 [.d (.v (.int .i64 b.tick)),.own 2 k],.row 62 9 k (dRows ((pre.take k).map encPol))])∨
  ∃k j,k=pre.length+1+j∧j≤post.length∧m=b.pools.length - k∧e=[(13,.d (.v (.int .i64 k))),(12,.d (.v (.int .i64 b.pools.length))),(11,.d (.sl 9 (b.pools.map encPol))),(3,.ptr 1 0),(2,.d (.v (.pointer none)))]∧
   h=[.gone,.box 24 [.d (.v (.int .i64 b.tick)),.own 2 k],.row 62 9 k (zipR pre (polRow p (.own 4 1)) (post.take j)),.gone,.row 68 5 1 (dRows (p.leases.map encL))]) _ _ _ (.inl ⟨0,Nat.zero_le _,rfl,rfl,rfl⟩) ?_ ?_
 ·refine(weak_gone 0 (by simp)).trans ((weak_adopt_box (by simp) 1 24 [.d (.v (.int .i64 b.tick)),.d (.v (.slice none 0 0))] 1 62 9 rfl rfl rfl).trans ?_)
  exact weak_forget _ (by simp) (by(try simp only[encB]);rfl) se bl bl
 ·rintro m e h (⟨k,hk,hm,rfl,rfl⟩|⟨k,j,hkj,hj,hm,rfl,rfl⟩) C hC
  ·have hkI:(k:Int) < (b.pools.length:Int):=by have:=hlen2.out;omega
   have hwr:=wi k (by omega)
   have hb1:k+1≤100:=by have:=hlen2.out;omega
   have hlt:(List.take k pre).length=k:=by rw[List.length_take];omega
   have hm:=Lib.hid hm
   by_cases hkp:k < pre.length
   ·obtain⟨q,hq⟩:∃q,pre[k]? =some q:=⟨_,List.getElem?_eq_getElem hkp⟩
    have hq2:b.pools[k]? =some q:=by rw[hL.out,List.getElem?_append_left hkp];exact hq
    have hpl:=h32 q (List.mem_of_getElem? hq2)
    have hq:=Lib.hid hq
    have z1z:=Ln.mk (ls:=[]) (clone_Lease encL q.leases (by omega))
    refine wk1 ?_<;>intros
    refine hC _ _ _ _ _ ?_ (.inl ⟨k+1,hkp,rfl,rfl,rfl⟩) ((weak_freeze 4 1 68 5 (q.leases.map encL) rfl).trans ?_)
    ·have:=hm.out;have:=hlen2.out;omega
    simp only[fzE,fz,fzL,fzH,fzC,fzR,fzR_app,fzR_d,fzL_d,List.map_cons,List.map_nil,Nat.reduceAdd,Nat.reduceEqDiff,reduceIte,and_true,true_and,and_self,and_false,false_and,Nat.zero_add,Nat.add_zero,reduceCtorEq]
    exact weak_forget _ (by simp) (by rw[take_snoc hq.out,List.map_append,List.map_cons,List.map_nil,←dRows_app];rfl) se bl bl
   ·obtain rfl:k=pre.length:=by omega
    have hq2:b.pools[pre.length]? =some p:=by rw[hL.out,List.getElem?_append_right (Nat.le_refl _),Nat.sub_self];rfl
    have hpl:=h32 p (List.mem_of_getElem? hq2)
    have z1z:=Ln.mk (ls:=[]) (clone_Lease encL p.leases (by omega))
    refine wk1 ?_<;>intros
    refine hC _ _ _ _ _ ?_ (.inr ⟨pre.length+1,0,rfl,Nat.zero_le _,rfl,rfl,rfl⟩) ((weak_gone 3 (by simp)).trans ?_)
    ·have:=hm.out;have:=hlen2.out;omega
    exact weak_forget _ (by simp) (by rfl) se bz bz
  ·have hm:=Lib.hid hm
   have hkj2:=Lib.hid hkj
   have hb1:pre.length+1+j+1≤100:=by have:=hlen2.out;omega
   have hlt:(List.take j post).length=j:=by rw[List.length_take];omega
   have hkl:k≤b.pools.length:=by have:=hlen2.out;omega
   by_cases hjp:j < post.length
   ·obtain⟨q,hq⟩:∃q,post[j]? =some q:=⟨_,List.getElem?_eq_getElem hjp⟩
    have hq2:b.pools[k]? =some q:=by
     rw[hL.out,List.getElem?_append_right (by omega),show k - pre.length=j+1 by omega,List.getElem?_cons_succ];exact hq
    have hpl:=h32 q (List.mem_of_getElem? hq2)
    have hkI:(k:Int) < (b.pools.length:Int):=by have:=hlen2.out;omega
    have hwr:=wi k (by omega)
    have hq:=Lib.hid hq
    clear hkj
    have z1z:=Ln.mk (ls:=[]) (clone_Lease encL q.leases (by omega))
    refine wk1 ?_<;>intros
    refine hC _ _ _ _ _ ?_ (.inr ⟨k+1,j+1,by have:=hkj2.out;omega,hjp,rfl,rfl,rfl⟩) ((weak_freeze 6 1 68 5 (q.leases.map encL) rfl).trans ?_)
    ·have:=hm.out;have:=hlen2.out;have:=hkj2.out;omega
    simp only[fzE,fz,fzL,fzH,fzC,fzR,fzR_app,fzR_d,fzL_d,List.map_cons,List.map_nil,Nat.reduceAdd,Nat.reduceEqDiff,reduceIte,and_true,true_and,and_self,and_false,false_and,Nat.zero_add,Nat.add_zero,reduceCtorEq,fzR_zip,polRow]
    exact weak_forget _ (by simp) (by rw[take_snoc hq.out,←zipR_snoc];rfl) se bz bz
   ·obtain rfl:j=post.length:=by omega
    obtain rfl:k=b.pools.length:=by have:=hlen2.out;omega
    clear hkj
    refine wk1 ?_<;>intros
    (try rw[List.take_length])
    exact weak_eq rfl rfl
@[go_sem] theorem renR_zip (ρ:Nat→Nat)(pre:List Pol)(r:List PV)(post:List Pol):renR ρ (zipR pre r post)=zipR pre (renL ρ r) post:=by
 have app:∀(l m:List (List PV)),renR ρ (l++m)=renR ρ l++renR ρ m:=by
  intro l m
  rw[renR_map,renR_map,renR_map,List.map_append]
 simp only[zipR,app,renR,renR_d]
structure BookOK (b:Bok):Prop where
 n8:b.pools.length≤8
 l32:∀p∈b.pools,p.leases.length≤32
 rise:Rise b.pools
 tick:0≤b.tick∧b.tick≤1073741824
 mem:∀p∈b.pools,idOKB p.id=true∧chkS p.root (usedP p)=0∧ruleOK p.rule p.root.len=true
 second:secondOK b b.pools []=true
theorem bookOK {b:Bok}(h:chkBk b=0):BookOK b:=by
 unfold chkBk at h
 split at h
 ·cases h
 ·rename_i h8
  split at h
  ·cases h
  ·rename_i ht
   split at h
   ·rename_i hf
    rw[Bool.and_eq_true]at hf
    have hm:=firstOK_mem _ _ hf.1
    refine⟨by omega,fun p hp=>?_,(firstOK_rise _ _ hf.1).1,by omega,hm,hf.2⟩
    have:=(hm p hp).2.1
    unfold chkS at this
    split at this
    ·cases this
    ·rename_i h;simpa[usedP]using h
   ·cases h
theorem beginE_p (b:Bok)(hz:∀p∈b.pools,p.leases.length≤3518437208882)(h:chkBk b≠0):PSpec Tryz.prog 115 [.agg (encB b)] (.tup [.v (.pointer none),.v (.int .i64 (chkBk b))]):=by
 have hc:=bkCheck_p b hz
 have h1:(chkBk b !=0)=true:=by simpa using h
 refine pj Tryz.func115 Tryz.ntmps115 Tryz.results115 ?_
 exact wk0
theorem beginD_mB (b:Bok)(hz:∀p∈b.pools,p.leases.length≤3518437208882)(h:chkBk b=0):
 MSpec Tryz.prog 115 [.d (.agg (encB b))] [] (.tup [.ptr 2 0,.d (.v (.int .i64 0))]) [.gone,.gone,.box 24 [.d (.v (.int .i64 b.tick)),.own 3 b.pools.length],.row 62 9 b.pools.length (dRows (b.pools.map encPol))]:=by
 have hc:=bkCheck_p b hz
 have hb:=bookOK h
 have ho:=ownD_mB b hb.n8 hb.l32
 rw[h]at hc
 replace h:=Lib.hid h
 refine mj Tryz.func115 Tryz.ntmps115 Tryz.results115 ?_
 have z1z:=Ln.mk (ls:=[]) (ho)
 refine wk1 ?_<;>intros
 exact(weak_gone 0 (by simp)).trans (weak_eq rfl rfl)
theorem beginZ_m (b:Bok)(pre post:List Pol)(p:Pol)(hp:b.pools=pre++p::post)(hz:∀p∈b.pools,p.leases.length≤3518437208882)(h:chkBk b=0):
 MSpec Tryz.prog 115 [.d (.agg (encB b))] [] (.tup [.ptr 2 0,.d (.v (.int .i64 0))]) [.gone,.gone,.box 24 [.d (.v (.int .i64 b.tick)),.own 3 b.pools.length],.row 62 9 b.pools.length (zipR pre (polRow p (.own 5 1)) post),.gone,.row 68 5 1 (dRows (p.leases.map encL))]:=by
 have hc:=bkCheck_p b hz
 have hb:=bookOK h
 have ho:=ownZ_m b pre post p hp hb.n8 hb.l32
 rw[h]at hc
 replace h:=Lib.hid h
 replace hp:=Lib.hid hp
 refine mj Tryz.func115 Tryz.ntmps115 Tryz.results115 ?_
 have z1z:=@polRow.eq_1
 have z2z:=Ln.mk (ls:=[]) (ho)
 refine wk1 ?_<;>intros
 exact(weak_gone 0 (by simp)).trans (weak_eq rfl rfl)
theorem lb_at {α:Type}{key:α→Int}{l:List α}{i:Nat}{q:α}(hs:l.Pairwise fun a b=>key a < key b)(hq:l[i]? =some q):lbN key (key q) l=i∧lbB key (key q) l=true:=by
 obtain⟨hi,rfl⟩:=List.getElem?_eq_some_iff.1 hq
 have h1:lbN key (key l[i]) l=i:=lbN_eq (Nat.le_of_lt hi) (fun k hk hki=>List.pairwise_iff_getElem.1 hs k i hk hi hki) (fun k hk hki=>by
  rcases Nat.lt_or_ge i k with h|h
  ·have:=List.pairwise_iff_getElem.1 hs i k hi hk h;omega
  ·obtain rfl:k=i:=by omega
   exact Int.le_refl _)
 refine⟨h1,?_⟩
 unfold lbB
 rw[h1,hq];simp
theorem find_m (b:Bok)(i:Nat)(q:Pol)(g:Nat)(rows:List (List PV))(hs:List Chunk)(c0:PV)(hq:b.pools[i]? =some q)(hr:Rise b.pools)(h8:b.pools.length≤8)(hrl:rows.length=b.pools.length)
 (hv:viewR (viewF (hatL (.box 24 [c0,.own 1 g]:: .row 62 9 g rows::hs)) 5) rows=some (b.pools.map encPol)) (hbl:belowR (hs.length+2) rows=true) (hbh:belowH (hs.length+2) hs=true) (hc0:belowP (hs.length+2) c0=true):
 MSpec Tryz.prog 116 [.ptr 0 0,.d (.v (.int .i64 q.id))] (.box 24 [c0,.own 1 g]:: .row 62 9 g rows::hs) (.tup [.rp 1 g 9 i 0,.d (.v (.bool true))]) (.box 24 [c0,.own 1 g]:: .row 62 9 g rows::hs):=by
 have hbs:=bsrf_Pool encPol_len (fun p=>p.id) b.pools q.id 198 [] (by omega) hr (fun p _=>byId_p p q.id)
 obtain⟨e1,e2⟩:=lb_at (key:=fun p:Pol=>p.id) hr hq
 rw[e1,e2]at hbs
 have hi:i < rows.length:=by rw[hrl];exact(List.getElem?_eq_some_iff.1 hq).1
 have hiI:(0:Int)≤(i:Int):=by omega
 replace hq:=Lib.hid hq
 replace hrl:=Lib.hid hrl
 replace e1:=Lib.hid e1
 replace e2:=Lib.hid e2
 refine ms_w tab_ok mixed Tryz.func116 rfl Tryz.ntmps116 Tryz.results116 (by kernel_rfl) (Nat.le_refl _) (by simp[belowL,belowP]) (by simp[belowH,belowC,belowL,belowP,hbl,hbh,hc0]) ?_
 refine wk1 ?_<;>intros
 exact weak_eq rfl rfl
def fitE (p:Pol)(size:Int):Pfx × Int:=
 if size < p.rule.min∨size>p.rule.max then (Pfx.zero,7)else
 if (fitS p.root (usedP p) size).2.1=false∨p.leases.length=32 then (Pfx.zero,8)else ((fitS p.root (usedP p) size).1,0)
theorem fit_p (p:Pol)(size:Int)(hl:p.leases.length≤32):PSpec Tryz.prog 120 [.ept (encPol p),.v (.int .i64 size)] (.tup [.agg (encP (fitE p size).1),.v (.int .i64 (fitE p size).2)]):=by
 have ht:=taken_p p (by omega)
 have hf:=spFit_p p.root (usedP p) size
 refine pj Tryz.func120 Tryz.ntmps120 Tryz.results120 ?_
 repeat' (first|(with_reducible refine And.intro ?_ ?_)|(with_reducible refine gK_i (fun _=>?_) (fun _=>?_))|(with_reducible refine condS_i (fun _=>?_) (fun _=>?_))|(with_reducible refine drw_i (by kernel_rfl))|simp -dsimp only[go_sem,seval, *,encPol,encP]|((with_reducible refine opK_c ?_);simp -dsimp only[go_sem,seval,encPol,encP];first|refine callK_r (by first|assumption|exact ht|exact hf) (by first|exact .inl rfl|exact .inr rfl) ?_|(refine callK_i (by assumption) ?_ ?_ ?_;(solve|(repeat(first|exact DLe.refl _|exact DLe.nil _|(refine DLe.tup ?_)|(refine DLe.agg ?_ rfl)|exact trivial|(refine And.intro ?_ ?_))));(solve|exact .inl rfl|exact .inr rfl)))|fail|omega|exact decide_eq_true (by omega)|exact DLe.refl _)
 all_goals clear ht hf
 all_goals first
  |(rw[show fitE p size=(Pfx.zero,7) from by unfold fitE;grind];exact DLe.refl _)
  |(rw[show fitE p size=(Pfx.zero,8) from by unfold fitE;grind];exact DLe.refl _)
  |(rw[show fitE p size=((fitS p.root (usedP p) size).1,0) from by unfold fitE;grind];exact DLe.refl _)
@[go_sem] theorem zipR_get (pre:List Pol)(r:List PV)(post:List Pol):(zipR pre r post)[pre.length]? =some r:=by
 unfold zipR
 rw[List.getElem?_append_right (by simp[dRows_len])]
 simp[dRows_len]
@[go_sem] theorem zipR_set (pre:List Pol)(r r':List PV)(post:List Pol):(zipR pre r post).set pre.length r'=zipR pre r' post:=by
 unfold zipR
 rw[List.set_append_right _ _ (by simp[dRows_len])]
 simp[dRows_len]
def insL (l:Lse)(ls:List Lse):List Lse:=ls.take (lbN (fun x=>x.at_.at_) l.at_.at_ ls)++l::ls.drop (lbN (fun x=>x.at_.at_) l.at_.at_ ls)
theorem lbN_leB {α:Type}(key:α→Int)(t:Int)(l:List α):lbN key t l≤l.length:=List.findIdx_le_length
theorem let1_p (x:Lse)(t:Int):PSpec Tryz.prog 203 [.agg (encL x),.v (.int .i64 t)] (.v (.int .i64 (cmpI x.at_.at_ t))):=by
 have hc:=compare_p x.at_.at_ t
 refine pj Tryz.func203 Tryz.ntmps203 Tryz.results203 ?_
 exact wk0
theorem zipR_data (pre post:List Pol)(p:Pol)(ls:List Lse):zipR pre (polRow p (.d (.sl 5 (ls.map encL)))) post=dRows ((pre++{p with leases:=ls}::post).map encPol):=by
 simp only[zipR,dRows,List.map_append,List.map_cons];rfl
theorem zip_freeze {P:Program}{m:Nat}(pre post:List Pol)(p:Pol)(g g2:Nat)(ls:List Lse):Weak P 1 m [(0,.d (.tup []))] [.row 62 9 g (zipR pre (polRow p (.own 1 g2)) post),.row 68 5 g2 (dRows (ls.map encL))] [(0,.d (.tup []))] [.row 62 9 g (dRows ((pre++{p with leases:=ls}::post).map encPol)),.gone]:=by
 refine(weak_freeze 1 g2 68 5 (ls.map encL) rfl).trans ?_
 simp only[fzE,fz,fzL,fzH,fzC,fzR,fzR_app,fzR_d,fzL_d,List.map_cons,List.map_nil,Nat.reduceAdd,Nat.reduceEqDiff,reduceIte,and_true,true_and,and_self,and_false,false_and,Nat.zero_add,Nat.add_zero,reduceCtorEq,fzR_zip,polRow]
 rw[←zipR_data]
 exact weak_eq rfl rfl
theorem let_m (pre post:List Pol)(p:Pol)(l:Lse)(g g2:Nat)(hl:p.leases.length≤32)(hs:p.leases.Pairwise fun a b=>a.at_.at_ < b.at_.at_):
 MSpec Tryz.prog 121 [.rp 0 g 9 pre.length 0,.d (.agg (encL l))] [.row 62 9 g (zipR pre (polRow p (.own 1 g2)) post),.row 68 5 g2 (dRows (p.leases.map encL))] (.d (.tup [])) [.row 62 9 g (dRows ((pre++{p with leases:=insL l p.leases}::post).map encPol)),.gone]:=by
 have hbs:=bsrf_Lease encL_len (fun x=>x.at_.at_) p.leases l.at_.at_ 203 [] (by omega) hs (fun x _=>let1_p x l.at_.at_)
 have hle:=lbN_leB (fun x:Lse=>x.at_.at_) l.at_.at_ p.leases
 have hins:=insert_Lease p.leases l (lbN (fun x:Lse=>x.at_.at_) l.at_.at_ p.leases) g2 hle (by omega)
 refine ms_w tab_ok mixed Tryz.func121 rfl Tryz.ntmps121 Tryz.results121 (by kernel_rfl) (Nat.le_refl _) (by simp[belowL,belowP]) (by simp[belowH,belowC,belowR_zip,belowL,belowP,polRow,belowR_d]) ?_
 have z1z:=@polRow.eq_1
 have z2z:=Ln.mk (ls:=[1]) (hins)
 refine wk1 ?_<;>intros
 refine Weak.trans ?_ (zip_freeze pre post p g (g2+1) (insL l p.leases))
 exact weak_forget _ (by simp) (by rfl) ⟨rfl,trivial⟩ bz bz
def coolL (p:Pol)(i:Nat)(tick:Int):List Lse:=if p.rule.cool=0 then p.leases.eraseIdx i else match p.leases[i]? with|some l=>p.leases.set i ⟨l.at_,3,0,tick+p.rule.cool⟩|none=>p.leases
theorem cool_m (pre post:List Pol)(p:Pol)(i g g2:Nat)(tick:Int)(hi:i < p.leases.length)(hl:p.leases.length≤32)(hc2:0≤p.rule.cool∧p.rule.cool≤1024)(ht:0≤tick∧tick≤1073741824):
 MSpec Tryz.prog 123 [.rp 0 g 9 pre.length 0,.d (.v (.int .i64 i)),.d (.v (.int .i64 tick))] [.row 62 9 g (zipR pre (polRow p (.own 1 g2)) post),.row 68 5 g2 (dRows (p.leases.map encL))] (.d (.tup [])) [.row 62 9 g (dRows ((pre++{p with leases:=coolL p i tick}::post).map encPol)),.gone]:=by
 refine ms_w tab_ok mixed Tryz.func123 rfl Tryz.ntmps123 Tryz.results123 (by kernel_rfl) (Nat.le_refl _) (by simp[belowL,belowP]) (by simp[belowH,belowC,belowR_zip,belowL,belowP,polRow,belowR_d]) ?_
 by_cases hc:p.rule.cool=0
 ·have hcl:coolL p i tick=p.leases.eraseIdx i:=by unfold coolL;rw[if_pos hc]
  have hwr:=wi i (by omega)
  have hd:=delete_Lease (enc:=encL) p.leases i (i+1) g2 hi rfl
  have hc1:(p.rule.cool==0)=true:=by simpa using hc
  rw[hcl]
  replace hcl:=Lib.hid hcl
  replace hc:=Lib.hid hc
  have z1z:=@polRow.eq_1
  have z2z:=Ln.mk (ls:=[1]) (hd)
  refine wk1 ?_<;>intros
  exact zip_freeze pre post p g (g2+1) (p.leases.eraseIdx i)
 ·have hwr:IntKind.i64.wrap (tick+p.rule.cool)=tick+p.rule.cool:=by rw[IntKind.wrap_i64];omega
  have hc1:(p.rule.cool==0)=false:=by simpa using hc
  obtain⟨l,hl2⟩:∃l,p.leases[i]? =some l:=⟨_,List.getElem?_eq_getElem hi⟩
  have hset:=dRows_setrow encL p.leases i ⟨l.at_,3,0,tick+p.rule.cool⟩
  have hcl:coolL p i tick=p.leases.set i ⟨l.at_,3,0,tick+p.rule.cool⟩:=by unfold coolL;rw[if_neg hc,hl2]
  simp only[encL,List.map_cons,List.map_nil]at hset
  rw[hcl]
  replace hcl:=Lib.hid hcl
  have z1z:=@polRow.eq_1
  refine wk1 ?_<;>intros
  exact zip_freeze pre post p g g2 (p.leases.set i ⟨l.at_,3,0,tick+p.rule.cool⟩)
def insB (p:Pol)(ps:List Pol):List Pol:=ps.take (lbN (fun x=>x.id) p.id ps)++p::ps.drop (lbN (fun x=>x.id) p.id ps)
theorem put_m (ps:List Pol)(p:Pol)(g:Nat)(tick:D)(h8:ps.length≤8)(hr:Rise ps)(ht:tick.one=true):
 MSpec Tryz.prog 119 [.ptr 0 0,.d (.agg (encPol p))] [.box 24 [.d tick,.own 1 g],.row 62 9 g (dRows (ps.map encPol))] (.d (.tup [])) [.box 24 [.d tick,.own 1 (g+1)],.row 62 9 (g+1) (dRows ((insB p ps).map encPol))]:=by
 have hbs:=bsrf_Pool encPol_len (fun x=>x.id) ps p.id 198 [] (by omega) hr (fun x _=>byId_p x p.id)
 have hle:=lbN_leB (fun x:Pol=>x.id) p.id ps
 have hins:=insert_Pool ps p (lbN (fun x:Pol=>x.id) p.id ps) g hle (by omega)
 refine ms_w tab_ok mixed Tryz.func119 rfl Tryz.ntmps119 Tryz.results119 (by kernel_rfl) (Nat.le_refl _) (by simp[belowL,belowP]) (by simp[belowH,belowC,belowL,belowP,belowR_d]) ?_
 have z1z:=Ln.mk (ls:=[1]) (hins)
 refine wk1 ?_<;>intros
 exact weak_forget _ (by simp) (by rfl) ⟨rfl,trivial⟩ bz bz
def chkSt (s:Ste):Int:=if chkBk s.book≠0 then chkBk s.book else if chkT s.net≠0 then chkT s.net else if (rngsOK (usE s.book) s.net.vpcs&&decide (nRng s.net.vpcs=(usE s.book).countP fun kv=>heldB s.net.vpcs kv.2))=true then 0 else 1
theorem idxf_Vpc {α:Type}{enc:α→List D}(henc:∀x,(enc x).length=3)(p:α→Bool)(l:List α)(g:Nat)(caps:List D)(hl:l.length≤1000000000)(hc:∀x∈l,PSpec Tryz.prog g (.agg (enc x)::caps) (.v (.bool (p x)))):
 PSpec Tryz.prog 100 [.sl 3 (l.map enc),.clo g caps] (.v (.int .i64 (idxI p l))):=by
 refine pj Tryz.func100 Tryz.ntmps100 Tryz.results100 ?_
 refine wk1 ?_<;>intros
 refine loopG tab_ok mixed (fun m e h=>∃k:Nat,k≤l.length∧(∀x∈l.take k,p x=false)∧m=l.length - k∧e=[(8,.d (.v (.int .i64 k))),(7,.d (.v (.int .i64 l.length))),(4,.d (.v (.int .i64 0))),(1,.d (.clo g caps)),(0,.d (.sl 3 (l.map enc)))]∧h=[]) _ _ _ ⟨0,Nat.zero_le _,by simp,rfl,rfl,rfl⟩ ?_ ?_
 ·exact weak_forget [] (by simp) rfl ⟨rfl,rfl,rfl,rfl,rfl,trivial⟩ bl bl
 ·rintro m e h ⟨k,hk,hno,rfl,rfl,rfl⟩ CL hCL
  by_cases hlt:k < l.length
  ·obtain⟨x,hx⟩:∃x,l[k]? =some x:=⟨_,List.getElem?_eq_getElem hlt⟩
   have hltI:(k:Int) < (l.length:Int):=by omega
   have hwr:=wi k (by omega)
   have hlen:=henc x
   have htk:(enc x).take 3=enc x:=List.take_of_length_le (by omega)
   have hcx:=hc x (List.mem_of_getElem? hx)
   cases hp:p x with
   |false=>
    rw[hp]at hcx
    refine wk1 ?_<;>intros
    refine hCL _ _ _ _ _ ?_ ⟨k+1,hlt,?_,rfl,rfl,rfl⟩ (weak_forget [] (by simp) rfl ⟨rfl,rfl,rfl,rfl,rfl,trivial⟩ bl bl)
    ·omega
    ·intro y hy
     rw[take_snoc hx]at hy
     rcases List.mem_append.1 hy with hy|hy
     ·exact hno y hy
     ·rw[List.mem_singleton]at hy;rw[hy];exact hp
   |true=>
    rw[hp]at hcx
    have hidx:idxI p l=k:=idxI_some hx hp hno
    exact wk0
    all_goals rw[hidx]
    all_goals exact DLe.refl _
  ·obtain rfl:k=l.length:=by omega
   rw[List.take_length]at hno
   refine wk1 ?_<;>intros
   all_goals rw[idxI_none hno]
   all_goals exact DLe.refl _
theorem cntf_Vpc {α:Type}{enc:α→List D}(henc:∀x,(enc x).length=3)(p:α→Bool)(l:List α)(g:Nat)(caps:List D)(hl:l.length≤1000000000)(hc:∀x∈l,PSpec Tryz.prog g (.agg (enc x)::caps) (.v (.bool (p x)))):
 PSpec Tryz.prog 35 [.sl 3 (l.map enc),.clo g caps] (.v (.bool (l.any p))):=by
 have hi:=idxf_Vpc henc p l g caps hl hc
 have hany:=idxI_any p l
 refine pj Tryz.func35 Tryz.ntmps35 Tryz.results35 ?_
 exact wk0
 all_goals exact DLe.refl _
theorem scheck1_p (v:Vpc)(o:Int):PSpec Tryz.prog 36 [.agg (encV v),.ept [.v (.int .i64 o)]] (.v (.bool (v.id==o))):=by
 refine pj Tryz.func36 Tryz.ntmps36 Tryz.results36 ?_
 exact wk0
theorem scheck_p (s:Ste)(hz:∀p∈s.book.pools,p.leases.length≤3518437208882):PSpec Tryz.prog 11 [.agg (encSt s)] (.v (.int .i64 (chkSt s))):=by
 have hb:=bkCheck_p s.book hz
 have hn:=ncheck_p s.net
 obtain⟨R,hR⟩:∃R,R=chkSt s:=⟨_,rfl⟩
 rw[←hR]
 replace hR:=Lib.hid hR
 by_cases h1:chkBk s.book=0
 ·rw[h1]at hb
  by_cases h2:chkT s.net=0
  ·rw[h2]at hn
   have hR1:R=if (rngsOK (usE s.book) s.net.vpcs&&decide (nRng s.net.vpcs=(usE s.book).countP fun kv=>heldB s.net.vpcs kv.2))=true then 0 else 1:=by
    rw[hR.out];unfold chkSt;rw[if_neg (by simpa using h1),if_neg (by simpa using h2)]
   have hbo:=bookOK h1
   have hu:=Ln.mk (ls:=[]) (users_m s.book (by have:=hbo.n8;omega) (fun p hp=>by have:=hbo.l32 p hp;omega))
   have hEl:=usE_len hbo.l32
   have hE8:=hbo.n8
   have hEn:(usE s.book).length≤256:=Nat.le_trans hEl (Nat.le_trans (Nat.mul_le_mul_right 32 hE8) (by decide))
   have hno:=netOK.1 h2
   have hn6:=hno.n6
   have hvr:∀v∈s.net.vpcs,v.ranges.length≤4:=fun v hv=>(vpcOK_of (hno.vp v hv)).n4
   have hnr:∀k,nRng (s.net.vpcs.take k)≤24:=fun k=>Nat.le_trans (nRng_bd fun v hv=>hvr v (List.mem_of_mem_take hv)) (by rw[List.length_take];omega)
   clear hbo hEl hE8 hno
   generalize usE s.book=E at*
   replace hR1:=Lib.hid hR1
   replace hvr:=Lib.hid hvr
   replace hnr:=Lib.hid hnr
   clear h1 h2 hR
   have hcl:=Lib.hid (⟨hn6,hEn⟩:s.net.vpcs.length≤6∧E.length≤256)
   clear hEn
   refine pj Tryz.func11 Tryz.ntmps11 Tryz.results11 ?_
   refine wk1 ?_
   refine loopL tab_ok mixed s.net.vpcs (fun k=>rngsOK E (s.net.vpcs.take k)=true) (fun k=>[(32,.d (.v (.int .i64 k))),(31,.d (.v (.int .i64 s.net.vpcs.length))),(30,.d (.sl 3 (s.net.vpcs.map encV))),(6,.d (.v (.int .i64 (nRng (s.net.vpcs.take k):Nat)))),(5,.mref 2),(1,.ptr 0 0)])
    (fun _=>[.box 30 ((encSt s).map .d),.gone,.mp 3 true E]) rfl wf ?_ ?_
   ·intro k v hv hk hI C hC
    have hkI:(k:Int) < (s.net.vpcs.length:Int):=by omega
    have hwr:=wi k (by omega)
    have hcn:=Lib.hid (nRng_take hv)
    have hck:=Lib.hid (hnr.out k)
    have hv4:=Lib.hid (hvr.out v (List.mem_of_getElem? hv))
    have hvx:=Lib.hid hv
    have hIx:=Lib.hid hI
    clear hI
    generalize hNk:nRng (s.net.vpcs.take k)=Nk at*
    clear hNk
    refine wk1 ?_
    refine loopL tab_ok mixed v.ranges (fun j=>(v.ranges.take j).all (rgOK E v.id)=true) (fun j=>[(39,.d (.v (.int .i64 j))),(38,.d (.v (.int .i64 v.ranges.length))),(37,.d (.sl 3 (v.ranges.map encG))),(8,.ptr 3 0),(6,.d (.v (.int .i64 ((Nk+j:Nat):Int)))),(32,.d (.v (.int .i64 k))),(31,.d (.v (.int .i64 s.net.vpcs.length))),(30,.d (.sl 3 (s.net.vpcs.map encV))),(5,.mref 2),(1,.ptr 0 0)])
     (fun _=>[.box 30 ((encSt s).map .d),.gone,.mp 3 true E,.box 55 ((encV v).map .d)]) rfl wf ?_ ?_
    ·intro j r hr hj hJ C2 hC2
     have hjI:(j:Int) < (v.ranges.length:Int):=by omega
     have hwj:IntKind.i64.wrap ((j:Int)+1)=((j+1:Nat):Int):=by have:=hv4.out;rw[IntKind.wrap_i64];omega
     have hwc:IntKind.i64.wrap (((Nk+j:Nat):Int)+1)=((Nk+(j+1):Nat):Int):=by have:=hck.out;have:=hv4.out;rw[IntKind.wrap_i64];omega
     have hrx:=Lib.hid hr
     have hJx:=Lib.hid hJ
     clear hJ
     by_cases hq:rgOK E v.id r=true
     ·have e1:((lkE E [r.at_.at_,r.at_.len,r.pool]).getD 0 !=v.id)=false:=by unfold rgOK at hq;simpa using hq
      have hq2:=Lib.hid hq
      clear hq
      refine wk1 ?_
      exact hC2 _ _ (by rw[take_snoc hrx.out,List.all_append,hJx.out];simpa using hq2.out) wf
     ·have e1:((lkE E [r.at_.at_,r.at_.len,r.pool]).getD 0 !=v.id)=true:=by unfold rgOK at hq;simpa using hq
      have hr1:R=1:=by
       rw[hR1.out,if_neg]
       intro h
       rw[Bool.and_eq_true]at h
       have h3:=List.all_eq_true.1 (List.all_eq_true.1 h.1 v (List.mem_of_getElem? hvx.out)) r (List.mem_of_getElem? hrx.out)
       exact hq h3
      rw[hr1]
      replace hq:=Lib.hid hq
      exact wk0
    ·intro hJ C2
     rw[List.take_length]at hJ
     replace hJ:=Lib.hid hJ
     refine wk1 ?_
     exact hC _ _ (by unfold rngsOK;rw[take_snoc hvx.out,List.all_append];have:=hIx.out;unfold rngsOK at this;rw[this];simpa using hJ.out) (wf (hh:=by rfl) (he:=by rw[hcn.out];repeat' (first|exact trivial|(refine⟨rfl,?_⟩))))
   ·intro hI C
    rw[List.take_length]at hI ⊢
    have hn24:=Lib.hid (by have:=hnr.out s.net.vpcs.length;rw[List.take_length]at this;exact this:nRng s.net.vpcs≤24)
    have hR2:R=if nRng s.net.vpcs=E.countP fun kv=>heldB s.net.vpcs kv.2 then 0 else 1:=by
     rw[hR1.out,hI,Bool.true_and];simp only[decide_eq_true_eq]
    replace hR2:=Lib.hid hR2
    clear hI
    generalize nRng s.net.vpcs=Nn at*
    refine wk1 ?_
    refine loopR (fun m e h=>∃(seen:List Nat) (c:Int),seen.Nodup∧(∀i∈seen,i < E.length)∧m=leftN E.length seen∧c=(Nn:Int) - (seen.countP (atHeld E (heldB s.net.vpcs)):Nat)∧seen.length≤E.length∧e=[(58,.ptr 3 0),(6,.d (.v (.int .i64 c))),(1,.ptr 0 0)]∧h=[.box 30 ((encSt s).map .d),.gone,.gone,.it 3 true E seen]) _ _ _ ⟨[],(Nn:Int),List.nodup_nil,by simp,rfl,by simp,by simp,rfl,rfl⟩ wf ?_
    rintro m e h ⟨seen,c,hnd,hlt,hm,hc,hle,rfl,rfl⟩ C2 hC2
    replace hc:=Lib.hid hc
    replace hlt:=Lib.hid hlt
    refine swp_seq tab_ok mixed (by rfl) (swp_next (k:=3) (x:= .tmp 58) tab_ok (by simp) rfl rfl rfl rfl rfl rfl (by decide) (by decide) rfl rfl (by simp) ?_ ?_)
    ·intro hall
     have hcc:=seen_all (p:=heldB s.net.vpcs) hnd hlt.out hall
     by_cases hz:c=0
     ·have hr1:R=0:=by rw[hR2.out,if_pos];have:=hc.out;omega
      rw[hr1]
      subst hz
      clear hcc hall hnd hm
      change sC _ _ _ _ _ _ _ _ _ _
      exact wk0
     ·have hr1:R=1:=by rw[hR2.out,if_neg];have:=hc.out;omega
      have hz2:(c !=0)=true:=by simpa using hz
      rw[hr1]
      clear hcc hall hnd hm
      replace hz:=Lib.hid hz
      change sC _ _ _ _ _ _ _ _ _ _
      exact wk0
    ·intro i hi hns
     obtain⟨kv,hkv⟩:∃kv,E[i]? =some kv:=⟨_,List.getElem?_eq_getElem hi⟩
     have hgl:(seen++[i]).getLast? =some i:=by simp
     have hcn:=cntf_Vpc encV_len (fun v=>v.id==kv.2) s.net.vpcs 36 [.ept [.v (.int .i64 kv.2)]] (by have:=hcl.out;omega) (fun v _=>scheck1_p v kv.2)
     have hcp:=List.countP_le_length (p:=atHeld E (heldB s.net.vpcs)) (l:=seen)
     have hnew:(seen++[i]).Nodup:=by rw[List.nodup_append];exact⟨hnd,by simp,fun a ha b hb e=>hns (by simp at hb;subst hb;subst e;exact ha)⟩
     have hl2:∀j∈seen++[i],j < E.length:=fun j hj=>by
      rcases List.mem_append.1 hj with h|h
      ·exact hlt.out j h
      ·simp at h;omega
     have hll:=left_lt hi hns
     have hlen2:(seen++[i]).length≤E.length:=by
      have:=(hnew.length_le_of_subset (fun j hj=>List.mem_range.2 (hl2 j hj)):(seen++[i]).length≤(List.range E.length).length)
      simpa using this
     have hct:(seen++[i]).countP (atHeld E (heldB s.net.vpcs))=seen.countP (atHeld E (heldB s.net.vpcs))+if heldB s.net.vpcs kv.2 then 1 else 0:=by
      rw[List.countP_append];simp[atHeld,hkv]
     by_cases hb:heldB s.net.vpcs kv.2=true
     ·have hb2:(s.net.vpcs.any fun v=>v.id==kv.2)=true:=hb
      rw[hb2]at hcn
      rw[if_pos hb]at hct
      have hwc:IntKind.i64.wrap (c - 1)=c - 1:=by have:=hc.out;have:=hn24.out;have:=hcl.out;rw[IntKind.wrap_i64];omega
      have hc2:c - 1=(Nn:Int) - ((seen++[i]).countP (atHeld E (heldB s.net.vpcs)):Nat):=by rw[hct];have:=hc.out;omega
      replace hct:=Lib.hid hct
      replace hc2:=Lib.hid hc2
      replace hb:=Lib.hid hb
      clear hb2
      replace hnew:=Lib.hid hnew
      replace hl2:=Lib.hid hl2
      replace hll:=Lib.hid hll
      replace hlen2:=Lib.hid hlen2
      change sC _ _ _ _ _ _ _ _ _ _
      refine wk1 ?_
      exact hC2 _ _ _ _ _ (by rw[hm];exact hll.out) ⟨_,_,hnew.out,hl2.out,rfl,hc2.out,hlen2.out,rfl,rfl⟩ wf
     ·have hb2:(s.net.vpcs.any fun v=>v.id==kv.2)=false:=by simpa[heldB]using hb
      rw[hb2]at hcn
      rw[if_neg hb]at hct
      have hc2:c=(Nn:Int) - ((seen++[i]).countP (atHeld E (heldB s.net.vpcs)):Nat):=by rw[hct];have:=hc.out;omega
      replace hct:=Lib.hid hct
      replace hc2:=Lib.hid hc2
      replace hb:=Lib.hid hb
      clear hb2
      replace hnew:=Lib.hid hnew
      replace hl2:=Lib.hid hl2
      replace hll:=Lib.hid hll
      replace hlen2:=Lib.hid hlen2
      change sC _ _ _ _ _ _ _ _ _ _
      refine wk1 ?_
      exact hC2 _ _ _ _ _ (by rw[hm];exact hll.out) ⟨_,_,hnew.out,hl2.out,rfl,hc2.out,hlen2.out,rfl,rfl⟩ wf
  ·have e2:(chkT s.net !=0)=true:=by simpa using h2
   have hR1:R=chkT s.net:=by rw[hR.out];unfold chkSt;rw[if_neg (by simpa using h1),if_pos h2]
   rw[hR1]
   generalize chkT s.net=X at*
   refine pj Tryz.func11 Tryz.ntmps11 Tryz.results11 ?_
   exact wk0
 ·have e2:(chkBk s.book !=0)=true:=by simpa using h1
  have hR1:R=chkBk s.book:=by rw[hR.out];unfold chkSt;rw[if_pos h1]
  rw[hR1]
  generalize chkBk s.book=X at*
  refine pj Tryz.func11 Tryz.ntmps11 Tryz.results11 ?_
  exact wk0
def Bok.zero:Bok:=⟨0,[]⟩
theorem poolOf_some {b:Bok}{id:Int}{q:Pol}(h:poolOf b id=some q):∃i:Nat,b.pools[i]? =some q∧q.id=id:=by
 have h1:=List.find?_some h
 have h2:=List.mem_of_find?_eq_some h
 obtain⟨i,hi,rfl⟩:=List.mem_iff_getElem.1 h2
 exact⟨i,List.getElem?_eq_getElem hi,by simpa using h1⟩
theorem poolOf_split {b:Bok}{id:Int}{q:Pol}(h:poolOf b id=some q):∃pre post,b.pools=pre++q::post∧q.id=id:=by
 obtain⟨i,hi,he⟩:=poolOf_some h
 obtain⟨hlt,rfl⟩:=List.getElem?_eq_some_iff.1 hi
 exact⟨b.pools.take i,b.pools.drop (i+1),by rw[List.getElem_cons_drop,List.take_append_drop],he⟩
def openE (b:Bok)(id:Int)(root:Pfx)(r:Rul):Int:=
 if idOKB id=false∨chk root.at_ root.len≠0 then 3 else
 if (poolOf b id).isSome=true∨(b.pools.any fun p=>(p.up==0)&&p.root.meets root)=true then 6 else
 if ruleOK r root.len=false then 1 else if b.pools.length=8 then 2 else 0
def openR (b:Bok)(id:Int)(root:Pfx)(r:Rul):Bok × Int:=
 if chkBk b≠0 then (Bok.zero,chkBk b)else if openE b id root r≠0 then (Bok.zero,openE b id root r)else (⟨b.tick,insB ⟨id,0,root,r,[]⟩ b.pools⟩,0)
theorem open1_p (p:Pol)(root:Pfx):PSpec Tryz.prog 118 [.agg (encPol p),.ept (encP root)] (.v (.bool ((p.up==0)&&p.root.meets root))):=by
 have hm:=meets_p p.root root
 refine pj Tryz.func118 Tryz.ntmps118 Tryz.results118 ?_
 exact wk0
theorem open_p (b:Bok)(id:Int)(root:Pfx)(r:Rul)(hz:∀p∈b.pools,p.leases.length≤3518437208882):PSpec Tryz.prog 54 [.agg (encB b),.v (.int .i64 id),.agg (encP root),.agg (encR r)] (.tup [.agg (encB (openR b id root r).1),.v (.int .i64 (openR b id root r).2)]):=by
 by_cases hc:chkBk b=0
 ·have hbk:=bookOK hc
  have hbg:=beginD_mB b hz hc
  have hid:=ids_p id
  have hck:=check_p root
  have hcn:=cntf_Pool encPol_len (fun p=>(p.up==0)&&p.root.meets root) b.pools 118 [.ept (encP root)] (by have:=hbk.n8;omega) (fun p _=>open1_p p root)
  have hru:=rule_p r root
  have hpt:=(put_m b.pools ⟨id,0,root,r,[]⟩ b.pools.length (.v (.int .i64 b.tick)) hbk.n8 hbk.rise rfl).lep (args':=[.ptr 0 0,.d (.agg [.v (.int .i64 id),.v (.int .i64 0),.v (.int .i64 root.at_),.v (.int .i64 root.len),.v (.int .i64 r.min),.v (.int .i64 r.max),.v (.int .i64 r.usual),.v (.int .i64 r.cool),.v (.slice none 0 0)])]) ⟨.inl rfl,.inr ⟨_,_,rfl,rfl,dg⟩,trivial⟩ rfl
  obtain⟨R,hR⟩:∃R,R=openR b id root r:=⟨_,rfl⟩
  rw[←hR]
  replace hR:=Lib.hid hR
  cases hq:poolOf b id with
  |none=>
   have hf:=find_p b id (by have:=hbk.n8;omega) hbk.rise
   unfold findR at hf
   rw[hq]at hf
   refine pj Tryz.func54 Tryz.ntmps54 Tryz.results54 ?_
   repeat' (first|(with_reducible refine And.intro ?_ ?_)|(with_reducible refine gK_i (fun _=>?_) (fun _=>?_))|(with_reducible refine condS_i (fun _=>?_) (fun _=>?_))|(with_reducible refine drw_i (by kernel_rfl))|simp -dsimp only[go_sem,seval, *,encB,encP,encR]|((with_reducible refine opK_c ?_);simp -dsimp only[go_sem,seval,encB,encP,encR];first|refine callK_r (by first|assumption|exact hf|exact hid|exact hck|exact hcn|exact hru) (by first|exact .inl rfl|exact .inr rfl) ?_|(refine callK_i (by assumption) ?_ ?_ ?_;(solve|(repeat(first|exact DLe.refl _|exact DLe.nil _|(refine DLe.tup ?_)|(refine DLe.agg ?_ rfl)|exact trivial|(refine And.intro ?_ ?_))));(solve|exact .inl rfl|exact .inr rfl)))|(refine opK_M [] (hbg) ?_ ?_ ?_ ?_ ?_ ?_;(solve|rfl|simp only[go_sem,seval,encB]);(solve|rfl);(solve|decide);(solve|simp);(solve|simp only[go_sem,seval,lentOK,encB]))|(refine opK_M [6,7] (hpt) ?_ ?_ ?_ ?_ ?_ ?_;(solve|rfl|simp only[go_sem,seval,encP]);(solve|rfl);(solve|decide);(solve|simp);(solve|simp only[go_sem,seval,lentOK,encP]))|omega|exact decide_eq_true (by omega)|exact DLe.refl _)
   all_goals clear hf hid hck hcn hru hbg hpt hz
   all_goals first
    |(rw[show R=(Bok.zero,3) from (by rw[hR.out];unfold openR openE;grind)];(try simp only[List.map_append,List.map_cons]);exact dg)
    |(rw[show R=(Bok.zero,6) from (by rw[hR.out];unfold openR openE;grind)];(try simp only[List.map_append,List.map_cons]);exact dg)
    |(rw[show R=(Bok.zero,1) from (by rw[hR.out];unfold openR openE;grind)];(try simp only[List.map_append,List.map_cons]);exact dg)
    |(rw[show R=(Bok.zero,2) from (by rw[hR.out];unfold openR openE;grind)];(try simp only[List.map_append,List.map_cons]);exact dg)
    |(rw[show R=(⟨b.tick,insB ⟨id,0,root,r,[]⟩ b.pools⟩,0) from (by rw[hR.out];unfold openR openE;grind)];(try simp only[List.map_append,List.map_cons]);exact dg)
  |some q=>
   obtain⟨i,hqi,rfl⟩:=poolOf_some hq
   have hf:=find_m b i q b.pools.length (dRows (b.pools.map encPol)) [] (.d (.v (.int .i64 b.tick))) hqi hbk.rise hbk.n8 (by simp[dRows_len]) (viewR_d _ _ _) (belowR_d _ _) rfl rfl
   replace hqi:=Lib.hid hqi
   refine pj Tryz.func54 Tryz.ntmps54 Tryz.results54 ?_
   have z1z:=Ln.mk (ls:=[]) (hbg)
   have z2z:=Ln.mk (ls:=[6,7]) (hf)
   refine wk3 ?_ ?_ ?_<;>intros
   all_goals clear hf hid hck hcn hru hbg hpt hz
   all_goals first
    |(rw[show R=(Bok.zero,3) from (by rw[hR.out];unfold openR openE;grind)];(try simp only[List.map_append,List.map_cons]);exact dg)
    |(rw[show R=(Bok.zero,6) from (by rw[hR.out];unfold openR openE;grind)];(try simp only[List.map_append,List.map_cons]);exact dg)
 ·have hbg:=beginE_p b hz hc
  have hr:openR b id root r=(Bok.zero,chkBk b):=by unfold openR;rw[if_pos hc]
  have h1:(chkBk b !=0)=true:=by simpa using hc
  rw[hr]
  replace hr:=Lib.hid hr
  refine pj Tryz.func54 Tryz.ntmps54 Tryz.results54 ?_
  refine wk1 ?_<;>intros
  exact dg
theorem viewR_appB (f:PV→Option D):∀(l m:List (List PV)),viewR f (l++m)=match viewR f l,viewR f m with|some a,some b=>some (a++b)|_,_=>none
 |[],m=>by simp only[List.nil_append,viewR];cases viewR f m<;>rfl
 |r::l,m=>by
  simp only[List.cons_append,viewR,viewR_appB f l m]
  cases viewL f r<;>cases viewR f l<;>cases viewR f m<;>rfl
@[go_sem] theorem viewR_zip (h:Nat→Chunk)(n:Nat)(pre:List Pol)(r:List PV)(post:List Pol):viewR (viewF h n) (zipR pre r post)=match viewL (viewF h n) r with|some d=>some (pre.map encPol++d::post.map encPol)|none=>none:=by
 simp only[zipR,viewR_appB,viewR,viewR_d]
 cases viewL (viewF h n) r<;>rfl
theorem lease_rise {p:Pol}(h:chkS p.root (usedP p)=0):p.leases.Pairwise fun a b=>a.at_.at_ < b.at_.at_:=by
 obtain⟨h1,h2,h3,h4⟩:=chkS_ok.1 h
 unfold usedP at h3 h4
 rw[List.pairwise_map]at h4
 refine h4.imp_of_mem fun {a b} ha hb hab=>?_
 have hr:=(insQ_hi.1 (h3 a.at_ (List.mem_map.2 ⟨a,ha,rfl⟩))).1
 have:=Pfx.hi_bd hr
 unfold Apart at hab
 omega
def updB (b:Bok)(id:Int)(f:Pol→Pol):Bok:=⟨b.tick,b.pools.map fun q=>if q.id==id then f q else q⟩
theorem updB_split {b:Bok}{pre post:List Pol}{p:Pol}(hr:Rise b.pools)(h:b.pools=pre++p::post)(f:Pol→Pol):updB b p.id f=⟨b.tick,pre++f p::post⟩:=by
 unfold updB
 rw[h]
 have hr':=hr
 rw[h]at hr'
 obtain⟨h1,h2,h3⟩:=List.pairwise_append.1 hr'
 rw[List.pairwise_cons]at h2
 have e1:pre.map (fun q=>if q.id==p.id then f q else q)=pre:=by
  conv=>rhs;rw[←List.map_id pre]
  refine List.map_congr_left fun q hq=>?_
  have:=h3 q hq p (by simp)
  rw[if_neg (by simp;omega)];rfl
 have e2:post.map (fun q=>if q.id==p.id then f q else q)=post:=by
  conv=>rhs;rw[←List.map_id post]
  refine List.map_congr_left fun q hq=>?_
  have:=h2.1 q hq
  rw[if_neg (by simp;omega)];rfl
 rw[List.map_append,List.map_cons,e1,e2]
 simp
def takeR (b:Bok)(id size owner:Int):Bok × Pfx × Int:=
 if chkBk b≠0 then (Bok.zero,Pfx.zero,chkBk b)else
 match poolOf b id with
 |none=>(Bok.zero,Pfx.zero,5)
 |some p=>
  if idOKB owner=false then (Bok.zero,Pfx.zero,3)else
  let f:=fitE p (if size=0 then p.rule.usual else size)
  if f.2≠0 then (Bok.zero,Pfx.zero,f.2)else (updB b id fun p=>{p with leases:=insL ⟨f.1,1,owner,0⟩ p.leases},f.1,0)
theorem take_p (b:Bok)(id size owner:Int)(hz:∀p∈b.pools,p.leases.length≤3518437208882):PSpec Tryz.prog 59 [.agg (encB b),.v (.int .i64 id),.v (.int .i64 size),.v (.int .i64 owner)] (.tup [.agg (encB (takeR b id size owner).1),.agg (encP (takeR b id size owner).2.1),.v (.int .i64 (takeR b id size owner).2.2)]):=by
 obtain⟨R,hR⟩:∃R,R=takeR b id size owner:=⟨_,rfl⟩
 rw[←hR]
 replace hR:=Lib.hid hR
 by_cases hc:chkBk b=0
 ·have hbk:=bookOK hc
  have hid:=ids_p owner
  cases hq:poolOf b id with
  |none=>
   have hbg:=beginD_mB b hz hc
   have hf:=find_p b id (by have:=hbk.n8;omega) hbk.rise
   unfold findR at hf
   rw[hq]at hf
   replace hc:=Lib.hid hc
   replace hq:=Lib.hid hq
   refine pj Tryz.func59 Tryz.ntmps59 Tryz.results59 ?_
   have z1z:=Ln.mk (ls:=[]) (hbg)
   refine wk1 ?_<;>intros
   rw[show R=(Bok.zero,Pfx.zero,5) from (by rw[hR.out];unfold takeR;rw[if_neg (by simpa using hc.out),hq.out])]
   exact dg
  |some p=>
   obtain⟨pre,post,hp,rfl⟩:=poolOf_split hq
   have hbg:=beginZ_m b pre post p hp hz hc
   have hpm:p∈b.pools:=by rw[hp];simp
   have hpi:b.pools[pre.length]? =some p:=by rw[hp,List.getElem?_append_right (Nat.le_refl _),Nat.sub_self];rfl
   have hl32:=hbk.l32 p hpm
   have hvw:viewR (viewF (hatL [.box 24 [.d (.v (.int .i64 b.tick)),.own 1 b.pools.length],.row 62 9 b.pools.length (zipR pre (polRow p (.own 2 1)) post),.row 68 5 1 (dRows (p.leases.map encL))]) 5) (zipR pre (polRow p (.own 2 1)) post)=some (b.pools.map encPol):=by
    rw[hp]
    simp only[viewR_zip,polRow,viewL,viewF,hatL,viewR_d,if_true,Option.map_some,List.map_append,List.map_cons];rfl
   have hf:=find_m b pre.length p b.pools.length (zipR pre (polRow p (.own 2 1)) post) [.row 68 5 1 (dRows (p.leases.map encL))] (.d (.v (.int .i64 b.tick))) hpi hbk.rise hbk.n8 (by rw[zipR_len,hp];simp;omega) hvw (by rw[belowR_zip];rfl) (by simp only[belowH,belowC,belowR_d,Bool.and_self]) rfl
   have hft:=fun s=>fit_p p s hl32
   have hlet:=fun l=>let_m pre post p l b.pools.length 1 hl32 (lease_rise (hbk.mem p hpm).2.1)
   have hup:=fun f=>updB_split hbk.rise hp f
   have hR2:R=if idOKB owner=false then (Bok.zero,Pfx.zero,3)else if (fitE p (if size=0 then p.rule.usual else size)).2≠0 then (Bok.zero,Pfx.zero,(fitE p (if size=0 then p.rule.usual else size)).2)else
    (⟨b.tick,pre++{p with leases:=insL ⟨(fitE p (if size=0 then p.rule.usual else size)).1,1,owner,0⟩ p.leases}::post⟩,(fitE p (if size=0 then p.rule.usual else size)).1,0):=by
    rw[hR.out]
    unfold takeR
    rw[if_neg (by simpa using hc),hq]
    simp only
    rw[hup]
   replace hR2:=Lib.hid hR2
   replace hc:=Lib.hid hc
   replace hq:=Lib.hid hq
   replace hp:=Lib.hid hp
   replace hpi:=Lib.hid hpi
   replace hup:=Lib.hid hup
   clear hvw hpm
   cases h0:size==0 with
   |true=>
    have e0:size=0:=by simpa using h0
    have hR2:=hR2.out
    rw[if_pos e0]at hR2
    replace hR2:=Lib.hid hR2
    replace e0:=Lib.hid e0
    have hlt1:=hlet ⟨(fitE p p.rule.usual).1,1,owner,0⟩
    have hft1:=hft p.rule.usual
    clear hlet hft
    refine pj Tryz.func59 Tryz.ntmps59 Tryz.results59 ?_
    repeat' (first|(with_reducible refine And.intro ?_ ?_)|(with_reducible refine gK_i (fun _=>?_) (fun _=>?_))|(with_reducible refine condS_i (fun _=>?_) (fun _=>?_))|(with_reducible refine drw_i (by kernel_rfl))|simp -dsimp only[go_sem,seval, *,encB,encP,encL,polRow,renR_zip,zipR_get,viewR_zip,h0]|((with_reducible refine opK_c ?_);simp -dsimp only[go_sem,seval,encB,encP,encL,polRow,renR_zip,zipR_get,viewR_zip,h0];first|refine callK_r (by first|assumption|exact hid|exact hft1) (by first|exact .inl rfl|exact .inr rfl) ?_|(refine callK_i (by assumption) ?_ ?_ ?_;(solve|(repeat(first|exact DLe.refl _|exact DLe.nil _|(refine DLe.tup ?_)|(refine DLe.agg ?_ rfl)|exact trivial|(refine And.intro ?_ ?_))));(solve|exact .inl rfl|exact .inr rfl)))|(refine opK_M [] (hbg) ?_ ?_ ?_ ?_ ?_ ?_;(solve|rfl|simp only[go_sem,seval,encB,polRow,renR_zip]);(solve|rfl);(solve|decide);(solve|simp);(solve|simp only[go_sem,seval,lentOK,encB,polRow,renR_zip]))|(refine opK_M [5,6,8] (hf) ?_ ?_ ?_ ?_ ?_ ?_;(solve|rfl|simp only[go_sem,seval,encP,polRow,renR_zip]);(solve|rfl);(solve|decide);(solve|simp);(solve|simp only[go_sem,seval,lentOK,encP,polRow,renR_zip]))|(refine opK_M [6,8] (hlt1) ?_ ?_ ?_ ?_ ?_ ?_;(solve|rfl|simp only[go_sem,seval,encP,encL,polRow,renR_zip]);(solve|rfl);(solve|decide);(solve|simp);(solve|simp only[go_sem,seval,lentOK,encP,encL,polRow,renR_zip]))|omega|exact decide_eq_true (by omega)|exact DLe.refl _)
    all_goals clear hf hid hft1 hlt1 hbg hz
    all_goals first
     |(rw[show R=(Bok.zero,Pfx.zero,3) from (by rw[hR2.out];grind)];(try simp only[List.map_append,List.map_cons]);exact dg)
     |(rw[show R=(Bok.zero,Pfx.zero,(fitE p p.rule.usual).2) from (by rw[hR2.out];grind)];(try simp only[List.map_append,List.map_cons]);exact dg)
     |(rw[show R=(⟨b.tick,pre++{p with leases:=insL ⟨(fitE p p.rule.usual).1,1,owner,0⟩ p.leases}::post⟩,(fitE p p.rule.usual).1,0) from (by rw[hR2.out];grind)];(try simp only[List.map_append,List.map_cons]);exact dg)
   |false=>
    have e0:¬size=0:=by simpa using h0
    have hR2:=hR2.out
    rw[if_neg e0]at hR2
    replace hR2:=Lib.hid hR2
    replace e0:=Lib.hid e0
    have hlt1:=hlet ⟨(fitE p size).1,1,owner,0⟩
    have hft1:=hft size
    clear hlet hft
    refine pj Tryz.func59 Tryz.ntmps59 Tryz.results59 ?_
    repeat' (first|(with_reducible refine And.intro ?_ ?_)|(with_reducible refine gK_i (fun _=>?_) (fun _=>?_))|(with_reducible refine condS_i (fun _=>?_) (fun _=>?_))|(with_reducible refine drw_i (by kernel_rfl))|simp -dsimp only[go_sem,seval, *,encB,encP,encL,polRow,renR_zip,zipR_get,viewR_zip,h0]|((with_reducible refine opK_c ?_);simp -dsimp only[go_sem,seval,encB,encP,encL,polRow,renR_zip,zipR_get,viewR_zip,h0];first|refine callK_r (by first|assumption|exact hid|exact hft1) (by first|exact .inl rfl|exact .inr rfl) ?_|(refine callK_i (by assumption) ?_ ?_ ?_;(solve|(repeat(first|exact DLe.refl _|exact DLe.nil _|(refine DLe.tup ?_)|(refine DLe.agg ?_ rfl)|exact trivial|(refine And.intro ?_ ?_))));(solve|exact .inl rfl|exact .inr rfl)))|(refine opK_M [] (hbg) ?_ ?_ ?_ ?_ ?_ ?_;(solve|rfl|simp only[go_sem,seval,encB,polRow,renR_zip]);(solve|rfl);(solve|decide);(solve|simp);(solve|simp only[go_sem,seval,lentOK,encB,polRow,renR_zip]))|(refine opK_M [5,6,8] (hf) ?_ ?_ ?_ ?_ ?_ ?_;(solve|rfl|simp only[go_sem,seval,encP,polRow,renR_zip]);(solve|rfl);(solve|decide);(solve|simp);(solve|simp only[go_sem,seval,lentOK,encP,polRow,renR_zip]))|(refine opK_M [6,8] (hlt1) ?_ ?_ ?_ ?_ ?_ ?_;(solve|rfl|simp only[go_sem,seval,encP,encL,polRow,renR_zip]);(solve|rfl);(solve|decide);(solve|simp);(solve|simp only[go_sem,seval,lentOK,encP,encL,polRow,renR_zip]))|omega|exact decide_eq_true (by omega)|exact DLe.refl _)
    all_goals clear hf hid hft1 hlt1 hbg hz
    all_goals first
     |(rw[show R=(Bok.zero,Pfx.zero,3) from (by rw[hR2.out];grind)];(try simp only[List.map_append,List.map_cons]);exact dg)
     |(rw[show R=(Bok.zero,Pfx.zero,(fitE p size).2) from (by rw[hR2.out];grind)];(try simp only[List.map_append,List.map_cons]);exact dg)
     |(rw[show R=(⟨b.tick,pre++{p with leases:=insL ⟨(fitE p size).1,1,owner,0⟩ p.leases}::post⟩,(fitE p size).1,0) from (by rw[hR2.out];grind)];(try simp only[List.map_append,List.map_cons]);exact dg)
 ·have hbg:=beginE_p b hz hc
  have h1:(chkBk b !=0)=true:=by simpa using hc
  have hr:R=(Bok.zero,Pfx.zero,chkBk b):=by rw[hR.out];unfold takeR;rw[if_pos hc]
  rw[hr]
  replace hr:=Lib.hid hr
  refine pj Tryz.func59 Tryz.ntmps59 Tryz.results59 ?_
  refine wk1 ?_<;>intros
  exact dg
def giveB (at_:Pfx)(l:Lse):Bool:=(l.kind==1)&&decide (l.at_=at_)
theorem give1_p (l:Lse)(at_:Pfx):PSpec Tryz.prog 131 [.agg (encL l),.ept (encP at_)] (.v (.bool (giveB at_ l))):=by
 have he:=eqP_listB l.at_ at_
 unfold giveB
 rw[←he]
 replace he:=Lib.hid he
 refine pj Tryz.func131 Tryz.ntmps131 Tryz.results131 ?_
 exact wk0
def giveR (b:Bok)(id:Int)(at_:Pfx):Bok × Int:=
 if chkBk b≠0 then (Bok.zero,chkBk b)else
 match poolOf b id with
 |none=>(Bok.zero,5)
 |some p=>match p.leases.findIdx? (giveB at_)with
  |none=>(Bok.zero,5)
  |some i=>(updB b id fun p=>{p with leases:=coolL p i b.tick},0)
theorem rule_cool {r:Rul}{len:Int}(h:ruleOK r len=true):0≤r.cool∧r.cool≤1024:=by
 simp only[ruleOK,Bool.and_eq_true,decide_eq_true_eq]at h
 exact h.2
structure ZipB (b:Bok)(pre post:List Pol)(p:Pol):Prop where
 eq:b.pools=pre++p::post
 at_:b.pools[pre.length]? =some p
 mem:p∈b.pools
 view:viewR (viewF (hatL [.box 24 [.d (.v (.int .i64 b.tick)),.own 1 b.pools.length],.row 62 9 b.pools.length (zipR pre (polRow p (.own 2 1)) post),.row 68 5 1 (dRows (p.leases.map encL))]) 5) (zipR pre (polRow p (.own 2 1)) post)=some (b.pools.map encPol)
 len:(zipR pre (polRow p (.own 2 1)) post).length=b.pools.length
theorem zipB {b:Bok}{pre post:List Pol}{p:Pol}(hp:b.pools=pre++p::post):ZipB b pre post p:=by
 refine⟨hp,?_,?_,?_,?_⟩
 ·rw[hp,List.getElem?_append_right (Nat.le_refl _),Nat.sub_self];rfl
 ·rw[hp];simp
 ·rw[hp]
  simp only[viewR_zip,polRow,viewL,viewF,hatL,viewR_d,if_true,Option.map_some,List.map_append,List.map_cons];rfl
 ·rw[zipR_len,hp];simp;omega
theorem findZ_m {b:Bok}(hb:BookOK b){pre post:List Pol}{p:Pol}(hz:ZipB b pre post p){i:Nat}{q:Pol}(hq:b.pools[i]? =some q):
 MSpec Tryz.prog 116 [.ptr 0 0,.d (.v (.int .i64 q.id))] [.box 24 [.d (.v (.int .i64 b.tick)),.own 1 b.pools.length],.row 62 9 b.pools.length (zipR pre (polRow p (.own 2 1)) post),.row 68 5 1 (dRows (p.leases.map encL))]
  (.tup [.rp 1 b.pools.length 9 i 0,.d (.v (.bool true))]) [.box 24 [.d (.v (.int .i64 b.tick)),.own 1 b.pools.length],.row 62 9 b.pools.length (zipR pre (polRow p (.own 2 1)) post),.row 68 5 1 (dRows (p.leases.map encL))]:=
 find_m b i q b.pools.length _ [.row 68 5 1 (dRows (p.leases.map encL))] (.d (.v (.int .i64 b.tick))) hq hb.rise hb.n8 hz.len hz.view (by rw[belowR_zip];rfl) (by simp only[belowH,belowC,belowR_d,Bool.and_self]) rfl
theorem give_p (b:Bok)(id:Int)(at_:Pfx)(hz:∀p∈b.pools,p.leases.length≤3518437208882):PSpec Tryz.prog 62 [.agg (encB b),.v (.int .i64 id),.agg (encP at_)] (.tup [.agg (encB (giveR b id at_).1),.v (.int .i64 (giveR b id at_).2)]):=by
 obtain⟨R,hR⟩:∃R,R=giveR b id at_:=⟨_,rfl⟩
 rw[←hR]
 replace hR:=Lib.hid hR
 by_cases hc:chkBk b=0
 ·have hbk:=bookOK hc
  cases hq:poolOf b id with
  |none=>
   have hbg:=beginD_mB b hz hc
   have hf:=find_p b id (by have:=hbk.n8;omega) hbk.rise
   unfold findR at hf
   rw[hq]at hf
   replace hc:=Lib.hid hc
   replace hq:=Lib.hid hq
   refine pj Tryz.func62 Tryz.ntmps62 Tryz.results62 ?_
   have z1z:=Ln.mk (ls:=[]) (hbg)
   refine wk1 ?_<;>intros
   rw[show R=(Bok.zero,5) from (by rw[hR.out];unfold giveR;rw[if_neg (by simpa using hc.out),hq.out])]
   exact dg
  |some p=>
   obtain⟨pre,post,hp,rfl⟩:=poolOf_split hq
   have hbg:=beginZ_m b pre post p hp hz hc
   have hzb:=zipB hp
   have hf:=findZ_m hbk hzb hzb.at_
   have hl32:=hbk.l32 p hzb.mem
   have hix:=idxf_Lease encL_len (giveB at_) p.leases 131 [.ept (encP at_)] (by omega) (fun l _=>give1_p l at_)
   have hup:=fun f=>updB_split hbk.rise hp f
   unfold idxI at hix
   cases hfi:p.leases.findIdx? (giveB at_)with
   |none=>
    rw[hfi]at hix
    have hr:R=(Bok.zero,5):=by rw[hR.out];unfold giveR;rw[if_neg (by simpa using hc),hq];simp only;rw[hfi]
    rw[hr]
    clear hr hup hq hp hc hfi hR hzb
    refine pj Tryz.func62 Tryz.ntmps62 Tryz.results62 ?_
    repeat' (first|(with_reducible refine And.intro ?_ ?_)|(with_reducible refine gK_i (fun _=>?_) (fun _=>?_))|(with_reducible refine condS_i (fun _=>?_) (fun _=>?_))|(with_reducible refine drw_i (by kernel_rfl))|simp -dsimp only[go_sem,seval, *,encB,encP,polRow,renR_zip,zipR_get]|((with_reducible refine opK_c ?_);simp -dsimp only[go_sem,seval,encB,encP,polRow,renR_zip,zipR_get];first|refine callK_r (by first|assumption|exact hix) (by first|exact .inl rfl|exact .inr rfl) ?_|(refine callK_i (by assumption) ?_ ?_ ?_;(solve|(repeat(first|exact DLe.refl _|exact DLe.nil _|(refine DLe.tup ?_)|(refine DLe.agg ?_ rfl)|exact trivial|(refine And.intro ?_ ?_))));(solve|exact .inl rfl|exact .inr rfl)))|(refine opK_M [] (hbg) ?_ ?_ ?_ ?_ ?_ ?_;(solve|rfl|simp only[go_sem,seval,encB,polRow,renR_zip]);(solve|rfl);(solve|decide);(solve|simp);(solve|simp only[go_sem,seval,lentOK,encB,polRow,renR_zip]))|(refine opK_M [5,6,8] (hf) ?_ ?_ ?_ ?_ ?_ ?_;(solve|rfl|simp only[go_sem,seval,encP,polRow,renR_zip]);(solve|rfl);(solve|decide);(solve|simp);(solve|simp only[go_sem,seval,lentOK,encP,polRow,renR_zip]))|omega|exact decide_eq_true (by omega)|exact DLe.refl _)
    exact dg
   |some i=>
    rw[hfi]at hix
    have hi:i < p.leases.length:=(List.findIdx?_eq_some_iff_getElem.1 hfi).1
    have hcl:=cool_m pre post p i b.pools.length 1 b.tick hi hl32 (rule_cool (hbk.mem p hzb.mem).2.2) hbk.tick
    have hr:R=(⟨b.tick,pre++{p with leases:=coolL p i b.tick}::post⟩,0):=by rw[hR.out];unfold giveR;rw[if_neg (by simpa using hc),hq];simp only;rw[hfi];simp only;rw[hup]
    have hi0:decide ((i:Int) < 0)=false:=by simp
    rw[hr]
    clear hr hup hq hp hc hfi hR hzb
    refine pj Tryz.func62 Tryz.ntmps62 Tryz.results62 ?_
    repeat' (first|(with_reducible refine And.intro ?_ ?_)|(with_reducible refine gK_i (fun _=>?_) (fun _=>?_))|(with_reducible refine condS_i (fun _=>?_) (fun _=>?_))|(with_reducible refine drw_i (by kernel_rfl))|simp -dsimp only[go_sem,seval, *,encB,encP,polRow,renR_zip,zipR_get,hi0]|((with_reducible refine opK_c ?_);simp -dsimp only[go_sem,seval,encB,encP,polRow,renR_zip,zipR_get,hi0];first|refine callK_r (by first|assumption|exact hix) (by first|exact .inl rfl|exact .inr rfl) ?_|(refine callK_i (by assumption) ?_ ?_ ?_;(solve|(repeat(first|exact DLe.refl _|exact DLe.nil _|(refine DLe.tup ?_)|(refine DLe.agg ?_ rfl)|exact trivial|(refine And.intro ?_ ?_))));(solve|exact .inl rfl|exact .inr rfl)))|(refine opK_M [] (hbg) ?_ ?_ ?_ ?_ ?_ ?_;(solve|rfl|simp only[go_sem,seval,encB,polRow,renR_zip]);(solve|rfl);(solve|decide);(solve|simp);(solve|simp only[go_sem,seval,lentOK,encB,polRow,renR_zip]))|(refine opK_M [5,6,8] (hf) ?_ ?_ ?_ ?_ ?_ ?_;(solve|rfl|simp only[go_sem,seval,encP,polRow,renR_zip]);(solve|rfl);(solve|decide);(solve|simp);(solve|simp only[go_sem,seval,lentOK,encP,polRow,renR_zip]))|(refine opK_M [6,8] (hcl) ?_ ?_ ?_ ?_ ?_ ?_;(solve|rfl|simp only[go_sem,seval,encP,encL,polRow,renR_zip]);(solve|rfl);(solve|decide);(solve|simp);(solve|simp only[go_sem,seval,lentOK,encP,encL,polRow,renR_zip]))|omega|exact decide_eq_true (by omega)|exact DLe.refl _)
    all_goals exact dg
 ·have hbg:=beginE_p b hz hc
  have h1:(chkBk b !=0)=true:=by simpa using hc
  have hr:R=(Bok.zero,chkBk b):=by rw[hR.out];unfold giveR;rw[if_pos hc]
  rw[hr]
  replace hr:=Lib.hid hr
  refine pj Tryz.func62 Tryz.ntmps62 Tryz.results62 ?_
  refine wk1 ?_<;>intros
  exact dg
def nestR (b:Bok)(id up size:Int)(r:Rul):Bok × Pfx × Int:=
 if chkBk b≠0 then (Bok.zero,Pfx.zero,chkBk b)else
 if idOKB id=false then (Bok.zero,Pfx.zero,3)else
 match poolOf b up with
 |none=>(Bok.zero,Pfx.zero,5)
 |some p=>
  if (poolOf b id).isSome=true then (Bok.zero,Pfx.zero,6)else
  if (fitE p size).2≠0 then (Bok.zero,Pfx.zero,(fitE p size).2)else
  if ruleOK r (fitE p size).1.len=false then (Bok.zero,Pfx.zero,1)else
  if b.pools.length=8 then (Bok.zero,Pfx.zero,2)else
  (⟨b.tick,insB ⟨id,up,(fitE p size).1,r,[]⟩ (updB b up fun p=>{p with leases:=insL ⟨(fitE p size).1,2,id,0⟩ p.leases}).pools⟩,(fitE p size).1,0)
theorem rise_upd {pre post:List Pol}{p q:Pol}(h:Rise (pre++p::post))(hq:q.id=p.id):Rise (pre++q::post):=by
 unfold Rise at h ⊢
 rw[List.pairwise_append,List.pairwise_cons]at h ⊢
 obtain⟨h1,⟨h2,h3⟩,h4⟩:=h
 refine⟨h1,⟨fun a ha=>by rw[hq];exact h2 a ha,h3⟩,fun a ha c hc=>?_⟩
 rcases List.mem_cons.1 hc with rfl|hc
 ·rw[hq];exact h4 a ha p (by simp)
 ·exact h4 a ha c (by simp[hc])
theorem nest_p (b:Bok)(id up size:Int)(r:Rul)(hz:∀p∈b.pools,p.leases.length≤3518437208882):PSpec Tryz.prog 55 [.agg (encB b),.v (.int .i64 id),.v (.int .i64 up),.v (.int .i64 size),.agg (encR r)] (.tup [.agg (encB (nestR b id up size r).1),.agg (encP (nestR b id up size r).2.1),.v (.int .i64 (nestR b id up size r).2.2)]):=by
 obtain⟨R,hR⟩:∃R,R=nestR b id up size r:=⟨_,rfl⟩
 rw[←hR]
 replace hR:=Lib.hid hR
 by_cases hc:chkBk b=0
 ·have hbk:=bookOK hc
  have hid:=ids_p id
  cases hio:idOKB id with
  |false=>
   rw[hio]at hid
   have hbg:=beginD_mB b hz hc
   have hr:R=(Bok.zero,Pfx.zero,3):=by rw[hR.out];unfold nestR;rw[if_neg (by simpa using hc),if_pos hio]
   rw[hr]
   clear hr hR hc hio
   refine pj Tryz.func55 Tryz.ntmps55 Tryz.results55 ?_
   have z1z:=Ln.mk (ls:=[]) (hbg)
   refine wk1 ?_<;>intros
   exact dg
  |true=>
   rw[hio]at hid
   cases hq:poolOf b up with
   |none=>
    have hbg:=beginD_mB b hz hc
    have hf:=find_p b up (by have:=hbk.n8;omega) hbk.rise
    unfold findR at hf
    rw[hq]at hf
    have hr:R=(Bok.zero,Pfx.zero,5):=by rw[hR.out];unfold nestR;rw[if_neg (by simpa using hc),if_neg (by simp[hio]),hq]
    rw[hr]
    clear hr hR hc hio hq
    refine pj Tryz.func55 Tryz.ntmps55 Tryz.results55 ?_
    have z1z:=Ln.mk (ls:=[]) (hbg)
    refine wk1 ?_<;>intros
    exact dg
   |some p=>
    obtain⟨pre,post,hp,rfl⟩:=poolOf_split hq
    have hbg:=beginZ_m b pre post p hp hz hc
    have hzb:=zipB hp
    have hf:=findZ_m hbk hzb hzb.at_
    have hl32:=hbk.l32 p hzb.mem
    have hup:=fun f=>updB_split hbk.rise hp f
    have hR2:R=if (poolOf b id).isSome=true then (Bok.zero,Pfx.zero,6)else if (fitE p size).2≠0 then (Bok.zero,Pfx.zero,(fitE p size).2)else if ruleOK r (fitE p size).1.len=false then (Bok.zero,Pfx.zero,1)else
     if b.pools.length=8 then (Bok.zero,Pfx.zero,2)else (⟨b.tick,insB ⟨id,p.id,(fitE p size).1,r,[]⟩ (pre++{p with leases:=insL ⟨(fitE p size).1,2,id,0⟩ p.leases}::post)⟩,(fitE p size).1,0):=by
     rw[hR.out]
     unfold nestR
     rw[if_neg (by simpa using hc),if_neg (by simp[hio]),hq]
     simp only
     rw[hup]
    cases hq2:poolOf b id with
    |some q=>
     obtain⟨i,hqi,he⟩:=poolOf_some hq2
     have hf2:=findZ_m hbk hzb hqi
     rw[he]at hf2
     have hr:R=(Bok.zero,Pfx.zero,6):=by rw[hR2,hq2];rfl
     rw[hr]
     clear hr hR hR2 hc hio hq hq2 hp hup hzb hqi he
     refine pj Tryz.func55 Tryz.ntmps55 Tryz.results55 ?_
     repeat' (first|(with_reducible refine And.intro ?_ ?_)|(with_reducible refine gK_i (fun _=>?_) (fun _=>?_))|(with_reducible refine condS_i (fun _=>?_) (fun _=>?_))|(with_reducible refine drw_i (by kernel_rfl))|simp -dsimp only[go_sem,seval, *,encB,encP,encR,polRow,renR_zip,zipR_get]|((with_reducible refine opK_c ?_);simp -dsimp only[go_sem,seval,encB,encP,encR,polRow,renR_zip,zipR_get];first|refine callK_r (by first|assumption|exact hid) (by first|exact .inl rfl|exact .inr rfl) ?_|(refine callK_i (by assumption) ?_ ?_ ?_;(solve|(repeat(first|exact DLe.refl _|exact DLe.nil _|(refine DLe.tup ?_)|(refine DLe.agg ?_ rfl)|exact trivial|(refine And.intro ?_ ?_))));(solve|exact .inl rfl|exact .inr rfl)))|(refine opK_M [] (hbg) ?_ ?_ ?_ ?_ ?_ ?_;(solve|rfl|simp only[go_sem,seval,encB,polRow,renR_zip]);(solve|rfl);(solve|decide);(solve|simp);(solve|simp only[go_sem,seval,lentOK,encB,polRow,renR_zip]))|(refine opK_M [6,7,9] (hf) ?_ ?_ ?_ ?_ ?_ ?_;(solve|rfl|simp only[go_sem,seval,encP,polRow,renR_zip]);(solve|rfl);(solve|decide);(solve|simp);(solve|simp only[go_sem,seval,lentOK,encP,polRow,renR_zip]))|(refine opK_M [6,7,9] (hf2) ?_ ?_ ?_ ?_ ?_ ?_;(solve|rfl|simp only[go_sem,seval,encP,polRow,renR_zip]);(solve|rfl);(solve|decide);(solve|simp);(solve|simp only[go_sem,seval,lentOK,encP,polRow,renR_zip]))|omega|exact decide_eq_true (by omega)|exact DLe.refl _)
     all_goals exact dg
    |none=>
     have hf2:=find_p b id (by have:=hbk.n8;omega) hbk.rise
     unfold findR at hf2
     rw[hq2]at hf2
     have hft:=fit_p p size hl32
     have hru:=rule_p r (fitE p size).1
     have hlt:=let_m pre post p ⟨(fitE p size).1,2,id,0⟩ b.pools.length 1 hl32 (lease_rise (hbk.mem p hzb.mem).2.1)
     have hb8:(pre++{p with leases:=insL ⟨(fitE p size).1,2,id,0⟩ p.leases}::post).length≤8:=by
      have:=hbk.n8
      rw[hp]at this
      simpa using this
     have hlen:(pre++{p with leases:=insL ⟨(fitE p size).1,2,id,0⟩ p.leases}::post).length=b.pools.length:=by rw[hp];simp
     have hrs:Rise (pre++{p with leases:=insL ⟨(fitE p size).1,2,id,0⟩ p.leases}::post):=by
      have:=hbk.rise
      rw[hp]at this
      exact rise_upd this rfl
     have hpt:=(put_m _ ⟨id,p.id,(fitE p size).1,r,[]⟩ b.pools.length (.v (.int .i64 b.tick)) hb8 hrs rfl).lep (args':=[.ptr 0 0,.d (.agg [.v (.int .i64 id),.v (.int .i64 p.id),.v (.int .i64 (fitE p size).1.at_),.v (.int .i64 (fitE p size).1.len),.v (.int .i64 r.min),.v (.int .i64 r.max),.v (.int .i64 r.usual),.v (.int .i64 r.cool),.v (.slice none 0 0)])]) ⟨.inl rfl,.inr ⟨_,_,rfl,rfl,dg⟩,trivial⟩ rfl
     have hR3:Hid (R=if (fitE p size).2≠0 then (Bok.zero,Pfx.zero,(fitE p size).2)else if ruleOK r (fitE p size).1.len=false then (Bok.zero,Pfx.zero,1)else
      if b.pools.length=8 then (Bok.zero,Pfx.zero,2)else (⟨b.tick,insB ⟨id,p.id,(fitE p size).1,r,[]⟩ (pre++{p with leases:=insL ⟨(fitE p size).1,2,id,0⟩ p.leases}::post)⟩,(fitE p size).1,0)):=by
      show R=_
      rw[hR2,hq2];rfl
     have hvq:viewR (viewF (hatL [.gone]) 0) []=some []:=rfl
     clear hR hR2 hc hio hq hq2 hup hb8 hrs hvq hlen
     have hR2:=hR3
     clear hR3
     have hpeq:=Lib.hid hp
     have hvw:=hzb.view
     simp only[viewR_zip,polRow,viewL,viewF,hatL,viewR_d,if_true,Option.map_some]at hvw
     clear hzb
     have he:encB b=[.v (.int .i64 b.tick),.sl 9 (List.map encPol pre++encPol p::List.map encPol post)]:=by unfold encB;rw[hp,List.map_append,List.map_cons]
     rw[he]at hf2
     have hzl:∀r,(zipR pre r post).length=b.pools.length:=fun r=>by rw[zipR_len,hp];simp;omega
     clear hp hvw he
     refine pj Tryz.func55 Tryz.ntmps55 Tryz.results55 ?_
     repeat' (first|(with_reducible refine And.intro ?_ ?_)|(with_reducible refine gK_i (fun _=>?_) (fun _=>?_))|(with_reducible refine condS_i (fun _=>?_) (fun _=>?_))|(with_reducible refine drw_i (by kernel_rfl))|simp -dsimp only[go_sem,seval, *,encB,encP,encR,encL,polRow,renR_zip,zipR_get,viewR_zip,hzl]|((with_reducible refine opK_c ?_);simp -dsimp only[go_sem,seval,encB,encP,encR,encL,polRow,renR_zip,zipR_get,viewR_zip,hzl];first|refine callK_r (by first|assumption|exact hid|exact hf2|exact hft|exact hru) (by first|exact .inl rfl|exact .inr rfl) ?_|(refine callK_i (by assumption) ?_ ?_ ?_;(solve|(repeat(first|exact DLe.refl _|exact DLe.nil _|(refine DLe.tup ?_)|(refine DLe.agg ?_ rfl)|exact trivial|(refine And.intro ?_ ?_))));(solve|exact .inl rfl|exact .inr rfl)))|(refine opK_M [] (hbg) ?_ ?_ ?_ ?_ ?_ ?_;(solve|rfl|simp only[go_sem,seval,encB,polRow,renR_zip]);(solve|rfl);(solve|decide);(solve|simp);(solve|simp only[go_sem,seval,lentOK,encB,polRow,renR_zip]))|(refine opK_M [6,7,9] (hf) ?_ ?_ ?_ ?_ ?_ ?_;(solve|rfl|simp only[go_sem,seval,encP,polRow,renR_zip]);(solve|rfl);(solve|decide);(solve|simp);(solve|simp only[go_sem,seval,lentOK,encP,polRow,renR_zip]))|(refine opK_M [7,9] (hlt) ?_ ?_ ?_ ?_ ?_ ?_;(solve|rfl|simp only[go_sem,seval,encP,encL,polRow,renR_zip]);(solve|rfl);(solve|decide);(solve|simp);(solve|simp only[go_sem,seval,lentOK,encP,encL,polRow,renR_zip]))|(refine opK_M [6,7] (hpt) ?_ ?_ ?_ ?_ ?_ ?_;(solve|rfl|simp only[go_sem,seval,encP]);(solve|rfl);(solve|decide);(solve|simp);(solve|simp only[go_sem,seval,lentOK,encP]))|omega|exact decide_eq_true (by omega)|exact DLe.refl _)
     all_goals clear hf hf2 hid hft hru hlt hpt hbg hz
     all_goals first
      |(rw[show R=(Bok.zero,Pfx.zero,(fitE p size).2) from (by rw[hR2.out];grind)];(try simp only[List.map_append,List.map_cons]);exact dg)
      |(rw[show R=(Bok.zero,Pfx.zero,1) from (by rw[hR2.out];grind)];(try simp only[List.map_append,List.map_cons]);exact dg)
      |(rw[show R=(Bok.zero,Pfx.zero,2) from (by rw[hR2.out];grind)];(try simp only[List.map_append,List.map_cons]);exact dg)
      |(rw[show R=(⟨b.tick,insB ⟨id,p.id,(fitE p size).1,r,[]⟩ (pre++{p with leases:=insL ⟨(fitE p size).1,2,id,0⟩ p.leases}::post)⟩,(fitE p size).1,0) from (by rw[hR2.out];grind)];(try simp only[List.map_append,List.map_cons]);exact dg)
 ·have hbg:=beginE_p b hz hc
  have h1:(chkBk b !=0)=true:=by simpa using hc
  have hr:R=(Bok.zero,Pfx.zero,chkBk b):=by rw[hR.out];unfold nestR;rw[if_pos hc]
  rw[hr]
  replace hr:=Lib.hid hr
  refine pj Tryz.func55 Tryz.ntmps55 Tryz.results55 ?_
  refine wk1 ?_<;>intros
  exact dg
theorem close1_p (l:Lse):PSpec Tryz.prog 122 [.agg (encL l)] (.v (.bool (l.kind !=3))):=by
 refine pj Tryz.func122 Tryz.ntmps122 Tryz.results122 ?_
 exact wk0
theorem close2_p (l:Lse)(id:Int):PSpec Tryz.prog 125 [.agg (encL l),.ept [.v (.int .i64 id)]] (.v (.bool (forB id l))):=by
 unfold forB
 refine pj Tryz.func125 Tryz.ntmps125 Tryz.results125 ?_
 exact wk0
theorem close3_p (p:Pol)(id:Int):PSpec Tryz.prog 127 [.agg (encPol p),.ept [.v (.int .i64 id)]] (.v (.bool (p.id==id))):=by
 refine pj Tryz.func127 Tryz.ntmps127 Tryz.results127 ?_
 exact wk0
def closeL (b:Bok)(p:Pol):List Pol:=match poolOf b p.up with
 |none=>b.pools
 |some u=>match u.leases.findIdx? (forB p.id)with
  |some i=>(updB b u.id fun u=>{u with leases:=coolL u i b.tick}).pools
  |none=>b.pools
def closeR (b:Bok)(id:Int):Bok × Int:=
 if chkBk b≠0 then (Bok.zero,chkBk b)else
 match poolOf b id with
 |none=>(Bok.zero,5)
 |some p=>if (p.leases.any fun l=>l.kind !=3)=true then (Bok.zero,9)else (⟨b.tick,(closeL b p).filter fun q=>!(q.id==id)⟩,0)
theorem second_mem {b:Bok}:∀(l:List Pol) (roots:List Pfx),secondOK b l roots=true→∀p∈l,upOK b b.pools.length p=true∧∀l∈p.leases,leaseOK b p l=true
 |[],_,_,p,hp=>by simp at hp
 |q::l,roots,h,p,hp=>by
  simp only[secondOK,Bool.and_eq_true]at h
  rcases List.mem_cons.1 hp with rfl|hp
  ·exact⟨h.1.1,fun l hl=>List.all_eq_true.1 h.1.2 l hl⟩
  ·have h2:=h.2
   split at h2
   ·simp only[Bool.and_eq_true]at h2
    exact second_mem l _ h2.2 p hp
   ·exact second_mem l _ h2 p hp
theorem up_self {b:Bok}{p:Pol}(hp:poolOf b p.id=some p)(h1:p.id≠0)(he:p.up=p.id):∀n,upOK b n p=false
 |0=>by simp[upOK,he,h1]
 |n+1=>by simp[upOK,he,h1,hp,up_self hp h1 he n]
theorem upOK_up {b:Bok}{n:Nat}{p u:Pol}(h:upOK b n p=true)(h0:p.up≠0)(hu:poolOf b p.up=some u):u.leases.any (forB p.id)=true:=by
 cases n with
 |zero=>simp[upOK,h0]at h
 |succ n=>
  simp only[upOK,hu,Bool.or_eq_true,Bool.and_eq_true,beq_iff_eq]at h
  rcases h with h|h
  ·exact absurd h h0
  ·exact h.1
theorem zipR_other {pre post:List Pol}{p q:Pol}{r:List PV}{i:Nat}(h:(pre++p::post)[i]? =some q)(hne:i≠pre.length):(zipR pre r post)[i]? =some ((encPol q).map .d):=by
 unfold zipR
 rcases Nat.lt_trichotomy i pre.length with hlt|he|hgt
 ·rw[List.getElem?_append_left hlt]at h
  rw[List.getElem?_append_left (by rw[dRows_len,List.length_map];exact hlt),dRows_get,List.getElem?_map,h];rfl
 ·exact absurd he hne
 ·rw[List.getElem?_append_right (by omega)]at h
  rw[List.getElem?_append_right (by rw[dRows_len,List.length_map];omega),dRows_len,List.length_map]
  obtain⟨j,hj⟩:∃j,i - pre.length=j+1:=⟨i - pre.length - 1,by omega⟩
  rw[hj,List.getElem?_cons_succ]at h ⊢
  rw[dRows_get,List.getElem?_map,h];rfl
theorem close_p (b:Bok)(id:Int)(hz:∀p∈b.pools,p.leases.length≤3518437208882):PSpec Tryz.prog 56 [.agg (encB b),.v (.int .i64 id)] (.tup [.agg (encB (closeR b id).1),.v (.int .i64 (closeR b id).2)]):=by
 obtain⟨R,hR⟩:∃R,R=closeR b id:=⟨_,rfl⟩
 rw[←hR]
 replace hR:=Lib.hid hR
 by_cases hc:chkBk b=0
 ·have hbk:=bookOK hc
  cases hq:poolOf b id with
  |none=>
   have hbg:=beginD_mB b hz hc
   have hf:=find_p b id (by have:=hbk.n8;omega) hbk.rise
   unfold findR at hf
   rw[hq]at hf
   have hr:R=(Bok.zero,5):=by rw[hR.out];unfold closeR;rw[if_neg (by simpa using hc),hq]
   rw[hr]
   clear hr hR hc hq
   refine pj Tryz.func56 Tryz.ntmps56 Tryz.results56 ?_
   have z1z:=Ln.mk (ls:=[]) (hbg)
   refine wk1 ?_<;>intros
   exact dg
  |some p=>
   obtain⟨i,hpi,rfl⟩:=poolOf_some hq
   have hpm:p∈b.pools:=List.mem_of_getElem? hpi
   have hl32:=hbk.l32 p hpm
   have hcn:=cntf_Lease encL_len (fun l=>l.kind !=3) p.leases 122 [] (by omega) (fun l _=>close1_p l)
   have hR2:R=if (p.leases.any fun l=>l.kind !=3)=true then (Bok.zero,9)else (⟨b.tick,(closeL b p).filter fun q=>!(q.id==p.id)⟩,0):=by
    rw[hR.out];unfold closeR;rw[if_neg (by simpa using hc),hq]
   replace hR2:=Lib.hid hR2
   cases hu:poolOf b p.up with
   |none=>
    have hbg:=beginD_mB b hz hc
    have hf:=find_m b i p b.pools.length (dRows (b.pools.map encPol)) [] (.d (.v (.int .i64 b.tick))) hpi hbk.rise hbk.n8 (by simp[dRows_len]) (viewR_d _ _ _) (belowR_d _ _) rfl rfl
    have hf2:=find_p b p.up (by have:=hbk.n8;omega) hbk.rise
    unfold findR at hf2
    rw[hu]at hf2
    have hcl:closeL b p=b.pools:=by unfold closeL;rw[hu]
    have hR2:=hR2.out
    rw[hcl]at hR2
    have h8:=hbk.n8
    replace hR2:=Lib.hid hR2
    clear hq hu hcl hR hc
    refine pj Tryz.func56 Tryz.ntmps56 Tryz.results56 ?_
    repeat' (first|(with_reducible refine And.intro ?_ ?_)|(with_reducible refine gK_i (fun _=>?_) (fun _=>?_))|(with_reducible refine condS_i (fun _=>?_) (fun _=>?_))|(with_reducible refine drw_i (by kernel_rfl))|simp -dsimp only[go_sem,seval, *,encB,encP,encPol,hpi]|((with_reducible refine opK_c ?_);simp -dsimp only[go_sem,seval,encB,encP,encPol,hpi];first|refine callK_r (by first|assumption|exact hcn|exact hf2) (by first|exact .inl rfl|exact .inr rfl) ?_|(refine callK_i (by assumption) ?_ ?_ ?_;(solve|(repeat(first|exact DLe.refl _|exact DLe.nil _|(refine DLe.tup ?_)|(refine DLe.agg ?_ rfl)|exact trivial|(refine And.intro ?_ ?_))));(solve|exact .inl rfl|exact .inr rfl)))|(refine opK_M [] (hbg) ?_ ?_ ?_ ?_ ?_ ?_;(solve|rfl|simp only[go_sem,seval,encB]);(solve|rfl);(solve|decide);(solve|simp);(solve|simp only[go_sem,seval,lentOK,encB]))|(refine opK_M [5,6] (hf) ?_ ?_ ?_ ?_ ?_ ?_;(solve|rfl|simp only[go_sem,seval,encB]);(solve|rfl);(solve|decide);(solve|simp);(solve|simp only[go_sem,seval,lentOK,encB]))|(refine opK_W (delf_Pool (fun q=>q.id==p.id) b.pools 6 _ _ _ _ rfl rfl ?_ ?_ ⟨[.ept [.v (.int .i64 p.id)]],rfl,fun x _=>close3_p x p.id⟩ (fun m c=>⟨[.ept [.v (.int .i64 p.id)]],rfl,fun x _=>close3_p x p.id⟩)) ?_)|omega|exact decide_eq_true (by omega)|exact DLe.refl _)
    all_goals first
     |first|rfl|simp only[belowH,belowE,belowC,belowL,belowR,belowP,belowL_d,belowR_d,belowR_zip,polRow,List.length_cons,List.length_nil,Nat.reduceAdd,Nat.reduceLT,decide_true,Bool.and_self,Bool.and_true]
     |omega
     |(rw[show R=(Bok.zero,9) from (by rw[hR2.out];grind)];(try simp only[List.map_append,List.map_cons]);exact dg)
     |(rw[show R=(⟨b.tick,b.pools.filter fun q=>!(q.id==p.id)⟩,0) from (by rw[hR2.out];grind)];(try simp only[List.map_append,List.map_cons]);exact dg)
   |some u=>
    obtain⟨pre,post,hp,hue⟩:=poolOf_split hu
    have hbg:=beginZ_m b pre post u hp hz hc
    have hzb:=zipB hp
    have hne:i≠pre.length:=by
     rintro rfl
     have:=hzb.at_
     rw[hpi]at this
     obtain rfl:=Option.some.inj this
     have h1:=(second_mem _ _ hbk.second p hpm).1
     have h2:=up_self hq (by have:=(hbk.mem p hpm).1;rintro h;rw[h]at this;simp[idOKB]at this) hue.symm b.pools.length
     rw[h2]at h1;exact absurd h1 (by simp)
    have hf:=findZ_m hbk hzb hpi
    have hf2:=findZ_m hbk hzb hzb.at_
    rw[hue]at hf2
    have hzo:=fun r=>zipR_other (r:=r) (by rw[←hp];exact hpi) hne
    have hu32:=hbk.l32 u hzb.mem
    have hany:=upOK_up (second_mem _ _ hbk.second p hpm).1 (by have:=(hbk.mem u hzb.mem).1;rintro h;rw[←hue]at h;rw[h]at this;simp[idOKB]at this) hu
    have hix:=idxf_Lease encL_len (forB p.id) u.leases 125 [.ept [.v (.int .i64 p.id)]] (by omega) (fun l _=>close2_p l p.id)
    obtain⟨j,hj⟩:∃j,u.leases.findIdx? (forB p.id)=some j:=by
     cases hj:u.leases.findIdx? (forB p.id)with
     |some j=>exact⟨j,rfl⟩
     |none=>
      rw[List.findIdx?_eq_none_iff]at hj
      obtain⟨x,hx,hx2⟩:=List.any_eq_true.1 hany
      rw[hj x hx]at hx2;exact absurd hx2 (by simp)
    unfold idxI at hix
    rw[hj]at hix
    have hji:j < u.leases.length:=(List.findIdx?_eq_some_iff_getElem.1 hj).1
    have hcl:=cool_m pre post u j b.pools.length 1 b.tick hji hu32 (rule_cool (hbk.mem u hzb.mem).2.2) hbk.tick
    have hcL:closeL b p=pre++{u with leases:=coolL u j b.tick}::post:=by
     unfold closeL;rw[hu];simp only;rw[hj];simp only;rw[updB_split hbk.rise hp]
    have hR2:=hR2.out
    rw[hcL]at hR2
    replace hR2:=Lib.hid hR2
    have h8:=hbk.n8
    have hlen:(pre++{u with leases:=coolL u j b.tick}::post).length≤1000000000:=by
     rw[hp]at h8
     simp at h8 ⊢;omega
    clear hq hu hue hR hc hcL hany hj hpi hp hzb h8 hbk hne hpm
    refine pj Tryz.func56 Tryz.ntmps56 Tryz.results56 ?_
    repeat' (first|(with_reducible refine And.intro ?_ ?_)|(with_reducible refine gK_i (fun _=>?_) (fun _=>?_))|(with_reducible refine condS_i (fun _=>?_) (fun _=>?_))|(with_reducible refine drw_i (by kernel_rfl))|simp -dsimp only[go_sem,seval, *,encB,encP,encPol,polRow,renR_zip,zipR_get,hzo]|((with_reducible refine opK_c ?_);simp -dsimp only[go_sem,seval,encB,encP,encPol,polRow,renR_zip,zipR_get,hzo];first|refine callK_r (by first|assumption|exact hcn|exact hix) (by first|exact .inl rfl|exact .inr rfl) ?_|(refine callK_i (by assumption) ?_ ?_ ?_;(solve|(repeat(first|exact DLe.refl _|exact DLe.nil _|(refine DLe.tup ?_)|(refine DLe.agg ?_ rfl)|exact trivial|(refine And.intro ?_ ?_))));(solve|exact .inl rfl|exact .inr rfl)))|(refine opK_M [] (hbg) ?_ ?_ ?_ ?_ ?_ ?_;(solve|rfl|simp only[go_sem,seval,encB,polRow,renR_zip]);(solve|rfl);(solve|decide);(solve|simp);(solve|simp only[go_sem,seval,lentOK,encB,polRow,renR_zip]))|(refine opK_M [5,6,8] (hf) ?_ ?_ ?_ ?_ ?_ ?_;(solve|rfl|simp only[go_sem,seval,encP,polRow,renR_zip]);(solve|rfl);(solve|decide);(solve|simp);(solve|simp only[go_sem,seval,lentOK,encP,polRow,renR_zip]))|(refine opK_M [5,6,8] (hf2) ?_ ?_ ?_ ?_ ?_ ?_;(solve|rfl|simp only[go_sem,seval,encP,polRow,renR_zip]);(solve|rfl);(solve|decide);(solve|simp);(solve|simp only[go_sem,seval,lentOK,encP,polRow,renR_zip]))|(refine opK_M [6,8] (hcl) ?_ ?_ ?_ ?_ ?_ ?_;(solve|rfl|simp only[go_sem,seval,encP,encL,polRow,renR_zip]);(solve|rfl);(solve|decide);(solve|simp);(solve|simp only[go_sem,seval,lentOK,encP,encL,polRow,renR_zip]))|(refine opK_W (delf_Pool (fun q=>q.id==p.id) (pre++{u with leases:=coolL u j b.tick}::post) 6 _ _ _ _ rfl rfl ?_ ?_ ⟨[.ept [.v (.int .i64 p.id)]],rfl,fun x _=>close3_p x p.id⟩ (fun m c=>⟨[.ept [.v (.int .i64 p.id)]],rfl,fun x _=>close3_p x p.id⟩)) ?_)|omega|exact decide_eq_true (by omega)|exact DLe.refl _)
    all_goals first
     |first|rfl|simp only[belowH,belowE,belowC,belowL,belowR,belowP,belowL_d,belowR_d,belowR_zip,polRow,List.length_cons,List.length_nil,Nat.reduceAdd,Nat.reduceLT,decide_true,Bool.and_self,Bool.and_true]
     |(simpa using hlen)
     |(rw[show R=(Bok.zero,9) from (by rw[hR2.out];grind)];(try simp only[List.map_append,List.map_cons]);exact dg)
     |(rw[show R=(⟨b.tick,(pre++{u with leases:=coolL u j b.tick}::post).filter fun q=>!(q.id==p.id)⟩,0) from (by rw[hR2.out];grind)];(try simp only[List.map_append,List.map_cons]);exact dg)
 ·have hbg:=beginE_p b hz hc
  have h1:(chkBk b !=0)=true:=by simpa using hc
  have hr:R=(Bok.zero,chkBk b):=by rw[hR.out];unfold closeR;rw[if_pos hc]
  rw[hr]
  replace hr:=Lib.hid hr
  refine pj Tryz.func56 Tryz.ntmps56 Tryz.results56 ?_
  refine wk1 ?_<;>intros
  exact dg
def rowsF:Nat→List Pol→List (List PV)
 |_,[]=>[]
 |k,p::ps=>polRow p (.own k 1)::rowsF (k+2) ps
def chF:List Pol→List Chunk
 |[]=>[]
 |p::ps=> .gone:: .row 68 5 1 (dRows (p.leases.map encL))::chF ps
@[go_sem] theorem rowsF_len:∀(ps:List Pol) (k:Nat),(rowsF k ps).length=ps.length
 |[],_=>rfl
 |p::ps,k=>by simp only[rowsF,List.length_cons,rowsF_len ps]
theorem chF_len:∀ps:List Pol,(chF ps).length=2*ps.length
 |[]=>rfl
 |p::ps=>by simp only[chF,List.length_cons,chF_len ps];omega
theorem rowsF_snoc (p:Pol):∀(ps:List Pol) (k:Nat),rowsF k (ps++[p])=rowsF k ps++[polRow p (.own (k+2*ps.length) 1)]
 |[],k=>rfl
 |q::ps,k=>by
  simp only[List.cons_append,rowsF,rowsF_snoc p ps,List.length_cons]
  rw[show k+2+2*ps.length=k+2*(ps.length+1) by omega]
theorem chF_snoc (p:Pol):∀ps:List Pol,chF (ps++[p])=chF ps++[.gone,.row 68 5 1 (dRows (p.leases.map encL))]
 |[]=>rfl
 |q::ps=>by simp only[List.cons_append,chF,chF_snoc p ps]
theorem belowR_rowsF (n:Nat):∀(ps:List Pol) (k:Nat),k+2*ps.length < n+2→belowR n (rowsF k ps)=true
 |[],_,_=>rfl
 |p::ps,k,h=>by
  simp only[List.length_cons]at h
  simp only[rowsF,belowR,polRow,belowL,belowP,belowR_rowsF n ps (k+2) (by omega),Bool.and_true,Bool.true_and,decide_eq_true_eq]
  omega
theorem belowH_chF (n:Nat):∀ps:List Pol,belowH n (chF ps)=true
 |[]=>rfl
 |p::ps=>by simp only[chF,belowH,belowC,belowR_d,belowH_chF n ps,Bool.and_self]
@[go_sem] theorem setC_last1 (a:List Chunk)(c d:Chunk):setC (a++[c]) a.length d=a++[d]:=by
 have:=setC_app a c d []
 simpa using this
@[go_sem] theorem setC_last2 (a:List Chunk)(c e d:Chunk):setC (a++[c,e]) a.length d=a++[d,e]:=setC_app a c d [e]
@[go_sem] theorem setC_end1 (a:List Chunk)(c d:Chunk):setC (a++[c]) (a.length+1) d=a++[c,d]:=by
 have:=setC_last (a++[c]) d
 rw[List.length_append]at this
 simpa using this
@[go_sem] theorem hat_end (a:List Chunk)(c:Chunk)(l:List Chunk):hatL (a++c::l) a.length=c:=by
 induction a with
 |nil=>rfl
 |cons x a ih=>exact ih
@[go_sem] theorem hat_end1 (a:List Chunk)(c d:Chunk)(l:List Chunk):hatL (a++c::d::l) (a.length+1)=d:=by
 induction a with
 |nil=>rfl
 |cons x a ih=>exact ih
@[go_sem] theorem hat_end2 (a:List Chunk)(c d e:Chunk)(l:List Chunk):hatL (a++c::d::e::l) (a.length+2)=e:=by
 induction a with
 |nil=>rfl
 |cons x a ih=>exact ih
@[go_sem] theorem setC_end2 (a:List Chunk)(c e d:Chunk):setC (a++[c,e]) (a.length+2) d=a++[c,e,d]:=by
 have:=setC_last (a++[c,e]) d
 rw[List.length_append]at this
 simpa using this
theorem belowH_app (n:Nat):∀(l m:List Chunk),belowH n (l++m)=(belowH n l&&belowH n m)
 |[],m=>rfl
 |c::l,m=>by simp only[List.cons_append,belowH,belowH_app n l m,Bool.and_assoc]
theorem ownA_mB (b:Bok)(h8:b.pools.length≤8)(h32:∀p∈b.pools,p.leases.length≤32):
 MSpec Tryz.prog 196 [.d (.agg (encB b))] [] (.ptr 1 0) (.gone:: .box 24 [.d (.v (.int .i64 b.tick)),.own 2 b.pools.length]:: .row 62 9 b.pools.length (rowsF 4 b.pools)::chF b.pools):=by
 refine mj Tryz.func196 Tryz.ntmps196 Tryz.results196 ?_
 repeat' (first|(with_reducible refine And.intro ?_ ?_)|(with_reducible refine gK_i (fun _=>?_) (fun _=>?_))|(with_reducible refine condS_i (fun _=>?_) (fun _=>?_))|(with_reducible refine drw_i (by kernel_rfl))|simp -dsimp only[go_sem,seval, *,encB]|((with_reducible refine opK_c ?_);simp -dsimp only[go_sem,seval,encB];first|refine callK_r (by first|assumption|fail) (by first|exact .inl rfl|exact .inr rfl) ?_|refine callK_i (by assumption) (by repeat(first|exact DLe.refl _|exact DLe.nil _|(refine DLe.tup ?_)|(refine DLe.agg ?_ rfl)|exact trivial|(refine And.intro ?_ ?_))) (by first|exact .inl rfl|exact .inr rfl) ?_)|omega|exact decide_eq_true (by omega)|exact DLe.refl _)
 refine loopL tab_ok mixed b.pools (fun _=>True) (fun k=>[(13,.d (.v (.int .i64 k))),(12,.d (.v (.int .i64 b.pools.length))),(11,.d (.sl 9 (b.pools.map encPol))),(3,.ptr 1 0),(2,.d (.v (.pointer none)))])
  (fun k=> .gone:: .box 24 [.d (.v (.int .i64 b.tick)),.own 2 k]:: .row 62 9 k (rowsF 4 (b.pools.take k))::chF (b.pools.take k)) trivial ?_ ?_ ?_
 ·refine(weak_gone 0 (by simp)).trans ((weak_adopt_box (by simp) 1 24 [.d (.v (.int .i64 b.tick)),.d (.v (.slice none 0 0))] 1 62 9 rfl rfl rfl).trans ?_)
  exact weak_forget _ (by simp) (by(try simp only[encB]);rfl) se bl bl
 ·intro k p hp hk _ C hC
  have hkI:(k:Int) < (b.pools.length:Int):=by omega
  have hwr:=wi k (by omega)
  have hpl:=h32 p (List.mem_of_getElem? hp)
  have hb1:k+1≤100:=by omega
  have hlt:(List.take k b.pools).length=k:=by rw[List.length_take];omega
  have hst:=take_snoc hp
  have hrl:=rowsF_len (b.pools.take k) 4
  have hcl:=chF_len (b.pools.take k)
  rw[hlt]at hrl hcl
  rw[hst,rowsF_snoc,chF_snoc,hlt]at hC
  have hbr:=fun n h=>belowR_rowsF n (b.pools.take k) 4 h
  have hbh:=fun n=>belowH_chF n (b.pools.take k)
  clear hst
  generalize chF (b.pools.take k)=T at*
  generalize rowsF 4 (b.pools.take k)=rows at*
  replace hcl:=Lib.hid hcl
  replace hbr:=Lib.hid hbr
  replace hbh:=Lib.hid hbh
  have z1z:=Ln.mk (ls:=[]) (clone_Lease encL p.leases (by omega))
  refine wk1 ?_<;>intros
  refine hC _ _ trivial ((weak_gone (T.length+3) (by simp)).trans (weak_forget [.row 62 9 0 [polRow p (.own (T.length+4) 1)]] (by simp) (h':= .gone:: .box 24 [.d (.v (.int .i64 b.tick)),.own 2 (k+1)]:: .row 62 9 (k+1) (rows++[polRow p (.own (4+2*k) 1)])::(T++[.gone,.row 68 5 1 (dRows (p.leases.map encL))])) ?_ se ?_ ?_))
  ·simp only[setC]
   rw[setC_app,show T.length+4=4+2*k from by have:=hcl.out;omega]
   simp only[List.cons_append,List.append_assoc,List.nil_append]
   rfl
  ·have:=hcl.out
   simp[belowE,belowP]
  ·have:=hcl.out
   have h1:=hbh.out (T.length+5)
   have h2:=hbr.out (T.length+5) (by rw[hlt];omega)
   simp[belowH,belowC,belowL,belowP,belowR_appB,belowR,belowR_d,polRow,belowH_app,h1,h2]
   omega
 ·intro _ C
  refine wk1 ?_<;>intros
  (try rw[List.take_length])
  exact weak_eq rfl rfl
@[go_sem] theorem heapM_chF (n:Nat):∀(ps:List Pol) (j:Nat) (a:List Chunk),a.length=n+j→heapM (fun x=>n+x) j (chF ps) a=a++chF ps
 |[],j,a,_=>by simp[chF,heapM]
 |p::ps,j,a,h=>by
  have h1:n+j=a.length:=h.symm
  have h2:n+(j+1)=(a++[Chunk.gone]).length:=by simp only[List.length_append,List.length_cons,List.length_nil];omega
  simp only[chF,heapM,renC]
  rw[h1,setC_last,h2,setC_last,heapM_chF n ps (j+1+1) _ (by simp;omega)]
  have hd:renR (fun x=>n+x) (dRows (p.leases.map encL))=dRows (p.leases.map encL):=renR_d _ _
  rw[hd]
  simp
@[go_sem] theorem renR_rowsF (n:Nat):∀(ps:List Pol) (k:Nat),renR (fun x=>n+x) (rowsF k ps)=rowsF (n+k) ps
 |[],_=>rfl
 |p::ps,k=>by
  simp only[rowsF,renR,renR_rowsF n ps (k+2),polRow,renL,ren]
  rw[show n+(k+2)=n+k+2 by omega]
theorem beginA_mB (b:Bok)(hz:∀p∈b.pools,p.leases.length≤3518437208882)(h:chkBk b=0):
 MSpec Tryz.prog 115 [.d (.agg (encB b))] [] (.tup [.ptr 2 0,.d (.v (.int .i64 0))]) (.gone:: .gone:: .box 24 [.d (.v (.int .i64 b.tick)),.own 3 b.pools.length]:: .row 62 9 b.pools.length (rowsF 5 b.pools)::chF b.pools):=by
 have hc:=bkCheck_p b hz
 have hb:=bookOK h
 have ho:=ownA_mB b hb.n8 hb.l32
 rw[h]at hc
 replace h:=Lib.hid h
 refine mj Tryz.func115 Tryz.ntmps115 Tryz.results115 ?_
 have z1z:=Ln.mk (ls:=[]) (ho)
 refine wk1 ?_<;>intros
 exact(weak_gone 0 (by simp)).trans (weak_eq rfl rfl)
def zipF (D:List Pol)(r:List PV)(k:Nat)(ps:List Pol):List (List PV):=dRows (D.map encPol)++r::rowsF k ps
theorem zipF_len (D:List Pol)(r:List PV)(k:Nat)(ps:List Pol):(zipF D r k ps).length=D.length+1+ps.length:=by
 unfold zipF;rw[List.length_append,List.length_cons,rowsF_len,dRows_len,List.length_map];omega
theorem zipF_get (D:List Pol)(r:List PV)(k:Nat)(ps:List Pol):(zipF D r k ps)[D.length]? =some r:=by
 unfold zipF
 rw[List.getElem?_append_right (by simp[dRows_len])]
 simp[dRows_len]
theorem zipF_set (D:List Pol)(r r':List PV)(k:Nat)(ps:List Pol):(zipF D r k ps).set D.length r'=zipF D r' k ps:=by
 unfold zipF
 rw[List.set_append_right _ _ (by simp[dRows_len])]
 simp[dRows_len]
theorem fzR_rowsF (k g:Nat)(d:D):∀(ps:List Pol) (k0:Nat),k < k0→fzR k g d (rowsF k0 ps)=rowsF k0 ps
 |[],_,_=>rfl
 |p::ps,k0,h=>by
  simp only[rowsF,fzR,fzR_rowsF k g d ps (k0+2) (by omega),polRow,fzL,fz]
  rw[if_neg (by omega)]
theorem fzH_app (k g:Nat)(d:D):∀(l m:List Chunk) (i:Nat),fzH k g d i (l++m)=fzH k g d i l++fzH k g d (i+l.length) m
 |[],m,i=>rfl
 |c::l,m,i=>by
  simp only[List.cons_append,fzH,fzH_app k g d l m (i+1),List.length_cons]
  rw[show i+1+l.length=i+(l.length+1) by omega]
theorem fzH_same (k g:Nat)(d:D):∀(l:List Chunk) (i:Nat),(∀c∈l,fzC k g d c=c)→(∀x,i≤x→x < i+l.length→x≠k)→fzH k g d i l=l
 |[],_,_,_=>rfl
 |c::l,i,h,hx=>by
  simp only[fzH]
  rw[if_neg (hx i (Nat.le_refl _) (by simp)),h c (by simp),fzH_same k g d l (i+1) (fun c hc=>h c (by simp[hc])) (fun x h1 h2=>hx x (by omega) (by simp;omega))]
theorem chF_mem {c:Chunk}:∀{ps:List Pol},c∈chF ps→c= .gone∨∃ls,c= .row 68 5 1 (dRows ls)
 |p::ps,h=>by
  simp only[chF,List.mem_cons]at h
  rcases h with h|h|h
  ·exact .inl h
  ·exact .inr ⟨_,h⟩
  ·exact chF_mem h
theorem chF_at:∀(ps:List Pol) (x:List Chunk) (i:Nat) (p:Pol),ps[i]? =some p→hatL (chF ps++x) (2*i+1)= .row 68 5 1 (dRows (p.leases.map encL))
 |q::ps,x,0,p,h=>by simp at h;subst h;rfl
 |q::ps,x,i+1,p,h=>by
  simp only[List.getElem?_cons_succ]at h
  have:=chF_at ps x i p h
  simp only[chF,List.cons_append]
  rw[show 2*(i+1)+1=(2*i+1)+1+1 by omega]
  exact this
theorem hat_right:∀(a b:List Chunk) (i:Nat),hatL (a++b) (a.length+i)=hatL b i
 |[],b,i=>by simp
 |c::a,b,i=>by
  simp only[List.cons_append,List.length_cons]
  rw[show a.length+1+i=(a.length+i)+1 by omega]
  exact hat_right a b i
def tailF (j:Nat)(c:Chunk)(ps:List Pol)(e:Chunk):List Chunk:=List.replicate (2*j) .gone++(.gone::c::(chF ps++[e]))
structure TailOK (T:Chunk→List Chunk)(j q:Nat)(ps:List Pol)(e:Chunk):Prop where
 a:∀c x,hatL (T c++x) (2*j+1)=c
 a0:∀c,hatL (T c) (2*j+1)=c
 b:∀c x,hatL (T c++x) q=e
 b0:∀c,hatL (T c) q=e
 c:∀c d,setC (T c) (2*j+1) d=T d
 len:∀c,(T c).length=q+1
 h:∀n c,belowC n c=true→belowC n e=true→belowH n (T c)=true
 r:∀c x i p,ps[i]? =some p→hatL (T c++x) (2*j+1+2*(i+1))= .row 68 5 1 (dRows (p.leases.map encL))
 f:∀c g d,fzC (2*j+7) g d e=e→fzH (2*j+7) g d 6 (T c)=T .gone
theorem tail_split (j:Nat)(c:Chunk)(ps:List Pol)(e:Chunk):tailF j c ps e=(List.replicate (2*j) Chunk.gone++[.gone])++c::(chF ps++[e]):=by
 unfold tailF;simp
theorem tailOK (j q:Nat)(ps:List Pol)(e:Chunk)(hq:q=2*j+2+2*ps.length):TailOK (fun c=>tailF j c ps e) j q ps e:=by
 have hA:(List.replicate (2*j) Chunk.gone++[Chunk.gone]).length=2*j+1:=by simp
 have a0:∀c,hatL (tailF j c ps e) (2*j+1)=c:=fun c=>by rw[tail_split,←hA];exact hat_end _ _ _
 have hl:∀c,(tailF j c ps e).length=q+1:=fun c=>by unfold tailF;simp[chF_len];omega
 have b0:∀c,hatL (tailF j c ps e) q=e:=fun c=>by
  have:tailF j c ps e=(List.replicate (2*j) Chunk.gone++(.gone::c::chF ps))++[e]:=by unfold tailF;simp
  rw[this,hat_snoc,if_pos]
  simp[chF_len];omega
 refine⟨fun c x=>?_,a0,fun c x=>?_,b0,fun c d=>?_,hl,fun n c h1 h2=>?_,fun c x i p hp=>?_,fun c g d he=>?_⟩
 ·rw[hat_app _ _ _ (by rw[hl];omega),a0]
 ·rw[hat_app _ _ _ (by rw[hl];omega),b0]
 ·show setC (tailF j c ps e) (2*j+1) d=tailF j d ps e
  rw[tail_split,tail_split,←hA];exact setC_app _ _ _ _
 ·have:belowH n (List.replicate (2*j) Chunk.gone)=true:=by
   generalize 2*j=m
   induction m with
   |zero=>rfl
   |succ m ih=>rw[List.replicate_succ];simp only[belowH,belowC,ih,Bool.and_self]
  show belowH n (tailF j c ps e)=true
  unfold tailF
  simp only[belowH_app,belowH,this,h1,h2,belowH_chF,Bool.and_true,Bool.true_and];rfl
 ·show hatL (tailF j c ps e++x) _=_
  have:tailF j c ps e++x=(List.replicate (2*j) Chunk.gone++[.gone,c])++(chF ps++([e]++x)):=by unfold tailF;simp
  rw[this]
  have hlen:(List.replicate (2*j) Chunk.gone++[.gone,c]).length=2*j+2:=by simp
  rw[show 2*j+1+2*(i+1)=(List.replicate (2*j) Chunk.gone++[.gone,c]).length+(2*i+1) by rw[hlen];omega,hat_right]
  exact chF_at ps _ i p hp
 ·show fzH (2*j+7) g d 6 (tailF j c ps e)=tailF j .gone ps e
  rw[tail_split,tail_split,fzH_app,hA]
  have h1:fzH (2*j+7) g d 6 (List.replicate (2*j) Chunk.gone++[Chunk.gone])=List.replicate (2*j) Chunk.gone++[Chunk.gone]:=by
   refine fzH_same _ _ _ _ _ (fun c hc=>?_) (fun x h1 h2=>by rw[hA]at h2;omega)
   have:c= .gone:=by simp at hc;rcases hc with h|h<;>first|exact h.2|exact h
   subst this;rfl
  rw[h1,show 6+(2*j+1)=2*j+7 by omega]
  simp only[fzH,if_true]
  rw[fzH_same _ _ _ _ _ (fun c hc=>?_) (fun x h1 h2=>by omega)]
  simp only[List.mem_append,List.mem_singleton]at hc
  rcases hc with hc|rfl
  ·rcases chF_mem hc with rfl|⟨ls,rfl⟩
   ·rfl
   ·simp only[fzC,fzR_d]
  ·exact he
theorem viewR_rowsF {h:Nat→Chunk}{n:Nat}:∀(ps:List Pol) (k:Nat),(∀i p,ps[i]? =some p→∃ls,h (k+2*i)= .row 68 5 1 (dRows ls))→∃ds,viewR (viewF h (n+1)) (rowsF k ps)=some ds
 |[],_,_=>⟨[],rfl⟩
 |p::ps,k,hk=>by
  obtain⟨ls,h1⟩:=hk 0 p rfl
  obtain⟨ds,h2⟩:=viewR_rowsF (n:=n) ps (k+2) (fun i q hq=>by
   obtain⟨ls,h3⟩:=hk (i+1) q (by simpa using hq)
   exact⟨ls,by rw[←h3];congr 1;omega⟩)
  rw[Nat.mul_zero,Nat.add_zero]at h1
  simp only[rowsF,viewR,h2,polRow,viewL,viewF,viewF_d,h1,if_true,viewR_d,Option.map_some]
  exact⟨_,rfl⟩
def overB (t:Int)(l:Lse):Bool:=(l.kind==3)&&decide (l.till≤t)
theorem pass1_p (l:Lse)(t:Int)(x:D):PSpec Tryz.prog 129 [.agg (encL l),.ept [.ept [.v (.int .i64 t),x]]] (.v (.bool (overB t l))):=by
 unfold overB
 refine pj Tryz.func129 Tryz.ntmps129 Tryz.results129 ?_
 exact wk0
def passP (t:Int)(p:Pol):Pol:={p with leases:=p.leases.filter fun l=>!overB t l}
def passR (b:Bok)(n:Int):Bok × Int:=
 if chkBk b≠0 then (Bok.zero,chkBk b)else
 if n < 1∨n>1073741824 - b.tick then (Bok.zero,3)else (⟨b.tick+n,b.pools.map (passP (b.tick+n))⟩,0)
def passH (b:Bok)(t:Int)(rows:List (List PV))(T:List Chunk):List Chunk:=
 .box 24 [.d (.v (.int .i64 b.tick)),.d (.sl 9 (b.pools.map encPol))]:: .box 24 [.d (.v (.int .i64 0)),.d (.v (.slice none 0 0))]:: .gone:: .gone:: .box 24 [.d (.v (.int .i64 t)),.own 5 b.pools.length]:: .row 62 9 b.pools.length rows::T
theorem passH_below {b:Bok}{t:Int}{rows:List (List PV)}{T:List Chunk}{n:Nat}(h1:belowR n rows=true)(h2:belowH n T=true)(h3:6≤n):belowH n (passH b t rows T)=true:=by
 simp only[passH,belowH,belowC,belowL,belowP,h1,h2,Bool.and_true,Bool.true_and,decide_eq_true_eq]
 omega
theorem pass_p (b:Bok)(n:Int)(hz:∀p∈b.pools,p.leases.length≤3518437208882):PSpec Tryz.prog 57 [.agg (encB b),.v (.int .i64 n)] (.tup [.agg (encB (passR b n).1),.v (.int .i64 (passR b n).2)]):=by
 obtain⟨R,hR⟩:∃R,R=passR b n:=⟨_,rfl⟩
 rw[←hR]
 replace hR:=Lib.hid hR
 by_cases hc:chkBk b=0
 ·have hbk:=bookOK hc
  have hbg:=beginA_mB b hz hc
  have ht:=hbk.tick
  have hws:IntKind.i64.wrap (1073741824 - b.tick)=1073741824 - b.tick:=by rw[IntKind.wrap_i64];omega
  have hR2:R=if n < 1∨n>1073741824 - b.tick then (Bok.zero,3)else (⟨b.tick+n,b.pools.map (passP (b.tick+n))⟩,0):=by rw[hR.out];unfold passR;rw[if_neg (by simpa using hc)]
  replace hR2:=Lib.hid hR2
  clear hR hc
  by_cases hn:n < 1∨n>1073741824 - b.tick
  ·clear hbk
   refine pj Tryz.func57 Tryz.ntmps57 Tryz.results57 ?_
   have z1z:=Ln.mk (ls:=[]) (hbg)
   refine wk3 ?_ ?_ ?_<;>intros
   all_goals first
    |(exfalso;rename_i q1 q2;simp only[decide_eq_false_iff_not]at q1 q2;omega)
    |(clear hz hbg;(rw[show R=(Bok.zero,3) from (by rw[hR2.out];grind)];(try simp only[List.map_append,List.map_cons]);exact dg))
  ·have h1:decide (n < 1)=false:=by simp;omega
   have h2:decide (n>1073741824 - b.tick)=false:=by simp;omega
   have hwt:IntKind.i64.wrap (b.tick+n)=b.tick+n:=by rw[IntKind.wrap_i64];omega
   replace hn:=Lib.hid hn
   refine pj Tryz.func57 Tryz.ntmps57 Tryz.results57 ?_
   have z1z:=Ln.mk (ls:=[]) (hbg)
   refine wk1 ?_<;>intros
   have hqn:=chF_len b.pools
   rw[hqn]
   refine loopG tab_ok mixed (fun m e h=>∃(pre rest:List Pol),b.pools=pre++rest∧m=rest.length∧e=[(44,.d (.v (.int .i64 pre.length))),(43,.d (.v (.int .i64 b.pools.length))),(6,.ptr (2*b.pools.length+6) 0),(5,.d (.v (.int .i64 0))),(4,.ptr 1 0)]∧
    h=passH b (b.tick+n) (dRows ((pre.map (passP (b.tick+n))).map encPol)++rowsF (2*pre.length+7) rest) (List.replicate (2*pre.length) .gone++(chF rest++[.box 117 [.ptr 4 0]]))) _ _ _ ⟨[],b.pools,rfl,rfl,rfl,rfl⟩ ?_ ?_
   ·refine weak_forget [] (by simp) (by simp only[passH,List.map_nil,List.append_nil,List.length_nil,Nat.mul_zero,List.replicate_zero,List.nil_append];rfl) se (by simp[passH,belowE,belowP,chF_len]) ?_
    refine passH_below (by simp only[List.map_nil,List.length_nil];exact belowR_rowsF _ b.pools 7 (by simp[passH,chF_len];omega)) ?_ (by simp[passH])
    simp[belowH_app,belowH_chF,belowH,belowC,belowL,belowP,passH]
   ·rintro m e h ⟨pre,rest,hpr,hm,rfl,rfl⟩ C hC
    cases rest with
    |nil=>
     have hN:b.pools.length=pre.length:=by rw[hpr];simp
     have hq:hatL (List.replicate (2*pre.length) Chunk.gone++[.box 117 [.ptr 4 0]]) (2*b.pools.length)= .box 117 [.ptr 4 0]:=by rw[hat_snoc,if_pos (by simp;omega)]
     have hjI:¬(pre.length:Int) < (b.pools.length:Int):=by omega
     have hpr2:b.pools=pre:=by rw[hpr];simp
     have hR3:=hR2.out
     rw[if_neg hn.out,hpr2]at hR3
     clear hC hm hpr hpr2 hN
     replace hjI:decide ((pre.length:Int) < (b.pools.length:Int))=false:=by simpa using hjI
     simp only[passH,rowsF,chF,List.append_nil,List.nil_append]
     generalize List.replicate (2*pre.length) Chunk.gone++[Chunk.box 117 [.ptr 4 0]]=T at*
     replace hR3:=Lib.hid hR3
     refine wk1 ?_<;>intros
     rw[hR3.out]
     exact dg
    |cons p rest=>
     have hN:b.pools.length=pre.length+1+rest.length:=by rw[hpr];simp;omega
     have hjI:(pre.length:Int) < (b.pools.length:Int):=by omega
     have hwr:IntKind.i64.wrap ((pre.length:Int)+1)=((pre.length+1:Nat):Int):=by rw[IntKind.wrap_i64];have:=hbk.n8;omega
     have hpl:=hbk.l32 p (by rw[hpr];simp)
     have hzl:=fun r=>zipF_len (pre.map (passP (b.tick+n))) r (2*pre.length+7+2) rest
     have hzg:=fun r=>zipF_get (pre.map (passP (b.tick+n))) r (2*pre.length+7+2) rest
     have hzs:=fun r r'=>zipF_set (pre.map (passP (b.tick+n))) r r' (2*pre.length+7+2) rest
     rw[List.length_map]at hzl
     simp only[List.length_map]at hzg hzs
     obtain⟨T,hT,hTe⟩:∃T:Chunk→List Chunk,TailOK T pre.length (2*b.pools.length) rest (.box 117 [.ptr 4 0])∧T=fun c=>tailF pre.length c rest (.box 117 [.ptr 4 0]):=⟨_,tailOK pre.length (2*b.pools.length) rest (.box 117 [.ptr 4 0]) (by omega),rfl⟩
     have hTg:T .gone=List.replicate (2*(pre++[p]).length) .gone++(chF rest++[.box 117 [.ptr 4 0]]):=by
      rw[hTe]
      show tailF _ _ _ _=_
      unfold tailF
      rw[List.length_append,List.length_cons,List.length_nil,show 2*(pre.length+(0+1))=2*pre.length+1+1 by omega,List.replicate_succ',List.replicate_succ']
      simp
     have hTc:T (.row 68 5 1 (dRows (p.leases.map encL)))=List.replicate (2*pre.length) .gone++(chF (p::rest)++[.box 117 [.ptr 4 0]]):=by rw[hTe];rfl
     rw[←hTc]
     clear hTe hTc
     have hzc:dRows ((pre.map (passP (b.tick+n))).map encPol)++rowsF (2*pre.length+7) (p::rest)=zipF (pre.map (passP (b.tick+n))) (polRow p (.own (2*pre.length+7) 1)) (2*pre.length+7+2) rest:=rfl
     rw[hzc]
     clear hzc
     have hview:∀(m:List Lse) (x:List Chunk) (v:Nat),∃d,viewL (viewF (hatL (passH b (b.tick+n) (zipF (pre.map (passP (b.tick+n))) (polRow p (.own (2*pre.length+7) 1)) (2*pre.length+7+2) rest) (T (.row 68 5 1 (dRows (m.map encL)))++x))) (v+5)) [.ptr (2*b.pools.length+6) 0]=some [.ept [.ept [.v (.int .i64 (b.tick+n)),d]]]:=by
      intro m x v
      obtain⟨ds,hds⟩:=viewR_rowsF (h:=hatL (passH b (b.tick+n) (zipF (pre.map (passP (b.tick+n))) (polRow p (.own (2*pre.length+7) 1)) (2*pre.length+7+2) rest) (T (.row 68 5 1 (dRows (m.map encL)))++x))) (n:=v+1) rest (2*pre.length+7+2) (fun i q hq=>⟨q.leases.map encL,by
       rw[show 2*pre.length+7+2+2*i=2*pre.length+1+2*(i+1)+6 by omega]
       exact hT.r _ x i q hq⟩)
      have h1:hatL (passH b (b.tick+n) (zipF (pre.map (passP (b.tick+n))) (polRow p (.own (2*pre.length+7) 1)) (2*pre.length+7+2) rest) (T (.row 68 5 1 (dRows (m.map encL)))++x)) (2*b.pools.length+6)= .box 117 [.ptr 4 0]:=hT.b _ x
      have h2:hatL (passH b (b.tick+n) (zipF (pre.map (passP (b.tick+n))) (polRow p (.own (2*pre.length+7) 1)) (2*pre.length+7+2) rest) (T (.row 68 5 1 (dRows (m.map encL)))++x)) (2*pre.length+7)= .row 68 5 1 (dRows (m.map encL)):=hT.a _ x
      have h3:∀r T',hatL (passH b (b.tick+n) r T') 4= .box 24 [.d (.v (.int .i64 (b.tick+n))),.own 5 b.pools.length]:=fun _ _=>rfl
      have h4:∀r T',hatL (passH b (b.tick+n) r T') 5= .row 62 9 b.pools.length r:=fun _ _=>rfl
      have h5:∃e,viewR (viewF (hatL (passH b (b.tick+n) (zipF (pre.map (passP (b.tick+n))) (polRow p (.own (2*pre.length+7) 1)) (2*pre.length+7+2) rest) (T (.row 68 5 1 (dRows (m.map encL)))++x))) (v+2)) (zipF (pre.map (passP (b.tick+n))) (polRow p (.own (2*pre.length+7) 1)) (2*pre.length+7+2) rest)=some e:=by
       generalize hH:hatL (passH b (b.tick+n) (zipF (pre.map (passP (b.tick+n))) (polRow p (.own (2*pre.length+7) 1)) (2*pre.length+7+2) rest) (T (.row 68 5 1 (dRows (m.map encL)))++x))=H at*
       simp only[zipF,viewR_appB,viewR_d,viewR,hds,polRow,viewL,viewF,viewF_d,h2,if_true,Option.map_some]
       exact⟨_,rfl⟩
      obtain⟨e,he⟩:=h5
      refine⟨.sl 9 e,?_⟩
      simp only[viewL,viewF,h1,h3,h4,List.drop_zero,if_true,he,viewF_d,Option.map_some]
     have hset:∀r c c',setC (passH b (b.tick+n) r (T c)) (2*pre.length+7) c'=passH b (b.tick+n) r (T c'):=by
      intro r c c'
      show _::_::_::_::_::_::setC (T c) (2*pre.length+1) c'=_
      rw[hT.c];rfl
     have hbel:∀m:List Lse,belowH (passH b (b.tick+n) (zipF (pre.map (passP (b.tick+n))) (polRow p (.own (2*pre.length+7) 1)) (2*pre.length+7+2) rest) (T (.row 68 5 1 (dRows (m.map encL))))).length (passH b (b.tick+n) (zipF (pre.map (passP (b.tick+n))) (polRow p (.own (2*pre.length+7) 1)) (2*pre.length+7+2) rest) (T (.row 68 5 1 (dRows (m.map encL)))))=true:=by
      intro m
      have hl:(passH b (b.tick+n) (zipF (pre.map (passP (b.tick+n))) (polRow p (.own (2*pre.length+7) 1)) (2*pre.length+7+2) rest) (T (.row 68 5 1 (dRows (m.map encL))))).length=2*b.pools.length+7:=by simp[passH,hT.len]
      rw[hl]
      refine passH_below ?_ (hT.h _ _ (belowR_d _ _) (by simp[belowC,belowL,belowP])) (by omega)
      unfold zipF
      rw[belowR_appB,belowR_d]
      simp only[belowR,polRow,belowL,belowP,belowR_rowsF (2*b.pools.length+7) rest (2*pre.length+7+2) (by omega),Bool.and_true,Bool.true_and,decide_eq_true_eq]
      first|done|omega
     have hdl:=delf_Lease (overB (b.tick+n)) p.leases (2*pre.length+7) 1 129 [.ptr (2*b.pools.length+6) 0] (passH b (b.tick+n) (zipF (pre.map (passP (b.tick+n))) (polRow p (.own (2*pre.length+7) 1)) (2*pre.length+7+2) rest) (T (.row 68 5 1 (dRows (p.leases.map encL))))) (hT.a0 _)
      (by simp[passH,hT.len,belowL,belowP]) (hbel p.leases) (by omega)
      (by
       obtain⟨d,hd⟩:=hview p.leases [] 0
       rw[List.append_nil]at hd
       exact⟨_,hd,fun x _=>pass1_p x (b.tick+n) d⟩)
      (fun m c=>by
       obtain⟨d,hd⟩:=hview m [c] 1
       rw[hset]
       exact⟨_,hd,fun x _=>pass1_p x (b.tick+n) d⟩)
     rw[hset]at hdl
     have hTa:=hT.a0
     have hTb:=hT.b0
     have hTc2:=hT.c
     have hTl:=hT.len
     have hTf:=hT.f
     have hTh:=hT.h
     clear hview hset hbel hT hbg hR2
     simp only[passH,polRow]at hdl ⊢
     replace hN:=Lib.hid hN
     replace hm:=Lib.hid hm
     replace hpr:=Lib.hid hpr
     replace hTg:=Lib.hid hTg
     replace hTf:=Lib.hid hTf
     replace hTh:=Lib.hid hTh
     replace hn:=Lib.hid hn
     clear hbk hpl ht
     repeat' (first|(with_reducible refine And.intro ?_ ?_)|(with_reducible refine gK_i (fun _=>?_) (fun _=>?_))|(with_reducible refine condS_i (fun _=>?_) (fun _=>?_))|(with_reducible refine drw_i (by kernel_rfl))|simp -dsimp only[go_sem,seval, *,encB,encPol,hjI,hwr,hTa,hTb,hTc2,hTl,hzg,hzl,hzs]|((with_reducible refine opK_c ?_);simp -dsimp only[go_sem,seval,encB,encPol,hjI,hwr,hTa,hTb,hTc2,hTl,hzg,hzl,hzs];first|refine callK_r (by first|assumption|fail) (by first|exact .inl rfl|exact .inr rfl) ?_|(refine callK_i (by assumption) ?_ ?_ ?_;(solve|(repeat(first|exact DLe.refl _|exact DLe.nil _|(refine DLe.tup ?_)|(refine DLe.agg ?_ rfl)|exact trivial|(refine And.intro ?_ ?_))));(solve|exact .inl rfl|exact .inr rfl)))|(refine opK_W hdl ?_)|omega|exact decide_eq_true (by omega)|exact DLe.refl _)
     refine hC _ _ _ _ _ (by have:=hm.out;simp at this;omega) ⟨pre++[p],rest,by rw[hpr.out];simp,rfl,rfl,rfl⟩ ?_
     refine(weak_freeze (2*pre.length+7) 2 68 5 ((p.leases.filter fun x=>!overB (b.tick+n) x).map encL) (hTa _)).trans ?_
     have n0:=eq_false (show ¬(0=2*pre.length+7) by omega)
     have n1:=eq_false (show ¬(1=2*pre.length+7) by omega)
     have n2:=eq_false (show ¬(2=2*pre.length+7) by omega)
     have n3:=eq_false (show ¬(3=2*pre.length+7) by omega)
     have n4:=eq_false (show ¬(4=2*pre.length+7) by omega)
     have n5:=eq_false (show ¬(5=2*pre.length+7) by omega)
     have hfr:=fun d=>fzR_rowsF (2*pre.length+7) 2 d rest (2*pre.length+7+2) (by omega)
     have hft:=fun d=>hTf.out (.row 68 5 2 (dRows ((p.leases.filter fun x=>!overB (b.tick+n) x).map encL))) 2 d rfl
     simp only[fzE,fz,fzL,fzH,fzC,fzR,fzR_app,fzR_d,fzL_d,List.map_cons,List.map_nil,Nat.reduceAdd,Nat.reduceEqDiff,reduceIte,and_true,true_and,and_self,and_false,false_and,Nat.zero_add,Nat.add_zero,reduceCtorEq,zipF,hfr,hft,n0,n1,n2,n3,n4,n5,if_false]
     have hlp:(pre++[p]).length=pre.length+1:=by simp
     have e1:dRows (((pre++[p]).map (passP (b.tick+n))).map encPol)++rowsF (2*(pre++[p]).length+7) rest=dRows ((pre.map (passP (b.tick+n))).map encPol)++polRow p (.d (.sl 5 ((p.leases.filter fun x=>!overB (b.tick+n) x).map encL)))::rowsF (2*pre.length+7+2) rest:=by
      rw[hlp,show 2*(pre.length+1)+7=2*pre.length+7+2 by omega]
      simp[dRows,passP,encPol,polRow]
     rw[e1,←hTg.out,hlp]
     have hle:(passH b (b.tick+n) (dRows ((pre.map (passP (b.tick+n))).map encPol)++polRow p (.d (.sl 5 ((p.leases.filter fun x=>!overB (b.tick+n) x).map encL)))::rowsF (2*pre.length+7+2) rest) (T .gone)).length=2*b.pools.length+7:=by simp[passH,hTl]
     refine weak_forget [] (by simp) (by rw[List.append_nil];rfl) se (by rw[hle];simp[belowE,belowP]) ?_
     rw[hle]
     refine passH_below ?_ (hTh.out _ _ rfl (by simp[belowC,belowL,belowP])) (by omega)
     have:=hN.out
     rw[belowR_appB,belowR_d]
     simp only[belowR,polRow,belowL,belowP,belowR_rowsF (2*b.pools.length+7) rest (2*pre.length+7+2) (by omega),Bool.and_true]
 ·have hbg:=beginE_p b hz hc
  have h1:(chkBk b !=0)=true:=by simpa using hc
  have hr:R=(Bok.zero,chkBk b):=by rw[hR.out];unfold passR;rw[if_pos hc]
  rw[hr]
  replace hr:=Lib.hid hr
  refine pj Tryz.func57 Tryz.ntmps57 Tryz.results57 ?_
  refine wk1 ?_<;>intros
  exact dg
theorem eqG_list (p q:Rng):([p.at_.at_,p.at_.len,p.pool]==[q.at_.at_,q.at_.len,q.pool])=decide (p=q):=by
 rw[Bool.eq_iff_iff]
 cases p;cases q
 rename_i a b c d
 cases a;cases c
 simp[and_assoc]
theorem clone_Range {α:Type}(enc:α→List D)(l:List α)(hl:l.length≤1000000000):
 MSpec Tryz.prog 52 [.d (.sl 3 (l.map enc))] [] (.own 0 1) [.row 58 3 1 (dRows (l.map enc))]:=by
 cases l with
 |nil=>
  refine ms_empty (pl:=[]) (ql:=[]) fun ao cap=>?_
  cases ao with
  |none=>
   simp only[List.nil_append]
   refine mj Tryz.func52 Tryz.ntmps52 Tryz.results52 ?_
   repeat' (first|(with_reducible refine And.intro ?_ ?_)|(with_reducible refine gK_i (fun _=>?_) (fun _=>?_))|(with_reducible refine condS_i (fun _=>?_) (fun _=>?_))|(with_reducible refine drw_i (by kernel_rfl))|simp -dsimp only[go_sem,seval, *,Option.isNone_none,Option.isSome_some]|((with_reducible refine opK_c ?_);simp -dsimp only[go_sem,seval,Option.isNone_none,Option.isSome_some];first|refine callK_r (by first|assumption|fail) (by first|exact .inl rfl|exact .inr rfl) ?_|refine callK_i (by assumption) (by repeat(first|exact DLe.refl _|exact DLe.nil _|(refine DLe.tup ?_)|(refine DLe.agg ?_ rfl)|exact trivial|(refine And.intro ?_ ?_))) (by first|exact .inl rfl|exact .inr rfl) ?_)|omega|exact decide_eq_true (by omega)|exact DLe.refl _)
   refine weak_ret_adopt (h:=[]) (Nat.le_refl _) 58 3 ?_
   exact(weak_ret_bump 0 0 58 3 [] rfl (weak_eq rfl rfl))
  |some a=>
   simp only[List.nil_append]
   refine mj Tryz.func52 Tryz.ntmps52 Tryz.results52 ?_
   repeat' (first|(with_reducible refine And.intro ?_ ?_)|(with_reducible refine gK_i (fun _=>?_) (fun _=>?_))|(with_reducible refine condS_i (fun _=>?_) (fun _=>?_))|(with_reducible refine drw_i (by kernel_rfl))|simp -dsimp only[go_sem,seval, *,Option.isNone_some,Option.isSome_some]|((with_reducible refine opK_c ?_);simp -dsimp only[go_sem,seval,Option.isNone_some,Option.isSome_some];first|refine callK_r (by first|assumption|fail) (by first|exact .inl rfl|exact .inr rfl) ?_|refine callK_i (by assumption) (by repeat(first|exact DLe.refl _|exact DLe.nil _|(refine DLe.tup ?_)|(refine DLe.agg ?_ rfl)|exact trivial|(refine And.intro ?_ ?_))) (by first|exact .inl rfl|exact .inr rfl) ?_)|omega|exact decide_eq_true (by omega)|exact DLe.refl _)
   exact weak_eq rfl rfl
 |cons x l=>
  simp only[List.length_cons]at hl
  refine mj Tryz.func52 Tryz.ntmps52 Tryz.results52 ?_
  repeat' (first|(with_reducible refine And.intro ?_ ?_)|(with_reducible refine gK_i (fun _=>?_) (fun _=>?_))|(with_reducible refine condS_i (fun _=>?_) (fun _=>?_))|(with_reducible refine drw_i (by kernel_rfl))|simp -dsimp only[go_sem,seval, *,Option.isNone_some,Option.isSome_some]|((with_reducible refine opK_c ?_);simp -dsimp only[go_sem,seval,Option.isNone_some,Option.isSome_some];first|refine callK_r (by first|assumption|fail) (by first|exact .inl rfl|exact .inr rfl) ?_|refine callK_i (by assumption) (by repeat(first|exact DLe.refl _|exact DLe.nil _|(refine DLe.tup ?_)|(refine DLe.agg ?_ rfl)|exact trivial|(refine And.intro ?_ ?_))) (by first|exact .inl rfl|exact .inr rfl) ?_)|omega|exact decide_eq_true (by omega)|exact DLe.refl _)
  all_goals first|omega|exact weak_eq rfl rfl
theorem clone_int (l:List Int)(hl:l.length≤1000000000):
 MSpec Tryz.prog 53 [.d (.sl 1 (l.map encA))] [] (.own 0 1) [.row 3 1 1 (dRows (l.map encA))]:=by
 cases l with
 |nil=>
  refine ms_empty (pl:=[]) (ql:=[]) fun ao cap=>?_
  cases ao with
  |none=>
   simp only[List.nil_append]
   refine mj Tryz.func53 Tryz.ntmps53 Tryz.results53 ?_
   repeat' (first|(with_reducible refine And.intro ?_ ?_)|(with_reducible refine gK_i (fun _=>?_) (fun _=>?_))|(with_reducible refine condS_i (fun _=>?_) (fun _=>?_))|(with_reducible refine drw_i (by kernel_rfl))|simp -dsimp only[go_sem,seval, *,Option.isNone_none,Option.isSome_some]|((with_reducible refine opK_c ?_);simp -dsimp only[go_sem,seval,Option.isNone_none,Option.isSome_some];first|refine callK_r (by first|assumption|fail) (by first|exact .inl rfl|exact .inr rfl) ?_|refine callK_i (by assumption) (by repeat(first|exact DLe.refl _|exact DLe.nil _|(refine DLe.tup ?_)|(refine DLe.agg ?_ rfl)|exact trivial|(refine And.intro ?_ ?_))) (by first|exact .inl rfl|exact .inr rfl) ?_)|omega|exact decide_eq_true (by omega)|exact DLe.refl _)
   refine weak_ret_adopt (h:=[]) (Nat.le_refl _) 3 1 ?_
   exact(weak_ret_bump 0 0 3 1 [] rfl (weak_eq rfl rfl))
  |some a=>
   simp only[List.nil_append]
   refine mj Tryz.func53 Tryz.ntmps53 Tryz.results53 ?_
   repeat' (first|(with_reducible refine And.intro ?_ ?_)|(with_reducible refine gK_i (fun _=>?_) (fun _=>?_))|(with_reducible refine condS_i (fun _=>?_) (fun _=>?_))|(with_reducible refine drw_i (by kernel_rfl))|simp -dsimp only[go_sem,seval, *,Option.isNone_some,Option.isSome_some]|((with_reducible refine opK_c ?_);simp -dsimp only[go_sem,seval,Option.isNone_some,Option.isSome_some];first|refine callK_r (by first|assumption|fail) (by first|exact .inl rfl|exact .inr rfl) ?_|refine callK_i (by assumption) (by repeat(first|exact DLe.refl _|exact DLe.nil _|(refine DLe.tup ?_)|(refine DLe.agg ?_ rfl)|exact trivial|(refine And.intro ?_ ?_))) (by first|exact .inl rfl|exact .inr rfl) ?_)|omega|exact decide_eq_true (by omega)|exact DLe.refl _)
   exact weak_eq rfl rfl
 |cons x l=>
  simp only[List.length_cons]at hl
  refine mj Tryz.func53 Tryz.ntmps53 Tryz.results53 ?_
  repeat' (first|(with_reducible refine And.intro ?_ ?_)|(with_reducible refine gK_i (fun _=>?_) (fun _=>?_))|(with_reducible refine condS_i (fun _=>?_) (fun _=>?_))|(with_reducible refine drw_i (by kernel_rfl))|simp -dsimp only[go_sem,seval, *,Option.isNone_some,Option.isSome_some]|((with_reducible refine opK_c ?_);simp -dsimp only[go_sem,seval,Option.isNone_some,Option.isSome_some];first|refine callK_r (by first|assumption|fail) (by first|exact .inl rfl|exact .inr rfl) ?_|refine callK_i (by assumption) (by repeat(first|exact DLe.refl _|exact DLe.nil _|(refine DLe.tup ?_)|(refine DLe.agg ?_ rfl)|exact trivial|(refine And.intro ?_ ?_))) (by first|exact .inl rfl|exact .inr rfl) ?_)|omega|exact decide_eq_true (by omega)|exact DLe.refl _)
  all_goals first|omega|exact weak_eq rfl rfl
theorem beginE_m (v:Vpc)(h:chkV v≠0):
 MSpec Tryz.prog 142 [.d (.agg (encV v))] [] (.tup [.ptr 1 0,.d (.v (.int .i64 (chkV v)))]) [.gone,.box 55 [.d (.v (.int .i64 0)),.d (.v (.slice none 0 0)),.d (.v (.slice none 0 0))]]:=by
 have hc:=vcheck_p v
 have h1:(chkV v !=0)=true:=by simpa using h
 refine mj Tryz.func142 Tryz.ntmps142 Tryz.results142 ?_
 refine wk1 ?_<;>intros
 exact(weak_gone 0 (by simp)).trans (weak_eq rfl rfl)
theorem beginD_m (v:Vpc)(h:chkV v=0)(h4:v.ranges.length≤4)(h6:v.subs.length≤6)(h8:∀s∈v.subs,s.faces.length≤8∧∀f∈s.faces,f.addrs.length≤4):
 MSpec Tryz.prog 142 [.d (.agg (encV v))] [] (.tup [.ptr 2 0,.d (.v (.int .i64 0))]) [.gone,.row 58 3 1 (dRows (v.ranges.map encG)),.box 55 [.d (.v (.int .i64 v.id)),.own 1 1,.own 3 v.subs.length],.row 71 4 v.subs.length (dRows (v.subs.map encN))]:=by
 have hc:=vcheck_p v
 rw[h]at hc
 replace h:=Lib.hid h
 replace h8:=Lib.hid h8
 have hcl:=clone_Range encG v.ranges (by omega)
 refine mj Tryz.func142 Tryz.ntmps142 Tryz.results142 ?_
 have z1z:=Ln.mk (ls:=[]) (hcl)
 refine wk1 ?_<;>intros
 refine loopL tab_ok mixed v.subs (fun _=>True) (fun k=>[(28,.d (.v (.int .i64 k))),(27,.d (.v (.int .i64 v.subs.length))),(26,.d (.sl 4 (v.subs.map encN))),(5,.ptr 2 0)])
  (fun k=>[.gone,.row 58 3 1 (dRows (v.ranges.map encG)),.box 55 [.d (.v (.int .i64 v.id)),.own 1 1,.own 3 k],.row 71 4 k (dRows ((v.subs.take k).map encN))]) trivial ?_ ?_ ?_
 ·refine(weak_gone 0 (by simp)).trans ((weak_adopt_box (by simp) 2 55 [.d (.v (.int .i64 v.id)),.own 1 1,.d (.v (.slice none 0 0))] 2 71 4 rfl rfl rfl).trans ?_)
  exact weak_forget _ (by simp) (by rfl) se bz2 bz2
 ·intro k s hs hk _ CO hCO
  have hkI:(k:Int) < (v.subs.length:Int):=by omega
  have hwr:=wi k (by omega)
  have h8s:=h8.out s (List.mem_of_getElem? hs)
  have hb1:k+1≤100:=by omega
  have hlk:(List.take k v.subs).length=k:=by rw[List.length_take];omega
  replace hs:=Lib.hid hs
  have hs1:=hs.out
  refine wk1 ?_<;>intros
  refine loopL tab_ok mixed s.faces (fun _=>True) (fun j=>[(40,.d (.v (.int .i64 j))),(39,.d (.v (.int .i64 s.faces.length))),(38,.d (.sl 2 (s.faces.map encF))),(28,.d (.v (.int .i64 k))),(27,.d (.v (.int .i64 v.subs.length))),(26,.d (.sl 4 (v.subs.map encN))),(8,.ptr 5 0),(5,.ptr 2 0)])
   (fun j=>[.gone,.row 58 3 1 (dRows (v.ranges.map encG)),.box 55 [.d (.v (.int .i64 v.id)),.own 1 1,.own 3 k],.row 71 4 k (dRows ((v.subs.take k).map encN)),.gone,.box 71 [.d (.v (.int .i64 s.id)),.d (.v (.int .i64 s.at_.at_)),.d (.v (.int .i64 s.at_.len)),.own 6 j],.row 74 2 j (dRows ((s.faces.take j).map encF))]) trivial ?_ ?_ ?_
  ·refine(weak_gone 4 (by simp)).trans ((weak_adopt_box (by simp) 5 71 [.d (.v (.int .i64 s.id)),.d (.v (.int .i64 s.at_.at_)),.d (.v (.int .i64 s.at_.len)),.d (.v (.slice none 0 0))] 3 74 2 rfl rfl rfl).trans ?_)
   exact weak_forget _ (by simp) (by rfl) se bz2 bz2
  ·intro j f hf hj _ C hC
   have hjI:(j:Int) < (s.faces.length:Int):=by omega
   have hwj:=wi j (by omega)
   have hfl:=h8s.2 f (List.mem_of_getElem? hf)
   have hb2:j+1≤100:=by omega
   have hlj:(List.take j s.faces).length=j:=by rw[List.length_take];omega
   replace hf:=Lib.hid hf
   have hf1:=hf.out
   have z1z:=Ln.mk (ls:=[]) (clone_int f.addrs (by omega))
   refine wk1 ?_<;>intros
   refine hC _ _ trivial ((weak_freeze 8 1 3 1 (f.addrs.map encA) rfl).trans ?_)
   simp only[fzE,fz,fzL,fzH,fzC,fzR,fzR_app,fzR_d,fzL_d,List.map_cons,List.map_nil,Nat.reduceAdd,Nat.reduceEqDiff,reduceIte,and_true,true_and,and_self,and_false,false_and,Nat.zero_add,Nat.add_zero,reduceCtorEq,fzR_zipG]
   exact weak_forget _ (by simp) (by rw[take_snoc hf.out,List.map_append,List.map_cons,List.map_nil,←dRows_app];rfl) se bz2 bz2
  ·intro _ C
   refine wk1 ?_<;>intros
   refine hCO _ _ trivial ((weak_freeze 6 s.faces.length 74 2 (s.faces.map encF) rfl).trans ?_)
   simp only[fzE,fz,fzL,fzH,fzC,fzR,fzR_app,fzR_d,fzL_d,List.map_cons,List.map_nil,Nat.reduceAdd,Nat.reduceEqDiff,reduceIte,and_true,true_and,and_self,and_false,false_and,Nat.zero_add,Nat.add_zero,reduceCtorEq]
   exact weak_forget _ (by simp) (by rw[take_snoc hs.out,List.map_append,List.map_cons,List.map_nil,←dRows_app];rfl) se bz2 bz2
 ·intro _ C
  refine wk1 ?_<;>intros
  (try rw[List.take_length])
  exact weak_eq rfl rfl
section
open Go.Proofs Go.ChangeShapes Go.WideShapes Go.Deep
section
variable {H:Type}{enc:TypeId × Value→H}{P:Program}{w:World}{base:Nat}{spare:Nat→Bool}{held:Bool}
def Rd {α:Type}(enc:TypeId × Value→H)(P:Program)(w:World)(base:Nat)(spare:Nat→Bool)(held:Bool)(t:TypeId)(R:List Value→α→Prop):Prop:=
 ∀fuel cs x,DataW.trod enc P w base spare held fuel t cs=some x→∃a,R cs a
theorem Rd.map {α β:Type}{t:TypeId}{R:List Value→α→Prop}{R':List Value→β→Prop}(h:Rd enc P w base spare held t R)(f:α→β)(hf:∀cs a,R cs a→R' cs (f a)):Rd enc P w base spare held t R':=by
 intro fuel cs x hx
 obtain⟨a,ha⟩:=h fuel cs x hx
 exact⟨f a,hf _ _ ha⟩
def in64 (n:Int):Prop:= -9223372036854775808≤n∧n≤9223372036854775807
def IntR (cs:List Value)(n:Int):Prop:=cs=[.int .i64 n]∧in64 n
theorem in64_wf {n:Int}(h:(Lit.int .i64 n).wf=true):in64 n:=by
 simp only[Lit.wf,Bool.and_eq_true,decide_eq_true_eq]at h
 have h1:IntKind.i64.min= -9223372036854775808:=rfl
 have h2:IntKind.i64.max=9223372036854775807:=rfl
 rw[h1,h2]at h
 exact h
theorem rd_int {t:TypeId}(ht:P.underlying t=some (.int .i64)):Rd enc P w base spare held t IntR:=by
 intro fuel cs x hx
 obtain⟨n,h,_,hw⟩:=DataW.trod_int ht hx
 exact⟨n,h,in64_wf hw⟩
theorem rd_field {α:Type}{t:TypeId}{fs:Array Field}{fuel:Nat}{cs:List Value}{x:DataW H × List MemPlace}(ht:P.underlying t=some (.struct fs))(h:DataW.trod enc P w base spare held fuel t cs=some x)
 (j:Nat) {f:Field} (hf:fs[j]? =some f) {R:List Value→α→Prop} (hr:Rd enc P w base spare held f.type R):∃a,R ((cs.drop f.offset).take (P.cellsOf f.type)) a:=by
 obtain⟨xs,n,_,_,_,hlen,hg⟩:=DataW.trod_struct ht h
 have h1:=hg j f hf
 have hj:j < xs.length:=by rw[hlen];exact(Array.getElem?_eq_some_iff.1 hf).1
 rw[List.getElem?_eq_getElem hj]at h1
 exact hr _ _ _ h1
theorem rd_len {t:TypeId}{fs:Array Field}{fuel:Nat}{cs:List Value}{x:DataW H × List MemPlace}(ht:P.underlying t=some (.struct fs))(h:DataW.trod enc P w base spare held fuel t cs=some x):cs.length=P.cellsOf t:=by
 obtain⟨_,_,_,_,h,_⟩:=DataW.trod_struct ht h
 exact h
theorem pick_list {α:Type}{Q:Nat→α→Prop}:∀(n:Nat),(∀i,i < n→∃a,Q i a)→∃l:List α,l.length=n∧∀i (h:i < l.length),Q i l[i]
 |0,_=>⟨[],rfl,fun i h=>by simp at h⟩
 |n+1,h=>by
  obtain⟨l,hl,hq⟩:=pick_list n fun i hi=>h i (by omega)
  obtain⟨a,ha⟩:=h n (by omega)
  refine⟨l++[a],by simp[hl],fun i hi=>?_⟩
  rcases Nat.lt_or_ge i l.length with h1|h1
  ·rw[List.getElem_append_left h1];exact hq i h1
  ·have:i=n:=by simp at hi;omega
   subst this
   rw[List.getElem_append_right h1]
   simpa using ha
def inW (w:World):Area:=fun b=>b < w.heap.size
theorem arg_int {r:Reach}{b0:Nat}{t:TypeId}{v:Value}{d:DataW H}{p:List MemPlace}(ht:P.underlying t=some (.int .i64))(hval:Value.okWide P w r b0 t v)(hd:DataW.Trod enc P w base spare held t v d p):∃n,v= .int .i64 n∧in64 n:=by
 obtain⟨n,h,_,_,hw⟩:=open_int ht hval hd
 exact⟨n,h,in64_wf hw⟩
theorem trod_lts {t:TypeId}{v:Value}{d:DataW H}{p:List MemPlace}(h:DataW.Trod enc P w base spare held t v d p):∀x∈p,x.block < w.heap.size:=by
 obtain⟨m,hm⟩:=h
 exact DataW.trod_lt m _ _ _ hm
end
end
section
open Go.Proofs Go.Shelf
structure SRow (HP:List Value→Int→Prop)(sz:Nat) where
 xs:List Value
 len:xs.length=sz
 one:∀v∈xs,v.oneCell'=true
 key:Int
 head:HP xs key
@[reducible] def HP0 (xs:List Value)(k:Int):Prop:=xs[0]? =some (.int .i64 k)
def cfS {HP:List Value→Int→Prop}{sz:Nat}(x y:SRow HP sz):Int:=cmpI x.key y.key
theorem ltS {HP:List Value→Int→Prop}{sz:Nat}(x y:SRow HP sz):ltOf cfS x y=decide (x.key < y.key):=cmpI_neg _ _
theorem swoS {HP:List Value→Int→Prop}{sz:Nat}:Sort.SWO (ltOf (cfS (HP:=HP) (sz:=sz))) where
 irrefl x:=by rw[ltS];simp
 trans x y z h1 h2:=by rw[ltS]at*;simp at*;omega
 ntrans x y z h1 h2:=by rw[ltS]at*;simp at*;omega
@[reducible] def srow_inh (n:Nat):Inhabited (SRow HP0 (n+1)):=⟨⟨List.replicate (n+1) (.int .i64 0),by simp,fun v hv=>by rw[List.eq_of_mem_replicate hv];rfl,0,by unfold HP0;simp⟩⟩
theorem putCells_take (F cur:Array Value)(h:F.size≤cur.size):(Sort.putCells id 0 F cur).toList.take F.size=F.toList∧(Sort.putCells id 0 F cur).size=cur.size:=by
 refine⟨?_,by simp[Sort.putCells]⟩
 apply List.ext_getElem?
 intro i
 by_cases hi:i < F.size
 ·rw[List.getElem?_take_of_lt hi]
  have hc:i < cur.size:=by omega
  simp[Sort.putCells,hi,hc]
 ·rw[List.getElem?_eq_none (by rw[List.length_take];omega),List.getElem?_eq_none (by simp;omega)]
theorem flatK_rows {HP:List Value→Int→Prop}{sz:Nat}(n:Nat)(hs:sz=n+1)[Inhabited (SRow HP sz)](d:Array (SRow HP sz)):(Sort.flatK (fun r:SRow HP sz=>r.xs) sz d).toList=(d.toList.map (·.xs)).flatten:=by
 have hrow:∀r∈d.toList.map (·.xs),r.length=sz:=fun r hr=>by
  obtain⟨x,-,rfl⟩:=List.mem_map.1 hr;exact x.len
 have hlen:(d.toList.map (·.xs)).flatten.length=d.size*sz:=by rw[flatten_len hrow];simp
 apply List.ext_getElem?
 intro t
 by_cases ht:t < d.size*sz
 ·have h1:t / sz < d.size:=Nat.div_lt_of_lt_mul (by rw[Nat.mul_comm];exact ht)
  have h2:t % sz < sz:=Nat.mod_lt _ (by omega)
  have h3:t / sz*sz+t % sz=t:=by rw[Nat.mul_comm];exact Nat.div_add_mod t sz
  have h4:=flatten_atG hrow (t / sz) (t % sz) h2
  rw[h3]at h4
  rw[h4]
  have h5:=Sort.get_flatK (fun r:SRow HP sz=>r.xs) sz d t ht
  have h6:t < (Sort.flatK (fun r:SRow HP sz=>r.xs) sz d).size:=by rw[Sort.size_flatK];exact ht
  rw[getElem!_pos (Sort.flatK (fun r:SRow HP sz=>r.xs) sz d) t h6]at h5
  rw[Array.getElem?_toList,Array.getElem?_eq_getElem h6,h5]
  have hl:(d[t / sz]).xs.length=sz:=(d[t / sz]).len
  have e7:(d[t / sz]).xs[t % sz]? =some ((d[t / sz]).xs[t % sz]!):=by
   rw[getElem!_pos (d[t / sz]).xs (t % sz) (by rw[hl];exact h2)]
   exact List.getElem?_eq_getElem _
  rw[getElem!_pos d (t / sz) h1]
  rw[List.getElem?_map,Array.getElem?_toList,Array.getElem?_eq_getElem h1]
  simp only[Option.map_some,Option.bind_some]
  exact e7.symm
 ·rw[List.getElem?_eq_none (by simp;omega),List.getElem?_eq_none (by omega)]
theorem sort_raw {HP:List Value→Int→Prop}{n:Nat}(inh:Inhabited (SRow HP (n+1))){P:Program}{ρ:Ren}(L:SlLaysF0.n6 P ρ){f fc E:Nat}(hf:ρ.f 6=f)(aE:∀w,(isAgg (ρ.t 24)).run P w= .ok true w)(zE:∀w,(Go.sizeOf (ρ.t 24)).run P w= .ok (n+1) w)(eg:∀args w,(callFunc fc args).run P w= .ok (.enter fc args) w)
 (hcmp:∀(x y:SRow HP (n+1)) (W:World),Calls P fc #[.agg x.xs.toArray,.agg y.xs.toArray] W fun e w'=>e= .returned (.int .i64 (cfS x y))∧∃q os',w'=Sort.grow (W.drewN q) os')
 (ds:List (SRow HP (n+1))) (w:World) (gb cap:Nat) (cur:Array Value) (hh:w.heap[gb]? =some (.cells cur E (0,0))) (hc:cur.toList.take (ds.length*(n+1))=(ds.map (·.xs)).flatten) (hsz:ds.length*(n+1)≤cur.size) (hl:ds.length≤1000000):
 Calls P f #[.slice (some ⟨gb,0,none⟩) ds.length cap,.func (.func fc) #[] #[]] w fun e w'=>e= .returned (.tuple #[])∧∃(ds':List (SRow HP (n+1))) (cur':Array Value),ds'.Perm ds∧ds'.Pairwise (fun x y=>x.key≤y.key)∧w'.heap[gb]? =some (.cells cur' E (0,0))∧cur'.size=cur.size∧
  cur'.toList.take (ds.length*(n+1))=(ds'.map (·.xs)).flatten∧OneB w w' (some gb):=by
 have hg:gb < w.heap.size:=(Array.getElem?_eq_some_iff.1 hh).1
 have hfl:=flatK_rows n rfl ds.toArray
 rw[List.toList_toArray]at hfl
 have hH:Sort.HoldsK (fun r:SRow HP (n+1)=>r.xs) (n+1) w gb 0 ds.toArray:=by
  intro t ht
  have ht2:=ht
  rw[Sort.size_flatK,List.size_toArray]at ht2
  refine⟨?_,free_of_block hh⟩
  have hcell:∀o,w.cell? ⟨gb,o,none⟩=cur[o]? :=fun o=>by simp[World.cell?,hh]
  rw[Nat.zero_add,hcell]
  have h1:(cur.toList.take (ds.length*(n+1)))[t]? =cur[t]? :=by rw[List.getElem?_take_of_lt ht2];simp
  rw[←h1,hc,←hfl,Array.getElem?_toList,getElem!_pos (Sort.flatK (fun r:SRow HP (n+1)=>r.xs) (n+1) ds.toArray) t ht,Array.getElem?_eq_getElem ht]
  rfl
 have hcon:=AnyQ.slices_SortFunc L (n+1) aE zE (fun r:SRow HP (n+1)=>r.xs) (·.len) (·.one) cfS swoS fc #[] gb 0 cap ds.toArray w eg (fun _ _ _ _ x y=>hcmp x y _) hH hg (by simp;omega)
 rw[hf,List.size_toArray]at hcon
 refine Calls.mono hcon ?_
 rintro e w' ⟨rfl,d',m,os,⟨hp1,-,hp⟩,hs,rfl⟩
 replace hp1:d'.size=ds.length:=by simpa using hp1
 have hF:(Sort.flatK (fun r:SRow HP (n+1)=>r.xs) (n+1) d').size≤cur.size:=by rw[Sort.size_flatK,hp1];exact hsz
 obtain⟨p1,p2⟩:=putCells_take (Sort.flatK (fun r:SRow HP (n+1)=>r.xs) (n+1) d') cur hF
 refine⟨rfl,d'.toList,Sort.putCells id 0 (Sort.flatK (fun r:SRow HP (n+1)=>r.xs) (n+1) d') cur,?_,?_,?_,p2,?_,?_⟩
 ·have e1:d'.extract 0 ds.length=d':=by rw[←hp1];exact Array.extract_size
  have e2:ds.toArray.extract 0 ds.length=ds.toArray:=by simp
  rw[e1,e2]at hp
  simpa using hp
 ·rw[List.pairwise_iff_getElem]
  intro i j hi hj hij
  have hj':j < d'.size:=by simpa using hj
  have:=hs i j (Nat.zero_le _) hij (by omega)
  rw[ltS,getElem!_pos d' i (by omega),getElem!_pos d' j hj']at this
  simpa using this
 ·show (Sort.grow (Sort.putRow id (Sort.ahead w m) gb 0 (Sort.flatK (fun r:SRow HP (n+1)=>r.xs) (n+1) d')) os).heap[gb]? =_
  rw[Sort.heap_grow_old _ _ (by simpa using hg)]
  show (w.heap.modify gb (Sort.onCells _))[gb]? =_
  rw[Array.getElem?_modify,if_pos rfl,hh]
  rfl
 ·rw[show ds.length*(n+1)=(Sort.flatK (fun r:SRow HP (n+1)=>r.xs) (n+1) d').size by rw[Sort.size_flatK,hp1],p1,flatK_rows n rfl]
 ·refine⟨rfl,rfl,rfl,?_,fun b hb hne=>?_⟩
  ·show w.heap.size≤(Sort.grow (Sort.putRow id (Sort.ahead w m) gb 0 _) os).heap.size
   rw[Sort.size_grow,Sort.size_putRow,Sort.heap_ahead];omega
  ·show (Sort.grow (Sort.putRow id (Sort.ahead w m) gb 0 (Sort.flatK (fun r:SRow HP (n+1)=>r.xs) (n+1) d')) os).heap[b]? =_
   rw[Sort.heap_grow_old _ _ (by simpa using hb)]
   show (w.heap.modify gb (Sort.onCells _))[b]? =_
   rw[Array.getElem?_modify,if_neg (fun e=>hne (by rw[e]))]
theorem key_sort {α β:Type}{ka:α→Int}{kb:β→Int}{l l':List α}{d d':List β}(hk:d.map kb=l.map ka)(hp:l'.Perm l)(hs:l'.Pairwise fun x y=>ka x < ka y)(hq:d'.Perm d)(ht:d'.Pairwise fun x y=>kb x≤kb y):d'.map kb=l'.map ka:=
 List.Perm.eq_of_pairwise (le:=fun x y:Int=>x≤y) (fun a b _ _ h1 h2=>by omega) (by rw[List.pairwise_map];exact ht) (by rw[List.pairwise_map];exact hs.imp fun h=>by omega) ((hq.map kb).trans (by rw[hk];exact(hp.map ka).symm))
theorem sort_hs {HP:List Value→Int→Prop}{n:Nat}(inh:Inhabited (SRow HP (n+1))){P:Program}{ρ:Ren}(L:SlLaysF0.n6 P ρ){f fc E g:Nat}(hf:ρ.f 6=f)(hfn:FnOK P f)(aE:∀w,(isAgg (ρ.t 24)).run P w= .ok true w)(zE:∀w,(Go.sizeOf (ρ.t 24)).run P w= .ok (n+1) w)(eg:∀args w,(callFunc fc args).run P w= .ok (.enter fc args) w)
 (hcmp:∀(x y:SRow HP (n+1)) (W:World),Calls P fc #[.agg x.xs.toArray,.agg y.xs.toArray] W fun e w'=>e= .returned (.int .i64 (cfS x y))∧∃q os',w'=Sort.grow (W.drewN q) os')
 {α:Type} (enc:α→List D) (key:α→Int) {l l':List α} (hkey:∀x∈l,∀vs:List Value,vs.length=n+1→(∀(j:Nat) (d:D) (v:Value),(enc x)[j]? =some d→vs[j]? =some v→∃M w,RepD M w d v)→HP vs (key x)) (hl0:l≠[]) (hp:l'.Perm l) (hs:l'.Pairwise fun x y=>key x < key y) (hsz:l.length≤1000000):
 MSpec P f [.own 0 g,.d (.clo fc [])] [.row E (n+1) g (dRows (l.map enc))] (.d (.tup [])) [.row E (n+1) g (dRows (l'.map enc))]:=by
 refine⟨hfn,Nat.le_refl _,by simp[belowL,belowP],by simp[belowH,belowC,belowR_d],fun X hP hn hm w c vs hr hps=>?_⟩
 have hlen:=hps.1
 match vs,hlen with
 |[v0,v1],_=>
  have r0:=hps.2 0 _ v0 rfl rfl
  have r1:=repD_inv (hps.2 1 _ v1 rfl rfl)
  have hne:dRows (l.map enc)≠[]:=by simpa[dRows]using hl0
  have hck:=hr.chunk 0
  cases r0 with
  |own _ _ _ hov h1=>
   obtain⟨gb,cap,rfl⟩:=own_some hck hov hne
   obtain⟨cur,xs,q1,q2,q3,q4,q5,q6,q7,q8,q9,q10,q11⟩:=row_cells hck hov hne
   have hxone:=RepPs.one q2 (fun d hd=>by obtain⟨r,hr,hd⟩:=List.mem_flatten.1 hd;exact q6 r hr d hd)
   have hln:(dRows (l.map enc)).length=l.length:=by rw[dRows_len,List.length_map]
   rw[hln]at q3 q4 q8 q10 hov ⊢
   have hv1:v1= .func (.func fc) #[] #[]:=by
    cases r1 with
    |clo _ _ vs hl hrep=>
     have:vs=[]:=by simpa using hl.symm
     subst this
     rfl
   subst hv1
   have hxs:cur.toList.take (l.length*(n+1))=xs:=by
    apply List.ext_getElem?
    intro j
    by_cases hj:j < l.length*(n+1)
    ·rw[List.getElem?_take_of_lt hj,Array.getElem?_toList,q4 j hj]
    ·rw[List.getElem?_eq_none (by rw[List.length_take];omega),List.getElem?_eq_none (by omega)]
   obtain⟨ds,hdl,hds⟩:=pick_list (Q:=fun i (r:SRow HP (n+1))=>r.xs=(xs.drop (i*(n+1))).take (n+1)∧∃x,l[i]? =some x∧r.key=key x) l.length fun i hi=>by
    have hb:(i+1)*(n+1)≤l.length*(n+1):=Nat.mul_le_mul_right _ hi
    rw[Nat.succ_mul]at hb
    obtain⟨x,hx⟩:∃x,l[i]? =some x:=⟨_,List.getElem?_eq_getElem hi⟩
    have hxl:((xs.drop (i*(n+1))).take (n+1)).length=n+1:=by rw[List.length_take,List.length_drop];omega
    have h0:HP ((xs.drop (i*(n+1))).take (n+1)) (key x):=hkey x (List.mem_of_getElem? hx) _ hxl fun j d v hd hv=>by
     have hj:j < n+1:=by rw[←hxl];exact(List.getElem?_eq_some_iff.1 hv).1
     rw[List.getElem?_take_of_lt hj,List.getElem?_drop]at hv
     have hfl:=flatten_atG q5 i j hj
     rw[dRows_get,List.getElem?_map,hx]at hfl
     simp only[Option.map_some,Option.bind_some,List.getElem?_map,hd]at hfl
     exact⟨_,_,repD_inv (q2.2 _ _ v hfl hv)⟩
    exact⟨⟨(xs.drop (i*(n+1))).take (n+1),hxl,fun v hv=>hxone v (List.mem_of_mem_drop (List.mem_of_mem_take hv)),key x,h0⟩,rfl,x,hx,rfl⟩
   have hdrow:∀r∈ds.map (·.xs),r.length=n+1:=fun r hr=>by obtain⟨x,-,rfl⟩:=List.mem_map.1 hr;exact x.len
   have hflat:(ds.map (·.xs)).flatten=xs:=by
    apply List.ext_getElem?
    intro t
    by_cases ht:t < l.length*(n+1)
    ·have h1:t / (n+1) < l.length:=Nat.div_lt_of_lt_mul (by rw[Nat.mul_comm];exact ht)
     have h2:t % (n+1) < n+1:=Nat.mod_lt _ (by omega)
     have h3:t / (n+1)*(n+1)+t % (n+1)=t:=by rw[Nat.mul_comm];exact Nat.div_add_mod t (n+1)
     generalize t / (n+1)=i at h1 h3
     generalize t % (n+1)=j at h2 h3
     have h4:=flatten_atG hdrow i j h2
     rw[h3,List.getElem?_map,List.getElem?_eq_getElem (show i < ds.length by omega)]at h4
     rw[h4]
     simp only[Option.map_some,Option.bind_some]
     rw[(hds _ (show i < ds.length by omega)).1,List.getElem?_take_of_lt h2,List.getElem?_drop,h3]
    ·rw[List.getElem?_eq_none (by rw[flatten_len hdrow,List.length_map,hdl];omega),List.getElem?_eq_none (by omega)]
   have hkm:ds.map (·.key)=l.map key:=by
    apply List.ext_getElem?
    intro i
    rw[List.getElem?_map,List.getElem?_map]
    by_cases hi:i < l.length
    ·obtain⟨-,x,hx,hk⟩:=hds i (by omega)
     rw[List.getElem?_eq_getElem (by omega),hx]
     simp[hk]
    ·rw[List.getElem?_eq_none (show ds.length≤i by omega),List.getElem?_eq_none (show l.length≤i by omega)];rfl
   have hcall:=sort_raw inh L hf aE zE eg hcmp ds w gb cap cur q1 (by rw[hdl,hxs,hflat]) (by rw[hdl];exact q8) (by omega)
   rw[hdl]at hcall
   rw[←hP]at hcall
   rw[hP]at hcall
   refine hcall.mono fun e w' ⟨he,ds',cur',hp',hs',hw',hcs,hct,hone⟩=>?_
   have hkk:=key_sort (ka:=key) (kb:=SRow.key) hkm hp hs hp' hs'
   have hdl':ds'.length=l.length:=by rw[hp'.length_eq,hdl]
   have hll':l'.length=l.length:=hp.length_eq
   have hdrow':∀r∈ds'.map (·.xs),r.length=n+1:=fun r hr=>by obtain⟨x,-,rfl⟩:=List.mem_map.1 hr;exact x.len
   have hin2:∀r∈dRows (l'.map enc),r.length=n+1:=fun r hr=>by
    obtain⟨q,hq,rfl⟩:=dRows_mem hr
    obtain⟨x,hx,rfl⟩:=List.mem_map.1 hq
    exact q5 _ (List.mem_map.2 ⟨enc x,List.mem_map.2 ⟨x,hp.mem_iff.1 hx,rfl⟩,rfl⟩)
   have hin3:∀r∈dRows (l'.map enc),∀d∈r,d.one=true:=fun r hr d hd=>by
    obtain⟨q,hq,rfl⟩:=dRows_mem hr
    obtain⟨x,hx,rfl⟩:=List.mem_map.1 hq
    exact q6 _ (List.mem_map.2 ⟨enc x,List.mem_map.2 ⟨x,hp.mem_iff.1 hx,rfl⟩,rfl⟩) d hd
   have hnd:∀i j (hi:i < l.length) (hj:j < l.length),key l[i]=key l[j]→i=j:=by
    have h1:(l'.map key).Nodup:=by
     unfold List.Nodup
     rw[List.pairwise_map]
     exact hs.imp fun h=>by omega
    have h2:(l.map key).Nodup:=(hp.map key).nodup_iff.1 h1
    intro i j hi hj h
    rw[List.nodup_iff_pairwise_ne,List.pairwise_iff_getElem]at h2
    rcases Nat.lt_trichotomy i j with hlt|he|hlt
    ·exact absurd (by rw[List.getElem_map,List.getElem_map];exact h) (h2 i j (by simpa using hi) (by simpa using hj) hlt)
    ·exact he
    ·exact absurd (by rw[List.getElem_map,List.getElem_map];exact h.symm) (h2 j i (by simpa using hj) (by simpa using hi) hlt)
   have hrep':RepPs c w (dRows (l'.map enc)).flatten (ds'.map (·.xs)).flatten:=by
    refine⟨by rw[flatten_len hin2,flatten_len hdrow',dRows_len,List.length_map,List.length_map,hdl',hll'],fun t d u ht hu=>?_⟩
    have htl:t < l.length*(n+1):=by
     have:=(List.getElem?_eq_some_iff.1 hu).1
     rw[flatten_len hdrow',List.length_map,hdl']at this
     exact this
    have h1:t / (n+1) < l.length:=Nat.div_lt_of_lt_mul (by rw[Nat.mul_comm];exact htl)
    have h2:t % (n+1) < n+1:=Nat.mod_lt _ (by omega)
    have h3:t / (n+1)*(n+1)+t % (n+1)=t:=by rw[Nat.mul_comm];exact Nat.div_add_mod t (n+1)
    generalize t / (n+1)=i at h1 h3
    generalize t % (n+1)=j at h2 h3
    have e1:=flatten_atG hin2 (i) (j) h2
    have e2:=flatten_atG hdrow' (i) (j) h2
    rw[h3,dRows_get,List.getElem?_map,List.getElem?_eq_getElem (l:=l') (show i < l'.length by omega)]at e1
    rw[h3,List.getElem?_map,List.getElem?_eq_getElem (l:=ds') (show i < ds'.length by omega)]at e2
    simp only[Option.map_some,Option.bind_some]at e1 e2
    obtain⟨p,hpl,hpe⟩:=List.mem_iff_getElem.1 (hp'.mem_iff.1 (List.getElem_mem (show i < ds'.length by omega)))
    obtain⟨p2,hpl2,hpe2⟩:=List.mem_iff_getElem.1 (hp.mem_iff.1 (List.getElem_mem (show i < l'.length by omega)))
    obtain⟨g1,x,g2,g3⟩:=hds p hpl
    have hx:l[p]'(by omega)=x:=by rw[List.getElem?_eq_getElem (by omega)]at g2;exact Option.some.inj g2
    have hkey2:(ds'[i]'(by omega)).key=key (l'[i]'(by omega)):=by
     have:=congrArg (fun z:List Int=>z[i]?) hkk
     simp only[List.getElem?_map]at this
     rw[List.getElem?_eq_getElem (by omega),List.getElem?_eq_getElem (by omega)]at this
     exact Option.some.inj this
    have hpp:p=p2:=hnd p p2 (by omega) hpl2 (by rw[hpe2,←hkey2,←hpe,g3,hx])
    subst hpp
    rw[←hpe2,hx]at e1
    rw[←hpe,g1,List.getElem?_take_of_lt h2,List.getElem?_drop]at e2
    have e3:=flatten_atG q5 p (j) h2
    rw[dRows_get,List.getElem?_map,g2]at e3
    simp only[Option.map_some,Option.bind_some]at e3
    rw[←e3]at e1
    rw[e1]at ht
    rw[e2]at hu
    exact q2.2 _ d u ht hu
   have hcap:0 < cap:=by have:=List.length_pos_iff.2 hl0;omega
   have hput:=hr.put_row (w':=w') (k:=0) (rows':=dRows (l'.map enc)) (xs':=(ds'.map (·.xs)).flatten) rfl hov (by rw[ownB_pos hcap];exact hone) (by
    rw[dRows_len,List.length_map,hll']
    exact .row gb l.length cap cur' _ hcap hw' q10 q9 (by rw[hcs];exact q11) (by rw[flatten_len hdrow',List.length_map,hdl']) hct) hrep' hin2 hin3
   have hfun:effH [(0,Chunk.row E (n+1) g (dRows (l'.map enc)))] (mkF [] [.row E (n+1) g (dRows (l.map enc))]).heap=hatL [.row E (n+1) g (dRows (l'.map enc))]:=by
    funext k
    rw[effH1]
    cases k with
    |zero=>rfl
    |succ k=>rfl
   rw[hfun]at hput
   refine⟨_,c,he,.d _ _ (.tup [] [] rfl fun j d x h=>by simp at h),hput⟩
theorem sort_ms {n:Nat}{P:Program}{ρ:Ren}(L:SlLaysF0.n6 P ρ){f fc E g:Nat}(hf:ρ.f 6=f)(hfn:FnOK P f)(aE:∀w,(isAgg (ρ.t 24)).run P w= .ok true w)(zE:∀w,(Go.sizeOf (ρ.t 24)).run P w= .ok (n+1) w)(eg:∀args w,(callFunc fc args).run P w= .ok (.enter fc args) w)
 (hcmp:∀(x y:SRow HP0 (n+1)) (W:World),Calls P fc #[.agg x.xs.toArray,.agg y.xs.toArray] W fun e w'=>e= .returned (.int .i64 (cfS x y))∧∃q os',w'=Sort.grow (W.drewN q) os')
 {α:Type} (enc:α→List D) (key:α→Int) (hkey:∀x,(enc x)[0]? =some (.v (.int .i64 (key x)))) {l l':List α} (hl0:l≠[]) (hp:l'.Perm l) (hs:l'.Pairwise fun x y=>key x < key y) (hsz:l.length≤1000000):
 MSpec P f [.own 0 g,.d (.clo fc [])] [.row E (n+1) g (dRows (l.map enc))] (.d (.tup [])) [.row E (n+1) g (dRows (l'.map enc))]:=
 sort_hs (srow_inh n) L hf hfn aE zE eg hcmp enc key (fun x _ vs hl hr=>by
  obtain⟨v,hv⟩:∃v,vs[0]? =some v:=⟨_,List.getElem?_eq_getElem (by omega)⟩
  obtain⟨M,w,h⟩:=hr 0 _ v (hkey x) hv
  show vs[0]? =_
  rw[hv]
  cases h
  rfl) hl0 hp hs hsz
end
section
open Go.Proofs Go.Shelf
theorem isNaN_any (a:Int)(W:World):Calls Tryz.prog 195 #[.int .i64 a] W fun e w'=>e= .returned (.bool false)∧w'=W:=by
 go_enter Tryz.func195,Tryz.ntmps195
 go_wp2_with fail
 go_ret
 exact⟨ret_bool (by simp),rfl⟩
theorem compare_any (a b:Int)(W:World):Calls Tryz.prog 113 #[.int .i64 a,.int .i64 b] W fun e w'=>e= .returned (.int .i64 (cmpI a b))∧w'=W:=by
 by_cases h:a < b
 ·have e:cmpI a b= -1:=by simp[cmpI,h]
  rw[e]
  go_enter Tryz.func113,Tryz.ntmps113
  go_wp2_with fail
  refine(isNaN_any a _).mono ?_
  rintro e w1 ⟨rfl,rfl⟩
  go_wp2_with fail
  refine(isNaN_any b _).mono ?_
  rintro e w1 ⟨rfl,rfl⟩
  go_wp2_with fail
  go_ret
  exact⟨ret_int rfl,rfl⟩
 ·by_cases h2:b < a
  ·have e:cmpI a b=1:=by simp[cmpI,h,h2]
   rw[e]
   go_enter Tryz.func113,Tryz.ntmps113
   go_wp2_with fail
   refine(isNaN_any a _).mono ?_
   rintro e w1 ⟨rfl,rfl⟩
   go_wp2_with fail
   refine(isNaN_any b _).mono ?_
   rintro e w1 ⟨rfl,rfl⟩
   go_wp2_with fail
   go_ret
   exact⟨ret_int rfl,rfl⟩
  ·have e:cmpI a b=0:=by simp[cmpI,h,h2]
   rw[e]
   go_enter Tryz.func113,Tryz.ntmps113
   go_wp2_with fail
   refine(isNaN_any a _).mono ?_
   rintro e w1 ⟨rfl,rfl⟩
   go_wp2_with fail
   refine(isNaN_any b _).mono ?_
   rintro e w1 ⟨rfl,rfl⟩
   go_wp2_with fail
   go_ret
   exact⟨ret_int rfl,rfl⟩
end
section
open Go.Proofs Go.Shelf
theorem cl_Range (x y:SRow HP0 3)(W:World):Calls Tryz.prog 212 #[.agg x.xs.toArray,.agg y.xs.toArray] W fun e w'=>e= .returned (.int .i64 (cfS x y))∧∃q os',w'=Sort.grow (W.drewN q) os':=by
 obtain⟨xs,xl,x1,a,xh⟩:=x
 obtain⟨ys,yl,y1,b,yh⟩:=y
 match xs,xl,ys,yl with
 |[u0,u1,u2],_,[v0,v1,v2],_=>
  simp[HP0]at xh yh
  subst xh
  subst yh
  have hc:=compare_any a b
  unfold cfS
  simp only
  generalize cmpI a b=r at*
  replace hc:=Lib.hid hc
  clear x1 y1
  go_enter Tryz.func212,Tryz.ntmps212
  go_wp2_with fail
  refine(hc.out _).mono ?_
  rintro e w1 ⟨rfl,rfl⟩
  go_wp2_with fail
  go_ret
  exact⟨ret_int rfl,0,_,by rw[Sort.alloc_eq_grow,Sort.alloc_eq_grow,Sort.grow_grow];rfl⟩
theorem sort_Range {l l':List Rng}(g:Nat)(hl0:l≠[])(hp:l'.Perm l)(hs:l'.Pairwise fun x y=>(fun r:Rng=>r.at_.at_) x < (fun r:Rng=>r.at_.at_) y)(hsz:l.length≤1000000):
 MSpec Tryz.prog 211 [.own 0 g,.d (.clo 212 [])] [.row 58 3 g (dRows (l.map encG))] (.d (.tup [])) [.row 58 3 g (dRows (l'.map encG))]:=
 sort_ms Tryz.sortRange rfl (fnok_of Tryz.func211 (by kernel_rfl) rfl) Tryz.isAgg58 Tryz.sizeOf58 (enters_of Tryz.func212 (by kernel_rfl) rfl) cl_Range encG (fun r:Rng=>r.at_.at_) (fun _=>rfl) hl0 hp hs hsz
end
theorem grow1_p (q r:Rng):PSpec Tryz.prog 210 [.agg (encG q),.ept (encG r)] (.v (.bool (q.at_.meets r.at_))):=by
 have hm:PSpec Tryz.prog 19 [.agg (encP q.at_),.agg (encP r.at_)] (.v (.bool (q.at_.meets r.at_))):=meets_p _ _
 refine pj Tryz.func210 Tryz.ntmps210 Tryz.results210 ?_
 exact wk0
theorem vgrow_p (v:Vpc)(r:Rng):PSpec Tryz.prog 141 [.agg (encV v),.agg (encG r)] (.tup [.agg (encV (growV v r).1),.v (.int .i64 (growV v r).2)]):=by
 obtain⟨R,hR⟩:∃R,R=growV v r:=⟨_,rfl⟩
 rw[←hR]
 replace hR:=Lib.hid hR
 by_cases hc:chkV v=0
 ·have hk:=vpcOK_of hc
  have hbg:=beginD_m v hc hk.n4 hk.n6 hk.n8
  have hid:=vids_p r.pool
  have hck:=check_p r.at_
  have hcn:=cntf_Range encG_len (fun q=>q.at_.meets r.at_) v.ranges 210 [.ept (encG r)] (by have:=hk.n4;omega) (fun q _=>grow1_p q r)
  have hR2:R=if growE v r≠0 then (Vpc.zero,growE v r)else ({v with ranges:=insK (·.at_.at_) r v.ranges},0):=by rw[hR.out];unfold growV;rw[if_neg (by simpa using hc)]
  have hn4:=hk.n4
  by_cases hbad:growE v r≠0
  ·rw[if_pos hbad]at hR2
   unfold growE at hR2 hbad
   generalize chk r.at_.at_ r.at_.len=K at*
   generalize idOK r.pool=I at*
   generalize (v.ranges.any fun q=>q.at_.meets r.at_)=M at*
   replace hR2:=Lib.hid hR2
   replace hbad:=Lib.hid hbad
   clear hR hc hk
   have hl4:((v.ranges.length:Int)==4)=decide (v.ranges.length=4):=by rw[Bool.eq_iff_iff];simp;omega
   refine pj Tryz.func141 Tryz.ntmps141 Tryz.results141 ?_
   repeat' (first|(with_reducible refine And.intro ?_ ?_)|(with_reducible refine gK_i (fun _=>?_) (fun _=>?_))|(with_reducible refine condS_i (fun _=>?_) (fun _=>?_))|(with_reducible refine drw_i (by kernel_rfl))|simp -dsimp only[go_sem,seval, *,encV,encG,encP,hl4]|((with_reducible refine opK_c ?_);simp -dsimp only[go_sem,seval,encV,encG,encP,hl4];first|refine callK_r (by first|assumption|exact hid|exact hck|exact hcn) (by first|exact .inl rfl|exact .inr rfl) ?_|(refine callK_i (by assumption) ?_ ?_ ?_;(solve|(repeat(first|exact DLe.refl _|exact DLe.nil _|(refine DLe.tup ?_)|(refine DLe.agg ?_ rfl)|exact trivial|(refine And.intro ?_ ?_))));(solve|exact .inl rfl|exact .inr rfl)))|(refine opK_M [] (hbg) ?_ ?_ ?_ ?_ ?_ ?_;(solve|rfl|simp only[go_sem,seval,encV]);(solve|rfl);(solve|decide);(solve|simp);(solve|simp only[go_sem,seval,lentOK,encV]))|omega|exact decide_eq_true (by omega)|exact DLe.refl _)
   all_goals
    have h1:=hR2.out
    have h2:=hbad.out
    clear hid hck hcn hbg
    first
     |(exfalso;grind)
     |(rw[show R=(Vpc.zero,1) from (by rw[h1];grind)];exact dg)
     |(rw[show R=(Vpc.zero,6) from (by rw[h1];grind)];exact dg)
     |(rw[show R=(Vpc.zero,2) from (by rw[h1];grind)];exact dg)
  ·rw[if_neg hbad]at hR2
   have hg:growE v r=0:=by simpa using hbad
   obtain⟨g1,g2,g3,g4⟩:chk r.at_.at_ r.at_.len=0∧idOK r.pool=true∧(v.ranges.any fun q=>q.at_.meets r.at_)=false∧v.ranges.length≠4:=by
    unfold growE at hg
    generalize (v.ranges.any fun q=>q.at_.meets r.at_)=M at*
    grind
   have hne:∀q∈v.ranges,q.at_.at_≠r.at_.at_:=fun q hq=>meets_at (rangeB_right (hk.ranges q hq)) (by simp[Pfx.right,rightB,g1]) (by have:=List.any_eq_false.1 g3 q hq;simpa using this)
   have hso:=sort_Range (l:=v.ranges++[r]) (l':=insK (·.at_.at_) r v.ranges) 2 (by simp) (insK_perm _ _ _) (insK_sorted hk.rr hne) (by simp;omega)
   rw[g1]at hck
   rw[g2]at hid
   rw[g3]at hcn
   have hl4:((v.ranges.length:Int)==4)=false:=by simp;omega
   have hb1:v.ranges.length+1≤100:=by omega
   simp only[List.map_append,List.map_cons,List.map_nil]at hso
   rw[hR2]
   clear hR hR2 hc hk hne hg hbad
   refine pj Tryz.func141 Tryz.ntmps141 Tryz.results141 ?_
   have z1z:=Ln.mk (ls:=[]) (hbg)
   have z2z:=Ln.mk (ls:=[4]) (hso)
   exact wk0
 ·have hbg:=beginE_m v hc
  have h1:(chkV v !=0)=true:=by simpa using hc
  have hr:R=(Vpc.zero,chkV v):=by rw[hR.out];unfold growV;rw[if_pos hc]
  rw[hr]
  replace hr:=Lib.hid hr
  refine pj Tryz.func141 Tryz.ntmps141 Tryz.results141 ?_
  have z1z:=Ln.mk (ls:=[]) (hbg)
  refine wk1 ?_<;>intros
  exact dg
theorem eqP_list (p q:Pfx):([p.at_,p.len]==[q.at_,q.len])=decide (p=q):=by
 rw[Bool.eq_iff_iff]
 cases p;cases q
 simp
theorem index_Range (l:List Rng)(x:Rng)(hl:l.length≤1000000000):
 PSpec Tryz.prog 130 [.sl 3 (l.map encG),.agg (encG x)] (.v (.int .i64 (idxI (fun y=>decide (x=y)) l))):=by
 refine pj Tryz.func130 Tryz.ntmps130 Tryz.results130 ?_
 refine wk1 ?_<;>intros
 refine loopG tab_ok mixed (fun m e h=>∃k:Nat,k≤l.length∧(∀y∈l.take k,decide (x=y)=false)∧m=l.length - k∧e=[(8,.d (.v (.int .i64 k))),(7,.d (.v (.int .i64 l.length))),(4,.d (.v (.int .i64 0))),(3,.ptr 0 0),(0,.d (.sl 3 (l.map encG)))]∧h=[.box 58 ((encG x).map .d)]) _ _ _ ⟨0,Nat.zero_le _,by simp,rfl,rfl,rfl⟩ (weak_forget _ (by simp) (by(try simp only[encG]);rfl) se bl bl) ?_
 rintro m e h ⟨k,hk,hno,rfl,rfl,rfl⟩ CL hCL
 by_cases hlt:k < l.length
 ·obtain⟨y,hy⟩:∃y,l[k]? =some y:=⟨_,List.getElem?_eq_getElem hlt⟩
  have hltI:(k:Int) < (l.length:Int):=by omega
  have hwr:=wi k (by omega)
  have he:=eqG_list x y
  cases hp:decide (x=y)with
  |false=>
   rw[hp]at he
   have hno2:∀z∈l.take (k+1),decide (x=z)=false:=fun z hz=>by
    rw[take_snoc hy]at hz
    rcases List.mem_append.1 hz with hz|hz
    ·exact hno z hz
    ·rw[List.mem_singleton]at hz;rw[hz];exact hp
   replace hno2:=Lib.hid hno2
   replace hno:=Lib.hid hno
   replace hp:=Lib.hid hp
   refine wk1 ?_<;>intros
   refine hCL _ _ _ _ _ ?_ ⟨k+1,hlt,hno2.out,rfl,rfl,rfl⟩ (weak_forget _ (by simp) (by(try simp only[encG]);rfl) se bl bl)
   omega
  |true=>
   rw[hp]at he
   have hidx:idxI (fun y=>decide (x=y)) l=k:=idxI_some hy hp hno
   rw[hidx]
   replace hidx:=Lib.hid hidx
   replace hno:=Lib.hid hno
   replace hp:=Lib.hid hp
   exact wk0
   all_goals exact DLe.refl _
 ·obtain rfl:k=l.length:=by omega
  rw[List.take_length]at hno
  rw[idxI_none hno]
  replace hno:=Lib.hid hno
  exact wk0
  all_goals exact DLe.refl _
theorem contains_Range (l:List Rng)(x:Rng)(hl:l.length≤1000000000):
 PSpec Tryz.prog 61 [.sl 3 (l.map encG),.agg (encG x)] (.v (.bool (l.any fun y=>decide (x=y)))):=by
 have hi:=index_Range l x hl
 have hany:=idxI_any (fun y=>decide (x=y)) l
 refine pj Tryz.func61 Tryz.ntmps61 Tryz.results61 ?_
 exact wk0
 all_goals exact DLe.refl _
@[go_sem] def wkC (b:Bok)(vp lp:PV)(c:Cmd)(a:Ans):List PV:=[.d (.v (.int .i64 b.tick)),.d (.sl 9 (b.pools.map encPol)),vp,lp,.d (.v (.int .i64 c.op)),.d (.v (.int .i64 c.a)),.d (.v (.int .i64 c.b)),.d (.v (.int .i64 c.c)),.d (.v (.int .i64 c.at_.at_)),.d (.v (.int .i64 c.at_.len)),.d (.v (.int .i64 c.rule.min)),.d (.v (.int .i64 c.rule.max)),.d (.v (.int .i64 c.rule.usual)),.d (.v (.int .i64 c.rule.cool)),.d (.v (.int .i64 a.err)),.d (.v (.int .i64 a.at_.at_)),.d (.v (.int .i64 a.at_.len)),.d (.v (.int .i64 a.n))]
theorem book1_p (v:Vpc)(c:Cmd):PSpec Tryz.prog 58 [.agg (encV v),.ept (encC c)] (.v (.bool (v.id==c.c))):=by
 refine pj Tryz.func58 Tryz.ntmps58 Tryz.results58 ?_
 exact wk0
theorem book2_p (v:Vpc)(c:Cmd)(hl:v.ranges.length≤1000000000):PSpec Tryz.prog 60 [.agg (encV v),.ept (encC c)] (.v (.bool (v.ranges.any fun r=>decide ((⟨c.at_,c.a⟩:Rng)=r)))):=by
 have h:=contains_Range v.ranges ⟨c.at_,c.a⟩ hl
 generalize (v.ranges.any fun r=>decide ((⟨c.at_,c.a⟩:Rng)=r))=x at*
 refine pj Tryz.func60 Tryz.ntmps60 Tryz.results60 ?_
 exact wk0
def rngIn (vs:List Vpc)(r:Rng):Bool:=vs.any fun v=>v.ranges.any fun x=>decide (r=x)
def bookS (b:Bok)(vs:List Vpc)(c:Cmd):Bok × Ans:=
 if c.op=1 then ((openR b c.a c.at_ c.rule).1,.er (openR b c.a c.at_ c.rule).2)
 else if c.op=2 then ((nestR b c.a c.b c.c c.rule).1,⟨(nestR b c.a c.b c.c c.rule).2.2,(nestR b c.a c.b c.c c.rule).2.1,0⟩)
 else if c.op=3 then ((closeR b c.a).1,.er (closeR b c.a).2)
 else if c.op=4 then ((passR b c.a).1,.er (passR b c.a).2)
 else if c.op=5 then if heldB vs c.c then (b,.er 6)else ((takeR b c.a c.b c.c).1,⟨(takeR b c.a c.b c.c).2.2,(takeR b c.a c.b c.c).2.1,0⟩)
 else if c.op=6 then if rngIn vs ⟨c.at_,c.a⟩then (b,.er 9)else ((giveR b c.a c.at_).1,.er (giveR b c.a c.at_).2)
 else (b,.zero)
theorem book_m (b:Bok)(vs:List Vpc)(lp:List Lnk)(c:Cmd)(hz:∀p∈b.pools,p.leases.length≤3518437208882)(h6:vs.length≤6)(h4:∀v∈vs,v.ranges.length≤1000000000):
 MSpec Tryz.prog 27 [.ptr 0 0] [.box 86 (wkC b (.own 1 vs.length) (.d (.sl 2 (lp.map encK))) c .zero),.row 55 3 vs.length (dRows (vs.map encV))] (.d (.v (.bool (decide (1≤c.op∧c.op≤6)))))
  [.box 86 (wkC (bookS b vs c).1 (.own 1 vs.length) (.d (.sl 2 (lp.map encK))) c (bookS b vs c).2),.row 55 3 vs.length (dRows (vs.map encV))]:=by
 unfold bookS
 by_cases h1:c.op=1
 ·rw[if_pos h1,decide_eq_true (by omega)]
  have hp:=open_p b c.a c.at_ c.rule hz
  generalize openR b c.a c.at_ c.rule=R at*
  replace hz:=Lib.hid hz
  replace h4:=Lib.hid h4
  refine ms_i tab_ok mixed Tryz.func27 rfl Tryz.ntmps27 Tryz.results27 (by kernel_rfl) (by simp) (by simp[belowL,belowP]) (by simp[belowH,belowC,belowL,belowP,wkC,belowL_d,belowR_d]) ?_
  refine wk1 ?_
  exact wf
 rw[if_neg h1]
 by_cases h2:c.op=2
 ·rw[if_pos h2,decide_eq_true (by omega)]
  have hp:=nest_p b c.a c.b c.c c.rule hz
  generalize nestR b c.a c.b c.c c.rule=R at*
  clear h1
  replace hz:=Lib.hid hz
  replace h4:=Lib.hid h4
  refine ms_i tab_ok mixed Tryz.func27 rfl Tryz.ntmps27 Tryz.results27 (by kernel_rfl) (by simp) (by simp[belowL,belowP]) (by simp[belowH,belowC,belowL,belowP,wkC,belowL_d,belowR_d]) ?_
  refine wk1 ?_
  exact wf
 rw[if_neg h2]
 by_cases h3:c.op=3
 ·rw[if_pos h3,decide_eq_true (by omega)]
  have hp:=close_p b c.a hz
  generalize closeR b c.a=R at*
  clear h1 h2
  replace hz:=Lib.hid hz
  replace h4:=Lib.hid h4
  refine ms_i tab_ok mixed Tryz.func27 rfl Tryz.ntmps27 Tryz.results27 (by kernel_rfl) (by simp) (by simp[belowL,belowP]) (by simp[belowH,belowC,belowL,belowP,wkC,belowL_d,belowR_d]) ?_
  refine wk1 ?_
  exact wf
 rw[if_neg h3]
 by_cases h4':c.op=4
 ·rw[if_pos h4',decide_eq_true (by omega)]
  have hp:=pass_p b c.a hz
  generalize passR b c.a=R at*
  clear h1 h2 h3
  replace hz:=Lib.hid hz
  replace h4:=Lib.hid h4
  refine ms_i tab_ok mixed Tryz.func27 rfl Tryz.ntmps27 Tryz.results27 (by kernel_rfl) (by simp) (by simp[belowL,belowP]) (by simp[belowH,belowC,belowL,belowP,wkC,belowL_d,belowR_d]) ?_
  refine wk1 ?_
  exact wf
 rw[if_neg h4']
 by_cases h5:c.op=5
 ·rw[if_pos h5,decide_eq_true (by omega)]
  have hcn:=cntf_Vpc encV_len (fun v=>v.id==c.c) vs 58 [.ept (encC c)] (by omega) (fun v _=>book1_p v c)
  have hp:=take_p b c.a c.b c.c hz
  generalize takeR b c.a c.b c.c=R at*
  unfold heldB
  clear h1 h2 h3 h4'
  cases hb:vs.any fun v=>v.id==c.c
  ·rw[hb]at hcn
   replace hb:=Lib.hid hb
   simp only[encC,h5]at hcn
   replace hz:=Lib.hid hz
   replace h4:=Lib.hid h4
   refine ms_i tab_ok mixed Tryz.func27 rfl Tryz.ntmps27 Tryz.results27 (by kernel_rfl) (by simp) (by simp[belowL,belowP]) (by simp[belowH,belowC,belowL,belowP,wkC,belowL_d,belowR_d]) ?_
   refine wk1 ?_
   exact wf
  ·rw[hb]at hcn
   replace hb:=Lib.hid hb
   simp only[encC,h5]at hcn
   clear hp
   replace hz:=Lib.hid hz
   replace h4:=Lib.hid h4
   refine ms_i tab_ok mixed Tryz.func27 rfl Tryz.ntmps27 Tryz.results27 (by kernel_rfl) (by simp) (by simp[belowL,belowP]) (by simp[belowH,belowC,belowL,belowP,wkC,belowL_d,belowR_d]) ?_
   refine wk1 ?_
   exact wf
 rw[if_neg h5]
 by_cases h6':c.op=6
 ·rw[if_pos h6',decide_eq_true (by omega)]
  have hcn:=cntf_Vpc encV_len (fun v=>v.ranges.any fun r=>decide ((⟨c.at_,c.a⟩:Rng)=r)) vs 60 [.ept (encC c)] (by omega) (fun v hv=>book2_p v c (h4 v hv))
  have hp:=give_p b c.a c.at_ hz
  generalize giveR b c.a c.at_=R at*
  unfold rngIn
  clear h1 h2 h3 h4' h5
  cases hb:vs.any fun v=>v.ranges.any fun r=>decide ((⟨c.at_,c.a⟩:Rng)=r)
  ·rw[hb]at hcn
   replace hb:=Lib.hid hb
   simp only[encC,h6']at hcn
   replace hz:=Lib.hid hz
   replace h4:=Lib.hid h4
   refine ms_i tab_ok mixed Tryz.func27 rfl Tryz.ntmps27 Tryz.results27 (by kernel_rfl) (by simp) (by simp[belowL,belowP]) (by simp[belowH,belowC,belowL,belowP,wkC,belowL_d,belowR_d]) ?_
   refine wk1 ?_
   exact wf
  ·rw[hb]at hcn
   replace hb:=Lib.hid hb
   simp only[encC,h6']at hcn
   clear hp
   replace hz:=Lib.hid hz
   replace h4:=Lib.hid h4
   refine ms_i tab_ok mixed Tryz.func27 rfl Tryz.ntmps27 Tryz.results27 (by kernel_rfl) (by simp) (by simp[belowL,belowP]) (by simp[belowH,belowC,belowL,belowP,wkC,belowL_d,belowR_d]) ?_
   refine wk1 ?_
   exact wf
 rw[if_neg h6',decide_eq_false (by omega)]
 have e1:(c.op==1)=false:=by simpa using h1
 have e2:(c.op==2)=false:=by simpa using h2
 have e3:(c.op==3)=false:=by simpa using h3
 have e4:(c.op==4)=false:=by simpa using h4'
 have e5:(c.op==5)=false:=by simpa using h5
 have e6:(c.op==6)=false:=by simpa using h6'
 clear h1 h2 h3 h4' h5 h6'
 replace hz:=Lib.hid hz
 replace h4:=Lib.hid h4
 refine ms_i tab_ok mixed Tryz.func27 rfl Tryz.ntmps27 Tryz.results27 (by kernel_rfl) (by simp) (by simp[belowL,belowP]) (by simp[belowH,belowC,belowL,belowP,wkC,belowL_d,belowR_d]) ?_
 refine wk1 ?_
 exact wf
theorem clone_Link {α:Type}(enc:α→List D)(l:List α)(hl:l.length≤1000000000):
 MSpec Tryz.prog 50 [.d (.sl 2 (l.map enc))] [] (.own 0 1) [.row 76 2 1 (dRows (l.map enc))]:=by
 cases l with
 |nil=>
  refine ms_empty (pl:=[]) (ql:=[]) fun ao cap=>?_
  cases ao with
  |none=>
   simp only[List.nil_append]
   refine mj Tryz.func50 Tryz.ntmps50 Tryz.results50 ?_
   repeat' (first|(with_reducible refine And.intro ?_ ?_)|(with_reducible refine gK_i (fun _=>?_) (fun _=>?_))|(with_reducible refine condS_i (fun _=>?_) (fun _=>?_))|(with_reducible refine drw_i (by kernel_rfl))|simp -dsimp only[go_sem,seval, *,Option.isNone_none,Option.isSome_some]|((with_reducible refine opK_c ?_);simp -dsimp only[go_sem,seval,Option.isNone_none,Option.isSome_some];first|refine callK_r (by first|assumption|fail) (by first|exact .inl rfl|exact .inr rfl) ?_|refine callK_i (by assumption) (by repeat(first|exact DLe.refl _|exact DLe.nil _|(refine DLe.tup ?_)|(refine DLe.agg ?_ rfl)|exact trivial|(refine And.intro ?_ ?_))) (by first|exact .inl rfl|exact .inr rfl) ?_)|omega|exact decide_eq_true (by omega)|exact DLe.refl _)
   refine weak_ret_adopt (h:=[]) (Nat.le_refl _) 76 2 ?_
   exact(weak_ret_bump 0 0 76 2 [] rfl (weak_eq rfl rfl))
  |some a=>
   simp only[List.nil_append]
   refine mj Tryz.func50 Tryz.ntmps50 Tryz.results50 ?_
   repeat' (first|(with_reducible refine And.intro ?_ ?_)|(with_reducible refine gK_i (fun _=>?_) (fun _=>?_))|(with_reducible refine condS_i (fun _=>?_) (fun _=>?_))|(with_reducible refine drw_i (by kernel_rfl))|simp -dsimp only[go_sem,seval, *,Option.isNone_some,Option.isSome_some]|((with_reducible refine opK_c ?_);simp -dsimp only[go_sem,seval,Option.isNone_some,Option.isSome_some];first|refine callK_r (by first|assumption|fail) (by first|exact .inl rfl|exact .inr rfl) ?_|refine callK_i (by assumption) (by repeat(first|exact DLe.refl _|exact DLe.nil _|(refine DLe.tup ?_)|(refine DLe.agg ?_ rfl)|exact trivial|(refine And.intro ?_ ?_))) (by first|exact .inl rfl|exact .inr rfl) ?_)|omega|exact decide_eq_true (by omega)|exact DLe.refl _)
   exact weak_eq rfl rfl
 |cons x l=>
  simp only[List.length_cons]at hl
  refine mj Tryz.func50 Tryz.ntmps50 Tryz.results50 ?_
  repeat' (first|(with_reducible refine And.intro ?_ ?_)|(with_reducible refine gK_i (fun _=>?_) (fun _=>?_))|(with_reducible refine condS_i (fun _=>?_) (fun _=>?_))|(with_reducible refine drw_i (by kernel_rfl))|simp -dsimp only[go_sem,seval, *,Option.isNone_some,Option.isSome_some]|((with_reducible refine opK_c ?_);simp -dsimp only[go_sem,seval,Option.isNone_some,Option.isSome_some];first|refine callK_r (by first|assumption|fail) (by first|exact .inl rfl|exact .inr rfl) ?_|refine callK_i (by assumption) (by repeat(first|exact DLe.refl _|exact DLe.nil _|(refine DLe.tup ?_)|(refine DLe.agg ?_ rfl)|exact trivial|(refine And.intro ?_ ?_))) (by first|exact .inl rfl|exact .inr rfl) ?_)|omega|exact decide_eq_true (by omega)|exact DLe.refl _)
  all_goals first|omega|exact weak_eq rfl rfl
theorem nbeginE_m (n:Net)(h:chkT n≠0):
 MSpec Tryz.prog 132 [.d (.agg (encT n))] [] (.tup [.ptr 1 0,.d (.v (.int .i64 (chkT n)))]) [.gone,.box 28 [.d (.v (.slice none 0 0)),.d (.v (.slice none 0 0))]]:=by
 have hc:=ncheck_p n
 have h1:(chkT n !=0)=true:=by simpa using h
 refine mj Tryz.func132 Tryz.ntmps132 Tryz.results132 ?_
 refine wk1 ?_<;>intros
 exact(weak_gone 0 (by simp)).trans (weak_eq rfl rfl)
theorem nbegin_m (n:Net)(h:chkT n=0):
 MSpec Tryz.prog 132 [.d (.agg (encT n))] [] (.tup [.ptr 2 0,.d (.v (.int .i64 0))]) [.gone,.row 76 2 1 (dRows (n.links.map encK)),.box 28 [.own 3 n.vpcs.length,.own 1 1],.row 55 3 n.vpcs.length (dRows (n.vpcs.map encV))]:=by
 have hc:=ncheck_p n
 rw[h]at hc
 have hok:=netOK.1 h
 have n6:=hok.n6
 have hvp:=Lib.hid hok.vp
 have hclk:=clone_Link encK n.links (by have:=hok.n12;omega)
 clear hok
 replace h:=Lib.hid h
 refine mj Tryz.func132 Tryz.ntmps132 Tryz.results132 ?_
 have z1z:=Ln.mk (ls:=[]) (hclk)
 refine wk1 ?_<;>intros
 refine loopL tab_ok mixed n.vpcs (fun _=>True) (fun k=>[(29,.d (.v (.int .i64 k))),(28,.d (.v (.int .i64 n.vpcs.length))),(27,.d (.sl 3 (n.vpcs.map encV))),(5,.ptr 2 0)])
  (fun k=>[.gone,.row 76 2 1 (dRows (n.links.map encK)),.box 28 [.own 3 k,.own 1 1],.row 55 3 k (dRows ((n.vpcs.take k).map encV))]) trivial ?_ ?_ ?_
 ·refine(weak_gone 0 (by simp)).trans ((weak_adopt_box (by simp) 2 28 [.d (.v (.slice none 0 0)),.own 1 1] 0 55 3 rfl rfl rfl).trans ?_)
  exact weak_forget _ (by simp) (by rfl) se bz2 bz2
 ·intro k v hv hk _ CN hCN
  have hkI:(k:Int) < (n.vpcs.length:Int):=by omega
  have hwr:=wi k (by omega)
  have hb0:k+1≤100:=by omega
  have hlv:(List.take k n.vpcs).length=k:=by rw[List.length_take];omega
  have hvk:=vpcOK_of (hvp.out v (List.mem_of_getElem? hv))
  have h6:=hvk.n6
  have h8:=Lib.hid hvk.n8
  have hclr:=clone_Range encG v.ranges (by have:=hvk.n4;omega)
  clear hvk
  replace hv:=Lib.hid hv
  have hv1:=hv.out
  have z1z:=Ln.mk (ls:=[]) (hclr)
  refine wk1 ?_<;>intros
  refine loopL tab_ok mixed v.subs (fun _=>True) (fun j=>[(42,.d (.v (.int .i64 j))),(41,.d (.v (.int .i64 v.subs.length))),(40,.d (.sl 4 (v.subs.map encN))),(8,.ptr 6 0),(29,.d (.v (.int .i64 k))),(28,.d (.v (.int .i64 n.vpcs.length))),(27,.d (.sl 3 (n.vpcs.map encV))),(5,.ptr 2 0)])
   (fun j=>[.gone,.row 76 2 1 (dRows (n.links.map encK)),.box 28 [.own 3 k,.own 1 1],.row 55 3 k (dRows ((n.vpcs.take k).map encV)),.gone,.row 58 3 1 (dRows (v.ranges.map encG)),.box 55 [.d (.v (.int .i64 v.id)),.own 5 1,.own 7 j],.row 71 4 j (dRows ((v.subs.take j).map encN))]) trivial ?_ ?_ ?_
  ·refine(weak_gone 4 (by simp)).trans ((weak_adopt_box (by simp) 6 55 [.d (.v (.int .i64 v.id)),.own 5 1,.d (.v (.slice none 0 0))] 2 71 4 rfl rfl rfl).trans ?_)
   exact weak_forget _ (by simp) (by rfl) se bz2 bz2
  ·intro j s hs hj _ CO hCO
   have hjI:(j:Int) < (v.subs.length:Int):=by omega
   have hwj:=wi j (by omega)
   have h8s:=h8.out s (List.mem_of_getElem? hs)
   have hb1:j+1≤100:=by omega
   have hlk:(List.take j v.subs).length=j:=by rw[List.length_take];omega
   replace hs:=Lib.hid hs
   have hs1:=hs.out
   refine wk1 ?_<;>intros
   refine loopL tab_ok mixed s.faces (fun _=>True) (fun i=>[(54,.d (.v (.int .i64 i))),(53,.d (.v (.int .i64 s.faces.length))),(52,.d (.sl 2 (s.faces.map encF))),(11,.ptr 9 0),(42,.d (.v (.int .i64 j))),(41,.d (.v (.int .i64 v.subs.length))),(40,.d (.sl 4 (v.subs.map encN))),(8,.ptr 6 0),(29,.d (.v (.int .i64 k))),(28,.d (.v (.int .i64 n.vpcs.length))),(27,.d (.sl 3 (n.vpcs.map encV))),(5,.ptr 2 0)])
    (fun i=>[.gone,.row 76 2 1 (dRows (n.links.map encK)),.box 28 [.own 3 k,.own 1 1],.row 55 3 k (dRows ((n.vpcs.take k).map encV)),.gone,.row 58 3 1 (dRows (v.ranges.map encG)),.box 55 [.d (.v (.int .i64 v.id)),.own 5 1,.own 7 j],.row 71 4 j (dRows ((v.subs.take j).map encN)),.gone,.box 71 [.d (.v (.int .i64 s.id)),.d (.v (.int .i64 s.at_.at_)),.d (.v (.int .i64 s.at_.len)),.own 10 i],.row 74 2 i (dRows ((s.faces.take i).map encF))]) trivial ?_ ?_ ?_
   ·refine(weak_gone 8 (by simp)).trans ((weak_adopt_box (by simp) 9 71 [.d (.v (.int .i64 s.id)),.d (.v (.int .i64 s.at_.at_)),.d (.v (.int .i64 s.at_.len)),.d (.v (.slice none 0 0))] 3 74 2 rfl rfl rfl).trans ?_)
    exact weak_forget _ (by simp) (by rfl) se bz2 bz2
   ·intro i f hf hi _ C hC
    have hiI:(i:Int) < (s.faces.length:Int):=by omega
    have hwi:=wi i (by omega)
    have hfl:=h8s.2 f (List.mem_of_getElem? hf)
    have hb2:i+1≤100:=by omega
    have hli:(List.take i s.faces).length=i:=by rw[List.length_take];omega
    replace hf:=Lib.hid hf
    have hf1:=hf.out
    have z1z:=Ln.mk (ls:=[]) (clone_int f.addrs (by omega))
    refine wk1 ?_<;>intros
    refine hC _ _ trivial ((weak_freeze 12 1 3 1 (f.addrs.map encA) rfl).trans ?_)
    simp only[fzE,fz,fzL,fzH,fzC,fzR,fzR_app,fzR_d,fzL_d,List.map_cons,List.map_nil,Nat.reduceAdd,Nat.reduceEqDiff,reduceIte,and_true,true_and,and_self,and_false,false_and,Nat.zero_add,Nat.add_zero,reduceCtorEq]
    exact weak_forget _ (by simp) (by rw[take_snoc hf.out,List.map_append,List.map_cons,List.map_nil,←dRows_app];rfl) se bz2 bz2
   ·intro _ C
    refine wk1 ?_<;>intros
    refine hCO _ _ trivial ((weak_freeze 10 s.faces.length 74 2 (s.faces.map encF) rfl).trans ?_)
    simp only[fzE,fz,fzL,fzH,fzC,fzR,fzR_app,fzR_d,fzL_d,List.map_cons,List.map_nil,Nat.reduceAdd,Nat.reduceEqDiff,reduceIte,and_true,true_and,and_self,and_false,false_and,Nat.zero_add,Nat.add_zero,reduceCtorEq]
    exact weak_forget _ (by simp) (by rw[take_snoc hs.out,List.map_append,List.map_cons,List.map_nil,←dRows_app];rfl) se bz2 bz2
  ·intro _ C
   refine wk1 ?_<;>intros
   refine hCN _ _ trivial ((weak_freeze 7 v.subs.length 71 4 (v.subs.map encN) rfl).trans ?_)
   simp only[fzE,fz,fzL,fzH,fzC,fzR,fzR_app,fzR_d,fzL_d,List.map_cons,List.map_nil,Nat.reduceAdd,Nat.reduceEqDiff,reduceIte,and_true,true_and,and_self,and_false,false_and,Nat.zero_add,Nat.add_zero,reduceCtorEq]
   refine(weak_freeze 5 1 58 3 (v.ranges.map encG) rfl).trans ?_
   simp only[fzE,fz,fzL,fzH,fzC,fzR,fzR_app,fzR_d,fzL_d,List.map_cons,List.map_nil,Nat.reduceAdd,Nat.reduceEqDiff,reduceIte,and_true,true_and,and_self,and_false,false_and,Nat.zero_add,Nat.add_zero,reduceCtorEq]
   exact weak_forget _ (by simp) (by rw[take_snoc hv.out,List.map_append,List.map_cons,List.map_nil,←dRows_app];rfl) se bz2 bz2
 ·intro _ C
  refine wk1 ?_<;>intros
  exact weak_eq rfl rfl
theorem ownS_m (s:Ste)(hb:BookOK s.book)(hn:NetOK s.net):
 MSpec Tryz.prog 26 [.d (.agg (encSt s))] [] (.agg [.d (.v (.int .i64 s.book.tick)),.d (.sl 9 (s.book.pools.map encPol)),.own 5 s.net.vpcs.length,.d (.sl 2 (s.net.links.map encK))]) [.gone,.gone,.gone,.gone,.gone,.row 55 3 s.net.vpcs.length (dRows (s.net.vpcs.map encV))]:=by
 have n8:=hb.n8
 have hl32:=Lib.hid hb.l32
 have n6:=hn.n6
 have hvp:=Lib.hid hn.vp
 have z1:=Ln.mk (ls:=[]) (clone_Link encK s.net.links (by have:=hn.n12;omega))
 clear hb hn
 refine mj Tryz.func26 Tryz.ntmps26 Tryz.results26 ?_
 refine wk1 ?_
 refine loopL tab_ok mixed s.book.pools (fun _=>True) (fun k=>[(28,.d (.v (.int .i64 k))),(27,.d (.v (.int .i64 s.book.pools.length))),(26,.d (.sl 9 (s.book.pools.map encPol))),(3,.ptr 3 0),(2,.ptr 1 0),(1,.ptr 0 0)])
  (fun k=>[.box 30 ((encSt s).map .d),.box 30 [.d (.v (.int .i64 0)),.d (.v (.slice none 0 0)),.d (.v (.slice none 0 0)),.d (.v (.slice none 0 0))],.row 76 2 1 (dRows (s.net.links.map encK)),.box 30 [.d (.v (.int .i64 s.book.tick)),.own 4 k,.d (.v (.slice none 0 0)),.own 2 1],.row 62 9 k (dRows ((s.book.pools.take k).map encPol))]) trivial ?_ ?_ ?_
 ·refine(weak_adopt_box (by simp) 3 30 [.d (.v (.int .i64 s.book.tick)),.d (.v (.slice none 0 0)),.d (.v (.slice none 0 0)),.own 2 1] 1 62 9 rfl rfl rfl).trans ?_
  exact wf
 ·intro k p hp hk _ C hC
  have hkI:(k:Int) < (s.book.pools.length:Int):=by omega
  have hwr:=wi k (by omega)
  have hpl:=hl32.out p (List.mem_of_getElem? hp)
  have hb1:k+1≤100:=by omega
  have hlt:(List.take k s.book.pools).length=k:=by rw[List.length_take];omega
  have z2:=Ln.mk (ls:=[]) (clone_Lease encL p.leases (by omega))
  refine wk1 ?_
  refine hC _ _ trivial ((weak_freeze 6 1 68 5 (p.leases.map encL) rfl).trans ?_)
  simp only[fzE,fz,fzL,fzH,fzC,fzR,fzR_app,fzR_d,fzL_d,List.map_cons,List.map_nil,Nat.reduceAdd,Nat.reduceEqDiff,reduceIte,and_true,true_and,and_self,and_false,false_and,Nat.zero_add,Nat.add_zero,reduceCtorEq]
  exact wf (hh:=by rw[take_snoc hp,List.map_append,List.map_cons,List.map_nil,←dRows_app];rfl)
 ·intro _ C
  rw[List.take_length]
  refine wk1 ?_
  refine loopL tab_ok mixed s.net.vpcs (fun _=>True) (fun k=>[(49,.d (.v (.int .i64 k))),(48,.d (.v (.int .i64 s.net.vpcs.length))),(47,.d (.sl 3 (s.net.vpcs.map encV))),(3,.ptr 3 0),(2,.ptr 1 0),(1,.ptr 0 0)])
   (fun k=>[.gone,.box 30 [.d (.v (.int .i64 0)),.d (.v (.slice none 0 0)),.d (.v (.slice none 0 0)),.d (.v (.slice none 0 0))],.gone,.box 30 [.d (.v (.int .i64 s.book.tick)),.d (.sl 9 (s.book.pools.map encPol)),.own 5 k,.d (.sl 2 (s.net.links.map encK))],.gone,.row 55 3 k (dRows ((s.net.vpcs.take k).map encV))]) trivial ?_ ?_ ?_
  ·refine(weak_freeze 4 s.book.pools.length 62 9 (s.book.pools.map encPol) rfl).trans ?_
   simp only[fzE,fz,fzL,fzH,fzC,fzR,fzR_app,fzR_d,fzL_d,List.map_cons,List.map_nil,Nat.reduceAdd,Nat.reduceEqDiff,reduceIte,and_true,true_and,and_self,and_false,false_and,Nat.zero_add,Nat.add_zero,reduceCtorEq]
   refine(weak_freeze 2 1 76 2 (s.net.links.map encK) rfl).trans ?_
   simp only[fzE,fz,fzL,fzH,fzC,fzR,fzR_app,fzR_d,fzL_d,List.map_cons,List.map_nil,Nat.reduceAdd,Nat.reduceEqDiff,reduceIte,and_true,true_and,and_self,and_false,false_and,Nat.zero_add,Nat.add_zero,reduceCtorEq]
   refine(weak_adopt_box (by simp) 3 30 [.d (.v (.int .i64 s.book.tick)),.d (.sl 9 (s.book.pools.map encPol)),.d (.v (.slice none 0 0)),.d (.sl 2 (s.net.links.map encK))] 2 55 3 rfl rfl rfl).trans ?_
   refine Weak.trans (weak_gone 0 (by simp[setC])) ?_
   exact wf
  ·intro k v hv hk _ C hC
   have hkI:(k:Int) < (s.net.vpcs.length:Int):=by omega
   have hwr:=wi k (by omega)
   have hb0:k+1≤100:=by omega
   have hlv:(List.take k s.net.vpcs).length=k:=by rw[List.length_take];omega
   have hvk:=vpcOK_of (hvp.out v (List.mem_of_getElem? hv))
   have h6:=hvk.n6
   have h8:=Lib.hid hvk.n8
   have z3:=Ln.mk (ls:=[]) (clone_Range encG v.ranges (by have:=hvk.n4;omega))
   clear hvk
   refine wk1 ?_
   refine loopL tab_ok mixed v.subs (fun _=>True) (fun j=>[(62,.d (.v (.int .i64 j))),(61,.d (.v (.int .i64 v.subs.length))),(60,.d (.sl 4 (v.subs.map encN))),(8,.ptr 8 0),(49,.d (.v (.int .i64 k))),(48,.d (.v (.int .i64 s.net.vpcs.length))),(47,.d (.sl 3 (s.net.vpcs.map encV))),(3,.ptr 3 0),(2,.ptr 1 0),(1,.ptr 0 0)])
    (fun j=>[.gone,.box 30 [.d (.v (.int .i64 0)),.d (.v (.slice none 0 0)),.d (.v (.slice none 0 0)),.d (.v (.slice none 0 0))],.gone,.box 30 [.d (.v (.int .i64 s.book.tick)),.d (.sl 9 (s.book.pools.map encPol)),.own 5 k,.d (.sl 2 (s.net.links.map encK))],.gone,.row 55 3 k (dRows ((s.net.vpcs.take k).map encV)),.gone,.row 58 3 1 (dRows (v.ranges.map encG)),.box 55 [.d (.v (.int .i64 v.id)),.own 7 1,.own 9 j],.row 71 4 j (dRows ((v.subs.take j).map encN))]) trivial ?_ ?_ ?_
   ·refine(weak_gone 6 (by simp)).trans ((weak_adopt_box (by simp) 8 55 [.d (.v (.int .i64 v.id)),.own 7 1,.d (.v (.slice none 0 0))] 2 71 4 rfl rfl rfl).trans ?_)
    exact wf
   ·intro j u hu hj _ C2 hC2
    have hjI:(j:Int) < (v.subs.length:Int):=by omega
    have hwj:=wi j (by omega)
    have h8s:=h8.out u (List.mem_of_getElem? hu)
    have hb1:j+1≤100:=by omega
    have hlk:(List.take j v.subs).length=j:=by rw[List.length_take];omega
    have hu2:=Lib.hid hu
    have hv2:=Lib.hid hv
    clear hv
    refine wk1 ?_
    refine loopL tab_ok mixed u.faces (fun _=>True) (fun i=>(74,.d (.v (.int .i64 i)))::(73,.d (.v (.int .i64 u.faces.length)))::(72,.d (.sl 2 (u.faces.map encF)))::(11,.ptr 11 0)::[(62,.d (.v (.int .i64 j))),(61,.d (.v (.int .i64 v.subs.length))),(60,.d (.sl 4 (v.subs.map encN))),(8,.ptr 8 0),(49,.d (.v (.int .i64 k))),(48,.d (.v (.int .i64 s.net.vpcs.length))),(47,.d (.sl 3 (s.net.vpcs.map encV))),(3,.ptr 3 0),(2,.ptr 1 0),(1,.ptr 0 0)])
     (fun i=>[.gone,.box 30 [.d (.v (.int .i64 0)),.d (.v (.slice none 0 0)),.d (.v (.slice none 0 0)),.d (.v (.slice none 0 0))],.gone,.box 30 [.d (.v (.int .i64 s.book.tick)),.d (.sl 9 (s.book.pools.map encPol)),.own 5 k,.d (.sl 2 (s.net.links.map encK))],.gone,.row 55 3 k (dRows ((s.net.vpcs.take k).map encV)),.gone,.row 58 3 1 (dRows (v.ranges.map encG)),.box 55 [.d (.v (.int .i64 v.id)),.own 7 1,.own 9 j],.row 71 4 j (dRows ((v.subs.take j).map encN)),.gone,.box 71 [.d (.v (.int .i64 u.id)),.d (.v (.int .i64 u.at_.at_)),.d (.v (.int .i64 u.at_.len)),.own 12 i],.row 74 2 i (dRows ((u.faces.take i).map encF))]) trivial ?_ ?_ ?_
    ·refine(weak_gone 10 (by simp)).trans ((weak_adopt_box (by simp) 11 71 [.d (.v (.int .i64 u.id)),.d (.v (.int .i64 u.at_.at_)),.d (.v (.int .i64 u.at_.len)),.d (.v (.slice none 0 0))] 3 74 2 rfl rfl rfl).trans ?_)
     exact wf
    ·intro i f hf hi _ C3 hC3
     have hiI:(i:Int) < (u.faces.length:Int):=by omega
     have hwi:=wi i (by omega)
     have hfl:=h8s.2 f (List.mem_of_getElem? hf)
     have hb2:i+1≤100:=by omega
     have hli:(List.take i u.faces).length=i:=by rw[List.length_take];omega
     have z4:=Ln.mk (ls:=[]) (clone_int f.addrs (by omega))
     refine wk1 ?_
     refine hC3 _ _ trivial ((weak_freeze 14 1 3 1 (f.addrs.map encA) rfl).trans ?_)
     simp only[fzE,fz,fzL,fzH,fzC,fzR,fzR_app,fzR_d,fzL_d,List.map_cons,List.map_nil,Nat.reduceAdd,Nat.reduceEqDiff,reduceIte,and_true,true_and,and_self,and_false,false_and,Nat.zero_add,Nat.add_zero,reduceCtorEq]
     exact wf (hh:=by rw[take_snoc hf,List.map_append,List.map_cons,List.map_nil,←dRows_app];rfl)
    ·intro _ C3
     rw[List.take_length]
     refine wk1 ?_
     refine hC2 _ _ trivial ((weak_freeze 12 u.faces.length 74 2 (u.faces.map encF) rfl).trans ?_)
     simp only[fzE,fz,fzL,fzH,fzC,fzR,fzR_app,fzR_d,fzL_d,List.map_cons,List.map_nil,Nat.reduceAdd,Nat.reduceEqDiff,reduceIte,and_true,true_and,and_self,and_false,false_and,Nat.zero_add,Nat.add_zero,reduceCtorEq]
     exact wf (hh:=by rw[take_snoc hu2.out,List.map_append,List.map_cons,List.map_nil,←dRows_app];rfl)
   ·intro _ C2
    rw[List.take_length]
    refine wk1 ?_
    refine hC _ _ trivial ((weak_freeze 9 v.subs.length 71 4 (v.subs.map encN) rfl).trans ?_)
    simp only[fzE,fz,fzL,fzH,fzC,fzR,fzR_app,fzR_d,fzL_d,List.map_cons,List.map_nil,Nat.reduceAdd,Nat.reduceEqDiff,reduceIte,and_true,true_and,and_self,and_false,false_and,Nat.zero_add,Nat.add_zero,reduceCtorEq]
    refine(weak_freeze 7 1 58 3 (v.ranges.map encG) rfl).trans ?_
    simp only[fzE,fz,fzL,fzH,fzC,fzR,fzR_app,fzR_d,fzL_d,List.map_cons,List.map_nil,Nat.reduceAdd,Nat.reduceEqDiff,reduceIte,and_true,true_and,and_self,and_false,false_and,Nat.zero_add,Nat.add_zero,reduceCtorEq]
    exact wf (hh:=by rw[take_snoc hv,List.map_append,List.map_cons,List.map_nil,←dRows_app];rfl)
  ·intro _ C
   rw[List.take_length]
   refine wk1 ?_
   refine Weak.trans (weak_gone 1 (by simp[setC])) ?_
   refine Weak.trans (weak_gone 3 (by simp[setC])) ?_
   exact wf
def Net.zero:Net:=⟨[],[]⟩
theorem findIdx_of {l:List Vpc}{id:Int}{o:Option Vpc}(h:l.find? (fun v=>v.id==id)=o):match o with|some v=>∃i,l.findIdx? (fun v=>v.id==id)=some i∧l[i]? =some v∧v.id=id|none=>l.findIdx? (fun v=>v.id==id)=none:=by
 cases o with
 |none=>
  rw[List.find?_eq_none]at h
  exact List.findIdx?_eq_none_iff.2 fun v hv=>by simpa using h v hv
 |some v=>
  obtain⟨h1,i,hi,h2,h3⟩:=List.find?_eq_some_iff_getElem.1 h
  refine⟨i,?_,by rw[List.getElem?_eq_getElem hi,h2],by simpa using h1⟩
  rw[List.findIdx?_eq_some_iff_getElem]
  exact⟨hi,by rw[h2];exact h1,fun j hj=>by simpa using h3 j hj⟩
def vpcIx (n:Net)(id:Int):Option Nat:=n.vpcs.findIdx? fun v=>v.id==id
theorem vpcIx_some {n:Net}{id:Int}{i:Nat}(h:vpcIx n id=some i):∃v,n.vpcs[i]? =some v∧v.id=id∧i < n.vpcs.length∧findN n id=some v:=by
 cases hf:findN n id with
 |none=>have:=findIdx_of hf;unfold vpcIx at h;rw[h]at this;cases this
 |some v=>
  obtain⟨j,h1,h2,h3⟩:=findIdx_of hf
  unfold vpcIx at h
  rw[h]at h1
  cases h1
  exact⟨v,h2,h3,(List.getElem?_eq_some_iff.1 h2).1,rfl⟩
theorem vpcIx_none {n:Net}{id:Int}(h:vpcIx n id=none):findN n id=none:=by
 cases hf:findN n id with
 |none=>rfl
 |some v=>
  obtain⟨j,h1,-⟩:=findIdx_of hf
  unfold vpcIx at h
  rw[h]at h1
  cases h1
theorem lbv_at {α:Type}{key:α→Int}{l:List α}{i:Nat}{q:α}(hs:l.Pairwise fun a b=>key a < key b)(hq:l[i]? =some q):lbN key (key q) l=i∧lbB key (key q) l=true:=by
 obtain⟨hi,rfl⟩:=List.getElem?_eq_some_iff.1 hq
 have h1:lbN key (key l[i]) l=i:=lbN_eq (Nat.le_of_lt hi) (fun k hk hki=>List.pairwise_iff_getElem.1 hs k i hk hi hki) (fun k hk hki=>by
  rcases Nat.lt_or_ge i k with h|h
  ·have:=List.pairwise_iff_getElem.1 hs i k hi hk h;omega
  ·obtain rfl:k=i:=by omega
   exact Int.le_refl _)
 refine⟨h1,?_⟩
 unfold lbB
 rw[h1,hq];simp
theorem nfind_m (n:Net)(id:Int)(gv gl i:Nat)(v:Vpc)(hv:n.vpcs[i]? =some v)(he:v.id=id)(h6:n.vpcs.length≤6)(hs:n.vpcs.Pairwise fun a b=>a.id < b.id):
 MSpec Tryz.prog 45 [.ptr 0 0,.d (.v (.int .i64 id))] [.box 28 [.own 1 gv,.own 2 gl],.row 55 3 gv (dRows (n.vpcs.map encV)),.row 76 2 gl (dRows (n.links.map encK))] (.tup [.rp 1 gv 3 i 0,.d (.v (.bool true))])
  [.box 28 [.own 1 gv,.own 2 gl],.row 55 3 gv (dRows (n.vpcs.map encV)),.row 76 2 gl (dRows (n.links.map encK))]:=by
 have hb:=bsrf_Vpc encV_len (fun v:Vpc=>v.id) n.vpcs id 112 [] (by omega) hs (fun v _=>find1_p v id)
 subst he
 obtain⟨e1,e2⟩:=lbv_at (key:=fun v:Vpc=>v.id) hs hv
 rw[e1,e2]at hb
 have hi:=(List.getElem?_eq_some_iff.1 hv).1
 have hiI:(0:Int)≤(i:Int):=by omega
 clear hs e1 e2
 replace hv:=Lib.hid hv
 refine mj Tryz.func45 Tryz.ntmps45 Tryz.results45 ?_
 refine wk1 ?_<;>intros
 exact weak_eq rfl rfl
theorem nfind0_m (n:Net)(id:Int)(gv gl:Nat)(hf:findN n id=none)(h6:n.vpcs.length≤6)(hs:n.vpcs.Pairwise fun a b=>a.id < b.id):
 MSpec Tryz.prog 45 [.ptr 0 0,.d (.v (.int .i64 id))] [.box 28 [.own 1 gv,.own 2 gl],.row 55 3 gv (dRows (n.vpcs.map encV)),.row 76 2 gl (dRows (n.links.map encK))] (.d (.tup [.v (.pointer none),.v (.bool false)]))
  [.box 28 [.own 1 gv,.own 2 gl],.row 55 3 gv (dRows (n.vpcs.map encV)),.row 76 2 gl (dRows (n.links.map encK))]:=by
 have hb:=bsrf_Vpc encV_len (fun v:Vpc=>v.id) n.vpcs id 112 [] (by omega) hs (fun v _=>find1_p v id)
 have e2:lbB (fun v:Vpc=>v.id) id n.vpcs=false:=by
  cases hB:lbB (fun v:Vpc=>v.id) id n.vpcs with
  |false=>rfl
  |true=>
   unfold lbB at hB
   cases hq:n.vpcs[lbN (fun v:Vpc=>v.id) id n.vpcs]? with
   |none=>rw[hq]at hB;cases hB
   |some v=>
    have:=lb_hit hs hq (by rw[hq]at hB;simpa using hB)
    unfold findN at hf
    rw[hf]at this
    cases this
 rw[e2]at hb
 clear hs e2 hf
 refine mj Tryz.func45 Tryz.ntmps45 Tryz.results45 ?_
 refine wk1 ?_<;>intros
 exact weak_eq rfl rfl
theorem nfindz_p (id:Int):PSpec Tryz.prog 45 [.ept [.v (.slice none 0 0),.v (.slice none 0 0)],.v (.int .i64 id)] (.tup [.v (.pointer none),.v (.bool false)]):=by
 have hb:=(bsrf_Vpc encV_len (fun v:Vpc=>v.id) [] id 112 [] (by simp) (by simp) (fun v _=>find1_p v id)).args (ds:=[.v (.slice none 0 0),.v (.int .i64 id),.clo 112 []]) ⟨DLe.nil _,DLe.refl _,DLe.refl _,trivial⟩
 have e:lbB (fun v:Vpc=>v.id) id []=false:=rfl
 rw[e]at hb
 refine pj Tryz.func45 Tryz.ntmps45 Tryz.results45 ?_
 exact wk0
theorem eqK_list (x y:Lnk):([x.a,x.b]==[y.a,y.b])=decide (x=y):=by
 rw[Bool.eq_iff_iff]
 cases x;cases y
 simp
theorem index_Link (l:List Lnk)(x:Lnk)(hl:l.length≤1000000000):
 PSpec Tryz.prog 138 [.sl 2 (l.map encK),.agg (encK x)] (.v (.int .i64 (idxI (fun y=>decide (x=y)) l))):=by
 refine pj Tryz.func138 Tryz.ntmps138 Tryz.results138 ?_
 refine wk1 ?_<;>intros
 refine loopG tab_ok mixed (fun m e h=>∃k:Nat,k≤l.length∧(∀y∈l.take k,decide (x=y)=false)∧m=l.length - k∧e=[(8,.d (.v (.int .i64 k))),(7,.d (.v (.int .i64 l.length))),(4,.d (.v (.int .i64 0))),(3,.ptr 0 0),(0,.d (.sl 2 (l.map encK)))]∧h=[.box 76 ((encK x).map .d)]) _ _ _ ⟨0,Nat.zero_le _,by simp,rfl,rfl,rfl⟩ (weak_forget _ (by simp) (by(try simp only[encK]);rfl) se bl bl) ?_
 rintro m e h ⟨k,hk,hno,rfl,rfl,rfl⟩ CL hCL
 by_cases hlt:k < l.length
 ·obtain⟨y,hy⟩:∃y,l[k]? =some y:=⟨_,List.getElem?_eq_getElem hlt⟩
  have hltI:(k:Int) < (l.length:Int):=by omega
  have hwr:=wi k (by omega)
  have he:=eqK_list x y
  cases hp:decide (x=y)with
  |false=>
   rw[hp]at he
   have hno2:∀z∈l.take (k+1),decide (x=z)=false:=fun z hz=>by
    rw[take_snoc hy]at hz
    rcases List.mem_append.1 hz with hz|hz
    ·exact hno z hz
    ·rw[List.mem_singleton]at hz;rw[hz];exact hp
   replace hno2:=Lib.hid hno2
   replace hno:=Lib.hid hno
   replace hp:=Lib.hid hp
   refine wk1 ?_<;>intros
   refine hCL _ _ _ _ _ ?_ ⟨k+1,hlt,hno2.out,rfl,rfl,rfl⟩ (weak_forget _ (by simp) (by(try simp only[encK]);rfl) se bl bl)
   omega
  |true=>
   rw[hp]at he
   have hidx:idxI (fun y=>decide (x=y)) l=k:=idxI_some hy hp hno
   rw[hidx]
   replace hidx:=Lib.hid hidx
   replace hno:=Lib.hid hno
   replace hp:=Lib.hid hp
   exact wk0
   all_goals exact DLe.refl _
 ·obtain rfl:k=l.length:=by omega
  rw[List.take_length]at hno
  rw[idxI_none hno]
  replace hno:=Lib.hid hno
  exact wk0
  all_goals exact DLe.refl _
theorem contains_Link (l:List Lnk)(x:Lnk)(hl:l.length≤1000000000):
 PSpec Tryz.prog 135 [.sl 2 (l.map encK),.agg (encK x)] (.v (.bool (l.any fun y=>decide (x=y)))):=by
 have hi:=index_Link l x hl
 have hany:=idxI_any (fun y=>decide (x=y)) l
 refine pj Tryz.func135 Tryz.ntmps135 Tryz.results135 ?_
 exact wk0
 all_goals exact DLe.refl _
theorem delete_Link {α:Type}{enc:α→List D}(l:List α)(i j g:Nat)(hi:i < l.length)(hj:j=i+1):
 MSpec Tryz.prog 139 [.own 0 g,.d (.v (.int .i64 i)),.d (.v (.int .i64 j))] [.row 76 2 g (dRows (l.map enc))] (.own 0 (g+1)) [.row 76 2 (g+1) (dRows ((l.eraseIdx i).map enc))]:=by
 have h1:((i:Int)==(j:Int))=false:=by simp;omega
 have hne:¬dRows (l.map enc)=[]:=by cases l<;>simp[dRows]at hi ⊢
 have hle:(i:Int)≤(j:Int):=by omega
 have hle2:(j:Int)≤(l.length:Int):=by omega
 have hlm:(l.map enc).length=l.length:=List.length_map _
 have h2:=del_len (dRows (l.map enc)) i j l.length (by rw[dRows_len,hlm];exact hi) hj (by rw[dRows_len,hlm])
 rw[dRows_len,hlm]at h2
 have hj1:=Lib.hid hj
 clear hj
 have hj2:j≤l.length:=by have:=hj1.out;omega
 have hmin:min (l.length - j) (l.length - j)=l.length - j:=Nat.min_self _
 have hlt:i+(l.length - j)≤l.length:=by have:=hj1.out;omega
 have hk1:l.length - (i+(l.length - j))=1:=by have:=hj1.out;omega
 have hk2:i+(l.length - j)+1≤l.length:=by have:=hj1.out;omega
 have hne2:¬setAt (dRows (l.map enc)) i (((dRows (l.map enc)).drop j).take (l.length - j))=[]:=by
  intro h
  rw[h]at h2;simp at h2;omega
 refine mj Tryz.func139 Tryz.ntmps139 Tryz.results139 ?_
 repeat' (first|(with_reducible refine And.intro ?_ ?_)|(with_reducible refine gK_i (fun _=>?_) (fun _=>?_))|(with_reducible refine condS_i (fun _=>?_) (fun _=>?_))|(with_reducible refine drw_i (by kernel_rfl))|simp -dsimp only[go_sem,seval, *,h1,hne,Nat.sub_zero,List.length_take,List.length_drop]|((with_reducible refine opK_c ?_);simp -dsimp only[go_sem,seval,h1,hne,Nat.sub_zero,List.length_take,List.length_drop];first|refine callK_r (by first|assumption|fail) (by first|exact .inl rfl|exact .inr rfl) ?_|refine callK_i (by assumption) (by repeat(first|exact DLe.refl _|exact DLe.nil _|(refine DLe.tup ?_)|(refine DLe.agg ?_ rfl)|exact trivial|(refine And.intro ?_ ?_))) (by first|exact .inl rfl|exact .inr rfl) ?_)|omega|exact decide_eq_true (by omega)|exact DLe.refl _)
 rw[map_erase]
 exact del_weak (by rw[hlm];exact hi) hj1.out hlm.symm
theorem link_p (a b:Int):PSpec Tryz.prog 136 [.v (.int .i64 a),.v (.int .i64 b)] (.agg (encK (lnk a b))):=by
 refine pj Tryz.func136 Tryz.ntmps136 Tryz.results136 ?_
 exact wk0
 all_goals exact DLe.refl _
def growN (n:Net)(id:Int)(r:Rng):Net × Int:=
 if chkT n≠0 then (Net.zero,chkT n)else
 match vpcIx n id with
 |none=>(Net.zero,5)
 |some i=>match n.vpcs[i]? with
  |none=>(Net.zero,5)
  |some v=>if (growV v r).2≠0 then (Net.zero,(growV v r).2)else if peaceN {n with vpcs:=n.vpcs.set i (growV v r).1}=true then ({n with vpcs:=n.vpcs.set i (growV v r).1},0)else (Net.zero,9)
theorem growV_ok {v:Vpc}{r:Rng}(h:(growV v r).2=0):(growV v r).1.id=v.id∧(growV v r).1.ranges.length≤5:=by
 unfold growV at h ⊢
 split
 ·rename_i h1;rw[if_pos h1]at h;exact absurd h h1
 ·rename_i h1
  rw[if_neg h1]at h
  have hk:=vpcOK_of (by simpa using h1)
  split
  ·rename_i h2
   rw[if_pos h2]at h
   exact absurd h h2
  ·refine⟨rfl,?_⟩
   simp only
   rw[insK_len]
   have:=hk.n4;omega
theorem ngrow_p (n:Net)(id:Int)(r:Rng):PSpec Tryz.prog 68 [.agg (encT n),.v (.int .i64 id),.agg (encG r)] (.tup [.agg (encT (growN n id r).1),.v (.int .i64 (growN n id r).2)]):=by
 obtain⟨R,hR⟩:∃R,R=growN n id r:=⟨_,rfl⟩
 rw[←hR]
 replace hR:=Lib.hid hR
 by_cases hc:chkT n=0
 ·have hok:=netOK.1 hc
  have hbg:=nbegin_m n hc
  cases hx:vpcIx n id with
  |none=>
   have hfd:=nfind0_m n id n.vpcs.length 1 (vpcIx_none hx) hok.n6 hok.rise
   have hr:R=(Net.zero,5):=by rw[hR.out];unfold growN;rw[if_neg (by simpa using hc),hx]
   rw[hr]
   clear hr hR hok hx hc
   refine pj Tryz.func68 Tryz.ntmps68 Tryz.results68 ?_
   have z1z:=Ln.mk (ls:=[]) (hbg)
   have z2z:=Ln.mk (ls:=[5,6,4]) (hfd)
   refine wk1 ?_<;>intros
   all_goals exact dg
  |some i=>
   obtain⟨v,hv,he,hi,hfs⟩:=vpcIx_some hx
   have hfd:=nfind_m n id n.vpcs.length 1 i v hv he hok.n6 hok.rise
   have hgp:=vgrow_p v r
   replace he:=Lib.hid he
   have hiI:(0:Int)≤(i:Int):=by omega
   by_cases hg:(growV v r).2=0
   ·have hgo:=growV_ok hg
    have hpe:=peace_p {n with vpcs:=n.vpcs.set i (growV v r).1} (by have:=hok.n6;simp;omega) (by have:=hok.n12;simp;omega) (fun u hu=>by
     rcases List.mem_or_eq_of_mem_set hu with hu|rfl
     ·have:=(vpcOK_of (hok.vp u hu)).n4;omega
     ·have:=hgo.2;omega) (by
     have e:(n.vpcs.set i (growV v r).1).map (·.id)=n.vpcs.map (·.id):=by
      rw[List.map_set,hgo.1]
      apply List.ext_getElem?
      intro j
      rw[List.getElem?_set]
      split
      ·rename_i hj
       subst hj
       rw[List.length_map,if_pos hi,List.getElem?_map,hv];rfl
      ·rfl
     simp only[e]
     exact hok.ids)
    have hR2:R=if peaceN {n with vpcs:=n.vpcs.set i (growV v r).1}=true then ({n with vpcs:=n.vpcs.set i (growV v r).1},0)else (Net.zero,9):=by
     rw[hR.out];unfold growN;rw[if_neg (by simpa using hc),hx];simp only[hv];rw[if_neg (by simpa using hg)]
    rw[hg]at hgp
    clear hR hok hx hc hgo hg hfs
    generalize (growV v r).1=w at*
    have hrow:(dRows (n.vpcs.map encV)).set i [.d (.v (.int .i64 w.id)),.d (.sl 3 (w.ranges.map encG)),.d (.sl 4 (w.subs.map encN))]=dRows ((n.vpcs.set i w).map encV):=dRows_setrow encV n.vpcs i w
    cases hp:peaceN {n with vpcs:=n.vpcs.set i w} with
    |true=>
     rw[hp]at hpe hR2
     have hr:R=({n with vpcs:=n.vpcs.set i w},0):=by rw[hR2];rfl
     rw[hr]
     clear hr hR2 hp
     refine pj Tryz.func68 Tryz.ntmps68 Tryz.results68 ?_
     have z1z:=Ln.mk (ls:=[]) (hbg)
     have z2z:=Ln.mk (ls:=[5,6,4]) (hfd)
     exact wk0
     all_goals exact dg
    |false=>
     rw[hp]at hpe hR2
     have hr:R=(Net.zero,9):=by rw[hR2];rfl
     rw[hr]
     clear hr hR2 hp
     refine pj Tryz.func68 Tryz.ntmps68 Tryz.results68 ?_
     have z1z:=Ln.mk (ls:=[]) (hbg)
     have z2z:=Ln.mk (ls:=[5,6,4]) (hfd)
     refine wk1 ?_<;>intros
     all_goals exact dg
   ·have hr:R=(Net.zero,(growV v r).2):=by
     rw[hR.out];unfold growN;rw[if_neg (by simpa using hc),hx];simp only[hv];rw[if_pos hg]
    have hgb:((growV v r).2 !=0)=true:=by simpa using hg
    rw[hr]
    clear hr hR hok hx hc hg hfs
    generalize (growV v r).1=w at*
    generalize (growV v r).2=E at*
    refine pj Tryz.func68 Tryz.ntmps68 Tryz.results68 ?_
    have z1z:=Ln.mk (ls:=[]) (hbg)
    have z2z:=Ln.mk (ls:=[5,6,4]) (hfd)
    refine wk1 ?_<;>intros
    all_goals exact dg
 ·have hbg:=nbeginE_m n hc
  have h1:(chkT n !=0)=true:=by simpa using hc
  have hr:R=(Net.zero,chkT n):=by rw[hR.out];unfold growN;rw[if_pos hc]
  rw[hr]
  replace hr:=Lib.hid hr
  refine pj Tryz.func68 Tryz.ntmps68 Tryz.results68 ?_
  have z1z:=Ln.mk (ls:=[]) (hbg)
  refine wk1 ?_<;>intros
  all_goals exact dg
def partN (n:Net)(a b:Int):Net × Int:=
 if chkT n≠0 then (Net.zero,chkT n)else
 match n.links.findIdx? (fun l=>decide (lnk a b=l))with
 |none=>(Net.zero,5)
 |some i=>({n with links:=n.links.eraseIdx i},0)
theorem npart_p (n:Net)(a b:Int):PSpec Tryz.prog 66 [.agg (encT n),.v (.int .i64 a),.v (.int .i64 b)] (.tup [.agg (encT (partN n a b).1),.v (.int .i64 (partN n a b).2)]):=by
 obtain⟨R,hR⟩:∃R,R=partN n a b:=⟨_,rfl⟩
 rw[←hR]
 replace hR:=Lib.hid hR
 by_cases hc:chkT n=0
 ·have hok:=netOK.1 hc
  have hbg:=nbegin_m n hc
  have hlk:=link_p a b
  have hix:=index_Link n.links (lnk a b) (by have:=hok.n12;omega)
  unfold idxI at hix
  cases hf:n.links.findIdx? (fun l=>decide (lnk a b=l))with
  |none=>
   rw[hf]at hix
   have hr:R=(Net.zero,5):=by rw[hR.out];unfold partN;rw[if_neg (by simpa using hc),hf]
   rw[hr]
   clear hr hR hf hc hok
   generalize lnk a b=LK at*
   refine pj Tryz.func66 Tryz.ntmps66 Tryz.results66 ?_
   have z1z:=Ln.mk (ls:=[]) (hbg)
   refine wk1 ?_<;>intros
   all_goals exact dg
  |some i=>
   rw[hf]at hix
   have hi:i < n.links.length:=(List.findIdx?_eq_some_iff_getElem.1 hf).1
   have hi0:decide ((i:Int) < 0)=false:=by simp
   have hd:=delete_Link (enc:=encK) n.links i (i+1) 1 hi rfl
   have hwr:IntKind.i64.wrap ((i:Int)+1)=((i+1:Nat):Int):=by rw[IntKind.wrap_i64];have:=hok.n12;omega
   have hr:R=({n with links:=n.links.eraseIdx i},0):=by rw[hR.out];unfold partN;rw[if_neg (by simpa using hc),hf]
   rw[hr]
   clear hr hR hf hc hok
   generalize lnk a b=LK at*
   refine pj Tryz.func66 Tryz.ntmps66 Tryz.results66 ?_
   have z1z:=Ln.mk (ls:=[]) (hbg)
   have z2z:=Ln.mk (ls:=[3]) (hd)
   exact wk0
   all_goals exact dg
 ·have hbg:=nbeginE_m n hc
  have h1:(chkT n !=0)=true:=by simpa using hc
  have hr:R=(Net.zero,chkT n):=by rw[hR.out];unfold partN;rw[if_pos hc]
  rw[hr]
  replace hr:=Lib.hid hr
  refine pj Tryz.func66 Tryz.ntmps66 Tryz.results66 ?_
  have z1z:=Ln.mk (ls:=[]) (hbg)
  refine wk1 ?_<;>intros
  all_goals exact dg
section
open Go.Proofs Go.Shelf
theorem cl_Vpc (x y:SRow HP0 3)(W:World):Calls Tryz.prog 134 #[.agg x.xs.toArray,.agg y.xs.toArray] W fun e w'=>e= .returned (.int .i64 (cfS x y))∧∃q os',w'=Sort.grow (W.drewN q) os':=by
 obtain⟨xs,xl,x1,a,xh⟩:=x
 obtain⟨ys,yl,y1,b,yh⟩:=y
 match xs,xl,ys,yl with
 |[u0,u1,u2],_,[v0,v1,v2],_=>
  simp[HP0]at xh yh
  subst xh
  subst yh
  have hc:=compare_any a b
  unfold cfS
  simp only
  generalize cmpI a b=r at*
  replace hc:=Lib.hid hc
  clear x1 y1
  go_enter Tryz.func134,Tryz.ntmps134
  go_wp2_with fail
  refine(hc.out _).mono ?_
  rintro e w1 ⟨rfl,rfl⟩
  go_wp2_with fail
  go_ret
  exact⟨ret_int rfl,0,_,by rw[Sort.alloc_eq_grow,Sort.alloc_eq_grow,Sort.grow_grow];rfl⟩
theorem sort_Vpc {l l':List Vpc}(g:Nat)(hl0:l≠[])(hp:l'.Perm l)(hs:l'.Pairwise fun x y=>(fun v:Vpc=>v.id) x < (fun v:Vpc=>v.id) y)(hsz:l.length≤1000000):
 MSpec Tryz.prog 133 [.own 0 g,.d (.clo 134 [])] [.row 55 3 g (dRows (l.map encV))] (.d (.tup [])) [.row 55 3 g (dRows (l'.map encV))]:=
 sort_ms Tryz.sortVpc rfl (fnok_of Tryz.func133 (by kernel_rfl) rfl) Tryz.isAgg55 Tryz.sizeOf55 (enters_of Tryz.func134 (by kernel_rfl) rfl) cl_Vpc encV (fun v:Vpc=>v.id) (fun _=>rfl) hl0 hp hs hsz
end
structure GwB where
 n:Nat
 os:Array Obj
def EG (w w':World):Prop:=∃p:GwB,w'=Sort.grow (w.drewN p.n) p.os
theorem EG.refl (w:World):EG w w:=⟨⟨0,#[]⟩,by rw[Sort.grow_empty];rfl⟩
theorem EG.trans {w w' w'':World}(h:EG w w')(g:EG w' w''):EG w w'':=by
 obtain⟨⟨n,os⟩,rfl⟩:=h
 obtain⟨⟨m,os'⟩,rfl⟩:=g
 exact⟨⟨n+m,os++os'⟩,by show Sort.grow (Sort.grow ((w.drewN n).drewN m) os) os'=_;rw[Sort.grow_grow,World.drewN_drewN]⟩
theorem EG.drew (w:World):EG w w.drew:=⟨⟨1,#[]⟩,by rw[Sort.grow_empty];rfl⟩
theorem EG.alloc (w:World)(o:Obj):EG w (w.alloc o):=⟨⟨0,#[o]⟩,Sort.alloc_eq_grow w o⟩
theorem EG.ext {w w':World}(h:EG w w'):Ext w w':=by
 obtain⟨⟨n,os⟩,rfl⟩:=h
 exact⟨rfl,rfl,rfl,by simp[Sort.grow],fun k hk=>by simp[Sort.grow,Array.getElem?_append,hk]⟩
def qPostG (W:World)(R:Value→Prop)(e:Ending)(w':World):Prop:=(∃u,e= .returned u∧R u)∧EG W w'
def qUpG (P:Program)(W w:World)(R:Value→Prop):Result Next→Prop
 | .ok (.value u) w'=>w'=w∧R u
 | .ok .skip w'=>w'=w∧R undef
 | .ok (.enter f args) w'=>w'=w∧Calls P f args w (qPostG W R)
 |_=>False
attribute [go_sem] qUpG
section
variable {P:Program}{W:World}
theorem qUp_quietG {w:World}{v:Value}{r:Result Next}(h:∀R:Value→Prop,R v→qUpG P W w R r):Oper.quietUpon P (EG W) w v r:=by
 have h1:=h (·=v) rfl
 unfold qUpG at h1
 unfold Oper.quietUpon
 split at h1
 ·exact h1
 ·exact⟨h1.1,h1.2.symm⟩
 ·refine⟨h1.1,h1.2.mono ?_⟩
  rintro e w' ⟨⟨u,rfl,rfl⟩,hw⟩
  exact⟨rfl,hw⟩
 ·exact h1.elim
end
section
variable {P:Program}{ops:Array Oper}{Q:Exit→Act→World→Prop}
def GOG (P:Program)(ops:Array Oper)(Q:Exit→Act→World→Prop):Nat→Array Bool→Act→World→Prop
 |0,listed,a,W=>Region.ready .any ops listed=[]∧∀w,EG W w→Q .normal a w
 |fuel+1,listed,a,W=>∀w,EG W w→(Region.ready .any ops listed=[]→Q .normal a w)∧
  ∀i∈Region.ready .any ops listed,wpOp P ops Q i (fun a' w'=>EG w w'∧GOG P ops Q fuel (listed.setIfInBounds i true) a' w') a w
theorem GOG.world:∀{fuel:Nat}{listed:Array Bool}{a:Act}{W W':World},EG W W'→GOG P ops Q fuel listed a W→GOG P ops Q fuel listed a W'
 |0,_,_,_,_,hx,h=>⟨h.1,fun w hw=>h.2 w (EG.trans hx hw)⟩
 |_+1,_,_,_,_,hx,h=>fun w hw=>h w (EG.trans hx hw)
theorem GOG.any:∀{fuel:Nat}{listed:Array Bool}{a:Act}{W:World},GOG P ops Q fuel listed a W→wpAny P .any ops Q fuel listed a W
 |0,_,_,_,h=>⟨h.1,h.2 _ (EG.refl _)⟩
 |_+1,_,_,W,h=>⟨(h W (EG.refl _)).1,fun i hi=>wpOp_mono (fun _ _ h'=>GOG.any h'.2) ((h W (EG.refl _)).2 i hi)⟩
def QYG (P:Program)(ops:Array Oper)(W:World)(o:Oper)(v:Value)(a:Act):Prop:=
 (Region.wanted o (yielded ops a.tmps)=true∧∀w,EG W w→o.quietAt P a (EG w) w v)∨
 (Region.wanted o (yielded ops a.tmps)=false∧v=undef)
theorem QYG.world {W W':World}{o:Oper}{v:Value}{a:Act}(hx:EG W W')(h:QYG P ops W o v a):QYG P ops W' o v a:=
 h.imp (fun⟨h1,h2⟩=>⟨h1,fun w hw=>h2 w (EG.trans hx hw)⟩) id
theorem QYG.of_same {W:World}{o:Oper}{v:Value}{a a':Act}(hy:QYG P ops W o v a)(he:execOp a'.eval o=execOp a.eval o)
 (hw:Region.wanted o (yielded ops a'.tmps)=Region.wanted o (yielded ops a.tmps)):QYG P ops W o v a':=by
 unfold QYG Oper.quietAt at*
 rw[he,hw]
 exact hy
theorem QYG.wpOp {W:World}{i:Nat}{o:Oper}{v:Value}{a:Act}(hi:ops[i]? =some o)(hy:QYG P ops W o v a){K:Act→World→Prop}{w:World}(hw:EG W w)(h:∀w',EG w w'→K (a.put o.dst v) w'):wpOp P ops Q i K a w:=by
 unfold Go.wpOp
 simp only[hi]
 rcases hy with⟨hwa,hv⟩|⟨hwa,rfl⟩
 ·simp only[hwa,if_true]
  left
  exact Oper.wp_of_quiet (C:=EG w) (K:=fun a'=>a'=a.put o.dst v) (EG.refl _) (fun a' w' hw' ha=>ha ▸ h w' hw') ⟨v,fun w'' hw''=>by
   have:=hv w'' (EG.trans hw hw'')
   unfold Oper.quietAt at*
   generalize (execOp a.eval o).run P w''=r at*
   cases r with
   |ok n u=>cases n<;>simp only[Oper.quietUpon]at this ⊢<;>first|exact this|exact⟨this.1,this.2.mono fun _ _ ⟨e1,e2⟩=>⟨e1,EG.trans hw'' e2⟩⟩
   |halt x u=>simp only[Oper.quietUpon]at this,rfl⟩
 ·simp only[hwa,Bool.false_eq_true,if_false]
  exact h w (EG.refl _)
theorem wpOp_putQG {W:World}{j:Nat}{oi oj:Oper}{v:Value}(hj:ops[j]? =some oj)(hap:oi.apart ops oj=true)
 (hsi:∀cs b,oi.op≠ .select cs b) (hsj:∀cs b,oj.op≠ .select cs b)
 (hQ:∀c a w,Q (.panic c) (a.put oi.dst v) w→Q (.panic c) a w) {K:Act→World→Prop}{a:Act}{w:World}
 (hy:QYG P ops W oi v a) (h:wpOp P ops Q j K (a.put oi.dst v) w):
 wpOp P ops Q j (fun a' w'=>QYG P ops W oi v a'∧K (a'.put oi.dst v) w') a w:=by
 obtain⟨h1,h2,h3⟩:=Oper.apart_spec hap
 have keep:∀(a:Act),QYG P ops W oi v a→∀u,QYG P ops W oi v (a.put oj.dst u):=fun a hy u=>
  hy.of_same (execOp_put oi hsi a oj.dst u h3) (wanted_put oi a oj.dst u h3)
 have keepD:∀d,QYG P ops W oi v {a with defers:=d::a.defers}:=fun d=>hy.of_same rfl rfl
 unfold wpOp at*
 simp only[hj]at*
 rw[wanted_put oj a oi.dst v h1]at h
 split
 ·rename_i hw
  simp only[hw,if_true]at h
  rcases h with h|⟨hasks,hlets⟩
  case inr=>exact .inr ⟨by unfold Oper.asks at*;rw[execOp_put oj hsj a oi.dst v h1]at hasks;exact hasks,hlets⟩
  refine .inl ?_
  unfold Oper.wp at*
  rw[execOp_put oj hsj a oi.dst v h1]at h
  generalize (execOp a.eval oj).run P w=r at*
  cases r with
  |ok n w'=>
   cases n<;>simp only[Oper.upon]at h ⊢
   case value u=>exact⟨keep a hy u,by rw[←Act.put_comm a v u h2];exact h⟩
   case skip=>exact⟨keep a hy _,by rw[←Act.put_comm a v undef h2];exact h⟩
   case defer d=>
    refine⟨keep _ (keepD d) _,?_⟩
    rw[←Act.put_comm _ v undef h2,←Act.put_defers]
    exact h
   case enter f args=>
    refine Calls.mono h fun e w'' he=>?_
    cases e with
    |returned u=>exact⟨keep a hy u,by rw[←Act.put_comm a v u h2];exact he⟩
    |panicked c=>exact hQ _ _ _ he
    |outgrown=>exact he
   case row row args=>exact Rows.mono h fun u w'' he=>⟨keep a hy u,by rw[←Act.put_comm a v u h2];exact he⟩
  |halt x w'=>
   cases x<;>simp only[Oper.upon]at h ⊢
   case panic u=>exact hQ _ _ _ h
 ·rename_i hw
  simp only[hw]at h
  exact⟨keep a hy _,by rw[←Act.put_comm a v undef h2];exact h⟩
theorem GO_firstG {i:Nat}{oi:Oper}{v:Value}(hi:ops[i]? =some oi)(hsel:∀(j:Nat) (o:Oper) cs b,ops[j]? =some o→o.op≠ .select cs b)
 (hQ:∀c a w,Q (.panic c) (a.put oi.dst v) w→Q (.panic c) a w):
 ∀(fuel:Nat) (listed:Array Bool) (a:Act) (W:World),
  (∀j oj,ops[j]? =some oj→j≠i→listed.getD j true=false→(∀e∈oj.after,Region.binds .any e=true→e.on≠i)→oi.apart ops oj=true)→
  i∈Region.ready .any ops listed→QYG P ops W oi v a→
  GOG P ops Q fuel (listed.setIfInBounds i true) (a.put oi.dst v) W→GOG P ops Q (fuel+1) listed a W:=by
 intro fuel
 induction fuel with
 |zero=>
  intro listed a W _ hr hy H w hw
  refine⟨fun h=>(by rw[h]at hr;cases hr),fun j hj=>?_⟩
  by_cases hji:j=i
  ·subst hji;exact hy.wpOp hi hw fun w' hw'=>⟨hw',H.world (EG.trans hw hw')⟩
  ·have:=ready_mono hj hji
   rw[H.1]at this
   cases this
 |succ fuel ih=>
  intro listed a W hfree hr hy H w hw
  refine⟨fun h=>(by rw[h]at hr;cases hr),fun j hj=>?_⟩
  by_cases hji:j=i
  ·subst hji;exact hy.wpOp hi hw fun w' hw'=>⟨hw',H.world (EG.trans hw hw')⟩
  ·have h1:=(H w hw).2 j (ready_mono hj hji)
   obtain⟨hjun,oj,hoj,hall⟩:=mem_ready.1 hj
   have hnot:∀e∈oj.after,Region.binds .any e=true→e.on≠i:=fun e he hb heq=>by
    have h1:=hall e he hb
    have h0:=(mem_ready.1 hr).1
    rw[heq]at h1
    rcases Nat.lt_or_ge i listed.size with h'|h'
    ·simp[h']at h0 h1;rw[h0]at h1;cases h1
    ·simp[Array.getElem?_eq_none h']at h1
   have h2:=wpOp_putQG hoj (hfree j oj hoj hji hjun hnot) (fun cs b=>hsel i oi cs b hi) (fun cs b=>hsel j oj cs b hoj) hQ (hy.world hw) h1
   have hfree':∀k ok,ops[k]? =some ok→k≠i→(listed.setIfInBounds j true).getD k true=false→
    (∀e∈ok.after,Region.binds .any e=true→e.on≠i)→oi.apart ops ok=true:=fun k ok hk hki hun hno=>by
    refine hfree k ok hk hki ?_ hno
    by_cases hjk:j=k
    ·subst hjk;exact hjun
    ·rw[getD_set_ne true hjk]at hun;exact hun
   refine wpOp_mono (fun a' w' h3=>⟨h3.2.1,ih (listed.setIfInBounds j true) a' w' hfree' (ready_mono hr (Ne.symm hji)) (h3.1.world h3.2.1) ?_⟩) h2
   rw[Array.setIfInBounds_comm _ _ hji]
   exact h3.2.2
def wpMixG (P:Program)(ops:Array Oper)(Q:Exit→Act→World→Prop):List Oper→Nat→Array Bool→Act→World→Prop
 |[],_,_,a,W=>∀w,EG W w→Q .normal a w
 |o::rest,k,listed,a,W=>
  (∃v,QYG P ops W o v a∧wpMixG P ops Q rest (k+1) (listed.setIfInBounds k true) (a.put o.dst v) W)∨
  (Region.ready .any ops listed=[k]∧Region.wanted o (yielded ops a.tmps)=true∧∀w,EG W w→o.wp P a w (fun a' w'=>EG w w'∧wpMixG P ops Q rest (k+1) (listed.setIfInBounds k true) a' w') Q)
theorem mix_soundG (hs:Region.noSelect ops=true)(hQ:∀c a d v w,Q (.panic c) (a.put d v) w→Q (.panic c) a w):∀(l:List Oper) (k:Nat) (listed:Array Bool) (a:Act) (W:World),(∀j,l[j]? =ops[k+j]?)→
 Region.lexFrom .any ops l.length k listed=true→wpMixG P ops Q l k listed a W→GOG P ops Q l.length listed a W
 |[],_,_,_,_,_,hB,h=>⟨by simpa[Region.lexFrom]using hB,h⟩
 |o::l,k,listed,a,W,hl,hB,h=>by
  have h0:ops[k]? =some o:=by simpa using (hl 0).symm
  simp only[List.length_cons,Region.lexFrom,Bool.and_eq_true]at hB
  obtain⟨⟨hr,hf⟩,hB'⟩:=hB
  have hl':∀j,l[j]? =ops[k+1+j]? :=fun j=>by have:=hl (j+1);simpa[Nat.add_assoc,Nat.add_comm 1 j]using this
  rcases h with⟨v,hy,hK⟩|⟨hone,hwa,hK⟩
  ·exact GO_firstG h0 (Region.noSelect_spec hs) (fun c a w=>hQ c a _ _ w) l.length listed a W (Region.free_spec h0 hf) (by simpa using hr) hy (mix_soundG hs hQ l (k+1) _ _ _ hl' hB' hK)
  ·intro w hw
   refine⟨fun h=>by rw[hone]at h;simp at h,fun i hi=>?_⟩
   rw[hone]at hi
   obtain rfl:i=k:=by simpa using hi
   unfold wpOp
   simp only[h0,hwa,if_true]
   left
   exact Oper.wp_mono (fun a' w' h'=>⟨h'.1,mix_soundG hs hQ l (i+1) _ _ _ hl' hB' h'.2⟩) (hK w hw)
theorem region_mixG {id:Nat}{a:Act}{w:World}{l:List Oper}(hm:P.follows .mixedOrders=true)(hB:Region.lexB .any l.toArray=true)(hQ:∀c a d v w,Q (.panic c) (a.put d v) w→Q (.panic c) a w)
 (h:wpMixG P l.toArray Q l 0 (Array.replicate l.length false) a w):(Code.region id l.toArray true).wp P Q a w:=by
 simp only[Region.lexB,Bool.and_eq_true]at hB
 refine wp_region_any hm ?_
 have h2:=mix_soundG hB.1 hQ l 0 (Array.replicate l.length false) a w (by simp) (by simpa using hB.2) h
 have h3:=(h2.world (EG.drew w:EG w w.drew)).any
 simpa using h3
section
variable {o:Oper}{rest:List Oper}{k:Nat}{listed:Array Bool}{a:Act}{W:World}
theorem mix_nilG (h:∀w,EG W w→Q .normal a w):wpMixG P ops Q [] k listed a W:=h
theorem mix_takeG {v:Value}(hw:Region.wanted o (yielded ops a.tmps)=true)(h:∀w,EG W w→∀R:Value→Prop,R v→qUpG P w w R ((execOp a.eval o).run P w))
 (hn:wpMixG P ops Q rest (k+1) (listed.setIfInBounds k true) (a.put o.dst v) W):wpMixG P ops Q (o::rest) k listed a W:=
 .inl ⟨v,.inl ⟨hw,fun w hw=>qUp_quietG (h w hw)⟩,hn⟩
theorem mix_aloneG (hr:Region.ready .any ops listed=[k])(hw:Region.wanted o (yielded ops a.tmps)=true)
 (h:∀w,EG W w→∀K:Act→World→Prop,(∀a' w',EG w w'→wpMixG P ops Q rest (k+1) (listed.setIfInBounds k true) a' w'→K a' w')→o.wp P a w K Q):wpMixG P ops Q (o::rest) k listed a W:=
 .inr ⟨hr,hw,fun w hw=>h w hw _ fun _ _ h1 h2=>⟨h1,h2⟩⟩
end
theorem mcall_sameG {f:FuncId}{args:Array Value}{w:World}{R:Value→Prop}{v:Value}(h:Calls P f args w fun e w'=>e= .returned v∧w=w')(hR:R v):Calls P f args w (qPostG w R):=
 h.mono fun _ _ ⟨he,hx⟩=>⟨⟨v,he,hR⟩,hx ▸ EG.refl _⟩
end
section
open Go.Proofs Go.Shelf
def lkey (l:Lnk):Int:=l.a*65537+l.b
def HP2 (xs:List Value)(k:Int):Prop:=∃a b:Int,xs=[.int .i64 a,.int .i64 b]∧k=a*65537+b∧1≤b∧b≤65536
@[reducible] def srow2_inh:Inhabited (SRow HP2 (1+1)):=⟨⟨[.int .i64 0,.int .i64 1],rfl,fun v hv=>by simp at hv;rcases hv with rfl|rfl<;>rfl,1,0,1,rfl,by omega,by omega,by omega⟩⟩
theorem cmpI_two {a b c d:Int}(h1:1≤b)(h2:b≤65536)(h3:1≤d)(h4:d≤65536):orI [cmpI a c,cmpI b d]=cmpI (a*65537+b) (c*65537+d):=by
 simp only[orI,cmpI]
 repeat' split
 all_goals omega
theorem or2_any (x y:Int)(b:Nat)(W:World)(hx:W.cell? ⟨b,0,none⟩=some (.int .i64 x))(hy:W.cell? ⟨b,1,none⟩=some (.int .i64 y)):
 Calls Tryz.prog 187 #[.slice (some ⟨b,0,none⟩) 2 2] W fun e w'=>e= .returned (.int .i64 (orI [x,y]))∧w'=W:=by
 have lb:=lt_of_cell hx
 go_enter Tryz.func187,Tryz.ntmps187
 go_wp2_with fail
 go_loopw [5,8] (fun _ s8 wr=>∃k:Nat,s8= .int .i64 k∧((k=0)∨(k=1∧x=0)∨(k=2∧x=0∧y=0))∧wr=W) (fun _ s8 _=>2 - (intOf s8).toNat)
 case atStart=>exact⟨0,rfl,.inl rfl,rfl⟩
 case round=>
  obtain⟨k,rfl,hk,rfl⟩:=hrel
  rcases hk with rfl|⟨rfl,h0⟩|⟨rfl,h0,h1⟩
  ·by_cases h0:x=0
   ·have hb:(x !=0)=false:=by simp[h0]
    replace h0:=Lib.hid h0
    go_wp2_with fail
    go_roundw
    case rel=>exact⟨1,by go_num,.inr (.inl ⟨rfl,h0.out⟩),trivial⟩
    case measure=>simp[intOf]
   ·have hb:(x !=0)=true:=by simpa using h0
    replace h0:=Lib.hid h0
    go_wp2_with fail
    go_ret
    exact⟨ret_int (by simp[orI,h0.out]),rfl⟩
  ·by_cases h1:y=0
   ·have hb:(y !=0)=false:=by simp[h1]
    replace h0:=Lib.hid h0
    replace h1:=Lib.hid h1
    go_wp2_with fail
    go_roundw
    case rel=>exact⟨2,by go_num,.inr (.inr ⟨rfl,h0.out,h1.out⟩),trivial⟩
    case measure=>simp[intOf]
   ·have hb:(y !=0)=true:=by simpa using h1
    replace h0:=Lib.hid h0
    replace h1:=Lib.hid h1
    go_wp2_with fail
    go_ret
    exact⟨ret_int (by simp[orI,h0.out,h1.out]),rfl⟩
  ·replace h0:=Lib.hid h0
   replace h1:=Lib.hid h1
   go_wp2_with fail
   go_ret
   exact⟨ret_int (by simp[orI,h0.out,h1.out]),rfl⟩
theorem cl_Link (x y:SRow HP2 (1+1))(W:World):Calls Tryz.prog 98 #[.agg x.xs.toArray,.agg y.xs.toArray] W fun e w'=>e= .returned (.int .i64 (cfS x y))∧∃q os',w'=Sort.grow (W.drewN q) os':=by
 obtain⟨xs,xl,x1,kx,a,b,rfl,rfl,hb1,hb2⟩:=x
 obtain⟨ys,yl,y1,ky,c,d,rfl,rfl,hd1,hd2⟩:=y
 unfold cfS
 simp only
 rw[←cmpI_two hb1 hb2 hd1 hd2]
 have h1:∀W,Calls Tryz.prog 113 #[.int .i64 a,.int .i64 c] W fun e w'=>e= .returned (.int .i64 (cmpI a c))∧W=w':=fun W=>(compare_any a c W).mono fun _ _ ⟨e1,e2⟩=>⟨e1,e2.symm⟩
 have h2:∀W,Calls Tryz.prog 113 #[.int .i64 b,.int .i64 d] W fun e w'=>e= .returned (.int .i64 (cmpI b d))∧W=w':=fun W=>(compare_any b d W).mono fun _ _ ⟨e1,e2⟩=>⟨e1,e2.symm⟩
 generalize cmpI a c=A at*
 generalize cmpI b d=B at*
 clear x1 y1 xl yl hb1 hb2 hd1 hd2
 have key:Calls Tryz.prog 98 #[.agg #[.int .i64 a,.int .i64 b],.agg #[.int .i64 c,.int .i64 d]] W fun e w'=>e= .returned (.int .i64 (orI [A,B]))∧EG W w':=by
  have hw0:EG W ((W.alloc (.cells #[.int .i64 a,.int .i64 b] 76)).alloc (.cells #[.int .i64 c,.int .i64 d] 76)):=(EG.alloc W _).trans (EG.alloc _ _)
  go_enter Tryz.func98,Tryz.ntmps98
  go_wp2_with fail
  refine region_mixG (by kernel_rfl) (by kernel_rfl) (fun _ _ d _ _ h=>by cases d<;>exact h) ?_
  repeat(apply mix_takeG;(first|exact want_0 rfl|exact want_b rfl rfl rfl (by with_reducible rfl));intro wq hwq R hR;(have hwq:=hwq.ext;(have hcc:=(bcell hwq).1;(try simp only[World.size_alloc,World.size_setCell,World.size_drew,World.heap_drewN]at hcc));go_simp;first|exact hR|(go_at_call 113;with_reducible (first|exact mcall_sameG (h1 _) hR|exact mcall_sameG (h2 _) hR)));simp only[Act.put,List.setIfInBounds_toArray,List.set_cons_zero,List.set_cons_succ])
  refine mix_aloneG (by kernel_rfl) (want_0 rfl) (fun w3 hw3 K2 hK=>?_)
  go_simp
  refine hK _ _ (EG.alloc _ _) ?_
  clear hK K2
  refine mix_aloneG (by kernel_rfl) (want_0 rfl) (fun w4 hw4 K3 hK=>?_)
  have hc0:w4.cell? ⟨w3.heap.size,0,none⟩=some (.int .i64 A):=keepCell hw4.ext (by simp)
  have hc1:w4.cell? ⟨w3.heap.size,1,none⟩=some (.int .i64 B):=keepCell hw4.ext (by simp)
  go_simp
  go_at_call 187
  refine(or2_any A B _ w4 hc0 hc1).mono ?_
  rintro e w5 ⟨rfl,rfl⟩
  go_simp
  refine hK _ _ (EG.refl _) ?_
  clear hK K3
  apply mix_takeG
  ·exact want_0 rfl
  ·intro wq hwq R hR
   go_simp
   exact hR
  simp only[Act.put,List.setIfInBounds_toArray,List.set_cons_zero,List.set_cons_succ]
  refine mix_nilG ?_
  intro w6 hw6
  trace_state
  go_wp2_with fail
  go_ret
  exact⟨ret_int rfl,hw0.trans (hw3.trans ((EG.alloc _ _).trans (hw4.trans hw6)))⟩
 refine key.mono fun e w' ⟨he,⟨⟨q,os⟩,hw⟩⟩=>⟨he,q,os,hw⟩
theorem sort_Link {l l':List Lnk}(g:Nat)(hb:∀x∈l,1≤x.b∧x.b≤65536)(hl0:l≠[])(hp:l'.Perm l)(hs:l'.Pairwise fun x y=>lkey x < lkey y)(hsz:l.length≤1000000):
 MSpec Tryz.prog 137 [.own 0 g,.d (.clo 98 [])] [.row 76 2 g (dRows (l.map encK))] (.d (.tup [])) [.row 76 2 g (dRows (l'.map encK))]:=
 sort_hs srow2_inh Tryz.sortLink rfl (fnok_of Tryz.func137 (by kernel_rfl) rfl) Tryz.isAgg76 Tryz.sizeOf76 (enters_of Tryz.func98 (by kernel_rfl) rfl) cl_Link encK lkey (fun x hx vs hl hr=>by
  match vs,hl with
  |[u,v],_=>
   obtain⟨M,w,r0⟩:=hr 0 _ u rfl rfl
   obtain⟨M2,w2,r1⟩:=hr 1 _ v rfl rfl
   cases r0
   cases r1
   exact⟨x.a,x.b,rfl,rfl,hb x hx⟩) hl0 hp hs hsz
end
def makeErr (n:Net)(id:Int):Int:=if idOK id=false then 3 else if (findN n id).isSome=true then 6 else if n.vpcs.length=6 then 2 else 0
def makeN (n:Net)(id:Int):Net × Int:=
 if chkT n≠0 then (Net.zero,chkT n)else if makeErr n id≠0 then (Net.zero,makeErr n id)else ({n with vpcs:=insK (·.id) ⟨id,[],[]⟩ n.vpcs},0)
theorem findN_none {n:Net}{id:Int}(h:findN n id=none):∀v∈n.vpcs,v.id≠id:=fun v hv=>by
 have:=List.find?_eq_none.1 h v hv
 simpa using this
theorem nmake_p (n:Net)(id:Int):PSpec Tryz.prog 64 [.agg (encT n),.v (.int .i64 id)] (.tup [.agg (encT (makeN n id).1),.v (.int .i64 (makeN n id).2)]):=by
 obtain⟨R,hR⟩:∃R,R=makeN n id:=⟨_,rfl⟩
 rw[←hR]
 replace hR:=Lib.hid hR
 by_cases hc:chkT n=0
 ·have hok:=netOK.1 hc
  have hbg:=nbegin_m n hc
  have hl6:((n.vpcs.length:Int)==6)=decide (n.vpcs.length=6):=by rw[Bool.eq_iff_iff];simp;omega
  cases hx:vpcIx n id with
  |some i=>
   obtain⟨v,hv,he,hi,hfs⟩:=vpcIx_some hx
   have hfd:=nfind_m n id n.vpcs.length 1 i v hv he hok.n6 hok.rise
   have hr:R=(Net.zero,if idOK id=false then 3 else 6):=by
    rw[hR.out];unfold makeN makeErr;rw[if_neg (by simpa using hc),hfs]
    cases idOK id<;>simp
   rw[hr]
   have hid:idOK id=(decide (1≤id)&&decide (id≤65536)):=rfl
   rw[hid]
   clear hr hR hok hx hc hfs hv he hid
   refine pj Tryz.func64 Tryz.ntmps64 Tryz.results64 ?_
   have z1z:=Ln.mk (ls:=[]) (hbg)
   have z2z:=Ln.mk (ls:=[4,5,3]) (hfd)
   refine wk3 ?_ ?_ ?_<;>intros
   all_goals first
    |(exfalso;grind)
    |(rw[if_pos (by grind)];exact dg)
    |(rw[if_neg (by grind)];exact dg)
  |none=>
   have hfd:=nfind0_m n id n.vpcs.length 1 (vpcIx_none hx) hok.n6 hok.rise
   have hn:=vpcIx_none hx
   by_cases hbad:makeErr n id≠0
   ·have hr:R=(Net.zero,makeErr n id):=by rw[hR.out];unfold makeN;rw[if_neg (by simpa using hc),if_pos hbad]
    have hme:makeErr n id=if idOK id=false then 3 else if n.vpcs.length=6 then 2 else 0:=by unfold makeErr;rw[hn];rfl
    rw[hr]
    have hid:idOK id=(decide (1≤id)&&decide (id≤65536)):=rfl
    rw[hme]at hbad ⊢
    rw[hid]at hbad ⊢
    clear hr hR hok hx hc hid hn hme
    replace hbad:=Lib.hid hbad
    refine pj Tryz.func64 Tryz.ntmps64 Tryz.results64 ?_
    repeat' (first|(with_reducible refine And.intro ?_ ?_)|(with_reducible refine gK_i (fun _=>?_) (fun _=>?_))|(with_reducible refine condS_i (fun _=>?_) (fun _=>?_))|(with_reducible refine drw_i (by kernel_rfl))|simp -dsimp only[go_sem,seval, *,encT,hl6,undef]|((with_reducible refine opK_c ?_);simp -dsimp only[go_sem,seval,encT,hl6,undef];first|refine callK_r (by first|assumption|fail) (by first|exact .inl rfl|exact .inr rfl) ?_|(refine callK_i (by assumption) ?_ ?_ ?_;(solve|(repeat(first|exact DLe.refl _|exact DLe.nil _|(refine DLe.tup ?_)|(refine DLe.agg ?_ rfl)|exact trivial|(refine And.intro ?_ ?_))));(solve|exact .inl rfl|exact .inr rfl)))|(refine opK_M [] (hbg) ?_ ?_ ?_ ?_ ?_ ?_;(solve|rfl|simp only[go_sem,seval,encT]);(solve|rfl);(solve|decide);(solve|simp);(solve|simp only[go_sem,seval,lentOK,encT]))|(refine opK_M [4,5,3] (hfd) ?_ ?_ ?_ ?_ ?_ ?_;(solve|rfl|simp only[go_sem,seval,encT]);(solve|rfl);(solve|decide);(solve|simp);(solve|simp only[go_sem,seval,lentOK,encT]))|omega|exact decide_eq_true (by omega)|exact DLe.refl _)
    all_goals have hb2:=hbad.out
    all_goals clear hbad hfd hbg
    all_goals first
     |(exfalso;grind)
     |(rw[if_pos (by grind)];exact dg)
     |(rw[if_neg (by grind),if_pos (by grind)];exact dg)
   ·have hr:R=({n with vpcs:=insK (·.id) ⟨id,[],[]⟩ n.vpcs},0):=by rw[hR.out];unfold makeN;rw[if_neg (by simpa using hc),if_neg hbad]
    have hg:makeErr n id=0:=by simpa using hbad
    obtain⟨g1,g2⟩:idOK id=true∧n.vpcs.length≠6:=by unfold makeErr at hg;rw[hn]at hg;grind
    have g3:1≤id∧id≤65536:=by simpa[idOK]using g1
    have h6:=hok.n6
    have hso:=sort_Vpc (l:=n.vpcs++[⟨id,[],[]⟩]) (l':=insK (·.id) ⟨id,[],[]⟩ n.vpcs) (n.vpcs.length+1) (by simp) (insK_perm _ _ _) (insK_sorted hok.rise fun v hv=>findN_none hn v hv) (by simp;omega)
    have hl4:((n.vpcs.length:Int)==6)=false:=by simp;omega
    have hb1:n.vpcs.length+1≤100:=by omega
    have hlo:decide (id < 1)=false:=by simp;omega
    have hhi:decide (id>65536)=false:=by simp;omega
    simp only[List.map_append,List.map_cons,List.map_nil]at hso
    have hso:=hso.leh (rles_mid (A:=n.vpcs.map encV) (B:=[]) (r:=[.v (.int .i64 id),.v (.slice none 0 0),.v (.slice none 0 0)]) dg) (by have:=dRows_one2 (enc:=encV) (fun _=>rfl) (n.vpcs++[⟨id,[],[]⟩]);simpa using this) (belowR_d _ _)
    rw[hr]
    clear hr hR hok hx hc hn hbad hg g1 g2 g3 hl6
    refine pj Tryz.func64 Tryz.ntmps64 Tryz.results64 ?_
    have z1z:=Ln.mk (ls:=[]) (hbg)
    have z2z:=Ln.mk (ls:=[4,5,3]) (hfd)
    have z3z:=Ln.mk (ls:=[5]) (hso)
    exact wk0
    all_goals exact dg
 ·have hbg:=nbeginE_m n hc
  have hfz:=nfindz_p id
  have h1:(chkT n !=0)=true:=by simpa using hc
  have hr:R=(Net.zero,chkT n):=by rw[hR.out];unfold makeN;rw[if_pos hc]
  rw[hr]
  replace hr:=Lib.hid hr
  refine pj Tryz.func64 Tryz.ntmps64 Tryz.results64 ?_
  have z1z:=Ln.mk (ls:=[]) (hbg)
  refine wk1 ?_<;>intros
  all_goals exact dg
def joinErr (n:Net)(a b:Int):Int:=
 if a=b then 3 else if findN n a=none∨findN n b=none then 5 else if lnk a b∈n.links then 6 else
 if peaceN {n with links:=insK lkey (lnk a b) n.links}=false then 9 else if n.links.length+1>12 then 2 else 0
def joinN (n:Net)(a b:Int):Net × Int:=
 if chkT n≠0 then (Net.zero,chkT n)else if joinErr n a b≠0 then (Net.zero,joinErr n a b)else ({n with links:=insK lkey (lnk a b) n.links},0)
theorem NetOK.bd {n:Net}(h:NetOK n){x:Int}(hx:x∈n.vpcs.map (·.id)):1≤x∧x≤65536:=by
 obtain⟨v,hv,rfl⟩:=List.mem_map.1 hx
 have:=(vpcOK_of (h.vp v hv)).id
 simpa[idOK]using this
theorem ordK_key {l m:Lnk}(h1:1≤l.b∧l.b≤65536)(h2:1≤m.b∧m.b≤65536):ordK l m=cmpI (lkey l) (lkey m):=cmpI_two h1.1 h1.2 h2.1 h2.2
theorem NetOK.lsort {n:Net}(h:NetOK n):n.links.Pairwise fun a b=>lkey a < lkey b:=by
 have hb:∀l∈n.links,1≤l.b∧l.b≤65536:=fun l hl=>h.bd (h.ids l hl).2
 have:=(risK_at n.links).1 h.rk
 have step:∀j (hj:j+1 < n.links.length),lkey n.links[j] < lkey n.links[j+1]:=fun j hj=>by
  have h1:=this j hj
  rw[ordK_key (hb _ (List.getElem_mem _)) (hb _ (List.getElem_mem _))]at h1
  unfold cmpI at h1
  split at h1
  ·assumption
  ·split at h1<;>omega
 rw[List.pairwise_iff_getElem]
 intro i j hi hj hij
 obtain⟨d,rfl⟩:∃d,j=i+1+d:=⟨j - i - 1,by omega⟩
 induction d with
 |zero=>exact step i hj
 |succ d ih=>
  have h1:=ih (by omega) (by omega)
  have h2:=step (i+1+d) (by omega)
  exact Int.lt_trans h1 h2
theorem lnk_cases (a b:Int):(lnk a b=⟨a,b⟩∧a≤b)∨(lnk a b=⟨b,a⟩∧b≤a):=by
 unfold lnk
 rcases Int.lt_trichotomy a b with h|h|h
 ·left;rw[if_neg (by omega),if_pos h];exact⟨rfl,by omega⟩
 ·subst h;left;simp
 ·right;rw[if_pos h,if_neg (by omega)];exact⟨rfl,by omega⟩
theorem lkey_inj {l m:Lnk}(h1:1≤l.b∧l.b≤65536)(h2:1≤m.b∧m.b≤65536)(h:lkey l=lkey m):l=m:=by
 unfold lkey at h
 cases l;cases m
 simp only at*
 simp only[Lnk.mk.injEq]
 omega
theorem njoin_p (n:Net)(a b:Int):PSpec Tryz.prog 65 [.agg (encT n),.v (.int .i64 a),.v (.int .i64 b)] (.tup [.agg (encT (joinN n a b).1),.v (.int .i64 (joinN n a b).2)]):=by
 obtain⟨R,hR⟩:∃R,R=joinN n a b:=⟨_,rfl⟩
 rw[←hR]
 replace hR:=Lib.hid hR
 by_cases hc:chkT n=0
 ·have hok:=netOK.1 hc
  have hbg:=nbegin_m n hc
  have hlk:=link_p a b
  have hR1:R=if joinErr n a b≠0 then (Net.zero,joinErr n a b)else ({n with links:=insK lkey (lnk a b) n.links},0):=by rw[hR.out];unfold joinN;rw[if_neg (by simpa using hc)]
  cases hxa:vpcIx n a with
  |none=>
   have hfa:=nfind0_m n a n.vpcs.length 1 (vpcIx_none hxa) hok.n6 hok.rise
   have hr:R=(Net.zero,if a=b then 3 else 5):=by
    rw[hR1,show joinErr n a b=if a=b then 3 else 5 by unfold joinErr;rw[vpcIx_none hxa];simp]
    split<;>simp
   have hab:(a==b)=decide (a=b):=rfl
   rw[hr]
   cases hxb:vpcIx n b with
   |none=>
    have hfb:=nfind0_m n b n.vpcs.length 1 (vpcIx_none hxb) hok.n6 hok.rise
    clear hr hR hR1 hok hxa hxb hc
    refine pj Tryz.func65 Tryz.ntmps65 Tryz.results65 ?_
    repeat' (first|(with_reducible refine And.intro ?_ ?_)|(with_reducible refine gK_i (fun _=>?_) (fun _=>?_))|(with_reducible refine condS_i (fun _=>?_) (fun _=>?_))|(with_reducible refine drw_i (by kernel_rfl))|simp -dsimp only[go_sem,seval, *,encT,undef]|((with_reducible refine opK_c ?_);simp -dsimp only[go_sem,seval,encT,undef];first|refine callK_r (by first|assumption|fail) (by first|exact .inl rfl|exact .inr rfl) ?_|(refine callK_i (by assumption) ?_ ?_ ?_;(solve|(repeat(first|exact DLe.refl _|exact DLe.nil _|(refine DLe.tup ?_)|(refine DLe.agg ?_ rfl)|exact trivial|(refine And.intro ?_ ?_))));(solve|exact .inl rfl|exact .inr rfl)))|(refine opK_M [] (hbg) ?_ ?_ ?_ ?_ ?_ ?_;(solve|rfl|simp only[go_sem,seval,encT]);(solve|rfl);(solve|decide);(solve|simp);(solve|simp only[go_sem,seval,lentOK,encT]))|(refine opK_M [4,5,3] (hfa) ?_ ?_ ?_ ?_ ?_ ?_;(solve|rfl|simp only[go_sem,seval,encT]);(solve|rfl);(solve|decide);(solve|simp);(solve|simp only[go_sem,seval,lentOK,encT]))|(refine opK_M [4,5,3] (hfb) ?_ ?_ ?_ ?_ ?_ ?_;(solve|rfl|simp only[go_sem,seval,encT]);(solve|rfl);(solve|decide);(solve|simp);(solve|simp only[go_sem,seval,lentOK,encT]))|omega|exact decide_eq_true (by omega)|exact DLe.refl _)
    all_goals first
     |(exfalso;grind)
     |(rw[if_pos (by grind)];exact dg)
     |(rw[if_neg (by grind)];exact dg)
   |some j=>
    obtain⟨v,hv,he,hi,hfs⟩:=vpcIx_some hxb
    have hfb:=nfind_m n b n.vpcs.length 1 j v hv he hok.n6 hok.rise
    clear hr hR hR1 hok hxa hxb hc hv he hfs hi
    refine pj Tryz.func65 Tryz.ntmps65 Tryz.results65 ?_
    repeat' (first|(with_reducible refine And.intro ?_ ?_)|(with_reducible refine gK_i (fun _=>?_) (fun _=>?_))|(with_reducible refine condS_i (fun _=>?_) (fun _=>?_))|(with_reducible refine drw_i (by kernel_rfl))|simp -dsimp only[go_sem,seval, *,encT,undef]|((with_reducible refine opK_c ?_);simp -dsimp only[go_sem,seval,encT,undef];first|refine callK_r (by first|assumption|fail) (by first|exact .inl rfl|exact .inr rfl) ?_|(refine callK_i (by assumption) ?_ ?_ ?_;(solve|(repeat(first|exact DLe.refl _|exact DLe.nil _|(refine DLe.tup ?_)|(refine DLe.agg ?_ rfl)|exact trivial|(refine And.intro ?_ ?_))));(solve|exact .inl rfl|exact .inr rfl)))|(refine opK_M [] (hbg) ?_ ?_ ?_ ?_ ?_ ?_;(solve|rfl|simp only[go_sem,seval,encT]);(solve|rfl);(solve|decide);(solve|simp);(solve|simp only[go_sem,seval,lentOK,encT]))|(refine opK_M [4,5,3] (hfa) ?_ ?_ ?_ ?_ ?_ ?_;(solve|rfl|simp only[go_sem,seval,encT]);(solve|rfl);(solve|decide);(solve|simp);(solve|simp only[go_sem,seval,lentOK,encT]))|(refine opK_M [4,5,3] (hfb) ?_ ?_ ?_ ?_ ?_ ?_;(solve|rfl|simp only[go_sem,seval,encT]);(solve|rfl);(solve|decide);(solve|simp);(solve|simp only[go_sem,seval,lentOK,encT]))|omega|exact decide_eq_true (by omega)|exact DLe.refl _)
    all_goals first
     |(exfalso;grind)
     |(rw[if_pos (by grind)];exact dg)
     |(rw[if_neg (by grind)];exact dg)
  |some i=>
   obtain⟨u,hu,hea,hia,hfsa⟩:=vpcIx_some hxa
   have hfa:=nfind_m n a n.vpcs.length 1 i u hu hea hok.n6 hok.rise
   cases hxb:vpcIx n b with
   |none=>
    have hfb:=nfind0_m n b n.vpcs.length 1 (vpcIx_none hxb) hok.n6 hok.rise
    have hr:R=(Net.zero,if a=b then 3 else 5):=by
     rw[hR1,show joinErr n a b=if a=b then 3 else 5 by unfold joinErr;rw[vpcIx_none hxb];simp]
     split<;>simp
    rw[hr]
    clear hr hR hR1 hok hxa hxb hc hu hea hia hfsa
    refine pj Tryz.func65 Tryz.ntmps65 Tryz.results65 ?_
    repeat' (first|(with_reducible refine And.intro ?_ ?_)|(with_reducible refine gK_i (fun _=>?_) (fun _=>?_))|(with_reducible refine condS_i (fun _=>?_) (fun _=>?_))|(with_reducible refine drw_i (by kernel_rfl))|simp -dsimp only[go_sem,seval, *,encT,undef]|((with_reducible refine opK_c ?_);simp -dsimp only[go_sem,seval,encT,undef];first|refine callK_r (by first|assumption|fail) (by first|exact .inl rfl|exact .inr rfl) ?_|(refine callK_i (by assumption) ?_ ?_ ?_;(solve|(repeat(first|exact DLe.refl _|exact DLe.nil _|(refine DLe.tup ?_)|(refine DLe.agg ?_ rfl)|exact trivial|(refine And.intro ?_ ?_))));(solve|exact .inl rfl|exact .inr rfl)))|(refine opK_M [] (hbg) ?_ ?_ ?_ ?_ ?_ ?_;(solve|rfl|simp only[go_sem,seval,encT]);(solve|rfl);(solve|decide);(solve|simp);(solve|simp only[go_sem,seval,lentOK,encT]))|(refine opK_M [4,5,3] (hfa) ?_ ?_ ?_ ?_ ?_ ?_;(solve|rfl|simp only[go_sem,seval,encT]);(solve|rfl);(solve|decide);(solve|simp);(solve|simp only[go_sem,seval,lentOK,encT]))|(refine opK_M [4,5,3] (hfb) ?_ ?_ ?_ ?_ ?_ ?_;(solve|rfl|simp only[go_sem,seval,encT]);(solve|rfl);(solve|decide);(solve|simp);(solve|simp only[go_sem,seval,lentOK,encT]))|omega|exact decide_eq_true (by omega)|exact DLe.refl _)
    all_goals first
     |(exfalso;grind)
     |(rw[if_pos (by grind)];exact dg)
     |(rw[if_neg (by grind)];exact dg)
   |some j=>
    obtain⟨v,hv,heb,hib,hfsb⟩:=vpcIx_some hxb
    have hfb:=nfind_m n b n.vpcs.length 1 j v hv heb hok.n6 hok.rise
    by_cases hab:a=b
    ·have hr:R=(Net.zero,3):=by rw[hR1,show joinErr n a b=3 by unfold joinErr;rw[if_pos hab]];rfl
     rw[hr]
     clear hr hR hR1 hok hxa hxb hc hu hea hia hfsa hv heb hib hfsb
     have habI:(a==b)=true:=by simpa using hab
     replace hab:=Lib.hid hab
     refine pj Tryz.func65 Tryz.ntmps65 Tryz.results65 ?_
     repeat' (first|(with_reducible refine And.intro ?_ ?_)|(with_reducible refine gK_i (fun _=>?_) (fun _=>?_))|(with_reducible refine condS_i (fun _=>?_) (fun _=>?_))|(with_reducible refine drw_i (by kernel_rfl))|simp -dsimp only[go_sem,seval, *,encT,habI,undef]|((with_reducible refine opK_c ?_);simp -dsimp only[go_sem,seval,encT,habI,undef];first|refine callK_r (by first|assumption|fail) (by first|exact .inl rfl|exact .inr rfl) ?_|(refine callK_i (by assumption) ?_ ?_ ?_;(solve|(repeat(first|exact DLe.refl _|exact DLe.nil _|(refine DLe.tup ?_)|(refine DLe.agg ?_ rfl)|exact trivial|(refine And.intro ?_ ?_))));(solve|exact .inl rfl|exact .inr rfl)))|(refine opK_M [] (hbg) ?_ ?_ ?_ ?_ ?_ ?_;(solve|rfl|simp only[go_sem,seval,encT]);(solve|rfl);(solve|decide);(solve|simp);(solve|simp only[go_sem,seval,lentOK,encT]))|(refine opK_M [4,5,3] (hfa) ?_ ?_ ?_ ?_ ?_ ?_;(solve|rfl|simp only[go_sem,seval,encT]);(solve|rfl);(solve|decide);(solve|simp);(solve|simp only[go_sem,seval,lentOK,encT]))|(refine opK_M [4,5,3] (hfb) ?_ ?_ ?_ ?_ ?_ ?_;(solve|rfl|simp only[go_sem,seval,encT]);(solve|rfl);(solve|decide);(solve|simp);(solve|simp only[go_sem,seval,lentOK,encT]))|omega|exact decide_eq_true (by omega)|exact DLe.refl _)
     all_goals exact dg
    ·have habI:(a==b)=false:=by simpa using hab
     have hct:=contains_Link n.links (lnk a b) (by have:=hok.n12;omega)
     have hany:(n.links.any fun y=>decide (lnk a b=y))=decide (lnk a b∈n.links):=by
      rw[Bool.eq_iff_iff,List.any_eq_true]
      simp
     rw[hany]at hct
     have hR2:R=if lnk a b∈n.links then (Net.zero,6)else if peaceN {n with links:=insK lkey (lnk a b) n.links}=false then (Net.zero,9)else if n.links.length+1>12 then (Net.zero,2)else ({n with links:=insK lkey (lnk a b) n.links},0):=by
      rw[hR1];unfold joinErr;rw[if_neg hab,hfsa,hfsb];simp only[reduceCtorEq,or_self,if_false]
      split
      ·rfl
      ·split
       ·rfl
       ·split<;>rfl
     by_cases hin:lnk a b∈n.links
     ·have hr:R=(Net.zero,6):=by rw[hR2,if_pos hin]
      rw[hr]
      rw[decide_eq_true hin]at hct
      clear hr hR hR1 hR2 hok hxa hxb hc hu hea hia hfsa hv heb hib hfsb hany hin
      generalize lnk a b=LK at*
      replace hab:=Lib.hid hab
      refine pj Tryz.func65 Tryz.ntmps65 Tryz.results65 ?_
      repeat' (first|(with_reducible refine And.intro ?_ ?_)|(with_reducible refine gK_i (fun _=>?_) (fun _=>?_))|(with_reducible refine condS_i (fun _=>?_) (fun _=>?_))|(with_reducible refine drw_i (by kernel_rfl))|simp -dsimp only[go_sem,seval, *,encT,encK,habI,undef]|((with_reducible refine opK_c ?_);simp -dsimp only[go_sem,seval,encT,encK,habI,undef];first|refine callK_r (by first|assumption|exact hlk|exact hct) (by first|exact .inl rfl|exact .inr rfl) ?_|(refine callK_i (by assumption) ?_ ?_ ?_;(solve|(repeat(first|exact DLe.refl _|exact DLe.nil _|(refine DLe.tup ?_)|(refine DLe.agg ?_ rfl)|exact trivial|(refine And.intro ?_ ?_))));(solve|exact .inl rfl|exact .inr rfl)))|(refine opK_M [] (hbg) ?_ ?_ ?_ ?_ ?_ ?_;(solve|rfl|simp only[go_sem,seval,encT]);(solve|rfl);(solve|decide);(solve|simp);(solve|simp only[go_sem,seval,lentOK,encT]))|(refine opK_M [4,5,3] (hfa) ?_ ?_ ?_ ?_ ?_ ?_;(solve|rfl|simp only[go_sem,seval,encT]);(solve|rfl);(solve|decide);(solve|simp);(solve|simp only[go_sem,seval,lentOK,encT]))|(refine opK_M [4,5,3] (hfb) ?_ ?_ ?_ ?_ ?_ ?_;(solve|rfl|simp only[go_sem,seval,encT]);(solve|rfl);(solve|decide);(solve|simp);(solve|simp only[go_sem,seval,lentOK,encT]))|omega|exact decide_eq_true (by omega)|exact DLe.refl _)
      all_goals exact dg
     ·rw[if_neg hin]at hR2
      rw[decide_eq_false hin]at hct
      have hma:a∈n.vpcs.map (·.id):=find_ids (by rw[hfsa];rfl)
      have hmb:b∈n.vpcs.map (·.id):=find_ids (by rw[hfsb];rfl)
      have hlb:∀l∈n.links,1≤l.b∧l.b≤65536:=fun l hl=>hok.bd (hok.ids l hl).2
      have hlm:(lnk a b).a∈n.vpcs.map (·.id)∧(lnk a b).b∈n.vpcs.map (·.id):=by
       rcases lnk_cases a b with⟨e,-⟩|⟨e,-⟩
       ·rw[e];exact⟨hma,hmb⟩
       ·rw[e];exact⟨hmb,hma⟩
      have hlkb:=hok.bd hlm.2
      have hso:=sort_Link (l:=n.links++[lnk a b]) (l':=insK lkey (lnk a b) n.links) 2 (fun l hl=>by
       rcases List.mem_append.1 hl with hl|hl
       ·exact hlb l hl
       ·rw[List.mem_singleton.1 hl];exact hlkb) (by simp) (insK_perm _ _ _) (insK_sorted hok.lsort fun y hy e=>hin (by rw[←lkey_inj (hlb y hy) hlkb e];exact hy)) (by have:=hok.n12;simp;omega)
      have hpe:=peace_p {n with links:=insK lkey (lnk a b) n.links} (by have:=hok.n6;simp;omega) (by have:=hok.n12;simp only[insK_len];omega) (fun v hv=>by have:=(vpcOK_of (hok.vp v hv)).n4;omega) (fun l hl=>by
       rcases insK_mem.1 hl with rfl|hl
       ·exact hlm
       ·exact hok.ids l hl)
      have h12:=hok.n12
      have hb1:n.links.length+1≤100:=by omega
      have hsl:(insK lkey (lnk a b) n.links).length=n.links.length+1:=insK_len _ _ _
      have hlI:((n.links.length+1:Nat):Int)>12↔n.links.length+1>12:=by omega
      simp only[List.map_append,List.map_cons,List.map_nil]at hso
      clear hR hR1 hok hxa hxb hc hu hea hia hfsa hv heb hib hfsb hany hin hma hmb hlb hlm hlkb
      generalize insK lkey (lnk a b) n.links=LS at*
      generalize lnk a b=LK at*
      replace hab:=Lib.hid hab
      cases hp:peaceN {n with links:=LS} with
      |false=>
       have hr:R=(Net.zero,9):=by rw[hR2,if_pos hp]
       rw[hp]at hpe
       rw[hr]
       clear hr hR2 hp hlI
       refine pj Tryz.func65 Tryz.ntmps65 Tryz.results65 ?_
       repeat' (first|(with_reducible refine And.intro ?_ ?_)|(with_reducible refine gK_i (fun _=>?_) (fun _=>?_))|(with_reducible refine condS_i (fun _=>?_) (fun _=>?_))|(with_reducible refine drw_i (by kernel_rfl))|simp -dsimp only[go_sem,seval, *,encT,encK,habI,hb1,undef]|((with_reducible refine opK_c ?_);simp -dsimp only[go_sem,seval,encT,encK,habI,hb1,undef];first|refine callK_r (by first|assumption|exact hlk|exact hct|exact hpe) (by first|exact .inl rfl|exact .inr rfl) ?_|(refine callK_i (by assumption) ?_ ?_ ?_;(solve|(repeat(first|exact DLe.refl _|exact DLe.nil _|(refine DLe.tup ?_)|(refine DLe.agg ?_ rfl)|exact trivial|(refine And.intro ?_ ?_))));(solve|exact .inl rfl|exact .inr rfl)))|(refine opK_M [] (hbg) ?_ ?_ ?_ ?_ ?_ ?_;(solve|rfl|simp only[go_sem,seval,encT]);(solve|rfl);(solve|decide);(solve|simp);(solve|simp only[go_sem,seval,lentOK,encT]))|(refine opK_M [4,5,3] (hfa) ?_ ?_ ?_ ?_ ?_ ?_;(solve|rfl|simp only[go_sem,seval,encT]);(solve|rfl);(solve|decide);(solve|simp);(solve|simp only[go_sem,seval,lentOK,encT]))|(refine opK_M [4,5,3] (hfb) ?_ ?_ ?_ ?_ ?_ ?_;(solve|rfl|simp only[go_sem,seval,encT]);(solve|rfl);(solve|decide);(solve|simp);(solve|simp only[go_sem,seval,lentOK,encT]))|(refine opK_M [3] (hso) ?_ ?_ ?_ ?_ ?_ ?_;(solve|rfl|simp only[go_sem,seval,encK]);(solve|rfl);(solve|decide);(solve|simp);(solve|simp only[go_sem,seval,lentOK,encK]))|omega|exact decide_eq_true (by omega)|exact DLe.refl _)
       all_goals exact dg
      |true=>
       rw[hp]at hpe
       by_cases hbig:n.links.length+1>12
       ·have hr:R=(Net.zero,2):=by rw[hR2,if_neg (by simp[hp]),if_pos hbig]
        have hbI:decide ((LS.length:Int)>12)=true:=by rw[hsl];exact decide_eq_true (hlI.2 hbig)
        rw[hr]
        clear hr hR2 hp hlI hbig
        replace hsl:=Lib.hid hsl
        refine pj Tryz.func65 Tryz.ntmps65 Tryz.results65 ?_
        repeat' (first|(with_reducible refine And.intro ?_ ?_)|(with_reducible refine gK_i (fun _=>?_) (fun _=>?_))|(with_reducible refine condS_i (fun _=>?_) (fun _=>?_))|(with_reducible refine drw_i (by kernel_rfl))|simp -dsimp only[go_sem,seval, *,encT,encK,habI,hb1,hbI,undef]|((with_reducible refine opK_c ?_);simp -dsimp only[go_sem,seval,encT,encK,habI,hb1,hbI,undef];first|refine callK_r (by first|assumption|exact hlk|exact hct|exact hpe) (by first|exact .inl rfl|exact .inr rfl) ?_|(refine callK_i (by assumption) ?_ ?_ ?_;(solve|(repeat(first|exact DLe.refl _|exact DLe.nil _|(refine DLe.tup ?_)|(refine DLe.agg ?_ rfl)|exact trivial|(refine And.intro ?_ ?_))));(solve|exact .inl rfl|exact .inr rfl)))|(refine opK_M [] (hbg) ?_ ?_ ?_ ?_ ?_ ?_;(solve|rfl|simp only[go_sem,seval,encT]);(solve|rfl);(solve|decide);(solve|simp);(solve|simp only[go_sem,seval,lentOK,encT]))|(refine opK_M [4,5,3] (hfa) ?_ ?_ ?_ ?_ ?_ ?_;(solve|rfl|simp only[go_sem,seval,encT]);(solve|rfl);(solve|decide);(solve|simp);(solve|simp only[go_sem,seval,lentOK,encT]))|(refine opK_M [4,5,3] (hfb) ?_ ?_ ?_ ?_ ?_ ?_;(solve|rfl|simp only[go_sem,seval,encT]);(solve|rfl);(solve|decide);(solve|simp);(solve|simp only[go_sem,seval,lentOK,encT]))|(refine opK_M [3] (hso) ?_ ?_ ?_ ?_ ?_ ?_;(solve|rfl|simp only[go_sem,seval,encK]);(solve|rfl);(solve|decide);(solve|simp);(solve|simp only[go_sem,seval,lentOK,encK]))|omega|exact decide_eq_true (by omega)|exact DLe.refl _)
        all_goals exact dg
       ·have hr:R=({n with links:=LS},0):=by rw[hR2,if_neg (by simp[hp]),if_neg hbig]
        have hbI:decide ((LS.length:Int)>12)=false:=by rw[hsl];exact decide_eq_false (fun h=>hbig (hlI.1 h))
        rw[hr]
        clear hr hR2 hp hlI hbig
        replace hsl:=Lib.hid hsl
        refine pj Tryz.func65 Tryz.ntmps65 Tryz.results65 ?_
        repeat' (first|(with_reducible refine And.intro ?_ ?_)|(with_reducible refine gK_i (fun _=>?_) (fun _=>?_))|(with_reducible refine condS_i (fun _=>?_) (fun _=>?_))|(with_reducible refine drw_i (by kernel_rfl))|simp -dsimp only[go_sem,seval, *,encT,encK,habI,hb1,hbI,undef]|((with_reducible refine opK_c ?_);simp -dsimp only[go_sem,seval,encT,encK,habI,hb1,hbI,undef];first|refine callK_r (by first|assumption|exact hlk|exact hct|exact hpe) (by first|exact .inl rfl|exact .inr rfl) ?_|(refine callK_i (by assumption) ?_ ?_ ?_;(solve|(repeat(first|exact DLe.refl _|exact DLe.nil _|(refine DLe.tup ?_)|(refine DLe.agg ?_ rfl)|exact trivial|(refine And.intro ?_ ?_))));(solve|exact .inl rfl|exact .inr rfl)))|(refine opK_M [] (hbg) ?_ ?_ ?_ ?_ ?_ ?_;(solve|rfl|simp only[go_sem,seval,encT]);(solve|rfl);(solve|decide);(solve|simp);(solve|simp only[go_sem,seval,lentOK,encT]))|(refine opK_M [4,5,3] (hfa) ?_ ?_ ?_ ?_ ?_ ?_;(solve|rfl|simp only[go_sem,seval,encT]);(solve|rfl);(solve|decide);(solve|simp);(solve|simp only[go_sem,seval,lentOK,encT]))|(refine opK_M [4,5,3] (hfb) ?_ ?_ ?_ ?_ ?_ ?_;(solve|rfl|simp only[go_sem,seval,encT]);(solve|rfl);(solve|decide);(solve|simp);(solve|simp only[go_sem,seval,lentOK,encT]))|(refine opK_M [3] (hso) ?_ ?_ ?_ ?_ ?_ ?_;(solve|rfl|simp only[go_sem,seval,encK]);(solve|rfl);(solve|decide);(solve|simp);(solve|simp only[go_sem,seval,lentOK,encK]))|omega|exact decide_eq_true (by omega)|exact DLe.refl _)
        all_goals exact dg
 ·have hbg:=nbeginE_m n hc
  have h1:(chkT n !=0)=true:=by simpa using hc
  have hr:R=(Net.zero,chkT n):=by rw[hR.out];unfold joinN;rw[if_pos hc]
  rw[hr]
  replace hr:=Lib.hid hr
  refine pj Tryz.func65 Tryz.ntmps65 Tryz.results65 ?_
  have z1z:=Ln.mk (ls:=[]) (hbg)
  refine wk1 ?_<;>intros
  all_goals exact dg
def ownsB (E:List (List Int × Int))(id:Int):Bool:=E.any fun kv=>kv.2==id
theorem owns_m (b:Bok)(n:Net)(c:Cmd)(id:Int)(h8:b.pools.length≤1000000000)(h32:∀p∈b.pools,p.leases.length≤1000000000):
 MSpec Tryz.prog 63 [.ptr 0 0,.d (.v (.int .i64 id))] [.box 86 (wkC b (.own 1 n.vpcs.length) (.d (.sl 2 (n.links.map encK))) c .zero),.row 55 3 n.vpcs.length (dRows (n.vpcs.map encV))] (.d (.v (.bool (ownsB (usE b) id))))
  [.box 86 (wkC b (.own 1 n.vpcs.length) (.d (.sl 2 (n.links.map encK))) c .zero),.row 55 3 n.vpcs.length (dRows (n.vpcs.map encV))]:=by
 have hu:=Ln.mk (ls:=[]) (users_m b h8 h32)
 obtain⟨R,hR⟩:∃R,R=ownsB (usE b) id:=⟨_,rfl⟩
 rw[←hR]
 replace hR:=Lib.hid hR
 clear h8 h32
 generalize usE b=E at*
 refine ms_i tab_ok mixed Tryz.func63 rfl Tryz.ntmps63 Tryz.results63 (by kernel_rfl) (by simp) (by simp[belowL,belowP]) (by simp[belowH,belowC,belowL,belowP,wkC,belowL_d,belowR_d]) ?_
 refine wk1 ?_
 refine loopR (fun m e h=>∃(seen:List Nat),(∀i∈seen,∀kv,E[i]? =some kv→kv.2≠id)∧m=leftN E.length seen∧e=[(13,.ptr 4 0),(1,.d (.v (.int .i64 id)))]∧h=[.box 86 (wkC b (.own 1 n.vpcs.length) (.d (.sl 2 (n.links.map encK))) c .zero),.row 55 3 n.vpcs.length (dRows (n.vpcs.map encV)),.gone,.gone,.it 3 true E seen]) _ _ _ ⟨[],by simp,rfl,rfl,rfl⟩ (wf (hbh:=by simp only[wkC,belowH,belowE,belowC,belowL,belowR,belowP,belowL_d,belowR_d,List.length_cons,List.length_nil,Nat.reduceAdd,Nat.reduceLT,decide_true,Bool.and_self,Bool.and_true])) ?_
 rintro m e h ⟨seen,hno,hm,rfl,rfl⟩ C2 hC2
 replace hno:=Lib.hid hno
 refine swp_seq tab_ok mixed (by rfl) (swp_next (k:=4) (x:= .tmp 13) tab_ok (by simp) rfl rfl rfl rfl rfl rfl (by decide) (by decide) rfl rfl (by simp) ?_ ?_)
 ·intro hall
  have hr:R=false:=by
   rw[hR.out]
   unfold ownsB
   rw[Bool.eq_false_iff]
   intro h
   obtain⟨kv,hkv,he⟩:=List.any_eq_true.1 h
   obtain⟨i,hi,hie⟩:=List.getElem_of_mem hkv
   exact hno.out i (hall i hi) kv (by rw[List.getElem?_eq_getElem hi,hie]) (by simpa using he)
  rw[hr]
  clear hall hm hr
  change sC _ _ _ _ _ _ _ _ _ _
  refine wk1 ?_
  exact wf
 ·intro i hi hns
  obtain⟨kv,hkv⟩:∃kv,E[i]? =some kv:=⟨_,List.getElem?_eq_getElem hi⟩
  have hgl:(seen++[i]).getLast? =some i:=by simp
  have hll:=left_lt hi hns
  by_cases hid:kv.2=id
  ·have hr:R=true:=by
    rw[hR.out]
    unfold ownsB
    exact List.any_eq_true.2 ⟨kv,List.mem_of_getElem? hkv,by simpa using hid⟩
   rw[hr]
   have e1:(kv.2==id)=true:=by simpa using hid
   replace hid:=Lib.hid hid
   clear hm hll hr
   change sC _ _ _ _ _ _ _ _ _ _
   refine wk1 ?_
   exact wf
  ·have e1:(kv.2==id)=false:=by simpa using hid
   have hn2:∀j∈seen++[i],∀kw,E[j]? =some kw→kw.2≠id:=fun j hj kw hkw=>by
    rcases List.mem_append.1 hj with h|h
    ·exact hno.out j h kw hkw
    ·simp at h;subst h;rw[hkv]at hkw;cases hkw;exact hid
   replace hn2:=Lib.hid hn2
   replace hid:=Lib.hid hid
   replace hll:=Lib.hid hll
   change sC _ _ _ _ _ _ _ _ _ _
   refine wk1 ?_
   exact hC2 _ _ _ _ _ (by rw[hm];exact hll.out) ⟨_,hn2.out,rfl,rfl,rfl⟩ (wf (hbh:=by simp only[wkC,belowH,belowE,belowC,belowL,belowR,belowP,belowL_d,belowR_d,List.length_cons,List.length_nil,Nat.reduceAdd,Nat.reduceLT,decide_true,Bool.and_self,Bool.and_true]))
def isNet (c:Cmd):Bool:=decide (c.op=7∨c.op=15∨c.op=16)
def netS (b:Bok)(n:Net)(c:Cmd):Net × Ans:=
 if c.op=7 then if ownsB (usE b) c.a=true then (n,.er 6)else ((makeN n c.a).1,.er (makeN n c.a).2)
 else if c.op=15 then ((joinN n c.a c.b).1,.er (joinN n c.a c.b).2)
 else ((partN n c.a c.b).1,.er (partN n c.a c.b).2)
theorem netF_m (b:Bok)(n:Net)(c:Cmd)(h:isNet c=false):
 MSpec Tryz.prog 28 [.ptr 0 0] [.box 86 (wkC b (.own 1 n.vpcs.length) (.d (.sl 2 (n.links.map encK))) c .zero),.row 55 3 n.vpcs.length (dRows (n.vpcs.map encV))] (.d (.v (.bool false)))
  [.box 86 (wkC b (.own 1 n.vpcs.length) (.d (.sl 2 (n.links.map encK))) c .zero),.row 55 3 n.vpcs.length (dRows (n.vpcs.map encV))]:=by
 unfold isNet at h
 have h:=of_decide_eq_false h
 have e1:(c.op==7)=false:=by simp;omega
 have e2:(c.op==15)=false:=by simp;omega
 have e3:(c.op==16)=false:=by simp;omega
 clear h
 refine ms_i tab_ok mixed Tryz.func28 rfl Tryz.ntmps28 Tryz.results28 (by kernel_rfl) (by simp) (by simp[belowL,belowP]) (by simp[belowH,belowC,belowL,belowP,wkC,belowL_d,belowR_d]) ?_
 refine wk1 ?_
 exact wf
theorem netT_m (b:Bok)(n:Net)(c:Cmd)(h8:b.pools.length≤1000000000)(h32:∀p∈b.pools,p.leases.length≤1000000000)(h:isNet c=true):
 MSpec Tryz.prog 28 [.ptr 0 0] [.box 86 (wkC b (.own 1 n.vpcs.length) (.d (.sl 2 (n.links.map encK))) c .zero),.row 55 3 n.vpcs.length (dRows (n.vpcs.map encV))] (.d (.v (.bool true)))
  [.box 86 (wkC b (.d (.sl 3 ((netS b n c).1.vpcs.map encV))) (.d (.sl 2 ((netS b n c).1.links.map encK))) c (netS b n c).2),.gone]:=by
 have hop:c.op=7∨c.op=15∨c.op=16:=of_decide_eq_true h
 clear h
 unfold netS
 rcases hop with h1|h1|h1
 ·rw[if_pos h1]
  have ho:=Ln.mk (ls:=[0,1]) (owns_m b n c c.a h8 h32)
  replace h32:=Lib.hid h32
  cases hb:ownsB (usE b) c.a
  ·rw[hb]at ho
   have hp:=Ln.mk (ls:=[1]) (ms_frz (nmake_p n c.a) (args:=[.agg [.own 0 n.vpcs.length,.d (.sl 2 (n.links.map encK))],.d (.v (.int .i64 c.a))]) (h0:=[.row 55 3 n.vpcs.length (dRows (n.vpcs.map encV))]) (by simp[belowL,belowP]) (by simp[belowH,belowC,belowR_d]) (by simp[vw,viewL,viewF,hatL,viewR_d,encT]) (by simp[tc,tchL,tchF,hatL,tchR_d]))
   generalize makeN n c.a=R at*
   simp only[Bool.false_eq_true,if_false]
   simp only[wkC,h1]at ho
   replace hb:=Lib.hid hb
   refine ms_i tab_ok mixed Tryz.func28 rfl Tryz.ntmps28 Tryz.results28 (by kernel_rfl) (by simp) (by simp[belowL,belowP]) (by simp[belowH,belowC,belowL,belowP,wkC,belowL_d,belowR_d]) ?_
   refine wk1 ?_
   exact wf
  ·rw[hb]at ho
   simp only[if_true]
   simp only[wkC,h1]at ho
   replace hb:=Lib.hid hb
   refine ms_i tab_ok mixed Tryz.func28 rfl Tryz.ntmps28 Tryz.results28 (by kernel_rfl) (by simp) (by simp[belowL,belowP]) (by simp[belowH,belowC,belowL,belowP,wkC,belowL_d,belowR_d]) ?_
   refine wk1 ?_
   refine(weak_freeze 1 n.vpcs.length 55 3 (n.vpcs.map encV) rfl).trans ?_
   simp only[fzE,fz,fzL,fzH,fzC,fzR,fzR_app,fzR_d,fzL_d,List.map_cons,List.map_nil,Nat.reduceAdd,Nat.reduceEqDiff,reduceIte,and_true,true_and,and_self,and_false,false_and,Nat.zero_add,Nat.add_zero,reduceCtorEq]
   exact wf
 ·rw[if_neg (by omega),if_pos h1]
  have hp:=Ln.mk (ls:=[1]) (ms_frz (njoin_p n c.a c.b) (args:=[.agg [.own 0 n.vpcs.length,.d (.sl 2 (n.links.map encK))],.d (.v (.int .i64 c.a)),.d (.v (.int .i64 c.b))]) (h0:=[.row 55 3 n.vpcs.length (dRows (n.vpcs.map encV))]) (by simp[belowL,belowP]) (by simp[belowH,belowC,belowR_d]) (by simp[vw,viewL,viewF,hatL,viewR_d,encT]) (by simp[tc,tchL,tchF,hatL,tchR_d]))
  generalize joinN n c.a c.b=R at*
  replace h32:=Lib.hid h32
  refine ms_i tab_ok mixed Tryz.func28 rfl Tryz.ntmps28 Tryz.results28 (by kernel_rfl) (by simp) (by simp[belowL,belowP]) (by simp[belowH,belowC,belowL,belowP,wkC,belowL_d,belowR_d]) ?_
  refine wk1 ?_
  exact wf
 ·rw[if_neg (by omega),if_neg (by omega)]
  have hp:=Ln.mk (ls:=[1]) (ms_frz (npart_p n c.a c.b) (args:=[.agg [.own 0 n.vpcs.length,.d (.sl 2 (n.links.map encK))],.d (.v (.int .i64 c.a)),.d (.v (.int .i64 c.b))]) (h0:=[.row 55 3 n.vpcs.length (dRows (n.vpcs.map encV))]) (by simp[belowL,belowP]) (by simp[belowH,belowC,belowR_d]) (by simp[vw,viewL,viewF,hatL,viewR_d,encT]) (by simp[tc,tchL,tchF,hatL,tchR_d]))
  generalize partN n c.a c.b=R at*
  replace h32:=Lib.hid h32
  refine ms_i tab_ok mixed Tryz.func28 rfl Tryz.ntmps28 Tryz.results28 (by kernel_rfl) (by simp) (by simp[belowL,belowP]) (by simp[belowH,belowC,belowL,belowP,wkC,belowL_d,belowR_d]) ?_
  refine wk1 ?_
  exact wf
end Go.Proofs.YtmicljipaiohkaaGreat
