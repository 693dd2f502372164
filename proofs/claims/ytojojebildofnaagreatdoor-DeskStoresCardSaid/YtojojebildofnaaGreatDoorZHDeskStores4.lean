/- Texts of this work, joined. -/
import Derived.Test.YtojojebildofnaaGreatDoorZHDeskStores3
import Derived.Deep.Slices
import Derived.Deep.Fields
import Derived.ChangeSame
import Derived.OpenShut
import Derived.ProofKit
import Derived.Carry
import Derived.ChangeMaps5
import Derived.DataShut
import Derived.Shelf.SlSortCmp.WholeK
import Derived.Sort.Grow
set_option linter.unusedSimpArgs false
set_option linter.unusedVariables false
set_option maxRecDepth 100000
set_option maxHeartbeats 16000000
namespace Go.Proofs.YtojojebildofnaaGreatDoor
open Go Go.RowKit Go.Proofs.Tryz
open Go.Lib renaming hid → Xj
open _root_.List renaming getElem?_eq_getElem → Xk, mem_of_getElem? → Xl, map_cons → Xm, getElem?_eq_some_iff → Xn, map_append → Xo, length_take → Xp, take_length → Xq, map_nil → Xr, length_append → Xv, length_cons → Xx, getElem?_map → Xy, all_eq_true → XA, length_map → XB, getD_eq_getElem?_getD → XC, pairwise_iff_getElem → XF, take_of_length_le → XG, getElem?_append_right → XH, findIdx?_eq_some_iff_getElem → XI, mem_map → XN, setIfInBounds_toArray → XO, getElem?_take_of_lt → XP, set_cons_zero → XQ, getElem?_eq_none → XR, length_drop → XS, any_eq_true → XU, append_assoc → XV, length_nil → XX, replicate → XY, set_cons_succ → XZ, mem_append → X0, mem_cons → X2, mem_iff_getElem → X3, eq_nil_of_length_eq_zero → X4, getElem?_append_left → X5, mem_singleton → X7, range → X8, cons_append → X9, getElem_of_mem → Ya, nil_append → Yb, mem_of_mem_drop → Yc, mem_of_mem_take → Yd, getElem_mem → Ye, take → Yf, any_eq_false → Yh, append_nil → Yi, ext_getElem? → Yj, getElem?_drop → Yl, take_append_of_le_length → Ym, findIdx?_eq_none_iff → Yn, find?_eq_none → Yr, set_append_right → Yu, getElem?_cons_succ → Yw, pairwise_cons → YC, mem_of_find?_eq_some → YE, size_toArray → YG, eraseIdx_eq_take_drop_succ → YI, take_append_drop → YK, flatMap_append → YN, drop_eq_getElem_cons → YR, mem_range → YS, pairwise_append → YV, all_eq_false → YW, length_set → YX, filter_append → YY, map_congr_left → Y4, filter_eq_self → Y5, toList_toArray → Y6, pairwise_map → Y8, mem_or_eq_of_mem_set → Y9, take_zero → Zb, drop_length → Zc, mem_map_of_mem → Zd, length_filter_le → Ze, take_succ_eq_append_getElem → Zf, find?_eq_some_iff_getElem → Zk, length_pos_iff → Zl, find?_some → Zs, filter_filter → Zt, getElem?_take → Zu, flatMap_cons → Zy, mem_filter → ZB, filter_cons → ZF, eq_of_mem_replicate → ZH, getElem_take → ZP, mem_flatMap → ZY, all_append → Z5, map_map → Z6, map_set → Z7, getElem_map → B', mem_flatten → C', getElem_cons_drop → F', filter_congr → J', getElem?_set → L', getElem?_set_ne → Q', nodup_append → _l, take_sublist → _m
open Go.World renaming size_alloc → Xs, heap_drewN → Xu, size_drew → Xw, cell? → YU, cell?_of_block → Zw, setRow → ZU
open _root_.Bool renaming and_eq_true → Xt, eq_iff_iff → Yk, and_self → Yq, true_and → Ys, and_true → YA, false_eq_true → YB, eq_false_iff → YD, not_eq_true' → ZO, and_eq_false_iff → Z2, false_or → p', not_true → H', and_assoc → _n
open _root_.Nat renaming le_refl → Xz, zero_le → XD, zero_add → XE, reduceEqDiff → XK, reduceAdd → XL, lt_or_ge → XM, add_zero → XT, mul_le_mul_right → Yt, lt_of_lt_of_le → Yx, le_trans → Yy, sub_self → YF, not_lt_zero → YH, succ_mul → YP, le_of_eq → YZ, lt_trichotomy → Y7, add_assoc → Zh, sub_zero → Zj, min_self → Zr, mul_comm → ZA, eq_zero_or_pos → ZG, div_lt_of_lt_mul → ZK, zero_lt_succ → ZX, min → Z4, reduceLT → Z8, min_def → P', le_of_lt → V', lt_or_gt_of_ne → _i
open _root_.Option renaming map_eq_some_iff → XJ, some → XW, map_some → Yg, getD_some → Yp, isSome_some → YM, bind_some → Y0, isSome_none → Zg, isSome_iff_exists → Zo, isNone_some → Zv, isNone_none → _h, toList_some → _u
open _root_.Array renaming getElem?_toList → X6, getElem?_eq_none → Yo, getElem?_eq_some_iff → Yz, getElem?_eq_getElem → YQ, getElem?_modify → Y3, replicate → Za, mem_of_getElem? → Z1, toList_map → U', toList_append → _c, eq_empty_of_size_eq_zero → _s, range → _v
open _root_.Int renaming dvd_of_emod_eq_zero → YJ, lt_irrefl → ZJ, emod_eq_zero_of_dvd → ZQ, le_refl → ZW, fdiv_eq_ediv_of_nonneg → ZZ, toNat_of_nonneg → A', dvd_trans → _d, pow_succ → _y
theorem sI (f:PV->Option D):∀(l m:List (List PV)),du f (l++m)=match du f l,du f m with|some a,some b=>some (a++b)|_,_=>none
 |[],m=>by simp only[Yb,du];cases du f m<;>rfl
 |r::l,m=>by
  simp only[X9,du,sI f l m];cases cI f r<;>cases du f l<;>cases du f m<;>rfl
@[go_sem] theorem iE (h:Nat->Chunk)(n:Nat)(pre:List Pol)(r:List PV)(post:List Pol):du (bx h n) (gh pre r post)=match cI (bx h n) r with|some d=>some (pre.map an++d::post.map an)|none=>none:=by
 simp only[gh,sI,du,eO];cases cI (bx h n) r<;>rfl
theorem mA {p:Pol}(h:iW p.root (dD p)=0):p.leases.Pairwise fun a b=>a.at_.at_ < b.at_.at_:=by
 obtain⟨h1,h2,h3,h4⟩:=oY.1 h;unfold dD at h3 h4;rw[Y8]at h4;refine h4.imp_of_mem fun {a b} ha hb iA=>?_;have hr:=(cw.1 (h3 a.at_ (XN.2 ⟨a,ha,rfl⟩))).1;have:=Pfx.hi_bd hr;unfold wJ at iA;omega
def t6 (b:Bok)(id:Int)(f:Pol->Pol):Bok:=⟨b.tick,b.pools.map fun q=>if q.id==id then f q else q⟩
theorem o4 {b:Bok}{pre post:List Pol}{p:Pol}(hr:o0 b.pools)(h:b.pools=pre++p::post)(f:Pol->Pol):t6 b p.id f=⟨b.tick,pre++f p::post⟩:=by
 unfold t6;rw[h];have hr':=hr;rw[h]at hr';obtain⟨h1,h2,h3⟩:=YV.1 hr';rw[YC]at h2;have e1:pre.map (fun q=>if q.id==p.id then f q else q)=pre:=by
  conv=>rhs;rw[<-List.map_id pre]
  refine Y4 fun q hq=>?_;have:=h3 q hq p ah;rw[af aK];rfl
 have e2:post.map (fun q=>if q.id==p.id then f q else q)=post:=by
  conv=>rhs;rw[<-List.map_id post]
  refine Y4 fun q hq=>?_;have:=h2.1 q hq;rw[af aK];rfl
 rw[Xo,Xm,e1,e2];simp
def cS (b:Bok)(id size owner:Int):Bok × Pfx × Int:=
 if br b≠0 then (Bok.zero,Pfx.zero,br b)else
 match bK b id with
 |none=>(Bok.zero,Pfx.zero,5)
 |some p=>
  if dV owner=false then (Bok.zero,Pfx.zero,3)else
  let f:=cC p (if size=0 then p.rule.usual else size)
  if f.2≠0 then (Bok.zero,Pfx.zero,f.2)else (t6 b id fun p=>{p with leases:=iX ⟨f.1,1,owner,0⟩ p.leases},f.1,0)
theorem Qp (b:Bok)(id size owner:Int)(hz:∀p∈b.pools,p.leases.length<=3518437208882):ai prog 97 [.agg (bq b),.v (.int .i64 id),.v (.int .i64 size),.v (.int .i64 owner)] (.tup [.agg (bq (cS b id size owner).1),.agg (aS (cS b id size owner).2.1),.v (.int .i64 (cS b id size owner).2.2)]):=by
 obtain⟨R,hR⟩:∃R,R=cS b id size owner:=⟨_,rfl⟩;rw[<-hR];replace hR:=Xj hR;by_cases hc:br b=0
 ·have cf:=dJ hc;have hid:=Cy owner;cases hq:bK b id with
  |none=>
   have cT:=kz b hz hc;have hf:=o3 b id (by have:=cf.n8;omega) cf.rise;unfold qn at hf;rw[hq]at hf;replace hc:=Xj hc;replace hq:=Xj hq;refine pj func97 ntmps97 results97 ?_;have z1z:=Ln.mk (ls:=[]) (cT);refine ap ?_<;>intros;rw[show R=(Bok.zero,Pfx.zero,5) from (by rw[hR.out];unfold cS;rw[af (by simpa using hc.out),hq.out])];exact dg
  |some p=>
   obtain⟨pre,post,hp,rfl⟩:=lP hq;have cT:=t5 b pre post p hp hz hc;have pH:p∈b.pools:=by rw[hp];simp
   have AJ:b.pools[pre.length]? =some p:=by rw[hp,XH (Xz _),YF];rfl
   have pI:=cf.l32 p pH;have hvw:du (bx (aD [.box 30 [.d (.v (.int .i64 b.tick)),.own 1 b.pools.length],.row 83 9 b.pools.length (gh pre (aA p (.own 2 1)) post),.row 96 5 1 (ab (p.leases.map bt))]) 5) (gh pre (aA p (.own 2 1)) post)=some (b.pools.map an):=by
    rw[hp];simp only[iE,aA,cI,bx,aD,eO,if_true,Yg,Xo,Xm];rfl
   have hf:=DZ b pre.length p b.pools.length (gh pre (aA p (.own 2 1)) post) [.row 96 5 1 (ab (p.leases.map bt))] (.d (.v (.int .i64 b.tick))) AJ cf.rise cf.n8 (by rw[zt,hp];simp;omega) hvw (by rw[jk];rfl) (by simp only[aH,aR,aC,Yq]) rfl;have Ol:=fun s=>VH p s pI;have Vq:=fun l=>VI pre post p l b.pools.length 1 pI (mA (cf.mem p pH).2.1);have gW:=fun f=>o4 cf.rise hp f;have aQ:R=if dV owner=false then (Bok.zero,Pfx.zero,3)else if (cC p (if size=0 then p.rule.usual else size)).2≠0 then (Bok.zero,Pfx.zero,(cC p (if size=0 then p.rule.usual else size)).2)else
    (⟨b.tick,pre++{p with leases:=iX ⟨(cC p (if size=0 then p.rule.usual else size)).1,1,owner,0⟩ p.leases}::post⟩,(cC p (if size=0 then p.rule.usual else size)).1,0):=by
    rw[hR.out];unfold cS;rw[af (by simpa using hc),hq];simp only;rw[gW]
   replace aQ:=Xj aQ;replace hc:=Xj hc;replace hq:=Xj hq;replace hp:=Xj hp;replace AJ:=Xj AJ;replace gW:=Xj gW;clear hvw pH;cases h0:size==0 with
   |true=>
    have e0:size=0:=by simpa using h0
    have aQ:=aQ.out;rw[aj e0]at aQ;replace aQ:=Xj aQ;replace e0:=Xj e0;have JW:=Vq ⟨(cC p p.rule.usual).1,1,owner,0⟩;have Su:=Ol p.rule.usual;clear Vq Ol;refine pj func97 ntmps97 results97 ?_;repeat' (first|(with_reducible refine And.intro ?_ ?_)|(with_reducible refine oS (fun _=>?_) (fun _=>?_))|(with_reducible refine ey (fun _=>?_) (fun _=>?_))|(with_reducible refine jL aJ)|simp -dsimp only[go_sem,seval, *,bq,aS,bt,aA,aO,fk,iE,h0]|((with_reducible refine jM ?_);simp -dsimp only[go_sem,seval,bq,aS,bt,aA,aO,fk,iE,h0];first|refine eA (by first|assumption|exact hid|exact Su) ny ?_|(refine ez gT ?_ ?_ ?_;(solve|(repeat(first|exact aP.refl _|exact aP.nil _|(refine aP.tup ?_)|(refine aP.agg ?_ rfl)|exact trivial|(refine And.intro ?_ ?_))));(solve|exact .inl rfl|exact .inr rfl)))|(refine fU [] (cT) ?_ ?_ ?_ ?_ ?_ ?_;(solve|rfl|simp only[go_sem,seval,bq,aA,aO]);(solve|rfl);(solve|decide);(solve|simp);(solve|simp only[go_sem,seval,bM,bq,aA,aO]))|(refine fU [5,6,8] (hf) ?_ ?_ ?_ ?_ ?_ ?_;(solve|rfl|simp only[go_sem,seval,aS,aA,aO]);(solve|rfl);(solve|decide);(solve|simp);(solve|simp only[go_sem,seval,bM,aS,aA,aO]))|(refine fU [6,8] (JW) ?_ ?_ ?_ ?_ ?_ ?_;(solve|rfl|simp only[go_sem,seval,aS,bt,aA,aO]);(solve|rfl);(solve|decide);(solve|simp);(solve|simp only[go_sem,seval,bM,aS,bt,aA,aO]))|omega|exact decide_eq_true aa|exact aP.refl _)
    all_goals clear hf hid Su JW cT hz
    all_goals first
     |(rw[show R=(Bok.zero,Pfx.zero,3) from (by rw[aQ.out];grind)];(try simp only[Xo,Xm]);exact dg)
     |(rw[show R=(Bok.zero,Pfx.zero,(cC p p.rule.usual).2) from (by rw[aQ.out];grind)];(try simp only[Xo,Xm]);exact dg)
     |(rw[show R=(⟨b.tick,pre++{p with leases:=iX ⟨(cC p p.rule.usual).1,1,owner,0⟩ p.leases}::post⟩,(cC p p.rule.usual).1,0) from (by rw[aQ.out];grind)];(try simp only[Xo,Xm]);exact dg)
   |false=>
    have e0:¬size=0:=by simpa using h0
    have aQ:=aQ.out;rw[af e0]at aQ;replace aQ:=Xj aQ;replace e0:=Xj e0;have JW:=Vq ⟨(cC p size).1,1,owner,0⟩;have Su:=Ol size;clear Vq Ol;refine pj func97 ntmps97 results97 ?_;repeat' (first|(with_reducible refine And.intro ?_ ?_)|(with_reducible refine oS (fun _=>?_) (fun _=>?_))|(with_reducible refine ey (fun _=>?_) (fun _=>?_))|(with_reducible refine jL aJ)|simp -dsimp only[go_sem,seval, *,bq,aS,bt,aA,aO,fk,iE,h0]|((with_reducible refine jM ?_);simp -dsimp only[go_sem,seval,bq,aS,bt,aA,aO,fk,iE,h0];first|refine eA (by first|assumption|exact hid|exact Su) ny ?_|(refine ez gT ?_ ?_ ?_;(solve|(repeat(first|exact aP.refl _|exact aP.nil _|(refine aP.tup ?_)|(refine aP.agg ?_ rfl)|exact trivial|(refine And.intro ?_ ?_))));(solve|exact .inl rfl|exact .inr rfl)))|(refine fU [] (cT) ?_ ?_ ?_ ?_ ?_ ?_;(solve|rfl|simp only[go_sem,seval,bq,aA,aO]);(solve|rfl);(solve|decide);(solve|simp);(solve|simp only[go_sem,seval,bM,bq,aA,aO]))|(refine fU [5,6,8] (hf) ?_ ?_ ?_ ?_ ?_ ?_;(solve|rfl|simp only[go_sem,seval,aS,aA,aO]);(solve|rfl);(solve|decide);(solve|simp);(solve|simp only[go_sem,seval,bM,aS,aA,aO]))|(refine fU [6,8] (JW) ?_ ?_ ?_ ?_ ?_ ?_;(solve|rfl|simp only[go_sem,seval,aS,bt,aA,aO]);(solve|rfl);(solve|decide);(solve|simp);(solve|simp only[go_sem,seval,bM,aS,bt,aA,aO]))|omega|exact decide_eq_true aa|exact aP.refl _)
    all_goals clear hf hid Su JW cT hz
    all_goals first
     |(rw[show R=(Bok.zero,Pfx.zero,3) from (by rw[aQ.out];grind)];(try simp only[Xo,Xm]);exact dg)
     |(rw[show R=(Bok.zero,Pfx.zero,(cC p size).2) from (by rw[aQ.out];grind)];(try simp only[Xo,Xm]);exact dg)
     |(rw[show R=(⟨b.tick,pre++{p with leases:=iX ⟨(cC p size).1,1,owner,0⟩ p.leases}::post⟩,(cC p size).1,0) from (by rw[aQ.out];grind)];(try simp only[Xo,Xm]);exact dg)
 ·have cT:=oy b hz hc;have h1:(br b !=0)=true:=by simpa using hc
  have hr:R=(Bok.zero,Pfx.zero,br b):=by rw[hR.out];unfold cS;rw[aj hc]
  rw[hr];replace hr:=Xj hr;refine pj func97 ntmps97 results97 ?_;refine ap ?_<;>intros;exact dg
def j9 (at_:Pfx)(l:Lse):Bool:=(l.kind==1)&&decide (l.at_=at_)
theorem Ug (l:Lse)(at_:Pfx):ai prog 172 [.agg (bt l),.ept (aS at_)] (.v (.bool (j9 at_ l))):=by
 have he:=ot l.at_ at_;unfold j9;rw[<-he];replace he:=Xj he;refine pj func172 ntmps172 results172 ?_;exact bc
def fN (b:Bok)(id:Int)(at_:Pfx):Bok × Int:=
 if br b≠0 then (Bok.zero,br b)else
 match bK b id with
 |none=>(Bok.zero,5)
 |some p=>match p.leases.findIdx? (j9 at_)with
  |none=>(Bok.zero,5)
  |some i=>(t6 b id fun p=>{p with leases:=kV p i b.tick},0)
theorem qZ {r:Rul}{len:Int}(h:fZ r len=true):0<=r.cool/\r.cool<=1024:=by
 simp only[fZ,Xt,decide_eq_true_eq]at h;exact h.2
structure ZipB (b:Bok)(pre post:List Pol)(p:Pol):Prop where
 eq:b.pools=pre++p::post
 at_:b.pools[pre.length]? =some p
 mem:p∈b.pools
 view:du (bx (aD [.box 30 [.d (.v (.int .i64 b.tick)),.own 1 b.pools.length],.row 83 9 b.pools.length (gh pre (aA p (.own 2 1)) post),.row 96 5 1 (ab (p.leases.map bt))]) 5) (gh pre (aA p (.own 2 1)) post)=some (b.pools.map an)
 len:(gh pre (aA p (.own 2 1)) post).length=b.pools.length
theorem WJ {b:Bok}{pre post:List Pol}{p:Pol}(hp:b.pools=pre++p::post):ZipB b pre post p:=by
 refine⟨hp,?_,?_,?_,?_⟩
 ·rw[hp,XH (Xz _),YF];rfl
 ·rw[hp];simp
 ·rw[hp];simp only[iE,aA,cI,bx,aD,eO,if_true,Yg,Xo,Xm];rfl
 ·rw[zt,hp];simp;omega
theorem t7 {b:Bok}(hb:BookOK b){pre post:List Pol}{p:Pol}(hz:ZipB b pre post p){i:Nat}{q:Pol}(hq:b.pools[i]? =some q):
 MSpec prog 156 [.ptr 0 0,.d (.v (.int .i64 q.id))] [.box 30 [.d (.v (.int .i64 b.tick)),.own 1 b.pools.length],.row 83 9 b.pools.length (gh pre (aA p (.own 2 1)) post),.row 96 5 1 (ab (p.leases.map bt))]
  (.tup [.rp 1 b.pools.length 9 i 0,.d (.v (.bool true))]) [.box 30 [.d (.v (.int .i64 b.tick)),.own 1 b.pools.length],.row 83 9 b.pools.length (gh pre (aA p (.own 2 1)) post),.row 96 5 1 (ab (p.leases.map bt))]:=
 DZ b i q b.pools.length _ [.row 96 5 1 (ab (p.leases.map bt))] (.d (.v (.int .i64 b.tick))) hq hb.rise hb.n8 hz.len hz.view (by rw[jk];rfl) (by simp only[aH,aR,aC,Yq]) rfl
theorem Qq (b:Bok)(id:Int)(at_:Pfx)(hz:∀p∈b.pools,p.leases.length<=3518437208882):ai prog 100 [.agg (bq b),.v (.int .i64 id),.agg (aS at_)] (.tup [.agg (bq (fN b id at_).1),.v (.int .i64 (fN b id at_).2)]):=by
 obtain⟨R,hR⟩:∃R,R=fN b id at_:=⟨_,rfl⟩;rw[<-hR];replace hR:=Xj hR;by_cases hc:br b=0
 ·have cf:=dJ hc;cases hq:bK b id with
  |none=>
   have cT:=kz b hz hc;have hf:=o3 b id (by have:=cf.n8;omega) cf.rise;unfold qn at hf;rw[hq]at hf;replace hc:=Xj hc;replace hq:=Xj hq;refine pj func100 ntmps100 results100 ?_;have z1z:=Ln.mk (ls:=[]) (cT);refine ap ?_<;>intros;rw[show R=(Bok.zero,5) from (by rw[hR.out];unfold fN;rw[af (by simpa using hc.out),hq.out])];exact dg
  |some p=>
   obtain⟨pre,post,hp,rfl⟩:=lP hq;have cT:=t5 b pre post p hp hz hc;have xW:=WJ hp;have hf:=t7 cf xW xW.at_;have pI:=cf.l32 p xW.mem;have rX:=oW mw (j9 at_) p.leases 172 [.ept (aS at_)] aa (fun l _=>Ug l at_);have gW:=fun f=>o4 cf.rise hp f;unfold cv at rX;cases S3:p.leases.findIdx? (j9 at_)with
   |none=>
    rw[S3]at rX;have hr:R=(Bok.zero,5):=by rw[hR.out];unfold fN;rw[af (by simpa using hc),hq];simp only;rw[S3]
    rw[hr];clear hr gW hq hp hc S3 hR xW;refine pj func100 ntmps100 results100 ?_;repeat' (first|(with_reducible refine And.intro ?_ ?_)|(with_reducible refine oS (fun _=>?_) (fun _=>?_))|(with_reducible refine ey (fun _=>?_) (fun _=>?_))|(with_reducible refine jL aJ)|simp -dsimp only[go_sem,seval, *,bq,aS,aA,aO,fk]|((with_reducible refine jM ?_);simp -dsimp only[go_sem,seval,bq,aS,aA,aO,fk];first|refine eA (by first|assumption|exact rX) ny ?_|(refine ez gT ?_ ?_ ?_;(solve|(repeat(first|exact aP.refl _|exact aP.nil _|(refine aP.tup ?_)|(refine aP.agg ?_ rfl)|exact trivial|(refine And.intro ?_ ?_))));(solve|exact .inl rfl|exact .inr rfl)))|(refine fU [] (cT) ?_ ?_ ?_ ?_ ?_ ?_;(solve|rfl|simp only[go_sem,seval,bq,aA,aO]);(solve|rfl);(solve|decide);(solve|simp);(solve|simp only[go_sem,seval,bM,bq,aA,aO]))|(refine fU [5,6,8] (hf) ?_ ?_ ?_ ?_ ?_ ?_;(solve|rfl|simp only[go_sem,seval,aS,aA,aO]);(solve|rfl);(solve|decide);(solve|simp);(solve|simp only[go_sem,seval,bM,aS,aA,aO]))|omega|exact decide_eq_true aa|exact aP.refl _)
    exact dg
   |some i=>
    rw[S3]at rX;have hi:i < p.leases.length:=(XI.1 S3).1;have gU:=Qo pre post p i b.pools.length 1 b.tick hi pI (qZ (cf.mem p xW.mem).2.2) cf.tick;have hr:R=(⟨b.tick,pre++{p with leases:=kV p i b.tick}::post⟩,0):=by rw[hR.out];unfold fN;rw[af (by simpa using hc),hq];simp only;rw[S3];simp only;rw[gW]
    have mZ:decide ((i:Int) < 0)=false:=ah;rw[hr];clear hr gW hq hp hc S3 hR xW;refine pj func100 ntmps100 results100 ?_;repeat' (first|(with_reducible refine And.intro ?_ ?_)|(with_reducible refine oS (fun _=>?_) (fun _=>?_))|(with_reducible refine ey (fun _=>?_) (fun _=>?_))|(with_reducible refine jL aJ)|simp -dsimp only[go_sem,seval, *,bq,aS,aA,aO,fk,mZ]|((with_reducible refine jM ?_);simp -dsimp only[go_sem,seval,bq,aS,aA,aO,fk,mZ];first|refine eA (by first|assumption|exact rX) ny ?_|(refine ez gT ?_ ?_ ?_;(solve|(repeat(first|exact aP.refl _|exact aP.nil _|(refine aP.tup ?_)|(refine aP.agg ?_ rfl)|exact trivial|(refine And.intro ?_ ?_))));(solve|exact .inl rfl|exact .inr rfl)))|(refine fU [] (cT) ?_ ?_ ?_ ?_ ?_ ?_;(solve|rfl|simp only[go_sem,seval,bq,aA,aO]);(solve|rfl);(solve|decide);(solve|simp);(solve|simp only[go_sem,seval,bM,bq,aA,aO]))|(refine fU [5,6,8] (hf) ?_ ?_ ?_ ?_ ?_ ?_;(solve|rfl|simp only[go_sem,seval,aS,aA,aO]);(solve|rfl);(solve|decide);(solve|simp);(solve|simp only[go_sem,seval,bM,aS,aA,aO]))|(refine fU [6,8] (gU) ?_ ?_ ?_ ?_ ?_ ?_;(solve|rfl|simp only[go_sem,seval,aS,bt,aA,aO]);(solve|rfl);(solve|decide);(solve|simp);(solve|simp only[go_sem,seval,bM,aS,bt,aA,aO]))|omega|exact decide_eq_true aa|exact aP.refl _)
    all_goals exact dg
 ·have cT:=oy b hz hc;have h1:(br b !=0)=true:=by simpa using hc
  have hr:R=(Bok.zero,br b):=by rw[hR.out];unfold fN;rw[aj hc]
  rw[hr];replace hr:=Xj hr;refine pj func100 ntmps100 results100 ?_;refine ap ?_<;>intros;exact dg
def gx (b:Bok)(id up size:Int)(r:Rul):Bok × Pfx × Int:=
 if br b≠0 then (Bok.zero,Pfx.zero,br b)else
 if dV id=false then (Bok.zero,Pfx.zero,3)else
 match bK b up with
 |none=>(Bok.zero,Pfx.zero,5)
 |some p=>
  if (bK b id).isSome=true then (Bok.zero,Pfx.zero,6)else
  if (cC p size).2≠0 then (Bok.zero,Pfx.zero,(cC p size).2)else
  if fZ r (cC p size).1.len=false then (Bok.zero,Pfx.zero,1)else
  if b.pools.length=8 then (Bok.zero,Pfx.zero,2)else
  (⟨b.tick,mz ⟨id,up,(cC p size).1,r,[]⟩ (t6 b up fun p=>{p with leases:=iX ⟨(cC p size).1,2,id,0⟩ p.leases}).pools⟩,(cC p size).1,0)
theorem Qr {pre post:List Pol}{p q:Pol}(h:o0 (pre++p::post))(hq:q.id=p.id):o0 (pre++q::post):=by
 unfold o0 at h ⊢;rw[YV,YC]at h ⊢;obtain⟨h1,⟨h2,h3⟩,h4⟩:=h;refine⟨h1,⟨fun a ha=>by rw[hq];exact h2 a ha,h3⟩,fun a ha c hc=>?_⟩;rcases X2.1 hc with rfl|hc
 ·rw[hq];exact h4 a ha p ah
 ·exact h4 a ha c (by simp[hc])
theorem WK (b:Bok)(id up size:Int)(r:Rul)(hz:∀p∈b.pools,p.leases.length<=3518437208882):ai prog 93 [.agg (bq b),.v (.int .i64 id),.v (.int .i64 up),.v (.int .i64 size),.agg (xj r)] (.tup [.agg (bq (gx b id up size r).1),.agg (aS (gx b id up size r).2.1),.v (.int .i64 (gx b id up size r).2.2)]):=by
 obtain⟨R,hR⟩:∃R,R=gx b id up size r:=⟨_,rfl⟩;rw[<-hR];replace hR:=Xj hR;by_cases hc:br b=0
 ·have cf:=dJ hc;have hid:=Cy id;cases HQ:dV id with
  |false=>
   rw[HQ]at hid;have cT:=kz b hz hc;have hr:R=(Bok.zero,Pfx.zero,3):=by rw[hR.out];unfold gx;rw[af (by simpa using hc),aj HQ]
   rw[hr];clear hr hR hc HQ;refine pj func93 ntmps93 results93 ?_;have z1z:=Ln.mk (ls:=[]) (cT);refine ap ?_<;>intros;exact dg
  |true=>
   rw[HQ]at hid;cases hq:bK b up with
   |none=>
    have cT:=kz b hz hc;have hf:=o3 b up (by have:=cf.n8;omega) cf.rise;unfold qn at hf;rw[hq]at hf;have hr:R=(Bok.zero,Pfx.zero,5):=by rw[hR.out];unfold gx;rw[af (by simpa using hc),af (by simp[HQ]),hq]
    rw[hr];clear hr hR hc HQ hq;refine pj func93 ntmps93 results93 ?_;have z1z:=Ln.mk (ls:=[]) (cT);refine ap ?_<;>intros;exact dg
   |some p=>
    obtain⟨pre,post,hp,rfl⟩:=lP hq;have cT:=t5 b pre post p hp hz hc;have xW:=WJ hp;have hf:=t7 cf xW xW.at_;have pI:=cf.l32 p xW.mem;have gW:=fun f=>o4 cf.rise hp f;have aQ:R=if (bK b id).isSome=true then (Bok.zero,Pfx.zero,6)else if (cC p size).2≠0 then (Bok.zero,Pfx.zero,(cC p size).2)else if fZ r (cC p size).1.len=false then (Bok.zero,Pfx.zero,1)else
     if b.pools.length=8 then (Bok.zero,Pfx.zero,2)else (⟨b.tick,mz ⟨id,p.id,(cC p size).1,r,[]⟩ (pre++{p with leases:=iX ⟨(cC p size).1,2,id,0⟩ p.leases}::post)⟩,(cC p size).1,0):=by
     rw[hR.out];unfold gx;rw[af (by simpa using hc),af (by simp[HQ]),hq];simp only;rw[gW]
    cases qD:bK b id with
    |some q=>
     obtain⟨i,Vl,he⟩:=jt qD;have EE:=t7 cf xW Vl;rw[he]at EE;have hr:R=(Bok.zero,Pfx.zero,6):=by rw[aQ,qD];rfl
     rw[hr];clear hr hR aQ hc HQ hq qD hp gW xW Vl he;refine pj func93 ntmps93 results93 ?_;repeat' (first|(with_reducible refine And.intro ?_ ?_)|(with_reducible refine oS (fun _=>?_) (fun _=>?_))|(with_reducible refine ey (fun _=>?_) (fun _=>?_))|(with_reducible refine jL aJ)|simp -dsimp only[go_sem,seval, *,bq,aS,xj,aA,aO,fk]|((with_reducible refine jM ?_);simp -dsimp only[go_sem,seval,bq,aS,xj,aA,aO,fk];first|refine eA (by first|assumption|exact hid) ny ?_|(refine ez gT ?_ ?_ ?_;(solve|(repeat(first|exact aP.refl _|exact aP.nil _|(refine aP.tup ?_)|(refine aP.agg ?_ rfl)|exact trivial|(refine And.intro ?_ ?_))));(solve|exact .inl rfl|exact .inr rfl)))|(refine fU [] (cT) ?_ ?_ ?_ ?_ ?_ ?_;(solve|rfl|simp only[go_sem,seval,bq,aA,aO]);(solve|rfl);(solve|decide);(solve|simp);(solve|simp only[go_sem,seval,bM,bq,aA,aO]))|(refine fU [6,7,9] (hf) ?_ ?_ ?_ ?_ ?_ ?_;(solve|rfl|simp only[go_sem,seval,aS,aA,aO]);(solve|rfl);(solve|decide);(solve|simp);(solve|simp only[go_sem,seval,bM,aS,aA,aO]))|(refine fU [6,7,9] (EE) ?_ ?_ ?_ ?_ ?_ ?_;(solve|rfl|simp only[go_sem,seval,aS,aA,aO]);(solve|rfl);(solve|decide);(solve|simp);(solve|simp only[go_sem,seval,bM,aS,aA,aO]))|omega|exact decide_eq_true aa|exact aP.refl _)
     all_goals exact dg
    |none=>
     have EE:=o3 b id (by have:=cf.n8;omega) cf.rise;unfold qn at EE;rw[qD]at EE;have Ol:=VH p size pI;have By:=I5 r (cC p size).1;have hlt:=VI pre post p ⟨(cC p size).1,2,id,0⟩ b.pools.length 1 pI (mA (cf.mem p xW.mem).2.1);have hb8:(pre++{p with leases:=iX ⟨(cC p size).1,2,id,0⟩ p.leases}::post).length<=8:=by
      have:=cf.n8;rw[hp]at this;simpa using this
     have bB:(pre++{p with leases:=iX ⟨(cC p size).1,2,id,0⟩ p.leases}::post).length=b.pools.length:=by rw[hp];simp
     have hrs:o0 (pre++{p with leases:=iX ⟨(cC p size).1,2,id,0⟩ p.leases}::post):=by
      have:=cf.rise;rw[hp]at this;exact Qr this rfl
     have hpt:=(VJ _ ⟨id,p.id,(cC p size).1,r,[]⟩ b.pools.length (.v (.int .i64 b.tick)) hb8 hrs rfl).lep (args':=[.ptr 0 0,.d (.agg [.v (.int .i64 id),.v (.int .i64 p.id),.v (.int .i64 (cC p size).1.at_),.v (.int .i64 (cC p size).1.len),.v (.int .i64 r.min),.v (.int .i64 r.max),.v (.int .i64 r.usual),.v (.int .i64 r.cool),.v (.slice none 0 0)])]) ⟨.inl rfl,.inr ⟨_,_,rfl,rfl,dg⟩,trivial⟩ rfl;have go:Hid (R=if (cC p size).2≠0 then (Bok.zero,Pfx.zero,(cC p size).2)else if fZ r (cC p size).1.len=false then (Bok.zero,Pfx.zero,1)else
      if b.pools.length=8 then (Bok.zero,Pfx.zero,2)else (⟨b.tick,mz ⟨id,p.id,(cC p size).1,r,[]⟩ (pre++{p with leases:=iX ⟨(cC p size).1,2,id,0⟩ p.leases}::post)⟩,(cC p size).1,0)):=by
      show R=_;rw[aQ,qD];rfl
     have hvq:du (bx (aD [.gone]) 0) []=some []:=rfl;clear hR aQ hc HQ hq qD gW hb8 hrs hvq bB;have aQ:=go;clear go;have a3u:=Xj hp;have hvw:=xW.view;simp only[iE,aA,cI,bx,aD,eO,if_true,Yg]at hvw;clear xW;have he:bq b=[.v (.int .i64 b.tick),.sl 9 (List.map an pre++an p::List.map an post)]:=by unfold bq;rw[hp,Xo,Xm]
     rw[he]at EE;have VV:∀r,(gh pre r post).length=b.pools.length:=fun r=>by rw[zt,hp];simp;omega
     clear hp hvw he;refine pj func93 ntmps93 results93 ?_;repeat' (first|(with_reducible refine And.intro ?_ ?_)|(with_reducible refine oS (fun _=>?_) (fun _=>?_))|(with_reducible refine ey (fun _=>?_) (fun _=>?_))|(with_reducible refine jL aJ)|simp -dsimp only[go_sem,seval, *,bq,aS,xj,bt,aA,aO,fk,iE,VV]|((with_reducible refine jM ?_);simp -dsimp only[go_sem,seval,bq,aS,xj,bt,aA,aO,fk,iE,VV];first|refine eA (by first|assumption|exact hid|exact EE|exact Ol|exact By) ny ?_|(refine ez gT ?_ ?_ ?_;(solve|(repeat(first|exact aP.refl _|exact aP.nil _|(refine aP.tup ?_)|(refine aP.agg ?_ rfl)|exact trivial|(refine And.intro ?_ ?_))));(solve|exact .inl rfl|exact .inr rfl)))|(refine fU [] (cT) ?_ ?_ ?_ ?_ ?_ ?_;(solve|rfl|simp only[go_sem,seval,bq,aA,aO]);(solve|rfl);(solve|decide);(solve|simp);(solve|simp only[go_sem,seval,bM,bq,aA,aO]))|(refine fU [6,7,9] (hf) ?_ ?_ ?_ ?_ ?_ ?_;(solve|rfl|simp only[go_sem,seval,aS,aA,aO]);(solve|rfl);(solve|decide);(solve|simp);(solve|simp only[go_sem,seval,bM,aS,aA,aO]))|(refine fU [7,9] (hlt) ?_ ?_ ?_ ?_ ?_ ?_;(solve|rfl|simp only[go_sem,seval,aS,bt,aA,aO]);(solve|rfl);(solve|decide);(solve|simp);(solve|simp only[go_sem,seval,bM,aS,bt,aA,aO]))|(refine fU [6,7] (hpt) ?_ ?_ ?_ ?_ ?_ ?_;(solve|rfl|simp only[go_sem,seval,aS]);(solve|rfl);(solve|decide);(solve|simp);(solve|simp only[go_sem,seval,bM,aS]))|omega|exact decide_eq_true aa|exact aP.refl _)
     all_goals clear hf EE hid Ol By hlt hpt cT hz
     all_goals first
      |(rw[show R=(Bok.zero,Pfx.zero,(cC p size).2) from (by rw[aQ.out];grind)];(try simp only[Xo,Xm]);exact dg)
      |(rw[show R=(Bok.zero,Pfx.zero,1) from (by rw[aQ.out];grind)];(try simp only[Xo,Xm]);exact dg)
      |(rw[show R=(Bok.zero,Pfx.zero,2) from (by rw[aQ.out];grind)];(try simp only[Xo,Xm]);exact dg)
      |(rw[show R=(⟨b.tick,mz ⟨id,p.id,(cC p size).1,r,[]⟩ (pre++{p with leases:=iX ⟨(cC p size).1,2,id,0⟩ p.leases}::post)⟩,(cC p size).1,0) from (by rw[aQ.out];grind)];(try simp only[Xo,Xm]);exact dg)
 ·have cT:=oy b hz hc;have h1:(br b !=0)=true:=by simpa using hc
  have hr:R=(Bok.zero,Pfx.zero,br b):=by rw[hR.out];unfold gx;rw[aj hc]
  rw[hr];replace hr:=Xj hr;refine pj func93 ntmps93 results93 ?_;refine ap ?_<;>intros;exact dg
theorem a6r {p:Prop}(h:p:=by
 rw[hR.out];unfold fO;rw[af (by simpa using hc),hq]):p:=h
theorem Qs (l:Lse):ai prog 163 [.agg (bt l)] (.v (.bool (l.kind !=3))):=by
 refine pj func163 ntmps163 results163 ?_;exact bc
theorem Qt (l:Lse)(id:Int):ai prog 166 [.agg (bt l),.ept [.v (.int .i64 id)]] (.v (.bool (mU id l))):=by
 unfold mU;refine pj func166 ntmps166 results166 ?_;exact bc
theorem t8 (p:Pol)(id:Int):ai prog 168 [.agg (an p),.ept [.v (.int .i64 id)]] (.v (.bool (p.id==id))):=by
 refine pj func168 ntmps168 results168 ?_;exact bc
def jl (b:Bok)(p:Pol):List Pol:=match bK b p.up with
 |none=>b.pools
 |some u=>match u.leases.findIdx? (mU p.id)with
  |some i=>(t6 b u.id fun u=>{u with leases:=kV u i b.tick}).pools
  |none=>b.pools
def fO (b:Bok)(id:Int):Bok × Int:=
 if br b≠0 then (Bok.zero,br b)else
 match bK b id with
 |none=>(Bok.zero,5)
 |some p=>if (p.leases.any fun l=>l.kind !=3)=true then (Bok.zero,9)else (⟨b.tick,(jl b p).filter fun q=>!(q.id==id)⟩,0)
theorem ir {b:Bok}:∀(l:List Pol) (roots:List Pfx),dO b l roots=true->∀p∈l,kr b b.pools.length p=true/\∀l∈p.leases,eP b p l=true
 |[],_,_,p,hp=>by simp at hp
 |q::l,roots,h,p,hp=>by
  simp only[dO,Xt]at h;rcases X2.1 hp with rfl|hp
  ·exact⟨h.1.1,fun l hl=>XA.1 h.1.2 l hl⟩
  ·have h2:=h.2;split at h2
   ·simp only[Xt]at h2;exact ir l _ h2.2 p hp
   ·exact ir l _ h2 p hp
theorem D0 {b:Bok}{p:Pol}(hp:bK b p.id=some p)(h1:p.id≠0)(he:p.up=p.id):∀n,kr b n p=false
 |0=>by simp[kr,he,h1]
 |n+1=>by simp[kr,he,h1,hp,D0 hp h1 he n]
theorem KM {b:Bok}{n:Nat}{p u:Pol}(h:kr b n p=true)(h0:p.up≠0)(hu:bK b p.up=some u):u.leases.any (mU p.id)=true:=by
 cases n with
 |zero=>simp[kr,h0]at h
 |succ n=>
  simp only[kr,hu,Bool.or_eq_true,Xt,beq_iff_eq]at h;rcases h with h|h
  ·exact absurd h h0
  ·exact h.1
theorem I8 {pre post:List Pol}{p q:Pol}{r:List PV}{i:Nat}(h:(pre++p::post)[i]? =some q)(bH:i≠pre.length):(gh pre r post)[i]? =some ((an q).map .d):=by
 unfold gh;rcases Y7 i pre.length with hlt|he|hgt
 ·rw[X5 hlt]at h;rw[X5 (by rw[aG,XB];exact hlt),iC,Xy,h];rfl
 ·exact absurd he bH
 ·rw[XH aa]at h;rw[XH (by rw[aG,XB];omega),aG,XB];obtain⟨j,hj⟩:∃j,i - pre.length=j+1:=⟨i - pre.length - 1,by omega⟩;rw[hj,Yw]at h ⊢;rw[iC,Xy,h];rfl
theorem Uh (b:Bok)(id:Int)(hz:∀p∈b.pools,p.leases.length<=3518437208882):ai prog 94 [.agg (bq b),.v (.int .i64 id)] (.tup [.agg (bq (fO b id).1),.v (.int .i64 (fO b id).2)]):=by
 obtain⟨R,hR⟩:∃R,R=fO b id:=⟨_,rfl⟩;rw[<-hR];replace hR:=Xj hR;by_cases hc:br b=0
 ·have cf:=dJ hc;cases hq:bK b id with
  |none=>
   have cT:=kz b hz hc;have hf:=o3 b id (by have:=cf.n8;omega) cf.rise;unfold qn at hf;rw[hq]at hf;have hr:R=(Bok.zero,5):=by rw[hR.out];unfold fO;rw[af (by simpa using hc),hq]
   rw[hr];clear hr hR hc hq;refine pj func94 ntmps94 results94 ?_;have z1z:=Ln.mk (ls:=[]) (cT);refine ap ?_<;>intros;exact dg
  |some p=>
   obtain⟨i,AJ,rfl⟩:=jt hq;have pH:p∈b.pools:=Xl AJ;have pI:=cf.l32 p pH;have pK:=sD mw (fun l=>l.kind !=3) p.leases 163 [] aa (fun l _=>Qs l);have aQ:R=if (p.leases.any fun l=>l.kind !=3)=true then (Bok.zero,9)else (⟨b.tick,(jl b p).filter fun q=>!(q.id==p.id)⟩,0):=a6r
   replace aQ:=Xj aQ;cases hu:bK b p.up with
   |none=>
    have cT:=kz b hz hc;have hf:=DZ b i p b.pools.length (ab (b.pools.map an)) [] (.d (.v (.int .i64 b.tick))) AJ cf.rise cf.n8 (by simp[aG]) (eO _ _ _) (aC _ _) rfl rfl;have EE:=o3 b p.up (by have:=cf.n8;omega) cf.rise;unfold qn at EE;rw[hu]at EE;have gU:jl b p=b.pools:=by unfold jl;rw[hu]
    have aQ:=aQ.out;rw[gU]at aQ;have h8:=cf.n8;replace aQ:=Xj aQ;clear hq hu gU hR hc;refine pj func94 ntmps94 results94 ?_;repeat' (first|(with_reducible refine And.intro ?_ ?_)|(with_reducible refine oS (fun _=>?_) (fun _=>?_))|(with_reducible refine ey (fun _=>?_) (fun _=>?_))|(with_reducible refine jL aJ)|simp -dsimp only[go_sem,seval, *,bq,aS,an,AJ]|((with_reducible refine jM ?_);simp -dsimp only[go_sem,seval,bq,aS,an,AJ];first|refine eA (by first|assumption|exact pK|exact EE) ny ?_|(refine ez gT ?_ ?_ ?_;(solve|(repeat(first|exact aP.refl _|exact aP.nil _|(refine aP.tup ?_)|(refine aP.agg ?_ rfl)|exact trivial|(refine And.intro ?_ ?_))));(solve|exact .inl rfl|exact .inr rfl)))|(refine fU [] (cT) ?_ ?_ ?_ ?_ ?_ ?_;(solve|rfl|simp only[go_sem,seval,bq]);(solve|rfl);(solve|decide);(solve|simp);(solve|simp only[go_sem,seval,bM,bq]))|(refine fU [5,6] (hf) ?_ ?_ ?_ ?_ ?_ ?_;(solve|rfl|simp only[go_sem,seval,bq]);(solve|rfl);(solve|decide);(solve|simp);(solve|simp only[go_sem,seval,bM,bq]))|(refine PL (Cz (fun q=>q.id==p.id) b.pools 6 _ _ _ _ rfl rfl ?_ ?_ ⟨[.ept [.v (.int .i64 p.id)]],rfl,fun x _=>t8 x p.id⟩ (fun m c=>⟨[.ept [.v (.int .i64 p.id)]],rfl,fun x _=>t8 x p.id⟩)) ?_)|omega|exact decide_eq_true aa|exact aP.refl _)
    all_goals first
     |first|rfl|simp only[aH,eJ,aR,aq,cE,au,bu,aC,jk,aA,Xx,XX,XL,Z8,decide_true,Yq,YA]
     |omega
     |(rw[show R=(Bok.zero,9) from (by rw[aQ.out];grind)];(try simp only[Xo,Xm]);exact dg)
     |(rw[show R=(⟨b.tick,b.pools.filter fun q=>!(q.id==p.id)⟩,0) from (by rw[aQ.out];grind)];(try simp only[Xo,Xm]);exact dg)
   |some u=>
    obtain⟨pre,post,hp,hue⟩:=lP hu;have cT:=t5 b pre post u hp hz hc;have xW:=WJ hp;have bH:i≠pre.length:=by
     rintro rfl;have:=xW.at_;rw[AJ]at this;obtain rfl:=XW.inj this;have h1:=(ir _ _ cf.second p pH).1;have h2:=D0 hq (by have:=(cf.mem p pH).1;rintro h;rw[h]at this;simp[dV]at this) hue.symm b.pools.length;rw[h2]at h1;exact absurd h1 ah
    have hf:=t7 cf xW AJ;have EE:=t7 cf xW xW.at_;rw[hue]at EE;have hzo:=fun r=>I8 (r:=r) (by rw[<-hp];exact AJ) bH;have a1W:=cf.l32 u xW.mem;have jY:=KM (ir _ _ cf.second p pH).1 (by have:=(cf.mem u xW.mem).1;rintro h;rw[<-hue]at h;rw[h]at this;simp[dV]at this) hu;have rX:=oW mw (mU p.id) u.leases 166 [.ept [.v (.int .i64 p.id)]] aa (fun l _=>Qt l p.id);obtain⟨j,hj⟩:∃j,u.leases.findIdx? (mU p.id)=some j:=by
     cases hj:u.leases.findIdx? (mU p.id)with
     |some j=>exact⟨j,rfl⟩
     |none=>
      rw[Yn]at hj;obtain⟨x,hx,j5⟩:=XU.1 jY;rw[hj x hx]at j5;exact absurd j5 ah
    unfold cv at rX;rw[hj]at rX;have lf:j < u.leases.length:=(XI.1 hj).1;have gU:=Qo pre post u j b.pools.length 1 b.tick lf a1W (qZ (cf.mem u xW.mem).2.2) cf.tick;have hcL:jl b p=pre++{u with leases:=kV u j b.tick}::post:=by
     unfold jl;rw[hu];simp only;rw[hj];simp only;rw[o4 cf.rise hp]
    have aQ:=aQ.out;rw[hcL]at aQ;replace aQ:=Xj aQ;have h8:=cf.n8;have bB:(pre++{u with leases:=kV u j b.tick}::post).length<=1000000000:=by
     rw[hp]at h8;simp at h8 ⊢;omega
    clear hq hu hue hR hc hcL jY hj AJ hp xW h8 cf bH pH;refine pj func94 ntmps94 results94 ?_;repeat' (first|(with_reducible refine And.intro ?_ ?_)|(with_reducible refine oS (fun _=>?_) (fun _=>?_))|(with_reducible refine ey (fun _=>?_) (fun _=>?_))|(with_reducible refine jL aJ)|simp -dsimp only[go_sem,seval, *,bq,aS,an,aA,aO,fk,hzo]|((with_reducible refine jM ?_);simp -dsimp only[go_sem,seval,bq,aS,an,aA,aO,fk,hzo];first|refine eA (by first|assumption|exact pK|exact rX) ny ?_|(refine ez gT ?_ ?_ ?_;(solve|(repeat(first|exact aP.refl _|exact aP.nil _|(refine aP.tup ?_)|(refine aP.agg ?_ rfl)|exact trivial|(refine And.intro ?_ ?_))));(solve|exact .inl rfl|exact .inr rfl)))|(refine fU [] (cT) ?_ ?_ ?_ ?_ ?_ ?_;(solve|rfl|simp only[go_sem,seval,bq,aA,aO]);(solve|rfl);(solve|decide);(solve|simp);(solve|simp only[go_sem,seval,bM,bq,aA,aO]))|(refine fU [5,6,8] (hf) ?_ ?_ ?_ ?_ ?_ ?_;(solve|rfl|simp only[go_sem,seval,aS,aA,aO]);(solve|rfl);(solve|decide);(solve|simp);(solve|simp only[go_sem,seval,bM,aS,aA,aO]))|(refine fU [5,6,8] (EE) ?_ ?_ ?_ ?_ ?_ ?_;(solve|rfl|simp only[go_sem,seval,aS,aA,aO]);(solve|rfl);(solve|decide);(solve|simp);(solve|simp only[go_sem,seval,bM,aS,aA,aO]))|(refine fU [6,8] (gU) ?_ ?_ ?_ ?_ ?_ ?_;(solve|rfl|simp only[go_sem,seval,aS,bt,aA,aO]);(solve|rfl);(solve|decide);(solve|simp);(solve|simp only[go_sem,seval,bM,aS,bt,aA,aO]))|(refine PL (Cz (fun q=>q.id==p.id) (pre++{u with leases:=kV u j b.tick}::post) 6 _ _ _ _ rfl rfl ?_ ?_ ⟨[.ept [.v (.int .i64 p.id)]],rfl,fun x _=>t8 x p.id⟩ (fun m c=>⟨[.ept [.v (.int .i64 p.id)]],rfl,fun x _=>t8 x p.id⟩)) ?_)|omega|exact decide_eq_true aa|exact aP.refl _)
    all_goals first
     |first|rfl|simp only[aH,eJ,aR,aq,cE,au,bu,aC,jk,aA,Xx,XX,XL,Z8,decide_true,Yq,YA]
     |(simpa using bB)
     |(rw[show R=(Bok.zero,9) from (by rw[aQ.out];grind)];(try simp only[Xo,Xm]);exact dg)
     |(rw[show R=(⟨b.tick,(pre++{u with leases:=kV u j b.tick}::post).filter fun q=>!(q.id==p.id)⟩,0) from (by rw[aQ.out];grind)];(try simp only[Xo,Xm]);exact dg)
 ·have cT:=oy b hz hc;have h1:(br b !=0)=true:=by simpa using hc
  have hr:R=(Bok.zero,br b):=by rw[hR.out];unfold fO;rw[aj hc]
  rw[hr];replace hr:=Xj hr;refine pj func94 ntmps94 results94 ?_;refine ap ?_<;>intros;exact dg
theorem a5g {p:Prop}(h:p:=by
 induction a with
 |nil=>rfl
 |cons x a ih=>exact ih):p:=h
def fP:Nat->List Pol->List (List PV)
 |_,[]=>[]
 |k,p::ps=>aA p (.own k 1)::fP (k+2) ps
def uD:List Pol->List Chunk
 |[]=>[]
 |p::ps=> .gone:: .row 96 5 1 (ab (p.leases.map bt))::uD ps
@[go_sem] theorem vC:∀(ps:List Pol) (k:Nat),(fP k ps).length=ps.length
 |[],_=>rfl
 |p::ps,k=>by simp only[fP,Xx,vC ps]
theorem o5:∀ps:List Pol,(uD ps).length=2*ps.length
 |[]=>rfl
 |p::ps=>by simp only[uD,Xx,o5 ps];omega
theorem zx (p:Pol):∀(ps:List Pol) (k:Nat),fP k (ps++[p])=fP k ps++[aA p (.own (k+2*ps.length) 1)]
 |[],k=>rfl
 |q::ps,k=>by
  simp only[X9,fP,zx p ps,Xx];rw[show k+2+2*ps.length=k+2*(ps.length+1) by omega]
theorem Gv (p:Pol):∀ps:List Pol,uD (ps++[p])=uD ps++[.gone,.row 96 5 1 (ab (p.leases.map bt))]
 |[]=>rfl
 |q::ps=>by simp only[X9,uD,Gv p ps]
theorem jT (n:Nat):∀(ps:List Pol) (k:Nat),k+2*ps.length < n+2->cE n (fP k ps)=true
 |[],_,_=>rfl
 |p::ps,k,h=>by
  simp only[Xx]at h;simp only[fP,cE,aA,aq,au,jT n ps (k+2) aa,YA,Ys,decide_eq_true_eq];omega
theorem o6 (n:Nat):∀ps:List Pol,aH n (uD ps)=true
 |[]=>rfl
 |p::ps=>by simp only[uD,aH,aR,aC,o6 n ps,Yq]
@[go_sem] theorem WL (a:List Chunk)(c d:Chunk):bD (a++[c]) a.length d=a++[d]:=by
 have:=oc a c d [];simpa using this
@[go_sem] theorem WM (a:List Chunk)(c e d:Chunk):bD (a++[c,e]) a.length d=a++[d,e]:=oc a c d [e]
@[go_sem] theorem a0L (a:List Chunk)(c d:Chunk):bD (a++[c]) (a.length+1) d=a++[c,d]:=by
 have:=lX (a++[c]) d;rw[Xv]at this;simpa using this
@[go_sem] theorem Ui (a:List Chunk)(c:Chunk)(l:List Chunk):aD (a++c::l) a.length=c:=a5g
@[go_sem] theorem a1k (a:List Chunk)(c d:Chunk)(l:List Chunk):aD (a++c::d::l) (a.length+1)=d:=a5g
@[go_sem] theorem a1l (a:List Chunk)(c d e:Chunk)(l:List Chunk):aD (a++c::d::e::l) (a.length+2)=e:=a5g
@[go_sem] theorem a0M (a:List Chunk)(c e d:Chunk):bD (a++[c,e]) (a.length+2) d=a++[c,e,d]:=by
 have:=lX (a++[c,e]) d;rw[Xv]at this;simpa using this
theorem o7 (n:Nat):∀(l m:List Chunk),aH n (l++m)=(aH n l&&aH n m)
 |[],m=>rfl
 |c::l,m=>by simp only[X9,aH,o7 n l m,_n]
theorem Uj (b:Bok)(h8:b.pools.length<=8)(eG:∀p∈b.pools,p.leases.length<=32):
 MSpec prog 232 [.d (.agg (bq b))] [] (.ptr 1 0) (.gone:: .box 30 [.d (.v (.int .i64 b.tick)),.own 2 b.pools.length]:: .row 83 9 b.pools.length (fP 4 b.pools)::uD b.pools):=by
 refine mj func232 ntmps232 results232 ?_;refine ap ?_<;>intros;refine bf ag am b.pools (fun _=>True) (fun k=>[(13,.d (.v (.int .i64 k))),(12,.d (.v (.int .i64 b.pools.length))),(11,.d (.sl 9 (b.pools.map an))),(3,.ptr 1 0),(2,.d (.v (.pointer none)))])
  (fun k=> .gone:: .box 30 [.d (.v (.int .i64 b.tick)),.own 2 k]:: .row 83 9 k (fP 4 (b.pools.take k))::uD (b.pools.take k)) trivial ?_ ?_ ?_
 ·exact a3U
 ·intro k p hp hk _ C hC;have eo:(k:Int) < (b.pools.length:Int):=aa;have db:=wi k aa;have jC:=eG p (Xl hp);have j7:k+1<=100:=aa;have hlt:(Yf k b.pools).length=k:=by rw[Xp];omega
  have ec:=ak hp;have C5:=vC (b.pools.take k) 4;have gU:=o5 (b.pools.take k);rw[hlt]at C5 gU;rw[ec,zx,Gv,hlt]at hC;have w9:=fun n h=>jT n (b.pools.take k) 4 h;have hbh:=fun n=>o6 n (b.pools.take k);clear ec;generalize uD (b.pools.take k)=T at*;generalize fP 4 (b.pools.take k)=rows at*;replace gU:=Xj gU;replace w9:=Xj w9;replace hbh:=Xj hbh;have z1z:=Ln.mk (ls:=[]) (js bt p.leases aa);refine ap ?_<;>intros;refine hC _ _ trivial ((aL (T.length+3) ah).trans (eF [.row 83 9 0 [aA p (.own (T.length+4) 1)]] ah (h':= .gone:: .box 30 [.d (.v (.int .i64 b.tick)),.own 2 (k+1)]:: .row 83 9 (k+1) (rows++[aA p (.own (4+2*k) 1)])::(T++[.gone,.row 96 5 1 (ab (p.leases.map bt))])) ?_ se ?_ ?_))
  ·simp only[bD];rw[oc,show T.length+4=4+2*k from by have:=gU.out;omega];simp only[X9,XV,Yb];rfl
  ·have:=gU.out;simp[eJ,au]
  ·have:=gU.out;have h1:=hbh.out (T.length+5);have h2:=w9.out (T.length+5) (by rw[hlt];omega);simp[aH,aR,aq,au,kU,cE,aC,aA,o7,h1,h2];omega
 ·exact a4R
@[go_sem] theorem Nl (n:Nat):∀(ps:List Pol) (j:Nat) (a:List Chunk),a.length=n+j->jp (fun x=>n+x) j (uD ps) a=a++uD ps
 |[],j,a,_=>by simp[uD,jp]
 |p::ps,j,a,h=>by
  have h1:n+j=a.length:=h.symm;have h2:n+(j+1)=(a++[Chunk.gone]).length:=by simp only[Xv,Xx,XX];omega
  simp only[uD,jp,mS];rw[h1,lX,h2,lX,Nl n ps (j+1+1) _ aK];have hd:kO (fun x=>n+x) (ab (p.leases.map bt))=ab (p.leases.map bt):=yv _ _;rw[hd];simp
@[go_sem] theorem I9 (n:Nat):∀(ps:List Pol) (k:Nat),kO (fun x=>n+x) (fP k ps)=fP (n+k) ps
 |[],_=>rfl
 |p::ps,k=>by
  simp only[fP,kO,I9 n ps (k+2),aA,jH,ren];rw[show n+(k+2)=n+k+2 by omega]
theorem Nm (b:Bok)(hz:∀p∈b.pools,p.leases.length<=3518437208882)(h:br b=0):
 MSpec prog 155 [.d (.agg (bq b))] [] (.tup [.ptr 2 0,.d (.v (.int .i64 0))]) (.gone:: .gone:: .box 30 [.d (.v (.int .i64 b.tick)),.own 3 b.pools.length]:: .row 83 9 b.pools.length (fP 5 b.pools)::uD b.pools):=by
 have hc:=ou b hz;have hb:=dJ h;have ho:=Uj b hb.n8 hb.l32;rw[h]at hc;replace h:=Xj h;refine mj func155 ntmps155 results155 ?_;have z1z:=Ln.mk (ls:=[]) (ho);refine ap ?_<;>intros;exact(aL 0 ah).trans (bn rfl rfl)
def mV (D:List Pol)(r:List PV)(k:Nat)(ps:List Pol):List (List PV):=ab (D.map an)++r::fP k ps
theorem Qu (D:List Pol)(r:List PV)(k:Nat)(ps:List Pol):(mV D r k ps).length=D.length+1+ps.length:=by
 unfold mV;rw[Xv,Xx,vC,aG,XB];omega
theorem Qv (D:List Pol)(r:List PV)(k:Nat)(ps:List Pol):(mV D r k ps)[D.length]? =some r:=by
 unfold mV;rw[XH (by simp[aG])];simp[aG]
theorem Qw (D:List Pol)(r r':List PV)(k:Nat)(ps:List Pol):(mV D r k ps).set D.length r'=mV D r' k ps:=by
 unfold mV;rw[Yu _ _ (by simp[aG])];simp[aG]
theorem CA (k g:Nat)(d:D):∀(ps:List Pol) (k0:Nat),k < k0->gI k g d (fP k0 ps)=fP k0 ps
 |[],_,_=>rfl
 |p::ps,k0,h=>by
  simp only[fP,gI,CA k g d ps (k0+2) aa,aA,ij,fz];rw[af aa]
theorem KN (k g:Nat)(d:D):∀(l m:List Chunk) (i:Nat),gM k g d i (l++m)=gM k g d i l++gM k g d (i+l.length) m
 |[],m,i=>rfl
 |c::l,m,i=>by
  simp only[X9,gM,KN k g d l m (i+1),Xx];rw[show i+1+l.length=i+(l.length+1) by omega]
theorem zy (k g:Nat)(d:D):∀(l:List Chunk) (i:Nat),(∀c∈l,iS k g d c=c)->(∀x,i<=x->x < i+l.length->x≠k)->gM k g d i l=l
 |[],_,_,_=>rfl
 |c::l,i,h,hx=>by
  simp only[gM];rw[af (hx i (Xz _) ah),h c ah,zy k g d l (i+1) (fun c hc=>h c (by simp[hc])) (fun x h1 h2=>hx x aa aK)]
theorem KO {c:Chunk}:∀{ps:List Pol},c∈uD ps->c= .gone\/∃ls,c= .row 96 5 1 (ab ls)
 |p::ps,h=>by
  simp only[uD,X2]at h;rcases h with h|h|h
  ·exact .inl h
  ·exact .inr ⟨_,h⟩
  ·exact KO h
theorem Qx:∀(ps:List Pol) (x:List Chunk) (i:Nat) (p:Pol),ps[i]? =some p->aD (uD ps++x) (2*i+1)= .row 96 5 1 (ab (p.leases.map bt))
 |q::ps,x,0,p,h=>by simp at h;subst h;rfl
 |q::ps,x,i+1,p,h=>by
  simp only[Yw]at h;have:=Qx ps x i p h;simp only[uD,X9];rw[show 2*(i+1)+1=(2*i+1)+1+1 by omega];exact this
theorem CB:∀(a b:List Chunk) (i:Nat),aD (a++b) (a.length+i)=aD b i
 |[],b,i=>by simp
 |c::a,b,i=>by
  simp only[X9,Xx];rw[show a.length+1+i=(a.length+i)+1 by omega];exact CB a b i
def iY (j:Nat)(c:Chunk)(ps:List Pol)(e:Chunk):List Chunk:=XY (2*j) .gone++(.gone::c::(uD ps++[e]))
structure TailOK (T:Chunk->List Chunk)(j q:Nat)(ps:List Pol)(e:Chunk):Prop where
 a:∀c x,aD (T c++x) (2*j+1)=c
 a0:∀c,aD (T c) (2*j+1)=c
 b:∀c x,aD (T c++x) q=e
 b0:∀c,aD (T c) q=e
 c:∀c d,bD (T c) (2*j+1) d=T d
 len:∀c,(T c).length=q+1
 h:∀n c,aR n c=true->aR n e=true->aH n (T c)=true
 r:∀c x i p,ps[i]? =some p->aD (T c++x) (2*j+1+2*(i+1))= .row 96 5 1 (ab (p.leases.map bt))
 f:∀c g d,iS (2*j+7) g d e=e->gM (2*j+7) g d 6 (T c)=T .gone
theorem mB (j:Nat)(c:Chunk)(ps:List Pol)(e:Chunk):iY j c ps e=(XY (2*j) Chunk.gone++[.gone])++c::(uD ps++[e]):=by
 unfold iY;simp
theorem WN (j q:Nat)(ps:List Pol)(e:Chunk)(hq:q=2*j+2+2*ps.length):TailOK (fun c=>iY j c ps e) j q ps e:=by
 have hA:(XY (2*j) Chunk.gone++[Chunk.gone]).length=2*j+1:=ah;have a0:∀c,aD (iY j c ps e) (2*j+1)=c:=fun c=>by rw[mB,<-hA];exact Ui _ _ _
 have hl:∀c,(iY j c ps e).length=q+1:=fun c=>by unfold iY;simp[o5];omega
 have b0:∀c,aD (iY j c ps e) q=e:=fun c=>by
  have:iY j c ps e=(XY (2*j) Chunk.gone++(.gone::c::uD ps))++[e]:=by unfold iY;simp
  rw[this,kP,aj];simp[o5];omega
 refine⟨fun c x=>?_,a0,fun c x=>?_,b0,fun c d=>?_,hl,fun n c h1 h2=>?_,fun c x i p hp=>?_,fun c g d he=>?_⟩
 ·rw[qR _ _ _ (by rw[hl];omega),a0]
 ·rw[qR _ _ _ (by rw[hl];omega),b0]
 ·show bD (iY j c ps e) (2*j+1) d=iY j d ps e;rw[mB,mB,<-hA];exact oc _ _ _ _
 ·have:aH n (XY (2*j) Chunk.gone)=true:=by
   generalize 2*j=m;induction m with
   |zero=>rfl
   |succ m ih=>rw[List.replicate_succ];simp only[aH,aR,ih,Yq]
  show aH n (iY j c ps e)=true;unfold iY;simp only[o7,aH,this,h1,h2,o6,YA,Ys];rfl
 ·show aD (iY j c ps e++x) _=_;have:iY j c ps e++x=(XY (2*j) Chunk.gone++[.gone,c])++(uD ps++([e]++x)):=by unfold iY;simp
  rw[this];have bB:(XY (2*j) Chunk.gone++[.gone,c]).length=2*j+2:=ah;rw[show 2*j+1+2*(i+1)=(XY (2*j) Chunk.gone++[.gone,c]).length+(2*i+1) by rw[bB];omega,CB];exact Qx ps _ i p hp
 ·show gM (2*j+7) g d 6 (iY j c ps e)=iY j .gone ps e;rw[mB,mB,KN,hA];have h1:gM (2*j+7) g d 6 (XY (2*j) Chunk.gone++[Chunk.gone])=XY (2*j) Chunk.gone++[Chunk.gone]:=by
   refine zy _ _ _ _ _ (fun c hc=>?_) (fun x h1 h2=>by rw[hA]at h2;omega);have:c= .gone:=by simp at hc;rcases hc with h|h<;>first|exact h.2|exact h
   subst this;rfl
  rw[h1,show 6+(2*j+1)=2*j+7 by omega];simp only[gM,if_true];rw[zy _ _ _ _ _ (fun c hc=>?_) (fun x h1 h2=>by omega)];simp only[X0,X7]at hc;rcases hc with hc|rfl
  ·rcases KO hc with rfl|⟨ls,rfl⟩
   ·rfl
   ·simp only[iS,bW]
  ·exact he
theorem wL {h:Nat->Chunk}{n:Nat}:∀(ps:List Pol) (k:Nat),(∀i p,ps[i]? =some p->∃ls,h (k+2*i)= .row 96 5 1 (ab ls))->∃ds,du (bx h (n+1)) (fP k ps)=some ds
 |[],_,_=>⟨[],rfl⟩
 |p::ps,k,hk=>by
  obtain⟨ls,h1⟩:=hk 0 p rfl;obtain⟨ds,h2⟩:=wL (n:=n) ps (k+2) (fun i q hq=>by
   obtain⟨ls,h3⟩:=hk (i+1) q (by simpa using hq);exact⟨ls,by rw[<-h3];congr 1;omega⟩)
  rw[Nat.mul_zero,XT]at h1;simp only[fP,du,h2,aA,cI,bx,oN,h1,if_true,eO,Yg];exact⟨_,rfl⟩
def kW (t:Int)(l:Lse):Bool:=(l.kind==3)&&decide (l.till<=t)
theorem KQ (l:Lse)(t:Int)(x:D):ai prog 170 [.agg (bt l),.ept [.ept [.v (.int .i64 t),x]]] (.v (.bool (kW t l))):=by
 unfold kW;refine pj func170 ntmps170 results170 ?_;exact bc
def fB (t:Int)(p:Pol):Pol:={p with leases:=p.leases.filter fun l=>!kW t l}
def jU (b:Bok)(n:Int):Bok × Int:=
 if br b≠0 then (Bok.zero,br b)else
 if n < 1\/n>1073741824 - b.tick then (Bok.zero,3)else (⟨b.tick+n,b.pools.map (fB (b.tick+n))⟩,0)
def fC (b:Bok)(t:Int)(rows:List (List PV))(T:List Chunk):List Chunk:=
 .box 30 [.d (.v (.int .i64 b.tick)),.d (.sl 9 (b.pools.map an))]:: .box 30 [.d (.v (.int .i64 0)),.d (.v (.slice none 0 0))]:: .gone:: .gone:: .box 30 [.d (.v (.int .i64 t)),.own 5 b.pools.length]:: .row 83 9 b.pools.length rows::T
theorem qo {b:Bok}{t:Int}{rows:List (List PV)}{T:List Chunk}{n:Nat}(h1:cE n rows=true)(h2:aH n T=true)(h3:6<=n):aH n (fC b t rows T)=true:=by
 simp only[fC,aH,aR,aq,au,h1,h2,YA,Ys,decide_eq_true_eq];omega
theorem WO (b:Bok)(n:Int)(hz:∀p∈b.pools,p.leases.length<=3518437208882):ai prog 95 [.agg (bq b),.v (.int .i64 n)] (.tup [.agg (bq (jU b n).1),.v (.int .i64 (jU b n).2)]):=by
 obtain⟨R,hR⟩:∃R,R=jU b n:=⟨_,rfl⟩;rw[<-hR];replace hR:=Xj hR;by_cases hc:br b=0
 ·have cf:=dJ hc;have cT:=Nm b hz hc;have ht:=cf.tick;have hws:IntKind.i64.wrap (1073741824 - b.tick)=1073741824 - b.tick:=by rw[IntKind.wrap_i64];omega
  have aQ:R=if n < 1\/n>1073741824 - b.tick then (Bok.zero,3)else (⟨b.tick+n,b.pools.map (fB (b.tick+n))⟩,0):=by rw[hR.out];unfold jU;rw[af (by simpa using hc)]
  replace aQ:=Xj aQ;clear hR hc;by_cases hn:n < 1\/n>1073741824 - b.tick
  ·clear cf;refine pj func95 ntmps95 results95 ?_;have z1z:=Ln.mk (ls:=[]) (cT);refine ft ?_ ?_ ?_ ?_ ?_ ?_ ?_ ?_<;>first|(with_reducible exact True.intro)|intros
   all_goals first
    |(exfalso;rename_i q1 q2;simp only[decide_eq_false_iff_not]at q1 q2;omega)
    |(clear hz cT;(rw[show R=(Bok.zero,3) from (by rw[aQ.out];grind)];(try simp only[Xo,Xm]);exact dg))
  ·have h1:decide (n < 1)=false:=aK;have h2:decide (n>1073741824 - b.tick)=false:=aK;have Vr:IntKind.i64.wrap (b.tick+n)=b.tick+n:=by rw[IntKind.wrap_i64];omega
   replace hn:=Xj hn;refine pj func95 ntmps95 results95 ?_;have z1z:=Ln.mk (ls:=[]) (cT);refine ap ?_<;>intros;have hqn:=o5 b.pools;rw[hqn];refine bQ ag am (fun m e h=>∃(pre rest:List Pol),b.pools=pre++rest/\m=rest.length/\e=[(44,.d (.v (.int .i64 pre.length))),(43,.d (.v (.int .i64 b.pools.length))),(6,.ptr (2*b.pools.length+6) 0),(5,.d (.v (.int .i64 0))),(4,.ptr 1 0)]/\
    h=fC b (b.tick+n) (ab ((pre.map (fB (b.tick+n))).map an)++fP (2*pre.length+7) rest) (XY (2*pre.length) .gone++(uD rest++[.box 178 [.ptr 4 0]]))) _ _ _ ⟨[],b.pools,rfl,rfl,rfl,rfl⟩ ?_ ?_
   ·refine eF [] ah (by simp only[fC,Xr,Yi,XX,Nat.mul_zero,List.replicate_zero,Yb];rfl) se (by simp[fC,eJ,au,o5]) ?_;refine qo (by simp only[Xr,XX];exact jT _ b.pools 7 (by simp[fC,o5];omega)) ?_ (by simp[fC]);simp[o7,o6,aH,aR,aq,au,fC]
   ·rintro m e h ⟨pre,rest,LG,hm,rfl,rfl⟩ C hC;cases rest with
    |nil=>
     have hN:b.pools.length=pre.length:=by rw[LG];simp
     have hq:aD (XY (2*pre.length) Chunk.gone++[.box 178 [.ptr 4 0]]) (2*b.pools.length)= .box 178 [.ptr 4 0]:=by rw[kP,aj aK]
     have lz:¬(pre.length:Int) < (b.pools.length:Int):=aa;have a1X:b.pools=pre:=by rw[LG];simp
     have go:=aQ.out;rw[af hn.out,a1X]at go;clear hC hm LG a1X hN;replace lz:decide ((pre.length:Int) < (b.pools.length:Int))=false:=by simpa using lz
     simp only[fC,fP,uD,Yi,Yb];generalize XY (2*pre.length) Chunk.gone++[Chunk.box 178 [.ptr 4 0]]=T at*;replace go:=Xj go;refine ap ?_<;>intros;rw[go.out];exact dg
    |cons p rest=>
     have hN:b.pools.length=pre.length+1+rest.length:=by rw[LG];simp;omega
     have lz:(pre.length:Int) < (b.pools.length:Int):=aa;have db:IntKind.i64.wrap ((pre.length:Int)+1)=((pre.length+1:Nat):Int):=by rw[IntKind.wrap_i64];have:=cf.n8;omega
     have jC:=cf.l32 p (by rw[LG];simp);have VV:=fun r=>Qu (pre.map (fB (b.tick+n))) r (2*pre.length+7+2) rest;have hzg:=fun r=>Qv (pre.map (fB (b.tick+n))) r (2*pre.length+7+2) rest;have Ow:=fun r r'=>Qw (pre.map (fB (b.tick+n))) r r' (2*pre.length+7+2) rest;rw[XB]at VV;simp only[XB]at hzg Ow;obtain⟨T,hT,hTe⟩:∃T:Chunk->List Chunk,TailOK T pre.length (2*b.pools.length) rest (.box 178 [.ptr 4 0])/\T=fun c=>iY pre.length c rest (.box 178 [.ptr 4 0]):=⟨_,WN pre.length (2*b.pools.length) rest (.box 178 [.ptr 4 0]) aa,rfl⟩;have hTg:T .gone=XY (2*(pre++[p]).length) .gone++(uD rest++[.box 178 [.ptr 4 0]]):=by
      rw[hTe];show iY _ _ _ _=_;unfold iY;rw[Xv,Xx,XX,show 2*(pre.length+(0+1))=2*pre.length+1+1 by omega,List.replicate_succ',List.replicate_succ'];simp
     have hTc:T (.row 96 5 1 (ab (p.leases.map bt)))=XY (2*pre.length) .gone++(uD (p::rest)++[.box 178 [.ptr 4 0]]):=by rw[hTe];rfl
     rw[<-hTc];clear hTe hTc;have VW:ab ((pre.map (fB (b.tick+n))).map an)++fP (2*pre.length+7) (p::rest)=mV (pre.map (fB (b.tick+n))) (aA p (.own (2*pre.length+7) 1)) (2*pre.length+7+2) rest:=rfl;rw[VW];clear VW;have Sv:∀(m:List Lse) (x:List Chunk) (v:Nat),∃d,cI (bx (aD (fC b (b.tick+n) (mV (pre.map (fB (b.tick+n))) (aA p (.own (2*pre.length+7) 1)) (2*pre.length+7+2) rest) (T (.row 96 5 1 (ab (m.map bt)))++x))) (v+5)) [.ptr (2*b.pools.length+6) 0]=some [.ept [.ept [.v (.int .i64 (b.tick+n)),d]]]:=by
      intro m x v;obtain⟨ds,dP⟩:=wL (h:=aD (fC b (b.tick+n) (mV (pre.map (fB (b.tick+n))) (aA p (.own (2*pre.length+7) 1)) (2*pre.length+7+2) rest) (T (.row 96 5 1 (ab (m.map bt)))++x))) (n:=v+1) rest (2*pre.length+7+2) (fun i q hq=>⟨q.leases.map bt,by
       rw[show 2*pre.length+7+2+2*i=2*pre.length+1+2*(i+1)+6 by omega];exact hT.r _ x i q hq⟩)
      have h1:aD (fC b (b.tick+n) (mV (pre.map (fB (b.tick+n))) (aA p (.own (2*pre.length+7) 1)) (2*pre.length+7+2) rest) (T (.row 96 5 1 (ab (m.map bt)))++x)) (2*b.pools.length+6)= .box 178 [.ptr 4 0]:=hT.b _ x;have h2:aD (fC b (b.tick+n) (mV (pre.map (fB (b.tick+n))) (aA p (.own (2*pre.length+7) 1)) (2*pre.length+7+2) rest) (T (.row 96 5 1 (ab (m.map bt)))++x)) (2*pre.length+7)= .row 96 5 1 (ab (m.map bt)):=hT.a _ x;have h3:∀r T',aD (fC b (b.tick+n) r T') 4= .box 30 [.d (.v (.int .i64 (b.tick+n))),.own 5 b.pools.length]:=fun _ _=>rfl;have h4:∀r T',aD (fC b (b.tick+n) r T') 5= .row 83 9 b.pools.length r:=fun _ _=>rfl;have h5:∃e,du (bx (aD (fC b (b.tick+n) (mV (pre.map (fB (b.tick+n))) (aA p (.own (2*pre.length+7) 1)) (2*pre.length+7+2) rest) (T (.row 96 5 1 (ab (m.map bt)))++x))) (v+2)) (mV (pre.map (fB (b.tick+n))) (aA p (.own (2*pre.length+7) 1)) (2*pre.length+7+2) rest)=some e:=by
       generalize hH:aD (fC b (b.tick+n) (mV (pre.map (fB (b.tick+n))) (aA p (.own (2*pre.length+7) 1)) (2*pre.length+7+2) rest) (T (.row 96 5 1 (ab (m.map bt)))++x))=H at*;simp only[mV,sI,eO,du,dP,aA,cI,bx,oN,h2,if_true,Yg];exact⟨_,rfl⟩
      obtain⟨e,he⟩:=h5;refine⟨.sl 9 e,?_⟩;simp only[cI,bx,h1,h3,h4,List.drop_zero,if_true,he,oN,Yg]
     have jc:∀r c c',bD (fC b (b.tick+n) r (T c)) (2*pre.length+7) c'=fC b (b.tick+n) r (T c'):=by
      intro r c c';show _::_::_::_::_::_::bD (T c) (2*pre.length+1) c'=_;rw[hT.c];rfl
     have d4:∀m:List Lse,aH (fC b (b.tick+n) (mV (pre.map (fB (b.tick+n))) (aA p (.own (2*pre.length+7) 1)) (2*pre.length+7+2) rest) (T (.row 96 5 1 (ab (m.map bt))))).length (fC b (b.tick+n) (mV (pre.map (fB (b.tick+n))) (aA p (.own (2*pre.length+7) 1)) (2*pre.length+7+2) rest) (T (.row 96 5 1 (ab (m.map bt)))))=true:=by
      intro m;have hl:(fC b (b.tick+n) (mV (pre.map (fB (b.tick+n))) (aA p (.own (2*pre.length+7) 1)) (2*pre.length+7+2) rest) (T (.row 96 5 1 (ab (m.map bt))))).length=2*b.pools.length+7:=by simp[fC,hT.len]
      rw[hl];refine qo ?_ (hT.h _ _ (aC _ _) (by simp[aR,aq,au])) aa;unfold mV;rw[kU,aC];simp only[cE,aA,aq,au,jT (2*b.pools.length+7) rest (2*pre.length+7+2) aa,YA,Ys,decide_eq_true_eq];first|done|omega
     have sZ:=I6 (kW (b.tick+n)) p.leases (2*pre.length+7) 1 170 [.ptr (2*b.pools.length+6) 0] (fC b (b.tick+n) (mV (pre.map (fB (b.tick+n))) (aA p (.own (2*pre.length+7) 1)) (2*pre.length+7+2) rest) (T (.row 96 5 1 (ab (p.leases.map bt))))) (hT.a0 _)
      (by simp[fC,hT.len,aq,au]) (d4 p.leases) aa
      (by
       obtain⟨d,hd⟩:=Sv p.leases [] 0;rw[Yi]at hd;exact⟨_,hd,fun x _=>KQ x (b.tick+n) d⟩)
      (fun m c=>by
       obtain⟨d,hd⟩:=Sv m [c] 1;rw[jc];exact⟨_,hd,fun x _=>KQ x (b.tick+n) d⟩)
     rw[jc]at sZ;have hTa:=hT.a0;have hTb:=hT.b0;have a1Y:=hT.c;have hTl:=hT.len;have hTf:=hT.f;have hTh:=hT.h;clear Sv jc d4 hT cT aQ;simp only[fC,aA]at sZ ⊢;replace hN:=Xj hN;replace hm:=Xj hm;replace LG:=Xj LG;replace hTg:=Xj hTg;replace hTf:=Xj hTf;replace hTh:=Xj hTh;replace hn:=Xj hn;clear cf jC ht;repeat' (first|(with_reducible refine And.intro ?_ ?_)|(with_reducible refine oS (fun _=>?_) (fun _=>?_))|(with_reducible refine ey (fun _=>?_) (fun _=>?_))|(with_reducible refine jL aJ)|simp -dsimp only[go_sem,seval, *,bq,an,lz,db,hTa,hTb,a1Y,hTl,hzg,VV,Ow]|((with_reducible refine jM ?_);simp -dsimp only[go_sem,seval,bq,an,lz,db,hTa,hTb,a1Y,hTl,hzg,VV,Ow];first|refine eA OE ny ?_|(refine ez gT ?_ ?_ ?_;(solve|(repeat(first|exact aP.refl _|exact aP.nil _|(refine aP.tup ?_)|(refine aP.agg ?_ rfl)|exact trivial|(refine And.intro ?_ ?_))));(solve|exact .inl rfl|exact .inr rfl)))|(refine PL sZ ?_)|omega|exact decide_eq_true aa|exact aP.refl _)
     refine hC _ _ _ _ _ (by have:=hm.out;simp at this;omega) ⟨pre++[p],rest,by rw[LG.out];simp,rfl,rfl,rfl⟩ ?_;refine(av (2*pre.length+7) 2 96 5 ((p.leases.filter fun x=>!kW (b.tick+n) x).map bt) (hTa _)).trans ?_;have n0:=eq_false (show ¬(0=2*pre.length+7) by omega);have n1:=eq_false (show ¬(1=2*pre.length+7) by omega);have n2:=eq_false (show ¬(2=2*pre.length+7) by omega);have n3:=eq_false (show ¬(3=2*pre.length+7) by omega);have n4:=eq_false (show ¬(4=2*pre.length+7) by omega);have n5:=eq_false (show ¬(5=2*pre.length+7) by omega);have sU:=fun d=>CA (2*pre.length+7) 2 d rest (2*pre.length+7+2) aa;have Ol:=fun d=>hTf.out (.row 96 5 2 (ab ((p.leases.filter fun x=>!kW (b.tick+n) x).map bt))) 2 d rfl;simp only[jq,fz,ij,gM,iS,gI,aT,bW,ce,Xm,Xr,XL,XK,reduceIte,and_true,true_and,and_self,and_false,false_and,XE,XT,reduceCtorEq,mV,sU,Ol,n0,n1,n2,n3,n4,n5,if_false];have hlp:(pre++[p]).length=pre.length+1:=ah;have e1:ab (((pre++[p]).map (fB (b.tick+n))).map an)++fP (2*(pre++[p]).length+7) rest=ab ((pre.map (fB (b.tick+n))).map an)++aA p (.d (.sl 5 ((p.leases.filter fun x=>!kW (b.tick+n) x).map bt)))::fP (2*pre.length+7+2) rest:=by
      rw[hlp,show 2*(pre.length+1)+7=2*pre.length+7+2 by omega];simp[ab,fB,an,aA]
     rw[e1,<-hTg.out,hlp];have hle:(fC b (b.tick+n) (ab ((pre.map (fB (b.tick+n))).map an)++aA p (.d (.sl 5 ((p.leases.filter fun x=>!kW (b.tick+n) x).map bt)))::fP (2*pre.length+7+2) rest) (T .gone)).length=2*b.pools.length+7:=by simp[fC,hTl]
     refine eF [] ah (by rw[Yi];rfl) se (by rw[hle];simp[eJ,au]) ?_;rw[hle];refine qo ?_ (hTh.out _ _ rfl (by simp[aR,aq,au])) aa;have:=hN.out;rw[kU,aC];simp only[cE,aA,aq,au,jT (2*b.pools.length+7) rest (2*pre.length+7+2) aa,YA]
 ·have cT:=oy b hz hc;have h1:(br b !=0)=true:=by simpa using hc
  have hr:R=(Bok.zero,br b):=by rw[hR.out];unfold jU;rw[aj hc]
  rw[hr];replace hr:=Xj hr;refine pj func95 ntmps95 results95 ?_;refine ap ?_<;>intros;exact dg
theorem Ja (l m:List Int)(hl:l.length<=1000000000)(hm:m.length<=1000000000):ai prog 113 [.sl 1 (l.map cF),.sl 1 (m.map cF)] (.v (.bool (decide (l=m)))):=by
 obtain⟨R,hR⟩:∃R,R=decide (l=m):=⟨_,rfl⟩;rw[<-hR];replace hR:=Xj hR;refine pj func113 ntmps113 results113 ?_;refine AN ?_ ?_<;>intros
 ·rename_i h1;exact Kw (by rw[hR.out,decide_eq_false];rintro rfl;simp at h1)
 ·rename_i h1;have mO:l.length=m.length:=by simp at h1;omega
  clear h1;replace mO:=Xj mO;refine bf ag am l (fun k=>l.take k=m.take k) (fun k=>[(5,.d (.v (.int .i64 k))),(4,.d (.v (.bool false))),(1,.d (.sl 1 (m.map cF))),(0,.d (.sl 1 (l.map cF)))]) (fun _=>[]) rfl (wf) ?_ ?_
  ·intro k x hx hk hI C hC;have eo:(k:Int) < (l.length:Int):=aa;have db:=wi k aa;obtain⟨y,hy⟩:∃y,m[k]? =some y:=⟨_,Xk (by have:=mO.out;omega)⟩;replace hI:=Xj hI;cases h1:(x !=y)with
   |true=>
    have hb:R=false:=by
     rw[hR.out,decide_eq_false];rintro rfl;rw[hx]at hy;rw[XW.inj hy]at h1;simp at h1
    rw[hb];replace hb:=Xj hb;exact bc;all_goals exact aP.refl _
   |false=>
    have nL:l.take (k+1)=m.take (k+1):=by rw[ak hx,ak hy,hI.out];simp at h1;rw[h1]
    replace nL:=Xj nL;refine ap ?_<;>intros;exact hC _ _ nL.out (wf)
  ·intro hI C;have hb:R=true:=by
    rw[hR.out,decide_eq_true_eq];rw[Xq,mO.out,Xq]at hI;exact hI
   rw[hb];replace hb:=Xj hb;replace hI:=Xj hI;exact bc;all_goals exact aP.refl _
theorem zA (p q:Rng):([p.at_.at_,p.at_.len,p.pool]==[q.at_.at_,q.at_.len,q.pool])=decide (p=q):=by
 rw[Yk];cases p;cases q;rename_i a b c d;cases a;cases c;simp[and_assoc]
theorem kX {α:Type}(enc:α->List D)(l:List α)(hl:l.length<=1000000000):
 MSpec prog 90 [.d (.sl 3 (l.map enc))] [] (.own 0 1) [.row 100 3 1 (ab (l.map enc))]:=by
 cases l with
 |nil=>
  refine tH (pl:=[]) (ql:=[]) fun ao cap=>?_;cases ao with
  |none=>
   simp only[Yb];refine mj func90 ntmps90 results90 ?_;have z1z:=@_h.{0};refine ft ?_ ?_ ?_ ?_ ?_ ?_ ?_ ?_<;>first|(with_reducible exact True.intro)|intros
   refine jJ (h:=[]) (Xz _) 100 3 ?_;exact(gA 0 0 100 3 [] rfl (bn rfl rfl))
  |some a=>
   simp only[Yb];refine mj func90 ntmps90 results90 ?_;have z1z:=@Zv.{0};refine ft ?_ ?_ ?_ ?_ ?_ ?_ ?_ ?_<;>first|(with_reducible exact True.intro)|intros
   exact bn rfl rfl
 |cons x l=>
  simp only[Xx]at hl;refine mj func90 ntmps90 results90 ?_;have z1z:=@Zv.{0};refine ft ?_ ?_ ?_ ?_ ?_ ?_ ?_ ?_<;>first|(with_reducible exact True.intro)|intros
  all_goals first|omega|exact bn rfl rfl
theorem ST {p:Prop}(h:p:=by
 intro j f hf hj _ C hC;have lz:(j:Int) < (s.faces.length:Int):=aa;have nI:=wi j aa;have gX:=jF.2 f (Xl hf);have iO:j+1<=100:=aa;have ro:(Yf j s.faces).length=j:=by rw[Xp];omega
 replace hf:=Xj hf;have Dd:=hf.out;have z1z:=Ln.mk (ls:=[]) (fQ f.addrs aa);refine ap ?_<;>intros;refine hC _ _ trivial ((av 8 1 3 1 (f.addrs.map cF) rfl).trans ?_);simp only[jq,fz,ij,gM,iS,gI,aT,bW,ce,Xm,Xr,XL,XK,reduceIte,and_true,true_and,and_self,and_false,false_and,XE,XT,reduceCtorEq,dn];exact wf (hh:=(by rw[ak hf.out,Xo,Xm,Xr,<-aI];rfl)) (hb:=cK) (hbh:=cK)):p:=h
theorem a3D {p:Prop}(h:p:=by
 refine(aL 4 ah).trans ((ay ah 5 107 [.d (.v (.int .i64 s.id)),.d (.v (.int .i64 s.at_.at_)),.d (.v (.int .i64 s.at_.len)),.d (.v (.slice none 0 0))] 3 110 2 rfl rfl rfl).trans ?_);exact wf (hb:=cK) (hbh:=cK)):p:=h
theorem a3K {p:Prop}(h:p:=by
 intro _ C;refine ap ?_<;>intros;refine we _ _ trivial ((av 6 s.faces.length 110 2 (s.faces.map cl) rfl).trans ?_);simp only[jq,fz,ij,gM,iS,gI,aT,bW,ce,Xm,Xr,XL,XK,reduceIte,and_true,true_and,and_self,and_false,false_and,XE,XT,reduceCtorEq];exact wf (hh:=(by rw[ak hs.out,Xo,Xm,Xr,<-aI];rfl)) (hb:=cK) (hbh:=cK)):p:=h
theorem a3P {p:Prop}(h:p:=by
 refine(aL 0 ah).trans ((ay ah 2 88 [.d (.v (.int .i64 v.id)),.own 1 1,.d (.v (.slice none 0 0))] 2 107 4 rfl rfl rfl).trans ?_);exact wf (hb:=cK) (hbh:=cK)):p:=h
theorem fQ (l:List Int)(hl:l.length<=1000000000):
 MSpec prog 91 [.d (.sl 1 (l.map cF))] [] (.own 0 1) [.row 3 1 1 (ab (l.map cF))]:=by
 cases l with
 |nil=>
  refine tH (pl:=[]) (ql:=[]) fun ao cap=>?_;cases ao with
  |none=>
   simp only[Yb];refine mj func91 ntmps91 results91 ?_;have z1z:=@_h.{0};refine ft ?_ ?_ ?_ ?_ ?_ ?_ ?_ ?_<;>first|(with_reducible exact True.intro)|intros
   refine jJ (h:=[]) (Xz _) 3 1 ?_;exact(gA 0 0 3 1 [] rfl (bn rfl rfl))
  |some a=>
   simp only[Yb];refine mj func91 ntmps91 results91 ?_;have z1z:=@Zv.{0};refine ft ?_ ?_ ?_ ?_ ?_ ?_ ?_ ?_<;>first|(with_reducible exact True.intro)|intros
   exact bn rfl rfl
 |cons x l=>
  simp only[Xx]at hl;refine mj func91 ntmps91 results91 ?_;have z1z:=@Zv.{0};refine ft ?_ ?_ ?_ ?_ ?_ ?_ ?_ ?_<;>first|(with_reducible exact True.intro)|intros
  all_goals first|omega|exact bn rfl rfl
theorem mC (v:Vpc)(h:bT v≠0):
 MSpec prog 184 [.d (.agg (ax v))] [] (.tup [.ptr 1 0,.d (.v (.int .i64 (bT v)))]) [.gone,.box 88 [.d (.v (.int .i64 0)),.d (.v (.slice none 0 0)),.d (.v (.slice none 0 0))]]:=by
 have hc:=qf v;have h1:(bT v !=0)=true:=by simpa using h
 refine mj func184 ntmps184 results184 ?_;refine ap ?_<;>intros;exact(aL 0 ah).trans (bn rfl rfl)
theorem mD (v:Vpc)(h:bT v=0)(h4:v.ranges.length<=4)(h6:v.subs.length<=6)(h8:∀s∈v.subs,s.faces.length<=8/\∀f∈s.faces,f.addrs.length<=4):
 MSpec prog 184 [.d (.agg (ax v))] [] (.tup [.ptr 2 0,.d (.v (.int .i64 0))]) [.gone,.row 100 3 1 (ab (v.ranges.map bE)),.box 88 [.d (.v (.int .i64 v.id)),.own 1 1,.own 3 v.subs.length],.row 107 4 v.subs.length (ab (v.subs.map aX))]:=by
 have hc:=qf v;rw[h]at hc;replace h:=Xj h;replace h8:=Xj h8;have gU:=kX bE v.ranges aa;refine mj func184 ntmps184 results184 ?_;have z1z:=Ln.mk (ls:=[]) (gU);refine ap ?_<;>intros;refine bf ag am v.subs (fun _=>True) (fun k=>[(28,.d (.v (.int .i64 k))),(27,.d (.v (.int .i64 v.subs.length))),(26,.d (.sl 4 (v.subs.map aX))),(5,.ptr 2 0)])
  (fun k=>[.gone,.row 100 3 1 (ab (v.ranges.map bE)),.box 88 [.d (.v (.int .i64 v.id)),.own 1 1,.own 3 k],.row 107 4 k (ab ((v.subs.take k).map aX))]) trivial ?_ ?_ ?_
 ·exact a3P
 ·intro k s hs hk _ CO we;have eo:(k:Int) < (v.subs.length:Int):=aa;have db:=wi k aa;have jF:=h8.out s (Xl hs);have j7:k+1<=100:=aa;have li:(Yf k v.subs).length=k:=by rw[Xp];omega
  replace hs:=Xj hs;have mQ:=hs.out;refine ap ?_<;>intros;refine bf ag am s.faces (fun _=>True) (fun j=>[(40,.d (.v (.int .i64 j))),(39,.d (.v (.int .i64 s.faces.length))),(38,.d (.sl 2 (s.faces.map cl))),(28,.d (.v (.int .i64 k))),(27,.d (.v (.int .i64 v.subs.length))),(26,.d (.sl 4 (v.subs.map aX))),(8,.ptr 5 0),(5,.ptr 2 0)])
   (fun j=>[.gone,.row 100 3 1 (ab (v.ranges.map bE)),.box 88 [.d (.v (.int .i64 v.id)),.own 1 1,.own 3 k],.row 107 4 k (ab ((v.subs.take k).map aX)),.gone,.box 107 [.d (.v (.int .i64 s.id)),.d (.v (.int .i64 s.at_.at_)),.d (.v (.int .i64 s.at_.len)),.own 6 j],.row 110 2 j (ab ((s.faces.take j).map cl))]) trivial ?_ ?_ ?_
  ·exact a3D
  ·exact ST
  ·exact a3K
 ·exact a4R
section
open Go.Proofs Go.ChangeShapes Go.WideShapes Go.Deep
section
variable {H:Type}{enc:TypeId × Value->H}{P:Program}{w:World}{base:Nat}{spare:Nat->Bool}{held:Bool}
def Rd {α:Type}(enc:TypeId × Value->H)(P:Program)(w:World)(base:Nat)(spare:Nat->Bool)(held:Bool)(t:TypeId)(R:List Value->α->Prop):Prop:=
 ∀fuel cs x,DataW.trod enc P w base spare held fuel t cs=some x->∃a,R cs a
theorem Rd.map {α β:Type}{t:TypeId}{R:List Value->α->Prop}{R':List Value->β->Prop}(h:Rd enc P w base spare held t R)(f:α->β)(hf:∀cs a,R cs a->R' cs (f a)):Rd enc P w base spare held t R':=by
 intro fuel cs x hx;obtain⟨a,ha⟩:=h fuel cs x hx;exact⟨f a,hf _ _ ha⟩
def a1m (n:Int):Prop:= -9223372036854775808<=n/\n<=9223372036854775807
def Uk (cs:List Value)(n:Int):Prop:=cs=[.int .i64 n]/\a1m n
theorem Ul {n:Int}(h:(Lit.int .i64 n).wf=true):a1m n:=by
 simp only[Lit.wf,Xt,decide_eq_true_eq]at h;have h1:IntKind.i64.min= -9223372036854775808:=rfl;have h2:IntKind.i64.max=9223372036854775807:=rfl;rw[h1,h2]at h;exact h
theorem nF {t:TypeId}(ht:P.underlying t=some (.int .i64)):Rd enc P w base spare held t Uk:=by
 intro fuel cs x hx;obtain⟨n,h,_,hw⟩:=DataW.trod_int ht hx;exact⟨n,h,Ul hw⟩
theorem gy {α:Type}{t:TypeId}{fs:Array Field}{fuel:Nat}{cs:List Value}{x:DataW H × List MemPlace}(ht:P.underlying t=some (.struct fs))(h:DataW.trod enc P w base spare held fuel t cs=some x)
 (j:Nat) {f:Field} (hf:fs[j]? =some f) {R:List Value->α->Prop} (hr:Rd enc P w base spare held f.type R):∃a,R ((cs.drop f.offset).take (P.cellsOf f.type)) a:=by
 obtain⟨xs,n,_,_,_,bB,hg⟩:=DataW.trod_struct ht h;have h1:=hg j f hf;have hj:j < xs.length:=by rw[bB];exact(Yz.1 hf).1
 rw[Xk hj]at h1;exact hr _ _ _ h1
theorem Jb {t:TypeId}{fs:Array Field}{fuel:Nat}{cs:List Value}{x:DataW H × List MemPlace}(ht:P.underlying t=some (.struct fs))(h:DataW.trod enc P w base spare held fuel t cs=some x):cs.length=P.cellsOf t:=by
 obtain⟨_,_,_,_,h,_⟩:=DataW.trod_struct ht h;exact h
theorem CC {α:Type}{Q:Nat->α->Prop}:∀(n:Nat),(∀i,i < n->∃a,Q i a)->∃l:List α,l.length=n/\∀i (h:i < l.length),Q i l[i]
 |0,_=>⟨[],rfl,fun i h=>by simp at h⟩
 |n+1,h=>by
  obtain⟨l,hl,hq⟩:=CC n fun i hi=>h i aa;obtain⟨a,ha⟩:=h n aa;refine⟨l++[a],by simp[hl],fun i hi=>?_⟩;rcases XM i l.length with h1|h1
  ·rw[List.getElem_append_left h1];exact hq i h1
  ·have:i=n:=by simp at hi;omega
   subst this;rw[List.getElem_append_right h1];simpa using ha
def inW (w:World):nC:=fun b=>b < w.heap.size
theorem Gw {t:TypeId}{v:Value}{d:DataW H}{p:List MemPlace}(h:DataW.Trod enc P w base spare held t v d p):∀x∈p,x.block < w.heap.size:=by
 obtain⟨m,hm⟩:=h;exact DataW.trod_lt m _ _ _ hm
end
end
theorem a4h {p:Prop}(h:p:=by
 refine⟨?_,by simp[Sort.putCells]⟩;apply Yj;intro i;by_cases hi:i < F.size
 ·rw[XP hi];have hc:i < cur.size:=aa;simp[Sort.putCells,hi,hc]
 ·rw[XR (by rw[Xp];omega),XR aK]):p:=h
section
open Go.Proofs Go.Shelf
structure SRow (HP:List Value->Int->Prop)(sz:Nat) where
 xs:List Value
 len:xs.length=sz
 one:∀v∈xs,v.oneCell'=true
 key:Int
 head:HP xs key
@[reducible] def Qy (xs:List Value)(k:Int):Prop:=xs[0]? =some (.int .i64 k)
def H0 {HP:List Value->Int->Prop}{sz:Nat}(x y:SRow HP sz):Int:=eQ x.key y.key
theorem ltS {HP:List Value->Int->Prop}{sz:Nat}(x y:SRow HP sz):ltOf H0 x y=decide (x.key < y.key):=tL _ _
theorem a2t {HP:List Value->Int->Prop}{sz:Nat}:Sort.SWO (ltOf (H0 (HP:=HP) (sz:=sz))) where
 irrefl x:=by rw[ltS];simp
 trans x y z h1 h2:=by rw[ltS]at*;simp at*;omega
 ntrans x y z h1 h2:=by rw[ltS]at*;simp at*;omega
@[reducible] def Qz (n:Nat):Inhabited (SRow Qy (n+1)):=⟨⟨XY (n+1) (.int .i64 0),by simp,fun v hv=>by rw[ZH hv];rfl,0,by unfold Qy;simp⟩⟩
theorem Bf (F cur:Array Value)(h:F.size<=cur.size):(Sort.putCells id 0 F cur).toList.take F.size=F.toList/\(Sort.putCells id 0 F cur).size=cur.size:=a4h
theorem zB {HP:List Value->Int->Prop}{sz:Nat}(n:Nat)(hs:sz=n+1)[Inhabited (SRow HP sz)](d:Array (SRow HP sz)):(Sort.flatK (fun r:SRow HP sz=>r.xs) sz d).toList=(d.toList.map (·.xs)).flatten:=by
 have bV:∀r∈d.toList.map (·.xs),r.length=sz:=fun r hr=>by
  obtain⟨x,-,rfl⟩:=XN.1 hr;exact x.len
 have bB:(d.toList.map (·.xs)).flatten.length=d.size*sz:=by rw[cO bV];simp
 apply Yj;intro t;by_cases ht:t < d.size*sz
 ·have h1:t / sz < d.size:=ZK (by rw[ZA];exact ht);have h2:t % sz < sz:=Nat.mod_lt _ aa;have h3:t / sz*sz+t % sz=t:=by rw[ZA];exact Nat.div_add_mod t sz
  have h4:=cD bV (t / sz) (t % sz) h2;rw[h3]at h4;rw[h4];have h5:=Sort.get_flatK (fun r:SRow HP sz=>r.xs) sz d t ht;have h6:t < (Sort.flatK (fun r:SRow HP sz=>r.xs) sz d).size:=by rw[Sort.size_flatK];exact ht
  rw[getElem!_pos (Sort.flatK (fun r:SRow HP sz=>r.xs) sz d) t h6]at h5;rw[X6,YQ h6,h5];have hl:(d[t / sz]).xs.length=sz:=(d[t / sz]).len;have e7:(d[t / sz]).xs[t % sz]? =some ((d[t / sz]).xs[t % sz]!):=by
   rw[getElem!_pos (d[t / sz]).xs (t % sz) (by rw[hl];exact h2)];exact Xk _
  rw[getElem!_pos d (t / sz) h1];rw[Xy,X6,YQ h1];simp only[Yg,Y0];exact e7.symm
 ·rw[XR aK,XR aa]
theorem QA {HP:List Value->Int->Prop}{n:Nat}(inh:Inhabited (SRow HP (n+1))){P:Program}{ρ:Ren}(L:SlLaysF0.n6 P ρ){f fc E:Nat}(hf:ρ.f 6=f)(aE:∀w,(isAgg (ρ.t 24)).run P w= .ok true w)(zE:∀w,(Go.sizeOf (ρ.t 24)).run P w= .ok (n+1) w)(eg:∀args w,(callFunc fc args).run P w= .ok (.enter fc args) w)
 (Sw:∀(x y:SRow HP (n+1)) (W:World),Calls P fc #[.agg x.xs.toArray,.agg y.xs.toArray] W fun e w'=>e= .returned (.int .i64 (H0 x y))/\∃q os',w'=Sort.grow (W.drewN q) os')
 (ds:List (SRow HP (n+1))) (w:World) (gb cap:Nat) (cur:Array Value) (hh:w.heap[gb]? =some (.cells cur E (0,0))) (hc:cur.toList.take (ds.length*(n+1))=(ds.map (·.xs)).flatten) (cL:ds.length*(n+1)<=cur.size) (hl:ds.length<=1000000):
 Calls P f #[.slice (some ⟨gb,0,none⟩) ds.length cap,.func (.func fc) #[] #[]] w fun e w'=>e= .returned (.tuple #[])/\∃(ds':List (SRow HP (n+1))) (cur':Array Value),ds'.Perm ds/\ds'.Pairwise (fun x y=>x.key<=y.key)/\w'.heap[gb]? =some (.cells cur' E (0,0))/\cur'.size=cur.size/\
  cur'.toList.take (ds.length*(n+1))=(ds'.map (·.xs)).flatten/\OneB w w' (some gb):=by
 have hg:gb < w.heap.size:=(Yz.1 hh).1;have gX:=zB n rfl ds.toArray;rw[Y6]at gX;have hH:Sort.HoldsK (fun r:SRow HP (n+1)=>r.xs) (n+1) w gb 0 ds.toArray:=by
  intro t ht;have ht2:=ht;rw[Sort.size_flatK,YG]at ht2;refine⟨?_,fm hh⟩;have ck:∀o,w.cell? ⟨gb,o,none⟩=cur[o]? :=fun o=>by simp[YU,hh]
  rw[XE,ck];have h1:(cur.toList.take (ds.length*(n+1)))[t]? =cur[t]? :=by rw[XP ht2];simp
  rw[<-h1,hc,<-gX,X6,getElem!_pos (Sort.flatK (fun r:SRow HP (n+1)=>r.xs) (n+1) ds.toArray) t ht,YQ ht];rfl
 have a1Z:=AnyQ.slices_SortFunc L (n+1) aE zE (fun r:SRow HP (n+1)=>r.xs) (·.len) (·.one) H0 a2t fc #[] gb 0 cap ds.toArray w eg (fun _ _ _ _ x y=>Sw x y _) hH hg aK;rw[hf,YG]at a1Z;refine Calls.mono a1Z ?_;rintro e w' ⟨rfl,d',m,os,⟨hp1,-,hp⟩,hs,rfl⟩;replace hp1:d'.size=ds.length:=by simpa using hp1
 have hF:(Sort.flatK (fun r:SRow HP (n+1)=>r.xs) (n+1) d').size<=cur.size:=by rw[Sort.size_flatK,hp1];exact cL
 obtain⟨p1,p2⟩:=Bf (Sort.flatK (fun r:SRow HP (n+1)=>r.xs) (n+1) d') cur hF;refine⟨rfl,d'.toList,Sort.putCells id 0 (Sort.flatK (fun r:SRow HP (n+1)=>r.xs) (n+1) d') cur,?_,?_,?_,p2,?_,?_⟩
 ·have e1:d'.extract 0 ds.length=d':=by rw[<-hp1];exact Array.extract_size
  have e2:ds.toArray.extract 0 ds.length=ds.toArray:=ah;rw[e1,e2]at hp;simpa using hp
 ·rw[XF];intro i j hi hj hij;have hj':j < d'.size:=by simpa using hj
  have:=hs i j (XD _) hij aa;rw[ltS,getElem!_pos d' i aa,getElem!_pos d' j hj']at this;simpa using this
 ·show (Sort.grow (Sort.putRow id (Sort.ahead w m) gb 0 (Sort.flatK (fun r:SRow HP (n+1)=>r.xs) (n+1) d')) os).heap[gb]? =_;rw[Sort.heap_grow_old _ _ (by simpa using hg)];show (w.heap.modify gb (Sort.onCells _))[gb]? =_;rw[Y3,aj rfl,hh];rfl
 ·rw[show ds.length*(n+1)=(Sort.flatK (fun r:SRow HP (n+1)=>r.xs) (n+1) d').size by rw[Sort.size_flatK,hp1],p1,zB n rfl]
 ·refine⟨rfl,rfl,rfl,?_,fun b hb bH=>?_⟩
  ·show w.heap.size<=(Sort.grow (Sort.putRow id (Sort.ahead w m) gb 0 _) os).heap.size;rw[Sort.size_grow,Sort.size_putRow,Sort.heap_ahead];omega
  ·show (Sort.grow (Sort.putRow id (Sort.ahead w m) gb 0 (Sort.flatK (fun r:SRow HP (n+1)=>r.xs) (n+1) d')) os).heap[b]? =_;rw[Sort.heap_grow_old _ _ (by simpa using hb)];show (w.heap.modify gb (Sort.onCells _))[b]? =_;rw[Y3,af (fun e=>bH (by rw[e]))]
theorem QB {α β:Type}{ka:α->Int}{kb:β->Int}{l l':List α}{d d':List β}(hk:d.map kb=l.map ka)(hp:l'.Perm l)(hs:l'.Pairwise fun x y=>ka x < ka y)(hq:d'.Perm d)(ht:d'.Pairwise fun x y=>kb x<=kb y):d'.map kb=l'.map ka:=
 List.Perm.eq_of_pairwise (le:=fun x y:Int=>x<=y) (fun a b _ _ h1 h2=>by omega) (by rw[Y8];exact ht) (by rw[Y8];exact hs.imp fun h=>by omega) ((hq.map kb).trans (by rw[hk];exact(hp.map ka).symm))
theorem KR {HP:List Value->Int->Prop}{n:Nat}(inh:Inhabited (SRow HP (n+1))){P:Program}{ρ:Ren}(L:SlLaysF0.n6 P ρ){f fc E g:Nat}(hf:ρ.f 6=f)(Vo:yp P f)(aE:∀w,(isAgg (ρ.t 24)).run P w= .ok true w)(zE:∀w,(Go.sizeOf (ρ.t 24)).run P w= .ok (n+1) w)(eg:∀args w,(callFunc fc args).run P w= .ok (.enter fc args) w)
 (Sw:∀(x y:SRow HP (n+1)) (W:World),Calls P fc #[.agg x.xs.toArray,.agg y.xs.toArray] W fun e w'=>e= .returned (.int .i64 (H0 x y))/\∃q os',w'=Sort.grow (W.drewN q) os')
 {α:Type} (enc:α->List D) (key:α->Int) {l l':List α} (a0z:∀x∈l,∀vs:List Value,vs.length=n+1->(∀(j:Nat) (d:D) (v:Value),(enc x)[j]? =some d->vs[j]? =some v->∃M w,RepD M w d v)->HP vs (key x)) (rC:l≠[]) (hp:l'.Perm l) (hs:l'.Pairwise fun x y=>key x < key y) (cL:l.length<=1000000):
 MSpec P f [.own 0 g,.d (.clo fc [])] [.row E (n+1) g (ab (l.map enc))] (.d (.tup [])) [.row E (n+1) g (ab (l'.map enc))]:=by
 refine⟨Vo,Xz _,by simp[aq,au],by simp[aH,aR,aC],fun X hP hn hm w c vs hr mL=>?_⟩;have bB:=mL.1;match vs,bB with
 |[v0,v1],_=>
  have r0:=mL.2 0 _ v0 rfl rfl;have r1:=cn (mL.2 1 _ v1 rfl rfl);have bH:ab (l.map enc)≠[]:=by simpa[ab]using rC
  have bp:=hr.chunk 0;cases r0 with
  |own _ _ _ ep h1=>
   obtain⟨gb,cap,rfl⟩:=nR bp ep bH;obtain⟨cur,xs,q1,q2,q3,q4,q5,q6,q7,q8,q9,q10,q11⟩:=eH bp ep bH;have St:=bI.one q2 (fun d hd=>by obtain⟨r,hr,hd⟩:=C'.1 hd;exact q6 r hr d hd);have rW:(ab (l.map enc)).length=l.length:=by rw[aG,XB]
   rw[rW]at q3 q4 q8 q10 ep ⊢;have ry:v1= .func (.func fc) #[] #[]:=by
    cases r1 with
    |clo _ _ vs hl bC=>
     have:vs=[]:=by simpa using hl.symm
     subst this;rfl
   subst ry;have Ov:cur.toList.take (l.length*(n+1))=xs:=by
    apply Yj;intro j;by_cases hj:j < l.length*(n+1)
    ·rw[XP hj,X6,q4 j hj]
    ·rw[XR (by rw[Xp];omega),XR aa]
   obtain⟨ds,sZ,dP⟩:=CC (Q:=fun i (r:SRow HP (n+1))=>r.xs=(xs.drop (i*(n+1))).take (n+1)/\∃x,l[i]? =some x/\r.key=key x) l.length fun i hi=>by
    have hb:(i+1)*(n+1)<=l.length*(n+1):=Yt _ hi;rw[YP]at hb;obtain⟨x,hx⟩:∃x,l[i]? =some x:=⟨_,Xk hi⟩;have H2:((xs.drop (i*(n+1))).take (n+1)).length=n+1:=by rw[Xp,XS];omega
    have h0:HP ((xs.drop (i*(n+1))).take (n+1)) (key x):=a0z x (Xl hx) _ H2 fun j d v hd hv=>by
     have hj:j < n+1:=by rw[<-H2];exact(Xn.1 hv).1
     rw[XP hj,Yl]at hv;have gX:=cD q5 i j hj;rw[iC,Xy,hx]at gX;simp only[Yg,Y0,Xy,hd]at gX;exact⟨_,_,cn (q2.2 _ _ v gX hv)⟩
    exact⟨⟨(xs.drop (i*(n+1))).take (n+1),H2,fun v hv=>St v (Yc (Yd hv)),key x,h0⟩,rfl,x,hx,rfl⟩
   have V6:∀r∈ds.map (·.xs),r.length=n+1:=fun r hr=>by obtain⟨x,-,rfl⟩:=XN.1 hr;exact x.len
   have hflat:(ds.map (·.xs)).flatten=xs:=by
    apply Yj;intro t;by_cases ht:t < l.length*(n+1)
    ·have h1:t / (n+1) < l.length:=ZK (by rw[ZA];exact ht);have h2:t % (n+1) < n+1:=Nat.mod_lt _ aa;have h3:t / (n+1)*(n+1)+t % (n+1)=t:=by rw[ZA];exact Nat.div_add_mod t (n+1)
     generalize t / (n+1)=i at h1 h3;generalize t % (n+1)=j at h2 h3;have h4:=cD V6 i j h2;rw[h3,Xy,Xk (show i < ds.length by omega)]at h4;rw[h4];simp only[Yg,Y0];rw[(dP _ (show i < ds.length by omega)).1,XP h2,Yl,h3]
    ·rw[XR (by rw[cO V6,XB,sZ];omega),XR aa]
   have wY:ds.map (·.key)=l.map key:=by
    apply Yj;intro i;rw[Xy,Xy];by_cases hi:i < l.length
    ·obtain⟨-,x,hx,hk⟩:=dP i aa;rw[Xk aa,hx];simp[hk]
    ·rw[XR (show ds.length<=i by omega),XR (show l.length<=i by omega)];rfl
   have jW:=QA inh L hf aE zE eg Sw ds w gb cap cur q1 (by rw[sZ,Ov,hflat]) (by rw[sZ];exact q8) aa;rw[sZ]at jW;rw[<-hP]at jW;rw[hP]at jW;refine jW.mono fun e w' ⟨he,ds',cur',hp',hs',hw',eV,wb,dL⟩=>?_;have jf:=QB (ka:=key) (kb:=SRow.key) wY hp hs hp' hs';have a0A:ds'.length=l.length:=by rw[hp'.length_eq,sZ]
   have Sx:l'.length=l.length:=hp.length_eq;have EH:∀r∈ds'.map (·.xs),r.length=n+1:=fun r hr=>by obtain⟨x,-,rfl⟩:=XN.1 hr;exact x.len
   have J1:∀r∈ab (l'.map enc),r.length=n+1:=fun r hr=>by
    obtain⟨q,hq,rfl⟩:=jo hr;obtain⟨x,hx,rfl⟩:=XN.1 hq;exact q5 _ (XN.2 ⟨enc x,XN.2 ⟨x,hp.mem_iff.1 hx,rfl⟩,rfl⟩)
   have a0w:∀r∈ab (l'.map enc),∀d∈r,d.one=true:=fun r hr d hd=>by
    obtain⟨q,hq,rfl⟩:=jo hr;obtain⟨x,hx,rfl⟩:=XN.1 hq;exact q6 _ (XN.2 ⟨enc x,XN.2 ⟨x,hp.mem_iff.1 hx,rfl⟩,rfl⟩) d hd
   have mM:∀i j (hi:i < l.length) (hj:j < l.length),key l[i]=key l[j]->i=j:=by
    have h1:(l'.map key).Nodup:=by
     unfold List.Nodup;rw[Y8];exact hs.imp fun h=>by omega
    have h2:(l.map key).Nodup:=(hp.map key).nodup_iff.1 h1;intro i j hi hj h;rw[List.nodup_iff_pairwise_ne,XF]at h2;rcases Y7 i j with hlt|he|hlt
    ·exact absurd (by rw[B',B'];exact h) (h2 i j (by simpa using hi) (by simpa using hj) hlt)
    ·exact he
    ·exact absurd (by rw[B',B'];exact h.symm) (h2 j i (by simpa using hj) (by simpa using hi) hlt)
   have qE:bI c w (ab (l'.map enc)).flatten (ds'.map (·.xs)).flatten:=by
    refine⟨by rw[cO J1,cO EH,aG,XB,XB,a0A,Sx],fun t d u ht hu=>?_⟩;have htl:t < l.length*(n+1):=by
     have:=(Xn.1 hu).1;rw[cO EH,XB,a0A]at this;exact this
    have h1:t / (n+1) < l.length:=ZK (by rw[ZA];exact htl);have h2:t % (n+1) < n+1:=Nat.mod_lt _ aa;have h3:t / (n+1)*(n+1)+t % (n+1)=t:=by rw[ZA];exact Nat.div_add_mod t (n+1)
    generalize t / (n+1)=i at h1 h3;generalize t % (n+1)=j at h2 h3;have e1:=cD J1 (i) (j) h2;have e2:=cD EH (i) (j) h2;rw[h3,iC,Xy,Xk (l:=l') (show i < l'.length by omega)]at e1;rw[h3,Xy,Xk (l:=ds') (show i < ds'.length by omega)]at e2;simp only[Yg,Y0]at e1 e2;obtain⟨p,jC,LD⟩:=X3.1 (hp'.mem_iff.1 (Ye (show i < ds'.length by omega)));obtain⟨p2,a2T,a2a⟩:=X3.1 (hp.mem_iff.1 (Ye (show i < l'.length by omega)));obtain⟨g1,x,g2,g3⟩:=dP p jC;have hx:l[p]'(by omega)=x:=by rw[Xk aa]at g2;exact XW.inj g2
    have a2b:(ds'[i]'(by omega)).key=key (l'[i]'(by omega)):=by
     have:=congrArg (fun z:List Int=>z[i]?) jf;simp only[Xy]at this;rw[Xk aa,Xk aa]at this;exact XW.inj this
    have hpp:p=p2:=mM p p2 aa a2T (by rw[a2a,<-a2b,<-LD,g3,hx]);subst hpp;rw[<-a2a,hx]at e1;rw[<-LD,g1,XP h2,Yl]at e2;have e3:=cD q5 p (j) h2;rw[iC,Xy,g2]at e3;simp only[Yg,Y0]at e3;rw[<-e3]at e1;rw[e1]at ht;rw[e2]at hu;exact q2.2 _ d u ht hu
   have vU:0 < cap:=by have:=Zl.2 rC;omega
   have HJ:=hr.put_row (w':=w') (k:=0) (rows':=ab (l'.map enc)) (xs':=(ds'.map (·.xs)).flatten) rfl ep (by rw[cR vU];exact dL) (by
    rw[aG,XB,Sx];exact .row gb l.length cap cur' _ vU hw' q10 q9 (by rw[eV];exact q11) (by rw[cO EH,XB,a0A]) wb) qE J1 a0w
   have oE:cH [(0,Chunk.row E (n+1) g (ab (l'.map enc)))] (bS [] [.row E (n+1) g (ab (l.map enc))]).heap=aD [.row E (n+1) g (ab (l'.map enc))]:=a5c
   rw[oE]at HJ;refine⟨_,c,he,.d _ _ (.tup [] [] rfl fun j d x h=>by simp at h),HJ⟩
theorem xN {n:Nat}{P:Program}{ρ:Ren}(L:SlLaysF0.n6 P ρ){f fc E g:Nat}(hf:ρ.f 6=f)(Vo:yp P f)(aE:∀w,(isAgg (ρ.t 24)).run P w= .ok true w)(zE:∀w,(Go.sizeOf (ρ.t 24)).run P w= .ok (n+1) w)(eg:∀args w,(callFunc fc args).run P w= .ok (.enter fc args) w)
 (Sw:∀(x y:SRow Qy (n+1)) (W:World),Calls P fc #[.agg x.xs.toArray,.agg y.xs.toArray] W fun e w'=>e= .returned (.int .i64 (H0 x y))/\∃q os',w'=Sort.grow (W.drewN q) os')
 {α:Type} (enc:α->List D) (key:α->Int) (a0z:∀x,(enc x)[0]? =some (.v (.int .i64 (key x)))) {l l':List α} (rC:l≠[]) (hp:l'.Perm l) (hs:l'.Pairwise fun x y=>key x < key y) (cL:l.length<=1000000):
 MSpec P f [.own 0 g,.d (.clo fc [])] [.row E (n+1) g (ab (l.map enc))] (.d (.tup [])) [.row E (n+1) g (ab (l'.map enc))]:=
 KR (Qz n) L hf Vo aE zE eg Sw enc key (fun x _ vs hl hr=>by
  obtain⟨v,hv⟩:∃v,vs[0]? =some v:=⟨_,Xk aa⟩;obtain⟨M,w,h⟩:=hr 0 _ v (a0z x) hv;show vs[0]? =_;rw[hv];cases h;rfl) rC hp hs cL
end
section
open Go.Proofs Go.Shelf
theorem lZ (a:Int)(W:World):Calls prog 245 #[.int .i64 a] W fun e w'=>e= .returned (.bool false)/\w'=W:=by
 go_enter func245,ntmps245
 go_wp2_with fail
 go_ret
 exact⟨dw ah,rfl⟩
theorem ju (a b:Int)(W:World):Calls prog 176 #[.int .i64 a,.int .i64 b] W fun e w'=>e= .returned (.int .i64 (eQ a b))/\w'=W:=by
 by_cases h:a < b
 ·have e:eQ a b= -1:=by simp[eQ,h]
  rw[e];go_enter func176,ntmps176
  go_wp2_with fail
  refine(lZ a _).mono ?_;rintro e w1 ⟨rfl,rfl⟩;go_wp2_with fail
  refine(lZ b _).mono ?_;rintro e w1 ⟨rfl,rfl⟩;go_wp2_with fail
  go_ret
  exact⟨b9 rfl,rfl⟩
 ·by_cases h2:b < a
  ·have e:eQ a b=1:=by simp[eQ,h,h2]
   rw[e];go_enter func176,ntmps176
   go_wp2_with fail
   refine(lZ a _).mono ?_;rintro e w1 ⟨rfl,rfl⟩;go_wp2_with fail
   refine(lZ b _).mono ?_;rintro e w1 ⟨rfl,rfl⟩;go_wp2_with fail
   go_ret
   exact⟨b9 rfl,rfl⟩
  ·have e:eQ a b=0:=by simp[eQ,h,h2]
   rw[e];go_enter func176,ntmps176
   go_wp2_with fail
   refine(lZ a _).mono ?_;rintro e w1 ⟨rfl,rfl⟩;go_wp2_with fail
   refine(lZ b _).mono ?_;rintro e w1 ⟨rfl,rfl⟩;go_wp2_with fail
   go_ret
   exact⟨b9 rfl,rfl⟩
end
section
open Go.Proofs Go.Shelf
theorem QC (x y:SRow Qy 3)(W:World):Calls prog 250 #[.agg x.xs.toArray,.agg y.xs.toArray] W fun e w'=>e= .returned (.int .i64 (H0 x y))/\∃q os',w'=Sort.grow (W.drewN q) os':=by
 obtain⟨xs,xl,x1,a,xh⟩:=x;obtain⟨ys,yl,y1,b,yh⟩:=y;match xs,xl,ys,yl with
 |[u0,u1,u2],_,[v0,v1,v2],_=>
  simp[Qy]at xh yh;subst xh;subst yh;have hc:=ju a b;unfold H0;simp only;generalize eQ a b=r at*;replace hc:=Xj hc;clear x1 y1;go_enter func250,ntmps250
  go_wp2_with fail
  refine(hc.out _).mono ?_;rintro e w1 ⟨rfl,rfl⟩;go_wp2_with fail
  go_ret
  exact⟨b9 rfl,0,_,by rw[Sort.alloc_eq_grow,Sort.alloc_eq_grow,Sort.grow_grow];rfl⟩
theorem Jc {l l':List Rng}(g:Nat)(rC:l≠[])(hp:l'.Perm l)(hs:l'.Pairwise fun x y=>(fun r:Rng=>r.at_.at_) x < (fun r:Rng=>r.at_.at_) y)(cL:l.length<=1000000):
 MSpec prog 249 [.own 0 g,.d (.clo 250 [])] [.row 100 3 g (ab (l.map bE))] (.d (.tup [])) [.row 100 3 g (ab (l'.map bE))]:=
 xN sortRange rfl (bY func249 aJ rfl) isAgg100 sizeOf100 (enters_of func250 aJ rfl) QC bE (fun r:Rng=>r.at_.at_) (fun _=>rfl) rC hp hs cL
end
theorem Um (q r:Rng):ai prog 248 [.agg (bE q),.ept (bE r)] (.v (.bool (q.at_.meets r.at_))):=by
 have hm:ai prog 124 [.agg (aS q.at_),.agg (aS r.at_)] (.v (.bool (q.at_.meets r.at_))):=qV _ _;refine pj func248 ntmps248 results248 ?_;exact bc
theorem Un (v:Vpc)(r:Rng):ai prog 183 [.agg (ax v),.agg (bE r)] (.tup [.agg (ax (cJ v r).1),.v (.int .i64 (cJ v r).2)]):=by
 obtain⟨R,hR⟩:∃R,R=cJ v r:=⟨_,rfl⟩;rw[<-hR];replace hR:=Xj hR;by_cases hc:bT v=0
 ·have hk:=aY hc;have cT:=mD v hc hk.n4 hk.n6 hk.n8;have hid:=mg r.pool;have bp:=qU r.at_;have pK:=oU nZ (fun q=>q.at_.meets r.at_) v.ranges 248 [.ept (bE r)] (by have:=hk.n4;omega) (fun q _=>Um q r);have aQ:R=if nd v r≠0 then (Vpc.zero,nd v r)else ({v with ranges:=dv (·.at_.at_) r v.ranges},0):=by rw[hR.out];unfold cJ;rw[af (by simpa using hc)]
  have Om:=hk.n4;by_cases bL:nd v r≠0
  ·rw[aj bL]at aQ;unfold nd at aQ bL;generalize chk r.at_.at_ r.at_.len=K at*;generalize cB r.pool=I at*;generalize (v.ranges.any fun q=>q.at_.meets r.at_)=M at*;replace aQ:=Xj aQ;replace bL:=Xj bL;clear hR hc hk;have hl4:((v.ranges.length:Int)==4)=decide (v.ranges.length=4):=by rw[Yk];simp;omega
   refine pj func183 ntmps183 results183 ?_;have z1z:=Ln.mk (ls:=[]) (cT);refine ft ?_ ?_ ?_ ?_ ?_ ?_ ?_ ?_<;>first|(with_reducible exact True.intro)|intros
   all_goals
    have h1:=aQ.out;have h2:=bL.out;clear hid bp pK cT;first
     |(exfalso;grind)
     |(rw[show R=(Vpc.zero,1) from (by rw[h1];grind)];exact dg)
     |(rw[show R=(Vpc.zero,6) from (by rw[h1];grind)];exact dg)
     |(rw[show R=(Vpc.zero,2) from (by rw[h1];grind)];exact dg)
  ·rw[af bL]at aQ;have hg:nd v r=0:=by simpa using bL
   obtain⟨g1,g2,g3,g4⟩:chk r.at_.at_ r.at_.len=0/\cB r.pool=true/\(v.ranges.any fun q=>q.at_.meets r.at_)=false/\v.ranges.length≠4:=by
    unfold nd at hg;generalize (v.ranges.any fun q=>q.at_.meets r.at_)=M at*;grind
   have bH:∀q∈v.ranges,q.at_.at_≠r.at_.at_:=fun q hq=>y8 (jO (hk.ranges q hq)) (by simp[Pfx.right,bF,g1]) (by have:=Yh.1 g3 q hq;simpa using this);have pF:=Jc (l:=v.ranges++[r]) (l':=dv (·.at_.at_) r v.ranges) 2 ah (gF _ _ _) (im hk.rr bH) aK;rw[g1]at bp;rw[g2]at hid;rw[g3]at pK;have hl4:((v.ranges.length:Int)==4)=false:=aK;have j7:v.ranges.length+1<=100:=aa;simp only[Xo,Xm,Xr]at pF;rw[aQ];clear hR aQ hc hk bH hg bL;refine pj func183 ntmps183 results183 ?_;have z1z:=Ln.mk (ls:=[]) (cT);have z2z:=Ln.mk (ls:=[4]) (pF);exact bc
 ·have cT:=mC v hc;have h1:(bT v !=0)=true:=by simpa using hc
  have hr:R=(Vpc.zero,bT v):=by rw[hR.out];unfold cJ;rw[aj hc]
  rw[hr];replace hr:=Xj hr;refine pj func183 ntmps183 results183 ?_;have z1z:=Ln.mk (ls:=[]) (cT);refine ap ?_<;>intros;exact dg
theorem zC (p q:Pfx):([p.at_,p.len]==[q.at_,q.len])=decide (p=q):=by
 rw[Yk];cases p;cases q;simp
theorem a3L {p:Prop}(h:p:=by
 rw[hp]at he;have EI:∀z∈l.take (k+1),decide (x=z)=false:=fun z hz=>by
  rw[ak hy]at hz;rcases X0.1 hz with hz|hz
  ·exact cg z hz
  ·rw[X7]at hz;rw[hz];exact hp
 replace EI:=Xj EI;replace cg:=Xj cg;replace hp:=Xj hp;refine ap ?_<;>intros;refine oH _ _ _ _ _ ?_ ⟨k+1,hlt,EI.out,rfl,rfl,rfl⟩ (wf);omega):p:=h
theorem a4r {p:Prop}(h:p:=by
 rw[hp]at he;have mK:cv (fun y=>decide (x=y)) l=k:=gC hy hp cg;rw[mK];replace mK:=Xj mK;replace cg:=Xj cg;replace hp:=Xj hp;exact bc;all_goals exact aP.refl _):p:=h
theorem a5d {p:Prop}(h:p:=by
 obtain rfl:k=l.length:=aa;rw[Xq]at cg;rw[gD cg];replace cg:=Xj cg;exact bc;all_goals exact aP.refl _):p:=h
theorem Gx (l:List Rng)(x:Rng)(hl:l.length<=1000000000):
 ai prog 171 [.sl 3 (l.map bE),.agg (bE x)] (.v (.int .i64 (cv (fun y=>decide (x=y)) l))):=by
 refine pj func171 ntmps171 results171 ?_;refine ap ?_<;>intros;refine bQ ag am (fun m e h=>∃k:Nat,k<=l.length/\(∀y∈l.take k,decide (x=y)=false)/\m=l.length - k/\e=[(8,.d (.v (.int .i64 k))),(7,.d (.v (.int .i64 l.length))),(4,.d (.v (.int .i64 0))),(3,.ptr 0 0),(0,.d (.sl 3 (l.map bE)))]/\h=[.box 100 ((bE x).map .d)]) _ _ _ ⟨0,XD _,by simp,rfl,rfl,rfl⟩ (wf) ?_;rintro m e h ⟨k,hk,cg,rfl,rfl,rfl⟩ CL oH;by_cases hlt:k < l.length
 ·obtain⟨y,hy⟩:∃y,l[k]? =some y:=⟨_,Xk hlt⟩;have ed:(k:Int) < (l.length:Int):=aa;have db:=wi k aa;have he:=zA x y;cases hp:decide (x=y)with
  |false=>exact a3L
  |true=>exact a4r
 ·exact a5d
theorem zD (l:List Rng)(x:Rng)(hl:l.length<=1000000000):
 ai prog 99 [.sl 3 (l.map bE),.agg (bE x)] (.v (.bool (l.any fun y=>decide (x=y)))):=by
 have hi:=Gx l x hl;have jY:=gq (fun y=>decide (x=y)) l;refine pj func99 ntmps99 results99 ?_;exact bc;all_goals exact aP.refl _
@[go_sem] def ke (b:Bok)(vp lp:PV)(c:Cmd)(a:Ans):List PV:=[.d (.v (.int .i64 b.tick)),.d (.sl 9 (b.pools.map an)),vp,lp,.d (.v (.int .i64 c.op)),.d (.v (.int .i64 c.a)),.d (.v (.int .i64 c.b)),.d (.v (.int .i64 c.c)),.d (.v (.int .i64 c.at_.at_)),.d (.v (.int .i64 c.at_.len)),.d (.v (.int .i64 c.rule.min)),.d (.v (.int .i64 c.rule.max)),.d (.v (.int .i64 c.rule.usual)),.d (.v (.int .i64 c.rule.cool)),.d (.v (.int .i64 a.err)),.d (.v (.int .i64 a.at_.at_)),.d (.v (.int .i64 a.at_.len)),.d (.v (.int .i64 a.n))]
theorem Uo (v:Vpc)(c:Cmd):ai prog 96 [.agg (ax v),.ept (jE c)] (.v (.bool (v.id==c.c))):=by
 refine pj func96 ntmps96 results96 ?_;exact bc
theorem Up (v:Vpc)(c:Cmd)(hl:v.ranges.length<=1000000000):ai prog 98 [.agg (ax v),.ept (jE c)] (.v (.bool (v.ranges.any fun r=>decide ((⟨c.at_,c.a⟩:Rng)=r)))):=by
 have h:=zD v.ranges ⟨c.at_,c.a⟩ hl;generalize (v.ranges.any fun r=>decide ((⟨c.at_,c.a⟩:Rng)=r))=x at*;refine pj func98 ntmps98 results98 ?_;exact bc
def KS (vs:List Vpc)(r:Rng):Bool:=vs.any fun v=>v.ranges.any fun x=>decide (r=x)
def oz (b:Bok)(vs:List Vpc)(c:Cmd):Bok × Ans:=
 if c.op=1 then ((gu b c.a c.at_ c.rule).1,.er (gu b c.a c.at_ c.rule).2)
 else if c.op=2 then ((gx b c.a c.b c.c c.rule).1,⟨(gx b c.a c.b c.c c.rule).2.2,(gx b c.a c.b c.c c.rule).2.1,0⟩)
 else if c.op=3 then ((fO b c.a).1,.er (fO b c.a).2)
 else if c.op=4 then ((jU b c.a).1,.er (jU b c.a).2)
 else if c.op=5 then if ip vs c.c then (b,.er 6)else ((cS b c.a c.b c.c).1,⟨(cS b c.a c.b c.c).2.2,(cS b c.a c.b c.c).2.1,0⟩)
 else if c.op=6 then if KS vs ⟨c.at_,c.a⟩then (b,.er 9)else ((fN b c.a c.at_).1,.er (fN b c.a c.at_).2)
 else (b,.zero)
theorem WP (b:Bok)(vs:List Vpc)(lp:List Lnk)(c:Cmd)(hz:∀p∈b.pools,p.leases.length<=3518437208882)(h6:vs.length<=6)(h4:∀v∈vs,v.ranges.length<=1000000000):
 MSpec prog 51 [.ptr 0 0] [.box 128 (ke b (.own 1 vs.length) (.d (.sl 2 (lp.map cP))) c .zero),.row 88 3 vs.length (ab (vs.map ax))] (.d (.v (.bool (decide (1<=c.op/\c.op<=6)))))
  [.box 128 (ke (oz b vs c).1 (.own 1 vs.length) (.d (.sl 2 (lp.map cP))) c (oz b vs c).2),.row 88 3 vs.length (ab (vs.map ax))]:=by
 unfold oz;by_cases h1:c.op=1
 ·rw[aj h1,decide_eq_true aa];have hp:=WI b c.a c.at_ c.rule hz;generalize gu b c.a c.at_ c.rule=R at*;replace hz:=Xj hz;replace h4:=Xj h4;refine jN ag am func51 rfl ntmps51 results51 aJ ah (by simp[aq,au]) (by simp[aH,aR,aq,au,ke,bu,aC]) ?_;refine ap ?_;exact wf
 rw[af h1];by_cases h2:c.op=2
 ·rw[aj h2,decide_eq_true aa];have hp:=WK b c.a c.b c.c c.rule hz;generalize gx b c.a c.b c.c c.rule=R at*;clear h1;replace hz:=Xj hz;replace h4:=Xj h4;refine jN ag am func51 rfl ntmps51 results51 aJ ah (by simp[aq,au]) (by simp[aH,aR,aq,au,ke,bu,aC]) ?_;refine ap ?_;exact wf
 rw[af h2];by_cases h3:c.op=3
 ·rw[aj h3,decide_eq_true aa];have hp:=Uh b c.a hz;generalize fO b c.a=R at*;clear h1 h2;replace hz:=Xj hz;replace h4:=Xj h4;refine jN ag am func51 rfl ntmps51 results51 aJ ah (by simp[aq,au]) (by simp[aH,aR,aq,au,ke,bu,aC]) ?_;refine ap ?_;exact wf
 rw[af h3];by_cases h4':c.op=4
 ·rw[aj h4',decide_eq_true aa];have hp:=WO b c.a hz;generalize jU b c.a=R at*;clear h1 h2 h3;replace hz:=Xj hz;replace h4:=Xj h4;refine jN ag am func51 rfl ntmps51 results51 aJ ah (by simp[aq,au]) (by simp[aH,aR,aq,au,ke,bu,aC]) ?_;refine ap ?_;exact wf
 rw[af h4'];by_cases h5:c.op=5
 ·rw[aj h5,decide_eq_true aa];have pK:=zw jI (fun v=>v.id==c.c) vs 96 [.ept (jE c)] aa (fun v _=>Uo v c);have hp:=Qp b c.a c.b c.c hz;generalize cS b c.a c.b c.c=R at*;unfold ip;clear h1 h2 h3 h4';cases hb:vs.any fun v=>v.id==c.c
  ·rw[hb]at pK;replace hb:=Xj hb;simp only[jE,h5]at pK;replace hz:=Xj hz;replace h4:=Xj h4;refine jN ag am func51 rfl ntmps51 results51 aJ ah (by simp[aq,au]) (by simp[aH,aR,aq,au,ke,bu,aC]) ?_;refine ap ?_;exact wf
  ·rw[hb]at pK;replace hb:=Xj hb;simp only[jE,h5]at pK;clear hp;replace hz:=Xj hz;replace h4:=Xj h4;refine jN ag am func51 rfl ntmps51 results51 aJ ah (by simp[aq,au]) (by simp[aH,aR,aq,au,ke,bu,aC]) ?_;refine ap ?_;exact wf
 rw[af h5];by_cases h6':c.op=6
 ·rw[aj h6',decide_eq_true aa];have pK:=zw jI (fun v=>v.ranges.any fun r=>decide ((⟨c.at_,c.a⟩:Rng)=r)) vs 98 [.ept (jE c)] aa (fun v hv=>Up v c (h4 v hv));have hp:=Qq b c.a c.at_ hz;generalize fN b c.a c.at_=R at*;unfold KS;clear h1 h2 h3 h4' h5;cases hb:vs.any fun v=>v.ranges.any fun r=>decide ((⟨c.at_,c.a⟩:Rng)=r)
  ·rw[hb]at pK;replace hb:=Xj hb;simp only[jE,h6']at pK;replace hz:=Xj hz;replace h4:=Xj h4;refine jN ag am func51 rfl ntmps51 results51 aJ ah (by simp[aq,au]) (by simp[aH,aR,aq,au,ke,bu,aC]) ?_;refine ap ?_;exact wf
  ·rw[hb]at pK;replace hb:=Xj hb;simp only[jE,h6']at pK;clear hp;replace hz:=Xj hz;replace h4:=Xj h4;refine jN ag am func51 rfl ntmps51 results51 aJ ah (by simp[aq,au]) (by simp[aH,aR,aq,au,ke,bu,aC]) ?_;refine ap ?_;exact wf
 rw[af h6',decide_eq_false aa];have e1:(c.op==1)=false:=by simpa using h1
 have e2:(c.op==2)=false:=by simpa using h2
 have e3:(c.op==3)=false:=by simpa using h3
 have e4:(c.op==4)=false:=by simpa using h4'
 have e5:(c.op==5)=false:=by simpa using h5
 have e6:(c.op==6)=false:=by simpa using h6'
 clear h1 h2 h3 h4' h5 h6';replace hz:=Xj hz;replace h4:=Xj h4;refine jN ag am func51 rfl ntmps51 results51 aJ ah (by simp[aq,au]) (by simp[aH,aR,aq,au,ke,bu,aC]) ?_;refine ap ?_;exact wf
theorem zF {α:Type}(enc:α->List D)(l:List α)(hl:l.length<=1000000000):
 MSpec prog 88 [.d (.sl 2 (l.map enc))] [] (.own 0 1) [.row 91 2 1 (ab (l.map enc))]:=by
 cases l with
 |nil=>
  refine tH (pl:=[]) (ql:=[]) fun ao cap=>?_;cases ao with
  |none=>
   simp only[Yb];refine mj func88 ntmps88 results88 ?_;have z1z:=@_h.{0};refine ft ?_ ?_ ?_ ?_ ?_ ?_ ?_ ?_<;>first|(with_reducible exact True.intro)|intros
   refine jJ (h:=[]) (Xz _) 91 2 ?_;exact(gA 0 0 91 2 [] rfl (bn rfl rfl))
  |some a=>
   simp only[Yb];refine mj func88 ntmps88 results88 ?_;have z1z:=@Zv.{0};refine ft ?_ ?_ ?_ ?_ ?_ ?_ ?_ ?_<;>first|(with_reducible exact True.intro)|intros
   exact bn rfl rfl
 |cons x l=>
  simp only[Xx]at hl;refine mj func88 ntmps88 results88 ?_;have z1z:=@Zv.{0};refine ft ?_ ?_ ?_ ?_ ?_ ?_ ?_ ?_<;>first|(with_reducible exact True.intro)|intros
  all_goals first|omega|exact bn rfl rfl
theorem rc (n:Net)(h:cN n≠0):
 MSpec prog 173 [.d (.agg (cQ n))] [] (.tup [.ptr 1 0,.d (.v (.int .i64 (cN n)))]) [.gone,.box 34 [.d (.v (.slice none 0 0)),.d (.v (.slice none 0 0))]]:=by
 have hc:=zd n;have h1:(cN n !=0)=true:=by simpa using h
 refine mj func173 ntmps173 results173 ?_;refine ap ?_<;>intros;exact(aL 0 ah).trans (bn rfl rfl)
theorem t9 (n:Net)(h:cN n=0):
 MSpec prog 173 [.d (.agg (cQ n))] [] (.tup [.ptr 2 0,.d (.v (.int .i64 0))]) [.gone,.row 91 2 1 (ab (n.links.map cP)),.box 34 [.own 3 n.vpcs.length,.own 1 1],.row 88 3 n.vpcs.length (ab (n.vpcs.map ax))]:=by
 have hc:=zd n;rw[h]at hc;have bJ:=iq.1 h;have n6:=bJ.n6;have hvp:=Xj bJ.vp;have a2U:=zF cP n.links (by have:=bJ.n12;omega);clear bJ;replace h:=Xj h;refine mj func173 ntmps173 results173 ?_;have z1z:=Ln.mk (ls:=[]) (a2U);refine ap ?_<;>intros;refine bf ag am n.vpcs (fun _=>True) (fun k=>[(29,.d (.v (.int .i64 k))),(28,.d (.v (.int .i64 n.vpcs.length))),(27,.d (.sl 3 (n.vpcs.map ax))),(5,.ptr 2 0)])
  (fun k=>[.gone,.row 91 2 1 (ab (n.links.map cP)),.box 34 [.own 3 k,.own 1 1],.row 88 3 k (ab ((n.vpcs.take k).map ax))]) trivial ?_ ?_ ?_
 ·refine(aL 0 ah).trans ((ay ah 2 34 [.d (.v (.slice none 0 0)),.own 1 1] 0 88 3 rfl rfl rfl).trans ?_);exact wf (hb:=cK) (hbh:=cK)
 ·intro k v hv hk _ CN hCN;have eo:(k:Int) < (n.vpcs.length:Int):=aa;have db:=wi k aa;have Ax:k+1<=100:=aa;have hlv:(Yf k n.vpcs).length=k:=by rw[Xp];omega
  have rD:=aY (hvp.out v (Xl hv));have h6:=rD.n6;have h8:=Xj rD.n8;have a2V:=kX bE v.ranges (by have:=rD.n4;omega);clear rD;replace hv:=Xj hv;have ry:=hv.out;have z1z:=Ln.mk (ls:=[]) (a2V);refine ap ?_<;>intros;refine bf ag am v.subs (fun _=>True) (fun j=>[(42,.d (.v (.int .i64 j))),(41,.d (.v (.int .i64 v.subs.length))),(40,.d (.sl 4 (v.subs.map aX))),(8,.ptr 6 0),(29,.d (.v (.int .i64 k))),(28,.d (.v (.int .i64 n.vpcs.length))),(27,.d (.sl 3 (n.vpcs.map ax))),(5,.ptr 2 0)])
   (fun j=>[.gone,.row 91 2 1 (ab (n.links.map cP)),.box 34 [.own 3 k,.own 1 1],.row 88 3 k (ab ((n.vpcs.take k).map ax)),.gone,.row 100 3 1 (ab (v.ranges.map bE)),.box 88 [.d (.v (.int .i64 v.id)),.own 5 1,.own 7 j],.row 107 4 j (ab ((v.subs.take j).map aX))]) trivial ?_ ?_ ?_
  ·refine(aL 4 ah).trans ((ay ah 6 88 [.d (.v (.int .i64 v.id)),.own 5 1,.d (.v (.slice none 0 0))] 2 107 4 rfl rfl rfl).trans ?_);exact wf (hb:=cK) (hbh:=cK)
  ·intro j s hs hj _ CO we;have lz:(j:Int) < (v.subs.length:Int):=aa;have nI:=wi j aa;have jF:=h8.out s (Xl hs);have j7:j+1<=100:=aa;have li:(Yf j v.subs).length=j:=by rw[Xp];omega
   replace hs:=Xj hs;have mQ:=hs.out;refine ap ?_<;>intros;refine bf ag am s.faces (fun _=>True) (fun i=>[(54,.d (.v (.int .i64 i))),(53,.d (.v (.int .i64 s.faces.length))),(52,.d (.sl 2 (s.faces.map cl))),(11,.ptr 9 0),(42,.d (.v (.int .i64 j))),(41,.d (.v (.int .i64 v.subs.length))),(40,.d (.sl 4 (v.subs.map aX))),(8,.ptr 6 0),(29,.d (.v (.int .i64 k))),(28,.d (.v (.int .i64 n.vpcs.length))),(27,.d (.sl 3 (n.vpcs.map ax))),(5,.ptr 2 0)])
    (fun i=>[.gone,.row 91 2 1 (ab (n.links.map cP)),.box 34 [.own 3 k,.own 1 1],.row 88 3 k (ab ((n.vpcs.take k).map ax)),.gone,.row 100 3 1 (ab (v.ranges.map bE)),.box 88 [.d (.v (.int .i64 v.id)),.own 5 1,.own 7 j],.row 107 4 j (ab ((v.subs.take j).map aX)),.gone,.box 107 [.d (.v (.int .i64 s.id)),.d (.v (.int .i64 s.at_.at_)),.d (.v (.int .i64 s.at_.len)),.own 10 i],.row 110 2 i (ab ((s.faces.take i).map cl))]) trivial ?_ ?_ ?_
   ·refine(aL 8 ah).trans ((ay ah 9 107 [.d (.v (.int .i64 s.id)),.d (.v (.int .i64 s.at_.at_)),.d (.v (.int .i64 s.at_.len)),.d (.v (.slice none 0 0))] 3 110 2 rfl rfl rfl).trans ?_);exact wf (hb:=cK) (hbh:=cK)
   ·intro i f hf hi _ C hC;have V5:(i:Int) < (s.faces.length:Int):=aa;have Da:=wi i aa;have gX:=jF.2 f (Xl hf);have iO:i+1<=100:=aa;have hli:(Yf i s.faces).length=i:=by rw[Xp];omega
    replace hf:=Xj hf;have Dd:=hf.out;have z1z:=Ln.mk (ls:=[]) (fQ f.addrs aa);refine ap ?_<;>intros;refine hC _ _ trivial ((av 12 1 3 1 (f.addrs.map cF) rfl).trans ?_);simp only[jq,fz,ij,gM,iS,gI,aT,bW,ce,Xm,Xr,XL,XK,reduceIte,and_true,true_and,and_self,and_false,false_and,XE,XT,reduceCtorEq];exact wf (hh:=(by rw[ak hf.out,Xo,Xm,Xr,<-aI];rfl)) (hb:=cK) (hbh:=cK)
   ·intro _ C;refine ap ?_<;>intros;refine we _ _ trivial ((av 10 s.faces.length 110 2 (s.faces.map cl) rfl).trans ?_);simp only[jq,fz,ij,gM,iS,gI,aT,bW,ce,Xm,Xr,XL,XK,reduceIte,and_true,true_and,and_self,and_false,false_and,XE,XT,reduceCtorEq];exact wf (hh:=(by rw[ak hs.out,Xo,Xm,Xr,<-aI];rfl)) (hb:=cK) (hbh:=cK)
  ·intro _ C;refine ap ?_<;>intros;refine hCN _ _ trivial ((av 7 v.subs.length 107 4 (v.subs.map aX) rfl).trans ?_);simp only[jq,fz,ij,gM,iS,gI,aT,bW,ce,Xm,Xr,XL,XK,reduceIte,and_true,true_and,and_self,and_false,false_and,XE,XT,reduceCtorEq];refine(av 5 1 100 3 (v.ranges.map bE) rfl).trans ?_;simp only[jq,fz,ij,gM,iS,gI,aT,bW,ce,Xm,Xr,XL,XK,reduceIte,and_true,true_and,and_self,and_false,false_and,XE,XT,reduceCtorEq];exact wf (hh:=(by rw[ak hv.out,Xo,Xm,Xr,<-aI];rfl)) (hb:=cK) (hbh:=cK)
 ·intro _ C;refine ap ?_<;>intros;exact bn rfl rfl
theorem WQ (s:Ste)(hb:BookOK s.book)(hn:NetOK s.net):
 MSpec prog 50 [.d (.agg (eR s))] [] (.agg [.d (.v (.int .i64 s.book.tick)),.d (.sl 9 (s.book.pools.map an)),.own 5 s.net.vpcs.length,.d (.sl 2 (s.net.links.map cP))]) [.gone,.gone,.gone,.gone,.gone,.row 88 3 s.net.vpcs.length (ab (s.net.vpcs.map ax))]:=by
 have n8:=hb.n8;have pI:=Xj hb.l32;have n6:=hn.n6;have hvp:=Xj hn.vp;have z1:=Ln.mk (ls:=[]) (zF cP s.net.links (by have:=hn.n12;omega));clear hb hn;refine mj func50 ntmps50 results50 ?_;refine ap ?_;refine bf ag am s.book.pools (fun _=>True) (fun k=>[(28,.d (.v (.int .i64 k))),(27,.d (.v (.int .i64 s.book.pools.length))),(26,.d (.sl 9 (s.book.pools.map an))),(3,.ptr 3 0),(2,.ptr 1 0),(1,.ptr 0 0)])
  (fun k=>[.box 36 ((eR s).map .d),.box 36 [.d (.v (.int .i64 0)),.d (.v (.slice none 0 0)),.d (.v (.slice none 0 0)),.d (.v (.slice none 0 0))],.row 91 2 1 (ab (s.net.links.map cP)),.box 36 [.d (.v (.int .i64 s.book.tick)),.own 4 k,.d (.v (.slice none 0 0)),.own 2 1],.row 83 9 k (ab ((s.book.pools.take k).map an))]) trivial ?_ ?_ ?_
 ·refine(ay ah 3 36 [.d (.v (.int .i64 s.book.tick)),.d (.v (.slice none 0 0)),.d (.v (.slice none 0 0)),.own 2 1] 1 83 9 rfl rfl rfl).trans ?_;exact wf
 ·intro k p hp hk _ C hC;have eo:(k:Int) < (s.book.pools.length:Int):=aa;have db:=wi k aa;have jC:=pI.out p (Xl hp);have j7:k+1<=100:=aa;have hlt:(Yf k s.book.pools).length=k:=by rw[Xp];omega
  have z2:=Ln.mk (ls:=[]) (js bt p.leases aa);refine ap ?_;refine hC _ _ trivial ((av 6 1 96 5 (p.leases.map bt) rfl).trans ?_);simp only[jq,fz,ij,gM,iS,gI,aT,bW,ce,Xm,Xr,XL,XK,reduceIte,and_true,true_and,and_self,and_false,false_and,XE,XT,reduceCtorEq];exact wf (hh:=by rw[ak hp,Xo,Xm,Xr,<-aI];rfl)
 ·intro _ C;rw[Xq];refine ap ?_;refine bf ag am s.net.vpcs (fun _=>True) (fun k=>[(49,.d (.v (.int .i64 k))),(48,.d (.v (.int .i64 s.net.vpcs.length))),(47,.d (.sl 3 (s.net.vpcs.map ax))),(3,.ptr 3 0),(2,.ptr 1 0),(1,.ptr 0 0)])
   (fun k=>[.gone,.box 36 [.d (.v (.int .i64 0)),.d (.v (.slice none 0 0)),.d (.v (.slice none 0 0)),.d (.v (.slice none 0 0))],.gone,.box 36 [.d (.v (.int .i64 s.book.tick)),.d (.sl 9 (s.book.pools.map an)),.own 5 k,.d (.sl 2 (s.net.links.map cP))],.gone,.row 88 3 k (ab ((s.net.vpcs.take k).map ax))]) trivial ?_ ?_ ?_
  ·refine(av 4 s.book.pools.length 83 9 (s.book.pools.map an) rfl).trans ?_;simp only[jq,fz,ij,gM,iS,gI,aT,bW,ce,Xm,Xr,XL,XK,reduceIte,and_true,true_and,and_self,and_false,false_and,XE,XT,reduceCtorEq];refine(av 2 1 91 2 (s.net.links.map cP) rfl).trans ?_;simp only[jq,fz,ij,gM,iS,gI,aT,bW,ce,Xm,Xr,XL,XK,reduceIte,and_true,true_and,and_self,and_false,false_and,XE,XT,reduceCtorEq];refine(ay ah 3 36 [.d (.v (.int .i64 s.book.tick)),.d (.sl 9 (s.book.pools.map an)),.d (.v (.slice none 0 0)),.d (.sl 2 (s.net.links.map cP))] 2 88 3 rfl rfl rfl).trans ?_;refine eS.trans (aL 0 (by simp[bD])) ?_;exact wf
  ·intro k v hv hk _ C hC;have eo:(k:Int) < (s.net.vpcs.length:Int):=aa;have db:=wi k aa;have Ax:k+1<=100:=aa;have hlv:(Yf k s.net.vpcs).length=k:=by rw[Xp];omega
   have rD:=aY (hvp.out v (Xl hv));have h6:=rD.n6;have h8:=Xj rD.n8;have z3:=Ln.mk (ls:=[]) (kX bE v.ranges (by have:=rD.n4;omega));clear rD;refine ap ?_;refine bf ag am v.subs (fun _=>True) (fun j=>[(62,.d (.v (.int .i64 j))),(61,.d (.v (.int .i64 v.subs.length))),(60,.d (.sl 4 (v.subs.map aX))),(8,.ptr 8 0),(49,.d (.v (.int .i64 k))),(48,.d (.v (.int .i64 s.net.vpcs.length))),(47,.d (.sl 3 (s.net.vpcs.map ax))),(3,.ptr 3 0),(2,.ptr 1 0),(1,.ptr 0 0)])
    (fun j=>[.gone,.box 36 [.d (.v (.int .i64 0)),.d (.v (.slice none 0 0)),.d (.v (.slice none 0 0)),.d (.v (.slice none 0 0))],.gone,.box 36 [.d (.v (.int .i64 s.book.tick)),.d (.sl 9 (s.book.pools.map an)),.own 5 k,.d (.sl 2 (s.net.links.map cP))],.gone,.row 88 3 k (ab ((s.net.vpcs.take k).map ax)),.gone,.row 100 3 1 (ab (v.ranges.map bE)),.box 88 [.d (.v (.int .i64 v.id)),.own 7 1,.own 9 j],.row 107 4 j (ab ((v.subs.take j).map aX))]) trivial ?_ ?_ ?_
   ·refine(aL 6 ah).trans ((ay ah 8 88 [.d (.v (.int .i64 v.id)),.own 7 1,.d (.v (.slice none 0 0))] 2 107 4 rfl rfl rfl).trans ?_);exact wf
   ·intro j u hu hj _ C2 j6;have lz:(j:Int) < (v.subs.length:Int):=aa;have nI:=wi j aa;have jF:=h8.out u (Xl hu);have j7:j+1<=100:=aa;have li:(Yf j v.subs).length=j:=by rw[Xp];omega
    have AQ:=Xj hu;have Od:=Xj hv;clear hv;refine ap ?_;refine bf ag am u.faces (fun _=>True) (fun i=>(74,.d (.v (.int .i64 i)))::(73,.d (.v (.int .i64 u.faces.length)))::(72,.d (.sl 2 (u.faces.map cl)))::(11,.ptr 11 0)::[(62,.d (.v (.int .i64 j))),(61,.d (.v (.int .i64 v.subs.length))),(60,.d (.sl 4 (v.subs.map aX))),(8,.ptr 8 0),(49,.d (.v (.int .i64 k))),(48,.d (.v (.int .i64 s.net.vpcs.length))),(47,.d (.sl 3 (s.net.vpcs.map ax))),(3,.ptr 3 0),(2,.ptr 1 0),(1,.ptr 0 0)])
     (fun i=>[.gone,.box 36 [.d (.v (.int .i64 0)),.d (.v (.slice none 0 0)),.d (.v (.slice none 0 0)),.d (.v (.slice none 0 0))],.gone,.box 36 [.d (.v (.int .i64 s.book.tick)),.d (.sl 9 (s.book.pools.map an)),.own 5 k,.d (.sl 2 (s.net.links.map cP))],.gone,.row 88 3 k (ab ((s.net.vpcs.take k).map ax)),.gone,.row 100 3 1 (ab (v.ranges.map bE)),.box 88 [.d (.v (.int .i64 v.id)),.own 7 1,.own 9 j],.row 107 4 j (ab ((v.subs.take j).map aX)),.gone,.box 107 [.d (.v (.int .i64 u.id)),.d (.v (.int .i64 u.at_.at_)),.d (.v (.int .i64 u.at_.len)),.own 12 i],.row 110 2 i (ab ((u.faces.take i).map cl))]) trivial ?_ ?_ ?_
    ·refine(aL 10 ah).trans ((ay ah 11 107 [.d (.v (.int .i64 u.id)),.d (.v (.int .i64 u.at_.at_)),.d (.v (.int .i64 u.at_.len)),.d (.v (.slice none 0 0))] 3 110 2 rfl rfl rfl).trans ?_);exact wf
    ·intro i f hf hi _ C3 S1;have V5:(i:Int) < (u.faces.length:Int):=aa;have Da:=wi i aa;have gX:=jF.2 f (Xl hf);have iO:i+1<=100:=aa;have hli:(Yf i u.faces).length=i:=by rw[Xp];omega
     have z4:=Ln.mk (ls:=[]) (fQ f.addrs aa);refine ap ?_;refine S1 _ _ trivial ((av 14 1 3 1 (f.addrs.map cF) rfl).trans ?_);simp only[jq,fz,ij,gM,iS,gI,aT,bW,ce,Xm,Xr,XL,XK,reduceIte,and_true,true_and,and_self,and_false,false_and,XE,XT,reduceCtorEq];exact wf (hh:=by rw[ak hf,Xo,Xm,Xr,<-aI];rfl)
    ·intro _ C3;rw[Xq];refine ap ?_;refine j6 _ _ trivial ((av 12 u.faces.length 110 2 (u.faces.map cl) rfl).trans ?_);simp only[jq,fz,ij,gM,iS,gI,aT,bW,ce,Xm,Xr,XL,XK,reduceIte,and_true,true_and,and_self,and_false,false_and,XE,XT,reduceCtorEq];exact wf (hh:=by rw[ak AQ.out,Xo,Xm,Xr,<-aI];rfl)
   ·intro _ C2;rw[Xq];refine ap ?_;refine hC _ _ trivial ((av 9 v.subs.length 107 4 (v.subs.map aX) rfl).trans ?_);simp only[jq,fz,ij,gM,iS,gI,aT,bW,ce,Xm,Xr,XL,XK,reduceIte,and_true,true_and,and_self,and_false,false_and,XE,XT,reduceCtorEq];refine(av 7 1 100 3 (v.ranges.map bE) rfl).trans ?_;simp only[jq,fz,ij,gM,iS,gI,aT,bW,ce,Xm,Xr,XL,XK,reduceIte,and_true,true_and,and_self,and_false,false_and,XE,XT,reduceCtorEq];exact wf (hh:=by rw[ak hv,Xo,Xm,Xr,<-aI];rfl)
  ·intro _ C;rw[Xq];refine ap ?_;refine eS.trans (aL 1 (by simp[bD])) ?_;refine eS.trans (aL 3 (by simp[bD])) ?_;exact wf
def Net.zero:Net:=⟨[],[]⟩
theorem sJ {l:List Vpc}{id:Int}{o:Option Vpc}(h:l.find? (fun v=>v.id==id)=o):match o with|some v=>∃i,l.findIdx? (fun v=>v.id==id)=some i/\l[i]? =some v/\v.id=id|none=>l.findIdx? (fun v=>v.id==id)=none:=by
 cases o with
 |none=>
  rw[Yr]at h;exact Yn.2 fun v hv=>by simpa using h v hv
 |some v=>
  obtain⟨h1,i,hi,h2,h3⟩:=Zk.1 h;refine⟨i,?_,by rw[Xk hi,h2],by simpa using h1⟩;rw[XI];exact⟨hi,by rw[h2];exact h1,fun j hj=>by simpa using h3 j hj⟩
def fl (n:Net)(id:Int):Option Nat:=n.vpcs.findIdx? fun v=>v.id==id
theorem eL {n:Net}{id:Int}{i:Nat}(h:fl n id=some i):∃v,n.vpcs[i]? =some v/\v.id=id/\i < n.vpcs.length/\fV n id=some v:=by
 cases hf:fV n id with
 |none=>have:=sJ hf;unfold fl at h;rw[h]at this;cases this
 |some v=>
  obtain⟨j,h1,h2,h3⟩:=sJ hf;unfold fl at h;rw[h]at h1;cases h1;exact⟨v,h2,h3,(Xn.1 h2).1,rfl⟩
theorem ek {n:Net}{id:Int}(h:fl n id=none):fV n id=none:=by
 cases hf:fV n id with
 |none=>rfl
 |some v=>
  obtain⟨j,h1,-⟩:=sJ hf;unfold fl at h;rw[h]at h1;cases h1
theorem WR {α:Type}{key:α->Int}{l:List α}{i:Nat}{q:α}(hs:l.Pairwise fun a b=>key a < key b)(hq:l[i]? =some q):j8 key (key q) l=i/\tM key (key q) l=true:=a3S
theorem ua (n:Net)(id:Int)(gv gl i:Nat)(v:Vpc)(hv:n.vpcs[i]? =some v)(he:v.id=id)(h6:n.vpcs.length<=6)(hs:n.vpcs.Pairwise fun a b=>a.id < b.id):
 MSpec prog 126 [.ptr 0 0,.d (.v (.int .i64 id))] [.box 34 [.own 1 gv,.own 2 gl],.row 88 3 gv (ab (n.vpcs.map ax)),.row 91 2 gl (ab (n.links.map cP))] (.tup [.rp 1 gv 3 i 0,.d (.v (.bool true))])
  [.box 34 [.own 1 gv,.own 2 gl],.row 88 3 gv (ab (n.vpcs.map ax)),.row 91 2 gl (ab (n.links.map cP))]:=by
 have hb:=tY jI (fun v:Vpc=>v.id) n.vpcs id 215 [] aa hs (fun v _=>xL v id);subst he;obtain⟨e1,e2⟩:=WR (key:=fun v:Vpc=>v.id) hs hv;rw[e1,e2]at hb;have hi:=(Xn.1 hv).1;have V5:(0:Int)<=(i:Int):=aa;clear hs e1 e2;replace hv:=Xj hv;refine mj func126 ntmps126 results126 ?_;refine ap ?_<;>intros;exact bn rfl rfl
theorem qp (n:Net)(id:Int)(gv gl:Nat)(hf:fV n id=none)(h6:n.vpcs.length<=6)(hs:n.vpcs.Pairwise fun a b=>a.id < b.id):
 MSpec prog 126 [.ptr 0 0,.d (.v (.int .i64 id))] [.box 34 [.own 1 gv,.own 2 gl],.row 88 3 gv (ab (n.vpcs.map ax)),.row 91 2 gl (ab (n.links.map cP))] (.d (.tup [.v (.pointer none),.v (.bool false)]))
  [.box 34 [.own 1 gv,.own 2 gl],.row 88 3 gv (ab (n.vpcs.map ax)),.row 91 2 gl (ab (n.links.map cP))]:=by
 have hb:=tY jI (fun v:Vpc=>v.id) n.vpcs id 215 [] aa hs (fun v _=>xL v id);have e2:tM (fun v:Vpc=>v.id) id n.vpcs=false:=by
  cases hB:tM (fun v:Vpc=>v.id) id n.vpcs with
  |false=>rfl
  |true=>
   unfold tM at hB;cases hq:n.vpcs[j8 (fun v:Vpc=>v.id) id n.vpcs]? with
   |none=>rw[hq]at hB;cases hB
   |some v=>
    have:=P0 hs hq (by rw[hq]at hB;simpa using hB);unfold fV at hf;rw[hf]at this;cases this
 rw[e2]at hb;clear hs e2 hf;refine mj func126 ntmps126 results126 ?_;refine ap ?_<;>intros;exact bn rfl rfl
theorem QD (id:Int):ai prog 126 [.ept [.v (.slice none 0 0),.v (.slice none 0 0)],.v (.int .i64 id)] (.tup [.v (.pointer none),.v (.bool false)]):=by
 have hb:=(tY jI (fun v:Vpc=>v.id) [] id 215 [] ah ah (fun v _=>xL v id)).args (ds:=[.v (.slice none 0 0),.v (.int .i64 id),.clo 215 []]) ⟨aP.nil _,aP.refl _,aP.refl _,trivial⟩;have e:tM (fun v:Vpc=>v.id) id []=false:=rfl;rw[e]at hb;refine pj func126 ntmps126 results126 ?_;exact bc
def qq (n:Net)(id:Int):List Int:=(n.vpcs.filter fun v=>bg n v.id==bg n id).map (·.id)
theorem zG (x y:Lnk):([x.a,x.b]==[y.a,y.b])=decide (x=y):=by
 rw[Yk];cases x;cases y;simp
theorem zH (l:List Lnk)(x:Lnk)(hl:l.length<=1000000000):
 ai prog 180 [.sl 2 (l.map cP),.agg (cP x)] (.v (.int .i64 (cv (fun y=>decide (x=y)) l))):=by
 refine pj func180 ntmps180 results180 ?_;refine ap ?_<;>intros;refine bQ ag am (fun m e h=>∃k:Nat,k<=l.length/\(∀y∈l.take k,decide (x=y)=false)/\m=l.length - k/\e=[(8,.d (.v (.int .i64 k))),(7,.d (.v (.int .i64 l.length))),(4,.d (.v (.int .i64 0))),(3,.ptr 0 0),(0,.d (.sl 2 (l.map cP)))]/\h=[.box 91 ((cP x).map .d)]) _ _ _ ⟨0,XD _,by simp,rfl,rfl,rfl⟩ (wf) ?_;rintro m e h ⟨k,hk,cg,rfl,rfl,rfl⟩ CL oH;by_cases hlt:k < l.length
 ·obtain⟨y,hy⟩:∃y,l[k]? =some y:=⟨_,Xk hlt⟩;have ed:(k:Int) < (l.length:Int):=aa;have db:=wi k aa;have he:=zG x y;cases hp:decide (x=y)with
  |false=>exact a3L
  |true=>exact a4r
 ·exact a5d
theorem Bg (l:List Lnk)(x:Lnk)(hl:l.length<=1000000000):
 ai prog 177 [.sl 2 (l.map cP),.agg (cP x)] (.v (.bool (l.any fun y=>decide (x=y)))):=by
 have hi:=zH l x hl;have jY:=gq (fun y=>decide (x=y)) l;refine pj func177 ntmps177 results177 ?_;exact bc;all_goals exact aP.refl _
theorem Gy {α:Type}{enc:α->List D}(l:List α)(i j g:Nat)(hi:i < l.length)(hj:j=i+1):
 MSpec prog 181 [.own 0 g,.d (.v (.int .i64 i)),.d (.v (.int .i64 j))] [.row 91 2 g (ab (l.map enc))] (.own 0 (g+1)) [.row 91 2 (g+1) (ab ((l.eraseIdx i).map enc))]:=by
 have h1:((i:Int)==(j:Int))=false:=aK;have bH:¬ab (l.map enc)=[]:=by cases l<;>simp[ab]at hi ⊢
 have hle:(i:Int)<=(j:Int):=aa;have hle2:(j:Int)<=(l.length:Int):=aa;have mO:(l.map enc).length=l.length:=XB _;have h2:=m9 (ab (l.map enc)) i j l.length (by rw[aG,mO];exact hi) hj (by rw[aG,mO]);rw[aG,mO]at h2;have uA:=Xj hj;clear hj;have Oz:j<=l.length:=by have:=uA.out;omega
 have HU:min (l.length - j) (l.length - j)=l.length - j:=Zr _;have hlt:i+(l.length - j)<=l.length:=by have:=uA.out;omega
 have rn:l.length - (i+(l.length - j))=1:=by have:=uA.out;omega
 have jV:i+(l.length - j)+1<=l.length:=by have:=uA.out;omega
 have HV:¬aB (ab (l.map enc)) i (((ab (l.map enc)).drop j).take (l.length - j))=[]:=a4L
 refine mj func181 ntmps181 results181 ?_;have z1z:=@Xp.{0};have z2z:=@XS.{0};refine ft ?_ ?_ ?_ ?_ ?_ ?_ ?_ ?_<;>first|(with_reducible exact True.intro)|intros
 rw[gB];exact p9 (by rw[mO];exact hi) uA.out mO.symm
theorem QE (a b:Int):ai prog 178 [.v (.int .i64 a),.v (.int .i64 b)] (.agg (cP (fY a b))):=by
 refine pj func178 ntmps178 results178 ?_;exact bc;all_goals exact aP.refl _
theorem a5h {p:Prop}(h:p:=by
 rw[Z7,SX.1];apply Yj;intro j;rw[L'];split
 ·rename_i hj;subst hj;rw[XB,aj hi,Xy,hv];rfl
 ·rfl):p:=h
def iJ (n:Net)(id:Int)(r:Rng):Net × Int:=
 if cN n≠0 then (Net.zero,cN n)else
 match fl n id with
 |none=>(Net.zero,5)
 |some i=>match n.vpcs[i]? with
  |none=>(Net.zero,5)
  |some v=>if (cJ v r).2≠0 then (Net.zero,(cJ v r).2)else if eT {n with vpcs:=n.vpcs.set i (cJ v r).1}=true then ({n with vpcs:=n.vpcs.set i (cJ v r).1},0)else (Net.zero,9)
theorem Gz {v:Vpc}{r:Rng}(h:(cJ v r).2=0):(cJ v r).1.id=v.id/\(cJ v r).1.ranges.length<=5:=by
 unfold cJ at h ⊢;split
 ·rename_i h1;rw[aj h1]at h;exact absurd h h1
 ·rename_i h1;rw[af h1]at h;have hk:=aY (by simpa using h1);split
  ·rename_i h2;rw[aj h2]at h;exact absurd h h2
  ·refine⟨rfl,?_⟩;simp only;rw[fL];have:=hk.n4;omega
theorem Uq (n:Net)(id:Int)(r:Rng):ai prog 106 [.agg (cQ n),.v (.int .i64 id),.agg (bE r)] (.tup [.agg (cQ (iJ n id r).1),.v (.int .i64 (iJ n id r).2)]):=by
 obtain⟨R,hR⟩:∃R,R=iJ n id r:=⟨_,rfl⟩;rw[<-hR];replace hR:=Xj hR;by_cases hc:cN n=0
 ·have bJ:=iq.1 hc;have cT:=t9 n hc;cases hx:fl n id with
  |none=>
   have iK:=qp n id n.vpcs.length 1 (ek hx) bJ.n6 bJ.rise;have hr:R=(Net.zero,5):=by rw[hR.out];unfold iJ;rw[af (by simpa using hc),hx]
   rw[hr];clear hr hR bJ hx hc;refine pj func106 ntmps106 results106 ?_;have z1z:=Ln.mk (ls:=[]) (cT);have z2z:=Ln.mk (ls:=[5,6,4]) (iK);refine ap ?_<;>intros;all_goals exact dg
  |some i=>
   obtain⟨v,hv,he,hi,wg⟩:=eL hx;have iK:=ua n id n.vpcs.length 1 i v hv he bJ.n6 bJ.rise;have hgp:=Un v r;replace he:=Xj he;have V5:(0:Int)<=(i:Int):=aa;by_cases hg:(cJ v r).2=0
   ·have SX:=Gz hg;have LD:=DS {n with vpcs:=n.vpcs.set i (cJ v r).1} (by have:=bJ.n6;simp;omega) (by have:=bJ.n12;simp;omega) (fun u hu=>by
     rcases Y9 hu with hu|rfl
     ·have:=(aY (bJ.vp u hu)).n4;omega
     ·have:=SX.2;omega) (by
     have e:(n.vpcs.set i (cJ v r).1).map (·.id)=n.vpcs.map (·.id):=a5h
     simp only[e];exact bJ.ids)
    have aQ:R=if eT {n with vpcs:=n.vpcs.set i (cJ v r).1}=true then ({n with vpcs:=n.vpcs.set i (cJ v r).1},0)else (Net.zero,9):=by
     rw[hR.out];unfold iJ;rw[af (by simpa using hc),hx];simp only[hv];rw[af (by simpa using hg)]
    rw[hg]at hgp;clear hR bJ hx hc SX hg wg;generalize (cJ v r).1=w at*;have bV:(ab (n.vpcs.map ax)).set i [.d (.v (.int .i64 w.id)),.d (.sl 3 (w.ranges.map bE)),.d (.sl 4 (w.subs.map aX))]=ab ((n.vpcs.set i w).map ax):=bU ax n.vpcs i w;cases hp:eT {n with vpcs:=n.vpcs.set i w} with
    |true=>
     rw[hp]at LD aQ;have hr:R=({n with vpcs:=n.vpcs.set i w},0):=by rw[aQ];rfl
     rw[hr];clear hr aQ hp;refine pj func106 ntmps106 results106 ?_;have z1z:=Ln.mk (ls:=[]) (cT);have z2z:=Ln.mk (ls:=[5,6,4]) (iK);exact bc;all_goals exact dg
    |false=>
     rw[hp]at LD aQ;have hr:R=(Net.zero,9):=by rw[aQ];rfl
     rw[hr];clear hr aQ hp;refine pj func106 ntmps106 results106 ?_;have z1z:=Ln.mk (ls:=[]) (cT);have z2z:=Ln.mk (ls:=[5,6,4]) (iK);refine ap ?_<;>intros;all_goals exact dg
   ·have hr:R=(Net.zero,(cJ v r).2):=by
     rw[hR.out];unfold iJ;rw[af (by simpa using hc),hx];simp only[hv];rw[aj hg]
    have SS:((cJ v r).2 !=0)=true:=by simpa using hg
    rw[hr];clear hr hR bJ hx hc hg wg;generalize (cJ v r).1=w at*;generalize (cJ v r).2=E at*;refine pj func106 ntmps106 results106 ?_;have z1z:=Ln.mk (ls:=[]) (cT);have z2z:=Ln.mk (ls:=[5,6,4]) (iK);refine ap ?_<;>intros;all_goals exact dg
 ·have cT:=rc n hc;have h1:(cN n !=0)=true:=by simpa using hc
  have hr:R=(Net.zero,cN n):=by rw[hR.out];unfold iJ;rw[aj hc]
  rw[hr];replace hr:=Xj hr;refine pj func106 ntmps106 results106 ?_;have z1z:=Ln.mk (ls:=[]) (cT);refine ap ?_<;>intros;all_goals exact dg
def jv (n:Net)(a b:Int):Net × Int:=
 if cN n≠0 then (Net.zero,cN n)else
 match n.links.findIdx? (fun l=>decide (fY a b=l))with
 |none=>(Net.zero,5)
 |some i=>({n with links:=n.links.eraseIdx i},0)
theorem Ur (n:Net)(a b:Int):ai prog 104 [.agg (cQ n),.v (.int .i64 a),.v (.int .i64 b)] (.tup [.agg (cQ (jv n a b).1),.v (.int .i64 (jv n a b).2)]):=by
 obtain⟨R,hR⟩:∃R,R=jv n a b:=⟨_,rfl⟩;rw[<-hR];replace hR:=Xj hR;by_cases hc:cN n=0
 ·have bJ:=iq.1 hc;have cT:=t9 n hc;have li:=QE a b;have rX:=zH n.links (fY a b) (by have:=bJ.n12;omega);unfold cv at rX;cases hf:n.links.findIdx? (fun l=>decide (fY a b=l))with
  |none=>
   rw[hf]at rX;have hr:R=(Net.zero,5):=by rw[hR.out];unfold jv;rw[af (by simpa using hc),hf]
   rw[hr];clear hr hR hf hc bJ;generalize fY a b=LK at*;refine pj func104 ntmps104 results104 ?_;have z1z:=Ln.mk (ls:=[]) (cT);refine ap ?_<;>intros;all_goals exact dg
  |some i=>
   rw[hf]at rX;have hi:i < n.links.length:=(XI.1 hf).1;have mZ:decide ((i:Int) < 0)=false:=ah;have hd:=Gy (enc:=cP) n.links i (i+1) 1 hi rfl;have db:IntKind.i64.wrap ((i:Int)+1)=((i+1:Nat):Int):=by rw[IntKind.wrap_i64];have:=bJ.n12;omega
   have hr:R=({n with links:=n.links.eraseIdx i},0):=by rw[hR.out];unfold jv;rw[af (by simpa using hc),hf]
   rw[hr];clear hr hR hf hc bJ;generalize fY a b=LK at*;refine pj func104 ntmps104 results104 ?_;have z1z:=Ln.mk (ls:=[]) (cT);have z2z:=Ln.mk (ls:=[3]) (hd);exact bc;all_goals exact dg
 ·have cT:=rc n hc;have h1:(cN n !=0)=true:=by simpa using hc
  have hr:R=(Net.zero,cN n):=by rw[hR.out];unfold jv;rw[aj hc]
  rw[hr];replace hr:=Xj hr;refine pj func104 ntmps104 results104 ?_;have z1z:=Ln.mk (ls:=[]) (cT);refine ap ?_<;>intros;all_goals exact dg
section
open Go.Proofs Go.Shelf
theorem WS (x y:SRow Qy 3)(W:World):Calls prog 175 #[.agg x.xs.toArray,.agg y.xs.toArray] W fun e w'=>e= .returned (.int .i64 (H0 x y))/\∃q os',w'=Sort.grow (W.drewN q) os':=by
 obtain⟨xs,xl,x1,a,xh⟩:=x;obtain⟨ys,yl,y1,b,yh⟩:=y;match xs,xl,ys,yl with
 |[u0,u1,u2],_,[v0,v1,v2],_=>
  simp[Qy]at xh yh;subst xh;subst yh;have hc:=ju a b;unfold H0;simp only;generalize eQ a b=r at*;replace hc:=Xj hc;clear x1 y1;go_enter func175,ntmps175
  go_wp2_with fail
  refine(hc.out _).mono ?_;rintro e w1 ⟨rfl,rfl⟩;go_wp2_with fail
  go_ret
  exact⟨b9 rfl,0,_,by rw[Sort.alloc_eq_grow,Sort.alloc_eq_grow,Sort.grow_grow];rfl⟩
theorem QF {l l':List Vpc}(g:Nat)(rC:l≠[])(hp:l'.Perm l)(hs:l'.Pairwise fun x y=>(fun v:Vpc=>v.id) x < (fun v:Vpc=>v.id) y)(cL:l.length<=1000000):
 MSpec prog 174 [.own 0 g,.d (.clo 175 [])] [.row 88 3 g (ab (l.map ax))] (.d (.tup [])) [.row 88 3 g (ab (l'.map ax))]:=
 xN sortVpc rfl (bY func174 aJ rfl) isAgg88 sizeOf88 (enters_of func175 aJ rfl) WS ax (fun v:Vpc=>v.id) (fun _=>rfl) rC hp hs cL
end
theorem a5D {p:Prop}(h:p:=by
 subst lf;exact hy.wpOp hi hw fun w' hw'=>⟨hw',H.world (EG.trans hw hw')⟩):p:=h
structure GwB where
 n:Nat
 os:Array Obj
def EG (w w':World):Prop:=∃p:GwB,w'=Sort.grow (w.drewN p.n) p.os
theorem EG.refl (w:World):EG w w:=⟨⟨0,#[]⟩,by rw[Sort.grow_empty];rfl⟩
theorem EG.trans {w w' w'':World}(h:EG w w')(g:EG w' w''):EG w w'':=by
 obtain⟨⟨n,os⟩,rfl⟩:=h;obtain⟨⟨m,os'⟩,rfl⟩:=g;exact⟨⟨n+m,os++os'⟩,by show Sort.grow (Sort.grow ((w.drewN n).drewN m) os) os'=_;rw[Sort.grow_grow,World.drewN_drewN]⟩
theorem EG.drew (w:World):EG w w.drew:=⟨⟨1,#[]⟩,by rw[Sort.grow_empty];rfl⟩
theorem EG.alloc (w:World)(o:Obj):EG w (w.alloc o):=⟨⟨0,#[o]⟩,Sort.alloc_eq_grow w o⟩
theorem EG.ext {w w':World}(h:EG w w'):cM w w':=by
 obtain⟨⟨n,os⟩,rfl⟩:=h;exact⟨rfl,rfl,rfl,by simp[Sort.grow],fun k hk=>by simp[Sort.grow,Array.getElem?_append,hk]⟩
def QG (W:World)(R:Value->Prop)(e:Ending)(w':World):Prop:=(∃u,e= .returned u/\R u)/\EG W w'
def Us (P:Program)(W w:World)(R:Value->Prop):Result Next->Prop
 | .ok (.value u) w'=>w'=w/\R u
 | .ok .skip w'=>w'=w/\R undef
 | .ok (.enter f args) w'=>w'=w/\Calls P f args w (QG W R)
 |_=>False
attribute [go_sem] Us
section
variable {P:Program}{W:World}
theorem Jd {w:World}{v:Value}{r:Result Next}(h:∀R:Value->Prop,R v->Us P W w R r):Oper.quietUpon P (EG W) w v r:=by
 have h1:=h (·=v) rfl;unfold Us at h1;unfold Oper.quietUpon;split at h1
 ·exact h1
 ·exact⟨h1.1,h1.2.symm⟩
 ·exact a5t
 ·exact h1.elim
end
section
variable {P:Program}{ops:Array Oper}{Q:Exit->Act->World->Prop}
def SP (P:Program)(ops:Array Oper)(Q:Exit->Act->World->Prop):Nat->Array Bool->Act->World->Prop
 |0,listed,a,W=>Region.ready .any ops listed=[]/\∀w,EG W w->Q .normal a w
 |fuel+1,listed,a,W=>∀w,EG W w->(Region.ready .any ops listed=[]->Q .normal a w)/\
  ∀i∈Region.ready .any ops listed,wpOp P ops Q i (fun a' w'=>EG w w'/\SP P ops Q fuel (listed.setIfInBounds i true) a' w') a w
theorem SP.world:∀{fuel:Nat}{listed:Array Bool}{a:Act}{W W':World},EG W W'->SP P ops Q fuel listed a W->SP P ops Q fuel listed a W'
 |0,_,_,_,_,hx,h=>⟨h.1,fun w hw=>h.2 w (EG.trans hx hw)⟩
 |_+1,_,_,_,_,hx,h=>fun w hw=>h w (EG.trans hx hw)
theorem SP.any:∀{fuel:Nat}{listed:Array Bool}{a:Act}{W:World},SP P ops Q fuel listed a W->wpAny P .any ops Q fuel listed a W
 |0,_,_,_,h=>⟨h.1,h.2 _ (EG.refl _)⟩
 |_+1,_,_,W,h=>⟨(h W (EG.refl _)).1,fun i hi=>wpOp_mono (fun _ _ h'=>SP.any h'.2) ((h W (EG.refl _)).2 i hi)⟩
def H1 (P:Program)(ops:Array Oper)(W:World)(o:Oper)(v:Value)(a:Act):Prop:=
 (Region.wanted o (yielded ops a.tmps)=true/\∀w,EG W w->o.quietAt P a (EG w) w v)\/
 (Region.wanted o (yielded ops a.tmps)=false/\v=undef)
theorem H1.world {W W':World}{o:Oper}{v:Value}{a:Act}(hx:EG W W')(h:H1 P ops W o v a):H1 P ops W' o v a:=
 h.imp (fun⟨h1,h2⟩=>⟨h1,fun w hw=>h2 w (EG.trans hx hw)⟩) id
theorem H1.of_same {W:World}{o:Oper}{v:Value}{a a':Act}(hy:H1 P ops W o v a)(he:execOp a'.eval o=execOp a.eval o)
 (hw:Region.wanted o (yielded ops a'.tmps)=Region.wanted o (yielded ops a.tmps)):H1 P ops W o v a':=by
 unfold H1 Oper.quietAt at*;rw[he,hw];exact hy
theorem H1.wpOp {W:World}{i:Nat}{o:Oper}{v:Value}{a:Act}(hi:ops[i]? =some o)(hy:H1 P ops W o v a){K:Act->World->Prop}{w:World}(hw:EG W w)(h:∀w',EG w w'->K (a.put o.dst v) w'):wpOp P ops Q i K a w:=by
 unfold Go.wpOp;simp only[hi];rcases hy with⟨Ey,hv⟩|⟨Ey,rfl⟩
 ·simp only[Ey,if_true];left;exact Oper.wp_of_quiet (C:=EG w) (K:=fun a'=>a'=a.put o.dst v) (EG.refl _) (fun a' w' hw' ha=>ha ▸ h w' hw') ⟨v,fun w'' hw''=>by
   have:=hv w'' (EG.trans hw hw'');unfold Oper.quietAt at*;generalize (execOp a.eval o).run P w''=r at*;cases r with
   |ok n u=>cases n<;>simp only[Oper.quietUpon]at this ⊢<;>first|exact this|exact⟨this.1,this.2.mono fun _ _ ⟨e1,e2⟩=>⟨e1,EG.trans hw'' e2⟩⟩
   |halt x u=>simp only[Oper.quietUpon]at this,rfl⟩
 ·simp only[Ey,YB,if_false];exact h w (EG.refl _)
theorem Je {W:World}{j:Nat}{oi oj:Oper}{v:Value}(hj:ops[j]? =some oj)(LC:oi.apart ops oj=true)
 (H5:∀cs b,oi.op≠ .select cs b) (VZ:∀cs b,oj.op≠ .select cs b)
 (hQ:∀c a w,Q (.panic c) (a.put oi.dst v) w->Q (.panic c) a w) {K:Act->World->Prop}{a:Act}{w:World}
 (hy:H1 P ops W oi v a) (h:wpOp P ops Q j K (a.put oi.dst v) w):
 wpOp P ops Q j (fun a' w'=>H1 P ops W oi v a'/\K (a'.put oi.dst v) w') a w:=by
 obtain⟨h1,h2,h3⟩:=Oper.apart_spec LC;have keep:∀(a:Act),H1 P ops W oi v a->∀u,H1 P ops W oi v (a.put oj.dst u):=fun a hy u=>
  hy.of_same (execOp_put oi H5 a oj.dst u h3) (wanted_put oi a oj.dst u h3)
 have keepD:∀d,H1 P ops W oi v {a with defers:=d::a.defers}:=fun d=>hy.of_same rfl rfl;unfold wpOp at*;simp only[hj]at*;rw[wanted_put oj a oi.dst v h1]at h;split
 ·exact LE
 ·exact a4e
theorem No {i:Nat}{oi:Oper}{v:Value}(hi:ops[i]? =some oi)(HL:∀(j:Nat) (o:Oper) cs b,ops[j]? =some o->o.op≠ .select cs b)
 (hQ:∀c a w,Q (.panic c) (a.put oi.dst v) w->Q (.panic c) a w):
 ∀(fuel:Nat) (listed:Array Bool) (a:Act) (W:World),
  (∀j oj,ops[j]? =some oj->j≠i->listed.getD j true=false->(∀e∈oj.after,Region.binds .any e=true->e.on≠i)->oi.apart ops oj=true)->
  i∈Region.ready .any ops listed->H1 P ops W oi v a->
  SP P ops Q fuel (listed.setIfInBounds i true) (a.put oi.dst v) W->SP P ops Q (fuel+1) listed a W:=by
 intro fuel;induction fuel with
 |zero=>
  intro listed a W _ hr hy H w hw;refine⟨fun h=>(by rw[h]at hr;cases hr),fun j hj=>?_⟩;by_cases lf:j=i
  ·exact a5D
  ·exact a5p
 |succ fuel ih=>
  intro listed a W w8 hr hy H w hw;refine⟨fun h=>(by rw[h]at hr;cases hr),fun j hj=>?_⟩;by_cases lf:j=i
  ·exact a5D
  ·have h1:=(H w hw).2 j (ready_mono hj lf);obtain⟨HM,oj,Sb,bo⟩:=mem_ready.1 hj;have Sc:∀e∈oj.after,Region.binds .any e=true->e.on≠i:=fun e he hb heq=>by
    have h1:=bo e he hb;have h0:=(mem_ready.1 hr).1;rw[heq]at h1;rcases XM i listed.size with h'|h'
    ·exact a5R
    ·simp[Yo h']at h1
   have h2:=Je Sb (w8 j oj Sb lf HM Sc) (fun cs b=>HL i oi cs b hi) (fun cs b=>HL j oj cs b Sb) hQ (hy.world hw) h1;have AE:∀k ok,ops[k]? =some ok->k≠i->(listed.setIfInBounds j true).getD k true=false->
    (∀e∈ok.after,Region.binds .any e=true->e.on≠i)->oi.apart ops ok=true:=fun k ok hk Sd V0 cg=>by
    refine w8 k ok hk Sd ?_ cg;by_cases Ez:j=k
    ·subst Ez;exact HM
    ·exact a5S
   refine wpOp_mono (fun a' w' h3=>⟨h3.2.1,ih (listed.setIfInBounds j true) a' w' AE (ready_mono hr (Ne.symm lf)) (h3.1.world h3.2.1) ?_⟩) h2;rw[Array.setIfInBounds_comm _ _ lf];exact h3.2.2
def o8 (P:Program)(ops:Array Oper)(Q:Exit->Act->World->Prop):List Oper->Nat->Array Bool->Act->World->Prop
 |[],_,_,a,W=>∀w,EG W w->Q .normal a w
 |o::rest,k,listed,a,W=>
  (∃v,H1 P ops W o v a/\o8 P ops Q rest (k+1) (listed.setIfInBounds k true) (a.put o.dst v) W)\/
  (Region.ready .any ops listed=[k]/\Region.wanted o (yielded ops a.tmps)=true/\∀w,EG W w->o.wp P a w (fun a' w'=>EG w w'/\o8 P ops Q rest (k+1) (listed.setIfInBounds k true) a' w') Q)
theorem sK (hs:Region.noSelect ops=true)(hQ:∀c a d v w,Q (.panic c) (a.put d v) w->Q (.panic c) a w):∀(l:List Oper) (k:Nat) (listed:Array Bool) (a:Act) (W:World),(∀j,l[j]? =ops[k+j]?)->
 Region.lexFrom .any ops l.length k listed=true->o8 P ops Q l k listed a W->SP P ops Q l.length listed a W
 |[],_,_,_,_,_,hB,h=>⟨by simpa[Region.lexFrom]using hB,h⟩
 |o::l,k,listed,a,W,hl,hB,h=>by
  have h0:ops[k]? =some o:=by simpa using (hl 0).symm
  simp only[Xx,Region.lexFrom,Xt]at hB;obtain⟨⟨hr,hf⟩,hB'⟩:=hB;have hl':∀j,l[j]? =ops[k+1+j]? :=fun j=>by have:=hl (j+1);simpa[Zh,Nat.add_comm 1 j]using this
  rcases h with⟨v,hy,hK⟩|⟨dL,Ey,hK⟩
  ·exact No h0 (Region.noSelect_spec hs) (fun c a w=>hQ c a _ _ w) l.length listed a W (Region.free_spec h0 hf) (by simpa using hr) hy (sK hs hQ l (k+1) _ _ _ hl' hB' hK)
  ·intro w hw;refine⟨fun h=>by rw[dL]at h;simp at h,fun i hi=>?_⟩;rw[dL]at hi;obtain rfl:i=k:=by simpa using hi
   unfold wpOp;simp only[h0,Ey,if_true];left;exact Oper.wp_mono (fun a' w' h'=>⟨h'.1,sK hs hQ l (i+1) _ _ _ hl' hB' h'.2⟩) (hK w hw)
theorem GC {id:Nat}{a:Act}{w:World}{l:List Oper}(hm:P.follows .mixedOrders=true)(hB:Region.lexB .any l.toArray=true)(hQ:∀c a d v w,Q (.panic c) (a.put d v) w->Q (.panic c) a w)
 (h:o8 P l.toArray Q l 0 (Za l.length false) a w):(Code.region id l.toArray true).wp P Q a w:=by
 simp only[Region.lexB,Xt]at hB;refine wp_region_any hm ?_;have h2:=sK hB.1 hQ l 0 (Za l.length false) a w ah (by simpa using hB.2) h;have h3:=(h2.world (EG.drew w:EG w w.drew)).any;simpa using h3
section
variable {o:Oper}{rest:List Oper}{k:Nat}{listed:Array Bool}{a:Act}{W:World}
theorem QH (h:∀w,EG W w->Q .normal a w):o8 P ops Q [] k listed a W:=h
theorem CD {v:Value}(hw:Region.wanted o (yielded ops a.tmps)=true)(h:∀w,EG W w->∀R:Value->Prop,R v->Us P w w R ((execOp a.eval o).run P w))
 (hn:o8 P ops Q rest (k+1) (listed.setIfInBounds k true) (a.put o.dst v) W):o8 P ops Q (o::rest) k listed a W:=
 .inl ⟨v,.inl ⟨hw,fun w hw=>Jd (h w hw)⟩,hn⟩
theorem zI (hr:Region.ready .any ops listed=[k])(hw:Region.wanted o (yielded ops a.tmps)=true)
 (h:∀w,EG W w->∀K:Act->World->Prop,(∀a' w',EG w w'->o8 P ops Q rest (k+1) (listed.setIfInBounds k true) a' w'->K a' w')->o.wp P a w K Q):o8 P ops Q (o::rest) k listed a W:=
 .inr ⟨hr,hw,fun w hw=>h w hw _ fun _ _ h1 h2=>⟨h1,h2⟩⟩
end
theorem wM {f:FuncId}{args:Array Value}{w:World}{R:Value->Prop}{v:Value}(h:Calls P f args w fun e w'=>e= .returned v/\w=w')(hR:R v):Calls P f args w (QG w R):=
 h.mono fun _ _ ⟨he,hx⟩=>⟨⟨v,he,hR⟩,hx ▸ EG.refl _⟩
end
section
open Go.Proofs Go.Shelf
def gj (l:Lnk):Int:=l.a*65537+l.b
def HP2 (xs:List Value)(k:Int):Prop:=∃a b:Int,xs=[.int .i64 a,.int .i64 b]/\k=a*65537+b/\1<=b/\b<=65536
@[reducible] def Np:Inhabited (SRow HP2 (1+1)):=⟨⟨[.int .i64 0,.int .i64 1],rfl,fun v hv=>by simp at hv;rcases hv with rfl|rfl<;>rfl,1,0,1,rfl,by omega,by omega,by omega⟩⟩
theorem GD {a b c d:Int}(h1:1<=b)(h2:b<=65536)(h3:1<=d)(h4:d<=65536):Gh [eQ a c,eQ b d]=eQ (a*65537+b) (c*65537+d):=by
 simp only[Gh,eQ];repeat' split
 all_goals omega
theorem Ut (x y:Int)(b:Nat)(W:World)(hx:W.cell? ⟨b,0,none⟩=some (.int .i64 x))(hy:W.cell? ⟨b,1,none⟩=some (.int .i64 y)):
 Calls prog 216 #[.slice (some ⟨b,0,none⟩) 2 2] W fun e w'=>e= .returned (.int .i64 (Gh [x,y]))/\w'=W:=by
 have lb:=cW hx;go_enter func216,ntmps216
 go_wp2_with fail
 go_loopw [5,8] (fun _ s8 wr=>∃k:Nat,s8= .int .i64 k/\((k=0)\/(k=1/\x=0)\/(k=2/\x=0/\y=0))/\wr=W) (fun _ s8 _=>2 - (intOf s8).toNat)
 case atStart=>exact⟨0,rfl,.inl rfl,rfl⟩
 case round=>
  obtain⟨k,rfl,hk,rfl⟩:=hrel;rcases hk with rfl|⟨rfl,h0⟩|⟨rfl,h0,h1⟩
  ·by_cases h0:x=0
   ·have hb:(x !=0)=false:=by simp[h0]
    replace h0:=Xj h0;go_wp2_with fail
    go_roundw
    case rel=>exact⟨1,by go_num,.inr (.inl ⟨rfl,h0.out⟩),trivial⟩
    case measure=>simp[intOf]
   ·have hb:(x !=0)=true:=by simpa using h0
    replace h0:=Xj h0;go_wp2_with fail
    go_ret
    exact⟨b9 (by simp[Gh,h0.out]),rfl⟩
  ·by_cases h1:y=0
   ·have hb:(y !=0)=false:=by simp[h1]
    replace h0:=Xj h0;replace h1:=Xj h1;go_wp2_with fail
    go_roundw
    case rel=>exact⟨2,by go_num,.inr (.inr ⟨rfl,h0.out,h1.out⟩),trivial⟩
    case measure=>simp[intOf]
   ·have hb:(y !=0)=true:=by simpa using h1
    replace h0:=Xj h0;replace h1:=Xj h1;go_wp2_with fail
    go_ret
    exact⟨b9 (by simp[Gh,h0.out,h1.out]),rfl⟩
  ·replace h0:=Xj h0;replace h1:=Xj h1;go_wp2_with fail
   go_ret
   exact⟨b9 (by simp[Gh,h0.out,h1.out]),rfl⟩
theorem Uu (x y:SRow HP2 (1+1))(W:World):Calls prog 127 #[.agg x.xs.toArray,.agg y.xs.toArray] W fun e w'=>e= .returned (.int .i64 (H0 x y))/\∃q os',w'=Sort.grow (W.drewN q) os':=by
 obtain⟨xs,xl,x1,kx,a,b,rfl,rfl,j7,iO⟩:=x;obtain⟨ys,yl,y1,ky,c,d,rfl,rfl,Vg,C7⟩:=y;unfold H0;simp only;rw[<-GD j7 iO Vg C7];have h1:∀W,Calls prog 176 #[.int .i64 a,.int .i64 c] W fun e w'=>e= .returned (.int .i64 (eQ a c))/\W=w':=fun W=>(ju a c W).mono fun _ _ ⟨e1,e2⟩=>⟨e1,e2.symm⟩;have h2:∀W,Calls prog 176 #[.int .i64 b,.int .i64 d] W fun e w'=>e= .returned (.int .i64 (eQ b d))/\W=w':=fun W=>(ju b d W).mono fun _ _ ⟨e1,e2⟩=>⟨e1,e2.symm⟩;generalize eQ a c=A at*;generalize eQ b d=B at*;clear x1 y1 xl yl j7 iO Vg C7;have key:Calls prog 127 #[.agg #[.int .i64 a,.int .i64 b],.agg #[.int .i64 c,.int .i64 d]] W fun e w'=>e= .returned (.int .i64 (Gh [A,B]))/\EG W w':=by
  have VO:EG W ((W.alloc (.cells #[.int .i64 a,.int .i64 b] 91)).alloc (.cells #[.int .i64 c,.int .i64 d] 91)):=(EG.alloc W _).trans (EG.alloc _ _);go_enter func127,ntmps127
  go_wp2_with fail
  refine GC aJ aJ (fun _ _ d _ _ h=>by cases d<;>exact h) ?_;repeat(apply CD;(first|exact dG rfl|exact ei rfl rfl rfl cG);intro wq iP R hR;(have iP:=iP.ext;(have mX:=(aV iP).1;(try simp only[Xs,ae,Xw,Xu]at mX));go_simp;first|exact hR|(go_at_call 176;with_reducible (first|exact wM (h1 _) hR|exact wM (h2 _) hR)));simp only[Act.put,XO,XQ,XZ])
  refine zI aJ (dG rfl) (fun w3 rl K2 hK=>?_);go_simp
  refine hK _ _ (EG.alloc _ _) ?_;clear hK K2;refine zI aJ (dG rfl) (fun w4 ED K3 hK=>?_);have JV:w4.cell? ⟨w3.heap.size,0,none⟩=some (.int .i64 A):=aU ED.ext ah;have Vi:w4.cell? ⟨w3.heap.size,1,none⟩=some (.int .i64 B):=aU ED.ext ah;go_simp
  go_at_call 216
  refine(Ut A B _ w4 JV Vi).mono ?_;rintro e w5 ⟨rfl,rfl⟩;go_simp
  refine hK _ _ (EG.refl _) ?_;clear hK K3;apply CD
  ·exact dG rfl
  ·intro wq iP R hR;go_simp
   exact hR
  simp only[Act.put,XO,XQ,XZ];refine QH ?_;intro w6 hw6;go_wp2_with fail
  go_ret
  exact⟨b9 rfl,VO.trans (rl.trans ((EG.alloc _ _).trans (ED.trans hw6)))⟩
 refine key.mono fun e w' ⟨he,⟨⟨q,os⟩,hw⟩⟩=>⟨he,q,os,hw⟩
theorem Nq {l l':List Lnk}(g:Nat)(hb:∀x∈l,1<=x.b/\x.b<=65536)(rC:l≠[])(hp:l'.Perm l)(hs:l'.Pairwise fun x y=>gj x < gj y)(cL:l.length<=1000000):
 MSpec prog 179 [.own 0 g,.d (.clo 127 [])] [.row 91 2 g (ab (l.map cP))] (.d (.tup [])) [.row 91 2 g (ab (l'.map cP))]:=
 KR Np sortLink rfl (bY func179 aJ rfl) isAgg91 sizeOf91 (enters_of func127 aJ rfl) Uu cP gj (fun x hx vs hl hr=>by
  match vs,hl with
  |[u,v],_=>
   obtain⟨M,w,r0⟩:=hr 0 _ u rfl rfl;obtain⟨M2,w2,r1⟩:=hr 1 _ v rfl rfl;cases r0;cases r1;exact⟨x.a,x.b,rfl,rfl,hb x hx⟩) rC hp hs cL
end
def je (n:Net)(id:Int):Int:=if cB id=false then 3 else if (fV n id).isSome=true then 6 else if n.vpcs.length=6 then 2 else 0
def jx (n:Net)(id:Int):Net × Int:=
 if cN n≠0 then (Net.zero,cN n)else if je n id≠0 then (Net.zero,je n id)else ({n with vpcs:=dv (·.id) ⟨id,[],[]⟩ n.vpcs},0)
theorem zJ {n:Net}{id:Int}(h:fV n id=none):∀v∈n.vpcs,v.id≠id:=fun v hv=>by
 have:=Yr.1 h v hv;simpa using this
theorem Uv (n:Net)(id:Int):ai prog 102 [.agg (cQ n),.v (.int .i64 id)] (.tup [.agg (cQ (jx n id).1),.v (.int .i64 (jx n id).2)]):=by
 obtain⟨R,hR⟩:∃R,R=jx n id:=⟨_,rfl⟩;rw[<-hR];replace hR:=Xj hR;by_cases hc:cN n=0
 ·have bJ:=iq.1 hc;have cT:=t9 n hc;have hl6:((n.vpcs.length:Int)==6)=decide (n.vpcs.length=6):=by rw[Yk];simp;omega
  cases hx:fl n id with
  |some i=>
   obtain⟨v,hv,he,hi,wg⟩:=eL hx;have iK:=ua n id n.vpcs.length 1 i v hv he bJ.n6 bJ.rise;have hr:R=(Net.zero,if cB id=false then 3 else 6):=by
    rw[hR.out];unfold jx je;rw[af (by simpa using hc),wg];cases cB id<;>simp
   rw[hr];have hid:cB id=(decide (1<=id)&&decide (id<=65536)):=rfl;rw[hid];clear hr hR bJ hx hc wg hv he hid;refine pj func102 ntmps102 results102 ?_;have z1z:=Ln.mk (ls:=[]) (cT);have z2z:=Ln.mk (ls:=[4,5,3]) (iK);refine ft ?_ ?_ ?_ ?_ ?_ ?_ ?_ ?_<;>first|(with_reducible exact True.intro)|intros
   all_goals first
    |(exfalso;grind)
    |(rw[aj lj];exact dg)
    |(rw[af lj];exact dg)
  |none=>
   have iK:=qp n id n.vpcs.length 1 (ek hx) bJ.n6 bJ.rise;have hn:=ek hx;by_cases bL:je n id≠0
   ·have hr:R=(Net.zero,je n id):=by rw[hR.out];unfold jx;rw[af (by simpa using hc),aj bL]
    have pL:je n id=if cB id=false then 3 else if n.vpcs.length=6 then 2 else 0:=by unfold je;rw[hn];rfl
    rw[hr];have hid:cB id=(decide (1<=id)&&decide (id<=65536)):=rfl;rw[pL]at bL ⊢;rw[hid]at bL ⊢;clear hr hR bJ hx hc hid hn pL;replace bL:=Xj bL;refine pj func102 ntmps102 results102 ?_;have z1z:=Ln.mk (ls:=[]) (cT);have z2z:=Lm.mk (Ln.mk (ls:=[4,5,3]) (iK));refine ft ?_ ?_ ?_ ?_ ?_ ?_ ?_ ?_<;>first|(with_reducible exact True.intro)|intros
    all_goals have iO:=bL.out
    all_goals clear bL iK cT
    all_goals first
     |(exfalso;grind)
     |(rw[aj lj];exact dg)
     |(rw[af lj,aj lj];exact dg)
   ·have hr:R=({n with vpcs:=dv (·.id) ⟨id,[],[]⟩ n.vpcs},0):=by rw[hR.out];unfold jx;rw[af (by simpa using hc),af bL]
    have hg:je n id=0:=by simpa using bL
    obtain⟨g1,g2⟩:cB id=true/\n.vpcs.length≠6:=by unfold je at hg;rw[hn]at hg;grind
    have g3:1<=id/\id<=65536:=by simpa[cB]using g1
    have h6:=bJ.n6;have pF:=QF (l:=n.vpcs++[⟨id,[],[]⟩]) (l':=dv (·.id) ⟨id,[],[]⟩ n.vpcs) (n.vpcs.length+1) ah (gF _ _ _) (im bJ.rise fun v hv=>zJ hn v hv) aK;have hl4:((n.vpcs.length:Int)==6)=false:=aK;have j7:n.vpcs.length+1<=100:=aa;have j0:decide (id < 1)=false:=aK;have lh:decide (id>65536)=false:=aK;simp only[Xo,Xm,Xr]at pF;have pF:=pF.leh (tN (A:=n.vpcs.map ax) (B:=[]) (r:=[.v (.int .i64 id),.v (.slice none 0 0),.v (.slice none 0 0)]) dg) (by have:=mc (enc:=ax) (fun _=>rfl) (n.vpcs++[⟨id,[],[]⟩]);simpa using this) (aC _ _);rw[hr];clear hr hR bJ hx hc hn bL hg g1 g2 g3 hl6;refine pj func102 ntmps102 results102 ?_;have z1z:=Ln.mk (ls:=[]) (cT);have z2z:=Ln.mk (ls:=[4,5,3]) (iK);have z3z:=Ln.mk (ls:=[5]) (pF);exact bc;all_goals exact dg
 ·have cT:=rc n hc;have hfz:=QD id;have h1:(cN n !=0)=true:=by simpa using hc
  have hr:R=(Net.zero,cN n):=by rw[hR.out];unfold jx;rw[aj hc]
  rw[hr];replace hr:=Xj hr;refine pj func102 ntmps102 results102 ?_;have z1z:=Ln.mk (ls:=[]) (cT);refine ap ?_<;>intros;all_goals exact dg
def ef (n:Net)(a b:Int):Int:=
 if a=b then 3 else if fV n a=none\/fV n b=none then 5 else if fY a b∈n.links then 6 else
 if eT {n with links:=dv gj (fY a b) n.links}=false then 9 else if n.links.length+1>12 then 2 else 0
def kf (n:Net)(a b:Int):Net × Int:=
 if cN n≠0 then (Net.zero,cN n)else if ef n a b≠0 then (Net.zero,ef n a b)else ({n with links:=dv gj (fY a b) n.links},0)
theorem NetOK.bd {n:Net}(h:NetOK n){x:Int}(hx:x∈n.vpcs.map (·.id)):1<=x/\x<=65536:=by
 obtain⟨v,hv,rfl⟩:=XN.1 hx;have:=(aY (h.vp v hv)).id;simpa[cB]using this
theorem QI {l m:Lnk}(h1:1<=l.b/\l.b<=65536)(h2:1<=m.b/\m.b<=65536):tX l m=eQ (gj l) (gj m):=GD h1.1 h1.2 h2.1 h2.2
theorem NetOK.lsort {n:Net}(h:NetOK n):n.links.Pairwise fun a b=>gj a < gj b:=by
 have hb:∀l∈n.links,1<=l.b/\l.b<=65536:=fun l hl=>h.bd (h.ids l hl).2;have:=(DT n.links).1 h.rk;have step:∀j (hj:j+1 < n.links.length),gj n.links[j] < gj n.links[j+1]:=fun j hj=>by
  have h1:=this j hj;rw[QI (hb _ (Ye _)) (hb _ (Ye _))]at h1;unfold eQ at h1;split at h1
  ·assumption
  ·split at h1<;>omega
 rw[XF];intro i j hi hj hij;obtain⟨d,rfl⟩:∃d,j=i+1+d:=⟨j - i - 1,by omega⟩;induction d with
 |zero=>exact step i hj
 |succ d ih=>
  have h1:=ih aa aa;have h2:=step (i+1+d) aa;exact Int.lt_trans h1 h2
theorem vD (a b:Int):(fY a b=⟨a,b⟩/\a<=b)\/(fY a b=⟨b,a⟩/\b<=a):=by
 unfold fY;rcases Int.lt_trichotomy a b with h|h|h
 ·left;rw[af aa,aj h];exact⟨rfl,by omega⟩
 ·subst h;left;simp
 ·right;rw[aj h,af aa];exact⟨rfl,by omega⟩
theorem GE {l m:Lnk}(h1:1<=l.b/\l.b<=65536)(h2:1<=m.b/\m.b<=65536)(h:gj l=gj m):l=m:=by
 unfold gj at h;cases l;cases m;simp only at*;simp only[Lnk.mk.injEq];omega
theorem Uw (n:Net)(a b:Int):ai prog 103 [.agg (cQ n),.v (.int .i64 a),.v (.int .i64 b)] (.tup [.agg (cQ (kf n a b).1),.v (.int .i64 (kf n a b).2)]):=by
 obtain⟨R,hR⟩:∃R,R=kf n a b:=⟨_,rfl⟩;rw[<-hR];replace hR:=Xj hR;by_cases hc:cN n=0
 ·have bJ:=iq.1 hc;have cT:=t9 n hc;have li:=QE a b;have uF:R=if ef n a b≠0 then (Net.zero,ef n a b)else ({n with links:=dv gj (fY a b) n.links},0):=by rw[hR.out];unfold kf;rw[af (by simpa using hc)]
  cases EJ:fl n a with
  |none=>
   have lA:=qp n a n.vpcs.length 1 (ek EJ) bJ.n6 bJ.rise;have hr:R=(Net.zero,if a=b then 3 else 5):=by
    rw[uF,show ef n a b=if a=b then 3 else 5 by unfold ef;rw[ek EJ];simp];split<;>simp
   have iA:(a==b)=decide (a=b):=rfl;rw[hr];cases po:fl n b with
   |none=>
    have lw:=qp n b n.vpcs.length 1 (ek po) bJ.n6 bJ.rise;clear hr hR uF bJ EJ po hc;refine pj func103 ntmps103 results103 ?_;have z1z:=Ln.mk (ls:=[]) (cT);have z2z:=Lm.mk (Ln.mk (ls:=[4,5,3]) (lA));have z3z:=Lo.mk (Ln.mk (ls:=[4,5,3]) (lw));refine ft ?_ ?_ ?_ ?_ ?_ ?_ ?_ ?_<;>first|(with_reducible exact True.intro)|intros
    all_goals first
     |(exfalso;grind)
     |(rw[aj lj];exact dg)
     |(rw[af lj];exact dg)
   |some j=>
    obtain⟨v,hv,he,hi,wg⟩:=eL po;have lw:=ua n b n.vpcs.length 1 j v hv he bJ.n6 bJ.rise;clear hr hR uF bJ EJ po hc hv he wg hi;refine pj func103 ntmps103 results103 ?_;have z1z:=Ln.mk (ls:=[]) (cT);have z2z:=Lm.mk (Ln.mk (ls:=[4,5,3]) (lA));have z3z:=Lo.mk (Ln.mk (ls:=[4,5,3]) (lw));refine ft ?_ ?_ ?_ ?_ ?_ ?_ ?_ ?_<;>first|(with_reducible exact True.intro)|intros
    all_goals first
     |(exfalso;grind)
     |(rw[aj lj];exact dg)
     |(rw[af lj];exact dg)
  |some i=>
   obtain⟨u,hu,Vs,Vt,xD⟩:=eL EJ;have lA:=ua n a n.vpcs.length 1 i u hu Vs bJ.n6 bJ.rise;cases po:fl n b with
   |none=>
    have lw:=qp n b n.vpcs.length 1 (ek po) bJ.n6 bJ.rise;have hr:R=(Net.zero,if a=b then 3 else 5):=by
     rw[uF,show ef n a b=if a=b then 3 else 5 by unfold ef;rw[ek po];simp];split<;>simp
    rw[hr];clear hr hR uF bJ EJ po hc hu Vs Vt xD;refine pj func103 ntmps103 results103 ?_;have z1z:=Ln.mk (ls:=[]) (cT);have z2z:=Lm.mk (Ln.mk (ls:=[4,5,3]) (lA));have z3z:=Lo.mk (Ln.mk (ls:=[4,5,3]) (lw));refine ft ?_ ?_ ?_ ?_ ?_ ?_ ?_ ?_<;>first|(with_reducible exact True.intro)|intros
    all_goals first
     |(exfalso;grind)
     |(rw[aj lj];exact dg)
     |(rw[af lj];exact dg)
   |some j=>
    obtain⟨v,hv,heb,hib,BA⟩:=eL po;have lw:=ua n b n.vpcs.length 1 j v hv heb bJ.n6 bJ.rise;by_cases iA:a=b
    ·have hr:R=(Net.zero,3):=by rw[uF,show ef n a b=3 by unfold ef;rw[aj iA]];rfl
     rw[hr];clear hr hR uF bJ EJ po hc hu Vs Vt xD hv heb hib BA;have a0B:(a==b)=true:=by simpa using iA
     replace iA:=Xj iA;refine pj func103 ntmps103 results103 ?_;have z1z:=Ln.mk (ls:=[]) (cT);have z2z:=Lm.mk (Ln.mk (ls:=[4,5,3]) (lA));have z3z:=Lo.mk (Ln.mk (ls:=[4,5,3]) (lw));refine ft ?_ ?_ ?_ ?_ ?_ ?_ ?_ ?_<;>first|(with_reducible exact True.intro)|intros
     all_goals exact dg
    ·have a0B:(a==b)=false:=by simpa using iA
     have wb:=Bg n.links (fY a b) (by have:=bJ.n12;omega);have jY:(n.links.any fun y=>decide (fY a b=y))=decide (fY a b∈n.links):=by
      rw[Yk,XU];simp
     rw[jY]at wb;have aQ:R=if fY a b∈n.links then (Net.zero,6)else if eT {n with links:=dv gj (fY a b) n.links}=false then (Net.zero,9)else if n.links.length+1>12 then (Net.zero,2)else ({n with links:=dv gj (fY a b) n.links},0):=by
      rw[uF];unfold ef;rw[af iA,xD,BA];simp only[reduceCtorEq,or_self,if_false];split
      ·rfl
      ·split
       ·rfl
       ·split<;>rfl
     by_cases d9:fY a b∈n.links
     ·have hr:R=(Net.zero,6):=by rw[aQ,aj d9]
      rw[hr];rw[decide_eq_true d9]at wb;clear hr hR uF aQ bJ EJ po hc hu Vs Vt xD hv heb hib BA jY d9;generalize fY a b=LK at*;replace iA:=Xj iA;refine pj func103 ntmps103 results103 ?_;have z1z:=Ln.mk (ls:=[]) (cT);have z2z:=Lm.mk (Ln.mk (ls:=[4,5,3]) (lA));have z3z:=Lo.mk (Ln.mk (ls:=[4,5,3]) (lw));refine ft ?_ ?_ ?_ ?_ ?_ ?_ ?_ ?_<;>first|(with_reducible exact True.intro)|intros
      all_goals exact dg
     ·rw[af d9]at aQ;rw[decide_eq_false d9]at wb;have hma:a∈n.vpcs.map (·.id):=fM (by rw[xD];rfl);have hmb:b∈n.vpcs.map (·.id):=fM (by rw[BA];rfl);have kh:∀l∈n.links,1<=l.b/\l.b<=65536:=fun l hl=>bJ.bd (bJ.ids l hl).2;have mO:(fY a b).a∈n.vpcs.map (·.id)/\(fY a b).b∈n.vpcs.map (·.id):=by
       rcases vD a b with⟨e,-⟩|⟨e,-⟩
       ·rw[e];exact⟨hma,hmb⟩
       ·rw[e];exact⟨hmb,hma⟩
      have HX:=bJ.bd mO.2;have pF:=Nq (l:=n.links++[fY a b]) (l':=dv gj (fY a b) n.links) 2 (fun l hl=>by
       rcases X0.1 hl with hl|hl
       ·exact kh l hl
       ·rw[X7.1 hl];exact HX) ah (gF _ _ _) (im bJ.lsort fun y hy e=>d9 (by rw[<-GE (kh y hy) HX e];exact hy)) (by have:=bJ.n12;simp;omega)
      have LD:=DS {n with links:=dv gj (fY a b) n.links} (by have:=bJ.n6;simp;omega) (by have:=bJ.n12;simp only[fL];omega) (fun v hv=>by have:=(aY (bJ.vp v hv)).n4;omega) (fun l hl=>by
       rcases og.1 hl with rfl|hl
       ·exact mO
       ·exact bJ.ids l hl)
      have Si:=bJ.n12;have j7:n.links.length+1<=100:=aa;have rV:(dv gj (fY a b) n.links).length=n.links.length+1:=fL _ _ _;have V7:((n.links.length+1:Nat):Int)>12↔n.links.length+1>12:=aa;simp only[Xo,Xm,Xr]at pF;clear hR uF bJ EJ po hc hu Vs Vt xD hv heb hib BA jY d9 hma hmb kh mO HX;generalize dv gj (fY a b) n.links=LS at*;generalize fY a b=LK at*;replace iA:=Xj iA;cases hp:eT {n with links:=LS} with
      |false=>
       have hr:R=(Net.zero,9):=by rw[aQ,aj hp]
       rw[hp]at LD;rw[hr];clear hr aQ hp V7;refine pj func103 ntmps103 results103 ?_;have z1z:=Ln.mk (ls:=[]) (cT);have z2z:=Lm.mk (Ln.mk (ls:=[4,5,3]) (lA));have z3z:=Lo.mk (Ln.mk (ls:=[4,5,3]) (lw));have z4z:=Lo.mk (Ln.mk (ls:=[3]) (pF));refine ft ?_ ?_ ?_ ?_ ?_ ?_ ?_ ?_<;>first|(with_reducible exact True.intro)|intros
       all_goals exact dg
      |true=>
       rw[hp]at LD;by_cases Bs:n.links.length+1>12
       ·have hr:R=(Net.zero,2):=by rw[aQ,af (by simp[hp]),aj Bs]
        have hbI:decide ((LS.length:Int)>12)=true:=by rw[rV];exact decide_eq_true (V7.2 Bs)
        rw[hr];clear hr aQ hp V7 Bs;replace rV:=Xj rV;refine pj func103 ntmps103 results103 ?_;have z1z:=Ln.mk (ls:=[]) (cT);have z2z:=Lm.mk (Ln.mk (ls:=[4,5,3]) (lA));have z3z:=Lo.mk (Ln.mk (ls:=[4,5,3]) (lw));have z4z:=Lo.mk (Ln.mk (ls:=[3]) (pF));refine ft ?_ ?_ ?_ ?_ ?_ ?_ ?_ ?_<;>first|(with_reducible exact True.intro)|intros
        all_goals exact dg
       ·have hr:R=({n with links:=LS},0):=by rw[aQ,af (by simp[hp]),af Bs]
        have hbI:decide ((LS.length:Int)>12)=false:=by rw[rV];exact decide_eq_false (fun h=>Bs (V7.1 h))
        rw[hr];clear hr aQ hp V7 Bs;replace rV:=Xj rV;refine pj func103 ntmps103 results103 ?_;have z1z:=Ln.mk (ls:=[]) (cT);have z2z:=Lm.mk (Ln.mk (ls:=[4,5,3]) (lA));have z3z:=Lo.mk (Ln.mk (ls:=[4,5,3]) (lw));have z4z:=Lo.mk (Ln.mk (ls:=[3]) (pF));refine ft ?_ ?_ ?_ ?_ ?_ ?_ ?_ ?_<;>first|(with_reducible exact True.intro)|intros
        all_goals exact dg
 ·have cT:=rc n hc;have h1:(cN n !=0)=true:=by simpa using hc
  have hr:R=(Net.zero,cN n):=by rw[hR.out];unfold kf;rw[aj hc]
  rw[hr];replace hr:=Xj hr;refine pj func103 ntmps103 results103 ?_;have z1z:=Ln.mk (ls:=[]) (cT);refine ap ?_<;>intros;all_goals exact dg
def wN (E:List (List Int × Int))(id:Int):Bool:=E.any fun kv=>kv.2==id
theorem WT (b:Bok)(n:Net)(c:Cmd)(id:Int)(h8:b.pools.length<=1000000000)(eG:∀p∈b.pools,p.leases.length<=1000000000):
 MSpec prog 101 [.ptr 0 0,.d (.v (.int .i64 id))] [.box 128 (ke b (.own 1 n.vpcs.length) (.d (.sl 2 (n.links.map cP))) c .zero),.row 88 3 n.vpcs.length (ab (n.vpcs.map ax))] (.d (.v (.bool (wN (xp b) id))))
  [.box 128 (ke b (.own 1 n.vpcs.length) (.d (.sl 2 (n.links.map cP))) c .zero),.row 88 3 n.vpcs.length (ab (n.vpcs.map ax))]:=by
 have hu:=Ln.mk (ls:=[]) (KD b h8 eG);obtain⟨R,hR⟩:∃R,R=wN (xp b) id:=⟨_,rfl⟩;rw[<-hR];replace hR:=Xj hR;clear h8 eG;generalize xp b=E at*;refine jN ag am func101 rfl ntmps101 results101 aJ ah (by simp[aq,au]) (by simp[aH,aR,aq,au,ke,bu,aC]) ?_;refine ap ?_;refine VE (fun m e h=>∃(seen:List Nat),(∀i∈seen,∀kv,E[i]? =some kv->kv.2≠id)/\m=Gk E.length seen/\e=[(13,.ptr 4 0),(1,.d (.v (.int .i64 id)))]/\h=[.box 128 (ke b (.own 1 n.vpcs.length) (.d (.sl 2 (n.links.map cP))) c .zero),.row 88 3 n.vpcs.length (ab (n.vpcs.map ax)),.gone,.gone,.it 3 true E seen]) _ _ _ ⟨[],by simp,rfl,rfl,rfl⟩ (wf (hbh:=by simp only[ke,aH,eJ,aR,aq,cE,au,bu,aC,Xx,XX,XL,Z8,decide_true,Yq,YA])) ?_;rintro m e h ⟨seen,cg,hm,rfl,rfl⟩ C2 j6;replace cg:=Xj cg;refine Ks ag am (by rfl) (FW (k:=4) (x:= .tmp 13) ag ah rfl rfl rfl rfl rfl rfl mR mR rfl rfl ah ?_ ?_)
 ·intro bo;have hr:R=false:=by
   rw[hR.out];unfold wN;rw[YD];intro h;obtain⟨kv,Ly,he⟩:=XU.1 h;obtain⟨i,hi,hie⟩:=Ya Ly;exact cg.out i (bo i hi) kv (by rw[Xk hi,hie]) (by simpa using he)
  rw[hr];clear bo hm hr;change sC _ _ _ _ _ _ _ _ _ _;refine ap ?_;exact wf
 ·intro i hi hns;obtain⟨kv,Ly⟩:∃kv,E[i]? =some kv:=⟨_,Xk hi⟩;have hgl:(seen++[i]).getLast? =some i:=ah;have xV:=KE hi hns;by_cases hid:kv.2=id
  ·have hr:R=true:=by
    rw[hR.out];unfold wN;exact XU.2 ⟨kv,Xl Ly,by simpa using hid⟩
   rw[hr];have e1:(kv.2==id)=true:=by simpa using hid
   replace hid:=Xj hid;clear hm xV hr;change sC _ _ _ _ _ _ _ _ _ _;refine ap ?_;exact wf
  ·have e1:(kv.2==id)=false:=by simpa using hid
   have C4:∀j∈seen++[i],∀kw,E[j]? =some kw->kw.2≠id:=fun j hj kw hkw=>by
    rcases X0.1 hj with h|h
    ·exact cg.out j h kw hkw
    ·simp at h;subst h;rw[Ly]at hkw;cases hkw;exact hid
   replace C4:=Xj C4;replace hid:=Xj hid;replace xV:=Xj xV;change sC _ _ _ _ _ _ _ _ _ _;refine ap ?_;exact j6 _ _ _ _ _ (by rw[hm];exact xV.out) ⟨_,C4.out,rfl,rfl,rfl⟩ (wf (hbh:=by simp only[ke,aH,eJ,aR,aq,cE,au,bu,aC,Xx,XX,XL,Z8,decide_true,Yq,YA]))
def CE (c:Cmd):Bool:=decide (c.op=7\/c.op=15\/c.op=16)
def Bh (b:Bok)(n:Net)(c:Cmd):Net × Ans:=
 if c.op=7 then if wN (xp b) c.a=true then (n,.er 6)else ((jx n c.a).1,.er (jx n c.a).2)
 else if c.op=15 then ((kf n c.a c.b).1,.er (kf n c.a c.b).2)
 else ((jv n c.a c.b).1,.er (jv n c.a c.b).2)
theorem WU (b:Bok)(n:Net)(c:Cmd)(h:CE c=false):
 MSpec prog 52 [.ptr 0 0] [.box 128 (ke b (.own 1 n.vpcs.length) (.d (.sl 2 (n.links.map cP))) c .zero),.row 88 3 n.vpcs.length (ab (n.vpcs.map ax))] (.d (.v (.bool false)))
  [.box 128 (ke b (.own 1 n.vpcs.length) (.d (.sl 2 (n.links.map cP))) c .zero),.row 88 3 n.vpcs.length (ab (n.vpcs.map ax))]:=by
 unfold CE at h;have h:=of_decide_eq_false h;have e1:(c.op==7)=false:=aK;have e2:(c.op==15)=false:=aK;have e3:(c.op==16)=false:=aK;clear h;refine jN ag am func52 rfl ntmps52 results52 aJ ah (by simp[aq,au]) (by simp[aH,aR,aq,au,ke,bu,aC]) ?_;refine ap ?_;exact wf
theorem WV (b:Bok)(n:Net)(c:Cmd)(h8:b.pools.length<=1000000000)(eG:∀p∈b.pools,p.leases.length<=1000000000)(h:CE c=true):
 MSpec prog 52 [.ptr 0 0] [.box 128 (ke b (.own 1 n.vpcs.length) (.d (.sl 2 (n.links.map cP))) c .zero),.row 88 3 n.vpcs.length (ab (n.vpcs.map ax))] (.d (.v (.bool true)))
  [.box 128 (ke b (.d (.sl 3 ((Bh b n c).1.vpcs.map ax))) (.d (.sl 2 ((Bh b n c).1.links.map cP))) c (Bh b n c).2),.gone]:=by
 have mP:c.op=7\/c.op=15\/c.op=16:=of_decide_eq_true h;clear h;unfold Bh;rcases mP with h1|h1|h1
 ·rw[aj h1];have ho:=Ln.mk (ls:=[0,1]) (WT b n c c.a h8 eG);replace eG:=Xj eG;cases hb:wN (xp b) c.a
  ·rw[hb]at ho;have hp:=Ln.mk (ls:=[1]) (vm (Uv n c.a) (args:=[.agg [.own 0 n.vpcs.length,.d (.sl 2 (n.links.map cP))],.d (.v (.int .i64 c.a))]) (h0:=[.row 88 3 n.vpcs.length (ab (n.vpcs.map ax))]) (by simp[aq,au]) (by simp[aH,aR,aC]) (by simp[vw,cI,bx,aD,eO,cQ]) (by simp[tc,j3,cY,aD,oO]));generalize jx n c.a=R at*;simp only[YB,if_false];simp only[ke,h1]at ho;replace hb:=Xj hb;refine jN ag am func52 rfl ntmps52 results52 aJ ah (by simp[aq,au]) (by simp[aH,aR,aq,au,ke,bu,aC]) ?_;refine ap ?_;exact wf
  ·rw[hb]at ho;simp only[if_true];simp only[ke,h1]at ho;replace hb:=Xj hb;refine jN ag am func52 rfl ntmps52 results52 aJ ah (by simp[aq,au]) (by simp[aH,aR,aq,au,ke,bu,aC]) ?_;refine ap ?_;refine(av 1 n.vpcs.length 88 3 (n.vpcs.map ax) rfl).trans ?_;simp only[jq,fz,ij,gM,iS,gI,aT,bW,ce,Xm,Xr,XL,XK,reduceIte,and_true,true_and,and_self,and_false,false_and,XE,XT,reduceCtorEq];exact wf
 ·rw[af aa,aj h1];have hp:=Ln.mk (ls:=[1]) (vm (Uw n c.a c.b) (args:=[.agg [.own 0 n.vpcs.length,.d (.sl 2 (n.links.map cP))],.d (.v (.int .i64 c.a)),.d (.v (.int .i64 c.b))]) (h0:=[.row 88 3 n.vpcs.length (ab (n.vpcs.map ax))]) (by simp[aq,au]) (by simp[aH,aR,aC]) (by simp[vw,cI,bx,aD,eO,cQ]) (by simp[tc,j3,cY,aD,oO]));generalize kf n c.a c.b=R at*;replace eG:=Xj eG;refine jN ag am func52 rfl ntmps52 results52 aJ ah (by simp[aq,au]) (by simp[aH,aR,aq,au,ke,bu,aC]) ?_;refine ap ?_;exact wf
 ·rw[af aa,af aa];have hp:=Ln.mk (ls:=[1]) (vm (Ur n c.a c.b) (args:=[.agg [.own 0 n.vpcs.length,.d (.sl 2 (n.links.map cP))],.d (.v (.int .i64 c.a)),.d (.v (.int .i64 c.b))]) (h0:=[.row 88 3 n.vpcs.length (ab (n.vpcs.map ax))]) (by simp[aq,au]) (by simp[aH,aR,aC]) (by simp[vw,cI,bx,aD,eO,cQ]) (by simp[tc,j3,cY,aD,oO]));generalize jv n c.a c.b=R at*;replace eG:=Xj eG;refine jN ag am func52 rfl ntmps52 results52 aJ ah (by simp[aq,au]) (by simp[aH,aR,aq,au,ke,bu,aC]) ?_;refine ap ?_;exact wf
theorem LT {p:Prop}(h:p:=by
 obtain⟨s,hq⟩:∃s,pre[k]? =some s:=⟨_,Xk nu⟩;have hs:v.subs[k]? =some s:=by rw[hL.out,X5 nu];exact hq
 have jF:=h8.out s (Xl hs);replace hs:=Xj hs;replace hq:=Xj hq;have mQ:=hs.out;refine ap ?_<;>intros;refine bf ag am s.faces (fun _=>True) (fun j=>[(40,.d (.v (.int .i64 j))),(39,.d (.v (.int .i64 s.faces.length))),(38,.d (.sl 2 (s.faces.map cl))),(28,.d (.v (.int .i64 k))),(27,.d (.v (.int .i64 v.subs.length))),(26,.d (.sl 4 (v.subs.map aX))),(8,.ptr 5 0),(5,.ptr 2 0)])
  (fun j=>[.gone,.row 100 3 1 (ab (v.ranges.map bE)),.box 88 [.d (.v (.int .i64 v.id)),.own 1 1,.own 3 k],.row 107 4 k (ab ((pre.take k).map aX)),.gone,.box 107 [.d (.v (.int .i64 s.id)),.d (.v (.int .i64 s.at_.at_)),.d (.v (.int .i64 s.at_.len)),.own 6 j],.row 110 2 j (ab ((s.faces.take j).map cl))]) trivial ?_ ?_ ?_
 ·refine(aL 4 ah).trans ((ay ah 5 107 [.d (.v (.int .i64 s.id)),.d (.v (.int .i64 s.at_.at_)),.d (.v (.int .i64 s.at_.len)),.d (.v (.slice none 0 0))] 3 110 2 rfl rfl rfl).trans ?_);exact wf (hb:=cK) (hbh:=cK)
 ·intro j f hf hj _ C hC;have lz:(j:Int) < (s.faces.length:Int):=aa;have nI:=wi j aa;have gX:=jF.2 f (Xl hf);have iO:j+1<=100:=aa;have ro:(Yf j s.faces).length=j:=by rw[Xp];omega
  replace hf:=Xj hf;have Dd:=hf.out;have z1z:=Ln.mk (ls:=[]) (fQ f.addrs aa);refine ap ?_<;>intros;refine hC _ _ trivial ((av 8 1 3 1 (f.addrs.map cF) rfl).trans ?_);simp only[jq,fz,ij,gM,iS,gI,aT,bW,ce,Xm,Xr,XL,XK,reduceIte,and_true,true_and,and_self,and_false,false_and,XE,XT,reduceCtorEq,dn];exact wf (hh:=(by rw[ak hf.out,Xo,Xm,Xr,<-aI];rfl)) (hb:=cK) (hbh:=cK)
 ·intro _ C;refine ap ?_<;>intros;refine we _ _ _ _ _ ?_ (.inl ⟨k+1,nu,rfl,rfl,rfl⟩) ((av 6 s.faces.length 110 2 (s.faces.map cl) rfl).trans ?_)
  ·have:=hm.out;have:=bN.out;omega
  simp only[jq,fz,ij,gM,iS,gI,aT,bW,ce,Xm,Xr,XL,XK,reduceIte,and_true,true_and,and_self,and_false,false_and,XE,XT,reduceCtorEq];exact wf (hh:=(by rw[ak hq.out,Xo,Xm,Xr,<-aI];rfl)) (hb:=cK) (hbh:=cK)):p:=h
theorem a3Q {p:Prop}(h:p:=by
 intro _ C;have a0C:(Yf k pre).length=k:=by rw[jV.out,Xq]
 refine ap ?_<;>intros;refine we _ _ _ _ _ ?_ (.inr ⟨k+1,0,by rw[jV.out],XD _,rfl,rfl,rfl⟩) ((aL 5 ah).trans ?_)
 ·have:=hm.out;have:=bN.out;have:=jV.out;omega
 exact wf (hh:=(by rw[jV.out,Xq];rfl)) (hb:=cK) (hbh:=cK)):p:=h
theorem a4C {p:Prop}(h:p:=by
 obtain rfl:q=post.length:=aa;obtain rfl:k=v.subs.length:=by have:=bN.out;omega
 clear EF;refine ap ?_<;>intros;(try rw[Xq])
 exact bn rfl rfl):p:=h
theorem zK (v:Vpc)(pre post:List Sbn)(s0:Sbn)(hv:v.subs=pre++s0::post)(h:bT v=0)(h4:v.ranges.length<=4)(h6:v.subs.length<=6)(h8:∀s∈v.subs,s.faces.length<=8/\∀f∈s.faces,f.addrs.length<=4):
 MSpec prog 184 [.d (.agg (ax v))] [] (.tup [.ptr 2 0,.d (.v (.int .i64 0))]) [.gone,.row 100 3 1 (ab (v.ranges.map bE)),.box 88 [.d (.v (.int .i64 v.id)),.own 1 1,.own 3 v.subs.length],.row 107 4 v.subs.length (fA aX pre (cy s0 (.own 6 s0.faces.length)) post),
  .gone,.gone,.row 110 2 s0.faces.length (ab (s0.faces.map cl))]:=by
 have hc:=qf v;rw[h]at hc;replace h:=Xj h;replace h8:=Xj h8;have bB:v.subs.length=pre.length+1+post.length:=by rw[hv];simp;omega
 have hL:=Xj hv;have bN:=Xj bB;clear hv bB;have gU:=kX bE v.ranges aa;refine mj func184 ntmps184 results184 ?_;have z1z:=Ln.mk (ls:=[]) (gU);refine ap ?_<;>intros;refine bQ ag am (fun m e h=>(∃k,k<=pre.length/\m=v.subs.length - k/\e=[(28,.d (.v (.int .i64 k))),(27,.d (.v (.int .i64 v.subs.length))),(26,.d (.sl 4 (v.subs.map aX))),(5,.ptr 2 0)]/\
  h=[.gone,.row 100 3 1 (ab (v.ranges.map bE)),.box 88 [.d (.v (.int .i64 v.id)),.own 1 1,.own 3 k],.row 107 4 k (ab ((pre.take k).map aX))])\/
  ∃k j,k=pre.length+1+j/\j<=post.length/\m=v.subs.length - k/\e=[(28,.d (.v (.int .i64 k))),(27,.d (.v (.int .i64 v.subs.length))),(26,.d (.sl 4 (v.subs.map aX))),(5,.ptr 2 0)]/\
   h=[.gone,.row 100 3 1 (ab (v.ranges.map bE)),.box 88 [.d (.v (.int .i64 v.id)),.own 1 1,.own 3 k],.row 107 4 k (fA aX pre (cy s0 (.own 6 s0.faces.length)) (post.take j)),.gone,.gone,.row 110 2 s0.faces.length (ab (s0.faces.map cl))]) _ _ _ (.inl ⟨0,XD _,rfl,rfl,rfl⟩) ?_ ?_
 ·exact a3P
 ·rintro m e h (⟨k,hk,hm,rfl,rfl⟩|⟨k,q,EF,hj,hm,rfl,rfl⟩) CO we
  ·have eo:(k:Int) < (v.subs.length:Int):=by have:=bN.out;omega
   have db:=wi k aa;have j7:k+1<=100:=by have:=bN.out;omega
   have li:(Yf k pre).length=k:=by rw[Xp];omega
   have hm:=Xj hm;by_cases nu:k < pre.length
   ·exact LT
   ·obtain rfl:k=pre.length:=aa;have hs:v.subs[pre.length]? =some s0:=by rw[hL.out,XH (Xz _),YF];rfl
    have jF:=h8.out s0 (Xl hs);replace hs:=Xj hs;have mQ:=hs.out;obtain⟨k,jV⟩:∃k,k=pre.length:=⟨_,rfl⟩;obtain⟨s,pG⟩:∃s,s=s0:=⟨_,rfl⟩;rw[<-pG]at jF mQ we ⊢;rw[<-jV]at mQ eo db j7 li we ⊢;rw[jV,Xq]at li;replace pG:=Xj pG;replace jV:=Xj jV;refine ap ?_<;>intros;refine bf ag am s.faces (fun _=>True) (fun j=>[(40,.d (.v (.int .i64 j))),(39,.d (.v (.int .i64 s.faces.length))),(38,.d (.sl 2 (s.faces.map cl))),(28,.d (.v (.int .i64 k))),(27,.d (.v (.int .i64 v.subs.length))),(26,.d (.sl 4 (v.subs.map aX))),(8,.ptr 5 0),(5,.ptr 2 0)])
     (fun j=>[.gone,.row 100 3 1 (ab (v.ranges.map bE)),.box 88 [.d (.v (.int .i64 v.id)),.own 1 1,.own 3 k],.row 107 4 k (ab ((pre.take k).map aX)),.gone,.box 107 [.d (.v (.int .i64 s.id)),.d (.v (.int .i64 s.at_.at_)),.d (.v (.int .i64 s.at_.len)),.own 6 j],.row 110 2 j (ab ((s.faces.take j).map cl))]) trivial ?_ ?_ ?_
    ·exact a3D
    ·exact ST
    ·exact a3Q
  ·have hm:=Xj hm;have uB:=Xj EF;have j7:pre.length+1+q+1<=100:=by have:=bN.out;omega
   have li:(Yf q post).length=q:=by rw[Xp];omega
   have xT:k<=v.subs.length:=by have:=bN.out;omega
   by_cases AR:q < post.length
   ·obtain⟨s,hq⟩:∃s,post[q]? =some s:=⟨_,Xk AR⟩;have hs:v.subs[k]? =some s:=by
     rw[hL.out,XH aa,show k - pre.length=q+1 by omega,Yw];exact hq
    have jF:=h8.out s (Xl hs);have eo:(k:Int) < (v.subs.length:Int):=by have:=bN.out;omega
    have db:=wi k aa;replace hq:=Xj hq;replace hs:=Xj hs;have mQ:=hs.out;clear EF;refine ap ?_<;>intros;refine bf ag am s.faces (fun _=>True) (fun j=>[(40,.d (.v (.int .i64 j))),(39,.d (.v (.int .i64 s.faces.length))),(38,.d (.sl 2 (s.faces.map cl))),(28,.d (.v (.int .i64 k))),(27,.d (.v (.int .i64 v.subs.length))),(26,.d (.sl 4 (v.subs.map aX))),(8,.ptr 8 0),(5,.ptr 2 0)])
     (fun j=>[.gone,.row 100 3 1 (ab (v.ranges.map bE)),.box 88 [.d (.v (.int .i64 v.id)),.own 1 1,.own 3 k],.row 107 4 k (fA aX pre (cy s0 (.own 6 s0.faces.length)) (post.take q)),.gone,.gone,.row 110 2 s0.faces.length (ab (s0.faces.map cl)),.gone,.box 107 [.d (.v (.int .i64 s.id)),.d (.v (.int .i64 s.at_.at_)),.d (.v (.int .i64 s.at_.len)),.own 9 j],.row 110 2 j (ab ((s.faces.take j).map cl))]) trivial ?_ ?_ ?_
    ·refine(aL 7 ah).trans ((ay ah 8 107 [.d (.v (.int .i64 s.id)),.d (.v (.int .i64 s.at_.at_)),.d (.v (.int .i64 s.at_.len)),.d (.v (.slice none 0 0))] 3 110 2 rfl rfl rfl).trans ?_);exact wf (hb:=cK) (hbh:=cK)
    ·intro j f hf hj _ C hC;have lz:(j:Int) < (s.faces.length:Int):=aa;have nI:=wi j aa;have gX:=jF.2 f (Xl hf);have iO:j+1<=100:=aa;have ro:(Yf j s.faces).length=j:=by rw[Xp];omega
     replace hf:=Xj hf;have Dd:=hf.out;have z1z:=Ln.mk (ls:=[]) (fQ f.addrs aa);refine ap ?_<;>intros;refine hC _ _ trivial ((av 11 1 3 1 (f.addrs.map cF) rfl).trans ?_);simp only[jq,fz,ij,gM,iS,gI,aT,bW,ce,Xm,Xr,XL,XK,reduceIte,and_true,true_and,and_self,and_false,false_and,XE,XT,reduceCtorEq,dn];exact wf (hh:=(by rw[ak hf.out,Xo,Xm,Xr,<-aI];rfl)) (hb:=cK) (hbh:=cK)
    ·intro _ C;refine ap ?_<;>intros;refine we _ _ _ _ _ ?_ (.inr ⟨k+1,q+1,by have:=uB.out;omega,AR,rfl,rfl,rfl⟩) ((av 9 s.faces.length 110 2 (s.faces.map cl) rfl).trans ?_)
     ·exact a4u
     simp only[jq,fz,ij,gM,iS,gI,aT,bW,ce,Xm,Xr,XL,XK,reduceIte,and_true,true_and,and_self,and_false,false_and,XE,XT,reduceCtorEq,dn,cy];exact wf (hh:=(by rw[ak hq.out,<-lY];rfl)) (hb:=cK) (hbh:=cK)
   ·exact a4C
theorem a3I {p:Prop}(h:p:=by
 obtain rfl:i=postF.length:=aa;obtain rfl:j=s0.faces.length:=by have:=iz.out;omega
 clear lf;have a0C:(Yf k pre).length=k:=by rw[jV.out,Xq]
 refine ap ?_<;>intros;refine we _ _ _ _ _ ?_ (.inr ⟨k+1,0,by rw[jV.out],XD _,rfl,rfl,rfl⟩) ((aL 5 ah).trans ?_)
 ·have:=hm.out;have:=bN.out;have:=jV.out;omega
 exact wf (hh:=(by rw[jV.out,Xq];rfl)) (hb:=cK) (hbh:=cK)):p:=h
theorem a5B {p:Prop}(h:p:=by
 have:=iQ.out;have:=iz.out;omega):p:=h
theorem QJ (v:Vpc)(pre post:List Sbn)(s0:Sbn)(preF postF:List Fce)(f0:Fce)(hv:v.subs=pre++s0::post)(BB:s0.faces=preF++f0::postF)(h:bT v=0)(h4:v.ranges.length<=4)(h6:v.subs.length<=6)(h8:∀s∈v.subs,s.faces.length<=8/\∀f∈s.faces,f.addrs.length<=4):
 MSpec prog 184 [.d (.agg (ax v))] [] (.tup [.ptr 2 0,.d (.v (.int .i64 0))]) [.gone,.row 100 3 1 (ab (v.ranges.map bE)),.box 88 [.d (.v (.int .i64 v.id)),.own 1 1,.own 3 v.subs.length],.row 107 4 v.subs.length (fA aX pre (cy s0 (.own 6 s0.faces.length)) post),
  .gone,.gone,.row 110 2 s0.faces.length (fA cl preF (eB f0 (.own 8 1)) postF),.gone,.row 3 1 1 (ab (f0.addrs.map cF))]:=by
 have hc:=qf v;rw[h]at hc;replace h:=Xj h;replace h8:=Xj h8;have bB:v.subs.length=pre.length+1+post.length:=by rw[hv];simp;omega
 have hL:=Xj hv;have bN:=Xj bB;clear hv bB;have HY:s0.faces.length=preF.length+1+postF.length:=by rw[BB];simp;omega
 have hLF:=Xj BB;have iz:=Xj HY;clear BB HY;have gU:=kX bE v.ranges aa;refine mj func184 ntmps184 results184 ?_;have z1z:=Ln.mk (ls:=[]) (gU);refine ap ?_<;>intros;refine bQ ag am (fun m e h=>(∃k,k<=pre.length/\m=v.subs.length - k/\e=[(28,.d (.v (.int .i64 k))),(27,.d (.v (.int .i64 v.subs.length))),(26,.d (.sl 4 (v.subs.map aX))),(5,.ptr 2 0)]/\
  h=[.gone,.row 100 3 1 (ab (v.ranges.map bE)),.box 88 [.d (.v (.int .i64 v.id)),.own 1 1,.own 3 k],.row 107 4 k (ab ((pre.take k).map aX))])\/
  ∃k j,k=pre.length+1+j/\j<=post.length/\m=v.subs.length - k/\e=[(28,.d (.v (.int .i64 k))),(27,.d (.v (.int .i64 v.subs.length))),(26,.d (.sl 4 (v.subs.map aX))),(5,.ptr 2 0)]/\
   h=[.gone,.row 100 3 1 (ab (v.ranges.map bE)),.box 88 [.d (.v (.int .i64 v.id)),.own 1 1,.own 3 k],.row 107 4 k (fA aX pre (cy s0 (.own 6 s0.faces.length)) (post.take j)),.gone,.gone,.row 110 2 s0.faces.length (fA cl preF (eB f0 (.own 8 1)) postF),.gone,.row 3 1 1 (ab (f0.addrs.map cF))]) _ _ _ (.inl ⟨0,XD _,rfl,rfl,rfl⟩) ?_ ?_
 ·exact a3P
 ·rintro m e h (⟨k,hk,hm,rfl,rfl⟩|⟨k,q,EF,hj,hm,rfl,rfl⟩) CO we
  ·have eo:(k:Int) < (v.subs.length:Int):=by have:=bN.out;omega
   have db:=wi k aa;have j7:k+1<=100:=by have:=bN.out;omega
   have li:(Yf k pre).length=k:=by rw[Xp];omega
   have hm:=Xj hm;by_cases nu:k < pre.length
   ·exact LT
   ·obtain rfl:k=pre.length:=aa;have hs:v.subs[pre.length]? =some s0:=by rw[hL.out,XH (Xz _),YF];rfl
    have jF:=h8.out s0 (Xl hs);replace hs:=Xj hs;have mQ:=hs.out;obtain⟨k,jV⟩:∃k,k=pre.length:=⟨_,rfl⟩;rw[<-jV]at mQ eo db j7 li we ⊢;rw[jV,Xq]at li;replace jV:=Xj jV;refine ap ?_<;>intros;refine bQ ag am (fun m e h=>(∃j,j<=preF.length/\m=s0.faces.length - j/\e=[(40,.d (.v (.int .i64 j))),(39,.d (.v (.int .i64 s0.faces.length))),(38,.d (.sl 2 (s0.faces.map cl))),(28,.d (.v (.int .i64 k))),(27,.d (.v (.int .i64 v.subs.length))),(26,.d (.sl 4 (v.subs.map aX))),(8,.ptr 5 0),(5,.ptr 2 0)]/\
     h=[.gone,.row 100 3 1 (ab (v.ranges.map bE)),.box 88 [.d (.v (.int .i64 v.id)),.own 1 1,.own 3 k],.row 107 4 k (ab ((pre.take k).map aX)),.gone,.box 107 [.d (.v (.int .i64 s0.id)),.d (.v (.int .i64 s0.at_.at_)),.d (.v (.int .i64 s0.at_.len)),.own 6 j],.row 110 2 j (ab ((preF.take j).map cl))])\/
     ∃j i,j=preF.length+1+i/\i<=postF.length/\m=s0.faces.length - j/\e=[(40,.d (.v (.int .i64 j))),(39,.d (.v (.int .i64 s0.faces.length))),(38,.d (.sl 2 (s0.faces.map cl))),(28,.d (.v (.int .i64 k))),(27,.d (.v (.int .i64 v.subs.length))),(26,.d (.sl 4 (v.subs.map aX))),(8,.ptr 5 0),(5,.ptr 2 0)]/\
      h=[.gone,.row 100 3 1 (ab (v.ranges.map bE)),.box 88 [.d (.v (.int .i64 v.id)),.own 1 1,.own 3 k],.row 107 4 k (ab ((pre.take k).map aX)),.gone,.box 107 [.d (.v (.int .i64 s0.id)),.d (.v (.int .i64 s0.at_.at_)),.d (.v (.int .i64 s0.at_.len)),.own 6 j],.row 110 2 j (fA cl preF (eB f0 (.own 8 1)) (postF.take i)),.gone,.row 3 1 1 (ab (f0.addrs.map cF))]) _ _ _ (.inl ⟨0,XD _,rfl,rfl,rfl⟩) ?_ ?_
    ·refine(aL 4 ah).trans ((ay ah 5 107 [.d (.v (.int .i64 s0.id)),.d (.v (.int .i64 s0.at_.at_)),.d (.v (.int .i64 s0.at_.len)),.d (.v (.slice none 0 0))] 3 110 2 rfl rfl rfl).trans ?_);exact wf (hb:=cK) (hbh:=cK)
    ·rintro m2 e h (⟨j,hj,iQ,rfl,rfl⟩|⟨j,i,lf,hi,iQ,rfl,rfl⟩) C hC
     ·have lz:(j:Int) < (s0.faces.length:Int):=by have:=iz.out;omega
      have nI:IntKind.i64.wrap ((j:Int)+1)=((j+1:Nat):Int):=by rw[IntKind.wrap_i64];have:=jF.1;omega
      have iO:j+1<=100:=by have:=jF.1;omega
      have ro:(Yf j preF).length=j:=by rw[Xp];omega
      have iQ:=Xj iQ;by_cases AR:j < preF.length
      ·obtain⟨f,hq⟩:∃f,preF[j]? =some f:=⟨_,Xk AR⟩;have hf:s0.faces[j]? =some f:=by rw[hLF.out,X5 AR];exact hq
       have gX:=jF.2 f (Xl hf);replace hf:=Xj hf;replace hq:=Xj hq;have Dd:=hf.out;have z1z:=Ln.mk (ls:=[]) (fQ f.addrs aa);refine ap ?_<;>intros;refine hC _ _ _ _ _ ?_ (.inl ⟨j+1,AR,rfl,rfl,rfl⟩) ((av 8 1 3 1 (f.addrs.map cF) rfl).trans ?_)
       ·exact a5B
       simp only[jq,fz,ij,gM,iS,gI,aT,bW,ce,Xm,Xr,XL,XK,reduceIte,and_true,true_and,and_self,and_false,false_and,XE,XT,reduceCtorEq,dn];exact wf (hh:=(by rw[ak hq.out,Xo,Xm,Xr,<-aI];rfl)) (hb:=cK) (hbh:=cK)
      ·obtain rfl:j=preF.length:=aa;have hf:s0.faces[preF.length]? =some f0:=by rw[hLF.out,XH (Xz _),YF];rfl
       have gX:=jF.2 f0 (Xl hf);replace hf:=Xj hf;have Dd:=hf.out;have z1z:=Ln.mk (ls:=[]) (fQ f0.addrs aa);refine ap ?_<;>intros;refine hC _ _ _ _ _ ?_ (.inr ⟨preF.length+1,0,rfl,XD _,rfl,rfl,rfl⟩) ((aL 7 ah).trans ?_)
       ·exact a5B
       exact wf (hb:=cK) (hbh:=cK)
     ·have iQ:=Xj iQ;have Eu:=Xj lf;have iO:preF.length+1+i+1<=100:=by have:=iz.out;have:=jF.1;omega
      have hli:(Yf i postF).length=i:=by rw[Xp];omega
      have R8:j<=s0.faces.length:=by have:=iz.out;omega
      by_cases hip:i < postF.length
      ·obtain⟨f,hq⟩:∃f,postF[i]? =some f:=⟨_,Xk hip⟩;have hf:s0.faces[j]? =some f:=by
        rw[hLF.out,XH aa,show j - preF.length=i+1 by omega,Yw];exact hq
       have gX:=jF.2 f (Xl hf);have lz:(j:Int) < (s0.faces.length:Int):=by have:=iz.out;omega
       have nI:IntKind.i64.wrap ((j:Int)+1)=((j+1:Nat):Int):=by rw[IntKind.wrap_i64];have:=jF.1;omega
       replace hf:=Xj hf;replace hq:=Xj hq;have Dd:=hf.out;clear lf;have z1z:=Ln.mk (ls:=[]) (fQ f.addrs aa);refine ap ?_<;>intros;refine hC _ _ _ _ _ ?_ (.inr ⟨j+1,i+1,by have:=Eu.out;omega,hip,rfl,rfl,rfl⟩) ((av 10 1 3 1 (f.addrs.map cF) rfl).trans ?_)
       ·have:=iQ.out;have:=iz.out;have:=Eu.out;omega
       simp only[jq,fz,ij,gM,iS,gI,aT,bW,ce,Xm,Xr,XL,XK,reduceIte,and_true,true_and,and_self,and_false,false_and,XE,XT,reduceCtorEq,dn,eB];exact wf (hh:=(by rw[ak hq.out,<-lY];rfl)) (hb:=cK) (hbh:=cK)
      ·exact a3I
  ·have hm:=Xj hm;have uB:=Xj EF;have j7:pre.length+1+q+1<=100:=by have:=bN.out;omega
   have li:(Yf q post).length=q:=by rw[Xp];omega
   have xT:k<=v.subs.length:=by have:=bN.out;omega
   by_cases AR:q < post.length
   ·obtain⟨s,hq⟩:∃s,post[q]? =some s:=⟨_,Xk AR⟩;have hs:v.subs[k]? =some s:=by
     rw[hL.out,XH aa,show k - pre.length=q+1 by omega,Yw];exact hq
    have jF:=h8.out s (Xl hs);have eo:(k:Int) < (v.subs.length:Int):=by have:=bN.out;omega
    have db:=wi k aa;replace hq:=Xj hq;replace hs:=Xj hs;have mQ:=hs.out;clear EF;refine ap ?_<;>intros;refine bf ag am s.faces (fun _=>True) (fun j=>[(40,.d (.v (.int .i64 j))),(39,.d (.v (.int .i64 s.faces.length))),(38,.d (.sl 2 (s.faces.map cl))),(28,.d (.v (.int .i64 k))),(27,.d (.v (.int .i64 v.subs.length))),(26,.d (.sl 4 (v.subs.map aX))),(8,.ptr 10 0),(5,.ptr 2 0)])
     (fun j=>[.gone,.row 100 3 1 (ab (v.ranges.map bE)),.box 88 [.d (.v (.int .i64 v.id)),.own 1 1,.own 3 k],.row 107 4 k (fA aX pre (cy s0 (.own 6 s0.faces.length)) (post.take q)),.gone,.gone,.row 110 2 s0.faces.length (fA cl preF (eB f0 (.own 8 1)) postF),.gone,.row 3 1 1 (ab (f0.addrs.map cF)),.gone,.box 107 [.d (.v (.int .i64 s.id)),.d (.v (.int .i64 s.at_.at_)),.d (.v (.int .i64 s.at_.len)),.own 11 j],.row 110 2 j (ab ((s.faces.take j).map cl))]) trivial ?_ ?_ ?_
    ·refine(aL 9 ah).trans ((ay ah 10 107 [.d (.v (.int .i64 s.id)),.d (.v (.int .i64 s.at_.at_)),.d (.v (.int .i64 s.at_.len)),.d (.v (.slice none 0 0))] 3 110 2 rfl rfl rfl).trans ?_);exact wf (hb:=cK) (hbh:=cK)
    ·intro j f hf hj _ C hC;have lz:(j:Int) < (s.faces.length:Int):=aa;have nI:=wi j aa;have gX:=jF.2 f (Xl hf);have iO:j+1<=100:=aa;have ro:(Yf j s.faces).length=j:=by rw[Xp];omega
     replace hf:=Xj hf;have Dd:=hf.out;have z1z:=Ln.mk (ls:=[]) (fQ f.addrs aa);refine ap ?_<;>intros;refine hC _ _ trivial ((av 13 1 3 1 (f.addrs.map cF) rfl).trans ?_);simp only[jq,fz,ij,gM,iS,gI,aT,bW,ce,Xm,Xr,XL,XK,reduceIte,and_true,true_and,and_self,and_false,false_and,XE,XT,reduceCtorEq,dn];exact wf (hh:=(by rw[ak hf.out,Xo,Xm,Xr,<-aI];rfl)) (hb:=cK) (hbh:=cK)
    ·intro _ C;refine ap ?_<;>intros;refine we _ _ _ _ _ ?_ (.inr ⟨k+1,q+1,by have:=uB.out;omega,AR,rfl,rfl,rfl⟩) ((av 11 s.faces.length 110 2 (s.faces.map cl) rfl).trans ?_)
     ·exact a4u
     simp only[jq,fz,ij,gM,iS,gI,aT,bW,ce,Xm,Xr,XL,XK,reduceIte,and_true,true_and,and_self,and_false,false_and,XE,XT,reduceCtorEq,dn,cy];exact wf (hh:=(by rw[ak hq.out,<-lY];rfl)) (hb:=cK) (hbh:=cK)
   ·exact a4C
theorem D1 {α:Type}{enc:α->List D}(l:List α)(i j g:Nat)(hi:i < l.length)(hj:j=i+1):
 MSpec prog 190 [.own 0 g,.d (.v (.int .i64 i)),.d (.v (.int .i64 j))] [.row 100 3 g (ab (l.map enc))] (.own 0 (g+1)) [.row 100 3 (g+1) (ab ((l.eraseIdx i).map enc))]:=by
 have h1:((i:Int)==(j:Int))=false:=aK;have bH:¬ab (l.map enc)=[]:=by cases l<;>simp[ab]at hi ⊢
 have hle:(i:Int)<=(j:Int):=aa;have hle2:(j:Int)<=(l.length:Int):=aa;have mO:(l.map enc).length=l.length:=XB _;have h2:=m9 (ab (l.map enc)) i j l.length (by rw[aG,mO];exact hi) hj (by rw[aG,mO]);rw[aG,mO]at h2;have uA:=Xj hj;clear hj;have Oz:j<=l.length:=by have:=uA.out;omega
 have HU:min (l.length - j) (l.length - j)=l.length - j:=Zr _;have hlt:i+(l.length - j)<=l.length:=by have:=uA.out;omega
 have rn:l.length - (i+(l.length - j))=1:=by have:=uA.out;omega
 have jV:i+(l.length - j)+1<=l.length:=by have:=uA.out;omega
 have HV:¬aB (ab (l.map enc)) i (((ab (l.map enc)).drop j).take (l.length - j))=[]:=a4L
 refine mj func190 ntmps190 results190 ?_;have z1z:=@Xp.{0};have z2z:=@XS.{0};refine ft ?_ ?_ ?_ ?_ ?_ ?_ ?_ ?_<;>first|(with_reducible exact True.intro)|intros
 rw[gB];exact p9 (by rw[mO];exact hi) uA.out mO.symm
theorem Jf {α:Type}{enc:α->List D}(l:List α)(i j g:Nat)(hi:i < l.length)(hj:j=i+1):
 MSpec prog 197 [.own 0 g,.d (.v (.int .i64 i)),.d (.v (.int .i64 j))] [.row 107 4 g (ab (l.map enc))] (.own 0 (g+1)) [.row 107 4 (g+1) (ab ((l.eraseIdx i).map enc))]:=by
 have h1:((i:Int)==(j:Int))=false:=aK;have bH:¬ab (l.map enc)=[]:=by cases l<;>simp[ab]at hi ⊢
 have hle:(i:Int)<=(j:Int):=aa;have hle2:(j:Int)<=(l.length:Int):=aa;have mO:(l.map enc).length=l.length:=XB _;have h2:=m9 (ab (l.map enc)) i j l.length (by rw[aG,mO];exact hi) hj (by rw[aG,mO]);rw[aG,mO]at h2;have uA:=Xj hj;clear hj;have Oz:j<=l.length:=by have:=uA.out;omega
 have HU:min (l.length - j) (l.length - j)=l.length - j:=Zr _;have hlt:i+(l.length - j)<=l.length:=by have:=uA.out;omega
 have rn:l.length - (i+(l.length - j))=1:=by have:=uA.out;omega
 have jV:i+(l.length - j)+1<=l.length:=by have:=uA.out;omega
 have HV:¬aB (ab (l.map enc)) i (((ab (l.map enc)).drop j).take (l.length - j))=[]:=a4L
 refine mj func197 ntmps197 results197 ?_;have z1z:=@Xp.{0};have z2z:=@XS.{0};refine ft ?_ ?_ ?_ ?_ ?_ ?_ ?_ ?_<;>first|(with_reducible exact True.intro)|intros
 rw[gB];exact p9 (by rw[mO];exact hi) uA.out mO.symm
theorem GF {α:Type}{enc:α->List D}(l:List α)(i j g:Nat)(hi:i < l.length)(hj:j=i+1):
 MSpec prog 202 [.own 0 g,.d (.v (.int .i64 i)),.d (.v (.int .i64 j))] [.row 110 2 g (ab (l.map enc))] (.own 0 (g+1)) [.row 110 2 (g+1) (ab ((l.eraseIdx i).map enc))]:=by
 have h1:((i:Int)==(j:Int))=false:=aK;have bH:¬ab (l.map enc)=[]:=by cases l<;>simp[ab]at hi ⊢
 have hle:(i:Int)<=(j:Int):=aa;have hle2:(j:Int)<=(l.length:Int):=aa;have mO:(l.map enc).length=l.length:=XB _;have h2:=m9 (ab (l.map enc)) i j l.length (by rw[aG,mO];exact hi) hj (by rw[aG,mO]);rw[aG,mO]at h2;have uA:=Xj hj;clear hj;have Oz:j<=l.length:=by have:=uA.out;omega
 have HU:min (l.length - j) (l.length - j)=l.length - j:=Zr _;have hlt:i+(l.length - j)<=l.length:=by have:=uA.out;omega
 have rn:l.length - (i+(l.length - j))=1:=by have:=uA.out;omega
 have jV:i+(l.length - j)+1<=l.length:=by have:=uA.out;omega
 have HV:¬aB (ab (l.map enc)) i (((ab (l.map enc)).drop j).take (l.length - j))=[]:=a4L
 refine mj func202 ntmps202 results202 ?_;have z1z:=@Xp.{0};have z2z:=@XS.{0};refine ft ?_ ?_ ?_ ?_ ?_ ?_ ?_ ?_<;>first|(with_reducible exact True.intro)|intros
 rw[gB];exact p9 (by rw[mO];exact hi) uA.out mO.symm
section
open Go.Proofs Go.Shelf
theorem WW (x y:SRow Qy 4)(W:World):Calls prog 195 #[.agg x.xs.toArray,.agg y.xs.toArray] W fun e w'=>e= .returned (.int .i64 (H0 x y))/\∃q os',w'=Sort.grow (W.drewN q) os':=by
 obtain⟨xs,xl,x1,a,xh⟩:=x;obtain⟨ys,yl,y1,b,yh⟩:=y;match xs,xl,ys,yl with
 |[u0,u1,u2,u3],_,[v0,v1,v2,v3],_=>
  simp[Qy]at xh yh;subst xh;subst yh;have hc:=ju a b;unfold H0;simp only;generalize eQ a b=r at*;replace hc:=Xj hc;clear x1 y1;go_enter func195,ntmps195
  go_wp2_with fail
  refine(hc.out _).mono ?_;rintro e w1 ⟨rfl,rfl⟩;go_wp2_with fail
  go_ret
  exact⟨b9 rfl,0,_,by rw[Sort.alloc_eq_grow,Sort.alloc_eq_grow,Sort.grow_grow];rfl⟩
theorem QK {l l':List Sbn}(g:Nat)(rC:l≠[])(hp:l'.Perm l)(hs:l'.Pairwise fun x y=>(fun s:Sbn=>s.id) x < (fun s:Sbn=>s.id) y)(cL:l.length<=1000000):
 MSpec prog 194 [.own 0 g,.d (.clo 195 [])] [.row 107 4 g (ab (l.map aX))] (.d (.tup [])) [.row 107 4 g (ab (l'.map aX))]:=
 xN sortSub rfl (bY func194 aJ rfl) isAgg107 sizeOf107 (enters_of func195 aJ rfl) WW aX (fun s:Sbn=>s.id) (fun _=>rfl) rC hp hs cL
theorem Ux (x y:SRow Qy 2)(W:World):Calls prog 200 #[.agg x.xs.toArray,.agg y.xs.toArray] W fun e w'=>e= .returned (.int .i64 (H0 x y))/\∃q os',w'=Sort.grow (W.drewN q) os':=by
 obtain⟨xs,xl,x1,a,xh⟩:=x;obtain⟨ys,yl,y1,b,yh⟩:=y;match xs,xl,ys,yl with
 |[u0,u1],_,[v0,v1],_=>
  simp[Qy]at xh yh;subst xh;subst yh;have hc:=ju a b;unfold H0;simp only;generalize eQ a b=r at*;replace hc:=Xj hc;clear x1 y1;go_enter func200,ntmps200
  go_wp2_with fail
  refine(hc.out _).mono ?_;rintro e w1 ⟨rfl,rfl⟩;go_wp2_with fail
  go_ret
  exact⟨b9 rfl,0,_,by rw[Sort.alloc_eq_grow,Sort.alloc_eq_grow,Sort.grow_grow];rfl⟩
theorem Nr {l l':List Fce}(g:Nat)(rC:l≠[])(hp:l'.Perm l)(hs:l'.Pairwise fun x y=>(fun f:Fce=>f.id) x < (fun f:Fce=>f.id) y)(cL:l.length<=1000000):
 MSpec prog 199 [.own 0 g,.d (.clo 200 [])] [.row 110 2 g (ab (l.map cl))] (.d (.tup [])) [.row 110 2 g (ab (l'.map cl))]:=
 xN sortFace rfl (bY func199 aJ rfl) isAgg110 sizeOf110 (enters_of func200 aJ rfl) Ux cl (fun f:Fce=>f.id) (fun _=>rfl) rC hp hs cL
end
def Rng.zero:Rng:=⟨⟨0,0⟩,0⟩
def d6 (v:Vpc)(p:Pfx):Vpc × Rng × Int:=
 if bT v≠0 then (Vpc.zero,Rng.zero,bT v)else
 match v.ranges.findIdx? (fun r=>decide (r.at_=p))with
 |none=>(Vpc.zero,Rng.zero,5)
 |some i=>if (v.subs.any fun s=>dZ s.at_ p)=true then (Vpc.zero,Rng.zero,9)else ({v with ranges:=v.ranges.eraseIdx i},v.ranges.getD i Rng.zero,0)
theorem Uy (r:Rng)(p:Pfx):ai prog 186 [.agg (bE r),.ept (aS p)] (.v (.bool (decide (r.at_=p)))):=by
 have he:=zC r.at_ p;rw[<-he];replace he:=Xj he;refine pj func186 ntmps186 results186 ?_;exact bc
theorem Uz (s:Sbn)(p:Pfx):ai prog 188 [.agg (aX s),.ept (aS p)] (.v (.bool (dZ s.at_ p))):=by
 have hi:ai prog 189 [.agg (aS s.at_),.agg (aS p)] (.v (.bool (dZ s.at_ p))):=F6 _ _;refine pj func188 ntmps188 results188 ?_;exact bc
theorem UA (v:Vpc)(p:Pfx):ai prog 107 [.agg (ax v),.agg (aS p)] (.tup [.agg (ax (d6 v p).1),.agg (bE (d6 v p).2.1),.v (.int .i64 (d6 v p).2.2)]):=by
 obtain⟨R,hR⟩:∃R,R=d6 v p:=⟨_,rfl⟩;rw[<-hR];replace hR:=Xj hR;by_cases hc:bT v=0
 ·have hk:=aY hc;have cT:=mD v hc hk.n4 hk.n6 hk.n8;have rX:=yR nZ (fun r=>decide (r.at_=p)) v.ranges 186 [.ept (aS p)] (by have:=hk.n4;omega) (fun r _=>Uy r p);have pK:=yT nY (fun s=>dZ s.at_ p) v.subs 188 [.ept (aS p)] (by have:=hk.n6;omega) (fun s _=>Uz s p);unfold cv at rX;cases hf:v.ranges.findIdx? (fun r=>decide (r.at_=p))with
  |none=>
   rw[hf]at rX;have hr:R=(Vpc.zero,Rng.zero,5):=by rw[hR.out];unfold d6;rw[af (by simpa using hc),hf]
   rw[hr];clear hr hR hf hc hk;refine pj func107 ntmps107 results107 ?_;have z1z:=Ln.mk (ls:=[]) (cT);refine ap ?_<;>intros;exact dg
  |some i=>
   rw[hf]at rX;have hi:i < v.ranges.length:=(XI.1 hf).1;obtain⟨g,hg⟩:∃g,v.ranges[i]? =some g:=⟨_,Xk hi⟩;have mZ:decide ((i:Int) < 0)=false:=ah;have Om:=hk.n4;cases ha:v.subs.any fun s=>dZ s.at_ p with
   |true=>
    rw[ha]at pK;have hr:R=(Vpc.zero,Rng.zero,9):=by rw[hR.out];unfold d6;rw[af (by simpa using hc),hf];simp only;rw[aj ha]
    rw[hr];clear hr hR hf hc hk;refine pj func107 ntmps107 results107 ?_;have z1z:=Ln.mk (ls:=[]) (cT);refine ap ?_<;>intros;exact dg
   |false=>
    rw[ha]at pK;have hr:R=({v with ranges:=v.ranges.eraseIdx i},g,0):=by
     rw[hR.out];unfold d6;rw[af (by simpa using hc),hf];simp only;rw[af (by simp[ha])];rw[XC,hg];rfl
    have hd:=D1 (enc:=bE) v.ranges i (i+1) 1 hi rfl;have db:=wi i aa;rw[hr];clear hr hR hf hc hk;refine pj func107 ntmps107 results107 ?_;have z1z:=Ln.mk (ls:=[]) (cT);have z2z:=Ln.mk (ls:=[5]) (hd);exact bc;all_goals exact dg
 ·have cT:=mC v hc;have h1:(bT v !=0)=true:=by simpa using hc
  have hr:R=(Vpc.zero,Rng.zero,bT v):=by rw[hR.out];unfold d6;rw[aj hc]
  rw[hr];replace hr:=Xj hr;refine pj func107 ntmps107 results107 ?_;have z1z:=Ln.mk (ls:=[]) (cT);refine ap ?_<;>intros;exact dg
def mE (v:Vpc)(id:Int)(p:Pfx):Int:=
 if cB id=false\/fJ v p=false then 3 else
 if (v.subs.any fun s=>(s.id==id)||s.at_.meets p)=true then 6 else if v.subs.length=6 then 2 else 0
def pD (v:Vpc)(id:Int)(p:Pfx):Vpc × Int:=
 if bT v≠0 then (Vpc.zero,bT v)else if mE v id p≠0 then (Vpc.zero,mE v id p)else ({v with subs:=dv (·.id) ⟨id,p,[]⟩ v.subs},0)
theorem WX (s:Sbn)(id:Int)(p:Pfx):ai prog 193 [.agg (aX s),.ept [.v (.int .i64 id)],.ept (aS p)] (.v (.bool ((s.id==id)||s.at_.meets p))):=by
 have hm:ai prog 124 [.agg (aS s.at_),.agg (aS p)] (.v (.bool (s.at_.meets p))):=qV _ _;cases h1:s.id==id;all_goals
  refine pj func193 ntmps193 results193 ?_;exact bc
theorem WY (v:Vpc)(id:Int)(p:Pfx):ai prog 108 [.agg (ax v),.v (.int .i64 id),.agg (aS p)] (.tup [.agg (ax (pD v id p).1),.v (.int .i64 (pD v id p).2)]):=by
 obtain⟨R,hR⟩:∃R,R=pD v id p:=⟨_,rfl⟩;rw[<-hR];replace hR:=Xj hR;by_cases hc:bT v=0
 ·have hk:=aY hc;have cT:=mD v hc hk.n4 hk.n6 hk.n8;have hid:=mg id;have hho:=tW v p (by have:=hk.n4;omega);have pK:=yT nY (fun s=>(s.id==id)||s.at_.meets p) v.subs 193 [.ept [.v (.int .i64 id)],.ept (aS p)] (by have:=hk.n6;omega) (fun s _=>WX s id p);have aQ:R=if mE v id p≠0 then (Vpc.zero,mE v id p)else ({v with subs:=dv (·.id) ⟨id,p,[]⟩ v.subs},0):=by rw[hR.out];unfold pD;rw[af (by simpa using hc)]
  have H6:=hk.n6;by_cases bL:mE v id p≠0
  ·rw[aj bL]at aQ;unfold mE at aQ bL;generalize fJ v p=K at*;generalize cB id=I at*;generalize (v.subs.any fun s=>(s.id==id)||s.at_.meets p)=M at*;replace aQ:=Xj aQ;replace bL:=Xj bL;clear hR hc hk;have hl4:((v.subs.length:Int)==6)=decide (v.subs.length=6):=by rw[Yk];simp;omega
   refine pj func108 ntmps108 results108 ?_;have z1z:=Ln.mk (ls:=[]) (cT);refine ft ?_ ?_ ?_ ?_ ?_ ?_ ?_ ?_<;>first|(with_reducible exact True.intro)|intros
   all_goals
    have h1:=aQ.out;have h2:=bL.out;clear hid hho pK cT;first
     |(exfalso;grind)
     |(rw[show R=(Vpc.zero,3) from (by rw[h1];grind)];exact dg)
     |(rw[show R=(Vpc.zero,6) from (by rw[h1];grind)];exact dg)
     |(rw[show R=(Vpc.zero,2) from (by rw[h1];grind)];exact dg)
  ·rw[af bL]at aQ;have hg:mE v id p=0:=by simpa using bL
   obtain⟨g1,g2,g3,g4⟩:fJ v p=true/\cB id=true/\(v.subs.any fun s=>(s.id==id)||s.at_.meets p)=false/\v.subs.length≠6:=by
    unfold mE at hg;generalize (v.subs.any fun s=>(s.id==id)||s.at_.meets p)=M at*;grind
   have bH:∀s∈v.subs,s.id≠(⟨id,p,[]⟩:Sbn).id:=fun s hs=>by have:=Yh.1 g3 s hs;simp at this;exact this.1
   have pF:=QK (l:=v.subs++[⟨id,p,[]⟩]) (l':=dv (·.id) ⟨id,p,[]⟩ v.subs) (v.subs.length+1) ah (gF _ _ _) (im hk.rs bH) aK;rw[g1]at hho;rw[g2]at hid;rw[g3]at pK;have hl4:((v.subs.length:Int)==6)=false:=aK;have j7:v.subs.length+1<=100:=aa;simp only[Xo,Xm,Xr]at pF;have pF:=pF.leh (tN (A:=v.subs.map aX) (B:=[]) (r:=[.v (.int .i64 id),.v (.int .i64 p.at_),.v (.int .i64 p.len),.v (.slice none 0 0)]) dg) (by have:=mc (enc:=aX) (fun _=>rfl) (v.subs++[⟨id,p,[]⟩]);simpa using this) (aC _ _);rw[aQ];clear hR aQ hc hk bH hg bL;refine pj func108 ntmps108 results108 ?_;have z1z:=Ln.mk (ls:=[]) (cT);have z2z:=Ln.mk (ls:=[7]) (pF);exact bc
 ·have cT:=mC v hc;have h1:(bT v !=0)=true:=by simpa using hc
  have hr:R=(Vpc.zero,bT v):=by rw[hR.out];unfold pD;rw[aj hc]
  rw[hr];replace hr:=Xj hr;refine pj func108 ntmps108 results108 ?_;have z1z:=Ln.mk (ls:=[]) (cT);refine ap ?_<;>intros;exact dg
def vE (v:Vpc)(i:Nat)(id:Int):Int:=match v.subs[i]? with|some s=>cv (fun f=>f.id==id) s.faces|none=> -1
def zL (v:Vpc)(sub id:Int):Int × Int:=match v.subs.findIdx? (fun s=>s.id==sub)with|none=>(-1,-1)|some i=>(i,vE v i id)
theorem GG (s:Sbn)(id:Int):ai prog 255 [.agg (aX s),.ept [.v (.int .i64 id)]] (.v (.bool (s.id==id))):=by
 refine pj func255 ntmps255 results255 ?_;exact bc
theorem QL (f:Fce)(id:Int):ai prog 257 [.agg (cl f),.ept [.v (.int .i64 id)]] (.v (.bool (f.id==id))):=by
 refine pj func257 ntmps257 results257 ?_;exact bc
theorem xO (v:Vpc)(sub id:Int)(h6:v.subs.length<=6)(h8:∀s∈v.subs,s.faces.length<=8):ai prog 196 [.ept (ax v),.v (.int .i64 sub),.v (.int .i64 id)] (.tup [.v (.int .i64 (zL v sub id).1),.v (.int .i64 (zL v sub id).2)]):=by
 have rX:=yS nY (fun s=>s.id==sub) v.subs 255 [.ept [.v (.int .i64 sub)]] aa (fun s _=>GG s sub);unfold zL;unfold cv at rX;cases hf:v.subs.findIdx? (fun s=>s.id==sub)with
 |none=>
  rw[hf]at rX;replace hf:=Xj hf;refine pj func196 ntmps196 results196 ?_;exact bc;all_goals exact dg
 |some i=>
  rw[hf]at rX;have hi:i < v.subs.length:=(XI.1 hf).1;obtain⟨s,hs⟩:∃s,v.subs[i]? =some s:=⟨_,Xk hi⟩;have mZ:decide ((i:Int) < 0)=false:=ah;have hfx:=Cj yM (fun f=>f.id==id) s.faces 257 [.ept [.v (.int .i64 id)]] (by have:=h8 s (Xl hs);omega) (fun f _=>QL f id);unfold vE;simp only;rw[hs];replace hf:=Xj hf;refine pj func196 ntmps196 results196 ?_;exact bc;all_goals exact dg
def fR (v:Vpc)(id:Int):Vpc × Int:=
 if bT v≠0 then (Vpc.zero,bT v)else
 match v.subs.findIdx? (fun s=>s.id==id)with
 |none=>(Vpc.zero,5)
 |some i=>if (v.subs[i]?.map fun s=>s.faces.length)≠some 0 then (Vpc.zero,9)else ({v with subs:=v.subs.eraseIdx i},0)
theorem vF (sub id:Int):ai prog 196 [.ept [.v (.int .i64 0),.v (.slice none 0 0),.v (.slice none 0 0)],.v (.int .i64 sub),.v (.int .i64 id)] (.tup [.v (.int .i64 (-1)),.v (.int .i64 (-1))]):=by
 have rX:=(yS nY (fun s=>s.id==sub) [] 255 [.ept [.v (.int .i64 sub)]] ah (fun s _=>GG s sub)).args (ds:=[.v (.slice none 0 0),.clo 255 [.ept [.v (.int .i64 sub)]]]) ⟨aP.nil _,aP.refl _,trivial⟩;unfold cv at rX;simp only[List.findIdx?_nil]at rX;refine pj func196 ntmps196 results196 ?_;exact bc
theorem UB (v:Vpc)(id:Int):ai prog 109 [.agg (ax v),.v (.int .i64 id)] (.tup [.agg (ax (fR v id).1),.v (.int .i64 (fR v id).2)]):=by
 obtain⟨R,hR⟩:∃R,R=fR v id:=⟨_,rfl⟩;rw[<-hR];replace hR:=Xj hR;by_cases hc:bT v=0
 ·have hk:=aY hc;have cT:=mD v hc hk.n4 hk.n6 hk.n8;have iK:=xO v id 0 hk.n6 (fun s hs=>(hk.n8 s hs).1);have H6:=hk.n6;unfold zL at iK;cases hf:v.subs.findIdx? (fun s=>s.id==id)with
  |none=>
   rw[hf]at iK;have hr:R=(Vpc.zero,5):=by rw[hR.out];unfold fR;rw[af (by simpa using hc),hf]
   rw[hr];clear hr hR hf hc hk;refine pj func109 ntmps109 results109 ?_;have z1z:=Ln.mk (ls:=[]) (cT);refine ap ?_<;>intros;exact dg
  |some i=>
   rw[hf]at iK;have hi:i < v.subs.length:=(XI.1 hf).1;obtain⟨s,hs⟩:∃s,v.subs[i]? =some s:=⟨_,Xk hi⟩;have mZ:decide ((i:Int) < 0)=false:=ah;simp only at iK;generalize vE v i 0=FI at iK;by_cases h0:s.faces.length=0
   ·have hr:R=({v with subs:=v.subs.eraseIdx i},0):=by rw[hR.out];unfold fR;rw[af (by simpa using hc),hf];simp only;rw[hs];simp[h0]
    have hd:=Jf (enc:=aX) v.subs i (i+1) v.subs.length hi rfl;have db:=wi i aa;have h0b:decide ((s.faces.length:Int)>0)=false:=by simp[h0]
    rw[hr];clear hr hR hf hc hk h0;refine pj func109 ntmps109 results109 ?_;have z1z:=Ln.mk (ls:=[]) (cT);have z2z:=Ln.mk (ls:=[5]) (hd);exact bc;all_goals exact dg
   ·have hr:R=(Vpc.zero,9):=by rw[hR.out];unfold fR;rw[af (by simpa using hc),hf];simp only;rw[hs];simp[h0]
    have h0b:decide ((s.faces.length:Int)>0)=true:=aK;rw[hr];clear hr hR hf hc hk h0;refine pj func109 ntmps109 results109 ?_;have z1z:=Ln.mk (ls:=[]) (cT);refine ap ?_<;>intros;all_goals exact dg
 ·have cT:=mC v hc;have hfz:=vF id 0;have h1:(bT v !=0)=true:=by simpa using hc
  have hr:R=(Vpc.zero,bT v):=by rw[hR.out];unfold fR;rw[aj hc]
  rw[hr];replace hr:=Xj hr;refine pj func109 ntmps109 results109 ?_;have z1z:=Ln.mk (ls:=[]) (cT);refine ap ?_<;>intros;exact dg
def gm (used:List Int)(p:Pfx):Nat->Int->Option Int
 |0,_=>none
 |n+1,a=>if jh p a=true then (if a∈used then gm used p n (a+1)else some a)else none
def eU (s:Sbn):Option Int:=gm (s.faces.flatMap (·.addrs)) s.at_ 65536 (s.at_.at_+1)
theorem D2 {p:Pfx}{a:Int}(h:jh p a=true):p.right=true/\p.at_ < a/\a < p.hi - 1/\a<=65535:=by
 unfold jh at h;simp only[Xt,decide_eq_true_eq]at h;have hr:=oe.1 (by rw[<-qe];exact h.1);have hb:=p.hi_bd hr.1;have:p.hi=p.at_+eX p.len:=rfl;exact⟨hr.1,by omega,by omega,by omega⟩
theorem KU (s:Sbn)(h8:s.faces.length<=8)(h4:∀f∈s.faces,f.addrs.length<=4)(hr:s.at_.right=true)(mM:(s.faces.flatMap (·.addrs)).Nodup):ai prog 198 [.agg (aX s)] (.tup [.v (.int .i64 ((eU s).getD 0)),.v (.bool (eU s).isSome)]):=by
 obtain⟨r1,r2,r3,r4,-⟩:=s.at_.bd hr;replace mM:=Xj mM;refine pj func198 ntmps198 results198 ?_;refine ap ?_<;>intros;refine bQ ag am (fun m e h=>∃(k:Nat) (ents:List (List Int × Int)),k<=s.faces.length/\Wz ents ((s.faces.take k).flatMap (·.addrs))/\m=s.faces.length - k/\
  e=[(14,.d (.v (.int .i64 k))),(13,.d (.v (.int .i64 s.faces.length))),(12,.d (.sl 2 (s.faces.map cl))),(4,.mref 1),(3,.d (.v (.bool false))),(2,.d (.v (.int .i64 0))),(1,.ptr 0 0)]/\h=[.box 107 ((aX s).map .d),.mp 1 false ents]) _ _ _ ⟨0,[],XD _,Kz,rfl,rfl,rfl⟩ (wf) ?_
 rintro m e h ⟨k,ents,hk,rA,hm,rfl,rfl⟩ C hC;by_cases hlt:k < s.faces.length
 ·have eo:(k:Int) < (s.faces.length:Int):=aa;have db:=wi k aa;obtain⟨f,hf⟩:∃f,s.faces[k]? =some f:=⟨_,Xk hlt⟩;have gX:=h4 f (Xl hf);replace hm:=Xj hm;replace rA:=Xj rA;refine ap ?_<;>intros;refine bQ ag am (fun m e h=>∃(j:Nat) (ents:List (List Int × Int)),j<=f.addrs.length/\Wz ents ((s.faces.take k).flatMap (·.addrs)++f.addrs.take j)/\m=f.addrs.length - j/\
   e=[(21,.d (.v (.int .i64 j))),(20,.d (.v (.int .i64 f.addrs.length))),(19,.d (.sl 1 (f.addrs.map cF))),(14,.d (.v (.int .i64 k))),(13,.d (.v (.int .i64 s.faces.length))),(12,.d (.sl 2 (s.faces.map cl))),(4,.mref 1),(3,.d (.v (.bool false))),(2,.d (.v (.int .i64 0))),(1,.ptr 0 0)]/\h=[.box 107 ((aX s).map .d),.mp 1 false ents]) _ _ _ ⟨0,ents,XD _,by simpa using rA.out,rfl,rfl,rfl⟩ (wf) ?_
  rintro m2 e h ⟨j,en2,hj,jZ,iQ,rfl,rfl⟩ C2 j6;by_cases ro:j < f.addrs.length
  ·have lz:(j:Int) < (f.addrs.length:Int):=aa;have nI:=wi j aa;obtain⟨a,ha⟩:∃a,f.addrs[j]? =some a:=⟨_,Xk ro⟩;have hca:=jZ a;have jd:f.addrs.take (j+1)=f.addrs.take j++[a]:=ak ha;have hd:a∉(s.faces.take k).flatMap (·.addrs)++f.addrs.take j:=by
    have Az:((s.faces.take k).flatMap (·.addrs)++f.addrs.take (j+1)).Sublist (s.faces.flatMap (·.addrs)):=by
     conv=>rhs;rw[<-YK k s.faces,kR hf,YN,Zy]
     exact List.Sublist.append (List.Sublist.refl _) ((_m _ _).trans (List.sublist_append_left _ _))
    have:=Az.nodup mM.out;rw[jd,<-XV,sw]at this;exact this.2
   rw[af hd]at hca;have eV:=F8 jZ hd;replace jZ:=Xj jZ;replace eV:=Xj eV;replace iQ:=Xj iQ;replace jd:=Xj jd;have cj:IntKind.i64.wrap 1=1:=mR;refine ap ?_<;>intros;refine j6 _ _ _ _ _ ?_ ⟨j+1,nT en2 [a] 1,ro,?_,rfl,rfl,rfl⟩ (wf)
   ·have:=iQ.out;omega
   ·rw[jd.out,<-XV];exact eV.out
  ·obtain rfl:j=f.addrs.length:=aa;rw[Xq]at jZ;have xA:(s.faces.take (k+1)).flatMap (·.addrs)=(s.faces.take k).flatMap (·.addrs)++f.addrs:=by rw[ak hf,YN];simp
   replace iQ:=Xj iQ;replace jZ:=Xj jZ;replace xA:=Xj xA;refine ap ?_<;>intros;refine hC _ _ _ _ _ ?_ ⟨k+1,en2,hlt,?_,rfl,rfl,rfl⟩ (wf)
   ·have:=hm.out;omega
   ·rw[xA.out];exact jZ.out
 ·obtain rfl:k=s.faces.length:=aa;rw[Xq]at rA;replace rA:=Xj rA;replace hm:=Xj hm;have ci:IntKind.i64.wrap (s.at_.at_+1)=s.at_.at_+1:=by rw[IntKind.wrap_i64];omega
  refine ap ?_<;>intros;refine bQ ag am (fun m e h=>∃(i:Nat) (a:Int),i<=65536/\a=s.at_.at_+1+i/\eU s=gm (s.faces.flatMap (·.addrs)) s.at_ (65536 - i) a/\m=65536 - i/\
   e=[(9,.d (.v (.int .i64 a))),(4,.mref 1),(3,.d (.v (.bool false))),(2,.d (.v (.int .i64 0))),(1,.ptr 0 0)]/\h=[.box 107 ((aX s).map .d),.mp 1 false ents]) 65536 _ _ ⟨0,s.at_.at_+1,XD _,by simp,rfl,rfl,rfl,rfl⟩ (wf) ?_
  rintro m2 e h ⟨i,a,hi,haa,hle,iQ,rfl,rfl⟩ C2 j6;have d9:=Kx s.at_ a;cases b1:jh s.at_ a with
  |false=>
   rw[b1]at d9;have lD:eU s=none:=by
    rw[hle];cases 65536 - i with
    |zero=>rfl
    |succ n=>rw[gm,af (by simp[b1])]
   replace hle:=Xj hle;replace haa:=Xj haa;replace iQ:=Xj iQ;rw[lD];exact bc;all_goals exact dg
  |true=>
   have hb:=D2 b1;obtain⟨n,hn⟩:∃n,65536 - i=n+1:=⟨65536 - i - 1,by omega⟩;rw[hn,gm,aj b1]at hle;rw[b1]at d9;have hca:=rA.out a;have Ey:IntKind.i64.wrap (a+1)=a+1:=by rw[IntKind.wrap_i64];omega
   replace haa:=Xj haa;replace iQ:=Xj iQ;by_cases hu:a∈s.faces.flatMap (·.addrs)
   ·rw[aj hu]at hca hle;replace hle:=Xj hle;refine ap ?_<;>intros;refine j6 _ _ _ _ _ ?_ ⟨i+1,a+1,by omega,by rw[haa.out];omega,?_,rfl,rfl,rfl⟩ (wf)
    ·have:=iQ.out;omega
    ·rw[hle.out];congr 1;omega
   ·rw[af hu]at hca hle;rw[hle];replace hle:=Xj hle;exact bc;all_goals exact dg
theorem rd {v:Vpc}(hk:VpcOK v){s:Sbn}(hs:s∈v.subs):s.at_.right=true/\(s.faces.flatMap (·.addrs)).Nodup/\(s.faces.Pairwise fun a b=>a.id < b.id)/\∀f∈s.faces,lB s.at_ f=true:=by
 have h:=hk.subs s hs;unfold nE fJ dI at h;simp only[Xt,XU,XA,decide_eq_true_eq,gE]at h;obtain⟨-,⟨r,-,hr⟩,h1,h2,h3⟩:=h;exact⟨(fe.1 hr).1,h2,h3,h1⟩
theorem gn {α:Type}{p:α->Bool}{l:List α}{i:Nat}(h:l.findIdx? p=some i):∃pre x post,l=pre++x::post/\pre.length=i/\p x=true/\l[i]? =some x:=by
 obtain⟨hlt,hp,-⟩:=XI.1 h;exact⟨l.take i,l[i],l.drop (i+1),by rw[F',YK],by rw[Xp];omega,hp,Xk hlt⟩
def lQ (s:Sbn)(id:Int):Int:=
 if cB id=false then 3 else if (s.faces.any fun f=>f.id==id)=true then 6 else if s.faces.length=8 then 2 else if (eU s).isSome=false then 8 else 0
def iu (v:Vpc)(sub id:Int):Vpc × Int × Int:=
 if bT v≠0 then (Vpc.zero,0,bT v)else
 match v.subs.findIdx? (fun s=>s.id==sub)with
 |none=>(Vpc.zero,0,5)
 |some i=>match v.subs[i]? with
  |none=>(Vpc.zero,0,5)
  |some s=>if lQ s id≠0 then (Vpc.zero,0,lQ s id)else ({v with subs:=v.subs.set i {s with faces:=dv (·.id) ⟨id,[(eU s).getD 0]⟩ s.faces}},(eU s).getD 0,0)
theorem UC (v:Vpc)(sub id:Int):ai prog 110 [.agg (ax v),.v (.int .i64 sub),.v (.int .i64 id)] (.tup [.agg (ax (iu v sub id).1),.v (.int .i64 (iu v sub id).2.1),.v (.int .i64 (iu v sub id).2.2)]):=by
 obtain⟨R,hR⟩:∃R,R=iu v sub id:=⟨_,rfl⟩;rw[<-hR];replace hR:=Xj hR;by_cases hc:bT v=0
 ·have hk:=aY hc;have iK:=xO v sub id hk.n6 (fun s hs=>(hk.n8 s hs).1);unfold zL at iK;cases hf:v.subs.findIdx? (fun s=>s.id==sub)with
  |none=>
   have cT:=mD v hc hk.n4 hk.n6 hk.n8;rw[hf]at iK;have hr:R=(Vpc.zero,0,5):=by rw[hR.out];unfold iu;rw[af (by simpa using hc),hf]
   rw[hr];clear hr hR hf hc hk;refine pj func110 ntmps110 results110 ?_;have z1z:=Ln.mk (ls:=[]) (cT);refine ap ?_<;>intros;exact dg
  |some i=>
   obtain⟨pre,s,post,hv,jC,-,hs⟩:=gn hf;have lR:=Xl hs;obtain⟨s1,s2,s3,s4⟩:=rd hk lR;have jF:=hk.n8 s lR;have cT:=zK v pre post s hv hc hk.n4 hk.n6 hk.n8;have hle:=KU s jF.1 jF.2 s1 s2;have hid:=mg id;have jY:=gq (fun f=>f.id==id) s.faces;have mZ:decide ((i:Int) < 0)=false:=ah;have aQ:R=if lQ s id≠0 then (Vpc.zero,0,lQ s id)else ({v with subs:=pre++{s with faces:=dv (·.id) ⟨id,[(eU s).getD 0]⟩ s.faces}::post},(eU s).getD 0,0):=by
    rw[hR.out];unfold iu;rw[af (by simpa using hc),hf];simp only;rw[hs];simp only;rw[hv,<-jC,Yu _ _ (Xz _),YF,XQ]
   rw[hf]at iK;simp only at iK;unfold vE at iK;rw[hs]at iK;simp only[ax,hv,Xo,Xm,aX]at iK;have rV:v.subs.length=pre.length+1+post.length:=by rw[hv];simp;omega
   subst jC;simp only[aX]at hle;by_cases bL:lQ s id≠0
   ·rw[aj bL]at aQ;unfold lQ at aQ bL;generalize cB id=I at*;generalize cv (fun f=>f.id==id) s.faces=IX at*;generalize (s.faces.any fun f=>f.id==id)=M at*;generalize eU s=LS at*;have hl4:((s.faces.length:Int)==8)=decide (s.faces.length=8):=by rw[Yk];simp;omega
    replace aQ:=Xj aQ;replace bL:=Xj bL;clear hR hc hk hf hs lR hv;refine pj func110 ntmps110 results110 ?_;have z1z:=@cy.eq_1;have z2z:=Ln.mk (ls:=[]) (cT);refine ft ?_ ?_ ?_ ?_ ?_ ?_ ?_ ?_<;>first|(with_reducible exact True.intro)|intros
    all_goals
     have h1:=aQ.out;have h2:=bL.out;clear iK hid hle cT;first
      |(exfalso;grind)
      |(rw[show R=(Vpc.zero,0,3) from (by rw[h1];grind)];exact dg)
      |(rw[show R=(Vpc.zero,0,6) from (by rw[h1];grind)];exact dg)
      |(rw[show R=(Vpc.zero,0,2) from (by rw[h1];grind)];exact dg)
      |(rw[show R=(Vpc.zero,0,8) from (by rw[h1];grind)];exact dg)
   ·rw[af bL]at aQ;have hg:lQ s id=0:=by simpa using bL
    obtain⟨g1,g2,g3,g4⟩:cB id=true/\(s.faces.any fun f=>f.id==id)=false/\s.faces.length≠8/\(eU s).isSome=true:=by
     unfold lQ at hg;generalize (s.faces.any fun f=>f.id==id)=M at*;grind
    obtain⟨a,ha⟩:=Zo.1 g4;have bH:∀f∈s.faces,f.id≠(⟨id,[a]⟩:Fce).id:=fun f hf=>by have:=Yh.1 g2 f hf;simpa using this
    have pF:=Nr (l:=s.faces++[⟨id,[a]⟩]) (l':=dv (·.id) ⟨id,[a]⟩ s.faces) (s.faces.length+1) ah (gF _ _ _) (im s3 bH) aK;rw[ha]at hle aQ;rw[g1]at hid;rw[g2]at jY;simp only[Yp,YM]at hle aQ;have hl4:((s.faces.length:Int)==8)=false:=aK;have j7:s.faces.length+1<=100:=aa;simp only[Xo,Xm,Xr]at pF;rw[aQ];clear hR aQ hc hk bH hg bL hf hs lR hv g4 ha;refine pj func110 ntmps110 results110 ?_;have z1z:=@cy.eq_1;have z2z:=Ln.mk (ls:=[]) (cT);have z3z:=Ln.mk (ls:=[8]) (pF);refine ap ?_<;>intros;all_goals(simp only[ax,aX,Xo,Xm];exact dg)
 ·have cT:=mC v hc;have h1:(bT v !=0)=true:=by simpa using hc
  have hr:R=(Vpc.zero,0,bT v):=by rw[hR.out];unfold iu;rw[aj hc]
  rw[hr];replace hr:=Xj hr;refine pj func110 ntmps110 results110 ?_;have z1z:=Ln.mk (ls:=[]) (cT);refine ap ?_<;>intros;exact dg
section
open Go.Proofs Go.Shelf
theorem Bi (F:Array Int)(cur:Array Value)(h:F.size<=cur.size):(Sort.putCells (Value.int .i64) 0 F cur).toList.take F.size=F.toList.map (Value.int .i64)/\(Sort.putCells (Value.int .i64) 0 F cur).size=cur.size:=a4h
theorem QM {l l':List Int}(hp:l'.Perm l)(hs:l'.Pairwise fun x y=>x < y):(l.mergeSort fun x y=>decide (x<=y))=l':=by
 refine List.Perm.eq_of_pairwise (le:=fun x y:Int=>x<=y) (fun a b _ _ h1 h2=>by omega) ?_ (hs.imp fun h=>by omega) ((List.mergeSort_perm l _).trans hp.symm);have:=List.pairwise_mergeSort (le:=fun x y:Int=>decide (x<=y)) (fun a b c h1 h2=>by simp at*;omega) (fun a b=>by simp;omega) l;exact this.imp fun h=>by simpa using h
theorem Ns {P:Program}{ρ:Ren}(L:SlLaysN.n53 P ρ){f E g:Nat}(hf:ρ.f 53=f)(Vo:yp P f){l l':List Int}(rC:l≠[])(hp:l'.Perm l)(hs:l'.Pairwise fun x y=>x < y)(cL:l.length<=1000000):
 MSpec P f [.own 0 g] [.row E 1 g (ab (l.map cF))] (.d (.tup [])) [.row E 1 g (ab (l'.map cF))]:=by
 refine⟨Vo,Xz _,by simp[aq,au],by simp[aH,aR,aC],fun X hP hn hm w c vs hr mL=>?_⟩;have bB:=mL.1;match vs,bB with
 |[v0],_=>
  have r0:=mL.2 0 _ v0 rfl rfl;have bH:ab (l.map cF)≠[]:=by simpa[ab]using rC
  have bp:=hr.chunk 0;have gX:∀m:List Int,(ab (m.map cF)).flatten=m.map fun a=>PV.d (.v (.int .i64 a)):=by
   intro m;rw[rI];induction m with
   |nil=>rfl
   |cons a m ih=>simp[cF,ih]
  cases r0 with
  |own _ _ _ ep h1=>
   obtain⟨gb,cap,rfl⟩:=nR bp ep bH;obtain⟨cur,xs,q1,q2,q3,q4,q5,q6,q7,q8,q9,q10,q11⟩:=eH bp ep bH;have rW:(ab (l.map cF)).length=l.length:=by rw[aG,XB]
   rw[rW]at q3 q4 q8 q10 ep ⊢;rw[Nat.mul_one]at q3 q4 q8 q11;rw[gX]at q2;have Ov:xs=l.map (Value.int .i64):=by
    apply Yj;intro j;by_cases hj:j < l.length
    ·obtain⟨u,e1⟩:∃u,xs[j]? =some u:=⟨_,Xk aa⟩;have:=q2.2 j (.d (.v (.int .i64 l[j]))) u (by rw[Xy,Xk hj];rfl) e1;rw[e1,Xy,Xk hj];cases cn this;rfl
    ·rw[XR aa,XR aK]
   have hH:Sort.Holds (Value.int .i64) w gb 0 l.toArray:=by
    intro j hj;have hj':j < l.length:=by simpa using hj
    have ck:∀o,w.cell? ⟨gb,o,none⟩=cur[o]? :=fun o=>by simp[YU,q1]
    refine⟨?_,fm q1⟩;rw[XE,ck,q4 j hj',Ov,Xy,Xk hj',getElem!_pos l.toArray j hj];simp
   have hg:gb < w.heap.size:=(Yz.1 q1).1;have jW:=AnyG.slices_Sort_int L gb 0 cap l w hH hg aa;rw[hf,QM hp hs]at jW;refine jW.mono fun e w' ⟨he,m,os,hw'⟩=>?_;have Sx:l'.length=l.length:=hp.length_eq;obtain⟨p1,p2⟩:=Bi l'.toArray cur aK;have vU:0 < cap:=by have:=Zl.2 rC;omega
   have hhb:w'.heap[gb]? =some (.cells (Sort.putCells (Value.int .i64) 0 l'.toArray cur) E (0,0)):=by
    rw[hw',Sort.heap_grow_old _ _ (by simpa using hg)];show (w.heap.modify gb (Sort.onCells _))[gb]? =_;rw[Y3,aj rfl,q1];rfl
   have dL:OneB w w' (some gb):=by
    refine⟨by rw[hw'];rfl,by rw[hw'];rfl,by rw[hw'];rfl,?_,fun b hb bH=>?_⟩
    ·rw[hw',Sort.size_grow,Sort.size_putRow,Sort.heap_ahead];omega
    ·rw[hw',Sort.heap_grow_old _ _ (by simpa using hb)];show (w.heap.modify gb (Sort.onCells _))[b]? =_;rw[Y3,af (fun e=>bH (by rw[e]))]
   have J1:∀r∈ab (l'.map cF),r.length=1:=fun r hr=>by
    obtain⟨q,hq,rfl⟩:=jo hr;obtain⟨x,-,rfl⟩:=XN.1 hq;rfl
   have qE:bI c w (ab (l'.map cF)).flatten (l'.map (Value.int .i64)):=by
    rw[gX];refine⟨by simp,fun j d v hj hv=>?_⟩;rw[Xy,XJ]at hj hv;obtain⟨a,ha,rfl⟩:=hj;obtain⟨b,hb,rfl⟩:=hv;rw[ha]at hb;cases hb;exact .d _ _ (.v _)
   have HJ:=hr.put_row (w':=w') (k:=0) (rows':=ab (l'.map cF)) (xs':=l'.map (Value.int .i64)) rfl ep (by rw[cR vU];exact dL) (by
    rw[aG,XB,Sx];exact .row gb l.length cap _ _ vU hhb q10 q9 (by rw[p2,Nat.mul_one];exact q11) (by rw[XB,Nat.mul_one];omega) (by
     rw[Nat.mul_one,<-Sx,show l'.length=l'.toArray.size by simp,p1])) qE J1 (mc (enc:=cF) (fun _=>rfl) l')
   have oE:cH [(0,Chunk.row E 1 g (ab (l'.map cF)))] (bS [] [.row E 1 g (ab (l.map cF))]).heap=aD [.row E 1 g (ab (l'.map cF))]:=a5c
   rw[oE]at HJ;refine⟨_,c,he,.d _ _ (.tup [] [] rfl fun j d x h=>by simp at h),HJ⟩
theorem QN {l l':List Int}(g:Nat)(rC:l≠[])(hp:l'.Perm l)(hs:l'.Pairwise fun x y=>x < y)(cL:l.length<=1000000):MSpec prog 201 [.own 0 g] [.row 3 1 g (ab (l.map cF))] (.d (.tup [])) [.row 3 1 g (ab (l'.map cF))]:=
 Ns sortInt rfl (bY func201 aJ rfl) rC hp hs cL
end
theorem a5F {p:Prop}(h:p:=by
 have:=s4 f mY;unfold lB at this;simp only[Xt,gE]at this;exact this.2.2.1):p:=h
def eh (v:Vpc)(sub id:Int):Vpc × Int:=
 if bT v≠0 then (Vpc.zero,bT v)else
 match v.subs.findIdx? (fun s=>s.id==sub)with
 |none=>(Vpc.zero,5)
 |some i=>match v.subs[i]? with
  |none=>(Vpc.zero,5)
  |some s=>match s.faces.findIdx? (fun f=>f.id==id)with
   |none=>(Vpc.zero,5)
   |some k=>({v with subs:=v.subs.set i {s with faces:=s.faces.eraseIdx k}},0)
theorem QO (v:Vpc)(sub id:Int):ai prog 112 [.agg (ax v),.v (.int .i64 sub),.v (.int .i64 id)] (.tup [.agg (ax (eh v sub id).1),.v (.int .i64 (eh v sub id).2)]):=by
 obtain⟨R,hR⟩:∃R,R=eh v sub id:=⟨_,rfl⟩;rw[<-hR];replace hR:=Xj hR;by_cases hc:bT v=0
 ·have hk:=aY hc;have iK:=xO v sub id hk.n6 (fun s hs=>(hk.n8 s hs).1);have Bt:decide ((-1:Int) < 0)=true:=rfl;unfold zL at iK;cases hf:v.subs.findIdx? (fun s=>s.id==sub)with
  |none=>
   have cT:=mD v hc hk.n4 hk.n6 hk.n8;rw[hf]at iK;have hr:R=(Vpc.zero,5):=by rw[hR.out];unfold eh;rw[af (by simpa using hc),hf]
   rw[hr];clear hr hR hf hc hk;refine pj func112 ntmps112 results112 ?_;have z1z:=Ln.mk (ls:=[]) (cT);refine ap ?_<;>intros;exact dg
  |some i=>
   obtain⟨pre,s,post,hv,jC,-,hs⟩:=gn hf;have lR:=Xl hs;have jF:=hk.n8 s lR;have cT:=zK v pre post s hv hc hk.n4 hk.n6 hk.n8;rw[hf]at iK;simp only at iK;unfold vE at iK;rw[hs]at iK;simp only[ax,hv,Xo,Xm,aX]at iK;unfold cv at iK;have rV:v.subs.length=pre.length+1+post.length:=by rw[hv];simp;omega
   cases hg:s.faces.findIdx? (fun f=>f.id==id)with
   |none=>
    rw[hg]at iK;have hr:R=(Vpc.zero,5):=by rw[hR.out];unfold eh;rw[af (by simpa using hc),hf];simp only;rw[hs];simp only;rw[hg]
    rw[hr];subst jC;clear hr hR hc hk hf hs lR hv hg;refine pj func112 ntmps112 results112 ?_;have z1z:=@cy.eq_1;have z2z:=Ln.mk (ls:=[]) (cT);refine ap ?_<;>intros;exact dg
   |some k=>
    rw[hg]at iK;have xT:k < s.faces.length:=(XI.1 hg).1;have hr:R=({v with subs:=pre++{s with faces:=s.faces.eraseIdx k}::post},0):=by
     rw[hR.out];unfold eh;rw[af (by simpa using hc),hf];simp only;rw[hs];simp only;rw[hg];simp only;rw[hv,<-jC,Yu _ _ (Xz _),YF,XQ]
    have hd:=GF (enc:=cl) s.faces k (k+1) s.faces.length xT rfl;have db:=wi k aa;have hk0:decide ((k:Int) < 0)=false:=ah;rw[hr];subst jC;clear hr hR hc hk hf hs lR hv hg;refine pj func112 ntmps112 results112 ?_;have z1z:=@cy.eq_1;have z2z:=Ln.mk (ls:=[]) (cT);have z3z:=Ln.mk (ls:=[8]) (hd);refine ap ?_<;>intros;all_goals(first|omega|(simp only[ax,aX,Xo,Xm];exact dg))
 ·have cT:=mC v hc;have hfz:=vF sub id;have h1:(bT v !=0)=true:=by simpa using hc
  have hr:R=(Vpc.zero,bT v):=by rw[hR.out];unfold eh;rw[aj hc]
  rw[hr];replace hr:=Xj hr;refine pj func112 ntmps112 results112 ?_;have z1z:=Ln.mk (ls:=[]) (cT);refine ap ?_<;>intros;exact dg
theorem sL {used:List Int}{p:Pfx}:∀{n:Nat}{x a:Int},gm used p n x=some a->a∉used/\jh p a=true
 |0,x,a,h=>by cases h
 |n+1,x,a,h=>by
  unfold gm at h;split at h
  ·rename_i hi;split at h
   ·exact sL h
   ·rename_i hu;cases h;exact⟨hu,hi⟩
  ·cases h
def gQ (v:Vpc)(sub id:Int):Vpc × Int × Int:=
 if bT v≠0 then (Vpc.zero,0,bT v)else
 match v.subs.findIdx? (fun s=>s.id==sub)with
 |none=>(Vpc.zero,0,5)
 |some i=>match v.subs[i]? with
  |none=>(Vpc.zero,0,5)
  |some s=>match s.faces.findIdx? (fun f=>f.id==id)with
   |none=>(Vpc.zero,0,5)
   |some k=>match s.faces[k]? with
    |none=>(Vpc.zero,0,5)
    |some f=>if f.addrs.length=4 then (Vpc.zero,0,2)else match eU s with
     |none=>(Vpc.zero,0,8)
     |some a=>({v with subs:=v.subs.set i {s with faces:=s.faces.set k {f with addrs:=dv (fun x=>x) a f.addrs}}},a,0)
theorem WZ (v:Vpc)(sub id:Int):ai prog 111 [.agg (ax v),.v (.int .i64 sub),.v (.int .i64 id)] (.tup [.agg (ax (gQ v sub id).1),.v (.int .i64 (gQ v sub id).2.1),.v (.int .i64 (gQ v sub id).2.2)]):=by
 obtain⟨R,hR⟩:∃R,R=gQ v sub id:=⟨_,rfl⟩;rw[<-hR];replace hR:=Xj hR;by_cases hc:bT v=0
 ·have hk:=aY hc;have iK:=xO v sub id hk.n6 (fun s hs=>(hk.n8 s hs).1);have Bt:decide ((-1:Int) < 0)=true:=rfl;unfold zL at iK;cases hf:v.subs.findIdx? (fun s=>s.id==sub)with
  |none=>
   have cT:=mD v hc hk.n4 hk.n6 hk.n8;rw[hf]at iK;have hr:R=(Vpc.zero,0,5):=by rw[hR.out];unfold gQ;rw[af (by simpa using hc),hf]
   rw[hr];clear hr hR hf hc hk;refine pj func111 ntmps111 results111 ?_;have z1z:=Ln.mk (ls:=[]) (cT);refine ap ?_<;>intros;exact dg
  |some i=>
   obtain⟨pre,s,post,hv,jC,-,hs⟩:=gn hf;have lR:=Xl hs;obtain⟨s1,s2,s3,s4⟩:=rd hk lR;have jF:=hk.n8 s lR;rw[hf]at iK;simp only at iK;unfold vE at iK;rw[hs]at iK;have rV:v.subs.length=pre.length+1+post.length:=by rw[hv];simp;omega
   cases hg:s.faces.findIdx? (fun f=>f.id==id)with
   |none=>
    have cT:=zK v pre post s hv hc hk.n4 hk.n6 hk.n8;simp only[ax,hv,Xo,Xm,aX]at iK;unfold cv at iK;rw[hg]at iK;have hr:R=(Vpc.zero,0,5):=by rw[hR.out];unfold gQ;rw[af (by simpa using hc),hf];simp only;rw[hs];simp only;rw[hg]
    rw[hr];subst jC;clear hr hR hc hk hf hs lR hv hg;refine pj func111 ntmps111 results111 ?_;have z1z:=@cy.eq_1;have z2z:=Ln.mk (ls:=[]) (cT);refine ap ?_<;>intros;exact dg
   |some k=>
    obtain⟨preF,f,postF,BB,EK,-,wg⟩:=gn hg;have mY:=Xl wg;have cT:=QJ v pre post s preF postF f hv BB hc hk.n4 hk.n6 hk.n8;have hle:=KU s jF.1 jF.2 s1 s2;have gX:=jF.2 f mY;simp only[aX,BB,Xo,Xm,cl]at hle;simp only[ax,hv,Xo,Xm,aX]at iK;unfold cv at iK;rw[hg]at iK;simp only[BB,Xo,Xm,cl]at iK;have a0D:s.faces.length=preF.length+1+postF.length:=by rw[BB];simp;omega
    have hk0:decide ((k:Int) < 0)=false:=ah;have aQ:R=if f.addrs.length=4 then ((Vpc.zero,0,2):Vpc × Int × Int)else match eU s with
     |none=>(Vpc.zero,0,8)
     |some a=>({v with subs:=pre++{s with faces:=preF++{f with addrs:=dv (fun x=>x) a f.addrs}::postF}::post},a,0):=by
     rw[hR.out];unfold gQ;rw[af (by simpa using hc),hf];simp only;rw[hs];simp only;rw[hg];simp only;rw[wg];simp only;split
     ·rfl
     ·cases eU s with
      |none=>rfl
      |some a=>
       simp only;rw[hv,<-jC,Yu _ _ (Xz _),YF,XQ];rw[BB,<-EK,Yu _ _ (Xz _),YF,XQ]
    by_cases h4:f.addrs.length=4
    ·rw[aj h4]at aQ;have h4b:((f.addrs.length:Int)==4)=true:=aK;rw[aQ];subst jC;subst EK;clear hR aQ hc hk hf hs lR hv hg wg mY;refine pj func111 ntmps111 results111 ?_;have z1z:=@cy.eq_1;have z2z:=@eB.eq_1;have z3z:=Ln.mk (ls:=[]) (cT);refine ap ?_<;>intros;all_goals(first|omega|exact dg)
    ·rw[af h4]at aQ;have h4b:((f.addrs.length:Int)==4)=false:=aK;cases hl:eU s with
     |none=>
      rw[hl]at aQ hle;simp only[Option.getD_none,Zg]at hle;rw[aQ];subst jC;subst EK;clear hR aQ hc hk hf hs lR hv hg wg mY;refine pj func111 ntmps111 results111 ?_;have z1z:=@cy.eq_1;have z2z:=@eB.eq_1;have z3z:=Ln.mk (ls:=[]) (cT);refine ap ?_<;>intros;all_goals(first|omega|exact dg)
     |some a=>
      rw[hl]at aQ hle;simp only[Yp,YM]at hle;have Sf:a∉f.addrs:=fun h=>(sL hl).1 (ZY.2 ⟨f,mY,h⟩);have xE:f.addrs.Pairwise fun x y=>x < y:=a5F
      have pF:=QN (l:=f.addrs++[a]) (l':=dv (fun x=>x) a f.addrs) 2 ah (gF _ _ _) (im xE (fun y hy e=>Sf (e ▸ hy))) aK;simp only[Xo,Xm,Xr]at pF;have j7:f.addrs.length+1<=100:=aa;rw[aQ];subst jC;subst EK;clear hR aQ hc hk hf hs lR hv hg wg mY Sf xE hl;refine pj func111 ntmps111 results111 ?_;have z1z:=@cy.eq_1;have z2z:=@eB.eq_1;have z3z:=Ln.mk (ls:=[]) (cT);have z4z:=Ln.mk (ls:=[10]) (pF);refine ap ?_<;>intros;all_goals(first|omega|(simp only[ax,aX,cl,Xo,Xm];exact dg))
 ·have cT:=mC v hc;have hfz:=vF sub id;have h1:(bT v !=0)=true:=by simpa using hc
  have hr:R=(Vpc.zero,0,bT v):=by rw[hR.out];unfold gQ;rw[aj hc]
  rw[hr];replace hr:=Xj hr;refine pj func111 ntmps111 results111 ?_;have z1z:=Ln.mk (ls:=[]) (cT);refine ap ?_<;>intros;exact dg
def wkD (b:Bok)(n:Net)(c:Cmd)(a:Ans):List D:=[.v (.int .i64 b.tick),.sl 9 (b.pools.map an),.sl 3 (n.vpcs.map ax),.sl 2 (n.links.map cP),.v (.int .i64 c.op),.v (.int .i64 c.a),.v (.int .i64 c.b),.v (.int .i64 c.c),.v (.int .i64 c.at_.at_),.v (.int .i64 c.at_.len),.v (.int .i64 c.rule.min),.v (.int .i64 c.rule.max),.v (.int .i64 c.rule.usual),.v (.int .i64 c.rule.cool),.v (.int .i64 a.err),.v (.int .i64 a.at_.at_),.v (.int .i64 a.at_.len),.v (.int .i64 a.n)]
theorem zM (b:Bok)(n:Net)(c:Cmd)(a:Ans)(v:Vpc):ai prog 182 [.agg (ax v),.ept [.ept (wkD b n c a)]] (.v (.bool (v.id==c.a))):=by
 unfold wkD;refine pj func182 ntmps182 results182 ?_;exact bc
theorem Nt (b:Bok)(n:Net)(c:Cmd)(h6:n.vpcs.length<=1000000000)(k:Nat)(hk:cv (fun v=>v.id==c.a) n.vpcs=k)(hlt:k < n.vpcs.length):
 MSpec prog 105 [.ptr 0 0] [.box 128 (ke b (.own 1 n.vpcs.length) (.d (.sl 2 (n.links.map cP))) c .zero),.row 88 3 n.vpcs.length (ab (n.vpcs.map ax))] (.rp 1 n.vpcs.length 3 k 0)
  [.box 128 (ke b (.own 1 n.vpcs.length) (.d (.sl 2 (n.links.map cP))) c .zero),.row 88 3 n.vpcs.length (ab (n.vpcs.map ax))]:=by
 have hx:=zu jI (fun v=>v.id==c.a) n.vpcs 182 [.ept [.ept (wkD b n c .zero)]] h6 (fun v _=>zM b n c .zero v);unfold wkD at hx;rw[hk]at hx;clear hk;have e1:decide ((k:Int) < 0)=false:=ah;have eo:(k:Int) < (n.vpcs.length:Int):=aa;refine jN ag am func105 rfl ntmps105 results105 aJ ah (by simp[aq,au]) (by simp[aH,aR,aq,au,ke,bu,aC]) ?_;refine ap ?_;exact wf
theorem Jg (b:Bok)(n:Net)(c:Cmd)(h6:n.vpcs.length<=1000000000)(hk:cv (fun v=>v.id==c.a) n.vpcs < 0):
 MSpec prog 105 [.ptr 0 0] [.box 128 (ke b (.own 1 n.vpcs.length) (.d (.sl 2 (n.links.map cP))) c .zero),.row 88 3 n.vpcs.length (ab (n.vpcs.map ax))] (.d (.v (.pointer none)))
  [.box 128 (ke b (.own 1 n.vpcs.length) (.d (.sl 2 (n.links.map cP))) c .zero),.row 88 3 n.vpcs.length (ab (n.vpcs.map ax))]:=by
 have hx:=zu jI (fun v=>v.id==c.a) n.vpcs 182 [.ept [.ept (wkD b n c .zero)]] h6 (fun v _=>zM b n c .zero v);unfold wkD at hx;have e1:decide (cv (fun v=>v.id==c.a) n.vpcs < 0)=true:=by simpa using hk
 replace hk:=Xj hk;generalize cv (fun v=>v.id==c.a) n.vpcs=i at*;refine jN ag am func105 rfl ntmps105 results105 aJ ah (by simp[aq,au]) (by simp[aH,aR,aq,au,ke,bu,aC]) ?_;refine ap ?_;exact wf
def nG (b:Bok)(n:Net)(c:Cmd)(i:Nat)(v:Vpc):Bok × Net × Ans:=
 if c.op=8 then
  if (cS b c.b c.c c.a).2.2=0 then ((cS b c.b c.c c.a).1,(iJ n c.a ⟨(cS b c.b c.c c.a).2.1,c.b⟩).1,⟨(iJ n c.a ⟨(cS b c.b c.c c.a).2.1,c.b⟩).2,(cS b c.b c.c c.a).2.1,0⟩)
  else ((cS b c.b c.c c.a).1,n,⟨(cS b c.b c.c c.a).2.2,(cS b c.b c.c c.a).2.1,0⟩)
 else if c.op=9 then
  if (d6 v c.at_).2.2=0 then ((fN b (d6 v c.at_).2.1.pool (d6 v c.at_).2.1.at_).1,{n with vpcs:=n.vpcs.set i (d6 v c.at_).1},.er (fN b (d6 v c.at_).2.1.pool (d6 v c.at_).2.1.at_).2)
  else (b,{n with vpcs:=n.vpcs.set i (d6 v c.at_).1},.er (d6 v c.at_).2.2)
 else if c.op=10 then (b,{n with vpcs:=n.vpcs.set i (pD v c.b c.at_).1},.er (pD v c.b c.at_).2)
 else if c.op=11 then (b,{n with vpcs:=n.vpcs.set i (fR v c.b).1},.er (fR v c.b).2)
 else if c.op=12 then (b,{n with vpcs:=n.vpcs.set i (iu v c.b c.c).1},⟨(iu v c.b c.c).2.2,⟨0,0⟩,(iu v c.b c.c).2.1⟩)
 else if c.op=13 then (b,{n with vpcs:=n.vpcs.set i (gQ v c.b c.c).1},⟨(gQ v c.b c.c).2.2,⟨0,0⟩,(gQ v c.b c.c).2.1⟩)
 else (b,{n with vpcs:=n.vpcs.set i (eh v c.b c.c).1},.er (eh v c.b c.c).2)
def kA (b:Bok)(n:Net)(c:Cmd):Bok × Net × Ans:=
 if cv (fun v=>v.id==c.a) n.vpcs < 0 then (b,n,.er 5)else
 match n.vpcs[(cv (fun v=>v.id==c.a) n.vpcs).toNat]? with
 |some v=>nG b n c (cv (fun v=>v.id==c.a) n.vpcs).toNat v
 |none=>(b,n,.er 5)
theorem QP (b:Bok)(n:Net)(c:Cmd)(h6:n.vpcs.length<=1000000000)(hk:cv (fun v=>v.id==c.a) n.vpcs < 0):
 MSpec prog 53 [.ptr 0 0] [.box 128 (ke b (.own 1 n.vpcs.length) (.d (.sl 2 (n.links.map cP))) c .zero),.row 88 3 n.vpcs.length (ab (n.vpcs.map ax))] (.d (.tup []))
  [.box 128 (ke b (.d (.sl 3 (n.vpcs.map ax))) (.d (.sl 2 (n.links.map cP))) c (.er 5)),.gone]:=by
 have hw:=Lr.mk (ls:=[0,1]) (Jg b n c h6 hk);simp only[ke]at hw;clear hk h6;refine jN ag am func53 rfl ntmps53 results53 aJ ah (by simp[aq,au]) (by simp[aH,aR,aq,au,ke,bu,aC]) ?_;refine ap ?_;refine(av 1 n.vpcs.length 88 3 (n.vpcs.map ax) rfl).trans ?_;simp only[jq,fz,ij,gM,iS,gI,aT,bW,ce,Xm,Xr,XL,XK,reduceIte,and_true,true_and,and_self,and_false,false_and,XE,XT,reduceCtorEq];exact wf
theorem QQ (b:Bok)(n:Net)(c:Cmd)(hz:∀p∈b.pools,p.leases.length<=3518437208882)(h6:n.vpcs.length<=1000000000)(k:Nat)(hk:cv (fun v=>v.id==c.a) n.vpcs=k)(v:Vpc)(hv:n.vpcs[k]? =some v)(ho:8<=c.op/\c.op<=14):
 MSpec prog 53 [.ptr 0 0] [.box 128 (ke b (.own 1 n.vpcs.length) (.d (.sl 2 (n.links.map cP))) c .zero),.row 88 3 n.vpcs.length (ab (n.vpcs.map ax))] (.d (.tup []))
  [.box 128 (ke (nG b n c k v).1 (.d (.sl 3 ((nG b n c k v).2.1.vpcs.map ax))) (.d (.sl 2 ((nG b n c k v).2.1.links.map cP))) c (nG b n c k v).2.2),.gone]:=by
 have hlt:=(Xn.1 hv).1;have eo:(k:Int) < (n.vpcs.length:Int):=aa;have hw:=Lr.mk (ls:=[0,1]) (Nt b n c h6 k hk hlt);simp only[ke]at hw;have mP:c.op=8\/c.op=9\/c.op=10\/c.op=11\/c.op=12\/c.op=13\/c.op=14:=aa;clear ho hk h6;unfold nG;rcases mP with h1|h1|h1|h1|h1|h1|h1
 ·rw[aj h1];have hp:=Qp b c.b c.c c.a hz;generalize cS b c.b c.c c.a=R at*;replace hz:=Xj hz;rw[h1]at hw;by_cases h2:R.2.2=0
  ·rw[aj h2];have hg:=Ln.mk (ls:=[1]) (vm (Uq n c.a ⟨R.2.1,c.b⟩) (args:=[.agg [.own 0 n.vpcs.length,.d (.sl 2 (n.links.map cP))],.d (.v (.int .i64 c.a)),.d (.agg (bE ⟨R.2.1,c.b⟩))]) (h0:=[.row 88 3 n.vpcs.length (ab (n.vpcs.map ax))]) (by simp[aq,au]) (by simp[aH,aR,aC]) (by simp[vw,cI,bx,aD,eO,cQ]) (by simp[tc,j3,cY,aD,oO]));generalize iJ n c.a ⟨R.2.1,c.b⟩=G at*;refine jN ag am func53 rfl ntmps53 results53 aJ ah (by simp[aq,au]) (by simp[aH,aR,aq,au,ke,bu,aC]) ?_;refine ap ?_;exact wf
  ·rw[af h2];have e2:(R.2.2==0)=false:=by simpa using h2
   replace h2:=Xj h2;refine jN ag am func53 rfl ntmps53 results53 aJ ah (by simp[aq,au]) (by simp[aH,aR,aq,au,ke,bu,aC]) ?_;refine ap ?_;refine(av 1 n.vpcs.length 88 3 (n.vpcs.map ax) rfl).trans ?_;simp only[jq,fz,ij,gM,iS,gI,aT,bW,ce,Xm,Xr,XL,XK,reduceIte,and_true,true_and,and_self,and_false,false_and,XE,XT,reduceCtorEq];exact wf
 ·rw[af aa,aj h1];have hp:=UA v c.at_;generalize d6 v c.at_=R at*;have hg:=Qq b R.2.1.pool R.2.1.at_ hz;replace hz:=Xj hz;rw[h1]at hw;by_cases h2:R.2.2=0
  ·rw[aj h2];generalize fN b R.2.1.pool R.2.1.at_=G at*;have bV:(ab (n.vpcs.map ax)).set k [.d (.v (.int .i64 R.1.id)),.d (.sl 3 (R.1.ranges.map bE)),.d (.sl 4 (R.1.subs.map aX))]=ab ((n.vpcs.set k R.1).map ax):=bU ax n.vpcs k R.1;refine jN ag am func53 rfl ntmps53 results53 aJ ah (by simp[aq,au]) (by simp[aH,aR,aq,au,ke,bu,aC]) ?_;refine ap ?_;refine(av 1 n.vpcs.length 88 3 ((n.vpcs.set k R.1).map ax) rfl).trans ?_;simp only[jq,fz,ij,gM,iS,gI,aT,bW,ce,Xm,Xr,XL,XK,reduceIte,and_true,true_and,and_self,and_false,false_and,XE,XT,reduceCtorEq];exact wf
  ·rw[af h2];have e2:(R.2.2==0)=false:=by simpa using h2
   replace h2:=Xj h2;clear hg;have bV:(ab (n.vpcs.map ax)).set k [.d (.v (.int .i64 R.1.id)),.d (.sl 3 (R.1.ranges.map bE)),.d (.sl 4 (R.1.subs.map aX))]=ab ((n.vpcs.set k R.1).map ax):=bU ax n.vpcs k R.1;refine jN ag am func53 rfl ntmps53 results53 aJ ah (by simp[aq,au]) (by simp[aH,aR,aq,au,ke,bu,aC]) ?_;refine ap ?_;refine(av 1 n.vpcs.length 88 3 ((n.vpcs.set k R.1).map ax) rfl).trans ?_;simp only[jq,fz,ij,gM,iS,gI,aT,bW,ce,Xm,Xr,XL,XK,reduceIte,and_true,true_and,and_self,and_false,false_and,XE,XT,reduceCtorEq];exact wf
 ·rw[af aa,af aa,aj h1];have hp:=WY v c.b c.at_;generalize pD v c.b c.at_=R at*;replace hz:=Xj hz;rw[h1]at hw;have bV:(ab (n.vpcs.map ax)).set k [.d (.v (.int .i64 R.1.id)),.d (.sl 3 (R.1.ranges.map bE)),.d (.sl 4 (R.1.subs.map aX))]=ab ((n.vpcs.set k R.1).map ax):=bU ax n.vpcs k R.1;refine jN ag am func53 rfl ntmps53 results53 aJ ah (by simp[aq,au]) (by simp[aH,aR,aq,au,ke,bu,aC]) ?_;refine ap ?_;refine(av 1 n.vpcs.length 88 3 ((n.vpcs.set k R.1).map ax) rfl).trans ?_;simp only[jq,fz,ij,gM,iS,gI,aT,bW,ce,Xm,Xr,XL,XK,reduceIte,and_true,true_and,and_self,and_false,false_and,XE,XT,reduceCtorEq];exact wf
 ·rw[af aa,af aa,af aa,aj h1];have hp:=UB v c.b;generalize fR v c.b=R at*;replace hz:=Xj hz;rw[h1]at hw;have bV:(ab (n.vpcs.map ax)).set k [.d (.v (.int .i64 R.1.id)),.d (.sl 3 (R.1.ranges.map bE)),.d (.sl 4 (R.1.subs.map aX))]=ab ((n.vpcs.set k R.1).map ax):=bU ax n.vpcs k R.1;refine jN ag am func53 rfl ntmps53 results53 aJ ah (by simp[aq,au]) (by simp[aH,aR,aq,au,ke,bu,aC]) ?_;refine ap ?_;refine(av 1 n.vpcs.length 88 3 ((n.vpcs.set k R.1).map ax) rfl).trans ?_;simp only[jq,fz,ij,gM,iS,gI,aT,bW,ce,Xm,Xr,XL,XK,reduceIte,and_true,true_and,and_self,and_false,false_and,XE,XT,reduceCtorEq];exact wf
 ·rw[af aa,af aa,af aa,af aa,aj h1];have hp:=UC v c.b c.c;generalize iu v c.b c.c=R at*;replace hz:=Xj hz;rw[h1]at hw;have bV:(ab (n.vpcs.map ax)).set k [.d (.v (.int .i64 R.1.id)),.d (.sl 3 (R.1.ranges.map bE)),.d (.sl 4 (R.1.subs.map aX))]=ab ((n.vpcs.set k R.1).map ax):=bU ax n.vpcs k R.1;refine jN ag am func53 rfl ntmps53 results53 aJ ah (by simp[aq,au]) (by simp[aH,aR,aq,au,ke,bu,aC]) ?_;refine ap ?_;refine(av 1 n.vpcs.length 88 3 ((n.vpcs.set k R.1).map ax) rfl).trans ?_;simp only[jq,fz,ij,gM,iS,gI,aT,bW,ce,Xm,Xr,XL,XK,reduceIte,and_true,true_and,and_self,and_false,false_and,XE,XT,reduceCtorEq];exact wf
 ·rw[af aa,af aa,af aa,af aa,af aa,aj h1];have hp:=WZ v c.b c.c;generalize gQ v c.b c.c=R at*;replace hz:=Xj hz;rw[h1]at hw;have bV:(ab (n.vpcs.map ax)).set k [.d (.v (.int .i64 R.1.id)),.d (.sl 3 (R.1.ranges.map bE)),.d (.sl 4 (R.1.subs.map aX))]=ab ((n.vpcs.set k R.1).map ax):=bU ax n.vpcs k R.1;refine jN ag am func53 rfl ntmps53 results53 aJ ah (by simp[aq,au]) (by simp[aH,aR,aq,au,ke,bu,aC]) ?_;refine ap ?_;refine(av 1 n.vpcs.length 88 3 ((n.vpcs.set k R.1).map ax) rfl).trans ?_;simp only[jq,fz,ij,gM,iS,gI,aT,bW,ce,Xm,Xr,XL,XK,reduceIte,and_true,true_and,and_self,and_false,false_and,XE,XT,reduceCtorEq];exact wf
 ·rw[af aa,af aa,af aa,af aa,af aa,af aa];have hp:=QO v c.b c.c;generalize eh v c.b c.c=R at*;replace hz:=Xj hz;rw[h1]at hw;have bV:(ab (n.vpcs.map ax)).set k [.d (.v (.int .i64 R.1.id)),.d (.sl 3 (R.1.ranges.map bE)),.d (.sl 4 (R.1.subs.map aX))]=ab ((n.vpcs.set k R.1).map ax):=bU ax n.vpcs k R.1;refine jN ag am func53 rfl ntmps53 results53 aJ ah (by simp[aq,au]) (by simp[aH,aR,aq,au,ke,bu,aC]) ?_;refine ap ?_;refine(av 1 n.vpcs.length 88 3 ((n.vpcs.set k R.1).map ax) rfl).trans ?_;simp only[jq,fz,ij,gM,iS,gI,aT,bW,ce,Xm,Xr,XL,XK,reduceIte,and_true,true_and,and_self,and_false,false_and,XE,XT,reduceCtorEq];exact wf
theorem vG {α:Type}(p:α->Bool)(l:List α):cv p l < 0\/∃(k:Nat) (x:α),cv p l=k/\l[k]? =some x:=by
 unfold cv;cases h:l.findIdx? p with
 |none=>left;simp
 |some k=>
  right;have hk:=(XI.1 h).1;exact⟨k,_,rfl,Xk hk⟩
theorem UD (b:Bok)(n:Net)(c:Cmd)(hz:∀p∈b.pools,p.leases.length<=3518437208882)(h6:n.vpcs.length<=1000000000)(ho:8<=c.op/\c.op<=14):
 MSpec prog 53 [.ptr 0 0] [.box 128 (ke b (.own 1 n.vpcs.length) (.d (.sl 2 (n.links.map cP))) c .zero),.row 88 3 n.vpcs.length (ab (n.vpcs.map ax))] (.d (.tup []))
  [.box 128 (ke (kA b n c).1 (.d (.sl 3 ((kA b n c).2.1.vpcs.map ax))) (.d (.sl 2 ((kA b n c).2.1.links.map cP))) c (kA b n c).2.2),.gone]:=by
 unfold kA;rcases vG (fun v:Vpc=>v.id==c.a) n.vpcs with h|⟨k,v,hk,hv⟩
 ·rw[aj h];exact QP b n c h6 h
 ·rw[hk,af aa,Int.toNat_natCast,hv];exact QQ b n c hz h6 k hk v hv ho
theorem a4m {p:Prop}(h:p:=by
 rw[af (by simpa using he)];have e0:(X.2.err !=0)=false:=by simpa using he
 replace he:=Xj he;refine pj func24 ntmps24 results24 ?_;first|exact bc|(refine ap ?_;exact dz)):p:=h
theorem a4o {p:Prop}(h:p:=by
 rw[aj (by simpa using he)];have e0:(X.2.err !=0)=true:=by simpa using he
 replace he:=Xj he;refine pj func24 ntmps24 results24 ?_;first|exact bc|(refine ap ?_;exact dz)):p:=h
def D3 (s:Ste)(c:Cmd):Ste × Ans:=
 if 1<=c.op/\c.op<=6 then (⟨(oz s.book s.net.vpcs c).1,s.net⟩,(oz s.book s.net.vpcs c).2)
 else if CE c=true then (⟨s.book,(Bh s.book s.net c).1⟩,(Bh s.book s.net c).2)
 else if 8<=c.op/\c.op<=14 then (⟨(kA s.book s.net c).1,(kA s.book s.net c).2.1⟩,(kA s.book s.net c).2.2)
 else (s,.er 4)
def xq (s:Ste)(c:Cmd):Ste × Ans × Int:=
 if iI s≠0 then (.zero,.zero,iI s)
 else if (D3 s c).2.err≠0 then (s,.er (D3 s c).2.err,0)else ((D3 s c).1,(D3 s c).2,0)
theorem ub {s:Ste}(h:iI s=0):br s.book=0/\cN s.net=0:=by
 unfold iI at h;split at h
 ·rename_i h1;exact absurd h h1
 ·rename_i h1;split at h
  ·rename_i h2;exact absurd h h2
  ·rename_i h2;exact⟨by simpa using h1,by simpa using h2⟩
theorem a1n (s:Ste)(c:Cmd)(hz:∀p∈s.book.pools,p.leases.length<=3518437208882):ai prog 24 [.agg (eR s),.agg (jE c)] (.tup [.agg (eR (xq s c).1),.agg (p7 (xq s c).2.1),.v (.int .i64 (xq s c).2.2)]):=by
 have hc:=Gu s hz;unfold xq;by_cases h:iI s=0
 ·rw[af (by simpa using h)];rw[h]at hc;obtain⟨Ax,pJ⟩:=ub h;have De:=dJ Ax;have cg:=iq.1 pJ;have n8:=De.n8;have eG:=De.l32;have n6:=cg.n6;have hvr:∀v∈s.net.vpcs,v.ranges.length<=1000000000:=fun v hv=>by have:=(aY (cg.vp v hv)).n4;omega
  have how:=Ln.mk (ls:=[]) (WQ s De cg);have cf:=Ln.mk (ls:=[10,9]) (WP s.book s.net.vpcs s.net.links c hz n6 hvr);clear h Ax pJ De cg hvr;unfold D3;by_cases mP:1<=c.op/\c.op<=6
  ·rw[aj mP];rw[decide_eq_true mP]at cf;replace mP:=Xj mP;replace hz:=Xj hz;replace eG:=Xj eG;generalize oz s.book s.net.vpcs c=X at*;simp only[ke,Ans.zero]at cf;by_cases he:X.2.err=0
   ·exact a4m
   ·exact a4o
  rw[af mP];rw[decide_eq_false mP]at cf;have Vn:oz s.book s.net.vpcs c=(s.book,.zero):=by unfold oz;rw[af aa,af aa,af aa,af aa,af aa,af aa]
  rw[Vn]at cf;clear Vn;cases V8:CE c with
  |true=>
   rw[aj rfl];have OD:=Ln.mk (ls:=[10,9]) (WV s.book s.net c aa (fun p hp=>by have:=eG p hp;omega) V8);replace mP:=Xj mP;replace hz:=Xj hz;replace eG:=Xj eG;replace V8:=Xj V8;generalize Bh s.book s.net c=X at*;simp only[ke,Ans.zero]at cf OD;by_cases he:X.2.err=0
   ·exact a4m
   ·exact a4o
  |false=>
   rw[af Bool.false_ne_true];have OD:=Ln.mk (ls:=[10,9]) (WU s.book s.net c V8);by_cases Sa:8<=c.op/\c.op<=14
   ·rw[aj Sa];have d9:=Ln.mk (ls:=[10,9]) (UD s.book s.net c hz aa Sa);have e1:decide (c.op < 8)=false:=aK;have e2:decide (c.op>14)=false:=aK;replace mP:=Xj mP;replace hz:=Xj hz;replace eG:=Xj eG;replace V8:=Xj V8;replace Sa:=Xj Sa;generalize kA s.book s.net c=X at*;simp only[ke,Ans.zero]at cf OD d9;by_cases he:X.2.2.err=0
    ·rw[af (by simpa using he)];have e0:(X.2.2.err !=0)=false:=by simpa using he
     replace he:=Xj he;refine pj func24 ntmps24 results24 ?_;first|exact bc|(refine ap ?_;exact dz)
    ·rw[aj (by simpa using he)];have e0:(X.2.2.err !=0)=true:=by simpa using he
     replace he:=Xj he;refine pj func24 ntmps24 results24 ?_;first|exact bc|(refine ap ?_;exact dz)
   ·rw[af Sa];rw[aj (by simp[Ans.er])];replace hz:=Xj hz;replace eG:=Xj eG;replace V8:=Xj V8;replace mP:=Xj mP;simp only[ke,Ans.zero]at cf OD;by_cases h8:c.op < 8
    ·have e1:decide (c.op < 8)=true:=by simpa using h8
     replace h8:=Xj h8;replace Sa:=Xj Sa;refine pj func24 ntmps24 results24 ?_;first|exact bc|(refine ap ?_;exact dz)
    ·have e1:decide (c.op < 8)=false:=by simpa using h8
     have e2:decide (c.op>14)=true:=aK;replace h8:=Xj h8;replace Sa:=Xj Sa;refine pj func24 ntmps24 results24 ?_;first|exact bc|(refine ap ?_;exact dz)
 ·rw[aj h];have e1:(iI s !=0)=true:=by simpa using h
  generalize iI s=X at*;replace h:=Xj h;refine pj func24 ntmps24 results24 ?_;refine ap ?_;exact dz
theorem CF (p:Pol)(hb:p.leases.length<=3518437208882):ai prog 68 [.agg (an p)] (.agg (IG p.root (p.leases.map (·.at_)))):=by
 refine pj func68 ntmps68 results68 ?_;refine ap ?_<;>intros;refine bQ ag am (fun m e h=>∃k g:Nat,k<=p.leases.length/\m=p.leases.length - k/\e=[(4,.d (.v (.int .i64 k))),(3,.ptr 2 0),(2,.ptr 1 0),(1,.ptr 0 0)]/\
  h=[.box 83 ((an p).map .d),.box 149 [.d (.v (.int .i64 0)),.d (.v (.int .i64 0)),.d (.v (.slice none 0 0))],.box 149 [.d (.v (.int .i64 p.root.at_)),.d (.v (.int .i64 p.root.len)),.own 3 g],.row 23 2 g (ab (((p.leases.map (·.at_)).take k).map aS))]) _ _ _ ⟨0,0,XD _,rfl,rfl,rfl⟩ ?_ ?_
 ·exact(ay ah 2 _ _ 2 _ _ rfl rfl rfl).trans (wf (x:=[]) (hh:=rfl) (he:=⟨rfl,rfl,rfl,rfl,trivial⟩))
 ·rintro m e h ⟨k,g,hk,rfl,rfl,rfl⟩ C hC;by_cases hlt:k < p.leases.length
  ·obtain⟨l,hl⟩:∃l,p.leases[k]? =some l:=⟨_,Xk hlt⟩;have ed:(k:Int) < (p.leases.length:Int):=aa;have db:=wi k aa;have xz:(((p.leases.map (·.at_)).take k).length+1)*16<=140737488355328:=by rw[Xp,XB];omega
   have z1z:=@Xp.{0};refine ft ?_ ?_ ?_ ?_ ?_ ?_ ?_ ?_<;>first|(with_reducible exact True.intro)|intros
   have hts:(p.leases.map (·.at_)).take (k+1)=(p.leases.map (·.at_)).take k++[l.at_]:=ak (by rw[Xy,hl];rfl);refine hC _ _ _ _ _ ?_ ⟨k+1,g+1,hlt,rfl,rfl,rfl⟩ (wf (x:=[]) (hh:=?_) (he:=⟨rfl,rfl,rfl,rfl,trivial⟩))
   ·omega
   ·rw[hts,Xo];rfl
  ·obtain rfl:k=p.leases.length:=aa;refine ap ?_<;>intros;rw[XG ah];all_goals exact aP.refl _
theorem qr {a b:Bool}(h:b=a):aP (.v (.bool a)) (.v (.bool b)):=h ▸ aP.refl _
theorem wO {a b:Int}(h:b=a):aP (.v (.int .i64 a)) (.v (.int .i64 b)):=h ▸ aP.refl _
theorem eM (n lo hi:Int):ai prog 55 [.v (.int .i64 n),.v (.int .i64 lo),.v (.int .i64 hi)] (.v (.bool (decide (lo<=n)&&decide (n<=hi)))):=by
 refine pj func55 ntmps55 results55 ?_;exact bc;all_goals exact qr lj
theorem sM (r:Rul)(p:Pfx):ai prog 69 [.agg (xj r),.agg (aS p)] (.v (.bool (fZ r p.len))):=by
 have hw:=eM r.cool 0 1024;have he:fZ r p.len=((decide (p.len<=r.min)&&(decide (r.min<=r.usual)&&(decide (r.usual<=r.max)&&decide (r.max<=16))))&&(decide (0<=r.cool)&&decide (r.cool<=1024))):=by
  unfold fZ;congr 1;simp[gO]
 replace he:=Xj he;refine pj func69 ntmps69 results69 ?_;refine ft ?_ ?_ ?_ ?_ ?_ ?_ ?_ ?_<;>first|(with_reducible exact True.intro)|intros
 all_goals exact qr (by rw[he.out];clear hw;grind)
def VK (b:Bok)(id:Int):Int:=match b.pools.findIdx? fun p=>p.id==id with|some i=>i|none=> -1
theorem UE {b:Bok}{id:Int}{k:Nat}{p:Pol}(hp:b.pools[k]? =some p)(hid:p.id=id)(cg:∀j q,j < k->b.pools[j]? =some q->q.id≠id):VK b id=k:=by
 unfold VK;have:b.pools.findIdx? (fun p=>p.id==id)=some k:=by
  obtain⟨hk,he⟩:=Xn.1 hp;rw[XI];refine⟨hk,by rw[he];simpa using hid,fun j hj=>?_⟩;have:=cg j _ hj (Xk (Nat.lt_trans hj hk));simpa using this
 rw[this]
theorem GH {b:Bok}{id:Int}(cg:∀j q,j < b.pools.length->b.pools[j]? =some q->q.id≠id):VK b id= -1:=by
 unfold VK;have:b.pools.findIdx? (fun p=>p.id==id)=none:=by
  rw[Yn];intro q hq;obtain⟨j,hj,rfl⟩:=X3.1 hq;have:=cg j _ hj (Xk hj);simpa using this
 rw[this]
theorem iZ {b:Bok}{id:Int}{p:Pol}(h:bK b id=some p):∃i:Nat,VK b id=i/\b.pools[i]? =some p/\p.id=id:=by
 unfold VK;unfold bK at h;cases hf:b.pools.findIdx? fun p=>p.id==id with
 |none=>
  rw[Yn]at hf;have h1:=hf p (YE h);rw[Zs h]at h1;exact absurd h1 ah
 |some i=>
  obtain⟨hi,hp,cg⟩:=XI.1 hf;refine⟨i,rfl,?_,by simpa using Zs h⟩;obtain⟨-,j,hj,he,EI⟩:=Zk.1 h;have hij:i=j:=by
   rcases Y7 i j with hlt|h|hlt
   ·have:=EI i hlt;rw[hp]at this;exact absurd this ah
   ·exact h
   ·have h1:=cg j hlt;have h2:=Zs h;rw[he]at h1;exact absurd h2 h1
  rw[hij,Xk hj,he]
theorem o9 {b:Bok}{id:Int}(h:bK b id=none):VK b id= -1:=by
 refine GH fun j q _ hq he=>?_;have:=Yr.1 h q (Xl hq);simp at this;exact this he
theorem ja (b:Bok)(id:Int)(hl:b.pools.length<=9223372036854775807):ai prog 76 [.agg (bq b),.v (.int .i64 id)] (.v (.int .i64 (VK b id))):=by
 refine pj func76 ntmps76 results76 ?_;refine ap ?_<;>intros;refine bf ag am b.pools (fun k=>∀j (q:Pol),j < k->b.pools[j]? =some q->q.id≠id) (fun k=>[(5,.d (.v (.int .i64 k))),(4,.d (.v (.int .i64 0))),(2,.ptr 0 0),(1,.d (.v (.int .i64 id)))]) (fun _=>[.box 30 ((bq b).map .d)]) (fun j q h=>absurd h (YH _)) (wf) ?_ ?_
 ·intro k p hp hk hI C hC;have eo:(k:Int) < (b.pools.length:Int):=aa;have db:=wi k aa;replace hI:=Xj hI;refine AN ?_ ?_<;>intros
  ·rename_i h1;exact wO (UE hp (by simpa using h1) hI.out)
  ·rename_i h1;refine hC _ _ (fun j q hj hq=>?_) (wf);rcases XM j k with h|h
   ·exact hI.out j q h hq
   ·obtain rfl:j=k:=aa;rw[hp]at hq;obtain rfl:=XW.inj hq;simpa using h1
 ·intro hI C;replace hI:=Xj hI;refine ap ?_<;>intros;exact wO (GH hI.out)
theorem GI (b:Bok)(p:Pol)(l:Lse)(hl:b.pools.length<=1000000000)(ht:0<=b.tick/\b.tick<=1073741824):ai prog 71 [.agg (bq b),.agg (an p),.agg (bt l)] (.v (.bool (eP b p l))):=by
 have dK:=ja b l.owner aa;have ci:IntKind.i64.wrap (b.tick+1)=b.tick+1:=by rw[IntKind.wrap_i64];omega
 have cj:IntKind.i64.wrap (b.tick+1024)=b.tick+1024:=by rw[IntKind.wrap_i64];omega
 have hi:=eM l.owner 1 65536;have htl:=eM l.till (b.tick+1) (b.tick+1024);obtain⟨R,hR⟩:∃R,R=eP b p l:=⟨_,rfl⟩;rw[<-hR];replace hR:=Xj hR;cases hq:bK b l.owner with
 |none=>
  rw[o9 hq]at dK
  replace hq:=Xj hq;have Bt:decide ((-1:Int)>=0)=false:=rfl;refine pj func71 ntmps71 results71 ?_;refine ft ?_ ?_ ?_ ?_ ?_ ?_ ?_ ?_<;>first|(with_reducible exact True.intro)|intros
  all_goals exact qr (by rw[hR.out];have hq:=hq.out;unfold eP dV;clear hi dK htl hR;grind)
 |some q=>
  obtain⟨i,e1,e2,e3⟩:=iZ hq;rw[e1]at dK
  have hge:((i:Int)>=0):=aa;have he:=ot q.root l.at_;replace hq:=Xj hq;replace e1:=Xj e1;replace e3:=Xj e3;refine pj func71 ntmps71 results71 ?_;refine ft ?_ ?_ ?_ ?_ ?_ ?_ ?_ ?_<;>first|(with_reducible exact True.intro)|intros
  all_goals exact qr (by rw[hR.out];have hq:=hq.out;unfold eP dV;clear hi dK htl hR;grind)
theorem QR (b:Bok)(p:Pol)(hl:b.pools.length<=1000000000)(eG:∀q∈b.pools,q.leases.length<=1000000000):ai prog 70 [.agg (bq b),.agg (an p)] (.v (.bool (kr b b.pools.length p))):=by
 obtain⟨R,hR⟩:∃R,R=kr b b.pools.length p:=⟨_,rfl⟩;rw[<-hR];replace hR:=Xj hR;refine pj func70 ntmps70 results70 ?_;refine ap ?_<;>intros;refine bQ ag am (fun m e h=>∃(k:Nat) (q:Pol),k<=b.pools.length+1/\(k<=b.pools.length->R=kr b (b.pools.length - k) q)/\(k=b.pools.length+1->R=false)/\m=b.pools.length+1 - k/\e=[(5,.d (.v (.int .i64 k))),(4,.d (.v (.bool false))),(3,.ptr 1 0),(2,.ptr 0 0)]/\
  h=[.box 30 ((bq b).map .d),.box 83 ((an q).map .d)]) _ _ _ ⟨0,p,by omega,fun _=>hR.out,fun h=>by omega,rfl,rfl,rfl⟩ (wf) ?_
 rintro m e h ⟨k,q,hk,gW,Et,hm,rfl,rfl⟩ C hC;replace hm:=Xj hm;by_cases xT:k<=b.pools.length
 ·have eo:(k:Int)<=(b.pools.length:Int):=aa;have db:=wi k aa;have gW:=Xj (gW xT);replace Et:=Xj Et;have dK:=ja b q.up aa;cases hq:bK b q.up with
  |none=>
   rw[o9 hq]at dK
   have Bt:decide ((-1:Int) < 0)=true:=rfl;replace hq:=Xj hq;refine AN ?_ ?_<;>intros;all_goals exact qr (by
    rename_i h1;cases hn:b.pools.length - k<;>simp_all[kr,hq.out])
  |some u=>
   obtain⟨i,e1,e2,e3⟩:=iZ hq;rw[e1]at dK
   have mZ:decide ((i:Int) < 0)=false:=ah;have a1W:=eG u (Xl e2);replace hq:=Xj hq;replace e1:=Xj e1;replace e3:=Xj e3;refine AN ?_ ?_<;>intros
   ·exact qr (by
     rename_i h1;cases hn:b.pools.length - k<;>simp_all[kr])
   ·rename_i h1;refine bf ag am u.leases (fun _=>True) (fun j=>[(8,.d (.v (.int .i64 j))),(7,.d (.v (.bool ((u.leases.take j).any (mU q.id))))),(6,.d (.v (.int .i64 i))),(5,.d (.v (.int .i64 k))),(4,.d (.v (.bool false))),(3,.ptr 1 0),(2,.ptr 0 0)])
     (fun _=>[.box 30 ((bq b).map .d),.box 83 ((an q).map .d)]) trivial (wf) ?_ ?_
    ·intro j l ro hj _ C hC;have lz:(j:Int) < (u.leases.length:Int):=aa;have nI:=wi j aa;have ec:(u.leases.take (j+1)).any (mU q.id)=((u.leases.take j).any (mU q.id)||mU q.id l):=by rw[ak ro];simp
     replace ec:=Xj ec;refine ft ?_ ?_ ?_ ?_ ?_ ?_ ?_ ?_<;>first|(with_reducible exact True.intro)|intros
     all_goals
      refine hC _ _ trivial (wf (he:=⟨rfl,?_,rfl,rfl,rfl,rfl,rfl,trivial⟩));refine congrArg (fun x=>PV.d (D.v (Value.bool x))) ?_;rw[ec.out];clear ec hC;generalize (u.leases.take j).any (mU q.id)=A at*;unfold mU;simp_all
    ·intro _ C;(try rw[Xq])
     refine AN ?_ ?_<;>intros
     ·rename_i h2 j6 h3 h4;refine hC _ _ _ _ _ ?_ ⟨k+1,u,by omega,fun hlt=>?_,fun he=>?_,rfl,rfl,rfl⟩ (wf)
      ·have:=hm.out;omega
      ·rw[gW.out];obtain⟨n,hn⟩:∃n,b.pools.length - k=n+1:=⟨b.pools.length - k - 1,by omega⟩;rw[hn,show b.pools.length - (k+1)=n by omega];simp only[kr,hq.out,‹(q.up==0)=false›,‹u.leases.any (mU q.id)=true›,Ys,p']
      ·rw[gW.out,show b.pools.length - k=0 by omega];simp_all[kr]
     ·rename_i h2 j6 h3 h4;refine qr ?_;cases hn:b.pools.length - k<;>simp only[kr,hq.out,‹(q.up==0)=false›,‹u.leases.any (mU q.id)=false›,Bool.false_and,p']
 ·obtain rfl:k=b.pools.length+1:=aa;have eo:¬(((b.pools.length+1:Nat):Int)<=(b.pools.length:Int)):=aa;have hr:=Xj (Et rfl);clear gW Et;replace eo:decide (((b.pools.length+1:Nat):Int)<=(b.pools.length:Int))=false:=by simpa using eo
  refine ap ?_<;>intros;exact qr hr.out
theorem a5L {p:Prop}(h:p:=by
 rw[gW.out];clear hC hi jd V4 By hz gW hm hr ht Vr;unfold dV dD;grind):p:=h
def kB (b:Bok)(k:Nat):List Pfx:=((b.pools.take k).filter (fun p=>p.up==0)).map (·.root)
theorem GJ {b:Bok}{k:Nat}{p:Pol}(hp:b.pools[k]? =some p):kB b (k+1)=if p.up==0 then kB b k++[p.root]else kB b k:=by
 unfold kB;rw[ak hp,YY,Xo];cases h:p.up==0<;>simp[h]
theorem zN {b:Bok}{k:Nat}{r:Pfx}(hk:k<=b.pools.length):(kB b k).any r.meets=true↔∃(j:Nat) (q:Pol),j < k/\b.pools[j]? =some q/\(q.up==0)=true/\r.meets q.root=true:=by
 unfold kB;rw[List.any_map,List.any_filter,XU];constructor
 ·rintro⟨q,hq,h⟩;obtain⟨j,hj,rfl⟩:=X3.1 hq;simp only[Xp]at hj;simp only[Xt,Function.comp]at h;exact⟨j,_,by omega,Xk aa,by simpa using h.1,by simpa using h.2⟩
 ·rintro⟨j,q,hj,hq,h1,h2⟩;refine⟨q,Xl (i:=j) ?_,by simp only[Xt,Function.comp];exact⟨h1,h2⟩⟩;rw[XP hj,hq]
theorem GK {b:Bok}{k:Nat}{p:Pol}(hp:b.pools[k]? =some p):dO b (b.pools.drop k) (kB b k)=((kr b b.pools.length p&&p.leases.all (eP b p))&&(!((p.up==0)&&(kB b k).any p.root.meets)&&dO b (b.pools.drop (k+1)) (kB b (k+1)))):=by
 rw[ku hp,GJ hp];simp only[dO];cases h:p.up==0<;>simp
theorem iw (b:Bok)(hz:∀p∈b.pools,p.leases.length<=3518437208882):ai prog 36 [.agg (bq b)] (.v (.int .i64 (br b))):=by
 have Vr:=eM b.tick 0 1073741824;by_cases h8:b.pools.length>8
 ·have h8I:decide ((b.pools.length:Int)>8)=true:=aK;have hr:br b=2:=by simp[br,h8]
  rw[hr];refine pj func36 ntmps36 results36 ?_;exact bc
 ·have h8I:decide ((b.pools.length:Int)>8)=false:=aK;by_cases jd:b.tick < 0\/b.tick>1073741824
  ·have hr:br b=1:=by simp[br,h8,jd]
   have hd:(decide (0<=b.tick)&&decide (b.tick<=1073741824))=false:=by
    rcases jd with h|h
    ·simp;omega
    ·simp;omega
   rw[hr];rw[hd]at Vr;replace hr:=Xj hr;refine pj func36 ntmps36 results36 ?_;exact bc
  ·have ht:0<=b.tick/\b.tick<=1073741824:=aa;have hd:(decide (0<=b.tick)&&decide (b.tick<=1073741824))=true:=aK;rw[hd]at Vr;have hr:br b=if eD 0 b.pools&&dO b b.pools []then 0 else 1:=by simp only[br,h8,jd,if_false]
   rw[hr];replace hr:=Xj hr;replace ht:=Xj ht;replace hd:=Xj hd;refine pj func36 ntmps36 results36 ?_;refine ap ?_<;>intros;refine bQ ag am (fun m e h=>∃(k:Nat) (last:Int),k<=b.pools.length/\eD 0 b.pools=eD last (b.pools.drop k)/\(k=0->last=0)/\(∀j,k=j+1->∃q,b.pools[j]? =some q/\q.id=last)/\m=b.pools.length - k/\e=[(3,.d (.v (.int .i64 k))),(2,.d (.v (.int .i64 0))),(1,.ptr 0 0)]/\
    h=[.box 30 ((bq b).map .d)]) _ _ _ ⟨0,0,XD _,rfl,fun _=>rfl,fun j h=>by omega,rfl,rfl,rfl⟩ (wf) ?_
   rintro m e h ⟨k,last,hk,gW,rC,hl1,hm,rfl,rfl⟩ C hC;by_cases hlt:k < b.pools.length
   ·have ed:(k:Int) < (b.pools.length:Int):=aa;have db:=wi k aa;obtain⟨p,hp⟩:∃p,b.pools[k]? =some p:=⟨_,Xk hlt⟩;have pH:p∈b.pools:=Xl hp;rw[ku hp]at gW;simp only[eD]at gW;have hi:=eM p.id 1 65536;have jd:=CF p (hz p pH);have V4:=DV p.root (dD p);unfold dD at V4;have By:=sM p.rule p.root;replace gW:=Xj gW;replace hm:=Xj hm;rcases ZG k with hk0|hk0
    ·have hkg:decide ((k:Int)>0)=false:=aK;have rC:=Xj (rC hk0);replace hk0:=Xj hk0;clear hl1;refine ft ?_ ?_ ?_ ?_ ?_ ?_ ?_ ?_<;>first|(with_reducible exact True.intro)|intros
     all_goals have rC:=rC.out
     all_goals first
      |(refine hC _ _ _ _ _ ?_ ⟨k+1,p.id,hlt,?_,fun h=>by omega,fun j h=>⟨p,by rw[show j=k by omega];exact hp,rfl⟩,rfl,rfl,rfl⟩ (wf);(have:=hm.out;omega);(rw[gW.out];clear hC hi jd V4 By hz gW hm hr ht Vr;unfold dV dD;grind))
      |exact wO (by
       have hf:eD 0 b.pools=false:=a5L
       rw[hf];rfl)
    ·have hkg:decide ((k:Int)>0)=true:=aK;obtain⟨j,hj⟩:∃j,k=j+1:=⟨k - 1,by omega⟩;obtain⟨q,hq,vZ⟩:=hl1 j hj;have nI:IntKind.i64.wrap ((k:Int) - 1)=(j:Int):=by rw[IntKind.wrap_i64];omega
     replace vZ:=Xj vZ;replace hj:=Xj hj;replace hk0:=Xj hk0;clear rC hl1;refine ft ?_ ?_ ?_ ?_ ?_ ?_ ?_ ?_<;>first|(with_reducible exact True.intro)|intros
     all_goals have vZ:=vZ.out
     all_goals first
      |(refine hC _ _ _ _ _ ?_ ⟨k+1,p.id,hlt,?_,fun h=>by omega,fun j h=>⟨p,by rw[show j=k by omega];exact hp,rfl⟩,rfl,rfl,rfl⟩ (wf);(have:=hm.out;omega);(rw[gW.out];clear hC hi jd V4 By hz gW hm hr ht Vr;unfold dV dD;grind))
      |exact wO (by
       have hf:eD 0 b.pools=false:=a5L
       rw[hf];rfl)
   ·obtain rfl:k=b.pools.length:=aa;rw[Zc]at gW;have hf:eD 0 b.pools=true:=by rw[gW];rfl
    obtain⟨Ss,-⟩:=lO _ _ hf;have gz:=nh _ _ hf;have pI:∀p∈b.pools,p.leases.length<=32:=fun p hp=>a5f
    rw[hf];replace hf:=Xj hf;replace gz:=Xj gz;clear gW hm rC hl1 hC;refine ap ?_<;>intros;refine tJ ag am b.pools.length (fun k=>dO b b.pools []=dO b (b.pools.drop k) (kB b k)) (fun k=>[(5,.d (.v (.int .i64 k))),(2,.d (.v (.int .i64 0))),(1,.ptr 0 0)]) (fun _=>[.box 30 ((bq b).map .d)]) rfl (wf) ?_ ?_
    ·intro k hlt hI C hC;have ed:(k:Int) < (b.pools.length:Int):=aa;have db:=wi k aa;obtain⟨p,hp⟩:∃p,b.pools[k]? =some p:=⟨_,Xk hlt⟩;have pH:p∈b.pools:=Xl hp;rw[GK hp]at hI;have gW:=QR b p aa (fun q hq=>by have:=pI q hq;omega);have jC:=pI p pH;replace hI:=Xj hI;refine AN ?_ ?_<;>intros
     ·rename_i hu;refine bf ag am p.leases (fun j=>∀i (l:Lse),i < j->p.leases[i]? =some l->eP b p l=true) (fun j=>[(7,.d (.v (.int .i64 j))),(6,.ptr 1 0),(5,.d (.v (.int .i64 k))),(2,.d (.v (.int .i64 0))),(1,.ptr 0 0)]) (fun _=>[.box 30 ((bq b).map .d),.box 83 ((an p).map .d)]) (fun i l h=>absurd h (YH _)) (wf) ?_ ?_
      ·intro j l ro hj hIl C hC;have lz:(j:Int) < (p.leases.length:Int):=aa;have nI:=wi j aa;have hlf:=GI b p l aa ht.out;replace hIl:=Xj hIl;refine AN ?_ ?_<;>intros
       ·rename_i j0;refine hC _ _ (fun i l' hi hl'=>?_) (wf);rcases XM i j with h|h
        ·exact hIl.out i l' h hl'
        ·obtain rfl:i=j:=aa;rw[ro]at hl';obtain rfl:=XW.inj hl';exact j0
       ·rename_i j0;refine wO ?_;have bo:p.leases.all (eP b p)=false:=by
         rw[YW];exact⟨l,Xl ro,by rw[j0];simp⟩
        rw[hI.out,bo];simp
      ·intro hIl C1;have bo:p.leases.all (eP b p)=true:=by
        rw[XA];intro l hl;obtain⟨i,hi,rfl⟩:=X3.1 hl;exact hIl i _ hi (Xk hi)
       replace hIl:=Xj hIl;replace bo:=Xj bo;refine ap ?_<;>intros;refine tJ ag am k (fun j=>∀i (q:Pol),i < j->b.pools[i]? =some q->((p.up==0)&&(q.up==0)&&p.root.meets q.root)=false) (fun j=>[(8,.d (.v (.int .i64 j))),(6,.ptr 1 0),(5,.d (.v (.int .i64 k))),(2,.d (.v (.int .i64 0))),(1,.ptr 0 0)]) (fun _=>[.box 30 ((bq b).map .d),.box 83 ((an p).map .d)]) (fun i l h=>absurd h (YH _)) (wf) ?_ ?_
       ·intro j hj hIm C hC;have lz:(j:Int) < (k:Int):=aa;have nI:=wi j aa;obtain⟨q,hq⟩:∃q,b.pools[j]? =some q:=⟨_,Xk aa⟩;have pL:=su p.root q.root;rw[fI]at pL;replace hIm:=Xj hIm;have key:∀t,((p.up==0)&&(q.up==0)&&p.root.meets q.root)=t->t=false->∀i (q:Pol),i < j+1->b.pools[i]? =some q->((p.up==0)&&(q.up==0)&&p.root.meets q.root)=false:=by
         intro t h1 h2 i q' hi hq';rcases XM i j with h|h
         ·exact hIm.out i q' h hq'
         ·obtain rfl:i=j:=aa;rw[hq]at hq';obtain rfl:=XW.inj hq';rw[h1,h2]
        have bad:((p.up==0)&&(q.up==0)&&p.root.meets q.root)=true->dO b b.pools []=false:=fun h=>by
         simp only[Xt]at h;have:(kB b k).any p.root.meets=true:=(zN aa).2 ⟨j,q,hj,hq,h.1.2,h.2⟩;rw[hI.out,this,h.1.1];simp
        replace key:=Xj key;replace bad:=Xj bad;refine ft ?_ ?_ ?_ ?_ ?_ ?_ ?_ ?_<;>first|(with_reducible exact True.intro)|intros
        all_goals first
         |(refine hC _ _ (key.out _ ?_ rfl) (wf);clear hC pL;grind)
         |exact wO (by rw[bad.out (by clear hC pL;grind)];simp)
       ·intro hIm C1;have cg:((p.up==0)&&(kB b k).any p.root.meets)=false:=by
         cases h:p.up==0 with
         |false=>rfl
         |true=>
          cases h2:(kB b k).any p.root.meets with
          |false=>rfl
          |true=>
           obtain⟨i,q,hi,hq,h3,h4⟩:=(zN aa).1 h2;have:=hIm i q hi hq;rw[h,h3,h4]at this;exact absurd this ah
        replace hIm:=Xj hIm;replace cg:=Xj cg;refine ap ?_<;>intros;refine hC _ _ ?_ (wf);rw[hI.out,hu,bo.out,cg.out];rfl
     ·rename_i hu;refine wO ?_;rw[hI.out,hu];simp
    ·intro hI C;replace hI:=Xj hI;refine ap ?_<;>intros;refine wO ?_;rw[hI.out,Zc];rfl
theorem a4H {p:Prop}(h:p:=by
 obtain⟨hl,rfl⟩:=Xn.1 hq;have:=List.findIdx_getElem (xs:=l) (p:=fun x=>decide (t<=key x)) (w:=hl);exact of_decide_eq_true this):p:=h
theorem a4S {p:Prop}(h:p:=by
 have h1:=eV.out;rcases XM k n0 with h|h
 ·exact h
 ·have LH:k=n0:=lj;have:=lh.out LH;rename_i h2;simp at h2;omega):p:=h
theorem a5v {p:Prop}(h:p:=by
 obtain⟨hl,rfl⟩:=Xn.1 hq;have:=List.not_of_lt_findIdx hk;simp at this;omega):p:=h
theorem jy (b:Bok)(h8:b.pools.length<=8)(eG:∀p∈b.pools,p.leases.length<=32):
 MSpec prog 47 [.d (.agg (bq b))] [] (.agg [.d (.v (.int .i64 b.tick)),.own 3 b.pools.length]) [.gone,.gone,.gone,.row 83 9 b.pools.length (ab (b.pools.map an))]:=by
 refine mj func47 ntmps47 results47 ?_;refine ap ?_<;>intros;refine bf ag am b.pools (fun _=>True) (fun k=>[(4,.d (.v (.int .i64 k))),(3,.ptr 2 0),(2,.ptr 1 0),(1,.ptr 0 0)])
  (fun k=>[.box 30 ((bq b).map .d),.box 30 [.d (.v (.int .i64 0)),.d (.v (.slice none 0 0))],.box 30 [.d (.v (.int .i64 b.tick)),.own 3 k],.row 83 9 k (ab ((b.pools.take k).map an))]) trivial ?_ ?_ ?_
 ·refine(ay ah 2 30 [.d (.v (.int .i64 b.tick)),.d (.v (.slice none 0 0))] 1 83 9 rfl rfl rfl).trans ?_;exact wf
 ·intro k p hp hk _ C hC;have eo:(k:Int) < (b.pools.length:Int):=aa;have db:=wi k aa;have jC:=eG p (Xl hp);have j7:k+1<=100:=aa;have hlt:(Yf k b.pools).length=k:=by rw[Xp];omega
  refine ap ?_<;>intros;refine hC _ _ trivial ((av 5 1 96 5 (p.leases.map bt) rfl).trans ?_);simp only[jq,fz,ij,gM,iS,gI,aT,bW,ce,Xm,Xr,XL,XK,reduceIte,and_true,true_and,and_self,and_false,false_and,XE,XT,reduceCtorEq];exact wf (hh:=(by rw[ak hp,Xo,Xm,Xr,<-aI];rfl))
 ·intro _ C;refine ap ?_<;>intros;(try rw[Xq])
  refine(aL 0 ah).trans ?_;refine(aL 1 (by simp[bD])).trans ?_;exact(aL 2 (by simp[bD])).trans (bn rfl rfl)
theorem KV {α:Type}{key:α->Int}{t:Int}{l:List α}{k:Nat}{q:α}(hk:k < j8 key t l)(hq:l[k]? =some q):key q < t:=a5v
theorem KW {α:Type}{key:α->Int}{t:Int}{l:List α}{q:α}(hq:l[j8 key t l]? =some q):t<=key q:=a4H
theorem Nu (b:Bok)(p:Pol)(h8:b.pools.length<=8)(cg:bK b p.id=none):ai prog 227 [.agg (bq b),.agg (an p)] (.agg (bq ⟨b.tick,mz p b.pools⟩)):=by
 obtain⟨n0,pJ⟩:∃n0,n0=j8 (fun x:Pol=>x.id) p.id b.pools:=⟨_,rfl⟩;have a2W:n0<=b.pools.length:=by rw[pJ];exact qY _ _ _
 have j0:∀k q,k < n0->b.pools[k]? =some q->q.id < p.id:=fun k q hk hq=>KV (key:=fun x:Pol=>x.id) (by rw[<-pJ];exact hk) hq;have lh:∀q,b.pools[n0]? =some q->p.id < q.id:=fun q hq=>by
  have h1:=KW (key:=fun x:Pol=>x.id) (t:=p.id) (l:=b.pools) (q:=q) (by rw[<-pJ];exact hq);have h2:=Yr.1 cg q (Xl hq);simp at h1 h2;omega
 have fS:mz p b.pools=b.pools.take n0++p::b.pools.drop n0:=by unfold mz;rw[<-pJ]
 replace pJ:=Xj pJ;replace fS:=Xj fS;refine pj func227 ntmps227 results227 ?_;refine ap ?_<;>intros;refine bQ ag am (fun m e h=>∃(k:Nat) (out:List Pol) (f:Bool),k<=b.pools.length/\out.length<=k+1/\((f=false/\k<=n0/\out=b.pools.take k)\/(f=true/\n0 < k/\out++b.pools.drop k=mz p b.pools))/\m=b.pools.length - k/\
  e=[(7,.d (.v (.int .i64 k))),(6,.d (.v (.bool f))),(5,.ptr 3 0),(4,.ptr 2 0),(3,.ptr 1 0),(2,.ptr 0 0)]/\
  h=[.box 30 ((bq b).map .d),.box 83 ((an p).map .d),.box 30 [.d (.v (.int .i64 0)),.d (.v (.slice none 0 0))],.box 30 [.d (.v (.int .i64 b.tick)),.own 4 out.length],.row 83 9 out.length (ab (out.map an))]) _ _ _ ⟨0,[],false,XD _,XD _,.inl ⟨rfl,XD _,rfl⟩,rfl,rfl,rfl⟩ ?_ ?_
 ·refine(ay ah 3 30 [.d (.v (.int .i64 b.tick)),.d (.v (.slice none 0 0))] 1 83 9 rfl rfl rfl).trans ?_;exact wf
 ·rintro m e h ⟨k,out,f,hk,pM,eV,hm,rfl,rfl⟩ C hC;replace hm:=Xj hm;replace eV:=Xj eV;have j7:out.length+1+1<=100:=aa;have iO:out.length+1<=100:=aa;by_cases hlt:k < b.pools.length
  ·have eo:(k:Int) < (b.pools.length:Int):=aa;have db:=wi k aa;obtain⟨q,hq⟩:∃q,b.pools[k]? =some q:=⟨_,Xk hlt⟩;have H3:=Xj (ku hq);have j0:=Xj (fun h=>j0 k q h hq);have lh:=Xj (fun h:k=n0=>lh q (by rw[<-h];exact hq));refine ft ?_ ?_ ?_ ?_ ?_ ?_ ?_ ?_<;>first|(with_reducible exact True.intro)|intros
   ·refine hC _ _ _ _ _ ?_ ⟨k+1,out++[q],true,by omega,by simp;omega,.inr ⟨rfl,?_,?_⟩,rfl,rfl,rfl⟩ (wf (hh:=(by simp only[bq,an,Xo,Xm,Xr,Xv,Xx,XX,XV];rfl)))
    ·have:=hm.out;omega
    ·have:=eV.out;grind
    ·have:=eV.out;have:=H3.out;grind
   ·refine hC _ _ _ _ _ ?_ ⟨k+1,out++[p]++[q],true,by omega,by have:=eV.out;simp;grind,.inr ⟨rfl,?_,?_⟩,rfl,rfl,rfl⟩ (wf (hh:=(by simp only[bq,an,Xo,Xm,Xr,Xv,Xx,XX,XV];rfl)))
    ·have:=hm.out;omega
    ·have:=eV.out;grind
    ·have h1:=eV.out;have:=H3.out;have hle:k<=n0/\out=b.pools.take k:=lj;have LH:k=n0:=by
      rcases XM k n0 with h|h
      ·have:=j0.out h;have h2:=of_decide_eq_true ‹decide (q.id>p.id)=true›;omega
      ·omega
     rw[fS.out,hle.2,<-LH,this];simp
   ·refine hC _ _ _ _ _ ?_ ⟨k+1,out++[q],false,by omega,by simp;omega,.inl ⟨rfl,?_,?_⟩,rfl,rfl,rfl⟩ (wf (hh:=(by simp only[bq,an,Xo,Xm,Xr,Xv,Xx,XX,XV];rfl)))
    ·have:=hm.out;omega
    ·exact a4S
    ·have h1:=eV.out;rw[ak hq];grind
  ·obtain rfl:k=b.pools.length:=aa;refine AN ?_ ?_<;>intros
   ·rw[show mz p b.pools=out from by have h1:=eV.out;grind];exact aP.refl _
   ·rw[show mz p b.pools=out++[p] from by
     have h1:=eV.out;rw[fS.out];have LH:n0=b.pools.length:=lj;rw[LH];grind]
    rw[Xo];exact aP.refl _
theorem CG (b:Bok)(p:Pol)(g:Nat)(d:D)(h8:b.pools.length<=8)(cg:bK b p.id=none)(hd:aP d (.agg (an p))):
 MSpec prog 227 [.agg [.d (.v (.int .i64 b.tick)),.own 0 g],.d d] [.row 83 9 g (ab (b.pools.map an))] (.d (.agg (bq ⟨b.tick,mz p b.pools⟩))) [.gone]:=
 (vm (Nu b p h8 cg) (args:=[.agg [.d (.v (.int .i64 b.tick)),.own 0 g],.d (.agg (an p))]) (h0:=[.row 83 9 g (ab (b.pools.map an))]) (by simp[aq,au]) (by simp[aH,aR,aC]) (by simp[vw,cI,bx,aD,eO,bq]) (by simp[tc,j3,cY,aD,oO])).lep ⟨.inl rfl,.inr ⟨_,_,rfl,rfl,hd⟩,trivial⟩ (by simp[aq,au])
theorem Bok.zero_le:aP (.agg [.v (.int .i64 0),.v (.slice none 0 0)]) (.agg (bq Bok.zero)):=dg
theorem QS (b:Bok)(id:Int)(root:Pfx)(r:Rul)(hz:∀p∈b.pools,p.leases.length<=3518437208882):ai prog 141 [.agg (bq b),.v (.int .i64 id),.agg (aS root),.agg (xj r)] (.tup [.agg (bq (gu b id root r).1),.v (.int .i64 (gu b id root r).2)]):=by
 obtain⟨R,hR⟩:∃R,R=gu b id root r:=⟨_,rfl⟩;rw[<-hR];replace hR:=Xj hR;have bp:=iw b hz;by_cases hc:br b=0
 ·have cf:=dJ hc;have h8:=cf.n8;have hid:=eM id 1 65536;have HO:=yX root;have By:=sM r root;have dK:=ja b id aa;have iM:=jy b cf.n8 cf.l32;have aQ:R=if pu b id root r≠0 then (Bok.zero,pu b id root r)else (⟨b.tick,mz ⟨id,0,root,r,[]⟩ b.pools⟩,0):=by rw[hR.out];unfold gu;rw[af (by simpa using hc)]
  unfold pu dV at aQ;have rB:bF root.at_ root.len=(chk root.at_ root.len==0):=rfl;replace rB:=Xj rB;replace aQ:=Xj aQ;rw[hc]at bp;replace hc:=Xj hc;clear hR;cases hq:bK b id with
  |none=>
   have LC:=CG b ⟨id,0,root,r,[]⟩ b.pools.length (.agg [.v (.int .i64 id),.v (.int .i64 0),.v (.int .i64 root.at_),.v (.int .i64 root.len),.v (.int .i64 r.min),.v (.int .i64 r.max),.v (.int .i64 r.usual),.v (.int .i64 r.cool),.v (.slice none 0 0)]) cf.n8 hq dg;rw[o9 hq]at dK
   have Bt:decide ((-1:Int)>=0)=false:=rfl;replace hq:=Xj hq;clear cf;refine pj func141 ntmps141 results141 ?_;refine ft ?_ ?_ ?_ ?_ ?_ ?_ ?_ ?_<;>first|(with_reducible exact True.intro)|intros
   ·refine bf ag am b.pools (fun k=>∀j (q:Pol),j < k->b.pools[j]? =some q->((q.up==0)&&q.root.meets root)=false) (fun k=>[(11,.d (.v (.int .i64 k))),(9,.d (.v (.int .i64 0))),(8,.ptr 3 0),(7,.ptr 2 0),(6,.ptr 1 0),(4,.ptr 0 0),(1,.d (.v (.int .i64 id)))])
     (fun _=>[.box 30 ((bq b).map .d),.box 23 ((aS root).map .d),.box 25 ((xj r).map .d),.box 30 [.d (.v (.int .i64 0)),.d (.v (.slice none 0 0))]]) (fun j q h=>absurd h (YH _)) (wf) ?_ ?_
    ·intro k q hqk hk hI C hC;have eo:(k:Int) < (b.pools.length:Int):=aa;have db:=wi k aa;have pL:=su q.root root;rw[fI]at pL;have key:∀t,((q.up==0)&&q.root.meets root)=t->t=false->∀j (q:Pol),j < k+1->b.pools[j]? =some q->((q.up==0)&&q.root.meets root)=false:=by
      intro t h1 h2 j q' hj hq';rcases XM j k with h|h
      ·exact hI j q' h hq'
      ·obtain rfl:j=k:=aa;rw[hqk]at hq';obtain rfl:=XW.inj hq';rw[h1,h2]
     have bad:((q.up==0)&&q.root.meets root)=true->(b.pools.any fun p=>(p.up==0)&&p.root.meets root)=true:=fun h=>XU.2 ⟨q,Xl hqk,h⟩;replace key:=Xj key;replace bad:=Xj bad;replace hI:=Xj hI;refine ft ?_ ?_ ?_ ?_ ?_ ?_ ?_ ?_<;>first|(with_reducible exact True.intro)|intros
     all_goals clear hz bp hid HO By dK iM LC pL
     all_goals first
      |(refine hC _ _ (key.out _ ?_ rfl) (wf);clear hC;grind)
      |(have hb:=bad.out (by clear hC;grind);clear hC;have hq:=hq.out;have rB:=rB.out;(rw[show R=(Bok.zero,6) from (by rw[aQ.out];grind)];(try simp only[Xo,Xm]);exact dg))
    ·intro hI C1;have jY:(b.pools.any fun p=>(p.up==0)&&p.root.meets root)=false:=by
      rw[Yh];intro q hq;obtain⟨j,hj,rfl⟩:=X3.1 hq;rw[hI j _ hj (Xk hj)];simp
     replace hI:=Xj hI;replace jY:=Xj jY;have z1z:=Ln.mk (ls:=[]) (iM);have z2z:=Ln.mk (ls:=[7]) (LC);refine ft ?_ ?_ ?_ ?_ ?_ ?_ ?_ ?_<;>first|(with_reducible exact True.intro)|intros
     all_goals clear hz bp hid HO By dK iM LC
     all_goals have hq:=hq.out
     all_goals have rB:=rB.out
     all_goals have jY:=jY.out
     all_goals first
      |(rw[show R=(Bok.zero,1) from (by rw[aQ.out];grind)];(try simp only[Xo,Xm]);exact dg)
      |(rw[show R=(Bok.zero,2) from (by rw[aQ.out];grind)];(try simp only[Xo,Xm]);exact dg)
      |(rw[show R=(⟨b.tick,mz ⟨id,0,root,r,[]⟩ b.pools⟩,0) from (by rw[aQ.out];grind)];(try simp only[Xo,Xm]);exact dg)
   all_goals(clear hz bp hid HO By dK iM LC;have rB:=rB.out;(rw[show R=(Bok.zero,3) from (by rw[aQ.out];grind)];(try simp only[Xo,Xm]);exact dg))
  |some q=>
   obtain⟨i,e1,e2,e3⟩:=iZ hq;rw[e1]at dK
   have mZ:decide ((i:Int)>=0)=true:=ah;clear cf e1 e2 e3;replace hq:=Xj hq;refine pj func141 ntmps141 results141 ?_;refine ft ?_ ?_ ?_ ?_ ?_ ?_ ?_ ?_<;>first|(with_reducible exact True.intro)|intros
   all_goals clear hz bp hid HO By dK iM
   all_goals have rB:=rB.out
   all_goals have hq:=hq.out
   all_goals first
    |(rw[show R=(Bok.zero,3) from (by rw[aQ.out];grind)];(try simp only[Xo,Xm]);exact dg)
    |(rw[show R=(Bok.zero,6) from (by rw[aQ.out];grind)];(try simp only[Xo,Xm]);exact dg)
 ·have h1:(br b !=0)=true:=by simpa using hc
  have hr:R=(Bok.zero,br b):=by rw[hR.out];unfold gu;rw[aj hc]
  rw[hr];replace hr:=Xj hr;clear hR;refine pj func141 ntmps141 results141 ?_;refine ap ?_<;>intros;exact dg
theorem QT {root:Pfx}{us:List Pfx}{size:Int}(h0:iW root us=0)(h1:root.len<=size/\size<=16):mT root us size=((pC root us size).1,(pC root us size).2,0):=by
 unfold mT pC;rw[aj h0,af aa];cases(jR root us).find? (fun q=>decide (q.len<=size))<;>rfl
theorem zO (p:Pol)(l:Lse)(eG:p.leases.length<=32)(cg:∀x∈p.leases,x.at_.at_≠l.at_.at_):ai prog 147 [.agg (an p),.agg (bt l)] (.agg (an {p with leases:=iX l p.leases})):=by
 obtain⟨n0,pJ⟩:∃n0,n0=j8 (fun x:Lse=>x.at_.at_) l.at_.at_ p.leases:=⟨_,rfl⟩;have a2W:n0<=p.leases.length:=by rw[pJ];exact qY _ _ _
 have j0:∀k q,k < n0->p.leases[k]? =some q->q.at_.at_ < l.at_.at_:=fun k q hk hq=>KV (key:=fun x:Lse=>x.at_.at_) (by rw[<-pJ];exact hk) hq;have lh:∀q,p.leases[n0]? =some q->l.at_.at_ < q.at_.at_:=fun q hq=>by
  have h1:=KW (key:=fun x:Lse=>x.at_.at_) (t:=l.at_.at_) (l:=p.leases) (q:=q) (by rw[<-pJ];exact hq);have h2:=cg q (Xl hq);have h1:l.at_.at_<=q.at_.at_:=h1;omega
 have fS:iX l p.leases=p.leases.take n0++l::p.leases.drop n0:=by unfold iX;rw[<-pJ]
 replace pJ:=Xj pJ;replace fS:=Xj fS;refine pj func147 ntmps147 results147 ?_;refine ap ?_<;>intros;refine bQ ag am (fun m e h=>∃(k:Nat) (out:List Lse) (f:Bool),k<=p.leases.length/\out.length<=k+1/\((f=false/\k<=n0/\out=p.leases.take k)\/(f=true/\n0 < k/\out++p.leases.drop k=iX l p.leases))/\m=p.leases.length - k/\
  e=[(7,.d (.v (.int .i64 k))),(6,.d (.v (.bool f))),(5,.own 3 out.length),(4,.ptr 2 0),(3,.ptr 1 0),(2,.ptr 0 0)]/\
  h=[.box 83 ((an p).map .d),.box 96 ((bt l).map .d),.box 83 [.d (.v (.int .i64 0)),.d (.v (.int .i64 0)),.d (.v (.int .i64 0)),.d (.v (.int .i64 0)),.d (.v (.int .i64 0)),.d (.v (.int .i64 0)),.d (.v (.int .i64 0)),.d (.v (.int .i64 0)),.d (.v (.slice none 0 0))],.row 96 5 out.length (ab (out.map bt))]) _ _ _ ⟨0,[],false,XD _,XD _,.inl ⟨rfl,XD _,rfl⟩,rfl,rfl,rfl⟩ ?_ ?_
 ·refine(cZ ah 5 96 5 rfl).trans ?_;exact wf
 ·rintro m e h ⟨k,out,f,hk,pM,eV,hm,rfl,rfl⟩ C hC;replace hm:=Xj hm;replace eV:=Xj eV;have j7:out.length+1+1<=100:=aa;have iO:out.length+1<=100:=aa;by_cases hlt:k < p.leases.length
  ·have eo:(k:Int) < (p.leases.length:Int):=aa;have db:=wi k aa;obtain⟨q,hq⟩:∃q,p.leases[k]? =some q:=⟨_,Xk hlt⟩;have H3:=Xj (ku hq);have j0:=Xj (fun h=>j0 k q h hq);have lh:=Xj (fun h:k=n0=>lh q (by rw[<-h];exact hq));refine ft ?_ ?_ ?_ ?_ ?_ ?_ ?_ ?_<;>first|(with_reducible exact True.intro)|intros
   ·refine hC _ _ _ _ _ ?_ ⟨k+1,out++[q],true,by omega,by simp;omega,.inr ⟨rfl,?_,?_⟩,rfl,rfl,rfl⟩ (wf (hh:=(by simp only[an,bt,Xo,Xm,Xr,Xv,Xx,XX,XV];rfl)) (he:=(by(repeat' (first|exact trivial|(refine⟨?_,?_⟩)|rfl|(simp only[Xv,Xx,XX];rfl))))))
    ·have:=hm.out;omega
    ·have:=eV.out;grind
    ·have:=eV.out;have:=H3.out;grind
   ·refine hC _ _ _ _ _ ?_ ⟨k+1,out++[l]++[q],true,by omega,by have:=eV.out;simp;grind,.inr ⟨rfl,?_,?_⟩,rfl,rfl,rfl⟩ (wf (hh:=(by simp only[an,bt,Xo,Xm,Xr,Xv,Xx,XX,XV];rfl)) (he:=(by(repeat' (first|exact trivial|(refine⟨?_,?_⟩)|rfl|(simp only[Xv,Xx,XX];rfl))))))
    ·have:=hm.out;omega
    ·have:=eV.out;grind
    ·have h1:=eV.out;have:=H3.out;have hle:k<=n0/\out=p.leases.take k:=lj;have LH:k=n0:=by
      rcases XM k n0 with h|h
      ·have:=j0.out h;have h2:=of_decide_eq_true ‹decide (q.at_.at_>l.at_.at_)=true›;omega
      ·omega
     rw[fS.out,hle.2,<-LH,this];simp
   ·refine hC _ _ _ _ _ ?_ ⟨k+1,out++[q],false,by omega,by simp;omega,.inl ⟨rfl,?_,?_⟩,rfl,rfl,rfl⟩ (wf (hh:=(by simp only[an,bt,Xo,Xm,Xr,Xv,Xx,XX,XV];rfl)) (he:=(by(repeat' (first|exact trivial|(refine⟨?_,?_⟩)|rfl|(simp only[Xv,Xx,XX];rfl))))))
    ·have:=hm.out;omega
    ·exact a4S
    ·have h1:=eV.out;rw[ak hq];grind
  ·obtain rfl:k=p.leases.length:=aa;refine AN ?_ ?_<;>intros
   ·rw[show iX l p.leases=out from by have h1:=eV.out;grind];exact aP.refl _
   ·rw[show iX l p.leases=out++[l] from by
     have h1:=eV.out;rw[fS.out];have LH:n0=p.leases.length:=lj;rw[LH];grind]
    rw[Xo];exact aP.refl _
def dE (p:Pol)(size:Int):Pfx × Bool:=if 32<=p.leases.length then (Pfx.zero,false)else pC p.root (dD p) size
theorem Nv {root:Pfx}{us:List Pfx}{size:Int}(h:SpaceOK root us)(hf:(pC root us size).2=true):∀u∈us,u.at_≠(pC root us size).1.at_:=by
 unfold pC at hf ⊢;cases hq:(jR root us).find? (fun q=>decide (q.len<=size))with
 |none=>rw[hq]at hf;simp at hf
 |some q=>
  obtain⟨g1,g2⟩:=sF h (YE hq);intro u hu he;have he:u.at_=q.at_:=he;have uE:=(cw.1 g1).1;have lD:=(cw.1 (h.ins u hu)).1;have hm:q.meets u=true:=ee.2 ⟨uE,lD,by have:=Pfx.hi_bd lD;omega,by have:=Pfx.hi_bd uE;omega⟩;unfold jS at g2;rw[XU.2 ⟨u,hu,hm⟩]at g2;exact absurd g2 ah
theorem GL {p:Pol}{size:Int}(h:iW p.root (dD p)=0)(hr:fZ p.rule p.root.len=true)(h1:p.rule.min<=size)(h2:size<=p.rule.max):cC p size=if (dE p size).2=true then ((dE p size).1,0)else (Pfx.zero,8):=by
 have oG:p.root.len<=size/\size<=16:=by
  unfold fZ at hr;simp[gO]at hr;omega
 have eG:p.leases.length<=32:=by have:=(oY.1 h).many;simpa[dD]using this
 unfold cC dE;rw[af aa,QT h oG];by_cases h3:32<=p.leases.length
 ·have h4:p.leases.length=32:=aa;simp[h3,h4]
 ·have h4:¬p.leases.length=32:=aa;rw[af h3];cases hb:(pC p.root (dD p) size).2<;>simp[h4]
theorem QU (p:Pol)(size:Int)(h:iW p.root (dD p)=0)(h1:p.root.len<=size)(h2:size<=16):ai prog 146 [.agg (an p),.v (.int .i64 size)] (.tup [.agg (aS (dE p size).1),.v (.bool (dE p size).2)]):=by
 have eG:p.leases.length<=32:=by have:=(oY.1 h).many;simpa[dD]using this
 have pF:=CF p aa;have Vd:=Ub p.root (dD p) size (oY.1 h) h1 h2;unfold dD at Vd;by_cases h3:32<=p.leases.length
 ·have h3I:decide ((p.leases.length:Int)>=32)=true:=aK;have hr:dE p size=(Pfx.zero,false):=by unfold dE;rw[aj h3]
  rw[hr];replace hr:=Xj hr;refine pj func146 ntmps146 results146 ?_;exact bc
 ·have h3I:decide ((p.leases.length:Int)>=32)=false:=aK;have hr:dE p size=pC p.root (p.leases.map (·.at_)) size:=by unfold dE dD;rw[af h3]
  rw[hr];replace hr:=Xj hr;refine pj func146 ntmps146 results146 ?_;exact bc
theorem a5U {p:Prop}(h:p:=by
 unfold cC;rw[aj];simp only[Z2,decide_eq_false_iff_not]at d9;omega):p:=h
theorem a6e {p:Prop}(h:p:=by
 intro s;have:=gz.2.2;unfold fZ at this;simp[gO]at this;omega):p:=h
theorem uc {b:Bok}{i:Nat}{p:Pol}(hr:o0 b.pools)(hp:b.pools[i]? =some p)(f:Pol->Pol):t6 b p.id f=⟨b.tick,b.pools.set i (f p)⟩:=by
 unfold t6;congr 1;obtain⟨hi,he⟩:=Xn.1 hp;apply Yj;intro j;rw[Xy,L'];by_cases hij:i=j
 ·subst hij;rw[hp];simp[hi]
 ·rw[af hij];cases hq:b.pools[j]? with
  |none=>rfl
  |some q=>
   obtain⟨hj,qD⟩:=Xn.1 hq;have bH:q.id≠p.id:=by
    rcases _i hij with h|h
    ·have:=XF.1 hr i j hi hj h;rw[he,qD]at this;omega
    ·have:=XF.1 hr j i hj hi h;rw[he,qD]at this;omega
   simp[bH]
theorem GM {p:Pol}{size:Int}(h:iW p.root (dD p)=0)(hf:(dE p size).2=true):∀x∈p.leases,x.at_.at_≠(dE p size).1.at_:=by
 unfold dE at hf ⊢;split at hf
 ·cases hf
 ·rename_i h3;rw[af h3];intro x hx;exact Nv (oY.1 h) hf x.at_ (XN.2 ⟨x,hx,rfl⟩)
theorem GN (b:Bok)(id size owner:Int)(hz:∀p∈b.pools,p.leases.length<=3518437208882):ai prog 82 [.agg (bq b),.v (.int .i64 id),.v (.int .i64 size),.v (.int .i64 owner)] (.tup [.agg (bq (cS b id size owner).1),.agg (aS (cS b id size owner).2.1),.v (.int .i64 (cS b id size owner).2.2)]):=by
 obtain⟨R,hR⟩:∃R,R=cS b id size owner:=⟨_,rfl⟩;rw[<-hR];replace hR:=Xj hR;have bp:=iw b hz;by_cases hc:br b=0
 ·have cf:=dJ hc;have h8:=cf.n8;have hid:=eM owner 1 65536;have dK:=ja b id aa;cases hq:bK b id with
  |none=>
   have hr:R=(Bok.zero,Pfx.zero,5):=by rw[hR.out];unfold cS;rw[af (by simpa using hc),hq]
   rw[hr];rw[hc]at bp;rw[o9 hq]at dK
   have Bt:decide ((-1:Int) < 0)=true:=rfl;clear hr hR hq cf hc;refine pj func82 ntmps82 results82 ?_;refine ap ?_<;>intros;exact dg
  |some p=>
   obtain⟨i,e1,e2,e3⟩:=iZ hq;subst e3;have pH:p∈b.pools:=Xl e2;have iM:=jy b cf.n8 cf.l32;have gz:=cf.mem p pH;have oG:∀s,p.rule.min<=s->s<=p.rule.max->p.root.len<=s/\s<=16:=a6e
   have cL:∀s,Hid ((decide (p.rule.min<=s)&&decide (s<=p.rule.max))=true->p.root.len<=s/\s<=16):=fun s h=>by
    simp only[Xt,decide_eq_true_eq]at h;exact oG s h.1 h.2
   rw[hc]at bp;rw[e1]at dK
   have mZ:decide ((i:Int) < 0)=false:=ah;have gW:=fun f=>uc cf.rise e2 f;have jc:=fun q=>bU an b.pools i q;have key:∀s,(if size=0 then p.rule.usual else size)=s->Hid (R=if dV owner=false then (Bok.zero,Pfx.zero,3)else if (cC p s).2≠0 then (Bok.zero,Pfx.zero,(cC p s).2)else
    (⟨b.tick,b.pools.set i {p with leases:=iX ⟨(cC p s).1,1,owner,0⟩ p.leases}⟩,(cC p s).1,0)):=by
    intro s hs;show R=_;rw[hR.out];unfold cS;rw[af (by simpa using hc),hq];simp only;rw[hs,gW]
   have Vu:i < b.pools.length:=(Xn.1 e2).1;obtain⟨s,hs⟩:∃s,((size==0)=true/\s=p.rule.usual)\/((size==0)=false/\s=size):=by
    cases h0:size==0
    ·exact⟨size,.inr ⟨rfl,rfl⟩⟩
    ·exact⟨p.rule.usual,.inl ⟨rfl,rfl⟩⟩
   have aQ:=key s (by
    rcases hs with⟨h0,rfl⟩|⟨h0,rfl⟩
    ·rw[aj (by simpa using h0)]
    ·rw[af (by simpa using h0)])
   have Da:=eM s p.rule.min p.rule.max;cases d9:(decide (p.rule.min<=s)&&decide (s<=p.rule.max))with
   |false=>
    rw[d9]at Da;have hE:cC p s=(Pfx.zero,7):=a5U
    replace d9:=Xj d9;replace hE:=Xj hE;clear hR hc cf hq key gW jc;rcases hs with⟨h0,rfl⟩|⟨h0,rfl⟩
    all_goals
     refine pj func82 ntmps82 results82 ?_;refine AN ?_ ?_<;>intros;all_goals(have hE:=hE.out;unfold dV at aQ;clear bp dK hid Da hz iM)
     all_goals first
      |(rw[show R=(Bok.zero,Pfx.zero,3) from (by rw[aQ.out];grind)];(try simp only[Xo,Xm]);exact dg)
      |(rw[show R=(Bok.zero,Pfx.zero,7) from (by rw[aQ.out];grind)];(try simp only[Xo,Xm]);exact dg)
   |true=>
    rw[d9]at Da;have xU:=QU p s gz.2.1 (cL s d9).1 (cL s d9).2;have AP:=GL gz.2.1 gz.2.2 (by simp at d9;exact d9.1) (by simp at d9;exact d9.2);have xa:(dE p s).2=true->ai prog 147 [.agg (an p),.agg (bt ⟨(dE p s).1,1,owner,0⟩)] (.agg (an {p with leases:=iX ⟨(dE p s).1,1,owner,0⟩ p.leases})):=fun h=>zO p _ (cf.l32 p pH) (GM gz.2.1 h);have ec:=jc {p with leases:=iX ⟨(dE p s).1,1,owner,0⟩ p.leases};simp only[an,Xm,Xr]at ec;replace xa:=Xj xa;clear hR hc cf hq key gW jc;replace d9:=Xj d9;cases hf:(dE p s).2 with
    |false=>
     rw[hf]at xU AP;have hE:cC p s=(Pfx.zero,8):=AP;replace hE:=Xj hE;replace AP:=Xj AP;rcases hs with⟨h0,rfl⟩|⟨h0,rfl⟩
     all_goals
      refine pj func82 ntmps82 results82 ?_;refine AN ?_ ?_<;>intros;all_goals(have hE:=hE.out;unfold dV at aQ;clear bp dK hid Da hz iM xU xa ec AP)
      all_goals first
       |(rw[show R=(Bok.zero,Pfx.zero,3) from (by rw[aQ.out];grind)];(try simp only[Xo,Xm]);exact dg)
       |(rw[show R=(Bok.zero,Pfx.zero,8) from (by rw[aQ.out];grind)];(try simp only[Xo,Xm]);exact dg)
    |true=>
     rw[hf]at xU AP;have hE:cC p s=((dE p s).1,0):=AP;replace hE:=Xj hE;replace AP:=Xj AP;have xa:=xa.out hf;rcases hs with⟨h0,rfl⟩|⟨h0,rfl⟩
     all_goals
      refine pj func82 ntmps82 results82 ?_;have z1z:=Ln.mk (ls:=[]) (iM);refine AN ?_ ?_<;>intros;all_goals(have hE:=hE.out;have go:=aQ.out;unfold dV at go;rw[hE]at go;replace aQ:=Xj go;clear bp dK hid Da hz iM xU xa ec AP go)
     all_goals first
      |(rw[show R=(Bok.zero,Pfx.zero,3) from (by rw[aQ.out];grind)];(try simp only[Xo,Xm]);exact dg)
      |(rw[show R=(⟨b.tick,b.pools.set i {p with leases:=iX ⟨(dE p p.rule.usual).1,1,owner,0⟩ p.leases}⟩,(dE p p.rule.usual).1,0) from (by rw[aQ.out];grind)];(try simp only[Xo,Xm]);exact dg)
      |(rw[show R=(⟨b.tick,b.pools.set i {p with leases:=iX ⟨(dE p size).1,1,owner,0⟩ p.leases}⟩,(dE p size).1,0) from (by rw[aQ.out];grind)];(try simp only[Xo,Xm]);exact dg)
      |(rw[show R=(⟨b.tick,b.pools.set i {p with leases:=iX ⟨(dE p s).1,1,owner,0⟩ p.leases}⟩,(dE p s).1,0) from (by rw[aQ.out];grind)];(try simp only[Xo,Xm]);exact dg)
 ·have h1:(br b !=0)=true:=by simpa using hc
  have hr:R=(Bok.zero,Pfx.zero,br b):=by rw[hR.out];unfold cS;rw[aj hc]
  rw[hr];replace hr:=Xj hr;clear hR;refine pj func82 ntmps82 results82 ?_;refine ap ?_<;>intros;exact dg
theorem Jh {b:Bok}{i:Nat}{p q:Pol}{id:Int}(hp:b.pools[i]? =some p)(hid:q.id=p.id)(h:bK b id=none):bK ⟨b.tick,b.pools.set i q⟩ id=none:=by
 unfold bK at h ⊢;rw[Yr]at h ⊢;intro x hx;obtain⟨j,hj,rfl⟩:=X3.1 hx;simp only[List.getElem_set];split
 ·rename_i e;rw[hid];exact h p (Xl hp)
 ·exact h _ (Ye _)
theorem QV (b:Bok)(id up size:Int)(r:Rul)(hz:∀p∈b.pools,p.leases.length<=3518437208882):ai prog 142 [.agg (bq b),.v (.int .i64 id),.v (.int .i64 up),.v (.int .i64 size),.agg (xj r)] (.tup [.agg (bq (gx b id up size r).1),.agg (aS (gx b id up size r).2.1),.v (.int .i64 (gx b id up size r).2.2)]):=by
 obtain⟨R,hR⟩:∃R,R=gx b id up size r:=⟨_,rfl⟩;rw[<-hR];replace hR:=Xj hR;have bp:=iw b hz;by_cases hc:br b=0
 ·have cf:=dJ hc;have h8:=cf.n8;have hid:=eM id 1 65536;have dK:=ja b up aa;have wh:=ja b id aa;cases hq:bK b up with
  |none=>
   have aQ:R=if dV id=false then (Bok.zero,Pfx.zero,3)else (Bok.zero,Pfx.zero,5):=by rw[hR.out];unfold gx;rw[af (by simpa using hc),hq]
   rw[hc]at bp;rw[o9 hq]at dK
   have Bt:decide ((-1:Int) < 0)=true:=rfl;replace aQ:=Xj aQ;clear hR hq cf hc wh;refine pj func142 ntmps142 results142 ?_;refine AN ?_ ?_<;>intros;all_goals(unfold dV at aQ;clear bp dK hid hz)
   all_goals first
    |(rw[show R=(Bok.zero,Pfx.zero,3) from (by rw[aQ.out];grind)];(try simp only[Xo,Xm]);exact dg)
    |(rw[show R=(Bok.zero,Pfx.zero,5) from (by rw[aQ.out];grind)];(try simp only[Xo,Xm]);exact dg)
  |some p=>
   obtain⟨i,e1,e2,e3⟩:=iZ hq;subst e3;have pH:p∈b.pools:=Xl e2;have iM:=jy b cf.n8 cf.l32;have gz:=cf.mem p pH;have Vu:i < b.pools.length:=(Xn.1 e2).1;have oG:∀s,p.rule.min<=s->s<=p.rule.max->p.root.len<=s/\s<=16:=a6e
   rw[hc]at bp;rw[e1]at dK
   have mZ:decide ((i:Int) < 0)=false:=ah;have gW:=fun f=>uc cf.rise e2 f;have jc:=fun q=>bU an b.pools i q;have aQ:R=if dV id=false then (Bok.zero,Pfx.zero,3)else if (bK b id).isSome=true then (Bok.zero,Pfx.zero,6)else if (cC p size).2≠0 then (Bok.zero,Pfx.zero,(cC p size).2)else if fZ r (cC p size).1.len=false then (Bok.zero,Pfx.zero,1)else
    if b.pools.length=8 then (Bok.zero,Pfx.zero,2)else (⟨b.tick,mz ⟨id,p.id,(cC p size).1,r,[]⟩ (b.pools.set i {p with leases:=iX ⟨(cC p size).1,2,id,0⟩ p.leases})⟩,(cC p size).1,0):=by
    rw[hR.out];unfold gx;rw[af (by simpa using hc),hq];simp only;rw[gW]
   replace aQ:=Xj aQ;cases qD:bK b id with
   |some q=>
    obtain⟨j,f1,f2,f3⟩:=iZ qD;rw[f1]at wh;have hj0:decide ((j:Int)>=0)=true:=ah;have go:=aQ.out;rw[qD]at go;replace aQ:=Xj go;clear hR hc cf hq qD gW jc f2 f1 f3 go;refine pj func142 ntmps142 results142 ?_;refine AN ?_ ?_<;>intros;all_goals(unfold dV at aQ;clear bp dK hid hz wh iM)
    all_goals first
     |(rw[show R=(Bok.zero,Pfx.zero,3) from (by rw[aQ.out];grind)];(try simp only[Xo,Xm]);exact dg)
     |(rw[show R=(Bok.zero,Pfx.zero,6) from (by rw[aQ.out];grind)];(try simp only[Xo,Xm]);exact dg)
   |none=>
    rw[o9 qD]at wh;have Bt:decide ((-1:Int)>=0)=false:=rfl;have go:=aQ.out;rw[qD]at go;replace aQ:=Xj go;clear go;have Da:=eM size p.rule.min p.rule.max;cases d9:(decide (p.rule.min<=size)&&decide (size<=p.rule.max))with
    |false=>
     rw[d9]at Da;have hE:cC p size=(Pfx.zero,7):=a5U
     replace d9:=Xj d9;replace hE:=Xj hE;clear hR hc cf hq gW jc qD;refine pj func142 ntmps142 results142 ?_;refine AN ?_ ?_<;>intros;all_goals(have hE:=hE.out;unfold dV at aQ;clear bp dK hid Da hz iM wh)
     all_goals first
      |(rw[show R=(Bok.zero,Pfx.zero,3) from (by rw[aQ.out];grind)];(try simp only[Xo,Xm]);exact dg)
      |(rw[show R=(Bok.zero,Pfx.zero,7) from (by rw[aQ.out];grind)];(try simp only[Xo,Xm]);exact dg)
    |true=>
     rw[d9]at Da;simp only[Xt,decide_eq_true_eq]at d9;have oG:=oG size d9.1 d9.2;have xU:=QU p size gz.2.1 oG.1 oG.2;have AP:=GL gz.2.1 gz.2.2 d9.1 d9.2;have xa:(dE p size).2=true->ai prog 147 [.agg (an p),.agg (bt ⟨(dE p size).1,2,id,0⟩)] (.agg (an {p with leases:=iX ⟨(dE p size).1,2,id,0⟩ p.leases})):=fun h=>zO p _ (cf.l32 p pH) (GM gz.2.1 h);have ec:=jc {p with leases:=iX ⟨(dE p size).1,2,id,0⟩ p.leases};simp only[an,Xm,Xr]at ec;have By:=sM r (dE p size).1;have LC:=CG ⟨b.tick,b.pools.set i {p with leases:=iX ⟨(dE p size).1,2,id,0⟩ p.leases}⟩ ⟨id,p.id,(dE p size).1,r,[]⟩ b.pools.length (.agg [.v (.int .i64 id),.v (.int .i64 p.id),.v (.int .i64 (dE p size).1.at_),.v (.int .i64 (dE p size).1.len),.v (.int .i64 r.min),.v (.int .i64 r.max),.v (.int .i64 r.usual),.v (.int .i64 r.cool),.v (.slice none 0 0)]) (by simpa using h8) (Jh e2 (by rfl) qD) dg;replace xa:=Xj xa;clear hR hc cf hq gW jc oG qD;replace d9:=Xj d9;cases hf:(dE p size).2 with
     |false=>
      rw[hf]at xU AP;have hE:cC p size=(Pfx.zero,8):=AP;replace hE:=Xj hE;replace AP:=Xj AP;refine pj func142 ntmps142 results142 ?_;refine AN ?_ ?_<;>intros;all_goals(have hE:=hE.out;unfold dV at aQ;clear bp dK hid Da hz iM wh xU xa ec AP LC By)
      all_goals first
       |(rw[show R=(Bok.zero,Pfx.zero,3) from (by rw[aQ.out];grind)];(try simp only[Xo,Xm]);exact dg)
       |(rw[show R=(Bok.zero,Pfx.zero,8) from (by rw[aQ.out];grind)];(try simp only[Xo,Xm]);exact dg)
     |true=>
      rw[hf]at xU AP;have hE:cC p size=((dE p size).1,0):=AP;have go:=aQ.out;unfold dV at go;rw[hE]at go;replace aQ:=Xj go;clear hE AP go;have xa:=xa.out hf;refine pj func142 ntmps142 results142 ?_;have z1z:=Ln.mk (ls:=[]) (iM);have z2z:=Ln.mk (ls:=[8]) (LC);refine ft ?_ ?_ ?_ ?_ ?_ ?_ ?_ ?_<;>first|(with_reducible exact True.intro)|intros
      all_goals(clear bp dK hid Da hz iM wh xU xa ec LC By)
      all_goals first
       |(rw[show R=(Bok.zero,Pfx.zero,3) from (by rw[aQ.out];grind)];(try simp only[Xo,Xm]);exact dg)
       |(rw[show R=(Bok.zero,Pfx.zero,1) from (by rw[aQ.out];grind)];(try simp only[Xo,Xm]);exact dg)
       |(rw[show R=(Bok.zero,Pfx.zero,2) from (by rw[aQ.out];grind)];(try simp only[Xo,Xm]);exact dg)
       |(rw[show R=(⟨b.tick,mz ⟨id,p.id,(dE p size).1,r,[]⟩ (b.pools.set i {p with leases:=iX ⟨(dE p size).1,2,id,0⟩ p.leases})⟩,(dE p size).1,0) from (by rw[aQ.out];grind)];(try simp only[Xo,Xm]);exact dg)
 ·have h1:(br b !=0)=true:=by simpa using hc
  have hr:R=(Bok.zero,Pfx.zero,br b):=by rw[hR.out];unfold gx;rw[aj hc]
  rw[hr];replace hr:=Xj hr;clear hR;refine pj func142 ntmps142 results142 ?_;refine ap ?_<;>intros;exact dg
theorem a5Z {p:Prop}(h:p:=by
 obtain rfl:j=k:=aa;rw[li]at hl';obtain rfl:=XW.inj hl';exact h1):p:=h
@[go_sem] def Lse.zero:Lse:=⟨Pfx.zero,0,0,0⟩
def iy (b:Bok)(id:Int)(at_:Pfx):Option Lse:=match bK b id with|some p=>p.leases.find? (j9 at_)|none=>none
def qs (o:Option Lse):D:=match o with|some l=> .tup [.agg (bt l),.v (.bool true)]|none=> .tup [.agg (bt Lse.zero),.v (.bool false)]
theorem UF {α:Type}{p:α->Bool}{l:List α}{k:Nat}{x:α}(hx:l[k]? =some x)(hp:p x=true)(cg:∀j y,j < k->l[j]? =some y->p y=false):l.find? p=some x:=by
 rw[Zk];obtain⟨hk,he⟩:=Xn.1 hx;exact⟨hp,k,hk,he,fun j hj=>by rw[cg j _ hj (Xk aa)];rfl⟩
theorem UG {α:Type}{p:α->Bool}{l:List α}(cg:∀j y,j < l.length->l[j]? =some y->p y=false):l.find? p=none:=by
 rw[Yr];intro x hx;obtain⟨j,hj,rfl⟩:=X3.1 hx;rw[cg j _ hj (Xk hj)];simp
theorem CH (b:Bok)(id:Int)(at_:Pfx)(hl:b.pools.length<=1000000000)(eG:∀q∈b.pools,q.leases.length<=1000000000):ai prog 38 [.agg (bq b),.v (.int .i64 id),.agg (aS at_)] (qs (iy b id at_)):=by
 have dK:=ja b id aa;unfold iy;cases hq:bK b id with
 |none=>
  rw[o9 hq]at dK
  have Bt:decide ((-1:Int)>=0)=false:=rfl;replace hq:=Xj hq;simp only;refine pj func38 ntmps38 results38 ?_;refine ap ?_<;>intros;refine tJ ag am 0 (fun _=>True) (fun _=>[(9,.d (.v (.int .i64 0))),(8,.d (.v (.int .i64 (-1)))),(7,.d (.v (.bool false))),(6,.ptr 2 0),(5,.ptr 1 0),(3,.ptr 0 0)]) (fun _=>[.box 30 ((bq b).map .d),.box 23 ((aS at_).map .d),.box 96 ((bt Lse.zero).map .d)]) trivial (wf) (fun k hk=>absurd hk (YH _)) ?_;intro _ C;exact bc;all_goals exact dg
 |some p=>
  obtain⟨i,e1,e2,e3⟩:=iZ hq;rw[e1]at dK
  have mZ:decide ((i:Int)>=0)=true:=ah;have a3v:=eG p (Xl e2);simp only;clear e1 e3 hq;refine pj func38 ntmps38 results38 ?_;refine ap ?_<;>intros;refine bf ag am p.leases (fun k=>∀j (l:Lse),j < k->p.leases[j]? =some l->j9 at_ l=false) (fun k=>[(9,.d (.v (.int .i64 k))),(8,.d (.v (.int .i64 i))),(7,.d (.v (.bool false))),(6,.ptr 2 0),(5,.ptr 1 0),(3,.ptr 0 0)]) (fun _=>[.box 30 ((bq b).map .d),.box 23 ((aS at_).map .d),.box 96 ((bt Lse.zero).map .d)]) (fun j q h=>absurd h (YH _)) (wf) ?_ ?_
  ·intro k l li hk hI C hC;have eo:(k:Int) < (p.leases.length:Int):=aa;have db:=wi k aa;have he:=ot l.at_ at_;have SS:j9 at_ l=((l.kind==1)&&decide (l.at_=at_)):=rfl;have key:j9 at_ l=false->∀j (l:Lse),j < k+1->p.leases[j]? =some l->j9 at_ l=false:=by
    intro h1 j l' hj hl';rcases XM j k with h|h
    ·exact hI j l' h hl'
    ·exact a5Z
   have Ox:j9 at_ l=true->p.leases.find? (j9 at_)=some l:=fun h=>UF li h hI;replace Ox:=Xj Ox;replace SS:=Xj SS;replace key:=Xj key;replace hI:=Xj hI;cases hd:decide (l.at_=at_);all_goals
    rw[hd]at he;refine AN ?_ ?_<;>intros;all_goals first
     |(refine hC _ _ (key.out ?_) (wf);(rw[SS.out];clear hC;simp_all;done))
     |(rw[Ox.out (by rw[SS.out];clear hC;simp_all)];exact aP.refl _)
  ·intro hI C;rw[UG hI];replace hI:=Xj hI;exact bc;all_goals exact dg
def fD (p:Pol)(at_:Pfx)(tick:Int)(l:Lse):Option Lse:=if l.at_=at_ then (if p.rule.cool=0 then none else some ⟨at_,3,0,tick+p.rule.cool⟩)else some l
theorem Nw {p:Pol}{at_:Pfx}{tick:Int}{k:Nat}{l:Lse}(h:p.leases[k]? =some l):(p.leases.take (k+1)).filterMap (fD p at_ tick)=(p.leases.take k).filterMap (fD p at_ tick)++(fD p at_ tick l).toList:=by
 rw[ak h,List.filterMap_append];cases hb:fD p at_ tick l<;>simp[hb]
theorem QW (ps:List Pol)(tick:Int)(i:Nat)(p:Pol)(at_:Pfx)(g:Nat)(hp:ps[i]? =some p)(hl:p.leases.length<=32)(Ay:0<=p.rule.cool/\p.rule.cool<=1024)(ht:0<=tick/\tick<=1073741824):
 MSpec prog 149 [.ptr 0 0,.d (.v (.int .i64 i)),.d (.agg (aS at_))] [.box 30 [.d (.v (.int .i64 tick)),.own 1 g],.row 83 9 g (ab (ps.map an))] (.d (.tup []))
  [.box 30 [.d (.v (.int .i64 tick)),.own 1 g],.row 83 9 g (ab ((ps.set i {p with leases:=p.leases.filterMap (fD p at_ tick)}).map an)),.gone,.gone]:=by
 have hil:i < ps.length:=(Xn.1 hp).1;refine DM ag am func149 rfl ntmps149 results149 aJ ah (by simp[aq,au]) (by simp[aH,aR,aC,aq,au]) ?_;refine ap ?_<;>intros;refine bf ag am p.leases (fun _=>True) (fun k=>[(7,.d (.v (.int .i64 k))),(6,.own 3 ((p.leases.take k).filterMap (fD p at_ tick)).length),(5,.ptr 2 0),(1,.d (.v (.int .i64 i))),(0,.ptr 0 0)])
  (fun k=>[.box 30 [.d (.v (.int .i64 tick)),.own 1 g],.row 83 9 g (ab (ps.map an)),.box 23 ((aS at_).map .d),.row 96 5 ((p.leases.take k).filterMap (fD p at_ tick)).length (ab (((p.leases.take k).filterMap (fD p at_ tick)).map bt))]) trivial ?_ ?_ ?_
 ·refine(cZ ah 6 96 5 rfl).trans ?_;exact wf (hh:=(by simp only[aS];rfl))
 ·intro k l li hk _ C hC;have eo:(k:Int) < (p.leases.length:Int):=aa;have db:=wi k aa;have hwc:IntKind.i64.wrap (tick+p.rule.cool)=tick+p.rule.cool:=by rw[IntKind.wrap_i64];omega
  have Bq:=Nw (at_:=at_) (tick:=tick) li;have rW:((p.leases.take k).filterMap (fD p at_ tick)).length<=k:=Yy (List.length_filterMap_le _ _) (by rw[Xp];omega);generalize (p.leases.take k).filterMap (fD p at_ tick)=out at*;have j7:out.length+1<=100:=aa;rw[Bq]at hC;have he:=ot l.at_ at_;cases hd:decide (l.at_=at_)
  ·rw[hd]at he;have Bv:fD p at_ tick l=some l:=by unfold fD;rw[af (by simpa using hd)]
   rw[Bv]at hC;simp only[_u]at hC;clear Bq Bv;refine ap ?_<;>intros;exact hC _ _ trivial (wf (hh:=(by simp only[aS,bt,Xo,Xm,Xr,Xv,Xx,XX];rfl)) (he:=(by(repeat' (first|exact trivial|(refine⟨?_,?_⟩)|rfl|(simp only[Xv,Xx,XX];rfl))))))
  ·rw[hd]at he;cases JV:p.rule.cool==0
   ·have Bv:fD p at_ tick l=some ⟨at_,3,0,tick+p.rule.cool⟩:=by unfold fD;rw[aj (by simpa using hd),af (by simpa using JV)]
    rw[Bv]at hC;simp only[_u]at hC;clear Bq Bv;refine ap ?_<;>intros;exact hC _ _ trivial (wf (hh:=(by simp only[aS,bt,Xo,Xm,Xr,Xv,Xx,XX];rfl)) (he:=(by(repeat' (first|exact trivial|(refine⟨?_,?_⟩)|rfl|(simp only[Xv,Xx,XX];rfl))))))
   ·have Bv:fD p at_ tick l=none:=by unfold fD;rw[aj (by simpa using hd),aj (by simpa using JV)]
    rw[Bv]at hC;simp only[Option.toList_none,Yi]at hC;clear Bq Bv;refine ap ?_<;>intros;exact hC _ _ trivial (wf (hh:=(by simp only[aS,bt,Xo,Xm,Xr,Xv,Xx,XX];rfl)) (he:=(by(repeat' (first|exact trivial|(refine⟨?_,?_⟩)|rfl|(simp only[Xv,Xx,XX];rfl))))))
 ·intro _ C;(try rw[Xq])
  refine ap ?_<;>intros;refine(av 3 _ 96 5 _ rfl).trans ?_;simp only[jq,fz,ij,gM,iS,gI,aT,bW,ce,Xm,Xr,XL,XK,reduceIte,and_true,true_and,and_self,and_false,false_and,XE,XT,reduceCtorEq,Kh];refine(aL 2 ah).trans (bn rfl ?_);rw[<-bU];rfl
theorem CJ {p:Pol}{at_:Pfx}{tick:Int}{j:Nat}{l:Lse}(hs:p.leases.Pairwise fun a b=>a.at_.at_ < b.at_.at_)(hj:p.leases[j]? =some l)(hl:l.at_=at_):p.leases.filterMap (fD p at_ tick)=kV p j tick:=by
 obtain⟨hlt,he⟩:=Xn.1 hj;have hsp:p.leases=p.leases.take j++l::p.leases.drop (j+1):=by rw[<-he,F',YK]
 have hid:∀(ls:List Lse),(∀x∈ls,x.at_≠at_)->ls.filterMap (fD p at_ tick)=ls:=by
  intro ls h;induction ls with
  |nil=>rfl
  |cons a ls ih=>
   have ha:fD p at_ tick a=some a:=by unfold fD;rw[af (h a ah)]
   rw[List.filterMap_cons,ha];simp only;rw[ih fun x hx=>h x (by simp[hx])]
 have pG:=hs;rw[hsp,YV,YC]at pG;have h1:=hid (p.leases.take j) (fun x hx e=>by have:=pG.2.2 x hx l ah;rw[e,hl]at this;omega);have h2:=hid (p.leases.drop (j+1)) (fun x hx e=>by have:=pG.2.1.1 x hx;rw[e,hl]at this;omega);have h3:p.leases.filterMap (fD p at_ tick)=p.leases.take j++((fD p at_ tick l).toList++p.leases.drop (j+1)):=by
  conv=>lhs;rw[hsp]
  rw[List.filterMap_append,h1,List.filterMap_cons,h2];cases fD p at_ tick l<;>rfl
 rw[h3];unfold fD kV;rw[aj hl,hj];split
 ·rw[YI];rfl
 ·simp only[hl,_u,List.singleton_append];rw[List.set_eq_take_append_cons_drop,aj hlt]
theorem GP (b:Bok)(id:Int)(at_:Pfx)(hz:∀p∈b.pools,p.leases.length<=3518437208882):ai prog 85 [.agg (bq b),.v (.int .i64 id),.agg (aS at_)] (.tup [.agg (bq (fN b id at_).1),.v (.int .i64 (fN b id at_).2)]):=by
 obtain⟨R,hR⟩:∃R,R=fN b id at_:=⟨_,rfl⟩;rw[<-hR];replace hR:=Xj hR;have bp:=iw b hz;by_cases hc:br b=0
 ·have cf:=dJ hc;have h8:=cf.n8;have pp:=CH b id at_ aa (fun q hq=>by have:=cf.l32 q hq;omega);rw[hc]at bp;have no:iy b id at_=none->R=(Bok.zero,5):=fun h=>by
   rw[hR.out];unfold fN;rw[af (by simpa using hc)];unfold iy at h;cases hq:bK b id with
   |none=>rfl
   |some p=>
    rw[hq]at h;simp only at h ⊢;cases hf:p.leases.findIdx? (j9 at_)with
    |none=>rfl
    |some j=>
     obtain⟨hj,h1,-⟩:=XI.1 hf;exact absurd h1 (Yr.1 h _ (Ye hj))
  cases wc:iy b id at_ with
  |none=>
   rw[wc]at pp;rw[no wc];simp only[qs]at pp;clear no hR wc cf;refine pj func85 ntmps85 results85 ?_;refine ap ?_<;>intros;exact dg
  |some l=>
   rw[wc]at pp;simp only[qs]at pp;have iM:=jy b cf.n8 cf.l32;have dK:=ja b id aa;unfold iy at wc;cases hq:bK b id with
   |none=>rw[hq]at wc;simp at wc
   |some p=>
    rw[hq]at wc;simp only at wc;obtain⟨i,e1,e2,e3⟩:=iZ hq;subst e3;have pH:p∈b.pools:=Xl e2;have OB:=QW b.pools b.tick i p at_ b.pools.length e2 (cf.l32 p pH) (qZ (cf.mem p pH).2.2) cf.tick;have hr:R=(⟨b.tick,b.pools.set i {p with leases:=p.leases.filterMap (fD p at_ b.tick)}⟩,0):=by
     rw[hR.out];unfold fN;rw[af (by simpa using hc),hq];simp only;cases hf:p.leases.findIdx? (j9 at_)with
     |none=>
      rw[Yn]at hf;have h1:=Zs wc;rw[hf l (YE wc)]at h1;exact absurd h1 ah
     |some j=>
      simp only;obtain⟨hj,h1,-⟩:=XI.1 hf;unfold j9 at h1;simp only[Xt,decide_eq_true_eq]at h1;rw[uc cf.rise e2,CJ (mA (cf.mem p pH).2.1) (Xk hj) h1.2]
    rw[hr];rw[e1]at dK
    clear hr hR no wc hq cf e1 e2;refine pj func85 ntmps85 results85 ?_;have z1z:=Ln.mk (ls:=[]) (iM);have z2z:=Ln.mk (ls:=[8,7]) (OB);exact bc
 ·have h1:(br b !=0)=true:=by simpa using hc
  have hr:R=(Bok.zero,br b):=by rw[hR.out];unfold fN;rw[aj hc]
  rw[hr];replace hr:=Xj hr;clear hR;refine pj func85 ntmps85 results85 ?_;refine ap ?_<;>intros;exact dg
theorem GQ {l:List Pol}(hr:o0 l){i j:Nat}{p q:Pol}(hp:l[i]? =some p)(hq:l[j]? =some q)(h:i≠j):p.id≠q.id:=by
 obtain⟨hi,rfl⟩:=Xn.1 hp;obtain⟨hj,rfl⟩:=Xn.1 hq;rcases _i h with h|h
 ·have:=XF.1 hr i j hi hj h;omega
 ·have:=XF.1 hr j i hj hi h;omega
theorem ud {l:List Pol}(hr:o0 l){i:Nat}{p:Pol}(hp:l[i]? =some p):l.filter (fun q=>!(q.id==p.id))=l.eraseIdx i:=by
 obtain⟨hi,he⟩:=Xn.1 hp;have hsp:l=l.take i++p::l.drop (i+1):=by rw[<-he,F',YK]
 have h1:(l.take i).filter (fun q=>!(q.id==p.id))=l.take i:=Y5.2 fun q hq=>by
  obtain⟨j,hj,rfl⟩:=X3.1 hq;rw[Xp]at hj;have:=GQ hr (Xk (show j < l.length by omega)) hp aa;simpa using this
 have h2:(l.drop (i+1)).filter (fun q=>!(q.id==p.id))=l.drop (i+1):=Y5.2 fun q hq=>by
  obtain⟨j,hj,rfl⟩:=X3.1 hq;rw[XS]at hj;have:=GQ hr (Xk (show i+1+j < l.length by omega)) hp aa;simpa using this
 rw[YI];conv=>lhs;rw[hsp]
 rw[YY,h1,ZF,h2];simp
theorem QZ {l:List Pol}(hr:o0 l){i:Nat}{p q:Pol}(hp:l[i]? =some p)(h:q.id=p.id):o0 (l.set i q):=by
 unfold o0 at hr ⊢;rw[XF]at hr ⊢;intro a c ha hc hac;simp only[YX]at ha hc;have h1:=hr a c ha hc hac;obtain⟨hi,he⟩:=Xn.1 hp;simp only[List.getElem_set];split<;>split
 ·omega
 ·rename_i e1 e2;subst e1;rw[h,<-he];exact h1
 ·rename_i e1 e2;subst e2;rw[h,<-he];exact h1
 ·exact h1
theorem Ji {α:Type}(l:List α)(i n:Nat)(hi:i < l.length)(hn:n=l.length):(aB l i ((l.drop (i+1)).take (n - (i+1)))).take (i+min (n - (i+1)) (n - (i+1)))=l.eraseIdx i:=by
 subst hn;have h1:(l.drop (i+1)).take (l.length - (i+1))=l.drop (i+1):=XG (by rw[XS];omega);rw[h1,Zr,YI];unfold aB;rw[Ym aK,XG aK]
structure CutB (ps:List Pol)(i n:Nat):Prop where
 ne:¬ab (ps.map an)=[]
 ne2:¬aB (ab (ps.map an)) i (((ab (ps.map an)).drop (i+1)).take (n - (i+1)))=[]
 len:(aB (ab (ps.map an)) i (((ab (ps.map an)).drop (i+1)).take (n - (i+1)))).length=n
 cut:(aB (ab (ps.map an)) i (((ab (ps.map an)).drop (i+1)).take (n - (i+1)))).take (i+min (n - (i+1)) (n - (i+1)))=ab ((ps.eraseIdx i).map an)
theorem a1o {ps:List Pol}{i n:Nat}(hi:i < n)(hn:n=ps.length):CutB ps i n:=by
 have hl:(ab (ps.map an)).length=ps.length:=by simp[aG]
 have h2:=m9 (ab (ps.map an)) i (i+1) n aa rfl aa;refine⟨fun h=>?_,fun h=>?_,by omega,?_⟩
 ·rw[h]at hl;simp at hl;omega
 ·rw[h]at h2;simp at h2;omega
 ·rw[Ji _ i n aa aa];unfold ab;rw[gB,gB]
theorem GR {b:Bok}(cf:BookOK b){p u:Pol}{i j:Nat}(hq:bK b p.id=some p)(hi:b.pools[i]? =some p)(hu:bK b p.up=some u)(hj:b.pools[j]? =some u)(a2c:u.id=p.up):
 i≠j/\jl b p=b.pools.set j {u with leases:=u.leases.filterMap (fD u p.root b.tick)}:=by
 have pH:p∈b.pools:=Xl hi;have Oh:u∈b.pools:=Xl hj;have h0:∀q∈b.pools,q.id≠0:=fun q hq e=>by have:=(cf.mem q hq).1;rw[e]at this;simp[dV]at this
 have gW:=(ir _ _ cf.second p pH).1;refine⟨?_,?_⟩
 ·rintro rfl;rw[hi]at hj;obtain rfl:=XW.inj hj;rw[D0 hq (h0 p pH) a2c.symm b.pools.length]at gW;exact absurd gW ah
 ·have jY:=KM gW (by rw[<-a2c];exact h0 u Oh) hu;unfold jl;rw[hu];simp only;cases hf:u.leases.findIdx? (mU p.id)with
  |none=>
   rw[Yn]at hf;obtain⟨x,hx,j5⟩:=XU.1 jY;rw[hf x hx]at j5;exact absurd j5 ah
  |some k=>
   simp only;obtain⟨hk,h1,-⟩:=XI.1 hf;have bJ:=(ir _ _ cf.second u Oh).2 _ (Ye hk);unfold mU at h1;simp only[Xt,beq_iff_eq]at h1;have dK:u.leases[k].at_=p.root:=by
    unfold eP at bJ;rw[af (by simp[h1.1]),aj (by simp[h1.1]),h1.2,hq]at bJ;simp only[Xt,decide_eq_true_eq]at bJ;exact bJ.2.1.symm
   rw[uc cf.rise hj,CJ (mA (cf.mem u Oh).2.1) (Xk hk) dK]
theorem Nx (b:Bok)(id:Int)(hz:∀p∈b.pools,p.leases.length<=3518437208882):ai prog 143 [.agg (bq b),.v (.int .i64 id)] (.tup [.agg (bq (fO b id).1),.v (.int .i64 (fO b id).2)]):=by
 obtain⟨R,hR⟩:∃R,R=fO b id:=⟨_,rfl⟩;rw[<-hR];replace hR:=Xj hR;have bp:=iw b hz;by_cases hc:br b=0
 ·have cf:=dJ hc;have h8:=cf.n8;have dK:=ja b id aa;rw[hc]at bp;cases hq:bK b id with
  |none=>
   have hr:R=(Bok.zero,5):=by rw[hR.out];unfold fO;rw[af (by simpa using hc),hq]
   rw[hr];rw[o9 hq]at dK
   have Bt:decide ((-1:Int) < 0)=true:=rfl;clear hr hR hq cf hc;refine pj func143 ntmps143 results143 ?_;refine ap ?_<;>intros;exact dg
  |some p=>
   obtain⟨i,e1,e2,e3⟩:=iZ hq;subst e3;have pH:p∈b.pools:=Xl e2;have Vu:i < b.pools.length:=(Xn.1 e2).1;have iM:=jy b cf.n8 cf.l32;have wh:=ja b p.up aa;have mZ:decide ((i:Int) < 0)=false:=ah;have jC:=cf.l32 p pH;rw[e1]at dK
   have aQ:R=if (p.leases.any fun l=>l.kind !=3)=true then (Bok.zero,9)else (⟨b.tick,(jl b p).filter fun q=>!(q.id==p.id)⟩,0):=a6r
   replace aQ:=Xj aQ;clear hR;refine pj func143 ntmps143 results143 ?_;refine ap ?_<;>intros;refine bf ag am p.leases (fun k=>∀j (l:Lse),j < k->p.leases[j]? =some l->(l.kind !=3)=false) (fun k=>[(8,.d (.v (.int .i64 k))),(7,.d (.v (.int .i64 i))),(5,.d (.v (.int .i64 0))),(4,.ptr 1 0),(2,.ptr 0 0),(1,.d (.v (.int .i64 p.id)))])
    (fun _=>[.box 30 ((bq b).map .d),.box 30 [.d (.v (.int .i64 0)),.d (.v (.slice none 0 0))]]) (fun j q h=>absurd h (YH _)) (wf) ?_ ?_
   ·intro k l li hk hI C hC;have eo:(k:Int) < (p.leases.length:Int):=aa;have db:=wi k aa;replace hI:=Xj hI;refine AN ?_ ?_<;>intros
    ·rename_i h1;have jY:(p.leases.any fun l=>l.kind !=3)=true:=XU.2 ⟨l,Xl li,h1⟩;clear hC hI hz bp dK wh iM cf;(rw[show R=(Bok.zero,9) from (by rw[aQ.out];grind)];(try simp only[Xo,Xm]);exact dg)
    ·rename_i h1;refine hC _ _ (fun j l' hj hl'=>?_) (wf);rcases XM j k with h|h
     ·exact hI.out j l' h hl'
     ·exact a5Z
   ·intro hI C;have jY:(p.leases.any fun l=>l.kind !=3)=false:=by
     rw[Yh];intro l hl;obtain⟨j,hj,rfl⟩:=X3.1 hl;rw[hI j _ hj (Xk hj)];simp
    have go:=aQ.out;rw[jY]at go;simp only[YB,if_false]at go;replace hI:=Xj hI;replace jY:=Xj jY;have Da:=wi i aa;cases hu:bK b p.up with
    |none=>
     rw[o9 hu]at wh;have Bt:decide ((-1:Int)>=0)=false:=rfl;have gU:jl b p=b.pools:=by unfold jl;rw[hu]
     rw[gU,ud cf.rise e2]at go;replace aQ:=Xj go;clear go gU hu cf hq hc;have a2X:i<=b.pools.length:=aa;have hle2:i+1<=b.pools.length:=aa;have a0E:i+(b.pools.length - (i+1))<=b.pools.length:=aa;have HC:i+min (b.pools.length - (i+1)) (b.pools.length - (i+1))<=b.pools.length:=by rw[Zr];exact a0E
     obtain⟨bH,HV,rV,hcut⟩:=a1o (ps:=b.pools) Vu rfl;have N9:0 < b.pools.length:=aa;have z1z:=@Xp.{0};have z2z:=@XS.{0};have z3z:=Ln.mk (ls:=[]) (iM);refine ft ?_ ?_ ?_ ?_ ?_ ?_ ?_ ?_<;>first|(with_reducible exact True.intro)|intros
     all_goals clear hz bp dK wh iM bH HV hcut rV
     rw[aQ.out];first|done|exact aP.refl _
    |some u=>
     obtain⟨j,f1,f2,f3⟩:=iZ hu;obtain⟨hij,gU⟩:=GR cf hq e2 hu f2 f3;have Oh:u∈b.pools:=Xl f2;have OB:=QW b.pools b.tick j u p.root b.pools.length f2 (cf.l32 u Oh) (qZ (cf.mem u Oh).2.2) cf.tick;have AJ:(b.pools.set j {u with leases:=u.leases.filterMap (fD u p.root b.tick)})[i]? =some p:=by rw[Q' (Ne.symm hij)];exact e2
     rw[f1]at wh;have hj0:decide ((j:Int)>=0)=true:=ah;rw[gU,ud (QZ cf.rise f2 (by rfl)) AJ]at go;replace aQ:=Xj go;clear go gU hu cf hq hc AJ f1 f2 f3 hij;have a2X:i<=b.pools.length:=aa;have hle2:i+1<=b.pools.length:=aa;have a0E:i+(b.pools.length - (i+1))<=b.pools.length:=aa;have HC:i+min (b.pools.length - (i+1)) (b.pools.length - (i+1))<=b.pools.length:=by rw[Zr];exact a0E
     obtain⟨bH,HV,rV,hcut⟩:=a1o (ps:=b.pools.set j {u with leases:=u.leases.filterMap (fD u p.root b.tick)}) Vu ah;have N9:0 < b.pools.length:=aa;have z1z:=@Xp.{0};have z2z:=@XS.{0};have z3z:=Ln.mk (ls:=[]) (iM);have z4z:=Lm.mk (Ln.mk (ls:=[6,5]) (OB));refine ft ?_ ?_ ?_ ?_ ?_ ?_ ?_ ?_<;>first|(with_reducible exact True.intro)|intros
     all_goals clear hz bp dK wh iM bH HV hcut rV OB
     rw[aQ.out];first|done|exact aP.refl _
 ·have h1:(br b !=0)=true:=by simpa using hc
  have hr:R=(Bok.zero,br b):=by rw[hR.out];unfold fO;rw[aj hc]
  rw[hr];replace hr:=Xj hr;clear hR;refine pj func143 ntmps143 results143 ?_;refine ap ?_<;>intros;exact dg
def pw (b:Bok)(t:Int)(k:Nat):List Pol:=(b.pools.take k).map (fB t)++b.pools.drop k
theorem Ny (b:Bok)(t:Int)(k:Nat)(hk:k<=b.pools.length):(pw b t k).length=b.pools.length:=by
 unfold pw;simp;omega
theorem Nz {b:Bok}{t:Int}{k:Nat}{p:Pol}(hp:b.pools[k]? =some p):(pw b t k)[k]? =some p:=by
 have hk:=(Xn.1 hp).1;unfold pw;rw[XH aK];simp only[XB,Xp,Yl];rw[show k+(k - min k b.pools.length)=k by omega,hp]
theorem NA {b:Bok}{t:Int}{k:Nat}{p:Pol}(hp:b.pools[k]? =some p):(pw b t k).set k (fB t p)=pw b t (k+1):=by
 have hk:=(Xn.1 hp).1;unfold pw;rw[Yu _ _ aK,ak hp,Xo,ku hp];simp only[XB,Xp];rw[show k - min k b.pools.length=0 by omega];simp
theorem Jj {α:Type}{p:α->Bool}{l:List α}{k:Nat}{x:α}(h:l[k]? =some x):(l.take (k+1)).filter p=(l.take k).filter p++if p x then [x]else []:=by
 rw[ak h,YY];cases hp:p x<;>simp[hp]
theorem Q0 (b:Bok)(n:Int)(hz:∀p∈b.pools,p.leases.length<=3518437208882):ai prog 144 [.agg (bq b),.v (.int .i64 n)] (.tup [.agg (bq (jU b n).1),.v (.int .i64 (jU b n).2)]):=by
 obtain⟨R,hR⟩:∃R,R=jU b n:=⟨_,rfl⟩;rw[<-hR];replace hR:=Xj hR;have bp:=iw b hz;by_cases hc:br b=0
 ·have cf:=dJ hc;have h8:=cf.n8;have ht:=cf.tick;have hws:IntKind.i64.wrap (1073741824 - b.tick)=1073741824 - b.tick:=by rw[IntKind.wrap_i64];omega
  have Da:=eM n 1 (1073741824 - b.tick);rw[hc]at bp;by_cases hn:n < 1\/n>1073741824 - b.tick
  ·have hr:R=(Bok.zero,3):=by rw[hR.out];unfold jU;rw[af (by simpa using hc),aj hn]
   have hd:(decide (1<=n)&&decide (n<=1073741824 - b.tick))=false:=by
    rcases hn with h|h
    ·simp;omega
    ·simp;omega
   rw[hr];rw[hd]at Da;clear hr hR hd hn cf hc;refine pj func144 ntmps144 results144 ?_;refine ap ?_<;>intros;exact dg
  ·have hr:R=(⟨b.tick+n,b.pools.map (fB (b.tick+n))⟩,0):=by rw[hR.out];unfold jU;rw[af (by simpa using hc),af hn]
   have hd:(decide (1<=n)&&decide (n<=1073741824 - b.tick))=true:=aK;have Vr:IntKind.i64.wrap (b.tick+n)=b.tick+n:=by rw[IntKind.wrap_i64];omega
   have iM:=jy b cf.n8 cf.l32;have pI:=cf.l32;rw[hr];rw[hd]at Da;clear hr hR hd hn cf hc;refine pj func144 ntmps144 results144 ?_;have z1z:=Ln.mk (ls:=[]) (iM);refine ap ?_<;>intros;refine tJ ag am b.pools.length (fun _=>True) (fun k=>[(8,.d (.v (.int .i64 k))),(7,.ptr 6 0),(5,.d (.v (.int .i64 0))),(4,.ptr 1 0)])
    (fun k=>[.box 30 ((bq b).map .d),.box 30 [.d (.v (.int .i64 0)),.d (.v (.slice none 0 0))],.gone,.gone,.gone,.row 83 9 b.pools.length (ab ((pw b (b.tick+n) k).map an)),.box 30 [.d (.v (.int .i64 (b.tick+n))),.own 5 b.pools.length]]) trivial ?_ ?_ ?_
   ·exact wf (hh:=(by simp only[bq,pw,Zb,Xr,Yb,List.drop_zero];rfl))
   ·intro k hk _ C hC;obtain⟨p,hp⟩:∃p,b.pools[k]? =some p:=⟨_,Xk hk⟩;have eo:(k:Int) < (b.pools.length:Int):=aa;have db:=wi k aa;have hg:=Nz (t:=b.tick+n) hp;have hs:=NA (t:=b.tick+n) hp;have xT:=Ny b (b.tick+n) k aa;have jC:=pI p (Xl hp);rw[<-hs]at hC;generalize pw b (b.tick+n) k=ps at*;have hks:k < ps.length:=aa;clear hs;refine ap ?_<;>intros;refine bf ag am p.leases (fun _=>True) (fun j=>[(10,.d (.v (.int .i64 j))),(9,.own 7 ((p.leases.take j).filter fun l=>!kW (b.tick+n) l).length),(8,.d (.v (.int .i64 k))),(7,.ptr 6 0),(5,.d (.v (.int .i64 0))),(4,.ptr 1 0)])
     (fun j=>[.box 30 ((bq b).map .d),.box 30 [.d (.v (.int .i64 0)),.d (.v (.slice none 0 0))],.gone,.gone,.gone,.row 83 9 b.pools.length (ab (ps.map an)),.box 30 [.d (.v (.int .i64 (b.tick+n))),.own 5 b.pools.length],.row 96 5 ((p.leases.take j).filter fun l=>!kW (b.tick+n) l).length (ab (((p.leases.take j).filter fun l=>!kW (b.tick+n) l).map bt))]) trivial ?_ ?_ ?_
    ·refine(cZ ah 9 96 5 rfl).trans ?_;exact wf (hh:=(by simp only[bq];rfl))
    ·intro j l ro hj _ C hC;have lz:(j:Int) < (p.leases.length:Int):=aa;have nI:=wi j aa;have wg:=Jj (p:=fun l=>!kW (b.tick+n) l) ro;have rW:((p.leases.take j).filter fun l=>!kW (b.tick+n) l).length<=j:=Yy (Ze _ _) (by rw[Xp];omega);rw[wg]at hC;generalize (p.leases.take j).filter (fun l=>!kW (b.tick+n) l)=out at*;have j7:out.length+1<=100:=aa;have ep:kW (b.tick+n) l=((l.kind==3)&&decide (l.till<=b.tick+n)):=rfl;replace ep:=Xj ep;clear wg;cases ho:kW (b.tick+n) l;all_goals
      rw[ho]at hC;have ep:=ep.out;rw[ho]at ep;replace ep:=Xj ep;simp only[Bool.not_false,H',YB,if_true,if_false,Yi]at hC;replace ho:=Xj ho;refine ft ?_ ?_ ?_ ?_ ?_ ?_ ?_ ?_<;>first|(with_reducible exact True.intro)|intros
      all_goals first
       |(exfalso;have:=ep.out;clear hC;grind)
       |exact hC _ _ trivial (wf (hh:=(by simp only[bq,bt,Xo,Xm,Xr,Xv,Xx,XX];rfl)) (he:=(by(repeat' (first|exact trivial|(refine⟨?_,?_⟩)|rfl|(simp only[Xv,Xx,XX];rfl))))))
    ·intro _ C1;(try rw[Xq])
     refine ap ?_<;>intros;refine hC _ _ trivial ((av 7 _ 96 5 _ rfl).trans ?_);simp only[jq,fz,ij,gM,iS,gI,aT,bW,ce,Xm,Xr,XL,XK,reduceIte,and_true,true_and,and_self,and_false,false_and,XE,XT,reduceCtorEq,Kh];exact wf (x:=[.gone]) (hh:=(by rw[<-bU];rfl))
   ·intro _ C;have he:pw b (b.tick+n) b.pools.length=b.pools.map (fB (b.tick+n)):=by unfold pw;simp
    rw[he];repeat' (first|(with_reducible refine And.intro ?_ ?_)|(with_reducible refine oS (fun _=>?_) (fun _=>?_))|(with_reducible refine ey (fun _=>?_) (fun _=>?_))|(with_reducible refine jL aJ)|simp -dsimp only[go_sem,seval, *,bq,ZJ,XB]|((with_reducible refine jM ?_);simp -dsimp only[go_sem,seval,bq,ZJ,XB];first|refine eA OE ny ?_|(refine ez gT ?_ ?_ ?_;(solve|(repeat(first|exact aP.refl _|exact aP.nil _|(refine aP.tup ?_)|(refine aP.agg ?_ rfl)|exact trivial|(refine And.intro ?_ ?_))));(solve|exact .inl rfl|exact .inr rfl)))|fail|omega|exact decide_eq_true aa|exact aP.refl _)
 ·have h1:(br b !=0)=true:=by simpa using hc
  have hr:R=(Bok.zero,br b):=by rw[hR.out];unfold jU;rw[aj hc]
  rw[hr];replace hr:=Xj hr;clear hR;refine pj func144 ntmps144 results144 ?_;refine ap ?_<;>intros;exact dg
end Go.Proofs.YtojojebildofnaaGreatDoor
