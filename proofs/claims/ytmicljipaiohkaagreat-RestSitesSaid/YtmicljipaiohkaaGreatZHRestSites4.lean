/- Texts of this work, joined. -/
import Derived.Test.YtmicljipaiohkaaGreatZHRestSites3
import Derived.Deep.Slices
import Derived.Deep.Fields
import Derived.ChangeSame
import Derived.OpenShut
import Derived.ProofKit
import Derived.Carry
import Derived.ChangeMaps5
import Derived.DataShut
import Derived.Shelf.SlSortCmp.WholeK
import Derived.Sort.Grow
import Derived.Deep.MidRow
set_option linter.unusedSimpArgs false
set_option linter.unusedVariables false
set_option maxRecDepth 100000
set_option maxHeartbeats 16000000
namespace Go.Proofs.YtmicljipaiohkaaGreat
open Go Go.RowKit Go.Proofs.Tryz
open Go.Lib renaming hid → Xi
open _root_.List renaming getElem?_eq_getElem → Xj, mem_of_getElem? → Xk, map_cons → Xl, getElem?_eq_some_iff → Xm, map_append → Xn, length_take → Xo, map_nil → Xp, take_length → Xq, getElem?_map → Xr, length_map → Xs, length_cons → XC, all_eq_true → XD, mem_map → XF, pairwise_iff_getElem → XH, getElem?_append_right → XI, getD_eq_getElem?_getD → XJ, findIdx?_eq_some_iff_getElem → XK, take_of_length_le → XM, getElem?_eq_none → XN, length_drop → XO, getElem?_take_of_lt → XP, setIfInBounds_toArray → XQ, any_eq_true → XR, replicate → XS, set_cons_zero → XT, length_append → XV, getElem?_append_left → XW, length_nil → XX, mem_cons → XY, mem_iff_getElem → XZ, mem_append → X0, set_cons_succ → X2, append_assoc → X3, range → X4, cons_append → X5, getElem_of_mem → X7, nil_append → X8, eq_nil_of_length_eq_zero → X9, mem_singleton → Yc, mem_of_mem_drop → Yd, take → Ye, mem_of_mem_take → Yf, ext_getElem? → Yg, any_eq_false → Yh, getElem?_drop → Yk, getElem_mem → Yl, take_append_of_le_length → Ym, findIdx?_eq_none_iff → Yn, find?_eq_none → Yr, set_append_right → Yu, append_nil → Yv, getElem?_cons_succ → Yw, pairwise_cons → YA, mem_of_find?_eq_some → YC, size_toArray → YF, drop_eq_getElem_cons → YN, mem_range → YO, mem_cons_of_mem → YP, pairwise_append → YQ, take_append_drop → YV, toList_toArray → YZ, map_congr_left → Y0, all_eq_false → Y2, pairwise_map → Y3, mem_or_eq_of_mem_set → Y4, drop_length → Y6, mem_map_of_mem → Y7, length_pos_iff → Zb, getElem?_toArray → Zc, find?_some → Zg, filter_filter → Zh, getElem?_take → Zi, length → Zm, not_mem_nil → Zn, flatMap_append → Zu, mem_filter → Zv, eq_of_mem_replicate → Zy, getElem_take → ZD, take_succ_cons → ZF, mem_flatten → ZL, all_append → ZR, map_set → ZU, map_flatten → Z1, mem_flatMap → Z3, map_map → Z4, not_of_lt_findIdx → Z5, getElem_cons_drop → Z6, filter_congr → Z9, take_zero → p', findIdx_getElem → z', getElem_map → I', nodup_append → Z', take_sublist → _a, mem_toArray → _m, map_toArray → _p
open Go.World renaming size_alloc → Xt, heap_drewN → Xu, size_drew → Xy, cell? → YL, cell?_of_block → Zk, setRow → ZH, setCell → L'
open _root_.Bool renaming and_eq_true → Xv, eq_iff_iff → Yi, true_and → Yp, and_self → Yq, and_true → Yx, false_eq_true → Yz, eq_false_iff → YB, not_eq_true' → Zq, false_or → ZY, and_assoc → _b
open _root_.Nat renaming zero_add → Xw, reduceEqDiff → Xx, reduceAdd → Xz, le_refl → XA, zero_le → XE, add_zero → XG, lt_or_ge → XL, lt_of_lt_of_le → Ya, le_trans → Yj, mul_le_mul_right → Yt, not_lt_zero → Yy, sub_self → YE, le_of_eq → YW, succ_mul → YX, lt_trichotomy → Y9, mul_comm → Zr, sub_zero → Zs, min_self → Zt, eq_zero_or_pos → Zx, div_lt_of_lt_mul → ZA, add_assoc → ZI, min → ZP, div_add_mod → ZQ, reduceLT → ZV, not_lt → ZX, min_def → B', le_of_lt → G', mul_one → _g, mod_lt → _h, one_le_two_pow → _i
open _root_.Option renaming map_eq_some_iff → XB, some → XU, map_some → Yb, getD_some → YD, isSome_some → YI, bind_some → Y5, isSome_none → Za, isSome_iff_exists → Ze
open _root_.Array renaming getElem?_toList → X6, getElem?_eq_some_iff → Yo, getD_eq_getD_getElem? → Ys, getElem?_eq_none → YJ, getElem?_eq_getElem → YM, getElem?_modify → YU, replicate → Y1, mem_of_getElem? → Z8, toList_map → F', toArray_toList → _f, range → _k
open _root_.Int renaming dvd_of_emod_eq_zero → YH, lt_irrefl → Zz, emod_eq_zero_of_dvd → ZE, le_refl → ZJ, toNat_of_nonneg → Z0, fdiv_eq_ediv_of_nonneg → A', dvd_trans → N'
open _root_.Function renaming comp → _l
def jW (at_:Pfx)(l:Lse):Bool:=(l.kind==1)&&decide (l.at_=at_)
theorem Rp [Flo](l:Lse)(at_:Pfx):ai prog 131 [.agg (bc l),.ept (aS at_)] (.v (.bool (jW at_ l))):=by
 have he:=nF l.at_ at_;unfold jW;rw[<-he];replace he:=Xi he;refine pj func131 ntmps131 results131 ?_;exact aY
def fL (b:Bok)(id:Int)(at_:Pfx):Bok × Int:=
 if bn b≠0 then (Bok.zero,bn b)else
 match bK b id with
 |none=>(Bok.zero,5)
 |some p=>match p.leases.findIdx? (jW at_)with
  |none=>(Bok.zero,5)
  |some i=>(sS b id fun p=>{p with leases:=kO p i b.tick},0)
theorem qi {r:Rul}{len:Int}(h:fY r len=true):0<=r.cool/\r.cool<=1024:=by
 simp only[fY,Xv,decide_eq_true_eq]at h;exact h.2
structure ZipB (b:Bok)(pre post:List Pol)(p:Pol):Prop where
 eq:b.pools=pre++p::post
 at_:b.pools[pre.length]? =some p
 mem:p∈b.pools
 view:dk (br (az [.box 24 [.d (.v (.int .i64 b.tick)),.own 1 b.pools.length],.row 62 9 b.pools.length (fZ pre (aA p (.own 2 1)) post),.row 68 5 1 (ab (p.leases.map bc))]) 5) (fZ pre (aA p (.own 2 1)) post)=some (b.pools.map al)
 len:(fZ pre (aA p (.own 2 1)) post).length=b.pools.length
theorem Uo {b:Bok}{pre post:List Pol}{p:Pol}(hp:b.pools=pre++p::post):ZipB b pre post p:=by
 refine⟨hp,?_,?_,?_,?_⟩
 ·rw[hp,XI (XA _),YE];rfl
 ·rw[hp];simp
 ·rw[hp];simp only[iz,aA,cI,br,az,eL,if_true,Yb,Xn,Xl];rfl
 ·rw[x6,hp];simp;omega
theorem sU [Flo]{b:Bok}(hb:BookOK b){pre post:List Pol}{p:Pol}(hz:ZipB b pre post p){i:Nat}{q:Pol}(hq:b.pools[i]? =some q):
 MSpec prog 116 [.ptr 0 0,.d (.v (.int .i64 q.id))] [.box 24 [.d (.v (.int .i64 b.tick)),.own 1 b.pools.length],.row 62 9 b.pools.length (fZ pre (aA p (.own 2 1)) post),.row 68 5 1 (ab (p.leases.map bc))]
  (.tup [.rp 1 b.pools.length 9 i 0,.d (.v (.bool true))]) [.box 24 [.d (.v (.int .i64 b.tick)),.own 1 b.pools.length],.row 62 9 b.pools.length (fZ pre (aA p (.own 2 1)) post),.row 68 5 1 (ab (p.leases.map bc))]:=
 Cp b i q b.pools.length _ [.row 68 5 1 (ab (p.leases.map bc))] (.d (.v (.int .i64 b.tick))) hq hb.rise hb.n8 hz.len hz.view (by rw[iZ];rfl) (by simp only[aL,aQ,aF,Yq]) rfl
theorem NN [Flo](b:Bok)(id:Int)(at_:Pfx)(hz:∀p∈b.pools,p.leases.length<=3518437208882):ai prog 62 [.agg (bj b),.v (.int .i64 id),.agg (aS at_)] (.tup [.agg (bj (fL b id at_).1),.v (.int .i64 (fL b id at_).2)]):=by
 obtain⟨R,hR⟩:∃R,R=fL b id at_:=⟨_,rfl⟩;rw[<-hR];replace hR:=Xi hR;by_cases hc:bn b=0
 ·have bW:=db hc;cases hq:bK b id with
  |none=>
   have cV:=kh b hz hc;have hf:=oy b id (by have:=bW.n8;omega) bW.rise;unfold pF at hf;rw[hq]at hf;replace hc:=Xi hc;replace hq:=Xi hq;refine pj func62 ntmps62 results62 ?_;have z1z:=Ln.mk (ls:=[]) (cV);refine aq ?_<;>intros;rw[show R=(Bok.zero,5) from (by rw[hR.out];unfold fL;rw[af (by simpa using hc.out),hq.out])];exact dg
  |some p=>
   obtain⟨pre,post,hp,rfl⟩:=ly hq;have cV:=sN b pre post p hp hz hc;have wI:=Uo hp;have hf:=sU bW wI wI.at_;have nP:=bW.l32 p wI.mem;have qQ:=ot lZ (jW at_) p.leases 131 [.ept (aS at_)] aa (fun l _=>Rp l at_);have gM:=fun f=>oz bW.rise hp f;unfold cq at qQ;cases Qa:p.leases.findIdx? (jW at_)with
   |none=>
    rw[Qa]at qQ;have hr:R=(Bok.zero,5):=by rw[hR.out];unfold fL;rw[af (by simpa using hc),hq];simp only;rw[Qa]
    rw[hr];clear hr gM hq hp hc Qa hR wI;refine pj func62 ntmps62 results62 ?_;repeat' (first|(with_reducible refine And.intro ?_ ?_)|(with_reducible refine og (fun _=>?_) (fun _=>?_))|(with_reducible refine ef (fun _=>?_) (fun _=>?_))|(with_reducible refine jA aK)|simp -dsimp only[go_sem,seval, *,bj,aS,aA,aP,fi]|((with_reducible refine jB ?_);simp -dsimp only[go_sem,seval,bj,aS,aA,aP,fi];first|refine ei (by first|assumption|exact qQ) mR ?_|(refine eh gR ?_ ?_ ?_;(solve|(repeat(first|exact aO.refl _|exact aO.nil _|(refine aO.tup ?_)|(refine aO.agg ?_ rfl)|exact trivial|(refine And.intro ?_ ?_))));(solve|exact .inl rfl|exact .inr rfl)))|(refine fR [] (cV) ?_ ?_ ?_ ?_ ?_ ?_;(solve|rfl|simp only[go_sem,seval,bj,aA,aP]);(solve|rfl);(solve|decide);(solve|simp);(solve|simp only[go_sem,seval,bF,bj,aA,aP]))|(refine fR [5,6,8] (hf) ?_ ?_ ?_ ?_ ?_ ?_;(solve|rfl|simp only[go_sem,seval,aS,aA,aP]);(solve|rfl);(solve|decide);(solve|simp);(solve|simp only[go_sem,seval,bF,aS,aA,aP]))|omega|exact decide_eq_true aa|exact aO.refl _)
    exact dg
   |some i=>
    rw[Qa]at qQ;have hi:i < p.leases.length:=(XK.1 Qa).1;have gB:=NG pre post p i b.pools.length 1 b.tick hi nP (qi (bW.mem p wI.mem).2.2) bW.tick;have hr:R=(⟨b.tick,pre++{p with leases:=kO p i b.tick}::post⟩,0):=by rw[hR.out];unfold fL;rw[af (by simpa using hc),hq];simp only;rw[Qa];simp only;rw[gM]
    have mC:decide ((i:Int) < 0)=false:=ak;rw[hr];clear hr gM hq hp hc Qa hR wI;refine pj func62 ntmps62 results62 ?_;repeat' (first|(with_reducible refine And.intro ?_ ?_)|(with_reducible refine og (fun _=>?_) (fun _=>?_))|(with_reducible refine ef (fun _=>?_) (fun _=>?_))|(with_reducible refine jA aK)|simp -dsimp only[go_sem,seval, *,bj,aS,aA,aP,fi,mC]|((with_reducible refine jB ?_);simp -dsimp only[go_sem,seval,bj,aS,aA,aP,fi,mC];first|refine ei (by first|assumption|exact qQ) mR ?_|(refine eh gR ?_ ?_ ?_;(solve|(repeat(first|exact aO.refl _|exact aO.nil _|(refine aO.tup ?_)|(refine aO.agg ?_ rfl)|exact trivial|(refine And.intro ?_ ?_))));(solve|exact .inl rfl|exact .inr rfl)))|(refine fR [] (cV) ?_ ?_ ?_ ?_ ?_ ?_;(solve|rfl|simp only[go_sem,seval,bj,aA,aP]);(solve|rfl);(solve|decide);(solve|simp);(solve|simp only[go_sem,seval,bF,bj,aA,aP]))|(refine fR [5,6,8] (hf) ?_ ?_ ?_ ?_ ?_ ?_;(solve|rfl|simp only[go_sem,seval,aS,aA,aP]);(solve|rfl);(solve|decide);(solve|simp);(solve|simp only[go_sem,seval,bF,aS,aA,aP]))|(refine fR [6,8] (gB) ?_ ?_ ?_ ?_ ?_ ?_;(solve|rfl|simp only[go_sem,seval,aS,bc,aA,aP]);(solve|rfl);(solve|decide);(solve|simp);(solve|simp only[go_sem,seval,bF,aS,bc,aA,aP]))|omega|exact decide_eq_true aa|exact aO.refl _)
    all_goals exact dg
 ·have cV:=nJ b hz hc;have h1:(bn b !=0)=true:=by simpa using hc
  have hr:R=(Bok.zero,bn b):=by rw[hR.out];unfold fL;rw[ah hc]
  rw[hr];replace hr:=Xi hr;refine pj func62 ntmps62 results62 ?_;refine aq ?_<;>intros;exact dg
def gy (b:Bok)(id up size:Int)(r:Rul):Bok × Pfx × Int:=
 if bn b≠0 then (Bok.zero,Pfx.zero,bn b)else
 if dZ id=false then (Bok.zero,Pfx.zero,3)else
 match bK b up with
 |none=>(Bok.zero,Pfx.zero,5)
 |some p=>
  if (bK b id).isSome=true then (Bok.zero,Pfx.zero,6)else
  if (cy p size).2≠0 then (Bok.zero,Pfx.zero,(cy p size).2)else
  if fY r (cy p size).1.len=false then (Bok.zero,Pfx.zero,1)else
  if b.pools.length=8 then (Bok.zero,Pfx.zero,2)else
  (⟨b.tick,l7 ⟨id,up,(cy p size).1,r,[]⟩ (sS b up fun p=>{p with leases:=iQ ⟨(cy p size).1,2,id,0⟩ p.leases}).pools⟩,(cy p size).1,0)
theorem NO {pre post:List Pol}{p q:Pol}(h:ox (pre++p::post))(hq:q.id=p.id):ox (pre++q::post):=by
 unfold ox at h ⊢;rw[YQ,YA]at h ⊢;obtain⟨h1,⟨h2,h3⟩,h4⟩:=h;refine⟨h1,⟨fun a ha=>by rw[hq];exact h2 a ha,h3⟩,fun a ha c hc=>?_⟩;rcases XY.1 hc with rfl|hc
 ·rw[hq];exact h4 a ha p ak
 ·exact h4 a ha c (by simp[hc])
theorem Up [Flo](b:Bok)(id up size:Int)(r:Rul)(hz:∀p∈b.pools,p.leases.length<=3518437208882):ai prog 55 [.agg (bj b),.v (.int .i64 id),.v (.int .i64 up),.v (.int .i64 size),.agg (vV r)] (.tup [.agg (bj (gy b id up size r).1),.agg (aS (gy b id up size r).2.1),.v (.int .i64 (gy b id up size r).2.2)]):=by
 obtain⟨R,hR⟩:∃R,R=gy b id up size r:=⟨_,rfl⟩;rw[<-hR];replace hR:=Xi hR;by_cases hc:bn b=0
 ·have bW:=db hc;have hid:=Bc id;cases FL:dZ id with
  |false=>
   rw[FL]at hid;have cV:=kh b hz hc;have hr:R=(Bok.zero,Pfx.zero,3):=by rw[hR.out];unfold gy;rw[af (by simpa using hc),ah FL]
   rw[hr];clear hr hR hc FL;refine pj func55 ntmps55 results55 ?_;have z1z:=Ln.mk (ls:=[]) (cV);refine aq ?_<;>intros;exact dg
  |true=>
   rw[FL]at hid;cases hq:bK b up with
   |none=>
    have cV:=kh b hz hc;have hf:=oy b up (by have:=bW.n8;omega) bW.rise;unfold pF at hf;rw[hq]at hf;have hr:R=(Bok.zero,Pfx.zero,5):=by rw[hR.out];unfold gy;rw[af (by simpa using hc),af (by simp[FL]),hq]
    rw[hr];clear hr hR hc FL hq;refine pj func55 ntmps55 results55 ?_;have z1z:=Ln.mk (ls:=[]) (cV);refine aq ?_<;>intros;exact dg
   |some p=>
    obtain⟨pre,post,hp,rfl⟩:=ly hq;have cV:=sN b pre post p hp hz hc;have wI:=Uo hp;have hf:=sU bW wI wI.at_;have nP:=bW.l32 p wI.mem;have gM:=fun f=>oz bW.rise hp f;have aR:R=if (bK b id).isSome=true then (Bok.zero,Pfx.zero,6)else if (cy p size).2≠0 then (Bok.zero,Pfx.zero,(cy p size).2)else if fY r (cy p size).1.len=false then (Bok.zero,Pfx.zero,1)else
     if b.pools.length=8 then (Bok.zero,Pfx.zero,2)else (⟨b.tick,l7 ⟨id,p.id,(cy p size).1,r,[]⟩ (pre++{p with leases:=iQ ⟨(cy p size).1,2,id,0⟩ p.leases}::post)⟩,(cy p size).1,0):=by
     rw[hR.out];unfold gy;rw[af (by simpa using hc),af (by simp[FL]),hq];simp only;rw[gM]
    cases qz:bK b id with
    |some q=>
     obtain⟨i,SK,he⟩:=mL qz;have C9:=sU bW wI SK;rw[he]at C9;have hr:R=(Bok.zero,Pfx.zero,6):=by rw[aR,qz];rfl
     rw[hr];clear hr hR aR hc FL hq qz hp gM wI SK he;refine pj func55 ntmps55 results55 ?_;repeat' (first|(with_reducible refine And.intro ?_ ?_)|(with_reducible refine og (fun _=>?_) (fun _=>?_))|(with_reducible refine ef (fun _=>?_) (fun _=>?_))|(with_reducible refine jA aK)|simp -dsimp only[go_sem,seval, *,bj,aS,vV,aA,aP,fi]|((with_reducible refine jB ?_);simp -dsimp only[go_sem,seval,bj,aS,vV,aA,aP,fi];first|refine ei (by first|assumption|exact hid) mR ?_|(refine eh gR ?_ ?_ ?_;(solve|(repeat(first|exact aO.refl _|exact aO.nil _|(refine aO.tup ?_)|(refine aO.agg ?_ rfl)|exact trivial|(refine And.intro ?_ ?_))));(solve|exact .inl rfl|exact .inr rfl)))|(refine fR [] (cV) ?_ ?_ ?_ ?_ ?_ ?_;(solve|rfl|simp only[go_sem,seval,bj,aA,aP]);(solve|rfl);(solve|decide);(solve|simp);(solve|simp only[go_sem,seval,bF,bj,aA,aP]))|(refine fR [6,7,9] (hf) ?_ ?_ ?_ ?_ ?_ ?_;(solve|rfl|simp only[go_sem,seval,aS,aA,aP]);(solve|rfl);(solve|decide);(solve|simp);(solve|simp only[go_sem,seval,bF,aS,aA,aP]))|(refine fR [6,7,9] (C9) ?_ ?_ ?_ ?_ ?_ ?_;(solve|rfl|simp only[go_sem,seval,aS,aA,aP]);(solve|rfl);(solve|decide);(solve|simp);(solve|simp only[go_sem,seval,bF,aS,aA,aP]))|omega|exact decide_eq_true aa|exact aO.refl _)
     all_goals exact dg
    |none=>
     have C9:=oy b id (by have:=bW.n8;omega) bW.rise;unfold pF at C9;rw[qz]at C9;have SQ:=Td p size nP;have Al:=GZ r (cy p size).1;have hlt:=Te pre post p ⟨(cy p size).1,2,id,0⟩ b.pools.length 1 nP (ma (bW.mem p wI.mem).2.1);have hb8:(pre++{p with leases:=iQ ⟨(cy p size).1,2,id,0⟩ p.leases}::post).length<=8:=by
      have:=bW.n8;rw[hp]at this;simpa using this
     have bP:(pre++{p with leases:=iQ ⟨(cy p size).1,2,id,0⟩ p.leases}::post).length=b.pools.length:=by rw[hp];simp
     have hrs:ox (pre++{p with leases:=iQ ⟨(cy p size).1,2,id,0⟩ p.leases}::post):=by
      have:=bW.rise;rw[hp]at this;exact NO this rfl
     have VV:=(Tf _ ⟨id,p.id,(cy p size).1,r,[]⟩ b.pools.length (.v (.int .i64 b.tick)) hb8 hrs rfl).lep (args':=[.ptr 0 0,.d (.agg [.v (.int .i64 id),.v (.int .i64 p.id),.v (.int .i64 (cy p size).1.at_),.v (.int .i64 (cy p size).1.len),.v (.int .i64 r.min),.v (.int .i64 r.max),.v (.int .i64 r.usual),.v (.int .i64 r.cool),.v (.slice none 0 0)])]) ⟨.inl rfl,.inr ⟨_,_,rfl,rfl,dg⟩,trivial⟩ rfl;have gn:Hid (R=if (cy p size).2≠0 then (Bok.zero,Pfx.zero,(cy p size).2)else if fY r (cy p size).1.len=false then (Bok.zero,Pfx.zero,1)else
      if b.pools.length=8 then (Bok.zero,Pfx.zero,2)else (⟨b.tick,l7 ⟨id,p.id,(cy p size).1,r,[]⟩ (pre++{p with leases:=iQ ⟨(cy p size).1,2,id,0⟩ p.leases}::post)⟩,(cy p size).1,0)):=by
      show R=_;rw[aR,qz];rfl
     have hvq:dk (br (az [.gone]) 0) []=some []:=rfl;clear hR aR hc FL hq qz gM hb8 hrs hvq bP;have aR:=gn;clear gn;have a1N:=Xi hp;have hvw:=wI.view;simp only[iz,aA,cI,br,az,eL,if_true,Yb]at hvw;clear wI;have he:bj b=[.v (.int .i64 b.tick),.sl 9 (List.map al pre++al p::List.map al post)]:=by unfold bj;rw[hp,Xn,Xl]
     rw[he]at C9;have Tp:∀r,(fZ pre r post).length=b.pools.length:=fun r=>by rw[x6,hp];simp;omega
     clear hp hvw he;refine pj func55 ntmps55 results55 ?_;repeat' (first|(with_reducible refine And.intro ?_ ?_)|(with_reducible refine og (fun _=>?_) (fun _=>?_))|(with_reducible refine ef (fun _=>?_) (fun _=>?_))|(with_reducible refine jA aK)|simp -dsimp only[go_sem,seval, *,bj,aS,vV,bc,aA,aP,fi,iz,Tp]|((with_reducible refine jB ?_);simp -dsimp only[go_sem,seval,bj,aS,vV,bc,aA,aP,fi,iz,Tp];first|refine ei (by first|assumption|exact hid|exact C9|exact SQ|exact Al) mR ?_|(refine eh gR ?_ ?_ ?_;(solve|(repeat(first|exact aO.refl _|exact aO.nil _|(refine aO.tup ?_)|(refine aO.agg ?_ rfl)|exact trivial|(refine And.intro ?_ ?_))));(solve|exact .inl rfl|exact .inr rfl)))|(refine fR [] (cV) ?_ ?_ ?_ ?_ ?_ ?_;(solve|rfl|simp only[go_sem,seval,bj,aA,aP]);(solve|rfl);(solve|decide);(solve|simp);(solve|simp only[go_sem,seval,bF,bj,aA,aP]))|(refine fR [6,7,9] (hf) ?_ ?_ ?_ ?_ ?_ ?_;(solve|rfl|simp only[go_sem,seval,aS,aA,aP]);(solve|rfl);(solve|decide);(solve|simp);(solve|simp only[go_sem,seval,bF,aS,aA,aP]))|(refine fR [7,9] (hlt) ?_ ?_ ?_ ?_ ?_ ?_;(solve|rfl|simp only[go_sem,seval,aS,bc,aA,aP]);(solve|rfl);(solve|decide);(solve|simp);(solve|simp only[go_sem,seval,bF,aS,bc,aA,aP]))|(refine fR [6,7] (VV) ?_ ?_ ?_ ?_ ?_ ?_;(solve|rfl|simp only[go_sem,seval,aS]);(solve|rfl);(solve|decide);(solve|simp);(solve|simp only[go_sem,seval,bF,aS]))|omega|exact decide_eq_true aa|exact aO.refl _)
     all_goals clear hf C9 hid SQ Al hlt VV cV hz
     all_goals first
      |(rw[show R=(Bok.zero,Pfx.zero,(cy p size).2) from (by rw[aR.out];grind)];(try simp only[Xn,Xl]);exact dg)
      |(rw[show R=(Bok.zero,Pfx.zero,1) from (by rw[aR.out];grind)];(try simp only[Xn,Xl]);exact dg)
      |(rw[show R=(Bok.zero,Pfx.zero,2) from (by rw[aR.out];grind)];(try simp only[Xn,Xl]);exact dg)
      |(rw[show R=(⟨b.tick,l7 ⟨id,p.id,(cy p size).1,r,[]⟩ (pre++{p with leases:=iQ ⟨(cy p size).1,2,id,0⟩ p.leases}::post)⟩,(cy p size).1,0) from (by rw[aR.out];grind)];(try simp only[Xn,Xl]);exact dg)
 ·have cV:=nJ b hz hc;have h1:(bn b !=0)=true:=by simpa using hc
  have hr:R=(Bok.zero,Pfx.zero,bn b):=by rw[hR.out];unfold gy;rw[ah hc]
  rw[hr];replace hr:=Xi hr;refine pj func55 ntmps55 results55 ?_;refine aq ?_<;>intros;exact dg
theorem a4V {p:Prop}(h:p:=by
 rw[hR.out];unfold fM;rw[af (by simpa using hc),hq]):p:=h
theorem NP [Flo](l:Lse):ai prog 122 [.agg (bc l)] (.v (.bool (l.kind !=3))):=by
 refine pj func122 ntmps122 results122 ?_;exact aY
theorem NQ [Flo](l:Lse)(id:Int):ai prog 125 [.agg (bc l),.ept [.v (.int .i64 id)]] (.v (.bool (mw id l))):=by
 unfold mw;refine pj func125 ntmps125 results125 ?_;exact aY
theorem sV [Flo](p:Pol)(id:Int):ai prog 127 [.agg (al p),.ept [.v (.int .i64 id)]] (.v (.bool (p.id==id))):=by
 refine pj func127 ntmps127 results127 ?_;exact aY
def ja (b:Bok)(p:Pol):List Pol:=match bK b p.up with
 |none=>b.pools
 |some u=>match u.leases.findIdx? (mw p.id)with
  |some i=>(sS b u.id fun u=>{u with leases:=kO u i b.tick}).pools
  |none=>b.pools
def fM (b:Bok)(id:Int):Bok × Int:=
 if bn b≠0 then (Bok.zero,bn b)else
 match bK b id with
 |none=>(Bok.zero,5)
 |some p=>if (p.leases.any fun l=>l.kind !=3)=true then (Bok.zero,9)else (⟨b.tick,(ja b p).filter fun q=>!(q.id==id)⟩,0)
theorem ki {b:Bok}:∀(l:List Pol) (roots:List Pfx),dG b l roots=true->∀p∈l,kM b b.pools.length p=true/\∀l∈p.leases,fg b p l=true
 |[],_,_,p,hp=>by simp at hp
 |q::l,roots,h,p,hp=>by
  simp only[dG,Xv]at h;rcases XY.1 hp with rfl|hp
  ·exact⟨h.1.1,fun l hl=>XD.1 h.1.2 l hl⟩
  ·have h2:=h.2;split at h2
   ·simp only[Xv]at h2;exact ki l _ h2.2 p hp
   ·exact ki l _ h2 p hp
theorem Cs {b:Bok}{p:Pol}(hp:bK b p.id=some p)(h1:p.id≠0)(he:p.up=p.id):∀n,kM b n p=false
 |0=>by simp[kM,he,h1]
 |n+1=>by simp[kM,he,h1,hp,Cs hp h1 he n]
theorem IJ {b:Bok}{n:Nat}{p u:Pol}(h:kM b n p=true)(h0:p.up≠0)(hu:bK b p.up=some u):u.leases.any (mw p.id)=true:=by
 cases n with
 |zero=>simp[kM,h0]at h
 |succ n=>
  simp only[kM,hu,Bool.or_eq_true,Xv,beq_iff_eq]at h;rcases h with h|h
  ·exact absurd h h0
  ·exact h.1
theorem G4 {pre post:List Pol}{p q:Pol}{r:List PV}{i:Nat}(h:(pre++p::post)[i]? =some q)(bG:i≠pre.length):(fZ pre r post)[i]? =some ((al q).map .d):=by
 unfold fZ;rcases Y9 i pre.length with hlt|he|hgt
 ·rw[XW hlt]at h;rw[XW (by rw[aH,Xs];exact hlt),iu,Xr,h];rfl
 ·exact absurd he bG
 ·rw[XI aa]at h;rw[XI (by rw[aH,Xs];omega),aH,Xs];obtain⟨j,hj⟩:∃j,i - pre.length=j+1:=⟨i - pre.length - 1,by omega⟩;rw[hj,Yw]at h ⊢;rw[iu,Xr,h];rfl
theorem Rq [Flo](b:Bok)(id:Int)(hz:∀p∈b.pools,p.leases.length<=3518437208882):ai prog 56 [.agg (bj b),.v (.int .i64 id)] (.tup [.agg (bj (fM b id).1),.v (.int .i64 (fM b id).2)]):=by
 obtain⟨R,hR⟩:∃R,R=fM b id:=⟨_,rfl⟩;rw[<-hR];replace hR:=Xi hR;by_cases hc:bn b=0
 ·have bW:=db hc;cases hq:bK b id with
  |none=>
   have cV:=kh b hz hc;have hf:=oy b id (by have:=bW.n8;omega) bW.rise;unfold pF at hf;rw[hq]at hf;have hr:R=(Bok.zero,5):=by rw[hR.out];unfold fM;rw[af (by simpa using hc),hq]
   rw[hr];clear hr hR hc hq;refine pj func56 ntmps56 results56 ?_;have z1z:=Ln.mk (ls:=[]) (cV);refine aq ?_<;>intros;exact dg
  |some p=>
   obtain⟨i,zf,rfl⟩:=mL hq;have p5:p∈b.pools:=Xk zf;have nP:=bW.l32 p p5;have oZ:=rt lZ (fun l=>l.kind !=3) p.leases 122 [] aa (fun l _=>NP l);have aR:R=if (p.leases.any fun l=>l.kind !=3)=true then (Bok.zero,9)else (⟨b.tick,(ja b p).filter fun q=>!(q.id==p.id)⟩,0):=a4V
   replace aR:=Xi aR;cases hu:bK b p.up with
   |none=>
    have cV:=kh b hz hc;have hf:=Cp b i p b.pools.length (ab (b.pools.map al)) [] (.d (.v (.int .i64 b.tick))) zf bW.rise bW.n8 (by simp[aH]) (eL _ _ _) (aF _ _) rfl rfl;have C9:=oy b p.up (by have:=bW.n8;omega) bW.rise;unfold pF at C9;rw[hu]at C9;have gB:ja b p=b.pools:=by unfold ja;rw[hu]
    have aR:=aR.out;rw[gB]at aR;have h8:=bW.n8;replace aR:=Xi aR;clear hq hu gB hR hc;refine pj func56 ntmps56 results56 ?_;repeat' (first|(with_reducible refine And.intro ?_ ?_)|(with_reducible refine og (fun _=>?_) (fun _=>?_))|(with_reducible refine ef (fun _=>?_) (fun _=>?_))|(with_reducible refine jA aK)|simp -dsimp only[go_sem,seval, *,bj,aS,al,zf]|((with_reducible refine jB ?_);simp -dsimp only[go_sem,seval,bj,aS,al,zf];first|refine ei (by first|assumption|exact oZ|exact C9) mR ?_|(refine eh gR ?_ ?_ ?_;(solve|(repeat(first|exact aO.refl _|exact aO.nil _|(refine aO.tup ?_)|(refine aO.agg ?_ rfl)|exact trivial|(refine And.intro ?_ ?_))));(solve|exact .inl rfl|exact .inr rfl)))|(refine fR [] (cV) ?_ ?_ ?_ ?_ ?_ ?_;(solve|rfl|simp only[go_sem,seval,bj]);(solve|rfl);(solve|decide);(solve|simp);(solve|simp only[go_sem,seval,bF,bj]))|(refine fR [5,6] (hf) ?_ ?_ ?_ ?_ ?_ ?_;(solve|rfl|simp only[go_sem,seval,bj]);(solve|rfl);(solve|decide);(solve|simp);(solve|simp only[go_sem,seval,bF,bj]))|(refine MX (Be (fun q=>q.id==p.id) b.pools 6 _ _ _ _ rfl rfl ?_ ?_ ⟨[.ept [.v (.int .i64 p.id)]],rfl,fun x _=>sV x p.id⟩ (fun m c=>⟨[.ept [.v (.int .i64 p.id)]],rfl,fun x _=>sV x p.id⟩)) ?_)|omega|exact decide_eq_true aa|exact aO.refl _)
    all_goals first
     |first|rfl|simp only[aL,eD,aQ,aw,cB,ay,bu,aF,iZ,aA,XC,XX,Xz,ZV,decide_true,Yq,Yx]
     |omega
     |(rw[show R=(Bok.zero,9) from (by rw[aR.out];grind)];(try simp only[Xn,Xl]);exact dg)
     |(rw[show R=(⟨b.tick,b.pools.filter fun q=>!(q.id==p.id)⟩,0) from (by rw[aR.out];grind)];(try simp only[Xn,Xl]);exact dg)
   |some u=>
    obtain⟨pre,post,hp,hue⟩:=ly hu;have cV:=sN b pre post u hp hz hc;have wI:=Uo hp;have bG:i≠pre.length:=by
     rintro rfl;have:=wI.at_;rw[zf]at this;obtain rfl:=XU.inj this;have h1:=(ki _ _ bW.second p p5).1;have h2:=Cs hq (by have:=(bW.mem p p5).1;rintro h;rw[h]at this;simp[dZ]at this) hue.symm b.pools.length;rw[h2]at h1;exact absurd h1 ak
    have hf:=sU bW wI zf;have C9:=sU bW wI wI.at_;rw[hue]at C9;have hzo:=fun r=>G4 (r:=r) (by rw[<-hp];exact zf) bG;have a0m:=bW.l32 u wI.mem;have jO:=IJ (ki _ _ bW.second p p5).1 (by have:=(bW.mem u wI.mem).1;rintro h;rw[<-hue]at h;rw[h]at this;simp[dZ]at this) hu;have qQ:=ot lZ (mw p.id) u.leases 125 [.ept [.v (.int .i64 p.id)]] aa (fun l _=>NQ l p.id);obtain⟨j,hj⟩:∃j,u.leases.findIdx? (mw p.id)=some j:=by
     cases hj:u.leases.findIdx? (mw p.id)with
     |some j=>exact⟨j,rfl⟩
     |none=>
      rw[Yn]at hj;obtain⟨x,hx,nS⟩:=XR.1 jO;rw[hj x hx]at nS;exact absurd nS ak
    unfold cq at qQ;rw[hj]at qQ;have kX:j < u.leases.length:=(XK.1 hj).1;have gB:=NG pre post u j b.pools.length 1 b.tick kX a0m (qi (bW.mem u wI.mem).2.2) bW.tick;have hcL:ja b p=pre++{u with leases:=kO u j b.tick}::post:=by
     unfold ja;rw[hu];simp only;rw[hj];simp only;rw[oz bW.rise hp]
    have aR:=aR.out;rw[hcL]at aR;replace aR:=Xi aR;have h8:=bW.n8;have bP:(pre++{u with leases:=kO u j b.tick}::post).length<=1000000000:=by
     rw[hp]at h8;simp at h8 ⊢;omega
    clear hq hu hue hR hc hcL jO hj zf hp wI h8 bW bG p5;refine pj func56 ntmps56 results56 ?_;repeat' (first|(with_reducible refine And.intro ?_ ?_)|(with_reducible refine og (fun _=>?_) (fun _=>?_))|(with_reducible refine ef (fun _=>?_) (fun _=>?_))|(with_reducible refine jA aK)|simp -dsimp only[go_sem,seval, *,bj,aS,al,aA,aP,fi,hzo]|((with_reducible refine jB ?_);simp -dsimp only[go_sem,seval,bj,aS,al,aA,aP,fi,hzo];first|refine ei (by first|assumption|exact oZ|exact qQ) mR ?_|(refine eh gR ?_ ?_ ?_;(solve|(repeat(first|exact aO.refl _|exact aO.nil _|(refine aO.tup ?_)|(refine aO.agg ?_ rfl)|exact trivial|(refine And.intro ?_ ?_))));(solve|exact .inl rfl|exact .inr rfl)))|(refine fR [] (cV) ?_ ?_ ?_ ?_ ?_ ?_;(solve|rfl|simp only[go_sem,seval,bj,aA,aP]);(solve|rfl);(solve|decide);(solve|simp);(solve|simp only[go_sem,seval,bF,bj,aA,aP]))|(refine fR [5,6,8] (hf) ?_ ?_ ?_ ?_ ?_ ?_;(solve|rfl|simp only[go_sem,seval,aS,aA,aP]);(solve|rfl);(solve|decide);(solve|simp);(solve|simp only[go_sem,seval,bF,aS,aA,aP]))|(refine fR [5,6,8] (C9) ?_ ?_ ?_ ?_ ?_ ?_;(solve|rfl|simp only[go_sem,seval,aS,aA,aP]);(solve|rfl);(solve|decide);(solve|simp);(solve|simp only[go_sem,seval,bF,aS,aA,aP]))|(refine fR [6,8] (gB) ?_ ?_ ?_ ?_ ?_ ?_;(solve|rfl|simp only[go_sem,seval,aS,bc,aA,aP]);(solve|rfl);(solve|decide);(solve|simp);(solve|simp only[go_sem,seval,bF,aS,bc,aA,aP]))|(refine MX (Be (fun q=>q.id==p.id) (pre++{u with leases:=kO u j b.tick}::post) 6 _ _ _ _ rfl rfl ?_ ?_ ⟨[.ept [.v (.int .i64 p.id)]],rfl,fun x _=>sV x p.id⟩ (fun m c=>⟨[.ept [.v (.int .i64 p.id)]],rfl,fun x _=>sV x p.id⟩)) ?_)|omega|exact decide_eq_true aa|exact aO.refl _)
    all_goals first
     |first|rfl|simp only[aL,eD,aQ,aw,cB,ay,bu,aF,iZ,aA,XC,XX,Xz,ZV,decide_true,Yq,Yx]
     |(simpa using bP)
     |(rw[show R=(Bok.zero,9) from (by rw[aR.out];grind)];(try simp only[Xn,Xl]);exact dg)
     |(rw[show R=(⟨b.tick,(pre++{u with leases:=kO u j b.tick}::post).filter fun q=>!(q.id==p.id)⟩,0) from (by rw[aR.out];grind)];(try simp only[Xn,Xl]);exact dg)
 ·have cV:=nJ b hz hc;have h1:(bn b !=0)=true:=by simpa using hc
  have hr:R=(Bok.zero,bn b):=by rw[hR.out];unfold fM;rw[ah hc]
  rw[hr];replace hr:=Xi hr;refine pj func56 ntmps56 results56 ?_;refine aq ?_<;>intros;exact dg
theorem a3K {p:Prop}(h:p:=by
 induction a with
 |nil=>rfl
 |cons x a ih=>exact ih):p:=h
def fN:Nat->List Pol->List (List PV)
 |_,[]=>[]
 |k,p::ps=>aA p (.own k 1)::fN (k+2) ps
def tM:List Pol->List Chunk
 |[]=>[]
 |p::ps=> .gone:: .row 68 5 1 (ab (p.leases.map bc))::tM ps
@[go_sem] theorem ux:∀(ps:List Pol) (k:Nat),(fN k ps).length=ps.length
 |[],_=>rfl
 |p::ps,k=>by simp only[fN,XC,ux ps]
theorem oA:∀ps:List Pol,(tM ps).length=2*ps.length
 |[]=>rfl
 |p::ps=>by simp only[tM,XC,oA ps];omega
theorem yc (p:Pol):∀(ps:List Pol) (k:Nat),fN k (ps++[p])=fN k ps++[aA p (.own (k+2*ps.length) 1)]
 |[],k=>rfl
 |q::ps,k=>by
  simp only[X5,fN,yc p ps,XC];rw[show k+2+2*ps.length=k+2*(ps.length+1) by omega]
theorem EH (p:Pol):∀ps:List Pol,tM (ps++[p])=tM ps++[.gone,.row 68 5 1 (ab (p.leases.map bc))]
 |[]=>rfl
 |q::ps=>by simp only[X5,tM,EH p ps]
theorem jI (n:Nat):∀(ps:List Pol) (k:Nat),k+2*ps.length < n+2->cB n (fN k ps)=true
 |[],_,_=>rfl
 |p::ps,k,h=>by
  simp only[XC]at h;simp only[fN,cB,aA,aw,ay,jI n ps (k+2) aa,Yx,Yp,decide_eq_true_eq];omega
theorem oB (n:Nat):∀ps:List Pol,aL n (tM ps)=true
 |[]=>rfl
 |p::ps=>by simp only[tM,aL,aQ,aF,oB n ps,Yq]
@[go_sem] theorem Uq (a:List Chunk)(c d:Chunk):bw (a++[c]) a.length d=a++[d]:=by
 have:=np a c d [];simpa using this
@[go_sem] theorem Ur (a:List Chunk)(c e d:Chunk):bw (a++[c,e]) a.length d=a++[d,e]:=np a c d [e]
@[go_sem] theorem VK (a:List Chunk)(c d:Chunk):bw (a++[c]) (a.length+1) d=a++[c,d]:=by
 have:=lF (a++[c]) d;rw[XV]at this;simpa using this
@[go_sem] theorem Rr (a:List Chunk)(c:Chunk)(l:List Chunk):az (a++c::l) a.length=c:=a3K
@[go_sem] theorem Ws (a:List Chunk)(c d:Chunk)(l:List Chunk):az (a++c::d::l) (a.length+1)=d:=a3K
@[go_sem] theorem Wt (a:List Chunk)(c d e:Chunk)(l:List Chunk):az (a++c::d::e::l) (a.length+2)=e:=a3K
@[go_sem] theorem VL (a:List Chunk)(c e d:Chunk):bw (a++[c,e]) (a.length+2) d=a++[c,e,d]:=by
 have:=lF (a++[c,e]) d;rw[XV]at this;simpa using this
theorem oC (n:Nat):∀(l m:List Chunk),aL n (l++m)=(aL n l&&aL n m)
 |[],m=>rfl
 |c::l,m=>by simp only[X5,aL,oC n l m,_b]
theorem Rs [Flo](b:Bok)(h8:b.pools.length<=8)(eP:∀p∈b.pools,p.leases.length<=32):
 MSpec prog 196 [.d (.agg (bj b))] [] (.ptr 1 0) (.gone:: .box 24 [.d (.v (.int .i64 b.tick)),.own 2 b.pools.length]:: .row 62 9 b.pools.length (fN 4 b.pools)::tM b.pools):=by
 refine mj func196 ntmps196 results196 ?_;refine aq ?_<;>intros;refine bq ag am b.pools (fun _=>True) (fun k=>[(13,.d (.v (.int .i64 k))),(12,.d (.v (.int .i64 b.pools.length))),(11,.d (.sl 9 (b.pools.map al))),(3,.ptr 1 0),(2,.d (.v (.pointer none)))])
  (fun k=> .gone:: .box 24 [.d (.v (.int .i64 b.tick)),.own 2 k]:: .row 62 9 k (fN 4 (b.pools.take k))::tM (b.pools.take k)) trivial ?_ ?_ ?_
 ·exact a2r
 ·intro k p hp hk _ C hC;have dF:(k:Int) < (b.pools.length:Int):=aa;have cX:=wi k aa;have gz:=eP p (Xk hp);have jQ:k+1<=100:=aa;have hlt:(Ye k b.pools).length=k:=by rw[Xo];omega
  have dN:=aj hp;have By:=ux (b.pools.take k) 4;have gB:=oA (b.pools.take k);rw[hlt]at By gB;rw[dN,yc,EH,hlt]at hC;have vQ:=fun n h=>jI n (b.pools.take k) 4 h;have hbh:=fun n=>oB n (b.pools.take k);clear dN;generalize tM (b.pools.take k)=T at*;generalize fN 4 (b.pools.take k)=rows at*;replace gB:=Xi gB;replace vQ:=Xi vQ;replace hbh:=Xi hbh;have z1z:=Ln.mk (ls:=[]) (ij bc p.leases aa);refine aq ?_<;>intros;refine hC _ _ trivial ((aJ (T.length+3) ak).trans (ey [.row 62 9 0 [aA p (.own (T.length+4) 1)]] ak (h':= .gone:: .box 24 [.d (.v (.int .i64 b.tick)),.own 2 (k+1)]:: .row 62 9 (k+1) (rows++[aA p (.own (4+2*k) 1)])::(T++[.gone,.row 68 5 1 (ab (p.leases.map bc))])) ?_ se ?_ ?_))
  ·simp only[bw];rw[np,show T.length+4=4+2*k from by have:=gB.out;omega];simp only[X5,X3,X8];rfl
  ·have:=gB.out;simp[eD,ay]
  ·have:=gB.out;have h1:=hbh.out (T.length+5);have h2:=vQ.out (T.length+5) (by rw[hlt];omega);simp[aL,aQ,aw,ay,kN,cB,aF,aA,oC,h1,h2];omega
 ·exact a3t
@[go_sem] theorem KJ (n:Nat):∀(ps:List Pol) (j:Nat) (a:List Chunk),a.length=n+j->jf (fun x=>n+x) j (tM ps) a=a++tM ps
 |[],j,a,_=>by simp[tM,jf]
 |p::ps,j,a,h=>by
  have h1:n+j=a.length:=h.symm;have h2:n+(j+1)=(a++[Chunk.gone]).length:=by simp only[XV,XC,XX];omega
  simp only[tM,jf,mr];rw[h1,lF,h2,lF,KJ n ps (j+1+1) _ aN];have hd:kE (fun x=>n+x) (ab (p.leases.map bc))=ab (p.leases.map bc):=wV _ _;rw[hd];simp
@[go_sem] theorem G5 (n:Nat):∀(ps:List Pol) (k:Nat),kE (fun x=>n+x) (fN k ps)=fN (n+k) ps
 |[],_=>rfl
 |p::ps,k=>by
  simp only[fN,kE,G5 n ps (k+2),aA,jx,ren];rw[show n+(k+2)=n+k+2 by omega]
theorem KK [Flo](b:Bok)(hz:∀p∈b.pools,p.leases.length<=3518437208882)(h:bn b=0):
 MSpec prog 115 [.d (.agg (bj b))] [] (.tup [.ptr 2 0,.d (.v (.int .i64 0))]) (.gone:: .gone:: .box 24 [.d (.v (.int .i64 b.tick)),.own 3 b.pools.length]:: .row 62 9 b.pools.length (fN 5 b.pools)::tM b.pools):=by
 have hc:=nG b hz;have hb:=db h;have ho:=Rs b hb.n8 hb.l32;rw[h]at hc;replace h:=Xi h;refine mj func115 ntmps115 results115 ?_;have z1z:=Ln.mk (ls:=[]) (ho);refine aq ?_<;>intros;exact(aJ 0 ak).trans (aW rfl rfl)
def my (D:List Pol)(r:List PV)(k:Nat)(ps:List Pol):List (List PV):=ab (D.map al)++r::fN k ps
theorem NR (D:List Pol)(r:List PV)(k:Nat)(ps:List Pol):(my D r k ps).length=D.length+1+ps.length:=by
 unfold my;rw[XV,XC,ux,aH,Xs];omega
theorem NS (D:List Pol)(r:List PV)(k:Nat)(ps:List Pol):(my D r k ps)[D.length]? =some r:=by
 unfold my;rw[XI (by simp[aH])];simp[aH]
theorem NT (D:List Pol)(r r':List PV)(k:Nat)(ps:List Pol):(my D r k ps).set D.length r'=my D r' k ps:=by
 unfold my;rw[Yu _ _ (by simp[aH])];simp[aH]
theorem Bf (k g:Nat)(d:D):∀(ps:List Pol) (k0:Nat),k < k0->d7 k g d (fN k0 ps)=fN k0 ps
 |[],_,_=>rfl
 |p::ps,k0,h=>by
  simp only[fN,d7,Bf k g d ps (k0+2) aa,aA,ee,fz];rw[af aa]
theorem IK (k g:Nat)(d:D):∀(l m:List Chunk) (i:Nat),dX k g d i (l++m)=dX k g d i l++dX k g d (i+l.length) m
 |[],m,i=>rfl
 |c::l,m,i=>by
  simp only[X5,dX,IK k g d l m (i+1),XC];rw[show i+1+l.length=i+(l.length+1) by omega]
theorem yd (k g:Nat)(d:D):∀(l:List Chunk) (i:Nat),(∀c∈l,eF k g d c=c)->(∀x,i<=x->x < i+l.length->x≠k)->dX k g d i l=l
 |[],_,_,_=>rfl
 |c::l,i,h,hx=>by
  simp only[dX];rw[af (hx i (XA _) ak),h c ak,yd k g d l (i+1) (fun c hc=>h c (by simp[hc])) (fun x h1 h2=>hx x aa aN)]
theorem IL {c:Chunk}:∀{ps:List Pol},c∈tM ps->c= .gone\/∃ls,c= .row 68 5 1 (ab ls)
 |p::ps,h=>by
  simp only[tM,XY]at h;rcases h with h|h|h
  ·exact .inl h
  ·exact .inr ⟨_,h⟩
  ·exact IL h
theorem NU:∀(ps:List Pol) (x:List Chunk) (i:Nat) (p:Pol),ps[i]? =some p->az (tM ps++x) (2*i+1)= .row 68 5 1 (ab (p.leases.map bc))
 |q::ps,x,0,p,h=>by simp at h;subst h;rfl
 |q::ps,x,i+1,p,h=>by
  simp only[Yw]at h;have:=NU ps x i p h;simp only[tM,X5];rw[show 2*(i+1)+1=(2*i+1)+1+1 by omega];exact this
theorem Bg:∀(a b:List Chunk) (i:Nat),az (a++b) (a.length+i)=az b i
 |[],b,i=>by simp
 |c::a,b,i=>by
  simp only[X5,XC];rw[show a.length+1+i=(a.length+i)+1 by omega];exact Bg a b i
def iR (j:Nat)(c:Chunk)(ps:List Pol)(e:Chunk):List Chunk:=XS (2*j) .gone++(.gone::c::(tM ps++[e]))
structure TailOK (T:Chunk->List Chunk)(j q:Nat)(ps:List Pol)(e:Chunk):Prop where
 a:∀c x,az (T c++x) (2*j+1)=c
 a0:∀c,az (T c) (2*j+1)=c
 b:∀c x,az (T c++x) q=e
 b0:∀c,az (T c) q=e
 c:∀c d,bw (T c) (2*j+1) d=T d
 len:∀c,(T c).length=q+1
 h:∀n c,aQ n c=true->aQ n e=true->aL n (T c)=true
 r:∀c x i p,ps[i]? =some p->az (T c++x) (2*j+1+2*(i+1))= .row 68 5 1 (ab (p.leases.map bc))
 f:∀c g d,eF (2*j+7) g d e=e->dX (2*j+7) g d 6 (T c)=T .gone
theorem mb (j:Nat)(c:Chunk)(ps:List Pol)(e:Chunk):iR j c ps e=(XS (2*j) Chunk.gone++[.gone])++c::(tM ps++[e]):=by
 unfold iR;simp
theorem Us (j q:Nat)(ps:List Pol)(e:Chunk)(hq:q=2*j+2+2*ps.length):TailOK (fun c=>iR j c ps e) j q ps e:=by
 have hA:(XS (2*j) Chunk.gone++[Chunk.gone]).length=2*j+1:=ak;have a0:∀c,az (iR j c ps e) (2*j+1)=c:=fun c=>by rw[mb,<-hA];exact Rr _ _ _
 have hl:∀c,(iR j c ps e).length=q+1:=fun c=>by unfold iR;simp[oA];omega
 have b0:∀c,az (iR j c ps e) q=e:=fun c=>by
  have:iR j c ps e=(XS (2*j) Chunk.gone++(.gone::c::tM ps))++[e]:=by unfold iR;simp
  rw[this,kF,ah];simp[oA];omega
 refine⟨fun c x=>?_,a0,fun c x=>?_,b0,fun c d=>?_,hl,fun n c h1 h2=>?_,fun c x i p hp=>?_,fun c g d he=>?_⟩
 ·rw[qb _ _ _ (by rw[hl];omega),a0]
 ·rw[qb _ _ _ (by rw[hl];omega),b0]
 ·show bw (iR j c ps e) (2*j+1) d=iR j d ps e;rw[mb,mb,<-hA];exact np _ _ _ _
 ·have:aL n (XS (2*j) Chunk.gone)=true:=by
   generalize 2*j=m;induction m with
   |zero=>rfl
   |succ m ih=>rw[List.replicate_succ];simp only[aL,aQ,ih,Yq]
  show aL n (iR j c ps e)=true;unfold iR;simp only[oC,aL,this,h1,h2,oB,Yx,Yp];rfl
 ·show az (iR j c ps e++x) _=_;have:iR j c ps e++x=(XS (2*j) Chunk.gone++[.gone,c])++(tM ps++([e]++x)):=by unfold iR;simp
  rw[this];have bP:(XS (2*j) Chunk.gone++[.gone,c]).length=2*j+2:=ak;rw[show 2*j+1+2*(i+1)=(XS (2*j) Chunk.gone++[.gone,c]).length+(2*i+1) by rw[bP];omega,Bg];exact NU ps _ i p hp
 ·show dX (2*j+7) g d 6 (iR j c ps e)=iR j .gone ps e;rw[mb,mb,IK,hA];have h1:dX (2*j+7) g d 6 (XS (2*j) Chunk.gone++[Chunk.gone])=XS (2*j) Chunk.gone++[Chunk.gone]:=by
   refine yd _ _ _ _ _ (fun c hc=>?_) (fun x h1 h2=>by rw[hA]at h2;omega);have:c= .gone:=by simp at hc;rcases hc with h|h<;>first|exact h.2|exact h
   subst this;rfl
  rw[h1,show 6+(2*j+1)=2*j+7 by omega];simp only[dX,if_true];rw[yd _ _ _ _ _ (fun c hc=>?_) (fun x h1 h2=>by omega)];simp only[X0,Yc]at hc;rcases hc with hc|rfl
  ·rcases IL hc with rfl|⟨ls,rfl⟩
   ·rfl
   ·simp only[eF,aZ]
  ·exact he
theorem vr {h:Nat->Chunk}{n:Nat}:∀(ps:List Pol) (k:Nat),(∀i p,ps[i]? =some p->∃ls,h (k+2*i)= .row 68 5 1 (ab ls))->∃ds,dk (br h (n+1)) (fN k ps)=some ds
 |[],_,_=>⟨[],rfl⟩
 |p::ps,k,hk=>by
  obtain⟨ls,h1⟩:=hk 0 p rfl;obtain⟨ds,h2⟩:=vr (n:=n) ps (k+2) (fun i q hq=>by
   obtain⟨ls,h3⟩:=hk (i+1) q (by simpa using hq);exact⟨ls,by rw[<-h3];congr 1;omega⟩)
  rw[Nat.mul_zero,XG]at h1;simp only[fN,dk,h2,aA,cI,br,nV,h1,if_true,eL,Yb];exact⟨_,rfl⟩
def kP (t:Int)(l:Lse):Bool:=(l.kind==3)&&decide (l.till<=t)
theorem IM [Flo](l:Lse)(t:Int)(x:D):ai prog 129 [.agg (bc l),.ept [.ept [.v (.int .i64 t),x]]] (.v (.bool (kP t l))):=by
 unfold kP;refine pj func129 ntmps129 results129 ?_;exact aY
def fA (t:Int)(p:Pol):Pol:={p with leases:=p.leases.filter fun l=>!kP t l}
def jJ (b:Bok)(n:Int):Bok × Int:=
 if bn b≠0 then (Bok.zero,bn b)else
 if n < 1\/n>1073741824 - b.tick then (Bok.zero,3)else (⟨b.tick+n,b.pools.map (fA (b.tick+n))⟩,0)
def fB (b:Bok)(t:Int)(rows:List (List PV))(T:List Chunk):List Chunk:=
 .box 24 [.d (.v (.int .i64 b.tick)),.d (.sl 9 (b.pools.map al))]:: .box 24 [.d (.v (.int .i64 0)),.d (.v (.slice none 0 0))]:: .gone:: .gone:: .box 24 [.d (.v (.int .i64 t)),.own 5 b.pools.length]:: .row 62 9 b.pools.length rows::T
theorem pH {b:Bok}{t:Int}{rows:List (List PV)}{T:List Chunk}{n:Nat}(h1:cB n rows=true)(h2:aL n T=true)(h3:6<=n):aL n (fB b t rows T)=true:=by
 simp only[fB,aL,aQ,aw,ay,h1,h2,Yx,Yp,decide_eq_true_eq];omega
theorem Ut [Flo](b:Bok)(n:Int)(hz:∀p∈b.pools,p.leases.length<=3518437208882):ai prog 57 [.agg (bj b),.v (.int .i64 n)] (.tup [.agg (bj (jJ b n).1),.v (.int .i64 (jJ b n).2)]):=by
 obtain⟨R,hR⟩:∃R,R=jJ b n:=⟨_,rfl⟩;rw[<-hR];replace hR:=Xi hR;by_cases hc:bn b=0
 ·have bW:=db hc;have cV:=KK b hz hc;have ht:=bW.tick;have hws:IntKind.i64.wrap (1073741824 - b.tick)=1073741824 - b.tick:=by rw[IntKind.wrap_i64];omega
  have aR:R=if n < 1\/n>1073741824 - b.tick then (Bok.zero,3)else (⟨b.tick+n,b.pools.map (fA (b.tick+n))⟩,0):=by rw[hR.out];unfold jJ;rw[af (by simpa using hc)]
  replace aR:=Xi aR;clear hR hc;by_cases hn:n < 1\/n>1073741824 - b.tick
  ·clear bW;refine pj func57 ntmps57 results57 ?_;have z1z:=Ln.mk (ls:=[]) (cV);refine fl ?_ ?_ ?_ ?_ ?_ ?_ ?_ ?_<;>first|(with_reducible exact True.intro)|intros
   all_goals first
    |(exfalso;rename_i q1 q2;simp only[decide_eq_false_iff_not]at q1 q2;omega)
    |(clear hz cV;(rw[show R=(Bok.zero,3) from (by rw[aR.out];grind)];(try simp only[Xn,Xl]);exact dg))
  ·have h1:decide (n < 1)=false:=aN;have h2:decide (n>1073741824 - b.tick)=false:=aN;have SU:IntKind.i64.wrap (b.tick+n)=b.tick+n:=by rw[IntKind.wrap_i64];omega
   replace hn:=Xi hn;refine pj func57 ntmps57 results57 ?_;have z1z:=Ln.mk (ls:=[]) (cV);refine aq ?_<;>intros;have hqn:=oA b.pools;rw[hqn];refine bL ag am (fun m e h=>∃(pre rest:List Pol),b.pools=pre++rest/\m=rest.length/\e=[(44,.d (.v (.int .i64 pre.length))),(43,.d (.v (.int .i64 b.pools.length))),(6,.ptr (2*b.pools.length+6) 0),(5,.d (.v (.int .i64 0))),(4,.ptr 1 0)]/\
    h=fB b (b.tick+n) (ab ((pre.map (fA (b.tick+n))).map al)++fN (2*pre.length+7) rest) (XS (2*pre.length) .gone++(tM rest++[.box 117 [.ptr 4 0]]))) _ _ _ ⟨[],b.pools,rfl,rfl,rfl,rfl⟩ ?_ ?_
   ·refine ey [] ak (by simp only[fB,Xp,Yv,XX,Nat.mul_zero,List.replicate_zero,X8];rfl) se (by simp[fB,eD,ay,oA]) ?_;refine pH (by simp only[Xp,XX];exact jI _ b.pools 7 (by simp[fB,oA];omega)) ?_ (by simp[fB]);simp[oC,oB,aL,aQ,aw,ay,fB]
   ·rintro m e h ⟨pre,rest,Jr,hm,rfl,rfl⟩ C hC;cases rest with
    |nil=>
     have hN:b.pools.length=pre.length:=by rw[Jr];simp
     have hq:az (XS (2*pre.length) Chunk.gone++[.box 117 [.ptr 4 0]]) (2*b.pools.length)= .box 117 [.ptr 4 0]:=by rw[kF,ah aN]
     have lh:¬(pre.length:Int) < (b.pools.length:Int):=aa;have a0n:b.pools=pre:=by rw[Jr];simp
     have gn:=aR.out;rw[af hn.out,a0n]at gn;clear hC hm Jr a0n hN;replace lh:decide ((pre.length:Int) < (b.pools.length:Int))=false:=by simpa using lh
     simp only[fB,fN,tM,Yv,X8];generalize XS (2*pre.length) Chunk.gone++[Chunk.box 117 [.ptr 4 0]]=T at*;replace gn:=Xi gn;refine aq ?_<;>intros;rw[gn.out];exact dg
    |cons p rest=>
     have hN:b.pools.length=pre.length+1+rest.length:=by rw[Jr];simp;omega
     have lh:(pre.length:Int) < (b.pools.length:Int):=aa;have cX:IntKind.i64.wrap ((pre.length:Int)+1)=((pre.length+1:Nat):Int):=by rw[IntKind.wrap_i64];have:=bW.n8;omega
     have gz:=bW.l32 p (by rw[Jr];simp);have Tp:=fun r=>NR (pre.map (fA (b.tick+n))) r (2*pre.length+7+2) rest;have hzg:=fun r=>NS (pre.map (fA (b.tick+n))) r (2*pre.length+7+2) rest;have Pd:=fun r r'=>NT (pre.map (fA (b.tick+n))) r r' (2*pre.length+7+2) rest;rw[Xs]at Tp;simp only[Xs]at hzg Pd;obtain⟨T,hT,hTe⟩:∃T:Chunk->List Chunk,TailOK T pre.length (2*b.pools.length) rest (.box 117 [.ptr 4 0])/\T=fun c=>iR pre.length c rest (.box 117 [.ptr 4 0]):=⟨_,Us pre.length (2*b.pools.length) rest (.box 117 [.ptr 4 0]) aa,rfl⟩;have hTg:T .gone=XS (2*(pre++[p]).length) .gone++(tM rest++[.box 117 [.ptr 4 0]]):=by
      rw[hTe];show iR _ _ _ _=_;unfold iR;rw[XV,XC,XX,show 2*(pre.length+(0+1))=2*pre.length+1+1 by omega,List.replicate_succ',List.replicate_succ'];simp
     have hTc:T (.row 68 5 1 (ab (p.leases.map bc)))=XS (2*pre.length) .gone++(tM (p::rest)++[.box 117 [.ptr 4 0]]):=by rw[hTe];rfl
     rw[<-hTc];clear hTe hTc;have Tq:ab ((pre.map (fA (b.tick+n))).map al)++fN (2*pre.length+7) (p::rest)=my (pre.map (fA (b.tick+n))) (aA p (.own (2*pre.length+7) 1)) (2*pre.length+7+2) rest:=rfl;rw[Tq];clear Tq;have PG:∀(m:List Lse) (x:List Chunk) (v:Nat),∃d,cI (br (az (fB b (b.tick+n) (my (pre.map (fA (b.tick+n))) (aA p (.own (2*pre.length+7) 1)) (2*pre.length+7+2) rest) (T (.row 68 5 1 (ab (m.map bc)))++x))) (v+5)) [.ptr (2*b.pools.length+6) 0]=some [.ept [.ept [.v (.int .i64 (b.tick+n)),d]]]:=by
      intro m x v;obtain⟨ds,fD⟩:=vr (h:=az (fB b (b.tick+n) (my (pre.map (fA (b.tick+n))) (aA p (.own (2*pre.length+7) 1)) (2*pre.length+7+2) rest) (T (.row 68 5 1 (ab (m.map bc)))++x))) (n:=v+1) rest (2*pre.length+7+2) (fun i q hq=>⟨q.leases.map bc,by
       rw[show 2*pre.length+7+2+2*i=2*pre.length+1+2*(i+1)+6 by omega];exact hT.r _ x i q hq⟩)
      have h1:az (fB b (b.tick+n) (my (pre.map (fA (b.tick+n))) (aA p (.own (2*pre.length+7) 1)) (2*pre.length+7+2) rest) (T (.row 68 5 1 (ab (m.map bc)))++x)) (2*b.pools.length+6)= .box 117 [.ptr 4 0]:=hT.b _ x;have h2:az (fB b (b.tick+n) (my (pre.map (fA (b.tick+n))) (aA p (.own (2*pre.length+7) 1)) (2*pre.length+7+2) rest) (T (.row 68 5 1 (ab (m.map bc)))++x)) (2*pre.length+7)= .row 68 5 1 (ab (m.map bc)):=hT.a _ x;have h3:∀r T',az (fB b (b.tick+n) r T') 4= .box 24 [.d (.v (.int .i64 (b.tick+n))),.own 5 b.pools.length]:=fun _ _=>rfl;have h4:∀r T',az (fB b (b.tick+n) r T') 5= .row 62 9 b.pools.length r:=fun _ _=>rfl;have h5:∃e,dk (br (az (fB b (b.tick+n) (my (pre.map (fA (b.tick+n))) (aA p (.own (2*pre.length+7) 1)) (2*pre.length+7+2) rest) (T (.row 68 5 1 (ab (m.map bc)))++x))) (v+2)) (my (pre.map (fA (b.tick+n))) (aA p (.own (2*pre.length+7) 1)) (2*pre.length+7+2) rest)=some e:=by
       generalize hH:az (fB b (b.tick+n) (my (pre.map (fA (b.tick+n))) (aA p (.own (2*pre.length+7) 1)) (2*pre.length+7+2) rest) (T (.row 68 5 1 (ab (m.map bc)))++x))=H at*;simp only[my,rC,eL,dk,fD,aA,cI,br,nV,h2,if_true,Yb];exact⟨_,rfl⟩
      obtain⟨e,he⟩:=h5;refine⟨.sl 9 e,?_⟩;simp only[cI,br,h1,h3,h4,List.drop_zero,if_true,he,nV,Yb]
     have iU:∀r c c',bw (fB b (b.tick+n) r (T c)) (2*pre.length+7) c'=fB b (b.tick+n) r (T c'):=by
      intro r c c';show _::_::_::_::_::_::bw (T c) (2*pre.length+1) c'=_;rw[hT.c];rfl
     have CU:∀m:List Lse,aL (fB b (b.tick+n) (my (pre.map (fA (b.tick+n))) (aA p (.own (2*pre.length+7) 1)) (2*pre.length+7+2) rest) (T (.row 68 5 1 (ab (m.map bc))))).length (fB b (b.tick+n) (my (pre.map (fA (b.tick+n))) (aA p (.own (2*pre.length+7) 1)) (2*pre.length+7+2) rest) (T (.row 68 5 1 (ab (m.map bc)))))=true:=by
      intro m;have hl:(fB b (b.tick+n) (my (pre.map (fA (b.tick+n))) (aA p (.own (2*pre.length+7) 1)) (2*pre.length+7+2) rest) (T (.row 68 5 1 (ab (m.map bc))))).length=2*b.pools.length+7:=by simp[fB,hT.len]
      rw[hl];refine pH ?_ (hT.h _ _ (aF _ _) (by simp[aQ,aw,ay])) aa;unfold my;rw[kN,aF];simp only[cB,aA,aw,ay,jI (2*b.pools.length+7) rest (2*pre.length+7+2) aa,Yx,Yp,decide_eq_true_eq];first|done|omega
     have rQ:=G0 (kP (b.tick+n)) p.leases (2*pre.length+7) 1 129 [.ptr (2*b.pools.length+6) 0] (fB b (b.tick+n) (my (pre.map (fA (b.tick+n))) (aA p (.own (2*pre.length+7) 1)) (2*pre.length+7+2) rest) (T (.row 68 5 1 (ab (p.leases.map bc))))) (hT.a0 _)
      (by simp[fB,hT.len,aw,ay]) (CU p.leases) aa
      (by
       obtain⟨d,hd⟩:=PG p.leases [] 0;rw[Yv]at hd;exact⟨_,hd,fun x _=>IM x (b.tick+n) d⟩)
      (fun m c=>by
       obtain⟨d,hd⟩:=PG m [c] 1;rw[iU];exact⟨_,hd,fun x _=>IM x (b.tick+n) d⟩)
     rw[iU]at rQ;have hTa:=hT.a0;have hTb:=hT.b0;have a0o:=hT.c;have hTl:=hT.len;have hTf:=hT.f;have hTh:=hT.h;clear PG iU CU hT cV aR;simp only[fB,aA]at rQ ⊢;replace hN:=Xi hN;replace hm:=Xi hm;replace Jr:=Xi Jr;replace hTg:=Xi hTg;replace hTf:=Xi hTf;replace hTh:=Xi hTh;replace hn:=Xi hn;clear bW gz ht;repeat' (first|(with_reducible refine And.intro ?_ ?_)|(with_reducible refine og (fun _=>?_) (fun _=>?_))|(with_reducible refine ef (fun _=>?_) (fun _=>?_))|(with_reducible refine jA aK)|simp -dsimp only[go_sem,seval, *,bj,al,lh,cX,hTa,hTb,a0o,hTl,hzg,Tp,Pd]|((with_reducible refine jB ?_);simp -dsimp only[go_sem,seval,bj,al,lh,cX,hTa,hTb,a0o,hTl,hzg,Tp,Pd];first|refine ei L8 mR ?_|(refine eh gR ?_ ?_ ?_;(solve|(repeat(first|exact aO.refl _|exact aO.nil _|(refine aO.tup ?_)|(refine aO.agg ?_ rfl)|exact trivial|(refine And.intro ?_ ?_))));(solve|exact .inl rfl|exact .inr rfl)))|(refine MX rQ ?_)|omega|exact decide_eq_true aa|exact aO.refl _)
     refine hC _ _ _ _ _ (by have:=hm.out;simp at this;omega) ⟨pre++[p],rest,by rw[Jr.out];simp,rfl,rfl,rfl⟩ ?_;refine(av (2*pre.length+7) 2 68 5 ((p.leases.filter fun x=>!kP (b.tick+n) x).map bc) (hTa _)).trans ?_;have n0:=eq_false (show ¬(0=2*pre.length+7) by omega);have n1:=eq_false (show ¬(1=2*pre.length+7) by omega);have n2:=eq_false (show ¬(2=2*pre.length+7) by omega);have n3:=eq_false (show ¬(3=2*pre.length+7) by omega);have n4:=eq_false (show ¬(4=2*pre.length+7) by omega);have n5:=eq_false (show ¬(5=2*pre.length+7) by omega);have HN:=fun d=>Bf (2*pre.length+7) 2 d rest (2*pre.length+7+2) aa;have SQ:=fun d=>hTf.out (.row 68 5 2 (ab ((p.leases.filter fun x=>!kP (b.tick+n) x).map bc))) 2 d rfl;simp only[eM,fz,ee,dX,eF,d7,aD,aZ,bg,Xl,Xp,Xz,Xx,reduceIte,and_true,true_and,and_self,and_false,false_and,Xw,XG,reduceCtorEq,my,HN,SQ,n0,n1,n2,n3,n4,n5,if_false];have hlp:(pre++[p]).length=pre.length+1:=ak;have e1:ab (((pre++[p]).map (fA (b.tick+n))).map al)++fN (2*(pre++[p]).length+7) rest=ab ((pre.map (fA (b.tick+n))).map al)++aA p (.d (.sl 5 ((p.leases.filter fun x=>!kP (b.tick+n) x).map bc)))::fN (2*pre.length+7+2) rest:=by
      rw[hlp,show 2*(pre.length+1)+7=2*pre.length+7+2 by omega];simp[ab,fA,al,aA]
     rw[e1,<-hTg.out,hlp];have hle:(fB b (b.tick+n) (ab ((pre.map (fA (b.tick+n))).map al)++aA p (.d (.sl 5 ((p.leases.filter fun x=>!kP (b.tick+n) x).map bc)))::fN (2*pre.length+7+2) rest) (T .gone)).length=2*b.pools.length+7:=by simp[fB,hTl]
     refine ey [] ak (by rw[Yv];rfl) se (by rw[hle];simp[eD,ay]) ?_;rw[hle];refine pH ?_ (hTh.out _ _ rfl (by simp[aQ,aw,ay])) aa;have:=hN.out;rw[kN,aF];simp only[cB,aA,aw,ay,jI (2*b.pools.length+7) rest (2*pre.length+7+2) aa,Yx]
 ·have cV:=nJ b hz hc;have h1:(bn b !=0)=true:=by simpa using hc
  have hr:R=(Bok.zero,bn b):=by rw[hR.out];unfold jJ;rw[ah hc]
  rw[hr];replace hr:=Xi hr;refine pj func57 ntmps57 results57 ?_;refine aq ?_<;>intros;exact dg
theorem G6 [Flo](l m:List Int)(hl:l.length<=1000000000)(hm:m.length<=1000000000):ai prog 194 [.sl 1 (l.map cm),.sl 1 (m.map cm)] (.v (.bool (decide (l=m)))):=by
 obtain⟨R,hR⟩:∃R,R=decide (l=m):=⟨_,rfl⟩;rw[<-hR];replace hR:=Xi hR;refine pj func194 ntmps194 results194 ?_;refine zk ?_ ?_<;>intros
 ·rename_i h1;exact Ip (by rw[hR.out,decide_eq_false];rintro rfl;simp at h1)
 ·rename_i h1;have mX:l.length=m.length:=by simp at h1;omega
  clear h1;replace mX:=Xi mX;refine bq ag am l (fun k=>l.take k=m.take k) (fun k=>[(5,.d (.v (.int .i64 k))),(4,.d (.v (.bool false))),(1,.d (.sl 1 (m.map cm))),(0,.d (.sl 1 (l.map cm)))]) (fun _=>[]) rfl (wf) ?_ ?_
  ·intro k x hx hk hI C hC;have dF:(k:Int) < (l.length:Int):=aa;have cX:=wi k aa;obtain⟨y,hy⟩:∃y,m[k]? =some y:=⟨_,Xj (by have:=mX.out;omega)⟩;replace hI:=Xi hI;cases h1:(x !=y)with
   |true=>
    have hb:R=false:=by
     rw[hR.out,decide_eq_false];rintro rfl;rw[hx]at hy;rw[XU.inj hy]at h1;simp at h1
    rw[hb];replace hb:=Xi hb;exact aY;all_goals exact aO.refl _
   |false=>
    have mY:l.take (k+1)=m.take (k+1):=by rw[aj hx,aj hy,hI.out];simp at h1;rw[h1]
    replace mY:=Xi mY;refine aq ?_<;>intros;exact hC _ _ mY.out (wf)
  ·intro hI C;have hb:R=true:=by
    rw[hR.out,decide_eq_true_eq];rw[Xq,mX.out,Xq]at hI;exact hI
   rw[hb];replace hb:=Xi hb;replace hI:=Xi hI;exact aY;all_goals exact aO.refl _
theorem ye (p q:Rng):([p.at_.at_,p.at_.len,p.pool]==[q.at_.at_,q.at_.len,q.pool])=decide (p=q):=by
 rw[Yi];cases p;cases q;rename_i a b c d;cases a;cases c;simp[and_assoc]
section
open Go.Proofs Go.ChangeShapes Go.WideShapes Go.Deep
section
variable {H:Type}{enc:TypeId × Value->H}{P:Program}{w:World}{base:Nat}{spare:Nat->Bool}{held:Bool}
def Rd {α:Type}(enc:TypeId × Value->H)(P:Program)(w:World)(base:Nat)(spare:Nat->Bool)(held:Bool)(t:TypeId)(R:List Value->α->Prop):Prop:=
 ∀fuel cs x,DataW.trod enc P w base spare held fuel t cs=some x->∃a,R cs a
theorem Rd.map {α β:Type}{t:TypeId}{R:List Value->α->Prop}{R':List Value->β->Prop}(h:Rd enc P w base spare held t R)(f:α->β)(hf:∀cs a,R cs a->R' cs (f a)):Rd enc P w base spare held t R':=by
 intro fuel cs x hx;obtain⟨a,ha⟩:=h fuel cs x hx;exact⟨f a,hf _ _ ha⟩
def Wu (n:Int):Prop:= -9223372036854775808<=n/\n<=9223372036854775807
def wa (cs:List Value)(n:Int):Prop:=cs=[.int .i64 n]/\Wu n
theorem Rt {n:Int}(h:(Lit.int .i64 n).wf=true):Wu n:=by
 simp only[Lit.wf,Xv,decide_eq_true_eq]at h;have h1:IntKind.i64.min= -9223372036854775808:=rfl;have h2:IntKind.i64.max=9223372036854775807:=rfl;rw[h1,h2]at h;exact h
theorem eH {t:TypeId}(ht:P.underlying t=some (.int .i64)):Rd enc P w base spare held t wa:=by
 intro fuel cs x hx;obtain⟨n,h,_,hw⟩:=DataW.trod_int ht hx;exact⟨n,h,Rt hw⟩
theorem b8 {α:Type}{t:TypeId}{fs:Array Field}{fuel:Nat}{cs:List Value}{x:DataW H × List MemPlace}(ht:P.underlying t=some (.struct fs))(h:DataW.trod enc P w base spare held fuel t cs=some x)
 (j:Nat) {f:Field} (hf:fs[j]? =some f) {R:List Value->α->Prop} (hr:Rd enc P w base spare held f.type R):∃a,R ((cs.drop f.offset).take (P.cellsOf f.type)) a:=by
 obtain⟨xs,n,_,_,_,bP,hg⟩:=DataW.trod_struct ht h;have h1:=hg j f hf;have hj:j < xs.length:=by rw[bP];exact(Yo.1 hf).1
 rw[Xj hj]at h1;exact hr _ _ _ h1
theorem kj {t:TypeId}{fs:Array Field}{fuel:Nat}{cs:List Value}{x:DataW H × List MemPlace}(ht:P.underlying t=some (.struct fs))(h:DataW.trod enc P w base spare held fuel t cs=some x):cs.length=P.cellsOf t:=by
 obtain⟨_,_,_,_,h,_⟩:=DataW.trod_struct ht h;exact h
theorem uy {α:Type}{Q:Nat->α->Prop}:∀(n:Nat),(∀i,i < n->∃a,Q i a)->∃l:List α,l.length=n/\∀i (h:i < l.length),Q i l[i]
 |0,_=>⟨[],rfl,fun i h=>by simp at h⟩
 |n+1,h=>by
  obtain⟨l,hl,hq⟩:=uy n fun i hi=>h i aa;obtain⟨a,ha⟩:=h n aa;refine⟨l++[a],by simp[hl],fun i hi=>?_⟩;rcases XL i l.length with h1|h1
  ·rw[List.getElem_append_left h1];exact hq i h1
  ·have:i=n:=by simp at hi;omega
   subst this;rw[List.getElem_append_right h1];simpa using ha
def inW (w:World):mZ:=fun b=>b < w.heap.size
theorem EI {t:TypeId}{v:Value}{d:DataW H}{p:List MemPlace}(h:DataW.Trod enc P w base spare held t v d p):∀x∈p,x.block < w.heap.size:=by
 obtain⟨m,hm⟩:=h;exact DataW.trod_lt m _ _ _ hm
end
end
theorem a2C {p:Prop}(h:p:=by
 refine⟨?_,by simp[Sort.putCells]⟩;apply Yg;intro i;by_cases hi:i < F.size
 ·rw[XP hi];have hc:i < cur.size:=aa;simp[Sort.putCells,hi,hc]
 ·rw[XN (by rw[Xo];omega),XN aN]):p:=h
section
open Go.Proofs Go.Shelf
structure SRow (HP:List Value->Int->Prop)(sz:Nat) where
 xs:List Value
 len:xs.length=sz
 one:∀v∈xs,v.oneCell'=true
 key:Int
 head:HP xs key
@[reducible] def NV (xs:List Value)(k:Int):Prop:=xs[0]? =some (.int .i64 k)
def FZ {HP:List Value->Int->Prop}{sz:Nat}(x y:SRow HP sz):Int:=eN x.key y.key
theorem ltS {HP:List Value->Int->Prop}{sz:Nat}(x y:SRow HP sz):ltOf FZ x y=decide (x.key < y.key):=sr _ _
theorem a0G {HP:List Value->Int->Prop}{sz:Nat}:Sort.SWO (ltOf (FZ (HP:=HP) (sz:=sz))) where
 irrefl x:=by rw[ltS];simp
 trans x y z h1 h2:=by rw[ltS]at*;simp at*;omega
 ntrans x y z h1 h2:=by rw[ltS]at*;simp at*;omega
@[reducible] def NW (n:Nat):Inhabited (SRow NV (n+1)):=⟨⟨XS (n+1) (.int .i64 0),by simp,fun v hv=>by rw[Zy hv];rfl,0,by unfold NV;simp⟩⟩
theorem zO (F cur:Array Value)(h:F.size<=cur.size):(Sort.putCells id 0 F cur).toList.take F.size=F.toList/\(Sort.putCells id 0 F cur).size=cur.size:=a2C
theorem yf {HP:List Value->Int->Prop}{sz:Nat}(n:Nat)(hs:sz=n+1)[Inhabited (SRow HP sz)](d:Array (SRow HP sz)):(Sort.flatK (fun r:SRow HP sz=>r.xs) sz d).toList=(d.toList.map (·.xs)).flatten:=by
 have b9:∀r∈d.toList.map (·.xs),r.length=sz:=fun r hr=>by
  obtain⟨x,-,rfl⟩:=XF.1 hr;exact x.len
 have bP:(d.toList.map (·.xs)).flatten.length=d.size*sz:=by rw[cO b9];simp
 apply Yg;intro t;by_cases ht:t < d.size*sz
 ·have h1:t / sz < d.size:=ZA (by rw[Zr];exact ht);have h2:t % sz < sz:=_h _ aa;have h3:t / sz*sz+t % sz=t:=by rw[Zr];exact ZQ t sz
  have h4:=cA b9 (t / sz) (t % sz) h2;rw[h3]at h4;rw[h4];have h5:=Sort.get_flatK (fun r:SRow HP sz=>r.xs) sz d t ht;have h6:t < (Sort.flatK (fun r:SRow HP sz=>r.xs) sz d).size:=by rw[Sort.size_flatK];exact ht
  rw[getElem!_pos (Sort.flatK (fun r:SRow HP sz=>r.xs) sz d) t h6]at h5;rw[X6,YM h6,h5];have hl:(d[t / sz]).xs.length=sz:=(d[t / sz]).len;have e7:(d[t / sz]).xs[t % sz]? =some ((d[t / sz]).xs[t % sz]!):=by
   rw[getElem!_pos (d[t / sz]).xs (t % sz) (by rw[hl];exact h2)];exact Xj _
  rw[getElem!_pos d (t / sz) h1];rw[Xr,X6,YM h1];simp only[Yb,Y5];exact e7.symm
 ·rw[XN aN,XN aa]
theorem NX {HP:List Value->Int->Prop}{n:Nat}(inh:Inhabited (SRow HP (n+1))){P:Program}{ρ:Ren}(L:SlLaysF0.n6 P ρ){f fc E:Nat}(hf:ρ.f 6=f)(aE:∀w,(isAgg (ρ.t 24)).run P w= .ok true w)(zE:∀w,(Go.sizeOf (ρ.t 24)).run P w= .ok (n+1) w)(eg:∀args w,(callFunc fc args).run P w= .ok (.enter fc args) w)
 (PH:∀(x y:SRow HP (n+1)) (W:World),Calls P fc #[.agg x.xs.toArray,.agg y.xs.toArray] W fun e w'=>e= .returned (.int .i64 (FZ x y))/\∃q os',w'=Sort.grow (W.drewN q) os')
 (ds:List (SRow HP (n+1))) (w:World) (gb cap:Nat) (cur:Array Value) (hh:w.heap[gb]? =some (.cells cur E (0,0))) (hc:cur.toList.take (ds.length*(n+1))=(ds.map (·.xs)).flatten) (cK:ds.length*(n+1)<=cur.size) (hl:ds.length<=1000000):
 Calls P f #[.slice (some ⟨gb,0,none⟩) ds.length cap,.func (.func fc) #[] #[]] w fun e w'=>e= .returned (.tuple #[])/\∃(ds':List (SRow HP (n+1))) (cur':Array Value),ds'.Perm ds/\ds'.Pairwise (fun x y=>x.key<=y.key)/\w'.heap[gb]? =some (.cells cur' E (0,0))/\cur'.size=cur.size/\
  cur'.toList.take (ds.length*(n+1))=(ds'.map (·.xs)).flatten/\OneB w w' (some gb):=by
 have hg:gb < w.heap.size:=(Yo.1 hh).1;have ip:=yf n rfl ds.toArray;rw[YZ]at ip;have hH:Sort.HoldsK (fun r:SRow HP (n+1)=>r.xs) (n+1) w gb 0 ds.toArray:=by
  intro t ht;have ht2:=ht;rw[Sort.size_flatK,YF]at ht2;refine⟨?_,mS hh⟩;have cf:∀o,w.cell? ⟨gb,o,none⟩=cur[o]? :=fun o=>by simp[YL,hh]
  rw[Xw,cf];have h1:(cur.toList.take (ds.length*(n+1)))[t]? =cur[t]? :=by rw[XP ht2];simp
  rw[<-h1,hc,<-ip,X6,getElem!_pos (Sort.flatK (fun r:SRow HP (n+1)=>r.xs) (n+1) ds.toArray) t ht,YM ht];rfl
 have a0p:=AnyQ.slices_SortFunc L (n+1) aE zE (fun r:SRow HP (n+1)=>r.xs) (·.len) (·.one) FZ a0G fc #[] gb 0 cap ds.toArray w eg (fun _ _ _ _ x y=>PH x y _) hH hg aN;rw[hf,YF]at a0p;refine Calls.mono a0p ?_;rintro e w' ⟨rfl,d',m,os,⟨SJ,-,hp⟩,hs,rfl⟩;replace SJ:d'.size=ds.length:=by simpa using SJ
 have hF:(Sort.flatK (fun r:SRow HP (n+1)=>r.xs) (n+1) d').size<=cur.size:=by rw[Sort.size_flatK,SJ];exact cK
 obtain⟨p1,p2⟩:=zO (Sort.flatK (fun r:SRow HP (n+1)=>r.xs) (n+1) d') cur hF;refine⟨rfl,d'.toList,Sort.putCells id 0 (Sort.flatK (fun r:SRow HP (n+1)=>r.xs) (n+1) d') cur,?_,?_,?_,p2,?_,?_⟩
 ·have e1:d'.extract 0 ds.length=d':=by rw[<-SJ];exact Array.extract_size
  have e2:ds.toArray.extract 0 ds.length=ds.toArray:=ak;rw[e1,e2]at hp;simpa using hp
 ·rw[XH];intro i j hi hj hij;have hj':j < d'.size:=by simpa using hj
  have:=hs i j (XE _) hij aa;rw[ltS,getElem!_pos d' i aa,getElem!_pos d' j hj']at this;simpa using this
 ·show (Sort.grow (Sort.putRow id (Sort.ahead w m) gb 0 (Sort.flatK (fun r:SRow HP (n+1)=>r.xs) (n+1) d')) os).heap[gb]? =_;rw[Sort.heap_grow_old _ _ (by simpa using hg)];show (w.heap.modify gb (Sort.onCells _))[gb]? =_;rw[YU,ah rfl,hh];rfl
 ·rw[show ds.length*(n+1)=(Sort.flatK (fun r:SRow HP (n+1)=>r.xs) (n+1) d').size by rw[Sort.size_flatK,SJ],p1,yf n rfl]
 ·refine⟨rfl,rfl,rfl,?_,fun b hb bG=>?_⟩
  ·show w.heap.size<=(Sort.grow (Sort.putRow id (Sort.ahead w m) gb 0 _) os).heap.size;rw[Sort.size_grow,Sort.size_putRow,Sort.heap_ahead];omega
  ·show (Sort.grow (Sort.putRow id (Sort.ahead w m) gb 0 (Sort.flatK (fun r:SRow HP (n+1)=>r.xs) (n+1) d')) os).heap[b]? =_;rw[Sort.heap_grow_old _ _ (by simpa using hb)];show (w.heap.modify gb (Sort.onCells _))[b]? =_;rw[YU,af (fun e=>bG (by rw[e]))]
theorem NY {α β:Type}{ka:α->Int}{kb:β->Int}{l l':List α}{d d':List β}(hk:d.map kb=l.map ka)(hp:l'.Perm l)(hs:l'.Pairwise fun x y=>ka x < ka y)(hq:d'.Perm d)(ht:d'.Pairwise fun x y=>kb x<=kb y):d'.map kb=l'.map ka:=
 List.Perm.eq_of_pairwise (le:=fun x y:Int=>x<=y) (fun a b _ _ h1 h2=>by omega) (by rw[Y3];exact ht) (by rw[Y3];exact hs.imp fun h=>by omega) ((hq.map kb).trans (by rw[hk];exact(hp.map ka).symm))
theorem IN [Flo]{HP:List Value->Int->Prop}{n:Nat}(inh:Inhabited (SRow HP (n+1))){P:Program}{ρ:Ren}(L:SlLaysF0.n6 P ρ){f fc E g:Nat}(hf:ρ.f 6=f)(SM:zB P f)(aE:∀w,(isAgg (ρ.t 24)).run P w= .ok true w)(zE:∀w,(Go.sizeOf (ρ.t 24)).run P w= .ok (n+1) w)(eg:∀args w,(callFunc fc args).run P w= .ok (.enter fc args) w)
 (PH:∀(x y:SRow HP (n+1)) (W:World),Calls P fc #[.agg x.xs.toArray,.agg y.xs.toArray] W fun e w'=>e= .returned (.int .i64 (FZ x y))/\∃q os',w'=Sort.grow (W.drewN q) os')
 {α:Type} (enc:α->List D) (key:α->Int) {l l':List α} (Vo:∀x∈l,∀vs:List Value,vs.length=n+1->(∀(j:Nat) (d:D) (v:Value),(enc x)[j]? =some d->vs[j]? =some v->∃M w,RepD M w d v)->HP vs (key x)) (qR:l≠[]) (hp:l'.Perm l) (hs:l'.Pairwise fun x y=>key x < key y) (cK:l.length<=1000000):
 MSpec P f [.own 0 g,.d (.clo fc [])] [.row E (n+1) g (ab (l.map enc))] (.d (.tup [])) [.row E (n+1) g (ab (l'.map enc))]:=by
 refine⟨SM,XA _,by simp[aw,ay],by simp[aL,aQ,aF],fun X hP hn hm w c vs hr mA=>?_⟩;have bP:=mA.1;match vs,bP with
 |[v0,v1],_=>
  have r0:=mA.2 0 _ v0 rfl rfl;have r1:=ck (mA.2 1 _ v1 rfl rfl);have bG:ab (l.map enc)≠[]:=by simpa[ab]using qR
  have bo:=hr.chunk 0;cases r0 with
  |own _ _ _ ec h1=>
   obtain⟨gb,cap,rfl⟩:=m9 bo ec bG;obtain⟨cur,xs,q1,q2,q3,q4,q5,q6,q7,q8,q9,q10,q11⟩:=eB bo ec bG;have PE:=bA.one q2 (fun d hd=>by obtain⟨r,hr,hd⟩:=ZL.1 hd;exact q6 r hr d hd);have lI:(ab (l.map enc)).length=l.length:=by rw[aH,Xs]
   rw[lI]at q3 q4 q8 q10 ec ⊢;have Dh:v1= .func (.func fc) #[] #[]:=by
    cases r1 with
    |clo _ _ vs hl aU=>
     have:vs=[]:=by simpa using hl.symm
     subst this;rfl
   subst Dh;have Pf:cur.toList.take (l.length*(n+1))=xs:=by
    apply Yg;intro j;by_cases hj:j < l.length*(n+1)
    ·rw[XP hj,X6,q4 j hj]
    ·rw[XN (by rw[Xo];omega),XN aa]
   obtain⟨ds,rQ,fD⟩:=uy (Q:=fun i (r:SRow HP (n+1))=>r.xs=(xs.drop (i*(n+1))).take (n+1)/\∃x,l[i]? =some x/\r.key=key x) l.length fun i hi=>by
    have hb:(i+1)*(n+1)<=l.length*(n+1):=Yt _ hi;rw[YX]at hb;obtain⟨x,hx⟩:∃x,l[i]? =some x:=⟨_,Xj hi⟩;have HL:((xs.drop (i*(n+1))).take (n+1)).length=n+1:=by rw[Xo,XO];omega
    have h0:HP ((xs.drop (i*(n+1))).take (n+1)) (key x):=Vo x (Xk hx) _ HL fun j d v hd hv=>by
     have hj:j < n+1:=by rw[<-HL];exact(Xm.1 hv).1
     rw[XP hj,Yk]at hv;have ip:=cA q5 i j hj;rw[iu,Xr,hx]at ip;simp only[Yb,Y5,Xr,hd]at ip;exact⟨_,_,ck (q2.2 _ _ v ip hv)⟩
    exact⟨⟨(xs.drop (i*(n+1))).take (n+1),HL,fun v hv=>PE v (Yd (Yf hv)),key x,h0⟩,rfl,x,hx,rfl⟩
   have TC:∀r∈ds.map (·.xs),r.length=n+1:=fun r hr=>by obtain⟨x,-,rfl⟩:=XF.1 hr;exact x.len
   have hflat:(ds.map (·.xs)).flatten=xs:=by
    apply Yg;intro t;by_cases ht:t < l.length*(n+1)
    ·have h1:t / (n+1) < l.length:=ZA (by rw[Zr];exact ht);have h2:t % (n+1) < n+1:=_h _ aa;have h3:t / (n+1)*(n+1)+t % (n+1)=t:=by rw[Zr];exact ZQ t (n+1)
     generalize t / (n+1)=i at h1 h3;generalize t % (n+1)=j at h2 h3;have h4:=cA TC i j h2;rw[h3,Xr,Xj (show i < ds.length by omega)]at h4;rw[h4];simp only[Yb,Y5];rw[(fD _ (show i < ds.length by omega)).1,XP h2,Yk,h3]
    ·rw[XN (by rw[cO TC,Xs,rQ];omega),XN aa]
   have vL:ds.map (·.key)=l.map key:=by
    apply Yg;intro i;rw[Xr,Xr];by_cases hi:i < l.length
    ·obtain⟨-,x,hx,hk⟩:=fD i aa;rw[Xj aa,hx];simp[hk]
    ·rw[XN (show ds.length<=i by omega),XN (show l.length<=i by omega)];rfl
   have jL:=NX inh L hf aE zE eg PH ds w gb cap cur q1 (by rw[rQ,Pf,hflat]) (by rw[rQ];exact q8) aa;rw[rQ]at jL;rw[<-hP]at jL;rw[hP]at jL;refine jL.mono fun e w' ⟨he,ds',cur',hp',hs',hw',fP,tI,eO⟩=>?_;have iH:=NY (ka:=key) (kb:=SRow.key) vL hp hs hp' hs';have Vp:ds'.length=l.length:=by rw[hp'.length_eq,rQ]
   have PI:l'.length=l.length:=hp.length_eq;have Dc:∀r∈ds'.map (·.xs),r.length=n+1:=fun r hr=>by obtain⟨x,-,rfl⟩:=XF.1 hr;exact x.len
   have HW:∀r∈ab (l'.map enc),r.length=n+1:=fun r hr=>by
    obtain⟨q,hq,rfl⟩:=je hr;obtain⟨x,hx,rfl⟩:=XF.1 hq;exact q5 _ (XF.2 ⟨enc x,XF.2 ⟨x,hp.mem_iff.1 hx,rfl⟩,rfl⟩)
   have Vj:∀r∈ab (l'.map enc),∀d∈r,d.one=true:=fun r hr d hd=>by
    obtain⟨q,hq,rfl⟩:=je hr;obtain⟨x,hx,rfl⟩:=XF.1 hq;exact q6 _ (XF.2 ⟨enc x,XF.2 ⟨x,hp.mem_iff.1 hx,rfl⟩,rfl⟩) d hd
   have ml:∀i j (hi:i < l.length) (hj:j < l.length),key l[i]=key l[j]->i=j:=by
    have h1:(l'.map key).Nodup:=by
     unfold List.Nodup;rw[Y3];exact hs.imp fun h=>by omega
    have h2:(l.map key).Nodup:=(hp.map key).nodup_iff.1 h1;intro i j hi hj h;rw[List.nodup_iff_pairwise_ne,XH]at h2;rcases Y9 i j with hlt|he|hlt
    ·exact absurd (by rw[I',I'];exact h) (h2 i j (by simpa using hi) (by simpa using hj) hlt)
    ·exact he
    ·exact absurd (by rw[I',I'];exact h.symm) (h2 j i (by simpa using hj) (by simpa using hi) hlt)
   have pX:bA c w (ab (l'.map enc)).flatten (ds'.map (·.xs)).flatten:=by
    refine⟨by rw[cO HW,cO Dc,aH,Xs,Xs,Vp,PI],fun t d u ht hu=>?_⟩;have htl:t < l.length*(n+1):=by
     have:=(Xm.1 hu).1;rw[cO Dc,Xs,Vp]at this;exact this
    have h1:t / (n+1) < l.length:=ZA (by rw[Zr];exact htl);have h2:t % (n+1) < n+1:=_h _ aa;have h3:t / (n+1)*(n+1)+t % (n+1)=t:=by rw[Zr];exact ZQ t (n+1)
    generalize t / (n+1)=i at h1 h3;generalize t % (n+1)=j at h2 h3;have e1:=cA HW (i) (j) h2;have e2:=cA Dc (i) (j) h2;rw[h3,iu,Xr,Xj (l:=l') (show i < l'.length by omega)]at e1;rw[h3,Xr,Xj (l:=ds') (show i < ds'.length by omega)]at e2;simp only[Yb,Y5]at e1 e2;obtain⟨p,gz,Jp⟩:=XZ.1 (hp'.mem_iff.1 (Yl (show i < ds'.length by omega)));obtain⟨p2,a1q,a0q⟩:=XZ.1 (hp.mem_iff.1 (Yl (show i < l'.length by omega)));obtain⟨g1,x,g2,g3⟩:=fD p gz;have hx:l[p]'(by omega)=x:=by rw[Xj aa]at g2;exact XU.inj g2
    have a0r:(ds'[i]'(by omega)).key=key (l'[i]'(by omega)):=by
     have:=congrArg (fun z:List Int=>z[i]?) iH;simp only[Xr]at this;rw[Xj aa,Xj aa]at this;exact XU.inj this
    have hpp:p=p2:=ml p p2 aa a1q (by rw[a0q,<-a0r,<-Jp,g3,hx]);subst hpp;rw[<-a0q,hx]at e1;rw[<-Jp,g1,XP h2,Yk]at e2;have e3:=cA q5 p (j) h2;rw[iu,Xr,g2]at e3;simp only[Yb,Y5]at e3;rw[<-e3]at e1;rw[e1]at ht;rw[e2]at hu;exact q2.2 _ d u ht hu
   have Am:0 < cap:=by have:=Zb.2 qR;omega
   have FE:=hr.put_row (w':=w') (k:=0) (rows':=ab (l'.map enc)) (xs':=(ds'.map (·.xs)).flatten) rfl ec (by rw[dr Am];exact eO) (by
    rw[aH,Xs,PI];exact .row gb l.length cap cur' _ Am hw' q10 q9 (by rw[fP];exact q11) (by rw[cO Dc,Xs,Vp]) tI) pX HW Vj
   have nO:cw [(0,Chunk.row E (n+1) g (ab (l'.map enc)))] (bs [] [.row E (n+1) g (ab (l.map enc))]).heap=az [.row E (n+1) g (ab (l'.map enc))]:=a3G
   rw[nO]at FE;refine⟨_,c,he,.d _ _ (.tup [] [] rfl fun j d x h=>by simp at h),FE⟩
theorem wA [Flo]{n:Nat}{P:Program}{ρ:Ren}(L:SlLaysF0.n6 P ρ){f fc E g:Nat}(hf:ρ.f 6=f)(SM:zB P f)(aE:∀w,(isAgg (ρ.t 24)).run P w= .ok true w)(zE:∀w,(Go.sizeOf (ρ.t 24)).run P w= .ok (n+1) w)(eg:∀args w,(callFunc fc args).run P w= .ok (.enter fc args) w)
 (PH:∀(x y:SRow NV (n+1)) (W:World),Calls P fc #[.agg x.xs.toArray,.agg y.xs.toArray] W fun e w'=>e= .returned (.int .i64 (FZ x y))/\∃q os',w'=Sort.grow (W.drewN q) os')
 {α:Type} (enc:α->List D) (key:α->Int) (Vo:∀x,(enc x)[0]? =some (.v (.int .i64 (key x)))) {l l':List α} (qR:l≠[]) (hp:l'.Perm l) (hs:l'.Pairwise fun x y=>key x < key y) (cK:l.length<=1000000):
 MSpec P f [.own 0 g,.d (.clo fc [])] [.row E (n+1) g (ab (l.map enc))] (.d (.tup [])) [.row E (n+1) g (ab (l'.map enc))]:=
 IN (NW n) L hf SM aE zE eg PH enc key (fun x _ vs hl hr=>by
  obtain⟨v,hv⟩:∃v,vs[0]? =some v:=⟨_,Xj aa⟩;obtain⟨M,w,h⟩:=hr 0 _ v (Vo x) hv;show vs[0]? =_;rw[hv];cases h;rfl) qR hp hs cK
end
section
open Go.Proofs Go.Shelf
theorem lH (a:Int)(W:World):Calls prog 195 #[.int .i64 a] W fun e w'=>e= .returned (.bool false)/\w'=W:=by
 go_enter func195,ntmps195
 go_wp2_with fail
 go_ret
 exact⟨dt ak,rfl⟩
theorem jh (a b:Int)(W:World):Calls prog 113 #[.int .i64 a,.int .i64 b] W fun e w'=>e= .returned (.int .i64 (eN a b))/\w'=W:=by
 by_cases h:a < b
 ·have e:eN a b= -1:=by simp[eN,h]
  rw[e];go_enter func113,ntmps113
  go_wp2_with fail
  refine(lH a _).mono ?_;rintro e w1 ⟨rfl,rfl⟩;go_wp2_with fail
  refine(lH b _).mono ?_;rintro e w1 ⟨rfl,rfl⟩;go_wp2_with fail
  go_ret
  exact⟨ce rfl,rfl⟩
 ·by_cases h2:b < a
  ·have e:eN a b=1:=by simp[eN,h,h2]
   rw[e];go_enter func113,ntmps113
   go_wp2_with fail
   refine(lH a _).mono ?_;rintro e w1 ⟨rfl,rfl⟩;go_wp2_with fail
   refine(lH b _).mono ?_;rintro e w1 ⟨rfl,rfl⟩;go_wp2_with fail
   go_ret
   exact⟨ce rfl,rfl⟩
  ·have e:eN a b=0:=by simp[eN,h,h2]
   rw[e];go_enter func113,ntmps113
   go_wp2_with fail
   refine(lH a _).mono ?_;rintro e w1 ⟨rfl,rfl⟩;go_wp2_with fail
   refine(lH b _).mono ?_;rintro e w1 ⟨rfl,rfl⟩;go_wp2_with fail
   go_ret
   exact⟨ce rfl,rfl⟩
end
section
open Go.Proofs Go.Shelf
theorem NZ (x y:SRow NV 3)(W:World):Calls prog 212 #[.agg x.xs.toArray,.agg y.xs.toArray] W fun e w'=>e= .returned (.int .i64 (FZ x y))/\∃q os',w'=Sort.grow (W.drewN q) os':=by
 obtain⟨xs,xl,x1,a,xh⟩:=x;obtain⟨ys,yl,y1,b,yh⟩:=y;match xs,xl,ys,yl with
 |[u0,u1,u2],_,[v0,v1,v2],_=>
  simp[NV]at xh yh;subst xh;subst yh;have hc:=jh a b;unfold FZ;simp only;generalize eN a b=r at*;replace hc:=Xi hc;clear x1 y1;go_enter func212,ntmps212
  go_wp2_with fail
  refine(hc.out _).mono ?_;rintro e w1 ⟨rfl,rfl⟩;go_wp2_with fail
  go_ret
  exact⟨ce rfl,0,_,by rw[Sort.alloc_eq_grow,Sort.alloc_eq_grow,Sort.grow_grow];rfl⟩
theorem G7 [Flo]{l l':List Rng}(g:Nat)(qR:l≠[])(hp:l'.Perm l)(hs:l'.Pairwise fun x y=>(fun r:Rng=>r.at_.at_) x < (fun r:Rng=>r.at_.at_) y)(cK:l.length<=1000000):
 MSpec prog 211 [.own 0 g,.d (.clo 212 [])] [.row 58 3 g (ab (l.map bp))] (.d (.tup [])) [.row 58 3 g (ab (l'.map bp))]:=
 wA sortRange rfl (cS func211 aK rfl) isAgg58 sizeOf58 (enters_of func212 aK rfl) NZ bp (fun r:Rng=>r.at_.at_) (fun _=>rfl) qR hp hs cK
end
theorem Ru [Flo](q r:Rng):ai prog 210 [.agg (bp q),.ept (bp r)] (.v (.bool (q.at_.meets r.at_))):=by
 have hm:ai prog 19 [.agg (aS q.at_),.agg (aS r.at_)] (.v (.bool (q.at_.meets r.at_))):=qd _ _;refine pj func210 ntmps210 results210 ?_;exact aY
theorem Rv [Flo](v:Vpc)(r:Rng):ai prog 141 [.agg (au v),.agg (bp r)] (.tup [.agg (au (cE v r).1),.v (.int .i64 (cE v r).2)]):=by
 obtain⟨R,hR⟩:∃R,R=cE v r:=⟨_,rfl⟩;rw[<-hR];replace hR:=Xi hR;by_cases hc:bM v=0
 ·have hk:=be hc;have cV:=l9 v hc hk.n4 hk.n6 hk.n8;have hid:=lO r.pool;have bo:=sE r.at_;have oZ:=ol nm (fun q=>q.at_.meets r.at_) v.ranges 210 [.ept (bp r)] (by have:=hk.n4;omega) (fun q _=>Ru q r);have aR:R=if mG v r≠0 then (Vpc.zero,mG v r)else ({v with ranges:=dn (·.at_.at_) r v.ranges},0):=by rw[hR.out];unfold cE;rw[af (by simpa using hc)]
  have LO:=hk.n4;by_cases bE:mG v r≠0
  ·rw[ah bE]at aR;unfold mG at aR bE;generalize chk r.at_.at_ r.at_.len=K at*;generalize cD r.pool=I at*;generalize (v.ranges.any fun q=>q.at_.meets r.at_)=M at*;replace aR:=Xi aR;replace bE:=Xi bE;clear hR hc hk;have VW:((v.ranges.length:Int)==4)=decide (v.ranges.length=4):=by rw[Yi];simp;omega
   refine pj func141 ntmps141 results141 ?_;have z1z:=Ln.mk (ls:=[]) (cV);refine fl ?_ ?_ ?_ ?_ ?_ ?_ ?_ ?_<;>first|(with_reducible exact True.intro)|intros
   all_goals
    have h1:=aR.out;have h2:=bE.out;clear hid bo oZ cV;first
     |(exfalso;grind)
     |(rw[show R=(Vpc.zero,1) from (by rw[h1];grind)];exact dg)
     |(rw[show R=(Vpc.zero,6) from (by rw[h1];grind)];exact dg)
     |(rw[show R=(Vpc.zero,2) from (by rw[h1];grind)];exact dg)
  ·rw[af bE]at aR;have hg:mG v r=0:=by simpa using bE
   obtain⟨g1,g2,g3,g4⟩:chk r.at_.at_ r.at_.len=0/\cD r.pool=true/\(v.ranges.any fun q=>q.at_.meets r.at_)=false/\v.ranges.length≠4:=by
    unfold mG at hg;generalize (v.ranges.any fun q=>q.at_.meets r.at_)=M at*;grind
   have bG:∀q∈v.ranges,q.at_.at_≠r.at_.at_:=fun q hq=>xH (lu (hk.ranges q hq)) (by simp[Pfx.right,bC,g1]) (by have:=Yh.1 g3 q hq;simpa using this);have oY:=G7 (l:=v.ranges++[r]) (l':=dn (·.at_.at_) r v.ranges) 2 ak (gH _ _ _) (hU hk.rr bG) aN;rw[g1]at bo;rw[g2]at hid;rw[g3]at oZ;have VW:((v.ranges.length:Int)==4)=false:=aN;have jQ:v.ranges.length+1<=100:=aa;simp only[Xn,Xl,Xp]at oY;rw[aR];clear hR aR hc hk bG hg bE;refine pj func141 ntmps141 results141 ?_;have z1z:=Ln.mk (ls:=[]) (cV);have z2z:=Ln.mk (ls:=[4]) (oY);exact aY
 ·have cV:=l8 v hc;have h1:(bM v !=0)=true:=by simpa using hc
  have hr:R=(Vpc.zero,bM v):=by rw[hR.out];unfold cE;rw[ah hc]
  rw[hr];replace hr:=Xi hr;refine pj func141 ntmps141 results141 ?_;have z1z:=Ln.mk (ls:=[]) (cV);refine aq ?_<;>intros;exact dg
theorem yg (p q:Pfx):([p.at_,p.len]==[q.at_,q.len])=decide (p=q):=by
 rw[Yi];cases p;cases q;simp
theorem a2h {p:Prop}(h:p:=by
 rw[hp]at he;have Dd:∀z∈l.take (k+1),decide (x=z)=false:=fun z hz=>by
  rw[aj hy]at hz;rcases X0.1 hz with hz|hz
  ·exact bQ z hz
  ·rw[Yc]at hz;rw[hz];exact hp
 replace Dd:=Xi Dd;replace bQ:=Xi bQ;replace hp:=Xi hp;refine aq ?_<;>intros;refine nR _ _ _ _ _ ?_ ⟨k+1,hlt,Dd.out,rfl,rfl,rfl⟩ (wf);omega):p:=h
theorem a2N {p:Prop}(h:p:=by
 rw[hp]at he;have mi:cq (fun y=>decide (x=y)) l=k:=gE hy hp bQ;rw[mi];replace mi:=Xi mi;replace bQ:=Xi bQ;replace hp:=Xi hp;exact aY;all_goals exact aO.refl _):p:=h
theorem a3H {p:Prop}(h:p:=by
 obtain rfl:k=l.length:=aa;rw[Xq]at bQ;rw[gF bQ];replace bQ:=Xi bQ;exact aY;all_goals exact aO.refl _):p:=h
theorem EJ [Flo](l:List Rng)(x:Rng)(hl:l.length<=1000000000):
 ai prog 130 [.sl 3 (l.map bp),.agg (bp x)] (.v (.int .i64 (cq (fun y=>decide (x=y)) l))):=by
 refine pj func130 ntmps130 results130 ?_;refine aq ?_<;>intros;refine bL ag am (fun m e h=>∃k:Nat,k<=l.length/\(∀y∈l.take k,decide (x=y)=false)/\m=l.length - k/\e=[(8,.d (.v (.int .i64 k))),(7,.d (.v (.int .i64 l.length))),(4,.d (.v (.int .i64 0))),(3,.ptr 0 0),(0,.d (.sl 3 (l.map bp)))]/\h=[.box 58 ((bp x).map .d)]) _ _ _ ⟨0,XE _,by simp,rfl,rfl,rfl⟩ (wf) ?_;rintro m e h ⟨k,hk,bQ,rfl,rfl,rfl⟩ CL nR;by_cases hlt:k < l.length
 ·obtain⟨y,hy⟩:∃y,l[k]? =some y:=⟨_,Xj hlt⟩;have fy:(k:Int) < (l.length:Int):=aa;have cX:=wi k aa;have he:=ye x y;cases hp:decide (x=y)with
  |false=>exact a2h
  |true=>exact a2N
 ·exact a3H
theorem yi [Flo](l:List Rng)(x:Rng)(hl:l.length<=1000000000):
 ai prog 61 [.sl 3 (l.map bp),.agg (bp x)] (.v (.bool (l.any fun y=>decide (x=y)))):=by
 have hi:=EJ l x hl;have jO:=gp (fun y=>decide (x=y)) l;refine pj func61 ntmps61 results61 ?_;exact aY;all_goals exact aO.refl _
@[go_sem] def jK (b:Bok)(vp lp:PV)(c:Cmd)(a:Ans):List PV:=[.d (.v (.int .i64 b.tick)),.d (.sl 9 (b.pools.map al)),vp,lp,.d (.v (.int .i64 c.op)),.d (.v (.int .i64 c.a)),.d (.v (.int .i64 c.b)),.d (.v (.int .i64 c.c)),.d (.v (.int .i64 c.at_.at_)),.d (.v (.int .i64 c.at_.len)),.d (.v (.int .i64 c.rule.min)),.d (.v (.int .i64 c.rule.max)),.d (.v (.int .i64 c.rule.usual)),.d (.v (.int .i64 c.rule.cool)),.d (.v (.int .i64 a.err)),.d (.v (.int .i64 a.at_.at_)),.d (.v (.int .i64 a.at_.len)),.d (.v (.int .i64 a.n))]
theorem Rw [Flo](v:Vpc)(c:Cmd):ai prog 58 [.agg (au v),.ept (jp c)] (.v (.bool (v.id==c.c))):=by
 refine pj func58 ntmps58 results58 ?_;exact aY
theorem Rx [Flo](v:Vpc)(c:Cmd)(hl:v.ranges.length<=1000000000):ai prog 60 [.agg (au v),.ept (jp c)] (.v (.bool (v.ranges.any fun r=>decide ((⟨c.at_,c.a⟩:Rng)=r)))):=by
 have h:=yi v.ranges ⟨c.at_,c.a⟩ hl;generalize (v.ranges.any fun r=>decide ((⟨c.at_,c.a⟩:Rng)=r))=x at*;refine pj func60 ntmps60 results60 ?_;exact aY
def IP (vs:List Vpc)(r:Rng):Bool:=vs.any fun v=>v.ranges.any fun x=>decide (r=x)
def jX (b:Bok)(vs:List Vpc)(c:Cmd):Bok × Ans:=
 if c.op=1 then ((gx b c.a c.at_ c.rule).1,.er (gx b c.a c.at_ c.rule).2)
 else if c.op=2 then ((gy b c.a c.b c.c c.rule).1,⟨(gy b c.a c.b c.c c.rule).2.2,(gy b c.a c.b c.c c.rule).2.1,0⟩)
 else if c.op=3 then ((fM b c.a).1,.er (fM b c.a).2)
 else if c.op=4 then ((jJ b c.a).1,.er (jJ b c.a).2)
 else if c.op=5 then if ig vs c.c then (b,.er 6)else ((cQ b c.a c.b c.c).1,⟨(cQ b c.a c.b c.c).2.2,(cQ b c.a c.b c.c).2.1,0⟩)
 else if c.op=6 then if IP vs ⟨c.at_,c.a⟩then (b,.er 9)else ((fL b c.a c.at_).1,.er (fL b c.a c.at_).2)
 else (b,.zero)
theorem N0 [Flo](b:Bok)(vs:List Vpc)(lp:List Lnk)(c:Cmd)(hz:∀p∈b.pools,p.leases.length<=3518437208882)(h6:vs.length<=6)(h4:∀v∈vs,v.ranges.length<=1000000000):
 MSpec prog 27 [.ptr 0 0] [.box 86 (jK b (.own 1 vs.length) (.d (.sl 2 (lp.map bS))) c .zero),.row 55 3 vs.length (ab (vs.map au))] (.d (.v (.bool (decide (1<=c.op/\c.op<=6)))))
  [.box 86 (jK (jX b vs c).1 (.own 1 vs.length) (.d (.sl 2 (lp.map bS))) c (jX b vs c).2),.row 55 3 vs.length (ab (vs.map au))]:=by
 unfold jX;by_cases h1:c.op=1
 ·rw[ah h1,decide_eq_true aa];have hp:=Un b c.a c.at_ c.rule hz;generalize gx b c.a c.at_ c.rule=R at*;replace hz:=Xi hz;replace h4:=Xi h4;refine jC ag am func27 rfl ntmps27 results27 aK ak (by simp[aw,ay]) (by simp[aL,aQ,aw,ay,jK,bu,aF]) ?_;refine aq ?_;exact wf
 rw[af h1];by_cases h2:c.op=2
 ·rw[ah h2,decide_eq_true aa];have hp:=Up b c.a c.b c.c c.rule hz;generalize gy b c.a c.b c.c c.rule=R at*;clear h1;replace hz:=Xi hz;replace h4:=Xi h4;refine jC ag am func27 rfl ntmps27 results27 aK ak (by simp[aw,ay]) (by simp[aL,aQ,aw,ay,jK,bu,aF]) ?_;refine aq ?_;exact wf
 rw[af h2];by_cases h3:c.op=3
 ·rw[ah h3,decide_eq_true aa];have hp:=Rq b c.a hz;generalize fM b c.a=R at*;clear h1 h2;replace hz:=Xi hz;replace h4:=Xi h4;refine jC ag am func27 rfl ntmps27 results27 aK ak (by simp[aw,ay]) (by simp[aL,aQ,aw,ay,jK,bu,aF]) ?_;refine aq ?_;exact wf
 rw[af h3];by_cases h4':c.op=4
 ·rw[ah h4',decide_eq_true aa];have hp:=Ut b c.a hz;generalize jJ b c.a=R at*;clear h1 h2 h3;replace hz:=Xi hz;replace h4:=Xi h4;refine jC ag am func27 rfl ntmps27 results27 aK ak (by simp[aw,ay]) (by simp[aL,aQ,aw,ay,jK,bu,aF]) ?_;refine aq ?_;exact wf
 rw[af h4'];by_cases h5:c.op=5
 ·rw[ah h5,decide_eq_true aa];have oZ:=x9 jy (fun v=>v.id==c.c) vs 58 [.ept (jp c)] aa (fun v _=>Rw v c);have hp:=NL b c.a c.b c.c hz;generalize cQ b c.a c.b c.c=R at*;unfold ig;clear h1 h2 h3 h4';cases hb:vs.any fun v=>v.id==c.c
  ·rw[hb]at oZ;replace hb:=Xi hb;simp only[jp,h5]at oZ;replace hz:=Xi hz;replace h4:=Xi h4;refine jC ag am func27 rfl ntmps27 results27 aK ak (by simp[aw,ay]) (by simp[aL,aQ,aw,ay,jK,bu,aF]) ?_;refine aq ?_;exact wf
  ·rw[hb]at oZ;replace hb:=Xi hb;simp only[jp,h5]at oZ;clear hp;replace hz:=Xi hz;replace h4:=Xi h4;refine jC ag am func27 rfl ntmps27 results27 aK ak (by simp[aw,ay]) (by simp[aL,aQ,aw,ay,jK,bu,aF]) ?_;refine aq ?_;exact wf
 rw[af h5];by_cases h6':c.op=6
 ·rw[ah h6',decide_eq_true aa];have oZ:=x9 jy (fun v=>v.ranges.any fun r=>decide ((⟨c.at_,c.a⟩:Rng)=r)) vs 60 [.ept (jp c)] aa (fun v hv=>Rx v c (h4 v hv));have hp:=NN b c.a c.at_ hz;generalize fL b c.a c.at_=R at*;unfold IP;clear h1 h2 h3 h4' h5;cases hb:vs.any fun v=>v.ranges.any fun r=>decide ((⟨c.at_,c.a⟩:Rng)=r)
  ·rw[hb]at oZ;replace hb:=Xi hb;simp only[jp,h6']at oZ;replace hz:=Xi hz;replace h4:=Xi h4;refine jC ag am func27 rfl ntmps27 results27 aK ak (by simp[aw,ay]) (by simp[aL,aQ,aw,ay,jK,bu,aF]) ?_;refine aq ?_;exact wf
  ·rw[hb]at oZ;replace hb:=Xi hb;simp only[jp,h6']at oZ;clear hp;replace hz:=Xi hz;replace h4:=Xi h4;refine jC ag am func27 rfl ntmps27 results27 aK ak (by simp[aw,ay]) (by simp[aL,aQ,aw,ay,jK,bu,aF]) ?_;refine aq ?_;exact wf
 rw[af h6',decide_eq_false aa];have e1:(c.op==1)=false:=by simpa using h1
 have e2:(c.op==2)=false:=by simpa using h2
 have e3:(c.op==3)=false:=by simpa using h3
 have e4:(c.op==4)=false:=by simpa using h4'
 have e5:(c.op==5)=false:=by simpa using h5
 have e6:(c.op==6)=false:=by simpa using h6'
 clear h1 h2 h3 h4' h5 h6';replace hz:=Xi hz;replace h4:=Xi h4;refine jC ag am func27 rfl ntmps27 results27 aK ak (by simp[aw,ay]) (by simp[aL,aQ,aw,ay,jK,bu,aF]) ?_;refine aq ?_;exact wf
theorem Uu [Flo](s:Ste)(hb:BookOK s.book)(hn:NetOK s.net):
 MSpec prog 26 [.d (.agg (bJ s))] [] (.agg [.d (.v (.int .i64 s.book.tick)),.d (.sl 9 (s.book.pools.map al)),.own 5 s.net.vpcs.length,.d (.sl 2 (s.net.links.map bS))]) [.gone,.gone,.gone,.gone,.gone,.row 55 3 s.net.vpcs.length (ab (s.net.vpcs.map au))]:=by
 have n8:=hb.n8;have nP:=Xi hb.l32;have n6:=hn.n6;have TB:=Xi hn.vp;have z1:=Ln.mk (ls:=[]) (rB bS s.net.links (by have:=hn.n12;omega));clear hb hn;refine mj func26 ntmps26 results26 ?_;refine aq ?_;refine bq ag am s.book.pools (fun _=>True) (fun k=>[(28,.d (.v (.int .i64 k))),(27,.d (.v (.int .i64 s.book.pools.length))),(26,.d (.sl 9 (s.book.pools.map al))),(3,.ptr 3 0),(2,.ptr 1 0),(1,.ptr 0 0)])
  (fun k=>[.box 30 ((bJ s).map .d),.box 30 [.d (.v (.int .i64 0)),.d (.v (.slice none 0 0)),.d (.v (.slice none 0 0)),.d (.v (.slice none 0 0))],.row 76 2 1 (ab (s.net.links.map bS)),.box 30 [.d (.v (.int .i64 s.book.tick)),.own 4 k,.d (.v (.slice none 0 0)),.own 2 1],.row 62 9 k (ab ((s.book.pools.take k).map al))]) trivial ?_ ?_ ?_
 ·exact a2S
 ·intro k p hp hk _ C hC;have dF:(k:Int) < (s.book.pools.length:Int):=aa;have cX:=wi k aa;have gz:=nP.out p (Xk hp);have jQ:k+1<=100:=aa;have hlt:(Ye k s.book.pools).length=k:=by rw[Xo];omega
  have z2:=Ln.mk (ls:=[]) (ij bc p.leases aa);refine aq ?_;refine hC _ _ trivial ((av 6 1 68 5 (p.leases.map bc) rfl).trans ?_);simp only[eM,fz,ee,dX,eF,d7,aD,aZ,bg,Xl,Xp,Xz,Xx,reduceIte,and_true,true_and,and_self,and_false,false_and,Xw,XG,reduceCtorEq];exact wf (hh:=by rw[aj hp,Xn,Xl,Xp,<-aI];rfl)
 ·intro _ C;rw[Xq];refine aq ?_;refine bq ag am s.net.vpcs (fun _=>True) (fun k=>[(49,.d (.v (.int .i64 k))),(48,.d (.v (.int .i64 s.net.vpcs.length))),(47,.d (.sl 3 (s.net.vpcs.map au))),(3,.ptr 3 0),(2,.ptr 1 0),(1,.ptr 0 0)])
   (fun k=>[.gone,.box 30 [.d (.v (.int .i64 0)),.d (.v (.slice none 0 0)),.d (.v (.slice none 0 0)),.d (.v (.slice none 0 0))],.gone,.box 30 [.d (.v (.int .i64 s.book.tick)),.d (.sl 9 (s.book.pools.map al)),.own 5 k,.d (.sl 2 (s.net.links.map bS))],.gone,.row 55 3 k (ab ((s.net.vpcs.take k).map au))]) trivial ?_ ?_ ?_
  ·refine(av 4 s.book.pools.length 62 9 (s.book.pools.map al) rfl).trans ?_;simp only[eM,fz,ee,dX,eF,d7,aD,aZ,bg,Xl,Xp,Xz,Xx,reduceIte,and_true,true_and,and_self,and_false,false_and,Xw,XG,reduceCtorEq];refine(av 2 1 76 2 (s.net.links.map bS) rfl).trans ?_;simp only[eM,fz,ee,dX,eF,d7,aD,aZ,bg,Xl,Xp,Xz,Xx,reduceIte,and_true,true_and,and_self,and_false,false_and,Xw,XG,reduceCtorEq];refine(ax ak 3 30 [.d (.v (.int .i64 s.book.tick)),.d (.sl 9 (s.book.pools.map al)),.d (.v (.slice none 0 0)),.d (.sl 2 (s.net.links.map bS))] 2 55 3 rfl rfl rfl).trans ?_;refine cG.trans (aJ 0 (by simp[bw])) ?_;exact wf
  ·intro k v hv hk _ C hC;have dF:(k:Int) < (s.net.vpcs.length:Int):=aa;have cX:=wi k aa;have qq:k+1<=100:=aa;have hlv:(Ye k s.net.vpcs).length=k:=by rw[Xo];omega
   have oT:=be (TB.out v (Xk hv));have h6:=oT.n6;have h8:=Xi oT.n8;have z3:=Ln.mk (ls:=[]) (jg bp v.ranges (by have:=oT.n4;omega));clear oT;refine aq ?_;refine bq ag am v.subs (fun _=>True) (fun j=>[(62,.d (.v (.int .i64 j))),(61,.d (.v (.int .i64 v.subs.length))),(60,.d (.sl 4 (v.subs.map aT))),(8,.ptr 8 0),(49,.d (.v (.int .i64 k))),(48,.d (.v (.int .i64 s.net.vpcs.length))),(47,.d (.sl 3 (s.net.vpcs.map au))),(3,.ptr 3 0),(2,.ptr 1 0),(1,.ptr 0 0)])
    (fun j=>[.gone,.box 30 [.d (.v (.int .i64 0)),.d (.v (.slice none 0 0)),.d (.v (.slice none 0 0)),.d (.v (.slice none 0 0))],.gone,.box 30 [.d (.v (.int .i64 s.book.tick)),.d (.sl 9 (s.book.pools.map al)),.own 5 k,.d (.sl 2 (s.net.links.map bS))],.gone,.row 55 3 k (ab ((s.net.vpcs.take k).map au)),.gone,.row 58 3 1 (ab (v.ranges.map bp)),.box 55 [.d (.v (.int .i64 v.id)),.own 7 1,.own 9 j],.row 71 4 j (ab ((v.subs.take j).map aT))]) trivial ?_ ?_ ?_
   ·exact a3g
   ·intro j u hu hj _ C2 jU;have lh:(j:Int) < (v.subs.length:Int):=aa;have mW:=wi j aa;have jb:=h8.out u (Xk hu);have jQ:j+1<=100:=aa;have kV:(Ye j v.subs).length=j:=by rw[Xo];omega
    have wH:=Xi hu;have VQ:=Xi hv;clear hv;refine aq ?_;refine bq ag am u.faces (fun _=>True) (fun i=>(74,.d (.v (.int .i64 i)))::(73,.d (.v (.int .i64 u.faces.length)))::(72,.d (.sl 2 (u.faces.map bR)))::(11,.ptr 11 0)::[(62,.d (.v (.int .i64 j))),(61,.d (.v (.int .i64 v.subs.length))),(60,.d (.sl 4 (v.subs.map aT))),(8,.ptr 8 0),(49,.d (.v (.int .i64 k))),(48,.d (.v (.int .i64 s.net.vpcs.length))),(47,.d (.sl 3 (s.net.vpcs.map au))),(3,.ptr 3 0),(2,.ptr 1 0),(1,.ptr 0 0)])
     (fun i=>[.gone,.box 30 [.d (.v (.int .i64 0)),.d (.v (.slice none 0 0)),.d (.v (.slice none 0 0)),.d (.v (.slice none 0 0))],.gone,.box 30 [.d (.v (.int .i64 s.book.tick)),.d (.sl 9 (s.book.pools.map al)),.own 5 k,.d (.sl 2 (s.net.links.map bS))],.gone,.row 55 3 k (ab ((s.net.vpcs.take k).map au)),.gone,.row 58 3 1 (ab (v.ranges.map bp)),.box 55 [.d (.v (.int .i64 v.id)),.own 7 1,.own 9 j],.row 71 4 j (ab ((v.subs.take j).map aT)),.gone,.box 71 [.d (.v (.int .i64 u.id)),.d (.v (.int .i64 u.at_.at_)),.d (.v (.int .i64 u.at_.len)),.own 12 i],.row 74 2 i (ab ((u.faces.take i).map bR))]) trivial ?_ ?_ ?_
    ·exact a2y
    ·intro i f hf hi _ C3 P8;have SP:(i:Int) < (u.faces.length:Int):=aa;have Ai:=wi i aa;have ip:=jb.2 f (Xk hf);have jT:i+1<=100:=aa;have hli:(Ye i u.faces).length=i:=by rw[Xo];omega
     have z4:=Ln.mk (ls:=[]) (eW f.addrs aa);refine aq ?_;refine P8 _ _ trivial ((av 14 1 3 1 (f.addrs.map cm) rfl).trans ?_);simp only[eM,fz,ee,dX,eF,d7,aD,aZ,bg,Xl,Xp,Xz,Xx,reduceIte,and_true,true_and,and_self,and_false,false_and,Xw,XG,reduceCtorEq];exact wf (hh:=by rw[aj hf,Xn,Xl,Xp,<-aI];rfl)
    ·intro _ C3;rw[Xq];refine aq ?_;refine jU _ _ trivial ((av 12 u.faces.length 74 2 (u.faces.map bR) rfl).trans ?_);simp only[eM,fz,ee,dX,eF,d7,aD,aZ,bg,Xl,Xp,Xz,Xx,reduceIte,and_true,true_and,and_self,and_false,false_and,Xw,XG,reduceCtorEq];exact wf (hh:=by rw[aj wH.out,Xn,Xl,Xp,<-aI];rfl)
   ·intro _ C2;rw[Xq];refine aq ?_;refine hC _ _ trivial ((av 9 v.subs.length 71 4 (v.subs.map aT) rfl).trans ?_);simp only[eM,fz,ee,dX,eF,d7,aD,aZ,bg,Xl,Xp,Xz,Xx,reduceIte,and_true,true_and,and_self,and_false,false_and,Xw,XG,reduceCtorEq];refine(av 7 1 58 3 (v.ranges.map bp) rfl).trans ?_;simp only[eM,fz,ee,dX,eF,d7,aD,aZ,bg,Xl,Xp,Xz,Xx,reduceIte,and_true,true_and,and_self,and_false,false_and,Xw,XG,reduceCtorEq];exact wf (hh:=by rw[aj hv,Xn,Xl,Xp,<-aI];rfl)
  ·exact a3q
def Net.zero:Net:=⟨[],[]⟩
theorem rD {l:List Vpc}{id:Int}{o:Option Vpc}(h:l.find? (fun v=>v.id==id)=o):match o with|some v=>∃i,l.findIdx? (fun v=>v.id==id)=some i/\l[i]? =some v/\v.id=id|none=>l.findIdx? (fun v=>v.id==id)=none:=by
 cases o with
 |none=>
  rw[Yr]at h;exact Yn.2 fun v hv=>by simpa using h v hv
 |some v=>
  obtain⟨h1,i,hi,h2,h3⟩:=List.find?_eq_some_iff_getElem.1 h;refine⟨i,?_,by rw[Xj hi,h2],by simpa using h1⟩;rw[XK];exact⟨hi,by rw[h2];exact h1,fun j hj=>by simpa using h3 j hj⟩
def fk (n:Net)(id:Int):Option Nat:=n.vpcs.findIdx? fun v=>v.id==id
theorem eI {n:Net}{id:Int}{i:Nat}(h:fk n id=some i):∃v,n.vpcs[i]? =some v/\v.id=id/\i < n.vpcs.length/\gq n id=some v:=by
 cases hf:gq n id with
 |none=>have:=rD hf;unfold fk at h;rw[h]at this;cases this
 |some v=>
  obtain⟨j,h1,h2,h3⟩:=rD hf;unfold fk at h;rw[h]at h1;cases h1;exact⟨v,h2,h3,(Xm.1 h2).1,rfl⟩
theorem d8 {n:Net}{id:Int}(h:fk n id=none):gq n id=none:=by
 cases hf:gq n id with
 |none=>rfl
 |some v=>
  obtain⟨j,h1,-⟩:=rD hf;unfold fk at h;rw[h]at h1;cases h1
theorem Uv {α:Type}{key:α->Int}{l:List α}{i:Nat}{q:α}(hs:l.Pairwise fun a b=>key a < key b)(hq:l[i]? =some q):jV key (key q) l=i/\ss key (key q) l=true:=a2p
theorem sW [Flo](n:Net)(id:Int)(gv gl i:Nat)(v:Vpc)(hv:n.vpcs[i]? =some v)(he:v.id=id)(h6:n.vpcs.length<=6)(hs:n.vpcs.Pairwise fun a b=>a.id < b.id):
 MSpec prog 45 [.ptr 0 0,.d (.v (.int .i64 id))] [.box 28 [.own 1 gv,.own 2 gl],.row 55 3 gv (ab (n.vpcs.map au)),.row 76 2 gl (ab (n.links.map bS))] (.tup [.rp 1 gv 3 i 0,.d (.v (.bool true))])
  [.box 28 [.own 1 gv,.own 2 gl],.row 55 3 gv (ab (n.vpcs.map au)),.row 76 2 gl (ab (n.links.map bS))]:=by
 have hb:=sK jy (fun v:Vpc=>v.id) n.vpcs id 112 [] aa hs (fun v _=>ww v id);subst he;obtain⟨e1,e2⟩:=Uv (key:=fun v:Vpc=>v.id) hs hv;rw[e1,e2]at hb;have hi:=(Xm.1 hv).1;have SP:(0:Int)<=(i:Int):=aa;clear hs e1 e2;replace hv:=Xi hv;refine mj func45 ntmps45 results45 ?_;refine aq ?_<;>intros;exact aW rfl rfl
theorem pI [Flo](n:Net)(id:Int)(gv gl:Nat)(hf:gq n id=none)(h6:n.vpcs.length<=6)(hs:n.vpcs.Pairwise fun a b=>a.id < b.id):
 MSpec prog 45 [.ptr 0 0,.d (.v (.int .i64 id))] [.box 28 [.own 1 gv,.own 2 gl],.row 55 3 gv (ab (n.vpcs.map au)),.row 76 2 gl (ab (n.links.map bS))] (.d (.tup [.v (.pointer none),.v (.bool false)]))
  [.box 28 [.own 1 gv,.own 2 gl],.row 55 3 gv (ab (n.vpcs.map au)),.row 76 2 gl (ab (n.links.map bS))]:=by
 have hb:=sK jy (fun v:Vpc=>v.id) n.vpcs id 112 [] aa hs (fun v _=>ww v id);have e2:ss (fun v:Vpc=>v.id) id n.vpcs=false:=by
  cases hB:ss (fun v:Vpc=>v.id) id n.vpcs with
  |false=>rfl
  |true=>
   unfold ss at hB;cases hq:n.vpcs[jV (fun v:Vpc=>v.id) id n.vpcs]? with
   |none=>rw[hq]at hB;cases hB
   |some v=>
    have:=Ng hs hq (by rw[hq]at hB;simpa using hB);unfold gq at hf;rw[hf]at this;cases this
 rw[e2]at hb;clear hs e2 hf;refine mj func45 ntmps45 results45 ?_;refine aq ?_<;>intros;exact aW rfl rfl
theorem N1 [Flo](id:Int):ai prog 45 [.ept [.v (.slice none 0 0),.v (.slice none 0 0)],.v (.int .i64 id)] (.tup [.v (.pointer none),.v (.bool false)]):=by
 have hb:=(sK jy (fun v:Vpc=>v.id) [] id 112 [] ak ak (fun v _=>ww v id)).args (ds:=[.v (.slice none 0 0),.v (.int .i64 id),.clo 112 []]) ⟨aO.nil _,aO.refl _,aO.refl _,trivial⟩;have e:ss (fun v:Vpc=>v.id) id []=false:=rfl;rw[e]at hb;refine pj func45 ntmps45 results45 ?_;exact aY
def pJ (n:Net)(id:Int):List Int:=(n.vpcs.filter fun v=>bf n v.id==bf n id).map (·.id)
theorem yj (x y:Lnk):([x.a,x.b]==[y.a,y.b])=decide (x=y):=by
 rw[Yi];cases x;cases y;simp
theorem yk [Flo](l:List Lnk)(x:Lnk)(hl:l.length<=1000000000):
 ai prog 138 [.sl 2 (l.map bS),.agg (bS x)] (.v (.int .i64 (cq (fun y=>decide (x=y)) l))):=by
 refine pj func138 ntmps138 results138 ?_;refine aq ?_<;>intros;refine bL ag am (fun m e h=>∃k:Nat,k<=l.length/\(∀y∈l.take k,decide (x=y)=false)/\m=l.length - k/\e=[(8,.d (.v (.int .i64 k))),(7,.d (.v (.int .i64 l.length))),(4,.d (.v (.int .i64 0))),(3,.ptr 0 0),(0,.d (.sl 2 (l.map bS)))]/\h=[.box 76 ((bS x).map .d)]) _ _ _ ⟨0,XE _,by simp,rfl,rfl,rfl⟩ (wf) ?_;rintro m e h ⟨k,hk,bQ,rfl,rfl,rfl⟩ CL nR;by_cases hlt:k < l.length
 ·obtain⟨y,hy⟩:∃y,l[k]? =some y:=⟨_,Xj hlt⟩;have fy:(k:Int) < (l.length:Int):=aa;have cX:=wi k aa;have he:=yj x y;cases hp:decide (x=y)with
  |false=>exact a2h
  |true=>exact a2N
 ·exact a3H
theorem zP [Flo](l:List Lnk)(x:Lnk)(hl:l.length<=1000000000):
 ai prog 135 [.sl 2 (l.map bS),.agg (bS x)] (.v (.bool (l.any fun y=>decide (x=y)))):=by
 have hi:=yk l x hl;have jO:=gp (fun y=>decide (x=y)) l;refine pj func135 ntmps135 results135 ?_;exact aY;all_goals exact aO.refl _
theorem EK [Flo]{α:Type}{enc:α->List D}(l:List α)(i j g:Nat)(hi:i < l.length)(hj:j=i+1):
 MSpec prog 139 [.own 0 g,.d (.v (.int .i64 i)),.d (.v (.int .i64 j))] [.row 76 2 g (ab (l.map enc))] (.own 0 (g+1)) [.row 76 2 (g+1) (ab ((l.eraseIdx i).map enc))]:=by
 have h1:((i:Int)==(j:Int))=false:=aN;have bG:¬ab (l.map enc)=[]:=by cases l<;>simp[ab]at hi ⊢
 have hle:(i:Int)<=(j:Int):=aa;have hle2:(j:Int)<=(l.length:Int):=aa;have mX:(l.map enc).length=l.length:=Xs _;have h2:=mE (ab (l.map enc)) i j l.length (by rw[aH,mX];exact hi) hj (by rw[aH,mX]);rw[aH,mX]at h2;have tJ:=Xi hj;clear hj;have L0:j<=l.length:=by have:=tJ.out;omega
 have FQ:min (l.length - j) (l.length - j)=l.length - j:=Zt _;have hlt:i+(l.length - j)<=l.length:=by have:=tJ.out;omega
 have qs:l.length - (i+(l.length - j))=1:=by have:=tJ.out;omega
 have jq:i+(l.length - j)+1<=l.length:=by have:=tJ.out;omega
 have FR:¬aC (ab (l.map enc)) i (((ab (l.map enc)).drop j).take (l.length - j))=[]:=a3n
 refine mj func139 ntmps139 results139 ?_;have z1z:=@Xo.{0};have z2z:=@XO.{0};refine fl ?_ ?_ ?_ ?_ ?_ ?_ ?_ ?_<;>first|(with_reducible exact True.intro)|intros
 rw[gD];exact po (by rw[mX];exact hi) tJ.out mX.symm
theorem N2 [Flo](a b:Int):ai prog 136 [.v (.int .i64 a),.v (.int .i64 b)] (.agg (bS (fX a b))):=by
 refine pj func136 ntmps136 results136 ?_;exact aY;all_goals exact aO.refl _
theorem a3x {p:Prop}(h:p:=by
 rw[ZU,P2.1];apply Yg;intro j;rw[List.getElem?_set];split
 ·rename_i hj;subst hj;rw[Xs,ah hi,Xr,hv];rfl
 ·rfl):p:=h
theorem a4g {p:Prop}(h:p:=by
  rw[hR.out];unfold iG;rw[af (by simpa using hc),hx];simp only[hv];rw[ah hg]):p:=h
def iG (n:Net)(id:Int)(r:Rng):Net × Int:=
 if cJ n≠0 then (Net.zero,cJ n)else
 match fk n id with
 |none=>(Net.zero,5)
 |some i=>match n.vpcs[i]? with
  |none=>(Net.zero,5)
  |some v=>if (cE v r).2≠0 then (Net.zero,(cE v r).2)else if eS {n with vpcs:=n.vpcs.set i (cE v r).1}=true then ({n with vpcs:=n.vpcs.set i (cE v r).1},0)else (Net.zero,9)
theorem EL {v:Vpc}{r:Rng}(h:(cE v r).2=0):(cE v r).1.id=v.id/\(cE v r).1.ranges.length<=5:=by
 unfold cE at h ⊢;split
 ·rename_i h1;rw[ah h1]at h;exact absurd h h1
 ·rename_i h1;rw[af h1]at h;have hk:=be (by simpa using h1);split
  ·rename_i h2;rw[ah h2]at h;exact absurd h h2
  ·refine⟨rfl,?_⟩;simp only;rw[fK];have:=hk.n4;omega
theorem Ry [Flo](n:Net)(id:Int)(r:Rng):ai prog 68 [.agg (cN n),.v (.int .i64 id),.agg (bp r)] (.tup [.agg (cN (iG n id r).1),.v (.int .i64 (iG n id r).2)]):=by
 obtain⟨R,hR⟩:∃R,R=iG n id r:=⟨_,rfl⟩;rw[<-hR];replace hR:=Xi hR;by_cases hc:cJ n=0
 ·have bD:=gw.1 hc;have cV:=sR n hc;cases hx:fk n id with
  |none=>
   have iI:=pI n id n.vpcs.length 1 (d8 hx) bD.n6 bD.rise;have hr:R=(Net.zero,5):=by rw[hR.out];unfold iG;rw[af (by simpa using hc),hx]
   rw[hr];clear hr hR bD hx hc;refine pj func68 ntmps68 results68 ?_;have z1z:=Ln.mk (ls:=[]) (cV);have z2z:=Ln.mk (ls:=[5,6,4]) (iI);refine aq ?_<;>intros;all_goals exact dg
  |some i=>
   obtain⟨v,hv,he,hi,oK⟩:=eI hx;have iI:=sW n id n.vpcs.length 1 i v hv he bD.n6 bD.rise;have hgp:=Rv v r;replace he:=Xi he;have SP:(0:Int)<=(i:Int):=aa;by_cases hg:(cE v r).2=0
   ·have P2:=EL hg;have Jp:=Ci {n with vpcs:=n.vpcs.set i (cE v r).1} (by have:=bD.n6;simp;omega) (by have:=bD.n12;simp;omega) (fun u hu=>by
     rcases Y4 hu with hu|rfl
     ·have:=(be (bD.vp u hu)).n4;omega
     ·have:=P2.2;omega) (by
     have e:(n.vpcs.set i (cE v r).1).map (·.id)=n.vpcs.map (·.id):=a3x
     simp only[e];exact bD.ids)
    have aR:R=if eS {n with vpcs:=n.vpcs.set i (cE v r).1}=true then ({n with vpcs:=n.vpcs.set i (cE v r).1},0)else (Net.zero,9):=by
     rw[hR.out];unfold iG;rw[af (by simpa using hc),hx];simp only[hv];rw[af (by simpa using hg)]
    rw[hg]at hgp;clear hR bD hx hc P2 hg oK;generalize (cE v r).1=w at*;have b9:(ab (n.vpcs.map au)).set i [.d (.v (.int .i64 w.id)),.d (.sl 3 (w.ranges.map bp)),.d (.sl 4 (w.subs.map aT))]=ab ((n.vpcs.set i w).map au):=bN au n.vpcs i w;cases hp:eS {n with vpcs:=n.vpcs.set i w} with
    |true=>
     rw[hp]at Jp aR;have hr:R=({n with vpcs:=n.vpcs.set i w},0):=by rw[aR];rfl
     rw[hr];clear hr aR hp;refine pj func68 ntmps68 results68 ?_;have z1z:=Ln.mk (ls:=[]) (cV);have z2z:=Ln.mk (ls:=[5,6,4]) (iI);exact aY;all_goals exact dg
    |false=>
     rw[hp]at Jp aR;have hr:R=(Net.zero,9):=by rw[aR];rfl
     rw[hr];clear hr aR hp;refine pj func68 ntmps68 results68 ?_;have z1z:=Ln.mk (ls:=[]) (cV);have z2z:=Ln.mk (ls:=[5,6,4]) (iI);refine aq ?_<;>intros;all_goals exact dg
   ·have hr:R=(Net.zero,(cE v r).2):=a4g
    have SV:((cE v r).2 !=0)=true:=by simpa using hg
    rw[hr];clear hr hR bD hx hc hg oK;generalize (cE v r).1=w at*;generalize (cE v r).2=E at*;refine pj func68 ntmps68 results68 ?_;have z1z:=Ln.mk (ls:=[]) (cV);have z2z:=Ln.mk (ls:=[5,6,4]) (iI);refine aq ?_<;>intros;all_goals exact dg
 ·have cV:=qh n hc;have h1:(cJ n !=0)=true:=by simpa using hc
  have hr:R=(Net.zero,cJ n):=by rw[hR.out];unfold iG;rw[ah hc]
  rw[hr];replace hr:=Xi hr;refine pj func68 ntmps68 results68 ?_;have z1z:=Ln.mk (ls:=[]) (cV);refine aq ?_<;>intros;all_goals exact dg
def ji (n:Net)(a b:Int):Net × Int:=
 if cJ n≠0 then (Net.zero,cJ n)else
 match n.links.findIdx? (fun l=>decide (fX a b=l))with
 |none=>(Net.zero,5)
 |some i=>({n with links:=n.links.eraseIdx i},0)
theorem Rz [Flo](n:Net)(a b:Int):ai prog 66 [.agg (cN n),.v (.int .i64 a),.v (.int .i64 b)] (.tup [.agg (cN (ji n a b).1),.v (.int .i64 (ji n a b).2)]):=by
 obtain⟨R,hR⟩:∃R,R=ji n a b:=⟨_,rfl⟩;rw[<-hR];replace hR:=Xi hR;by_cases hc:cJ n=0
 ·have bD:=gw.1 hc;have cV:=sR n hc;have kV:=N2 a b;have qQ:=yk n.links (fX a b) (by have:=bD.n12;omega);unfold cq at qQ;cases hf:n.links.findIdx? (fun l=>decide (fX a b=l))with
  |none=>
   rw[hf]at qQ;have hr:R=(Net.zero,5):=by rw[hR.out];unfold ji;rw[af (by simpa using hc),hf]
   rw[hr];clear hr hR hf hc bD;generalize fX a b=LK at*;refine pj func66 ntmps66 results66 ?_;have z1z:=Ln.mk (ls:=[]) (cV);refine aq ?_<;>intros;all_goals exact dg
  |some i=>
   rw[hf]at qQ;have hi:i < n.links.length:=(XK.1 hf).1;have mC:decide ((i:Int) < 0)=false:=ak;have hd:=EK (enc:=bS) n.links i (i+1) 1 hi rfl;have cX:IntKind.i64.wrap ((i:Int)+1)=((i+1:Nat):Int):=by rw[IntKind.wrap_i64];have:=bD.n12;omega
   have hr:R=({n with links:=n.links.eraseIdx i},0):=by rw[hR.out];unfold ji;rw[af (by simpa using hc),hf]
   rw[hr];clear hr hR hf hc bD;generalize fX a b=LK at*;refine pj func66 ntmps66 results66 ?_;have z1z:=Ln.mk (ls:=[]) (cV);have z2z:=Ln.mk (ls:=[3]) (hd);exact aY;all_goals exact dg
 ·have cV:=qh n hc;have h1:(cJ n !=0)=true:=by simpa using hc
  have hr:R=(Net.zero,cJ n):=by rw[hR.out];unfold ji;rw[ah hc]
  rw[hr];replace hr:=Xi hr;refine pj func66 ntmps66 results66 ?_;have z1z:=Ln.mk (ls:=[]) (cV);refine aq ?_<;>intros;all_goals exact dg
section
open Go.Proofs Go.Shelf
theorem Uw (x y:SRow NV 3)(W:World):Calls prog 134 #[.agg x.xs.toArray,.agg y.xs.toArray] W fun e w'=>e= .returned (.int .i64 (FZ x y))/\∃q os',w'=Sort.grow (W.drewN q) os':=by
 obtain⟨xs,xl,x1,a,xh⟩:=x;obtain⟨ys,yl,y1,b,yh⟩:=y;match xs,xl,ys,yl with
 |[u0,u1,u2],_,[v0,v1,v2],_=>
  simp[NV]at xh yh;subst xh;subst yh;have hc:=jh a b;unfold FZ;simp only;generalize eN a b=r at*;replace hc:=Xi hc;clear x1 y1;go_enter func134,ntmps134
  go_wp2_with fail
  refine(hc.out _).mono ?_;rintro e w1 ⟨rfl,rfl⟩;go_wp2_with fail
  go_ret
  exact⟨ce rfl,0,_,by rw[Sort.alloc_eq_grow,Sort.alloc_eq_grow,Sort.grow_grow];rfl⟩
theorem N3 [Flo]{l l':List Vpc}(g:Nat)(qR:l≠[])(hp:l'.Perm l)(hs:l'.Pairwise fun x y=>(fun v:Vpc=>v.id) x < (fun v:Vpc=>v.id) y)(cK:l.length<=1000000):
 MSpec prog 133 [.own 0 g,.d (.clo 134 [])] [.row 55 3 g (ab (l.map au))] (.d (.tup [])) [.row 55 3 g (ab (l'.map au))]:=
 wA sortVpc rfl (cS func133 aK rfl) isAgg55 sizeOf55 (enters_of func134 aK rfl) Uw au (fun v:Vpc=>v.id) (fun _=>rfl) qR hp hs cK
end
theorem a4h {p:Prop}(h:p:=by
 subst kX;exact hy.wpOp hi hw fun w' hw'=>⟨hw',H.world (EG.trans hw hw')⟩):p:=h
structure GwB where
 n:Nat
 os:Array Obj
def EG (w w':World):Prop:=∃p:GwB,w'=Sort.grow (w.drewN p.n) p.os
theorem EG.refl (w:World):EG w w:=⟨⟨0,#[]⟩,by rw[Sort.grow_empty];rfl⟩
theorem EG.trans {w w' w'':World}(h:EG w w')(g:EG w' w''):EG w w'':=by
 obtain⟨⟨n,os⟩,rfl⟩:=h;obtain⟨⟨m,os'⟩,rfl⟩:=g;exact⟨⟨n+m,os++os'⟩,by show Sort.grow (Sort.grow ((w.drewN n).drewN m) os) os'=_;rw[Sort.grow_grow,World.drewN_drewN]⟩
theorem EG.drew (w:World):EG w w.drew:=⟨⟨1,#[]⟩,by rw[Sort.grow_empty];rfl⟩
theorem EG.alloc (w:World)(o:Obj):EG w (w.alloc o):=⟨⟨0,#[o]⟩,Sort.alloc_eq_grow w o⟩
theorem EG.ext {w w':World}(h:EG w w'):dy w w':=by
 obtain⟨⟨n,os⟩,rfl⟩:=h;exact⟨rfl,rfl,rfl,by simp[Sort.grow],fun k hk=>by simp[Sort.grow,Array.getElem?_append,hk]⟩
def N4 (W:World)(R:Value->Prop)(e:Ending)(w':World):Prop:=(∃u,e= .returned u/\R u)/\EG W w'
def RA (P:Program)(W w:World)(R:Value->Prop):Result Next->Prop
 | .ok (.value u) w'=>w'=w/\R u
 | .ok .skip w'=>w'=w/\R undef
 | .ok (.enter f args) w'=>w'=w/\Calls P f args w (N4 W R)
 |_=>False
attribute [go_sem] RA
section
variable {P:Program}{W:World}
theorem G8 {w:World}{v:Value}{r:Result Next}(h:∀R:Value->Prop,R v->RA P W w R r):Oper.quietUpon P (EG W) w v r:=by
 have h1:=h (·=v) rfl;unfold RA at h1;unfold Oper.quietUpon;split at h1
 ·exact h1
 ·exact⟨h1.1,h1.2.symm⟩
 ·exact a3W
 ·exact h1.elim
end
section
variable {P:Program}{ops:Array Oper}{Q:Exit->Act->World->Prop}
def PY (P:Program)(ops:Array Oper)(Q:Exit->Act->World->Prop):Nat->Array Bool->Act->World->Prop
 |0,listed,a,W=>Region.ready .any ops listed=[]/\∀w,EG W w->Q .normal a w
 |fuel+1,listed,a,W=>∀w,EG W w->(Region.ready .any ops listed=[]->Q .normal a w)/\
  ∀i∈Region.ready .any ops listed,wpOp P ops Q i (fun a' w'=>EG w w'/\PY P ops Q fuel (listed.setIfInBounds i true) a' w') a w
theorem PY.world:∀{fuel:Nat}{listed:Array Bool}{a:Act}{W W':World},EG W W'->PY P ops Q fuel listed a W->PY P ops Q fuel listed a W'
 |0,_,_,_,_,hx,h=>⟨h.1,fun w hw=>h.2 w (EG.trans hx hw)⟩
 |_+1,_,_,_,_,hx,h=>fun w hw=>h w (EG.trans hx hw)
theorem PY.any:∀{fuel:Nat}{listed:Array Bool}{a:Act}{W:World},PY P ops Q fuel listed a W->wpAny P .any ops Q fuel listed a W
 |0,_,_,_,h=>⟨h.1,h.2 _ (EG.refl _)⟩
 |_+1,_,_,W,h=>⟨(h W (EG.refl _)).1,fun i hi=>wpOp_mono (fun _ _ h'=>PY.any h'.2) ((h W (EG.refl _)).2 i hi)⟩
def F1 (P:Program)(ops:Array Oper)(W:World)(o:Oper)(v:Value)(a:Act):Prop:=
 (Region.wanted o (yielded ops a.tmps)=true/\∀w,EG W w->o.quietAt P a (EG w) w v)\/
 (Region.wanted o (yielded ops a.tmps)=false/\v=undef)
theorem F1.world {W W':World}{o:Oper}{v:Value}{a:Act}(hx:EG W W')(h:F1 P ops W o v a):F1 P ops W' o v a:=
 h.imp (fun⟨h1,h2⟩=>⟨h1,fun w hw=>h2 w (EG.trans hx hw)⟩) id
theorem F1.of_same {W:World}{o:Oper}{v:Value}{a a':Act}(hy:F1 P ops W o v a)(he:execOp a'.eval o=execOp a.eval o)
 (hw:Region.wanted o (yielded ops a'.tmps)=Region.wanted o (yielded ops a.tmps)):F1 P ops W o v a':=by
 unfold F1 Oper.quietAt at*;rw[he,hw];exact hy
theorem F1.wpOp {W:World}{i:Nat}{o:Oper}{v:Value}{a:Act}(hi:ops[i]? =some o)(hy:F1 P ops W o v a){K:Act->World->Prop}{w:World}(hw:EG W w)(h:∀w',EG w w'->K (a.put o.dst v) w'):wpOp P ops Q i K a w:=by
 unfold Go.wpOp;simp only[hi];rcases hy with⟨CX,hv⟩|⟨CX,rfl⟩
 ·simp only[CX,if_true];left;exact Oper.wp_of_quiet (C:=EG w) (K:=fun a'=>a'=a.put o.dst v) (EG.refl _) (fun a' w' hw' ha=>ha ▸ h w' hw') ⟨v,fun w'' hw''=>by
   have:=hv w'' (EG.trans hw hw'');unfold Oper.quietAt at*;generalize (execOp a.eval o).run P w''=r at*;cases r with
   |ok n u=>cases n<;>simp only[Oper.quietUpon]at this ⊢<;>first|exact this|exact⟨this.1,this.2.mono fun _ _ ⟨e1,e2⟩=>⟨e1,EG.trans hw'' e2⟩⟩
   |halt x u=>simp only[Oper.quietUpon]at this,rfl⟩
 ·simp only[CX,Yz,if_false];exact h w (EG.refl _)
theorem G9 {W:World}{j:Nat}{oi oj:Oper}{v:Value}(hj:ops[j]? =some oj)(Jo:oi.apart ops oj=true)
 (F7:∀cs b,oi.op≠ .select cs b) (Tv:∀cs b,oj.op≠ .select cs b)
 (hQ:∀c a w,Q (.panic c) (a.put oi.dst v) w->Q (.panic c) a w) {K:Act->World->Prop}{a:Act}{w:World}
 (hy:F1 P ops W oi v a) (h:wpOp P ops Q j K (a.put oi.dst v) w):
 wpOp P ops Q j (fun a' w'=>F1 P ops W oi v a'/\K (a'.put oi.dst v) w') a w:=by
 obtain⟨h1,h2,h3⟩:=Oper.apart_spec Jo;have keep:∀(a:Act),F1 P ops W oi v a->∀u,F1 P ops W oi v (a.put oj.dst u):=fun a hy u=>
  hy.of_same (execOp_put oi F7 a oj.dst u h3) (wanted_put oi a oj.dst u h3)
 have keepD:∀d,F1 P ops W oi v {a with defers:=d::a.defers}:=fun d=>hy.of_same rfl rfl;unfold wpOp at*;simp only[hj]at*;rw[wanted_put oj a oi.dst v h1]at h;split
 ·exact LE
 ·exact a2z
theorem KL {i:Nat}{oi:Oper}{v:Value}(hi:ops[i]? =some oi)(FG:∀(j:Nat) (o:Oper) cs b,ops[j]? =some o->o.op≠ .select cs b)
 (hQ:∀c a w,Q (.panic c) (a.put oi.dst v) w->Q (.panic c) a w):
 ∀(fuel:Nat) (listed:Array Bool) (a:Act) (W:World),
  (∀j oj,ops[j]? =some oj->j≠i->listed.getD j true=false->(∀e∈oj.after,Region.binds .any e=true->e.on≠i)->oi.apart ops oj=true)->
  i∈Region.ready .any ops listed->F1 P ops W oi v a->
  PY P ops Q fuel (listed.setIfInBounds i true) (a.put oi.dst v) W->PY P ops Q (fuel+1) listed a W:=by
 intro fuel;induction fuel with
 |zero=>
  intro listed a W _ hr hy H w hw;refine⟨fun h=>(by rw[h]at hr;cases hr),fun j hj=>?_⟩;by_cases kX:j=i
  ·exact a4h
  ·exact a3S
 |succ fuel ih=>
  intro listed a W vP hr hy H w hw;refine⟨fun h=>(by rw[h]at hr;cases hr),fun j hj=>?_⟩;by_cases kX:j=i
  ·exact a4h
  ·have h1:=(H w hw).2 j (ready_mono hj kX);obtain⟨FH,oj,Po,bO⟩:=mem_ready.1 hj;have Pp:∀e∈oj.after,Region.binds .any e=true->e.on≠i:=fun e he hb heq=>a2g
   have h2:=G9 Po (vP j oj Po kX FH Pp) (fun cs b=>FG i oi cs b hi) (fun cs b=>FG j oj cs b Po) hQ (hy.world hw) h1;have y9:∀k ok,ops[k]? =some ok->k≠i->(listed.setIfInBounds j true).getD k true=false->
    (∀e∈ok.after,Region.binds .any e=true->e.on≠i)->oi.apart ops ok=true:=fun k ok hk Pq Tw bQ=>by
    refine vP k ok hk Pq ?_ bQ;by_cases CY:j=k
    ·subst CY;exact FH
    ·exact a4x
   refine wpOp_mono (fun a' w' h3=>⟨h3.2.1,ih (listed.setIfInBounds j true) a' w' y9 (ready_mono hr (Ne.symm kX)) (h3.1.world h3.2.1) ?_⟩) h2;rw[Array.setIfInBounds_comm _ _ kX];exact h3.2.2
def oD (P:Program)(ops:Array Oper)(Q:Exit->Act->World->Prop):List Oper->Nat->Array Bool->Act->World->Prop
 |[],_,_,a,W=>∀w,EG W w->Q .normal a w
 |o::rest,k,listed,a,W=>
  (∃v,F1 P ops W o v a/\oD P ops Q rest (k+1) (listed.setIfInBounds k true) (a.put o.dst v) W)\/
  (Region.ready .any ops listed=[k]/\Region.wanted o (yielded ops a.tmps)=true/\∀w,EG W w->o.wp P a w (fun a' w'=>EG w w'/\oD P ops Q rest (k+1) (listed.setIfInBounds k true) a' w') Q)
theorem rE (hs:Region.noSelect ops=true)(hQ:∀c a d v w,Q (.panic c) (a.put d v) w->Q (.panic c) a w):∀(l:List Oper) (k:Nat) (listed:Array Bool) (a:Act) (W:World),(∀j,l[j]? =ops[k+j]?)->
 Region.lexFrom .any ops l.length k listed=true->oD P ops Q l k listed a W->PY P ops Q l.length listed a W
 |[],_,_,_,_,_,hB,h=>⟨by simpa[Region.lexFrom]using hB,h⟩
 |o::l,k,listed,a,W,hl,hB,h=>by
  have h0:ops[k]? =some o:=by simpa using (hl 0).symm
  simp only[XC,Region.lexFrom,Xv]at hB;obtain⟨⟨hr,hf⟩,hB'⟩:=hB;have hl':∀j,l[j]? =ops[k+1+j]? :=fun j=>by have:=hl (j+1);simpa[ZI,Nat.add_comm 1 j]using this
  rcases h with⟨v,hy,hK⟩|⟨eO,CX,hK⟩
  ·exact KL h0 (Region.noSelect_spec hs) (fun c a w=>hQ c a _ _ w) l.length listed a W (Region.free_spec h0 hf) (by simpa using hr) hy (rE hs hQ l (k+1) _ _ _ hl' hB' hK)
  ·intro w hw;refine⟨fun h=>by rw[eO]at h;simp at h,fun i hi=>?_⟩;rw[eO]at hi;obtain rfl:i=k:=by simpa using hi
   unfold wpOp;simp only[h0,CX,if_true];left;exact Oper.wp_mono (fun a' w' h'=>⟨h'.1,rE hs hQ l (i+1) _ _ _ hl' hB' h'.2⟩) (hK w hw)
theorem EM {id:Nat}{a:Act}{w:World}{l:List Oper}(hm:P.follows .mixedOrders=true)(hB:Region.lexB .any l.toArray=true)(hQ:∀c a d v w,Q (.panic c) (a.put d v) w->Q (.panic c) a w)
 (h:oD P l.toArray Q l 0 (Y1 l.length false) a w):(Code.region id l.toArray true).wp P Q a w:=by
 simp only[Region.lexB,Xv]at hB;refine wp_region_any hm ?_;have h2:=rE hB.1 hQ l 0 (Y1 l.length false) a w ak (by simpa using hB.2) h;have h3:=(h2.world (EG.drew w:EG w w.drew)).any;simpa using h3
section
variable {o:Oper}{rest:List Oper}{k:Nat}{listed:Array Bool}{a:Act}{W:World}
theorem N5 (h:∀w,EG W w->Q .normal a w):oD P ops Q [] k listed a W:=h
theorem Bh {v:Value}(hw:Region.wanted o (yielded ops a.tmps)=true)(h:∀w,EG W w->∀R:Value->Prop,R v->RA P w w R ((execOp a.eval o).run P w))
 (hn:oD P ops Q rest (k+1) (listed.setIfInBounds k true) (a.put o.dst v) W):oD P ops Q (o::rest) k listed a W:=
 .inl ⟨v,.inl ⟨hw,fun w hw=>G8 (h w hw)⟩,hn⟩
theorem ym (hr:Region.ready .any ops listed=[k])(hw:Region.wanted o (yielded ops a.tmps)=true)
 (h:∀w,EG W w->∀K:Act->World->Prop,(∀a' w',EG w w'->oD P ops Q rest (k+1) (listed.setIfInBounds k true) a' w'->K a' w')->o.wp P a w K Q):oD P ops Q (o::rest) k listed a W:=
 .inr ⟨hr,hw,fun w hw=>h w hw _ fun _ _ h1 h2=>⟨h1,h2⟩⟩
end
theorem vt {f:FuncId}{args:Array Value}{w:World}{R:Value->Prop}{v:Value}(h:Calls P f args w fun e w'=>e= .returned v/\w=w')(hR:R v):Calls P f args w (N4 w R):=
 h.mono fun _ _ ⟨he,hx⟩=>⟨⟨v,he,hR⟩,hx ▸ EG.refl _⟩
end
section
open Go.Proofs Go.Shelf
def gh (l:Lnk):Int:=l.a*65537+l.b
def HP2 (xs:List Value)(k:Int):Prop:=∃a b:Int,xs=[.int .i64 a,.int .i64 b]/\k=a*65537+b/\1<=b/\b<=65536
@[reducible] def KM:Inhabited (SRow HP2 (1+1)):=⟨⟨[.int .i64 0,.int .i64 1],rfl,fun v hv=>by simp at hv;rcases hv with rfl|rfl<;>rfl,1,0,1,rfl,by omega,by omega,by omega⟩⟩
theorem EN {a b c d:Int}(h1:1<=b)(h2:b<=65536)(h3:1<=d)(h4:d<=65536):Et [eN a c,eN b d]=eN (a*65537+b) (c*65537+d):=by
 simp only[Et,eN];repeat' split
 all_goals omega
theorem RB (x y:Int)(b:Nat)(W:World)(hx:W.cell? ⟨b,0,none⟩=some (.int .i64 x))(hy:W.cell? ⟨b,1,none⟩=some (.int .i64 y)):
 Calls prog 187 #[.slice (some ⟨b,0,none⟩) 2 2] W fun e w'=>e= .returned (.int .i64 (Et [x,y]))/\w'=W:=by
 have lb:=dI hx;go_enter func187,ntmps187
 go_wp2_with fail
 go_loopw [5,8] (fun _ s8 wr=>∃k:Nat,s8= .int .i64 k/\((k=0)\/(k=1/\x=0)\/(k=2/\x=0/\y=0))/\wr=W) (fun _ s8 _=>2 - (intOf s8).toNat)
 case atStart=>exact⟨0,rfl,.inl rfl,rfl⟩
 case round=>
  obtain⟨k,rfl,hk,rfl⟩:=hrel;rcases hk with rfl|⟨rfl,h0⟩|⟨rfl,h0,h1⟩
  ·by_cases h0:x=0
   ·have hb:(x !=0)=false:=by simp[h0]
    replace h0:=Xi h0;go_wp2_with fail
    go_roundw
    case rel=>exact⟨1,by go_num,.inr (.inl ⟨rfl,h0.out⟩),trivial⟩
    case measure=>simp[intOf]
   ·have hb:(x !=0)=true:=by simpa using h0
    replace h0:=Xi h0;go_wp2_with fail
    go_ret
    exact⟨ce (by simp[Et,h0.out]),rfl⟩
  ·by_cases h1:y=0
   ·have hb:(y !=0)=false:=by simp[h1]
    replace h0:=Xi h0;replace h1:=Xi h1;go_wp2_with fail
    go_roundw
    case rel=>exact⟨2,by go_num,.inr (.inr ⟨rfl,h0.out,h1.out⟩),trivial⟩
    case measure=>simp[intOf]
   ·have hb:(y !=0)=true:=by simpa using h1
    replace h0:=Xi h0;replace h1:=Xi h1;go_wp2_with fail
    go_ret
    exact⟨ce (by simp[Et,h0.out,h1.out]),rfl⟩
  ·replace h0:=Xi h0;replace h1:=Xi h1;go_wp2_with fail
   go_ret
   exact⟨ce (by simp[Et,h0.out,h1.out]),rfl⟩
theorem RC (x y:SRow HP2 (1+1))(W:World):Calls prog 98 #[.agg x.xs.toArray,.agg y.xs.toArray] W fun e w'=>e= .returned (.int .i64 (FZ x y))/\∃q os',w'=Sort.grow (W.drewN q) os':=by
 obtain⟨xs,xl,x1,kx,a,b,rfl,rfl,jQ,jT⟩:=x;obtain⟨ys,yl,y1,ky,c,d,rfl,rfl,SC,zm⟩:=y;unfold FZ;simp only;rw[<-EN jQ jT SC zm];have h1:∀W,Calls prog 113 #[.int .i64 a,.int .i64 c] W fun e w'=>e= .returned (.int .i64 (eN a c))/\W=w':=fun W=>(jh a c W).mono fun _ _ ⟨e1,e2⟩=>⟨e1,e2.symm⟩;have h2:∀W,Calls prog 113 #[.int .i64 b,.int .i64 d] W fun e w'=>e= .returned (.int .i64 (eN b d))/\W=w':=fun W=>(jh b d W).mono fun _ _ ⟨e1,e2⟩=>⟨e1,e2.symm⟩;generalize eN a c=A at*;generalize eN b d=B at*;clear x1 y1 xl yl jQ jT SC zm;have key:Calls prog 98 #[.agg #[.int .i64 a,.int .i64 b],.agg #[.int .i64 c,.int .i64 d]] W fun e w'=>e= .returned (.int .i64 (Et [A,B]))/\EG W w':=by
  have U0:EG W ((W.alloc (.cells #[.int .i64 a,.int .i64 b] 76)).alloc (.cells #[.int .i64 c,.int .i64 d] 76)):=(EG.alloc W _).trans (EG.alloc _ _);go_enter func98,ntmps98
  go_wp2_with fail
  refine EM aK aK (fun _ _ d _ _ h=>by cases d<;>exact h) ?_;repeat(apply Bh;(first|exact dQ rfl|exact eE rfl rfl rfl cY);intro wq jN R hR;(have jN:=jN.ext;(have mV:=(aX jN).1;(try simp only[Xt,ae,Xy,Xu]at mV));go_simp;first|exact hR|(go_at_call 113;with_reducible (first|exact vt (h1 _) hR|exact vt (h2 _) hR)));simp only[Act.put,XQ,XT,X2])
  refine ym aK (dQ rfl) (fun w3 qP K2 hK=>?_);go_simp
  refine hK _ _ (EG.alloc _ _) ?_;clear hK K2;refine ym aK (dQ rfl) (fun w4 C8 K3 hK=>?_);have LG:w4.cell? ⟨w3.heap.size,0,none⟩=some (.int .i64 A):=bZ C8.ext ak;have Jn:w4.cell? ⟨w3.heap.size,1,none⟩=some (.int .i64 B):=bZ C8.ext ak;go_simp
  go_at_call 187
  refine(RB A B _ w4 LG Jn).mono ?_;rintro e w5 ⟨rfl,rfl⟩;go_simp
  refine hK _ _ (EG.refl _) ?_;clear hK K3;apply Bh
  ·exact dQ rfl
  ·intro wq jN R hR;go_simp
   exact hR
  simp only[Act.put,XQ,XT,X2];refine N5 ?_;intro w6 hw6;go_wp2_with fail
  go_ret
  exact⟨ce rfl,U0.trans (qP.trans ((EG.alloc _ _).trans (C8.trans hw6)))⟩
 refine key.mono fun e w' ⟨he,⟨⟨q,os⟩,hw⟩⟩=>⟨he,q,os,hw⟩
theorem KN [Flo]{l l':List Lnk}(g:Nat)(hb:∀x∈l,1<=x.b/\x.b<=65536)(qR:l≠[])(hp:l'.Perm l)(hs:l'.Pairwise fun x y=>gh x < gh y)(cK:l.length<=1000000):
 MSpec prog 137 [.own 0 g,.d (.clo 98 [])] [.row 76 2 g (ab (l.map bS))] (.d (.tup [])) [.row 76 2 g (ab (l'.map bS))]:=
 IN KM sortLink rfl (cS func137 aK rfl) isAgg76 sizeOf76 (enters_of func98 aK rfl) RC bS gh (fun x hx vs hl hr=>by
  match vs,hl with
  |[u,v],_=>
   obtain⟨M,w,r0⟩:=hr 0 _ u rfl rfl;obtain⟨M2,w2,r1⟩:=hr 1 _ v rfl rfl;cases r0;cases r1;exact⟨x.a,x.b,rfl,rfl,hb x hx⟩) qR hp hs cK
end
def iX (n:Net)(id:Int):Int:=if cD id=false then 3 else if (gq n id).isSome=true then 6 else if n.vpcs.length=6 then 2 else 0
def jk (n:Net)(id:Int):Net × Int:=
 if cJ n≠0 then (Net.zero,cJ n)else if iX n id≠0 then (Net.zero,iX n id)else ({n with vpcs:=dn (·.id) ⟨id,[],[]⟩ n.vpcs},0)
theorem yn {n:Net}{id:Int}(h:gq n id=none):∀v∈n.vpcs,v.id≠id:=fun v hv=>by
 have:=Yr.1 h v hv;simpa using this
theorem RD [Flo](n:Net)(id:Int):ai prog 64 [.agg (cN n),.v (.int .i64 id)] (.tup [.agg (cN (jk n id).1),.v (.int .i64 (jk n id).2)]):=by
 obtain⟨R,hR⟩:∃R,R=jk n id:=⟨_,rfl⟩;rw[<-hR];replace hR:=Xi hR;by_cases hc:cJ n=0
 ·have bD:=gw.1 hc;have cV:=sR n hc;have hl6:((n.vpcs.length:Int)==6)=decide (n.vpcs.length=6):=by rw[Yi];simp;omega
  cases hx:fk n id with
  |some i=>
   obtain⟨v,hv,he,hi,oK⟩:=eI hx;have iI:=sW n id n.vpcs.length 1 i v hv he bD.n6 bD.rise;have hr:R=(Net.zero,if cD id=false then 3 else 6):=by
    rw[hR.out];unfold jk iX;rw[af (by simpa using hc),oK];cases cD id<;>simp
   rw[hr];have hid:cD id=(decide (1<=id)&&decide (id<=65536)):=rfl;rw[hid];clear hr hR bD hx hc oK hv he hid;refine pj func64 ntmps64 results64 ?_;have z1z:=Ln.mk (ls:=[]) (cV);have z2z:=Ln.mk (ls:=[4,5,3]) (iI);refine fl ?_ ?_ ?_ ?_ ?_ ?_ ?_ ?_<;>first|(with_reducible exact True.intro)|intros
   all_goals first
    |(exfalso;grind)
    |(rw[ah ld];exact dg)
    |(rw[af ld];exact dg)
  |none=>
   have iI:=pI n id n.vpcs.length 1 (d8 hx) bD.n6 bD.rise;have hn:=d8 hx;by_cases bE:iX n id≠0
   ·have hr:R=(Net.zero,iX n id):=by rw[hR.out];unfold jk;rw[af (by simpa using hc),ah bE]
    have o0:iX n id=if cD id=false then 3 else if n.vpcs.length=6 then 2 else 0:=by unfold iX;rw[hn];rfl
    rw[hr];have hid:cD id=(decide (1<=id)&&decide (id<=65536)):=rfl;rw[o0]at bE ⊢;rw[hid]at bE ⊢;clear hr hR bD hx hc hid hn o0;replace bE:=Xi bE;refine pj func64 ntmps64 results64 ?_;have z1z:=Ln.mk (ls:=[]) (cV);have z2z:=Lm.mk (Ln.mk (ls:=[4,5,3]) (iI));refine fl ?_ ?_ ?_ ?_ ?_ ?_ ?_ ?_<;>first|(with_reducible exact True.intro)|intros
    all_goals have jT:=bE.out
    all_goals clear bE iI cV
    all_goals first
     |(exfalso;grind)
     |(rw[ah ld];exact dg)
     |(rw[af ld,ah ld];exact dg)
   ·have hr:R=({n with vpcs:=dn (·.id) ⟨id,[],[]⟩ n.vpcs},0):=by rw[hR.out];unfold jk;rw[af (by simpa using hc),af bE]
    have hg:iX n id=0:=by simpa using bE
    obtain⟨g1,g2⟩:cD id=true/\n.vpcs.length≠6:=by unfold iX at hg;rw[hn]at hg;grind
    have g3:1<=id/\id<=65536:=by simpa[cD]using g1
    have h6:=bD.n6;have oY:=N3 (l:=n.vpcs++[⟨id,[],[]⟩]) (l':=dn (·.id) ⟨id,[],[]⟩ n.vpcs) (n.vpcs.length+1) ak (gH _ _ _) (hU bD.rise fun v hv=>yn hn v hv) aN;have VW:((n.vpcs.length:Int)==6)=false:=aN;have jQ:n.vpcs.length+1<=100:=aa;have jr:decide (id < 1)=false:=aN;have kZ:decide (id>65536)=false:=aN;simp only[Xn,Xl,Xp]at oY;have oY:=oY.leh (sv (A:=n.vpcs.map au) (B:=[]) (r:=[.v (.int .i64 id),.v (.slice none 0 0),.v (.slice none 0 0)]) dg) (by have:=lK (enc:=au) (fun _=>rfl) (n.vpcs++[⟨id,[],[]⟩]);simpa using this) (aF _ _);rw[hr];clear hr hR bD hx hc hn bE hg g1 g2 g3 hl6;refine pj func64 ntmps64 results64 ?_;have z1z:=Ln.mk (ls:=[]) (cV);have z2z:=Ln.mk (ls:=[4,5,3]) (iI);have z3z:=Ln.mk (ls:=[5]) (oY);exact aY;all_goals exact dg
 ·have cV:=qh n hc;have hfz:=N1 id;have h1:(cJ n !=0)=true:=by simpa using hc
  have hr:R=(Net.zero,cJ n):=by rw[hR.out];unfold jk;rw[ah hc]
  rw[hr];replace hr:=Xi hr;refine pj func64 ntmps64 results64 ?_;have z1z:=Ln.mk (ls:=[]) (cV);refine aq ?_<;>intros;all_goals exact dg
def d4 (n:Net)(a b:Int):Int:=
 if a=b then 3 else if gq n a=none\/gq n b=none then 5 else if fX a b∈n.links then 6 else
 if eS {n with links:=dn gh (fX a b) n.links}=false then 9 else if n.links.length+1>12 then 2 else 0
def jY (n:Net)(a b:Int):Net × Int:=
 if cJ n≠0 then (Net.zero,cJ n)else if d4 n a b≠0 then (Net.zero,d4 n a b)else ({n with links:=dn gh (fX a b) n.links},0)
theorem NetOK.bd {n:Net}(h:NetOK n){x:Int}(hx:x∈n.vpcs.map (·.id)):1<=x/\x<=65536:=by
 obtain⟨v,hv,rfl⟩:=XF.1 hx;have:=(be (h.vp v hv)).id;simpa[cD]using this
theorem N6 {l m:Lnk}(h1:1<=l.b/\l.b<=65536)(h2:1<=m.b/\m.b<=65536):sJ l m=eN (gh l) (gh m):=EN h1.1 h1.2 h2.1 h2.2
theorem NetOK.lsort {n:Net}(h:NetOK n):n.links.Pairwise fun a b=>gh a < gh b:=by
 have hb:∀l∈n.links,1<=l.b/\l.b<=65536:=fun l hl=>h.bd (h.ids l hl).2;have:=(Cj n.links).1 h.rk;have step:∀j (hj:j+1 < n.links.length),gh n.links[j] < gh n.links[j+1]:=fun j hj=>by
  have h1:=this j hj;rw[N6 (hb _ (Yl _)) (hb _ (Yl _))]at h1;unfold eN at h1;split at h1
  ·assumption
  ·split at h1<;>omega
 rw[XH];intro i j hi hj hij;obtain⟨d,rfl⟩:∃d,j=i+1+d:=⟨j - i - 1,by omega⟩;induction d with
 |zero=>exact step i hj
 |succ d ih=>
  have h1:=ih aa aa;have h2:=step (i+1+d) aa;exact Int.lt_trans h1 h2
theorem uz (a b:Int):(fX a b=⟨a,b⟩/\a<=b)\/(fX a b=⟨b,a⟩/\b<=a):=by
 unfold fX;rcases Int.lt_trichotomy a b with h|h|h
 ·left;rw[af aa,ah h];exact⟨rfl,by omega⟩
 ·subst h;left;simp
 ·right;rw[ah h,af aa];exact⟨rfl,by omega⟩
theorem EO {l m:Lnk}(h1:1<=l.b/\l.b<=65536)(h2:1<=m.b/\m.b<=65536)(h:gh l=gh m):l=m:=by
 unfold gh at h;cases l;cases m;simp only at*;simp only[Lnk.mk.injEq];omega
theorem RE [Flo](n:Net)(a b:Int):ai prog 65 [.agg (cN n),.v (.int .i64 a),.v (.int .i64 b)] (.tup [.agg (cN (jY n a b).1),.v (.int .i64 (jY n a b).2)]):=by
 obtain⟨R,hR⟩:∃R,R=jY n a b:=⟨_,rfl⟩;rw[<-hR];replace hR:=Xi hR;by_cases hc:cJ n=0
 ·have bD:=gw.1 hc;have cV:=sR n hc;have kV:=N2 a b;have tN:R=if d4 n a b≠0 then (Net.zero,d4 n a b)else ({n with links:=dn gh (fX a b) n.links},0):=by rw[hR.out];unfold jY;rw[af (by simpa using hc)]
  cases De:fk n a with
  |none=>
   have j1:=pI n a n.vpcs.length 1 (d8 De) bD.n6 bD.rise;have hr:R=(Net.zero,if a=b then 3 else 5):=by
    rw[tN,show d4 n a b=if a=b then 3 else 5 by unfold d4;rw[d8 De];simp];split<;>simp
   have gQ:(a==b)=decide (a=b):=rfl;rw[hr];cases o3:fk n b with
   |none=>
    have mB:=pI n b n.vpcs.length 1 (d8 o3) bD.n6 bD.rise;clear hr hR tN bD De o3 hc;refine pj func65 ntmps65 results65 ?_;have z1z:=Ln.mk (ls:=[]) (cV);have z2z:=Lm.mk (Ln.mk (ls:=[4,5,3]) (j1));have z3z:=Lo.mk (Ln.mk (ls:=[4,5,3]) (mB));refine fl ?_ ?_ ?_ ?_ ?_ ?_ ?_ ?_<;>first|(with_reducible exact True.intro)|intros
    all_goals first
     |(exfalso;grind)
     |(rw[ah ld];exact dg)
     |(rw[af ld];exact dg)
   |some j=>
    obtain⟨v,hv,he,hi,oK⟩:=eI o3;have mB:=sW n b n.vpcs.length 1 j v hv he bD.n6 bD.rise;clear hr hR tN bD De o3 hc hv he oK hi;refine pj func65 ntmps65 results65 ?_;have z1z:=Ln.mk (ls:=[]) (cV);have z2z:=Lm.mk (Ln.mk (ls:=[4,5,3]) (j1));have z3z:=Lo.mk (Ln.mk (ls:=[4,5,3]) (mB));refine fl ?_ ?_ ?_ ?_ ?_ ?_ ?_ ?_<;>first|(with_reducible exact True.intro)|intros
    all_goals first
     |(exfalso;grind)
     |(rw[ah ld];exact dg)
     |(rw[af ld];exact dg)
  |some i=>
   obtain⟨u,hu,SW,SX,wl⟩:=eI De;have j1:=sW n a n.vpcs.length 1 i u hu SW bD.n6 bD.rise;cases o3:fk n b with
   |none=>
    have mB:=pI n b n.vpcs.length 1 (d8 o3) bD.n6 bD.rise;have hr:R=(Net.zero,if a=b then 3 else 5):=by
     rw[tN,show d4 n a b=if a=b then 3 else 5 by unfold d4;rw[d8 o3];simp];split<;>simp
    rw[hr];clear hr hR tN bD De o3 hc hu SW SX wl;refine pj func65 ntmps65 results65 ?_;have z1z:=Ln.mk (ls:=[]) (cV);have z2z:=Lm.mk (Ln.mk (ls:=[4,5,3]) (j1));have z3z:=Lo.mk (Ln.mk (ls:=[4,5,3]) (mB));refine fl ?_ ?_ ?_ ?_ ?_ ?_ ?_ ?_<;>first|(with_reducible exact True.intro)|intros
    all_goals first
     |(exfalso;grind)
     |(rw[ah ld];exact dg)
     |(rw[af ld];exact dg)
   |some j=>
    obtain⟨v,hv,Vq,hib,Ao⟩:=eI o3;have mB:=sW n b n.vpcs.length 1 j v hv Vq bD.n6 bD.rise;by_cases gQ:a=b
    ·have hr:R=(Net.zero,3):=by rw[tN,show d4 n a b=3 by unfold d4;rw[ah gQ]];rfl
     rw[hr];clear hr hR tN bD De o3 hc hu SW SX wl hv Vq hib Ao;have Vr:(a==b)=true:=by simpa using gQ
     replace gQ:=Xi gQ;refine pj func65 ntmps65 results65 ?_;have z1z:=Ln.mk (ls:=[]) (cV);have z2z:=Lm.mk (Ln.mk (ls:=[4,5,3]) (j1));have z3z:=Lo.mk (Ln.mk (ls:=[4,5,3]) (mB));refine fl ?_ ?_ ?_ ?_ ?_ ?_ ?_ ?_<;>first|(with_reducible exact True.intro)|intros
     all_goals exact dg
    ·have Vr:(a==b)=false:=by simpa using gQ
     have tI:=zP n.links (fX a b) (by have:=bD.n12;omega);have jO:(n.links.any fun y=>decide (fX a b=y))=decide (fX a b∈n.links):=by
      rw[Yi,XR];simp
     rw[jO]at tI;have aR:R=if fX a b∈n.links then (Net.zero,6)else if eS {n with links:=dn gh (fX a b) n.links}=false then (Net.zero,9)else if n.links.length+1>12 then (Net.zero,2)else ({n with links:=dn gh (fX a b) n.links},0):=by
      rw[tN];unfold d4;rw[af gQ,wl,Ao];simp only[reduceCtorEq,or_self,if_false];split
      ·rfl
      ·split
       ·rfl
       ·split<;>rfl
     by_cases dM:fX a b∈n.links
     ·have hr:R=(Net.zero,6):=by rw[aR,ah dM]
      rw[hr];rw[decide_eq_true dM]at tI;clear hr hR tN aR bD De o3 hc hu SW SX wl hv Vq hib Ao jO dM;generalize fX a b=LK at*;replace gQ:=Xi gQ;refine pj func65 ntmps65 results65 ?_;have z1z:=Ln.mk (ls:=[]) (cV);have z2z:=Lm.mk (Ln.mk (ls:=[4,5,3]) (j1));have z3z:=Lo.mk (Ln.mk (ls:=[4,5,3]) (mB));refine fl ?_ ?_ ?_ ?_ ?_ ?_ ?_ ?_<;>first|(with_reducible exact True.intro)|intros
      all_goals exact dg
     ·rw[af dM]at aR;rw[decide_eq_false dM]at tI;have hma:a∈n.vpcs.map (·.id):=gu (by rw[wl];rfl);have hmb:b∈n.vpcs.map (·.id):=gu (by rw[Ao];rfl);have j0:∀l∈n.links,1<=l.b/\l.b<=65536:=fun l hl=>bD.bd (bD.ids l hl).2;have mX:(fX a b).a∈n.vpcs.map (·.id)/\(fX a b).b∈n.vpcs.map (·.id):=by
       rcases uz a b with⟨e,-⟩|⟨e,-⟩
       ·rw[e];exact⟨hma,hmb⟩
       ·rw[e];exact⟨hmb,hma⟩
      have FU:=bD.bd mX.2;have oY:=KN (l:=n.links++[fX a b]) (l':=dn gh (fX a b) n.links) 2 (fun l hl=>by
       rcases X0.1 hl with hl|hl
       ·exact j0 l hl
       ·rw[Yc.1 hl];exact FU) ak (gH _ _ _) (hU bD.lsort fun y hy e=>dM (by rw[<-EO (j0 y hy) FU e];exact hy)) (by have:=bD.n12;simp;omega)
      have Jp:=Ci {n with links:=dn gh (fX a b) n.links} (by have:=bD.n6;simp;omega) (by have:=bD.n12;simp only[fK];omega) (fun v hv=>by have:=(be (bD.vp v hv)).n4;omega) (fun l hl=>by
       rcases ny.1 hl with rfl|hl
       ·exact mX
       ·exact bD.ids l hl)
      have Pu:=bD.n12;have jQ:n.links.length+1<=100:=aa;have rS:(dn gh (fX a b) n.links).length=n.links.length+1:=fK _ _ _;have TD:((n.links.length+1:Nat):Int)>12↔n.links.length+1>12:=aa;simp only[Xn,Xl,Xp]at oY;clear hR tN bD De o3 hc hu SW SX wl hv Vq hib Ao jO dM hma hmb j0 mX FU;generalize dn gh (fX a b) n.links=LS at*;generalize fX a b=LK at*;replace gQ:=Xi gQ;cases hp:eS {n with links:=LS} with
      |false=>
       have hr:R=(Net.zero,9):=by rw[aR,ah hp]
       rw[hp]at Jp;rw[hr];clear hr aR hp TD;refine pj func65 ntmps65 results65 ?_;have z1z:=Ln.mk (ls:=[]) (cV);have z2z:=Lm.mk (Ln.mk (ls:=[4,5,3]) (j1));have z3z:=Lo.mk (Ln.mk (ls:=[4,5,3]) (mB));have z4z:=Lo.mk (Ln.mk (ls:=[3]) (oY));refine fl ?_ ?_ ?_ ?_ ?_ ?_ ?_ ?_<;>first|(with_reducible exact True.intro)|intros
       all_goals exact dg
      |true=>
       rw[hp]at Jp;by_cases LP:n.links.length+1>12
       ·have hr:R=(Net.zero,2):=by rw[aR,af (by simp[hp]),ah LP]
        have hbI:decide ((LS.length:Int)>12)=true:=by rw[rS];exact decide_eq_true (TD.2 LP)
        rw[hr];clear hr aR hp TD LP;replace rS:=Xi rS;refine pj func65 ntmps65 results65 ?_;have z1z:=Ln.mk (ls:=[]) (cV);have z2z:=Lm.mk (Ln.mk (ls:=[4,5,3]) (j1));have z3z:=Lo.mk (Ln.mk (ls:=[4,5,3]) (mB));have z4z:=Lo.mk (Ln.mk (ls:=[3]) (oY));refine fl ?_ ?_ ?_ ?_ ?_ ?_ ?_ ?_<;>first|(with_reducible exact True.intro)|intros
        all_goals exact dg
       ·have hr:R=({n with links:=LS},0):=by rw[aR,af (by simp[hp]),af LP]
        have hbI:decide ((LS.length:Int)>12)=false:=by rw[rS];exact decide_eq_false (fun h=>LP (TD.1 h))
        rw[hr];clear hr aR hp TD LP;replace rS:=Xi rS;refine pj func65 ntmps65 results65 ?_;have z1z:=Ln.mk (ls:=[]) (cV);have z2z:=Lm.mk (Ln.mk (ls:=[4,5,3]) (j1));have z3z:=Lo.mk (Ln.mk (ls:=[4,5,3]) (mB));have z4z:=Lo.mk (Ln.mk (ls:=[3]) (oY));refine fl ?_ ?_ ?_ ?_ ?_ ?_ ?_ ?_<;>first|(with_reducible exact True.intro)|intros
        all_goals exact dg
 ·have cV:=qh n hc;have h1:(cJ n !=0)=true:=by simpa using hc
  have hr:R=(Net.zero,cJ n):=by rw[hR.out];unfold jY;rw[ah hc]
  rw[hr];replace hr:=Xi hr;refine pj func65 ntmps65 results65 ?_;have z1z:=Ln.mk (ls:=[]) (cV);refine aq ?_<;>intros;all_goals exact dg
def vu (E:List (List Int × Int))(id:Int):Bool:=E.any fun kv=>kv.2==id
theorem Ux [Flo](b:Bok)(n:Net)(c:Cmd)(id:Int)(h8:b.pools.length<=1000000000)(eP:∀p∈b.pools,p.leases.length<=1000000000):
 MSpec prog 63 [.ptr 0 0,.d (.v (.int .i64 id))] [.box 86 (jK b (.own 1 n.vpcs.length) (.d (.sl 2 (n.links.map bS))) c .zero),.row 55 3 n.vpcs.length (ab (n.vpcs.map au))] (.d (.v (.bool (vu (vZ b) id))))
  [.box 86 (jK b (.own 1 n.vpcs.length) (.d (.sl 2 (n.links.map bS))) c .zero),.row 55 3 n.vpcs.length (ab (n.vpcs.map au))]:=by
 have hu:=Ln.mk (ls:=[]) (Ix b h8 eP);obtain⟨R,hR⟩:∃R,R=vu (vZ b) id:=⟨_,rfl⟩;rw[<-hR];replace hR:=Xi hR;clear h8 eP;generalize vZ b=E at*;refine jC ag am func63 rfl ntmps63 results63 aK ak (by simp[aw,ay]) (by simp[aL,aQ,aw,ay,jK,bu,aF]) ?_;refine aq ?_;refine S7 (fun m e h=>∃(seen:List Nat),(∀i∈seen,∀kv,E[i]? =some kv->kv.2≠id)/\m=Ew E.length seen/\e=[(13,.ptr 4 0),(1,.d (.v (.int .i64 id)))]/\h=[.box 86 (jK b (.own 1 n.vpcs.length) (.d (.sl 2 (n.links.map bS))) c .zero),.row 55 3 n.vpcs.length (ab (n.vpcs.map au)),.gone,.gone,.it 3 true E seen]) _ _ _ ⟨[],by simp,rfl,rfl,rfl⟩ (wf (hbh:=by simp only[jK,aL,eD,aQ,aw,cB,ay,bu,aF,XC,XX,Xz,ZV,decide_true,Yq,Yx])) ?_;rintro m e h ⟨seen,bQ,hm,rfl,rfl⟩ C2 jU;replace bQ:=Xi bQ;refine Ij ag am (by rfl) (D9 (k:=4) (x:= .tmp 13) ag ak rfl rfl rfl rfl rfl rfl zr zr rfl rfl ak ?_ ?_)
 ·intro bO;have hr:R=false:=by
   rw[hR.out];unfold vu;rw[YB];intro h;obtain⟨kv,CV,he⟩:=XR.1 h;obtain⟨i,hi,hie⟩:=X7 CV;exact bQ.out i (bO i hi) kv (by rw[Xj hi,hie]) (by simpa using he)
  rw[hr];clear bO hm hr;change sC _ _ _ _ _ _ _ _ _ _;refine aq ?_;exact wf
 ·intro i hi VT;obtain⟨kv,CV⟩:∃kv,E[i]? =some kv:=⟨_,Xj hi⟩;have hgl:(seen++[i]).getLast? =some i:=ak;have zi:=Iy hi VT;by_cases hid:kv.2=id
  ·have hr:R=true:=by
    rw[hR.out];unfold vu;exact XR.2 ⟨kv,Xk CV,by simpa using hid⟩
   rw[hr];have e1:(kv.2==id)=true:=by simpa using hid
   replace hid:=Xi hid;clear hm zi hr;change sC _ _ _ _ _ _ _ _ _ _;refine aq ?_;exact wf
  ·have e1:(kv.2==id)=false:=by simpa using hid
   have P7:∀j∈seen++[i],∀kw,E[j]? =some kw->kw.2≠id:=fun j hj kw hkw=>by
    rcases X0.1 hj with h|h
    ·exact bQ.out j h kw hkw
    ·simp at h;subst h;rw[CV]at hkw;cases hkw;exact hid
   replace P7:=Xi P7;replace hid:=Xi hid;replace zi:=Xi zi;change sC _ _ _ _ _ _ _ _ _ _;refine aq ?_;exact jU _ _ _ _ _ (by rw[hm];exact zi.out) ⟨_,P7.out,rfl,rfl,rfl⟩ (wf (hbh:=by simp only[jK,aL,eD,aQ,aw,cB,ay,bu,aF,XC,XX,Xz,ZV,decide_true,Yq,Yx]))
def sX (c:Cmd):Bool:=decide (c.op=7\/c.op=15\/c.op=16)
def sY (b:Bok)(n:Net)(c:Cmd):Net × Ans:=
 if c.op=7 then if vu (vZ b) c.a=true then (n,.er 6)else ((jk n c.a).1,.er (jk n c.a).2)
 else if c.op=15 then ((jY n c.a c.b).1,.er (jY n c.a c.b).2)
 else ((ji n c.a c.b).1,.er (ji n c.a c.b).2)
theorem N7 [Flo](b:Bok)(n:Net)(c:Cmd)(h:sX c=false):
 MSpec prog 28 [.ptr 0 0] [.box 86 (jK b (.own 1 n.vpcs.length) (.d (.sl 2 (n.links.map bS))) c .zero),.row 55 3 n.vpcs.length (ab (n.vpcs.map au))] (.d (.v (.bool false)))
  [.box 86 (jK b (.own 1 n.vpcs.length) (.d (.sl 2 (n.links.map bS))) c .zero),.row 55 3 n.vpcs.length (ab (n.vpcs.map au))]:=by
 unfold sX at h;have h:=of_decide_eq_false h;have e1:(c.op==7)=false:=aN;have e2:(c.op==15)=false:=aN;have e3:(c.op==16)=false:=aN;clear h;refine jC ag am func28 rfl ntmps28 results28 aK ak (by simp[aw,ay]) (by simp[aL,aQ,aw,ay,jK,bu,aF]) ?_;refine aq ?_;exact wf
theorem N8 [Flo](b:Bok)(n:Net)(c:Cmd)(h8:b.pools.length<=1000000000)(eP:∀p∈b.pools,p.leases.length<=1000000000)(h:sX c=true):
 MSpec prog 28 [.ptr 0 0] [.box 86 (jK b (.own 1 n.vpcs.length) (.d (.sl 2 (n.links.map bS))) c .zero),.row 55 3 n.vpcs.length (ab (n.vpcs.map au))] (.d (.v (.bool true)))
  [.box 86 (jK b (.d (.sl 3 ((sY b n c).1.vpcs.map au))) (.d (.sl 2 ((sY b n c).1.links.map bS))) c (sY b n c).2),.gone]:=by
 have js:c.op=7\/c.op=15\/c.op=16:=of_decide_eq_true h;clear h;unfold sY;rcases js with h1|h1|h1
 ·rw[ah h1];have ho:=Ln.mk (ls:=[0,1]) (Ux b n c c.a h8 eP);replace eP:=Xi eP;cases hb:vu (vZ b) c.a
  ·rw[hb]at ho;have hp:=Ln.mk (ls:=[1]) (xv (RD n c.a) (args:=[.agg [.own 0 n.vpcs.length,.d (.sl 2 (n.links.map bS))],.d (.v (.int .i64 c.a))]) (h0:=[.row 55 3 n.vpcs.length (ab (n.vpcs.map au))]) (by simp[aw,ay]) (by simp[aL,aQ,aF]) (by simp[vw,cI,br,az,eL,cN]) (by simp[tc,j6,cW,az,nW]));generalize jk n c.a=R at*;simp only[Yz,if_false];simp only[jK,h1]at ho;replace hb:=Xi hb;refine jC ag am func28 rfl ntmps28 results28 aK ak (by simp[aw,ay]) (by simp[aL,aQ,aw,ay,jK,bu,aF]) ?_;refine aq ?_;exact wf
  ·rw[hb]at ho;simp only[if_true];simp only[jK,h1]at ho;replace hb:=Xi hb;refine jC ag am func28 rfl ntmps28 results28 aK ak (by simp[aw,ay]) (by simp[aL,aQ,aw,ay,jK,bu,aF]) ?_;refine aq ?_;refine(av 1 n.vpcs.length 55 3 (n.vpcs.map au) rfl).trans ?_;simp only[eM,fz,ee,dX,eF,d7,aD,aZ,bg,Xl,Xp,Xz,Xx,reduceIte,and_true,true_and,and_self,and_false,false_and,Xw,XG,reduceCtorEq];exact wf
 ·rw[af aa,ah h1];have hp:=Ln.mk (ls:=[1]) (xv (RE n c.a c.b) (args:=[.agg [.own 0 n.vpcs.length,.d (.sl 2 (n.links.map bS))],.d (.v (.int .i64 c.a)),.d (.v (.int .i64 c.b))]) (h0:=[.row 55 3 n.vpcs.length (ab (n.vpcs.map au))]) (by simp[aw,ay]) (by simp[aL,aQ,aF]) (by simp[vw,cI,br,az,eL,cN]) (by simp[tc,j6,cW,az,nW]));generalize jY n c.a c.b=R at*;replace eP:=Xi eP;refine jC ag am func28 rfl ntmps28 results28 aK ak (by simp[aw,ay]) (by simp[aL,aQ,aw,ay,jK,bu,aF]) ?_;refine aq ?_;exact wf
 ·rw[af aa,af aa];have hp:=Ln.mk (ls:=[1]) (xv (Rz n c.a c.b) (args:=[.agg [.own 0 n.vpcs.length,.d (.sl 2 (n.links.map bS))],.d (.v (.int .i64 c.a)),.d (.v (.int .i64 c.b))]) (h0:=[.row 55 3 n.vpcs.length (ab (n.vpcs.map au))]) (by simp[aw,ay]) (by simp[aL,aQ,aF]) (by simp[vw,cI,br,az,eL,cN]) (by simp[tc,j6,cW,az,nW]));generalize ji n c.a c.b=R at*;replace eP:=Xi eP;refine jC ag am func28 rfl ntmps28 results28 aK ak (by simp[aw,ay]) (by simp[aL,aQ,aw,ay,jK,bu,aF]) ?_;refine aq ?_;exact wf
theorem LT {p:Prop}(h:p:=by
 obtain⟨s,hq⟩:∃s,pre[k]? =some s:=⟨_,Xj mo⟩;have hs:v.subs[k]? =some s:=by rw[hL.out,XW mo];exact hq
 have jb:=h8.out s (Xk hs);replace hs:=Xi hs;replace hq:=Xi hq;have mz:=hs.out;refine aq ?_<;>intros;refine bq ag am s.faces (fun _=>True) (fun j=>[(40,.d (.v (.int .i64 j))),(39,.d (.v (.int .i64 s.faces.length))),(38,.d (.sl 2 (s.faces.map bR))),(28,.d (.v (.int .i64 k))),(27,.d (.v (.int .i64 v.subs.length))),(26,.d (.sl 4 (v.subs.map aT))),(8,.ptr 5 0),(5,.ptr 2 0)])
  (fun j=>[.gone,.row 58 3 1 (ab (v.ranges.map bp)),.box 55 [.d (.v (.int .i64 v.id)),.own 1 1,.own 3 k],.row 71 4 k (ab ((pre.take k).map aT)),.gone,.box 71 [.d (.v (.int .i64 s.id)),.d (.v (.int .i64 s.at_.at_)),.d (.v (.int .i64 s.at_.len)),.own 6 j],.row 74 2 j (ab ((s.faces.take j).map bR))]) trivial ?_ ?_ ?_
 ·refine(aJ 4 ak).trans ((ax ak 5 71 [.d (.v (.int .i64 s.id)),.d (.v (.int .i64 s.at_.at_)),.d (.v (.int .i64 s.at_.len)),.d (.v (.slice none 0 0))] 3 74 2 rfl rfl rfl).trans ?_);exact wf (hb:=cH) (hbh:=cH)
 ·intro j f hf hj _ C hC;have lh:(j:Int) < (s.faces.length:Int):=aa;have mW:=wi j aa;have ip:=jb.2 f (Xk hf);have jT:j+1<=100:=aa;have qt:(Ye j s.faces).length=j:=by rw[Xo];omega
  replace hf:=Xi hf;have BE:=hf.out;have z1z:=Ln.mk (ls:=[]) (eW f.addrs aa);refine aq ?_<;>intros;refine hC _ _ trivial ((av 8 1 3 1 (f.addrs.map cm) rfl).trans ?_);simp only[eM,fz,ee,dX,eF,d7,aD,aZ,bg,Xl,Xp,Xz,Xx,reduceIte,and_true,true_and,and_self,and_false,false_and,Xw,XG,reduceCtorEq,da];exact wf (hh:=(by rw[aj hf.out,Xn,Xl,Xp,<-aI];rfl)) (hb:=cH) (hbh:=cH)
 ·intro _ C;refine aq ?_<;>intros;refine uP _ _ _ _ _ ?_ (.inl ⟨k+1,mo,rfl,rfl,rfl⟩) ((av 6 s.faces.length 74 2 (s.faces.map bR) rfl).trans ?_)
  ·have:=hm.out;have:=bV.out;omega
  simp only[eM,fz,ee,dX,eF,d7,aD,aZ,bg,Xl,Xp,Xz,Xx,reduceIte,and_true,true_and,and_self,and_false,false_and,Xw,XG,reduceCtorEq];exact wf (hh:=(by rw[aj hq.out,Xn,Xl,Xp,<-aI];rfl)) (hb:=cH) (hbh:=cH)):p:=h
theorem a2n {p:Prop}(h:p:=by
 intro _ C;have Vs:(Ye k pre).length=k:=by rw[jq.out,Xq]
 refine aq ?_<;>intros;refine uP _ _ _ _ _ ?_ (.inr ⟨k+1,0,by rw[jq.out],XE _,rfl,rfl,rfl⟩) ((aJ 5 ak).trans ?_)
 ·have:=hm.out;have:=bV.out;have:=jq.out;omega
 exact wf (hh:=(by rw[jq.out,Xq];rfl)) (hb:=cH) (hbh:=cH)):p:=h
theorem a2E {p:Prop}(h:p:=by
  rw[hL.out,XI aa,show k - pre.length=q+1 by omega,Yw];exact hq):p:=h
theorem a3c {p:Prop}(h:p:=by
 obtain rfl:q=post.length:=aa;obtain rfl:k=v.subs.length:=by have:=bV.out;omega
 clear Db;refine aq ?_<;>intros;(try rw[Xq])
 exact aW rfl rfl):p:=h
theorem yo [Flo](v:Vpc)(pre post:List Sbn)(s0:Sbn)(hv:v.subs=pre++s0::post)(h:bM v=0)(h4:v.ranges.length<=4)(h6:v.subs.length<=6)(h8:∀s∈v.subs,s.faces.length<=8/\∀f∈s.faces,f.addrs.length<=4):
 MSpec prog 142 [.d (.agg (au v))] [] (.tup [.ptr 2 0,.d (.v (.int .i64 0))]) [.gone,.row 58 3 1 (ab (v.ranges.map bp)),.box 55 [.d (.v (.int .i64 v.id)),.own 1 1,.own 3 v.subs.length],.row 71 4 v.subs.length (fu aT pre (ct s0 (.own 6 s0.faces.length)) post),
  .gone,.gone,.row 74 2 s0.faces.length (ab (s0.faces.map bR))]:=by
 have hc:=py v;rw[h]at hc;replace h:=Xi h;replace h8:=Xi h8;have bP:v.subs.length=pre.length+1+post.length:=by rw[hv];simp;omega
 have hL:=Xi hv;have bV:=Xi bP;clear hv bP;have gB:=jg bp v.ranges aa;refine mj func142 ntmps142 results142 ?_;have z1z:=Ln.mk (ls:=[]) (gB);refine aq ?_<;>intros;refine bL ag am (fun m e h=>(∃k,k<=pre.length/\m=v.subs.length - k/\e=[(28,.d (.v (.int .i64 k))),(27,.d (.v (.int .i64 v.subs.length))),(26,.d (.sl 4 (v.subs.map aT))),(5,.ptr 2 0)]/\
  h=[.gone,.row 58 3 1 (ab (v.ranges.map bp)),.box 55 [.d (.v (.int .i64 v.id)),.own 1 1,.own 3 k],.row 71 4 k (ab ((pre.take k).map aT))])\/
  ∃k j,k=pre.length+1+j/\j<=post.length/\m=v.subs.length - k/\e=[(28,.d (.v (.int .i64 k))),(27,.d (.v (.int .i64 v.subs.length))),(26,.d (.sl 4 (v.subs.map aT))),(5,.ptr 2 0)]/\
   h=[.gone,.row 58 3 1 (ab (v.ranges.map bp)),.box 55 [.d (.v (.int .i64 v.id)),.own 1 1,.own 3 k],.row 71 4 k (fu aT pre (ct s0 (.own 6 s0.faces.length)) (post.take j)),.gone,.gone,.row 74 2 s0.faces.length (ab (s0.faces.map bR))]) _ _ _ (.inl ⟨0,XE _,rfl,rfl,rfl⟩) ?_ ?_
 ·exact a2m
 ·rintro m e h (⟨k,hk,hm,rfl,rfl⟩|⟨k,q,Db,hj,hm,rfl,rfl⟩) CO uP
  ·have dF:(k:Int) < (v.subs.length:Int):=by have:=bV.out;omega
   have cX:=wi k aa;have jQ:k+1<=100:=by have:=bV.out;omega
   have kV:(Ye k pre).length=k:=by rw[Xo];omega
   have hm:=Xi hm;by_cases mo:k < pre.length
   ·exact LT
   ·obtain rfl:k=pre.length:=aa;have hs:v.subs[pre.length]? =some s0:=by rw[hL.out,XI (XA _),YE];rfl
    have jb:=h8.out s0 (Xk hs);replace hs:=Xi hs;have mz:=hs.out;obtain⟨k,jq⟩:∃k,k=pre.length:=⟨_,rfl⟩;obtain⟨s,rP⟩:∃s,s=s0:=⟨_,rfl⟩;rw[<-rP]at jb mz uP ⊢;rw[<-jq]at mz dF cX jQ kV uP ⊢;rw[jq,Xq]at kV;replace rP:=Xi rP;replace jq:=Xi jq;refine aq ?_<;>intros;refine bq ag am s.faces (fun _=>True) (fun j=>[(40,.d (.v (.int .i64 j))),(39,.d (.v (.int .i64 s.faces.length))),(38,.d (.sl 2 (s.faces.map bR))),(28,.d (.v (.int .i64 k))),(27,.d (.v (.int .i64 v.subs.length))),(26,.d (.sl 4 (v.subs.map aT))),(8,.ptr 5 0),(5,.ptr 2 0)])
     (fun j=>[.gone,.row 58 3 1 (ab (v.ranges.map bp)),.box 55 [.d (.v (.int .i64 v.id)),.own 1 1,.own 3 k],.row 71 4 k (ab ((pre.take k).map aT)),.gone,.box 71 [.d (.v (.int .i64 s.id)),.d (.v (.int .i64 s.at_.at_)),.d (.v (.int .i64 s.at_.len)),.own 6 j],.row 74 2 j (ab ((s.faces.take j).map bR))]) trivial ?_ ?_ ?_
    ·exact a1Z
    ·exact ST
    ·exact a2n
  ·have hm:=Xi hm;have tK:=Xi Db;have jQ:pre.length+1+q+1<=100:=by have:=bV.out;omega
   have kV:(Ye q post).length=q:=by rw[Xo];omega
   have wF:k<=v.subs.length:=by have:=bV.out;omega
   by_cases zq:q < post.length
   ·obtain⟨s,hq⟩:∃s,post[q]? =some s:=⟨_,Xj zq⟩;have hs:v.subs[k]? =some s:=a2E
    have jb:=h8.out s (Xk hs);have dF:(k:Int) < (v.subs.length:Int):=by have:=bV.out;omega
    have cX:=wi k aa;replace hq:=Xi hq;replace hs:=Xi hs;have mz:=hs.out;clear Db;refine aq ?_<;>intros;refine bq ag am s.faces (fun _=>True) (fun j=>[(40,.d (.v (.int .i64 j))),(39,.d (.v (.int .i64 s.faces.length))),(38,.d (.sl 2 (s.faces.map bR))),(28,.d (.v (.int .i64 k))),(27,.d (.v (.int .i64 v.subs.length))),(26,.d (.sl 4 (v.subs.map aT))),(8,.ptr 8 0),(5,.ptr 2 0)])
     (fun j=>[.gone,.row 58 3 1 (ab (v.ranges.map bp)),.box 55 [.d (.v (.int .i64 v.id)),.own 1 1,.own 3 k],.row 71 4 k (fu aT pre (ct s0 (.own 6 s0.faces.length)) (post.take q)),.gone,.gone,.row 74 2 s0.faces.length (ab (s0.faces.map bR)),.gone,.box 71 [.d (.v (.int .i64 s.id)),.d (.v (.int .i64 s.at_.at_)),.d (.v (.int .i64 s.at_.len)),.own 9 j],.row 74 2 j (ab ((s.faces.take j).map bR))]) trivial ?_ ?_ ?_
    ·refine(aJ 7 ak).trans ((ax ak 8 71 [.d (.v (.int .i64 s.id)),.d (.v (.int .i64 s.at_.at_)),.d (.v (.int .i64 s.at_.len)),.d (.v (.slice none 0 0))] 3 74 2 rfl rfl rfl).trans ?_);exact wf (hb:=cH) (hbh:=cH)
    ·intro j f hf hj _ C hC;have lh:(j:Int) < (s.faces.length:Int):=aa;have mW:=wi j aa;have ip:=jb.2 f (Xk hf);have jT:j+1<=100:=aa;have qt:(Ye j s.faces).length=j:=by rw[Xo];omega
     replace hf:=Xi hf;have BE:=hf.out;have z1z:=Ln.mk (ls:=[]) (eW f.addrs aa);refine aq ?_<;>intros;refine hC _ _ trivial ((av 11 1 3 1 (f.addrs.map cm) rfl).trans ?_);simp only[eM,fz,ee,dX,eF,d7,aD,aZ,bg,Xl,Xp,Xz,Xx,reduceIte,and_true,true_and,and_self,and_false,false_and,Xw,XG,reduceCtorEq,da];exact wf (hh:=(by rw[aj hf.out,Xn,Xl,Xp,<-aI];rfl)) (hb:=cH) (hbh:=cH)
    ·intro _ C;refine aq ?_<;>intros;refine uP _ _ _ _ _ ?_ (.inr ⟨k+1,q+1,by have:=tK.out;omega,zq,rfl,rfl,rfl⟩) ((av 9 s.faces.length 74 2 (s.faces.map bR) rfl).trans ?_)
     ·exact a2Q
     simp only[eM,fz,ee,dX,eF,d7,aD,aZ,bg,Xl,Xp,Xz,Xx,reduceIte,and_true,true_and,and_self,and_false,false_and,Xw,XG,reduceCtorEq,da,ct];exact wf (hh:=(by rw[aj hq.out,<-lG];rfl)) (hb:=cH) (hbh:=cH)
   ·exact a3c
theorem a2f {p:Prop}(h:p:=by
 obtain rfl:i=postF.length:=aa;obtain rfl:j=s0.faces.length:=by have:=iq.out;omega
 clear kX;have Vs:(Ye k pre).length=k:=by rw[jq.out,Xq]
 refine aq ?_<;>intros;refine uP _ _ _ _ _ ?_ (.inr ⟨k+1,0,by rw[jq.out],XE _,rfl,rfl,rfl⟩) ((aJ 5 ak).trans ?_)
 ·have:=hm.out;have:=bV.out;have:=jq.out;omega
 exact wf (hh:=(by rw[jq.out,Xq];rfl)) (hb:=cH) (hbh:=cH)):p:=h
theorem a4e {p:Prop}(h:p:=by
 have:=iL.out;have:=iq.out;omega):p:=h
theorem a4C {p:Prop}(h:p:=by
  rw[Vt.out,XI aa,show j - preF.length=i+1 by omega,Yw];exact hq):p:=h
theorem N9 [Flo](v:Vpc)(pre post:List Sbn)(s0:Sbn)(preF postF:List Fce)(f0:Fce)(hv:v.subs=pre++s0::post)(Ap:s0.faces=preF++f0::postF)(h:bM v=0)(h4:v.ranges.length<=4)(h6:v.subs.length<=6)(h8:∀s∈v.subs,s.faces.length<=8/\∀f∈s.faces,f.addrs.length<=4):
 MSpec prog 142 [.d (.agg (au v))] [] (.tup [.ptr 2 0,.d (.v (.int .i64 0))]) [.gone,.row 58 3 1 (ab (v.ranges.map bp)),.box 55 [.d (.v (.int .i64 v.id)),.own 1 1,.own 3 v.subs.length],.row 71 4 v.subs.length (fu aT pre (ct s0 (.own 6 s0.faces.length)) post),
  .gone,.gone,.row 74 2 s0.faces.length (fu bR preF (ek f0 (.own 8 1)) postF),.gone,.row 3 1 1 (ab (f0.addrs.map cm))]:=by
 have hc:=py v;rw[h]at hc;replace h:=Xi h;replace h8:=Xi h8;have bP:v.subs.length=pre.length+1+post.length:=by rw[hv];simp;omega
 have hL:=Xi hv;have bV:=Xi bP;clear hv bP;have FV:s0.faces.length=preF.length+1+postF.length:=by rw[Ap];simp;omega
 have Vt:=Xi Ap;have iq:=Xi FV;clear Ap FV;have gB:=jg bp v.ranges aa;refine mj func142 ntmps142 results142 ?_;have z1z:=Ln.mk (ls:=[]) (gB);refine aq ?_<;>intros;refine bL ag am (fun m e h=>(∃k,k<=pre.length/\m=v.subs.length - k/\e=[(28,.d (.v (.int .i64 k))),(27,.d (.v (.int .i64 v.subs.length))),(26,.d (.sl 4 (v.subs.map aT))),(5,.ptr 2 0)]/\
  h=[.gone,.row 58 3 1 (ab (v.ranges.map bp)),.box 55 [.d (.v (.int .i64 v.id)),.own 1 1,.own 3 k],.row 71 4 k (ab ((pre.take k).map aT))])\/
  ∃k j,k=pre.length+1+j/\j<=post.length/\m=v.subs.length - k/\e=[(28,.d (.v (.int .i64 k))),(27,.d (.v (.int .i64 v.subs.length))),(26,.d (.sl 4 (v.subs.map aT))),(5,.ptr 2 0)]/\
   h=[.gone,.row 58 3 1 (ab (v.ranges.map bp)),.box 55 [.d (.v (.int .i64 v.id)),.own 1 1,.own 3 k],.row 71 4 k (fu aT pre (ct s0 (.own 6 s0.faces.length)) (post.take j)),.gone,.gone,.row 74 2 s0.faces.length (fu bR preF (ek f0 (.own 8 1)) postF),.gone,.row 3 1 1 (ab (f0.addrs.map cm))]) _ _ _ (.inl ⟨0,XE _,rfl,rfl,rfl⟩) ?_ ?_
 ·exact a2m
 ·rintro m e h (⟨k,hk,hm,rfl,rfl⟩|⟨k,q,Db,hj,hm,rfl,rfl⟩) CO uP
  ·have dF:(k:Int) < (v.subs.length:Int):=by have:=bV.out;omega
   have cX:=wi k aa;have jQ:k+1<=100:=by have:=bV.out;omega
   have kV:(Ye k pre).length=k:=by rw[Xo];omega
   have hm:=Xi hm;by_cases mo:k < pre.length
   ·exact LT
   ·obtain rfl:k=pre.length:=aa;have hs:v.subs[pre.length]? =some s0:=by rw[hL.out,XI (XA _),YE];rfl
    have jb:=h8.out s0 (Xk hs);replace hs:=Xi hs;have mz:=hs.out;obtain⟨k,jq⟩:∃k,k=pre.length:=⟨_,rfl⟩;rw[<-jq]at mz dF cX jQ kV uP ⊢;rw[jq,Xq]at kV;replace jq:=Xi jq;refine aq ?_<;>intros;refine bL ag am (fun m e h=>(∃j,j<=preF.length/\m=s0.faces.length - j/\e=[(40,.d (.v (.int .i64 j))),(39,.d (.v (.int .i64 s0.faces.length))),(38,.d (.sl 2 (s0.faces.map bR))),(28,.d (.v (.int .i64 k))),(27,.d (.v (.int .i64 v.subs.length))),(26,.d (.sl 4 (v.subs.map aT))),(8,.ptr 5 0),(5,.ptr 2 0)]/\
     h=[.gone,.row 58 3 1 (ab (v.ranges.map bp)),.box 55 [.d (.v (.int .i64 v.id)),.own 1 1,.own 3 k],.row 71 4 k (ab ((pre.take k).map aT)),.gone,.box 71 [.d (.v (.int .i64 s0.id)),.d (.v (.int .i64 s0.at_.at_)),.d (.v (.int .i64 s0.at_.len)),.own 6 j],.row 74 2 j (ab ((preF.take j).map bR))])\/
     ∃j i,j=preF.length+1+i/\i<=postF.length/\m=s0.faces.length - j/\e=[(40,.d (.v (.int .i64 j))),(39,.d (.v (.int .i64 s0.faces.length))),(38,.d (.sl 2 (s0.faces.map bR))),(28,.d (.v (.int .i64 k))),(27,.d (.v (.int .i64 v.subs.length))),(26,.d (.sl 4 (v.subs.map aT))),(8,.ptr 5 0),(5,.ptr 2 0)]/\
      h=[.gone,.row 58 3 1 (ab (v.ranges.map bp)),.box 55 [.d (.v (.int .i64 v.id)),.own 1 1,.own 3 k],.row 71 4 k (ab ((pre.take k).map aT)),.gone,.box 71 [.d (.v (.int .i64 s0.id)),.d (.v (.int .i64 s0.at_.at_)),.d (.v (.int .i64 s0.at_.len)),.own 6 j],.row 74 2 j (fu bR preF (ek f0 (.own 8 1)) (postF.take i)),.gone,.row 3 1 1 (ab (f0.addrs.map cm))]) _ _ _ (.inl ⟨0,XE _,rfl,rfl,rfl⟩) ?_ ?_
    ·refine(aJ 4 ak).trans ((ax ak 5 71 [.d (.v (.int .i64 s0.id)),.d (.v (.int .i64 s0.at_.at_)),.d (.v (.int .i64 s0.at_.len)),.d (.v (.slice none 0 0))] 3 74 2 rfl rfl rfl).trans ?_);exact wf (hb:=cH) (hbh:=cH)
    ·rintro m2 e h (⟨j,hj,iL,rfl,rfl⟩|⟨j,i,kX,hi,iL,rfl,rfl⟩) C hC
     ·have lh:(j:Int) < (s0.faces.length:Int):=by have:=iq.out;omega
      have mW:IntKind.i64.wrap ((j:Int)+1)=((j+1:Nat):Int):=by rw[IntKind.wrap_i64];have:=jb.1;omega
      have jT:j+1<=100:=by have:=jb.1;omega
      have qt:(Ye j preF).length=j:=by rw[Xo];omega
      have iL:=Xi iL;by_cases zq:j < preF.length
      ·obtain⟨f,hq⟩:∃f,preF[j]? =some f:=⟨_,Xj zq⟩;have hf:s0.faces[j]? =some f:=by rw[Vt.out,XW zq];exact hq
       have ip:=jb.2 f (Xk hf);replace hf:=Xi hf;replace hq:=Xi hq;have BE:=hf.out;have z1z:=Ln.mk (ls:=[]) (eW f.addrs aa);refine aq ?_<;>intros;refine hC _ _ _ _ _ ?_ (.inl ⟨j+1,zq,rfl,rfl,rfl⟩) ((av 8 1 3 1 (f.addrs.map cm) rfl).trans ?_)
       ·exact a4e
       simp only[eM,fz,ee,dX,eF,d7,aD,aZ,bg,Xl,Xp,Xz,Xx,reduceIte,and_true,true_and,and_self,and_false,false_and,Xw,XG,reduceCtorEq,da];exact wf (hh:=(by rw[aj hq.out,Xn,Xl,Xp,<-aI];rfl)) (hb:=cH) (hbh:=cH)
      ·obtain rfl:j=preF.length:=aa;have hf:s0.faces[preF.length]? =some f0:=by rw[Vt.out,XI (XA _),YE];rfl
       have ip:=jb.2 f0 (Xk hf);replace hf:=Xi hf;have BE:=hf.out;have z1z:=Ln.mk (ls:=[]) (eW f0.addrs aa);refine aq ?_<;>intros;refine hC _ _ _ _ _ ?_ (.inr ⟨preF.length+1,0,rfl,XE _,rfl,rfl,rfl⟩) ((aJ 7 ak).trans ?_)
       ·exact a4e
       exact wf (hb:=cH) (hbh:=cH)
     ·have iL:=Xi iL;have CQ:=Xi kX;have jT:preF.length+1+i+1<=100:=by have:=iq.out;have:=jb.1;omega
      have hli:(Ye i postF).length=i:=by rw[Xo];omega
      have Pm:j<=s0.faces.length:=by have:=iq.out;omega
      by_cases hip:i < postF.length
      ·obtain⟨f,hq⟩:∃f,postF[i]? =some f:=⟨_,Xj hip⟩;have hf:s0.faces[j]? =some f:=a4C
       have ip:=jb.2 f (Xk hf);have lh:(j:Int) < (s0.faces.length:Int):=by have:=iq.out;omega
       have mW:IntKind.i64.wrap ((j:Int)+1)=((j+1:Nat):Int):=by rw[IntKind.wrap_i64];have:=jb.1;omega
       replace hf:=Xi hf;replace hq:=Xi hq;have BE:=hf.out;clear kX;have z1z:=Ln.mk (ls:=[]) (eW f.addrs aa);refine aq ?_<;>intros;refine hC _ _ _ _ _ ?_ (.inr ⟨j+1,i+1,by have:=CQ.out;omega,hip,rfl,rfl,rfl⟩) ((av 10 1 3 1 (f.addrs.map cm) rfl).trans ?_)
       ·have:=iL.out;have:=iq.out;have:=CQ.out;omega
       simp only[eM,fz,ee,dX,eF,d7,aD,aZ,bg,Xl,Xp,Xz,Xx,reduceIte,and_true,true_and,and_self,and_false,false_and,Xw,XG,reduceCtorEq,da,ek];exact wf (hh:=(by rw[aj hq.out,<-lG];rfl)) (hb:=cH) (hbh:=cH)
      ·exact a2f
  ·have hm:=Xi hm;have tK:=Xi Db;have jQ:pre.length+1+q+1<=100:=by have:=bV.out;omega
   have kV:(Ye q post).length=q:=by rw[Xo];omega
   have wF:k<=v.subs.length:=by have:=bV.out;omega
   by_cases zq:q < post.length
   ·obtain⟨s,hq⟩:∃s,post[q]? =some s:=⟨_,Xj zq⟩;have hs:v.subs[k]? =some s:=a2E
    have jb:=h8.out s (Xk hs);have dF:(k:Int) < (v.subs.length:Int):=by have:=bV.out;omega
    have cX:=wi k aa;replace hq:=Xi hq;replace hs:=Xi hs;have mz:=hs.out;clear Db;refine aq ?_<;>intros;refine bq ag am s.faces (fun _=>True) (fun j=>[(40,.d (.v (.int .i64 j))),(39,.d (.v (.int .i64 s.faces.length))),(38,.d (.sl 2 (s.faces.map bR))),(28,.d (.v (.int .i64 k))),(27,.d (.v (.int .i64 v.subs.length))),(26,.d (.sl 4 (v.subs.map aT))),(8,.ptr 10 0),(5,.ptr 2 0)])
     (fun j=>[.gone,.row 58 3 1 (ab (v.ranges.map bp)),.box 55 [.d (.v (.int .i64 v.id)),.own 1 1,.own 3 k],.row 71 4 k (fu aT pre (ct s0 (.own 6 s0.faces.length)) (post.take q)),.gone,.gone,.row 74 2 s0.faces.length (fu bR preF (ek f0 (.own 8 1)) postF),.gone,.row 3 1 1 (ab (f0.addrs.map cm)),.gone,.box 71 [.d (.v (.int .i64 s.id)),.d (.v (.int .i64 s.at_.at_)),.d (.v (.int .i64 s.at_.len)),.own 11 j],.row 74 2 j (ab ((s.faces.take j).map bR))]) trivial ?_ ?_ ?_
    ·refine(aJ 9 ak).trans ((ax ak 10 71 [.d (.v (.int .i64 s.id)),.d (.v (.int .i64 s.at_.at_)),.d (.v (.int .i64 s.at_.len)),.d (.v (.slice none 0 0))] 3 74 2 rfl rfl rfl).trans ?_);exact wf (hb:=cH) (hbh:=cH)
    ·intro j f hf hj _ C hC;have lh:(j:Int) < (s.faces.length:Int):=aa;have mW:=wi j aa;have ip:=jb.2 f (Xk hf);have jT:j+1<=100:=aa;have qt:(Ye j s.faces).length=j:=by rw[Xo];omega
     replace hf:=Xi hf;have BE:=hf.out;have z1z:=Ln.mk (ls:=[]) (eW f.addrs aa);refine aq ?_<;>intros;refine hC _ _ trivial ((av 13 1 3 1 (f.addrs.map cm) rfl).trans ?_);simp only[eM,fz,ee,dX,eF,d7,aD,aZ,bg,Xl,Xp,Xz,Xx,reduceIte,and_true,true_and,and_self,and_false,false_and,Xw,XG,reduceCtorEq,da];exact wf (hh:=(by rw[aj hf.out,Xn,Xl,Xp,<-aI];rfl)) (hb:=cH) (hbh:=cH)
    ·intro _ C;refine aq ?_<;>intros;refine uP _ _ _ _ _ ?_ (.inr ⟨k+1,q+1,by have:=tK.out;omega,zq,rfl,rfl,rfl⟩) ((av 11 s.faces.length 74 2 (s.faces.map bR) rfl).trans ?_)
     ·exact a2Q
     simp only[eM,fz,ee,dX,eF,d7,aD,aZ,bg,Xl,Xp,Xz,Xx,reduceIte,and_true,true_and,and_self,and_false,false_and,Xw,XG,reduceCtorEq,da,ct];exact wf (hh:=(by rw[aj hq.out,<-lG];rfl)) (hb:=cH) (hbh:=cH)
   ·exact a3c
theorem Ct [Flo]{α:Type}{enc:α->List D}(l:List α)(i j g:Nat)(hi:i < l.length)(hj:j=i+1):
 MSpec prog 147 [.own 0 g,.d (.v (.int .i64 i)),.d (.v (.int .i64 j))] [.row 58 3 g (ab (l.map enc))] (.own 0 (g+1)) [.row 58 3 (g+1) (ab ((l.eraseIdx i).map enc))]:=by
 have h1:((i:Int)==(j:Int))=false:=aN;have bG:¬ab (l.map enc)=[]:=by cases l<;>simp[ab]at hi ⊢
 have hle:(i:Int)<=(j:Int):=aa;have hle2:(j:Int)<=(l.length:Int):=aa;have mX:(l.map enc).length=l.length:=Xs _;have h2:=mE (ab (l.map enc)) i j l.length (by rw[aH,mX];exact hi) hj (by rw[aH,mX]);rw[aH,mX]at h2;have tJ:=Xi hj;clear hj;have L0:j<=l.length:=by have:=tJ.out;omega
 have FQ:min (l.length - j) (l.length - j)=l.length - j:=Zt _;have hlt:i+(l.length - j)<=l.length:=by have:=tJ.out;omega
 have qs:l.length - (i+(l.length - j))=1:=by have:=tJ.out;omega
 have jq:i+(l.length - j)+1<=l.length:=by have:=tJ.out;omega
 have FR:¬aC (ab (l.map enc)) i (((ab (l.map enc)).drop j).take (l.length - j))=[]:=a3n
 refine mj func147 ntmps147 results147 ?_;have z1z:=@Xo.{0};have z2z:=@XO.{0};refine fl ?_ ?_ ?_ ?_ ?_ ?_ ?_ ?_<;>first|(with_reducible exact True.intro)|intros
 rw[gD];exact po (by rw[mX];exact hi) tJ.out mX.symm
theorem Ha [Flo]{α:Type}{enc:α->List D}(l:List α)(i j g:Nat)(hi:i < l.length)(hj:j=i+1):
 MSpec prog 154 [.own 0 g,.d (.v (.int .i64 i)),.d (.v (.int .i64 j))] [.row 71 4 g (ab (l.map enc))] (.own 0 (g+1)) [.row 71 4 (g+1) (ab ((l.eraseIdx i).map enc))]:=by
 have h1:((i:Int)==(j:Int))=false:=aN;have bG:¬ab (l.map enc)=[]:=by cases l<;>simp[ab]at hi ⊢
 have hle:(i:Int)<=(j:Int):=aa;have hle2:(j:Int)<=(l.length:Int):=aa;have mX:(l.map enc).length=l.length:=Xs _;have h2:=mE (ab (l.map enc)) i j l.length (by rw[aH,mX];exact hi) hj (by rw[aH,mX]);rw[aH,mX]at h2;have tJ:=Xi hj;clear hj;have L0:j<=l.length:=by have:=tJ.out;omega
 have FQ:min (l.length - j) (l.length - j)=l.length - j:=Zt _;have hlt:i+(l.length - j)<=l.length:=by have:=tJ.out;omega
 have qs:l.length - (i+(l.length - j))=1:=by have:=tJ.out;omega
 have jq:i+(l.length - j)+1<=l.length:=by have:=tJ.out;omega
 have FR:¬aC (ab (l.map enc)) i (((ab (l.map enc)).drop j).take (l.length - j))=[]:=a3n
 refine mj func154 ntmps154 results154 ?_;have z1z:=@Xo.{0};have z2z:=@XO.{0};refine fl ?_ ?_ ?_ ?_ ?_ ?_ ?_ ?_<;>first|(with_reducible exact True.intro)|intros
 rw[gD];exact po (by rw[mX];exact hi) tJ.out mX.symm
theorem EP [Flo]{α:Type}{enc:α->List D}(l:List α)(i j g:Nat)(hi:i < l.length)(hj:j=i+1):
 MSpec prog 159 [.own 0 g,.d (.v (.int .i64 i)),.d (.v (.int .i64 j))] [.row 74 2 g (ab (l.map enc))] (.own 0 (g+1)) [.row 74 2 (g+1) (ab ((l.eraseIdx i).map enc))]:=by
 have h1:((i:Int)==(j:Int))=false:=aN;have bG:¬ab (l.map enc)=[]:=by cases l<;>simp[ab]at hi ⊢
 have hle:(i:Int)<=(j:Int):=aa;have hle2:(j:Int)<=(l.length:Int):=aa;have mX:(l.map enc).length=l.length:=Xs _;have h2:=mE (ab (l.map enc)) i j l.length (by rw[aH,mX];exact hi) hj (by rw[aH,mX]);rw[aH,mX]at h2;have tJ:=Xi hj;clear hj;have L0:j<=l.length:=by have:=tJ.out;omega
 have FQ:min (l.length - j) (l.length - j)=l.length - j:=Zt _;have hlt:i+(l.length - j)<=l.length:=by have:=tJ.out;omega
 have qs:l.length - (i+(l.length - j))=1:=by have:=tJ.out;omega
 have jq:i+(l.length - j)+1<=l.length:=by have:=tJ.out;omega
 have FR:¬aC (ab (l.map enc)) i (((ab (l.map enc)).drop j).take (l.length - j))=[]:=a3n
 refine mj func159 ntmps159 results159 ?_;have z1z:=@Xo.{0};have z2z:=@XO.{0};refine fl ?_ ?_ ?_ ?_ ?_ ?_ ?_ ?_<;>first|(with_reducible exact True.intro)|intros
 rw[gD];exact po (by rw[mX];exact hi) tJ.out mX.symm
section
open Go.Proofs Go.Shelf
theorem Uy (x y:SRow NV 4)(W:World):Calls prog 152 #[.agg x.xs.toArray,.agg y.xs.toArray] W fun e w'=>e= .returned (.int .i64 (FZ x y))/\∃q os',w'=Sort.grow (W.drewN q) os':=by
 obtain⟨xs,xl,x1,a,xh⟩:=x;obtain⟨ys,yl,y1,b,yh⟩:=y;match xs,xl,ys,yl with
 |[u0,u1,u2,u3],_,[v0,v1,v2,v3],_=>
  simp[NV]at xh yh;subst xh;subst yh;have hc:=jh a b;unfold FZ;simp only;generalize eN a b=r at*;replace hc:=Xi hc;clear x1 y1;go_enter func152,ntmps152
  go_wp2_with fail
  refine(hc.out _).mono ?_;rintro e w1 ⟨rfl,rfl⟩;go_wp2_with fail
  go_ret
  exact⟨ce rfl,0,_,by rw[Sort.alloc_eq_grow,Sort.alloc_eq_grow,Sort.grow_grow];rfl⟩
theorem Oa [Flo]{l l':List Sbn}(g:Nat)(qR:l≠[])(hp:l'.Perm l)(hs:l'.Pairwise fun x y=>(fun s:Sbn=>s.id) x < (fun s:Sbn=>s.id) y)(cK:l.length<=1000000):
 MSpec prog 151 [.own 0 g,.d (.clo 152 [])] [.row 71 4 g (ab (l.map aT))] (.d (.tup [])) [.row 71 4 g (ab (l'.map aT))]:=
 wA sortSub rfl (cS func151 aK rfl) isAgg71 sizeOf71 (enters_of func152 aK rfl) Uy aT (fun s:Sbn=>s.id) (fun _=>rfl) qR hp hs cK
theorem RF (x y:SRow NV 2)(W:World):Calls prog 157 #[.agg x.xs.toArray,.agg y.xs.toArray] W fun e w'=>e= .returned (.int .i64 (FZ x y))/\∃q os',w'=Sort.grow (W.drewN q) os':=by
 obtain⟨xs,xl,x1,a,xh⟩:=x;obtain⟨ys,yl,y1,b,yh⟩:=y;match xs,xl,ys,yl with
 |[u0,u1],_,[v0,v1],_=>
  simp[NV]at xh yh;subst xh;subst yh;have hc:=jh a b;unfold FZ;simp only;generalize eN a b=r at*;replace hc:=Xi hc;clear x1 y1;go_enter func157,ntmps157
  go_wp2_with fail
  refine(hc.out _).mono ?_;rintro e w1 ⟨rfl,rfl⟩;go_wp2_with fail
  go_ret
  exact⟨ce rfl,0,_,by rw[Sort.alloc_eq_grow,Sort.alloc_eq_grow,Sort.grow_grow];rfl⟩
theorem KO [Flo]{l l':List Fce}(g:Nat)(qR:l≠[])(hp:l'.Perm l)(hs:l'.Pairwise fun x y=>(fun f:Fce=>f.id) x < (fun f:Fce=>f.id) y)(cK:l.length<=1000000):
 MSpec prog 156 [.own 0 g,.d (.clo 157 [])] [.row 74 2 g (ab (l.map bR))] (.d (.tup [])) [.row 74 2 g (ab (l'.map bR))]:=
 wA sortFace rfl (cS func156 aK rfl) isAgg74 sizeOf74 (enters_of func157 aK rfl) RF bR (fun f:Fce=>f.id) (fun _=>rfl) qR hp hs cK
end
def Rng.zero:Rng:=⟨⟨0,0⟩,0⟩
def dU (v:Vpc)(p:Pfx):Vpc × Rng × Int:=
 if bM v≠0 then (Vpc.zero,Rng.zero,bM v)else
 match v.ranges.findIdx? (fun r=>decide (r.at_=p))with
 |none=>(Vpc.zero,Rng.zero,5)
 |some i=>if (v.subs.any fun s=>dS s.at_ p)=true then (Vpc.zero,Rng.zero,9)else ({v with ranges:=v.ranges.eraseIdx i},v.ranges.getD i Rng.zero,0)
theorem RG [Flo](r:Rng)(p:Pfx):ai prog 144 [.agg (bp r),.ept (aS p)] (.v (.bool (decide (r.at_=p)))):=by
 have he:=yg r.at_ p;rw[<-he];replace he:=Xi he;refine pj func144 ntmps144 results144 ?_;exact aY
theorem RH [Flo](s:Sbn)(p:Pfx):ai prog 146 [.agg (aT s),.ept (aS p)] (.v (.bool (dS s.at_ p))):=by
 have hi:ai prog 43 [.agg (aS s.at_),.agg (aS p)] (.v (.bool (dS s.at_ p))):=Eh _ _;refine pj func146 ntmps146 results146 ?_;exact aY
theorem RI [Flo](v:Vpc)(p:Pfx):ai prog 69 [.agg (au v),.agg (aS p)] (.tup [.agg (au (dU v p).1),.agg (bp (dU v p).2.1),.v (.int .i64 (dU v p).2.2)]):=by
 obtain⟨R,hR⟩:∃R,R=dU v p:=⟨_,rfl⟩;rw[<-hR];replace hR:=Xi hR;by_cases hc:bM v=0
 ·have hk:=be hc;have cV:=l9 v hc hk.n4 hk.n6 hk.n8;have qQ:=xx nm (fun r=>decide (r.at_=p)) v.ranges 144 [.ept (aS p)] (by have:=hk.n4;omega) (fun r _=>RG r p);have oZ:=xz nl (fun s=>dS s.at_ p) v.subs 146 [.ept (aS p)] (by have:=hk.n6;omega) (fun s _=>RH s p);unfold cq at qQ;cases hf:v.ranges.findIdx? (fun r=>decide (r.at_=p))with
  |none=>
   rw[hf]at qQ;have hr:R=(Vpc.zero,Rng.zero,5):=by rw[hR.out];unfold dU;rw[af (by simpa using hc),hf]
   rw[hr];clear hr hR hf hc hk;refine pj func69 ntmps69 results69 ?_;have z1z:=Ln.mk (ls:=[]) (cV);refine aq ?_<;>intros;exact dg
  |some i=>
   rw[hf]at qQ;have hi:i < v.ranges.length:=(XK.1 hf).1;obtain⟨g,hg⟩:∃g,v.ranges[i]? =some g:=⟨_,Xj hi⟩;have mC:decide ((i:Int) < 0)=false:=ak;have LO:=hk.n4;cases ha:v.subs.any fun s=>dS s.at_ p with
   |true=>
    rw[ha]at oZ;have hr:R=(Vpc.zero,Rng.zero,9):=by rw[hR.out];unfold dU;rw[af (by simpa using hc),hf];simp only;rw[ah ha]
    rw[hr];clear hr hR hf hc hk;refine pj func69 ntmps69 results69 ?_;have z1z:=Ln.mk (ls:=[]) (cV);refine aq ?_<;>intros;exact dg
   |false=>
    rw[ha]at oZ;have hr:R=({v with ranges:=v.ranges.eraseIdx i},g,0):=by
     rw[hR.out];unfold dU;rw[af (by simpa using hc),hf];simp only;rw[af (by simp[ha])];rw[XJ,hg];rfl
    have hd:=Ct (enc:=bp) v.ranges i (i+1) 1 hi rfl;have cX:=wi i aa;rw[hr];clear hr hR hf hc hk;refine pj func69 ntmps69 results69 ?_;have z1z:=Ln.mk (ls:=[]) (cV);have z2z:=Ln.mk (ls:=[5]) (hd);exact aY;all_goals exact dg
 ·have cV:=l8 v hc;have h1:(bM v !=0)=true:=by simpa using hc
  have hr:R=(Vpc.zero,Rng.zero,bM v):=by rw[hR.out];unfold dU;rw[ah hc]
  rw[hr];replace hr:=Xi hr;refine pj func69 ntmps69 results69 ?_;have z1z:=Ln.mk (ls:=[]) (cV);refine aq ?_<;>intros;exact dg
def mc (v:Vpc)(id:Int)(p:Pfx):Int:=
 if cD id=false\/fW v p=false then 3 else
 if (v.subs.any fun s=>(s.id==id)||s.at_.meets p)=true then 6 else if v.subs.length=6 then 2 else 0
def oW (v:Vpc)(id:Int)(p:Pfx):Vpc × Int:=
 if bM v≠0 then (Vpc.zero,bM v)else if mc v id p≠0 then (Vpc.zero,mc v id p)else ({v with subs:=dn (·.id) ⟨id,p,[]⟩ v.subs},0)
theorem Uz [Flo](s:Sbn)(id:Int)(p:Pfx):ai prog 150 [.agg (aT s),.ept [.v (.int .i64 id)],.ept (aS p)] (.v (.bool ((s.id==id)||s.at_.meets p))):=by
 have hm:ai prog 19 [.agg (aS s.at_),.agg (aS p)] (.v (.bool (s.at_.meets p))):=qd _ _;cases h1:s.id==id;all_goals
  refine pj func150 ntmps150 results150 ?_;exact aY
theorem UA [Flo](v:Vpc)(id:Int)(p:Pfx):ai prog 70 [.agg (au v),.v (.int .i64 id),.agg (aS p)] (.tup [.agg (au (oW v id p).1),.v (.int .i64 (oW v id p).2)]):=by
 obtain⟨R,hR⟩:∃R,R=oW v id p:=⟨_,rfl⟩;rw[<-hR];replace hR:=Xi hR;by_cases hc:bM v=0
 ·have hk:=be hc;have cV:=l9 v hc hk.n4 hk.n6 hk.n8;have hid:=lO id;have hho:=sI v p (by have:=hk.n4;omega);have oZ:=xz nl (fun s=>(s.id==id)||s.at_.meets p) v.subs 150 [.ept [.v (.int .i64 id)],.ept (aS p)] (by have:=hk.n6;omega) (fun s _=>Uz s id p);have aR:R=if mc v id p≠0 then (Vpc.zero,mc v id p)else ({v with subs:=dn (·.id) ⟨id,p,[]⟩ v.subs},0):=by rw[hR.out];unfold oW;rw[af (by simpa using hc)]
  have F8:=hk.n6;by_cases bE:mc v id p≠0
  ·rw[ah bE]at aR;unfold mc at aR bE;generalize fW v p=K at*;generalize cD id=I at*;generalize (v.subs.any fun s=>(s.id==id)||s.at_.meets p)=M at*;replace aR:=Xi aR;replace bE:=Xi bE;clear hR hc hk;have VW:((v.subs.length:Int)==6)=decide (v.subs.length=6):=by rw[Yi];simp;omega
   refine pj func70 ntmps70 results70 ?_;have z1z:=Ln.mk (ls:=[]) (cV);refine fl ?_ ?_ ?_ ?_ ?_ ?_ ?_ ?_<;>first|(with_reducible exact True.intro)|intros
   all_goals
    have h1:=aR.out;have h2:=bE.out;clear hid hho oZ cV;first
     |(exfalso;grind)
     |(rw[show R=(Vpc.zero,3) from (by rw[h1];grind)];exact dg)
     |(rw[show R=(Vpc.zero,6) from (by rw[h1];grind)];exact dg)
     |(rw[show R=(Vpc.zero,2) from (by rw[h1];grind)];exact dg)
  ·rw[af bE]at aR;have hg:mc v id p=0:=by simpa using bE
   obtain⟨g1,g2,g3,g4⟩:fW v p=true/\cD id=true/\(v.subs.any fun s=>(s.id==id)||s.at_.meets p)=false/\v.subs.length≠6:=by
    unfold mc at hg;generalize (v.subs.any fun s=>(s.id==id)||s.at_.meets p)=M at*;grind
   have bG:∀s∈v.subs,s.id≠(⟨id,p,[]⟩:Sbn).id:=fun s hs=>by have:=Yh.1 g3 s hs;simp at this;exact this.1
   have oY:=Oa (l:=v.subs++[⟨id,p,[]⟩]) (l':=dn (·.id) ⟨id,p,[]⟩ v.subs) (v.subs.length+1) ak (gH _ _ _) (hU hk.rs bG) aN;rw[g1]at hho;rw[g2]at hid;rw[g3]at oZ;have VW:((v.subs.length:Int)==6)=false:=aN;have jQ:v.subs.length+1<=100:=aa;simp only[Xn,Xl,Xp]at oY;have oY:=oY.leh (sv (A:=v.subs.map aT) (B:=[]) (r:=[.v (.int .i64 id),.v (.int .i64 p.at_),.v (.int .i64 p.len),.v (.slice none 0 0)]) dg) (by have:=lK (enc:=aT) (fun _=>rfl) (v.subs++[⟨id,p,[]⟩]);simpa using this) (aF _ _);rw[aR];clear hR aR hc hk bG hg bE;refine pj func70 ntmps70 results70 ?_;have z1z:=Ln.mk (ls:=[]) (cV);have z2z:=Ln.mk (ls:=[7]) (oY);exact aY
 ·have cV:=l8 v hc;have h1:(bM v !=0)=true:=by simpa using hc
  have hr:R=(Vpc.zero,bM v):=by rw[hR.out];unfold oW;rw[ah hc]
  rw[hr];replace hr:=Xi hr;refine pj func70 ntmps70 results70 ?_;have z1z:=Ln.mk (ls:=[]) (cV);refine aq ?_<;>intros;exact dg
def uA (v:Vpc)(i:Nat)(id:Int):Int:=match v.subs[i]? with|some s=>cq (fun f=>f.id==id) s.faces|none=> -1
def yp (v:Vpc)(sub id:Int):Int × Int:=match v.subs.findIdx? (fun s=>s.id==sub)with|none=>(-1,-1)|some i=>(i,uA v i id)
theorem EQ [Flo](s:Sbn)(id:Int):ai prog 216 [.agg (aT s),.ept [.v (.int .i64 id)]] (.v (.bool (s.id==id))):=by
 refine pj func216 ntmps216 results216 ?_;exact aY
theorem Ob [Flo](f:Fce)(id:Int):ai prog 218 [.agg (bR f),.ept [.v (.int .i64 id)]] (.v (.bool (f.id==id))):=by
 refine pj func218 ntmps218 results218 ?_;exact aY
theorem wB [Flo](v:Vpc)(sub id:Int)(h6:v.subs.length<=6)(h8:∀s∈v.subs,s.faces.length<=8):ai prog 153 [.ept (au v),.v (.int .i64 sub),.v (.int .i64 id)] (.tup [.v (.int .i64 (yp v sub id).1),.v (.int .i64 (yp v sub id).2)]):=by
 have qQ:=xy nl (fun s=>s.id==sub) v.subs 216 [.ept [.v (.int .i64 sub)]] aa (fun s _=>EQ s sub);unfold yp;unfold cq at qQ;cases hf:v.subs.findIdx? (fun s=>s.id==sub)with
 |none=>
  rw[hf]at qQ;replace hf:=Xi hf;refine pj func153 ntmps153 results153 ?_;exact aY;all_goals exact dg
 |some i=>
  rw[hf]at qQ;have hi:i < v.subs.length:=(XK.1 hf).1;obtain⟨s,hs⟩:∃s,v.subs[i]? =some s:=⟨_,Xj hi⟩;have mC:decide ((i:Int) < 0)=false:=ak;have hfx:=AV xr (fun f=>f.id==id) s.faces 218 [.ept [.v (.int .i64 id)]] (by have:=h8 s (Xk hs);omega) (fun f _=>Ob f id);unfold uA;simp only;rw[hs];replace hf:=Xi hf;refine pj func153 ntmps153 results153 ?_;exact aY;all_goals exact dg
def fO (v:Vpc)(id:Int):Vpc × Int:=
 if bM v≠0 then (Vpc.zero,bM v)else
 match v.subs.findIdx? (fun s=>s.id==id)with
 |none=>(Vpc.zero,5)
 |some i=>if (v.subs[i]?.map fun s=>s.faces.length)≠some 0 then (Vpc.zero,9)else ({v with subs:=v.subs.eraseIdx i},0)
theorem uB [Flo](sub id:Int):ai prog 153 [.ept [.v (.int .i64 0),.v (.slice none 0 0),.v (.slice none 0 0)],.v (.int .i64 sub),.v (.int .i64 id)] (.tup [.v (.int .i64 (-1)),.v (.int .i64 (-1))]):=by
 have qQ:=(xy nl (fun s=>s.id==sub) [] 216 [.ept [.v (.int .i64 sub)]] ak (fun s _=>EQ s sub)).args (ds:=[.v (.slice none 0 0),.clo 216 [.ept [.v (.int .i64 sub)]]]) ⟨aO.nil _,aO.refl _,trivial⟩;unfold cq at qQ;simp only[List.findIdx?_nil]at qQ;refine pj func153 ntmps153 results153 ?_;exact aY
theorem RJ [Flo](v:Vpc)(id:Int):ai prog 71 [.agg (au v),.v (.int .i64 id)] (.tup [.agg (au (fO v id).1),.v (.int .i64 (fO v id).2)]):=by
 obtain⟨R,hR⟩:∃R,R=fO v id:=⟨_,rfl⟩;rw[<-hR];replace hR:=Xi hR;by_cases hc:bM v=0
 ·have hk:=be hc;have cV:=l9 v hc hk.n4 hk.n6 hk.n8;have iI:=wB v id 0 hk.n6 (fun s hs=>(hk.n8 s hs).1);have F8:=hk.n6;unfold yp at iI;cases hf:v.subs.findIdx? (fun s=>s.id==id)with
  |none=>
   rw[hf]at iI;have hr:R=(Vpc.zero,5):=by rw[hR.out];unfold fO;rw[af (by simpa using hc),hf]
   rw[hr];clear hr hR hf hc hk;refine pj func71 ntmps71 results71 ?_;have z1z:=Ln.mk (ls:=[]) (cV);refine aq ?_<;>intros;exact dg
  |some i=>
   rw[hf]at iI;have hi:i < v.subs.length:=(XK.1 hf).1;obtain⟨s,hs⟩:∃s,v.subs[i]? =some s:=⟨_,Xj hi⟩;have mC:decide ((i:Int) < 0)=false:=ak;simp only at iI;generalize uA v i 0=FI at iI;by_cases h0:s.faces.length=0
   ·have hr:R=({v with subs:=v.subs.eraseIdx i},0):=by rw[hR.out];unfold fO;rw[af (by simpa using hc),hf];simp only;rw[hs];simp[h0]
    have hd:=Ha (enc:=aT) v.subs i (i+1) v.subs.length hi rfl;have cX:=wi i aa;have h0b:decide ((s.faces.length:Int)>0)=false:=by simp[h0]
    rw[hr];clear hr hR hf hc hk h0;refine pj func71 ntmps71 results71 ?_;have z1z:=Ln.mk (ls:=[]) (cV);have z2z:=Ln.mk (ls:=[5]) (hd);exact aY;all_goals exact dg
   ·have hr:R=(Vpc.zero,9):=by rw[hR.out];unfold fO;rw[af (by simpa using hc),hf];simp only;rw[hs];simp[h0]
    have h0b:decide ((s.faces.length:Int)>0)=true:=aN;rw[hr];clear hr hR hf hc hk h0;refine pj func71 ntmps71 results71 ?_;have z1z:=Ln.mk (ls:=[]) (cV);refine aq ?_<;>intros;all_goals exact dg
 ·have cV:=l8 v hc;have hfz:=uB id 0;have h1:(bM v !=0)=true:=by simpa using hc
  have hr:R=(Vpc.zero,bM v):=by rw[hR.out];unfold fO;rw[ah hc]
  rw[hr];replace hr:=Xi hr;refine pj func71 ntmps71 results71 ?_;have z1z:=Ln.mk (ls:=[]) (cV);refine aq ?_<;>intros;exact dg
def gj (used:List Int)(p:Pfx):Nat->Int->Option Int
 |0,_=>none
 |n+1,a=>if jD p a=true then (if a∈used then gj used p n (a+1)else some a)else none
def eT (s:Sbn):Option Int:=gj (s.faces.flatMap (·.addrs)) s.at_ 65536 (s.at_.at_+1)
theorem Cu {p:Pfx}{a:Int}(h:jD p a=true):p.right=true/\p.at_ < a/\a < p.hi - 1/\a<=65535:=by
 unfold jD at h;simp only[Xv,decide_eq_true_eq]at h;have hr:=nu.1 (by rw[<-px];exact h.1);have hb:=p.hi_bd hr.1;have:p.hi=p.at_+eV p.len:=rfl;exact⟨hr.1,by omega,by omega,by omega⟩
theorem IQ [Flo](s:Sbn)(h8:s.faces.length<=8)(h4:∀f∈s.faces,f.addrs.length<=4)(hr:s.at_.right=true)(ml:(s.faces.flatMap (·.addrs)).Nodup):ai prog 155 [.agg (aT s)] (.tup [.v (.int .i64 ((eT s).getD 0)),.v (.bool (eT s).isSome)]):=by
 obtain⟨r1,r2,r3,r4,-⟩:=s.at_.bd hr;replace ml:=Xi ml;refine pj func155 ntmps155 results155 ?_;refine aq ?_<;>intros;refine bL ag am (fun m e h=>∃(k:Nat) (ents:List (List Int × Int)),k<=s.faces.length/\Ue ents ((s.faces.take k).flatMap (·.addrs))/\m=s.faces.length - k/\
  e=[(14,.d (.v (.int .i64 k))),(13,.d (.v (.int .i64 s.faces.length))),(12,.d (.sl 2 (s.faces.map bR))),(4,.mref 1),(3,.d (.v (.bool false))),(2,.d (.v (.int .i64 0))),(1,.ptr 0 0)]/\h=[.box 71 ((aT s).map .d),.mp 1 false ents]) _ _ _ ⟨0,[],XE _,Is,rfl,rfl,rfl⟩ (wf) ?_
 rintro m e h ⟨k,ents,hk,qx,hm,rfl,rfl⟩ C hC;by_cases hlt:k < s.faces.length
 ·have dF:(k:Int) < (s.faces.length:Int):=aa;have cX:=wi k aa;obtain⟨f,hf⟩:∃f,s.faces[k]? =some f:=⟨_,Xj hlt⟩;have ip:=h4 f (Xk hf);replace hm:=Xi hm;replace qx:=Xi qx;refine aq ?_<;>intros;refine bL ag am (fun m e h=>∃(j:Nat) (ents:List (List Int × Int)),j<=f.addrs.length/\Ue ents ((s.faces.take k).flatMap (·.addrs)++f.addrs.take j)/\m=f.addrs.length - j/\
   e=[(21,.d (.v (.int .i64 j))),(20,.d (.v (.int .i64 f.addrs.length))),(19,.d (.sl 1 (f.addrs.map cm))),(14,.d (.v (.int .i64 k))),(13,.d (.v (.int .i64 s.faces.length))),(12,.d (.sl 2 (s.faces.map bR))),(4,.mref 1),(3,.d (.v (.bool false))),(2,.d (.v (.int .i64 0))),(1,.ptr 0 0)]/\h=[.box 71 ((aT s).map .d),.mp 1 false ents]) _ _ _ ⟨0,ents,XE _,by simpa using qx.out,rfl,rfl,rfl⟩ (wf) ?_
  rintro m2 e h ⟨j,en2,hj,jP,iL,rfl,rfl⟩ C2 jU;by_cases qt:j < f.addrs.length
  ·have lh:(j:Int) < (f.addrs.length:Int):=aa;have mW:=wi j aa;obtain⟨a,ha⟩:∃a,f.addrs[j]? =some a:=⟨_,Xj qt⟩;have U4:=jP a;have iV:f.addrs.take (j+1)=f.addrs.take j++[a]:=aj ha;have hd:a∉(s.faces.take k).flatMap (·.addrs)++f.addrs.take j:=by
    have yZ:((s.faces.take k).flatMap (·.addrs)++f.addrs.take (j+1)).Sublist (s.faces.flatMap (·.addrs)):=by
     conv=>rhs;rw[<-YV k s.faces,kJ hf,Zu,List.flatMap_cons]
     exact List.Sublist.append (List.Sublist.refl _) ((_a _ _).trans (List.sublist_append_left _ _))
    have:=yZ.nodup ml.out;rw[iV,<-X3,rn]at this;exact this.2
   rw[af hd]at U4;have fP:=Ej jP hd;replace jP:=Xi jP;replace fP:=Xi fP;replace iL:=Xi iL;replace iV:=Xi iV;have cM:IntKind.i64.wrap 1=1:=zr;refine aq ?_<;>intros;refine jU _ _ _ _ _ ?_ ⟨j+1,nd en2 [a] 1,qt,?_,rfl,rfl,rfl⟩ (wf)
   ·have:=iL.out;omega
   ·rw[iV.out,<-X3];exact fP.out
  ·obtain rfl:j=f.addrs.length:=aa;rw[Xq]at jP;have wh:(s.faces.take (k+1)).flatMap (·.addrs)=(s.faces.take k).flatMap (·.addrs)++f.addrs:=by rw[aj hf,Zu];simp
   replace iL:=Xi iL;replace jP:=Xi jP;replace wh:=Xi wh;refine aq ?_<;>intros;refine hC _ _ _ _ _ ?_ ⟨k+1,en2,hlt,?_,rfl,rfl,rfl⟩ (wf)
   ·have:=hm.out;omega
   ·rw[wh.out];exact jP.out
 ·obtain rfl:k=s.faces.length:=aa;rw[Xq]at qx;replace qx:=Xi qx;replace hm:=Xi hm;have co:IntKind.i64.wrap (s.at_.at_+1)=s.at_.at_+1:=by rw[IntKind.wrap_i64];omega
  refine aq ?_<;>intros;refine bL ag am (fun m e h=>∃(i:Nat) (a:Int),i<=65536/\a=s.at_.at_+1+i/\eT s=gj (s.faces.flatMap (·.addrs)) s.at_ (65536 - i) a/\m=65536 - i/\
   e=[(9,.d (.v (.int .i64 a))),(4,.mref 1),(3,.d (.v (.bool false))),(2,.d (.v (.int .i64 0))),(1,.ptr 0 0)]/\h=[.box 71 ((aT s).map .d),.mp 1 false ents]) 65536 _ _ ⟨0,s.at_.at_+1,XE _,by simp,rfl,rfl,rfl,rfl⟩ (wf) ?_
  rintro m2 e h ⟨i,a,hi,haa,hle,iL,rfl,rfl⟩ C2 jU;have dM:=Iq s.at_ a;cases b1:jD s.at_ a with
  |false=>
   rw[b1]at dM;have kU:eT s=none:=by
    rw[hle];cases 65536 - i with
    |zero=>rfl
    |succ n=>rw[gj,af (by simp[b1])]
   replace hle:=Xi hle;replace haa:=Xi haa;replace iL:=Xi iL;rw[kU];exact aY;all_goals exact dg
  |true=>
   have hb:=Cu b1;obtain⟨n,hn⟩:∃n,65536 - i=n+1:=⟨65536 - i - 1,by omega⟩;rw[hn,gj,ah b1]at hle;rw[b1]at dM;have U4:=qx.out a;have CX:IntKind.i64.wrap (a+1)=a+1:=by rw[IntKind.wrap_i64];omega
   replace haa:=Xi haa;replace iL:=Xi iL;by_cases hu:a∈s.faces.flatMap (·.addrs)
   ·rw[ah hu]at U4 hle;replace hle:=Xi hle;refine aq ?_<;>intros;refine jU _ _ _ _ _ ?_ ⟨i+1,a+1,by omega,by rw[haa.out];omega,?_,rfl,rfl,rfl⟩ (wf)
    ·have:=iL.out;omega
    ·rw[hle.out];congr 1;omega
   ·rw[af hu]at U4 hle;rw[hle];replace hle:=Xi hle;exact aY;all_goals exact dg
theorem qj {v:Vpc}(hk:VpcOK v){s:Sbn}(hs:s∈v.subs):s.at_.right=true/\(s.faces.flatMap (·.addrs)).Nodup/\(s.faces.Pairwise fun a b=>a.id < b.id)/\∀f∈s.faces,lQ s.at_ f=true:=by
 have h:=hk.subs s hs;unfold nx fW dJ at h;simp only[Xv,XR,XD,decide_eq_true_eq,gG]at h;obtain⟨-,⟨r,-,hr⟩,h1,h2,h3⟩:=h;exact⟨(fH.1 hr).1,h2,h3,h1⟩
theorem gk {α:Type}{p:α->Bool}{l:List α}{i:Nat}(h:l.findIdx? p=some i):∃pre x post,l=pre++x::post/\pre.length=i/\p x=true/\l[i]? =some x:=by
 obtain⟨hlt,hp,-⟩:=XK.1 h;exact⟨l.take i,l[i],l.drop (i+1),by rw[Z6,YV],by rw[Xo];omega,hp,Xj hlt⟩
def lz (s:Sbn)(id:Int):Int:=
 if cD id=false then 3 else if (s.faces.any fun f=>f.id==id)=true then 6 else if s.faces.length=8 then 2 else if (eT s).isSome=false then 8 else 0
def ik (v:Vpc)(sub id:Int):Vpc × Int × Int:=
 if bM v≠0 then (Vpc.zero,0,bM v)else
 match v.subs.findIdx? (fun s=>s.id==sub)with
 |none=>(Vpc.zero,0,5)
 |some i=>match v.subs[i]? with
  |none=>(Vpc.zero,0,5)
  |some s=>if lz s id≠0 then (Vpc.zero,0,lz s id)else ({v with subs:=v.subs.set i {s with faces:=dn (·.id) ⟨id,[(eT s).getD 0]⟩ s.faces}},(eT s).getD 0,0)
theorem RM [Flo](v:Vpc)(sub id:Int):ai prog 72 [.agg (au v),.v (.int .i64 sub),.v (.int .i64 id)] (.tup [.agg (au (ik v sub id).1),.v (.int .i64 (ik v sub id).2.1),.v (.int .i64 (ik v sub id).2.2)]):=by
 obtain⟨R,hR⟩:∃R,R=ik v sub id:=⟨_,rfl⟩;rw[<-hR];replace hR:=Xi hR;by_cases hc:bM v=0
 ·have hk:=be hc;have iI:=wB v sub id hk.n6 (fun s hs=>(hk.n8 s hs).1);unfold yp at iI;cases hf:v.subs.findIdx? (fun s=>s.id==sub)with
  |none=>
   have cV:=l9 v hc hk.n4 hk.n6 hk.n8;rw[hf]at iI;have hr:R=(Vpc.zero,0,5):=by rw[hR.out];unfold ik;rw[af (by simpa using hc),hf]
   rw[hr];clear hr hR hf hc hk;refine pj func72 ntmps72 results72 ?_;have z1z:=Ln.mk (ls:=[]) (cV);refine aq ?_<;>intros;exact dg
  |some i=>
   obtain⟨pre,s,post,hv,gz,-,hs⟩:=gk hf;have mQ:=Xk hs;obtain⟨s1,s2,s3,s4⟩:=qj hk mQ;have jb:=hk.n8 s mQ;have cV:=yo v pre post s hv hc hk.n4 hk.n6 hk.n8;have hle:=IQ s jb.1 jb.2 s1 s2;have hid:=lO id;have jO:=gp (fun f=>f.id==id) s.faces;have mC:decide ((i:Int) < 0)=false:=ak;have aR:R=if lz s id≠0 then (Vpc.zero,0,lz s id)else ({v with subs:=pre++{s with faces:=dn (·.id) ⟨id,[(eT s).getD 0]⟩ s.faces}::post},(eT s).getD 0,0):=by
    rw[hR.out];unfold ik;rw[af (by simpa using hc),hf];simp only;rw[hs];simp only;rw[hv,<-gz,Yu _ _ (XA _),YE,XT]
   rw[hf]at iI;simp only at iI;unfold uA at iI;rw[hs]at iI;simp only[au,hv,Xn,Xl,aT]at iI;have rS:v.subs.length=pre.length+1+post.length:=by rw[hv];simp;omega
   subst gz;simp only[aT]at hle;by_cases bE:lz s id≠0
   ·rw[ah bE]at aR;unfold lz at aR bE;generalize cD id=I at*;generalize cq (fun f=>f.id==id) s.faces=IX at*;generalize (s.faces.any fun f=>f.id==id)=M at*;generalize eT s=LS at*;have VW:((s.faces.length:Int)==8)=decide (s.faces.length=8):=by rw[Yi];simp;omega
    replace aR:=Xi aR;replace bE:=Xi bE;clear hR hc hk hf hs mQ hv;refine pj func72 ntmps72 results72 ?_;have z1z:=@ct.eq_1;have z2z:=Ln.mk (ls:=[]) (cV);refine fl ?_ ?_ ?_ ?_ ?_ ?_ ?_ ?_<;>first|(with_reducible exact True.intro)|intros
    all_goals
     have h1:=aR.out;have h2:=bE.out;clear iI hid hle cV;first
      |(exfalso;grind)
      |(rw[show R=(Vpc.zero,0,3) from (by rw[h1];grind)];exact dg)
      |(rw[show R=(Vpc.zero,0,6) from (by rw[h1];grind)];exact dg)
      |(rw[show R=(Vpc.zero,0,2) from (by rw[h1];grind)];exact dg)
      |(rw[show R=(Vpc.zero,0,8) from (by rw[h1];grind)];exact dg)
   ·rw[af bE]at aR;have hg:lz s id=0:=by simpa using bE
    obtain⟨g1,g2,g3,g4⟩:cD id=true/\(s.faces.any fun f=>f.id==id)=false/\s.faces.length≠8/\(eT s).isSome=true:=by
     unfold lz at hg;generalize (s.faces.any fun f=>f.id==id)=M at*;grind
    obtain⟨a,ha⟩:=Ze.1 g4;have bG:∀f∈s.faces,f.id≠(⟨id,[a]⟩:Fce).id:=fun f hf=>by have:=Yh.1 g2 f hf;simpa using this
    have oY:=KO (l:=s.faces++[⟨id,[a]⟩]) (l':=dn (·.id) ⟨id,[a]⟩ s.faces) (s.faces.length+1) ak (gH _ _ _) (hU s3 bG) aN;rw[ha]at hle aR;rw[g1]at hid;rw[g2]at jO;simp only[YD,YI]at hle aR;have VW:((s.faces.length:Int)==8)=false:=aN;have jQ:s.faces.length+1<=100:=aa;simp only[Xn,Xl,Xp]at oY;rw[aR];clear hR aR hc hk bG hg bE hf hs mQ hv g4 ha;refine pj func72 ntmps72 results72 ?_;have z1z:=@ct.eq_1;have z2z:=Ln.mk (ls:=[]) (cV);have z3z:=Ln.mk (ls:=[8]) (oY);refine aq ?_<;>intros;all_goals(simp only[au,aT,Xn,Xl];exact dg)
 ·have cV:=l8 v hc;have h1:(bM v !=0)=true:=by simpa using hc
  have hr:R=(Vpc.zero,0,bM v):=by rw[hR.out];unfold ik;rw[ah hc]
  rw[hr];replace hr:=Xi hr;refine pj func72 ntmps72 results72 ?_;have z1z:=Ln.mk (ls:=[]) (cV);refine aq ?_<;>intros;exact dg
section
open Go.Proofs Go.Shelf
theorem zQ (F:Array Int)(cur:Array Value)(h:F.size<=cur.size):(Sort.putCells (Value.int .i64) 0 F cur).toList.take F.size=F.toList.map (Value.int .i64)/\(Sort.putCells (Value.int .i64) 0 F cur).size=cur.size:=a2C
theorem Oc {l l':List Int}(hp:l'.Perm l)(hs:l'.Pairwise fun x y=>x < y):(l.mergeSort fun x y=>decide (x<=y))=l':=by
 refine List.Perm.eq_of_pairwise (le:=fun x y:Int=>x<=y) (fun a b _ _ h1 h2=>by omega) ?_ (hs.imp fun h=>by omega) ((List.mergeSort_perm l _).trans hp.symm);have:=List.pairwise_mergeSort (le:=fun x y:Int=>decide (x<=y)) (fun a b c h1 h2=>by simp at*;omega) (fun a b=>by simp;omega) l;exact this.imp fun h=>by simpa using h
theorem KQ [Flo]{P:Program}{ρ:Ren}(L:SlLaysN.n53 P ρ){f E g:Nat}(hf:ρ.f 53=f)(SM:zB P f){l l':List Int}(qR:l≠[])(hp:l'.Perm l)(hs:l'.Pairwise fun x y=>x < y)(cK:l.length<=1000000):
 MSpec P f [.own 0 g] [.row E 1 g (ab (l.map cm))] (.d (.tup [])) [.row E 1 g (ab (l'.map cm))]:=by
 refine⟨SM,XA _,by simp[aw,ay],by simp[aL,aQ,aF],fun X hP hn hm w c vs hr mA=>?_⟩;have bP:=mA.1;match vs,bP with
 |[v0],_=>
  have r0:=mA.2 0 _ v0 rfl rfl;have bG:ab (l.map cm)≠[]:=by simpa[ab]using qR
  have bo:=hr.chunk 0;have ip:∀m:List Int,(ab (m.map cm)).flatten=m.map fun a=>PV.d (.v (.int .i64 a)):=by
   intro m;rw[qD];induction m with
   |nil=>rfl
   |cons a m ih=>simp[cm,ih]
  cases r0 with
  |own _ _ _ ec h1=>
   obtain⟨gb,cap,rfl⟩:=m9 bo ec bG;obtain⟨cur,xs,q1,q2,q3,q4,q5,q6,q7,q8,q9,q10,q11⟩:=eB bo ec bG;have lI:(ab (l.map cm)).length=l.length:=by rw[aH,Xs]
   rw[lI]at q3 q4 q8 q10 ec ⊢;rw[_g]at q3 q4 q8 q11;rw[ip]at q2;have Pf:xs=l.map (Value.int .i64):=by
    apply Yg;intro j;by_cases hj:j < l.length
    ·obtain⟨u,e1⟩:∃u,xs[j]? =some u:=⟨_,Xj aa⟩;have:=q2.2 j (.d (.v (.int .i64 l[j]))) u (by rw[Xr,Xj hj];rfl) e1;rw[e1,Xr,Xj hj];cases ck this;rfl
    ·rw[XN aa,XN aN]
   have hH:Sort.Holds (Value.int .i64) w gb 0 l.toArray:=by
    intro j hj;have hj':j < l.length:=by simpa using hj
    have cf:∀o,w.cell? ⟨gb,o,none⟩=cur[o]? :=fun o=>by simp[YL,q1]
    refine⟨?_,mS q1⟩;rw[Xw,cf,q4 j hj',Pf,Xr,Xj hj',getElem!_pos l.toArray j hj];simp
   have hg:gb < w.heap.size:=(Yo.1 q1).1;have jL:=AnyG.slices_Sort_int L gb 0 cap l w hH hg aa;rw[hf,Oc hp hs]at jL;refine jL.mono fun e w' ⟨he,m,os,hw'⟩=>?_;have PI:l'.length=l.length:=hp.length_eq;obtain⟨p1,p2⟩:=zQ l'.toArray cur aN;have Am:0 < cap:=by have:=Zb.2 qR;omega
   have hhb:w'.heap[gb]? =some (.cells (Sort.putCells (Value.int .i64) 0 l'.toArray cur) E (0,0)):=by
    rw[hw',Sort.heap_grow_old _ _ (by simpa using hg)];show (w.heap.modify gb (Sort.onCells _))[gb]? =_;rw[YU,ah rfl,q1];rfl
   have eO:OneB w w' (some gb):=by
    refine⟨by rw[hw'];rfl,by rw[hw'];rfl,by rw[hw'];rfl,?_,fun b hb bG=>?_⟩
    ·rw[hw',Sort.size_grow,Sort.size_putRow,Sort.heap_ahead];omega
    ·rw[hw',Sort.heap_grow_old _ _ (by simpa using hb)];show (w.heap.modify gb (Sort.onCells _))[b]? =_;rw[YU,af (fun e=>bG (by rw[e]))]
   have HW:∀r∈ab (l'.map cm),r.length=1:=fun r hr=>by
    obtain⟨q,hq,rfl⟩:=je hr;obtain⟨x,-,rfl⟩:=XF.1 hq;rfl
   have pX:bA c w (ab (l'.map cm)).flatten (l'.map (Value.int .i64)):=by
    rw[ip];refine⟨by simp,fun j d v hj hv=>?_⟩;rw[Xr,XB]at hj hv;obtain⟨a,ha,rfl⟩:=hj;obtain⟨b,hb,rfl⟩:=hv;rw[ha]at hb;cases hb;exact .d _ _ (.v _)
   have FE:=hr.put_row (w':=w') (k:=0) (rows':=ab (l'.map cm)) (xs':=l'.map (Value.int .i64)) rfl ec (by rw[dr Am];exact eO) (by
    rw[aH,Xs,PI];exact .row gb l.length cap _ _ Am hhb q10 q9 (by rw[p2,_g];exact q11) (by rw[Xs,_g];omega) (by
     rw[_g,<-PI,show l'.length=l'.toArray.size by simp,p1])) pX HW (lK (enc:=cm) (fun _=>rfl) l')
   have nO:cw [(0,Chunk.row E 1 g (ab (l'.map cm)))] (bs [] [.row E 1 g (ab (l.map cm))]).heap=az [.row E 1 g (ab (l'.map cm))]:=a3G
   rw[nO]at FE;refine⟨_,c,he,.d _ _ (.tup [] [] rfl fun j d x h=>by simp at h),FE⟩
theorem Od [Flo]{l l':List Int}(g:Nat)(qR:l≠[])(hp:l'.Perm l)(hs:l'.Pairwise fun x y=>x < y)(cK:l.length<=1000000):MSpec prog 158 [.own 0 g] [.row 3 1 g (ab (l.map cm))] (.d (.tup [])) [.row 3 1 g (ab (l'.map cm))]:=
 KQ sortInt rfl (cS func158 aK rfl) qR hp hs cK
end
theorem a4n {p:Prop}(h:p:=by
 have:=s4 f FJ;unfold lQ at this;simp only[Xv,gG]at this;exact this.2.2.1):p:=h
def d6 (v:Vpc)(sub id:Int):Vpc × Int:=
 if bM v≠0 then (Vpc.zero,bM v)else
 match v.subs.findIdx? (fun s=>s.id==sub)with
 |none=>(Vpc.zero,5)
 |some i=>match v.subs[i]? with
  |none=>(Vpc.zero,5)
  |some s=>match s.faces.findIdx? (fun f=>f.id==id)with
   |none=>(Vpc.zero,5)
   |some k=>({v with subs:=v.subs.set i {s with faces:=s.faces.eraseIdx k}},0)
theorem Oe [Flo](v:Vpc)(sub id:Int):ai prog 74 [.agg (au v),.v (.int .i64 sub),.v (.int .i64 id)] (.tup [.agg (au (d6 v sub id).1),.v (.int .i64 (d6 v sub id).2)]):=by
 obtain⟨R,hR⟩:∃R,R=d6 v sub id:=⟨_,rfl⟩;rw[<-hR];replace hR:=Xi hR;by_cases hc:bM v=0
 ·have hk:=be hc;have iI:=wB v sub id hk.n6 (fun s hs=>(hk.n8 s hs).1);have Ac:decide ((-1:Int) < 0)=true:=rfl;unfold yp at iI;cases hf:v.subs.findIdx? (fun s=>s.id==sub)with
  |none=>
   have cV:=l9 v hc hk.n4 hk.n6 hk.n8;rw[hf]at iI;have hr:R=(Vpc.zero,5):=by rw[hR.out];unfold d6;rw[af (by simpa using hc),hf]
   rw[hr];clear hr hR hf hc hk;refine pj func74 ntmps74 results74 ?_;have z1z:=Ln.mk (ls:=[]) (cV);refine aq ?_<;>intros;exact dg
  |some i=>
   obtain⟨pre,s,post,hv,gz,-,hs⟩:=gk hf;have mQ:=Xk hs;have jb:=hk.n8 s mQ;have cV:=yo v pre post s hv hc hk.n4 hk.n6 hk.n8;rw[hf]at iI;simp only at iI;unfold uA at iI;rw[hs]at iI;simp only[au,hv,Xn,Xl,aT]at iI;unfold cq at iI;have rS:v.subs.length=pre.length+1+post.length:=by rw[hv];simp;omega
   cases hg:s.faces.findIdx? (fun f=>f.id==id)with
   |none=>
    rw[hg]at iI;have hr:R=(Vpc.zero,5):=by rw[hR.out];unfold d6;rw[af (by simpa using hc),hf];simp only;rw[hs];simp only;rw[hg]
    rw[hr];subst gz;clear hr hR hc hk hf hs mQ hv hg;refine pj func74 ntmps74 results74 ?_;have z1z:=@ct.eq_1;have z2z:=Ln.mk (ls:=[]) (cV);refine aq ?_<;>intros;exact dg
   |some k=>
    rw[hg]at iI;have wF:k < s.faces.length:=(XK.1 hg).1;have hr:R=({v with subs:=pre++{s with faces:=s.faces.eraseIdx k}::post},0):=by
     rw[hR.out];unfold d6;rw[af (by simpa using hc),hf];simp only;rw[hs];simp only;rw[hg];simp only;rw[hv,<-gz,Yu _ _ (XA _),YE,XT]
    have hd:=EP (enc:=bR) s.faces k (k+1) s.faces.length wF rfl;have cX:=wi k aa;have hk0:decide ((k:Int) < 0)=false:=ak;rw[hr];subst gz;clear hr hR hc hk hf hs mQ hv hg;refine pj func74 ntmps74 results74 ?_;have z1z:=@ct.eq_1;have z2z:=Ln.mk (ls:=[]) (cV);have z3z:=Ln.mk (ls:=[8]) (hd);refine aq ?_<;>intros;all_goals(first|omega|(simp only[au,aT,Xn,Xl];exact dg))
 ·have cV:=l8 v hc;have hfz:=uB sub id;have h1:(bM v !=0)=true:=by simpa using hc
  have hr:R=(Vpc.zero,bM v):=by rw[hR.out];unfold d6;rw[ah hc]
  rw[hr];replace hr:=Xi hr;refine pj func74 ntmps74 results74 ?_;have z1z:=Ln.mk (ls:=[]) (cV);refine aq ?_<;>intros;exact dg
theorem rF {used:List Int}{p:Pfx}:∀{n:Nat}{x a:Int},gj used p n x=some a->a∉used/\jD p a=true
 |0,x,a,h=>by cases h
 |n+1,x,a,h=>by
  unfold gj at h;split at h
  ·rename_i hi;split at h
   ·exact rF h
   ·rename_i hu;cases h;exact⟨hu,hi⟩
  ·cases h
def gP (v:Vpc)(sub id:Int):Vpc × Int × Int:=
 if bM v≠0 then (Vpc.zero,0,bM v)else
 match v.subs.findIdx? (fun s=>s.id==sub)with
 |none=>(Vpc.zero,0,5)
 |some i=>match v.subs[i]? with
  |none=>(Vpc.zero,0,5)
  |some s=>match s.faces.findIdx? (fun f=>f.id==id)with
   |none=>(Vpc.zero,0,5)
   |some k=>match s.faces[k]? with
    |none=>(Vpc.zero,0,5)
    |some f=>if f.addrs.length=4 then (Vpc.zero,0,2)else match eT s with
     |none=>(Vpc.zero,0,8)
     |some a=>({v with subs:=v.subs.set i {s with faces:=s.faces.set k {f with addrs:=dn (fun x=>x) a f.addrs}}},a,0)
theorem UB [Flo](v:Vpc)(sub id:Int):ai prog 73 [.agg (au v),.v (.int .i64 sub),.v (.int .i64 id)] (.tup [.agg (au (gP v sub id).1),.v (.int .i64 (gP v sub id).2.1),.v (.int .i64 (gP v sub id).2.2)]):=by
 obtain⟨R,hR⟩:∃R,R=gP v sub id:=⟨_,rfl⟩;rw[<-hR];replace hR:=Xi hR;by_cases hc:bM v=0
 ·have hk:=be hc;have iI:=wB v sub id hk.n6 (fun s hs=>(hk.n8 s hs).1);have Ac:decide ((-1:Int) < 0)=true:=rfl;unfold yp at iI;cases hf:v.subs.findIdx? (fun s=>s.id==sub)with
  |none=>
   have cV:=l9 v hc hk.n4 hk.n6 hk.n8;rw[hf]at iI;have hr:R=(Vpc.zero,0,5):=by rw[hR.out];unfold gP;rw[af (by simpa using hc),hf]
   rw[hr];clear hr hR hf hc hk;refine pj func73 ntmps73 results73 ?_;have z1z:=Ln.mk (ls:=[]) (cV);refine aq ?_<;>intros;exact dg
  |some i=>
   obtain⟨pre,s,post,hv,gz,-,hs⟩:=gk hf;have mQ:=Xk hs;obtain⟨s1,s2,s3,s4⟩:=qj hk mQ;have jb:=hk.n8 s mQ;rw[hf]at iI;simp only at iI;unfold uA at iI;rw[hs]at iI;have rS:v.subs.length=pre.length+1+post.length:=by rw[hv];simp;omega
   cases hg:s.faces.findIdx? (fun f=>f.id==id)with
   |none=>
    have cV:=yo v pre post s hv hc hk.n4 hk.n6 hk.n8;simp only[au,hv,Xn,Xl,aT]at iI;unfold cq at iI;rw[hg]at iI;have hr:R=(Vpc.zero,0,5):=by rw[hR.out];unfold gP;rw[af (by simpa using hc),hf];simp only;rw[hs];simp only;rw[hg]
    rw[hr];subst gz;clear hr hR hc hk hf hs mQ hv hg;refine pj func73 ntmps73 results73 ?_;have z1z:=@ct.eq_1;have z2z:=Ln.mk (ls:=[]) (cV);refine aq ?_<;>intros;exact dg
   |some k=>
    obtain⟨preF,f,postF,Ap,Df,-,oK⟩:=gk hg;have FJ:=Xk oK;have cV:=N9 v pre post s preF postF f hv Ap hc hk.n4 hk.n6 hk.n8;have hle:=IQ s jb.1 jb.2 s1 s2;have ip:=jb.2 f FJ;simp only[aT,Ap,Xn,Xl,bR]at hle;simp only[au,hv,Xn,Xl,aT]at iI;unfold cq at iI;rw[hg]at iI;simp only[Ap,Xn,Xl,bR]at iI;have Vu:s.faces.length=preF.length+1+postF.length:=by rw[Ap];simp;omega
    have hk0:decide ((k:Int) < 0)=false:=ak;have aR:R=if f.addrs.length=4 then ((Vpc.zero,0,2):Vpc × Int × Int)else match eT s with
     |none=>(Vpc.zero,0,8)
     |some a=>({v with subs:=pre++{s with faces:=preF++{f with addrs:=dn (fun x=>x) a f.addrs}::postF}::post},a,0):=by
     rw[hR.out];unfold gP;rw[af (by simpa using hc),hf];simp only;rw[hs];simp only;rw[hg];simp only;rw[oK];simp only;split
     ·rfl
     ·cases eT s with
      |none=>rfl
      |some a=>
       simp only;rw[hv,<-gz,Yu _ _ (XA _),YE,XT];rw[Ap,<-Df,Yu _ _ (XA _),YE,XT]
    by_cases h4:f.addrs.length=4
    ·rw[ah h4]at aR;have h4b:((f.addrs.length:Int)==4)=true:=aN;rw[aR];subst gz;subst Df;clear hR aR hc hk hf hs mQ hv hg oK FJ;refine pj func73 ntmps73 results73 ?_;have z1z:=@ct.eq_1;have z2z:=@ek.eq_1;have z3z:=Ln.mk (ls:=[]) (cV);refine aq ?_<;>intros;all_goals(first|omega|exact dg)
    ·rw[af h4]at aR;have h4b:((f.addrs.length:Int)==4)=false:=aN;cases hl:eT s with
     |none=>
      rw[hl]at aR hle;simp only[Option.getD_none,Za]at hle;rw[aR];subst gz;subst Df;clear hR aR hc hk hf hs mQ hv hg oK FJ;refine pj func73 ntmps73 results73 ?_;have z1z:=@ct.eq_1;have z2z:=@ek.eq_1;have z3z:=Ln.mk (ls:=[]) (cV);refine aq ?_<;>intros;all_goals(first|omega|exact dg)
     |some a=>
      rw[hl]at aR hle;simp only[YD,YI]at hle;have P9:a∉f.addrs:=fun h=>(rF hl).1 (Z3.2 ⟨f,FJ,h⟩);have wm:f.addrs.Pairwise fun x y=>x < y:=a4n
      have oY:=Od (l:=f.addrs++[a]) (l':=dn (fun x=>x) a f.addrs) 2 ak (gH _ _ _) (hU wm (fun y hy e=>P9 (e ▸ hy))) aN;simp only[Xn,Xl,Xp]at oY;have jQ:f.addrs.length+1<=100:=aa;rw[aR];subst gz;subst Df;clear hR aR hc hk hf hs mQ hv hg oK FJ P9 wm hl;refine pj func73 ntmps73 results73 ?_;have z1z:=@ct.eq_1;have z2z:=@ek.eq_1;have z3z:=Ln.mk (ls:=[]) (cV);have z4z:=Ln.mk (ls:=[10]) (oY);refine aq ?_<;>intros;all_goals(first|omega|(simp only[au,aT,bR,Xn,Xl];exact dg))
 ·have cV:=l8 v hc;have hfz:=uB sub id;have h1:(bM v !=0)=true:=by simpa using hc
  have hr:R=(Vpc.zero,0,bM v):=by rw[hR.out];unfold gP;rw[ah hc]
  rw[hr];replace hr:=Xi hr;refine pj func73 ntmps73 results73 ?_;have z1z:=Ln.mk (ls:=[]) (cV);refine aq ?_<;>intros;exact dg
def VM (b:Bok)(n:Net)(c:Cmd)(a:Ans):List D:=[.v (.int .i64 b.tick),.sl 9 (b.pools.map al),.sl 3 (n.vpcs.map au),.sl 2 (n.links.map bS),.v (.int .i64 c.op),.v (.int .i64 c.a),.v (.int .i64 c.b),.v (.int .i64 c.c),.v (.int .i64 c.at_.at_),.v (.int .i64 c.at_.len),.v (.int .i64 c.rule.min),.v (.int .i64 c.rule.max),.v (.int .i64 c.rule.usual),.v (.int .i64 c.rule.cool),.v (.int .i64 a.err),.v (.int .i64 a.at_.at_),.v (.int .i64 a.at_.len),.v (.int .i64 a.n)]
theorem yq [Flo](b:Bok)(n:Net)(c:Cmd)(a:Ans)(v:Vpc):ai prog 140 [.agg (au v),.ept [.ept (VM b n c a)]] (.v (.bool (v.id==c.a))):=by
 unfold VM;refine pj func140 ntmps140 results140 ?_;exact aY
theorem KR [Flo](b:Bok)(n:Net)(c:Cmd)(h6:n.vpcs.length<=1000000000)(k:Nat)(hk:cq (fun v=>v.id==c.a) n.vpcs=k)(hlt:k < n.vpcs.length):
 MSpec prog 67 [.ptr 0 0] [.box 86 (jK b (.own 1 n.vpcs.length) (.d (.sl 2 (n.links.map bS))) c .zero),.row 55 3 n.vpcs.length (ab (n.vpcs.map au))] (.rp 1 n.vpcs.length 3 k 0)
  [.box 86 (jK b (.own 1 n.vpcs.length) (.d (.sl 2 (n.links.map bS))) c .zero),.row 55 3 n.vpcs.length (ab (n.vpcs.map au))]:=by
 have hx:=x7 jy (fun v=>v.id==c.a) n.vpcs 140 [.ept [.ept (VM b n c .zero)]] h6 (fun v _=>yq b n c .zero v);unfold VM at hx;rw[hk]at hx;clear hk;have e1:decide ((k:Int) < 0)=false:=ak;have dF:(k:Int) < (n.vpcs.length:Int):=aa;refine jC ag am func67 rfl ntmps67 results67 aK ak (by simp[aw,ay]) (by simp[aL,aQ,aw,ay,jK,bu,aF]) ?_;refine aq ?_;exact wf
theorem Hb [Flo](b:Bok)(n:Net)(c:Cmd)(h6:n.vpcs.length<=1000000000)(hk:cq (fun v=>v.id==c.a) n.vpcs < 0):
 MSpec prog 67 [.ptr 0 0] [.box 86 (jK b (.own 1 n.vpcs.length) (.d (.sl 2 (n.links.map bS))) c .zero),.row 55 3 n.vpcs.length (ab (n.vpcs.map au))] (.d (.v (.pointer none)))
  [.box 86 (jK b (.own 1 n.vpcs.length) (.d (.sl 2 (n.links.map bS))) c .zero),.row 55 3 n.vpcs.length (ab (n.vpcs.map au))]:=by
 have hx:=x7 jy (fun v=>v.id==c.a) n.vpcs 140 [.ept [.ept (VM b n c .zero)]] h6 (fun v _=>yq b n c .zero v);unfold VM at hx;have e1:decide (cq (fun v=>v.id==c.a) n.vpcs < 0)=true:=by simpa using hk
 replace hk:=Xi hk;generalize cq (fun v=>v.id==c.a) n.vpcs=i at*;refine jC ag am func67 rfl ntmps67 results67 aK ak (by simp[aw,ay]) (by simp[aL,aQ,aw,ay,jK,bu,aF]) ?_;refine aq ?_;exact wf
def mT (b:Bok)(n:Net)(c:Cmd)(i:Nat)(v:Vpc):Bok × Net × Ans:=
 if c.op=8 then
  if (cQ b c.b c.c c.a).2.2=0 then ((cQ b c.b c.c c.a).1,(iG n c.a ⟨(cQ b c.b c.c c.a).2.1,c.b⟩).1,⟨(iG n c.a ⟨(cQ b c.b c.c c.a).2.1,c.b⟩).2,(cQ b c.b c.c c.a).2.1,0⟩)
  else ((cQ b c.b c.c c.a).1,n,⟨(cQ b c.b c.c c.a).2.2,(cQ b c.b c.c c.a).2.1,0⟩)
 else if c.op=9 then
  if (dU v c.at_).2.2=0 then ((fL b (dU v c.at_).2.1.pool (dU v c.at_).2.1.at_).1,{n with vpcs:=n.vpcs.set i (dU v c.at_).1},.er (fL b (dU v c.at_).2.1.pool (dU v c.at_).2.1.at_).2)
  else (b,{n with vpcs:=n.vpcs.set i (dU v c.at_).1},.er (dU v c.at_).2.2)
 else if c.op=10 then (b,{n with vpcs:=n.vpcs.set i (oW v c.b c.at_).1},.er (oW v c.b c.at_).2)
 else if c.op=11 then (b,{n with vpcs:=n.vpcs.set i (fO v c.b).1},.er (fO v c.b).2)
 else if c.op=12 then (b,{n with vpcs:=n.vpcs.set i (ik v c.b c.c).1},⟨(ik v c.b c.c).2.2,⟨0,0⟩,(ik v c.b c.c).2.1⟩)
 else if c.op=13 then (b,{n with vpcs:=n.vpcs.set i (gP v c.b c.c).1},⟨(gP v c.b c.c).2.2,⟨0,0⟩,(gP v c.b c.c).2.1⟩)
 else (b,{n with vpcs:=n.vpcs.set i (d6 v c.b c.c).1},.er (d6 v c.b c.c).2)
def gL (b:Bok)(n:Net)(c:Cmd):Bok × Net × Ans:=
 if cq (fun v=>v.id==c.a) n.vpcs < 0 then (b,n,.er 5)else
 match n.vpcs[(cq (fun v=>v.id==c.a) n.vpcs).toNat]? with
 |some v=>mT b n c (cq (fun v=>v.id==c.a) n.vpcs).toNat v
 |none=>(b,n,.er 5)
theorem Of [Flo](b:Bok)(n:Net)(c:Cmd)(h6:n.vpcs.length<=1000000000)(hk:cq (fun v=>v.id==c.a) n.vpcs < 0):
 MSpec prog 29 [.ptr 0 0] [.box 86 (jK b (.own 1 n.vpcs.length) (.d (.sl 2 (n.links.map bS))) c .zero),.row 55 3 n.vpcs.length (ab (n.vpcs.map au))] (.d (.tup []))
  [.box 86 (jK b (.d (.sl 3 (n.vpcs.map au))) (.d (.sl 2 (n.links.map bS))) c (.er 5)),.gone]:=by
 have hw:=Lr.mk (ls:=[0,1]) (Hb b n c h6 hk);simp only[jK]at hw;clear hk h6;refine jC ag am func29 rfl ntmps29 results29 aK ak (by simp[aw,ay]) (by simp[aL,aQ,aw,ay,jK,bu,aF]) ?_;refine aq ?_;refine(av 1 n.vpcs.length 55 3 (n.vpcs.map au) rfl).trans ?_;simp only[eM,fz,ee,dX,eF,d7,aD,aZ,bg,Xl,Xp,Xz,Xx,reduceIte,and_true,true_and,and_self,and_false,false_and,Xw,XG,reduceCtorEq];exact wf
theorem Og [Flo](b:Bok)(n:Net)(c:Cmd)(hz:∀p∈b.pools,p.leases.length<=3518437208882)(h6:n.vpcs.length<=1000000000)(k:Nat)(hk:cq (fun v=>v.id==c.a) n.vpcs=k)(v:Vpc)(hv:n.vpcs[k]? =some v)(ho:8<=c.op/\c.op<=14):
 MSpec prog 29 [.ptr 0 0] [.box 86 (jK b (.own 1 n.vpcs.length) (.d (.sl 2 (n.links.map bS))) c .zero),.row 55 3 n.vpcs.length (ab (n.vpcs.map au))] (.d (.tup []))
  [.box 86 (jK (mT b n c k v).1 (.d (.sl 3 ((mT b n c k v).2.1.vpcs.map au))) (.d (.sl 2 ((mT b n c k v).2.1.links.map bS))) c (mT b n c k v).2.2),.gone]:=by
 have hlt:=(Xm.1 hv).1;have dF:(k:Int) < (n.vpcs.length:Int):=aa;have hw:=Lr.mk (ls:=[0,1]) (KR b n c h6 k hk hlt);simp only[jK]at hw;have js:c.op=8\/c.op=9\/c.op=10\/c.op=11\/c.op=12\/c.op=13\/c.op=14:=aa;clear ho hk h6;unfold mT;rcases js with h1|h1|h1|h1|h1|h1|h1
 ·rw[ah h1];have hp:=NL b c.b c.c c.a hz;generalize cQ b c.b c.c c.a=R at*;replace hz:=Xi hz;rw[h1]at hw;by_cases h2:R.2.2=0
  ·rw[ah h2];have hg:=Ln.mk (ls:=[1]) (xv (Ry n c.a ⟨R.2.1,c.b⟩) (args:=[.agg [.own 0 n.vpcs.length,.d (.sl 2 (n.links.map bS))],.d (.v (.int .i64 c.a)),.d (.agg (bp ⟨R.2.1,c.b⟩))]) (h0:=[.row 55 3 n.vpcs.length (ab (n.vpcs.map au))]) (by simp[aw,ay]) (by simp[aL,aQ,aF]) (by simp[vw,cI,br,az,eL,cN]) (by simp[tc,j6,cW,az,nW]));generalize iG n c.a ⟨R.2.1,c.b⟩=G at*;refine jC ag am func29 rfl ntmps29 results29 aK ak (by simp[aw,ay]) (by simp[aL,aQ,aw,ay,jK,bu,aF]) ?_;refine aq ?_;exact wf
  ·rw[af h2];have e2:(R.2.2==0)=false:=by simpa using h2
   replace h2:=Xi h2;refine jC ag am func29 rfl ntmps29 results29 aK ak (by simp[aw,ay]) (by simp[aL,aQ,aw,ay,jK,bu,aF]) ?_;refine aq ?_;refine(av 1 n.vpcs.length 55 3 (n.vpcs.map au) rfl).trans ?_;simp only[eM,fz,ee,dX,eF,d7,aD,aZ,bg,Xl,Xp,Xz,Xx,reduceIte,and_true,true_and,and_self,and_false,false_and,Xw,XG,reduceCtorEq];exact wf
 ·rw[af aa,ah h1];have hp:=RI v c.at_;generalize dU v c.at_=R at*;have hg:=NN b R.2.1.pool R.2.1.at_ hz;replace hz:=Xi hz;rw[h1]at hw;by_cases h2:R.2.2=0
  ·rw[ah h2];generalize fL b R.2.1.pool R.2.1.at_=G at*;have b9:(ab (n.vpcs.map au)).set k [.d (.v (.int .i64 R.1.id)),.d (.sl 3 (R.1.ranges.map bp)),.d (.sl 4 (R.1.subs.map aT))]=ab ((n.vpcs.set k R.1).map au):=bN au n.vpcs k R.1;refine jC ag am func29 rfl ntmps29 results29 aK ak (by simp[aw,ay]) (by simp[aL,aQ,aw,ay,jK,bu,aF]) ?_;refine aq ?_;refine(av 1 n.vpcs.length 55 3 ((n.vpcs.set k R.1).map au) rfl).trans ?_;simp only[eM,fz,ee,dX,eF,d7,aD,aZ,bg,Xl,Xp,Xz,Xx,reduceIte,and_true,true_and,and_self,and_false,false_and,Xw,XG,reduceCtorEq];exact wf
  ·rw[af h2];have e2:(R.2.2==0)=false:=by simpa using h2
   replace h2:=Xi h2;clear hg;have b9:(ab (n.vpcs.map au)).set k [.d (.v (.int .i64 R.1.id)),.d (.sl 3 (R.1.ranges.map bp)),.d (.sl 4 (R.1.subs.map aT))]=ab ((n.vpcs.set k R.1).map au):=bN au n.vpcs k R.1;refine jC ag am func29 rfl ntmps29 results29 aK ak (by simp[aw,ay]) (by simp[aL,aQ,aw,ay,jK,bu,aF]) ?_;refine aq ?_;refine(av 1 n.vpcs.length 55 3 ((n.vpcs.set k R.1).map au) rfl).trans ?_;simp only[eM,fz,ee,dX,eF,d7,aD,aZ,bg,Xl,Xp,Xz,Xx,reduceIte,and_true,true_and,and_self,and_false,false_and,Xw,XG,reduceCtorEq];exact wf
 ·rw[af aa,af aa,ah h1];have hp:=UA v c.b c.at_;generalize oW v c.b c.at_=R at*;replace hz:=Xi hz;rw[h1]at hw;have b9:(ab (n.vpcs.map au)).set k [.d (.v (.int .i64 R.1.id)),.d (.sl 3 (R.1.ranges.map bp)),.d (.sl 4 (R.1.subs.map aT))]=ab ((n.vpcs.set k R.1).map au):=bN au n.vpcs k R.1;refine jC ag am func29 rfl ntmps29 results29 aK ak (by simp[aw,ay]) (by simp[aL,aQ,aw,ay,jK,bu,aF]) ?_;refine aq ?_;refine(av 1 n.vpcs.length 55 3 ((n.vpcs.set k R.1).map au) rfl).trans ?_;simp only[eM,fz,ee,dX,eF,d7,aD,aZ,bg,Xl,Xp,Xz,Xx,reduceIte,and_true,true_and,and_self,and_false,false_and,Xw,XG,reduceCtorEq];exact wf
 ·rw[af aa,af aa,af aa,ah h1];have hp:=RJ v c.b;generalize fO v c.b=R at*;replace hz:=Xi hz;rw[h1]at hw;have b9:(ab (n.vpcs.map au)).set k [.d (.v (.int .i64 R.1.id)),.d (.sl 3 (R.1.ranges.map bp)),.d (.sl 4 (R.1.subs.map aT))]=ab ((n.vpcs.set k R.1).map au):=bN au n.vpcs k R.1;refine jC ag am func29 rfl ntmps29 results29 aK ak (by simp[aw,ay]) (by simp[aL,aQ,aw,ay,jK,bu,aF]) ?_;refine aq ?_;refine(av 1 n.vpcs.length 55 3 ((n.vpcs.set k R.1).map au) rfl).trans ?_;simp only[eM,fz,ee,dX,eF,d7,aD,aZ,bg,Xl,Xp,Xz,Xx,reduceIte,and_true,true_and,and_self,and_false,false_and,Xw,XG,reduceCtorEq];exact wf
 ·rw[af aa,af aa,af aa,af aa,ah h1];have hp:=RM v c.b c.c;generalize ik v c.b c.c=R at*;replace hz:=Xi hz;rw[h1]at hw;have b9:(ab (n.vpcs.map au)).set k [.d (.v (.int .i64 R.1.id)),.d (.sl 3 (R.1.ranges.map bp)),.d (.sl 4 (R.1.subs.map aT))]=ab ((n.vpcs.set k R.1).map au):=bN au n.vpcs k R.1;refine jC ag am func29 rfl ntmps29 results29 aK ak (by simp[aw,ay]) (by simp[aL,aQ,aw,ay,jK,bu,aF]) ?_;refine aq ?_;refine(av 1 n.vpcs.length 55 3 ((n.vpcs.set k R.1).map au) rfl).trans ?_;simp only[eM,fz,ee,dX,eF,d7,aD,aZ,bg,Xl,Xp,Xz,Xx,reduceIte,and_true,true_and,and_self,and_false,false_and,Xw,XG,reduceCtorEq];exact wf
 ·rw[af aa,af aa,af aa,af aa,af aa,ah h1];have hp:=UB v c.b c.c;generalize gP v c.b c.c=R at*;replace hz:=Xi hz;rw[h1]at hw;have b9:(ab (n.vpcs.map au)).set k [.d (.v (.int .i64 R.1.id)),.d (.sl 3 (R.1.ranges.map bp)),.d (.sl 4 (R.1.subs.map aT))]=ab ((n.vpcs.set k R.1).map au):=bN au n.vpcs k R.1;refine jC ag am func29 rfl ntmps29 results29 aK ak (by simp[aw,ay]) (by simp[aL,aQ,aw,ay,jK,bu,aF]) ?_;refine aq ?_;refine(av 1 n.vpcs.length 55 3 ((n.vpcs.set k R.1).map au) rfl).trans ?_;simp only[eM,fz,ee,dX,eF,d7,aD,aZ,bg,Xl,Xp,Xz,Xx,reduceIte,and_true,true_and,and_self,and_false,false_and,Xw,XG,reduceCtorEq];exact wf
 ·rw[af aa,af aa,af aa,af aa,af aa,af aa];have hp:=Oe v c.b c.c;generalize d6 v c.b c.c=R at*;replace hz:=Xi hz;rw[h1]at hw;have b9:(ab (n.vpcs.map au)).set k [.d (.v (.int .i64 R.1.id)),.d (.sl 3 (R.1.ranges.map bp)),.d (.sl 4 (R.1.subs.map aT))]=ab ((n.vpcs.set k R.1).map au):=bN au n.vpcs k R.1;refine jC ag am func29 rfl ntmps29 results29 aK ak (by simp[aw,ay]) (by simp[aL,aQ,aw,ay,jK,bu,aF]) ?_;refine aq ?_;refine(av 1 n.vpcs.length 55 3 ((n.vpcs.set k R.1).map au) rfl).trans ?_;simp only[eM,fz,ee,dX,eF,d7,aD,aZ,bg,Xl,Xp,Xz,Xx,reduceIte,and_true,true_and,and_self,and_false,false_and,Xw,XG,reduceCtorEq];exact wf
theorem uC {α:Type}(p:α->Bool)(l:List α):cq p l < 0\/∃(k:Nat) (x:α),cq p l=k/\l[k]? =some x:=by
 unfold cq;cases h:l.findIdx? p with
 |none=>left;simp
 |some k=>
  right;have hk:=(XK.1 h).1;exact⟨k,_,rfl,Xj hk⟩
theorem IR [Flo](b:Bok)(n:Net)(c:Cmd)(hz:∀p∈b.pools,p.leases.length<=3518437208882)(h6:n.vpcs.length<=1000000000)(ho:8<=c.op/\c.op<=14):
 MSpec prog 29 [.ptr 0 0] [.box 86 (jK b (.own 1 n.vpcs.length) (.d (.sl 2 (n.links.map bS))) c .zero),.row 55 3 n.vpcs.length (ab (n.vpcs.map au))] (.d (.tup []))
  [.box 86 (jK (gL b n c).1 (.d (.sl 3 ((gL b n c).2.1.vpcs.map au))) (.d (.sl 2 ((gL b n c).2.1.links.map bS))) c (gL b n c).2.2),.gone]:=by
 unfold gL;rcases uC (fun v:Vpc=>v.id==c.a) n.vpcs with h|⟨k,v,hk,hv⟩
 ·rw[ah h];exact Of b n c h6 h
 ·rw[hk,af aa,Int.toNat_natCast,hv];exact Og b n c hz h6 k hk v hv ho
theorem a2J {p:Prop}(h:p:=by
 rw[af (by simpa using he)];have e0:(X.2.err !=0)=false:=by simpa using he
 replace he:=Xi he;refine pj func8 ntmps8 results8 ?_;first|exact aY|(refine aq ?_;exact dz)):p:=h
theorem a2K {p:Prop}(h:p:=by
 rw[ah (by simpa using he)];have e0:(X.2.err !=0)=true:=by simpa using he
 replace he:=Xi he;refine pj func8 ntmps8 results8 ?_;first|exact aY|(refine aq ?_;exact dz)):p:=h
def zR (s:Ste)(c:Cmd):Ste × Ans:=
 if 1<=c.op/\c.op<=6 then (⟨(jX s.book s.net.vpcs c).1,s.net⟩,(jX s.book s.net.vpcs c).2)
 else if sX c=true then (⟨s.book,(sY s.book s.net c).1⟩,(sY s.book s.net c).2)
 else if 8<=c.op/\c.op<=14 then (⟨(gL s.book s.net c).1,(gL s.book s.net c).2.1⟩,(gL s.book s.net c).2.2)
 else (s,.er 4)
def qL (s:Ste)(c:Cmd):Ste × Ans × Int:=
 if fj s≠0 then (.zero,.zero,fj s)
 else if (zR s c).2.err≠0 then (s,.er (zR s c).2.err,0)else ((zR s c).1,(zR s c).2,0)
theorem nL {s:Ste}(h:fj s=0):bn s.book=0/\cJ s.net=0:=by
 unfold fj at h;split at h
 ·rename_i h1;exact absurd h h1
 ·rename_i h1;split at h
  ·rename_i h2;exact absurd h h2
  ·rename_i h2;exact⟨by simpa using h1,by simpa using h2⟩
theorem Wv [Flo](s:Ste)(c:Cmd)(hz:∀p∈s.book.pools,p.leases.length<=3518437208882):ai prog 8 [.agg (bJ s),.agg (jp c)] (.tup [.agg (bJ (qL s c).1),.agg (eG (qL s c).2.1),.v (.int .i64 (qL s c).2.2)]):=by
 have hc:=ya s hz;unfold qL;by_cases h:fj s=0
 ·rw[af (by simpa using h)];rw[h]at hc;obtain⟨qq,mU⟩:=nL h;have tL:=db qq;have bQ:=gw.1 mU;have n8:=tL.n8;have eP:=tL.l32;have n6:=bQ.n6;have lc:∀v∈s.net.vpcs,v.ranges.length<=1000000000:=fun v hv=>by have:=(be (bQ.vp v hv)).n4;omega
  have how:=Ln.mk (ls:=[]) (Uu s tL bQ);have bW:=Ln.mk (ls:=[10,9]) (N0 s.book s.net.vpcs s.net.links c hz n6 lc);clear h qq mU tL bQ lc;unfold zR;by_cases js:1<=c.op/\c.op<=6
  ·rw[ah js];rw[decide_eq_true js]at bW;replace js:=Xi js;replace hz:=Xi hz;replace eP:=Xi eP;generalize jX s.book s.net.vpcs c=X at*;simp only[jK,Ans.zero]at bW;by_cases he:X.2.err=0
   ·exact a2J
   ·exact a2K
  rw[af js];rw[decide_eq_false js]at bW;have Da:jX s.book s.net.vpcs c=(s.book,.zero):=by unfold jX;rw[af aa,af aa,af aa,af aa,af aa,af aa]
  rw[Da]at bW;clear Da;cases FW:sX c with
  |true=>
   rw[ah rfl];have FX:=Ln.mk (ls:=[10,9]) (N8 s.book s.net c aa (fun p hp=>by have:=eP p hp;omega) FW);replace js:=Xi js;replace hz:=Xi hz;replace eP:=Xi eP;replace FW:=Xi FW;generalize sY s.book s.net c=X at*;simp only[jK,Ans.zero]at bW FX;by_cases he:X.2.err=0
   ·exact a2J
   ·exact a2K
  |false=>
   rw[af Bool.false_ne_true];have FX:=Ln.mk (ls:=[10,9]) (N7 s.book s.net c FW);by_cases zn:8<=c.op/\c.op<=14
   ·rw[ah zn];have dM:=Ln.mk (ls:=[10,9]) (IR s.book s.net c hz aa zn);have e1:decide (c.op < 8)=false:=aN;have e2:decide (c.op>14)=false:=aN;replace js:=Xi js;replace hz:=Xi hz;replace eP:=Xi eP;replace FW:=Xi FW;replace zn:=Xi zn;generalize gL s.book s.net c=X at*;simp only[jK,Ans.zero]at bW FX dM;by_cases he:X.2.2.err=0
    ·rw[af (by simpa using he)];have e0:(X.2.2.err !=0)=false:=by simpa using he
     replace he:=Xi he;refine pj func8 ntmps8 results8 ?_;first|exact aY|(refine aq ?_;exact dz)
    ·rw[ah (by simpa using he)];have e0:(X.2.2.err !=0)=true:=by simpa using he
     replace he:=Xi he;refine pj func8 ntmps8 results8 ?_;first|exact aY|(refine aq ?_;exact dz)
   ·rw[af zn];rw[ah (by simp[Ans.er])];replace hz:=Xi hz;replace eP:=Xi eP;replace FW:=Xi FW;replace js:=Xi js;simp only[jK,Ans.zero]at bW FX;by_cases h8:c.op < 8
    ·have e1:decide (c.op < 8)=true:=by simpa using h8
     replace h8:=Xi h8;replace zn:=Xi zn;refine pj func8 ntmps8 results8 ?_;first|exact aY|(refine aq ?_;exact dz)
    ·have e1:decide (c.op < 8)=false:=by simpa using h8
     have e2:decide (c.op>14)=true:=aN;replace h8:=Xi h8;replace zn:=Xi zn;refine pj func8 ntmps8 results8 ?_;first|exact aY|(refine aq ?_;exact dz)
 ·rw[ah h];have e1:(fj s !=0)=true:=by simpa using h
  generalize fj s=X at*;replace h:=Xi h;refine pj func8 ntmps8 results8 ?_;refine aq ?_;exact dz
theorem a1X {p:Prop}(h:p:=by
 rw[af (by simpa using he)];have e0:(X.2.err !=0)=false:=by simpa using he
 replace he:=Xi he;refine pw func8 ntmps8 results8 ?_;refine aq ?_;first|(refine kl (cT 16 s.net.vpcs.length 55 3 s.net.vpcs au (ez Flo.N) (fun _=>rfl) rfl) ?_;simp only[eM,fz,ee,dX,eF,d7,aD,aZ,bg,Xl,Xp,Xz,Xx,reduceIte,and_true,true_and,and_self,and_false,false_and,Xw,XG,reduceCtorEq];first|exact aY|(refine aq ?_;exact dv))|(refine kl (cT 9 s.net.vpcs.length 55 3 s.net.vpcs au (ez Flo.N) (fun _=>rfl) rfl) ?_;simp only[eM,fz,ee,dX,eF,d7,aD,aZ,bg,Xl,Xp,Xz,Xx,reduceIte,and_true,true_and,and_self,and_false,false_and,Xw,XG,reduceCtorEq];first|exact aY|(refine aq ?_;exact dv))|(refine kl (aW rfl rfl) ?_;first|exact aY|(refine aq ?_;exact dv))):p:=h
theorem a1Y {p:Prop}(h:p:=by
 rw[ah (by simpa using he)];have e0:(X.2.err !=0)=true:=by simpa using he
 replace he:=Xi he;refine pw func8 ntmps8 results8 ?_;refine aq ?_;first|(refine kl (cT 16 s.net.vpcs.length 55 3 s.net.vpcs au (ez Flo.N) (fun _=>rfl) rfl) ?_;simp only[eM,fz,ee,dX,eF,d7,aD,aZ,bg,Xl,Xp,Xz,Xx,reduceIte,and_true,true_and,and_self,and_false,false_and,Xw,XG,reduceCtorEq];first|exact aY|(refine aq ?_;exact dv))|(refine kl (cT 9 s.net.vpcs.length 55 3 s.net.vpcs au (ez Flo.N) (fun _=>rfl) rfl) ?_;simp only[eM,fz,ee,dX,eF,d7,aD,aZ,bg,Xl,Xp,Xz,Xx,reduceIte,and_true,true_and,and_self,and_false,false_and,Xw,XG,reduceCtorEq];first|exact aY|(refine aq ?_;exact dv))|(refine kl (aW rfl rfl) ?_;first|exact aY|(refine aq ?_;exact dv))):p:=h
theorem yr:Qg=[]:=rfl
@[go_sem] def ER (N:Nat)(b:Bok)(vp lp:PV)(c:Cmd)(a:Ans):List PV:=[.d (.v (.int .i64 b.tick)),.d (.fr N (.sl 9 (b.pools.map al))),vp,lp,.d (.v (.int .i64 c.op)),.d (.v (.int .i64 c.a)),.d (.v (.int .i64 c.b)),.d (.v (.int .i64 c.c)),.d (.v (.int .i64 c.at_.at_)),.d (.v (.int .i64 c.at_.len)),.d (.v (.int .i64 c.rule.min)),.d (.v (.int .i64 c.rule.max)),.d (.v (.int .i64 c.rule.usual)),.d (.v (.int .i64 c.rule.cool)),.d (.v (.int .i64 a.err)),.d (.v (.int .i64 a.at_.at_)),.d (.v (.int .i64 a.at_.len)),.d (.v (.int .i64 a.n))]
theorem IS (N:Nat)(b:Bok)(vp lp:PV)(c:Cmd)(a:Ans):(jK b vp lp c a).map (Dg N)=ER N b (Dg N vp) (Dg N lp) c a:=rfl
theorem RN (N:Nat){α:Type}(enc encF':α->List D)(h:∀x,(enc x).map (VJ N)=encF' x)(l:List α):(ab (l.map enc)).map (·.map (Dg N))=ab (l.map encF'):=by
 unfold ab;simp only[Z4];refine Y0 fun x _=>?_;simp only[_l];rw[<-h x,Z4,Z4];rfl
theorem Hc {α:Type}(enc:α->List D)(h:∀x,∀d∈enc x,d.one=true)(l:List α):(ab (l.map enc)).all (fun r=>r.all fun p=>p.plain&&p.one)=true:=by
 simp only[XD,ab,XF];rintro r ⟨ds,⟨x,-,rfl⟩,rfl⟩ p hp;obtain⟨d,hd,rfl⟩:=XF.1 hp;simp only[PV.plain,Yp];exact h x d hd
theorem Oh (v:Vpc):∀d∈au v,d.one=true:=by intro d hd;simp[au]at hd;rcases hd with rfl|rfl|rfl<;>rfl
theorem vv (N g:Nat)(l:List Vpc):G3 N (.row 55 3 g (ab (l.map au)))= .row 55 3 g (ab (l.map (ez N))):=by
 show Chunk.row _ _ _ _=_;rw[RN N au (ez N) (fun _=>rfl)]
theorem mM (g:Nat)(l:List Vpc):(Chunk.row 55 3 g (ab (l.map au))).plain=true:=Hc au Oh l
theorem mN (b:Bok)(vp lp:PV)(c:Cmd)(a:Ans)(h1:(vp.plain&&vp.one)=true)(h2:(lp.plain&&lp.one)=true):(Chunk.box 86 (jK b vp lp c a)).plain=true:=by
 simp[Chunk.plain,jK,PV.plain,PV.one,D.one,Value.oneCell',h1,h2]at*;simp[h1,h2]
theorem RO [Flo](b:Bok)(vs:List Vpc)(lp:List Lnk)(c:Cmd)(hz:∀p∈b.pools,p.leases.length<=3518437208882)(h6:vs.length<=6)(h4:∀v∈vs,v.ranges.length<=1000000000):
 MSpec prog 27 [.ptr 0 0] [.box 86 (ER Flo.N b (.own 1 vs.length) (.d (.fr Flo.N (.sl 2 (lp.map bS)))) c .zero),.row 55 3 vs.length (ab (vs.map (ez Flo.N)))] (.d (.v (.bool (decide (1<=c.op/\c.op<=6)))))
  [.box 86 (ER Flo.N (jX b vs c).1 (.own 1 vs.length) (.d (.fr Flo.N (.sl 2 (lp.map bS)))) c (jX b vs c).2),.row 55 3 vs.length (ab (vs.map (ez Flo.N)))]:=by
 have h:=sQ yr (@N0 ⟨0⟩ b vs lp c hz h6 h4) (by simp[PV.plain]) (by intro k hk;simp only[XY,Zn,or_false]at hk;rcases hk with rfl|rfl<;>first|exact mN _ _ _ _ _ rfl rfl|exact mM _ _|rfl) rfl
  (by intro k hk;simp only[XY,Zn,or_false]at hk;rcases hk with rfl|rfl<;>first|exact mN _ _ _ _ _ rfl rfl|exact mM _ _|rfl) rfl
  (by simp only[Xl,Xp,vv];simp only[G3,IS];simp[aL,aQ,aF,aw,ay,ER,Dg])
 simp only[Xl,Xp,vv]at h;exact h
theorem RP [Flo](b:Bok)(n:Net)(c:Cmd)(h:sX c=false):
 MSpec prog 28 [.ptr 0 0] [.box 86 (ER Flo.N b (.own 1 n.vpcs.length) (.d (.fr Flo.N (.sl 2 (n.links.map bS)))) c .zero),.row 55 3 n.vpcs.length (ab (n.vpcs.map (ez Flo.N)))] (.d (.v (.bool false)))
  [.box 86 (ER Flo.N b (.own 1 n.vpcs.length) (.d (.fr Flo.N (.sl 2 (n.links.map bS)))) c .zero),.row 55 3 n.vpcs.length (ab (n.vpcs.map (ez Flo.N)))]:=by
 have h:=sQ yr (@N7 ⟨0⟩ b n c h) (by simp[PV.plain]) (by intro k hk;simp only[XY,Zn,or_false]at hk;rcases hk with rfl|rfl<;>first|exact mN _ _ _ _ _ rfl rfl|exact mM _ _|rfl) rfl
  (by intro k hk;simp only[XY,Zn,or_false]at hk;rcases hk with rfl|rfl<;>first|exact mN _ _ _ _ _ rfl rfl|exact mM _ _|rfl) rfl
  (by simp only[Xl,Xp,vv];simp only[G3,IS];simp[aL,aQ,aF,aw,ay,ER,Dg])
 simp only[Xl,Xp,vv]at h;exact h
theorem RQ [Flo](b:Bok)(n:Net)(c:Cmd)(h8:b.pools.length<=1000000000)(eP:∀p∈b.pools,p.leases.length<=1000000000)(h:sX c=true):
 MSpec prog 28 [.ptr 0 0] [.box 86 (ER Flo.N b (.own 1 n.vpcs.length) (.d (.fr Flo.N (.sl 2 (n.links.map bS)))) c .zero),.row 55 3 n.vpcs.length (ab (n.vpcs.map (ez Flo.N)))] (.d (.v (.bool true)))
  [.box 86 (ER Flo.N b (.d (.fr Flo.N (.sl 3 ((sY b n c).1.vpcs.map au)))) (.d (.fr Flo.N (.sl 2 ((sY b n c).1.links.map bS)))) c (sY b n c).2),.gone]:=by
 have h:=sQ yr (@N8 ⟨0⟩ b n c h8 eP h) (by simp[PV.plain]) (by intro k hk;simp only[XY,Zn,or_false]at hk;rcases hk with rfl|rfl<;>first|exact mN _ _ _ _ _ rfl rfl|exact mM _ _|rfl) rfl
  (by intro k hk;simp only[XY,Zn,or_false]at hk;rcases hk with rfl|rfl<;>first|exact mN _ _ _ _ _ rfl rfl|exact mM _ _|rfl) rfl
  (by simp only[Xl,Xp,vv];simp only[G3,IS];simp[aL,aQ,aF,aw,ay,ER,Dg])
 simp only[Xl,Xp,vv]at h;exact h
theorem Oi [Flo](b:Bok)(n:Net)(c:Cmd)(hz:∀p∈b.pools,p.leases.length<=3518437208882)(h6:n.vpcs.length<=1000000000)(ho:8<=c.op/\c.op<=14):
 MSpec prog 29 [.ptr 0 0] [.box 86 (ER Flo.N b (.own 1 n.vpcs.length) (.d (.fr Flo.N (.sl 2 (n.links.map bS)))) c .zero),.row 55 3 n.vpcs.length (ab (n.vpcs.map (ez Flo.N)))] (.d (.tup []))
  [.box 86 (ER Flo.N (gL b n c).1 (.d (.fr Flo.N (.sl 3 ((gL b n c).2.1.vpcs.map au)))) (.d (.fr Flo.N (.sl 2 ((gL b n c).2.1.links.map bS)))) c (gL b n c).2.2),.gone]:=by
 have h:=sQ yr (@IR ⟨0⟩ b n c hz h6 ho) (by simp[PV.plain]) (by intro k hk;simp only[XY,Zn,or_false]at hk;rcases hk with rfl|rfl<;>first|exact mN _ _ _ _ _ rfl rfl|exact mM _ _|rfl) rfl
  (by intro k hk;simp only[XY,Zn,or_false]at hk;rcases hk with rfl|rfl<;>first|exact mN _ _ _ _ _ rfl rfl|exact mM _ _|rfl) rfl
  (by simp only[Xl,Xp,vv];simp only[G3,IS];simp[aL,aQ,aF,aw,ay,ER,Dg])
 simp only[Xl,Xp,vv]at h;exact h
@[go_sem] def kk (N:Nat)(s:Ste):List D:=[.v (.int .i64 s.book.tick),.fr N (.sl 9 (s.book.pools.map al)),.fr N (.sl 3 (s.net.vpcs.map au)),.fr N (.sl 2 (s.net.links.map bS))]
theorem RR [Flo](N sz:Nat){α:Type}(enc encF':α->List D)(h:∀x,(enc x).map (KI N)=encF' x)(l:List α):aO (.fr N (.sl sz (l.map enc))) (.sl sz (l.map encF')):=by
 intro M w v hv;have hv:=G2.1 hv;have e:l.map encF'=(l.map enc).map (·.map (KI N)):=by rw[Z4];exact Y0 fun x _=>(h x).symm
 rw[e];generalize l.map enc=rows at*;cases hv with
 |nil _ ao cap hm=>exact .nil _ ao cap hm
 |sl _ _ b off cap f hM hb hc hm hr h1 cf aU hz=>
  have hl:(rows.map (·.map (KI N))).length=rows.length:=Xs _;have:=RepD.sl (M:=M) (w:=w) sz (rows.map (·.map (KI N))) b off cap f (fun h=>hM (.inl h)) hb (by rw[hl];exact hc) hm
   (fun r hr'=>by obtain⟨y,hy,rfl⟩:=XF.1 hr';rw[Xs];exact hr y hy)
   (fun r hr' d hd=>by obtain⟨y,hy,rfl⟩:=XF.1 hr';obtain⟨z,hz,rfl⟩:=XF.1 hd;rw[wy];exact h1 y hy z hz)
   (by rw[hl];exact cf)
   (fun i j row d hi hj=>by
    rw[Xr,XB]at hi;obtain⟨y,hy,rfl⟩:=hi;rw[Xr,XB]at hj;obtain⟨z,hz',rfl⟩:=hj;exact sO.2 (aU i j y z hy hz')) hz
  rw[hl]at this;exact this
theorem a0H [Flo](N:Nat)(l:List Vpc):aO (.fr N (.sl 3 (l.map au))) (.sl 3 (l.map (ez N))):=RR N 3 au (ez N) (fun _=>rfl) l
theorem UC [Flo](N sz:Nat):aO (.v (.slice none 0 0)) (.fr N (.sl sz [])):=by
 intro M w v hv;cases hv;exact .fr _ _ _ (.nil _ _ _ aa)
theorem dv [Flo]{a b:D}(h:aO a b:=by repeat(first|exact aO.refl _|exact aO.nil _|exact a0H _ _|exact UC _ _|(refine aO.tup ?_)|(refine aO.agg ?_ rfl)|exact trivial|(refine And.intro ?_ ?_))):aO a b:=h
def UD [Flo](P:Program)(n:Nat)(T:Nat->Option TI)(rs:List ResultVar)(r:D)(x:Exit)(e:bU)(h:List Chunk):Prop:=∃e' h',cG P n 0 e h e' h'/\ni T rs r x e' h'
theorem kl [Flo]{P:Program}{n:Nat}{T:Nat->Option TI}{rs:List ResultVar}{r:D}{u:Tg (UD P n T rs r)}{e e':bU}{h h':List Chunk}(hw:cG P n 0 e h e' h')(hr:J9 T rs r e' h'):uc (UD P n T rs r) u .ret e h:=⟨e',h',hw,(B6 (x:= .ret) (.inr rfl)).mpr hr⟩
theorem pw [Flo]{f nt:Nat}{fn:Func}{c:Code}{rs:Array ResultVar}{ds:List D}{r:D}(hf:prog.funcs[f]? =some fn)(hn:fn.ntmps=nt)(hr:fn.results=rs)
 (hp:sC prog nt 0 nj vU c (UD prog nt nj rs.toList r) ⟨⟩ (nZ (ds.map .d) 0) []) (hb:fn.body=some c:=by exact rfl) (hc:B7 fn nt c ds.length=true:=by kernel_rfl):ai prog f ds r:=by
 subst hn;subst hr;simp only[B7,Xv,Zq,decide_eq_true_eq]at hc;refine ve ag hf hb (cS hf hc.1.1 hb) hc.2 ?_;intro X hX hn oS a w hr;refine wp_mono (gY ag am _ _ _ _ hc.1.2 hp X hX hn oS a w hr) ?_;rintro x a' w' ⟨e,h,⟨e',h',hw,hk⟩,hr'⟩;exact⟨e',h',hk,hw X hX hn oS a' w' hr'⟩
theorem Ww [Flo](s:Ste)(c:Cmd)(hz:∀p∈s.book.pools,p.leases.length<=3518437208882):ai prog 8 [.agg (bJ s),.agg (jp c)] (.tup [.agg (kk Flo.N (qL s c).1),.agg (eG (qL s c).2.1),.v (.int .i64 (qL s c).2.2)]):=by
 have hc:=ya s hz;unfold qL;by_cases h:fj s=0
 ·rw[af (by simpa using h)];rw[h]at hc;obtain⟨qq,mU⟩:=nL h;have tL:=db qq;have bQ:=gw.1 mU;have n8:=tL.n8;have eP:=tL.l32;have n6:=bQ.n6;have lc:∀v∈s.net.vpcs,v.ranges.length<=1000000000:=fun v hv=>by have:=(be (bQ.vp v hv)).n4;omega
  have how:=Ln.mk (ls:=[]) (Rn s tL bQ);have bW:=Ln.mk (ls:=[10,9]) (RO s.book s.net.vpcs s.net.links c hz n6 lc);clear h qq mU tL bQ lc;unfold zR;by_cases js:1<=c.op/\c.op<=6
  ·rw[ah js];rw[decide_eq_true js]at bW;replace js:=Xi js;replace hz:=Xi hz;replace eP:=Xi eP;generalize jX s.book s.net.vpcs c=X at*;simp only[ER,Ans.zero]at bW;by_cases he:X.2.err=0
   ·exact a1X
   ·exact a1Y
  rw[af js];rw[decide_eq_false js]at bW;have Da:jX s.book s.net.vpcs c=(s.book,.zero):=by unfold jX;rw[af aa,af aa,af aa,af aa,af aa,af aa]
  rw[Da]at bW;clear Da;cases FW:sX c with
  |true=>
   rw[ah rfl];have FX:=Ln.mk (ls:=[10,9]) (RQ s.book s.net c aa (fun p hp=>by have:=eP p hp;omega) FW);replace js:=Xi js;replace hz:=Xi hz;replace eP:=Xi eP;replace FW:=Xi FW;generalize sY s.book s.net c=X at*;simp only[ER,Ans.zero]at bW FX;by_cases he:X.2.err=0
   ·exact a1X
   ·exact a1Y
  |false=>
   rw[af Bool.false_ne_true];have FX:=Ln.mk (ls:=[10,9]) (RP s.book s.net c FW);by_cases zn:8<=c.op/\c.op<=14
   ·rw[ah zn];have dM:=Ln.mk (ls:=[10,9]) (Oi s.book s.net c hz aa zn);have e1:decide (c.op < 8)=false:=aN;have e2:decide (c.op>14)=false:=aN;replace js:=Xi js;replace hz:=Xi hz;replace eP:=Xi eP;replace FW:=Xi FW;replace zn:=Xi zn;generalize gL s.book s.net c=X at*;simp only[ER,Ans.zero]at bW FX dM;by_cases he:X.2.2.err=0
    ·rw[af (by simpa using he)];have e0:(X.2.2.err !=0)=false:=by simpa using he
     replace he:=Xi he;refine pw func8 ntmps8 results8 ?_;refine aq ?_;first|(refine kl (cT 16 s.net.vpcs.length 55 3 s.net.vpcs au (ez Flo.N) (fun _=>rfl) rfl) ?_;simp only[eM,fz,ee,dX,eF,d7,aD,aZ,bg,Xl,Xp,Xz,Xx,reduceIte,and_true,true_and,and_self,and_false,false_and,Xw,XG,reduceCtorEq];first|exact aY|(refine aq ?_;exact dv))|(refine kl (cT 9 s.net.vpcs.length 55 3 s.net.vpcs au (ez Flo.N) (fun _=>rfl) rfl) ?_;simp only[eM,fz,ee,dX,eF,d7,aD,aZ,bg,Xl,Xp,Xz,Xx,reduceIte,and_true,true_and,and_self,and_false,false_and,Xw,XG,reduceCtorEq];first|exact aY|(refine aq ?_;exact dv))|(refine kl (aW rfl rfl) ?_;first|exact aY|(refine aq ?_;exact dv))
    ·rw[ah (by simpa using he)];have e0:(X.2.2.err !=0)=true:=by simpa using he
     replace he:=Xi he;refine pw func8 ntmps8 results8 ?_;refine aq ?_;first|(refine kl (cT 16 s.net.vpcs.length 55 3 s.net.vpcs au (ez Flo.N) (fun _=>rfl) rfl) ?_;simp only[eM,fz,ee,dX,eF,d7,aD,aZ,bg,Xl,Xp,Xz,Xx,reduceIte,and_true,true_and,and_self,and_false,false_and,Xw,XG,reduceCtorEq];first|exact aY|(refine aq ?_;exact dv))|(refine kl (cT 9 s.net.vpcs.length 55 3 s.net.vpcs au (ez Flo.N) (fun _=>rfl) rfl) ?_;simp only[eM,fz,ee,dX,eF,d7,aD,aZ,bg,Xl,Xp,Xz,Xx,reduceIte,and_true,true_and,and_self,and_false,false_and,Xw,XG,reduceCtorEq];first|exact aY|(refine aq ?_;exact dv))|(refine kl (aW rfl rfl) ?_;first|exact aY|(refine aq ?_;exact dv))
   ·rw[af zn];rw[ah (by simp[Ans.er])];replace hz:=Xi hz;replace eP:=Xi eP;replace FW:=Xi FW;replace js:=Xi js;simp only[ER,Ans.zero]at bW FX;by_cases h8:c.op < 8
    ·have e1:decide (c.op < 8)=true:=by simpa using h8
     replace h8:=Xi h8;replace zn:=Xi zn;refine pw func8 ntmps8 results8 ?_;refine aq ?_;first|(refine kl (cT 16 s.net.vpcs.length 55 3 s.net.vpcs au (ez Flo.N) (fun _=>rfl) rfl) ?_;simp only[eM,fz,ee,dX,eF,d7,aD,aZ,bg,Xl,Xp,Xz,Xx,reduceIte,and_true,true_and,and_self,and_false,false_and,Xw,XG,reduceCtorEq];first|exact aY|(refine aq ?_;exact dv))|(refine kl (cT 9 s.net.vpcs.length 55 3 s.net.vpcs au (ez Flo.N) (fun _=>rfl) rfl) ?_;simp only[eM,fz,ee,dX,eF,d7,aD,aZ,bg,Xl,Xp,Xz,Xx,reduceIte,and_true,true_and,and_self,and_false,false_and,Xw,XG,reduceCtorEq];first|exact aY|(refine aq ?_;exact dv))|(refine kl (aW rfl rfl) ?_;first|exact aY|(refine aq ?_;exact dv))
    ·have e1:decide (c.op < 8)=false:=by simpa using h8
     have e2:decide (c.op>14)=true:=aN;replace h8:=Xi h8;replace zn:=Xi zn;refine pw func8 ntmps8 results8 ?_;refine aq ?_;first|(refine kl (cT 16 s.net.vpcs.length 55 3 s.net.vpcs au (ez Flo.N) (fun _=>rfl) rfl) ?_;simp only[eM,fz,ee,dX,eF,d7,aD,aZ,bg,Xl,Xp,Xz,Xx,reduceIte,and_true,true_and,and_self,and_false,false_and,Xw,XG,reduceCtorEq];first|exact aY|(refine aq ?_;exact dv))|(refine kl (cT 9 s.net.vpcs.length 55 3 s.net.vpcs au (ez Flo.N) (fun _=>rfl) rfl) ?_;simp only[eM,fz,ee,dX,eF,d7,aD,aZ,bg,Xl,Xp,Xz,Xx,reduceIte,and_true,true_and,and_self,and_false,false_and,Xw,XG,reduceCtorEq];first|exact aY|(refine aq ?_;exact dv))|(refine kl (aW rfl rfl) ?_;first|exact aY|(refine aq ?_;exact dv))
 ·rw[ah h];have e1:(fj s !=0)=true:=by simpa using h
  generalize fj s=X at*;replace h:=Xi h;refine pw func8 ntmps8 results8 ?_;refine aq ?_;first|(refine kl (cT 16 s.net.vpcs.length 55 3 s.net.vpcs au (ez Flo.N) (fun _=>rfl) rfl) ?_;simp only[eM,fz,ee,dX,eF,d7,aD,aZ,bg,Xl,Xp,Xz,Xx,reduceIte,and_true,true_and,and_self,and_false,false_and,Xw,XG,reduceCtorEq];first|exact aY|(refine aq ?_;exact dv))|(refine kl (cT 9 s.net.vpcs.length 55 3 s.net.vpcs au (ez Flo.N) (fun _=>rfl) rfl) ?_;simp only[eM,fz,ee,dX,eF,d7,aD,aZ,bg,Xl,Xp,Xz,Xx,reduceIte,and_true,true_and,and_self,and_false,false_and,Xw,XG,reduceCtorEq];first|exact aY|(refine aq ?_;exact dv))|(refine kl (aW rfl rfl) ?_;first|exact aY|(refine aq ?_;exact dv))
theorem a0I {P:Program}{o:Oper}{a:Act}{w:World}{K:Act->World->Prop}{Q Q':Exit->Act->World->Prop}(h:∀x a w,x≠ .normal->Q x a w->Q' x a w)(hh:o.wp P a w K Q):o.wp P a w K Q':=by
 unfold Oper.wp at*;generalize (execOp a.eval o).run P w=r at*;cases r with
 |ok n w'=>
  cases n<;>simp only[Oper.upon]at hh ⊢<;>
   first
    |exact hh
    |exact Calls.mono hh (fun e w'' he=>by
     cases e<;>first|exact he|exact h _ _ _ ak he|exact he.elim fun a ha=>ha.elim fun w hw=>⟨a,w,h _ _ _ ak hw⟩)
 |halt x w'=>cases x<;>simp only[Oper.upon]at hh ⊢<;>first|exact hh|exact h _ _ _ ak hh
theorem ES {P:Program}{pre:List Oper}{st:Oper}{R R1:Exit->Act->World->Prop}(hg:∀o∈pre,o.guard=none)(VX:st.guard=none)(h1:∀x a w,x≠ .normal->R1 x a w->R x a w)
 (h2:∀a w,R1 .normal a w->st.wp P a w (fun a w=>R .normal a w) R):∀(l:List Nat) (a:Act) (w:World),(∀i∈l,i < pre.length)->wpOps P pre.toArray R1 l a w->wpOps P (pre++[st]).toArray R (l++[pre.length]) a w
 |[],a,w,_,hh=>by
  simp only[X8,wpOps,Zc,List.getElem?_concat_length,Region.wanted,VX,if_true];exact .inl (h2 a w hh)
 |i::l,a,w,hl,hh=>by
  have hi:=hl i ak;have ho:(pre++[st]).toArray[i]? =pre.toArray[i]? :=by simp only[Zc];exact XW hi
  have hp:pre.toArray[i]? =some pre[i]:=by simp only[Zc];exact Xj hi
  have hgi:=hg pre[i] (Yl hi);simp only[X5,wpOps,ho,hp,Region.wanted,hgi,if_true]at hh ⊢;rcases hh with hh|⟨ha,b,w',hb⟩
  ·exact .inl (a0I h1 (Oper.wp_mono (fun a w h=>ES hg VX h1 h2 l a w (fun j hj=>hl j (YP _ hj)) h) hh))
  ·exact .inr ⟨ha,b,w',h1 _ _ _ ak hb⟩
theorem He [Flo]{X:Cfg}{T:Nat->Option TI}{Q:Nat->Option Nat}(bY:TabOK X.P T Q){id:Nat}{pre:List Oper}{st:Oper}{K:bU->List Chunk->Prop}{e:bU}{h:List Chunk}{a:Act}{w:World}{R:Exit->Act->World->Prop}(nQ:X.m<=h.length)(hg:∀o∈pre,o.guard=none)(VX:st.guard=none)
 (hs:t8 X.P X.n T Q false pre.toArray (pre.map (·.dst)) pre e h [] K) (hr:eQ X (bs e h) a w) (dN:∀e' h' a' w',K e' h'->eQ X (bs e' h') a' w'->st.wp X.P a' w' (fun a w=>R .normal a w) R):(Code.region id (pre++[st]).toArray false).wp X.P R a w:=by
 obtain⟨its,e',h',t1,t2,-,t4⟩:=nY (ops:=pre.toArray) bY pre 0 e h [] nQ rfl (XE _) (by simpa using hs);refine wp_region ?_;have hl:=(o6 its _ 0 t1).1;have h1:=qS (Q:=fun x a w=>match x with| .normal=>st.wp X.P a w (fun a w=>R .normal a w) R|x=>R x a w) its _ 0 a w t1 hr (fun a' w' hr'=>dN e' h' a' w' t4 (by rw[<-t2];exact hr'));have hn:its.length=pre.length:=by simpa using hl
 rw[hn]at h1;have:=ES (R:=R) hg VX (fun x a w hx hq=>by cases x<;>first|exact absurd rfl hx|exact hq) (fun a w hq=>hq) (List.range' 0 pre.length) a w (fun i hi=>by simpa using hi) h1;rw[show (pre++[st]).toArray.size=pre.length+1 by simp,List.range_eq_range',List.range'_concat];simpa using this
theorem xw [Flo]{X:Cfg}{T:Nat->Option TI}{Q:Nat->Option Nat}(bY:TabOK X.P T Q)(hm:X.P.follows .mixedOrders=true){c:Code}{K:KT}{e:bU}{h:List Chunk}{a:Act}{w:World}{R:Exit->Act->World->Prop}(hb:iF X.n c=true)(hr:eQ X (bs e h) a w)(hs:sC X.P X.n X.m T Q c K ⟨⟩ e h)
 (hR:∀x e' h' a' w',K x e' h'->eQ X (bs e' h') a' w'->R x a' w'):c.wp X.P R a w:=
 wp_mono (gY bY hm c K e h hb hs X rfl rfl rfl a w hr) fun x a' w' ⟨e',h',hk,hr'⟩=>hR x e' h' a' w' hk hr'
def Ch (z:Bool)(a b:Value):Prop:=a=b\/(∃x y,a= .int .i64 x/\b= .int .i64 y)\/z=true/\∃ao n cap,a= .slice ao n cap/\b= .slice none 0 0
structure Wr [Flo](z:Bool)(M:Nat->Prop)(w w':World):Prop where
 size:w'.heap.size=w.heap.size
 cell:∀b o v,¬M b->w.cell? ⟨b,o,none⟩=some v->∃v',w'.cell? ⟨b,o,none⟩=some v'/\Ch z v v'
 thaw:∀b,F9 w b->F9 w' b
def RL [Flo](M:Nat->Prop)(w:World)(f:Nat->Value):Nat->List D->Prop
 |_,[]=>True
 |i,d::l=>RepD M w d (f i)/\RL M w f (i+1) l
theorem Oj [Flo]{M:Nat->Prop}{w:World}{f:Nat->Value}:∀{l:List D}{i:Nat},RL M w f i l->∀j d,l[j]? =some d->RepD M w d (f (i+j))
 |[],_,_,_,_,h=>by cases h
 |_::_,i,hl,0,d,h=>by cases h;exact hl.1
 |_::l,i,hl,j+1,d,h=>by rw[show i+(j+1)=i+1+j by omega];exact Oj hl.2 j d h
theorem Tj [Flo]{M:Nat->Prop}{w:World}{f:Nat->Value}:∀{l:List D}{i:Nat},(∀j d,l[j]? =some d->RepD M w d (f (i+j)))->RL M w f i l
 |[],_,_=>trivial
 |_::l,i,h=>⟨h 0 _ rfl,Tj fun j d hj=>by rw[show i+1+j=i+(j+1) by omega];exact h (j+1) d hj⟩
def St [Flo](z:Bool)(M:Nat->Prop)(w w':World){α σ:Type}(n:Nat)(enc:α->List D)(sh:α->σ):Prop:=
 ∀(x:α) (f f':Nat->Value),RL M w f 0 (enc x)->(∀j,j < n->Ch z (f j) (f' j))->∃x',RL M w' f' 0 (enc x')/\(z=false->sh x'=sh x)
theorem vx {α:Type}{P:Nat->α->Prop}:∀n,(∀i,i < n->∃x,P i x)->∃l:List α,l.length=n/\∀i x,l[i]? =some x->P i x
 |0,_=>⟨[],rfl,fun _ _ h=>by cases h⟩
 |n+1,h=>by
  obtain⟨l,hl,hp⟩:=vx n fun i hi=>h i aa;obtain⟨x,hx⟩:=h n aa;refine⟨l++[x],by simp[hl],fun i y hy=>?_⟩;rcases XL i l.length with hi|hi
  ·rw[XW hi]at hy;exact hp i y hy
  ·rw[XI hi]at hy;have:i - l.length=0:=by
    rcases Zx (i - l.length)with e|e
    ·exact e
    ·rw[XN aN]at hy;cases hy
   rw[this]at hy;cases hy;rw[show i=n by omega];exact hx
section
variable {z:Bool}{M:Nat->Prop}{w w':World}{α σ:Type}{sz:Nat}{enc:α->List D}{sh:α->σ}
theorem IT [Flo](hw:Wr z M w w')(hS:St z M w w' sz enc sh)(h1:∀x,∀d∈enc x,d.one=true){l:List α}{v:Value}(h:RepD M w (.sl sz (l.map enc)) v)(hl:∀x,(enc x).length=sz):
 ∃l':List α,RepD M w' (.sl sz (l'.map enc)) v/\l'.length=l.length/\(z=false->l'.map sh=l.map sh):=by
 generalize Jg:l.map enc=rows at h;cases h with
 |nil _ ao cap hm=>
  obtain rfl:l=[]:=by simpa using Jg
  exact⟨[],.nil sz ao cap hm,rfl,fun _=>rfl⟩
 |sl _ _ b off cap f hM hb hc hm hr h1' cf aU hz=>
  subst Jg;have lI:(l.map enc).length=l.length:=Xs _;let f':Nat->Nat->Value:=fun i j=>(w'.cell? ⟨b,off+i*sz+j,none⟩).getD undef
  have hf':∀i j,i < l.length->j < sz->w'.cell? ⟨b,off+i*sz+j,none⟩=some (f' i j)/\Ch z (f i j) (f' i j):=fun i j hi hj=>by
   obtain⟨v',hv,HJ⟩:=hw.cell b _ _ hM (cf i j (by rw[lI];exact hi) hj);have:f' i j=v':=by show (w'.cell? _).getD undef=v';rw[hv];rfl
   rw[this];exact⟨hv,HJ⟩
  obtain⟨l',hl',hp⟩:=vx (P:=fun i x'=>RL M w' (f' i) 0 (enc x')/\∀x,l[i]? =some x->z=false->sh x'=sh x) l.length fun i hi=>by
   obtain⟨x',hx',hs⟩:=hS l[i] (f i) (f' i) (Tj fun j d hj=>by rw[Xw];exact aU i j (enc l[i]) d (by rw[Xr,Xj hi];rfl) hj) fun j hj=>(hf' i j hi hj).2;exact⟨x',hx',fun x hx=>by rw[Xj hi]at hx;cases hx;exact hs⟩
  refine⟨l',?_,hl',fun Lz=>?_⟩
  ·have:=RepD.sl (M:=M) (w:=w') sz (l'.map enc) b off cap f' hM (by rw[hw.size];exact hb) (by rw[Xs,hl',<-lI];exact hc) hm
    (fun r hr'=>by obtain⟨y,-,rfl⟩:=XF.1 hr';exact hl y) (fun r hr' d hd=>by obtain⟨y,-,rfl⟩:=XF.1 hr';exact h1 y d hd)
    (fun i j hi hj=>(hf' i j (by rw[Xs,hl']at hi;exact hi) hj).1)
    (fun i j row d hi hj=>by
     rw[Xr,XB]at hi;obtain⟨y,hy,rfl⟩:=hi;have:=Oj (hp i y hy).1 j d hj;rw[Xw]at this;exact this) (hw.thaw b hz)
   rw[Xs,hl',<-lI]at this;exact this
  ·refine Yg fun i=>?_;rw[Xr,Xr];rcases XL i l.length with hi|hi
   ·rw[Xj hi,Xj (by omega:i < l'.length)];simp only[Yb,XU.injEq];exact(hp i _ (Xj aa)).2 _ (Xj hi) Lz
   ·rw[XN hi,XN aa]
theorem ET [Flo](hw:Wr z M w w')(hS:St z M w w' sz enc sh)(h1:∀x,∀d∈enc x,d.one=true){l:List α}{v v':Value}(h:RepD M w (.sl sz (l.map enc)) v)(hc:Ch z v v')(hl:∀x,(enc x).length=sz):
 ∃l':List α,RepD M w' (.sl sz (l'.map enc)) v'/\(z=false->l'.map sh=l.map sh):=by
 rcases hc with rfl|⟨x,y,rfl,rfl⟩|⟨hz,ao,n,cap,rfl,rfl⟩
 ·obtain⟨l',a,-,c⟩:=IT hw hS h1 h hl;exact⟨l',a,c⟩
 ·generalize l.map enc=r at h;cases h
 ·exact⟨[],.nil sz none 0 aa,fun h=>by rw[hz]at h;cases h⟩
theorem ep [Flo]{a:Int}{v v':Value}(h:RepD M w (.v (.int .i64 a)) v)(hc:Ch z v v'):∃b:Int,RepD M w' (.v (.int .i64 b)) v':=by
 cases h;rcases hc with rfl|⟨x,y,-,rfl⟩|⟨-,ao,n,cap,h,-⟩
 ·exact⟨a,.v _⟩
 ·exact⟨y,.v _⟩
 ·cases h
theorem a0J [Flo]:St z M w w' 5 bc (fun _=>()):=by
 rintro x f f' ⟨h0,h1,h2,h3,h4,-⟩ hc;obtain⟨a0,e0⟩:=ep (w':=w') h0 (hc 0 aa);obtain⟨a1,e1⟩:=ep (w':=w') h1 (hc 1 aa);obtain⟨a2,e2⟩:=ep (w':=w') h2 (hc 2 aa);obtain⟨a3,e3⟩:=ep (w':=w') h3 (hc 3 aa);obtain⟨a4,e4⟩:=ep (w':=w') h4 (hc 4 aa);exact⟨⟨⟨a0,a1⟩,a2,a3,a4⟩,⟨e0,e1,e2,e3,e4,trivial⟩,fun _=>rfl⟩
theorem a0K [Flo]:St z M w w' 3 bp (fun _=>()):=by
 rintro x f f' ⟨h0,h1,h2,-⟩ hc;obtain⟨a0,e0⟩:=ep (w':=w') h0 (hc 0 aa);obtain⟨a1,e1⟩:=ep (w':=w') h1 (hc 1 aa);obtain⟨a2,e2⟩:=ep (w':=w') h2 (hc 2 aa);exact⟨⟨⟨a0,a1⟩,a2⟩,⟨e0,e1,e2,trivial⟩,fun _=>rfl⟩
theorem a0L [Flo]:St z M w w' 1 cm (fun _=>()):=by
 rintro x f f' ⟨h0,-⟩ hc;obtain⟨a0,e0⟩:=ep (w':=w') h0 (hc 0 aa);exact⟨a0,⟨e0,trivial⟩,fun _=>rfl⟩
theorem a0M [Flo]:St z M w w' 2 bS (fun _=>()):=by
 rintro x f f' ⟨h0,h1,-⟩ hc;obtain⟨a0,e0⟩:=ep (w':=w') h0 (hc 0 aa);obtain⟨a1,e1⟩:=ep (w':=w') h1 (hc 1 aa);exact⟨⟨a0,a1⟩,⟨e0,e1,trivial⟩,fun _=>rfl⟩
end
def VN (p:Pol):Nat:=p.leases.length
def shF (f:Fce):Nat:=f.addrs.length
def shN (s:Sbn):List Nat:=s.faces.map shF
def Ok (v:Vpc):Nat × List (List Nat):=(v.ranges.length,v.subs.map shN)
theorem Wx (x:Lse):∀d∈bc x,d.one=true:=by simp[bc,D.one,Value.oneCell']
theorem Wy (x:Rng):∀d∈bp x,d.one=true:=by simp[bp,D.one,Value.oneCell']
theorem Wz (x:Int):∀d∈cm x,d.one=true:=by simp[cm,D.one,Value.oneCell']
theorem WA (x:Lnk):∀d∈bS x,d.one=true:=by simp[bS,D.one,Value.oneCell']
theorem WB (x:Fce):∀d∈bR x,d.one=true:=by simp[bR,D.one,Value.oneCell']
theorem WC (x:Sbn):∀d∈aT x,d.one=true:=by simp[aT,D.one,Value.oneCell']
theorem WD (x:Vpc):∀d∈au x,d.one=true:=by simp[au,D.one,Value.oneCell']
theorem WE (x:Pol):∀d∈al x,d.one=true:=by simp[al,D.one,Value.oneCell']
theorem Hf {α β:Type}{l l':List α}{g:α->β}(h:l'.map g=l.map g):l'.length=l.length:=by simpa using congrArg Zm h
section
variable {z:Bool}{M:Nat->Prop}{w w':World}
theorem a0N [Flo](hw:Wr z M w w'):St z M w w' 2 bR shF:=by
 rintro x f f' ⟨h0,h1,-⟩ hc;obtain⟨a0,e0⟩:=ep (w':=w') h0 (hc 0 aa);obtain⟨a1,e1,s1⟩:=ET hw a0L Wz h1 (hc 1 aa) (fun _=>rfl);exact⟨⟨a0,a1⟩,⟨e0,e1,trivial⟩,fun h=>Hf (s1 h)⟩
theorem a0O [Flo](hw:Wr z M w w'):St z M w w' 4 aT shN:=by
 rintro x f f' ⟨h0,h1,h2,h3,-⟩ hc;obtain⟨a0,e0⟩:=ep (w':=w') h0 (hc 0 aa);obtain⟨a1,e1⟩:=ep (w':=w') h1 (hc 1 aa);obtain⟨a2,e2⟩:=ep (w':=w') h2 (hc 2 aa);obtain⟨a3,e3,s3⟩:=ET hw (a0N hw) WB h3 (hc 3 aa) (fun _=>rfl);exact⟨⟨a0,⟨a1,a2⟩,a3⟩,⟨e0,e1,e2,e3,trivial⟩,s3⟩
theorem a0P [Flo](hw:Wr z M w w'):St z M w w' 3 au Ok:=by
 rintro x f f' ⟨h0,h1,h2,-⟩ hc;obtain⟨a0,e0⟩:=ep (w':=w') h0 (hc 0 aa);obtain⟨a1,e1,s1⟩:=ET hw a0K Wy h1 (hc 1 aa) (fun _=>rfl);obtain⟨a2,e2,s2⟩:=ET hw (a0O hw) WC h2 (hc 2 aa) (fun _=>rfl);exact⟨⟨a0,a1,a2⟩,⟨e0,e1,e2,trivial⟩,fun h=>Prod.ext (Hf (s1 h)) (s2 h)⟩
theorem a0Q [Flo](hw:Wr z M w w'):St z M w w' 9 al VN:=by
 rintro x f f' ⟨h0,h1,h2,h3,h4,h5,h6,h7,h8,-⟩ hc;obtain⟨a0,e0⟩:=ep (w':=w') h0 (hc 0 aa);obtain⟨a1,e1⟩:=ep (w':=w') h1 (hc 1 aa);obtain⟨a2,e2⟩:=ep (w':=w') h2 (hc 2 aa);obtain⟨a3,e3⟩:=ep (w':=w') h3 (hc 3 aa);obtain⟨a4,e4⟩:=ep (w':=w') h4 (hc 4 aa);obtain⟨a5,e5⟩:=ep (w':=w') h5 (hc 5 aa);obtain⟨a6,e6⟩:=ep (w':=w') h6 (hc 6 aa);obtain⟨a7,e7⟩:=ep (w':=w') h7 (hc 7 aa);obtain⟨a8,e8,s8⟩:=ET hw a0J Wx h8 (hc 8 aa) (fun _=>rfl);exact⟨⟨a0,a1,⟨a2,a3⟩,⟨a4,a5,a6,a7⟩,a8⟩,⟨e0,e1,e2,e3,e4,e5,e6,e7,e8,trivial⟩,fun h=>Hf (s8 h)⟩
structure ShR (z:Bool)(s s':Ste):Prop where
 pools:s'.book.pools.length=s.book.pools.length
 leases:z=false->s'.book.pools.map VN=s.book.pools.map VN
 links:s'.net.links.length=s.net.links.length
 nets:z=false->s'.net.vpcs.map Ok=s.net.vpcs.map Ok
theorem RS [Flo](hw:Wr z M w w'){s:Ste}{vs:List Value}(h:cj M w (bJ s) vs):∃s',cj M w' (bJ s') vs/\ShR z s s':=by
 obtain⟨hl,hg⟩:=h;match vs,hl with
 |[v0,v1,v2,v3],_=>
  have h0:=hg 0 _ _ rfl rfl;obtain⟨p,e1,n1,s1⟩:=IT hw (a0Q hw) WE (hg 1 _ _ rfl rfl) (fun _=>rfl);obtain⟨v,e2,n2,s2⟩:=IT hw (a0P hw) WD (hg 2 _ _ rfl rfl) (fun _=>rfl);obtain⟨k,e3,n3,s3⟩:=IT hw a0M WA (hg 3 _ _ rfl rfl) (fun _=>rfl);refine⟨⟨⟨s.book.tick,p⟩,⟨v,k⟩⟩,⟨rfl,fun j d x hj hx=>?_⟩,n1,s1,n3,s2⟩;match j with
  |0=>cases hj;cases hx;cases h0;exact .v _
  |1=>cases hj;cases hx;exact e1
  |2=>cases hj;cases hx;exact e2
  |3=>cases hj;cases hx;exact e3
  |j+4=>cases hj
end
theorem md (b:Nat):∀(vs:List Value) (o:Nat) (w:World),(w.setCells b o vs).heap.size=w.heap.size/\(∀i,i≠b->(w.setCells b o vs).heap[i]? =w.heap[i]?)/\
 (∀c E,w.heap[b]? =some (.cells c E (0,0))->∃c',(w.setCells b o vs).heap[b]? =some (.cells c' E (0,0)))/\(w.setCells b o vs).os=w.os/\(w.setCells b o vs).tape=w.tape/\(w.setCells b o vs).output=w.output
 |[],_,_=>⟨rfl,fun _ _=>rfl,fun c E h=>⟨c,h⟩,rfl,rfl,rfl⟩
 |v::vs,o,w=>by
  obtain⟨h1,h2,h3,h4,h5,h6⟩:=md b vs (o+1) (w.setCell ⟨b,o,none⟩ v);rw[World.setCells];exact⟨h1.trans (by simp[L']),fun i hi=>(h2 i hi).trans (by simp[L',YU,Ne.symm hi]),fun c E h=>h3 (c.setIfInBounds o v) E (by simp[L',YU,h]),h4,h5,h6⟩
def Kd (z:Bool):D->Value->Prop
 | .v (.int .i64 _),.int .i64 _=>True
 | .sl _ _,.slice none 0 0=>z=true
 |_,_=>False
def UE (z:Bool):List D->List Value->Prop
 |[],[]=>True
 |d::ds,v::vs=>Kd z d v/\UE z ds vs
 |_,_=>False
theorem WF [Flo]{z:Bool}{M:Nat->Prop}{w:World}{d:D}{u v:Value}(hk:Kd z d v)(h:RepD M w d u):Ch z u v:=by
 unfold Kd at hk;split at hk
 ·cases h;exact .inr (.inl ⟨_,_,rfl,rfl⟩)
 ·cases h<;>exact .inr (.inr ⟨hk,_,_,_,rfl,rfl⟩)
 ·exact hk.elim
theorem IU {z:Bool}:∀{ds:List D}{vs:List Value},UE z ds vs->ds.length=vs.length
 |[],[],_=>rfl
 |_::_,_::_,h=>by simp[IU h.2]
 |[],_::_,h=>h.elim
 |_::_,[],h=>h.elim
theorem IV {z:Bool}:∀{ds:List D}{vs:List Value},UE z ds vs->∀(j:Nat) (d:D) (v:Value),ds[j]? =some d->vs[j]? =some v->Kd z d v
 |[],_,_,_,_,_,h,_=>by cases h
 |_::_,[],h,_,_,_,_,_=>h.elim
 |_::_,_::_,h,0,_,_,hd,hv=>by cases hd;cases hv;exact h.1
 |_::_,_::_,h,j+1,_,_,hd,hv=>IV h.2 j _ _ hd hv
theorem Ol [Flo]{z:Bool}{M:Nat->Prop}{w:World}{b off:Nat}{cells:List D}{vs:List Value}(h:RepD M w (.ept cells) (.pointer (some ⟨b,off,none⟩)))(hN:Flo.N=0)(hk:UE z cells vs):
 Wr z M w (w.setCells b off vs)/\w.there b off vs.length/\¬M b:=by
 have lI:=IU hk;cases h with
 |ept _ _ _ f hM hb h1 cf aU hz=>
  obtain⟨c0,E,cu⟩:=hz aa;obtain⟨f1,f2,f3,-,-,-⟩:=md b vs off w;have PJ:∀j,j < vs.length->(w.cell? ⟨b,off+j,none⟩).isSome=true:=fun j hj=>by rw[cf j aa];rfl
  refine⟨⟨f1,fun b' o v hM' hv=>?_,fun b' hb' hN'=>?_⟩,fun j hj=>⟨PJ j hj,?_⟩,hM⟩
  ·by_cases dM:b'=b/\off<=o/\o < off+vs.length
   ·obtain⟨rfl,ho1,zn⟩:=dM;obtain⟨j,rfl⟩:∃j,o=off+j:=⟨o - off,by omega⟩;have hj:j < vs.length:=aa;refine⟨vs[j],World.cell?_setCells_in b' vs off w PJ j hj,?_⟩;rw[cf j aa]at hv;cases hv;exact WF (IV hk j _ _ (Xj aa) (Xj hj)) (aU j _ (Xj aa))
   ·exact⟨v,by rw[World.cell?_setCells_out b vs off w ⟨b',o,none⟩ (fun h _=>by simp at h ⊢;omega)];exact hv,.inl rfl⟩
  ·by_cases e:b'=b
   ·subst e;obtain⟨c',hc'⟩:=f3 c0 E cu;exact⟨c',E,hc'⟩
   ·rw[f2 b' e];exact hb' hN'
  ·simp[World.frozen?,cu]
def rG:PV->Bool
 | .d (.v _)=>true
 | .ptr _ _=>true
 | .any=>true
 |_=>false
theorem vz [Flo]{c:Cx}{w w':World}{p:PV}{v:Value}(hp:rG p=true)(h:RepP c w p v):RepP c w' p v:=by
 cases h with
 |d x v h=>
  cases h with
  |v=>exact .d _ _ (.v _)
  |_=>cases hp
 |any v=>exact .any v
 |ptr k off b h=>exact .ptr k off b h
 |_=>cases hp
theorem yt:∀{e:bU},(e.all fun x=>rG x.2)=true->∀t,rG (dP e t)=true
 |[],_,_=>rfl
 |(t',p)::l,h,t=>by
  simp only[List.all_cons,Xv]at h;simp only[dP];split
  ·exact h.1
  ·exact yt h.2 t
def HH (T1 T2:Nat)(s:Ste)(A:List PV):List Chunk:=[.box T1 ((bJ s).map .d),.box T2 A]
theorem Om (c:Cx)(T1 T2:Nat)(s s':Ste)(A:List PV)(k:Nat):c.block k (az (HH T1 T2 s' A) k)=c.block k (az (HH T1 T2 s A) k):=by
 match k with
 |0=>rfl
 |1=>rfl
 |_+2=>rfl
theorem On [Flo]{X:Cfg}(hN:Flo.N=0)(hL:∀b,¬X.M0 b->X.L b){z:Bool}{T1 T2:Nat}{e e':bU}{s:Ste}{A:List PV}{a:Act}{w:World}{op:Oper}{t:Nat}{x y:Operand}{ti:TI}{cells:List D}{vs:List Value}(ho:op.op= .store t x y)(pW:op.dst=none)(ht:aV X.P t=some ti)
 (hx:dA e x= .d (.ept cells)) (hy:wM (dA e y)=true) (U3:cF (dA e y)=vs.map fun v=> .d (.v v)) (hl:vs.length=ti.size) (hk:UE z cells vs) (he:BU e e') (gz:(e'.all fun x=>rG x.2)=true) (hA:A.all rG=true)
 (hr:eQ X (bs e (HH T1 T2 s A)) a w) {K:Act->World->Prop}{Q:Exit->Act->World->Prop} (hK:∀s' w',ShR z s s'->eQ X (bs e' (HH T1 T2 s' A)) a w'->K a w'):op.wp X.P a w K Q:=by
 obtain⟨c,hc⟩:=hr;have e1:=bI hc x;rw[aG,hx]at e1;have e2:=bI hc y;rw[aG]at e2;obtain⟨r1,r2⟩:=j5 e2 hy;have eO:=bA.one r1 r2;rw[U3]at r1;have gS:(a.eval y).cells.toList=vs:=by
  refine Yg fun j=>?_;have lI:vs.length=(a.eval y).cells.toList.length:=by rw[<-r1.1,Xs]
  rcases XL j vs.length with hj|hj
  ·have:=r1.2 j (.d (.v vs[j])) _ (by rw[Xr,Xj hj];rfl) (Xj aa);rw[Xj hj,Xj aa];generalize (a.eval y).cells.toList[j]=u at this;cases this with
   |d _ _ h=>cases h;rfl
  ·rw[XN hj,XN aa]
 generalize hu:a.eval x=u at e1;cases e1 with
 |d _ _ e1=>
 have e1':=e1;cases e1' with
 |ept _ b off f _ _ _ _ _ _=>
  obtain⟨hw,hth,VP⟩:=Ol e1 hN hk;obtain⟨f1,f2,f3,f4,f5,f6⟩:=md b vs off w;obtain⟨i,d,zz,tk⟩:=iW ht;have cK:(a.eval y).cells.size=ti.size:=by rw[<-hl,<-gS];simp
  have dN:=run_storeCells_cells (P:=X.P) b off vs 0 w (fun j hj=>by simpa using (hth j hj).1) (fun j hj=>by simpa using (hth j hj).2) (by rw[<-gS];exact eO);have cg:(Instr.storeAt t (a.eval x) (a.eval y)).run X.P w= .ok () (w.setCells b off vs):=by
   rw[hu];simp only[XG]at dN;simp[Instr.storeAt,Instr.sureAddr,storeVar,sizeOf,typeInfo,tk.info,tk.size,cK,gS,dN]
  have Da:∀s' k,c.block k (az (HH T1 T2 s' A) k)=c.block k (az (HH T1 T2 s A) k):=fun s' k=>Om c T1 T2 s s' A k;have bG:∀k b',c.block k (az (HH T1 T2 s A) k)=some b'->b'≠b:=fun k b' hb' e=>VP (e ▸ (hc.mu b').2 (.inr ⟨k,hb'⟩));have a0s:=hc.chunk 0;have TE:=hc.chunk 1;generalize hg0:(bs e (HH T1 T2 s A)).heap 0=ch0 at a0s;generalize Tu:(bs e (HH T1 T2 s A)).heap 1=ch1 at TE;cases a0s with
  |box T cl b0 vs0 qq SO Jg h10=>
   cases TE with
   |box T' cl' b1 vs1 jQ wj qw h11=>
    cases hg0;cases Tu;have fD:cj c.M w (bJ s) vs0:=⟨by simpa using Jg.1,fun j d x hj hx=>by
     have:=Jg.2 j (.d d) x (by rw[Xr,hj];rfl) hx;cases this with
     |d _ _ h=>exact h⟩
    obtain⟨s',hs',L4⟩:=RS hw fD;have kT:eQ X (bs e' (HH T1 T2 s' A)) a (w.setCells b off vs):=by
     refine⟨c,hc.size,hc.defers,hc.ext.trans ⟨f4,f5,f6,by omega,fun i hi hLi=>f2 i fun e=>hLi (e ▸ hL b fun h0=>VP ((hc.mu b).2 (.inl h0)))⟩,hc.inv,hc.fresh,fun b'=>?_,fun k b' hb'=>?_,fun k k' b' hb' hb''=>?_,fun t=>?_,fun k=>?_,hc.lent⟩
     ·rw[hc.mu b'];show _\/(∃k,c.block k (az (HH T1 T2 s A) k)=some b')↔_\/∃k,c.block k (az (HH T1 T2 s' A) k)=some b';simp only[Da s']
     ·have:=hc.new k b' ((Da s' k).symm.trans hb');rw[f1];exact this
     ·exact hc.apart k k' b' ((Da s' k).symm.trans hb') ((Da s' k').symm.trans hb'')
     ·refine vz (w:=w) (yt gz t) ?_;rcases xo he t with h|h
      ·show RepP c w (dP e' t) _;rw[h];exact .any _
      ·show RepP c w (dP e' t) _;rw[h];exact hc.env t
     ·match k with
      |0=>
       refine .box T1 _ b0 vs0 qq ((f2 b0 (bG 0 b0 qq)).trans SO) ⟨by simpa using hs'.1,fun j d x hj hx=>?_⟩ fun d hd=>?_
       ·rw[Xr,XB]at hj;obtain⟨y,hy,rfl⟩:=hj;exact .d _ _ (hs'.2 j y x hy hx)
       ·obtain⟨y,hy,rfl⟩:=XF.1 hd;simp[bJ]at hy;rcases hy with rfl|rfl|rfl|rfl<;>rfl
      |1=>
       refine .box T2 A b1 vs1 jQ ((f2 b1 (bG 1 b1 jQ)).trans wj) ⟨qw.1,fun j d x hj hx=>vz ?_ (qw.2 j d x hj hx)⟩ h11;exact XD.1 hA d (Xk hj)
      |k+2=>
       have h:=hc.chunk (k+2);generalize hg:(bs e (HH T1 T2 s A)).heap (k+2)=ch at h;cases h with
       |none h1 h2=>exact .none h1 h2
       |_=>cases hg
    unfold Oper.wp execOp;simp only[ho];rw[Sem.run_bind,cg];simp only[Result.andThen_ok,Sem.run_pure,Oper.upon,pW];exact hK s' _ L4 kT
   |_=>cases Tu
  |_=>cases hg0
structure Lim (s:Ste):Prop where
 pools:s.book.pools.length<=9223372036854775807
 leases:∀p∈s.book.pools,p.leases.length<=9223372036854775807
 vpcs:s.net.vpcs.length<=9223372036854775807
 ranges:∀v∈s.net.vpcs,v.ranges.length<=9223372036854775807
 subs:∀v∈s.net.vpcs,v.subs.length<=9223372036854775807
 faces:∀v∈s.net.vpcs,∀u∈v.subs,u.faces.length<=9223372036854775807
 addrs:∀v∈s.net.vpcs,∀u∈v.subs,∀f∈u.faces,f.addrs.length<=9223372036854775807
 links:s.net.links.length<=9223372036854775807
theorem me [Flo]{M:Nat->Prop}{w:World}{sz:Nat}{α:Type}{enc:α->List D}{l:List α}{v:Value}(h:RepD M w (.sl sz (l.map enc)) v):l.length<=9223372036854775807/\∀x∈l,∀(j:Nat) (d:D),(enc x)[j]? =some d->∃u,RepD M w d u:=by
 generalize hr:l.map enc=rows at h;cases h with
 |nil=>
  obtain rfl:l=[]:=by simpa using hr
  exact⟨by simp,fun x hx=>by simp at hx⟩
 |sl _ _ b off cap f hM hb hc hm hr' h1 cf aU hz=>
  subst hr;refine⟨by rw[Xs]at hc;omega,fun x hx j d hd=>?_⟩;obtain⟨i,hi,rfl⟩:=X7 hx;exact⟨_,aU i j (enc l[i]) d (by rw[Xr,Xj hi];rfl) hd⟩
theorem UF [Flo]{X:Cfg}{T1 T2:Nat}{A:List PV}{s:Ste}{e:bU}{a:Act}{w:World}(hr:eQ X (bs e (HH T1 T2 s A)) a w):Lim s:=by
 obtain⟨c,hc⟩:=hr;have h:=hc.chunk 0;generalize hg:(bs e (HH T1 T2 s A)).heap 0=ch at h;cases h with
 |box T cl b vs hb hh hr h1=>
  cases hg;have hd:∀(j:Nat) (d:D),(bJ s)[j]? =some d->∃u,RepD c.M w d u:=fun j d hj=>by
   have hl:(bJ s).length=vs.length:=by simpa using hr.1
   have hjv:j < vs.length:=by have:=(Xm.1 hj).1;omega
   have:=hr.2 j (.d d) vs[j] (by rw[Xr,hj];rfl) (Xj hjv);cases this with
   |d _ _ h=>exact⟨_,h⟩
  obtain⟨u1,k1⟩:=hd 1 _ rfl;obtain⟨u2,k2⟩:=hd 2 _ rfl;obtain⟨u3,k3⟩:=hd 3 _ rfl;obtain⟨a1,b1⟩:=me k1;obtain⟨a2,b2⟩:=me k2;obtain⟨a3,-⟩:=me k3;refine⟨a1,fun p hp=>?_,a2,fun v hv=>?_,fun v hv=>?_,fun v hv u hu=>?_,fun v hv u hu f hf=>?_,a3⟩
  ·obtain⟨x,hx⟩:=b1 p hp 8 _ rfl;exact(me hx).1
  ·obtain⟨x,hx⟩:=b2 v hv 1 _ rfl;exact(me hx).1
  ·obtain⟨x,hx⟩:=b2 v hv 2 _ rfl;exact(me hx).1
  ·obtain⟨x,hx⟩:=b2 v hv 2 _ rfl;obtain⟨y,hy⟩:=(me hx).2 u hu 3 _ rfl;exact(me hy).1
  ·obtain⟨x,hx⟩:=b2 v hv 2 _ rfl;obtain⟨y,hy⟩:=(me hx).2 u hu 3 _ rfl;obtain⟨z,hz⟩:=(me hy).2 f hf 1 _ rfl;exact(me hz).1
 |_=>cases hg
def KF:KT:=fun _ _ _=>False
def Bd [Flo](X:Cfg)(T1 T2:Nat)(A:List PV)(c:Code)(Sh Sh':Ste->Prop)(e e':bU):Prop:=
 ∀s,Sh s->∀a w,eQ X (bs e (HH T1 T2 s A)) a w->c.wp X.P (fun x a' w'=>x= .normal/\∃s',Sh' s'/\eQ X (bs e' (HH T1 T2 s' A)) a' w') a w
section
theorem Bd.all [Flo]{X:Cfg}{T1 T2:Nat}{A:List PV}{Sh Sh1:Ste->Prop}{e e1:bU}{c:Code}(h:∀s,Sh s->Bd X T1 T2 A c (fun s'=>s'=s) Sh1 e e1):Bd X T1 T2 A c Sh Sh1 e e1:=fun s hs=>h s hs s rfl
variable {X:Cfg}{T:Nat->Option TI}{Q:Nat->Option Nat}{T1 T2:Nat}{A:List PV}{Sh Sh1 Sh2:Ste->Prop}{e e1 e2:bU}{c c1 c2:Code}
theorem Bd.seq [Flo](h1:Bd X T1 T2 A c1 Sh Sh1 e e1)(h2:Bd X T1 T2 A c2 Sh1 Sh2 e1 e2):Bd X T1 T2 A (.seq c1 c2) Sh Sh2 e e2:=fun s hs a w hr=>
 wp_seq (wp_mono (h1 s hs a w hr) fun x a' w' ⟨hx,s',hs',hr'⟩=>by subst hx;exact h2 s' hs' a' w' hr')
theorem Bd.block [Flo]{id:Nat}(h:Bd X T1 T2 A c Sh Sh1 e e1):Bd X T1 T2 A (.block id c) Sh Sh1 e e1:=fun s hs a w hr=>
 wp_block (wp_mono (h s hs a w hr) fun x a' w' ⟨hx,hs'⟩=>by subst hx;exact⟨rfl,hs'⟩)
theorem CP [Flo]{Sh0:Ste->Prop}(h:Bd X T1 T2 A c Sh Sh1 e e1)(hs:∀s,Sh0 s->Sh s):Bd X T1 T2 A c Sh0 Sh1 e e1:=fun s h0=>h s (hs s h0)
theorem Bd.post [Flo](h:Bd X T1 T2 A c Sh Sh1 e e1)(hs:∀s,Sh1 s->Sh2 s):Bd X T1 T2 A c Sh Sh2 e e1:=fun s h0 a w hr=>wp_mono (h s h0 a w hr) fun _ _ _ ⟨hx,s',h1,hr'⟩=>⟨hx,s',hs s' h1,hr'⟩
theorem mP [Flo](h:Bd X T1 T2 A c Sh Sh1 e e1){P:Program}{n m:Nat}(hX:X.P=P/\X.n=n/\X.m=m)(hw:∀s,cG P n m e1 [.box T1 ((bJ s).map .d),.box T2 A] e2 [.box T1 ((bJ s).map .d),.box T2 A]):Bd X T1 T2 A c Sh Sh1 e e2:=fun s h0 a w hr=>wp_mono (h s h0 a w hr) fun _ _ _ ⟨hx,s',h1,hr'⟩=>⟨hx,s',h1,hw s' X hX.1 hX.2.1 hX.2.2 _ _ hr'⟩
variable {P:Program}{n m:Nat}(hX:X.P=P/\X.n=n/\X.m=m)(bY:TabOK P T Q)(ku:P.follows .mixedOrders=true)
include hX bY ku
theorem Bd.sC [Flo](hb:iF n c=true)(hs:∀s,Sh s->∀C:bU->List Chunk->Prop,(∀e' h',cG P n m e' h' e1 [.box T1 ((bJ s).map .d),.box T2 A]->C e' h')->Go.Proofs.YtmicljipaiohkaaGreat.sC P n m T Q c (kG C KF) ⟨⟩ e [.box T1 ((bJ s).map .d),.box T2 A]):Bd X T1 T2 A c Sh Sh e e1:=fun s h0 a w hr=>by
 obtain⟨rfl,rfl,rfl⟩:=hX;exact xw bY ku hb hr (hs s h0 (fun e' h'=>cG X.P X.n X.m e' h' e1 [.box T1 ((bJ s).map .d),.box T2 A]) fun _ _ h=>h) fun x e' h' a' w' hk hr'=>by
  cases x<;>first|exact⟨rfl,s,h0,hk X rfl rfl rfl _ _ hr'⟩|exact hk.elim
omit ku in
theorem Bd.store [Flo](hN:Flo.N=0)(hL:∀b,¬X.M0 b->X.L b)(z:Bool){id:Nat}{ops pre:List Oper}{st:Oper}{t:Nat}{x y:Operand}{ti:TI}(vs:List Value)(js:ops=pre++[st])(hg:(pre.all fun o=>o.guard.isNone)=true)(VX:st.guard=none)(ho:st.op= .store t x y)(pW:st.dst=none)
 (ht:T t=some ti) (hl:vs.length=ti.size) (gz:(e1.all fun x=>rG x.2)=true) (hA:A.all rG=true) (hm0:m=0) (hd:pre.all (DV n)=true) (L4:∀s s',Sh s->ShR z s s'->Sh1 s')
 (hs:∀s,Sh s->∀C:bU->List Chunk->Prop,(∀e' cells,dA e' x= .d (.ept cells)->UE z cells vs->wM (dA e' y)=true->cF (dA e' y)=vs.map (fun v=> .d (.v v))->BU e' e1->C e' [.box T1 ((bJ s).map .d),.box T2 A])->Go.Proofs.YtmicljipaiohkaaGreat.sC P n m T Q (.region id ⟨pre⟩ false) (kG C KF) ⟨⟩ e [.box T1 ((bJ s).map .d),.box T2 A]):Bd X T1 T2 A (.region id ⟨ops⟩ false) Sh Sh1 e e1:=fun s h0 a w hr=>by
 obtain⟨rfl,rfl,rfl⟩:=hX;subst js;refine He (id:=id) bY (by rw[hm0];exact XE _) (fun o ho=>by have:=XD.1 hg o ho;simpa using this) VX (K:=fun e' h'=>(∃cells,dA e' x= .d (.ept cells)/\UE z cells vs)/\wM (dA e' y)=true/\cF (dA e' y)=vs.map (fun v=> .d (.v v))/\BU e' e1/\h'=HH T1 T2 s A) (kH pre [] e (HH T1 T2 s A) [] rfl hd (hs s h0 _ fun e' cells a b c d f=>⟨⟨cells,a,b⟩,c,d,f,rfl⟩).2) hr ?_;rintro e' h' a' w' ⟨⟨cells,hx,hk⟩,hy,U3,he,rfl⟩ hr';exact On hN hL ho pW (bY.t t ti ht) hx hy U3 hl hk he gz hA hr' fun s' w'' h1 h2=>⟨rfl,s',L4 s s' h0 h1,h2⟩
theorem pU [Flo]{id id':Nat}{test body step:Code}(N:Nat)(E:Nat->bU)(hbt:iF n test=true)(Da:iF n step=true)
 (ht:∀k s,k < N->Sh s->∀C:bU->List Chunk->Prop,(∀e' h',cG P n m e' h' (E k) [.box T1 ((bJ s).map .d),.box T2 A]->C e' h')->Go.Proofs.YtmicljipaiohkaaGreat.sC P n m T Q test (kG C KF) ⟨⟩ (E k) [.box T1 ((bJ s).map .d),.box T2 A])
 (hx:∀s,Sh s->∀C:bU->List Chunk->Prop,(∀e' h',cG P n m e' h' (E N) [.box T1 ((bJ s).map .d),.box T2 A]->C e' h')->Go.Proofs.YtmicljipaiohkaaGreat.sC P n m T Q test (kG (fun _ _=>False) (ua id (nK (kG C KF)) KF)) ⟨⟩ (E N) [.box T1 ((bJ s).map .d),.box T2 A])
 (hb:∀k,k < N->Bd X T1 T2 A body Sh Sh (E k) (E k))
 (hs:∀k s,k < N->Sh s->Lim s->∀C:bU->List Chunk->Prop,(∀e' h',cG P n m e' h' (E (k+1)) [.box T1 ((bJ s).map .d),.box T2 A]->C e' h')->Go.Proofs.YtmicljipaiohkaaGreat.sC P n m T Q step (kG C KF) ⟨⟩ (E k) [.box T1 ((bJ s).map .d),.box T2 A]):
 Bd X T1 T2 A (.block id (.loop (.seq test (.seq (.block id' body) step)))) Sh Sh (E 0) (E N):=fun s0 we a0 w0 Jg=>by
 refine wp_block (wp_loop_ghost (fun k a w=>∃j s,j<=N/\k=N - j/\Sh s/\eQ X (bs (E j) (HH T1 T2 s A)) a w) N ⟨0,s0,XE _,rfl,we,Jg⟩ ?_);rintro k a w ⟨j,s,hj,rfl,h0,hr⟩;rcases XL j N with hlt|hge
 ·refine wp_seq (wp_mono (Bd.sC hX bY ku hbt (fun s h=>ht j s hlt h) s h0 a w hr) ?_);rintro x a1 w1 ⟨rfl,s1,h1,qw⟩;refine wp_seq (wp_mono ((Bd.block (hb j hlt)) s1 h1 a1 w1 qw) ?_);rintro x a2 w2 ⟨rfl,s2,h2,kU⟩;refine wp_mono (Bd.sC (Sh:=fun s=>Sh s/\Lim s) hX bY ku Da (fun s h=>hs j s hlt h.1 h.2) s2 ⟨h2,UF kU⟩ a2 w2 kU) ?_;rintro x a3 w3 ⟨rfl,s3,⟨h3,-⟩,hr3⟩;exact⟨N - (j+1),by omega,j+1,s3,hlt,rfl,h3,hr3⟩
 ·obtain rfl:j=N:=aa;obtain⟨rfl,rfl,rfl⟩:=hX;refine wp_seq (xw bY ku hbt hr (hx s h0 (fun e' h'=>cG X.P X.n X.m e' h' (E j) [.box T1 ((bJ s).map .d),.box T2 A]) fun _ _ h=>h) fun x e' h' a' w' hk hr'=>?_);cases x with
  |exit i=>
   by_cases hi:i=id
   ·subst hi;simp only[kG,ua,nK,if_true]at hk;simp only[Exit.then,Exit.inBlock,if_true,true_and];exact⟨s,h0,hk X rfl rfl rfl _ _ hr'⟩
   ·simp only[kG,ua,af hi]at hk;exact hk.elim
  |_=>exact hk.elim
end
theorem IW (i j:Flo){M:Nat->Prop}{w:World}{d:D}{v:Value}(hj:w.heap.size<=j.N)(h:@RepD i M w d v):@RepD j M w d v:=by
 induction h with
 |v x=>exact @RepD.v j _ _ x
 |nil sz ao cap hm=>exact @RepD.nil j _ _ sz ao cap hm
 |sl sz rows b off cap f hM' hb hc hm hr h1 cf aU hz ih=>exact @RepD.sl j _ _ sz rows b off cap f hM' hb hc hm hr h1 cf (fun a c r d hr hd=>ih a c r d hr hd hj) (fun hN=>absurd (Ya hb hj) (ZX.2 hN))
 |ept cells b off f hM' hb h1 cf aU hz ih=>exact @RepD.ept j _ _ cells b off f hM' hb h1 cf (fun a d hd=>ih a d hd hj) (fun hN=>absurd (Ya hb hj) (ZX.2 hN))
 |agg cells vs hl h1 aU ih=>exact @RepD.agg j _ _ cells vs hl h1 fun a d x hj' hx=>ih a d x hj' hx hj
 |tup ds vs hl aU ih=>exact @RepD.tup j _ _ ds vs hl fun a d x hj' hx=>ih a d x hj' hx hj
 |clo g caps vs hl aU ih=>exact @RepD.clo j _ _ g caps vs hl fun a d x hj' hx=>ih a d x hj' hx hj
 |nei t x=>exact @RepD.nei j _ _ t x
 |fr N x v h ih=>exact @RepD.fr j _ _ N x v (ih hj)
theorem wC (i j:Flo){X:Cfg}{s:FS}{a:Act}{w:World}{c:Cx}(hc:@RealC i X s a w c){k T t:Nat}{ds:List D}(hk:s.heap k= .box T (ds.map .d))(ht:s.env t= .ptr k 0)(hj:w.heap.size<=j.N):@RepD j (fun _=>False) w (.ept ds) (a.tmps.getD t undef):=by
 have HJ:=@RealC.chunk i _ _ _ _ _ hc k;have he:=@RealC.env i _ _ _ _ _ hc t;rw[hk]at HJ;rw[ht]at he;generalize a.tmps.getD t undef=u at he;generalize gB:ds.map PV.d=cells at HJ;cases he with
 |ptr _ _ b' hb'=>
 cases HJ with
 |box _ _ b vs hb hh hr h1=>
  subst gB;rw[hb]at hb';cases hb';have hlt:b' < w.heap.size:=(Yo.1 hh).1;have lI:ds.length=vs.length:=by simpa using hr.1
  refine @RepD.ept j _ _ ds b' 0 (fun k=>vs.getD k undef) (fun h=>h) hlt (fun d hd=>by have:=h1 (.d d) (XF.2 ⟨d,hd,rfl⟩);exact this) (fun k hk=>?_) (fun k d hd=>?_) (fun hN=>absurd (Ya hlt hj) (ZX.2 hN))
  ·have CV:k < vs.length:=aa;simp only[YL,hh,Xw];simp[XJ,Xj CV]
  ·have CV:k < vs.length:=by have:=(Xm.1 hd).1;omega
   have:=hr.2 k (.d d) vs[k] (by rw[Xr,hd];rfl) (Xj CV);rw[XJ,Xj CV,YD];cases this with
   |d _ _ h=>exact IW i j hj (@RepD.keep i _ _ _ _ ⟨XA _,fun _ _ _=>rfl,fun _ _ h=>h.elim⟩ _ _ h)
theorem sZ (i:Flo){X:Cfg}{s:FS}{a:Act}{w:World}{c:Cx}(hc:RealC X s a w c):a.tmps.size=X.n/\a.defers=[]/\ExtL X.L X.w0 w:=⟨hc.size,hc.defers,hc.ext⟩
theorem IY (i:Flo){X:Cfg}{s:FS}{a:Act}{w:World}{c:Cx}(hc:RealC X s a w c){t:Nat}{v:Value}(h:s.env t= .d (.v v)):a.tmps.getD t undef=v:=by
 have:=hc.env t;rw[h]at this;generalize a.tmps.getD t undef=u at this;cases this with
 |d _ _ h=>cases h;rfl
theorem yu (i j:Flo){w w':World}{d:D}{v:Value}(h:@RepD i (fun _=>False) w d v)(hs:w.heap.size<=w'.heap.size)(hb:∀b,b < w.heap.size->w'.heap[b]? =w.heap[b]?)(hj:w'.heap.size<=j.N):@RepD j (fun _=>False) w' d v:=
 IW i j hj (@RepD.keep i _ _ _ _ ⟨hs,fun b hl _=>hb b hl,fun _ _ h=>h⟩ _ _ h)
def RT (M:Nat->Prop):Cx:=⟨M,fun _=>none,fun _ _=>none⟩
theorem uD [Flo]{P:Program}{n:Nat}{a:Act}{w:World}{e:bU}{M:Nat->Prop}(hn:a.tmps.size=n)(hd:a.defers=[])(hM:∀b,M b->b < w.heap.size)(hG:BF M w)(he:∀t,RepP (RT M) w (dP e t) (a.tmps.getD t undef)):
 eQ {P:=P,n:=n,m:=0,w0:=w,M0:=M,L:=fun _=>False,c0:=RT M} (bs e []) a w:=by
 refine⟨RT M,hn,hd,ExtL.refl _ _,hG.keep ⟨XA _,fun _ _ _=>rfl,fun b _ h=>h.elim id False.elim⟩,fun b hb=>⟨hM b hb,id⟩,fun b=>⟨.inl,fun h=>?_⟩,fun k b h=>?_,fun k k' b h _=>?_,he,fun k=>?_,fun k hk=>absurd hk (Yy _)⟩
 ·rcases h with h|⟨k,h⟩
  ·exact h
  ·exact a3R
 ·exact a3R
 ·exact a3R
 ·simp only[bs,az];exact .none rfl fun _=>rfl
theorem xw3 [Flo]{X:Cfg}{T:Nat->Option TI}{Q:Nat->Option Nat}(bY:TabOK X.P T Q)(hm:X.P.follows .mixedOrders=true){c1 c2 c3 rest:Code}{K:KT}{e:bU}{h:List Chunk}{a:Act}{w:World}{R:Exit->Act->World->Prop}(hb:iF X.n (.seq c1 (.seq c2 c3))=true)(hr:eQ X (bs e h) a w)
 (hs:sC X.P X.n X.m T Q (.seq c1 (.seq c2 c3)) K ⟨⟩ e h) (hN:∀e' h' a' w',K .normal e' h'->eQ X (bs e' h') a' w'->rest.wp X.P R a' w') (hR:∀x e' h' a' w',x≠ .normal->K x e' h'->eQ X (bs e' h') a' w'->R x a' w'):(Code.seq c1 (.seq c2 (.seq c3 rest))).wp X.P R a w:=by
 simp only[iF,Xv]at hb;refine wp_seq (xw bY hm hb.1 hr hs fun x e1 h1 a1 w1 k1 r1=>?_);cases x with
 |normal=>
  refine wp_seq (xw bY hm hb.2.1 r1 k1 fun x e2 h2 a2 w2 k2 r2=>?_);cases x with
  |normal=>
   refine wp_seq (xw bY hm hb.2.2 r2 k2 fun x e3 h3 a3 w3 k3 r3=>?_);cases x with
   |normal=>exact hN _ _ _ _ k3 r3
   |_=>exact hR _ _ _ _ _ ak k3 r3
  |_=>exact hR _ _ _ _ _ ak k2 r2
 |_=>exact hR _ _ _ _ _ ak k1 r1
theorem RU {a:Act}{dst:Option Nat}{v:Value}{t:Nat}(h:dst≠some t):(a.put dst v).tmps.getD t undef=a.tmps.getD t undef:=by
 cases dst with
 |none=>rfl
 |some d=>
  have bG:d≠t:=fun e=>h (by rw[e]);simp only[Act.put,Ys,Array.getElem?_setIfInBounds,af bG]
theorem yv [Flo]{X:Cfg}{ops:Array Oper}{Q:Exit->Act->World->Prop}{ks:List Nat}:∀(its:List It) (s:FS) (i:Nat) (a:Act) (w:World),kz X ops s i its->(∀it∈its,∀t∈ks,it.o.dst≠some t)->eQ X s a w->
 (∀a' w',(∀t∈ks,a'.tmps.getD t undef=a.tmps.getD t undef)->eQ X (rT s its) a' w'->Q .normal a' w')->wpOps X.P ops Q (List.range' i its.length) a w
 |[],_,_,a,w,_,_,hr,hQ=>hQ a w (fun _ _=>rfl) hr
 |it::its,s,i,a,w,⟨hi,F3,ht⟩,hd,hr,hQ=>by
  rw[XC,List.range'_succ,wpOps_cons];exact Gb hi F3 (fun _ _=>rfl) (fun _ _=>rfl) hr fun v w' hr'=>yv its _ _ _ _ ht (fun x hx=>hd x (YP _ hx)) hr' fun a' w'' hk=>hQ a' w'' fun t ht'=>(hk t ht').trans (RU (hd it ak t ht'))
theorem EU [Flo]{X:Cfg}{T:Nat->Option TI}{Q:Nat->Option Nat}(bY:TabOK X.P T Q){id:Nat}{ops:List Oper}(ks:List Nat){C:bU->List Chunk->Prop}{e:bU}{h:List Chunk}{a:Act}{w:World}{R:Exit->Act->World->Prop}(hb:ops.all (DV X.n)=true)(hd:(ops.all fun o=>ks.all fun t=>o.dst !=some t)=true)
 (hs:sC X.P X.n X.m T Q (.region id ⟨ops⟩ false) (kG C KF) ⟨⟩ e h) (hr:eQ X (bs e h) a w) (hK:∀e' h' a' w',C e' h'->(∀t∈ks,a'.tmps.getD t undef=a.tmps.getD t undef)->eQ X (bs e' h') a' w'->R .normal a' w'):(Code.region id ⟨ops⟩ false).wp X.P R a w:=by
 have h0:=kH ops [] e h [] rfl hb hs.2;obtain⟨its,e',h',t1,t2,-,t4⟩:=nY (ops:=ops.toArray) bY ops 0 e h [] hs.1 rfl (XE _) h0;have ha:=o6 its _ 0 t1;refine wp_region ?_;have h1:=yv (Q:=R) (ks:=ks) its _ 0 a w t1 (fun it F3 t ht=>by
  obtain⟨j,hj,rfl⟩:=X7 F3;have:=(ha.2 j _ (Xj hj)).1;have hm:its[j].o∈ops:=by
   rw[Xw,Zc]at this;exact Xk this
  have:=XD.1 (XD.1 hd _ hm) t ht;simpa using this) hr (fun a' w' hk hr'=>hK e' h' a' w' t4 hk (by rw[<-t2];exact hr'))
 have hn:its.length=ops.length:=by simpa using ha.1
 rw[hn]at h1;rw[List.range_eq_range'];exact h1
def Fin (P:Program)(fn:Func)(T:Nat->Option TI)(r:Value)(W:World)(x:Exit)(a:Act)(w':World):Prop:=bodyPost P fn (fun e w'=>e= .returned r/\dy W w') x a w'
theorem UG [Flo]{T:Nat->Option TI}{Q:Nat->Option Nat}{X:Cfg}{fn:Func}(bY:TabOK X.P T Q){x:Exit}{e:bU}{h:List Chunk}{a:Act}{w' W:World}{r:Value}(hk:ni T fn.results.toList (.v r) x e h)(hr:eQ X (bs e h) a w')(hx:dy W w'):Fin X.P fn T r W x a w':=by
 obtain⟨hx',ps,d,gm,hv,hle⟩:=hk;obtain⟨cx,hc⟩:=hr;obtain⟨v,cg,aU⟩:=B2 bY hc gm;have hd:=jv hc (T:=tc (az h) (xg ps)) 6 hv (fun _ h=>h) aU;have zm:=hle _ _ _ hd;cases zm;rcases hx' with rfl|rfl
 ·exact⟨hc.defers,r,cg,rfl,hx⟩
 ·exact⟨hc.defers,r,cg,rfl,hx⟩
def Oo (s:Ste)(c:Cmd):bU:=[(2,.d (.ept (bJ s))),(3,.d (.ept (jp c))),(5,.d (.ept (bJ s)))]
def Cv (v2 v3 v5 x8:Value):bU:=[(2,.d (.v v2)),(3,.d (.v v3)),(5,.d (.v v5)),(6,.ptr 0 0),(7,.ptr 1 0),(8,.d (.v x8))]
def Oq (s:Ste)(c:Cmd)(an:Ans)(x8:Value):bU:=[(2,.d (.ept (bJ s))),(3,.d (.ept (jp c))),(5,.d (.ept (bJ s))),(7,.d (.ept (eG an))),(8,.d (.v x8))]
theorem to3 (i:Flo){X:Cfg}{e:bU}{Ts Ta:Nat}{s':Ste}{an:Ans}{x8:Value}{a:Act}{w:World}{c:Cx}(hc:@RealC i X (bs e [.box Ts ((kk i.N s').map .d),.box Ta ((eG an).map .d)]) a w c)
 (hL:∀b,¬X.L b) (hM0:∀b,¬X.M0 b) (hs:X.w0.heap.size=i.N) (h6:dP e 6= .ptr 0 0) (h7:dP e 7= .ptr 1 0) (h8:dP e 8= .d (.v x8)):
 @eQ ⟨0⟩ {P:=X.P,n:=X.n,m:=0,w0:=w,M0:=fun b=>b < i.N,L:=fun b=>i.N<=b,c0:=RT fun _=>False} (bs (Cv (a.tmps.getD 2 undef) (a.tmps.getD 3 undef) (a.tmps.getD 5 undef) x8) (HH Ts Ta s' ((eG an).map .d))) a w:=by
 have bW:∀k,Cx.block {c with M:=fun b=>b < i.N\/∃k,c.block k (az [.box Ts ((kk i.N s').map .d),.box Ta ((eG an).map .d)] k)=some b} k (az (HH Ts Ta s' ((eG an).map .d)) k)=c.block k (az [.box Ts ((kk i.N s').map .d),.box Ta ((eG an).map .d)] k):=fun k=>by
  match k with
  |0=>rfl
  |1=>rfl
  |_+2=>rfl
 have hcM:∀b,c.M b->∃k,c.block k (az [.box Ts ((kk i.N s').map .d),.box Ta ((eG an).map .d)] k)=some b:=fun b hb=>((hc.mu b).1 hb).elim (fun h=>(hM0 b h).elim) id;refine⟨{c with M:=fun b=>b < i.N\/∃k,c.block k (az [.box Ts ((kk i.N s').map .d),.box Ta ((eG an).map .d)] k)=some b},?_⟩;refine @RealC.mk ⟨0⟩ _ _ _ _ _ hc.size hc.defers (ExtL.refl _ _) (Th yr _ _) (fun b hb=>⟨Ya (hs ▸ hb) hc.ext.size,Nat.not_le.2 hb⟩) (fun b=>?_) (fun k b hb=>?_) (fun k k' b hb hb'=>?_) (fun t=>?_) (fun k=>?_) (fun k hk=>absurd hk (Yy _))
 ·show (b < i.N\/_)↔(b < i.N\/_);constructor
  ·rintro (h|⟨k,h⟩)
   ·exact .inl h
   ·exact .inr ⟨k,(bW k).trans h⟩
  ·rintro (h|⟨k,h⟩)
   ·exact .inl h
   ·exact .inr ⟨k,(bW k).symm.trans h⟩
 ·have:=hc.new k b ((bW k).symm.trans hb);refine⟨.inl ?_,this.2⟩;rcases this.1 with h|h
  ·exact(hL b h).elim
  ·rw[<-hs];exact h
 ·exact hc.apart k k' b ((bW k).symm.trans hb) ((bW k').symm.trans hb')
 ·show @RepP ⟨0⟩ _ _ (dP (Cv _ _ _ _) t) _;simp only[Cv,dP];have h6':=hc.env 6;have h7':=hc.env 7;have h8':=hc.env 8;simp only[bs,h6,h7,h8]at h6' h7' h8';split
  ·subst_vars;exact @RepP.d ⟨0⟩ _ _ _ _ (@RepD.v ⟨0⟩ _ _ _)
  split
  ·subst_vars;exact @RepP.d ⟨0⟩ _ _ _ _ (@RepD.v ⟨0⟩ _ _ _)
  split
  ·subst_vars;exact @RepP.d ⟨0⟩ _ _ _ _ (@RepD.v ⟨0⟩ _ _ _)
  split
  ·subst_vars
   generalize a.tmps.getD 6 undef=u at h6';cases h6' with
   |ptr _ _ b h=>exact @RepP.ptr ⟨0⟩ _ _ _ _ b h
  split
  ·subst_vars
   generalize a.tmps.getD 7 undef=u at h7';cases h7' with
   |ptr _ _ b h=>exact @RepP.ptr ⟨0⟩ _ _ _ _ b h
  split
  ·subst_vars
   generalize a.tmps.getD 8 undef=u at h8';cases h8' with
   |d _ _ h=>cases h;exact @RepP.d ⟨0⟩ _ _ _ _ (@RepD.v ⟨0⟩ _ _ _)
  ·exact @RepP.any ⟨0⟩ _ _ _
 ·match k with
  |0=>
   have h:=hc.chunk 0;generalize hg:(bs e [.box Ts ((kk i.N s').map .d),.box Ta ((eG an).map .d)]).heap 0=ch at h;cases h with
   |box T cl b vs hb hh hr h1=>
    cases hg;refine @ChunkOK.box ⟨0⟩ _ _ _ Ts ((bJ s').map .d) b vs hb hh ⟨hr.1,fun j d x hj hx=>?_⟩ (fun d hd=>by
     obtain⟨y,hy,rfl⟩:=XF.1 hd;simp[bJ]at hy;rcases hy with rfl|rfl|rfl|rfl<;>rfl)
    rw[Xr,XB]at hj;obtain⟨y,hy,rfl⟩:=hj;have:=hr.2 j (.d (KI i.N y)) x (by
     rw[Xr,show kk i.N s'=(bJ s').map (KI i.N) from rfl,Xr,hy];rfl) hx
    cases this with
    |d _ _ h=>
     refine @RepP.d ⟨0⟩ _ _ _ _ (@RepD.keep ⟨0⟩ (fun b=>c.M b\/b < i.N) _ _ _ ⟨XA _,fun _ _ _=>rfl,fun b _ hb=>?_⟩ _ _ (NH i ⟨0⟩ (fun b hb=>ZX.1 fun h=>hb (.inr h)) (sO.1 h)));rcases hb with hb|⟨k,hb⟩
     ·exact .inr hb
     ·exact .inl ((hc.mu b).2 (.inr ⟨k,hb⟩))
   |_=>cases hg
  |1=>
   have h:=hc.chunk 1;generalize hg:(bs e [.box Ts ((kk i.N s').map .d),.box Ta ((eG an).map .d)]).heap 1=ch at h;cases h with
   |box T cl b vs hb hh hr h1=>
    cases hg;refine @ChunkOK.box ⟨0⟩ _ _ _ Ta ((eG an).map .d) b vs hb hh ⟨hr.1,fun j d x hj hx=>?_⟩ h1;have h:=hr.2 j d x hj hx;rw[Xr,XB]at hj;obtain⟨y,hy,rfl⟩:=hj;have hy':=Xk hy;simp[eG]at hy';cases h with
    |d _ _ h=>
     refine @RepP.d ⟨0⟩ _ _ _ _ ?_;rcases hy' with rfl|rfl|rfl|rfl<;>(cases h;exact @RepD.v ⟨0⟩ _ _ _)
   |_=>cases hg
  |k+2=>
   have h:=hc.chunk (k+2);generalize hg:(bs e [.box Ts ((kk i.N s').map .d),.box Ta ((eG an).map .d)]).heap (k+2)=ch at h;cases h with
   |none h1 h2=>exact @ChunkOK.none ⟨0⟩ _ _ _ h1 h2
   |_=>cases hg
theorem KS {f nt:Nat}{fn:Func}{rs:Array ResultVar}{R0 B R3 L1 L2 L3 tail:Code}{id:Nat}{ops:List Oper}{s s':Ste}{c:Cmd}{an:Ans}{x8:Value}{Ts Tc Ta k5:Nat}{H1:List Chunk}{W:World}{vs:List Value}
 (hf:prog.funcs[f]? =some fn) (hn:fn.ntmps=nt) (hr:fn.results=rs) (hb:fn.body=some (R0.seq (B.seq (R3.seq ((Code.region id ⟨ops⟩ false).seq (L1.seq (L2.seq (L3.seq tail)))))))) (hcb:iF nt (R0.seq (B.seq R3))=true) (tI:iF nt tail=true) (h2:2<=nt)
 (js:ops.all (DV nt)=true) (hks:(ops.all fun o=>[2,3,5].all fun t=>o.dst !=some t)=true)
 (hH0:az H1 0= .box Ts ((bJ s).map .d)) (hH1:az H1 1= .box Tc ((jp c).map .d)) (hH5:az H1 k5= .box Ts ((bJ s).map .d))
 (p1:∀[Flo],∀C:bU->List Chunk->Prop,(∀e h,cG prog nt 0 e h [(2,.ptr 0 0),(3,.ptr 1 0),(5,.ptr k5 0)] H1->C e h)->sC prog nt 0 nj vU (R0.seq (B.seq R3)) (kG C KF) ⟨⟩ (nZ ([D.agg (bJ s),D.agg (jp c)].map .d) 0) [])
 (p2:∀[Flo],∀C:bU->List Chunk->Prop,(∀e h,cG prog nt 0 e h [(6,.ptr 0 0),(7,.ptr 1 0),(8,.d (.v x8))] [.box Ts ((kk Flo.N s').map .d),.box Ta ((eG an).map .d)]->C e h)->sC prog nt 0 nj vU (.region id ⟨ops⟩ false) (kG C KF) ⟨⟩ (Oo s c) [])
 (p3:∀(X:Cfg) (v2 v3 v5:Value),X.P=prog->X.n=nt->X.m=0->(∀b,¬X.M0 b->X.L b)->@Bd ⟨0⟩ X Ts Ta ((eG an).map .d) L1 (fun _=>True) (fun _=>True) (Cv v2 v3 v5 x8) (Cv v2 v3 v5 x8)/\@Bd ⟨0⟩ X Ts Ta ((eG an).map .d) L2 (fun _=>True) (fun _=>True) (Cv v2 v3 v5 x8) (Cv v2 v3 v5 x8)/\@Bd ⟨0⟩ X Ts Ta ((eG an).map .d) L3 (fun _=>True) (fun _=>True) (Cv v2 v3 v5 x8) (Cv v2 v3 v5 x8))
 (p4:∀[Flo],sC prog nt 0 nj vU tail (ni nj rs.toList (.v (.bool true))) ⟨⟩ (Oq s c an x8) [])
 (fD:@cj ⟨W.heap.size⟩ (fun _=>False) W [.agg (bJ s),.agg (jp c)] vs):Calls prog f vs.toArray W fun e w'=>e= .returned (.bool true)/\dy W w':=by
 subst hn;subst hr;have Sv:vs.length=2:=fD.1.symm;have hgi:∀(i:Flo) (w:World),i.N<=w.heap.size->@BF i (fun _=>False) w:=fun i w hw=>⟨fun x hx=>(by rw[yr]at hx;cases hx),hw,fun _ h=>h.elim⟩;refine calls_of_wp hf hb ?_;have r0:=@uD ⟨W.heap.size⟩ prog fn.ntmps {tmps:=vs.toArray++Y1 (fn.ntmps - vs.toArray.size) undef,defers:=[]} W (nZ ([D.agg (bJ s),D.agg (jp c)].map .d) 0) (fun _=>False) aN rfl (fun _ h=>h.elim) (hgi _ _ (XA _)) (fun t=>@xk ⟨W.heap.size⟩ _ _ _ _ _ (@p8 ⟨W.heap.size⟩ (RT fun _=>False) _ _ _ fD) t);refine @xw3 ⟨W.heap.size⟩ _ _ _ ag am _ _ _ _ _ _ _ _ _ _ hcb r0 (@p1 ⟨W.heap.size⟩ (fun e h=>@cG ⟨W.heap.size⟩ prog fn.ntmps 0 e h [(2,.ptr 0 0),(3,.ptr 1 0),(5,.ptr k5 0)] H1) fun _ _ h=>h) (fun e1 h1 a1 w1 k1 q1=>?_) (fun x e1 h1 a1 w1 hx k1 _=>by cases x<;>first|exact absurd rfl hx|exact k1.elim);obtain⟨c1,Jn⟩:=k1 _ rfl rfl rfl a1 w1 q1;obtain⟨z1,d1,TF⟩:=sZ _ Jn;replace TF:ExtL (fun _=>False) W w1:=TF;have e2:=wC _ ⟨w1.heap.size⟩ Jn (k:=0) (t:=2) hH0 rfl (XA _);have e3:=wC _ ⟨w1.heap.size⟩ Jn (k:=1) (t:=3) hH1 rfl (XA _);have e5:=wC _ ⟨w1.heap.size⟩ Jn (k:=k5) (t:=5) hH5 rfl (XA _);have r1:=@uD ⟨w1.heap.size⟩ prog fn.ntmps a1 w1 (Oo s c) (fun _=>False) z1 d1 (fun _ h=>h.elim) (hgi _ _ (XA _)) (fun t=>by
  simp only[Oo,dP];split
  ·subst_vars;exact @RepP.d ⟨w1.heap.size⟩ _ _ _ _ e2
  split
  ·subst_vars;exact @RepP.d ⟨w1.heap.size⟩ _ _ _ _ e3
  split
  ·subst_vars;exact @RepP.d ⟨w1.heap.size⟩ _ _ _ _ e5
  ·exact @RepP.any ⟨w1.heap.size⟩ _ _ _)
 refine wp_seq (@EU ⟨w1.heap.size⟩ {P:=prog,n:=fn.ntmps,m:=0,w0:=w1,M0:=fun _=>False,L:=fun _=>False,c0:=RT fun _=>False} _ _ ag id ops [2,3,5] _ _ _ _ _ _ js hks (@p2 ⟨w1.heap.size⟩ (fun e h=>@cG ⟨w1.heap.size⟩ prog fn.ntmps 0 e h [(6,.ptr 0 0),(7,.ptr 1 0),(8,.d (.v x8))] [.box Ts ((kk w1.heap.size s').map .d),.box Ta ((eG an).map .d)]) fun _ _ h=>h) r1 (fun e2' h2' a2 w2 k2 mo q2=>?_));obtain⟨c2,vK⟩:=k2 _ rfl rfl rfl a2 w2 q2;obtain⟨-,-,TG⟩:=sZ _ vK;replace TG:ExtL (fun _=>False) w1 w2:=TG;have r2:=to3 ⟨w1.heap.size⟩ vK (fun _ h=>h) (fun _ h=>h) rfl rfl rfl rfl;obtain⟨b1,b2,b3⟩:=p3 _ (a2.tmps.getD 2 undef) (a2.tmps.getD 3 undef) (a2.tmps.getD 5 undef) (rfl:Cfg.P {P:=prog,n:=fn.ntmps,m:=0,w0:=w2,M0:=fun b=>b < w1.heap.size,L:=fun b=>w1.heap.size<=b,c0:=RT fun _=>False}=prog) rfl rfl (fun b hb=>ZX.1 hb);refine wp_seq (wp_mono (b1 _ trivial _ _ r2) ?_);rintro x a3 w3 ⟨rfl,s3,-,r3⟩;refine wp_seq (wp_mono (b2 _ trivial _ _ r3) ?_);rintro x a4 w4 ⟨rfl,s4,-,r4⟩;refine wp_seq (wp_mono (b3 _ trivial _ _ r4) ?_);rintro x a5 w5 ⟨rfl,s5,-,c5,hc5⟩;obtain⟨z5,d5,Vv⟩:=sZ _ hc5;replace Vv:ExtL (fun b=>w1.heap.size<=b) w2 w5:=Vv;have cK:w1.heap.size<=w5.heap.size:=Yj TG.size Vv.size;have hold:∀b,b < w1.heap.size->w5.heap[b]? =w1.heap[b]? :=fun b hb=>(Vv.block b (Ya hb TG.size) (Nat.not_le.2 hb)).trans (TG.block b hb (fun h=>h));have PK:∀t,t∈[2,3,5]->a5.tmps.getD t undef=a1.tmps.getD t undef:=fun t ht=>by
  rw[<-mo t ht];simp at ht;rcases ht with rfl|rfl|rfl<;>exact IY _ hc5 rfl
 have g2:=yu _ ⟨w5.heap.size⟩ e2 cK hold (XA _);have g3:=yu _ ⟨w5.heap.size⟩ e3 cK hold (XA _);have g5:=yu _ ⟨w5.heap.size⟩ e5 cK hold (XA _);rw[<-PK 2 ak]at g2;rw[<-PK 3 ak]at g3;rw[<-PK 5 ak]at g5;have g7:=wC _ ⟨w5.heap.size⟩ hc5 (k:=1) (t:=7) rfl rfl (XA _);have g8:a5.tmps.getD 8 undef=x8:=IY _ hc5 rfl;have r5:=@uD ⟨w5.heap.size⟩ prog fn.ntmps a5 w5 (Oq s c an x8) (fun _=>False) z5 d5 (fun _ h=>h.elim) (hgi _ _ (XA _)) (fun t=>by
  simp only[Oq,dP];split
  ·subst_vars;exact @RepP.d ⟨w5.heap.size⟩ _ _ _ _ g2
  split
  ·subst_vars;exact @RepP.d ⟨w5.heap.size⟩ _ _ _ _ g3
  split
  ·subst_vars;exact @RepP.d ⟨w5.heap.size⟩ _ _ _ _ g5
  split
  ·subst_vars;exact @RepP.d ⟨w5.heap.size⟩ _ _ _ _ g7
  split
  ·rename_i ht;subst ht;rw[g8];exact @RepP.d ⟨w5.heap.size⟩ _ _ _ _ (@RepD.v ⟨w5.heap.size⟩ _ _ _)
  ·exact @RepP.any ⟨w5.heap.size⟩ _ _ _)
 refine @xw ⟨w5.heap.size⟩ {P:=prog,n:=fn.ntmps,m:=0,w0:=w5,M0:=fun _=>False,L:=fun _=>False,c0:=RT fun _=>False} _ _ ag am _ _ _ _ _ _ _ tI r5 (@p4 ⟨w5.heap.size⟩) fun x e6 h6 a6 w6 k6 q6=>?_;have hE6:ExtL (fun _=>False) w5 w6:=q6.elim fun _ hc=>(sZ _ hc).2.2;refine @UG ⟨w5.heap.size⟩ _ _ {P:=prog,n:=fn.ntmps,m:=0,w0:=w5,M0:=fun _=>False,L:=fun _=>False,c0:=RT fun _=>False} fn ag x e6 h6 a6 w6 W (.bool true) k6 q6 ?_;refine⟨?_,?_,?_,?_,fun b hb=>?_⟩
 ·exact hE6.os.trans (Vv.os.trans (TG.os.trans TF.os))
 ·exact hE6.tape.trans (Vv.tape.trans (TG.tape.trans TF.tape))
 ·exact hE6.output.trans (Vv.output.trans (TG.output.trans TF.output))
 ·exact Yj TF.size (Yj cK hE6.size)
 ·have jQ:=Ya hb TF.size;exact(hE6.block b (Ya jQ cK) (fun h=>h)).trans ((hold b jQ).trans (TF.block b hb (fun h=>h)))
theorem a2V {p:Prop}(h:p:=by
 refine aq ?_;exact hC _ _ wf):p:=h
def cL:Code->Code
 | .seq a _=>a
 |c=>c
def cR:Code->Code
 | .seq _ b=>b
 |c=>c
noncomputable def restC:Code:=(Tryz.f6.body).getD .skip
theorem UH [Flo](hN:Flo.N=0){X:Cfg}(hX:X.P=prog/\X.n=231/\X.m=0)(hL:∀b,¬X.M0 b->X.L b)(v2 v3 v5 x8:Value)(an:Ans):
 Bd X 30 39 ((eG an).map .d) (cL (cR (cR (cR (cR (cR (cR restC))))))) (fun _=>True) (fun _=>True) [(2,.d (.v v2)),(3,.d (.v v3)),(5,.d (.v v5)),(6,.ptr 0 0),(7,.ptr 1 0),(8,.d (.v x8))] [(2,.d (.v v2)),(3,.d (.v v3)),(5,.d (.v v5)),(6,.ptr 0 0),(7,.ptr 1 0),(8,.d (.v x8))]:=by
 refine Bd.all fun s0 _=>?_;refine Bd.post (Sh1:=fun s=>s.net.links.length=s0.net.links.length) (CP (Sh:=fun s=>s.net.links.length=s0.net.links.length) ?_ (by rintro s rfl;rfl)) (fun _ _=>trivial);generalize s0.net.links.length=n;refine Bd.seq (Bd.sC (e1:=[(16,.d (.v (.int .i64 ((0:Nat):Int)))),(2,.d (.v v2)),(3,.d (.v v3)),(5,.d (.v v5)),(6,.ptr 0 0),(7,.ptr 1 0),(8,.d (.v x8))]) hX ag am aK (fun s hs C hC=>?_)) ?_
 ·exact a2V
 refine mP (pU hX ag am n (fun k=>[(16,.d (.v (.int .i64 k))),(2,.d (.v v2)),(3,.d (.v v3)),(5,.d (.v v5)),(6,.ptr 0 0),(7,.ptr 1 0),(8,.d (.v x8))]) aK aK (fun k s hk hs C hC=>?_) (fun s hs C hC=>?_) (fun k hk=>?_) (fun k s hk hs hm C hC=>?_)) hX (fun s=>wf)
 ·have dF:(k:Int) < (s.net.links.length:Int):=aa;replace hs:=Xi hs;refine aq ?_;exact hC _ _ wf
 ·have dF:¬(n:Int) < (s.net.links.length:Int):=aa;replace hs:=Xi hs;refine aq ?_;exact hC _ _ wf
 ·refine Bd.store hX ag hN hL false (pre:=[_,_,_,_,_,_]) [.int .i64 0,.int .i64 0] rfl rfl rfl rfl rfl rfl rfl rfl rfl rfl aK (fun s s' hs h=>h.links.trans hs) (fun s hs C hC=>?_);have dF:(k:Int) < (s.net.links.length:Int):=aa;obtain⟨l,hl⟩:∃l,s.net.links[k]? =some l:=⟨_,Xj aa⟩;replace hs:=Xi hs;refine aq ?_;exact hC _ _ rfl ⟨trivial,trivial,trivial⟩ rfl rfl se
 ·have cX:=wi k (by have:=hm.links;omega);replace hs:=Xi hs;replace hm:=Xi hm;refine aq ?_;exact hC _ _ wf
theorem cz {α:Type}{l:List α}{i:Nat}{x:α}(h:l[i]? =some x):(i:Int) < (l.length:Int):=by have:=(Xm.1 h).1;omega
theorem RV {s:Ste}{k n:Nat}(h:(s.book.pools.map VN)[k]? =some n):∃p,s.book.pools[k]? =some p/\p.leases.length=n:=by
 rw[Xr,XB]at h;exact h
theorem s6 {s:Ste}{σ:List (Nat × List (List Nat))}{i nr:Nat}{su:List (List Nat)}(h:s.net.vpcs.map Ok=σ)(hσ:σ[i]? =some (nr,su)):∃v,s.net.vpcs[i]? =some v/\v.ranges.length=nr/\v.subs.map shN=su:=by
 rw[<-h,Xr,XB]at hσ;obtain⟨v,hv,e⟩:=hσ;cases e;exact⟨v,hv,rfl,rfl⟩
theorem Hg {v:Vpc}{su:List (List Nat)}{j:Nat}{fa:List Nat}(h:v.subs.map shN=su)(hs:su[j]? =some fa):∃u,v.subs[j]? =some u/\u.faces.map shF=fa:=by
 rw[<-h,Xr,XB]at hs;exact hs
theorem RW {u:Sbn}{fa:List Nat}{k na:Nat}(h:u.faces.map shF=fa)(hs:fa[k]? =some na):∃f,u.faces[k]? =some f/\f.addrs.length=na:=by
 rw[<-h,Xr,XB]at hs;exact hs
theorem UI [Flo](hN:Flo.N=0){X:Cfg}(hX:X.P=prog/\X.n=231/\X.m=0)(hL:∀b,¬X.M0 b->X.L b)(v2 v3 v5 x8:Value)(an:Ans):
 Bd X 30 39 ((eG an).map .d) (cL (cR (cR (cR (cR restC))))) (fun _=>True) (fun _=>True) [(2,.d (.v v2)),(3,.d (.v v3)),(5,.d (.v v5)),(6,.ptr 0 0),(7,.ptr 1 0),(8,.d (.v x8))] [(2,.d (.v v2)),(3,.d (.v v3)),(5,.d (.v v5)),(6,.ptr 0 0),(7,.ptr 1 0),(8,.d (.v x8))]:=by
 refine Bd.all fun s0 _=>?_;refine Bd.post (Sh1:=fun s=>s.book.pools.length=s0.book.pools.length) (CP (Sh:=fun s=>s.book.pools.length=s0.book.pools.length) ?_ (by rintro s rfl;rfl)) (fun _ _=>trivial);generalize s0.book.pools.length=n;refine Bd.seq (Bd.sC (e1:=((9,.d (.v (.int .i64 ((0:Nat):Int)))):Nat × PV)::[(2,.d (.v v2)),(3,.d (.v v3)),(5,.d (.v v5)),(6,.ptr 0 0),(7,.ptr 1 0),(8,.d (.v x8))]) hX ag am aK (fun s hs C hC=>?_)) ?_
 ·exact a2V
 refine mP (e1:=(9,.d (.v (.int .i64 n)))::[(2,.d (.v v2)),(3,.d (.v v3)),(5,.d (.v v5)),(6,.ptr 0 0),(7,.ptr 1 0),(8,.d (.v x8))]) ?_ hX (fun s=>wf);refine pU hX ag am n (fun k=>((9,.d (.v (.int .i64 k))):Nat × PV)::[(2,.d (.v v2)),(3,.d (.v v3)),(5,.d (.v v5)),(6,.ptr 0 0),(7,.ptr 1 0),(8,.d (.v x8))]) aK aK (fun k s hk hs C hC=>?_) (fun s hs C hC=>?_) (fun k hk=>?_) (fun k s hk hs hm C hC=>?_)
 ·have dF:(k:Int) < (s.book.pools.length:Int):=aa;replace hs:=Xi hs;refine aq ?_;exact hC _ _ wf
 ·have dF:¬(n:Int) < (s.book.pools.length:Int):=aa;replace hs:=Xi hs;refine aq ?_;exact hC _ _ wf
 ·refine Bd.seq (Sh1:=fun s=>s.book.pools.length=n) (e1:=(9,.d (.v (.int .i64 k)))::[(2,.d (.v v2)),(3,.d (.v v3)),(5,.d (.v v5)),(6,.ptr 0 0),(7,.ptr 1 0),(8,.d (.v x8))]) ?_ ?_
  ·refine Bd.all fun s1 mz=>?_;obtain⟨p1,SJ⟩:∃p,s1.book.pools[k]? =some p:=⟨_,Xj aa⟩;generalize P7:p1.leases.length=n2;refine Bd.post (Sh1:=fun s=>(s.book.pools.map VN)[k]? =some n2/\s.book.pools.length=n) (CP (Sh:=fun s=>(s.book.pools.map VN)[k]? =some n2/\s.book.pools.length=n) ?_ (by rintro s rfl;exact⟨by rw[Xr,SJ,<-P7];rfl,mz⟩)) (fun _ h=>h.2);clear SJ P7 mz;refine Bd.seq (Bd.sC (e1:=((10,.d (.v (.int .i64 ((0:Nat):Int)))):Nat × PV)::(9,.d (.v (.int .i64 k)))::[(2,.d (.v v2)),(3,.d (.v v3)),(5,.d (.v v5)),(6,.ptr 0 0),(7,.ptr 1 0),(8,.d (.v x8))]) hX ag am aK (fun s hs C hC=>?_)) ?_
   ·exact a2V
   refine mP (e1:=(10,.d (.v (.int .i64 n2)))::(9,.d (.v (.int .i64 k)))::[(2,.d (.v v2)),(3,.d (.v v3)),(5,.d (.v v5)),(6,.ptr 0 0),(7,.ptr 1 0),(8,.d (.v x8))]) ?_ hX (fun s=>wf);have hk0:=hk;clear hk;generalize k=i at*;refine pU hX ag am n2 (fun k=>((10,.d (.v (.int .i64 k))):Nat × PV)::(9,.d (.v (.int .i64 i)))::[(2,.d (.v v2)),(3,.d (.v v3)),(5,.d (.v v5)),(6,.ptr 0 0),(7,.ptr 1 0),(8,.d (.v x8))]) aK aK (fun k s hk hs C hC=>?_) (fun s hs C hC=>?_) (fun k hk=>?_) (fun k s hk hs hm C hC=>?_)
   ·obtain⟨p,hp,gz⟩:=RV hs.1;have hi:=cz hp;have dF:(k:Int) < (p.leases.length:Int):=aa;replace hs:=Xi hs;replace gz:=Xi gz;refine aq ?_;exact hC _ _ wf
   ·obtain⟨p,hp,gz⟩:=RV hs.1;have hi:=cz hp;have dF:¬(n2:Int) < (p.leases.length:Int):=aa;replace hs:=Xi hs;replace gz:=Xi gz;refine aq ?_;exact hC _ _ wf
   ·refine Bd.store hX ag hN hL false (pre:=[_,_,_,_,_,_,_,_,_,_]) [.int .i64 0,.int .i64 0,.int .i64 0,.int .i64 0,.int .i64 0] rfl rfl rfl rfl rfl rfl rfl rfl rfl rfl aK (fun s s' hs h=>⟨by rw[h.leases rfl];exact hs.1,h.pools.trans hs.2⟩) (fun s hs C hC=>?_);obtain⟨p,hp,gz⟩:=RV hs.1;have hi:=cz hp;have dF:(k:Int) < (p.leases.length:Int):=aa;obtain⟨l,hl⟩:∃l,p.leases[k]? =some l:=⟨_,Xj aa⟩;replace hs:=Xi hs;replace gz:=Xi gz;refine aq ?_;exact hC _ _ rfl ⟨trivial,trivial,trivial,trivial,trivial,trivial⟩ rfl rfl se
   ·obtain⟨p,hp,gz⟩:=RV hs.1;have cX:=wi k (by have:=hm.leases p (Xk hp);omega);replace hs:=Xi hs;replace hm:=Xi hm;replace gz:=Xi gz;refine aq ?_;exact hC _ _ wf
  ·refine Bd.store hX ag hN hL true (pre:=[_,_,_,_,_,_]) [.int .i64 0,.int .i64 0,.int .i64 0,.int .i64 0,.int .i64 0,.int .i64 0,.int .i64 0,.int .i64 0,.slice none 0 0] rfl rfl rfl rfl rfl rfl rfl rfl rfl rfl aK (fun s s' hs h=>h.pools.trans hs) (fun s hs C hC=>?_);have dF:(k:Int) < (s.book.pools.length:Int):=aa;obtain⟨l,hl⟩:∃l,s.book.pools[k]? =some l:=⟨_,Xj aa⟩;replace hs:=Xi hs;refine aq ?_;exact hC _ _ rfl ⟨trivial,trivial,trivial,trivial,trivial,trivial,trivial,trivial,rfl,trivial⟩ rfl rfl se
 ·have cX:=wi k (by have:=hm.pools;omega);replace hs:=Xi hs;replace hm:=Xi hm;refine aq ?_;exact hC _ _ wf
theorem UJ [Flo](hN:Flo.N=0){X:Cfg}(hX:X.P=prog/\X.n=231/\X.m=0)(hL:∀b,¬X.M0 b->X.L b)(v2 v3 v5 x8:Value)(an:Ans):
 Bd X 30 39 ((eG an).map .d) (cL (cR (cR (cR (cR (cR restC)))))) (fun _=>True) (fun _=>True) [(2,.d (.v v2)),(3,.d (.v v3)),(5,.d (.v v5)),(6,.ptr 0 0),(7,.ptr 1 0),(8,.d (.v x8))] [(2,.d (.v v2)),(3,.d (.v v3)),(5,.d (.v v5)),(6,.ptr 0 0),(7,.ptr 1 0),(8,.d (.v x8))]:=by
 refine Bd.all fun s0 _=>?_;refine Bd.post (Sh1:=fun s=>s.net.vpcs.map Ok=s0.net.vpcs.map Ok) (CP (Sh:=fun s=>s.net.vpcs.map Ok=s0.net.vpcs.map Ok) ?_ (by rintro s rfl;rfl)) (fun _ _=>trivial);generalize s0.net.vpcs.map Ok=σ;clear s0;have lI:∀s:Ste,s.net.vpcs.map Ok=σ->s.net.vpcs.length=σ.length:=fun s h=>by rw[<-h,Xs]
 generalize hn:σ.length=n at lI;refine Bd.seq (Bd.sC (e1:=((11,.d (.v (.int .i64 ((0:Nat):Int)))):Nat × PV)::[(2,.d (.v v2)),(3,.d (.v v3)),(5,.d (.v v5)),(6,.ptr 0 0),(7,.ptr 1 0),(8,.d (.v x8))]) hX ag am aK (fun s hs C hC=>?_)) ?_
 ·exact a2V
 refine mP (e1:=(11,.d (.v (.int .i64 n)))::[(2,.d (.v v2)),(3,.d (.v v3)),(5,.d (.v v5)),(6,.ptr 0 0),(7,.ptr 1 0),(8,.d (.v x8))]) ?_ hX (fun s=>wf);refine pU hX ag am n (fun k=>((11,.d (.v (.int .i64 k))):Nat × PV)::[(2,.d (.v v2)),(3,.d (.v v3)),(5,.d (.v v5)),(6,.ptr 0 0),(7,.ptr 1 0),(8,.d (.v x8))]) aK aK (fun k s hk hs C hC=>?_) (fun s hs C hC=>?_) (fun k hk=>?_) (fun k s hk hs hm C hC=>?_)
 ·have dF:(k:Int) < (s.net.vpcs.length:Int):=by have:=lI s hs;omega
  replace hs:=Xi hs;clear lI;refine aq ?_;exact hC _ _ wf
 ·have dF:¬(n:Int) < (s.net.vpcs.length:Int):=by have:=lI s hs;omega
  replace hs:=Xi hs;clear lI;refine aq ?_;exact hC _ _ wf
 ·obtain⟨⟨nr,su⟩,hσ⟩:∃x,σ[k]? =some x:=⟨_,Xj aa⟩;generalize k=i at*;clear hk hn lI;refine Bd.seq (Sh1:=fun s=>s.net.vpcs.map Ok=σ) (e1:=(11,.d (.v (.int .i64 i)))::[(2,.d (.v v2)),(3,.d (.v v3)),(5,.d (.v v5)),(6,.ptr 0 0),(7,.ptr 1 0),(8,.d (.v x8))]) ?_ ?_
  ·refine Bd.seq (Bd.sC (e1:=((12,.d (.v (.int .i64 ((0:Nat):Int)))):Nat × PV)::(11,.d (.v (.int .i64 i)))::[(2,.d (.v v2)),(3,.d (.v v3)),(5,.d (.v v5)),(6,.ptr 0 0),(7,.ptr 1 0),(8,.d (.v x8))]) hX ag am aK (fun s hs C hC=>?_)) ?_
   ·exact a2V
   refine mP (e1:=(12,.d (.v (.int .i64 su.length)))::(11,.d (.v (.int .i64 i)))::[(2,.d (.v v2)),(3,.d (.v v3)),(5,.d (.v v5)),(6,.ptr 0 0),(7,.ptr 1 0),(8,.d (.v x8))]) ?_ hX (fun s=>wf);refine pU hX ag am su.length (fun k=>((12,.d (.v (.int .i64 k))):Nat × PV)::(11,.d (.v (.int .i64 i)))::[(2,.d (.v v2)),(3,.d (.v v3)),(5,.d (.v v5)),(6,.ptr 0 0),(7,.ptr 1 0),(8,.d (.v x8))]) aK aK (fun k s hk hs C hC=>?_) (fun s hs C hC=>?_) (fun k hk=>?_) (fun k s hk hs hm C hC=>?_)
   ·obtain⟨v,hv,lc,gS⟩:=s6 hs hσ;have hi:=cz hv;have dF:(k:Int) < (v.subs.length:Int):=by have:=congrArg Zm gS;rw[Xs]at this;omega
    replace hs:=Xi hs;replace lc:=Xi lc;replace gS:=Xi gS;replace hσ:=Xi hσ;refine aq ?_;exact hC _ _ wf
   ·obtain⟨v,hv,lc,gS⟩:=s6 hs hσ;have hi:=cz hv;have dF:¬(su.length:Int) < (v.subs.length:Int):=by have:=congrArg Zm gS;rw[Xs]at this;omega
    replace hs:=Xi hs;replace lc:=Xi lc;replace gS:=Xi gS;replace hσ:=Xi hσ;refine aq ?_;exact hC _ _ wf
   ·obtain⟨fa,Vw⟩:∃x,su[k]? =some x:=⟨_,Xj hk⟩;generalize k=j at*;clear hk;refine Bd.seq (Bd.sC (e1:=((13,.d (.v (.int .i64 ((0:Nat):Int)))):Nat × PV)::(12,.d (.v (.int .i64 j)))::(11,.d (.v (.int .i64 i)))::[(2,.d (.v v2)),(3,.d (.v v3)),(5,.d (.v v5)),(6,.ptr 0 0),(7,.ptr 1 0),(8,.d (.v x8))]) hX ag am aK (fun s hs C hC=>?_)) ?_
    ·exact a2V
    refine mP (e1:=(13,.d (.v (.int .i64 fa.length)))::(12,.d (.v (.int .i64 j)))::(11,.d (.v (.int .i64 i)))::[(2,.d (.v v2)),(3,.d (.v v3)),(5,.d (.v v5)),(6,.ptr 0 0),(7,.ptr 1 0),(8,.d (.v x8))]) ?_ hX (fun s=>wf);refine pU hX ag am fa.length (fun k=>((13,.d (.v (.int .i64 k))):Nat × PV)::(12,.d (.v (.int .i64 j)))::(11,.d (.v (.int .i64 i)))::[(2,.d (.v v2)),(3,.d (.v v3)),(5,.d (.v v5)),(6,.ptr 0 0),(7,.ptr 1 0),(8,.d (.v x8))]) aK aK (fun k s hk hs C hC=>?_) (fun s hs C hC=>?_) (fun k hk=>?_) (fun k s hk hs hm C hC=>?_)
    ·obtain⟨v,hv,lc,gS⟩:=s6 hs hσ;have hi:=cz hv;obtain⟨u,hu,uQ⟩:=Hg gS Vw;have hj:=cz hu;have dF:(k:Int) < (u.faces.length:Int):=by have:=congrArg Zm uQ;rw[Xs]at this;omega
     replace hs:=Xi hs;replace lc:=Xi lc;replace gS:=Xi gS;replace hσ:=Xi hσ;replace uQ:=Xi uQ;refine aq ?_;exact hC _ _ wf
    ·obtain⟨v,hv,lc,gS⟩:=s6 hs hσ;have hi:=cz hv;obtain⟨u,hu,uQ⟩:=Hg gS Vw;have hj:=cz hu;have dF:¬(fa.length:Int) < (u.faces.length:Int):=by have:=congrArg Zm uQ;rw[Xs]at this;omega
     replace hs:=Xi hs;replace lc:=Xi lc;replace gS:=Xi gS;replace hσ:=Xi hσ;replace uQ:=Xi uQ;refine aq ?_;exact hC _ _ wf
    ·obtain⟨na,j1⟩:∃x,fa[k]? =some x:=⟨_,Xj hk⟩;generalize k=l at*;clear hk;refine Bd.seq (Bd.sC (e1:=((14,.d (.v (.int .i64 ((0:Nat):Int)))):Nat × PV)::(13,.d (.v (.int .i64 l)))::(12,.d (.v (.int .i64 j)))::(11,.d (.v (.int .i64 i)))::[(2,.d (.v v2)),(3,.d (.v v3)),(5,.d (.v v5)),(6,.ptr 0 0),(7,.ptr 1 0),(8,.d (.v x8))]) hX ag am aK (fun s hs C hC=>?_)) ?_
     ·exact a2V
     refine mP (e1:=(14,.d (.v (.int .i64 na)))::(13,.d (.v (.int .i64 l)))::(12,.d (.v (.int .i64 j)))::(11,.d (.v (.int .i64 i)))::[(2,.d (.v v2)),(3,.d (.v v3)),(5,.d (.v v5)),(6,.ptr 0 0),(7,.ptr 1 0),(8,.d (.v x8))]) ?_ hX (fun s=>wf);refine pU hX ag am na (fun k=>((14,.d (.v (.int .i64 k))):Nat × PV)::(13,.d (.v (.int .i64 l)))::(12,.d (.v (.int .i64 j)))::(11,.d (.v (.int .i64 i)))::[(2,.d (.v v2)),(3,.d (.v v3)),(5,.d (.v v5)),(6,.ptr 0 0),(7,.ptr 1 0),(8,.d (.v x8))]) aK aK (fun k s hk hs C hC=>?_) (fun s hs C hC=>?_) (fun k hk=>?_) (fun k s hk hs hm C hC=>?_)
     ·obtain⟨v,hv,lc,gS⟩:=s6 hs hσ;have hi:=cz hv;obtain⟨u,hu,uQ⟩:=Hg gS Vw;have hj:=cz hu;obtain⟨f,hf,oK⟩:=RW uQ j1;have iH:=cz hf;have dF:(k:Int) < (f.addrs.length:Int):=aa;replace hs:=Xi hs;replace lc:=Xi lc;replace gS:=Xi gS;replace hσ:=Xi hσ;replace uQ:=Xi uQ;replace oK:=Xi oK;refine aq ?_;exact hC _ _ wf
     ·obtain⟨v,hv,lc,gS⟩:=s6 hs hσ;have hi:=cz hv;obtain⟨u,hu,uQ⟩:=Hg gS Vw;have hj:=cz hu;obtain⟨f,hf,oK⟩:=RW uQ j1;have iH:=cz hf;have dF:¬(na:Int) < (f.addrs.length:Int):=aa;replace hs:=Xi hs;replace lc:=Xi lc;replace gS:=Xi gS;replace hσ:=Xi hσ;replace uQ:=Xi uQ;replace oK:=Xi oK;refine aq ?_;exact hC _ _ wf
     ·refine Bd.store hX ag hN hL false (pre:=[_,_,_,_,_,_,_,_,_,_,_,_,_,_,_,_,_]) [.int .i64 (-1)] rfl rfl rfl rfl rfl rfl rfl rfl rfl rfl aK (fun s s' hs h=>(h.nets rfl).trans hs) (fun s hs C hC=>?_);obtain⟨v,hv,lc,gS⟩:=s6 hs hσ;have hi:=cz hv;obtain⟨u,hu,uQ⟩:=Hg gS Vw;have hj:=cz hu;obtain⟨f,hf,oK⟩:=RW uQ j1;have iH:=cz hf;have dF:(k:Int) < (f.addrs.length:Int):=aa;obtain⟨x,hx⟩:∃x,f.addrs[k]? =some x:=⟨_,Xj aa⟩;replace hs:=Xi hs;replace lc:=Xi lc;replace gS:=Xi gS;replace hσ:=Xi hσ;replace uQ:=Xi uQ;replace oK:=Xi oK;refine aq ?_;exact hC _ _ rfl ⟨trivial,trivial⟩ rfl rfl se
     ·obtain⟨v,hv,lc,gS⟩:=s6 hs hσ;have hi:=cz hv;obtain⟨u,hu,uQ⟩:=Hg gS Vw;have hj:=cz hu;obtain⟨f,hf,oK⟩:=RW uQ j1;have iH:=cz hf;have cX:=wi k (by have:=hm.addrs v (Xk hv) u (Xk hu) f (Xk hf);omega);replace hs:=Xi hs;replace lc:=Xi lc;replace gS:=Xi gS;replace hσ:=Xi hσ;replace uQ:=Xi uQ;replace oK:=Xi oK;replace hm:=Xi hm;refine aq ?_;exact hC _ _ wf
    ·obtain⟨v,hv,lc,gS⟩:=s6 hs hσ;have hi:=cz hv;obtain⟨u,hu,uQ⟩:=Hg gS Vw;have hj:=cz hu;have cX:=wi k (by have:=hm.faces v (Xk hv) u (Xk hu);have:=congrArg Zm uQ;rw[Xs]at this;omega);replace hs:=Xi hs;replace lc:=Xi lc;replace gS:=Xi gS;replace hσ:=Xi hσ;replace uQ:=Xi uQ;replace hm:=Xi hm;refine aq ?_;exact hC _ _ wf
   ·obtain⟨v,hv,lc,gS⟩:=s6 hs hσ;have hi:=cz hv;have cX:=wi k (by have:=hm.subs v (Xk hv);have:=congrArg Zm gS;rw[Xs]at this;omega);replace hs:=Xi hs;replace lc:=Xi lc;replace gS:=Xi gS;replace hσ:=Xi hσ;replace hm:=Xi hm;refine aq ?_;exact hC _ _ wf
  ·refine Bd.seq (Bd.sC (e1:=((15,.d (.v (.int .i64 ((0:Nat):Int)))):Nat × PV)::(11,.d (.v (.int .i64 i)))::[(2,.d (.v v2)),(3,.d (.v v3)),(5,.d (.v v5)),(6,.ptr 0 0),(7,.ptr 1 0),(8,.d (.v x8))]) hX ag am aK (fun s hs C hC=>?_)) ?_
   ·exact a2V
   refine mP (e1:=(15,.d (.v (.int .i64 nr)))::(11,.d (.v (.int .i64 i)))::[(2,.d (.v v2)),(3,.d (.v v3)),(5,.d (.v v5)),(6,.ptr 0 0),(7,.ptr 1 0),(8,.d (.v x8))]) ?_ hX (fun s=>wf);refine pU hX ag am nr (fun k=>((15,.d (.v (.int .i64 k))):Nat × PV)::(11,.d (.v (.int .i64 i)))::[(2,.d (.v v2)),(3,.d (.v v3)),(5,.d (.v v5)),(6,.ptr 0 0),(7,.ptr 1 0),(8,.d (.v x8))]) aK aK (fun k s hk hs C hC=>?_) (fun s hs C hC=>?_) (fun k hk=>?_) (fun k s hk hs hm C hC=>?_)
   ·obtain⟨v,hv,lc,gS⟩:=s6 hs hσ;have hi:=cz hv;have dF:(k:Int) < (v.ranges.length:Int):=aa;replace hs:=Xi hs;replace lc:=Xi lc;replace gS:=Xi gS;replace hσ:=Xi hσ;refine aq ?_;exact hC _ _ wf
   ·obtain⟨v,hv,lc,gS⟩:=s6 hs hσ;have hi:=cz hv;have dF:¬(nr:Int) < (v.ranges.length:Int):=aa;replace hs:=Xi hs;replace lc:=Xi lc;replace gS:=Xi gS;replace hσ:=Xi hσ;refine aq ?_;exact hC _ _ wf
   ·refine Bd.store hX ag hN hL false (pre:=[_,_,_,_,_,_,_,_,_,_]) [.int .i64 0,.int .i64 0,.int .i64 0] rfl rfl rfl rfl rfl rfl rfl rfl rfl rfl aK (fun s s' hs h=>(h.nets rfl).trans hs) (fun s hs C hC=>?_);obtain⟨v,hv,lc,gS⟩:=s6 hs hσ;have hi:=cz hv;have dF:(k:Int) < (v.ranges.length:Int):=aa;obtain⟨x,hx⟩:∃x,v.ranges[k]? =some x:=⟨_,Xj aa⟩;replace hs:=Xi hs;replace lc:=Xi lc;replace gS:=Xi gS;replace hσ:=Xi hσ;refine aq ?_;exact hC _ _ rfl ⟨trivial,trivial,trivial,trivial⟩ rfl rfl se
   ·obtain⟨v,hv,lc,gS⟩:=s6 hs hσ;have hi:=cz hv;have cX:=wi k (by have:=hm.ranges v (Xk hv);omega);replace hs:=Xi hs;replace lc:=Xi lc;replace gS:=Xi gS;replace hσ:=Xi hσ;replace hm:=Xi hm;refine aq ?_;exact hC _ _ wf
 ·have cX:=wi k (by have:=hm.vpcs;have:=lI s hs;omega);replace hs:=Xi hs;replace hm:=Xi hm;clear lI;refine aq ?_;exact hC _ _ wf
theorem Bi [Flo](p:Pol)(hb:p.leases.length<=3518437208882):ai prog 102 [.agg (al p)] (.agg (GC p.root (p.leases.map (·.at_)))):=by
 refine pj func102 ntmps102 results102 ?_;refine aq ?_<;>intros;refine bL ag am (fun m e h=>∃k g:Nat,k<=p.leases.length/\m=p.leases.length - k/\e=[(4,.d (.v (.int .i64 k))),(3,.ptr 2 0),(2,.ptr 1 0),(1,.ptr 0 0)]/\
  h=[.box 62 ((al p).map .d),.box 151 [.d (.v (.int .i64 0)),.d (.v (.int .i64 0)),.d (.v (.slice none 0 0))],.box 151 [.d (.v (.int .i64 p.root.at_)),.d (.v (.int .i64 p.root.len)),.own 3 g],.row 32 2 g (ab (((p.leases.map (·.at_)).take k).map aS))]) _ _ _ ⟨0,0,XE _,rfl,rfl,rfl⟩ ?_ ?_
 ·exact(ax ak 2 _ _ 2 _ _ rfl rfl rfl).trans (wf (x:=[]) (hh:=rfl) (he:=⟨rfl,rfl,rfl,rfl,trivial⟩))
 ·rintro m e h ⟨k,g,hk,rfl,rfl,rfl⟩ C hC;by_cases hlt:k < p.leases.length
  ·obtain⟨l,hl⟩:∃l,p.leases[k]? =some l:=⟨_,Xj hlt⟩;have fy:(k:Int) < (p.leases.length:Int):=aa;have cX:=wi k aa;have wg:(((p.leases.map (·.at_)).take k).length+1)*16<=140737488355328:=by rw[Xo,Xs];omega
   have z1z:=@Xo.{0};refine fl ?_ ?_ ?_ ?_ ?_ ?_ ?_ ?_<;>first|(with_reducible exact True.intro)|intros
   have hts:(p.leases.map (·.at_)).take (k+1)=(p.leases.map (·.at_)).take k++[l.at_]:=aj (by rw[Xr,hl];rfl);refine hC _ _ _ _ _ ?_ ⟨k+1,g+1,hlt,rfl,rfl,rfl⟩ (wf (x:=[]) (hh:=?_) (he:=⟨rfl,rfl,rfl,rfl,trivial⟩))
   ·omega
   ·rw[hts,Xn];rfl
  ·obtain rfl:k=p.leases.length:=aa;refine aq ?_<;>intros;rw[XM ak];all_goals exact aO.refl _
theorem pK [Flo]{a b:Bool}(h:b=a):aO (.v (.bool a)) (.v (.bool b)):=h ▸ aO.refl _
theorem vA [Flo]{a b:Int}(h:b=a):aO (.v (.int .i64 a)) (.v (.int .i64 b)):=h ▸ aO.refl _
theorem eJ [Flo](n lo hi:Int):ai prog 75 [.v (.int .i64 n),.v (.int .i64 lo),.v (.int .i64 hi)] (.v (.bool (decide (lo<=n)&&decide (n<=hi)))):=by
 refine pj func75 ntmps75 results75 ?_;exact aY;all_goals exact pK ld
theorem rH [Flo](r:Rul)(p:Pfx):ai prog 103 [.agg (vV r),.agg (aS p)] (.v (.bool (fY r p.len))):=by
 have hw:=eJ r.cool 0 1024;have he:fY r p.len=((decide (p.len<=r.min)&&(decide (r.min<=r.usual)&&(decide (r.usual<=r.max)&&decide (r.max<=16))))&&(decide (0<=r.cool)&&decide (r.cool<=1024))):=by
  unfold fY;congr 1;simp[gO]
 replace he:=Xi he;refine pj func103 ntmps103 results103 ?_;refine fl ?_ ?_ ?_ ?_ ?_ ?_ ?_ ?_<;>first|(with_reducible exact True.intro)|intros
 all_goals exact pK (by rw[he.out];clear hw;grind)
def Tk (b:Bok)(id:Int):Int:=match b.pools.findIdx? fun p=>p.id==id with|some i=>i|none=> -1
theorem RX {b:Bok}{id:Int}{k:Nat}{p:Pol}(hp:b.pools[k]? =some p)(hid:p.id=id)(bQ:∀j q,j < k->b.pools[j]? =some q->q.id≠id):Tk b id=k:=by
 unfold Tk;have:b.pools.findIdx? (fun p=>p.id==id)=some k:=by
  obtain⟨hk,he⟩:=Xm.1 hp;rw[XK];refine⟨hk,by rw[he];simpa using hid,fun j hj=>?_⟩;have:=bQ j _ hj (Xj (Nat.lt_trans hj hk));simpa using this
 rw[this]
theorem EV {b:Bok}{id:Int}(bQ:∀j q,j < b.pools.length->b.pools[j]? =some q->q.id≠id):Tk b id= -1:=by
 unfold Tk;have:b.pools.findIdx? (fun p=>p.id==id)=none:=by
  rw[Yn];intro q hq;obtain⟨j,hj,rfl⟩:=XZ.1 hq;have:=bQ j _ hj (Xj hj);simpa using this
 rw[this]
theorem iS {b:Bok}{id:Int}{p:Pol}(h:bK b id=some p):∃i:Nat,Tk b id=i/\b.pools[i]? =some p/\p.id=id:=by
 unfold Tk;unfold bK at h;cases hf:b.pools.findIdx? fun p=>p.id==id with
 |none=>
  rw[Yn]at hf;have h1:=hf p (YC h);rw[Zg h]at h1;exact absurd h1 ak
 |some i=>
  obtain⟨hi,hp,bQ⟩:=XK.1 hf;refine⟨i,rfl,?_,by simpa using Zg h⟩;obtain⟨-,j,hj,he,Dd⟩:=List.find?_eq_some_iff_getElem.1 h;have hij:i=j:=by
   rcases Y9 i j with hlt|h|hlt
   ·have:=Dd i hlt;rw[hp]at this;exact absurd this ak
   ·exact h
   ·have h1:=bQ j hlt;have h2:=Zg h;rw[he]at h1;exact absurd h2 h1
  rw[hij,Xj hj,he]
theorem oE {b:Bok}{id:Int}(h:bK b id=none):Tk b id= -1:=by
 refine EV fun j q _ hq he=>?_;have:=Yr.1 h q (Xk hq);simp at this;exact this he
theorem iT [Flo](b:Bok)(id:Int)(hl:b.pools.length<=9223372036854775807):ai prog 18 [.agg (bj b),.v (.int .i64 id)] (.v (.int .i64 (Tk b id))):=by
 refine pj func18 ntmps18 results18 ?_;refine aq ?_<;>intros;refine bq ag am b.pools (fun k=>∀j (q:Pol),j < k->b.pools[j]? =some q->q.id≠id) (fun k=>[(5,.d (.v (.int .i64 k))),(4,.d (.v (.int .i64 0))),(2,.ptr 0 0),(1,.d (.v (.int .i64 id)))]) (fun _=>[.box 24 ((bj b).map .d)]) (fun j q h=>absurd h (Yy _)) (wf) ?_ ?_
 ·intro k p hp hk hI C hC;have dF:(k:Int) < (b.pools.length:Int):=aa;have cX:=wi k aa;replace hI:=Xi hI;refine zk ?_ ?_<;>intros
  ·rename_i h1;exact vA (RX hp (by simpa using h1) hI.out)
  ·rename_i h1;refine hC _ _ (fun j q hj hq=>?_) (wf);rcases XL j k with h|h
   ·exact hI.out j q h hq
   ·obtain rfl:j=k:=aa;rw[hp]at hq;obtain rfl:=XU.inj hq;simpa using h1
 ·intro hI C;replace hI:=Xi hI;refine aq ?_<;>intros;exact vA (EV hI.out)
theorem EW [Flo](b:Bok)(p:Pol)(l:Lse)(hl:b.pools.length<=1000000000)(ht:0<=b.tick/\b.tick<=1073741824):ai prog 105 [.agg (bj b),.agg (al p),.agg (bc l)] (.v (.bool (fg b p l))):=by
 have dh:=iT b l.owner aa;have co:IntKind.i64.wrap (b.tick+1)=b.tick+1:=by rw[IntKind.wrap_i64];omega
 have cM:IntKind.i64.wrap (b.tick+1024)=b.tick+1024:=by rw[IntKind.wrap_i64];omega
 have hi:=eJ l.owner 1 65536;have htl:=eJ l.till (b.tick+1) (b.tick+1024);obtain⟨R,hR⟩:∃R,R=fg b p l:=⟨_,rfl⟩;rw[<-hR];replace hR:=Xi hR;cases hq:bK b l.owner with
 |none=>
  rw[oE hq]at dh
  replace hq:=Xi hq;have Ac:decide ((-1:Int)>=0)=false:=rfl;refine pj func105 ntmps105 results105 ?_;refine fl ?_ ?_ ?_ ?_ ?_ ?_ ?_ ?_<;>first|(with_reducible exact True.intro)|intros
  all_goals exact pK (by rw[hR.out];have hq:=hq.out;unfold fg dZ;clear hi dh htl hR;grind)
 |some q=>
  obtain⟨i,e1,e2,e3⟩:=iS hq;rw[e1]at dh
  have hge:((i:Int)>=0):=aa;have he:=nF q.root l.at_;replace hq:=Xi hq;replace e1:=Xi e1;replace e3:=Xi e3;refine pj func105 ntmps105 results105 ?_;refine fl ?_ ?_ ?_ ?_ ?_ ?_ ?_ ?_<;>first|(with_reducible exact True.intro)|intros
  all_goals exact pK (by rw[hR.out];have hq:=hq.out;unfold fg dZ;clear hi dh htl hR;grind)
theorem Ot [Flo](b:Bok)(p:Pol)(hl:b.pools.length<=1000000000)(eP:∀q∈b.pools,q.leases.length<=1000000000):ai prog 104 [.agg (bj b),.agg (al p)] (.v (.bool (kM b b.pools.length p))):=by
 obtain⟨R,hR⟩:∃R,R=kM b b.pools.length p:=⟨_,rfl⟩;rw[<-hR];replace hR:=Xi hR;refine pj func104 ntmps104 results104 ?_;refine aq ?_<;>intros;refine bL ag am (fun m e h=>∃(k:Nat) (q:Pol),k<=b.pools.length+1/\(k<=b.pools.length->R=kM b (b.pools.length - k) q)/\(k=b.pools.length+1->R=false)/\m=b.pools.length+1 - k/\e=[(5,.d (.v (.int .i64 k))),(4,.d (.v (.bool false))),(3,.ptr 1 0),(2,.ptr 0 0)]/\
  h=[.box 24 ((bj b).map .d),.box 62 ((al q).map .d)]) _ _ _ ⟨0,p,by omega,fun _=>hR.out,fun h=>by omega,rfl,rfl,rfl⟩ (wf) ?_
 rintro m e h ⟨k,q,hk,gM,SY,hm,rfl,rfl⟩ C hC;replace hm:=Xi hm;by_cases wF:k<=b.pools.length
 ·have dF:(k:Int)<=(b.pools.length:Int):=aa;have cX:=wi k aa;have gM:=Xi (gM wF);replace SY:=Xi SY;have dh:=iT b q.up aa;cases hq:bK b q.up with
  |none=>
   rw[oE hq]at dh
   have Ac:decide ((-1:Int) < 0)=true:=rfl;replace hq:=Xi hq;refine zk ?_ ?_<;>intros;all_goals exact pK (by
    rename_i h1;cases hn:b.pools.length - k<;>simp_all[kM,hq.out])
  |some u=>
   obtain⟨i,e1,e2,e3⟩:=iS hq;rw[e1]at dh
   have mC:decide ((i:Int) < 0)=false:=ak;have a0m:=eP u (Xk e2);replace hq:=Xi hq;replace e1:=Xi e1;replace e3:=Xi e3;refine zk ?_ ?_<;>intros
   ·exact pK (by
     rename_i h1;cases hn:b.pools.length - k<;>simp_all[kM])
   ·rename_i h1;refine bq ag am u.leases (fun _=>True) (fun j=>[(8,.d (.v (.int .i64 j))),(7,.d (.v (.bool ((u.leases.take j).any (mw q.id))))),(6,.d (.v (.int .i64 i))),(5,.d (.v (.int .i64 k))),(4,.d (.v (.bool false))),(3,.ptr 1 0),(2,.ptr 0 0)])
     (fun _=>[.box 24 ((bj b).map .d),.box 62 ((al q).map .d)]) trivial (wf) ?_ ?_
    ·intro j l qt hj _ C hC;have lh:(j:Int) < (u.leases.length:Int):=aa;have mW:=wi j aa;have dN:(u.leases.take (j+1)).any (mw q.id)=((u.leases.take j).any (mw q.id)||mw q.id l):=by rw[aj qt];simp
     replace dN:=Xi dN;refine fl ?_ ?_ ?_ ?_ ?_ ?_ ?_ ?_<;>first|(with_reducible exact True.intro)|intros
     all_goals
      refine hC _ _ trivial (wf (he:=⟨rfl,?_,rfl,rfl,rfl,rfl,rfl,trivial⟩));refine congrArg (fun x=>PV.d (D.v (Value.bool x))) ?_;rw[dN.out];clear dN hC;generalize (u.leases.take j).any (mw q.id)=A at*;unfold mw;simp_all
    ·intro _ C;(try rw[Xq])
     refine zk ?_ ?_<;>intros
     ·rename_i h2 jU h3 h4;refine hC _ _ _ _ _ ?_ ⟨k+1,u,by omega,fun hlt=>?_,fun he=>?_,rfl,rfl,rfl⟩ (wf)
      ·have:=hm.out;omega
      ·rw[gM.out];obtain⟨n,hn⟩:∃n,b.pools.length - k=n+1:=⟨b.pools.length - k - 1,by omega⟩;rw[hn,show b.pools.length - (k+1)=n by omega];simp only[kM,hq.out,‹(q.up==0)=false›,‹u.leases.any (mw q.id)=true›,Yp,ZY]
      ·rw[gM.out,show b.pools.length - k=0 by omega];simp_all[kM]
     ·rename_i h2 jU h3 h4;refine pK ?_;cases hn:b.pools.length - k<;>simp only[kM,hq.out,‹(q.up==0)=false›,‹u.leases.any (mw q.id)=false›,Bool.false_and,ZY]
 ·obtain rfl:k=b.pools.length+1:=aa;have dF:¬(((b.pools.length+1:Nat):Int)<=(b.pools.length:Int)):=aa;have hr:=Xi (SY rfl);clear gM SY;replace dF:decide (((b.pools.length+1:Nat):Int)<=(b.pools.length:Int))=false:=by simpa using dF
  refine aq ?_<;>intros;exact pK hr.out
end Go.Proofs.YtmicljipaiohkaaGreat
