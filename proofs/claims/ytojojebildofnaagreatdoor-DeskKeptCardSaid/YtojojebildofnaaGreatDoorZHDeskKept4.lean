/- Texts of this work, joined. -/
import Derived.Test.YtojojebildofnaaGreatDoorZHDeskKept3
import Derived.Deep.Slices
import Derived.Deep.Fields
import Derived.ChangeSame
import Derived.OpenShut
import Derived.ProofKit
import Derived.Carry
import Derived.ChangeMaps5
import Derived.DataShut
import Derived.Shelf.SlSortCmp.WholeK
import Derived.Sort.Grow
import Derived.Lib.Walk
import Derived.Lib.Builder
import Derived.Lib.AppendStr
import Derived.Lib.UnsafeStr
import Derived.WalkKit
import Derived.Shelf.RegionOpenPlain
import Derived.Laws.Externs
import Derived.KernelRfl
import Derived.Outline
import Derived.Lib.ItoaNum
set_option linter.unusedSimpArgs false
set_option linter.unusedVariables false
set_option maxRecDepth 100000
set_option maxHeartbeats 16000000
namespace Go.Proofs.YtojojebildofnaaGreatDoor
open Go Go.RowKit Go.Proofs.Tryz
open _root_.List renaming getElem?_eq_getElem → VY, mem_of_getElem? → V0, map_cons → V1, length_take → V2, getElem?_eq_some_iff → V3, take_length → V4, map_nil → V5, map_append → V6, getElem?_map → V7, setIfInBounds_toArray → V8, length_append → V9, length_cons → Wc, length_map → Wg, set_cons_zero → Wi, take_of_length_le → Wj, set_cons_succ → Wl, getElem?_eq_none → Wm, getElem?_take_of_lt → Wo, mem_map → Wp, getElem?_append_right → Wq, length_drop → Wt, getD_eq_getElem?_getD → Ww, all_eq_true → Wx, replicate → Wy, eq_nil_of_length_eq_zero → WA, range → WC, append_assoc → WE, findIdx?_eq_some_iff_getElem → WF, pairwise_iff_getElem → WG, cons_append → WH, mem_cons → WI, mem_append → WJ, getElem?_append_left → WK, mem_of_mem_drop → WL, length_nil → WM, mem_of_mem_take → WN, nil_append → WO, mem_singleton → WP, getElem_of_mem → WR, ext_getElem? → WS, getElem?_drop → WU, append_nil → WV, take_append_of_le_length → WY, getElem_mem → W8, mem_iff_getElem → W9, size_toArray → Xb, take → Xd, getElem?_cons_succ → Xg, mem_range → Xk, findIdx?_eq_none_iff → Xm, map_congr_left → Xr, toList_toArray → Xs, any_eq_false → Xu, drop_eq_getElem_cons → Xv, mem_or_eq_of_mem_set → Xw, pairwise_cons → Xz, foldl_cons → XA, mem_map_of_mem → XC, set_append_right → XD, take_append_drop → XE, any_eq_true → XK, flatMap_append → XL, length_pos_iff → XM, filter_filter → XN, getElem?_take → XO, find?_eq_none → XP, map_take → XS, take_succ_eq_append_getElem → XT, eq_of_mem_replicate → XY, pairwise_append → X3, all_eq_false → X6, foldl_append → X9, drop_length → Yi, mem_of_find?_eq_some → Yp, mem_flatten → Yy, map_map → Yz, length_set → YB, filter_congr → YD, getElem_take → YE, pairwise_map → YF, length_eraseIdx → YJ, getElem_map → YK, extract_eq_take_drop → YO, take_sublist → YZ
open Go.Lib renaming hid → VZ, byteCells → XJ, strCells → X0, cell_of_heap → YN
open _root_.Nat renaming le_refl → Wa, zero_add → Wn, zero_le → Wr, reduceAdd → Ws, reduceEqDiff → Wu, lt_or_ge → Wv, add_zero → Wz, mul_le_mul_right → WX, sub_zero → WZ, lt_of_lt_of_le → W4, le_trans → W6, succ_mul → Xf, sub_self → Xy, add_assoc → XI, mul_comm → XU, add_mul → XV, not_lt_zero → XW, div_lt_of_lt_mul → X2, lt_trichotomy → X8, zero_lt_succ → Yh, eq_zero_or_pos → Yk, min → Yo, div_add_mod → Yq, reduceLT → Ys, min_def → YI, le_of_lt → YM, mod_lt → Y6, lt_or_eq_of_le → Y7, le_of_lt_succ → Y9
open Go.World renaming size_alloc → Wb, heap_drewN → We, size_drew → Wf, cell? → Xl, cell?_of_block → XR, setRow → Yf, ownsRow_nil → YV
open _root_.Bool renaming and_eq_true → Wd, and_self → WW, and_true → Xa, eq_iff_iff → Xh, true_and → Xt, false_eq_true → XF, or_eq_false_iff → Yr, eq_false_iff → Yt, false_and → YG, and_assoc → Y0
open _root_.Option renaming map_eq_some_iff → Wh, isSome_some → Wk, some → WD, map_some → WQ, isNone_some → W7, getD_some → Xc, isSome_none → Xi, bind_some → Xn, isNone_none → XQ, isSome_iff_exists → XZ, map_none → Yb
open _root_.Array renaming getElem?_toList → WB, getElem?_eq_none → WT, getElem?_eq_some_iff → W5, getElem?_eq_getElem → Xj, getElem?_modify → Xq, replicate → XB, length_toList → Yc, ext' → YA, toList_append → YR, toList_extract → Y5
open _root_.Int renaming lt_irrefl → Xp, dvd_of_emod_eq_zero → Ya, fdiv_eq_ediv_of_nonneg → Yl, pow_succ → Zc
open _root_.ByteArray renaming size_extract → Xx, size_append → XX, ext → Yg, data_append → Ym, data_extract → Y1, append_assoc → Zd
def Af (at_:Pfx)(l:Lse):Bool:=(l.kind==1)&&decide (l.at_=at_)
theorem Lc (l:Lse)(at_:Pfx):ae prog 172 [.agg (aW l),.ept (aL at_)] (.v (.bool (Af at_ l))):=by
 have he:=wv l.at_ at_;unfold Af;rw[←he];replace he:=VZ he;refine pj func172 ntmps172 results172 ?_;exact bx
def jb (b:Bok)(id:Int)(at_:Pfx):Bok × Int:=
 if bD b≠0 then (Bok.zero,bD b)else
 match cH b id with
 |none=>(Bok.zero,5)
 |some p=>match p.leases.findIdx? (Af at_)with
  |none=>(Bok.zero,5)
  |some i=>(rN b id fun p=>{p with leases:=ja p i b.tick},0)
theorem wx {r:Rul}{len:Int}(h:i7 r len=true):0≤r.cool∧r.cool≤1024:=by
 simp only[i7,Wd,decide_eq_true_eq]at h;exact h.2
structure ZipB (b:Bok)(pre post:List Pol)(p:Pol):Prop where
 eq:b.pools=pre++p::post
 at_:b.pools[pre.length]? =some p
 mem:p∈b.pools
 view:cy (aO (aw [.box 30 [.d (.v (.int .i64 b.tick)),.own 1 b.pools.length],.row 83 9 b.pools.length (d6 pre (ak p (.own 2 1)) post),.row 96 5 1 (aa (p.leases.map aW))]) 5) (d6 pre (ak p (.own 2 1)) post)=some (b.pools.map al)
 len:(d6 pre (ak p (.own 2 1)) post).length=b.pools.length
theorem NX {b:Bok}{pre post:List Pol}{p:Pol}(hp:b.pools=pre++p::post):ZipB b pre post p:=by
 refine⟨hp,?_,?_,?_,?_⟩
 ·rw[hp,Wq (Wa _),Xy];rfl
 ·rw[hp];simp
 ·rw[hp];simp only[eN,ak,bW,aO,aw,dF,if_true,WQ,V6,V1];rfl
 ·rw[tJ,hp];simp;omega
theorem pr {b:Bok}(hb:BookOK b){pre post:List Pol}{p:Pol}(hz:ZipB b pre post p){i:Nat}{q:Pol}(hq:b.pools[i]? =some q):
 MSpec prog 156 [.ptr 0 0,.d (.v (.int .i64 q.id))] [.box 30 [.d (.v (.int .i64 b.tick)),.own 1 b.pools.length],.row 83 9 b.pools.length (d6 pre (ak p (.own 2 1)) post),.row 96 5 1 (aa (p.leases.map aW))]
  (.tup [.rp 1 b.pools.length 9 i 0,.d (.v (.bool true))]) [.box 30 [.d (.v (.int .i64 b.tick)),.own 1 b.pools.length],.row 83 9 b.pools.length (d6 pre (ak p (.own 2 1)) post),.row 96 5 1 (aa (p.leases.map aW))]:=
 xF b i q b.pools.length _ [.row 96 5 1 (aa (p.leases.map aW))] (.d (.v (.int .i64 b.tick))) hq hb.rise hb.n8 hz.len hz.view (by rw[fp];rfl) (by simp only[ay,aH,an,WW]) rfl
theorem Im (b:Bok)(id:Int)(at_:Pfx)(hz:∀p∈b.pools,p.leases.length≤3518437208882):ae prog 100 [.agg (bC b),.v (.int .i64 id),.agg (aL at_)] (.tup [.agg (bC (jb b id at_).1),.v (.int .i64 (jb b id at_).2)]):=by
 obtain⟨R,hR⟩:∃R,R=jb b id at_:=⟨_,rfl⟩;rw[←hR];replace hR:=VZ hR;by_cases hc:bD b=0
 ·have cR:=d7 hc;cases hq:cH b id with
  |none=>
   have ci:=gA b hz hc;have hf:=kY b id (by have:=cR.n8;omega) cR.rise;unfold my at hf;rw[hq]at hf;replace hc:=VZ hc;replace hq:=VZ hq;refine pj func100 ntmps100 results100 ?_;have z1z:=Ln.mk (ls:=[]) (ci);refine aF ?_<;>intros;rw[show R=(Bok.zero,5) from (by rw[hR.out];unfold jb;rw[if_neg (by simpa using hc.out),hq.out])];exact dg
  |some p=>
   obtain⟨pre,post,hp,rfl⟩:=iC hq;have ci:=pp b pre post p hp hz hc;have sh:=NX hp;have hf:=pr cR sh sh.at_;have qK:=cR.l32 p sh.mem;have lP:=kX i8 (Af at_) p.leases 172 [.ept (aL at_)] (by omega) (fun l _=>Lc l at_);have lL:=fun f=>lc cR.rise hp f;unfold cY at lP;cases J0:p.leases.findIdx? (Af at_)with
   |none=>
    rw[J0]at lP;have hr:R=(Bok.zero,5):=by rw[hR.out];unfold jb;rw[if_neg (by simpa using hc),hq];simp only;rw[J0]
    rw[hr];clear hr lL hq hp hc J0 hR sh;refine pj func100 ntmps100 results100 ?_;repeat' (first|(with_reducible refine And.intro ?_ ?_)|(with_reducible refine dw (fun _=>?_) (fun _=>?_))|(with_reducible refine aQ (fun _=>?_) (fun _=>?_))|(with_reducible refine bT (by kernel_rfl))|simp -dsimp only[go_sem,seval, *,bC,aL,ak,aB,dL]|((with_reducible refine bU ?_);simp -dsimp only[go_sem,seval,bC,aL,ak,aB,dL];first|refine aS (by first|assumption|exact lP) (by first|exact .inl rfl|exact .inr rfl) ?_|(refine aR (by assumption) ?_ ?_ ?_;(solve|(repeat(first|exact au.refl _|exact au.nil _|(refine au.tup ?_)|(refine au.agg ?_ rfl)|exact trivial|(refine And.intro ?_ ?_))));(solve|exact .inl rfl|exact .inr rfl)))|(refine dX [] (ci) ?_ ?_ ?_ ?_ ?_ ?_;(solve|rfl|simp only[go_sem,seval,bC,ak,aB]);(solve|rfl);(solve|decide);(solve|simp);(solve|simp only[go_sem,seval,aX,bC,ak,aB]))|(refine dX [5,6,8] (hf) ?_ ?_ ?_ ?_ ?_ ?_;(solve|rfl|simp only[go_sem,seval,aL,ak,aB]);(solve|rfl);(solve|decide);(solve|simp);(solve|simp only[go_sem,seval,aX,aL,ak,aB]))|omega|exact decide_eq_true (by omega)|exact au.refl _)
    exact dg
   |some i=>
    rw[J0]at lP;have hi:i < p.leases.length:=(WF.1 J0).1;have gh:=Ik pre post p i b.pools.length 1 b.tick hi qK (wx (cR.mem p sh.mem).2.2) cR.tick;have hr:R=(⟨b.tick,pre++{p with leases:=ja p i b.tick}::post⟩,0):=by rw[hR.out];unfold jb;rw[if_neg (by simpa using hc),hq];simp only;rw[J0];simp only;rw[lL]
    have rW:decide ((i:Int) < 0)=false:=by simp
    rw[hr];clear hr lL hq hp hc J0 hR sh;refine pj func100 ntmps100 results100 ?_;repeat' (first|(with_reducible refine And.intro ?_ ?_)|(with_reducible refine dw (fun _=>?_) (fun _=>?_))|(with_reducible refine aQ (fun _=>?_) (fun _=>?_))|(with_reducible refine bT (by kernel_rfl))|simp -dsimp only[go_sem,seval, *,bC,aL,ak,aB,dL,rW]|((with_reducible refine bU ?_);simp -dsimp only[go_sem,seval,bC,aL,ak,aB,dL,rW];first|refine aS (by first|assumption|exact lP) (by first|exact .inl rfl|exact .inr rfl) ?_|(refine aR (by assumption) ?_ ?_ ?_;(solve|(repeat(first|exact au.refl _|exact au.nil _|(refine au.tup ?_)|(refine au.agg ?_ rfl)|exact trivial|(refine And.intro ?_ ?_))));(solve|exact .inl rfl|exact .inr rfl)))|(refine dX [] (ci) ?_ ?_ ?_ ?_ ?_ ?_;(solve|rfl|simp only[go_sem,seval,bC,ak,aB]);(solve|rfl);(solve|decide);(solve|simp);(solve|simp only[go_sem,seval,aX,bC,ak,aB]))|(refine dX [5,6,8] (hf) ?_ ?_ ?_ ?_ ?_ ?_;(solve|rfl|simp only[go_sem,seval,aL,ak,aB]);(solve|rfl);(solve|decide);(solve|simp);(solve|simp only[go_sem,seval,aX,aL,ak,aB]))|(refine dX [6,8] (gh) ?_ ?_ ?_ ?_ ?_ ?_;(solve|rfl|simp only[go_sem,seval,aL,aW,ak,aB]);(solve|rfl);(solve|decide);(solve|simp);(solve|simp only[go_sem,seval,aX,aL,aW,ak,aB]))|omega|exact decide_eq_true (by omega)|exact au.refl _)
    all_goals exact dg
 ·have ci:=kz b hz hc;have h1:(bD b !=0)=true:=by simpa using hc
  have hr:R=(Bok.zero,bD b):=by rw[hR.out];unfold jb;rw[if_pos hc]
  rw[hr];replace hr:=VZ hr;refine pj func100 ntmps100 results100 ?_;refine aF ?_<;>intros;exact dg
def jE (b:Bok)(id up size:Int)(r:Rul):Bok × Pfx × Int:=
 if bD b≠0 then (Bok.zero,Pfx.zero,bD b)else
 if gU id=false then (Bok.zero,Pfx.zero,3)else
 match cH b up with
 |none=>(Bok.zero,Pfx.zero,5)
 |some p=>
  if (cH b id).isSome=true then (Bok.zero,Pfx.zero,6)else
  if (cP p size).2≠0 then (Bok.zero,Pfx.zero,(cP p size).2)else
  if i7 r (cP p size).1.len=false then (Bok.zero,Pfx.zero,1)else
  if b.pools.length=8 then (Bok.zero,Pfx.zero,2)else
  (⟨b.tick,rM ⟨id,up,(cP p size).1,r,[]⟩ (rN b up fun p=>{p with leases:=oh ⟨(cP p size).1,2,id,0⟩ p.leases}).pools⟩,(cP p size).1,0)
theorem In {pre post:List Pol}{p q:Pol}(h:qu (pre++p::post))(hq:q.id=p.id):qu (pre++q::post):=by
 unfold qu at h ⊢;rw[X3,Xz]at h ⊢;obtain⟨h1,⟨h2,h3⟩,h4⟩:=h;refine⟨h1,⟨fun a ha=>by rw[hq];exact h2 a ha,h3⟩,fun a ha c hc=>?_⟩;rcases WI.1 hc with rfl|hc
 ·rw[hq];exact h4 a ha p (by simp)
 ·exact h4 a ha c (by simp[hc])
theorem NY (b:Bok)(id up size:Int)(r:Rul)(hz:∀p∈b.pools,p.leases.length≤3518437208882):ae prog 93 [.agg (bC b),.v (.int .i64 id),.v (.int .i64 up),.v (.int .i64 size),.agg (zi r)] (.tup [.agg (bC (jE b id up size r).1),.agg (aL (jE b id up size r).2.1),.v (.int .i64 (jE b id up size r).2.2)]):=by
 obtain⟨R,hR⟩:∃R,R=jE b id up size r:=⟨_,rfl⟩;rw[←hR];replace hR:=VZ hR;by_cases hc:bD b=0
 ·have cR:=d7 hc;have hid:=wt id;cases Gh:gU id with
  |false=>
   rw[Gh]at hid;have ci:=gA b hz hc;have hr:R=(Bok.zero,Pfx.zero,3):=by rw[hR.out];unfold jE;rw[if_neg (by simpa using hc),if_pos Gh]
   rw[hr];clear hr hR hc Gh;refine pj func93 ntmps93 results93 ?_;have z1z:=Ln.mk (ls:=[]) (ci);refine aF ?_<;>intros;exact dg
  |true=>
   rw[Gh]at hid;cases hq:cH b up with
   |none=>
    have ci:=gA b hz hc;have hf:=kY b up (by have:=cR.n8;omega) cR.rise;unfold my at hf;rw[hq]at hf;have hr:R=(Bok.zero,Pfx.zero,5):=by rw[hR.out];unfold jE;rw[if_neg (by simpa using hc),if_neg (by simp[Gh]),hq]
    rw[hr];clear hr hR hc Gh hq;refine pj func93 ntmps93 results93 ?_;have z1z:=Ln.mk (ls:=[]) (ci);refine aF ?_<;>intros;exact dg
   |some p=>
    obtain⟨pre,post,hp,rfl⟩:=iC hq;have ci:=pp b pre post p hp hz hc;have sh:=NX hp;have hf:=pr cR sh sh.at_;have qK:=cR.l32 p sh.mem;have lL:=fun f=>lc cR.rise hp f;have cz:R=if (cH b id).isSome=true then (Bok.zero,Pfx.zero,6)else if (cP p size).2≠0 then (Bok.zero,Pfx.zero,(cP p size).2)else if i7 r (cP p size).1.len=false then (Bok.zero,Pfx.zero,1)else
     if b.pools.length=8 then (Bok.zero,Pfx.zero,2)else (⟨b.tick,rM ⟨id,p.id,(cP p size).1,r,[]⟩ (pre++{p with leases:=oh ⟨(cP p size).1,2,id,0⟩ p.leases}::post)⟩,(cP p size).1,0):=by
     rw[hR.out];unfold jE;rw[if_neg (by simpa using hc),if_neg (by simp[Gh]),hq];simp only;rw[lL]
    cases AY:cH b id with
    |some q=>
     obtain⟨i,Pt,he⟩:=fC AY;have Bf:=pr cR sh Pt;rw[he]at Bf;have hr:R=(Bok.zero,Pfx.zero,6):=by rw[cz,AY];rfl
     rw[hr];clear hr hR cz hc Gh hq AY hp lL sh Pt he;refine pj func93 ntmps93 results93 ?_;repeat' (first|(with_reducible refine And.intro ?_ ?_)|(with_reducible refine dw (fun _=>?_) (fun _=>?_))|(with_reducible refine aQ (fun _=>?_) (fun _=>?_))|(with_reducible refine bT (by kernel_rfl))|simp -dsimp only[go_sem,seval, *,bC,aL,zi,ak,aB,dL]|((with_reducible refine bU ?_);simp -dsimp only[go_sem,seval,bC,aL,zi,ak,aB,dL];first|refine aS (by first|assumption|exact hid) (by first|exact .inl rfl|exact .inr rfl) ?_|(refine aR (by assumption) ?_ ?_ ?_;(solve|(repeat(first|exact au.refl _|exact au.nil _|(refine au.tup ?_)|(refine au.agg ?_ rfl)|exact trivial|(refine And.intro ?_ ?_))));(solve|exact .inl rfl|exact .inr rfl)))|(refine dX [] (ci) ?_ ?_ ?_ ?_ ?_ ?_;(solve|rfl|simp only[go_sem,seval,bC,ak,aB]);(solve|rfl);(solve|decide);(solve|simp);(solve|simp only[go_sem,seval,aX,bC,ak,aB]))|(refine dX [6,7,9] (hf) ?_ ?_ ?_ ?_ ?_ ?_;(solve|rfl|simp only[go_sem,seval,aL,ak,aB]);(solve|rfl);(solve|decide);(solve|simp);(solve|simp only[go_sem,seval,aX,aL,ak,aB]))|(refine dX [6,7,9] (Bf) ?_ ?_ ?_ ?_ ?_ ?_;(solve|rfl|simp only[go_sem,seval,aL,ak,aB]);(solve|rfl);(solve|decide);(solve|simp);(solve|simp only[go_sem,seval,aX,aL,ak,aB]))|omega|exact decide_eq_true (by omega)|exact au.refl _)
     all_goals exact dg
    |none=>
     have Bf:=kY b id (by have:=cR.n8;omega) cR.rise;unfold my at Bf;rw[AY]at Bf;have JH:=MK p size qK;have Nd:=Cg r (cP p size).1;have hlt:=ML pre post p ⟨(cP p size).1,2,id,0⟩ b.pools.length 1 qK (tM (cR.mem p sh.mem).2.1);have RG:(pre++{p with leases:=oh ⟨(cP p size).1,2,id,0⟩ p.leases}::post).length≤8:=by
      have:=cR.n8;rw[hp]at this;simpa using this
     have bc:(pre++{p with leases:=oh ⟨(cP p size).1,2,id,0⟩ p.leases}::post).length=b.pools.length:=by rw[hp];simp
     have Ue:qu (pre++{p with leases:=oh ⟨(cP p size).1,2,id,0⟩ p.leases}::post):=by
      have:=cR.rise;rw[hp]at this;exact In this rfl
     have Ps:=(MM _ ⟨id,p.id,(cP p size).1,r,[]⟩ b.pools.length (.v (.int .i64 b.tick)) RG Ue rfl).lep (args':=[.ptr 0 0,.d (.agg [.v (.int .i64 id),.v (.int .i64 p.id),.v (.int .i64 (cP p size).1.at_),.v (.int .i64 (cP p size).1.len),.v (.int .i64 r.min),.v (.int .i64 r.max),.v (.int .i64 r.usual),.v (.int .i64 r.cool),.v (.slice none 0 0)])]) ⟨.inl rfl,.inr ⟨_,_,rfl,rfl,dg⟩,trivial⟩ rfl;have O6:Hid (R=if (cP p size).2≠0 then (Bok.zero,Pfx.zero,(cP p size).2)else if i7 r (cP p size).1.len=false then (Bok.zero,Pfx.zero,1)else
      if b.pools.length=8 then (Bok.zero,Pfx.zero,2)else (⟨b.tick,rM ⟨id,p.id,(cP p size).1,r,[]⟩ (pre++{p with leases:=oh ⟨(cP p size).1,2,id,0⟩ p.leases}::post)⟩,(cP p size).1,0)):=by
      show R=_;rw[cz,AY];rfl
     have Ve:cy (aO (aw [.gone]) 0) []=some []:=rfl;clear hR cz hc Gh hq AY lL RG Ue Ve bc;have cz:=O6;clear O6;have Vf:=VZ hp;have QW:=sh.view;simp only[eN,ak,bW,aO,aw,dF,if_true,WQ]at QW;clear sh;have he:bC b=[.v (.int .i64 b.tick),.sl 9 (List.map al pre++al p::List.map al post)]:=by unfold bC;rw[hp,V6,V1]
     rw[he]at Bf;have M1:∀r,(d6 pre r post).length=b.pools.length:=fun r=>by rw[tJ,hp];simp;omega
     clear hp QW he;refine pj func93 ntmps93 results93 ?_;repeat' (first|(with_reducible refine And.intro ?_ ?_)|(with_reducible refine dw (fun _=>?_) (fun _=>?_))|(with_reducible refine aQ (fun _=>?_) (fun _=>?_))|(with_reducible refine bT (by kernel_rfl))|simp -dsimp only[go_sem,seval, *,bC,aL,zi,aW,ak,aB,dL,eN,M1]|((with_reducible refine bU ?_);simp -dsimp only[go_sem,seval,bC,aL,zi,aW,ak,aB,dL,eN,M1];first|refine aS (by first|assumption|exact hid|exact Bf|exact JH|exact Nd) (by first|exact .inl rfl|exact .inr rfl) ?_|(refine aR (by assumption) ?_ ?_ ?_;(solve|(repeat(first|exact au.refl _|exact au.nil _|(refine au.tup ?_)|(refine au.agg ?_ rfl)|exact trivial|(refine And.intro ?_ ?_))));(solve|exact .inl rfl|exact .inr rfl)))|(refine dX [] (ci) ?_ ?_ ?_ ?_ ?_ ?_;(solve|rfl|simp only[go_sem,seval,bC,ak,aB]);(solve|rfl);(solve|decide);(solve|simp);(solve|simp only[go_sem,seval,aX,bC,ak,aB]))|(refine dX [6,7,9] (hf) ?_ ?_ ?_ ?_ ?_ ?_;(solve|rfl|simp only[go_sem,seval,aL,ak,aB]);(solve|rfl);(solve|decide);(solve|simp);(solve|simp only[go_sem,seval,aX,aL,ak,aB]))|(refine dX [7,9] (hlt) ?_ ?_ ?_ ?_ ?_ ?_;(solve|rfl|simp only[go_sem,seval,aL,aW,ak,aB]);(solve|rfl);(solve|decide);(solve|simp);(solve|simp only[go_sem,seval,aX,aL,aW,ak,aB]))|(refine dX [6,7] (Ps) ?_ ?_ ?_ ?_ ?_ ?_;(solve|rfl|simp only[go_sem,seval,aL]);(solve|rfl);(solve|decide);(solve|simp);(solve|simp only[go_sem,seval,aX,aL]))|omega|exact decide_eq_true (by omega)|exact au.refl _)
     all_goals clear hf Bf hid JH Nd hlt Ps ci hz
     all_goals first
      |(rw[show R=(Bok.zero,Pfx.zero,(cP p size).2) from (by rw[cz.out];grind)];(try simp only[V6,V1]);exact dg)
      |(rw[show R=(Bok.zero,Pfx.zero,1) from (by rw[cz.out];grind)];(try simp only[V6,V1]);exact dg)
      |(rw[show R=(Bok.zero,Pfx.zero,2) from (by rw[cz.out];grind)];(try simp only[V6,V1]);exact dg)
      |(rw[show R=(⟨b.tick,rM ⟨id,p.id,(cP p size).1,r,[]⟩ (pre++{p with leases:=oh ⟨(cP p size).1,2,id,0⟩ p.leases}::post)⟩,(cP p size).1,0) from (by rw[cz.out];grind)];(try simp only[V6,V1]);exact dg)
 ·have ci:=kz b hz hc;have h1:(bD b !=0)=true:=by simpa using hc
  have hr:R=(Bok.zero,Pfx.zero,bD b):=by rw[hR.out];unfold jE;rw[if_pos hc]
  rw[hr];replace hr:=VZ hr;refine pj func93 ntmps93 results93 ?_;refine aF ?_<;>intros;exact dg
theorem Io (l:Lse):ae prog 163 [.agg (aW l)] (.v (.bool (l.kind !=3))):=by
 refine pj func163 ntmps163 results163 ?_;exact bx
theorem Ip (l:Lse)(id:Int):ae prog 166 [.agg (aW l),.ept [.v (.int .i64 id)]] (.v (.bool (rL id l))):=by
 unfold rL;refine pj func166 ntmps166 results166 ?_;exact bx
theorem pt (p:Pol)(id:Int):ae prog 168 [.agg (al p),.ept [.v (.int .i64 id)]] (.v (.bool (p.id==id))):=by
 refine pj func168 ntmps168 results168 ?_;exact bx
def jQ (b:Bok)(p:Pol):List Pol:=match cH b p.up with
 |none=>b.pools
 |some u=>match u.leases.findIdx? (rL p.id)with
  |some i=>(rN b u.id fun u=>{u with leases:=ja u i b.tick}).pools
  |none=>b.pools
def jc (b:Bok)(id:Int):Bok × Int:=
 if bD b≠0 then (Bok.zero,bD b)else
 match cH b id with
 |none=>(Bok.zero,5)
 |some p=>if (p.leases.any fun l=>l.kind !=3)=true then (Bok.zero,9)else (⟨b.tick,(jQ b p).filter fun q=>!(q.id==id)⟩,0)
theorem gB {b:Bok}:∀(l:List Pol) (roots:List Pfx),eF b l roots=true→∀p∈l,lJ b b.pools.length p=true∧∀l∈p.leases,iB b p l=true
 |[],_,_,p,hp=>by simp at hp
 |q::l,roots,h,p,hp=>by
  simp only[eF,Wd]at h;rcases WI.1 hp with rfl|hp
  ·exact⟨h.1.1,fun l hl=>Wx.1 h.1.2 l hl⟩
  ·have h2:=h.2;split at h2
   ·simp only[Wd]at h2;exact gB l _ h2.2 p hp
   ·exact gB l _ h2 p hp
theorem DU {b:Bok}{p:Pol}(hp:cH b p.id=some p)(h1:p.id≠0)(he:p.up=p.id):∀n,lJ b n p=false
 |0=>by simp[lJ,he,h1]
 |n+1=>by simp[lJ,he,h1,hp,DU hp h1 he n]
theorem Ld {b:Bok}{n:Nat}{p u:Pol}(h:lJ b n p=true)(h0:p.up≠0)(hu:cH b p.up=some u):u.leases.any (rL p.id)=true:=by
 cases n with
 |zero=>simp[lJ,h0]at h
 |succ n=>
  simp only[lJ,hu,Bool.or_eq_true,Wd,beq_iff_eq]at h;rcases h with h|h
  ·exact absurd h h0
  ·exact h.1
theorem Cj {pre post:List Pol}{p q:Pol}{r:List PV}{i:Nat}(h:(pre++p::post)[i]? =some q)(bq:i≠pre.length):(d6 pre r post)[i]? =some ((al q).map .d):=by
 unfold d6;rcases X8 i pre.length with hlt|he|hgt
 ·rw[WK hlt]at h;rw[WK (by rw[aA,Wg];exact hlt),iI,V7,h];rfl
 ·exact absurd he bq
 ·rw[Wq (by omega)]at h;rw[Wq (by rw[aA,Wg];omega),aA,Wg];obtain⟨j,hj⟩:∃j,i - pre.length=j+1:=⟨i - pre.length - 1,by omega⟩;rw[hj,Xg]at h ⊢;rw[iI,V7,h];rfl
theorem Le (b:Bok)(id:Int)(hz:∀p∈b.pools,p.leases.length≤3518437208882):ae prog 94 [.agg (bC b),.v (.int .i64 id)] (.tup [.agg (bC (jc b id).1),.v (.int .i64 (jc b id).2)]):=by
 obtain⟨R,hR⟩:∃R,R=jc b id:=⟨_,rfl⟩;rw[←hR];replace hR:=VZ hR;by_cases hc:bD b=0
 ·have cR:=d7 hc;cases hq:cH b id with
  |none=>
   have ci:=gA b hz hc;have hf:=kY b id (by have:=cR.n8;omega) cR.rise;unfold my at hf;rw[hq]at hf;have hr:R=(Bok.zero,5):=by rw[hR.out];unfold jc;rw[if_neg (by simpa using hc),hq]
   rw[hr];clear hr hR hc hq;refine pj func94 ntmps94 results94 ?_;have z1z:=Ln.mk (ls:=[]) (ci);refine aF ?_<;>intros;exact dg
  |some p=>
   obtain⟨i,Gx,rfl⟩:=fC hq;have C8:p∈b.pools:=V0 Gx;have qK:=cR.l32 p C8;have lN:=od i8 (fun l=>l.kind !=3) p.leases 163 [] (by omega) (fun l _=>Io l);have cz:R=if (p.leases.any fun l=>l.kind !=3)=true then (Bok.zero,9)else (⟨b.tick,(jQ b p).filter fun q=>!(q.id==p.id)⟩,0):=by
    rw[hR.out];unfold jc;rw[if_neg (by simpa using hc),hq]
   replace cz:=VZ cz;cases hu:cH b p.up with
   |none=>
    have ci:=gA b hz hc;have hf:=xF b i p b.pools.length (aa (b.pools.map al)) [] (.d (.v (.int .i64 b.tick))) Gx cR.rise cR.n8 (by simp[aA]) (dF _ _ _) (an _ _) rfl rfl;have Bf:=kY b p.up (by have:=cR.n8;omega) cR.rise;unfold my at Bf;rw[hu]at Bf;have gh:jQ b p=b.pools:=by unfold jQ;rw[hu]
    have cz:=cz.out;rw[gh]at cz;have h8:=cR.n8;replace cz:=VZ cz;clear hq hu gh hR hc;refine pj func94 ntmps94 results94 ?_;repeat' (first|(with_reducible refine And.intro ?_ ?_)|(with_reducible refine dw (fun _=>?_) (fun _=>?_))|(with_reducible refine aQ (fun _=>?_) (fun _=>?_))|(with_reducible refine bT (by kernel_rfl))|simp -dsimp only[go_sem,seval, *,bC,aL,al,Gx]|((with_reducible refine bU ?_);simp -dsimp only[go_sem,seval,bC,aL,al,Gx];first|refine aS (by first|assumption|exact lN|exact Bf) (by first|exact .inl rfl|exact .inr rfl) ?_|(refine aR (by assumption) ?_ ?_ ?_;(solve|(repeat(first|exact au.refl _|exact au.nil _|(refine au.tup ?_)|(refine au.agg ?_ rfl)|exact trivial|(refine And.intro ?_ ?_))));(solve|exact .inl rfl|exact .inr rfl)))|(refine dX [] (ci) ?_ ?_ ?_ ?_ ?_ ?_;(solve|rfl|simp only[go_sem,seval,bC]);(solve|rfl);(solve|decide);(solve|simp);(solve|simp only[go_sem,seval,aX,bC]))|(refine dX [5,6] (hf) ?_ ?_ ?_ ?_ ?_ ?_;(solve|rfl|simp only[go_sem,seval,bC]);(solve|rfl);(solve|decide);(solve|simp);(solve|simp only[go_sem,seval,aX,bC]))|(refine HN (wu (fun q=>q.id==p.id) b.pools 6 _ _ _ _ rfl rfl ?_ ?_ ⟨[.ept [.v (.int .i64 p.id)]],rfl,fun x _=>pt x p.id⟩ (fun m c=>⟨[.ept [.v (.int .i64 p.id)]],rfl,fun x _=>pt x p.id⟩)) ?_)|omega|exact decide_eq_true (by omega)|exact au.refl _)
    all_goals first
     |first|rfl|simp only[ay,dn,aH,af,bN,ag,aK,an,fp,ak,Wc,WM,Ws,Ys,decide_true,WW,Xa]
     |omega
     |(rw[show R=(Bok.zero,9) from (by rw[cz.out];grind)];(try simp only[V6,V1]);exact dg)
     |(rw[show R=(⟨b.tick,b.pools.filter fun q=>!(q.id==p.id)⟩,0) from (by rw[cz.out];grind)];(try simp only[V6,V1]);exact dg)
   |some u=>
    obtain⟨pre,post,hp,RI⟩:=iC hu;have ci:=pp b pre post u hp hz hc;have sh:=NX hp;have bq:i≠pre.length:=by
     rintro rfl;have:=sh.at_;rw[Gx]at this;obtain rfl:=WD.inj this;have h1:=(gB _ _ cR.second p C8).1;have h2:=DU hq (by have:=(cR.mem p C8).1;rintro h;rw[h]at this;simp[gU]at this) RI.symm b.pools.length;rw[h2]at h1;exact absurd h1 (by simp)
    have hf:=pr cR sh Gx;have Bf:=pr cR sh sh.at_;rw[RI]at Bf;have Uf:=fun r=>Cj (r:=r) (by rw[←hp];exact Gx) bq;have S1:=cR.l32 u sh.mem;have mM:=Ld (gB _ _ cR.second p C8).1 (by have:=(cR.mem u sh.mem).1;rintro h;rw[←RI]at h;rw[h]at this;simp[gU]at this) hu;have lP:=kX i8 (rL p.id) u.leases 166 [.ept [.v (.int .i64 p.id)]] (by omega) (fun l _=>Ip l p.id);obtain⟨j,hj⟩:∃j,u.leases.findIdx? (rL p.id)=some j:=by
     cases hj:u.leases.findIdx? (rL p.id)with
     |some j=>exact⟨j,rfl⟩
     |none=>
      rw[Xm]at hj;obtain⟨x,hx,qF⟩:=XK.1 mM;rw[hj x hx]at qF;exact absurd qF (by simp)
    unfold cY at lP;rw[hj]at lP;have jo:j < u.leases.length:=(WF.1 hj).1;have gh:=Ik pre post u j b.pools.length 1 b.tick jo S1 (wx (cR.mem u sh.mem).2.2) cR.tick;have Ug:jQ b p=pre++{u with leases:=ja u j b.tick}::post:=by
     unfold jQ;rw[hu];simp only;rw[hj];simp only;rw[lc cR.rise hp]
    have cz:=cz.out;rw[Ug]at cz;replace cz:=VZ cz;have h8:=cR.n8;have bc:(pre++{u with leases:=ja u j b.tick}::post).length≤1000000000:=by
     rw[hp]at h8;simp at h8 ⊢;omega
    clear hq hu RI hR hc Ug mM hj Gx hp sh h8 cR bq C8;refine pj func94 ntmps94 results94 ?_;repeat' (first|(with_reducible refine And.intro ?_ ?_)|(with_reducible refine dw (fun _=>?_) (fun _=>?_))|(with_reducible refine aQ (fun _=>?_) (fun _=>?_))|(with_reducible refine bT (by kernel_rfl))|simp -dsimp only[go_sem,seval, *,bC,aL,al,ak,aB,dL,Uf]|((with_reducible refine bU ?_);simp -dsimp only[go_sem,seval,bC,aL,al,ak,aB,dL,Uf];first|refine aS (by first|assumption|exact lN|exact lP) (by first|exact .inl rfl|exact .inr rfl) ?_|(refine aR (by assumption) ?_ ?_ ?_;(solve|(repeat(first|exact au.refl _|exact au.nil _|(refine au.tup ?_)|(refine au.agg ?_ rfl)|exact trivial|(refine And.intro ?_ ?_))));(solve|exact .inl rfl|exact .inr rfl)))|(refine dX [] (ci) ?_ ?_ ?_ ?_ ?_ ?_;(solve|rfl|simp only[go_sem,seval,bC,ak,aB]);(solve|rfl);(solve|decide);(solve|simp);(solve|simp only[go_sem,seval,aX,bC,ak,aB]))|(refine dX [5,6,8] (hf) ?_ ?_ ?_ ?_ ?_ ?_;(solve|rfl|simp only[go_sem,seval,aL,ak,aB]);(solve|rfl);(solve|decide);(solve|simp);(solve|simp only[go_sem,seval,aX,aL,ak,aB]))|(refine dX [5,6,8] (Bf) ?_ ?_ ?_ ?_ ?_ ?_;(solve|rfl|simp only[go_sem,seval,aL,ak,aB]);(solve|rfl);(solve|decide);(solve|simp);(solve|simp only[go_sem,seval,aX,aL,ak,aB]))|(refine dX [6,8] (gh) ?_ ?_ ?_ ?_ ?_ ?_;(solve|rfl|simp only[go_sem,seval,aL,aW,ak,aB]);(solve|rfl);(solve|decide);(solve|simp);(solve|simp only[go_sem,seval,aX,aL,aW,ak,aB]))|(refine HN (wu (fun q=>q.id==p.id) (pre++{u with leases:=ja u j b.tick}::post) 6 _ _ _ _ rfl rfl ?_ ?_ ⟨[.ept [.v (.int .i64 p.id)]],rfl,fun x _=>pt x p.id⟩ (fun m c=>⟨[.ept [.v (.int .i64 p.id)]],rfl,fun x _=>pt x p.id⟩)) ?_)|omega|exact decide_eq_true (by omega)|exact au.refl _)
    all_goals first
     |first|rfl|simp only[ay,dn,aH,af,bN,ag,aK,an,fp,ak,Wc,WM,Ws,Ys,decide_true,WW,Xa]
     |(simpa using bc)
     |(rw[show R=(Bok.zero,9) from (by rw[cz.out];grind)];(try simp only[V6,V1]);exact dg)
     |(rw[show R=(⟨b.tick,(pre++{u with leases:=ja u j b.tick}::post).filter fun q=>!(q.id==p.id)⟩,0) from (by rw[cz.out];grind)];(try simp only[V6,V1]);exact dg)
 ·have ci:=kz b hz hc;have h1:(bD b !=0)=true:=by simpa using hc
  have hr:R=(Bok.zero,bD b):=by rw[hR.out];unfold jc;rw[if_pos hc]
  rw[hr];replace hr:=VZ hr;refine pj func94 ntmps94 results94 ?_;refine aF ?_<;>intros;exact dg
def dV:Nat→List Pol→List (List PV)
 |_,[]=>[]
 |k,p::ps=>ak p (.own k 1)::dV (k+2) ps
def pO:List Pol→List Chunk
 |[]=>[]
 |p::ps=> .gone:: .row 96 5 1 (aa (p.leases.map aW))::pO ps
@[go_sem] theorem qv:∀(ps:List Pol) (k:Nat),(dV k ps).length=ps.length
 |[],_=>rfl
 |p::ps,k=>by simp only[dV,Wc,qv ps]
theorem ld:∀ps:List Pol,(pO ps).length=2*ps.length
 |[]=>rfl
 |p::ps=>by simp only[pO,Wc,ld ps];omega
theorem tN (p:Pol):∀(ps:List Pol) (k:Nat),dV k (ps++[p])=dV k ps++[ak p (.own (k+2*ps.length) 1)]
 |[],k=>rfl
 |q::ps,k=>by
  simp only[WH,dV,tN p ps,Wc];rw[show k+2+2*ps.length=k+2*(ps.length+1) by omega]
theorem Ag (p:Pol):∀ps:List Pol,pO (ps++[p])=pO ps++[.gone,.row 96 5 1 (aa (p.leases.map aW))]
 |[]=>rfl
 |q::ps=>by simp only[WH,pO,Ag p ps]
theorem fV (n:Nat):∀(ps:List Pol) (k:Nat),k+2*ps.length < n+2→bN n (dV k ps)=true
 |[],_,_=>rfl
 |p::ps,k,h=>by
  simp only[Wc]at h;simp only[dV,bN,ak,af,ag,fV n ps (k+2) (by omega),Xa,Xt,decide_eq_true_eq];omega
theorem lf (n:Nat):∀ps:List Pol,ay n (pO ps)=true
 |[]=>rfl
 |p::ps=>by simp only[pO,ay,aH,an,lf n ps,WW]
@[go_sem] theorem NZ (a:List Chunk)(c d:Chunk):bg (a++[c]) a.length d=a++[d]:=by
 have:=ki a c d [];simpa using this
@[go_sem] theorem N0 (a:List Chunk)(c e d:Chunk):bg (a++[c,e]) a.length d=a++[d,e]:=ki a c d [e]
@[go_sem] theorem Pj (a:List Chunk)(c d:Chunk):bg (a++[c]) (a.length+1) d=a++[c,d]:=by
 have:=iK (a++[c]) d;rw[V9]at this;simpa using this
@[go_sem] theorem Lf (a:List Chunk)(c:Chunk)(l:List Chunk):aw (a++c::l) a.length=c:=by
 induction a with
 |nil=>rfl
 |cons x a ih=>exact ih
@[go_sem] theorem P3 (a:List Chunk)(c d:Chunk)(l:List Chunk):aw (a++c::d::l) (a.length+1)=d:=by
 induction a with
 |nil=>rfl
 |cons x a ih=>exact ih
@[go_sem] theorem P4 (a:List Chunk)(c d e:Chunk)(l:List Chunk):aw (a++c::d::e::l) (a.length+2)=e:=by
 induction a with
 |nil=>rfl
 |cons x a ih=>exact ih
@[go_sem] theorem Pk (a:List Chunk)(c e d:Chunk):bg (a++[c,e]) (a.length+2) d=a++[c,e,d]:=by
 have:=iK (a++[c,e]) d;rw[V9]at this;simpa using this
theorem lg (n:Nat):∀(l m:List Chunk),ay n (l++m)=(ay n l&&ay n m)
 |[],m=>rfl
 |c::l,m=>by simp only[WH,ay,lg n l m,Y0]
theorem Lg (b:Bok)(h8:b.pools.length≤8)(jK:∀p∈b.pools,p.leases.length≤32):
 MSpec prog 232 [.d (.agg (bC b))] [] (.ptr 1 0) (.gone:: .box 30 [.d (.v (.int .i64 b.tick)),.own 2 b.pools.length]:: .row 83 9 b.pools.length (dV 4 b.pools)::pO b.pools):=by
 refine mj func232 ntmps232 results232 ?_;refine aF ?_<;>intros;refine bP ah av b.pools (fun _=>True) (fun k=>[(13,.d (.v (.int .i64 k))),(12,.d (.v (.int .i64 b.pools.length))),(11,.d (.sl 9 (b.pools.map al))),(3,.ptr 1 0),(2,.d (.v (.pointer none)))])
  (fun k=> .gone:: .box 30 [.d (.v (.int .i64 b.tick)),.own 2 k]:: .row 83 9 k (dV 4 (b.pools.take k))::pO (b.pools.take k)) trivial ?_ ?_ ?_
 ·refine(aN 0 (by simp)).trans ((aJ (by simp) 1 30 [.d (.v (.int .i64 b.tick)),.d (.v (.slice none 0 0))] 1 83 9 rfl rfl rfl).trans ?_);exact wf
 ·intro k p hp hk _ C hC;have g8:(k:Int) < (b.pools.length:Int):=by omega
  have ed:=wi k (by omega);have lG:=jK p (V0 hp);have mO:k+1≤100:=by omega
  have hlt:(Xd k b.pools).length=k:=by rw[V2];omega
  have jv:=aj hp;have wP:=qv (b.pools.take k) 4;have gh:=ld (b.pools.take k);rw[hlt]at wP gh;rw[jv,tN,Ag,hlt]at hC;have S2:=fun n h=>fV n (b.pools.take k) 4 h;have hbh:=fun n=>lf n (b.pools.take k);clear jv;generalize pO (b.pools.take k)=T at*;generalize dV 4 (b.pools.take k)=rows at*;replace gh:=VZ gh;replace S2:=VZ S2;replace hbh:=VZ hbh;have z1z:=Ln.mk (ls:=[]) (fB aW p.leases (by omega));refine aF ?_<;>intros;refine hC _ _ trivial ((aN (T.length+3) (by simp)).trans (db [.row 83 9 0 [ak p (.own (T.length+4) 1)]] (by simp) (h':= .gone:: .box 30 [.d (.v (.int .i64 b.tick)),.own 2 (k+1)]:: .row 83 9 (k+1) (rows++[ak p (.own (4+2*k) 1)])::(T++[.gone,.row 96 5 1 (aa (p.leases.map aW))])) ?_ se ?_ ?_))
  ·simp only[bg];rw[ki,show T.length+4=4+2*k from by have:=gh.out;omega];simp only[WH,WE,WO];rfl
  ·have:=gh.out;simp[dn,ag]
  ·have:=gh.out;have h1:=hbh.out (T.length+5);have h2:=S2.out (T.length+5) (by rw[hlt];omega);simp[ay,aH,af,ag,gW,bN,an,ak,lg,h1,h2];omega
 ·intro _ C;refine aF ?_<;>intros;(try rw[V4])
  exact aP rfl rfl
@[go_sem] theorem FJ (n:Nat):∀(ps:List Pol) (j:Nat) (a:List Chunk),a.length=n+j→fy (fun x=>n+x) j (pO ps) a=a++pO ps
 |[],j,a,_=>by simp[pO,fy]
 |p::ps,j,a,h=>by
  have h1:n+j=a.length:=h.symm;have h2:n+(j+1)=(a++[Chunk.gone]).length:=by simp only[V9,Wc,WM];omega
  simp only[pO,fy,js];rw[h1,iK,h2,iK,FJ n ps (j+1+1) _ (by simp;omega)];have hd:gM (fun x=>n+x) (aa (p.leases.map aW))=aa (p.leases.map aW):=sL _ _;rw[hd];simp
@[go_sem] theorem Ck (n:Nat):∀(ps:List Pol) (k:Nat),gM (fun x=>n+x) (dV k ps)=dV (n+k) ps
 |[],_=>rfl
 |p::ps,k=>by
  simp only[dV,gM,Ck n ps (k+2),ak,fK,ren];rw[show n+(k+2)=n+k+2 by omega]
theorem FK (b:Bok)(hz:∀p∈b.pools,p.leases.length≤3518437208882)(h:bD b=0):
 MSpec prog 155 [.d (.agg (bC b))] [] (.tup [.ptr 2 0,.d (.v (.int .i64 0))]) (.gone:: .gone:: .box 30 [.d (.v (.int .i64 b.tick)),.own 3 b.pools.length]:: .row 83 9 b.pools.length (dV 5 b.pools)::pO b.pools):=by
 have hc:=kq b hz;have hb:=d7 h;have ho:=Lg b hb.n8 hb.l32;rw[h]at hc;replace h:=VZ h;refine mj func155 ntmps155 results155 ?_;have z1z:=Ln.mk (ls:=[]) (ho);refine aF ?_<;>intros;exact(aN 0 (by simp)).trans (aP rfl rfl)
def ju (D:List Pol)(r:List PV)(k:Nat)(ps:List Pol):List (List PV):=aa (D.map al)++r::dV k ps
theorem Iq (D:List Pol)(r:List PV)(k:Nat)(ps:List Pol):(ju D r k ps).length=D.length+1+ps.length:=by
 unfold ju;rw[V9,Wc,qv,aA,Wg];omega
theorem Ir (D:List Pol)(r:List PV)(k:Nat)(ps:List Pol):(ju D r k ps)[D.length]? =some r:=by
 unfold ju;rw[Wq (by simp[aA])];simp[aA]
theorem Is (D:List Pol)(r r':List PV)(k:Nat)(ps:List Pol):(ju D r k ps).set D.length r'=ju D r' k ps:=by
 unfold ju;rw[XD _ _ (by simp[aA])];simp[aA]
theorem wy (k g:Nat)(d:D):∀(ps:List Pol) (k0:Nat),k < k0→fL k g d (dV k0 ps)=dV k0 ps
 |[],_,_=>rfl
 |p::ps,k0,h=>by
  simp only[dV,fL,wy k g d ps (k0+2) (by omega),ak,f8,fz];rw[if_neg (by omega)]
theorem DV (k g:Nat)(d:D):∀(l m:List Chunk) (i:Nat),fI k g d i (l++m)=fI k g d i l++fI k g d (i+l.length) m
 |[],m,i=>rfl
 |c::l,m,i=>by
  simp only[WH,fI,DV k g d l m (i+1),Wc];rw[show i+1+l.length=i+(l.length+1) by omega]
theorem tO (k g:Nat)(d:D):∀(l:List Chunk) (i:Nat),(∀c∈l,g9 k g d c=c)→(∀x,i≤x→x < i+l.length→x≠k)→fI k g d i l=l
 |[],_,_,_=>rfl
 |c::l,i,h,hx=>by
  simp only[fI];rw[if_neg (hx i (Wa _) (by simp)),h c (by simp),tO k g d l (i+1) (fun c hc=>h c (by simp[hc])) (fun x h1 h2=>hx x (by omega) (by simp;omega))]
theorem DW {c:Chunk}:∀{ps:List Pol},c∈pO ps→c= .gone∨∃ls,c= .row 96 5 1 (aa ls)
 |p::ps,h=>by
  simp only[pO,WI]at h;rcases h with h|h|h
  ·exact .inl h
  ·exact .inr ⟨_,h⟩
  ·exact DW h
theorem Iu:∀(ps:List Pol) (x:List Chunk) (i:Nat) (p:Pol),ps[i]? =some p→aw (pO ps++x) (2*i+1)= .row 96 5 1 (aa (p.leases.map aW))
 |q::ps,x,0,p,h=>by simp at h;subst h;rfl
 |q::ps,x,i+1,p,h=>by
  simp only[Xg]at h;have:=Iu ps x i p h;simp only[pO,WH];rw[show 2*(i+1)+1=(2*i+1)+1+1 by omega];exact this
theorem wz:∀(a b:List Chunk) (i:Nat),aw (a++b) (a.length+i)=aw b i
 |[],b,i=>by simp
 |c::a,b,i=>by
  simp only[WH,Wc];rw[show a.length+1+i=(a.length+i)+1 by omega];exact wz a b i
def fd (j:Nat)(c:Chunk)(ps:List Pol)(e:Chunk):List Chunk:=Wy (2*j) .gone++(.gone::c::(pO ps++[e]))
structure TailOK (T:Chunk→List Chunk)(j q:Nat)(ps:List Pol)(e:Chunk):Prop where
 a:∀c x,aw (T c++x) (2*j+1)=c
 a0:∀c,aw (T c) (2*j+1)=c
 b:∀c x,aw (T c++x) q=e
 b0:∀c,aw (T c) q=e
 c:∀c d,bg (T c) (2*j+1) d=T d
 len:∀c,(T c).length=q+1
 h:∀n c,aH n c=true→aH n e=true→ay n (T c)=true
 r:∀c x i p,ps[i]? =some p→aw (T c++x) (2*j+1+2*(i+1))= .row 96 5 1 (aa (p.leases.map aW))
 f:∀c g d,g9 (2*j+7) g d e=e→fI (2*j+7) g d 6 (T c)=T .gone
theorem jd (j:Nat)(c:Chunk)(ps:List Pol)(e:Chunk):fd j c ps e=(Wy (2*j) Chunk.gone++[.gone])++c::(pO ps++[e]):=by
 unfold fd;simp
theorem N1 (j q:Nat)(ps:List Pol)(e:Chunk)(hq:q=2*j+2+2*ps.length):TailOK (fun c=>fd j c ps e) j q ps e:=by
 have hA:(Wy (2*j) Chunk.gone++[Chunk.gone]).length=2*j+1:=by simp
 have a0:∀c,aw (fd j c ps e) (2*j+1)=c:=fun c=>by rw[jd,←hA];exact Lf _ _ _
 have hl:∀c,(fd j c ps e).length=q+1:=fun c=>by unfold fd;simp[ld];omega
 have b0:∀c,aw (fd j c ps e) q=e:=fun c=>by
  have:fd j c ps e=(Wy (2*j) Chunk.gone++(.gone::c::pO ps))++[e]:=by unfold fd;simp
  rw[this,gN,if_pos];simp[ld];omega
 refine⟨fun c x=>?_,a0,fun c x=>?_,b0,fun c d=>?_,hl,fun n c h1 h2=>?_,fun c x i p hp=>?_,fun c g d he=>?_⟩
 ·rw[mZ _ _ _ (by rw[hl];omega),a0]
 ·rw[mZ _ _ _ (by rw[hl];omega),b0]
 ·show bg (fd j c ps e) (2*j+1) d=fd j d ps e;rw[jd,jd,←hA];exact ki _ _ _ _
 ·have:ay n (Wy (2*j) Chunk.gone)=true:=by
   generalize 2*j=m;induction m with
   |zero=>rfl
   |succ m ih=>rw[List.replicate_succ];simp only[ay,aH,ih,WW]
  show ay n (fd j c ps e)=true;unfold fd;simp only[lg,ay,this,h1,h2,lf,Xa,Xt];rfl
 ·show aw (fd j c ps e++x) _=_;have:fd j c ps e++x=(Wy (2*j) Chunk.gone++[.gone,c])++(pO ps++([e]++x)):=by unfold fd;simp
  rw[this];have bc:(Wy (2*j) Chunk.gone++[.gone,c]).length=2*j+2:=by simp
  rw[show 2*j+1+2*(i+1)=(Wy (2*j) Chunk.gone++[.gone,c]).length+(2*i+1) by rw[bc];omega,wz];exact Iu ps _ i p hp
 ·show fI (2*j+7) g d 6 (fd j c ps e)=fd j .gone ps e;rw[jd,jd,DV,hA];have h1:fI (2*j+7) g d 6 (Wy (2*j) Chunk.gone++[Chunk.gone])=Wy (2*j) Chunk.gone++[Chunk.gone]:=by
   refine tO _ _ _ _ _ (fun c hc=>?_) (fun x h1 h2=>by rw[hA]at h2;omega);have:c= .gone:=by simp at hc;rcases hc with h|h<;>first|exact h.2|exact h
   subst this;rfl
  rw[h1,show 6+(2*j+1)=2*j+7 by omega];simp only[fI,if_true];rw[tO _ _ _ _ _ (fun c hc=>?_) (fun x h1 h2=>by omega)];simp only[WJ,WP]at hc;rcases hc with hc|rfl
  ·rcases DW hc with rfl|⟨ls,rfl⟩
   ·rfl
   ·simp only[g9,bO]
  ·exact he
theorem rl {h:Nat→Chunk}{n:Nat}:∀(ps:List Pol) (k:Nat),(∀i p,ps[i]? =some p→∃ls,h (k+2*i)= .row 96 5 1 (aa ls))→∃ds,cy (aO h (n+1)) (dV k ps)=some ds
 |[],_,_=>⟨[],rfl⟩
 |p::ps,k,hk=>by
  obtain⟨ls,h1⟩:=hk 0 p rfl;obtain⟨ds,h2⟩:=rl (n:=n) ps (k+2) (fun i q hq=>by
   obtain⟨ls,h3⟩:=hk (i+1) q (by simpa using hq);exact⟨ls,by rw[←h3];congr 1;omega⟩)
  rw[Nat.mul_zero,Wz]at h1;simp only[dV,cy,h2,ak,bW,aO,kO,h1,if_true,dF,WQ];exact⟨_,rfl⟩
def pu (t:Int)(l:Lse):Bool:=(l.kind==3)&&decide (l.till≤t)
theorem DX (l:Lse)(t:Int)(x:D):ae prog 170 [.agg (aW l),.ept [.ept [.v (.int .i64 t),x]]] (.v (.bool (pu t l))):=by
 unfold pu;refine pj func170 ntmps170 results170 ?_;exact bx
def en (t:Int)(p:Pol):Pol:={p with leases:=p.leases.filter fun l=>!pu t l}
def nC (b:Bok)(n:Int):Bok × Int:=
 if bD b≠0 then (Bok.zero,bD b)else
 if n < 1∨n>1073741824 - b.tick then (Bok.zero,3)else (⟨b.tick+n,b.pools.map (en (b.tick+n))⟩,0)
def dP (b:Bok)(t:Int)(rows:List (List PV))(T:List Chunk):List Chunk:=
 .box 30 [.d (.v (.int .i64 b.tick)),.d (.sl 9 (b.pools.map al))]:: .box 30 [.d (.v (.int .i64 0)),.d (.v (.slice none 0 0))]:: .gone:: .gone:: .box 30 [.d (.v (.int .i64 t)),.own 5 b.pools.length]:: .row 83 9 b.pools.length rows::T
theorem mA {b:Bok}{t:Int}{rows:List (List PV)}{T:List Chunk}{n:Nat}(h1:bN n rows=true)(h2:ay n T=true)(h3:6≤n):ay n (dP b t rows T)=true:=by
 simp only[dP,ay,aH,af,ag,h1,h2,Xa,Xt,decide_eq_true_eq];omega
theorem N2 (b:Bok)(n:Int)(hz:∀p∈b.pools,p.leases.length≤3518437208882):ae prog 95 [.agg (bC b),.v (.int .i64 n)] (.tup [.agg (bC (nC b n).1),.v (.int .i64 (nC b n).2)]):=by
 obtain⟨R,hR⟩:∃R,R=nC b n:=⟨_,rfl⟩;rw[←hR];replace hR:=VZ hR;by_cases hc:bD b=0
 ·have cR:=d7 hc;have ci:=FK b hz hc;have ht:=cR.tick;have Uh:IntKind.i64.wrap (1073741824 - b.tick)=1073741824 - b.tick:=by rw[IntKind.wrap_i64];omega
  have cz:R=if n < 1∨n>1073741824 - b.tick then (Bok.zero,3)else (⟨b.tick+n,b.pools.map (en (b.tick+n))⟩,0):=by rw[hR.out];unfold nC;rw[if_neg (by simpa using hc)]
  replace cz:=VZ cz;clear hR hc;by_cases hn:n < 1∨n>1073741824 - b.tick
  ·clear cR;refine pj func95 ntmps95 results95 ?_;have z1z:=Ln.mk (ls:=[]) (ci);refine Pg ?_ ?_ ?_<;>intros;all_goals first
    |(exfalso;rename_i q1 q2;simp only[decide_eq_false_iff_not]at q1 q2;omega)
    |(clear hz ci;(rw[show R=(Bok.zero,3) from (by rw[cz.out];grind)];(try simp only[V6,V1]);exact dg))
  ·have h1:decide (n < 1)=false:=by simp;omega
   have h2:decide (n>1073741824 - b.tick)=false:=by simp;omega
   have VL:IntKind.i64.wrap (b.tick+n)=b.tick+n:=by rw[IntKind.wrap_i64];omega
   replace hn:=VZ hn;refine pj func95 ntmps95 results95 ?_;have z1z:=Ln.mk (ls:=[]) (ci);refine aF ?_<;>intros;have Vg:=ld b.pools;rw[Vg];refine cp ah av (fun m e h=>∃(pre rest:List Pol),b.pools=pre++rest∧m=rest.length∧e=[(44,.d (.v (.int .i64 pre.length))),(43,.d (.v (.int .i64 b.pools.length))),(6,.ptr (2*b.pools.length+6) 0),(5,.d (.v (.int .i64 0))),(4,.ptr 1 0)]∧
    h=dP b (b.tick+n) (aa ((pre.map (en (b.tick+n))).map al)++dV (2*pre.length+7) rest) (Wy (2*pre.length) .gone++(pO rest++[.box 178 [.ptr 4 0]]))) _ _ _ ⟨[],b.pools,rfl,rfl,rfl,rfl⟩ ?_ ?_
   ·refine db [] (by simp) (by simp only[dP,V5,WV,WM,Nat.mul_zero,List.replicate_zero,WO];rfl) se (by simp[dP,dn,ag,ld]) ?_;refine mA (by simp only[V5,WM];exact fV _ b.pools 7 (by simp[dP,ld];omega)) ?_ (by simp[dP]);simp[lg,lf,ay,aH,af,ag,dP]
   ·rintro m e h ⟨pre,rest,Ng,hm,rfl,rfl⟩ C hC;cases rest with
    |nil=>
     have hN:b.pools.length=pre.length:=by rw[Ng];simp
     have hq:aw (Wy (2*pre.length) Chunk.gone++[.box 178 [.ptr 4 0]]) (2*b.pools.length)= .box 178 [.ptr 4 0]:=by rw[gN,if_pos (by simp;omega)]
     have oF:¬(pre.length:Int) < (b.pools.length:Int):=by omega
     have QZ:b.pools=pre:=by rw[Ng];simp
     have O6:=cz.out;rw[if_neg hn.out,QZ]at O6;clear hC hm Ng QZ hN;replace oF:decide ((pre.length:Int) < (b.pools.length:Int))=false:=by simpa using oF
     simp only[dP,dV,pO,WV,WO];generalize Wy (2*pre.length) Chunk.gone++[Chunk.box 178 [.ptr 4 0]]=T at*;replace O6:=VZ O6;refine aF ?_<;>intros;rw[O6.out];exact dg
    |cons p rest=>
     have hN:b.pools.length=pre.length+1+rest.length:=by rw[Ng];simp;omega
     have oF:(pre.length:Int) < (b.pools.length:Int):=by omega
     have ed:IntKind.i64.wrap ((pre.length:Int)+1)=((pre.length+1:Nat):Int):=by rw[IntKind.wrap_i64];have:=cR.n8;omega
     have lG:=cR.l32 p (by rw[Ng];simp);have M1:=fun r=>Iq (pre.map (en (b.tick+n))) r (2*pre.length+7+2) rest;have S3:=fun r=>Ir (pre.map (en (b.tick+n))) r (2*pre.length+7+2) rest;have Gl:=fun r r'=>Is (pre.map (en (b.tick+n))) r r' (2*pre.length+7+2) rest;rw[Wg]at M1;simp only[Wg]at S3 Gl;obtain⟨T,hT,S4⟩:∃T:Chunk→List Chunk,TailOK T pre.length (2*b.pools.length) rest (.box 178 [.ptr 4 0])∧T=fun c=>fd pre.length c rest (.box 178 [.ptr 4 0]):=⟨_,N1 pre.length (2*b.pools.length) rest (.box 178 [.ptr 4 0]) (by omega),rfl⟩;have S5:T .gone=Wy (2*(pre++[p]).length) .gone++(pO rest++[.box 178 [.ptr 4 0]]):=by
      rw[S4];show fd _ _ _ _=_;unfold fd;rw[V9,Wc,WM,show 2*(pre.length+(0+1))=2*pre.length+1+1 by omega,List.replicate_succ',List.replicate_succ'];simp
     have Ui:T (.row 96 5 1 (aa (p.leases.map aW)))=Wy (2*pre.length) .gone++(pO (p::rest)++[.box 178 [.ptr 4 0]]):=by rw[S4];rfl
     rw[←Ui];clear S4 Ui;have M3:aa ((pre.map (en (b.tick+n))).map al)++dV (2*pre.length+7) (p::rest)=ju (pre.map (en (b.tick+n))) (ak p (.own (2*pre.length+7) 1)) (2*pre.length+7+2) rest:=rfl;rw[M3];clear M3;have JJ:∀(m:List Lse) (x:List Chunk) (v:Nat),∃d,bW (aO (aw (dP b (b.tick+n) (ju (pre.map (en (b.tick+n))) (ak p (.own (2*pre.length+7) 1)) (2*pre.length+7+2) rest) (T (.row 96 5 1 (aa (m.map aW)))++x))) (v+5)) [.ptr (2*b.pools.length+6) 0]=some [.ept [.ept [.v (.int .i64 (b.tick+n)),d]]]:=by
      intro m x v;obtain⟨ds,cZ⟩:=rl (h:=aw (dP b (b.tick+n) (ju (pre.map (en (b.tick+n))) (ak p (.own (2*pre.length+7) 1)) (2*pre.length+7+2) rest) (T (.row 96 5 1 (aa (m.map aW)))++x))) (n:=v+1) rest (2*pre.length+7+2) (fun i q hq=>⟨q.leases.map aW,by
       rw[show 2*pre.length+7+2+2*i=2*pre.length+1+2*(i+1)+6 by omega];exact hT.r _ x i q hq⟩)
      have h1:aw (dP b (b.tick+n) (ju (pre.map (en (b.tick+n))) (ak p (.own (2*pre.length+7) 1)) (2*pre.length+7+2) rest) (T (.row 96 5 1 (aa (m.map aW)))++x)) (2*b.pools.length+6)= .box 178 [.ptr 4 0]:=hT.b _ x;have h2:aw (dP b (b.tick+n) (ju (pre.map (en (b.tick+n))) (ak p (.own (2*pre.length+7) 1)) (2*pre.length+7+2) rest) (T (.row 96 5 1 (aa (m.map aW)))++x)) (2*pre.length+7)= .row 96 5 1 (aa (m.map aW)):=hT.a _ x;have h3:∀r T',aw (dP b (b.tick+n) r T') 4= .box 30 [.d (.v (.int .i64 (b.tick+n))),.own 5 b.pools.length]:=fun _ _=>rfl;have h4:∀r T',aw (dP b (b.tick+n) r T') 5= .row 83 9 b.pools.length r:=fun _ _=>rfl;have h5:∃e,cy (aO (aw (dP b (b.tick+n) (ju (pre.map (en (b.tick+n))) (ak p (.own (2*pre.length+7) 1)) (2*pre.length+7+2) rest) (T (.row 96 5 1 (aa (m.map aW)))++x))) (v+2)) (ju (pre.map (en (b.tick+n))) (ak p (.own (2*pre.length+7) 1)) (2*pre.length+7+2) rest)=some e:=by
       generalize hH:aw (dP b (b.tick+n) (ju (pre.map (en (b.tick+n))) (ak p (.own (2*pre.length+7) 1)) (2*pre.length+7+2) rest) (T (.row 96 5 1 (aa (m.map aW)))++x))=H at*;simp only[ju,om,dF,cy,cZ,ak,bW,aO,kO,h2,if_true,WQ];exact⟨_,rfl⟩
      obtain⟨e,he⟩:=h5;refine⟨.sl 9 e,?_⟩;simp only[bW,aO,h1,h3,h4,List.drop_zero,if_true,he,kO,WQ]
     have jV:∀r c c',bg (dP b (b.tick+n) r (T c)) (2*pre.length+7) c'=dP b (b.tick+n) r (T c'):=by
      intro r c c';show _::_::_::_::_::_::bg (T c) (2*pre.length+1) c'=_;rw[hT.c];rfl
     have ia:∀m:List Lse,ay (dP b (b.tick+n) (ju (pre.map (en (b.tick+n))) (ak p (.own (2*pre.length+7) 1)) (2*pre.length+7+2) rest) (T (.row 96 5 1 (aa (m.map aW))))).length (dP b (b.tick+n) (ju (pre.map (en (b.tick+n))) (ak p (.own (2*pre.length+7) 1)) (2*pre.length+7+2) rest) (T (.row 96 5 1 (aa (m.map aW)))))=true:=by
      intro m;have hl:(dP b (b.tick+n) (ju (pre.map (en (b.tick+n))) (ak p (.own (2*pre.length+7) 1)) (2*pre.length+7+2) rest) (T (.row 96 5 1 (aa (m.map aW))))).length=2*b.pools.length+7:=by simp[dP,hT.len]
      rw[hl];refine mA ?_ (hT.h _ _ (an _ _) (by simp[aH,af,ag])) (by omega);unfold ju;rw[gW,an];simp only[bN,ak,af,ag,fV (2*b.pools.length+7) rest (2*pre.length+7+2) (by omega),Xa,Xt,decide_eq_true_eq];first|done|omega
     have oC:=Ch (pu (b.tick+n)) p.leases (2*pre.length+7) 1 170 [.ptr (2*b.pools.length+6) 0] (dP b (b.tick+n) (ju (pre.map (en (b.tick+n))) (ak p (.own (2*pre.length+7) 1)) (2*pre.length+7+2) rest) (T (.row 96 5 1 (aa (p.leases.map aW))))) (hT.a0 _)
      (by simp[dP,hT.len,af,ag]) (ia p.leases) (by omega)
      (by
       obtain⟨d,hd⟩:=JJ p.leases [] 0;rw[WV]at hd;exact⟨_,hd,fun x _=>DX x (b.tick+n) d⟩)
      (fun m c=>by
       obtain⟨d,hd⟩:=JJ m [c] 1;rw[jV];exact⟨_,hd,fun x _=>DX x (b.tick+n) d⟩)
     rw[jV]at oC;have S6:=hT.a0;have Uj:=hT.b0;have Q0:=hT.c;have S7:=hT.len;have S8:=hT.f;have S9:=hT.h;clear JJ jV ia hT ci cz;simp only[dP,ak]at oC ⊢;replace hN:=VZ hN;replace hm:=VZ hm;replace Ng:=VZ Ng;replace S5:=VZ S5;replace S8:=VZ S8;replace S9:=VZ S9;replace hn:=VZ hn;clear cR lG ht;repeat' (first|(with_reducible refine And.intro ?_ ?_)|(with_reducible refine dw (fun _=>?_) (fun _=>?_))|(with_reducible refine aQ (fun _=>?_) (fun _=>?_))|(with_reducible refine bT (by kernel_rfl))|simp -dsimp only[go_sem,seval, *,bC,al,oF,ed,S6,Uj,Q0,S7,S3,M1,Gl]|((with_reducible refine bU ?_);simp -dsimp only[go_sem,seval,bC,al,oF,ed,S6,Uj,Q0,S7,S3,M1,Gl];first|refine aS (by first|assumption|fail) (by first|exact .inl rfl|exact .inr rfl) ?_|(refine aR (by assumption) ?_ ?_ ?_;(solve|(repeat(first|exact au.refl _|exact au.nil _|(refine au.tup ?_)|(refine au.agg ?_ rfl)|exact trivial|(refine And.intro ?_ ?_))));(solve|exact .inl rfl|exact .inr rfl)))|(refine HN oC ?_)|omega|exact decide_eq_true (by omega)|exact au.refl _)
     refine hC _ _ _ _ _ (by have:=hm.out;simp at this;omega) ⟨pre++[p],rest,by rw[Ng.out];simp,rfl,rfl,rfl⟩ ?_;refine(ax (2*pre.length+7) 2 96 5 ((p.leases.filter fun x=>!pu (b.tick+n) x).map aW) (S6 _)).trans ?_;have n0:=eq_false (show ¬(0=2*pre.length+7) by omega);have n1:=eq_false (show ¬(1=2*pre.length+7) by omega);have n2:=eq_false (show ¬(2=2*pre.length+7) by omega);have n3:=eq_false (show ¬(3=2*pre.length+7) by omega);have n4:=eq_false (show ¬(4=2*pre.length+7) by omega);have n5:=eq_false (show ¬(5=2*pre.length+7) by omega);have Bl:=fun d=>wy (2*pre.length+7) 2 d rest (2*pre.length+7+2) (by omega);have JH:=fun d=>S8.out (.row 96 5 2 (aa ((p.leases.filter fun x=>!pu (b.tick+n) x).map aW))) 2 d rfl;simp only[iJ,fz,f8,fI,g9,fL,aT,bO,bY,V1,V5,Ws,Wu,reduceIte,and_true,true_and,and_self,and_false,false_and,Wn,Wz,reduceCtorEq,ju,Bl,JH,n0,n1,n2,n3,n4,n5,if_false];have Uk:(pre++[p]).length=pre.length+1:=by simp
     have e1:aa (((pre++[p]).map (en (b.tick+n))).map al)++dV (2*(pre++[p]).length+7) rest=aa ((pre.map (en (b.tick+n))).map al)++ak p (.d (.sl 5 ((p.leases.filter fun x=>!pu (b.tick+n) x).map aW)))::dV (2*pre.length+7+2) rest:=by
      rw[Uk,show 2*(pre.length+1)+7=2*pre.length+7+2 by omega];simp[aa,en,al,ak]
     rw[e1,←S5.out,Uk];have hle:(dP b (b.tick+n) (aa ((pre.map (en (b.tick+n))).map al)++ak p (.d (.sl 5 ((p.leases.filter fun x=>!pu (b.tick+n) x).map aW)))::dV (2*pre.length+7+2) rest) (T .gone)).length=2*b.pools.length+7:=by simp[dP,S7]
     refine db [] (by simp) (by rw[WV];rfl) se (by rw[hle];simp[dn,ag]) ?_;rw[hle];refine mA ?_ (S9.out _ _ rfl (by simp[aH,af,ag])) (by omega);have:=hN.out;rw[gW,an];simp only[bN,ak,af,ag,fV (2*b.pools.length+7) rest (2*pre.length+7+2) (by omega),Xa]
 ·have ci:=kz b hz hc;have h1:(bD b !=0)=true:=by simpa using hc
  have hr:R=(Bok.zero,bD b):=by rw[hR.out];unfold nC;rw[if_pos hc]
  rw[hr];replace hr:=VZ hr;refine pj func95 ntmps95 results95 ?_;refine aF ?_<;>intros;exact dg
theorem Cl (l m:List Int)(hl:l.length≤1000000000)(hm:m.length≤1000000000):ae prog 113 [.sl 1 (l.map dI),.sl 1 (m.map dI)] (.v (.bool (decide (l=m)))):=by
 obtain⟨R,hR⟩:∃R,R=decide (l=m):=⟨_,rfl⟩;rw[←hR];replace hR:=VZ hR;refine pj func113 ntmps113 results113 ?_;refine Tv ?_ ?_<;>intros
 ·rename_i h1;exact PS (by rw[hR.out,decide_eq_false];rintro rfl;simp at h1)
 ·rename_i h1;have jO:l.length=m.length:=by simp at h1;omega
  clear h1;replace jO:=VZ jO;refine bP ah av l (fun k=>l.take k=m.take k) (fun k=>[(5,.d (.v (.int .i64 k))),(4,.d (.v (.bool false))),(1,.d (.sl 1 (m.map dI))),(0,.d (.sl 1 (l.map dI)))]) (fun _=>[]) rfl (wf) ?_ ?_
  ·intro k x hx hk hI C hC;have g8:(k:Int) < (l.length:Int):=by omega
   have ed:=wi k (by omega);obtain⟨y,hy⟩:∃y,m[k]? =some y:=⟨_,VY (by have:=jO.out;omega)⟩;replace hI:=VZ hI;cases h1:(x !=y)with
   |true=>
    have hb:R=false:=by
     rw[hR.out,decide_eq_false];rintro rfl;rw[hx]at hy;rw[WD.inj hy]at h1;simp at h1
    rw[hb];replace hb:=VZ hb;exact bx;all_goals exact au.refl _
   |false=>
    have A6:l.take (k+1)=m.take (k+1):=by rw[aj hx,aj hy,hI.out];simp at h1;rw[h1]
    replace A6:=VZ A6;refine aF ?_<;>intros;exact hC _ _ A6.out (wf)
  ·intro hI C;have hb:R=true:=by
    rw[hR.out,decide_eq_true_eq];rw[V4,jO.out,V4]at hI;exact hI
   rw[hb];replace hb:=VZ hb;replace hI:=VZ hI;exact bx;all_goals exact au.refl _
theorem Ah (p q:Rng):([p.at_.at_,p.at_.len,p.pool]==[q.at_.at_,q.at_.len,q.pool])=decide (p=q):=by
 rw[Xh];cases p;cases q;rename_i a b c d;cases a;cases c;simp[and_assoc]
theorem gY {α:Type}(enc:α→List D)(l:List α)(hl:l.length≤1000000000):
 MSpec prog 90 [.d (.sl 3 (l.map enc))] [] (.own 0 1) [.row 100 3 1 (aa (l.map enc))]:=by
 cases l with
 |nil=>
  refine o5 (pl:=[]) (ql:=[]) fun ao cap=>?_;cases ao with
  |none=>
   simp only[WO];refine mj func90 ntmps90 results90 ?_;repeat' (first|(with_reducible refine And.intro ?_ ?_)|(with_reducible refine dw (fun _=>?_) (fun _=>?_))|(with_reducible refine aQ (fun _=>?_) (fun _=>?_))|(with_reducible refine bT (by kernel_rfl))|simp -dsimp only[go_sem,seval, *,XQ,Wk]|((with_reducible refine bU ?_);simp -dsimp only[go_sem,seval,XQ,Wk];first|refine aS (by first|assumption|fail) (by first|exact .inl rfl|exact .inr rfl) ?_|refine aR (by assumption) (by repeat(first|exact au.refl _|exact au.nil _|(refine au.tup ?_)|(refine au.agg ?_ rfl)|exact trivial|(refine And.intro ?_ ?_))) (by first|exact .inl rfl|exact .inr rfl) ?_)|omega|exact decide_eq_true (by omega)|exact au.refl _)
   refine fN (h:=[]) (Wa _) 100 3 ?_;exact(ef 0 0 100 3 [] rfl (aP rfl rfl))
  |some a=>
   simp only[WO];refine mj func90 ntmps90 results90 ?_;repeat' (first|(with_reducible refine And.intro ?_ ?_)|(with_reducible refine dw (fun _=>?_) (fun _=>?_))|(with_reducible refine aQ (fun _=>?_) (fun _=>?_))|(with_reducible refine bT (by kernel_rfl))|simp -dsimp only[go_sem,seval, *,W7,Wk]|((with_reducible refine bU ?_);simp -dsimp only[go_sem,seval,W7,Wk];first|refine aS (by first|assumption|fail) (by first|exact .inl rfl|exact .inr rfl) ?_|refine aR (by assumption) (by repeat(first|exact au.refl _|exact au.nil _|(refine au.tup ?_)|(refine au.agg ?_ rfl)|exact trivial|(refine And.intro ?_ ?_))) (by first|exact .inl rfl|exact .inr rfl) ?_)|omega|exact decide_eq_true (by omega)|exact au.refl _)
   exact aP rfl rfl
 |cons x l=>
  simp only[Wc]at hl;refine mj func90 ntmps90 results90 ?_;repeat' (first|(with_reducible refine And.intro ?_ ?_)|(with_reducible refine dw (fun _=>?_) (fun _=>?_))|(with_reducible refine aQ (fun _=>?_) (fun _=>?_))|(with_reducible refine bT (by kernel_rfl))|simp -dsimp only[go_sem,seval, *,W7,Wk]|((with_reducible refine bU ?_);simp -dsimp only[go_sem,seval,W7,Wk];first|refine aS (by first|assumption|fail) (by first|exact .inl rfl|exact .inr rfl) ?_|refine aR (by assumption) (by repeat(first|exact au.refl _|exact au.nil _|(refine au.tup ?_)|(refine au.agg ?_ rfl)|exact trivial|(refine And.intro ?_ ?_))) (by first|exact .inl rfl|exact .inr rfl) ?_)|omega|exact decide_eq_true (by omega)|exact au.refl _)
  all_goals first|omega|exact aP rfl rfl
theorem dW (l:List Int)(hl:l.length≤1000000000):
 MSpec prog 91 [.d (.sl 1 (l.map dI))] [] (.own 0 1) [.row 3 1 1 (aa (l.map dI))]:=by
 cases l with
 |nil=>
  refine o5 (pl:=[]) (ql:=[]) fun ao cap=>?_;cases ao with
  |none=>
   simp only[WO];refine mj func91 ntmps91 results91 ?_;repeat' (first|(with_reducible refine And.intro ?_ ?_)|(with_reducible refine dw (fun _=>?_) (fun _=>?_))|(with_reducible refine aQ (fun _=>?_) (fun _=>?_))|(with_reducible refine bT (by kernel_rfl))|simp -dsimp only[go_sem,seval, *,XQ,Wk]|((with_reducible refine bU ?_);simp -dsimp only[go_sem,seval,XQ,Wk];first|refine aS (by first|assumption|fail) (by first|exact .inl rfl|exact .inr rfl) ?_|(refine aR (by assumption) ?_ ?_ ?_;(solve|(repeat(first|exact au.refl _|exact au.nil _|(refine au.tup ?_)|(refine au.agg ?_ rfl)|exact trivial|(refine And.intro ?_ ?_))));(solve|exact .inl rfl|exact .inr rfl)))|fail|omega|exact decide_eq_true (by omega)|exact au.refl _)
   refine fN (h:=[]) (Wa _) 3 1 ?_;exact(ef 0 0 3 1 [] rfl (aP rfl rfl))
  |some a=>
   simp only[WO];refine mj func91 ntmps91 results91 ?_;repeat' (first|(with_reducible refine And.intro ?_ ?_)|(with_reducible refine dw (fun _=>?_) (fun _=>?_))|(with_reducible refine aQ (fun _=>?_) (fun _=>?_))|(with_reducible refine bT (by kernel_rfl))|simp -dsimp only[go_sem,seval, *,W7,Wk]|((with_reducible refine bU ?_);simp -dsimp only[go_sem,seval,W7,Wk];first|refine aS (by first|assumption|fail) (by first|exact .inl rfl|exact .inr rfl) ?_|(refine aR (by assumption) ?_ ?_ ?_;(solve|(repeat(first|exact au.refl _|exact au.nil _|(refine au.tup ?_)|(refine au.agg ?_ rfl)|exact trivial|(refine And.intro ?_ ?_))));(solve|exact .inl rfl|exact .inr rfl)))|fail|omega|exact decide_eq_true (by omega)|exact au.refl _)
   exact aP rfl rfl
 |cons x l=>
  simp only[Wc]at hl;refine mj func91 ntmps91 results91 ?_;repeat' (first|(with_reducible refine And.intro ?_ ?_)|(with_reducible refine dw (fun _=>?_) (fun _=>?_))|(with_reducible refine aQ (fun _=>?_) (fun _=>?_))|(with_reducible refine bT (by kernel_rfl))|simp -dsimp only[go_sem,seval, *,W7,Wk]|((with_reducible refine bU ?_);simp -dsimp only[go_sem,seval,W7,Wk];first|refine aS (by first|assumption|fail) (by first|exact .inl rfl|exact .inr rfl) ?_|(refine aR (by assumption) ?_ ?_ ?_;(solve|(repeat(first|exact au.refl _|exact au.nil _|(refine au.tup ?_)|(refine au.agg ?_ rfl)|exact trivial|(refine And.intro ?_ ?_))));(solve|exact .inl rfl|exact .inr rfl)))|fail|omega|exact decide_eq_true (by omega)|exact au.refl _)
  all_goals first|omega|exact aP rfl rfl
theorem je (v:Vpc)(h:cq v≠0):
 MSpec prog 184 [.d (.agg (aG v))] [] (.tup [.ptr 1 0,.d (.v (.int .i64 (cq v)))]) [.gone,.box 88 [.d (.v (.int .i64 0)),.d (.v (.slice none 0 0)),.d (.v (.slice none 0 0))]]:=by
 have hc:=mq v;have h1:(cq v !=0)=true:=by simpa using h
 refine mj func184 ntmps184 results184 ?_;refine aF ?_<;>intros;exact(aN 0 (by simp)).trans (aP rfl rfl)
theorem jf (v:Vpc)(h:cq v=0)(h4:v.ranges.length≤4)(h6:v.subs.length≤6)(h8:∀s∈v.subs,s.faces.length≤8∧∀f∈s.faces,f.addrs.length≤4):
 MSpec prog 184 [.d (.agg (aG v))] [] (.tup [.ptr 2 0,.d (.v (.int .i64 0))]) [.gone,.row 100 3 1 (aa (v.ranges.map cf)),.box 88 [.d (.v (.int .i64 v.id)),.own 1 1,.own 3 v.subs.length],.row 107 4 v.subs.length (aa (v.subs.map bw))]:=by
 have hc:=mq v;rw[h]at hc;replace h:=VZ h;replace h8:=VZ h8;have gh:=gY cf v.ranges (by omega);refine mj func184 ntmps184 results184 ?_;have z1z:=Ln.mk (ls:=[]) (gh);refine aF ?_<;>intros;refine bP ah av v.subs (fun _=>True) (fun k=>[(28,.d (.v (.int .i64 k))),(27,.d (.v (.int .i64 v.subs.length))),(26,.d (.sl 4 (v.subs.map bw))),(5,.ptr 2 0)])
  (fun k=>[.gone,.row 100 3 1 (aa (v.ranges.map cf)),.box 88 [.d (.v (.int .i64 v.id)),.own 1 1,.own 3 k],.row 107 4 k (aa ((v.subs.take k).map bw))]) trivial ?_ ?_ ?_
 ·refine(aN 0 (by simp)).trans ((aJ (by simp) 2 88 [.d (.v (.int .i64 v.id)),.own 1 1,.d (.v (.slice none 0 0))] 2 107 4 rfl rfl rfl).trans ?_);exact wf (hb:=fg) (hbh:=fg)
 ·intro k s hs hk _ CO Ep;have g8:(k:Int) < (v.subs.length:Int):=by omega
  have ed:=wi k (by omega);have nH:=h8.out s (V0 hs);have mO:k+1≤100:=by omega
  have rD:(Xd k v.subs).length=k:=by rw[V2];omega
  replace hs:=VZ hs;have vi:=hs.out;refine aF ?_<;>intros;refine bP ah av s.faces (fun _=>True) (fun j=>[(40,.d (.v (.int .i64 j))),(39,.d (.v (.int .i64 s.faces.length))),(38,.d (.sl 2 (s.faces.map cO))),(28,.d (.v (.int .i64 k))),(27,.d (.v (.int .i64 v.subs.length))),(26,.d (.sl 4 (v.subs.map bw))),(8,.ptr 5 0),(5,.ptr 2 0)])
   (fun j=>[.gone,.row 100 3 1 (aa (v.ranges.map cf)),.box 88 [.d (.v (.int .i64 v.id)),.own 1 1,.own 3 k],.row 107 4 k (aa ((v.subs.take k).map bw)),.gone,.box 107 [.d (.v (.int .i64 s.id)),.d (.v (.int .i64 s.at_.at_)),.d (.v (.int .i64 s.at_.len)),.own 6 j],.row 110 2 j (aa ((s.faces.take j).map cO))]) trivial ?_ ?_ ?_
  ·refine(aN 4 (by simp)).trans ((aJ (by simp) 5 107 [.d (.v (.int .i64 s.id)),.d (.v (.int .i64 s.at_.at_)),.d (.v (.int .i64 s.at_.len)),.d (.v (.slice none 0 0))] 3 110 2 rfl rfl rfl).trans ?_);exact wf (hb:=fg) (hbh:=fg)
  ·intro j f hf hj _ C hC;have oF:(j:Int) < (s.faces.length:Int):=by omega
   have Bc:=wi j (by omega);have iN:=nH.2 f (V0 hf);have lx:j+1≤100:=by omega
   have Gf:(Xd j s.faces).length=j:=by rw[V2];omega
   replace hf:=VZ hf;have Mw:=hf.out;have z1z:=Ln.mk (ls:=[]) (dW f.addrs (by omega));refine aF ?_<;>intros;refine hC _ _ trivial ((ax 8 1 3 1 (f.addrs.map dI) rfl).trans ?_);simp only[iJ,fz,f8,fI,g9,fL,aT,bO,bY,V1,V5,Ws,Wu,reduceIte,and_true,true_and,and_self,and_false,false_and,Wn,Wz,reduceCtorEq,eZ];exact wf (hh:=(by rw[aj hf.out,V6,V1,V5,←bi];rfl)) (hb:=fg) (hbh:=fg)
  ·intro _ C;refine aF ?_<;>intros;refine Ep _ _ trivial ((ax 6 s.faces.length 110 2 (s.faces.map cO) rfl).trans ?_);simp only[iJ,fz,f8,fI,g9,fL,aT,bO,bY,V1,V5,Ws,Wu,reduceIte,and_true,true_and,and_self,and_false,false_and,Wn,Wz,reduceCtorEq];exact wf (hh:=(by rw[aj hs.out,V6,V1,V5,←bi];rfl)) (hb:=fg) (hbh:=fg)
 ·intro _ C;refine aF ?_<;>intros;(try rw[V4])
  exact aP rfl rfl
section
open Go.Proofs Go.ChangeShapes Go.WideShapes Go.Deep
section
variable {H:Type}{enc:TypeId × Value→H}{P:Program}{w:World}{base:Nat}{spare:Nat→Bool}{held:Bool}
def Rd {α:Type}(enc:TypeId × Value→H)(P:Program)(w:World)(base:Nat)(spare:Nat→Bool)(held:Bool)(t:TypeId)(R:List Value→α→Prop):Prop:=
 ∀fuel cs x,DataW.trod enc P w base spare held fuel t cs=some x→∃a,R cs a
theorem Rd.map {α β:Type}{t:TypeId}{R:List Value→α→Prop}{R':List Value→β→Prop}(h:Rd enc P w base spare held t R)(f:α→β)(hf:∀cs a,R cs a→R' cs (f a)):Rd enc P w base spare held t R':=by
 intro fuel cs x hx;obtain⟨a,ha⟩:=h fuel cs x hx;exact⟨f a,hf _ _ ha⟩
def N3 (n:Int):Prop:= -9223372036854775808≤n∧n≤9223372036854775807
def Lh (cs:List Value)(n:Int):Prop:=cs=[.int .i64 n]∧N3 n
theorem DY {n:Int}(h:(Lit.int .i64 n).wf=true):N3 n:=by
 simp only[Lit.wf,Wd,decide_eq_true_eq]at h;have h1:IntKind.i64.min= -9223372036854775808:=rfl;have h2:IntKind.i64.max=9223372036854775807:=rfl;rw[h1,h2]at h;exact h
theorem jR {t:TypeId}(ht:P.underlying t=some (.int .i64)):Rd enc P w base spare held t Lh:=by
 intro fuel cs x hx;obtain⟨n,h,_,hw⟩:=DataW.trod_int ht hx;exact⟨n,h,DY hw⟩
theorem ec {α:Type}{t:TypeId}{fs:Array Field}{fuel:Nat}{cs:List Value}{x:DataW H × List MemPlace}(ht:P.underlying t=some (.struct fs))(h:DataW.trod enc P w base spare held fuel t cs=some x)
 (j:Nat) {f:Field} (hf:fs[j]? =some f) {R:List Value→α→Prop} (hr:Rd enc P w base spare held f.type R):∃a,R ((cs.drop f.offset).take (P.cellsOf f.type)) a:=by
 obtain⟨xs,n,_,_,_,bc,hg⟩:=DataW.trod_struct ht h;have h1:=hg j f hf;have hj:j < xs.length:=by rw[bc];exact(W5.1 hf).1
 rw[VY hj]at h1;exact hr _ _ _ h1
theorem Cm {t:TypeId}{fs:Array Field}{fuel:Nat}{cs:List Value}{x:DataW H × List MemPlace}(ht:P.underlying t=some (.struct fs))(h:DataW.trod enc P w base spare held fuel t cs=some x):cs.length=P.cellsOf t:=by
 obtain⟨_,_,_,_,h,_⟩:=DataW.trod_struct ht h;exact h
theorem qw {α:Type}{Q:Nat→α→Prop}:∀(n:Nat),(∀i,i < n→∃a,Q i a)→∃l:List α,l.length=n∧∀i (h:i < l.length),Q i l[i]
 |0,_=>⟨[],rfl,fun i h=>by simp at h⟩
 |n+1,h=>by
  obtain⟨l,hl,hq⟩:=qw n fun i hi=>h i (by omega);obtain⟨a,ha⟩:=h n (by omega);refine⟨l++[a],by simp[hl],fun i hi=>?_⟩;rcases Wv i l.length with h1|h1
  ·rw[List.getElem_append_left h1];exact hq i h1
  ·have:i=n:=by simp at hi;omega
   subst this;rw[List.getElem_append_right h1];simpa using ha
def inW (w:World):kJ:=fun b=>b < w.heap.size
theorem Li {r:Reach}{b0:Nat}{t:TypeId}{v:Value}{d:DataW H}{p:List MemPlace}(ht:P.underlying t=some (.int .i64))(De:Value.okWide P w r b0 t v)(hd:DataW.Trod enc P w base spare held t v d p):∃n,v= .int .i64 n∧N3 n:=by
 obtain⟨n,h,_,_,hw⟩:=open_int ht De hd;exact⟨n,h,DY hw⟩
theorem Ai {t:TypeId}{v:Value}{d:DataW H}{p:List MemPlace}(h:DataW.Trod enc P w base spare held t v d p):∀x∈p,x.block < w.heap.size:=by
 obtain⟨m,hm⟩:=h;exact DataW.trod_lt m _ _ _ hm
end
end
section
open Go.Proofs Go.Shelf
structure SRow (HP:List Value→Int→Prop)(sz:Nat) where
 xs:List Value
 len:xs.length=sz
 one:∀v∈xs,v.oneCell'=true
 key:Int
 head:HP xs key
@[reducible] def Iv (xs:List Value)(k:Int):Prop:=xs[0]? =some (.int .i64 k)
def Bj {HP:List Value→Int→Prop}{sz:Nat}(x y:SRow HP sz):Int:=dx x.key y.key
theorem Rt {HP:List Value→Int→Prop}{sz:Nat}(x y:SRow HP sz):ltOf Bj x y=decide (x.key < y.key):=o8 _ _
theorem RZ {HP:List Value→Int→Prop}{sz:Nat}:Sort.SWO (ltOf (Bj (HP:=HP) (sz:=sz))) where
 irrefl x:=by rw[Rt];simp
 trans x y z h1 h2:=by rw[Rt]at*;simp at*;omega
 ntrans x y z h1 h2:=by rw[Rt]at*;simp at*;omega
@[reducible] def Iw (n:Nat):Inhabited (SRow Iv (n+1)):=⟨⟨Wy (n+1) (.int .i64 0),by simp,fun v hv=>by rw[XY hv];rfl,0,by unfold Iv;simp⟩⟩
theorem uY (F cur:Array Value)(h:F.size≤cur.size):(Sort.putCells id 0 F cur).toList.take F.size=F.toList∧(Sort.putCells id 0 F cur).size=cur.size:=by
 refine⟨?_,by simp[Sort.putCells]⟩;apply WS;intro i;by_cases hi:i < F.size
 ·rw[Wo hi];have hc:i < cur.size:=by omega
  simp[Sort.putCells,hi,hc]
 ·rw[Wm (by rw[V2];omega),Wm (by simp;omega)]
theorem tP {HP:List Value→Int→Prop}{sz:Nat}(n:Nat)(hs:sz=n+1)[Inhabited (SRow HP sz)](d:Array (SRow HP sz)):(Sort.flatK (fun r:SRow HP sz=>r.xs) sz d).toList=(d.toList.map (·.xs)).flatten:=by
 have bu:∀r∈d.toList.map (·.xs),r.length=sz:=fun r hr=>by
  obtain⟨x,-,rfl⟩:=Wp.1 hr;exact x.len
 have bc:(d.toList.map (·.xs)).flatten.length=d.size*sz:=by rw[b9 bu];simp
 apply WS;intro t;by_cases ht:t < d.size*sz
 ·have h1:t / sz < d.size:=X2 (by rw[XU];exact ht);have h2:t % sz < sz:=Y6 _ (by omega);have h3:t / sz*sz+t % sz=t:=by rw[XU];exact Yq t sz
  have h4:=bM bu (t / sz) (t % sz) h2;rw[h3]at h4;rw[h4];have h5:=Sort.get_flatK (fun r:SRow HP sz=>r.xs) sz d t ht;have h6:t < (Sort.flatK (fun r:SRow HP sz=>r.xs) sz d).size:=by rw[Sort.size_flatK];exact ht
  rw[getElem!_pos (Sort.flatK (fun r:SRow HP sz=>r.xs) sz d) t h6]at h5;rw[WB,Xj h6,h5];have hl:(d[t / sz]).xs.length=sz:=(d[t / sz]).len;have e7:(d[t / sz]).xs[t % sz]? =some ((d[t / sz]).xs[t % sz]!):=by
   rw[getElem!_pos (d[t / sz]).xs (t % sz) (by rw[hl];exact h2)];exact VY _
  rw[getElem!_pos d (t / sz) h1];rw[V7,WB,Xj h1];simp only[WQ,Xn];exact e7.symm
 ·rw[Wm (by simp;omega),Wm (by omega)]
theorem Ix {HP:List Value→Int→Prop}{n:Nat}(inh:Inhabited (SRow HP (n+1))){P:Program}{ρ:Ren}(L:SlLaysF0.n6 P ρ){f fc E:Nat}(hf:ρ.f 6=f)(aE:∀w,(isAgg (ρ.t 24)).run P w= .ok true w)(zE:∀w,(Go.sizeOf (ρ.t 24)).run P w= .ok (n+1) w)(eg:∀args w,(callFunc fc args).run P w= .ok (.enter fc args) w)
 (JK:∀(x y:SRow HP (n+1)) (W:World),Calls P fc #[.agg x.xs.toArray,.agg y.xs.toArray] W fun e w'=>e= .returned (.int .i64 (Bj x y))∧∃q os',w'=Sort.grow (W.drewN q) os')
 (ds:List (SRow HP (n+1))) (w:World) (gb cap:Nat) (cur:Array Value) (hh:w.heap[gb]? =some (.cells cur E (0,0))) (hc:cur.toList.take (ds.length*(n+1))=(ds.map (·.xs)).flatten) (ck:ds.length*(n+1)≤cur.size) (hl:ds.length≤1000000):
 Calls P f #[.slice (some ⟨gb,0,none⟩) ds.length cap,.func (.func fc) #[] #[]] w fun e w'=>e= .returned (.tuple #[])∧∃(ds':List (SRow HP (n+1))) (cur':Array Value),ds'.Perm ds∧ds'.Pairwise (fun x y=>x.key≤y.key)∧w'.heap[gb]? =some (.cells cur' E (0,0))∧cur'.size=cur.size∧
  cur'.toList.take (ds.length*(n+1))=(ds'.map (·.xs)).flatten∧OneB w w' (some gb):=by
 have hg:gb < w.heap.size:=(W5.1 hh).1;have iN:=tP n rfl ds.toArray;rw[Xs]at iN;have hH:Sort.HoldsK (fun r:SRow HP (n+1)=>r.xs) (n+1) w gb 0 ds.toArray:=by
  intro t ht;have Ul:=ht;rw[Sort.size_flatK,Xb]at Ul;refine⟨?_,eV hh⟩;have bE:∀o,w.cell? ⟨gb,o,none⟩=cur[o]? :=fun o=>by simp[Xl,hh]
  rw[Wn,bE];have h1:(cur.toList.take (ds.length*(n+1)))[t]? =cur[t]? :=by rw[Wo Ul];simp
  rw[←h1,hc,←iN,WB,getElem!_pos (Sort.flatK (fun r:SRow HP (n+1)=>r.xs) (n+1) ds.toArray) t ht,Xj ht];rfl
 have Q9:=AnyQ.slices_SortFunc L (n+1) aE zE (fun r:SRow HP (n+1)=>r.xs) (·.len) (·.one) Bj RZ fc #[] gb 0 cap ds.toArray w eg (fun _ _ _ _ x y=>JK x y _) hH hg (by simp;omega);rw[hf,Xb]at Q9;refine Calls.mono Q9 ?_;rintro e w' ⟨rfl,d',m,os,⟨Ra,-,hp⟩,hs,rfl⟩;replace Ra:d'.size=ds.length:=by simpa using Ra
 have hF:(Sort.flatK (fun r:SRow HP (n+1)=>r.xs) (n+1) d').size≤cur.size:=by rw[Sort.size_flatK,Ra];exact ck
 obtain⟨p1,p2⟩:=uY (Sort.flatK (fun r:SRow HP (n+1)=>r.xs) (n+1) d') cur hF;refine⟨rfl,d'.toList,Sort.putCells id 0 (Sort.flatK (fun r:SRow HP (n+1)=>r.xs) (n+1) d') cur,?_,?_,?_,p2,?_,?_⟩
 ·have e1:d'.extract 0 ds.length=d':=by rw[←Ra];exact Array.extract_size
  have e2:ds.toArray.extract 0 ds.length=ds.toArray:=by simp
  rw[e1,e2]at hp;simpa using hp
 ·rw[WG];intro i j hi hj hij;have hj':j < d'.size:=by simpa using hj
  have:=hs i j (Wr _) hij (by omega);rw[Rt,getElem!_pos d' i (by omega),getElem!_pos d' j hj']at this;simpa using this
 ·show (Sort.grow (Sort.putRow id (Sort.ahead w m) gb 0 (Sort.flatK (fun r:SRow HP (n+1)=>r.xs) (n+1) d')) os).heap[gb]? =_;rw[Sort.heap_grow_old _ _ (by simpa using hg)];show (w.heap.modify gb (Sort.onCells _))[gb]? =_;rw[Xq,if_pos rfl,hh];rfl
 ·rw[show ds.length*(n+1)=(Sort.flatK (fun r:SRow HP (n+1)=>r.xs) (n+1) d').size by rw[Sort.size_flatK,Ra],p1,tP n rfl]
 ·refine⟨rfl,rfl,rfl,?_,fun b hb bq=>?_⟩
  ·show w.heap.size≤(Sort.grow (Sort.putRow id (Sort.ahead w m) gb 0 _) os).heap.size;rw[Sort.size_grow,Sort.size_putRow,Sort.heap_ahead];omega
  ·show (Sort.grow (Sort.putRow id (Sort.ahead w m) gb 0 (Sort.flatK (fun r:SRow HP (n+1)=>r.xs) (n+1) d')) os).heap[b]? =_;rw[Sort.heap_grow_old _ _ (by simpa using hb)];show (w.heap.modify gb (Sort.onCells _))[b]? =_;rw[Xq,if_neg (fun e=>bq (by rw[e]))]
theorem Iy {α β:Type}{ka:α→Int}{kb:β→Int}{l l':List α}{d d':List β}(hk:d.map kb=l.map ka)(hp:l'.Perm l)(hs:l'.Pairwise fun x y=>ka x < ka y)(hq:d'.Perm d)(ht:d'.Pairwise fun x y=>kb x≤kb y):d'.map kb=l'.map ka:=
 List.Perm.eq_of_pairwise (le:=fun x y:Int=>x≤y) (fun a b _ _ h1 h2=>by omega) (by rw[YF];exact ht) (by rw[YF];exact hs.imp fun h=>by omega) ((hq.map kb).trans (by rw[hk];exact(hp.map ka).symm))
theorem DZ {HP:List Value→Int→Prop}{n:Nat}(inh:Inhabited (SRow HP (n+1))){P:Program}{ρ:Ren}(L:SlLaysF0.n6 P ρ){f fc E g:Nat}(hf:ρ.f 6=f)(Mt:sG P f)(aE:∀w,(isAgg (ρ.t 24)).run P w= .ok true w)(zE:∀w,(Go.sizeOf (ρ.t 24)).run P w= .ok (n+1) w)(eg:∀args w,(callFunc fc args).run P w= .ok (.enter fc args) w)
 (JK:∀(x y:SRow HP (n+1)) (W:World),Calls P fc #[.agg x.xs.toArray,.agg y.xs.toArray] W fun e w'=>e= .returned (.int .i64 (Bj x y))∧∃q os',w'=Sort.grow (W.drewN q) os')
 {α:Type} (enc:α→List D) (key:α→Int) {l l':List α} (O7:∀x∈l,∀vs:List Value,vs.length=n+1→(∀(j:Nat) (d:D) (v:Value),(enc x)[j]? =some d→vs[j]? =some v→∃M w,RepD M w d v)→HP vs (key x)) (wR:l≠[]) (hp:l'.Perm l) (hs:l'.Pairwise fun x y=>key x < key y) (ck:l.length≤1000000):
 MSpec P f [.own 0 g,.d (.clo fc [])] [.row E (n+1) g (aa (l.map enc))] (.d (.tup [])) [.row E (n+1) g (aa (l'.map enc))]:=by
 refine⟨Mt,Wa _,by simp[af,ag],by simp[ay,aH,an],fun X hP hn hm w c vs hr jn=>?_⟩;have bc:=jn.1;match vs,bc with
 |[v0,v1],_=>
  have r0:=jn.2 0 _ v0 rfl rfl;have r1:=bA (jn.2 1 _ v1 rfl rfl);have bq:aa (l.map enc)≠[]:=by simpa[aa]using wR
  have bn:=hr.chunk 0;cases r0 with
  |own _ _ _ dy h1=>
   obtain⟨gb,cap,rfl⟩:=j4 bn dy bq;obtain⟨cur,xs,q1,q2,q3,q4,q5,q6,q7,q8,q9,q10,q11⟩:=di bn dy bq;have JF:=aZ.one q2 (fun d hd=>by obtain⟨r,hr,hd⟩:=Yy.1 hd;exact q6 r hr d hd);have Pp:(aa (l.map enc)).length=l.length:=by rw[aA,Wg]
   rw[Pp]at q3 q4 q8 q10 dy ⊢;have pF:v1= .func (.func fc) #[] #[]:=by
    cases r1 with
    |clo _ _ vs hl aV=>
     have:vs=[]:=by simpa using hl.symm
     subst this;rfl
   subst pF;have Gk:cur.toList.take (l.length*(n+1))=xs:=by
    apply WS;intro j;by_cases hj:j < l.length*(n+1)
    ·rw[Wo hj,WB,q4 j hj]
    ·rw[Wm (by rw[V2];omega),Wm (by omega)]
   obtain⟨ds,oC,cZ⟩:=qw (Q:=fun i (r:SRow HP (n+1))=>r.xs=(xs.drop (i*(n+1))).take (n+1)∧∃x,l[i]? =some x∧r.key=key x) l.length fun i hi=>by
    have hb:(i+1)*(n+1)≤l.length*(n+1):=WX _ hi;rw[Xf]at hb;obtain⟨x,hx⟩:∃x,l[i]? =some x:=⟨_,VY hi⟩;have Mc:((xs.drop (i*(n+1))).take (n+1)).length=n+1:=by rw[V2,Wt];omega
    have h0:HP ((xs.drop (i*(n+1))).take (n+1)) (key x):=O7 x (V0 hx) _ Mc fun j d v hd hv=>by
     have hj:j < n+1:=by rw[←Mc];exact(V3.1 hv).1
     rw[Wo hj,WU]at hv;have iN:=bM q5 i j hj;rw[iI,V7,hx]at iN;simp only[WQ,Xn,V7,hd]at iN;exact⟨_,_,bA (q2.2 _ _ v iN hv)⟩
    exact⟨⟨(xs.drop (i*(n+1))).take (n+1),Mc,fun v hv=>JF v (WL (WN hv)),key x,h0⟩,rfl,x,hx,rfl⟩
   have Nh:∀r∈ds.map (·.xs),r.length=n+1:=fun r hr=>by obtain⟨x,-,rfl⟩:=Wp.1 hr;exact x.len
   have hflat:(ds.map (·.xs)).flatten=xs:=by
    apply WS;intro t;by_cases ht:t < l.length*(n+1)
    ·have h1:t / (n+1) < l.length:=X2 (by rw[XU];exact ht);have h2:t % (n+1) < n+1:=Y6 _ (by omega);have h3:t / (n+1)*(n+1)+t % (n+1)=t:=by rw[XU];exact Yq t (n+1)
     generalize t / (n+1)=i at h1 h3;generalize t % (n+1)=j at h2 h3;have h4:=bM Nh i j h2;rw[h3,V7,VY (show i < ds.length by omega)]at h4;rw[h4];simp only[WQ,Xn];rw[(cZ _ (show i < ds.length by omega)).1,Wo h2,WU,h3]
    ·rw[Wm (by rw[b9 Nh,Wg,oC];omega),Wm (by omega)]
   have rz:ds.map (·.key)=l.map key:=by
    apply WS;intro i;rw[V7,V7];by_cases hi:i < l.length
    ·obtain⟨-,x,hx,hk⟩:=cZ i (by omega);rw[VY (by omega),hx];simp[hk]
    ·rw[Wm (show ds.length≤i by omega),Wm (show l.length≤i by omega)];rfl
   have fY:=Ix inh L hf aE zE eg JK ds w gb cap cur q1 (by rw[oC,Gk,hflat]) (by rw[oC];exact q8) (by omega);rw[oC]at fY;rw[←hP]at fY;rw[hP]at fY;refine fY.mono fun e w' ⟨he,ds',cur',hp',hs',hw',mK,uB,da⟩=>?_;have fj:=Iy (ka:=key) (kb:=SRow.key) rz hp hs hp' hs';have O8:ds'.length=l.length:=by rw[hp'.length_eq,oC]
   have JL:l'.length=l.length:=hp.length_eq;have yc:∀r∈ds'.map (·.xs),r.length=n+1:=fun r hr=>by obtain⟨x,-,rfl⟩:=Wp.1 hr;exact x.len
   have C9:∀r∈aa (l'.map enc),r.length=n+1:=fun r hr=>by
    obtain⟨q,hq,rfl⟩:=fw hr;obtain⟨x,hx,rfl⟩:=Wp.1 hq;exact q5 _ (Wp.2 ⟨enc x,Wp.2 ⟨x,hp.mem_iff.1 hx,rfl⟩,rfl⟩)
   have OZ:∀r∈aa (l'.map enc),∀d∈r,d.one=true:=fun r hr d hd=>by
    obtain⟨q,hq,rfl⟩:=fw hr;obtain⟨x,hx,rfl⟩:=Wp.1 hq;exact q6 _ (Wp.2 ⟨enc x,Wp.2 ⟨x,hp.mem_iff.1 hx,rfl⟩,rfl⟩) d hd
   have jX:∀i j (hi:i < l.length) (hj:j < l.length),key l[i]=key l[j]→i=j:=by
    have h1:(l'.map key).Nodup:=by
     unfold List.Nodup;rw[YF];exact hs.imp fun h=>by omega
    have h2:(l.map key).Nodup:=(hp.map key).nodup_iff.1 h1;intro i j hi hj h;rw[List.nodup_iff_pairwise_ne,WG]at h2;rcases X8 i j with hlt|he|hlt
    ·exact absurd (by rw[YK,YK];exact h) (h2 i j (by simpa using hi) (by simpa using hj) hlt)
    ·exact he
    ·exact absurd (by rw[YK,YK];exact h.symm) (h2 j i (by simpa using hj) (by simpa using hi) hlt)
   have mJ:aZ c w (aa (l'.map enc)).flatten (ds'.map (·.xs)).flatten:=by
    refine⟨by rw[b9 C9,b9 yc,aA,Wg,Wg,O8,JL],fun t d u ht hu=>?_⟩;have Vh:t < l.length*(n+1):=by
     have:=(V3.1 hu).1;rw[b9 yc,Wg,O8]at this;exact this
    have h1:t / (n+1) < l.length:=X2 (by rw[XU];exact Vh);have h2:t % (n+1) < n+1:=Y6 _ (by omega);have h3:t / (n+1)*(n+1)+t % (n+1)=t:=by rw[XU];exact Yq t (n+1)
    generalize t / (n+1)=i at h1 h3;generalize t % (n+1)=j at h2 h3;have e1:=bM C9 (i) (j) h2;have e2:=bM yc (i) (j) h2;rw[h3,iI,V7,VY (l:=l') (show i < l'.length by omega)]at e1;rw[h3,V7,VY (l:=ds') (show i < ds'.length by omega)]at e2;simp only[WQ,Xn]at e1 e2;obtain⟨p,lG,JD⟩:=W9.1 (hp'.mem_iff.1 (W8 (show i < ds'.length by omega)));obtain⟨p2,Ta,Rb⟩:=W9.1 (hp.mem_iff.1 (W8 (show i < l'.length by omega)));obtain⟨g1,x,g2,g3⟩:=cZ p lG;have hx:l[p]'(by omega)=x:=by rw[VY (by omega)]at g2;exact WD.inj g2
    have Rc:(ds'[i]'(by omega)).key=key (l'[i]'(by omega)):=by
     have:=congrArg (fun z:List Int=>z[i]?) fj;simp only[V7]at this;rw[VY (by omega),VY (by omega)]at this;exact WD.inj this
    have Vi:p=p2:=jX p p2 (by omega) Ta (by rw[Rb,←Rc,←JD,g3,hx]);subst Vi;rw[←Rb,hx]at e1;rw[←JD,g1,Wo h2,WU]at e2;have e3:=bM q5 p (j) h2;rw[iI,V7,g2]at e3;simp only[WQ,Xn]at e3;rw[←e3]at e1;rw[e1]at ht;rw[e2]at hu;exact q2.2 _ d u ht hu
   have qE:0 < cap:=by have:=XM.2 wR;omega
   have A7:=hr.put_row (w':=w') (k:=0) (rows':=aa (l'.map enc)) (xs':=(ds'.map (·.xs)).flatten) rfl dy (by rw[cg qE];exact da) (by
    rw[aA,Wg,JL];exact .row gb l.length cap cur' _ qE hw' q10 q9 (by rw[mK];exact q11) (by rw[b9 yc,Wg,O8]) uB) mJ C9 OZ
   have kF:bS [(0,Chunk.row E (n+1) g (aa (l'.map enc)))] (bp [] [.row E (n+1) g (aa (l.map enc))]).heap=aw [.row E (n+1) g (aa (l'.map enc))]:=by
    funext k;rw[oO];cases k with
    |zero=>rfl
    |succ k=>rfl
   rw[kF]at A7;refine⟨_,c,he,.d _ _ (.tup [] [] rfl fun j d x h=>by simp at h),A7⟩
theorem sa {n:Nat}{P:Program}{ρ:Ren}(L:SlLaysF0.n6 P ρ){f fc E g:Nat}(hf:ρ.f 6=f)(Mt:sG P f)(aE:∀w,(isAgg (ρ.t 24)).run P w= .ok true w)(zE:∀w,(Go.sizeOf (ρ.t 24)).run P w= .ok (n+1) w)(eg:∀args w,(callFunc fc args).run P w= .ok (.enter fc args) w)
 (JK:∀(x y:SRow Iv (n+1)) (W:World),Calls P fc #[.agg x.xs.toArray,.agg y.xs.toArray] W fun e w'=>e= .returned (.int .i64 (Bj x y))∧∃q os',w'=Sort.grow (W.drewN q) os')
 {α:Type} (enc:α→List D) (key:α→Int) (O7:∀x,(enc x)[0]? =some (.v (.int .i64 (key x)))) {l l':List α} (wR:l≠[]) (hp:l'.Perm l) (hs:l'.Pairwise fun x y=>key x < key y) (ck:l.length≤1000000):
 MSpec P f [.own 0 g,.d (.clo fc [])] [.row E (n+1) g (aa (l.map enc))] (.d (.tup [])) [.row E (n+1) g (aa (l'.map enc))]:=
 DZ (Iw n) L hf Mt aE zE eg JK enc key (fun x _ vs hl hr=>by
  obtain⟨v,hv⟩:∃v,vs[0]? =some v:=⟨_,VY (by omega)⟩;obtain⟨M,w,h⟩:=hr 0 _ v (O7 x) hv;show vs[0]? =_;rw[hv];cases h;rfl) wR hp hs ck
end
section
open Go.Proofs Go.Shelf
theorem iM (a:Int)(W:World):Calls prog 245 #[.int .i64 a] W fun e w'=>e= .returned (.bool false)∧w'=W:=by
 go_enter func245,ntmps245
 go_wp2_with fail
 go_ret
 exact⟨si (by simp),rfl⟩
theorem fD (a b:Int)(W:World):Calls prog 176 #[.int .i64 a,.int .i64 b] W fun e w'=>e= .returned (.int .i64 (dx a b))∧w'=W:=by
 by_cases h:a < b
 ·have e:dx a b= -1:=by simp[dx,h]
  rw[e];go_enter func176,ntmps176
  go_wp2_with fail
  refine(iM a _).mono ?_;rintro e w1 ⟨rfl,rfl⟩;go_wp2_with fail
  refine(iM b _).mono ?_;rintro e w1 ⟨rfl,rfl⟩;go_wp2_with fail
  go_ret
  exact⟨bV rfl,rfl⟩
 ·by_cases h2:b < a
  ·have e:dx a b=1:=by simp[dx,h,h2]
   rw[e];go_enter func176,ntmps176
   go_wp2_with fail
   refine(iM a _).mono ?_;rintro e w1 ⟨rfl,rfl⟩;go_wp2_with fail
   refine(iM b _).mono ?_;rintro e w1 ⟨rfl,rfl⟩;go_wp2_with fail
   go_ret
   exact⟨bV rfl,rfl⟩
  ·have e:dx a b=0:=by simp[dx,h,h2]
   rw[e];go_enter func176,ntmps176
   go_wp2_with fail
   refine(iM a _).mono ?_;rintro e w1 ⟨rfl,rfl⟩;go_wp2_with fail
   refine(iM b _).mono ?_;rintro e w1 ⟨rfl,rfl⟩;go_wp2_with fail
   go_ret
   exact⟨bV rfl,rfl⟩
end
section
open Go.Proofs Go.Shelf
theorem Iz (x y:SRow Iv 3)(W:World):Calls prog 250 #[.agg x.xs.toArray,.agg y.xs.toArray] W fun e w'=>e= .returned (.int .i64 (Bj x y))∧∃q os',w'=Sort.grow (W.drewN q) os':=by
 obtain⟨xs,xl,x1,a,xh⟩:=x;obtain⟨ys,yl,y1,b,yh⟩:=y;match xs,xl,ys,yl with
 |[u0,u1,u2],_,[v0,v1,v2],_=>
  simp[Iv]at xh yh;subst xh;subst yh;have hc:=fD a b;unfold Bj;simp only;generalize dx a b=r at*;replace hc:=VZ hc;clear x1 y1;go_enter func250,ntmps250
  go_wp2_with fail
  refine(hc.out _).mono ?_;rintro e w1 ⟨rfl,rfl⟩;go_wp2_with fail
  go_ret
  exact⟨bV rfl,0,_,by rw[Sort.alloc_eq_grow,Sort.alloc_eq_grow,Sort.grow_grow];rfl⟩
theorem Cn {l l':List Rng}(g:Nat)(wR:l≠[])(hp:l'.Perm l)(hs:l'.Pairwise fun x y=>(fun r:Rng=>r.at_.at_) x < (fun r:Rng=>r.at_.at_) y)(ck:l.length≤1000000):
 MSpec prog 249 [.own 0 g,.d (.clo 250 [])] [.row 100 3 g (aa (l.map cf))] (.d (.tup [])) [.row 100 3 g (aa (l'.map cf))]:=
 sa sortRange rfl (ce func249 (by kernel_rfl) rfl) isAgg100 sizeOf100 (enters_of func250 (by kernel_rfl) rfl) Iz cf (fun r:Rng=>r.at_.at_) (fun _=>rfl) wR hp hs ck
end
theorem Lj (q r:Rng):ae prog 248 [.agg (cf q),.ept (cf r)] (.v (.bool (q.at_.meets r.at_))):=by
 have hm:ae prog 124 [.agg (aL q.at_),.agg (aL r.at_)] (.v (.bool (q.at_.meets r.at_))):=m4 _ _;refine pj func248 ntmps248 results248 ?_;exact bx
theorem Lk (v:Vpc)(r:Rng):ae prog 183 [.agg (aG v),.agg (cf r)] (.tup [.agg (aG (cU v r).1),.v (.int .i64 (cU v r).2)]):=by
 obtain⟨R,hR⟩:∃R,R=cU v r:=⟨_,rfl⟩;rw[←hR];replace hR:=VZ hR;by_cases hc:cq v=0
 ·have hk:=bt hc;have ci:=jf v hc hk.n4 hk.n6 hk.n8;have hid:=iV r.pool;have bn:=m3 r.at_;have lN:=kU kf (fun q=>q.at_.meets r.at_) v.ranges 248 [.ept (cf r)] (by have:=hk.n4;omega) (fun q _=>Lj q r);have cz:R=if mr v r≠0 then (Vpc.zero,mr v r)else ({v with ranges:=eo (·.at_.at_) r v.ranges},0):=by rw[hR.out];unfold cU;rw[if_neg (by simpa using hc)]
  have Vj:=hk.n4;by_cases cD:mr v r≠0
  ·rw[if_pos cD]at cz;unfold mr at cz cD;generalize chk r.at_.at_ r.at_.len=K at*;generalize du r.pool=I at*;generalize (v.ranges.any fun q=>q.at_.meets r.at_)=M at*;replace cz:=VZ cz;replace cD:=VZ cD;clear hR hc hk;have Pu:((v.ranges.length:Int)==4)=decide (v.ranges.length=4):=by rw[Xh];simp;omega
   refine pj func183 ntmps183 results183 ?_;have z1z:=Ln.mk (ls:=[]) (ci);refine rK ?_ ?_ ?_ ?_ ?_ ?_ ?_ ?_<;>first|(with_reducible exact True.intro)|intros
   all_goals
    have h1:=cz.out;have h2:=cD.out;clear hid bn lN ci;first
     |(exfalso;grind)
     |(rw[show R=(Vpc.zero,1) from (by rw[h1];grind)];exact dg)
     |(rw[show R=(Vpc.zero,6) from (by rw[h1];grind)];exact dg)
     |(rw[show R=(Vpc.zero,2) from (by rw[h1];grind)];exact dg)
  ·rw[if_neg cD]at cz;have hg:mr v r=0:=by simpa using cD
   obtain⟨g1,g2,g3,g4⟩:chk r.at_.at_ r.at_.len=0∧du r.pool=true∧(v.ranges.any fun q=>q.at_.meets r.at_)=false∧v.ranges.length≠4:=by
    unfold mr at hg;generalize (v.ranges.any fun q=>q.at_.meets r.at_)=M at*;grind
   have bq:∀q∈v.ranges,q.at_.at_≠r.at_.at_:=fun q hq=>zR (kW (hk.ranges q hq)) (by simp[Pfx.right,bQ,g1]) (by have:=Xu.1 g3 q hq;simpa using this);have pP:=Cn (l:=v.ranges++[r]) (l':=eo (·.at_.at_) r v.ranges) 2 (by simp) (eM _ _ _) (eE hk.rr bq) (by simp;omega);rw[g1]at bn;rw[g2]at hid;rw[g3]at lN;have Pu:((v.ranges.length:Int)==4)=false:=by simp;omega
   have mO:v.ranges.length+1≤100:=by omega
   simp only[V6,V1,V5]at pP;rw[cz];clear hR cz hc hk bq hg cD;refine pj func183 ntmps183 results183 ?_;have z1z:=Ln.mk (ls:=[]) (ci);have z2z:=Ln.mk (ls:=[4]) (pP);exact bx
 ·have ci:=je v hc;have h1:(cq v !=0)=true:=by simpa using hc
  have hr:R=(Vpc.zero,cq v):=by rw[hR.out];unfold cU;rw[if_pos hc]
  rw[hr];replace hr:=VZ hr;refine pj func183 ntmps183 results183 ?_;have z1z:=Ln.mk (ls:=[]) (ci);refine aF ?_<;>intros;exact dg
theorem Aj (p q:Pfx):([p.at_,p.len]==[q.at_,q.len])=decide (p=q):=by
 rw[Xh];cases p;cases q;simp
theorem Ak (l:List Rng)(x:Rng)(hl:l.length≤1000000000):
 ae prog 171 [.sl 3 (l.map cf),.agg (cf x)] (.v (.int .i64 (cY (fun y=>decide (x=y)) l))):=by
 refine pj func171 ntmps171 results171 ?_;refine aF ?_<;>intros;refine cp ah av (fun m e h=>∃k:Nat,k≤l.length∧(∀y∈l.take k,decide (x=y)=false)∧m=l.length - k∧e=[(8,.d (.v (.int .i64 k))),(7,.d (.v (.int .i64 l.length))),(4,.d (.v (.int .i64 0))),(3,.ptr 0 0),(0,.d (.sl 3 (l.map cf)))]∧h=[.box 100 ((cf x).map .d)]) _ _ _ ⟨0,Wr _,by simp,rfl,rfl,rfl⟩ (wf) ?_;rintro m e h ⟨k,hk,df,rfl,rfl,rfl⟩ CL kI;by_cases hlt:k < l.length
 ·obtain⟨y,hy⟩:∃y,l[k]? =some y:=⟨_,VY hlt⟩;have ej:(k:Int) < (l.length:Int):=by omega
  have ed:=wi k (by omega);have he:=Ah x y;cases hp:decide (x=y)with
  |false=>
   rw[hp]at he;have Df:∀z∈l.take (k+1),decide (x=z)=false:=fun z hz=>by
    rw[aj hy]at hz;rcases WJ.1 hz with hz|hz
    ·exact df z hz
    ·rw[WP]at hz;rw[hz];exact hp
   replace Df:=VZ Df;replace df:=VZ df;replace hp:=VZ hp;refine aF ?_<;>intros;refine kI _ _ _ _ _ ?_ ⟨k+1,hlt,Df.out,rfl,rfl,rfl⟩ (wf);omega
  |true=>
   rw[hp]at he;have jm:cY (fun y=>decide (x=y)) l=k:=eJ hy hp df;rw[jm];replace jm:=VZ jm;replace df:=VZ df;replace hp:=VZ hp;exact bx;all_goals exact au.refl _
 ·obtain rfl:k=l.length:=by omega
  rw[V4]at df;rw[eK df];replace df:=VZ df;exact bx;all_goals exact au.refl _
theorem tQ (l:List Rng)(x:Rng)(hl:l.length≤1000000000):
 ae prog 99 [.sl 3 (l.map cf),.agg (cf x)] (.v (.bool (l.any fun y=>decide (x=y)))):=by
 have hi:=Ak l x hl;have mM:=eY (fun y=>decide (x=y)) l;refine pj func99 ntmps99 results99 ?_;exact bx;all_goals exact au.refl _
@[go_sem] def f9 (b:Bok)(vp lp:PV)(c:Cmd)(a:Ans):List PV:=[.d (.v (.int .i64 b.tick)),.d (.sl 9 (b.pools.map al)),vp,lp,.d (.v (.int .i64 c.op)),.d (.v (.int .i64 c.a)),.d (.v (.int .i64 c.b)),.d (.v (.int .i64 c.c)),.d (.v (.int .i64 c.at_.at_)),.d (.v (.int .i64 c.at_.len)),.d (.v (.int .i64 c.rule.min)),.d (.v (.int .i64 c.rule.max)),.d (.v (.int .i64 c.rule.usual)),.d (.v (.int .i64 c.rule.cool)),.d (.v (.int .i64 a.err)),.d (.v (.int .i64 a.at_.at_)),.d (.v (.int .i64 a.at_.len)),.d (.v (.int .i64 a.n))]
theorem Ll (v:Vpc)(c:Cmd):ae prog 96 [.agg (aG v),.ept (fl c)] (.v (.bool (v.id==c.c))):=by
 refine pj func96 ntmps96 results96 ?_;exact bx
theorem Lp (v:Vpc)(c:Cmd)(hl:v.ranges.length≤1000000000):ae prog 98 [.agg (aG v),.ept (fl c)] (.v (.bool (v.ranges.any fun r=>decide ((⟨c.at_,c.a⟩:Rng)=r)))):=by
 have h:=tQ v.ranges ⟨c.at_,c.a⟩ hl;generalize (v.ranges.any fun r=>decide ((⟨c.at_,c.a⟩:Rng)=r))=x at*;refine pj func98 ntmps98 results98 ?_;exact bx
def MN (vs:List Vpc)(r:Rng):Bool:=vs.any fun v=>v.ranges.any fun x=>decide (r=x)
def nD (b:Bok)(vs:List Vpc)(c:Cmd):Bok × Ans:=
 if c.op=1 then ((gX b c.a c.at_ c.rule).1,.er (gX b c.a c.at_ c.rule).2)
 else if c.op=2 then ((jE b c.a c.b c.c c.rule).1,⟨(jE b c.a c.b c.c c.rule).2.2,(jE b c.a c.b c.c c.rule).2.1,0⟩)
 else if c.op=3 then ((jc b c.a).1,.er (jc b c.a).2)
 else if c.op=4 then ((nC b c.a).1,.er (nC b c.a).2)
 else if c.op=5 then if iY vs c.c then (b,.er 6)else ((eR b c.a c.b c.c).1,⟨(eR b c.a c.b c.c).2.2,(eR b c.a c.b c.c).2.1,0⟩)
 else if c.op=6 then if MN vs ⟨c.at_,c.a⟩then (b,.er 9)else ((jb b c.a c.at_).1,.er (jb b c.a c.at_).2)
 else (b,.zero)
theorem N4 (b:Bok)(vs:List Vpc)(lp:List Lnk)(c:Cmd)(hz:∀p∈b.pools,p.leases.length≤3518437208882)(h6:vs.length≤6)(h4:∀v∈vs,v.ranges.length≤1000000000):
 MSpec prog 51 [.ptr 0 0] [.box 128 (f9 b (.own 1 vs.length) (.d (.sl 2 (lp.map cA))) c .zero),.row 88 3 vs.length (aa (vs.map aG))] (.d (.v (.bool (decide (1≤c.op∧c.op≤6)))))
  [.box 128 (f9 (nD b vs c).1 (.own 1 vs.length) (.d (.sl 2 (lp.map cA))) c (nD b vs c).2),.row 88 3 vs.length (aa (vs.map aG))]:=by
 unfold nD;by_cases h1:c.op=1
 ·rw[if_pos h1,decide_eq_true (by omega)];have hp:=NW b c.a c.at_ c.rule hz;generalize gX b c.a c.at_ c.rule=R at*;replace hz:=VZ hz;replace h4:=VZ h4;refine fP ah av func51 rfl ntmps51 results51 (by kernel_rfl) (by simp) (by simp[af,ag]) (by simp[ay,aH,af,ag,f9,aK,an]) ?_;refine aF ?_;exact wf
 rw[if_neg h1];by_cases h2:c.op=2
 ·rw[if_pos h2,decide_eq_true (by omega)];have hp:=NY b c.a c.b c.c c.rule hz;generalize jE b c.a c.b c.c c.rule=R at*;clear h1;replace hz:=VZ hz;replace h4:=VZ h4;refine fP ah av func51 rfl ntmps51 results51 (by kernel_rfl) (by simp) (by simp[af,ag]) (by simp[ay,aH,af,ag,f9,aK,an]) ?_;refine aF ?_;exact wf
 rw[if_neg h2];by_cases h3:c.op=3
 ·rw[if_pos h3,decide_eq_true (by omega)];have hp:=Le b c.a hz;generalize jc b c.a=R at*;clear h1 h2;replace hz:=VZ hz;replace h4:=VZ h4;refine fP ah av func51 rfl ntmps51 results51 (by kernel_rfl) (by simp) (by simp[af,ag]) (by simp[ay,aH,af,ag,f9,aK,an]) ?_;refine aF ?_;exact wf
 rw[if_neg h3];by_cases h4':c.op=4
 ·rw[if_pos h4',decide_eq_true (by omega)];have hp:=N2 b c.a hz;generalize nC b c.a=R at*;clear h1 h2 h3;replace hz:=VZ hz;replace h4:=VZ h4;refine fP ah av func51 rfl ntmps51 results51 (by kernel_rfl) (by simp) (by simp[af,ag]) (by simp[ay,aH,af,ag,f9,aK,an]) ?_;refine aF ?_;exact wf
 rw[if_neg h4'];by_cases h5:c.op=5
 ·rw[if_pos h5,decide_eq_true (by omega)];have lN:=tL fM (fun v=>v.id==c.c) vs 96 [.ept (fl c)] (by omega) (fun v _=>Ll v c);have hp:=Il b c.a c.b c.c hz;generalize eR b c.a c.b c.c=R at*;unfold iY;clear h1 h2 h3 h4';cases hb:vs.any fun v=>v.id==c.c
  ·rw[hb]at lN;replace hb:=VZ hb;simp only[fl,h5]at lN;replace hz:=VZ hz;replace h4:=VZ h4;refine fP ah av func51 rfl ntmps51 results51 (by kernel_rfl) (by simp) (by simp[af,ag]) (by simp[ay,aH,af,ag,f9,aK,an]) ?_;refine aF ?_;exact wf
  ·rw[hb]at lN;replace hb:=VZ hb;simp only[fl,h5]at lN;clear hp;replace hz:=VZ hz;replace h4:=VZ h4;refine fP ah av func51 rfl ntmps51 results51 (by kernel_rfl) (by simp) (by simp[af,ag]) (by simp[ay,aH,af,ag,f9,aK,an]) ?_;refine aF ?_;exact wf
 rw[if_neg h5];by_cases h6':c.op=6
 ·rw[if_pos h6',decide_eq_true (by omega)];have lN:=tL fM (fun v=>v.ranges.any fun r=>decide ((⟨c.at_,c.a⟩:Rng)=r)) vs 98 [.ept (fl c)] (by omega) (fun v hv=>Lp v c (h4 v hv));have hp:=Im b c.a c.at_ hz;generalize jb b c.a c.at_=R at*;unfold MN;clear h1 h2 h3 h4' h5;cases hb:vs.any fun v=>v.ranges.any fun r=>decide ((⟨c.at_,c.a⟩:Rng)=r)
  ·rw[hb]at lN;replace hb:=VZ hb;simp only[fl,h6']at lN;replace hz:=VZ hz;replace h4:=VZ h4;refine fP ah av func51 rfl ntmps51 results51 (by kernel_rfl) (by simp) (by simp[af,ag]) (by simp[ay,aH,af,ag,f9,aK,an]) ?_;refine aF ?_;exact wf
  ·rw[hb]at lN;replace hb:=VZ hb;simp only[fl,h6']at lN;clear hp;replace hz:=VZ hz;replace h4:=VZ h4;refine fP ah av func51 rfl ntmps51 results51 (by kernel_rfl) (by simp) (by simp[af,ag]) (by simp[ay,aH,af,ag,f9,aK,an]) ?_;refine aF ?_;exact wf
 rw[if_neg h6',decide_eq_false (by omega)];have e1:(c.op==1)=false:=by simpa using h1
 have e2:(c.op==2)=false:=by simpa using h2
 have e3:(c.op==3)=false:=by simpa using h3
 have e4:(c.op==4)=false:=by simpa using h4'
 have e5:(c.op==5)=false:=by simpa using h5
 have e6:(c.op==6)=false:=by simpa using h6'
 clear h1 h2 h3 h4' h5 h6';replace hz:=VZ hz;replace h4:=VZ h4;refine fP ah av func51 rfl ntmps51 results51 (by kernel_rfl) (by simp) (by simp[af,ag]) (by simp[ay,aH,af,ag,f9,aK,an]) ?_;refine aF ?_;exact wf
theorem tT {α:Type}(enc:α→List D)(l:List α)(hl:l.length≤1000000000):
 MSpec prog 88 [.d (.sl 2 (l.map enc))] [] (.own 0 1) [.row 91 2 1 (aa (l.map enc))]:=by
 cases l with
 |nil=>
  refine o5 (pl:=[]) (ql:=[]) fun ao cap=>?_;cases ao with
  |none=>
   simp only[WO];refine mj func88 ntmps88 results88 ?_;repeat' (first|(with_reducible refine And.intro ?_ ?_)|(with_reducible refine dw (fun _=>?_) (fun _=>?_))|(with_reducible refine aQ (fun _=>?_) (fun _=>?_))|(with_reducible refine bT (by kernel_rfl))|simp -dsimp only[go_sem,seval, *,XQ,Wk]|((with_reducible refine bU ?_);simp -dsimp only[go_sem,seval,XQ,Wk];first|refine aS (by first|assumption|fail) (by first|exact .inl rfl|exact .inr rfl) ?_|refine aR (by assumption) (by repeat(first|exact au.refl _|exact au.nil _|(refine au.tup ?_)|(refine au.agg ?_ rfl)|exact trivial|(refine And.intro ?_ ?_))) (by first|exact .inl rfl|exact .inr rfl) ?_)|omega|exact decide_eq_true (by omega)|exact au.refl _)
   refine fN (h:=[]) (Wa _) 91 2 ?_;exact(ef 0 0 91 2 [] rfl (aP rfl rfl))
  |some a=>
   simp only[WO];refine mj func88 ntmps88 results88 ?_;repeat' (first|(with_reducible refine And.intro ?_ ?_)|(with_reducible refine dw (fun _=>?_) (fun _=>?_))|(with_reducible refine aQ (fun _=>?_) (fun _=>?_))|(with_reducible refine bT (by kernel_rfl))|simp -dsimp only[go_sem,seval, *,W7,Wk]|((with_reducible refine bU ?_);simp -dsimp only[go_sem,seval,W7,Wk];first|refine aS (by first|assumption|fail) (by first|exact .inl rfl|exact .inr rfl) ?_|refine aR (by assumption) (by repeat(first|exact au.refl _|exact au.nil _|(refine au.tup ?_)|(refine au.agg ?_ rfl)|exact trivial|(refine And.intro ?_ ?_))) (by first|exact .inl rfl|exact .inr rfl) ?_)|omega|exact decide_eq_true (by omega)|exact au.refl _)
   exact aP rfl rfl
 |cons x l=>
  simp only[Wc]at hl;refine mj func88 ntmps88 results88 ?_;repeat' (first|(with_reducible refine And.intro ?_ ?_)|(with_reducible refine dw (fun _=>?_) (fun _=>?_))|(with_reducible refine aQ (fun _=>?_) (fun _=>?_))|(with_reducible refine bT (by kernel_rfl))|simp -dsimp only[go_sem,seval, *,W7,Wk]|((with_reducible refine bU ?_);simp -dsimp only[go_sem,seval,W7,Wk];first|refine aS (by first|assumption|fail) (by first|exact .inl rfl|exact .inr rfl) ?_|refine aR (by assumption) (by repeat(first|exact au.refl _|exact au.nil _|(refine au.tup ?_)|(refine au.agg ?_ rfl)|exact trivial|(refine And.intro ?_ ?_))) (by first|exact .inl rfl|exact .inr rfl) ?_)|omega|exact decide_eq_true (by omega)|exact au.refl _)
  all_goals first|omega|exact aP rfl rfl
theorem m6 (n:Net)(h:dR n≠0):
 MSpec prog 173 [.d (.agg (fG n))] [] (.tup [.ptr 1 0,.d (.v (.int .i64 (dR n)))]) [.gone,.box 34 [.d (.v (.slice none 0 0)),.d (.v (.slice none 0 0))]]:=by
 have hc:=tw n;have h1:(dR n !=0)=true:=by simpa using h
 refine mj func173 ntmps173 results173 ?_;refine aF ?_<;>intros;exact(aN 0 (by simp)).trans (aP rfl rfl)
theorem pw (n:Net)(h:dR n=0):
 MSpec prog 173 [.d (.agg (fG n))] [] (.tup [.ptr 2 0,.d (.v (.int .i64 0))]) [.gone,.row 91 2 1 (aa (n.links.map cA)),.box 34 [.own 3 n.vpcs.length,.own 1 1],.row 88 3 n.vpcs.length (aa (n.vpcs.map aG))]:=by
 have hc:=tw n;rw[h]at hc;have cr:=ic.1 h;have n6:=cr.n6;have Pv:=VZ cr.vp;have Tb:=tT cA n.links (by have:=cr.n12;omega);clear cr;replace h:=VZ h;refine mj func173 ntmps173 results173 ?_;have z1z:=Ln.mk (ls:=[]) (Tb);refine aF ?_<;>intros;refine bP ah av n.vpcs (fun _=>True) (fun k=>[(29,.d (.v (.int .i64 k))),(28,.d (.v (.int .i64 n.vpcs.length))),(27,.d (.sl 3 (n.vpcs.map aG))),(5,.ptr 2 0)])
  (fun k=>[.gone,.row 91 2 1 (aa (n.links.map cA)),.box 34 [.own 3 k,.own 1 1],.row 88 3 k (aa ((n.vpcs.take k).map aG))]) trivial ?_ ?_ ?_
 ·refine(aN 0 (by simp)).trans ((aJ (by simp) 2 34 [.d (.v (.slice none 0 0)),.own 1 1] 0 88 3 rfl rfl rfl).trans ?_);exact wf (hb:=fg) (hbh:=fg)
 ·intro k v hv hk _ CN Vk;have g8:(k:Int) < (n.vpcs.length:Int):=by omega
  have ed:=wi k (by omega);have Eg:k+1≤100:=by omega
  have Vl:(Xd k n.vpcs).length=k:=by rw[V2];omega
  have J1:=bt (Pv.out v (V0 hv));have h6:=J1.n6;have h8:=VZ J1.n8;have Tc:=gY cf v.ranges (by have:=J1.n4;omega);clear J1;replace hv:=VZ hv;have pF:=hv.out;have z1z:=Ln.mk (ls:=[]) (Tc);refine aF ?_<;>intros;refine bP ah av v.subs (fun _=>True) (fun j=>[(42,.d (.v (.int .i64 j))),(41,.d (.v (.int .i64 v.subs.length))),(40,.d (.sl 4 (v.subs.map bw))),(8,.ptr 6 0),(29,.d (.v (.int .i64 k))),(28,.d (.v (.int .i64 n.vpcs.length))),(27,.d (.sl 3 (n.vpcs.map aG))),(5,.ptr 2 0)])
   (fun j=>[.gone,.row 91 2 1 (aa (n.links.map cA)),.box 34 [.own 3 k,.own 1 1],.row 88 3 k (aa ((n.vpcs.take k).map aG)),.gone,.row 100 3 1 (aa (v.ranges.map cf)),.box 88 [.d (.v (.int .i64 v.id)),.own 5 1,.own 7 j],.row 107 4 j (aa ((v.subs.take j).map bw))]) trivial ?_ ?_ ?_
  ·refine(aN 4 (by simp)).trans ((aJ (by simp) 6 88 [.d (.v (.int .i64 v.id)),.own 5 1,.d (.v (.slice none 0 0))] 2 107 4 rfl rfl rfl).trans ?_);exact wf (hb:=fg) (hbh:=fg)
  ·intro j s hs hj _ CO Ep;have oF:(j:Int) < (v.subs.length:Int):=by omega
   have Bc:=wi j (by omega);have nH:=h8.out s (V0 hs);have mO:j+1≤100:=by omega
   have rD:(Xd j v.subs).length=j:=by rw[V2];omega
   replace hs:=VZ hs;have vi:=hs.out;refine aF ?_<;>intros;refine bP ah av s.faces (fun _=>True) (fun i=>[(54,.d (.v (.int .i64 i))),(53,.d (.v (.int .i64 s.faces.length))),(52,.d (.sl 2 (s.faces.map cO))),(11,.ptr 9 0),(42,.d (.v (.int .i64 j))),(41,.d (.v (.int .i64 v.subs.length))),(40,.d (.sl 4 (v.subs.map bw))),(8,.ptr 6 0),(29,.d (.v (.int .i64 k))),(28,.d (.v (.int .i64 n.vpcs.length))),(27,.d (.sl 3 (n.vpcs.map aG))),(5,.ptr 2 0)])
    (fun i=>[.gone,.row 91 2 1 (aa (n.links.map cA)),.box 34 [.own 3 k,.own 1 1],.row 88 3 k (aa ((n.vpcs.take k).map aG)),.gone,.row 100 3 1 (aa (v.ranges.map cf)),.box 88 [.d (.v (.int .i64 v.id)),.own 5 1,.own 7 j],.row 107 4 j (aa ((v.subs.take j).map bw)),.gone,.box 107 [.d (.v (.int .i64 s.id)),.d (.v (.int .i64 s.at_.at_)),.d (.v (.int .i64 s.at_.len)),.own 10 i],.row 110 2 i (aa ((s.faces.take i).map cO))]) trivial ?_ ?_ ?_
   ·refine(aN 8 (by simp)).trans ((aJ (by simp) 9 107 [.d (.v (.int .i64 s.id)),.d (.v (.int .i64 s.at_.at_)),.d (.v (.int .i64 s.at_.len)),.d (.v (.slice none 0 0))] 3 110 2 rfl rfl rfl).trans ?_);exact wf (hb:=fg) (hbh:=fg)
   ·intro i f hf hi _ C hC;have RH:(i:Int) < (s.faces.length:Int):=by omega
    have Vm:=wi i (by omega);have iN:=nH.2 f (V0 hf);have lx:i+1≤100:=by omega
    have Um:(Xd i s.faces).length=i:=by rw[V2];omega
    replace hf:=VZ hf;have Mw:=hf.out;have z1z:=Ln.mk (ls:=[]) (dW f.addrs (by omega));refine aF ?_<;>intros;refine hC _ _ trivial ((ax 12 1 3 1 (f.addrs.map dI) rfl).trans ?_);simp only[iJ,fz,f8,fI,g9,fL,aT,bO,bY,V1,V5,Ws,Wu,reduceIte,and_true,true_and,and_self,and_false,false_and,Wn,Wz,reduceCtorEq];exact wf (hh:=(by rw[aj hf.out,V6,V1,V5,←bi];rfl)) (hb:=fg) (hbh:=fg)
   ·intro _ C;refine aF ?_<;>intros;refine Ep _ _ trivial ((ax 10 s.faces.length 110 2 (s.faces.map cO) rfl).trans ?_);simp only[iJ,fz,f8,fI,g9,fL,aT,bO,bY,V1,V5,Ws,Wu,reduceIte,and_true,true_and,and_self,and_false,false_and,Wn,Wz,reduceCtorEq];exact wf (hh:=(by rw[aj hs.out,V6,V1,V5,←bi];rfl)) (hb:=fg) (hbh:=fg)
  ·intro _ C;refine aF ?_<;>intros;refine Vk _ _ trivial ((ax 7 v.subs.length 107 4 (v.subs.map bw) rfl).trans ?_);simp only[iJ,fz,f8,fI,g9,fL,aT,bO,bY,V1,V5,Ws,Wu,reduceIte,and_true,true_and,and_self,and_false,false_and,Wn,Wz,reduceCtorEq];refine(ax 5 1 100 3 (v.ranges.map cf) rfl).trans ?_;simp only[iJ,fz,f8,fI,g9,fL,aT,bO,bY,V1,V5,Ws,Wu,reduceIte,and_true,true_and,and_self,and_false,false_and,Wn,Wz,reduceCtorEq];exact wf (hh:=(by rw[aj hv.out,V6,V1,V5,←bi];rfl)) (hb:=fg) (hbh:=fg)
 ·intro _ C;refine aF ?_<;>intros;exact aP rfl rfl
theorem N5 (s:Ste)(hb:BookOK s.book)(hn:NetOK s.net):
 MSpec prog 50 [.d (.agg (gO s))] [] (.agg [.d (.v (.int .i64 s.book.tick)),.d (.sl 9 (s.book.pools.map al)),.own 5 s.net.vpcs.length,.d (.sl 2 (s.net.links.map cA))]) [.gone,.gone,.gone,.gone,.gone,.row 88 3 s.net.vpcs.length (aa (s.net.vpcs.map aG))]:=by
 have n8:=hb.n8;have qK:=VZ hb.l32;have n6:=hn.n6;have Pv:=VZ hn.vp;have z1:=Ln.mk (ls:=[]) (tT cA s.net.links (by have:=hn.n12;omega));clear hb hn;refine mj func50 ntmps50 results50 ?_;refine aF ?_;refine bP ah av s.book.pools (fun _=>True) (fun k=>[(28,.d (.v (.int .i64 k))),(27,.d (.v (.int .i64 s.book.pools.length))),(26,.d (.sl 9 (s.book.pools.map al))),(3,.ptr 3 0),(2,.ptr 1 0),(1,.ptr 0 0)])
  (fun k=>[.box 36 ((gO s).map .d),.box 36 [.d (.v (.int .i64 0)),.d (.v (.slice none 0 0)),.d (.v (.slice none 0 0)),.d (.v (.slice none 0 0))],.row 91 2 1 (aa (s.net.links.map cA)),.box 36 [.d (.v (.int .i64 s.book.tick)),.own 4 k,.d (.v (.slice none 0 0)),.own 2 1],.row 83 9 k (aa ((s.book.pools.take k).map al))]) trivial ?_ ?_ ?_
 ·refine(aJ (by simp) 3 36 [.d (.v (.int .i64 s.book.tick)),.d (.v (.slice none 0 0)),.d (.v (.slice none 0 0)),.own 2 1] 1 83 9 rfl rfl rfl).trans ?_;exact wf
 ·intro k p hp hk _ C hC;have g8:(k:Int) < (s.book.pools.length:Int):=by omega
  have ed:=wi k (by omega);have lG:=qK.out p (V0 hp);have mO:k+1≤100:=by omega
  have hlt:(Xd k s.book.pools).length=k:=by rw[V2];omega
  have z2:=Ln.mk (ls:=[]) (fB aW p.leases (by omega));refine aF ?_;refine hC _ _ trivial ((ax 6 1 96 5 (p.leases.map aW) rfl).trans ?_);simp only[iJ,fz,f8,fI,g9,fL,aT,bO,bY,V1,V5,Ws,Wu,reduceIte,and_true,true_and,and_self,and_false,false_and,Wn,Wz,reduceCtorEq];exact wf (hh:=by rw[aj hp,V6,V1,V5,←bi];rfl)
 ·intro _ C;rw[V4];refine aF ?_;refine bP ah av s.net.vpcs (fun _=>True) (fun k=>[(49,.d (.v (.int .i64 k))),(48,.d (.v (.int .i64 s.net.vpcs.length))),(47,.d (.sl 3 (s.net.vpcs.map aG))),(3,.ptr 3 0),(2,.ptr 1 0),(1,.ptr 0 0)])
   (fun k=>[.gone,.box 36 [.d (.v (.int .i64 0)),.d (.v (.slice none 0 0)),.d (.v (.slice none 0 0)),.d (.v (.slice none 0 0))],.gone,.box 36 [.d (.v (.int .i64 s.book.tick)),.d (.sl 9 (s.book.pools.map al)),.own 5 k,.d (.sl 2 (s.net.links.map cA))],.gone,.row 88 3 k (aa ((s.net.vpcs.take k).map aG))]) trivial ?_ ?_ ?_
  ·refine(ax 4 s.book.pools.length 83 9 (s.book.pools.map al) rfl).trans ?_;simp only[iJ,fz,f8,fI,g9,fL,aT,bO,bY,V1,V5,Ws,Wu,reduceIte,and_true,true_and,and_self,and_false,false_and,Wn,Wz,reduceCtorEq];refine(ax 2 1 91 2 (s.net.links.map cA) rfl).trans ?_;simp only[iJ,fz,f8,fI,g9,fL,aT,bO,bY,V1,V5,Ws,Wu,reduceIte,and_true,true_and,and_self,and_false,false_and,Wn,Wz,reduceCtorEq];refine(aJ (by simp) 3 36 [.d (.v (.int .i64 s.book.tick)),.d (.sl 9 (s.book.pools.map al)),.d (.v (.slice none 0 0)),.d (.sl 2 (s.net.links.map cA))] 2 88 3 rfl rfl rfl).trans ?_;refine dH.trans (aN 0 (by simp[bg])) ?_;exact wf
  ·intro k v hv hk _ C hC;have g8:(k:Int) < (s.net.vpcs.length:Int):=by omega
   have ed:=wi k (by omega);have Eg:k+1≤100:=by omega
   have Vl:(Xd k s.net.vpcs).length=k:=by rw[V2];omega
   have J1:=bt (Pv.out v (V0 hv));have h6:=J1.n6;have h8:=VZ J1.n8;have z3:=Ln.mk (ls:=[]) (gY cf v.ranges (by have:=J1.n4;omega));clear J1;refine aF ?_;refine bP ah av v.subs (fun _=>True) (fun j=>[(62,.d (.v (.int .i64 j))),(61,.d (.v (.int .i64 v.subs.length))),(60,.d (.sl 4 (v.subs.map bw))),(8,.ptr 8 0),(49,.d (.v (.int .i64 k))),(48,.d (.v (.int .i64 s.net.vpcs.length))),(47,.d (.sl 3 (s.net.vpcs.map aG))),(3,.ptr 3 0),(2,.ptr 1 0),(1,.ptr 0 0)])
    (fun j=>[.gone,.box 36 [.d (.v (.int .i64 0)),.d (.v (.slice none 0 0)),.d (.v (.slice none 0 0)),.d (.v (.slice none 0 0))],.gone,.box 36 [.d (.v (.int .i64 s.book.tick)),.d (.sl 9 (s.book.pools.map al)),.own 5 k,.d (.sl 2 (s.net.links.map cA))],.gone,.row 88 3 k (aa ((s.net.vpcs.take k).map aG)),.gone,.row 100 3 1 (aa (v.ranges.map cf)),.box 88 [.d (.v (.int .i64 v.id)),.own 7 1,.own 9 j],.row 107 4 j (aa ((v.subs.take j).map bw))]) trivial ?_ ?_ ?_
   ·refine(aN 6 (by simp)).trans ((aJ (by simp) 8 88 [.d (.v (.int .i64 v.id)),.own 7 1,.d (.v (.slice none 0 0))] 2 107 4 rfl rfl rfl).trans ?_);exact wf
   ·intro j u hu hj _ C2 vm;have oF:(j:Int) < (v.subs.length:Int):=by omega
    have Bc:=wi j (by omega);have nH:=h8.out u (V0 hu);have mO:j+1≤100:=by omega
    have rD:(Xd j v.subs).length=j:=by rw[V2];omega
    have Nc:=VZ hu;have Js:=VZ hv;clear hv;refine aF ?_;refine bP ah av u.faces (fun _=>True) (fun i=>(74,.d (.v (.int .i64 i)))::(73,.d (.v (.int .i64 u.faces.length)))::(72,.d (.sl 2 (u.faces.map cO)))::(11,.ptr 11 0)::[(62,.d (.v (.int .i64 j))),(61,.d (.v (.int .i64 v.subs.length))),(60,.d (.sl 4 (v.subs.map bw))),(8,.ptr 8 0),(49,.d (.v (.int .i64 k))),(48,.d (.v (.int .i64 s.net.vpcs.length))),(47,.d (.sl 3 (s.net.vpcs.map aG))),(3,.ptr 3 0),(2,.ptr 1 0),(1,.ptr 0 0)])
     (fun i=>[.gone,.box 36 [.d (.v (.int .i64 0)),.d (.v (.slice none 0 0)),.d (.v (.slice none 0 0)),.d (.v (.slice none 0 0))],.gone,.box 36 [.d (.v (.int .i64 s.book.tick)),.d (.sl 9 (s.book.pools.map al)),.own 5 k,.d (.sl 2 (s.net.links.map cA))],.gone,.row 88 3 k (aa ((s.net.vpcs.take k).map aG)),.gone,.row 100 3 1 (aa (v.ranges.map cf)),.box 88 [.d (.v (.int .i64 v.id)),.own 7 1,.own 9 j],.row 107 4 j (aa ((v.subs.take j).map bw)),.gone,.box 107 [.d (.v (.int .i64 u.id)),.d (.v (.int .i64 u.at_.at_)),.d (.v (.int .i64 u.at_.len)),.own 12 i],.row 110 2 i (aa ((u.faces.take i).map cO))]) trivial ?_ ?_ ?_
    ·refine(aN 10 (by simp)).trans ((aJ (by simp) 11 107 [.d (.v (.int .i64 u.id)),.d (.v (.int .i64 u.at_.at_)),.d (.v (.int .i64 u.at_.len)),.d (.v (.slice none 0 0))] 3 110 2 rfl rfl rfl).trans ?_);exact wf
    ·intro i f hf hi _ C3 Td;have RH:(i:Int) < (u.faces.length:Int):=by omega
     have Vm:=wi i (by omega);have iN:=nH.2 f (V0 hf);have lx:i+1≤100:=by omega
     have Um:(Xd i u.faces).length=i:=by rw[V2];omega
     have z4:=Ln.mk (ls:=[]) (dW f.addrs (by omega));refine aF ?_;refine Td _ _ trivial ((ax 14 1 3 1 (f.addrs.map dI) rfl).trans ?_);simp only[iJ,fz,f8,fI,g9,fL,aT,bO,bY,V1,V5,Ws,Wu,reduceIte,and_true,true_and,and_self,and_false,false_and,Wn,Wz,reduceCtorEq];exact wf (hh:=by rw[aj hf,V6,V1,V5,←bi];rfl)
    ·intro _ C3;rw[V4];refine aF ?_;refine vm _ _ trivial ((ax 12 u.faces.length 110 2 (u.faces.map cO) rfl).trans ?_);simp only[iJ,fz,f8,fI,g9,fL,aT,bO,bY,V1,V5,Ws,Wu,reduceIte,and_true,true_and,and_self,and_false,false_and,Wn,Wz,reduceCtorEq];exact wf (hh:=by rw[aj Nc.out,V6,V1,V5,←bi];rfl)
   ·intro _ C2;rw[V4];refine aF ?_;refine hC _ _ trivial ((ax 9 v.subs.length 107 4 (v.subs.map bw) rfl).trans ?_);simp only[iJ,fz,f8,fI,g9,fL,aT,bO,bY,V1,V5,Ws,Wu,reduceIte,and_true,true_and,and_self,and_false,false_and,Wn,Wz,reduceCtorEq];refine(ax 7 1 100 3 (v.ranges.map cf) rfl).trans ?_;simp only[iJ,fz,f8,fI,g9,fL,aT,bO,bY,V1,V5,Ws,Wu,reduceIte,and_true,true_and,and_self,and_false,false_and,Wn,Wz,reduceCtorEq];exact wf (hh:=by rw[aj hv,V6,V1,V5,←bi];rfl)
  ·intro _ C;rw[V4];refine aF ?_;refine dH.trans (aN 1 (by simp[bg])) ?_;refine dH.trans (aN 3 (by simp[bg])) ?_;exact wf
def Net.zero:Net:=⟨[],[]⟩
theorem oq {l:List Vpc}{id:Int}{o:Option Vpc}(h:l.find? (fun v=>v.id==id)=o):match o with|some v=>∃i,l.findIdx? (fun v=>v.id==id)=some i∧l[i]? =some v∧v.id=id|none=>l.findIdx? (fun v=>v.id==id)=none:=by
 cases o with
 |none=>
  rw[XP]at h;exact Xm.2 fun v hv=>by simpa using h v hv
 |some v=>
  obtain⟨h1,i,hi,h2,h3⟩:=List.find?_eq_some_iff_getElem.1 h;refine⟨i,?_,by rw[VY hi,h2],by simpa using h1⟩;rw[WF];exact⟨hi,by rw[h2];exact h1,fun j hj=>by simpa using h3 j hj⟩
def mB (n:Net)(id:Int):Option Nat:=n.vpcs.findIdx? fun v=>v.id==id
theorem jg {n:Net}{id:Int}{i:Nat}(h:mB n id=some i):∃v,n.vpcs[i]? =some v∧v.id=id∧i < n.vpcs.length∧d9 n id=some v:=by
 cases hf:d9 n id with
 |none=>have:=oq hf;unfold mB at h;rw[h]at this;cases this
 |some v=>
  obtain⟨j,h1,h2,h3⟩:=oq hf;unfold mB at h;rw[h]at h1;cases h1;exact⟨v,h2,h3,(V3.1 h2).1,rfl⟩
theorem eG {n:Net}{id:Int}(h:mB n id=none):d9 n id=none:=by
 cases hf:d9 n id with
 |none=>rfl
 |some v=>
  obtain⟨j,h1,-⟩:=oq hf;unfold mB at h;rw[h]at h1;cases h1
theorem N6 {α:Type}{key:α→Int}{l:List α}{i:Nat}{q:α}(hs:l.Pairwise fun a b=>key a < key b)(hq:l[i]? =some q):kH key (key q) l=i∧o9 key (key q) l=true:=by
 obtain⟨hi,rfl⟩:=V3.1 hq;have h1:kH key (key l[i]) l=i:=qi (YM hi) (fun k hk Jy=>WG.1 hs k i hk hi Jy) (fun k hk Jy=>by
  rcases Wv i k with h|h
  ·have:=WG.1 hs i k hi hk h;omega
  ·obtain rfl:k=i:=by omega
   exact Int.le_refl _)
 refine⟨h1,?_⟩;unfold o9;rw[h1,hq];simp
theorem px (n:Net)(id:Int)(gv gl i:Nat)(v:Vpc)(hv:n.vpcs[i]? =some v)(he:v.id=id)(h6:n.vpcs.length≤6)(hs:n.vpcs.Pairwise fun a b=>a.id < b.id):
 MSpec prog 126 [.ptr 0 0,.d (.v (.int .i64 id))] [.box 34 [.own 1 gv,.own 2 gl],.row 88 3 gv (aa (n.vpcs.map aG)),.row 91 2 gl (aa (n.links.map cA))] (.tup [.rp 1 gv 3 i 0,.d (.v (.bool true))])
  [.box 34 [.own 1 gv,.own 2 gl],.row 88 3 gv (aa (n.vpcs.map aG)),.row 91 2 gl (aa (n.links.map cA))]:=by
 have hb:=ph fM (fun v:Vpc=>v.id) n.vpcs id 215 [] (by omega) hs (fun v _=>r8 v id);subst he;obtain⟨e1,e2⟩:=N6 (key:=fun v:Vpc=>v.id) hs hv;rw[e1,e2]at hb;have hi:=(V3.1 hv).1;have RH:(0:Int)≤(i:Int):=by omega
 clear hs e1 e2;replace hv:=VZ hv;refine mj func126 ntmps126 results126 ?_;refine aF ?_<;>intros;exact aP rfl rfl
theorem mC (n:Net)(id:Int)(gv gl:Nat)(hf:d9 n id=none)(h6:n.vpcs.length≤6)(hs:n.vpcs.Pairwise fun a b=>a.id < b.id):
 MSpec prog 126 [.ptr 0 0,.d (.v (.int .i64 id))] [.box 34 [.own 1 gv,.own 2 gl],.row 88 3 gv (aa (n.vpcs.map aG)),.row 91 2 gl (aa (n.links.map cA))] (.d (.tup [.v (.pointer none),.v (.bool false)]))
  [.box 34 [.own 1 gv,.own 2 gl],.row 88 3 gv (aa (n.vpcs.map aG)),.row 91 2 gl (aa (n.links.map cA))]:=by
 have hb:=ph fM (fun v:Vpc=>v.id) n.vpcs id 215 [] (by omega) hs (fun v _=>r8 v id);have e2:o9 (fun v:Vpc=>v.id) id n.vpcs=false:=by
  cases hB:o9 (fun v:Vpc=>v.id) id n.vpcs with
  |false=>rfl
  |true=>
   unfold o9 at hB;cases hq:n.vpcs[kH (fun v:Vpc=>v.id) id n.vpcs]? with
   |none=>rw[hq]at hB;cases hB
   |some v=>
    have:=HZ hs hq (by rw[hq]at hB;simpa using hB);unfold d9 at hf;rw[hf]at this;cases this
 rw[e2]at hb;clear hs e2 hf;refine mj func126 ntmps126 results126 ?_;refine aF ?_<;>intros;exact aP rfl rfl
theorem IA (id:Int):ae prog 126 [.ept [.v (.slice none 0 0),.v (.slice none 0 0)],.v (.int .i64 id)] (.tup [.v (.pointer none),.v (.bool false)]):=by
 have hb:=(ph fM (fun v:Vpc=>v.id) [] id 215 [] (by simp) (by simp) (fun v _=>r8 v id)).args (ds:=[.v (.slice none 0 0),.v (.int .i64 id),.clo 215 []]) ⟨au.nil _,au.refl _,au.refl _,trivial⟩;have e:o9 (fun v:Vpc=>v.id) id []=false:=rfl;rw[e]at hb;refine pj func126 ntmps126 results126 ?_;exact bx
theorem IB (x y:Lnk):([x.a,x.b]==[y.a,y.b])=decide (x=y):=by
 rw[Xh];cases x;cases y;simp
theorem tU (l:List Lnk)(x:Lnk)(hl:l.length≤1000000000):
 ae prog 180 [.sl 2 (l.map cA),.agg (cA x)] (.v (.int .i64 (cY (fun y=>decide (x=y)) l))):=by
 refine pj func180 ntmps180 results180 ?_;refine aF ?_<;>intros;refine cp ah av (fun m e h=>∃k:Nat,k≤l.length∧(∀y∈l.take k,decide (x=y)=false)∧m=l.length - k∧e=[(8,.d (.v (.int .i64 k))),(7,.d (.v (.int .i64 l.length))),(4,.d (.v (.int .i64 0))),(3,.ptr 0 0),(0,.d (.sl 2 (l.map cA)))]∧h=[.box 91 ((cA x).map .d)]) _ _ _ ⟨0,Wr _,by simp,rfl,rfl,rfl⟩ (wf) ?_;rintro m e h ⟨k,hk,df,rfl,rfl,rfl⟩ CL kI;by_cases hlt:k < l.length
 ·obtain⟨y,hy⟩:∃y,l[k]? =some y:=⟨_,VY hlt⟩;have ej:(k:Int) < (l.length:Int):=by omega
  have ed:=wi k (by omega);have he:=IB x y;cases hp:decide (x=y)with
  |false=>
   rw[hp]at he;have Df:∀z∈l.take (k+1),decide (x=z)=false:=fun z hz=>by
    rw[aj hy]at hz;rcases WJ.1 hz with hz|hz
    ·exact df z hz
    ·rw[WP]at hz;rw[hz];exact hp
   replace Df:=VZ Df;replace df:=VZ df;replace hp:=VZ hp;refine aF ?_<;>intros;refine kI _ _ _ _ _ ?_ ⟨k+1,hlt,Df.out,rfl,rfl,rfl⟩ (wf);omega
  |true=>
   rw[hp]at he;have jm:cY (fun y=>decide (x=y)) l=k:=eJ hy hp df;rw[jm];replace jm:=VZ jm;replace df:=VZ df;replace hp:=VZ hp;exact bx;all_goals exact au.refl _
 ·obtain rfl:k=l.length:=by omega
  rw[V4]at df;rw[eK df];replace df:=VZ df;exact bx;all_goals exact au.refl _
theorem uZ (l:List Lnk)(x:Lnk)(hl:l.length≤1000000000):
 ae prog 177 [.sl 2 (l.map cA),.agg (cA x)] (.v (.bool (l.any fun y=>decide (x=y)))):=by
 have hi:=tU l x hl;have mM:=eY (fun y=>decide (x=y)) l;refine pj func177 ntmps177 results177 ?_;exact bx;all_goals exact au.refl _
theorem Al {α:Type}{enc:α→List D}(l:List α)(i j g:Nat)(hi:i < l.length)(hj:j=i+1):
 MSpec prog 181 [.own 0 g,.d (.v (.int .i64 i)),.d (.v (.int .i64 j))] [.row 91 2 g (aa (l.map enc))] (.own 0 (g+1)) [.row 91 2 (g+1) (aa ((l.eraseIdx i).map enc))]:=by
 have h1:((i:Int)==(j:Int))=false:=by simp;omega
 have bq:¬aa (l.map enc)=[]:=by cases l<;>simp[aa]at hi ⊢
 have hle:(i:Int)≤(j:Int):=by omega
 have Jl:(j:Int)≤(l.length:Int):=by omega
 have jO:(l.map enc).length=l.length:=Wg _;have h2:=m1 (aa (l.map enc)) i j l.length (by rw[aA,jO];exact hi) hj (by rw[aA,jO]);rw[aA,jO]at h2;have pM:=VZ hj;clear hj;have Gt:j≤l.length:=by have:=pM.out;omega
 have Mp:min (l.length - j) (l.length - j)=l.length - j:=Nat.min_self _;have hlt:i+(l.length - j)≤l.length:=by have:=pM.out;omega
 have uw:l.length - (i+(l.length - j))=1:=by have:=pM.out;omega
 have kD:i+(l.length - j)+1≤l.length:=by have:=pM.out;omega
 have Mq:¬ap (aa (l.map enc)) i (((aa (l.map enc)).drop j).take (l.length - j))=[]:=by
  intro h;rw[h]at h2;simp at h2;omega
 refine mj func181 ntmps181 results181 ?_;repeat' (first|(with_reducible refine And.intro ?_ ?_)|(with_reducible refine dw (fun _=>?_) (fun _=>?_))|(with_reducible refine aQ (fun _=>?_) (fun _=>?_))|(with_reducible refine bT (by kernel_rfl))|simp -dsimp only[go_sem,seval, *,h1,bq,WZ,V2,Wt]|((with_reducible refine bU ?_);simp -dsimp only[go_sem,seval,h1,bq,WZ,V2,Wt];first|refine aS (by first|assumption|fail) (by first|exact .inl rfl|exact .inr rfl) ?_|refine aR (by assumption) (by repeat(first|exact au.refl _|exact au.nil _|(refine au.tup ?_)|(refine au.agg ?_ rfl)|exact trivial|(refine And.intro ?_ ?_))) (by first|exact .inl rfl|exact .inr rfl) ?_)|omega|exact decide_eq_true (by omega)|exact au.refl _)
 rw[iL];exact mi (by rw[jO];exact hi) pM.out jO.symm
theorem IC (a b:Int):ae prog 178 [.v (.int .i64 a),.v (.int .i64 b)] (.agg (cA (pg a b))):=by
 refine pj func178 ntmps178 results178 ?_;exact bx;all_goals exact au.refl _
def lA (n:Net)(id:Int)(r:Rng):Net × Int:=
 if dR n≠0 then (Net.zero,dR n)else
 match mB n id with
 |none=>(Net.zero,5)
 |some i=>match n.vpcs[i]? with
  |none=>(Net.zero,5)
  |some v=>if (cU v r).2≠0 then (Net.zero,(cU v r).2)else if d4 {n with vpcs:=n.vpcs.set i (cU v r).1}=true then ({n with vpcs:=n.vpcs.set i (cU v r).1},0)else (Net.zero,9)
theorem Am {v:Vpc}{r:Rng}(h:(cU v r).2=0):(cU v r).1.id=v.id∧(cU v r).1.ranges.length≤5:=by
 unfold cU at h ⊢;split
 ·rename_i h1;rw[if_pos h1]at h;exact absurd h h1
 ·rename_i h1;rw[if_neg h1]at h;have hk:=bt (by simpa using h1);split
  ·rename_i h2;rw[if_pos h2]at h;exact absurd h h2
  ·refine⟨rfl,?_⟩;simp only;rw[fT];have:=hk.n4;omega
theorem Lq (n:Net)(id:Int)(r:Rng):ae prog 106 [.agg (fG n),.v (.int .i64 id),.agg (cf r)] (.tup [.agg (fG (lA n id r).1),.v (.int .i64 (lA n id r).2)]):=by
 obtain⟨R,hR⟩:∃R,R=lA n id r:=⟨_,rfl⟩;rw[←hR];replace hR:=VZ hR;by_cases hc:dR n=0
 ·have cr:=ic.1 hc;have ci:=pw n hc;cases hx:mB n id with
  |none=>
   have f7:=mC n id n.vpcs.length 1 (eG hx) cr.n6 cr.rise;have hr:R=(Net.zero,5):=by rw[hR.out];unfold lA;rw[if_neg (by simpa using hc),hx]
   rw[hr];clear hr hR cr hx hc;refine pj func106 ntmps106 results106 ?_;have z1z:=Ln.mk (ls:=[]) (ci);have z2z:=Ln.mk (ls:=[5,6,4]) (f7);refine aF ?_<;>intros;all_goals exact dg
  |some i=>
   obtain⟨v,hv,he,hi,Gi⟩:=jg hx;have f7:=px n id n.vpcs.length 1 i v hv he cr.n6 cr.rise;have Vn:=Lk v r;replace he:=VZ he;have RH:(0:Int)≤(i:Int):=by omega
   by_cases hg:(cU v r).2=0
   ·have JW:=Am hg;have JD:=xx {n with vpcs:=n.vpcs.set i (cU v r).1} (by have:=cr.n6;simp;omega) (by have:=cr.n12;simp;omega) (fun u hu=>by
     rcases Xw hu with hu|rfl
     ·have:=(bt (cr.vp u hu)).n4;omega
     ·have:=JW.2;omega) (by
     have e:(n.vpcs.set i (cU v r).1).map (·.id)=n.vpcs.map (·.id):=by
      rw[List.map_set,JW.1];apply WS;intro j;rw[List.getElem?_set];split
      ·rename_i hj;subst hj;rw[Wg,if_pos hi,V7,hv];rfl
      ·rfl
     simp only[e];exact cr.ids)
    have cz:R=if d4 {n with vpcs:=n.vpcs.set i (cU v r).1}=true then ({n with vpcs:=n.vpcs.set i (cU v r).1},0)else (Net.zero,9):=by
     rw[hR.out];unfold lA;rw[if_neg (by simpa using hc),hx];simp only[hv];rw[if_neg (by simpa using hg)]
    rw[hg]at Vn;clear hR cr hx hc JW hg Gi;generalize (cU v r).1=w at*;have bu:(aa (n.vpcs.map aG)).set i [.d (.v (.int .i64 w.id)),.d (.sl 3 (w.ranges.map cf)),.d (.sl 4 (w.subs.map bw))]=aa ((n.vpcs.set i w).map aG):=cB aG n.vpcs i w;cases hp:d4 {n with vpcs:=n.vpcs.set i w} with
    |true=>
     rw[hp]at JD cz;have hr:R=({n with vpcs:=n.vpcs.set i w},0):=by rw[cz];rfl
     rw[hr];clear hr cz hp;refine pj func106 ntmps106 results106 ?_;have z1z:=Ln.mk (ls:=[]) (ci);have z2z:=Ln.mk (ls:=[5,6,4]) (f7);exact bx;all_goals exact dg
    |false=>
     rw[hp]at JD cz;have hr:R=(Net.zero,9):=by rw[cz];rfl
     rw[hr];clear hr cz hp;refine pj func106 ntmps106 results106 ?_;have z1z:=Ln.mk (ls:=[]) (ci);have z2z:=Ln.mk (ls:=[5,6,4]) (f7);refine aF ?_<;>intros;all_goals exact dg
   ·have hr:R=(Net.zero,(cU v r).2):=by
     rw[hR.out];unfold lA;rw[if_neg (by simpa using hc),hx];simp only[hv];rw[if_pos hg]
    have Uu:((cU v r).2 !=0)=true:=by simpa using hg
    rw[hr];clear hr hR cr hx hc hg Gi;generalize (cU v r).1=w at*;generalize (cU v r).2=E at*;refine pj func106 ntmps106 results106 ?_;have z1z:=Ln.mk (ls:=[]) (ci);have z2z:=Ln.mk (ls:=[5,6,4]) (f7);refine aF ?_<;>intros;all_goals exact dg
 ·have ci:=m6 n hc;have h1:(dR n !=0)=true:=by simpa using hc
  have hr:R=(Net.zero,dR n):=by rw[hR.out];unfold lA;rw[if_pos hc]
  rw[hr];replace hr:=VZ hr;refine pj func106 ntmps106 results106 ?_;have z1z:=Ln.mk (ls:=[]) (ci);refine aF ?_<;>intros;all_goals exact dg
def mD (n:Net)(a b:Int):Net × Int:=
 if dR n≠0 then (Net.zero,dR n)else
 match n.links.findIdx? (fun l=>decide (pg a b=l))with
 |none=>(Net.zero,5)
 |some i=>({n with links:=n.links.eraseIdx i},0)
theorem Ls (n:Net)(a b:Int):ae prog 104 [.agg (fG n),.v (.int .i64 a),.v (.int .i64 b)] (.tup [.agg (fG (mD n a b).1),.v (.int .i64 (mD n a b).2)]):=by
 obtain⟨R,hR⟩:∃R,R=mD n a b:=⟨_,rfl⟩;rw[←hR];replace hR:=VZ hR;by_cases hc:dR n=0
 ·have cr:=ic.1 hc;have ci:=pw n hc;have rD:=IC a b;have lP:=tU n.links (pg a b) (by have:=cr.n12;omega);unfold cY at lP;cases hf:n.links.findIdx? (fun l=>decide (pg a b=l))with
  |none=>
   rw[hf]at lP;have hr:R=(Net.zero,5):=by rw[hR.out];unfold mD;rw[if_neg (by simpa using hc),hf]
   rw[hr];clear hr hR hf hc cr;generalize pg a b=LK at*;refine pj func104 ntmps104 results104 ?_;have z1z:=Ln.mk (ls:=[]) (ci);refine aF ?_<;>intros;all_goals exact dg
  |some i=>
   rw[hf]at lP;have hi:i < n.links.length:=(WF.1 hf).1;have rW:decide ((i:Int) < 0)=false:=by simp
   have hd:=Al (enc:=cA) n.links i (i+1) 1 hi rfl;have ed:IntKind.i64.wrap ((i:Int)+1)=((i+1:Nat):Int):=by rw[IntKind.wrap_i64];have:=cr.n12;omega
   have hr:R=({n with links:=n.links.eraseIdx i},0):=by rw[hR.out];unfold mD;rw[if_neg (by simpa using hc),hf]
   rw[hr];clear hr hR hf hc cr;generalize pg a b=LK at*;refine pj func104 ntmps104 results104 ?_;have z1z:=Ln.mk (ls:=[]) (ci);have z2z:=Ln.mk (ls:=[3]) (hd);exact bx;all_goals exact dg
 ·have ci:=m6 n hc;have h1:(dR n !=0)=true:=by simpa using hc
  have hr:R=(Net.zero,dR n):=by rw[hR.out];unfold mD;rw[if_pos hc]
  rw[hr];replace hr:=VZ hr;refine pj func104 ntmps104 results104 ?_;have z1z:=Ln.mk (ls:=[]) (ci);refine aF ?_<;>intros;all_goals exact dg
section
open Go.Proofs Go.Shelf
theorem N7 (x y:SRow Iv 3)(W:World):Calls prog 175 #[.agg x.xs.toArray,.agg y.xs.toArray] W fun e w'=>e= .returned (.int .i64 (Bj x y))∧∃q os',w'=Sort.grow (W.drewN q) os':=by
 obtain⟨xs,xl,x1,a,xh⟩:=x;obtain⟨ys,yl,y1,b,yh⟩:=y;match xs,xl,ys,yl with
 |[u0,u1,u2],_,[v0,v1,v2],_=>
  simp[Iv]at xh yh;subst xh;subst yh;have hc:=fD a b;unfold Bj;simp only;generalize dx a b=r at*;replace hc:=VZ hc;clear x1 y1;go_enter func175,ntmps175
  go_wp2_with fail
  refine(hc.out _).mono ?_;rintro e w1 ⟨rfl,rfl⟩;go_wp2_with fail
  go_ret
  exact⟨bV rfl,0,_,by rw[Sort.alloc_eq_grow,Sort.alloc_eq_grow,Sort.grow_grow];rfl⟩
theorem ID {l l':List Vpc}(g:Nat)(wR:l≠[])(hp:l'.Perm l)(hs:l'.Pairwise fun x y=>(fun v:Vpc=>v.id) x < (fun v:Vpc=>v.id) y)(ck:l.length≤1000000):
 MSpec prog 174 [.own 0 g,.d (.clo 175 [])] [.row 88 3 g (aa (l.map aG))] (.d (.tup [])) [.row 88 3 g (aa (l'.map aG))]:=
 sa sortVpc rfl (ce func174 (by kernel_rfl) rfl) isAgg88 sizeOf88 (enters_of func175 (by kernel_rfl) rfl) N7 aG (fun v:Vpc=>v.id) (fun _=>rfl) wR hp hs ck
end
structure GwB where
 n:Nat
 os:Array Obj
def EG (w w':World):Prop:=∃p:GwB,w'=Sort.grow (w.drewN p.n) p.os
theorem EG.refl (w:World):EG w w:=⟨⟨0,#[]⟩,by rw[Sort.grow_empty];rfl⟩
theorem EG.trans {w w' w'':World}(h:EG w w')(g:EG w' w''):EG w w'':=by
 obtain⟨⟨n,os⟩,rfl⟩:=h;obtain⟨⟨m,os'⟩,rfl⟩:=g;exact⟨⟨n+m,os++os'⟩,by show Sort.grow (Sort.grow ((w.drewN n).drewN m) os) os'=_;rw[Sort.grow_grow,World.drewN_drewN]⟩
theorem EG.drew (w:World):EG w w.drew:=⟨⟨1,#[]⟩,by rw[Sort.grow_empty];rfl⟩
theorem EG.alloc (w:World)(o:Obj):EG w (w.alloc o):=⟨⟨0,#[o]⟩,Sort.alloc_eq_grow w o⟩
theorem EG.ext {w w':World}(h:EG w w'):cW w w':=by
 obtain⟨⟨n,os⟩,rfl⟩:=h;exact⟨rfl,rfl,rfl,by simp[Sort.grow],fun k hk=>by simp[Sort.grow,Array.getElem?_append,hk]⟩
def IE (W:World)(R:Value→Prop)(e:Ending)(w':World):Prop:=(∃u,e= .returned u∧R u)∧EG W w'
def Lt (P:Program)(W w:World)(R:Value→Prop):Result Next→Prop
 | .ok (.value u) w'=>w'=w∧R u
 | .ok .skip w'=>w'=w∧R undef
 | .ok (.enter f args) w'=>w'=w∧Calls P f args w (IE W R)
 |_=>False
attribute [go_sem] Lt
section
variable {P:Program}{W:World}
theorem Co {w:World}{v:Value}{r:Result Next}(h:∀R:Value→Prop,R v→Lt P W w R r):Oper.quietUpon P (EG W) w v r:=by
 have h1:=h (·=v) rfl;unfold Lt at h1;unfold Oper.quietUpon;split at h1
 ·exact h1
 ·exact⟨h1.1,h1.2.symm⟩
 ·refine⟨h1.1,h1.2.mono ?_⟩;rintro e w' ⟨⟨u,rfl,rfl⟩,hw⟩;exact⟨rfl,hw⟩
 ·exact h1.elim
end
section
variable {P:Program}{ops:Array Oper}{Q:Exit→Act→World→Prop}
def JU (P:Program)(ops:Array Oper)(Q:Exit→Act→World→Prop):Nat→Array Bool→Act→World→Prop
 |0,listed,a,W=>Region.ready .any ops listed=[]∧∀w,EG W w→Q .normal a w
 |fuel+1,listed,a,W=>∀w,EG W w→(Region.ready .any ops listed=[]→Q .normal a w)∧
  ∀i∈Region.ready .any ops listed,wpOp P ops Q i (fun a' w'=>EG w w'∧JU P ops Q fuel (listed.setIfInBounds i true) a' w') a w
theorem JU.world:∀{fuel:Nat}{listed:Array Bool}{a:Act}{W W':World},EG W W'→JU P ops Q fuel listed a W→JU P ops Q fuel listed a W'
 |0,_,_,_,_,hx,h=>⟨h.1,fun w hw=>h.2 w (EG.trans hx hw)⟩
 |_+1,_,_,_,_,hx,h=>fun w hw=>h w (EG.trans hx hw)
theorem JU.any:∀{fuel:Nat}{listed:Array Bool}{a:Act}{W:World},JU P ops Q fuel listed a W→wpAny P .any ops Q fuel listed a W
 |0,_,_,_,h=>⟨h.1,h.2 _ (EG.refl _)⟩
 |_+1,_,_,W,h=>⟨(h W (EG.refl _)).1,fun i hi=>wpOp_mono (fun _ _ h'=>JU.any h'.2) ((h W (EG.refl _)).2 i hi)⟩
def Bk (P:Program)(ops:Array Oper)(W:World)(o:Oper)(v:Value)(a:Act):Prop:=
 (Region.wanted o (yielded ops a.tmps)=true∧∀w,EG W w→o.quietAt P a (EG w) w v)∨
 (Region.wanted o (yielded ops a.tmps)=false∧v=undef)
theorem Bk.world {W W':World}{o:Oper}{v:Value}{a:Act}(hx:EG W W')(h:Bk P ops W o v a):Bk P ops W' o v a:=
 h.imp (fun⟨h1,h2⟩=>⟨h1,fun w hw=>h2 w (EG.trans hx hw)⟩) id
theorem Bk.of_same {W:World}{o:Oper}{v:Value}{a a':Act}(hy:Bk P ops W o v a)(he:execOp a'.eval o=execOp a.eval o)
 (hw:Region.wanted o (yielded ops a'.tmps)=Region.wanted o (yielded ops a.tmps)):Bk P ops W o v a':=by
 unfold Bk Oper.quietAt at*;rw[he,hw];exact hy
theorem Bk.wpOp {W:World}{i:Nat}{o:Oper}{v:Value}{a:Act}(hi:ops[i]? =some o)(hy:Bk P ops W o v a){K:Act→World→Prop}{w:World}(hw:EG W w)(h:∀w',EG w w'→K (a.put o.dst v) w'):wpOp P ops Q i K a w:=by
 unfold Go.wpOp;simp only[hi];rcases hy with⟨yi,hv⟩|⟨yi,rfl⟩
 ·simp only[yi,if_true];left;exact Oper.wp_of_quiet (C:=EG w) (K:=fun a'=>a'=a.put o.dst v) (EG.refl _) (fun a' w' hw' ha=>ha ▸ h w' hw') ⟨v,fun w'' hw''=>by
   have:=hv w'' (EG.trans hw hw'');unfold Oper.quietAt at*;generalize (execOp a.eval o).run P w''=r at*;cases r with
   |ok n u=>cases n<;>simp only[Oper.quietUpon]at this ⊢<;>first|exact this|exact⟨this.1,this.2.mono fun _ _ ⟨e1,e2⟩=>⟨e1,EG.trans hw'' e2⟩⟩
   |halt x u=>simp only[Oper.quietUpon]at this,rfl⟩
 ·simp only[yi,XF,if_false];exact h w (EG.refl _)
theorem Cp {W:World}{j:Nat}{oi oj:Oper}{v:Value}(hj:ops[j]? =some oj)(QD:oi.apart ops oj=true)
 (Bm:∀cs b,oi.op≠ .select cs b) (M7:∀cs b,oj.op≠ .select cs b)
 (hQ:∀c a w,Q (.panic c) (a.put oi.dst v) w→Q (.panic c) a w) {K:Act→World→Prop}{a:Act}{w:World}
 (hy:Bk P ops W oi v a) (h:wpOp P ops Q j K (a.put oi.dst v) w):
 wpOp P ops Q j (fun a' w'=>Bk P ops W oi v a'∧K (a'.put oi.dst v) w') a w:=by
 obtain⟨h1,h2,h3⟩:=Oper.apart_spec QD;have keep:∀(a:Act),Bk P ops W oi v a→∀u,Bk P ops W oi v (a.put oj.dst u):=fun a hy u=>
  hy.of_same (execOp_put oi Bm a oj.dst u h3) (wanted_put oi a oj.dst u h3)
 have keepD:∀d,Bk P ops W oi v {a with defers:=d::a.defers}:=fun d=>hy.of_same rfl rfl;unfold wpOp at*;simp only[hj]at*;rw[wanted_put oj a oi.dst v h1]at h;split
 ·rename_i hw;simp only[hw,if_true]at h;rcases h with h|⟨rB,A8⟩
  case inr=>exact .inr ⟨by unfold Oper.asks at*;rw[execOp_put oj M7 a oi.dst v h1]at rB;exact rB,A8⟩
  refine .inl ?_;unfold Oper.wp at*;rw[execOp_put oj M7 a oi.dst v h1]at h;generalize (execOp a.eval oj).run P w=r at*;cases r with
  |ok n w'=>
   cases n<;>simp only[Oper.upon]at h ⊢
   case value u=>exact⟨keep a hy u,by rw[←Act.put_comm a v u h2];exact h⟩
   case skip=>exact⟨keep a hy _,by rw[←Act.put_comm a v undef h2];exact h⟩
   case defer d=>
    refine⟨keep _ (keepD d) _,?_⟩;rw[←Act.put_comm _ v undef h2,←Act.put_defers];exact h
   case enter f args=>
    refine Calls.mono h fun e w'' he=>?_;cases e with
    |returned u=>exact⟨keep a hy u,by rw[←Act.put_comm a v u h2];exact he⟩
    |panicked c=>exact hQ _ _ _ he
    |outgrown=>exact he
   case row row args=>exact Rows.mono h fun u w'' he=>⟨keep a hy u,by rw[←Act.put_comm a v u h2];exact he⟩
  |halt x w'=>
   cases x<;>simp only[Oper.upon]at h ⊢
   case panic u=>exact hQ _ _ _ h
 ·rename_i hw;simp only[hw]at h;exact⟨keep a hy _,by rw[←Act.put_comm a v undef h2];exact h⟩
theorem FL {i:Nat}{oi:Oper}{v:Value}(hi:ops[i]? =some oi)(A9:∀(j:Nat) (o:Oper) cs b,ops[j]? =some o→o.op≠ .select cs b)
 (hQ:∀c a w,Q (.panic c) (a.put oi.dst v) w→Q (.panic c) a w):
 ∀(fuel:Nat) (listed:Array Bool) (a:Act) (W:World),
  (∀j oj,ops[j]? =some oj→j≠i→listed.getD j true=false→(∀e∈oj.after,Region.binds .any e=true→e.on≠i)→oi.apart ops oj=true)→
  i∈Region.ready .any ops listed→Bk P ops W oi v a→
  JU P ops Q fuel (listed.setIfInBounds i true) (a.put oi.dst v) W→JU P ops Q (fuel+1) listed a W:=by
 intro fuel;induction fuel with
 |zero=>
  intro listed a W _ hr hy H w hw;refine⟨fun h=>(by rw[h]at hr;cases hr),fun j hj=>?_⟩;by_cases jo:j=i
  ·subst jo;exact hy.wpOp hi hw fun w' hw'=>⟨hw',H.world (EG.trans hw hw')⟩
  ·have:=ready_mono hj jo;rw[H.1]at this;cases this
 |succ fuel ih=>
  intro listed a W rC hr hy H w hw;refine⟨fun h=>(by rw[h]at hr;cases hr),fun j hj=>?_⟩;by_cases jo:j=i
  ·subst jo;exact hy.wpOp hi hw fun w' hw'=>⟨hw',H.world (EG.trans hw hw')⟩
  ·have h1:=(H w hw).2 j (ready_mono hj jo);obtain⟨Ba,oj,Jv,b7⟩:=mem_ready.1 hj;have Jw:∀e∈oj.after,Region.binds .any e=true→e.on≠i:=fun e he hb heq=>by
    have h1:=b7 e he hb;have h0:=(mem_ready.1 hr).1;rw[heq]at h1;rcases Wv i listed.size with h'|h'
    ·simp[h']at h0 h1;rw[h0]at h1;cases h1
    ·simp[WT h']at h1
   have h2:=Cp Jv (rC j oj Jv jo Ba Jw) (fun cs b=>A9 i oi cs b hi) (fun cs b=>A9 j oj cs b Jv) hQ (hy.world hw) h1;have uv:∀k ok,ops[k]? =some ok→k≠i→(listed.setIfInBounds j true).getD k true=false→
    (∀e∈ok.after,Region.binds .any e=true→e.on≠i)→oi.apart ops ok=true:=fun k ok hk Jy M8 df=>by
    refine rC k ok hk Jy ?_ df;by_cases CZ:j=k
    ·subst CZ;exact Ba
    ·rw[getD_set_ne true CZ]at M8;exact M8
   refine wpOp_mono (fun a' w' h3=>⟨h3.2.1,ih (listed.setIfInBounds j true) a' w' uv (ready_mono hr (Ne.symm jo)) (h3.1.world h3.2.1) ?_⟩) h2;rw[Array.setIfInBounds_comm _ _ jo];exact h3.2.2
def lh (P:Program)(ops:Array Oper)(Q:Exit→Act→World→Prop):List Oper→Nat→Array Bool→Act→World→Prop
 |[],_,_,a,W=>∀w,EG W w→Q .normal a w
 |o::rest,k,listed,a,W=>
  (∃v,Bk P ops W o v a∧lh P ops Q rest (k+1) (listed.setIfInBounds k true) (a.put o.dst v) W)∨
  (Region.ready .any ops listed=[k]∧Region.wanted o (yielded ops a.tmps)=true∧∀w,EG W w→o.wp P a w (fun a' w'=>EG w w'∧lh P ops Q rest (k+1) (listed.setIfInBounds k true) a' w') Q)
theorem ot (hs:Region.noSelect ops=true)(hQ:∀c a d v w,Q (.panic c) (a.put d v) w→Q (.panic c) a w):∀(l:List Oper) (k:Nat) (listed:Array Bool) (a:Act) (W:World),(∀j,l[j]? =ops[k+j]?)→
 Region.lexFrom .any ops l.length k listed=true→lh P ops Q l k listed a W→JU P ops Q l.length listed a W
 |[],_,_,_,_,_,hB,h=>⟨by simpa[Region.lexFrom]using hB,h⟩
 |o::l,k,listed,a,W,hl,hB,h=>by
  have h0:ops[k]? =some o:=by simpa using (hl 0).symm
  simp only[Wc,Region.lexFrom,Wd]at hB;obtain⟨⟨hr,hf⟩,hB'⟩:=hB;have hl':∀j,l[j]? =ops[k+1+j]? :=fun j=>by have:=hl (j+1);simpa[XI,Nat.add_comm 1 j]using this
  rcases h with⟨v,hy,hK⟩|⟨da,yi,hK⟩
  ·exact FL h0 (Region.noSelect_spec hs) (fun c a w=>hQ c a _ _ w) l.length listed a W (Region.free_spec h0 hf) (by simpa using hr) hy (ot hs hQ l (k+1) _ _ _ hl' hB' hK)
  ·intro w hw;refine⟨fun h=>by rw[da]at h;simp at h,fun i hi=>?_⟩;rw[da]at hi;obtain rfl:i=k:=by simpa using hi
   unfold wpOp;simp only[h0,yi,if_true];left;exact Oper.wp_mono (fun a' w' h'=>⟨h'.1,ot hs hQ l (i+1) _ _ _ hl' hB' h'.2⟩) (hK w hw)
theorem An {id:Nat}{a:Act}{w:World}{l:List Oper}(hm:P.follows .mixedOrders=true)(hB:Region.lexB .any l.toArray=true)(hQ:∀c a d v w,Q (.panic c) (a.put d v) w→Q (.panic c) a w)
 (h:lh P l.toArray Q l 0 (XB l.length false) a w):(Code.region id l.toArray true).wp P Q a w:=by
 simp only[Region.lexB,Wd]at hB;refine wp_region_any hm ?_;have h2:=ot hB.1 hQ l 0 (XB l.length false) a w (by simp) (by simpa using hB.2) h;have h3:=(h2.world (EG.drew w:EG w w.drew)).any;simpa using h3
section
variable {o:Oper}{rest:List Oper}{k:Nat}{listed:Array Bool}{a:Act}{W:World}
theorem IF (h:∀w,EG W w→Q .normal a w):lh P ops Q [] k listed a W:=h
theorem wA {v:Value}(hw:Region.wanted o (yielded ops a.tmps)=true)(h:∀w,EG W w→∀R:Value→Prop,R v→Lt P w w R ((execOp a.eval o).run P w))
 (hn:lh P ops Q rest (k+1) (listed.setIfInBounds k true) (a.put o.dst v) W):lh P ops Q (o::rest) k listed a W:=
 .inl ⟨v,.inl ⟨hw,fun w hw=>Co (h w hw)⟩,hn⟩
theorem tV (hr:Region.ready .any ops listed=[k])(hw:Region.wanted o (yielded ops a.tmps)=true)
 (h:∀w,EG W w→∀K:Act→World→Prop,(∀a' w',EG w w'→lh P ops Q rest (k+1) (listed.setIfInBounds k true) a' w'→K a' w')→o.wp P a w K Q):lh P ops Q (o::rest) k listed a W:=
 .inr ⟨hr,hw,fun w hw=>h w hw _ fun _ _ h1 h2=>⟨h1,h2⟩⟩
end
theorem rm {f:FuncId}{args:Array Value}{w:World}{R:Value→Prop}{v:Value}(h:Calls P f args w fun e w'=>e= .returned v∧w=w')(hR:R v):Calls P f args w (IE w R):=
 h.mono fun _ _ ⟨he,hx⟩=>⟨⟨v,he,hR⟩,hx ▸ EG.refl _⟩
end
section
open Go.Proofs Go.Shelf
def jS (l:Lnk):Int:=l.a*65537+l.b
def Ty (xs:List Value)(k:Int):Prop:=∃a b:Int,xs=[.int .i64 a,.int .i64 b]∧k=a*65537+b∧1≤b∧b≤65536
@[reducible] def FM:Inhabited (SRow Ty (1+1)):=⟨⟨[.int .i64 0,.int .i64 1],rfl,fun v hv=>by simp at hv;rcases hv with rfl|rfl<;>rfl,1,0,1,rfl,by omega,by omega,by omega⟩⟩
theorem Ao {a b c d:Int}(h1:1≤b)(h2:b≤65536)(h3:1≤d)(h4:d≤65536):Bi [dx a c,dx b d]=dx (a*65537+b) (c*65537+d):=by
 simp only[Bi,dx];repeat' split
 all_goals omega
theorem Lu (x y:Int)(b:Nat)(W:World)(hx:W.cell? ⟨b,0,none⟩=some (.int .i64 x))(hy:W.cell? ⟨b,1,none⟩=some (.int .i64 y)):
 Calls prog 216 #[.slice (some ⟨b,0,none⟩) 2 2] W fun e w'=>e= .returned (.int .i64 (Bi [x,y]))∧w'=W:=by
 have lb:=cQ hx;go_enter func216,ntmps216
 go_wp2_with fail
 go_loopw [5,8] (fun _ s8 wr=>∃k:Nat,s8= .int .i64 k∧((k=0)∨(k=1∧x=0)∨(k=2∧x=0∧y=0))∧wr=W) (fun _ s8 _=>2 - (intOf s8).toNat)
 case atStart=>exact⟨0,rfl,.inl rfl,rfl⟩
 case round=>
  obtain⟨k,rfl,hk,rfl⟩:=hrel;rcases hk with rfl|⟨rfl,h0⟩|⟨rfl,h0,h1⟩
  ·by_cases h0:x=0
   ·have hb:(x !=0)=false:=by simp[h0]
    replace h0:=VZ h0;go_wp2_with fail
    go_roundw
    case rel=>exact⟨1,by go_num,.inr (.inl ⟨rfl,h0.out⟩),trivial⟩
    case measure=>simp[intOf]
   ·have hb:(x !=0)=true:=by simpa using h0
    replace h0:=VZ h0;go_wp2_with fail
    go_ret
    exact⟨bV (by simp[Bi,h0.out]),rfl⟩
  ·by_cases h1:y=0
   ·have hb:(y !=0)=false:=by simp[h1]
    replace h0:=VZ h0;replace h1:=VZ h1;go_wp2_with fail
    go_roundw
    case rel=>exact⟨2,by go_num,.inr (.inr ⟨rfl,h0.out,h1.out⟩),trivial⟩
    case measure=>simp[intOf]
   ·have hb:(y !=0)=true:=by simpa using h1
    replace h0:=VZ h0;replace h1:=VZ h1;go_wp2_with fail
    go_ret
    exact⟨bV (by simp[Bi,h0.out,h1.out]),rfl⟩
  ·replace h0:=VZ h0;replace h1:=VZ h1;go_wp2_with fail
   go_ret
   exact⟨bV (by simp[Bi,h0.out,h1.out]),rfl⟩
theorem Lv (x y:SRow Ty (1+1))(W:World):Calls prog 127 #[.agg x.xs.toArray,.agg y.xs.toArray] W fun e w'=>e= .returned (.int .i64 (Bj x y))∧∃q os',w'=Sort.grow (W.drewN q) os':=by
 obtain⟨xs,xl,x1,kx,a,b,rfl,rfl,mO,lx⟩:=x;obtain⟨ys,yl,y1,ky,c,d,rfl,rfl,A4,yf⟩:=y;unfold Bj;simp only;rw[←Ao mO lx A4 yf];have h1:∀W,Calls prog 176 #[.int .i64 a,.int .i64 c] W fun e w'=>e= .returned (.int .i64 (dx a c))∧W=w':=fun W=>(fD a c W).mono fun _ _ ⟨e1,e2⟩=>⟨e1,e2.symm⟩;have h2:∀W,Calls prog 176 #[.int .i64 b,.int .i64 d] W fun e w'=>e= .returned (.int .i64 (dx b d))∧W=w':=fun W=>(fD b d W).mono fun _ _ ⟨e1,e2⟩=>⟨e1,e2.symm⟩;generalize dx a c=A at*;generalize dx b d=B at*;clear x1 y1 xl yl mO lx A4 yf;have key:Calls prog 127 #[.agg #[.int .i64 a,.int .i64 b],.agg #[.int .i64 c,.int .i64 d]] W fun e w'=>e= .returned (.int .i64 (Bi [A,B]))∧EG W w':=by
  have OM:EG W ((W.alloc (.cells #[.int .i64 a,.int .i64 b] 91)).alloc (.cells #[.int .i64 c,.int .i64 d] 91)):=(EG.alloc W _).trans (EG.alloc _ _);go_enter func127,ntmps127
  go_wp2_with fail
  refine An (by kernel_rfl) (by kernel_rfl) (fun _ _ d _ _ h=>by cases d<;>exact h) ?_;repeat(apply wA;(first|exact b6 rfl|exact cu rfl rfl rfl (by with_reducible rfl));intro wq ek R hR;(have ek:=ek.ext;(have gF:=(bk ek).1;(try simp only[Wb,ab,Wf,We]at gF));go_simp;first|exact hR|(go_at_call 176;with_reducible (first|exact rm (h1 _) hR|exact rm (h2 _) hR)));simp only[Act.put,V8,Wi,Wl])
  refine tV (by kernel_rfl) (b6 rfl) (fun w3 lF K2 hK=>?_);go_simp
  refine hK _ _ (EG.alloc _ _) ?_;clear hK K2;refine tV (by kernel_rfl) (b6 rfl) (fun w4 JA K3 hK=>?_);have Gu:w4.cell? ⟨w3.heap.size,0,none⟩=some (.int .i64 A):=cl JA.ext (by simp);have Mo:w4.cell? ⟨w3.heap.size,1,none⟩=some (.int .i64 B):=cl JA.ext (by simp);go_simp
  go_at_call 216
  refine(Lu A B _ w4 Gu Mo).mono ?_;rintro e w5 ⟨rfl,rfl⟩;go_simp
  refine hK _ _ (EG.refl _) ?_;clear hK K3;apply wA
  ·exact b6 rfl
  ·intro wq ek R hR;go_simp
   exact hR
  simp only[Act.put,V8,Wi,Wl];refine IF ?_;intro w6 Vo;go_wp2_with fail
  go_ret
  exact⟨bV rfl,OM.trans (lF.trans ((EG.alloc _ _).trans (JA.trans Vo)))⟩
 refine key.mono fun e w' ⟨he,⟨⟨q,os⟩,hw⟩⟩=>⟨he,q,os,hw⟩
theorem FN {l l':List Lnk}(g:Nat)(hb:∀x∈l,1≤x.b∧x.b≤65536)(wR:l≠[])(hp:l'.Perm l)(hs:l'.Pairwise fun x y=>jS x < jS y)(ck:l.length≤1000000):
 MSpec prog 179 [.own 0 g,.d (.clo 127 [])] [.row 91 2 g (aa (l.map cA))] (.d (.tup [])) [.row 91 2 g (aa (l'.map cA))]:=
 DZ FM sortLink rfl (ce func179 (by kernel_rfl) rfl) isAgg91 sizeOf91 (enters_of func127 (by kernel_rfl) rfl) Lv cA jS (fun x hx vs hl hr=>by
  match vs,hl with
  |[u,v],_=>
   obtain⟨M,w,r0⟩:=hr 0 _ u rfl rfl;obtain⟨M2,w2,r1⟩:=hr 1 _ v rfl rfl;cases r0;cases r1;exact⟨x.a,x.b,rfl,rfl,hb x hx⟩) wR hp hs ck
end
def iD (n:Net)(id:Int):Int:=if du id=false then 3 else if (d9 n id).isSome=true then 6 else if n.vpcs.length=6 then 2 else 0
def lB (n:Net)(id:Int):Net × Int:=
 if dR n≠0 then (Net.zero,dR n)else if iD n id≠0 then (Net.zero,iD n id)else ({n with vpcs:=eo (·.id) ⟨id,[],[]⟩ n.vpcs},0)
theorem Cq {n:Net}{id:Int}(h:d9 n id=none):∀v∈n.vpcs,v.id≠id:=fun v hv=>by
 have:=XP.1 h v hv;simpa using this
theorem Lw (n:Net)(id:Int):ae prog 102 [.agg (fG n),.v (.int .i64 id)] (.tup [.agg (fG (lB n id).1),.v (.int .i64 (lB n id).2)]):=by
 obtain⟨R,hR⟩:∃R,R=lB n id:=⟨_,rfl⟩;rw[←hR];replace hR:=VZ hR;by_cases hc:dR n=0
 ·have cr:=ic.1 hc;have ci:=pw n hc;have Vp:((n.vpcs.length:Int)==6)=decide (n.vpcs.length=6):=by rw[Xh];simp;omega
  cases hx:mB n id with
  |some i=>
   obtain⟨v,hv,he,hi,Gi⟩:=jg hx;have f7:=px n id n.vpcs.length 1 i v hv he cr.n6 cr.rise;have hr:R=(Net.zero,if du id=false then 3 else 6):=by
    rw[hR.out];unfold lB iD;rw[if_neg (by simpa using hc),Gi];cases du id<;>simp
   rw[hr];have hid:du id=(decide (1≤id)&&decide (id≤65536)):=rfl;rw[hid];clear hr hR cr hx hc Gi hv he hid;refine pj func102 ntmps102 results102 ?_;have z1z:=Ln.mk (ls:=[]) (ci);have z2z:=Ln.mk (ls:=[4,5,3]) (f7);refine Pg ?_ ?_ ?_<;>intros;all_goals first
    |(exfalso;grind)
    |(rw[if_pos (by grind)];exact dg)
    |(rw[if_neg (by grind)];exact dg)
  |none=>
   have f7:=mC n id n.vpcs.length 1 (eG hx) cr.n6 cr.rise;have hn:=eG hx;by_cases cD:iD n id≠0
   ·have hr:R=(Net.zero,iD n id):=by rw[hR.out];unfold lB;rw[if_neg (by simpa using hc),if_pos cD]
    have Un:iD n id=if du id=false then 3 else if n.vpcs.length=6 then 2 else 0:=by unfold iD;rw[hn];rfl
    rw[hr];have hid:du id=(decide (1≤id)&&decide (id≤65536)):=rfl;rw[Un]at cD ⊢;rw[hid]at cD ⊢;clear hr hR cr hx hc hid hn Un;replace cD:=VZ cD;refine pj func102 ntmps102 results102 ?_;have z1z:=Ln.mk (ls:=[]) (ci);have z2z:=Lm.mk (Ln.mk (ls:=[4,5,3]) (f7));refine rK ?_ ?_ ?_ ?_ ?_ ?_ ?_ ?_<;>first|(with_reducible exact True.intro)|intros
    all_goals have lx:=cD.out
    all_goals clear cD f7 ci
    all_goals first
     |(exfalso;grind)
     |(rw[if_pos (by grind)];exact dg)
     |(rw[if_neg (by grind),if_pos (by grind)];exact dg)
   ·have hr:R=({n with vpcs:=eo (·.id) ⟨id,[],[]⟩ n.vpcs},0):=by rw[hR.out];unfold lB;rw[if_neg (by simpa using hc),if_neg cD]
    have hg:iD n id=0:=by simpa using cD
    obtain⟨g1,g2⟩:du id=true∧n.vpcs.length≠6:=by unfold iD at hg;rw[hn]at hg;grind
    have g3:1≤id∧id≤65536:=by simpa[du]using g1
    have h6:=cr.n6;have pP:=ID (l:=n.vpcs++[⟨id,[],[]⟩]) (l':=eo (·.id) ⟨id,[],[]⟩ n.vpcs) (n.vpcs.length+1) (by simp) (eM _ _ _) (eE cr.rise fun v hv=>Cq hn v hv) (by simp;omega);have Pu:((n.vpcs.length:Int)==6)=false:=by simp;omega
    have mO:n.vpcs.length+1≤100:=by omega
    have jq:decide (id < 1)=false:=by simp;omega
    have jN:decide (id>65536)=false:=by simp;omega
    simp only[V6,V1,V5]at pP;have pP:=pP.leh (zH (A:=n.vpcs.map aG) (B:=[]) (r:=[.v (.int .i64 id),.v (.slice none 0 0),.v (.slice none 0 0)]) dg) (by have:=nX (enc:=aG) (fun _=>rfl) (n.vpcs++[⟨id,[],[]⟩]);simpa using this) (an _ _);rw[hr];clear hr hR cr hx hc hn cD hg g1 g2 g3 Vp;refine pj func102 ntmps102 results102 ?_;have z1z:=Ln.mk (ls:=[]) (ci);have z2z:=Ln.mk (ls:=[4,5,3]) (f7);have z3z:=Ln.mk (ls:=[5]) (pP);exact bx;all_goals exact dg
 ·have ci:=m6 n hc;have O9:=IA id;have h1:(dR n !=0)=true:=by simpa using hc
  have hr:R=(Net.zero,dR n):=by rw[hR.out];unfold lB;rw[if_pos hc]
  rw[hr];replace hr:=VZ hr;refine pj func102 ntmps102 results102 ?_;have z1z:=Ln.mk (ls:=[]) (ci);refine aF ?_<;>intros;all_goals exact dg
def fW (n:Net)(a b:Int):Int:=
 if a=b then 3 else if d9 n a=none∨d9 n b=none then 5 else if pg a b∈n.links then 6 else
 if d4 {n with links:=eo jS (pg a b) n.links}=false then 9 else if n.links.length+1>12 then 2 else 0
def nE (n:Net)(a b:Int):Net × Int:=
 if dR n≠0 then (Net.zero,dR n)else if fW n a b≠0 then (Net.zero,fW n a b)else ({n with links:=eo jS (pg a b) n.links},0)
theorem NetOK.bd {n:Net}(h:NetOK n){x:Int}(hx:x∈n.vpcs.map (·.id)):1≤x∧x≤65536:=by
 obtain⟨v,hv,rfl⟩:=Wp.1 hx;have:=(bt (h.vp v hv)).id;simpa[du]using this
theorem IG {l m:Lnk}(h1:1≤l.b∧l.b≤65536)(h2:1≤m.b∧m.b≤65536):tu l m=dx (jS l) (jS m):=Ao h1.1 h1.2 h2.1 h2.2
theorem NetOK.lsort {n:Net}(h:NetOK n):n.links.Pairwise fun a b=>jS a < jS b:=by
 have hb:∀l∈n.links,1≤l.b∧l.b≤65536:=fun l hl=>h.bd (h.ids l hl).2;have:=(xy n.links).1 h.rk;have step:∀j (hj:j+1 < n.links.length),jS n.links[j] < jS n.links[j+1]:=fun j hj=>by
  have h1:=this j hj;rw[IG (hb _ (W8 _)) (hb _ (W8 _))]at h1;unfold dx at h1;split at h1
  ·assumption
  ·split at h1<;>omega
 rw[WG];intro i j hi hj hij;obtain⟨d,rfl⟩:∃d,j=i+1+d:=⟨j - i - 1,by omega⟩;induction d with
 |zero=>exact step i hj
 |succ d ih=>
  have h1:=ih (by omega) (by omega);have h2:=step (i+1+d) (by omega);exact Int.lt_trans h1 h2
theorem FO (a b:Int):(pg a b=⟨a,b⟩∧a≤b)∨(pg a b=⟨b,a⟩∧b≤a):=by
 unfold pg;rcases Int.lt_trichotomy a b with h|h|h
 ·left;rw[if_neg (by omega),if_pos h];exact⟨rfl,by omega⟩
 ·subst h;left;simp
 ·right;rw[if_pos h,if_neg (by omega)];exact⟨rfl,by omega⟩
theorem IH {l m:Lnk}(h1:1≤l.b∧l.b≤65536)(h2:1≤m.b∧m.b≤65536)(h:jS l=jS m):l=m:=by
 unfold jS at h;cases l;cases m;simp only at*;simp only[Lnk.mk.injEq];omega
theorem Lx (n:Net)(a b:Int):ae prog 103 [.agg (fG n),.v (.int .i64 a),.v (.int .i64 b)] (.tup [.agg (fG (nE n a b).1),.v (.int .i64 (nE n a b).2)]):=by
 obtain⟨R,hR⟩:∃R,R=nE n a b:=⟨_,rfl⟩;rw[←hR];replace hR:=VZ hR;by_cases hc:dR n=0
 ·have cr:=ic.1 hc;have ci:=pw n hc;have rD:=IC a b;have yb:R=if fW n a b≠0 then (Net.zero,fW n a b)else ({n with links:=eo jS (pg a b) n.links},0):=by rw[hR.out];unfold nE;rw[if_neg (by simpa using hc)]
  cases Mx:mB n a with
  |none=>
   have vn:=mC n a n.vpcs.length 1 (eG Mx) cr.n6 cr.rise;have hr:R=(Net.zero,if a=b then 3 else 5):=by
    rw[yb,show fW n a b=if a=b then 3 else 5 by unfold fW;rw[eG Mx];simp];split<;>simp
   have nf:(a==b)=decide (a=b):=rfl;rw[hr];cases uA:mB n b with
   |none=>
    have rV:=mC n b n.vpcs.length 1 (eG uA) cr.n6 cr.rise;clear hr hR yb cr Mx uA hc;refine pj func103 ntmps103 results103 ?_;have z1z:=Ln.mk (ls:=[]) (ci);have z2z:=Lm.mk (Ln.mk (ls:=[4,5,3]) (vn));have z3z:=Lo.mk (Ln.mk (ls:=[4,5,3]) (rV));refine rK ?_ ?_ ?_ ?_ ?_ ?_ ?_ ?_<;>first|(with_reducible exact True.intro)|intros
    all_goals first
     |(exfalso;grind)
     |(rw[if_pos (by grind)];exact dg)
     |(rw[if_neg (by grind)];exact dg)
   |some j=>
    obtain⟨v,hv,he,hi,Gi⟩:=jg uA;have rV:=px n b n.vpcs.length 1 j v hv he cr.n6 cr.rise;clear hr hR yb cr Mx uA hc hv he Gi hi;refine pj func103 ntmps103 results103 ?_;have z1z:=Ln.mk (ls:=[]) (ci);have z2z:=Lm.mk (Ln.mk (ls:=[4,5,3]) (vn));have z3z:=Lo.mk (Ln.mk (ls:=[4,5,3]) (rV));refine rK ?_ ?_ ?_ ?_ ?_ ?_ ?_ ?_<;>first|(with_reducible exact True.intro)|intros
    all_goals first
     |(exfalso;grind)
     |(rw[if_pos (by grind)];exact dg)
     |(rw[if_neg (by grind)];exact dg)
  |some i=>
   obtain⟨u,hu,Re,RJ,Gj⟩:=jg Mx;have vn:=px n a n.vpcs.length 1 i u hu Re cr.n6 cr.rise;cases uA:mB n b with
   |none=>
    have rV:=mC n b n.vpcs.length 1 (eG uA) cr.n6 cr.rise;have hr:R=(Net.zero,if a=b then 3 else 5):=by
     rw[yb,show fW n a b=if a=b then 3 else 5 by unfold fW;rw[eG uA];simp];split<;>simp
    rw[hr];clear hr hR yb cr Mx uA hc hu Re RJ Gj;refine pj func103 ntmps103 results103 ?_;have z1z:=Ln.mk (ls:=[]) (ci);have z2z:=Lm.mk (Ln.mk (ls:=[4,5,3]) (vn));have z3z:=Lo.mk (Ln.mk (ls:=[4,5,3]) (rV));refine rK ?_ ?_ ?_ ?_ ?_ ?_ ?_ ?_<;>first|(with_reducible exact True.intro)|intros
    all_goals first
     |(exfalso;grind)
     |(rw[if_pos (by grind)];exact dg)
     |(rw[if_neg (by grind)];exact dg)
   |some j=>
    obtain⟨v,hv,RL,Te,JM⟩:=jg uA;have rV:=px n b n.vpcs.length 1 j v hv RL cr.n6 cr.rise;by_cases nf:a=b
    ·have hr:R=(Net.zero,3):=by rw[yb,show fW n a b=3 by unfold fW;rw[if_pos nf]];rfl
     rw[hr];clear hr hR yb cr Mx uA hc hu Re RJ Gj hv RL Te JM;have Tf:(a==b)=true:=by simpa using nf
     replace nf:=VZ nf;refine pj func103 ntmps103 results103 ?_;have z1z:=Ln.mk (ls:=[]) (ci);have z2z:=Lm.mk (Ln.mk (ls:=[4,5,3]) (vn));have z3z:=Lo.mk (Ln.mk (ls:=[4,5,3]) (rV));refine rK ?_ ?_ ?_ ?_ ?_ ?_ ?_ ?_<;>first|(with_reducible exact True.intro)|intros
     all_goals exact dg
    ·have Tf:(a==b)=false:=by simpa using nf
     have uB:=uZ n.links (pg a b) (by have:=cr.n12;omega);have mM:(n.links.any fun y=>decide (pg a b=y))=decide (pg a b∈n.links):=by
      rw[Xh,XK];simp
     rw[mM]at uB;have cz:R=if pg a b∈n.links then (Net.zero,6)else if d4 {n with links:=eo jS (pg a b) n.links}=false then (Net.zero,9)else if n.links.length+1>12 then (Net.zero,2)else ({n with links:=eo jS (pg a b) n.links},0):=by
      rw[yb];unfold fW;rw[if_neg nf,Gj,JM];simp only[reduceCtorEq,or_self,if_false];split
      ·rfl
      ·split
       ·rfl
       ·split<;>rfl
     by_cases g7:pg a b∈n.links
     ·have hr:R=(Net.zero,6):=by rw[cz,if_pos g7]
      rw[hr];rw[decide_eq_true g7]at uB;clear hr hR yb cz cr Mx uA hc hu Re RJ Gj hv RL Te JM mM g7;generalize pg a b=LK at*;replace nf:=VZ nf;refine pj func103 ntmps103 results103 ?_;have z1z:=Ln.mk (ls:=[]) (ci);have z2z:=Lm.mk (Ln.mk (ls:=[4,5,3]) (vn));have z3z:=Lo.mk (Ln.mk (ls:=[4,5,3]) (rV));refine rK ?_ ?_ ?_ ?_ ?_ ?_ ?_ ?_<;>first|(with_reducible exact True.intro)|intros
      all_goals exact dg
     ·rw[if_neg g7]at cz;rw[decide_eq_false g7]at uB;have QJ:a∈n.vpcs.map (·.id):=i5 (by rw[Gj];rfl);have QK:b∈n.vpcs.map (·.id):=i5 (by rw[JM];rfl);have mN:∀l∈n.links,1≤l.b∧l.b≤65536:=fun l hl=>cr.bd (cr.ids l hl).2;have jO:(pg a b).a∈n.vpcs.map (·.id)∧(pg a b).b∈n.vpcs.map (·.id):=by
       rcases FO a b with⟨e,-⟩|⟨e,-⟩
       ·rw[e];exact⟨QJ,QK⟩
       ·rw[e];exact⟨QK,QJ⟩
      have Pa:=cr.bd jO.2;have pP:=FN (l:=n.links++[pg a b]) (l':=eo jS (pg a b) n.links) 2 (fun l hl=>by
       rcases WJ.1 hl with hl|hl
       ·exact mN l hl
       ·rw[WP.1 hl];exact Pa) (by simp) (eM _ _ _) (eE cr.lsort fun y hy e=>g7 (by rw[←IH (mN y hy) Pa e];exact hy)) (by have:=cr.n12;simp;omega)
      have JD:=xx {n with links:=eo jS (pg a b) n.links} (by have:=cr.n6;simp;omega) (by have:=cr.n12;simp only[fT];omega) (fun v hv=>by have:=(bt (cr.vp v hv)).n4;omega) (fun l hl=>by
       rcases kl.1 hl with rfl|hl
       ·exact jO
       ·exact cr.ids l hl)
      have T2:=cr.n12;have mO:n.links.length+1≤100:=by omega
      have xY:(eo jS (pg a b) n.links).length=n.links.length+1:=fT _ _ _;have Rf:((n.links.length+1:Nat):Int)>12↔n.links.length+1>12:=by omega
      simp only[V6,V1,V5]at pP;clear hR yb cr Mx uA hc hu Re RJ Gj hv RL Te JM mM g7 QJ QK mN jO Pa;generalize eo jS (pg a b) n.links=LS at*;generalize pg a b=LK at*;replace nf:=VZ nf;cases hp:d4 {n with links:=LS} with
      |false=>
       have hr:R=(Net.zero,9):=by rw[cz,if_pos hp]
       rw[hp]at JD;rw[hr];clear hr cz hp Rf;refine pj func103 ntmps103 results103 ?_;have z1z:=Ln.mk (ls:=[]) (ci);have z2z:=Lm.mk (Ln.mk (ls:=[4,5,3]) (vn));have z3z:=Lo.mk (Ln.mk (ls:=[4,5,3]) (rV));have z4z:=Lo.mk (Ln.mk (ls:=[3]) (pP));refine rK ?_ ?_ ?_ ?_ ?_ ?_ ?_ ?_<;>first|(with_reducible exact True.intro)|intros
       all_goals exact dg
      |true=>
       rw[hp]at JD;by_cases xX:n.links.length+1>12
       ·have hr:R=(Net.zero,2):=by rw[cz,if_neg (by simp[hp]),if_pos xX]
        have Vq:decide ((LS.length:Int)>12)=true:=by rw[xY];exact decide_eq_true (Rf.2 xX)
        rw[hr];clear hr cz hp Rf xX;replace xY:=VZ xY;refine pj func103 ntmps103 results103 ?_;have z1z:=Ln.mk (ls:=[]) (ci);have z2z:=Lm.mk (Ln.mk (ls:=[4,5,3]) (vn));have z3z:=Lo.mk (Ln.mk (ls:=[4,5,3]) (rV));have z4z:=Lo.mk (Ln.mk (ls:=[3]) (pP));refine rK ?_ ?_ ?_ ?_ ?_ ?_ ?_ ?_<;>first|(with_reducible exact True.intro)|intros
        all_goals exact dg
       ·have hr:R=({n with links:=LS},0):=by rw[cz,if_neg (by simp[hp]),if_neg xX]
        have Vq:decide ((LS.length:Int)>12)=false:=by rw[xY];exact decide_eq_false (fun h=>xX (Rf.1 h))
        rw[hr];clear hr cz hp Rf xX;replace xY:=VZ xY;refine pj func103 ntmps103 results103 ?_;have z1z:=Ln.mk (ls:=[]) (ci);have z2z:=Lm.mk (Ln.mk (ls:=[4,5,3]) (vn));have z3z:=Lo.mk (Ln.mk (ls:=[4,5,3]) (rV));have z4z:=Lo.mk (Ln.mk (ls:=[3]) (pP));refine rK ?_ ?_ ?_ ?_ ?_ ?_ ?_ ?_<;>first|(with_reducible exact True.intro)|intros
        all_goals exact dg
 ·have ci:=m6 n hc;have h1:(dR n !=0)=true:=by simpa using hc
  have hr:R=(Net.zero,dR n):=by rw[hR.out];unfold nE;rw[if_pos hc]
  rw[hr];replace hr:=VZ hr;refine pj func103 ntmps103 results103 ?_;have z1z:=Ln.mk (ls:=[]) (ci);refine aF ?_<;>intros;all_goals exact dg
def wB (E:List (List Int × Int))(id:Int):Bool:=E.any fun kv=>kv.2==id
theorem N8 (b:Bok)(n:Net)(c:Cmd)(id:Int)(h8:b.pools.length≤1000000000)(jK:∀p∈b.pools,p.leases.length≤1000000000):
 MSpec prog 101 [.ptr 0 0,.d (.v (.int .i64 id))] [.box 128 (f9 b (.own 1 n.vpcs.length) (.d (.sl 2 (n.links.map cA))) c .zero),.row 88 3 n.vpcs.length (aa (n.vpcs.map aG))] (.d (.v (.bool (wB (DM b) id))))
  [.box 128 (f9 b (.own 1 n.vpcs.length) (.d (.sl 2 (n.links.map cA))) c .zero),.row 88 3 n.vpcs.length (aa (n.vpcs.map aG))]:=by
 have hu:=Ln.mk (ls:=[]) (DN b h8 jK);obtain⟨R,hR⟩:∃R,R=wB (DM b) id:=⟨_,rfl⟩;rw[←hR];replace hR:=VZ hR;clear h8 jK;generalize DM b=E at*;refine fP ah av func101 rfl ntmps101 results101 (by kernel_rfl) (by simp) (by simp[af,ag]) (by simp[ay,aH,af,ag,f9,aK,an]) ?_;refine aF ?_;refine ME (fun m e h=>∃(seen:List Nat),(∀i∈seen,∀kv,E[i]? =some kv→kv.2≠id)∧m=zW E.length seen∧e=[(13,.ptr 4 0),(1,.d (.v (.int .i64 id)))]∧h=[.box 128 (f9 b (.own 1 n.vpcs.length) (.d (.sl 2 (n.links.map cA))) c .zero),.row 88 3 n.vpcs.length (aa (n.vpcs.map aG)),.gone,.gone,.it 3 true E seen]) _ _ _ ⟨[],by simp,rfl,rfl,rfl⟩ (wf (hbh:=by simp only[f9,ay,dn,aH,af,bN,ag,aK,an,Wc,WM,Ws,Ys,decide_true,WW,Xa])) ?_;rintro m e h ⟨seen,df,hm,rfl,rfl⟩ C2 vm;replace df:=VZ df;refine DC ah av (by rfl) (zy (k:=4) (x:= .tmp 13) ah (by simp) rfl rfl rfl rfl rfl rfl (by decide) (by decide) rfl rfl (by simp) ?_ ?_)
 ·intro b7;have hr:R=false:=by
   rw[hR.out];unfold wB;rw[Yt];intro h;obtain⟨kv,M4,he⟩:=XK.1 h;obtain⟨i,hi,RE⟩:=WR M4;exact df.out i (b7 i hi) kv (by rw[VY hi,RE]) (by simpa using he)
  rw[hr];clear b7 hm hr;change sC _ _ _ _ _ _ _ _ _ _;refine aF ?_;exact wf
 ·intro i hi OQ;obtain⟨kv,M4⟩:∃kv,E[i]? =some kv:=⟨_,VY hi⟩;have Vd:(seen++[i]).getLast? =some i:=by simp
  have yj:=DO hi OQ;by_cases hid:kv.2=id
  ·have hr:R=true:=by
    rw[hR.out];unfold wB;exact XK.2 ⟨kv,V0 M4,by simpa using hid⟩
   rw[hr];have e1:(kv.2==id)=true:=by simpa using hid
   replace hid:=VZ hid;clear hm yj hr;change sC _ _ _ _ _ _ _ _ _ _;refine aF ?_;exact wf
  ·have e1:(kv.2==id)=false:=by simpa using hid
   have Ef:∀j∈seen++[i],∀kw,E[j]? =some kw→kw.2≠id:=fun j hj kw Th=>by
    rcases WJ.1 hj with h|h
    ·exact df.out j h kw Th
    ·simp at h;subst h;rw[M4]at Th;cases Th;exact hid
   replace Ef:=VZ Ef;replace hid:=VZ hid;replace yj:=VZ yj;change sC _ _ _ _ _ _ _ _ _ _;refine aF ?_;exact vm _ _ _ _ _ (by rw[hm];exact yj.out) ⟨_,Ef.out,rfl,rfl,rfl⟩ (wf (hbh:=by simp only[f9,ay,dn,aH,af,bN,ag,aK,an,Wc,WM,Ws,Ys,decide_true,WW,Xa]))
def Ap (c:Cmd):Bool:=decide (c.op=7∨c.op=15∨c.op=16)
def xG (b:Bok)(n:Net)(c:Cmd):Net × Ans:=
 if c.op=7 then if wB (DM b) c.a=true then (n,.er 6)else ((lB n c.a).1,.er (lB n c.a).2)
 else if c.op=15 then ((nE n c.a c.b).1,.er (nE n c.a c.b).2)
 else ((mD n c.a c.b).1,.er (mD n c.a c.b).2)
theorem N9 (b:Bok)(n:Net)(c:Cmd)(h:Ap c=false):
 MSpec prog 52 [.ptr 0 0] [.box 128 (f9 b (.own 1 n.vpcs.length) (.d (.sl 2 (n.links.map cA))) c .zero),.row 88 3 n.vpcs.length (aa (n.vpcs.map aG))] (.d (.v (.bool false)))
  [.box 128 (f9 b (.own 1 n.vpcs.length) (.d (.sl 2 (n.links.map cA))) c .zero),.row 88 3 n.vpcs.length (aa (n.vpcs.map aG))]:=by
 unfold Ap at h;have h:=of_decide_eq_false h;have e1:(c.op==7)=false:=by simp;omega
 have e2:(c.op==15)=false:=by simp;omega
 have e3:(c.op==16)=false:=by simp;omega
 clear h;refine fP ah av func52 rfl ntmps52 results52 (by kernel_rfl) (by simp) (by simp[af,ag]) (by simp[ay,aH,af,ag,f9,aK,an]) ?_;refine aF ?_;exact wf
theorem Oa (b:Bok)(n:Net)(c:Cmd)(h8:b.pools.length≤1000000000)(jK:∀p∈b.pools,p.leases.length≤1000000000)(h:Ap c=true):
 MSpec prog 52 [.ptr 0 0] [.box 128 (f9 b (.own 1 n.vpcs.length) (.d (.sl 2 (n.links.map cA))) c .zero),.row 88 3 n.vpcs.length (aa (n.vpcs.map aG))] (.d (.v (.bool true)))
  [.box 128 (f9 b (.d (.sl 3 ((xG b n c).1.vpcs.map aG))) (.d (.sl 2 ((xG b n c).1.links.map cA))) c (xG b n c).2),.gone]:=by
 have jU:c.op=7∨c.op=15∨c.op=16:=of_decide_eq_true h;clear h;unfold xG;rcases jU with h1|h1|h1
 ·rw[if_pos h1];have ho:=Ln.mk (ls:=[0,1]) (N8 b n c c.a h8 jK);replace jK:=VZ jK;cases hb:wB (DM b) c.a
  ·rw[hb]at ho;have hp:=Ln.mk (ls:=[1]) (tb (Lw n c.a) (args:=[.agg [.own 0 n.vpcs.length,.d (.sl 2 (n.links.map cA))],.d (.v (.int .i64 c.a))]) (h0:=[.row 88 3 n.vpcs.length (aa (n.vpcs.map aG))]) (by simp[af,ag]) (by simp[ay,aH,an]) (by simp[vw,bW,aO,aw,dF,fG]) (by simp[tc,gq,cn,aw,l9]));generalize lB n c.a=R at*;simp only[XF,if_false];simp only[f9,h1]at ho;replace hb:=VZ hb;refine fP ah av func52 rfl ntmps52 results52 (by kernel_rfl) (by simp) (by simp[af,ag]) (by simp[ay,aH,af,ag,f9,aK,an]) ?_;refine aF ?_;exact wf
  ·rw[hb]at ho;simp only[if_true];simp only[f9,h1]at ho;replace hb:=VZ hb;refine fP ah av func52 rfl ntmps52 results52 (by kernel_rfl) (by simp) (by simp[af,ag]) (by simp[ay,aH,af,ag,f9,aK,an]) ?_;refine aF ?_;refine(ax 1 n.vpcs.length 88 3 (n.vpcs.map aG) rfl).trans ?_;simp only[iJ,fz,f8,fI,g9,fL,aT,bO,bY,V1,V5,Ws,Wu,reduceIte,and_true,true_and,and_self,and_false,false_and,Wn,Wz,reduceCtorEq];exact wf
 ·rw[if_neg (by omega),if_pos h1];have hp:=Ln.mk (ls:=[1]) (tb (Lx n c.a c.b) (args:=[.agg [.own 0 n.vpcs.length,.d (.sl 2 (n.links.map cA))],.d (.v (.int .i64 c.a)),.d (.v (.int .i64 c.b))]) (h0:=[.row 88 3 n.vpcs.length (aa (n.vpcs.map aG))]) (by simp[af,ag]) (by simp[ay,aH,an]) (by simp[vw,bW,aO,aw,dF,fG]) (by simp[tc,gq,cn,aw,l9]));generalize nE n c.a c.b=R at*;replace jK:=VZ jK;refine fP ah av func52 rfl ntmps52 results52 (by kernel_rfl) (by simp) (by simp[af,ag]) (by simp[ay,aH,af,ag,f9,aK,an]) ?_;refine aF ?_;exact wf
 ·rw[if_neg (by omega),if_neg (by omega)];have hp:=Ln.mk (ls:=[1]) (tb (Ls n c.a c.b) (args:=[.agg [.own 0 n.vpcs.length,.d (.sl 2 (n.links.map cA))],.d (.v (.int .i64 c.a)),.d (.v (.int .i64 c.b))]) (h0:=[.row 88 3 n.vpcs.length (aa (n.vpcs.map aG))]) (by simp[af,ag]) (by simp[ay,aH,an]) (by simp[vw,bW,aO,aw,dF,fG]) (by simp[tc,gq,cn,aw,l9]));generalize mD n c.a c.b=R at*;replace jK:=VZ jK;refine fP ah av func52 rfl ntmps52 results52 (by kernel_rfl) (by simp) (by simp[af,ag]) (by simp[ay,aH,af,ag,f9,aK,an]) ?_;refine aF ?_;exact wf
theorem tW (v:Vpc)(pre post:List Sbn)(s0:Sbn)(hv:v.subs=pre++s0::post)(h:cq v=0)(h4:v.ranges.length≤4)(h6:v.subs.length≤6)(h8:∀s∈v.subs,s.faces.length≤8∧∀f∈s.faces,f.addrs.length≤4):
 MSpec prog 184 [.d (.agg (aG v))] [] (.tup [.ptr 2 0,.d (.v (.int .i64 0))]) [.gone,.row 100 3 1 (aa (v.ranges.map cf)),.box 88 [.d (.v (.int .i64 v.id)),.own 1 1,.own 3 v.subs.length],.row 107 4 v.subs.length (fH bw pre (eD s0 (.own 6 s0.faces.length)) post),
  .gone,.gone,.row 110 2 s0.faces.length (aa (s0.faces.map cO))]:=by
 have hc:=mq v;rw[h]at hc;replace h:=VZ h;replace h8:=VZ h8;have bc:v.subs.length=pre.length+1+post.length:=by rw[hv];simp;omega
 have hL:=VZ hv;have bR:=VZ bc;clear hv bc;have gh:=gY cf v.ranges (by omega);refine mj func184 ntmps184 results184 ?_;have z1z:=Ln.mk (ls:=[]) (gh);refine aF ?_<;>intros;refine cp ah av (fun m e h=>(∃k,k≤pre.length∧m=v.subs.length - k∧e=[(28,.d (.v (.int .i64 k))),(27,.d (.v (.int .i64 v.subs.length))),(26,.d (.sl 4 (v.subs.map bw))),(5,.ptr 2 0)]∧
  h=[.gone,.row 100 3 1 (aa (v.ranges.map cf)),.box 88 [.d (.v (.int .i64 v.id)),.own 1 1,.own 3 k],.row 107 4 k (aa ((pre.take k).map bw))])∨
  ∃k j,k=pre.length+1+j∧j≤post.length∧m=v.subs.length - k∧e=[(28,.d (.v (.int .i64 k))),(27,.d (.v (.int .i64 v.subs.length))),(26,.d (.sl 4 (v.subs.map bw))),(5,.ptr 2 0)]∧
   h=[.gone,.row 100 3 1 (aa (v.ranges.map cf)),.box 88 [.d (.v (.int .i64 v.id)),.own 1 1,.own 3 k],.row 107 4 k (fH bw pre (eD s0 (.own 6 s0.faces.length)) (post.take j)),.gone,.gone,.row 110 2 s0.faces.length (aa (s0.faces.map cO))]) _ _ _ (.inl ⟨0,Wr _,rfl,rfl,rfl⟩) ?_ ?_
 ·refine(aN 0 (by simp)).trans ((aJ (by simp) 2 88 [.d (.v (.int .i64 v.id)),.own 1 1,.d (.v (.slice none 0 0))] 2 107 4 rfl rfl rfl).trans ?_);exact wf (hb:=fg) (hbh:=fg)
 ·rintro m e h (⟨k,hk,hm,rfl,rfl⟩|⟨k,q,JG,hj,hm,rfl,rfl⟩) CO Ep
  ·have g8:(k:Int) < (v.subs.length:Int):=by have:=bR.out;omega
   have ed:=wi k (by omega);have mO:k+1≤100:=by have:=bR.out;omega
   have rD:(Xd k pre).length=k:=by rw[V2];omega
   have hm:=VZ hm;by_cases lM:k < pre.length
   ·obtain⟨s,hq⟩:∃s,pre[k]? =some s:=⟨_,VY lM⟩;have hs:v.subs[k]? =some s:=by rw[hL.out,WK lM];exact hq
    have nH:=h8.out s (V0 hs);replace hs:=VZ hs;replace hq:=VZ hq;have vi:=hs.out;refine aF ?_<;>intros;refine bP ah av s.faces (fun _=>True) (fun j=>[(40,.d (.v (.int .i64 j))),(39,.d (.v (.int .i64 s.faces.length))),(38,.d (.sl 2 (s.faces.map cO))),(28,.d (.v (.int .i64 k))),(27,.d (.v (.int .i64 v.subs.length))),(26,.d (.sl 4 (v.subs.map bw))),(8,.ptr 5 0),(5,.ptr 2 0)])
     (fun j=>[.gone,.row 100 3 1 (aa (v.ranges.map cf)),.box 88 [.d (.v (.int .i64 v.id)),.own 1 1,.own 3 k],.row 107 4 k (aa ((pre.take k).map bw)),.gone,.box 107 [.d (.v (.int .i64 s.id)),.d (.v (.int .i64 s.at_.at_)),.d (.v (.int .i64 s.at_.len)),.own 6 j],.row 110 2 j (aa ((s.faces.take j).map cO))]) trivial ?_ ?_ ?_
    ·refine(aN 4 (by simp)).trans ((aJ (by simp) 5 107 [.d (.v (.int .i64 s.id)),.d (.v (.int .i64 s.at_.at_)),.d (.v (.int .i64 s.at_.len)),.d (.v (.slice none 0 0))] 3 110 2 rfl rfl rfl).trans ?_);exact wf (hb:=fg) (hbh:=fg)
    ·intro j f hf hj _ C hC;have oF:(j:Int) < (s.faces.length:Int):=by omega
     have Bc:=wi j (by omega);have iN:=nH.2 f (V0 hf);have lx:j+1≤100:=by omega
     have Gf:(Xd j s.faces).length=j:=by rw[V2];omega
     replace hf:=VZ hf;have Mw:=hf.out;have z1z:=Ln.mk (ls:=[]) (dW f.addrs (by omega));refine aF ?_<;>intros;refine hC _ _ trivial ((ax 8 1 3 1 (f.addrs.map dI) rfl).trans ?_);simp only[iJ,fz,f8,fI,g9,fL,aT,bO,bY,V1,V5,Ws,Wu,reduceIte,and_true,true_and,and_self,and_false,false_and,Wn,Wz,reduceCtorEq,eZ];exact wf (hh:=(by rw[aj hf.out,V6,V1,V5,←bi];rfl)) (hb:=fg) (hbh:=fg)
    ·intro _ C;refine aF ?_<;>intros;refine Ep _ _ _ _ _ ?_ (.inl ⟨k+1,lM,rfl,rfl,rfl⟩) ((ax 6 s.faces.length 110 2 (s.faces.map cO) rfl).trans ?_)
     ·have:=hm.out;have:=bR.out;omega
     simp only[iJ,fz,f8,fI,g9,fL,aT,bO,bY,V1,V5,Ws,Wu,reduceIte,and_true,true_and,and_self,and_false,false_and,Wn,Wz,reduceCtorEq];exact wf (hh:=(by rw[aj hq.out,V6,V1,V5,←bi];rfl)) (hb:=fg) (hbh:=fg)
   ·obtain rfl:k=pre.length:=by omega
    have hs:v.subs[pre.length]? =some s0:=by rw[hL.out,Wq (Wa _),Xy];rfl
    have nH:=h8.out s0 (V0 hs);replace hs:=VZ hs;have vi:=hs.out;obtain⟨k,kD⟩:∃k,k=pre.length:=⟨_,rfl⟩;obtain⟨s,Ni⟩:∃s,s=s0:=⟨_,rfl⟩;rw[←Ni]at nH vi Ep ⊢;rw[←kD]at vi g8 ed mO rD Ep ⊢;rw[kD,V4]at rD;replace Ni:=VZ Ni;replace kD:=VZ kD;refine aF ?_<;>intros;refine bP ah av s.faces (fun _=>True) (fun j=>[(40,.d (.v (.int .i64 j))),(39,.d (.v (.int .i64 s.faces.length))),(38,.d (.sl 2 (s.faces.map cO))),(28,.d (.v (.int .i64 k))),(27,.d (.v (.int .i64 v.subs.length))),(26,.d (.sl 4 (v.subs.map bw))),(8,.ptr 5 0),(5,.ptr 2 0)])
     (fun j=>[.gone,.row 100 3 1 (aa (v.ranges.map cf)),.box 88 [.d (.v (.int .i64 v.id)),.own 1 1,.own 3 k],.row 107 4 k (aa ((pre.take k).map bw)),.gone,.box 107 [.d (.v (.int .i64 s.id)),.d (.v (.int .i64 s.at_.at_)),.d (.v (.int .i64 s.at_.len)),.own 6 j],.row 110 2 j (aa ((s.faces.take j).map cO))]) trivial ?_ ?_ ?_
    ·refine(aN 4 (by simp)).trans ((aJ (by simp) 5 107 [.d (.v (.int .i64 s.id)),.d (.v (.int .i64 s.at_.at_)),.d (.v (.int .i64 s.at_.len)),.d (.v (.slice none 0 0))] 3 110 2 rfl rfl rfl).trans ?_);exact wf (hb:=fg) (hbh:=fg)
    ·intro j f hf hj _ C hC;have oF:(j:Int) < (s.faces.length:Int):=by omega
     have Bc:=wi j (by omega);have iN:=nH.2 f (V0 hf);have lx:j+1≤100:=by omega
     have Gf:(Xd j s.faces).length=j:=by rw[V2];omega
     replace hf:=VZ hf;have Mw:=hf.out;have z1z:=Ln.mk (ls:=[]) (dW f.addrs (by omega));refine aF ?_<;>intros;refine hC _ _ trivial ((ax 8 1 3 1 (f.addrs.map dI) rfl).trans ?_);simp only[iJ,fz,f8,fI,g9,fL,aT,bO,bY,V1,V5,Ws,Wu,reduceIte,and_true,true_and,and_self,and_false,false_and,Wn,Wz,reduceCtorEq,eZ];exact wf (hh:=(by rw[aj hf.out,V6,V1,V5,←bi];rfl)) (hb:=fg) (hbh:=fg)
    ·intro _ C;have Ti:(Xd k pre).length=k:=by rw[kD.out,V4]
     refine aF ?_<;>intros;refine Ep _ _ _ _ _ ?_ (.inr ⟨k+1,0,by rw[kD.out],Wr _,rfl,rfl,rfl⟩) ((aN 5 (by simp)).trans ?_)
     ·have:=hm.out;have:=bR.out;have:=kD.out;omega
     exact wf (hh:=(by rw[kD.out,V4];rfl)) (hb:=fg) (hbh:=fg)
  ·have hm:=VZ hm;have Bh:=VZ JG;have mO:pre.length+1+q+1≤100:=by have:=bR.out;omega
   have rD:(Xd q post).length=q:=by rw[V2];omega
   have Gd:k≤v.subs.length:=by have:=bR.out;omega
   by_cases Gw:q < post.length
   ·obtain⟨s,hq⟩:∃s,post[q]? =some s:=⟨_,VY Gw⟩;have hs:v.subs[k]? =some s:=by
     rw[hL.out,Wq (by omega),show k - pre.length=q+1 by omega,Xg];exact hq
    have nH:=h8.out s (V0 hs);have g8:(k:Int) < (v.subs.length:Int):=by have:=bR.out;omega
    have ed:=wi k (by omega);replace hq:=VZ hq;replace hs:=VZ hs;have vi:=hs.out;clear JG;refine aF ?_<;>intros;refine bP ah av s.faces (fun _=>True) (fun j=>[(40,.d (.v (.int .i64 j))),(39,.d (.v (.int .i64 s.faces.length))),(38,.d (.sl 2 (s.faces.map cO))),(28,.d (.v (.int .i64 k))),(27,.d (.v (.int .i64 v.subs.length))),(26,.d (.sl 4 (v.subs.map bw))),(8,.ptr 8 0),(5,.ptr 2 0)])
     (fun j=>[.gone,.row 100 3 1 (aa (v.ranges.map cf)),.box 88 [.d (.v (.int .i64 v.id)),.own 1 1,.own 3 k],.row 107 4 k (fH bw pre (eD s0 (.own 6 s0.faces.length)) (post.take q)),.gone,.gone,.row 110 2 s0.faces.length (aa (s0.faces.map cO)),.gone,.box 107 [.d (.v (.int .i64 s.id)),.d (.v (.int .i64 s.at_.at_)),.d (.v (.int .i64 s.at_.len)),.own 9 j],.row 110 2 j (aa ((s.faces.take j).map cO))]) trivial ?_ ?_ ?_
    ·refine(aN 7 (by simp)).trans ((aJ (by simp) 8 107 [.d (.v (.int .i64 s.id)),.d (.v (.int .i64 s.at_.at_)),.d (.v (.int .i64 s.at_.len)),.d (.v (.slice none 0 0))] 3 110 2 rfl rfl rfl).trans ?_);exact wf (hb:=fg) (hbh:=fg)
    ·intro j f hf hj _ C hC;have oF:(j:Int) < (s.faces.length:Int):=by omega
     have Bc:=wi j (by omega);have iN:=nH.2 f (V0 hf);have lx:j+1≤100:=by omega
     have Gf:(Xd j s.faces).length=j:=by rw[V2];omega
     replace hf:=VZ hf;have Mw:=hf.out;have z1z:=Ln.mk (ls:=[]) (dW f.addrs (by omega));refine aF ?_<;>intros;refine hC _ _ trivial ((ax 11 1 3 1 (f.addrs.map dI) rfl).trans ?_);simp only[iJ,fz,f8,fI,g9,fL,aT,bO,bY,V1,V5,Ws,Wu,reduceIte,and_true,true_and,and_self,and_false,false_and,Wn,Wz,reduceCtorEq,eZ];exact wf (hh:=(by rw[aj hf.out,V6,V1,V5,←bi];rfl)) (hb:=fg) (hbh:=fg)
    ·intro _ C;refine aF ?_<;>intros;refine Ep _ _ _ _ _ ?_ (.inr ⟨k+1,q+1,by have:=Bh.out;omega,Gw,rfl,rfl,rfl⟩) ((ax 9 s.faces.length 110 2 (s.faces.map cO) rfl).trans ?_)
     ·have:=hm.out;have:=bR.out;have:=Bh.out;omega
     simp only[iJ,fz,f8,fI,g9,fL,aT,bO,bY,V1,V5,Ws,Wu,reduceIte,and_true,true_and,and_self,and_false,false_and,Wn,Wz,reduceCtorEq,eZ,eD];exact wf (hh:=(by rw[aj hq.out,←qp];rfl)) (hb:=fg) (hbh:=fg)
   ·obtain rfl:q=post.length:=by omega
    obtain rfl:k=v.subs.length:=by have:=bR.out;omega
    clear JG;refine aF ?_<;>intros;(try rw[V4])
    exact aP rfl rfl
theorem II (v:Vpc)(pre post:List Sbn)(s0:Sbn)(preF postF:List Fce)(f0:Fce)(hv:v.subs=pre++s0::post)(My:s0.faces=preF++f0::postF)(h:cq v=0)(h4:v.ranges.length≤4)(h6:v.subs.length≤6)(h8:∀s∈v.subs,s.faces.length≤8∧∀f∈s.faces,f.addrs.length≤4):
 MSpec prog 184 [.d (.agg (aG v))] [] (.tup [.ptr 2 0,.d (.v (.int .i64 0))]) [.gone,.row 100 3 1 (aa (v.ranges.map cf)),.box 88 [.d (.v (.int .i64 v.id)),.own 1 1,.own 3 v.subs.length],.row 107 4 v.subs.length (fH bw pre (eD s0 (.own 6 s0.faces.length)) post),
  .gone,.gone,.row 110 2 s0.faces.length (fH cO preF (iy f0 (.own 8 1)) postF),.gone,.row 3 1 1 (aa (f0.addrs.map dI))]:=by
 have hc:=mq v;rw[h]at hc;replace h:=VZ h;replace h8:=VZ h8;have bc:v.subs.length=pre.length+1+post.length:=by rw[hv];simp;omega
 have hL:=VZ hv;have bR:=VZ bc;clear hv bc;have Nj:s0.faces.length=preF.length+1+postF.length:=by rw[My];simp;omega
 have Tj:=VZ My;have mP:=VZ Nj;clear My Nj;have gh:=gY cf v.ranges (by omega);refine mj func184 ntmps184 results184 ?_;have z1z:=Ln.mk (ls:=[]) (gh);refine aF ?_<;>intros;refine cp ah av (fun m e h=>(∃k,k≤pre.length∧m=v.subs.length - k∧e=[(28,.d (.v (.int .i64 k))),(27,.d (.v (.int .i64 v.subs.length))),(26,.d (.sl 4 (v.subs.map bw))),(5,.ptr 2 0)]∧
  h=[.gone,.row 100 3 1 (aa (v.ranges.map cf)),.box 88 [.d (.v (.int .i64 v.id)),.own 1 1,.own 3 k],.row 107 4 k (aa ((pre.take k).map bw))])∨
  ∃k j,k=pre.length+1+j∧j≤post.length∧m=v.subs.length - k∧e=[(28,.d (.v (.int .i64 k))),(27,.d (.v (.int .i64 v.subs.length))),(26,.d (.sl 4 (v.subs.map bw))),(5,.ptr 2 0)]∧
   h=[.gone,.row 100 3 1 (aa (v.ranges.map cf)),.box 88 [.d (.v (.int .i64 v.id)),.own 1 1,.own 3 k],.row 107 4 k (fH bw pre (eD s0 (.own 6 s0.faces.length)) (post.take j)),.gone,.gone,.row 110 2 s0.faces.length (fH cO preF (iy f0 (.own 8 1)) postF),.gone,.row 3 1 1 (aa (f0.addrs.map dI))]) _ _ _ (.inl ⟨0,Wr _,rfl,rfl,rfl⟩) ?_ ?_
 ·refine(aN 0 (by simp)).trans ((aJ (by simp) 2 88 [.d (.v (.int .i64 v.id)),.own 1 1,.d (.v (.slice none 0 0))] 2 107 4 rfl rfl rfl).trans ?_);exact wf (hb:=fg) (hbh:=fg)
 ·rintro m e h (⟨k,hk,hm,rfl,rfl⟩|⟨k,q,JG,hj,hm,rfl,rfl⟩) CO Ep
  ·have g8:(k:Int) < (v.subs.length:Int):=by have:=bR.out;omega
   have ed:=wi k (by omega);have mO:k+1≤100:=by have:=bR.out;omega
   have rD:(Xd k pre).length=k:=by rw[V2];omega
   have hm:=VZ hm;by_cases lM:k < pre.length
   ·obtain⟨s,hq⟩:∃s,pre[k]? =some s:=⟨_,VY lM⟩;have hs:v.subs[k]? =some s:=by rw[hL.out,WK lM];exact hq
    have nH:=h8.out s (V0 hs);replace hs:=VZ hs;replace hq:=VZ hq;have vi:=hs.out;refine aF ?_<;>intros;refine bP ah av s.faces (fun _=>True) (fun j=>[(40,.d (.v (.int .i64 j))),(39,.d (.v (.int .i64 s.faces.length))),(38,.d (.sl 2 (s.faces.map cO))),(28,.d (.v (.int .i64 k))),(27,.d (.v (.int .i64 v.subs.length))),(26,.d (.sl 4 (v.subs.map bw))),(8,.ptr 5 0),(5,.ptr 2 0)])
     (fun j=>[.gone,.row 100 3 1 (aa (v.ranges.map cf)),.box 88 [.d (.v (.int .i64 v.id)),.own 1 1,.own 3 k],.row 107 4 k (aa ((pre.take k).map bw)),.gone,.box 107 [.d (.v (.int .i64 s.id)),.d (.v (.int .i64 s.at_.at_)),.d (.v (.int .i64 s.at_.len)),.own 6 j],.row 110 2 j (aa ((s.faces.take j).map cO))]) trivial ?_ ?_ ?_
    ·refine(aN 4 (by simp)).trans ((aJ (by simp) 5 107 [.d (.v (.int .i64 s.id)),.d (.v (.int .i64 s.at_.at_)),.d (.v (.int .i64 s.at_.len)),.d (.v (.slice none 0 0))] 3 110 2 rfl rfl rfl).trans ?_);exact wf (hb:=fg) (hbh:=fg)
    ·intro j f hf hj _ C hC;have oF:(j:Int) < (s.faces.length:Int):=by omega
     have Bc:=wi j (by omega);have iN:=nH.2 f (V0 hf);have lx:j+1≤100:=by omega
     have Gf:(Xd j s.faces).length=j:=by rw[V2];omega
     replace hf:=VZ hf;have Mw:=hf.out;have z1z:=Ln.mk (ls:=[]) (dW f.addrs (by omega));refine aF ?_<;>intros;refine hC _ _ trivial ((ax 8 1 3 1 (f.addrs.map dI) rfl).trans ?_);simp only[iJ,fz,f8,fI,g9,fL,aT,bO,bY,V1,V5,Ws,Wu,reduceIte,and_true,true_and,and_self,and_false,false_and,Wn,Wz,reduceCtorEq,eZ];exact wf (hh:=(by rw[aj hf.out,V6,V1,V5,←bi];rfl)) (hb:=fg) (hbh:=fg)
    ·intro _ C;refine aF ?_<;>intros;refine Ep _ _ _ _ _ ?_ (.inl ⟨k+1,lM,rfl,rfl,rfl⟩) ((ax 6 s.faces.length 110 2 (s.faces.map cO) rfl).trans ?_)
     ·have:=hm.out;have:=bR.out;omega
     simp only[iJ,fz,f8,fI,g9,fL,aT,bO,bY,V1,V5,Ws,Wu,reduceIte,and_true,true_and,and_self,and_false,false_and,Wn,Wz,reduceCtorEq];exact wf (hh:=(by rw[aj hq.out,V6,V1,V5,←bi];rfl)) (hb:=fg) (hbh:=fg)
   ·obtain rfl:k=pre.length:=by omega
    have hs:v.subs[pre.length]? =some s0:=by rw[hL.out,Wq (Wa _),Xy];rfl
    have nH:=h8.out s0 (V0 hs);replace hs:=VZ hs;have vi:=hs.out;obtain⟨k,kD⟩:∃k,k=pre.length:=⟨_,rfl⟩;rw[←kD]at vi g8 ed mO rD Ep ⊢;rw[kD,V4]at rD;replace kD:=VZ kD;refine aF ?_<;>intros;refine cp ah av (fun m e h=>(∃j,j≤preF.length∧m=s0.faces.length - j∧e=[(40,.d (.v (.int .i64 j))),(39,.d (.v (.int .i64 s0.faces.length))),(38,.d (.sl 2 (s0.faces.map cO))),(28,.d (.v (.int .i64 k))),(27,.d (.v (.int .i64 v.subs.length))),(26,.d (.sl 4 (v.subs.map bw))),(8,.ptr 5 0),(5,.ptr 2 0)]∧
     h=[.gone,.row 100 3 1 (aa (v.ranges.map cf)),.box 88 [.d (.v (.int .i64 v.id)),.own 1 1,.own 3 k],.row 107 4 k (aa ((pre.take k).map bw)),.gone,.box 107 [.d (.v (.int .i64 s0.id)),.d (.v (.int .i64 s0.at_.at_)),.d (.v (.int .i64 s0.at_.len)),.own 6 j],.row 110 2 j (aa ((preF.take j).map cO))])∨
     ∃j i,j=preF.length+1+i∧i≤postF.length∧m=s0.faces.length - j∧e=[(40,.d (.v (.int .i64 j))),(39,.d (.v (.int .i64 s0.faces.length))),(38,.d (.sl 2 (s0.faces.map cO))),(28,.d (.v (.int .i64 k))),(27,.d (.v (.int .i64 v.subs.length))),(26,.d (.sl 4 (v.subs.map bw))),(8,.ptr 5 0),(5,.ptr 2 0)]∧
      h=[.gone,.row 100 3 1 (aa (v.ranges.map cf)),.box 88 [.d (.v (.int .i64 v.id)),.own 1 1,.own 3 k],.row 107 4 k (aa ((pre.take k).map bw)),.gone,.box 107 [.d (.v (.int .i64 s0.id)),.d (.v (.int .i64 s0.at_.at_)),.d (.v (.int .i64 s0.at_.len)),.own 6 j],.row 110 2 j (fH cO preF (iy f0 (.own 8 1)) (postF.take i)),.gone,.row 3 1 1 (aa (f0.addrs.map dI))]) _ _ _ (.inl ⟨0,Wr _,rfl,rfl,rfl⟩) ?_ ?_
    ·refine(aN 4 (by simp)).trans ((aJ (by simp) 5 107 [.d (.v (.int .i64 s0.id)),.d (.v (.int .i64 s0.at_.at_)),.d (.v (.int .i64 s0.at_.len)),.d (.v (.slice none 0 0))] 3 110 2 rfl rfl rfl).trans ?_);exact wf (hb:=fg) (hbh:=fg)
    ·rintro m2 e h (⟨j,hj,jr,rfl,rfl⟩|⟨j,i,jo,hi,jr,rfl,rfl⟩) C hC
     ·have oF:(j:Int) < (s0.faces.length:Int):=by have:=mP.out;omega
      have Bc:IntKind.i64.wrap ((j:Int)+1)=((j+1:Nat):Int):=by rw[IntKind.wrap_i64];have:=nH.1;omega
      have lx:j+1≤100:=by have:=nH.1;omega
      have Gf:(Xd j preF).length=j:=by rw[V2];omega
      have jr:=VZ jr;by_cases Gw:j < preF.length
      ·obtain⟨f,hq⟩:∃f,preF[j]? =some f:=⟨_,VY Gw⟩;have hf:s0.faces[j]? =some f:=by rw[Tj.out,WK Gw];exact hq
       have iN:=nH.2 f (V0 hf);replace hf:=VZ hf;replace hq:=VZ hq;have Mw:=hf.out;have z1z:=Ln.mk (ls:=[]) (dW f.addrs (by omega));refine aF ?_<;>intros;refine hC _ _ _ _ _ ?_ (.inl ⟨j+1,Gw,rfl,rfl,rfl⟩) ((ax 8 1 3 1 (f.addrs.map dI) rfl).trans ?_)
       ·have:=jr.out;have:=mP.out;omega
       simp only[iJ,fz,f8,fI,g9,fL,aT,bO,bY,V1,V5,Ws,Wu,reduceIte,and_true,true_and,and_self,and_false,false_and,Wn,Wz,reduceCtorEq,eZ];exact wf (hh:=(by rw[aj hq.out,V6,V1,V5,←bi];rfl)) (hb:=fg) (hbh:=fg)
      ·obtain rfl:j=preF.length:=by omega
       have hf:s0.faces[preF.length]? =some f0:=by rw[Tj.out,Wq (Wa _),Xy];rfl
       have iN:=nH.2 f0 (V0 hf);replace hf:=VZ hf;have Mw:=hf.out;have z1z:=Ln.mk (ls:=[]) (dW f0.addrs (by omega));refine aF ?_<;>intros;refine hC _ _ _ _ _ ?_ (.inr ⟨preF.length+1,0,rfl,Wr _,rfl,rfl,rfl⟩) ((aN 7 (by simp)).trans ?_)
       ·have:=jr.out;have:=mP.out;omega
       exact wf (hb:=fg) (hbh:=fg)
     ·have jr:=VZ jr;have F8:=VZ jo;have lx:preF.length+1+i+1≤100:=by have:=mP.out;have:=nH.1;omega
      have Um:(Xd i postF).length=i:=by rw[V2];omega
      have OO:j≤s0.faces.length:=by have:=mP.out;omega
      by_cases Uo:i < postF.length
      ·obtain⟨f,hq⟩:∃f,postF[i]? =some f:=⟨_,VY Uo⟩;have hf:s0.faces[j]? =some f:=by
        rw[Tj.out,Wq (by omega),show j - preF.length=i+1 by omega,Xg];exact hq
       have iN:=nH.2 f (V0 hf);have oF:(j:Int) < (s0.faces.length:Int):=by have:=mP.out;omega
       have Bc:IntKind.i64.wrap ((j:Int)+1)=((j+1:Nat):Int):=by rw[IntKind.wrap_i64];have:=nH.1;omega
       replace hf:=VZ hf;replace hq:=VZ hq;have Mw:=hf.out;clear jo;have z1z:=Ln.mk (ls:=[]) (dW f.addrs (by omega));refine aF ?_<;>intros;refine hC _ _ _ _ _ ?_ (.inr ⟨j+1,i+1,by have:=F8.out;omega,Uo,rfl,rfl,rfl⟩) ((ax 10 1 3 1 (f.addrs.map dI) rfl).trans ?_)
       ·have:=jr.out;have:=mP.out;have:=F8.out;omega
       simp only[iJ,fz,f8,fI,g9,fL,aT,bO,bY,V1,V5,Ws,Wu,reduceIte,and_true,true_and,and_self,and_false,false_and,Wn,Wz,reduceCtorEq,eZ,iy];exact wf (hh:=(by rw[aj hq.out,←qp];rfl)) (hb:=fg) (hbh:=fg)
      ·obtain rfl:i=postF.length:=by omega
       obtain rfl:j=s0.faces.length:=by have:=mP.out;omega
       clear jo;have Ti:(Xd k pre).length=k:=by rw[kD.out,V4]
       refine aF ?_<;>intros;refine Ep _ _ _ _ _ ?_ (.inr ⟨k+1,0,by rw[kD.out],Wr _,rfl,rfl,rfl⟩) ((aN 5 (by simp)).trans ?_)
       ·have:=hm.out;have:=bR.out;have:=kD.out;omega
       exact wf (hh:=(by rw[kD.out,V4];rfl)) (hb:=fg) (hbh:=fg)
  ·have hm:=VZ hm;have Bh:=VZ JG;have mO:pre.length+1+q+1≤100:=by have:=bR.out;omega
   have rD:(Xd q post).length=q:=by rw[V2];omega
   have Gd:k≤v.subs.length:=by have:=bR.out;omega
   by_cases Gw:q < post.length
   ·obtain⟨s,hq⟩:∃s,post[q]? =some s:=⟨_,VY Gw⟩;have hs:v.subs[k]? =some s:=by
     rw[hL.out,Wq (by omega),show k - pre.length=q+1 by omega,Xg];exact hq
    have nH:=h8.out s (V0 hs);have g8:(k:Int) < (v.subs.length:Int):=by have:=bR.out;omega
    have ed:=wi k (by omega);replace hq:=VZ hq;replace hs:=VZ hs;have vi:=hs.out;clear JG;refine aF ?_<;>intros;refine bP ah av s.faces (fun _=>True) (fun j=>[(40,.d (.v (.int .i64 j))),(39,.d (.v (.int .i64 s.faces.length))),(38,.d (.sl 2 (s.faces.map cO))),(28,.d (.v (.int .i64 k))),(27,.d (.v (.int .i64 v.subs.length))),(26,.d (.sl 4 (v.subs.map bw))),(8,.ptr 10 0),(5,.ptr 2 0)])
     (fun j=>[.gone,.row 100 3 1 (aa (v.ranges.map cf)),.box 88 [.d (.v (.int .i64 v.id)),.own 1 1,.own 3 k],.row 107 4 k (fH bw pre (eD s0 (.own 6 s0.faces.length)) (post.take q)),.gone,.gone,.row 110 2 s0.faces.length (fH cO preF (iy f0 (.own 8 1)) postF),.gone,.row 3 1 1 (aa (f0.addrs.map dI)),.gone,.box 107 [.d (.v (.int .i64 s.id)),.d (.v (.int .i64 s.at_.at_)),.d (.v (.int .i64 s.at_.len)),.own 11 j],.row 110 2 j (aa ((s.faces.take j).map cO))]) trivial ?_ ?_ ?_
    ·refine(aN 9 (by simp)).trans ((aJ (by simp) 10 107 [.d (.v (.int .i64 s.id)),.d (.v (.int .i64 s.at_.at_)),.d (.v (.int .i64 s.at_.len)),.d (.v (.slice none 0 0))] 3 110 2 rfl rfl rfl).trans ?_);exact wf (hb:=fg) (hbh:=fg)
    ·intro j f hf hj _ C hC;have oF:(j:Int) < (s.faces.length:Int):=by omega
     have Bc:=wi j (by omega);have iN:=nH.2 f (V0 hf);have lx:j+1≤100:=by omega
     have Gf:(Xd j s.faces).length=j:=by rw[V2];omega
     replace hf:=VZ hf;have Mw:=hf.out;have z1z:=Ln.mk (ls:=[]) (dW f.addrs (by omega));refine aF ?_<;>intros;refine hC _ _ trivial ((ax 13 1 3 1 (f.addrs.map dI) rfl).trans ?_);simp only[iJ,fz,f8,fI,g9,fL,aT,bO,bY,V1,V5,Ws,Wu,reduceIte,and_true,true_and,and_self,and_false,false_and,Wn,Wz,reduceCtorEq,eZ];exact wf (hh:=(by rw[aj hf.out,V6,V1,V5,←bi];rfl)) (hb:=fg) (hbh:=fg)
    ·intro _ C;refine aF ?_<;>intros;refine Ep _ _ _ _ _ ?_ (.inr ⟨k+1,q+1,by have:=Bh.out;omega,Gw,rfl,rfl,rfl⟩) ((ax 11 s.faces.length 110 2 (s.faces.map cO) rfl).trans ?_)
     ·have:=hm.out;have:=bR.out;have:=Bh.out;omega
     simp only[iJ,fz,f8,fI,g9,fL,aT,bO,bY,V1,V5,Ws,Wu,reduceIte,and_true,true_and,and_self,and_false,false_and,Wn,Wz,reduceCtorEq,eZ,eD];exact wf (hh:=(by rw[aj hq.out,←qp];rfl)) (hb:=fg) (hbh:=fg)
   ·obtain rfl:q=post.length:=by omega
    obtain rfl:k=v.subs.length:=by have:=bR.out;omega
    clear JG;refine aF ?_<;>intros;(try rw[V4])
    exact aP rfl rfl
theorem xH {α:Type}{enc:α→List D}(l:List α)(i j g:Nat)(hi:i < l.length)(hj:j=i+1):
 MSpec prog 190 [.own 0 g,.d (.v (.int .i64 i)),.d (.v (.int .i64 j))] [.row 100 3 g (aa (l.map enc))] (.own 0 (g+1)) [.row 100 3 (g+1) (aa ((l.eraseIdx i).map enc))]:=by
 have h1:((i:Int)==(j:Int))=false:=by simp;omega
 have bq:¬aa (l.map enc)=[]:=by cases l<;>simp[aa]at hi ⊢
 have hle:(i:Int)≤(j:Int):=by omega
 have Jl:(j:Int)≤(l.length:Int):=by omega
 have jO:(l.map enc).length=l.length:=Wg _;have h2:=m1 (aa (l.map enc)) i j l.length (by rw[aA,jO];exact hi) hj (by rw[aA,jO]);rw[aA,jO]at h2;have pM:=VZ hj;clear hj;have Gt:j≤l.length:=by have:=pM.out;omega
 have Mp:min (l.length - j) (l.length - j)=l.length - j:=Nat.min_self _;have hlt:i+(l.length - j)≤l.length:=by have:=pM.out;omega
 have uw:l.length - (i+(l.length - j))=1:=by have:=pM.out;omega
 have kD:i+(l.length - j)+1≤l.length:=by have:=pM.out;omega
 have Mq:¬ap (aa (l.map enc)) i (((aa (l.map enc)).drop j).take (l.length - j))=[]:=by
  intro h;rw[h]at h2;simp at h2;omega
 refine mj func190 ntmps190 results190 ?_;repeat' (first|(with_reducible refine And.intro ?_ ?_)|(with_reducible refine dw (fun _=>?_) (fun _=>?_))|(with_reducible refine aQ (fun _=>?_) (fun _=>?_))|(with_reducible refine bT (by kernel_rfl))|simp -dsimp only[go_sem,seval, *,h1,bq,WZ,V2,Wt]|((with_reducible refine bU ?_);simp -dsimp only[go_sem,seval,h1,bq,WZ,V2,Wt];first|refine aS (by first|assumption|fail) (by first|exact .inl rfl|exact .inr rfl) ?_|refine aR (by assumption) (by repeat(first|exact au.refl _|exact au.nil _|(refine au.tup ?_)|(refine au.agg ?_ rfl)|exact trivial|(refine And.intro ?_ ?_))) (by first|exact .inl rfl|exact .inr rfl) ?_)|omega|exact decide_eq_true (by omega)|exact au.refl _)
 rw[iL];exact mi (by rw[jO];exact hi) pM.out jO.symm
theorem Cr {α:Type}{enc:α→List D}(l:List α)(i j g:Nat)(hi:i < l.length)(hj:j=i+1):
 MSpec prog 197 [.own 0 g,.d (.v (.int .i64 i)),.d (.v (.int .i64 j))] [.row 107 4 g (aa (l.map enc))] (.own 0 (g+1)) [.row 107 4 (g+1) (aa ((l.eraseIdx i).map enc))]:=by
 have h1:((i:Int)==(j:Int))=false:=by simp;omega
 have bq:¬aa (l.map enc)=[]:=by cases l<;>simp[aa]at hi ⊢
 have hle:(i:Int)≤(j:Int):=by omega
 have Jl:(j:Int)≤(l.length:Int):=by omega
 have jO:(l.map enc).length=l.length:=Wg _;have h2:=m1 (aa (l.map enc)) i j l.length (by rw[aA,jO];exact hi) hj (by rw[aA,jO]);rw[aA,jO]at h2;have pM:=VZ hj;clear hj;have Gt:j≤l.length:=by have:=pM.out;omega
 have Mp:min (l.length - j) (l.length - j)=l.length - j:=Nat.min_self _;have hlt:i+(l.length - j)≤l.length:=by have:=pM.out;omega
 have uw:l.length - (i+(l.length - j))=1:=by have:=pM.out;omega
 have kD:i+(l.length - j)+1≤l.length:=by have:=pM.out;omega
 have Mq:¬ap (aa (l.map enc)) i (((aa (l.map enc)).drop j).take (l.length - j))=[]:=by
  intro h;rw[h]at h2;simp at h2;omega
 refine mj func197 ntmps197 results197 ?_;repeat' (first|(with_reducible refine And.intro ?_ ?_)|(with_reducible refine dw (fun _=>?_) (fun _=>?_))|(with_reducible refine aQ (fun _=>?_) (fun _=>?_))|(with_reducible refine bT (by kernel_rfl))|simp -dsimp only[go_sem,seval, *,h1,bq,WZ,V2,Wt]|((with_reducible refine bU ?_);simp -dsimp only[go_sem,seval,h1,bq,WZ,V2,Wt];first|refine aS (by first|assumption|fail) (by first|exact .inl rfl|exact .inr rfl) ?_|refine aR (by assumption) (by repeat(first|exact au.refl _|exact au.nil _|(refine au.tup ?_)|(refine au.agg ?_ rfl)|exact trivial|(refine And.intro ?_ ?_))) (by first|exact .inl rfl|exact .inr rfl) ?_)|omega|exact decide_eq_true (by omega)|exact au.refl _)
 rw[iL];exact mi (by rw[jO];exact hi) pM.out jO.symm
theorem Aq {α:Type}{enc:α→List D}(l:List α)(i j g:Nat)(hi:i < l.length)(hj:j=i+1):
 MSpec prog 202 [.own 0 g,.d (.v (.int .i64 i)),.d (.v (.int .i64 j))] [.row 110 2 g (aa (l.map enc))] (.own 0 (g+1)) [.row 110 2 (g+1) (aa ((l.eraseIdx i).map enc))]:=by
 have h1:((i:Int)==(j:Int))=false:=by simp;omega
 have bq:¬aa (l.map enc)=[]:=by cases l<;>simp[aa]at hi ⊢
 have hle:(i:Int)≤(j:Int):=by omega
 have Jl:(j:Int)≤(l.length:Int):=by omega
 have jO:(l.map enc).length=l.length:=Wg _;have h2:=m1 (aa (l.map enc)) i j l.length (by rw[aA,jO];exact hi) hj (by rw[aA,jO]);rw[aA,jO]at h2;have pM:=VZ hj;clear hj;have Gt:j≤l.length:=by have:=pM.out;omega
 have Mp:min (l.length - j) (l.length - j)=l.length - j:=Nat.min_self _;have hlt:i+(l.length - j)≤l.length:=by have:=pM.out;omega
 have uw:l.length - (i+(l.length - j))=1:=by have:=pM.out;omega
 have kD:i+(l.length - j)+1≤l.length:=by have:=pM.out;omega
 have Mq:¬ap (aa (l.map enc)) i (((aa (l.map enc)).drop j).take (l.length - j))=[]:=by
  intro h;rw[h]at h2;simp at h2;omega
 refine mj func202 ntmps202 results202 ?_;repeat' (first|(with_reducible refine And.intro ?_ ?_)|(with_reducible refine dw (fun _=>?_) (fun _=>?_))|(with_reducible refine aQ (fun _=>?_) (fun _=>?_))|(with_reducible refine bT (by kernel_rfl))|simp -dsimp only[go_sem,seval, *,h1,bq,WZ,V2,Wt]|((with_reducible refine bU ?_);simp -dsimp only[go_sem,seval,h1,bq,WZ,V2,Wt];first|refine aS (by first|assumption|fail) (by first|exact .inl rfl|exact .inr rfl) ?_|refine aR (by assumption) (by repeat(first|exact au.refl _|exact au.nil _|(refine au.tup ?_)|(refine au.agg ?_ rfl)|exact trivial|(refine And.intro ?_ ?_))) (by first|exact .inl rfl|exact .inr rfl) ?_)|omega|exact decide_eq_true (by omega)|exact au.refl _)
 rw[iL];exact mi (by rw[jO];exact hi) pM.out jO.symm
section
open Go.Proofs Go.Shelf
theorem Ob (x y:SRow Iv 4)(W:World):Calls prog 195 #[.agg x.xs.toArray,.agg y.xs.toArray] W fun e w'=>e= .returned (.int .i64 (Bj x y))∧∃q os',w'=Sort.grow (W.drewN q) os':=by
 obtain⟨xs,xl,x1,a,xh⟩:=x;obtain⟨ys,yl,y1,b,yh⟩:=y;match xs,xl,ys,yl with
 |[u0,u1,u2,u3],_,[v0,v1,v2,v3],_=>
  simp[Iv]at xh yh;subst xh;subst yh;have hc:=fD a b;unfold Bj;simp only;generalize dx a b=r at*;replace hc:=VZ hc;clear x1 y1;go_enter func195,ntmps195
  go_wp2_with fail
  refine(hc.out _).mono ?_;rintro e w1 ⟨rfl,rfl⟩;go_wp2_with fail
  go_ret
  exact⟨bV rfl,0,_,by rw[Sort.alloc_eq_grow,Sort.alloc_eq_grow,Sort.grow_grow];rfl⟩
theorem IJ {l l':List Sbn}(g:Nat)(wR:l≠[])(hp:l'.Perm l)(hs:l'.Pairwise fun x y=>(fun s:Sbn=>s.id) x < (fun s:Sbn=>s.id) y)(ck:l.length≤1000000):
 MSpec prog 194 [.own 0 g,.d (.clo 195 [])] [.row 107 4 g (aa (l.map bw))] (.d (.tup [])) [.row 107 4 g (aa (l'.map bw))]:=
 sa sortSub rfl (ce func194 (by kernel_rfl) rfl) isAgg107 sizeOf107 (enters_of func195 (by kernel_rfl) rfl) Ob bw (fun s:Sbn=>s.id) (fun _=>rfl) wR hp hs ck
theorem Ly (x y:SRow Iv 2)(W:World):Calls prog 200 #[.agg x.xs.toArray,.agg y.xs.toArray] W fun e w'=>e= .returned (.int .i64 (Bj x y))∧∃q os',w'=Sort.grow (W.drewN q) os':=by
 obtain⟨xs,xl,x1,a,xh⟩:=x;obtain⟨ys,yl,y1,b,yh⟩:=y;match xs,xl,ys,yl with
 |[u0,u1],_,[v0,v1],_=>
  simp[Iv]at xh yh;subst xh;subst yh;have hc:=fD a b;unfold Bj;simp only;generalize dx a b=r at*;replace hc:=VZ hc;clear x1 y1;go_enter func200,ntmps200
  go_wp2_with fail
  refine(hc.out _).mono ?_;rintro e w1 ⟨rfl,rfl⟩;go_wp2_with fail
  go_ret
  exact⟨bV rfl,0,_,by rw[Sort.alloc_eq_grow,Sort.alloc_eq_grow,Sort.grow_grow];rfl⟩
theorem FP {l l':List Fce}(g:Nat)(wR:l≠[])(hp:l'.Perm l)(hs:l'.Pairwise fun x y=>(fun f:Fce=>f.id) x < (fun f:Fce=>f.id) y)(ck:l.length≤1000000):
 MSpec prog 199 [.own 0 g,.d (.clo 200 [])] [.row 110 2 g (aa (l.map cO))] (.d (.tup [])) [.row 110 2 g (aa (l'.map cO))]:=
 sa sortFace rfl (ce func199 (by kernel_rfl) rfl) isAgg110 sizeOf110 (enters_of func200 (by kernel_rfl) rfl) Ly cO (fun f:Fce=>f.id) (fun _=>rfl) wR hp hs ck
end
def Rng.zero:Rng:=⟨⟨0,0⟩,0⟩
def fX (v:Vpc)(p:Pfx):Vpc × Rng × Int:=
 if cq v≠0 then (Vpc.zero,Rng.zero,cq v)else
 match v.ranges.findIdx? (fun r=>decide (r.at_=p))with
 |none=>(Vpc.zero,Rng.zero,5)
 |some i=>if (v.subs.any fun s=>kV s.at_ p)=true then (Vpc.zero,Rng.zero,9)else ({v with ranges:=v.ranges.eraseIdx i},v.ranges.getD i Rng.zero,0)
theorem Lz (r:Rng)(p:Pfx):ae prog 186 [.agg (cf r),.ept (aL p)] (.v (.bool (decide (r.at_=p)))):=by
 have he:=Aj r.at_ p;rw[←he];replace he:=VZ he;refine pj func186 ntmps186 results186 ?_;exact bx
theorem LB (s:Sbn)(p:Pfx):ae prog 188 [.agg (bw s),.ept (aL p)] (.v (.bool (kV s.at_ p))):=by
 have hi:ae prog 189 [.agg (aL s.at_),.agg (aL p)] (.v (.bool (kV s.at_ p))):=zJ _ _;refine pj func188 ntmps188 results188 ?_;exact bx
theorem LC (v:Vpc)(p:Pfx):ae prog 107 [.agg (aG v),.agg (aL p)] (.tup [.agg (aG (fX v p).1),.agg (cf (fX v p).2.1),.v (.int .i64 (fX v p).2.2)]):=by
 obtain⟨R,hR⟩:∃R,R=fX v p:=⟨_,rfl⟩;rw[←hR];replace hR:=VZ hR;by_cases hc:cq v=0
 ·have hk:=bt hc;have ci:=jf v hc hk.n4 hk.n6 hk.n8;have lP:=tg kf (fun r=>decide (r.at_=p)) v.ranges 186 [.ept (aL p)] (by have:=hk.n4;omega) (fun r _=>Lz r p);have lN:=tj ke (fun s=>kV s.at_ p) v.subs 188 [.ept (aL p)] (by have:=hk.n6;omega) (fun s _=>LB s p);unfold cY at lP;cases hf:v.ranges.findIdx? (fun r=>decide (r.at_=p))with
  |none=>
   rw[hf]at lP;have hr:R=(Vpc.zero,Rng.zero,5):=by rw[hR.out];unfold fX;rw[if_neg (by simpa using hc),hf]
   rw[hr];clear hr hR hf hc hk;refine pj func107 ntmps107 results107 ?_;have z1z:=Ln.mk (ls:=[]) (ci);refine aF ?_<;>intros;exact dg
  |some i=>
   rw[hf]at lP;have hi:i < v.ranges.length:=(WF.1 hf).1;obtain⟨g,hg⟩:∃g,v.ranges[i]? =some g:=⟨_,VY hi⟩;have rW:decide ((i:Int) < 0)=false:=by simp
   have Vj:=hk.n4;cases ha:v.subs.any fun s=>kV s.at_ p with
   |true=>
    rw[ha]at lN;have hr:R=(Vpc.zero,Rng.zero,9):=by rw[hR.out];unfold fX;rw[if_neg (by simpa using hc),hf];simp only;rw[if_pos ha]
    rw[hr];clear hr hR hf hc hk;refine pj func107 ntmps107 results107 ?_;have z1z:=Ln.mk (ls:=[]) (ci);refine aF ?_<;>intros;exact dg
   |false=>
    rw[ha]at lN;have hr:R=({v with ranges:=v.ranges.eraseIdx i},g,0):=by
     rw[hR.out];unfold fX;rw[if_neg (by simpa using hc),hf];simp only;rw[if_neg (by simp[ha])];rw[Ww,hg];rfl
    have hd:=xH (enc:=cf) v.ranges i (i+1) 1 hi rfl;have ed:=wi i (by omega);rw[hr];clear hr hR hf hc hk;refine pj func107 ntmps107 results107 ?_;have z1z:=Ln.mk (ls:=[]) (ci);have z2z:=Ln.mk (ls:=[5]) (hd);exact bx;all_goals exact dg
 ·have ci:=je v hc;have h1:(cq v !=0)=true:=by simpa using hc
  have hr:R=(Vpc.zero,Rng.zero,cq v):=by rw[hR.out];unfold fX;rw[if_pos hc]
  rw[hr];replace hr:=VZ hr;refine pj func107 ntmps107 results107 ?_;have z1z:=Ln.mk (ls:=[]) (ci);refine aF ?_<;>intros;exact dg
def mE (v:Vpc)(id:Int)(p:Pfx):Int:=
 if du id=false∨fS v p=false then 3 else
 if (v.subs.any fun s=>(s.id==id)||s.at_.meets p)=true then 6 else if v.subs.length=6 then 2 else 0
def u4 (v:Vpc)(id:Int)(p:Pfx):Vpc × Int:=
 if cq v≠0 then (Vpc.zero,cq v)else if mE v id p≠0 then (Vpc.zero,mE v id p)else ({v with subs:=eo (·.id) ⟨id,p,[]⟩ v.subs},0)
theorem Oc (s:Sbn)(id:Int)(p:Pfx):ae prog 193 [.agg (bw s),.ept [.v (.int .i64 id)],.ept (aL p)] (.v (.bool ((s.id==id)||s.at_.meets p))):=by
 have hm:ae prog 124 [.agg (aL s.at_),.agg (aL p)] (.v (.bool (s.at_.meets p))):=m4 _ _;cases h1:s.id==id;all_goals
  refine pj func193 ntmps193 results193 ?_;exact bx
theorem Od (v:Vpc)(id:Int)(p:Pfx):ae prog 108 [.agg (aG v),.v (.int .i64 id),.agg (aL p)] (.tup [.agg (aG (u4 v id p).1),.v (.int .i64 (u4 v id p).2)]):=by
 obtain⟨R,hR⟩:∃R,R=u4 v id p:=⟨_,rfl⟩;rw[←hR];replace hR:=VZ hR;by_cases hc:cq v=0
 ·have hk:=bt hc;have ci:=jf v hc hk.n4 hk.n6 hk.n8;have hid:=iV id;have Up:=pb v p (by have:=hk.n4;omega);have lN:=tj ke (fun s=>(s.id==id)||s.at_.meets p) v.subs 193 [.ept [.v (.int .i64 id)],.ept (aL p)] (by have:=hk.n6;omega) (fun s _=>Oc s id p);have cz:R=if mE v id p≠0 then (Vpc.zero,mE v id p)else ({v with subs:=eo (·.id) ⟨id,p,[]⟩ v.subs},0):=by rw[hR.out];unfold u4;rw[if_neg (by simpa using hc)]
  have SZ:=hk.n6;by_cases cD:mE v id p≠0
  ·rw[if_pos cD]at cz;unfold mE at cz cD;generalize fS v p=K at*;generalize du id=I at*;generalize (v.subs.any fun s=>(s.id==id)||s.at_.meets p)=M at*;replace cz:=VZ cz;replace cD:=VZ cD;clear hR hc hk;have Pu:((v.subs.length:Int)==6)=decide (v.subs.length=6):=by rw[Xh];simp;omega
   refine pj func108 ntmps108 results108 ?_;have z1z:=Ln.mk (ls:=[]) (ci);refine rK ?_ ?_ ?_ ?_ ?_ ?_ ?_ ?_<;>first|(with_reducible exact True.intro)|intros
   all_goals
    have h1:=cz.out;have h2:=cD.out;clear hid Up lN ci;first
     |(exfalso;grind)
     |(rw[show R=(Vpc.zero,3) from (by rw[h1];grind)];exact dg)
     |(rw[show R=(Vpc.zero,6) from (by rw[h1];grind)];exact dg)
     |(rw[show R=(Vpc.zero,2) from (by rw[h1];grind)];exact dg)
  ·rw[if_neg cD]at cz;have hg:mE v id p=0:=by simpa using cD
   obtain⟨g1,g2,g3,g4⟩:fS v p=true∧du id=true∧(v.subs.any fun s=>(s.id==id)||s.at_.meets p)=false∧v.subs.length≠6:=by
    unfold mE at hg;generalize (v.subs.any fun s=>(s.id==id)||s.at_.meets p)=M at*;grind
   have bq:∀s∈v.subs,s.id≠(⟨id,p,[]⟩:Sbn).id:=fun s hs=>by have:=Xu.1 g3 s hs;simp at this;exact this.1
   have pP:=IJ (l:=v.subs++[⟨id,p,[]⟩]) (l':=eo (·.id) ⟨id,p,[]⟩ v.subs) (v.subs.length+1) (by simp) (eM _ _ _) (eE hk.rs bq) (by simp;omega);rw[g1]at Up;rw[g2]at hid;rw[g3]at lN;have Pu:((v.subs.length:Int)==6)=false:=by simp;omega
   have mO:v.subs.length+1≤100:=by omega
   simp only[V6,V1,V5]at pP;have pP:=pP.leh (zH (A:=v.subs.map bw) (B:=[]) (r:=[.v (.int .i64 id),.v (.int .i64 p.at_),.v (.int .i64 p.len),.v (.slice none 0 0)]) dg) (by have:=nX (enc:=bw) (fun _=>rfl) (v.subs++[⟨id,p,[]⟩]);simpa using this) (an _ _);rw[cz];clear hR cz hc hk bq hg cD;refine pj func108 ntmps108 results108 ?_;have z1z:=Ln.mk (ls:=[]) (ci);have z2z:=Ln.mk (ls:=[7]) (pP);exact bx
 ·have ci:=je v hc;have h1:(cq v !=0)=true:=by simpa using hc
  have hr:R=(Vpc.zero,cq v):=by rw[hR.out];unfold u4;rw[if_pos hc]
  rw[hr];replace hr:=VZ hr;refine pj func108 ntmps108 results108 ?_;have z1z:=Ln.mk (ls:=[]) (ci);refine aF ?_<;>intros;exact dg
def qx (v:Vpc)(i:Nat)(id:Int):Int:=match v.subs[i]? with|some s=>cY (fun f=>f.id==id) s.faces|none=> -1
def tX (v:Vpc)(sub id:Int):Int × Int:=match v.subs.findIdx? (fun s=>s.id==sub)with|none=>(-1,-1)|some i=>(i,qx v i id)
theorem Ar (s:Sbn)(id:Int):ae prog 255 [.agg (bw s),.ept [.v (.int .i64 id)]] (.v (.bool (s.id==id))):=by
 refine pj func255 ntmps255 results255 ?_;exact bx
theorem IK (f:Fce)(id:Int):ae prog 257 [.agg (cO f),.ept [.v (.int .i64 id)]] (.v (.bool (f.id==id))):=by
 refine pj func257 ntmps257 results257 ?_;exact bx
theorem sd (v:Vpc)(sub id:Int)(h6:v.subs.length≤6)(h8:∀s∈v.subs,s.faces.length≤8):ae prog 196 [.ept (aG v),.v (.int .i64 sub),.v (.int .i64 id)] (.tup [.v (.int .i64 (tX v sub id).1),.v (.int .i64 (tX v sub id).2)]):=by
 have lP:=th ke (fun s=>s.id==sub) v.subs 255 [.ept [.v (.int .i64 sub)]] (by omega) (fun s _=>Ar s sub);unfold tX;unfold cY at lP;cases hf:v.subs.findIdx? (fun s=>s.id==sub)with
 |none=>
  rw[hf]at lP;replace hf:=VZ hf;refine pj func196 ntmps196 results196 ?_;exact bx;all_goals exact dg
 |some i=>
  rw[hf]at lP;have hi:i < v.subs.length:=(WF.1 hf).1;obtain⟨s,hs⟩:∃s,v.subs[i]? =some s:=⟨_,VY hi⟩;have rW:decide ((i:Int) < 0)=false:=by simp
  have VM:=v9 s7 (fun f=>f.id==id) s.faces 257 [.ept [.v (.int .i64 id)]] (by have:=h8 s (V0 hs);omega) (fun f _=>IK f id);unfold qx;simp only;rw[hs];replace hf:=VZ hf;refine pj func196 ntmps196 results196 ?_;exact bx;all_goals exact dg
def hO (v:Vpc)(id:Int):Vpc × Int:=
 if cq v≠0 then (Vpc.zero,cq v)else
 match v.subs.findIdx? (fun s=>s.id==id)with
 |none=>(Vpc.zero,5)
 |some i=>if (v.subs[i]?.map fun s=>s.faces.length)≠some 0 then (Vpc.zero,9)else ({v with subs:=v.subs.eraseIdx i},0)
theorem qy (sub id:Int):ae prog 196 [.ept [.v (.int .i64 0),.v (.slice none 0 0),.v (.slice none 0 0)],.v (.int .i64 sub),.v (.int .i64 id)] (.tup [.v (.int .i64 (-1)),.v (.int .i64 (-1))]):=by
 have lP:=(th ke (fun s=>s.id==sub) [] 255 [.ept [.v (.int .i64 sub)]] (by simp) (fun s _=>Ar s sub)).args (ds:=[.v (.slice none 0 0),.clo 255 [.ept [.v (.int .i64 sub)]]]) ⟨au.nil _,au.refl _,trivial⟩;unfold cY at lP;simp only[List.findIdx?_nil]at lP;refine pj func196 ntmps196 results196 ?_;exact bx
theorem LD (v:Vpc)(id:Int):ae prog 109 [.agg (aG v),.v (.int .i64 id)] (.tup [.agg (aG (hO v id).1),.v (.int .i64 (hO v id).2)]):=by
 obtain⟨R,hR⟩:∃R,R=hO v id:=⟨_,rfl⟩;rw[←hR];replace hR:=VZ hR;by_cases hc:cq v=0
 ·have hk:=bt hc;have ci:=jf v hc hk.n4 hk.n6 hk.n8;have f7:=sd v id 0 hk.n6 (fun s hs=>(hk.n8 s hs).1);have SZ:=hk.n6;unfold tX at f7;cases hf:v.subs.findIdx? (fun s=>s.id==id)with
  |none=>
   rw[hf]at f7;have hr:R=(Vpc.zero,5):=by rw[hR.out];unfold hO;rw[if_neg (by simpa using hc),hf]
   rw[hr];clear hr hR hf hc hk;refine pj func109 ntmps109 results109 ?_;have z1z:=Ln.mk (ls:=[]) (ci);refine aF ?_<;>intros;exact dg
  |some i=>
   rw[hf]at f7;have hi:i < v.subs.length:=(WF.1 hf).1;obtain⟨s,hs⟩:∃s,v.subs[i]? =some s:=⟨_,VY hi⟩;have rW:decide ((i:Int) < 0)=false:=by simp
   simp only at f7;generalize qx v i 0=FI at f7;by_cases h0:s.faces.length=0
   ·have hr:R=({v with subs:=v.subs.eraseIdx i},0):=by rw[hR.out];unfold hO;rw[if_neg (by simpa using hc),hf];simp only;rw[hs];simp[h0]
    have hd:=Cr (enc:=bw) v.subs i (i+1) v.subs.length hi rfl;have ed:=wi i (by omega);have Vr:decide ((s.faces.length:Int)>0)=false:=by simp[h0]
    rw[hr];clear hr hR hf hc hk h0;refine pj func109 ntmps109 results109 ?_;have z1z:=Ln.mk (ls:=[]) (ci);have z2z:=Ln.mk (ls:=[5]) (hd);exact bx;all_goals exact dg
   ·have hr:R=(Vpc.zero,9):=by rw[hR.out];unfold hO;rw[if_neg (by simpa using hc),hf];simp only;rw[hs];simp[h0]
    have Vr:decide ((s.faces.length:Int)>0)=true:=by simp;omega
    rw[hr];clear hr hR hf hc hk h0;refine pj func109 ntmps109 results109 ?_;have z1z:=Ln.mk (ls:=[]) (ci);refine aF ?_<;>intros;all_goals exact dg
 ·have ci:=je v hc;have O9:=qy id 0;have h1:(cq v !=0)=true:=by simpa using hc
  have hr:R=(Vpc.zero,cq v):=by rw[hR.out];unfold hO;rw[if_pos hc]
  rw[hr];replace hr:=VZ hr;refine pj func109 ntmps109 results109 ?_;have z1z:=Ln.mk (ls:=[]) (ci);refine aF ?_<;>intros;exact dg
def ou (used:List Int)(p:Pfx):Nat→Int→Option Int
 |0,_=>none
 |n+1,a=>if pc p a=true then (if a∈used then ou used p n (a+1)else some a)else none
def fq (s:Sbn):Option Int:=ou (s.faces.flatMap (·.addrs)) s.at_ 65536 (s.at_.at_+1)
theorem LF {p:Pfx}{a:Int}(h:pc p a=true):p.right=true∧p.at_ < a∧a < p.hi - 1∧a≤65535:=by
 unfold pc at h;simp only[Wd,decide_eq_true_eq]at h;have hr:=qo.1 (by rw[←zM];exact h.1);have hb:=p.hi_bd hr.1;have:p.hi=p.at_+fA p.len:=rfl;exact⟨hr.1,by omega,by omega,by omega⟩
theorem D0 (s:Sbn)(h8:s.faces.length≤8)(h4:∀f∈s.faces,f.addrs.length≤4)(hr:s.at_.right=true)(jX:(s.faces.flatMap (·.addrs)).Nodup):ae prog 198 [.agg (bw s)] (.tup [.v (.int .i64 ((fq s).getD 0)),.v (.bool (fq s).isSome)]):=by
 obtain⟨r1,r2,r3,r4,-⟩:=s.at_.bd hr;replace jX:=VZ jX;refine pj func198 ntmps198 results198 ?_;refine aF ?_<;>intros;refine cp ah av (fun m e h=>∃(k:Nat) (ents:List (List Int × Int)),k≤s.faces.length∧NO ents ((s.faces.take k).flatMap (·.addrs))∧m=s.faces.length - k∧
  e=[(14,.d (.v (.int .i64 k))),(13,.d (.v (.int .i64 s.faces.length))),(12,.d (.sl 2 (s.faces.map cO))),(4,.mref 1),(3,.d (.v (.bool false))),(2,.d (.v (.int .i64 0))),(1,.ptr 0 0)]∧h=[.box 107 ((bw s).map .d),.mp 1 false ents]) _ _ _ ⟨0,[],Wr _,DI,rfl,rfl,rfl⟩ (wf) ?_
 rintro m e h ⟨k,ents,hk,pK,hm,rfl,rfl⟩ C hC;by_cases hlt:k < s.faces.length
 ·have g8:(k:Int) < (s.faces.length:Int):=by omega
  have ed:=wi k (by omega);obtain⟨f,hf⟩:∃f,s.faces[k]? =some f:=⟨_,VY hlt⟩;have iN:=h4 f (V0 hf);replace hm:=VZ hm;replace pK:=VZ pK;refine aF ?_<;>intros;refine cp ah av (fun m e h=>∃(j:Nat) (ents:List (List Int × Int)),j≤f.addrs.length∧NO ents ((s.faces.take k).flatMap (·.addrs)++f.addrs.take j)∧m=f.addrs.length - j∧
   e=[(21,.d (.v (.int .i64 j))),(20,.d (.v (.int .i64 f.addrs.length))),(19,.d (.sl 1 (f.addrs.map dI))),(14,.d (.v (.int .i64 k))),(13,.d (.v (.int .i64 s.faces.length))),(12,.d (.sl 2 (s.faces.map cO))),(4,.mref 1),(3,.d (.v (.bool false))),(2,.d (.v (.int .i64 0))),(1,.ptr 0 0)]∧h=[.box 107 ((bw s).map .d),.mp 1 false ents]) _ _ _ ⟨0,ents,Wr _,by simpa using pK.out,rfl,rfl,rfl⟩ (wf) ?_
  rintro m2 e h ⟨j,en2,hj,f5,jr,rfl,rfl⟩ C2 vm;by_cases Gf:j < f.addrs.length
  ·have oF:(j:Int) < (f.addrs.length:Int):=by omega
   have Bc:=wi j (by omega);obtain⟨a,ha⟩:∃a,f.addrs[j]? =some a:=⟨_,VY Gf⟩;have OS:=f5 a;have jp:f.addrs.take (j+1)=f.addrs.take j++[a]:=aj ha;have hd:a∉(s.faces.take k).flatMap (·.addrs)++f.addrs.take j:=by
    have un:((s.faces.take k).flatMap (·.addrs)++f.addrs.take (j+1)).Sublist (s.faces.flatMap (·.addrs)):=by
     conv=>rhs;rw[←XE k s.faces,pf hf,XL,List.flatMap_cons]
     exact List.Sublist.append (List.Sublist.refl _) ((YZ _ _).trans (List.sublist_append_left _ _))
    have:=un.nodup jX.out;rw[jp,←WE,nZ]at this;exact this.2
   rw[if_neg hd]at OS;have mK:=zP f5 hd;replace f5:=VZ f5;replace mK:=VZ mK;replace jr:=VZ jr;replace jp:=VZ jp;have cN:IntKind.i64.wrap 1=1:=by decide
   refine aF ?_<;>intros;refine vm _ _ _ _ _ ?_ ⟨j+1,ly en2 [a] 1,Gf,?_,rfl,rfl,rfl⟩ (wf)
   ·have:=jr.out;omega
   ·rw[jp.out,←WE];exact mK.out
  ·obtain rfl:j=f.addrs.length:=by omega
   rw[V4]at f5;have rU:(s.faces.take (k+1)).flatMap (·.addrs)=(s.faces.take k).flatMap (·.addrs)++f.addrs:=by rw[aj hf,XL];simp
   replace jr:=VZ jr;replace f5:=VZ f5;replace rU:=VZ rU;refine aF ?_<;>intros;refine hC _ _ _ _ _ ?_ ⟨k+1,en2,hlt,?_,rfl,rfl,rfl⟩ (wf)
   ·have:=hm.out;omega
   ·rw[rU.out];exact f5.out
 ·obtain rfl:k=s.faces.length:=by omega
  rw[V4]at pK;replace pK:=VZ pK;replace hm:=VZ hm;have cJ:IntKind.i64.wrap (s.at_.at_+1)=s.at_.at_+1:=by rw[IntKind.wrap_i64];omega
  refine aF ?_<;>intros;refine cp ah av (fun m e h=>∃(i:Nat) (a:Int),i≤65536∧a=s.at_.at_+1+i∧fq s=ou (s.faces.flatMap (·.addrs)) s.at_ (65536 - i) a∧m=65536 - i∧
   e=[(9,.d (.v (.int .i64 a))),(4,.mref 1),(3,.d (.v (.bool false))),(2,.d (.v (.int .i64 0))),(1,.ptr 0 0)]∧h=[.box 107 ((bw s).map .d),.mp 1 false ents]) 65536 _ _ ⟨0,s.at_.at_+1,Wr _,by simp,rfl,rfl,rfl,rfl⟩ (wf) ?_
  rintro m2 e h ⟨i,a,hi,Rg,hle,jr,rfl,rfl⟩ C2 vm;have g7:=DG s.at_ a;cases b1:pc s.at_ a with
  |false=>
   rw[b1]at g7;have x7:fq s=none:=by
    rw[hle];cases 65536 - i with
    |zero=>rfl
    |succ n=>rw[ou,if_neg (by simp[b1])]
   replace hle:=VZ hle;replace Rg:=VZ Rg;replace jr:=VZ jr;rw[x7];exact bx;all_goals exact dg
  |true=>
   have hb:=LF b1;obtain⟨n,hn⟩:∃n,65536 - i=n+1:=⟨65536 - i - 1,by omega⟩;rw[hn,ou,if_pos b1]at hle;rw[b1]at g7;have OS:=pK.out a;have yi:IntKind.i64.wrap (a+1)=a+1:=by rw[IntKind.wrap_i64];omega
   replace Rg:=VZ Rg;replace jr:=VZ jr;by_cases hu:a∈s.faces.flatMap (·.addrs)
   ·rw[if_pos hu]at OS hle;replace hle:=VZ hle;refine aF ?_<;>intros;refine vm _ _ _ _ _ ?_ ⟨i+1,a+1,by omega,by rw[Rg.out];omega,?_,rfl,rfl,rfl⟩ (wf)
    ·have:=jr.out;omega
    ·rw[hle.out];congr 1;omega
   ·rw[if_neg hu]at OS hle;rw[hle];replace hle:=VZ hle;exact bx;all_goals exact dg
theorem wC {v:Vpc}(hk:VpcOK v){s:Sbn}(hs:s∈v.subs):s.at_.right=true∧(s.faces.flatMap (·.addrs)).Nodup∧(s.faces.Pairwise fun a b=>a.id < b.id)∧∀f∈s.faces,tr s.at_ f=true:=by
 have h:=hk.subs s hs;unfold n7 fS eC at h;simp only[Wd,XK,Wx,decide_eq_true_eq,gy]at h;obtain⟨-,⟨r,-,hr⟩,h1,h2,h3⟩:=h;exact⟨(mo.1 hr).1,h2,h3,h1⟩
theorem li {α:Type}{p:α→Bool}{l:List α}{i:Nat}(h:l.findIdx? p=some i):∃pre x post,l=pre++x::post∧pre.length=i∧p x=true∧l[i]? =some x:=by
 obtain⟨hlt,hp,-⟩:=WF.1 h;exact⟨l.take i,l[i],l.drop (i+1),by rw[List.getElem_cons_drop,XE],by rw[V2];omega,hp,VY hlt⟩
def jF (s:Sbn)(id:Int):Int:=
 if du id=false then 3 else if (s.faces.any fun f=>f.id==id)=true then 6 else if s.faces.length=8 then 2 else if (fq s).isSome=false then 8 else 0
def kA (v:Vpc)(sub id:Int):Vpc × Int × Int:=
 if cq v≠0 then (Vpc.zero,0,cq v)else
 match v.subs.findIdx? (fun s=>s.id==sub)with
 |none=>(Vpc.zero,0,5)
 |some i=>match v.subs[i]? with
  |none=>(Vpc.zero,0,5)
  |some s=>if jF s id≠0 then (Vpc.zero,0,jF s id)else ({v with subs:=v.subs.set i {s with faces:=eo (·.id) ⟨id,[(fq s).getD 0]⟩ s.faces}},(fq s).getD 0,0)
theorem LG (v:Vpc)(sub id:Int):ae prog 110 [.agg (aG v),.v (.int .i64 sub),.v (.int .i64 id)] (.tup [.agg (aG (kA v sub id).1),.v (.int .i64 (kA v sub id).2.1),.v (.int .i64 (kA v sub id).2.2)]):=by
 obtain⟨R,hR⟩:∃R,R=kA v sub id:=⟨_,rfl⟩;rw[←hR];replace hR:=VZ hR;by_cases hc:cq v=0
 ·have hk:=bt hc;have f7:=sd v sub id hk.n6 (fun s hs=>(hk.n8 s hs).1);unfold tX at f7;cases hf:v.subs.findIdx? (fun s=>s.id==sub)with
  |none=>
   have ci:=jf v hc hk.n4 hk.n6 hk.n8;rw[hf]at f7;have hr:R=(Vpc.zero,0,5):=by rw[hR.out];unfold kA;rw[if_neg (by simpa using hc),hf]
   rw[hr];clear hr hR hf hc hk;refine pj func110 ntmps110 results110 ?_;have z1z:=Ln.mk (ls:=[]) (ci);refine aF ?_<;>intros;exact dg
  |some i=>
   obtain⟨pre,s,post,hv,lG,-,hs⟩:=li hf;have lO:=V0 hs;obtain⟨s1,s2,s3,s4⟩:=wC hk lO;have nH:=hk.n8 s lO;have ci:=tW v pre post s hv hc hk.n4 hk.n6 hk.n8;have hle:=D0 s nH.1 nH.2 s1 s2;have hid:=iV id;have mM:=eY (fun f=>f.id==id) s.faces;have rW:decide ((i:Int) < 0)=false:=by simp
   have cz:R=if jF s id≠0 then (Vpc.zero,0,jF s id)else ({v with subs:=pre++{s with faces:=eo (·.id) ⟨id,[(fq s).getD 0]⟩ s.faces}::post},(fq s).getD 0,0):=by
    rw[hR.out];unfold kA;rw[if_neg (by simpa using hc),hf];simp only;rw[hs];simp only;rw[hv,←lG,XD _ _ (Wa _),Xy,Wi]
   rw[hf]at f7;simp only at f7;unfold qx at f7;rw[hs]at f7;simp only[aG,hv,V6,V1,bw]at f7;have xY:v.subs.length=pre.length+1+post.length:=by rw[hv];simp;omega
   subst lG;simp only[bw]at hle;by_cases cD:jF s id≠0
   ·rw[if_pos cD]at cz;unfold jF at cz cD;generalize du id=I at*;generalize cY (fun f=>f.id==id) s.faces=IX at*;generalize (s.faces.any fun f=>f.id==id)=M at*;generalize fq s=LS at*;have Pu:((s.faces.length:Int)==8)=decide (s.faces.length=8):=by rw[Xh];simp;omega
    replace cz:=VZ cz;replace cD:=VZ cD;clear hR hc hk hf hs lO hv;refine pj func110 ntmps110 results110 ?_;have z1z:=@eD.eq_1;have z2z:=Ln.mk (ls:=[]) (ci);refine rK ?_ ?_ ?_ ?_ ?_ ?_ ?_ ?_<;>first|(with_reducible exact True.intro)|intros
    all_goals
     have h1:=cz.out;have h2:=cD.out;clear f7 hid hle ci;first
      |(exfalso;grind)
      |(rw[show R=(Vpc.zero,0,3) from (by rw[h1];grind)];exact dg)
      |(rw[show R=(Vpc.zero,0,6) from (by rw[h1];grind)];exact dg)
      |(rw[show R=(Vpc.zero,0,2) from (by rw[h1];grind)];exact dg)
      |(rw[show R=(Vpc.zero,0,8) from (by rw[h1];grind)];exact dg)
   ·rw[if_neg cD]at cz;have hg:jF s id=0:=by simpa using cD
    obtain⟨g1,g2,g3,g4⟩:du id=true∧(s.faces.any fun f=>f.id==id)=false∧s.faces.length≠8∧(fq s).isSome=true:=by
     unfold jF at hg;generalize (s.faces.any fun f=>f.id==id)=M at*;grind
    obtain⟨a,ha⟩:=XZ.1 g4;have bq:∀f∈s.faces,f.id≠(⟨id,[a]⟩:Fce).id:=fun f hf=>by have:=Xu.1 g2 f hf;simpa using this
    have pP:=FP (l:=s.faces++[⟨id,[a]⟩]) (l':=eo (·.id) ⟨id,[a]⟩ s.faces) (s.faces.length+1) (by simp) (eM _ _ _) (eE s3 bq) (by simp;omega);rw[ha]at hle cz;rw[g1]at hid;rw[g2]at mM;simp only[Xc,Wk]at hle cz;have Pu:((s.faces.length:Int)==8)=false:=by simp;omega
    have mO:s.faces.length+1≤100:=by omega
    simp only[V6,V1,V5]at pP;rw[cz];clear hR cz hc hk bq hg cD hf hs lO hv g4 ha;refine pj func110 ntmps110 results110 ?_;have z1z:=@eD.eq_1;have z2z:=Ln.mk (ls:=[]) (ci);have z3z:=Ln.mk (ls:=[8]) (pP);refine aF ?_<;>intros;all_goals(simp only[aG,bw,V6,V1];exact dg)
 ·have ci:=je v hc;have h1:(cq v !=0)=true:=by simpa using hc
  have hr:R=(Vpc.zero,0,cq v):=by rw[hR.out];unfold kA;rw[if_pos hc]
  rw[hr];replace hr:=VZ hr;refine pj func110 ntmps110 results110 ?_;have z1z:=Ln.mk (ls:=[]) (ci);refine aF ?_<;>intros;exact dg
section
open Go.Proofs Go.Shelf
theorem u6 (F:Array Int)(cur:Array Value)(h:F.size≤cur.size):(Sort.putCells (Value.int .i64) 0 F cur).toList.take F.size=F.toList.map (Value.int .i64)∧(Sort.putCells (Value.int .i64) 0 F cur).size=cur.size:=by
 refine⟨?_,by simp[Sort.putCells]⟩;apply WS;intro i;by_cases hi:i < F.size
 ·rw[Wo hi];have hc:i < cur.size:=by omega
  simp[Sort.putCells,hi,hc]
 ·rw[Wm (by rw[V2];omega),Wm (by simp;omega)]
theorem IL {l l':List Int}(hp:l'.Perm l)(hs:l'.Pairwise fun x y=>x < y):(l.mergeSort fun x y=>decide (x≤y))=l':=by
 refine List.Perm.eq_of_pairwise (le:=fun x y:Int=>x≤y) (fun a b _ _ h1 h2=>by omega) ?_ (hs.imp fun h=>by omega) ((List.mergeSort_perm l _).trans hp.symm);have:=List.pairwise_mergeSort (le:=fun x y:Int=>decide (x≤y)) (fun a b c h1 h2=>by simp at*;omega) (fun a b=>by simp;omega) l;exact this.imp fun h=>by simpa using h
theorem FQ {P:Program}{ρ:Ren}(L:SlLaysN.n53 P ρ){f E g:Nat}(hf:ρ.f 53=f)(Mt:sG P f){l l':List Int}(wR:l≠[])(hp:l'.Perm l)(hs:l'.Pairwise fun x y=>x < y)(ck:l.length≤1000000):
 MSpec P f [.own 0 g] [.row E 1 g (aa (l.map dI))] (.d (.tup [])) [.row E 1 g (aa (l'.map dI))]:=by
 refine⟨Mt,Wa _,by simp[af,ag],by simp[ay,aH,an],fun X hP hn hm w c vs hr jn=>?_⟩;have bc:=jn.1;match vs,bc with
 |[v0],_=>
  have r0:=jn.2 0 _ v0 rfl rfl;have bq:aa (l.map dI)≠[]:=by simpa[aa]using wR
  have bn:=hr.chunk 0;have iN:∀m:List Int,(aa (m.map dI)).flatten=m.map fun a=>PV.d (.v (.int .i64 a)):=by
   intro m;rw[nq];induction m with
   |nil=>rfl
   |cons a m ih=>simp[dI,ih]
  cases r0 with
  |own _ _ _ dy h1=>
   obtain⟨gb,cap,rfl⟩:=j4 bn dy bq;obtain⟨cur,xs,q1,q2,q3,q4,q5,q6,q7,q8,q9,q10,q11⟩:=di bn dy bq;have Pp:(aa (l.map dI)).length=l.length:=by rw[aA,Wg]
   rw[Pp]at q3 q4 q8 q10 dy ⊢;rw[Nat.mul_one]at q3 q4 q8 q11;rw[iN]at q2;have Gk:xs=l.map (Value.int .i64):=by
    apply WS;intro j;by_cases hj:j < l.length
    ·obtain⟨u,e1⟩:∃u,xs[j]? =some u:=⟨_,VY (by omega)⟩;have:=q2.2 j (.d (.v (.int .i64 l[j]))) u (by rw[V7,VY hj];rfl) e1;rw[e1,V7,VY hj];cases bA this;rfl
    ·rw[Wm (by omega),Wm (by simp;omega)]
   have hH:Sort.Holds (Value.int .i64) w gb 0 l.toArray:=by
    intro j hj;have hj':j < l.length:=by simpa using hj
    have bE:∀o,w.cell? ⟨gb,o,none⟩=cur[o]? :=fun o=>by simp[Xl,q1]
    refine⟨?_,eV q1⟩;rw[Wn,bE,q4 j hj',Gk,V7,VY hj',getElem!_pos l.toArray j hj];simp
   have hg:gb < w.heap.size:=(W5.1 q1).1;have fY:=AnyG.slices_Sort_int L gb 0 cap l w hH hg (by omega);rw[hf,IL hp hs]at fY;refine fY.mono fun e w' ⟨he,m,os,hw'⟩=>?_;have JL:l'.length=l.length:=hp.length_eq;obtain⟨p1,p2⟩:=u6 l'.toArray cur (by simp;omega);have qE:0 < cap:=by have:=XM.2 wR;omega
   have Vs:w'.heap[gb]? =some (.cells (Sort.putCells (Value.int .i64) 0 l'.toArray cur) E (0,0)):=by
    rw[hw',Sort.heap_grow_old _ _ (by simpa using hg)];show (w.heap.modify gb (Sort.onCells _))[gb]? =_;rw[Xq,if_pos rfl,q1];rfl
   have da:OneB w w' (some gb):=by
    refine⟨by rw[hw'];rfl,by rw[hw'];rfl,by rw[hw'];rfl,?_,fun b hb bq=>?_⟩
    ·rw[hw',Sort.size_grow,Sort.size_putRow,Sort.heap_ahead];omega
    ·rw[hw',Sort.heap_grow_old _ _ (by simpa using hb)];show (w.heap.modify gb (Sort.onCells _))[b]? =_;rw[Xq,if_neg (fun e=>bq (by rw[e]))]
   have C9:∀r∈aa (l'.map dI),r.length=1:=fun r hr=>by
    obtain⟨q,hq,rfl⟩:=fw hr;obtain⟨x,-,rfl⟩:=Wp.1 hq;rfl
   have mJ:aZ c w (aa (l'.map dI)).flatten (l'.map (Value.int .i64)):=by
    rw[iN];refine⟨by simp,fun j d v hj hv=>?_⟩;rw[V7,Wh]at hj hv;obtain⟨a,ha,rfl⟩:=hj;obtain⟨b,hb,rfl⟩:=hv;rw[ha]at hb;cases hb;exact .d _ _ (.v _)
   have A7:=hr.put_row (w':=w') (k:=0) (rows':=aa (l'.map dI)) (xs':=l'.map (Value.int .i64)) rfl dy (by rw[cg qE];exact da) (by
    rw[aA,Wg,JL];exact .row gb l.length cap _ _ qE Vs q10 q9 (by rw[p2,Nat.mul_one];exact q11) (by rw[Wg,Nat.mul_one];omega) (by
     rw[Nat.mul_one,←JL,show l'.length=l'.toArray.size by simp,p1])) mJ C9 (nX (enc:=dI) (fun _=>rfl) l')
   have kF:bS [(0,Chunk.row E 1 g (aa (l'.map dI)))] (bp [] [.row E 1 g (aa (l.map dI))]).heap=aw [.row E 1 g (aa (l'.map dI))]:=by
    funext k;rw[oO];cases k with
    |zero=>rfl
    |succ k=>rfl
   rw[kF]at A7;refine⟨_,c,he,.d _ _ (.tup [] [] rfl fun j d x h=>by simp at h),A7⟩
theorem IM {l l':List Int}(g:Nat)(wR:l≠[])(hp:l'.Perm l)(hs:l'.Pairwise fun x y=>x < y)(ck:l.length≤1000000):MSpec prog 201 [.own 0 g] [.row 3 1 g (aa (l.map dI))] (.d (.tup [])) [.row 3 1 g (aa (l'.map dI))]:=
 FQ sortInt rfl (ce func201 (by kernel_rfl) rfl) wR hp hs ck
end
def fi (v:Vpc)(sub id:Int):Vpc × Int:=
 if cq v≠0 then (Vpc.zero,cq v)else
 match v.subs.findIdx? (fun s=>s.id==sub)with
 |none=>(Vpc.zero,5)
 |some i=>match v.subs[i]? with
  |none=>(Vpc.zero,5)
  |some s=>match s.faces.findIdx? (fun f=>f.id==id)with
   |none=>(Vpc.zero,5)
   |some k=>({v with subs:=v.subs.set i {s with faces:=s.faces.eraseIdx k}},0)
theorem IN (v:Vpc)(sub id:Int):ae prog 112 [.agg (aG v),.v (.int .i64 sub),.v (.int .i64 id)] (.tup [.agg (aG (fi v sub id).1),.v (.int .i64 (fi v sub id).2)]):=by
 obtain⟨R,hR⟩:∃R,R=fi v sub id:=⟨_,rfl⟩;rw[←hR];replace hR:=VZ hR;by_cases hc:cq v=0
 ·have hk:=bt hc;have f7:=sd v sub id hk.n6 (fun s hs=>(hk.n8 s hs).1);have So:decide ((-1:Int) < 0)=true:=rfl;unfold tX at f7;cases hf:v.subs.findIdx? (fun s=>s.id==sub)with
  |none=>
   have ci:=jf v hc hk.n4 hk.n6 hk.n8;rw[hf]at f7;have hr:R=(Vpc.zero,5):=by rw[hR.out];unfold fi;rw[if_neg (by simpa using hc),hf]
   rw[hr];clear hr hR hf hc hk;refine pj func112 ntmps112 results112 ?_;have z1z:=Ln.mk (ls:=[]) (ci);refine aF ?_<;>intros;exact dg
  |some i=>
   obtain⟨pre,s,post,hv,lG,-,hs⟩:=li hf;have lO:=V0 hs;have nH:=hk.n8 s lO;have ci:=tW v pre post s hv hc hk.n4 hk.n6 hk.n8;rw[hf]at f7;simp only at f7;unfold qx at f7;rw[hs]at f7;simp only[aG,hv,V6,V1,bw]at f7;unfold cY at f7;have xY:v.subs.length=pre.length+1+post.length:=by rw[hv];simp;omega
   cases hg:s.faces.findIdx? (fun f=>f.id==id)with
   |none=>
    rw[hg]at f7;have hr:R=(Vpc.zero,5):=by rw[hR.out];unfold fi;rw[if_neg (by simpa using hc),hf];simp only;rw[hs];simp only;rw[hg]
    rw[hr];subst lG;clear hr hR hc hk hf hs lO hv hg;refine pj func112 ntmps112 results112 ?_;have z1z:=@eD.eq_1;have z2z:=Ln.mk (ls:=[]) (ci);refine aF ?_<;>intros;exact dg
   |some k=>
    rw[hg]at f7;have Gd:k < s.faces.length:=(WF.1 hg).1;have hr:R=({v with subs:=pre++{s with faces:=s.faces.eraseIdx k}::post},0):=by
     rw[hR.out];unfold fi;rw[if_neg (by simpa using hc),hf];simp only;rw[hs];simp only;rw[hg];simp only;rw[hv,←lG,XD _ _ (Wa _),Xy,Wi]
    have hd:=Aq (enc:=cO) s.faces k (k+1) s.faces.length Gd rfl;have ed:=wi k (by omega);have OW:decide ((k:Int) < 0)=false:=by simp
    rw[hr];subst lG;clear hr hR hc hk hf hs lO hv hg;refine pj func112 ntmps112 results112 ?_;have z1z:=@eD.eq_1;have z2z:=Ln.mk (ls:=[]) (ci);have z3z:=Ln.mk (ls:=[8]) (hd);refine aF ?_<;>intros;all_goals(first|omega|(simp only[aG,bw,V6,V1];exact dg))
 ·have ci:=je v hc;have O9:=qy sub id;have h1:(cq v !=0)=true:=by simpa using hc
  have hr:R=(Vpc.zero,cq v):=by rw[hR.out];unfold fi;rw[if_pos hc]
  rw[hr];replace hr:=VZ hr;refine pj func112 ntmps112 results112 ?_;have z1z:=Ln.mk (ls:=[]) (ci);refine aF ?_<;>intros;exact dg
theorem tY {used:List Int}{p:Pfx}:∀{n:Nat}{x a:Int},ou used p n x=some a→a∉used∧pc p a=true
 |0,x,a,h=>by cases h
 |n+1,x,a,h=>by
  unfold ou at h;split at h
  ·rename_i hi;split at h
   ·exact tY h
   ·rename_i hu;cases h;exact⟨hu,hi⟩
  ·cases h
def jG (v:Vpc)(sub id:Int):Vpc × Int × Int:=
 if cq v≠0 then (Vpc.zero,0,cq v)else
 match v.subs.findIdx? (fun s=>s.id==sub)with
 |none=>(Vpc.zero,0,5)
 |some i=>match v.subs[i]? with
  |none=>(Vpc.zero,0,5)
  |some s=>match s.faces.findIdx? (fun f=>f.id==id)with
   |none=>(Vpc.zero,0,5)
   |some k=>match s.faces[k]? with
    |none=>(Vpc.zero,0,5)
    |some f=>if f.addrs.length=4 then (Vpc.zero,0,2)else match fq s with
     |none=>(Vpc.zero,0,8)
     |some a=>({v with subs:=v.subs.set i {s with faces:=s.faces.set k {f with addrs:=eo (fun x=>x) a f.addrs}}},a,0)
theorem Oe (v:Vpc)(sub id:Int):ae prog 111 [.agg (aG v),.v (.int .i64 sub),.v (.int .i64 id)] (.tup [.agg (aG (jG v sub id).1),.v (.int .i64 (jG v sub id).2.1),.v (.int .i64 (jG v sub id).2.2)]):=by
 obtain⟨R,hR⟩:∃R,R=jG v sub id:=⟨_,rfl⟩;rw[←hR];replace hR:=VZ hR;by_cases hc:cq v=0
 ·have hk:=bt hc;have f7:=sd v sub id hk.n6 (fun s hs=>(hk.n8 s hs).1);have So:decide ((-1:Int) < 0)=true:=rfl;unfold tX at f7;cases hf:v.subs.findIdx? (fun s=>s.id==sub)with
  |none=>
   have ci:=jf v hc hk.n4 hk.n6 hk.n8;rw[hf]at f7;have hr:R=(Vpc.zero,0,5):=by rw[hR.out];unfold jG;rw[if_neg (by simpa using hc),hf]
   rw[hr];clear hr hR hf hc hk;refine pj func111 ntmps111 results111 ?_;have z1z:=Ln.mk (ls:=[]) (ci);refine aF ?_<;>intros;exact dg
  |some i=>
   obtain⟨pre,s,post,hv,lG,-,hs⟩:=li hf;have lO:=V0 hs;obtain⟨s1,s2,s3,s4⟩:=wC hk lO;have nH:=hk.n8 s lO;rw[hf]at f7;simp only at f7;unfold qx at f7;rw[hs]at f7;have xY:v.subs.length=pre.length+1+post.length:=by rw[hv];simp;omega
   cases hg:s.faces.findIdx? (fun f=>f.id==id)with
   |none=>
    have ci:=tW v pre post s hv hc hk.n4 hk.n6 hk.n8;simp only[aG,hv,V6,V1,bw]at f7;unfold cY at f7;rw[hg]at f7;have hr:R=(Vpc.zero,0,5):=by rw[hR.out];unfold jG;rw[if_neg (by simpa using hc),hf];simp only;rw[hs];simp only;rw[hg]
    rw[hr];subst lG;clear hr hR hc hk hf hs lO hv hg;refine pj func111 ntmps111 results111 ?_;have z1z:=@eD.eq_1;have z2z:=Ln.mk (ls:=[]) (ci);refine aF ?_<;>intros;exact dg
   |some k=>
    obtain⟨preF,f,postF,My,Mz,-,Gi⟩:=li hg;have lI:=V0 Gi;have ci:=II v pre post s preF postF f hv My hc hk.n4 hk.n6 hk.n8;have hle:=D0 s nH.1 nH.2 s1 s2;have iN:=nH.2 f lI;simp only[bw,My,V6,V1,cO]at hle;simp only[aG,hv,V6,V1,bw]at f7;unfold cY at f7;rw[hg]at f7;simp only[My,V6,V1,cO]at f7;have Vt:s.faces.length=preF.length+1+postF.length:=by rw[My];simp;omega
    have OW:decide ((k:Int) < 0)=false:=by simp
    have cz:R=if f.addrs.length=4 then ((Vpc.zero,0,2):Vpc × Int × Int)else match fq s with
     |none=>(Vpc.zero,0,8)
     |some a=>({v with subs:=pre++{s with faces:=preF++{f with addrs:=eo (fun x=>x) a f.addrs}::postF}::post},a,0):=by
     rw[hR.out];unfold jG;rw[if_neg (by simpa using hc),hf];simp only;rw[hs];simp only;rw[hg];simp only;rw[Gi];simp only;split
     ·rfl
     ·cases fq s with
      |none=>rfl
      |some a=>
       simp only;rw[hv,←lG,XD _ _ (Wa _),Xy,Wi];rw[My,←Mz,XD _ _ (Wa _),Xy,Wi]
    by_cases h4:f.addrs.length=4
    ·rw[if_pos h4]at cz;have Vu:((f.addrs.length:Int)==4)=true:=by simp;omega
     rw[cz];subst lG;subst Mz;clear hR cz hc hk hf hs lO hv hg Gi lI;refine pj func111 ntmps111 results111 ?_;have z1z:=@eD.eq_1;have z2z:=@iy.eq_1;have z3z:=Ln.mk (ls:=[]) (ci);refine aF ?_<;>intros;all_goals(first|omega|exact dg)
    ·rw[if_neg h4]at cz;have Vu:((f.addrs.length:Int)==4)=false:=by simp;omega
     cases hl:fq s with
     |none=>
      rw[hl]at cz hle;simp only[Option.getD_none,Xi]at hle;rw[cz];subst lG;subst Mz;clear hR cz hc hk hf hs lO hv hg Gi lI;refine pj func111 ntmps111 results111 ?_;have z1z:=@eD.eq_1;have z2z:=@iy.eq_1;have z3z:=Ln.mk (ls:=[]) (ci);refine aF ?_<;>intros;all_goals(first|omega|exact dg)
     |some a=>
      rw[hl]at cz hle;simp only[Xc,Wk]at hle;have Tk:a∉f.addrs:=fun h=>(tY hl).1 (List.mem_flatMap.2 ⟨f,lI,h⟩);have Rh:f.addrs.Pairwise fun x y=>x < y:=by
       have:=s4 f lI;unfold tr at this;simp only[Wd,gy]at this;exact this.2.2.1
      have pP:=IM (l:=f.addrs++[a]) (l':=eo (fun x=>x) a f.addrs) 2 (by simp) (eM _ _ _) (eE Rh (fun y hy e=>Tk (e ▸ hy))) (by simp;omega);simp only[V6,V1,V5]at pP;have mO:f.addrs.length+1≤100:=by omega
      rw[cz];subst lG;subst Mz;clear hR cz hc hk hf hs lO hv hg Gi lI Tk Rh hl;refine pj func111 ntmps111 results111 ?_;have z1z:=@eD.eq_1;have z2z:=@iy.eq_1;have z3z:=Ln.mk (ls:=[]) (ci);have z4z:=Ln.mk (ls:=[10]) (pP);refine aF ?_<;>intros;all_goals(first|omega|(simp only[aG,bw,cO,V6,V1];exact dg))
 ·have ci:=je v hc;have O9:=qy sub id;have h1:(cq v !=0)=true:=by simpa using hc
  have hr:R=(Vpc.zero,0,cq v):=by rw[hR.out];unfold jG;rw[if_pos hc]
  rw[hr];replace hr:=VZ hr;refine pj func111 ntmps111 results111 ?_;have z1z:=Ln.mk (ls:=[]) (ci);refine aF ?_<;>intros;exact dg
def Pm (b:Bok)(n:Net)(c:Cmd)(a:Ans):List D:=[.v (.int .i64 b.tick),.sl 9 (b.pools.map al),.sl 3 (n.vpcs.map aG),.sl 2 (n.links.map cA),.v (.int .i64 c.op),.v (.int .i64 c.a),.v (.int .i64 c.b),.v (.int .i64 c.c),.v (.int .i64 c.at_.at_),.v (.int .i64 c.at_.len),.v (.int .i64 c.rule.min),.v (.int .i64 c.rule.max),.v (.int .i64 c.rule.usual),.v (.int .i64 c.rule.cool),.v (.int .i64 a.err),.v (.int .i64 a.at_.at_),.v (.int .i64 a.at_.len),.v (.int .i64 a.n)]
theorem tZ (b:Bok)(n:Net)(c:Cmd)(a:Ans)(v:Vpc):ae prog 182 [.agg (aG v),.ept [.ept (Pm b n c a)]] (.v (.bool (v.id==c.a))):=by
 unfold Pm;refine pj func182 ntmps182 results182 ?_;exact bx
theorem FR (b:Bok)(n:Net)(c:Cmd)(h6:n.vpcs.length≤1000000000)(k:Nat)(hk:cY (fun v=>v.id==c.a) n.vpcs=k)(hlt:k < n.vpcs.length):
 MSpec prog 105 [.ptr 0 0] [.box 128 (f9 b (.own 1 n.vpcs.length) (.d (.sl 2 (n.links.map cA))) c .zero),.row 88 3 n.vpcs.length (aa (n.vpcs.map aG))] (.rp 1 n.vpcs.length 3 k 0)
  [.box 128 (f9 b (.own 1 n.vpcs.length) (.d (.sl 2 (n.links.map cA))) c .zero),.row 88 3 n.vpcs.length (aa (n.vpcs.map aG))]:=by
 have hx:=tK fM (fun v=>v.id==c.a) n.vpcs 182 [.ept [.ept (Pm b n c .zero)]] h6 (fun v _=>tZ b n c .zero v);unfold Pm at hx;rw[hk]at hx;clear hk;have e1:decide ((k:Int) < 0)=false:=by simp
 have g8:(k:Int) < (n.vpcs.length:Int):=by omega
 refine fP ah av func105 rfl ntmps105 results105 (by kernel_rfl) (by simp) (by simp[af,ag]) (by simp[ay,aH,af,ag,f9,aK,an]) ?_;refine aF ?_;exact wf
theorem Cs (b:Bok)(n:Net)(c:Cmd)(h6:n.vpcs.length≤1000000000)(hk:cY (fun v=>v.id==c.a) n.vpcs < 0):
 MSpec prog 105 [.ptr 0 0] [.box 128 (f9 b (.own 1 n.vpcs.length) (.d (.sl 2 (n.links.map cA))) c .zero),.row 88 3 n.vpcs.length (aa (n.vpcs.map aG))] (.d (.v (.pointer none)))
  [.box 128 (f9 b (.own 1 n.vpcs.length) (.d (.sl 2 (n.links.map cA))) c .zero),.row 88 3 n.vpcs.length (aa (n.vpcs.map aG))]:=by
 have hx:=tK fM (fun v=>v.id==c.a) n.vpcs 182 [.ept [.ept (Pm b n c .zero)]] h6 (fun v _=>tZ b n c .zero v);unfold Pm at hx;have e1:decide (cY (fun v=>v.id==c.a) n.vpcs < 0)=true:=by simpa using hk
 replace hk:=VZ hk;generalize cY (fun v=>v.id==c.a) n.vpcs=i at*;refine fP ah av func105 rfl ntmps105 results105 (by kernel_rfl) (by simp) (by simp[af,ag]) (by simp[ay,aH,af,ag,f9,aK,an]) ?_;refine aF ?_;exact wf
def lj (b:Bok)(n:Net)(c:Cmd)(i:Nat)(v:Vpc):Bok × Net × Ans:=
 if c.op=8 then
  if (eR b c.b c.c c.a).2.2=0 then ((eR b c.b c.c c.a).1,(lA n c.a ⟨(eR b c.b c.c c.a).2.1,c.b⟩).1,⟨(lA n c.a ⟨(eR b c.b c.c c.a).2.1,c.b⟩).2,(eR b c.b c.c c.a).2.1,0⟩)
  else ((eR b c.b c.c c.a).1,n,⟨(eR b c.b c.c c.a).2.2,(eR b c.b c.c c.a).2.1,0⟩)
 else if c.op=9 then
  if (fX v c.at_).2.2=0 then ((jb b (fX v c.at_).2.1.pool (fX v c.at_).2.1.at_).1,{n with vpcs:=n.vpcs.set i (fX v c.at_).1},.er (jb b (fX v c.at_).2.1.pool (fX v c.at_).2.1.at_).2)
  else (b,{n with vpcs:=n.vpcs.set i (fX v c.at_).1},.er (fX v c.at_).2.2)
 else if c.op=10 then (b,{n with vpcs:=n.vpcs.set i (u4 v c.b c.at_).1},.er (u4 v c.b c.at_).2)
 else if c.op=11 then (b,{n with vpcs:=n.vpcs.set i (hO v c.b).1},.er (hO v c.b).2)
 else if c.op=12 then (b,{n with vpcs:=n.vpcs.set i (kA v c.b c.c).1},⟨(kA v c.b c.c).2.2,⟨0,0⟩,(kA v c.b c.c).2.1⟩)
 else if c.op=13 then (b,{n with vpcs:=n.vpcs.set i (jG v c.b c.c).1},⟨(jG v c.b c.c).2.2,⟨0,0⟩,(jG v c.b c.c).2.1⟩)
 else (b,{n with vpcs:=n.vpcs.set i (fi v c.b c.c).1},.er (fi v c.b c.c).2)
def hS (b:Bok)(n:Net)(c:Cmd):Bok × Net × Ans:=
 if cY (fun v=>v.id==c.a) n.vpcs < 0 then (b,n,.er 5)else
 match n.vpcs[(cY (fun v=>v.id==c.a) n.vpcs).toNat]? with
 |some v=>lj b n c (cY (fun v=>v.id==c.a) n.vpcs).toNat v
 |none=>(b,n,.er 5)
theorem IP (b:Bok)(n:Net)(c:Cmd)(h6:n.vpcs.length≤1000000000)(hk:cY (fun v=>v.id==c.a) n.vpcs < 0):
 MSpec prog 53 [.ptr 0 0] [.box 128 (f9 b (.own 1 n.vpcs.length) (.d (.sl 2 (n.links.map cA))) c .zero),.row 88 3 n.vpcs.length (aa (n.vpcs.map aG))] (.d (.tup []))
  [.box 128 (f9 b (.d (.sl 3 (n.vpcs.map aG))) (.d (.sl 2 (n.links.map cA))) c (.er 5)),.gone]:=by
 have hw:=Lr.mk (ls:=[0,1]) (Cs b n c h6 hk);simp only[f9]at hw;clear hk h6;refine fP ah av func53 rfl ntmps53 results53 (by kernel_rfl) (by simp) (by simp[af,ag]) (by simp[ay,aH,af,ag,f9,aK,an]) ?_;refine aF ?_;refine(ax 1 n.vpcs.length 88 3 (n.vpcs.map aG) rfl).trans ?_;simp only[iJ,fz,f8,fI,g9,fL,aT,bO,bY,V1,V5,Ws,Wu,reduceIte,and_true,true_and,and_self,and_false,false_and,Wn,Wz,reduceCtorEq];exact wf
theorem IQ (b:Bok)(n:Net)(c:Cmd)(hz:∀p∈b.pools,p.leases.length≤3518437208882)(h6:n.vpcs.length≤1000000000)(k:Nat)(hk:cY (fun v=>v.id==c.a) n.vpcs=k)(v:Vpc)(hv:n.vpcs[k]? =some v)(ho:8≤c.op∧c.op≤14):
 MSpec prog 53 [.ptr 0 0] [.box 128 (f9 b (.own 1 n.vpcs.length) (.d (.sl 2 (n.links.map cA))) c .zero),.row 88 3 n.vpcs.length (aa (n.vpcs.map aG))] (.d (.tup []))
  [.box 128 (f9 (lj b n c k v).1 (.d (.sl 3 ((lj b n c k v).2.1.vpcs.map aG))) (.d (.sl 2 ((lj b n c k v).2.1.links.map cA))) c (lj b n c k v).2.2),.gone]:=by
 have hlt:=(V3.1 hv).1;have g8:(k:Int) < (n.vpcs.length:Int):=by omega
 have hw:=Lr.mk (ls:=[0,1]) (FR b n c h6 k hk hlt);simp only[f9]at hw;have jU:c.op=8∨c.op=9∨c.op=10∨c.op=11∨c.op=12∨c.op=13∨c.op=14:=by omega
 clear ho hk h6;unfold lj;rcases jU with h1|h1|h1|h1|h1|h1|h1
 ·rw[if_pos h1];have hp:=Il b c.b c.c c.a hz;generalize eR b c.b c.c c.a=R at*;replace hz:=VZ hz;rw[h1]at hw;by_cases h2:R.2.2=0
  ·rw[if_pos h2];have hg:=Ln.mk (ls:=[1]) (tb (Lq n c.a ⟨R.2.1,c.b⟩) (args:=[.agg [.own 0 n.vpcs.length,.d (.sl 2 (n.links.map cA))],.d (.v (.int .i64 c.a)),.d (.agg (cf ⟨R.2.1,c.b⟩))]) (h0:=[.row 88 3 n.vpcs.length (aa (n.vpcs.map aG))]) (by simp[af,ag]) (by simp[ay,aH,an]) (by simp[vw,bW,aO,aw,dF,fG]) (by simp[tc,gq,cn,aw,l9]));generalize lA n c.a ⟨R.2.1,c.b⟩=G at*;refine fP ah av func53 rfl ntmps53 results53 (by kernel_rfl) (by simp) (by simp[af,ag]) (by simp[ay,aH,af,ag,f9,aK,an]) ?_;refine aF ?_;exact wf
  ·rw[if_neg h2];have e2:(R.2.2==0)=false:=by simpa using h2
   replace h2:=VZ h2;refine fP ah av func53 rfl ntmps53 results53 (by kernel_rfl) (by simp) (by simp[af,ag]) (by simp[ay,aH,af,ag,f9,aK,an]) ?_;refine aF ?_;refine(ax 1 n.vpcs.length 88 3 (n.vpcs.map aG) rfl).trans ?_;simp only[iJ,fz,f8,fI,g9,fL,aT,bO,bY,V1,V5,Ws,Wu,reduceIte,and_true,true_and,and_self,and_false,false_and,Wn,Wz,reduceCtorEq];exact wf
 ·rw[if_neg (by omega),if_pos h1];have hp:=LC v c.at_;generalize fX v c.at_=R at*;have hg:=Im b R.2.1.pool R.2.1.at_ hz;replace hz:=VZ hz;rw[h1]at hw;by_cases h2:R.2.2=0
  ·rw[if_pos h2];generalize jb b R.2.1.pool R.2.1.at_=G at*;have bu:(aa (n.vpcs.map aG)).set k [.d (.v (.int .i64 R.1.id)),.d (.sl 3 (R.1.ranges.map cf)),.d (.sl 4 (R.1.subs.map bw))]=aa ((n.vpcs.set k R.1).map aG):=cB aG n.vpcs k R.1;refine fP ah av func53 rfl ntmps53 results53 (by kernel_rfl) (by simp) (by simp[af,ag]) (by simp[ay,aH,af,ag,f9,aK,an]) ?_;refine aF ?_;refine(ax 1 n.vpcs.length 88 3 ((n.vpcs.set k R.1).map aG) rfl).trans ?_;simp only[iJ,fz,f8,fI,g9,fL,aT,bO,bY,V1,V5,Ws,Wu,reduceIte,and_true,true_and,and_self,and_false,false_and,Wn,Wz,reduceCtorEq];exact wf
  ·rw[if_neg h2];have e2:(R.2.2==0)=false:=by simpa using h2
   replace h2:=VZ h2;clear hg;have bu:(aa (n.vpcs.map aG)).set k [.d (.v (.int .i64 R.1.id)),.d (.sl 3 (R.1.ranges.map cf)),.d (.sl 4 (R.1.subs.map bw))]=aa ((n.vpcs.set k R.1).map aG):=cB aG n.vpcs k R.1;refine fP ah av func53 rfl ntmps53 results53 (by kernel_rfl) (by simp) (by simp[af,ag]) (by simp[ay,aH,af,ag,f9,aK,an]) ?_;refine aF ?_;refine(ax 1 n.vpcs.length 88 3 ((n.vpcs.set k R.1).map aG) rfl).trans ?_;simp only[iJ,fz,f8,fI,g9,fL,aT,bO,bY,V1,V5,Ws,Wu,reduceIte,and_true,true_and,and_self,and_false,false_and,Wn,Wz,reduceCtorEq];exact wf
 ·rw[if_neg (by omega),if_neg (by omega),if_pos h1];have hp:=Od v c.b c.at_;generalize u4 v c.b c.at_=R at*;replace hz:=VZ hz;rw[h1]at hw;have bu:(aa (n.vpcs.map aG)).set k [.d (.v (.int .i64 R.1.id)),.d (.sl 3 (R.1.ranges.map cf)),.d (.sl 4 (R.1.subs.map bw))]=aa ((n.vpcs.set k R.1).map aG):=cB aG n.vpcs k R.1;refine fP ah av func53 rfl ntmps53 results53 (by kernel_rfl) (by simp) (by simp[af,ag]) (by simp[ay,aH,af,ag,f9,aK,an]) ?_;refine aF ?_;refine(ax 1 n.vpcs.length 88 3 ((n.vpcs.set k R.1).map aG) rfl).trans ?_;simp only[iJ,fz,f8,fI,g9,fL,aT,bO,bY,V1,V5,Ws,Wu,reduceIte,and_true,true_and,and_self,and_false,false_and,Wn,Wz,reduceCtorEq];exact wf
 ·rw[if_neg (by omega),if_neg (by omega),if_neg (by omega),if_pos h1];have hp:=LD v c.b;generalize hO v c.b=R at*;replace hz:=VZ hz;rw[h1]at hw;have bu:(aa (n.vpcs.map aG)).set k [.d (.v (.int .i64 R.1.id)),.d (.sl 3 (R.1.ranges.map cf)),.d (.sl 4 (R.1.subs.map bw))]=aa ((n.vpcs.set k R.1).map aG):=cB aG n.vpcs k R.1;refine fP ah av func53 rfl ntmps53 results53 (by kernel_rfl) (by simp) (by simp[af,ag]) (by simp[ay,aH,af,ag,f9,aK,an]) ?_;refine aF ?_;refine(ax 1 n.vpcs.length 88 3 ((n.vpcs.set k R.1).map aG) rfl).trans ?_;simp only[iJ,fz,f8,fI,g9,fL,aT,bO,bY,V1,V5,Ws,Wu,reduceIte,and_true,true_and,and_self,and_false,false_and,Wn,Wz,reduceCtorEq];exact wf
 ·rw[if_neg (by omega),if_neg (by omega),if_neg (by omega),if_neg (by omega),if_pos h1];have hp:=LG v c.b c.c;generalize kA v c.b c.c=R at*;replace hz:=VZ hz;rw[h1]at hw;have bu:(aa (n.vpcs.map aG)).set k [.d (.v (.int .i64 R.1.id)),.d (.sl 3 (R.1.ranges.map cf)),.d (.sl 4 (R.1.subs.map bw))]=aa ((n.vpcs.set k R.1).map aG):=cB aG n.vpcs k R.1;refine fP ah av func53 rfl ntmps53 results53 (by kernel_rfl) (by simp) (by simp[af,ag]) (by simp[ay,aH,af,ag,f9,aK,an]) ?_;refine aF ?_;refine(ax 1 n.vpcs.length 88 3 ((n.vpcs.set k R.1).map aG) rfl).trans ?_;simp only[iJ,fz,f8,fI,g9,fL,aT,bO,bY,V1,V5,Ws,Wu,reduceIte,and_true,true_and,and_self,and_false,false_and,Wn,Wz,reduceCtorEq];exact wf
 ·rw[if_neg (by omega),if_neg (by omega),if_neg (by omega),if_neg (by omega),if_neg (by omega),if_pos h1];have hp:=Oe v c.b c.c;generalize jG v c.b c.c=R at*;replace hz:=VZ hz;rw[h1]at hw;have bu:(aa (n.vpcs.map aG)).set k [.d (.v (.int .i64 R.1.id)),.d (.sl 3 (R.1.ranges.map cf)),.d (.sl 4 (R.1.subs.map bw))]=aa ((n.vpcs.set k R.1).map aG):=cB aG n.vpcs k R.1;refine fP ah av func53 rfl ntmps53 results53 (by kernel_rfl) (by simp) (by simp[af,ag]) (by simp[ay,aH,af,ag,f9,aK,an]) ?_;refine aF ?_;refine(ax 1 n.vpcs.length 88 3 ((n.vpcs.set k R.1).map aG) rfl).trans ?_;simp only[iJ,fz,f8,fI,g9,fL,aT,bO,bY,V1,V5,Ws,Wu,reduceIte,and_true,true_and,and_self,and_false,false_and,Wn,Wz,reduceCtorEq];exact wf
 ·rw[if_neg (by omega),if_neg (by omega),if_neg (by omega),if_neg (by omega),if_neg (by omega),if_neg (by omega)];have hp:=IN v c.b c.c;generalize fi v c.b c.c=R at*;replace hz:=VZ hz;rw[h1]at hw;have bu:(aa (n.vpcs.map aG)).set k [.d (.v (.int .i64 R.1.id)),.d (.sl 3 (R.1.ranges.map cf)),.d (.sl 4 (R.1.subs.map bw))]=aa ((n.vpcs.set k R.1).map aG):=cB aG n.vpcs k R.1;refine fP ah av func53 rfl ntmps53 results53 (by kernel_rfl) (by simp) (by simp[af,ag]) (by simp[ay,aH,af,ag,f9,aK,an]) ?_;refine aF ?_;refine(ax 1 n.vpcs.length 88 3 ((n.vpcs.set k R.1).map aG) rfl).trans ?_;simp only[iJ,fz,f8,fI,g9,fL,aT,bO,bY,V1,V5,Ws,Wu,reduceIte,and_true,true_and,and_self,and_false,false_and,Wn,Wz,reduceCtorEq];exact wf
theorem FT {α:Type}(p:α→Bool)(l:List α):cY p l < 0∨∃(k:Nat) (x:α),cY p l=k∧l[k]? =some x:=by
 unfold cY;cases h:l.findIdx? p with
 |none=>left;simp
 |some k=>
  right;have hk:=(WF.1 h).1;exact⟨k,_,rfl,VY hk⟩
theorem LH (b:Bok)(n:Net)(c:Cmd)(hz:∀p∈b.pools,p.leases.length≤3518437208882)(h6:n.vpcs.length≤1000000000)(ho:8≤c.op∧c.op≤14):
 MSpec prog 53 [.ptr 0 0] [.box 128 (f9 b (.own 1 n.vpcs.length) (.d (.sl 2 (n.links.map cA))) c .zero),.row 88 3 n.vpcs.length (aa (n.vpcs.map aG))] (.d (.tup []))
  [.box 128 (f9 (hS b n c).1 (.d (.sl 3 ((hS b n c).2.1.vpcs.map aG))) (.d (.sl 2 ((hS b n c).2.1.links.map cA))) c (hS b n c).2.2),.gone]:=by
 unfold hS;rcases FT (fun v:Vpc=>v.id==c.a) n.vpcs with h|⟨k,v,hk,hv⟩
 ·rw[if_pos h];exact IP b n c h6 h
 ·rw[hk,if_neg (by omega),Int.toNat_natCast,hv];exact IQ b n c hz h6 k hk v hv ho
def FU (s:Ste)(c:Cmd):Ste × Ans:=
 if 1≤c.op∧c.op≤6 then (⟨(nD s.book s.net.vpcs c).1,s.net⟩,(nD s.book s.net.vpcs c).2)
 else if Ap c=true then (⟨s.book,(xG s.book s.net c).1⟩,(xG s.book s.net c).2)
 else if 8≤c.op∧c.op≤14 then (⟨(hS s.book s.net c).1,(hS s.book s.net c).2.1⟩,(hS s.book s.net c).2.2)
 else (s,.er 4)
def wD (s:Ste)(c:Cmd):Ste × Ans × Int:=
 if ig s≠0 then (.zero,.zero,ig s)
 else if (FU s c).2.err≠0 then (s,.er (FU s c).2.err,0)else ((FU s c).1,(FU s c).2,0)
theorem t0 {s:Ste}(h:ig s=0):bD s.book=0∧dR s.net=0:=by
 unfold ig at h;split at h
 ·rename_i h1;exact absurd h h1
 ·rename_i h1;split at h
  ·rename_i h2;exact absurd h h2
  ·rename_i h2;exact⟨by simpa using h1,by simpa using h2⟩
theorem P5 (s:Ste)(c:Cmd)(hz:∀p∈s.book.pools,p.leases.length≤3518437208882):ae prog 24 [.agg (gO s),.agg (fl c)] (.tup [.agg (gO (wD s c).1),.agg (Ds (wD s c).2.1),.v (.int .i64 (wD s c).2.2)]):=by
 have hc:=Ae s hz;unfold wD;by_cases h:ig s=0
 ·rw[if_neg (by simpa using h)];rw[h]at hc;obtain⟨Eg,x5⟩:=t0 h;have JZ:=d7 Eg;have df:=ic.1 x5;have n8:=JZ.n8;have jK:=JZ.l32;have n6:=df.n6;have O5:∀v∈s.net.vpcs,v.ranges.length≤1000000000:=fun v hv=>by have:=(bt (df.vp v hv)).n4;omega
  have VN:=Ln.mk (ls:=[]) (N5 s JZ df);have cR:=Ln.mk (ls:=[10,9]) (N4 s.book s.net.vpcs s.net.links c hz n6 O5);clear h Eg x5 JZ df O5;unfold FU;by_cases jU:1≤c.op∧c.op≤6
  ·rw[if_pos jU];rw[decide_eq_true jU]at cR;replace jU:=VZ jU;replace hz:=VZ hz;replace jK:=VZ jK;generalize nD s.book s.net.vpcs c=X at*;simp only[f9,Ans.zero]at cR;by_cases he:X.2.err=0
   ·rw[if_neg (by simpa using he)];have e0:(X.2.err !=0)=false:=by simpa using he
    replace he:=VZ he;refine pj func24 ntmps24 results24 ?_;first|exact bx|(refine aF ?_;exact dz)
   ·rw[if_pos (by simpa using he)];have e0:(X.2.err !=0)=true:=by simpa using he
    replace he:=VZ he;refine pj func24 ntmps24 results24 ?_;first|exact bx|(refine aF ?_;exact dz)
  rw[if_neg jU];rw[decide_eq_false jU]at cR;have Mr:nD s.book s.net.vpcs c=(s.book,.zero):=by unfold nD;rw[if_neg (by omega),if_neg (by omega),if_neg (by omega),if_neg (by omega),if_neg (by omega),if_neg (by omega)]
  rw[Mr]at cR;clear Mr;cases Nl:Ap c with
  |true=>
   rw[if_pos rfl];have RM:=Ln.mk (ls:=[10,9]) (Oa s.book s.net c (by omega) (fun p hp=>by have:=jK p hp;omega) Nl);replace jU:=VZ jU;replace hz:=VZ hz;replace jK:=VZ jK;replace Nl:=VZ Nl;generalize xG s.book s.net c=X at*;simp only[f9,Ans.zero]at cR RM;by_cases he:X.2.err=0
   ·rw[if_neg (by simpa using he)];have e0:(X.2.err !=0)=false:=by simpa using he
    replace he:=VZ he;refine pj func24 ntmps24 results24 ?_;first|exact bx|(refine aF ?_;exact dz)
   ·rw[if_pos (by simpa using he)];have e0:(X.2.err !=0)=true:=by simpa using he
    replace he:=VZ he;refine pj func24 ntmps24 results24 ?_;first|exact bx|(refine aF ?_;exact dz)
  |false=>
   rw[if_neg Bool.false_ne_true];have RM:=Ln.mk (ls:=[10,9]) (N9 s.book s.net c Nl);by_cases Ju:8≤c.op∧c.op≤14
   ·rw[if_pos Ju];have g7:=Ln.mk (ls:=[10,9]) (LH s.book s.net c hz (by omega) Ju);have e1:decide (c.op < 8)=false:=by simp;omega
    have e2:decide (c.op>14)=false:=by simp;omega
    replace jU:=VZ jU;replace hz:=VZ hz;replace jK:=VZ jK;replace Nl:=VZ Nl;replace Ju:=VZ Ju;generalize hS s.book s.net c=X at*;simp only[f9,Ans.zero]at cR RM g7;by_cases he:X.2.2.err=0
    ·rw[if_neg (by simpa using he)];have e0:(X.2.2.err !=0)=false:=by simpa using he
     replace he:=VZ he;refine pj func24 ntmps24 results24 ?_;first|exact bx|(refine aF ?_;exact dz)
    ·rw[if_pos (by simpa using he)];have e0:(X.2.2.err !=0)=true:=by simpa using he
     replace he:=VZ he;refine pj func24 ntmps24 results24 ?_;first|exact bx|(refine aF ?_;exact dz)
   ·rw[if_neg Ju];rw[if_pos (by simp[Ans.er])];replace hz:=VZ hz;replace jK:=VZ jK;replace Nl:=VZ Nl;replace jU:=VZ jU;simp only[f9,Ans.zero]at cR RM;by_cases h8:c.op < 8
    ·have e1:decide (c.op < 8)=true:=by simpa using h8
     replace h8:=VZ h8;replace Ju:=VZ Ju;refine pj func24 ntmps24 results24 ?_;first|exact bx|(refine aF ?_;exact dz)
    ·have e1:decide (c.op < 8)=false:=by simpa using h8
     have e2:decide (c.op>14)=true:=by simp;omega
     replace h8:=VZ h8;replace Ju:=VZ Ju;refine pj func24 ntmps24 results24 ?_;first|exact bx|(refine aF ?_;exact dz)
 ·rw[if_pos h];have e1:(ig s !=0)=true:=by simpa using h
  generalize ig s=X at*;replace h:=VZ h;refine pj func24 ntmps24 results24 ?_;refine aF ?_;exact dz
theorem Bok.zero_le:au (.agg [.v (.int .i64 0),.v (.slice none 0 0)]) (.agg (bC Bok.zero)):=dg
@[go_sem] def Lse.zero:Lse:=⟨Pfx.zero,0,0,0⟩
def jh (b:Bok):Prop:=b.pools.length≤1000000000∧∀p∈b.pools,p.leases.length≤1000000000
theorem As (b:Bok)(hs:jh b):ae prog 28 [.agg (bC b),.agg (bC b)] (.v (.bool true)):=by
 have hl:=hs.1;refine pj func28 ntmps28 results28 ?_;refine aF ?_<;>intros;refine bP ah av b.pools (fun _=>True) (fun k=>[(5,.d (.v (.int .i64 k))),(4,.d (.v (.bool false))),(3,.ptr 1 0),(2,.ptr 0 0)]) (fun _=>[.box 30 ((bC b).map .d),.box 30 ((bC b).map .d)]) trivial (wf) ?_ ?_
 ·intro k p hp hk _ C hC;have g8:(k:Int) < (b.pools.length:Int):=by omega
  have ed:=wi k (by omega);have lG:=hs.2 p (V0 hp);refine aF ?_<;>intros;refine bP ah av p.leases (fun _=>True) (fun j=>[(8,.d (.v (.int .i64 j))),(7,.ptr 3 0),(6,.ptr 2 0),(5,.d (.v (.int .i64 k))),(4,.d (.v (.bool false))),(3,.ptr 1 0),(2,.ptr 0 0)]) (fun _=>[.box 30 ((bC b).map .d),.box 30 ((bC b).map .d),.box 83 ((al p).map .d),.box 83 ((al p).map .d)]) trivial (wf) ?_ ?_
  ·intro j l Gf hj _ C hC;have oF:(j:Int) < (p.leases.length:Int):=by omega
   have Bc:=wi j (by omega);refine aF ?_<;>intros;exact hC _ _ trivial (wf)
  ·intro _ C;refine aF ?_<;>intros;exact hC _ _ trivial (wf)
 ·intro _ C;exact bx
@[go_sem] def IR:Rul:=⟨8,16,12,3⟩
theorem LI:ae prog 56 [] (.agg (zi IR)):=by
 refine pj func56 ntmps56 results56 ?_;exact bx
theorem br:jh Bok.zero:=⟨Wr _,fun p hp=>by simp[Bok.zero]at hp⟩
theorem kB {b:Bok}(h:BookOK b):b.pools.length≤8∧∀p∈b.pools,p.leases.length≤32:=⟨h.n8,h.l32⟩
theorem At (p:Pol)(ps:List Pol):(rM p ps).length=ps.length+1:=by
 have:=r9 (fun x:Pol=>x.id) p.id ps;unfold rM;simp;omega
theorem Au {p q:Pol}{ps:List Pol}(h:q∈rM p ps):q=p∨q∈ps:=by
 unfold rM at h;simp only[WJ,WI]at h;rcases h with h|h|h
 ·exact .inr (WN h)
 ·exact .inl h
 ·exact .inr (WL h)
theorem Av (l:Lse)(ls:List Lse):(oh l ls).length=ls.length+1:=by
 have:=r9 (fun x:Lse=>x.at_.at_) l.at_.at_ ls;unfold oh;simp;omega
theorem wE (p:Pol)(i:Nat)(t:Int):(ja p i t).length≤p.leases.length:=by
 unfold ja;split
 ·rw[YJ];split<;>omega
 ·split
  ·rw[YB];exact Wa _
  ·exact Wa _
theorem ll {b:Bok}{id:Int}{f:Pol→Pol}(h:b.pools.length≤8)(h2:∀p∈b.pools,p.leases.length≤32∧(f p).leases.length≤33):(rN b id f).pools.length≤8∧∀p∈(rN b id f).pools,p.leases.length≤33:=by
 unfold rN;refine⟨by simpa using h,fun p hp=>?_⟩;obtain⟨q,hq,rfl⟩:=Wp.1 hp;split
 ·exact(h2 q hq).2
 ·have:=(h2 q hq).1;omega
theorem wF {b:Bok}{id:Int}{f:Pol→Pol}(h:(rN b id f).pools.length≤8∧∀p∈(rN b id f).pools,p.leases.length≤33):jh (rN b id f):=⟨by have:=h.1;omega,fun q hq=>by have:=h.2 q hq;omega⟩
theorem FV {b:Bok}{t:Int}{p:Pol}(h:b.pools.length≤8∧∀p∈b.pools,p.leases.length≤33)(hp:p.leases=[]):jh ⟨t,rM p b.pools⟩:=⟨by simp only[At];omega,fun q hq=>by
 rcases Au hq with rfl|hq
 ·rw[hp];exact Wr _
 ·have:=h.2 q hq;omega⟩
theorem Aw (b:Bok)(id:Int)(root:Pfx)(r:Rul):jh (gX b id root r).1:=by
 unfold gX;split
 ·exact br
 ·rename_i hc;have hk:=kB (d7 (by simpa using hc));split
  ·exact br
  ·refine⟨by simp only[At];omega,fun p hp=>?_⟩;rcases Au hp with rfl|hp
   ·exact Wr _
   ·have:=hk.2 p hp;omega
theorem Ax (b:Bok)(id up size:Int)(r:Rul):jh (jE b id up size r).1:=by
 unfold jE;split
 ·exact br
 ·rename_i hc;have hk:=kB (d7 (by simpa using hc));split
  ·exact br
  ·split
   ·exact br
   ·split
    ·exact br
    ·split
     ·exact br
     ·split
      ·exact br
      ·split
       ·exact br
       ·exact FV (ll hk.1 (fun q hq=>⟨hk.2 q hq,by simp only[Av];have:=hk.2 q hq;omega⟩)) rfl
theorem rn (b:Bok)(id size owner:Int):jh (eR b id size owner).1:=by
 unfold eR;split
 ·exact br
 ·rename_i hc;have hk:=kB (d7 (by simpa using hc));split
  ·exact br
  ·split
   ·exact br
   ·rename_i p _ _;generalize cP p (if size=0 then p.rule.usual else size)=F;simp only;split
    ·exact br
    ·exact wF (ll hk.1 (fun q hq=>⟨hk.2 q hq,by simp only[Av];have:=hk.2 q hq;omega⟩))
theorem ro (b:Bok)(id:Int)(at_:Pfx):jh (jb b id at_).1:=by
 unfold jb;split
 ·exact br
 ·rename_i hc;have hk:=kB (d7 (by simpa using hc));split
  ·exact br
  ·split
   ·exact br
   ·rename_i i _;exact wF (ll hk.1 (fun q hq=>⟨hk.2 q hq,by have:=hk.2 q hq;have:=wE q i b.tick;simp only;omega⟩))
theorem xI (b:Bok)(id:Int):jh (jc b id).1:=by
 unfold jc;split
 ·exact br
 ·rename_i hc;have hk:=kB (d7 (by simpa using hc));split
  ·exact br
  ·split
   ·exact br
   ·rename_i p _ _;have gh:(jQ b p).length≤8∧∀q∈jQ b p,q.leases.length≤33:=by
     unfold jQ;split
     ·exact⟨hk.1,fun q hq=>by have:=hk.2 q hq;omega⟩
     ·split
      ·rename_i u _ _ i _;exact ll (b:=b) (id:=u.id) (f:=fun q=>{q with leases:=ja q i b.tick}) hk.1 (fun q hq=>⟨hk.2 q hq,by have:=hk.2 q hq;have:=wE q i b.tick;simp only;omega⟩)
      ·exact⟨hk.1,fun q hq=>by have:=hk.2 q hq;omega⟩
    exact⟨by have:=List.length_filter_le (fun q:Pol=>!(q.id==id)) (jQ b p);simp only;omega,fun q hq=>by have:=gh.2 q (List.mem_filter.1 hq).1;omega⟩
theorem Ay (b:Bok)(n:Int):jh (nC b n).1:=by
 unfold nC;split
 ·exact br
 ·rename_i hc;have hk:=kB (d7 (by simpa using hc));split
  ·exact br
  ·refine⟨by simp only[Wg];omega,fun q hq=>?_⟩;obtain⟨p,hp,rfl⟩:=Wp.1 hq;have:=hk.2 p hp;have:=List.length_filter_le (fun l=>!pu (b.tick+n) l) p.leases;simp only[en];omega
def Ct (s:Sbn):Prop:=s.faces.length≤1000000000∧∀f∈s.faces,f.addrs.length≤1000000000
def lm (v:Vpc):Prop:=v.ranges.length≤1000000000∧v.subs.length≤1000000000∧∀s∈v.subs,Ct s
theorem aY:lm Vpc.zero:=⟨Wr _,Wr _,fun s h=>by simp[Vpc.zero]at h⟩
theorem m7 {v:Vpc}(h:VpcOK v):∀s∈v.subs,Ct s:=fun s hs=>⟨by have:=(h.n8 s hs).1;omega,fun f hf=>by have:=(h.n8 s hs).2 f hf;omega⟩
theorem ow {v:Vpc}(h:VpcOK v){i:Nat}{s:Sbn}(hs:Ct s):lm {v with subs:=v.subs.set i s}:=⟨by have:=h.n4;show v.ranges.length≤_;omega,by have:=h.n6;show (v.subs.set i s).length≤_;rw[YB];omega,fun t ht=>by
 rcases Xw ht with ht|rfl
 ·exact m7 h t ht
 ·exact hs⟩
theorem Az (v:Vpc)(p:Pfx):lm (fX v p).1:=by
 unfold fX;split
 ·exact aY
 ·rename_i hc;have hk:=bt (by simpa using hc);split
  ·exact aY
  ·split
   ·exact aY
   ·exact⟨by have:=hk.n4;show (v.ranges.eraseIdx _).length≤_;rw[YJ];split<;>omega,by have:=hk.n6;show v.subs.length≤_;omega,fun s hs=>m7 hk s hs⟩
theorem Cu (v:Vpc)(id:Int)(p:Pfx):lm (u4 v id p).1:=by
 unfold u4;split
 ·exact aY
 ·rename_i hc;have hk:=bt (by simpa using hc);split
  ·exact aY
  ·refine⟨by have:=hk.n4;show v.ranges.length≤_;omega,by have:=hk.n6;show (eo _ _ v.subs).length≤_;rw[fT];omega,fun s hs=>?_⟩;rcases kl.1 hs with rfl|hs
   ·exact⟨Wr _,fun f hf=>by simp at hf⟩
   ·exact m7 hk s hs
theorem xJ (v:Vpc)(id:Int):lm (hO v id).1:=by
 unfold hO;split
 ·exact aY
 ·rename_i hc;have hk:=bt (by simpa using hc);split
  ·exact aY
  ·split
   ·exact aY
   ·exact⟨by have:=hk.n4;show v.ranges.length≤_;omega,by have:=hk.n6;show (v.subs.eraseIdx _).length≤_;rw[YJ];split<;>omega,fun s hs=>m7 hk s (List.mem_of_mem_eraseIdx hs)⟩
theorem AA (v:Vpc)(sub id:Int):lm (kA v sub id).1:=by
 unfold kA;split
 ·exact aY
 ·rename_i hc;have hk:=bt (by simpa using hc);split
  ·exact aY
  ·split
   ·exact aY
   ·rename_i s hs;have h8:=hk.n8 s (V0 hs);split
    ·exact aY
    ·refine ow hk ⟨by show (eo _ _ s.faces).length≤_;rw[fT];omega,fun f hf=>?_⟩;rcases kl.1 hf with rfl|hf
     ·show 1≤1000000000;omega
     ·have:=h8.2 f hf;omega
theorem u7 (v:Vpc)(sub id:Int):lm (fi v sub id).1:=by
 unfold fi;split
 ·exact aY
 ·rename_i hc;have hk:=bt (by simpa using hc);split
  ·exact aY
  ·split
   ·exact aY
   ·rename_i s hs;have h8:=hk.n8 s (V0 hs);split
    ·exact aY
    ·exact ow hk ⟨by show (s.faces.eraseIdx _).length≤_;rw[YJ];split<;>omega,fun f hf=>by have:=h8.2 f (List.mem_of_mem_eraseIdx hf);omega⟩
theorem AB (v:Vpc)(sub id:Int):lm (jG v sub id).1:=by
 unfold jG;split
 ·exact aY
 ·rename_i hc;have hk:=bt (by simpa using hc);split
  ·exact aY
  ·split
   ·exact aY
   ·rename_i s hs;have h8:=hk.n8 s (V0 hs);split
    ·exact aY
    ·split
     ·exact aY
     ·rename_i f hf;have iN:=h8.2 f (V0 hf);split
      ·exact aY
      ·split
       ·exact aY
       ·refine ow hk ⟨by show (s.faces.set _ _).length≤_;rw[YB];omega,fun g hg=>?_⟩;rcases Xw hg with hg|rfl
        ·have:=h8.2 g hg;omega
        ·show (eo _ _ f.addrs).length≤_;rw[fT];omega
section
variable (lk:Nat→Nat→Bool)
end
def Tz (L:List Lnk):Int→Int:=L.foldl DL (fun x=>x)
@[go_sem] def MO (b:Bool):List D:=[.v (.bool b)]
@[go_sem] theorem Ru (n:Nat)(b:Bool):Wy n [PV.d (.v (.bool b))]=aa ((Wy n b).map MO):=by simp[aa,MO,List.map_replicate]
def R0 (n:Net):Prop:=∀v∈n.vpcs,v.subs.length≤9223372036854775807∧∀s∈v.subs,s.faces.length≤9223372036854775807
def R3:List (List D)→List (List D)→Prop
 |[],[]=>True
 |r::l,s::m=>qa r s∧R3 l m
 |_,_=>False
theorem IS:∀{l m:List (List D)},R3 l m→l.length=m.length∧∀(j:Nat) (a b:List D),l[j]? =some a→m[j]? =some b→qa a b
 |[],[],_=>⟨rfl,fun j a b h=>by simp at h⟩
 |[],_::_,h=>h.elim
 |_::_,[],h=>h.elim
 |r::l,s::m,⟨h1,h2⟩=>by
  obtain⟨q1,q2⟩:=IS h2;refine⟨by simp[q1],fun j a b ha hb=>?_⟩;cases j with
  |zero=>simp at ha hb;subst ha;subst hb;exact h1
  |succ j=>exact q2 j a b (by simpa using ha) (by simpa using hb)
theorem au.sl {sz:Nat}{l m:List (List D)}(h:R3 l m)(h1:∀r∈m,∀d∈r,d.one=true):au (.sl sz l) (.sl sz m):=fun M w v hr=>by
 obtain⟨q1,q2⟩:=IS h;cases hr with
 |nil _ ao cap hm=>
  have:m=[]:=WA (by rw[←q1];rfl);subst this;exact .nil sz ao cap hm
 |sl _ rows b off cap f hM hb hc hm hr _ bE aV=>
  rw[q1];have row:∀(i:Nat) (s:List D),m[i]? =some s→∃r,l[i]? =some r∧qa r s:=fun i s hs=>by
   obtain⟨hlt,-⟩:=V3.1 hs;exact⟨l[i]'(by omega),VY (by omega),q2 i _ s (VY (by omega)) hs⟩
  refine .sl sz m b off cap f hM hb (by omega) hm (fun s hs=>?_) h1 (fun i j hi hj=>bE i j (by omega) hj) (fun i j s d hs hd=>?_)
  ·obtain⟨i,hi,rfl⟩:=W9.1 hs;obtain⟨r,e1,e2⟩:=row i _ (VY hi);rw[←(rZ e2).1];exact hr r (V0 e1)
  ·obtain⟨r,e1,e2⟩:=row i s hs;obtain⟨p1,p2⟩:=rZ e2;obtain⟨hlt,-⟩:=V3.1 hd;exact p2 j _ d (VY (by omega)) hd M w _ (aV i j r _ e1 (VY (by omega)))
theorem IT {v:Vpc}(h:VpcOK v):cq v=0:=by
 rw[MG];refine⟨?_,?_,h.ar,h.as_⟩
 ·simp only[pa,Yr,decide_eq_false_iff_not,Xu];refine⟨by have:=h.n4;omega,by have:=h.n6;omega,fun s hs=>?_⟩;have h8:=h.n8 s hs;simp only[wd,Bool.not_eq_true,Yr,decide_eq_false_iff_not,Xu];refine⟨by omega,fun f hf=>?_⟩;have:=h8.2 f hf;simp[wc];omega
 ·unfold we;simp only[Wd,Wx,gy];exact⟨⟨h.id,h.rr,h.rs⟩,h.ranges,h.subs⟩
theorem FW {v:Vpc}{r:Rng}(h:(cU v r).2=0):cq (cU v r).1=0:=by
 unfold cU at h ⊢;by_cases h1:cq v≠0
 ·rw[if_pos h1]at h;exact absurd h h1
 rw[if_neg h1]at h ⊢;have hk:=bt (by simpa using h1);by_cases h2:mr v r≠0
 ·rw[if_pos h2]at h;exact absurd h h2
 rw[if_neg h2]at h ⊢;have h3:mr v r=0:=by simpa using h2
 obtain⟨g1,g2,g3,g4⟩:du r.pool=true∧chk r.at_.at_ r.at_.len=0∧(v.ranges.any fun q=>q.at_.meets r.at_)=false∧v.ranges.length≠4:=by
  unfold mr at h3;generalize (v.ranges.any fun q=>q.at_.meets r.at_)=M at*;generalize du r.pool=I at*;grind
 have sg:r.at_.right=true:=by simp[Pfx.right,bQ,g2]
 have df:∀q∈v.ranges,q.at_.meets r.at_=false:=fun q hq=>by simpa using Xu.1 g3 q hq
 have bq:∀q∈v.ranges,q.at_.at_≠r.at_.at_:=fun q hq=>zR (kW (hk.ranges q hq)) sg (df q hq);refine IT ⟨?_,hk.n6,hk.n8,hk.id,eE hk.rr bq,hk.rs,fun q hq=>?_,fun s hs=>?_,?_,hk.as_⟩
 ·simp only[fT];have:=hk.n4;omega
 ·rcases kl.1 hq with rfl|hq
  ·simp[eU,g1,g2]
  ·exact hk.ranges q hq
 ·have h4:=hk.subs s hs;unfold n7 at h4 ⊢;simp only[Wd]at h4 ⊢;refine⟨h4.1,?_,h4.2.2⟩;have h5:=h4.2.1;unfold fS at h5 ⊢;obtain⟨q,hq,h6⟩:=XK.1 h5;exact XK.2 ⟨q,kl.2 (.inr hq),h6⟩
 ·rw[zT];have hp:((eo (fun x:Rng=>x.at_.at_) r v.ranges).map (·.at_)).Perm (r.at_::v.ranges.map (·.at_)):=by
   refine((eM (fun x:Rng=>x.at_.at_) r v.ranges).map (·.at_)).trans ?_;rw[V6];exact List.perm_append_singleton _ _
  refine(List.Perm.pairwise_iff (R:=fun a b:Pfx=>b.meets a=false) (fun {a b} nf=>by rw[BX];exact nf) hp).2 ?_;rw[Xz];refine⟨fun a ha=>?_,zT.1 hk.ar⟩;obtain⟨q,hq,rfl⟩:=Wp.1 ha;exact df q hq
theorem FX {n:Net}(cr:NetOK n){i:Nat}{v:Vpc}(hv:n.vpcs[i]? =some v){r:Rng}(hg:(cU v r).2=0):(dR {n with vpcs:=n.vpcs.set i (cU v r).1}=0↔d4 {n with vpcs:=n.vpcs.set i (cU v r).1}=true)∧R0 {n with vpcs:=n.vpcs.set i (cU v r).1}:=by
 have J1:=cr.vp v (V0 hv);have JW:=Am hg;have bn:cq (cU v r).1=0:=FW hg;obtain⟨hi,VO⟩:=V3.1 hv;have Ri:(n.vpcs.set i (cU v r).1).map (·.id)=n.vpcs.map (·.id):=by
  rw[List.map_set,JW.1];apply WS;intro j;rw[List.getElem?_set];split
  ·rename_i hj;subst hj;rw[Wg,if_pos hi,V7,hv];rfl
  ·rfl
 generalize (cU v r).1=w at*;have Pv:∀u∈n.vpcs.set i w,cq u=0:=fun u hu=>by
  rcases Xw hu with hu|rfl
  ·exact cr.vp u hu
  ·exact bn
 have Rz:(n.vpcs.set i w).Pairwise fun a b=>a.id < b.id:=by
  have h1:=cr.rise;rw[←YF (f:=fun v:Vpc=>v.id) (R:=fun a b:Int=>a < b)]at h1 ⊢;rw[Ri];exact h1
 have J0:∀x,(d9 {n with vpcs:=n.vpcs.set i w} x).isSome=(d9 n x).isSome:=fun x=>by
  have key:∀l:List Vpc,(l.find? fun v=>v.id==x).isSome=decide (x∈l.map (·.id)):=fun l=>by
   induction l with
   |nil=>simp
   |cons a l ih=>
    rw[List.find?_cons];split
    ·rename_i h;simp at h;simp[h]
    ·rename_i h;rw[ih];simp at h;simp;exact fun e=>absurd e.symm h
  unfold d9;simp only;rw[key,key,Ri]
 have rD:∀l∈n.links,n9 {n with vpcs:=n.vpcs.set i w} l=true:=fun l hl=>by
  have:=cr.lk l hl;unfold n9 at this ⊢;rw[J0,J0];exact this
 refine⟨⟨fun h=>(ic.1 h).pe,fun h=>ic.2 ⟨by simp;exact cr.n6,cr.n12,Pv,Rz,rD,cr.rk,h⟩⟩,fun u hu=>?_⟩;have:=bt (Pv u hu);exact⟨by have:=this.n6;omega,fun s hs=>by have:=(this.n8 s hs).1;omega⟩
theorem t5 {α:Type}{l m:List α}{k:Nat}{x y:α}(hx:l[k]? =some x)(hy:m[k]? =some y)(h:l.take k=m.take k)(e:x=y):l.take (k+1)=m.take (k+1):=by rw[aj hx,aj hy,h,e]
theorem t6 {α:Type}{l m:List α}(hl:l.length=m.length)(h:l.take l.length=m.take l.length):l=m:=by
 rw[V4,hl,V4]at h;exact h
theorem Cv (v w:Vpc)(pF:v.ranges.length≤1000000000)(Js:v.subs.length≤1000000000)(Pq:∀s∈v.subs,s.faces.length≤1000000000∧∀f∈s.faces,f.addrs.length≤1000000000)(lF:∀s∈w.subs,∀f∈s.faces,f.addrs.length≤1000000000):ae prog 57 [.agg (aG v),.agg (aG w)] (.v (.bool (decide (v=w)))):=by
 obtain⟨R,hR⟩:∃R,R=decide (v=w):=⟨_,rfl⟩;rw[←hR];replace hR:=VZ hR;have df:v≠w→R=false:=fun h=>by rw[hR.out];exact decide_eq_false h
 replace df:=VZ df;replace Pq:=VZ Pq;replace lF:=VZ lF;by_cases c1:v.id=w.id∧v.ranges.length=w.ranges.length∧v.subs.length=w.subs.length
 ·obtain⟨e1,e2,e3⟩:=c1;have d1:(v.id !=w.id)=false:=by simp[e1]
  have d2:((v.ranges.length:Int) !=(w.ranges.length:Int))=false:=by simp[e2]
  have d3:((v.subs.length:Int) !=(w.subs.length:Int))=false:=by simp[e3]
  replace e1:=VZ e1;replace e2:=VZ e2;replace e3:=VZ e3;refine pj func57 ntmps57 results57 ?_;refine aF ?_<;>intros;refine bP ah av v.ranges (fun k=>v.ranges.take k=w.ranges.take k) (fun k=>[(5,.d (.v (.int .i64 k))),(4,.d (.v (.bool false))),(3,.ptr 1 0),(2,.ptr 0 0)]) (fun _=>[.box 88 ((aG v).map .d),.box 88 ((aG w).map .d)]) rfl (wf) ?_ ?_
  ·intro k x hx hk hI C hC;have g8:(k:Int) < (v.ranges.length:Int):=by omega
   have ed:=wi k (by omega);obtain⟨y,hy⟩:∃y,w.ranges[k]? =some y:=⟨_,VY (by rw[←e2.out];exact hk)⟩;replace hI:=VZ hI;have he:=Ah x y;by_cases h1:x=y
   ·have A6:=VZ (t5 hx hy hI.out h1);rw[decide_eq_true h1]at he;replace h1:=VZ h1;have z1z:=@bne.eq_1 (List Int) _;have z2z:=@bne.eq_1 Int _;refine aF ?_<;>intros;exact hC _ _ A6.out (wf)
   ·have hb:R=false:=df.out (fun e=>h1 (by subst e;rw[hx]at hy;exact WD.inj hy));rw[decide_eq_false h1]at he;rw[hb];replace hb:=VZ hb;replace h1:=VZ h1;have z1z:=@bne.eq_1 (List Int) _;have z2z:=@bne.eq_1 Int _;exact bx;all_goals exact au.refl _
  ·intro hI C;have sg:=VZ (t6 e2.out hI);replace hI:=VZ hI;refine aF ?_<;>intros;clear hI;refine bP ah av v.subs (fun k=>v.subs.take k=w.subs.take k) (fun k=>[(6,.d (.v (.int .i64 k))),(4,.d (.v (.bool false))),(3,.ptr 1 0),(2,.ptr 0 0)]) (fun _=>[.box 88 ((aG v).map .d),.box 88 ((aG w).map .d)]) rfl (wf) ?_ ?_
   ·intro k x hx hk hI C hC;have g8:(k:Int) < (v.subs.length:Int):=by omega
    have ed:=wi k (by omega);obtain⟨y,hy⟩:∃y,w.subs[k]? =some y:=⟨_,VY (by rw[←e3.out];exact hk)⟩;have Mc:=Pq.out x (V0 hx);have pI:=lF.out y (V0 hy);have Vv:=Mc.1;have Tl:=VZ Mc.2;clear Mc;replace pI:=VZ pI;have cD:x≠y→R=false:=fun h=>df.out (fun e=>h (by subst e;rw[hx]at hy;exact WD.inj hy));replace cD:=VZ cD;replace hI:=VZ hI;have he:=Aj x.at_ y.at_;by_cases c2:x.id=y.id∧x.at_=y.at_∧x.faces.length=y.faces.length
    ·obtain⟨f1,f2,f3⟩:=c2;have g1:(x.id==y.id)=true:=by simp[f1]
     have g3:((x.faces.length:Int)==(y.faces.length:Int))=true:=by simp[f3]
     rw[decide_eq_true f2]at he;replace f1:=VZ f1;replace f2:=VZ f2;replace f3:=VZ f3;have z1z:=@bne.eq_1 (List Int) _;have z2z:=@bne.eq_1 Int _;refine aF ?_<;>intros;refine bP ah av x.faces (fun j=>x.faces.take j=y.faces.take j) (fun j=>[(9,.d (.v (.int .i64 j))),(8,.ptr 3 0),(7,.ptr 2 0),(6,.d (.v (.int .i64 k))),(4,.d (.v (.bool false))),(3,.ptr 1 0),(2,.ptr 0 0)]) (fun _=>[.box 88 ((aG v).map .d),.box 88 ((aG w).map .d),.box 107 ((bw x).map .d),.box 107 ((bw y).map .d)]) rfl (wf) ?_ ?_
     ·intro j f hf hj hJ C2 vm;have oF:(j:Int) < (x.faces.length:Int):=by omega
      have Bc:=wi j (by omega);obtain⟨g,hg⟩:∃g,y.faces[j]? =some g:=⟨_,VY (by rw[←f3.out];exact hj)⟩;have Bm:=Cl f.addrs g.addrs (Tl.out f (V0 hf)) (pI.out g (V0 hg));have RN:f≠g→R=false:=fun h=>cD.out (fun e=>h (by subst e;rw[hf]at hg;exact WD.inj hg));replace RN:=VZ RN;replace hJ:=VZ hJ;by_cases i1:f.id=g.id
      ·have n1:(f.id==g.id)=true:=by simp[i1]
       by_cases i2:f.addrs=g.addrs
       ·rw[decide_eq_true i2]at Bm;have Tm:f=g:=by cases f;cases g;simp at i1 i2;rw[i1,i2]
        have Vw:=VZ (t5 hf hg hJ.out Tm);replace Tm:=VZ Tm;replace i1:=VZ i1;replace i2:=VZ i2;have z1z:=@bne.eq_1 (List Int) _;have z2z:=@bne.eq_1 Int _;refine aF ?_<;>intros;exact vm _ _ Vw.out (wf)
       ·rw[decide_eq_false i2]at Bm;have hb:R=false:=RN.out (fun e=>i2 (by rw[e]));rw[hb];replace hb:=VZ hb;replace i1:=VZ i1;replace i2:=VZ i2;have z1z:=@bne.eq_1 (List Int) _;have z2z:=@bne.eq_1 Int _;exact bx;all_goals exact au.refl _
      ·have n1:(f.id==g.id)=false:=by simpa using i1
       have hb:R=false:=RN.out (fun e=>i1 (by rw[e]));rw[hb];replace hb:=VZ hb;replace i1:=VZ i1;have z1z:=@bne.eq_1 (List Int) _;have z2z:=@bne.eq_1 Int _;exact bx;all_goals exact au.refl _
     ·intro hJ C2;have RO:=t6 f3.out hJ;have Tn:x=y:=by
       have h1:=f1.out;have h2:=f2.out;cases x;cases y;simp at h1 h2 RO;rw[h1,h2,RO]
      have A6:=VZ (t5 hx hy hI.out Tn);replace hJ:=VZ hJ;replace RO:=VZ RO;replace Tn:=VZ Tn;refine aF ?_<;>intros;exact hC _ _ A6.out (wf)
    ·have hb:R=false:=cD.out (fun e=>c2 ⟨by rw[e],by rw[e],by rw[e]⟩);rw[hb];replace hb:=VZ hb;rw[Decidable.not_and_iff_or_not,Decidable.not_and_iff_or_not]at c2;rcases c2 with c2|c2|c2
     ·have g1:(x.id==y.id)=false:=by simpa using c2
      replace c2:=VZ c2;have z1z:=@bne.eq_1 (List Int) _;have z2z:=@bne.eq_1 Int _;exact bx;all_goals exact au.refl _
     ·rw[decide_eq_false c2]at he;replace c2:=VZ c2;have z1z:=@bne.eq_1 (List Int) _;have z2z:=@bne.eq_1 Int _;exact bx;all_goals exact au.refl _
     ·have g3:((x.faces.length:Int)==(y.faces.length:Int))=false:=by simp;omega
      replace c2:=VZ c2;cases hd:decide (x.at_=y.at_);all_goals
       rw[hd]at he;replace hd:=VZ hd;have z1z:=@bne.eq_1 (List Int) _;have z2z:=@bne.eq_1 Int _;exact bx;all_goals exact au.refl _
   ·intro hI C;have JX:=t6 e3.out hI;have hb:R=true:=by
     rw[hR.out,decide_eq_true_eq];have h1:=e1.out;have h2:=sg.out;cases v;cases w;simp at h1 h2 JX;rw[h1,h2,JX]
    rw[hb];replace hb:=VZ hb;replace hI:=VZ hI;replace JX:=VZ JX;exact bx;all_goals exact au.refl _
 ·have hb:R=false:=df.out (fun e=>c1 ⟨by rw[e],by rw[e],by rw[e]⟩);rw[hb];replace hb:=VZ hb;rw[Decidable.not_and_iff_or_not,Decidable.not_and_iff_or_not]at c1;rcases c1 with c1|c1|c1
  ·have g1:(v.id==w.id)=false:=by simpa using c1
   replace c1:=VZ c1;refine pj func57 ntmps57 results57 ?_;have z1z:=@bne.eq_1 (List Int) _;have z2z:=@bne.eq_1 Int _;exact bx;all_goals exact au.refl _
  ·have g1:((v.ranges.length:Int)==(w.ranges.length:Int))=false:=by simp;omega
   replace c1:=VZ c1;refine pj func57 ntmps57 results57 ?_;have z1z:=@bne.eq_1 (List Int) _;have z2z:=@bne.eq_1 Int _;exact bx;all_goals exact au.refl _
  ·have g1:((v.subs.length:Int)==(w.subs.length:Int))=false:=by simp;omega
   replace c1:=VZ c1;refine pj func57 ntmps57 results57 ?_;have z1z:=@bne.eq_1 (List Int) _;have z2z:=@bne.eq_1 Int _;exact bx;all_goals exact au.refl _
def LJ (s:Sbn):Prop:=s.faces.length≤1000000000∧∀f∈s.faces,f.addrs.length≤1000000000
def D1 (v:Vpc):Prop:=v.ranges.length≤1000000000∧v.subs.length≤1000000000∧∀s∈v.subs,LJ s
def hU (n:Net):Prop:=n.vpcs.length≤1000000000∧n.links.length≤1000000000∧∀v∈n.vpcs,D1 v
theorem Cw (n:Net)(h:hU n):ae prog 29 [.agg (fG n),.agg (fG n)] (.v (.bool true)):=by
 obtain⟨h1,h2,h3⟩:=h;replace h3:=VZ h3;refine pj func29 ntmps29 results29 ?_;refine aF ?_<;>intros;refine bP ah av n.vpcs (fun _=>True) (fun k=>[(5,.d (.v (.int .i64 k))),(4,.d (.v (.bool false))),(3,.ptr 1 0),(2,.ptr 0 0)]) (fun _=>[.box 34 ((fG n).map .d),.box 34 ((fG n).map .d)]) trivial (wf) ?_ ?_
 ·intro k v hv hk _ C hC;have g8:(k:Int) < (n.vpcs.length:Int):=by omega
  have ed:=wi k (by omega);have hs:=h3.out v (V0 hv);have lO:=Cv v v hs.1 hs.2.1 (fun s lO=>hs.2.2 s lO) (fun s lO=>(hs.2.2 s lO).2);rw[decide_eq_true rfl]at lO;clear hs;refine aF ?_<;>intros;exact hC _ _ trivial (wf)
 ·intro _ C;refine aF ?_<;>intros;refine bP ah av n.links (fun _=>True) (fun k=>[(6,.d (.v (.int .i64 k))),(4,.d (.v (.bool false))),(3,.ptr 1 0),(2,.ptr 0 0)]) (fun _=>[.box 34 ((fG n).map .d),.box 34 ((fG n).map .d)]) trivial (wf) ?_ ?_
  ·intro k l hl hk _ C hC;have g8:(k:Int) < (n.links.length:Int):=by omega
   have ed:=wi k (by omega);refine aF ?_<;>intros;exact hC _ _ trivial (wf)
  ·intro _ C;exact bx;all_goals exact au.refl _
theorem cF:hU Net.zero:=⟨Wr _,Wr _,fun v h=>by simp[Net.zero]at h⟩
theorem Cy {v:Vpc}(h:VpcOK v):D1 v:=⟨by have:=h.n4;omega,by have:=h.n6;omega,fun s hs=>⟨by have:=(h.n8 s hs).1;omega,fun f hf=>by have:=(h.n8 s hs).2 f hf;omega⟩⟩
theorem dD {n:Net}(h:NetOK n):hU n:=⟨by have:=h.n6;omega,by have:=h.n12;omega,fun v hv=>Cy (bt (h.vp v hv))⟩
theorem AC (n:Net)(id:Int):hU (lB n id).1:=by
 unfold lB;split
 ·exact cF
 ·rename_i hc;have cr:=ic.1 (by simpa using hc);split
  ·exact cF
  ·obtain⟨a,b,c⟩:=dD cr;refine⟨?_,b,fun v hv=>?_⟩
   ·show (eo _ _ n.vpcs).length≤_;rw[fT];have:=cr.n6;omega
   ·rcases kl.1 hv with rfl|hv
    ·exact⟨Wr _,Wr _,fun s hs=>by simp at hs⟩
    ·exact c v hv
theorem AD (n:Net)(id:Int)(r:Rng):hU (lA n id r).1:=by
 unfold lA;split
 ·exact cF
 ·rename_i hc;have cr:=ic.1 (by simpa using hc);split
  ·exact cF
  ·split
   ·exact cF
   ·split
    ·exact cF
    ·rename_i i hi v hv hg;split
     ·rename_i hp;exact dD (ic.1 ((FX cr hv (by simpa using hg)).1.2 hp))
     ·exact cF
theorem AE (n:Net)(a b:Int):hU (nE n a b).1:=by
 unfold nE;split
 ·exact cF
 ·rename_i hc;have cr:=ic.1 (by simpa using hc);split
  ·exact cF
  ·obtain⟨x,y,z⟩:=dD cr;refine⟨x,?_,z⟩;show (eo _ _ n.links).length≤_;rw[fT];have:=cr.n12;omega
theorem AF (n:Net)(a b:Int):hU (mD n a b).1:=by
 unfold mD;split
 ·exact cF
 ·rename_i hc;have cr:=ic.1 (by simpa using hc);split
  ·exact cF
  ·obtain⟨x,y,z⟩:=dD cr;refine⟨x,?_,z⟩;rename_i i hi;show (n.links.eraseIdx i).length≤_;have:=List.length_eraseIdx_le n.links i;omega
def m8 (s:Ste):Prop:=jh s.book∧hU s.net
theorem gC {b:Bok}(h:BookOK b):jh b:=⟨by have:=h.n8;omega,fun p hp=>by have:=h.l32 p hp;omega⟩
theorem py:m8 .zero:=⟨br,cF⟩
theorem AG {b:Bok}(h:BookOK b)(vs:List Vpc)(c:Cmd):jh (nD b vs c).1:=by
 have hb:=gC h;unfold nD;repeat' split
 all_goals first|exact hb|exact Aw ..|exact Ax ..|exact xI ..|exact Ay ..|exact rn ..|exact ro ..
theorem Cz {n:Net}(h:NetOK n)(b:Bok)(c:Cmd):hU (xG b n c).1:=by
 have hn:=dD h;unfold xG;repeat' split
 all_goals first|exact hn|exact AC ..|exact AE ..|exact AF ..
theorem gD {n:Net}(h:NetOK n){v:Vpc}(hv:lm v)(k:Nat):hU {n with vpcs:=n.vpcs.set k v}:=by
 obtain⟨a,b,c⟩:=dD h;refine⟨by show (n.vpcs.set k v).length≤_;rw[YB];exact a,b,fun w hw=>?_⟩;rcases Xw hw with hw|rfl
 ·exact c w hw
 ·exact hv
theorem xK {b:Bok}{n:Net}(hb:BookOK b)(hn:NetOK n)(c:Cmd)(k:Nat)(v:Vpc):jh (lj b n c k v).1∧hU (lj b n c k v).2.1:=by
 have h1:=gC hb;have h2:=dD hn;unfold lj;repeat' split
 all_goals refine⟨?_,?_⟩
 all_goals first|exact h1|exact h2|exact rn ..|exact ro ..|exact AD ..|exact gD hn (Az ..) _|exact gD hn (Cu ..) _|exact gD hn (xJ ..) _|exact gD hn (AA ..) _|exact gD hn (AB ..) _|exact gD hn (u7 ..) _
theorem xL {b:Bok}{n:Net}(hb:BookOK b)(hn:NetOK n)(c:Cmd):jh (hS b n c).1∧hU (hS b n c).2.1:=by
 unfold hS;split
 ·exact⟨gC hb,dD hn⟩
 ·split
  ·exact xK hb hn ..
  ·exact⟨gC hb,dD hn⟩
theorem FY (s:Ste)(c:Cmd):m8 (wD s c).1:=by
 unfold wD;by_cases h:ig s=0
 ·obtain⟨Eg,x5⟩:=t0 h;have hb:=d7 Eg;have hn:=ic.1 x5;rw[if_neg (by simpa using h)];split
  ·exact⟨gC hb,dD hn⟩
  ·unfold FU;split
   ·exact⟨AG hb ..,dD hn⟩
   ·split
    ·exact⟨gC hb,Cz hn ..⟩
    ·split
     ·exact xL hb hn c
     ·exact⟨gC hb,dD hn⟩
 ·rw[if_pos h];exact py
theorem m8.hz {s:Ste}(h:m8 s):∀p∈s.book.pools,p.leases.length≤3518437208882:=fun p hp=>by have:=h.1.2 p hp;omega
def dM (s:Ste)(l:List Cmd):Ste:=l.foldl (fun s c=>(wD s c).1) s
def jH:Ste→List Cmd→List Ans
 |_,[]=>[]
 |s,c::l=>(wD s c).2.1::jH (wD s c).1 l
def rq (l:List Cmd):Ste × List Ans × Int:=if 200 < l.length then (.zero,[],2)else (dM .zero l,jH .zero l,0)
theorem t7 (s:Ste)(l:List Cmd)(c:Cmd):dM s (l++[c])=(wD (dM s l) c).1:=by
 unfold dM;rw[X9];rfl
theorem t8:∀(l:List Cmd) (s:Ste) (c:Cmd),jH s (l++[c])=jH s l++[(wD (dM s l) c).2.1]
 |[],_,_=>rfl
 |d::l,s,c=>by
  show _::jH _ (l++[c])=_;rw[t8 l];rfl
theorem wG:∀(l:List Cmd) (s:Ste),(jH s l).length=l.length
 |[],_=>rfl
 |_::l,s=>by show (jH _ l).length+1=_;rw[wG l];rfl
theorem jI (l:List Cmd):m8 (dM .zero l):=by
 rcases List.eq_nil_or_concat l with rfl|⟨l,c,rfl⟩
 ·exact py
 ·rw[List.concat_eq_append,t7];exact FY ..
structure SameAct (a b:Ste × Ans):Prop where
 err:a.2.err=b.2.err
 eq:a.2.err=0→a=b
theorem SameAct.refl (a:Ste × Ans):SameAct a a:=⟨rfl,fun _=>rfl⟩
theorem RealC.box_le {X:Cfg}{e:bK}{h:List Chunk}{a:Act}{w:World}{c:Cx}(hr:RealC X (bp e h) a w c){k T:Nat}{cells cells':List PV}(hk:aw h k= .box T cells)(hlt:k < h.length)(hle:rJ cells cells')(h1:∀d∈cells',d.one=true):
 RealC X (bp e (bg h k (.box T cells'))) a w c:=by
 have hh:∀k',(bp e (bg h k (.box T cells'))).heap k'=if k'=k then .box T cells' else (bp e h).heap k':=fun k'=>eI (YM hlt) k';have hb:∀k',c.block k' ((bp e (bg h k (.box T cells'))).heap k')=c.block k' ((bp e h).heap k'):=by
  intro k';rw[hh];split
  ·rename_i he;subst he;show _=c.block k' (aw h k');rw[hk];rfl
  ·rfl
 refine⟨hr.size,hr.defers,hr.ext,hr.inv,hr.fresh,fun b=>?_,fun k' b Ej=>?_,fun k' k'' b h1 h2=>?_,hr.env,fun k'=>?_,hr.lent⟩
 ·rw[hr.mu b];simp only[hb]
 ·rw[hb]at Ej;exact hr.new k' b Ej
 ·rw[hb]at h1 h2;exact hr.apart k' k'' b h1 h2
 ·rw[hh];split
  ·rename_i he;subst he;have bn:=hr.chunk k';rw[show (bp e h).heap k'=_ from hk]at bn;cases bn with
   |box _ _ b vs hb Vx Ge da=>exact .box T cells' b vs hb Vx (o7 hle Ge) h1
  ·exact hr.chunk k'
theorem AH {P:Program}{n m:Nat}{e:bK}{h:List Chunk}(k:Nat){T:Nat}(ds ds':List D)(hk:aw h k= .box T (ds.map .d))(hlt:k < h.length)(hle:qa ds ds')(h1:ds'.all D.one=true):dH P n m e h e (bg h k (.box T (ds'.map .d))):=
 fun X _ _ _ a w ⟨c,hc⟩=>⟨c,hc.box_le hk hlt (BV hle) fun d hd=>by
  obtain⟨x,hx,rfl⟩:=Wp.1 hd;exact Wx.1 h1 x hx⟩
theorem LL {l:List Cmd}{k:Nat}{c:Cmd}(h:l[k]? =some c):dM .zero (l.take (k+1))=(wD (dM .zero (l.take k)) c).1∧jH .zero (l.take (k+1))=jH .zero (l.take k)++[(wD (dM .zero (l.take k)) c).2.1]:=by
 rw[aj h,t7,t8];exact⟨rfl,rfl⟩
theorem CA (l:List Cmd):ae prog 13 [.sl 10 (l.map fl)] (.tup [.agg (gO (rq l).1),.sl 4 ((rq l).2.1.map Ds),.v (.int .i64 (rq l).2.2)]):=by
 unfold rq;by_cases h:200 < l.length
 ·rw[if_pos h];have e1:decide ((l.length:Int)>200)=true:=by simp;omega
  replace h:=VZ h;refine pj func13 ntmps13 results13 ?_;refine aF ?_;exact dz
 ·rw[if_neg h];have e1:decide ((l.length:Int)>200)=false:=by simp;omega
  have hle:l.length≤200:=by omega
  clear h;refine pj func13 ntmps13 results13 ?_;refine aF ?_;refine bP ah av l (fun _=>True) (fun k=>[(18,.d (.v (.int .i64 k))),(17,.d (.v (.int .i64 l.length))),(16,.d (.sl 10 (l.map fl))),(6,.own 2 k),(5,.ptr 1 0),(2,.ptr 0 0)])
   (fun k=>[.box 36 [.d (.v (.int .i64 0)),.d (.v (.slice none 0 0)),.d (.v (.slice none 0 0)),.d (.v (.slice none 0 0))],.box 36 ((gO (dM .zero (l.take k))).map .d),.row 47 4 k (aa ((jH .zero (l.take k)).map Ds))]) trivial ?_ ?_ ?_
  ·refine(dO (by simp) 6 47 4 rfl).trans ((AH 1 [.v (.int .i64 0),.v (.slice none 0 0),.v (.slice none 0 0),.v (.slice none 0 0)] (gO .zero) rfl (by simp) ⟨au.refl _,au.nil _,au.nil _,au.nil _,trivial⟩ rfl).trans ?_);exact wf
  ·intro k c hc hk _ C hC;have g8:(k:Int) < (l.length:Int):=by omega
   have ed:=wi k (by omega);have lO:=jI (l.take k);have VP:=P5 (dM .zero (l.take k)) c lO.hz;obtain⟨vi,Ni⟩:=LL hc;have lG:=wG (l.take k) .zero;have hlt:(Xd k l).length=k:=by rw[V2];omega
   rw[hlt]at lG;generalize wD (dM .zero (l.take k)) c=R at*;generalize dM .zero (l.take k)=S at*;generalize jH .zero (l.take k)=A at*;replace vi:=VZ vi;replace Ni:=VZ Ni;replace lO:=VZ lO;refine aF ?_;refine hC _ _ trivial ?_;rw[vi.out,Ni.out];exact wf (hh:=by rw[V6,V1,V5];rfl)
  ·intro _ C;rw[V4];first|exact bx|(refine aF ?_;exact dz)
theorem rt (s:Ste)(h:m8 s):ae prog 12 [.agg (gO s),.agg (gO s)] (.v (.bool true)):=by
 have h1:=As s.book h.1;have h2:=Cw s.net h.2;clear h;refine pj func12 ntmps12 results12 ?_;exact bx
theorem D2 (s:ByteArray):repN s≤200∧42*repN s≤s.size:=by
 unfold repN;split
 ·rename_i h;have hr:=h.2.choose_spec;refine⟨hr.le,?_⟩;generalize h.2.choose=n at*;rcases Yk n with h0|h0
  ·omega
  ·have:=(hr.all (n - 1) (by omega)).1;omega
 ·omega
noncomputable def recS (s:ByteArray):Ste × Int × Int:=if mh s≠0 then (.zero,0,mh s)else (dM .zero (repL s),repN s,0)
noncomputable def ansS (s:ByteArray) (c:Cmd):Ans:=(wD (dM .zero (repL s)) c).2.1
noncomputable def outS (s:ByteArray) (c:Cmd):ByteArray:=if (ansS s c).err=0 then s.extract 0 (42*repN s)++KC c else s.extract 0 (42*repN s)
noncomputable def storS (s:ByteArray) (c:Cmd):ByteArray × Ans × Int:=
 if mh s≠0 then (⟨#[]⟩,.zero,mh s)else if pN c=false then (⟨#[]⟩,.zero,3)else if repN s=200 then (⟨#[]⟩,.zero,2)else (outS s c,ansS s c,0)
theorem IU (s:ByteArray):rq (repL s)=(dM .zero (repL s),jH .zero (repL s),0):=by
 unfold rq;rw[if_neg (by rw[qY];have:=(D2 s).1;omega)]
theorem LM {s:ByteArray}(h:mh s=0):s.size≤16384:=by
 unfold mh at h;split at h
 ·assumption
 ·cases h
theorem m9 (s:ByteArray):ae prog 6 [.v (.string s)] (.tup [.agg (gO (recS s).1),.v (.int .i64 (recS s).2.1),.v (.int .i64 (recS s).2.2)]):=by
 have h1:=zm s;have h2:=CA (repL s);have hl:=qY s;rw[IU]at h2;dsimp only at h2;unfold recS;generalize repL s=L at*;generalize repN s=n at*;generalize jH .zero L=A at*;generalize dM .zero L=S at*;generalize mh s=E at*;subst hl;by_cases hE:E=0
 ·subst hE;rw[if_neg (by simp)];refine pj func6 ntmps6 results6 ?_;first|exact bx|(refine aF ?_;exact dz)
 ·rw[if_pos hE];have VQ:(E==0)=false:=by simpa using hE
  have Vy:(E !=0)=true:=by simpa using hE
  replace hE:=VZ hE;refine pj func6 ntmps6 results6 ?_;first|exact bx|(refine aF ?_;exact dz)
theorem D3 (s:ByteArray)(c:Cmd):ae prog 9 [.v (.string s),.agg (fl c)] (.tup [.v (.string (storS s c).1),.agg (Ds (storS s c).2.1),.v (.int .i64 (storS s c).2.2)]):=by
 have h1:=m9 s;unfold storS;by_cases hE:mh s=0
 ·rw[if_neg (by simpa using hE)];have ck:=LM hE;have hr:recS s=(dM .zero (repL s),(repN s:Int),0):=by unfold recS;rw[if_neg (by simpa using hE)]
  rw[hr]at h1;dsimp only at h1;clear hr;have h2:=KD c;cases hc:pN c with
  |false=>
   rw[hc]at h2;rw[if_pos rfl];refine pj func9 ntmps9 results9 ?_;first|exact bx|(refine aF ?_;exact dz)
  |true=>
   rw[hc]at h2;rw[if_neg (by simp)];obtain⟨hn,Ef⟩:=D2 s;by_cases F7:repN s=200
   ·rw[if_pos F7];rw[F7]at h1;clear hn Ef;refine pj func9 ntmps9 results9 ?_;first|exact bx|(refine aF ?_;exact dz)
   ·rw[if_neg F7];have h3:=P5 (dM .zero (repL s)) c (jI (repL s)).hz;have h4:=zm s;have h5:=KE (BQ c) (by rw[E4];omega);have e1:((repN s:Int)==200)=false:=by simp;omega
    have VR:(0:Int)≤42*(repN s:Int):=by omega
    replace F7:=VZ F7;have JH:=E5 c;have Qc:(s.extract 0 (42*repN s)).size=42*repN s:=by rw[Xx];omega
    have hx:(42*(repN s:Int)).toNat=42*repN s:=by omega
    unfold outS ansS;unfold KC at JH ⊢;generalize wD (dM .zero (repL s)) c=R at*;generalize dM .zero (repL s)=S at*;generalize gn (BQ c)=F at*;generalize BQ c=T at*;generalize (repL s).map fl=L at*;generalize repN s=n at*;by_cases ha:R.2.1.err=0
    ·rw[if_pos ha];have Ni:(s.extract 0 (42*n)).size+F.size≤9223372036854775807:=by omega
     refine pj func9 ntmps9 results9 ?_;first|exact bx|(refine aF ?_;exact dz)
    ·rw[if_neg ha];have ha':(R.2.1.err==0)=false:=by simpa using ha
     replace ha:=VZ ha;refine pj func9 ntmps9 results9 ?_;first|exact bx|(refine aF ?_;exact dz)
 ·rw[if_pos hE];have hr:recS s=(.zero,0,mh s):=by unfold recS;rw[if_pos hE]
  rw[hr]at h1;dsimp only at h1;have Vy:(mh s !=0)=true:=by simpa using hE
  replace hE:=VZ hE;refine pj func9 ntmps9 results9 ?_;first|exact bx|(refine aF ?_;exact dz)
section
open Go.Proofs
theorem LN (n:Int)(h:rE n=true):Pe (256*(256*(256*(256*0+n / 16777216 % 256)+n / 65536 % 256)+n / 256 % 256)+n % 256)=n:=by
 obtain⟨h1,h2⟩: -2147483648≤n∧n≤2147483647:=by simpa[rE]using h
 unfold Pe;split<;>omega
theorem FZ (n:Int):∀m∈Dg n,nJ m:=by
 intro m hm;simp[Dg]at hm;rcases hm with rfl|rfl|rfl|rfl<;>exact⟨by omega,by omega⟩
theorem CB (c:WCmd)(h:c.ok=true):sn (a9 (nN c))=c:=by
 obtain⟨h0,h1,h2⟩:=Np h;unfold nN;rw[nL]
 ·have e:=fun n hn=>LN n (h2 n hn);cases c with
  |mk op a b c at_ len min max usual cool=>
   simp only[WCmd.nums,WI,List.not_mem_nil,or_false]at e;have:=e a (by simp);have:=e b (by simp);have:=e c (by simp);have:=e at_ (by simp);have:=e len (by simp);have:=e min (by simp);have:=e max (by simp);have:=e usual (by simp);have:=e cool (by simp);show WCmd.mk _ _ _ _ _ _ _ _ _ _=_;congr 1
 ·intro m hm;rcases WI.1 hm with rfl|hm
  ·exact⟨by omega,by omega⟩
  ·obtain⟨n,-,hn⟩:=List.mem_flatMap.1 hm;exact FZ n m hn
theorem ru (a b c:ByteArray)(i j:Nat)(hi:i=a.size)(hj:j=a.size+b.size):(a++b++c).extract i j=b:=by
 subst hi hj;apply Yg;apply YA;simp only[Y1,Ym,Y5,YR,YO];have ha:a.data.toList.length=a.size:=by rw[Yc];rfl
 have hb:b.data.toList.length=b.size:=by rw[Yc];rfl
 rw[WE,←ha,List.drop_left,ha,show a.size+b.size - a.size=b.data.toList.length from by omega,List.take_left]
theorem jJ (a b:List WCmd):iR (a++b)=iR a++iR b:=by
 apply Yg;rw[Ym];simp[iR,jY]
theorem AI (c:WCmd):iR [c]=kK c:=by
 apply Yg;simp[iR,jY]
theorem F1 (l:List WCmd)(tail:ByteArray)(k:Nat)(hk:k < l.length):∃a b,iR l++tail=a++kK l[k]++b∧a.size=42*k:=by
 refine⟨iR (l.take k),iR (l.drop (k+1))++tail,?_,?_⟩
 ·have e:l=l.take k++[l[k]]++l.drop (k+1):=by simp
  conv=>lhs;rw[e]
  rw[jJ,jJ,AI,Zd]
 ·rw[jZ,V2];omega
theorem AJ (c:WCmd):∃a b,kK c=a++nN c++b∧a.size=1:=by
 refine⟨strOfNums [((nN c).size:Int)],strOfNums (J3 (lS (Bo (nN c)))),?_,?_⟩
 ·unfold kK;rw[vx _ (by rw[mS];omega)]
 ·rw[strOfNums_size];rfl
theorem AK (l:List WCmd)(tail:ByteArray)(k:Nat)(hk:k < l.length):Bq (iR l++tail) (42*k)∧(iR l++tail).extract (42*k+1) (42*k+38)=nN l[k]:=by
 obtain⟨a,b,he,ha⟩:=F1 l tail k hk;obtain⟨a',b',he',ha'⟩:=AJ l[k];have h1:(iR l++tail).extract (42*k) (42*k+42)=kK l[k]:=by
  rw[he];exact ru _ _ _ _ _ ha.symm (by rw[ha,lU])
 have h2:(iR l++tail).extract (42*k+1) (42*k+38)=nN l[k]:=by
  rw[he,he',show a++(a'++nN l[k]++b')++b=(a++a')++nN l[k]++(b'++b) from by simp only[Zd]];exact ru _ _ _ _ _ (by rw[XX,ha,ha']) (by rw[XX,ha,ha',mS])
 refine⟨⟨?_,?_⟩,h2⟩
 ·rw[XX,jZ];omega
 ·rw[h1,h2];rfl
theorem IV (l:List WCmd)(hl:l.all WCmd.ok=true)(tail:ByteArray)(k:Nat)(hk:k < l.length):GN (iR l++tail) k=l[k]:=by
 unfold GN;rw[(AK l tail k hk).2,CB _ (Wx.1 hl _ (W8 hk))]
theorem CC (l:List WCmd)(hl:l.all WCmd.ok=true)(tail:ByteArray)(n:Nat)(hn:n≤l.length):iS (iR l++tail) n=l.take n:=by
 apply List.ext_getElem
 ·rw[ee,V2];omega
 ·intro i h1 h2;rw[ee]at h1;simp[iS,IV l hl tail i (by omega)]
end
section
open Go.Proofs
theorem xM (a b:ByteArray)(k:Nat)(h:a.size≤k):(a++b).extract 0 k=a++b.extract 0 (k - a.size):=by
 apply Yg;apply YA;simp only[Y1,Ym,Y5,YR,YO,List.drop_zero,WZ];have ha:a.data.toList.length=a.size:=by rw[Yc];rfl
 rw[List.take_append,Wj (by omega),ha]
theorem D4 (l:List WCmd)(k:Nat)(hk:k≤42*l.length):∃t,(iR l).extract 0 k=iR (l.take (k / 42))++t∧t.size < 42:=by
 have hm:42*(k / 42)≤k:=Nat.mul_div_le k 42;have hs:(iR (l.take (k / 42))).size=42*(k / 42):=by rw[jZ,V2];omega
 refine⟨(iR (l.drop (k / 42))).extract 0 (k - 42*(k / 42)),?_,?_⟩
 ·conv=>lhs;rw[←XE (k / 42) l,jJ]
  rw[xM _ _ _ (by rw[hs];exact hm),hs]
 ·rw[Xx];omega
theorem xN (l:List WCmd)(hl:l.length≤200)(t:ByteArray)(ht:t.size < 42):Replayed (iR l++t) l.length:=
 ⟨hl,fun k hk=>(AK l t k hk).1,.inr fun hf=>by
  have:=hf.1;rw[XX,jZ]at this;omega⟩
theorem IW (l:List WCmd)(cr:l.all WCmd.ok=true)(k:Nat)(hk:k≤42*l.length):iS ((iR l).extract 0 k) (k / 42)=l.take (k / 42):=by
 obtain⟨t,ht,RF⟩:=D4 l k hk;rw[ht,CC _ (Wx.2 fun x hx=>Wx.1 cr x (WN hx)) _ _ (by rw[V2];omega)];rw[List.take_take,Nat.min_self]
end
theorem D5 {s:ByteArray}{k:Nat}(h:k=s.size):s.extract 0 k=s:=by
 subst h;apply Yg;apply YA;simp only[Y1,Y5,YO,List.drop_zero,WZ];exact Wj (by rw[Yc];exact Wa _)
def nF (l:List Cmd):ByteArray:=iR (l.map uU)
theorem pz (l:List Cmd):(nF l).size=42*l.length:=by unfold nF;rw[jZ,Wg]
theorem IY (l:List Cmd)(c:Cmd):nF (l++[c])=nF l++KC c:=by
 unfold nF;rw[V6,jJ,List.map_singleton,AI];rfl
theorem Of {l:List Cmd}(h:∀c∈l,pN c=true):(l.map uU).all WCmd.ok=true:=by
 rw[List.all_map,Wx];exact h
theorem IZ (l:List Cmd):(l.map uU).map NC=l:=by
 rw[Yz];exact(Xr fun c _=>E3 c).trans (List.map_id _)
theorem D6 (l:List Cmd)(hl:l.length≤200)(ho:∀c∈l,pN c=true)(k:Nat)(hk:k≤42*l.length):
 repN ((nF l).extract 0 k)=k / 42∧repL ((nF l).extract 0 k)=l.take (k / 42)∧mh ((nF l).extract 0 k)=0:=by
 have hz:((nF l).extract 0 k).size≤16384:=by rw[Xx,pz];omega
 have jO:(l.map uU).length=l.length:=Wg _;obtain⟨t,ht,RF⟩:=D4 (l.map uU) k (by rw[jO];exact hk);have hr:Replayed ((nF l).extract 0 k) (k / 42):=by
  have:=xN ((l.map uU).take (k / 42)) (by rw[V2,jO];omega) t RF;rw[V2,jO,Nat.min_eq_left (by omega)]at this;unfold nF;rw[ht];exact this
 have hn:=Dw hz hr;refine⟨hn,?_,by unfold mh;rw[if_pos hz]⟩;unfold repL;rw[if_pos hz,hn];unfold nF;rw[IW _ (Of ho) k (by rw[jO];exact hk),←XS];exact IZ _
theorem D7 (l:List Cmd)(hl:l.length≤200)(ho:∀c∈l,pN c=true):repN (nF l)=l.length∧repL (nF l)=l∧mh (nF l)=0:=by
 have h:=D6 l hl ho (42*l.length) (Wa _);rw[D5 (pz l).symm,Nat.mul_div_cancel_left _ (by omega),V4]at h;exact h
theorem LO (l:List Cmd)(hl:l.length≤200)(ho:∀c∈l,pN c=true)(k:Nat)(hk:k≤42*l.length):recS ((nF l).extract 0 k)=(dM .zero (l.take (k / 42)),((k / 42:Nat):Int),0):=by
 obtain⟨h1,h2,h3⟩:=D6 l hl ho k hk;unfold recS;rw[if_neg (by simpa using h3),h1,h2]
theorem D8 (l:List Cmd)(hl:l.length≤200)(ho:∀c∈l,pN c=true):recS (nF l)=(dM .zero l,(l.length:Int),0):=by
 obtain⟨h1,h2,h3⟩:=D7 l hl ho;unfold recS;rw[if_neg (by simpa using h3),h1,h2]
def ji (k:List Cmd)(c:Cmd):List Cmd:=if (wD (dM .zero k) c).2.1.err=0 then k++[c]else k
def bZ (l:List Cmd):List Cmd:=l.foldl (fun k c=>if pN c=true then ji k c else k) []
theorem t9 (l:List Cmd)(c:Cmd):bZ (l++[c])=if pN c=true then ji (bZ l) c else bZ l:=by
 unfold bZ;rw[X9];rfl
theorem LP (l:List Cmd):∀k:List Cmd,(∀c∈k,pN c=true)→∀c∈l.foldl (fun k c=>if pN c=true then ji k c else k) k,pN c=true:=by
 induction l with
 |nil=>intro k hk;exact hk
 |cons x r ih=>
  intro k hk;refine ih _ ?_;show ∀c∈(if pN x=true then ji k x else k),pN c=true;split
  ·rename_i hx;unfold ji;split
   ·intro c hc;rcases WJ.1 hc with hc|hc
    ·exact hk c hc
    ·rw[WP.1 hc];exact hx
   ·exact hk
  ·exact hk
theorem ua (l:List Cmd):∀c∈bZ l,pN c=true:=LP l [] (by simp)
theorem I0 (l:List Cmd):∀k:List Cmd,(l.foldl (fun k c=>if pN c=true then ji k c else k) k).length≤k.length+l.length:=by
 induction l with
 |nil=>intro k;exact Wa _
 |cons x r ih=>
  intro k;have:=ih (if pN x=true then ji k x else k);have h2:(if pN x=true then ji k x else k).length≤k.length+1:=by
   unfold ji;split
   ·split
    ·simp
    ·omega
   ·omega
  simp only[XA,Wc];omega
theorem qz (l:List Cmd):(bZ l).length≤l.length:=by
 have:=I0 l [];simpa[bZ]using this
theorem AL (l:List Cmd)(hl:l.length < 200)(ho:∀c∈l,pN c=true)(c:Cmd):
 storS (nF l) c=if pN c=true then (nF (ji l c),(wD (dM .zero l) c).2.1,0)else (⟨#[]⟩,.zero,3):=by
 obtain⟨h1,h2,h3⟩:=D7 l (by omega) ho;unfold storS;rw[if_neg (by simpa using h3),h1];cases hc:pN c with
 |false=>rfl
 |true=>
  rw[if_neg (by simp),if_neg (by omega),if_pos rfl];unfold outS ansS ji;rw[h1,h2,D5 (pz l).symm];split
  ·rw[IY]
  ·rfl
section
open Go.Proofs
theorem CM:(prog.info? 76).map (·.size)=some 2:=by kernel_rfl
theorem AV:(prog.info? 5).map (fun i=>(i.zero,i.size,i.bytes))=some (some (.int .u8 0),1,1):=by kernel_rfl
theorem AM {w:World}{b:Nat}{cs:Array Value}{T:Nat}{fr:Nat × Nat}(h:w.heap[b]? =some (.cells cs T fr)):w.setRow b cs=w:=by
 have e:(w.setRow b cs).heap=w.heap:=by
  apply Array.ext_getElem?;intro i;by_cases e:i=b
  ·subst e;rw[setRow_heap w i _ cs _ _ h,h]
  ·exact setRow_other w b i cs e
 calc w.setRow b cs={w with heap:=(w.setRow b cs).heap}:=rfl
  _=w:=by rw[e]
theorem rP (b:Nat)(ad:Option Addr)(v:Value)(w:World)(cR:w.heap[b]? =some (.cells #[.pointer ad,v] 78 (0,0)))(Gy:ad=none∨ad=some ⟨b,0,none⟩):
 Calls prog 130 #[.pointer (some ⟨b,0,none⟩)] w fun e w'=>e= .returned (.tuple #[])∧w'=w.setRow b #[.pointer (some ⟨b,0,none⟩),v]:=by
 obtain⟨j,hj,Sa⟩:=Wh.1 CM;have h0:w.cell? ⟨b,0,none⟩=some (.pointer ad):=by rw[YN cR];rfl
 rcases Gy with rfl|rfl
 ·have Rj:liesAt prog prog.depth 78 (2 / prog.cellsOf 78) 0 76 1=true:=by kernel_rfl
  have Gg:w.shape? b=some (78,2):=by simp[World.shape?,cR]
  have O9:w.frozen? ⟨b,0,none⟩=false:=Lib.frozen_of_heap cR 0;rw[show w.setRow b #[.pointer (some ⟨b,0,none⟩),v]=w.setCell ⟨b,0,none⟩ (.pointer (some ⟨b,0,none⟩)) from (setCell_eq_setRow w b 0 _ _ _ _ cR).symm];clear cR;go_enter func130,ntmps130
  go_wp2
  rw[Lib.run_to_unsafe w ⟨b,0,none⟩ underlying73 underlying278 hj (by rw[Sa];decide) Gg (Yh 1)];simp only[Result.andThen];rw[Oper.upon_value];go_wp2
  rw[run_callFunc_extern func220 (by kernel_rfl) (by kernel_rfl) (by kernel_rfl) (e:=Extern.AbiNoEscape.same) (by kernel_rfl)];rw[Lib.run_noEscape];simp only[Result.andThen];rw[Oper.upon_value];go_wp2
  rw[Lib.run_from_unsafe w ⟨b,0,none⟩ underlying278 underlying73 hj Gg Rj];simp only[Result.andThen];rw[Oper.upon_value];go_wp2
  go_end0
  exact⟨rfl,rfl⟩
 ·rw[AM cR];clear cR;go_enter func130,ntmps130
  go_wp2
  rw[Lib.run_neq_ptr_same w _ underlying73 hj];go_wp2
  go_end0
  exact⟨rfl,rfl⟩
theorem xO {P:Program}{w:World}(t u ty e:TypeId)(i:TypeInfo)(ht:P.underlying t=some (.slice e))(hu:P.underlying u=some .string)(hi:P.info? e=some i)(hz:i.zero=some (.int .u8 0))
 (jM:i.size=1) (ye:i.bytes=1) (v:Value) (n:Nat) (xs:List Value) (bf:OwnV w e 1 v n xs) (s:ByteArray) (hb:n+s.size≤140737488355328):
 ∃v' w',(Builtin.append_ #[t,u] ty #[v,.string s]).run P w= .ok v' w'∧OwnV w' e 1 v' (n+s.size) (xs++X0 s)∧OneB w w' (cm v)∧(cm v'=cm v∨∀b,cm v'=some b→w.heap.size≤b):=by
 have MW:∀k,k≤140737488355328→k≤maxLen:=fun k hk=>by unfold maxLen;omega
 have Rk:∀(k:Nat),k=0→s.size≤140737488355328→∃v' w',(Builtin.append_ #[t,u] ty #[.slice none 0 0,.string s]).run P w= .ok v' w'∧OwnV w' e 1 v' (k+s.size) ([]++X0 s)∧OneB w w' none∧(∀b,cm v'=some b→w.heap.size≤b):=by
  rintro k rfl hs;obtain⟨v',w',hr,ho,hg,-⟩:=Lib.run_append_own_string (P:=P) w w.heap.size t u ty e i ht hu hi hz jM ye _ 0 [] (YV w _ e 1) s (MW _ (by omega)) (by omega) (Wa _);refine⟨v',w',hr,.of_row ho,⟨hg.os,hg.tape,hg.output,hg.size,fun b hb' _=>hg.block b hb' (by simp[Value.ownBlock])⟩,fun b hb'=>?_⟩;rcases ho.2 with⟨rfl,_⟩|⟨g,cap,cur,rfl,ci,_⟩
  ·cases hb'
  ·cases cap with
   |zero=>cases hb'
   |succ cap=>cases hb';exact ci
 cases bf with
 |nil=>
  obtain⟨v',w',g1,g2,g3,g4⟩:=Rk 0 rfl (by omega);exact⟨v',w',g1,g2,g3,.inr g4⟩
 |zero a=>
  by_cases hm:s.size=0
  ·have hf:=Lib.run_firstCells_string (P:=P) w 1 s;have hn:X0 s=[]:=WA (by rw[Lib.strCells_length];exact hm);rw[hm,hn]at hf;refine⟨.slice (some a) 0 0,w,?_,by rw[hm,hn];exact .zero a,⟨rfl,rfl,rfl,Wa _,fun _ _ _=>rfl⟩,.inl rfl⟩;simp[Builtin.append_,run_underlying ht,run_underlying hu,sizeOf,typeInfo,hi,jM,Builtin.lenOf,hm,hf,storeCells]
  ·have x5:=run_append_nil_string (P:=P) w t u ty e i (.int .u8 0) ht hu hi hz s (by omega) (by omega) (by rw[ye];omega);have hg:=Lib.run_append_grow_string (P:=P) w t u ty e i (.int .u8 0) ht hu hi hz a 0 0 [] (by simp) (fun j v h=>by simp at h) s (by omega) (by omega) (by rw[ye];exact growslice_fits (by omega) (by omega));obtain⟨v',w',g1,g2,g3,g4⟩:=Rk 0 rfl (by omega);rw[x5]at g1;have e1:(s.data.map fun b=>Value.int .u8 b.toNat)=(X0 s).toArray:=by
    apply YA;simp[X0]
   rw[e1]at g1;simp only[Wn]at hg;have e2:(#[]++(X0 s).toArray:Array Value)=(X0 s).toArray:=by simp
   rw[show ([]:List Value).toArray=#[] from rfl,e2,g1]at hg;exact⟨v',w',hg,g2,g3,.inr g4⟩
 |row g n cap cur xs h0 hh hn hm hs hl ht'=>
  obtain⟨cap,rfl⟩:∃c,cap=c+1:=⟨cap - 1,by omega⟩;have bf:w.ownsRow 0 e 1 (.slice (some ⟨g,0,none⟩) n (cap+1)) n xs:=⟨hl,.inr ⟨g,cap+1,cur,rfl,Wr _,hh,hn,hm,hs,ht'⟩⟩;obtain⟨v',w',hr,ho,hg,-⟩:=Lib.run_append_own_string (P:=P) w 0 t u ty e i ht hu hi hz jM ye _ n xs bf s (MW _ hb) hb (Wr _);refine⟨v',w',hr,.of_row ho,⟨hg.os,hg.tape,hg.output,hg.size,fun b hb' bq=>hg.block b hb' (fun e=>bq e.symm)⟩,?_⟩;by_cases fF:n+s.size≤cap+1
  ·have:=Lib.run_append_room_string (P:=P) w t u ty e i ht hu hi jM g n (cap+1) cur hh s fF (by omega);rw[this]at hr;cases hr;exact .inl rfl
  ·have:=Lib.run_append_grow_string (P:=P) w t u ty e i (.int .u8 0) ht hu hi hz ⟨g,0,none⟩ n (cap+1) xs (by rw[jM];simpa using hl) (bf.cells (g:=g) rfl) s (by omega) (by omega) (by rw[ye];exact growslice_fits (by omega) (by omega));rw[this]at hr;cases hr;refine .inr fun b hb'=>?_;have:=cg (a:=⟨w.heap.size,0,none⟩) (n:=n+s.size) (cap:=grownCap w (n+s.size) (cap+1) e) (by have:=grownCap_ge w (n+s.size) (cap+1) e;omega);rw[this]at hb';cases hb';exact Wa _
theorem rQ {P:Program}{w:World}{ops:Array Oper}{rest:List Oper}{o:Oper}{a:Act}{Q:Exit→Act→World→Prop}(QT:o.guard=none)(sl x:Operand)(t u:TypeId)
 (ho:o.op= .call {callee:= .builtin .append,args:=#[sl,x],argTypes:=#[t,u]}) (e:TypeId) (i:TypeInfo) (ht:P.underlying t=some (.slice e)) (hu:P.underlying u=some .string) (hi:P.info? e=some i) (hz:i.zero=some (.int .u8 0))
 (jM:i.size=1) (ye:i.bytes=1) (v:Value) (n:Nat) (xs:List Value) (hs:a.eval sl=v) (bf:OwnV w e 1 v n xs) (s:ByteArray) (hx:a.eval x= .string s) (hb:n+s.size≤140737488355328)
 (h:∀v' w',OwnV w' e 1 v' (n+s.size) (xs++X0 s)→OneB w w' (cm v)→(cm v'=cm v∨∀b,cm v'=some b→w.heap.size≤b)→wpList P ops Q rest (a.put o.dst v') w'):wpList P ops Q (o::rest) a w:=by
 refine wpList_plain QT fun K hK=>?_;obtain⟨v',w',hr,h2,h3,h4⟩:=xO (P:=P) (w:=w) t u o.type e i ht hu hi hz jM ye v n xs bf s hb;unfold Oper.wp execOp;simp only[ho,resolve,invoke,builtin,Sem.run_bind,Sem.run_pure,Result.andThen_ok,List.map_toArray,V1,V5,hs,hx,hr];exact hK _ _ (h v' w' h2 h3 h4)
theorem lC (b:Nat)(ad:Option Addr)(v:Value)(n:Nat)(xs:List Value)(s:ByteArray)(w:World)(cR:w.heap[b]? =some (.cells #[.pointer ad,v] 78 (0,0)))(Gy:ad=none∨ad=some ⟨b,0,none⟩)
 (bf:OwnV w 5 1 v n xs) (bq:cm v≠some b) (bc:n+s.size≤140737488355328):
 Calls prog 63 #[.pointer (some ⟨b,0,none⟩),.string s] w fun e w'=>e= .returned (.tuple #[.int .i64 s.size,.nilIface])∧
  ∃v' w2,OneB (w.setRow b #[.pointer (some ⟨b,0,none⟩),v]) w2 (cm v)∧OwnV w2 5 1 v' (n+s.size) (xs++X0 s)∧(cm v'=cm v∨∀b',cm v'=some b'→(w.setRow b #[.pointer (some ⟨b,0,none⟩),v]).heap.size≤b')∧w'=w2.setRow b #[.pointer (some ⟨b,0,none⟩),v']:=by
 obtain⟨i0,hi,wL,lE,rT⟩:=info_parts AV;have gF:=rP b ad v w cR Gy;have mO:=setRow_heap w b _ #[.pointer (some ⟨b,0,none⟩),v] _ _ cR;have Rl:OwnV (w.setRow b #[.pointer (some ⟨b,0,none⟩),v]) 5 1 v n xs:=bf.same fun b' hb'=>setRow_other w b b' _ (fun e=>bq (by rw[hb',e]));generalize w.setRow b #[.pointer (some ⟨b,0,none⟩),v]=w1 at*;clear Gy cR bf;go_enter func63,ntmps63
 go_wp2_with fail
 refine gF.mono ?_;rintro e w1 ⟨rfl,rfl⟩;have c0:w1.cell? ⟨b,0,none⟩=some (.pointer (some ⟨b,0,none⟩)):=by rw[YN mO];rfl
 have c1:w1.cell? ⟨b,1,none⟩=some v:=by rw[YN mO];rfl
 have hlt:b < w1.heap.size:=by
  rcases Wv b w1.heap.size with h'|h'
  ·exact h'
  ·simp[WT h']at mO
 go_wp2_with (at_builtin;refine rQ rfl _ _ 74 9 rfl 5 i0 underlying74 underlying9 hi wL lE rT _ _ _ rfl Rl s rfl bc ?_)
 intro v' w2 cV da Gs;have lx:w2.heap[b]? =some (.cells #[.pointer (some ⟨b,0,none⟩),v] 78 (0,0)):=by
  rw[da.block b hlt bq];exact mO
 have d1:w2.cell? ⟨b,1,none⟩=some v:=by rw[YN lx];rfl
 have f1:w2.frozen? ⟨b,1,none⟩=false:=Lib.frozen_of_heap lx 1;have cv:w2.setRow b #[.pointer (some ⟨b,0,none⟩),v']=w2.setCell ⟨b,1,none⟩ v':=(setCell_eq_setRow w2 b 1 _ _ _ _ lx).symm;have pF:=cV.one;obtain⟨ao,n',cap,rfl⟩:∃ao n' cap,v'= .slice ao n' cap:=by
  clear cv Gs;generalize n+s.size=N at cV;generalize xs++X0 s=ys at cV;cases cV<;>exact⟨_,_,_,rfl⟩
 clear mO lx c0 c1;go_wp2
 go_ret2
 exact⟨rfl,_,w2,da,cV,Gs,cv.symm⟩
theorem CD (b:Nat)(p:Value)(v:Value)(l:List UInt8)(w:World)(cR:w.heap[b]? =some (.cells #[p,v] 78 (0,0)))(bf:OwnV w 5 1 v l.length (XJ l))(h0:l≠[]):
 Calls prog 35 #[.pointer (some ⟨b,0,none⟩)] w fun e w'=>e= .returned (.string ⟨l.toArray⟩)∧OneB w w' (cm v):=by
 have wR:l.length≠0:=by simpa using h0
 generalize hn:l.length=n at bf;generalize AX:XJ l=ys at bf;cases bf with
 |nil=>omega
 |zero=>omega
 |row g _ cap cur _ Gu hg Gq Gr mK hl MX=>
  subst hn AX;have Pb:prog.cellsOf 5=1:=by kernel_rfl
  have c1:w.drew.cell? ⟨b,1,none⟩=some (.slice (some ⟨g,0,none⟩) l.length cap):=by
   have:w.drew.heap[b]? =some (.cells #[p,.slice (some ⟨g,0,none⟩) l.length cap] 78 (0,0)):=cR;rw[YN this];rfl
  have VS:(Builtin.unsafeSliceData_ #[74] 145 #[.slice (some ⟨g,0,none⟩) l.length cap]).run prog w.drew= .ok (.pointer (some ⟨g,0,none⟩)) w.drew:=
   Lib.run_unsafeSliceData_row _ _ _ _ _ _ (by omega)
  have bu:w.ownsRow 0 5 1 (.slice (some ⟨g,0,none⟩) l.length cap) l.length (XJ l):=⟨hl,.inr ⟨g,cap,cur,rfl,Wr _,hg,Gq,Gr,mK,MX⟩⟩;have VT:(Builtin.unsafeString_ #[145,3] 9 #[.pointer (some ⟨g,0,none⟩),.int .i64 l.length]).run prog w.drew= .ok (.string ⟨l.toArray⟩) (w.drew.freeze ⟨g,0,none⟩ l.length):=by
   refine Lib.run_unsafeString_row w.drew 145 3 9 5 underlying145 Pb g cur.size (by have hg':w.drew.heap[g]? =some (.cells cur 5 (0,0)):=hg;simp[World.shape?,hg']) l h0 (by omega) (by unfold maxLen at Gr;omega) ?_;intro j x hx;exact bu.cells (g:=g) rfl j (.int .u8 x.toNat) (by simp[XJ,hx])
  have O9:OneB w (w.drew.freeze ⟨g,0,none⟩ l.length) (cm (.slice (some ⟨g,0,none⟩) l.length cap)):=by
   rw[cg Gu];unfold World.freeze;split
   ·exact⟨rfl,rfl,rfl,Wa _,fun _ _ _=>rfl⟩
   ·refine⟨rfl,rfl,rfl,by simp,fun k hk bq=>?_⟩;simp only[Xq];rw[if_neg (fun e=>bq (by rw[←e]))];rfl
  clear bu cR hg;have av:prog.follows .mixedOrders=true:=by kernel_rfl
  go_enter func35,ntmps35
  go_wp2
  go_region_o
  all_goals(go_wp2;go_ret;exact⟨rfl,O9⟩)
end
def bs (l:List UInt8):ByteArray:=⟨l.toArray⟩
theorem eO (l:List UInt8):(bs l).size=l.length:=by simp[bs,ByteArray.size]
theorem D9 (l:List UInt8):(bs l).data.toList=l:=rfl
theorem ln (l m:List UInt8):bs l++bs m=bs (l++m):=by
 apply Yg;simp[bs]
@[go_sem] theorem R4 (xs:List Int):strOfNums xs=bs (xs.map fun n=>UInt8.ofNat n.toNat):=rfl
def dS (n:Nat):List UInt8:=Lib.decDigits n
theorem AN {n:Nat}(h:n < 10):dS n=[UInt8.ofNat (48+n)]:=Lib.decDigits_one h
theorem LQ {n:Nat}(h:¬n < 10):dS n=dS (n / 10)++[UInt8.ofNat (48+n % 10)]:=by
 unfold dS;rw[Lib.decDigits,dif_neg h]
theorem ox:∀n:Nat,n≤9223372036854775807→(dS n).length≤19:=by
 have key:∀k n:Nat,n < 10 ^ (k+1)→(dS n).length≤k+1:=by
  intro k;induction k with
  |zero=>intro n h;rw[AN (by simpa using h)];simp
  |succ k ih=>
   intro n h;by_cases h1:n < 10
   ·rw[AN h1];simp
   ·rw[LQ h1,V9];have:=ih (n / 10) (by rw[Nat.pow_succ]at h;omega);simp;omega
 intro n h;exact key 18 n (by omega)
section
open Go.Proofs Go.Shelf
theorem I1 (w:World)(k:Nat)(os:Array Obj):cW w (Sort.grow (w.drewN k) os):=by
 refine⟨rfl,rfl,rfl,?_,fun b hb=>?_⟩
 ·rw[Sort.size_grow];simp
 ·rw[Sort.heap_grow_old _ _ (by simpa using hb)];rfl
theorem I2 {M:Nat→Prop}{w:World}(h:uG M w):Lib.TabIs prog w "internal/strconv.uint64pow10" .u64 Lib.pow10Tab:=by
 obtain⟨-,vs,E,sp,h2,h3⟩:=h (GQ,_) (by unfold J5;exact List.mem_cons_self ..);unfold Lib.TabIs World.var?;rw[show prog.globalNamed "internal/strconv.uint64pow10"=some GQ by kernel_rfl];simp only[Xn,h2];rw[h3];rfl
theorem LR {P:Program}{f:Nat}{ds:List D}{r:D}(hn:sG P f)(hf:∀d∈ds,d.flat=true)(h:∀M w,uG M w→Calls P f (ds.map zk).toArray w fun e w'=>∃v,e= .returned v∧RepD M w' r v∧cW w w'):ae P f ds r:=by
 refine⟨hn,fun M w vs _ hG cZ=>?_⟩;rw[mf (f:=zk) cZ.1 fun j d x hj hx=>zl (cZ.2 j d x hj hx) (hf d (V0 hj))];exact h M w hG
theorem xP (n:Nat)(hn:n≤9223372036854775807):ae prog 65 [.v (.int .i64 n)] (.v (.string (bs (dS n)))):=by
 refine LR (ce func65 (by kernel_rfl) rfl) (by simp[D.flat]) fun M w hG=>?_;refine(strconv_Itoa n (by omega) (by omega) w (I2 hG)).mono fun e w' ⟨he,k,os,hw⟩=>⟨_,he,?_,by rw[hw];exact I1 _ _ _⟩;rw[Lib.itoa_nonneg];exact .v _
end
end Go.Proofs.YtojojebildofnaaGreatDoor
