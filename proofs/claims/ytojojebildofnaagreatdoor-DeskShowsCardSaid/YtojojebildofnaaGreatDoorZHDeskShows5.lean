/- DeskShows: its statement, for every input, out of its walk. (texts of this work, joined) -/
import Derived.Test.YtojojebildofnaaGreatDoorZHDeskShows4
import Derived.Test.YtojojebildofnaaGreatDoorZHDeskShowsK
import Derived.Lib.Walk
import Derived.Lib.Builder
import Derived.Lib.AppendStr
import Derived.Lib.UnsafeStr
import Derived.WalkKit
import Derived.Shelf.RegionOpenPlain
import Derived.Laws.Externs
import Derived.KernelRfl
import Derived.Outline
import Derived.Lib.ItoaNum
import Derived.Lib.Join
import Derived.SizedLaws
import Derived.Test.YtojojebildofnaaGreatDoorCards
import Derived.Test.YtojojebildofnaaGreatDoorTie
import Derived.Stop.LaidErr
import Derived.Lib.LaidTab
import Derived.MakeChecks
import Derived.LaidMore
import Derived.LaidHandle
import Derived.SevenTiedAt
import Derived.Test.YtojojebildofnaaGreatDoorRows
import Derived.ProofKit
import Derived.OpenShut
import Derived.ShutString
import Derived.ChangeOld
import Derived.Below
set_option linter.unusedSimpArgs false
set_option linter.unusedVariables false
set_option maxRecDepth 100000
set_option maxHeartbeats 16000000
namespace Go.Proofs.YtojojebildofnaaGreatDoor
open Go Go.RowKit Go.Proofs.Tryz
open _root_.List renaming getElem?_eq_getElem → Xj, mem_of_getElem? → Xl, map_cons → Xm, setIfInBounds_toArray → Xn, getElem?_eq_some_iff → Xo, length_take → Xp, take_length → Xq, length_append → Xt, set_cons_zero → Xv, set_cons_succ → Xw, map_nil → Xx, map_append → Xz, getElem?_map → XA, all_eq_true → XB, length_cons → XD, getD_eq_getElem?_getD → XE, length_map → XF, mem_map → XH, take_of_length_le → XI, pairwise_iff_getElem → XM, getElem?_eq_none → XN, getElem?_append_right → XP, getElem?_take_of_lt → XQ, replicate → XR, length_drop → XS, append_assoc → XT, findIdx?_eq_some_iff_getElem → XV, mem_cons → XY, eq_nil_of_length_eq_zero → XZ, range → X3, mem_append → X4, getElem?_append_left → X5, cons_append → X6, mem_singleton → X7, length_nil → X8, getElem_of_mem → X9, append_nil → Ya, mem_of_mem_drop → Yb, mem_of_mem_take → Yc, any_eq_true → Yd, nil_append → Ye, mem_iff_getElem → Yf, ext_getElem? → Yh, getElem?_drop → Yk, getElem_mem → Ym, take_append_of_le_length → Yp, any_eq_false → Yw, findIdx?_eq_none_iff → Yx, take_zero → YA, size_toArray → YB, take → YD, flatten_cons → YE, find?_eq_none → YF, foldl_cons → YG, getElem?_cons_succ → YJ, pairwise_cons → YM, mem_of_find?_eq_some → YO, mem_range → YP, mem_cons_of_mem → YR, flatMap_nil → YS, take_append_drop → YU, drop_eq_getElem_cons → YV, all_eq_false → YX, flatMap_append → Y1, map_congr_left → Y2, toList_toArray → Y3, pairwise_map → Y5, mem_or_eq_of_mem_set → Y6, mem_map_of_mem → Za, set_append_right → Zc, drop_length → Zf, find?_eq_some_iff_getElem → Zg, filter_filter → Zj, getElem?_take → Zk, pairwise_append → Zp, take_succ_eq_append_getElem → Zq, foldl_append → Zr, mem_filter → Zt, find?_some → Zv, length_filter_le → Zw, map_take → Zz, flatMap_cons → ZF, filter_append → ZN, all_append → ZU, mem_append_left → ZW, getElem_take → ZX, getElem?_replicate → Z6, mem_flatMap → Z7, map_map → Z8, mem_cons_self → p', length_set → A', filter_congr → B', length_eraseIdx → D', extract_eq_take_drop → I', nodup_append → X', take_sublist → Y', getElem?_set → _a, length_singleton → _e
open Go.Lib renaming hid → Xk, join → YH, byteCells → Ze, strCells → ZA, cell_of_heap → H', joinTail → _c, join_nil → _q
open Go.World renaming size_alloc → Xr, heap_drewN → Xs, size_drew → Xu, cell? → YQ, cell?_of_block → Zn, setRow → ZK, ownsRow_nil → Q'
open _root_.Bool renaming and_eq_true → Xy, eq_iff_iff → Yl, and_self → Yn, and_true → Yz, true_and → YC, eq_false_iff → YK, false_eq_true → YY, or_eq_false_iff → Zo, not_eq_true' → ZV, false_or → Z0, and_assoc → Z'
open _root_.Nat renaming le_refl → XC, zero_add → XK, zero_le → XL, lt_or_ge → XO, reduceAdd → XU, reduceEqDiff → XW, add_zero → X0, mul_le_mul_right → Yo, sub_zero → Yr, lt_of_lt_of_le → Yt, le_trans → Yu, not_lt_zero → YT, lt_trichotomy → Y4, sub_self → Y8, add_assoc → Zd, eq_zero_or_pos → Zl, add_mul → Zu, zero_lt_succ → ZM, min → ZS, reduceLT → ZY, min_self → z', min_def → C', le_of_lt → G', lt_or_eq_of_le → _j, le_of_lt_succ → _l
open _root_.Option renaming map_eq_some_iff → XG, isSome_some → XJ, some → XX, map_some → Yg, getD_some → Yy, isSome_none → YL, bind_some → YW, map_none → Zi, isSome_iff_exists → Zy
open _root_.Array renaming getElem?_toList → X2, getElem?_eq_none → Yj, getElem?_eq_some_iff → Yq, getElem?_modify → Y0, replicate → Y9, length_toList → ZH, mem_of_getElem? → ZR, ext' → Z9, toList_append → N', toList_extract → _h
open _root_.ByteArray renaming mk → Yi, size_extract → Y7, size_append → Zb, ext → ZL, data_append → ZQ, data_extract → _b, append_assoc → _p
open _root_.Int renaming lt_irrefl → YZ, dvd_of_emod_eq_zero → ZG, tmod_eq_emod_of_nonneg → ZO, fdiv_eq_ediv_of_nonneg → ZP, pow_succ → _o
def gy (v:Vpc)(sub id:Int):Vpc × Int:=
 if cn v≠0 then (Vpc.zero,cn v)else
 match v.subs.findIdx? (fun s=>s.id==sub)with
 |none=>(Vpc.zero,5)
 |some i=>match v.subs[i]? with
  |none=>(Vpc.zero,5)
  |some s=>match s.faces.findIdx? (fun f=>f.id==id)with
   |none=>(Vpc.zero,5)
   |some k=>({v with subs:=v.subs.set i {s with faces:=s.faces.eraseIdx k}},0)
theorem Nu (v:Vpc)(sub id:Int):ae prog 112 [.agg (aD v),.v (.int .i64 sub),.v (.int .i64 id)] (.tup [.agg (aD (gy v sub id).1),.v (.int .i64 (gy v sub id).2)]):=by
 obtain⟨R,hR⟩:∃R,R=gy v sub id:=⟨_,rfl⟩;rw[←hR];replace hR:=Xk hR;by_cases hc:cn v=0
 ·have hk:=bc hc;have gB:=vx v sub id hk.n6 (fun s hs=>(hk.n8 s hs).1);have Ud:decide ((-1:Int) < 0)=true:=rfl;unfold xm at gB;cases hf:v.subs.findIdx? (fun s=>s.id==sub)with
  |none=>
   have cK:=lh v hc hk.n4 hk.n6 hk.n8;rw[hf]at gB;have hr:R=(Vpc.zero,5):=by rw[hR.out];unfold gy;rw[if_neg (by simpa using hc),hf]
   rw[hr];clear hr hR hf hc hk;refine pj func112 ntmps112 results112 ?_;have z1z:=Ln.mk (ls:=[]) (cK);refine ay ?_<;>intros;exact dg
  |some i=>
   obtain⟨pre,s,post,hv,oa,-,hs⟩:=nG hf;have qs:=Xl hs;have qt:=hk.n8 s qs;have cK:=xk v pre post s hv hc hk.n4 hk.n6 hk.n8;rw[hf]at gB;simp only at gB;unfold tM at gB;rw[hs]at gB;simp only[aD,hv,Xz,Xm,bI]at gB;unfold db at gB;have BM:v.subs.length=pre.length+1+post.length:=by rw[hv];simp;omega
   cases hg:s.faces.findIdx? (fun f=>f.id==id)with
   |none=>
    rw[hg]at gB;have hr:R=(Vpc.zero,5):=by rw[hR.out];unfold gy;rw[if_neg (by simpa using hc),hf];simp only;rw[hs];simp only;rw[hg]
    rw[hr];subst oa;clear hr hR hc hk hf hs qs hv hg;refine pj func112 ntmps112 results112 ?_;have z1z:=@fI.eq_1;have z2z:=Ln.mk (ls:=[]) (cK);refine ay ?_<;>intros;exact dg
   |some k=>
    rw[hg]at gB;have Kl:k < s.faces.length:=(XV.1 hg).1;have hr:R=({v with subs:=pre++{s with faces:=s.faces.eraseIdx k}::post},0):=by
     rw[hR.out];unfold gy;rw[if_neg (by simpa using hc),hf];simp only;rw[hs];simp only;rw[hg];simp only;rw[hv,←oa,Zc _ _ (XC _),Y8,Xv]
    have hd:=D2 (enc:=cX) s.faces k (k+1) s.faces.length Kl rfl;have dW:=wi k (by omega);have hk0:decide ((k:Int) < 0)=false:=by simp
    rw[hr];subst oa;clear hr hR hc hk hf hs qs hv hg;refine pj func112 ntmps112 results112 ?_;have z1z:=@fI.eq_1;have z2z:=Ln.mk (ls:=[]) (cK);have z3z:=Ln.mk (ls:=[8]) (hd);refine ay ?_<;>intros;all_goals(first|omega|(simp only[aD,bI,Xz,Xm];exact dg))
 ·have cK:=lg v hc;have UA:=tN sub id;have h1:(cn v !=0)=true:=by simpa using hc
  have hr:R=(Vpc.zero,cn v):=by rw[hR.out];unfold gy;rw[if_pos hc]
  rw[hr];replace hr:=Xk hr;refine pj func112 ntmps112 results112 ?_;have z1z:=Ln.mk (ls:=[]) (cK);refine ay ?_<;>intros;exact dg
theorem xn {used:List Int}{p:Pfx}:∀{n:Nat}{x a:Int},qX used p n x=some a→a∉used∧kL p a=true
 |0,x,a,h=>by cases h
 |n+1,x,a,h=>by
  unfold qX at h;split at h
  ·rename_i hi;split at h
   ·exact xn h
   ·rename_i hu;cases h;exact⟨hu,hi⟩
  ·cases h
def lQ (v:Vpc)(sub id:Int):Vpc × Int × Int:=
 if cn v≠0 then (Vpc.zero,0,cn v)else
 match v.subs.findIdx? (fun s=>s.id==sub)with
 |none=>(Vpc.zero,0,5)
 |some i=>match v.subs[i]? with
  |none=>(Vpc.zero,0,5)
  |some s=>match s.faces.findIdx? (fun f=>f.id==id)with
   |none=>(Vpc.zero,0,5)
   |some k=>match s.faces[k]? with
    |none=>(Vpc.zero,0,5)
    |some f=>if f.addrs.length=4 then (Vpc.zero,0,2)else match gF s with
     |none=>(Vpc.zero,0,8)
     |some a=>({v with subs:=v.subs.set i {s with faces:=s.faces.set k {f with addrs:=fw (fun x=>x) a f.addrs}}},a,0)
theorem TC (v:Vpc)(sub id:Int):ae prog 111 [.agg (aD v),.v (.int .i64 sub),.v (.int .i64 id)] (.tup [.agg (aD (lQ v sub id).1),.v (.int .i64 (lQ v sub id).2.1),.v (.int .i64 (lQ v sub id).2.2)]):=by
 obtain⟨R,hR⟩:∃R,R=lQ v sub id:=⟨_,rfl⟩;rw[←hR];replace hR:=Xk hR;by_cases hc:cn v=0
 ·have hk:=bc hc;have gB:=vx v sub id hk.n6 (fun s hs=>(hk.n8 s hs).1);have Ud:decide ((-1:Int) < 0)=true:=rfl;unfold xm at gB;cases hf:v.subs.findIdx? (fun s=>s.id==sub)with
  |none=>
   have cK:=lh v hc hk.n4 hk.n6 hk.n8;rw[hf]at gB;have hr:R=(Vpc.zero,0,5):=by rw[hR.out];unfold lQ;rw[if_neg (by simpa using hc),hf]
   rw[hr];clear hr hR hf hc hk;refine pj func111 ntmps111 results111 ?_;have z1z:=Ln.mk (ls:=[]) (cK);refine ay ?_<;>intros;exact dg
  |some i=>
   obtain⟨pre,s,post,hv,oa,-,hs⟩:=nG hf;have qs:=Xl hs;obtain⟨s1,s2,s3,s4⟩:=Ai hk qs;have qt:=hk.n8 s qs;rw[hf]at gB;simp only at gB;unfold tM at gB;rw[hs]at gB;have BM:v.subs.length=pre.length+1+post.length:=by rw[hv];simp;omega
   cases hg:s.faces.findIdx? (fun f=>f.id==id)with
   |none=>
    have cK:=xk v pre post s hv hc hk.n4 hk.n6 hk.n8;simp only[aD,hv,Xz,Xm,bI]at gB;unfold db at gB;rw[hg]at gB;have hr:R=(Vpc.zero,0,5):=by rw[hR.out];unfold lQ;rw[if_neg (by simpa using hc),hf];simp only;rw[hs];simp only;rw[hg]
    rw[hr];subst oa;clear hr hR hc hk hf hs qs hv hg;refine pj func111 ntmps111 results111 ?_;have z1z:=@fI.eq_1;have z2z:=Ln.mk (ls:=[]) (cK);refine ay ?_<;>intros;exact dg
   |some k=>
    obtain⟨preF,f,postF,RZ,R0,-,GS⟩:=nG hg;have fV:=Xl GS;have cK:=Np v pre post s preF postF f hv RZ hc hk.n4 hk.n6 hk.n8;have hle:=HI s qt.1 qt.2 s1 s2;have jC:=qt.2 f fV;simp only[bI,RZ,Xz,Xm,cX]at hle;simp only[aD,hv,Xz,Xm,bI]at gB;unfold db at gB;rw[hg]at gB;simp only[RZ,Xz,Xm,cX]at gB;have a1c:s.faces.length=preF.length+1+postF.length:=by rw[RZ];simp;omega
    have hk0:decide ((k:Int) < 0)=false:=by simp
    have cJ:R=if f.addrs.length=4 then ((Vpc.zero,0,2):Vpc × Int × Int)else match gF s with
     |none=>(Vpc.zero,0,8)
     |some a=>({v with subs:=pre++{s with faces:=preF++{f with addrs:=fw (fun x=>x) a f.addrs}::postF}::post},a,0):=by
     rw[hR.out];unfold lQ;rw[if_neg (by simpa using hc),hf];simp only;rw[hs];simp only;rw[hg];simp only;rw[GS];simp only;split
     ·rfl
     ·cases gF s with
      |none=>rfl
      |some a=>
       simp only;rw[hv,←oa,Zc _ _ (XC _),Y8,Xv];rw[RZ,←R0,Zc _ _ (XC _),Y8,Xv]
    by_cases h4:f.addrs.length=4
    ·rw[if_pos h4]at cJ;have h4b:((f.addrs.length:Int)==4)=true:=by simp;omega
     rw[cJ];subst oa;subst R0;clear hR cJ hc hk hf hs qs hv hg GS fV;refine pj func111 ntmps111 results111 ?_;have z1z:=@fI.eq_1;have z2z:=@j4.eq_1;have z3z:=Ln.mk (ls:=[]) (cK);refine ay ?_<;>intros;all_goals(first|omega|exact dg)
    ·rw[if_neg h4]at cJ;have h4b:((f.addrs.length:Int)==4)=false:=by simp;omega
     cases hl:gF s with
     |none=>
      rw[hl]at cJ hle;simp only[Option.getD_none,YL]at hle;rw[cJ];subst oa;subst R0;clear hR cJ hc hk hf hs qs hv hg GS fV;refine pj func111 ntmps111 results111 ?_;have z1z:=@fI.eq_1;have z2z:=@j4.eq_1;have z3z:=Ln.mk (ls:=[]) (cK);refine ay ?_<;>intros;all_goals(first|omega|exact dg)
     |some a=>
      rw[hl]at cJ hle;simp only[Yy,XJ]at hle;have SB:a∉f.addrs:=fun h=>(xn hl).1 (Z7.2 ⟨f,fV,h⟩);have WP:f.addrs.Pairwise fun x y=>x < y:=by
       have:=s4 f fV;unfold kM at this;simp only[Xy,fQ]at this;exact this.2.2.1
      have oq:=Nt (l:=f.addrs++[a]) (l':=fw (fun x=>x) a f.addrs) 2 (by simp) (fR _ _ _) (fJ WP (fun y hy e=>SB (e ▸ hy))) (by simp;omega);simp only[Xz,Xm,Xx]at oq;have pT:f.addrs.length+1≤100:=by omega
      rw[cJ];subst oa;subst R0;clear hR cJ hc hk hf hs qs hv hg GS fV SB WP hl;refine pj func111 ntmps111 results111 ?_;have z1z:=@fI.eq_1;have z2z:=@j4.eq_1;have z3z:=Ln.mk (ls:=[]) (cK);have z4z:=Ln.mk (ls:=[10]) (oq);refine ay ?_<;>intros;all_goals(first|omega|(simp only[aD,bI,cX,Xz,Xm];exact dg))
 ·have cK:=lg v hc;have UA:=tN sub id;have h1:(cn v !=0)=true:=by simpa using hc
  have hr:R=(Vpc.zero,0,cn v):=by rw[hR.out];unfold lQ;rw[if_pos hc]
  rw[hr];replace hr:=Xk hr;refine pj func111 ntmps111 results111 ?_;have z1z:=Ln.mk (ls:=[]) (cK);refine ay ?_<;>intros;exact dg
def UP (b:Bok)(n:Net)(c:Cmd)(a:Ans):List D:=[.v (.int .i64 b.tick),.sl 9 (b.pools.map am),.sl 3 (n.vpcs.map aD),.sl 2 (n.links.map cT),.v (.int .i64 c.op),.v (.int .i64 c.a),.v (.int .i64 c.b),.v (.int .i64 c.c),.v (.int .i64 c.at_.at_),.v (.int .i64 c.at_.len),.v (.int .i64 c.rule.min),.v (.int .i64 c.rule.max),.v (.int .i64 c.rule.usual),.v (.int .i64 c.rule.cool),.v (.int .i64 a.err),.v (.int .i64 a.at_.at_),.v (.int .i64 a.at_.len),.v (.int .i64 a.n)]
theorem xo (b:Bok)(n:Net)(c:Cmd)(a:Ans)(v:Vpc):ae prog 182 [.agg (aD v),.ept [.ept (UP b n c a)]] (.v (.bool (v.id==c.a))):=by
 unfold UP;refine pj func182 ntmps182 results182 ?_;exact bo
theorem JL (b:Bok)(n:Net)(c:Cmd)(h6:n.vpcs.length≤1000000000)(k:Nat)(hk:db (fun v=>v.id==c.a) n.vpcs=k)(hlt:k < n.vpcs.length):
 MSpec prog 105 [.ptr 0 0] [.box 128 (iN b (.own 1 n.vpcs.length) (.d (.sl 2 (n.links.map cT))) c .zero),.row 88 3 n.vpcs.length (ab (n.vpcs.map aD))] (.rp 1 n.vpcs.length 3 k 0)
  [.box 128 (iN b (.own 1 n.vpcs.length) (.d (.sl 2 (n.links.map cT))) c .zero),.row 88 3 n.vpcs.length (ab (n.vpcs.map aD))]:=by
 have hx:=w7 ij (fun v=>v.id==c.a) n.vpcs 182 [.ept [.ept (UP b n c .zero)]] h6 (fun v _=>xo b n c .zero v);unfold UP at hx;rw[hk]at hx;clear hk;have e1:decide ((k:Int) < 0)=false:=by simp
 have fy:(k:Int) < (n.vpcs.length:Int):=by omega
 refine im af al func105 rfl ntmps105 results105 (by kernel_rfl) (by simp) (by simp[ai,aj]) (by simp[az,aH,ai,aj,iN,aM,aq]) ?_;refine ay ?_;exact wf
theorem Gd (b:Bok)(n:Net)(c:Cmd)(h6:n.vpcs.length≤1000000000)(hk:db (fun v=>v.id==c.a) n.vpcs < 0):
 MSpec prog 105 [.ptr 0 0] [.box 128 (iN b (.own 1 n.vpcs.length) (.d (.sl 2 (n.links.map cT))) c .zero),.row 88 3 n.vpcs.length (ab (n.vpcs.map aD))] (.d (.v (.pointer none)))
  [.box 128 (iN b (.own 1 n.vpcs.length) (.d (.sl 2 (n.links.map cT))) c .zero),.row 88 3 n.vpcs.length (ab (n.vpcs.map aD))]:=by
 have hx:=w7 ij (fun v=>v.id==c.a) n.vpcs 182 [.ept [.ept (UP b n c .zero)]] h6 (fun v _=>xo b n c .zero v);unfold UP at hx;have e1:decide (db (fun v=>v.id==c.a) n.vpcs < 0)=true:=by simpa using hk
 replace hk:=Xk hk;generalize db (fun v=>v.id==c.a) n.vpcs=i at*;refine im af al func105 rfl ntmps105 results105 (by kernel_rfl) (by simp) (by simp[ai,aj]) (by simp[az,aH,ai,aj,iN,aM,aq]) ?_;refine ay ?_;exact wf
def nH (b:Bok)(n:Net)(c:Cmd)(i:Nat)(v:Vpc):Bok × Net × Ans:=
 if c.op=8 then
  if (fX b c.b c.c c.a).2.2=0 then ((fX b c.b c.c c.a).1,(nT n c.a ⟨(fX b c.b c.c c.a).2.1,c.b⟩).1,⟨(nT n c.a ⟨(fX b c.b c.c c.a).2.1,c.b⟩).2,(fX b c.b c.c c.a).2.1,0⟩)
  else ((fX b c.b c.c c.a).1,n,⟨(fX b c.b c.c c.a).2.2,(fX b c.b c.c c.a).2.1,0⟩)
 else if c.op=9 then
  if (iB v c.at_).2.2=0 then ((lc b (iB v c.at_).2.1.pool (iB v c.at_).2.1.at_).1,{n with vpcs:=n.vpcs.set i (iB v c.at_).1},.er (lc b (iB v c.at_).2.1.pool (iB v c.at_).2.1.at_).2)
  else (b,{n with vpcs:=n.vpcs.set i (iB v c.at_).1},.er (iB v c.at_).2.2)
 else if c.op=10 then (b,{n with vpcs:=n.vpcs.set i (yJ v c.b c.at_).1},.er (yJ v c.b c.at_).2)
 else if c.op=11 then (b,{n with vpcs:=n.vpcs.set i (jJ v c.b).1},.er (jJ v c.b).2)
 else if c.op=12 then (b,{n with vpcs:=n.vpcs.set i (mQ v c.b c.c).1},⟨(mQ v c.b c.c).2.2,⟨0,0⟩,(mQ v c.b c.c).2.1⟩)
 else if c.op=13 then (b,{n with vpcs:=n.vpcs.set i (lQ v c.b c.c).1},⟨(lQ v c.b c.c).2.2,⟨0,0⟩,(lQ v c.b c.c).2.1⟩)
 else (b,{n with vpcs:=n.vpcs.set i (gy v c.b c.c).1},.er (gy v c.b c.c).2)
def jK (b:Bok)(n:Net)(c:Cmd):Bok × Net × Ans:=
 if db (fun v=>v.id==c.a) n.vpcs < 0 then (b,n,.er 5)else
 match n.vpcs[(db (fun v=>v.id==c.a) n.vpcs).toNat]? with
 |some v=>nH b n c (db (fun v=>v.id==c.a) n.vpcs).toNat v
 |none=>(b,n,.er 5)
theorem Nv (b:Bok)(n:Net)(c:Cmd)(h6:n.vpcs.length≤1000000000)(hk:db (fun v=>v.id==c.a) n.vpcs < 0):
 MSpec prog 53 [.ptr 0 0] [.box 128 (iN b (.own 1 n.vpcs.length) (.d (.sl 2 (n.links.map cT))) c .zero),.row 88 3 n.vpcs.length (ab (n.vpcs.map aD))] (.d (.tup []))
  [.box 128 (iN b (.d (.sl 3 (n.vpcs.map aD))) (.d (.sl 2 (n.links.map cT))) c (.er 5)),.gone]:=by
 have hw:=Lr.mk (ls:=[0,1]) (Gd b n c h6 hk);simp only[iN]at hw;clear hk h6;refine im af al func53 rfl ntmps53 results53 (by kernel_rfl) (by simp) (by simp[ai,aj]) (by simp[az,aH,ai,aj,iN,aM,aq]) ?_;refine ay ?_;refine(aA 1 n.vpcs.length 88 3 (n.vpcs.map aD) rfl).trans ?_;simp only[lG,fz,jE,iL,kG,iV,bg,cG,cS,Xm,Xx,XU,XW,reduceIte,and_true,true_and,and_self,and_false,false_and,XK,X0,reduceCtorEq];exact wf
theorem Nw (b:Bok)(n:Net)(c:Cmd)(hz:∀p∈b.pools,p.leases.length≤3518437208882)(h6:n.vpcs.length≤1000000000)(k:Nat)(hk:db (fun v=>v.id==c.a) n.vpcs=k)(v:Vpc)(hv:n.vpcs[k]? =some v)(ho:8≤c.op∧c.op≤14):
 MSpec prog 53 [.ptr 0 0] [.box 128 (iN b (.own 1 n.vpcs.length) (.d (.sl 2 (n.links.map cT))) c .zero),.row 88 3 n.vpcs.length (ab (n.vpcs.map aD))] (.d (.tup []))
  [.box 128 (iN (nH b n c k v).1 (.d (.sl 3 ((nH b n c k v).2.1.vpcs.map aD))) (.d (.sl 2 ((nH b n c k v).2.1.links.map cT))) c (nH b n c k v).2.2),.gone]:=by
 have hlt:=(Xo.1 hv).1;have fy:(k:Int) < (n.vpcs.length:Int):=by omega
 have hw:=Lr.mk (ls:=[0,1]) (JL b n c h6 k hk hlt);simp only[iN]at hw;have l9:c.op=8∨c.op=9∨c.op=10∨c.op=11∨c.op=12∨c.op=13∨c.op=14:=by omega
 clear ho hk h6;unfold nH;rcases l9 with h1|h1|h1|h1|h1|h1|h1
 ·rw[if_pos h1];have hp:=MX b c.b c.c c.a hz;generalize fX b c.b c.c c.a=R at*;replace hz:=Xk hz;rw[h1]at hw;by_cases h2:R.2.2=0
  ·rw[if_pos h2];have hg:=Ln.mk (ls:=[1]) (tu (QB n c.a ⟨R.2.1,c.b⟩) (args:=[.agg [.own 0 n.vpcs.length,.d (.sl 2 (n.links.map cT))],.d (.v (.int .i64 c.a)),.d (.agg (cq ⟨R.2.1,c.b⟩))]) (h0:=[.row 88 3 n.vpcs.length (ab (n.vpcs.map aD))]) (by simp[ai,aj]) (by simp[az,aH,aq]) (by simp[vw,cA,aS,aw,d6,eI]) (by simp[tc,iI,cO,aw,nf]));generalize nT n c.a ⟨R.2.1,c.b⟩=G at*;refine im af al func53 rfl ntmps53 results53 (by kernel_rfl) (by simp) (by simp[ai,aj]) (by simp[az,aH,ai,aj,iN,aM,aq]) ?_;refine ay ?_;exact wf
  ·rw[if_neg h2];have e2:(R.2.2==0)=false:=by simpa using h2
   replace h2:=Xk h2;refine im af al func53 rfl ntmps53 results53 (by kernel_rfl) (by simp) (by simp[ai,aj]) (by simp[az,aH,ai,aj,iN,aM,aq]) ?_;refine ay ?_;refine(aA 1 n.vpcs.length 88 3 (n.vpcs.map aD) rfl).trans ?_;simp only[lG,fz,jE,iL,kG,iV,bg,cG,cS,Xm,Xx,XU,XW,reduceIte,and_true,true_and,and_self,and_false,false_and,XK,X0,reduceCtorEq];exact wf
 ·rw[if_neg (by omega),if_pos h1];have hp:=QL v c.at_;generalize iB v c.at_=R at*;have hg:=MY b R.2.1.pool R.2.1.at_ hz;replace hz:=Xk hz;rw[h1]at hw;by_cases h2:R.2.2=0
  ·rw[if_pos h2];generalize lc b R.2.1.pool R.2.1.at_=G at*;have bO:(ab (n.vpcs.map aD)).set k [.d (.v (.int .i64 R.1.id)),.d (.sl 3 (R.1.ranges.map cq)),.d (.sl 4 (R.1.subs.map bI))]=ab ((n.vpcs.set k R.1).map aD):=cL aD n.vpcs k R.1;refine im af al func53 rfl ntmps53 results53 (by kernel_rfl) (by simp) (by simp[ai,aj]) (by simp[az,aH,ai,aj,iN,aM,aq]) ?_;refine ay ?_;refine(aA 1 n.vpcs.length 88 3 ((n.vpcs.set k R.1).map aD) rfl).trans ?_;simp only[lG,fz,jE,iL,kG,iV,bg,cG,cS,Xm,Xx,XU,XW,reduceIte,and_true,true_and,and_self,and_false,false_and,XK,X0,reduceCtorEq];exact wf
  ·rw[if_neg h2];have e2:(R.2.2==0)=false:=by simpa using h2
   replace h2:=Xk h2;clear hg;have bO:(ab (n.vpcs.map aD)).set k [.d (.v (.int .i64 R.1.id)),.d (.sl 3 (R.1.ranges.map cq)),.d (.sl 4 (R.1.subs.map bI))]=ab ((n.vpcs.set k R.1).map aD):=cL aD n.vpcs k R.1;refine im af al func53 rfl ntmps53 results53 (by kernel_rfl) (by simp) (by simp[ai,aj]) (by simp[az,aH,ai,aj,iN,aM,aq]) ?_;refine ay ?_;refine(aA 1 n.vpcs.length 88 3 ((n.vpcs.set k R.1).map aD) rfl).trans ?_;simp only[lG,fz,jE,iL,kG,iV,bg,cG,cS,Xm,Xx,XU,XW,reduceIte,and_true,true_and,and_self,and_false,false_and,XK,X0,reduceCtorEq];exact wf
 ·rw[if_neg (by omega),if_neg (by omega),if_pos h1];have hp:=TB v c.b c.at_;generalize yJ v c.b c.at_=R at*;replace hz:=Xk hz;rw[h1]at hw;have bO:(ab (n.vpcs.map aD)).set k [.d (.v (.int .i64 R.1.id)),.d (.sl 3 (R.1.ranges.map cq)),.d (.sl 4 (R.1.subs.map bI))]=ab ((n.vpcs.set k R.1).map aD):=cL aD n.vpcs k R.1;refine im af al func53 rfl ntmps53 results53 (by kernel_rfl) (by simp) (by simp[ai,aj]) (by simp[az,aH,ai,aj,iN,aM,aq]) ?_;refine ay ?_;refine(aA 1 n.vpcs.length 88 3 ((n.vpcs.set k R.1).map aD) rfl).trans ?_;simp only[lG,fz,jE,iL,kG,iV,bg,cG,cS,Xm,Xx,XU,XW,reduceIte,and_true,true_and,and_self,and_false,false_and,XK,X0,reduceCtorEq];exact wf
 ·rw[if_neg (by omega),if_neg (by omega),if_neg (by omega),if_pos h1];have hp:=QM v c.b;generalize jJ v c.b=R at*;replace hz:=Xk hz;rw[h1]at hw;have bO:(ab (n.vpcs.map aD)).set k [.d (.v (.int .i64 R.1.id)),.d (.sl 3 (R.1.ranges.map cq)),.d (.sl 4 (R.1.subs.map bI))]=ab ((n.vpcs.set k R.1).map aD):=cL aD n.vpcs k R.1;refine im af al func53 rfl ntmps53 results53 (by kernel_rfl) (by simp) (by simp[ai,aj]) (by simp[az,aH,ai,aj,iN,aM,aq]) ?_;refine ay ?_;refine(aA 1 n.vpcs.length 88 3 ((n.vpcs.set k R.1).map aD) rfl).trans ?_;simp only[lG,fz,jE,iL,kG,iV,bg,cG,cS,Xm,Xx,XU,XW,reduceIte,and_true,true_and,and_self,and_false,false_and,XK,X0,reduceCtorEq];exact wf
 ·rw[if_neg (by omega),if_neg (by omega),if_neg (by omega),if_neg (by omega),if_pos h1];have hp:=QO v c.b c.c;generalize mQ v c.b c.c=R at*;replace hz:=Xk hz;rw[h1]at hw;have bO:(ab (n.vpcs.map aD)).set k [.d (.v (.int .i64 R.1.id)),.d (.sl 3 (R.1.ranges.map cq)),.d (.sl 4 (R.1.subs.map bI))]=ab ((n.vpcs.set k R.1).map aD):=cL aD n.vpcs k R.1;refine im af al func53 rfl ntmps53 results53 (by kernel_rfl) (by simp) (by simp[ai,aj]) (by simp[az,aH,ai,aj,iN,aM,aq]) ?_;refine ay ?_;refine(aA 1 n.vpcs.length 88 3 ((n.vpcs.set k R.1).map aD) rfl).trans ?_;simp only[lG,fz,jE,iL,kG,iV,bg,cG,cS,Xm,Xx,XU,XW,reduceIte,and_true,true_and,and_self,and_false,false_and,XK,X0,reduceCtorEq];exact wf
 ·rw[if_neg (by omega),if_neg (by omega),if_neg (by omega),if_neg (by omega),if_neg (by omega),if_pos h1];have hp:=TC v c.b c.c;generalize lQ v c.b c.c=R at*;replace hz:=Xk hz;rw[h1]at hw;have bO:(ab (n.vpcs.map aD)).set k [.d (.v (.int .i64 R.1.id)),.d (.sl 3 (R.1.ranges.map cq)),.d (.sl 4 (R.1.subs.map bI))]=ab ((n.vpcs.set k R.1).map aD):=cL aD n.vpcs k R.1;refine im af al func53 rfl ntmps53 results53 (by kernel_rfl) (by simp) (by simp[ai,aj]) (by simp[az,aH,ai,aj,iN,aM,aq]) ?_;refine ay ?_;refine(aA 1 n.vpcs.length 88 3 ((n.vpcs.set k R.1).map aD) rfl).trans ?_;simp only[lG,fz,jE,iL,kG,iV,bg,cG,cS,Xm,Xx,XU,XW,reduceIte,and_true,true_and,and_self,and_false,false_and,XK,X0,reduceCtorEq];exact wf
 ·rw[if_neg (by omega),if_neg (by omega),if_neg (by omega),if_neg (by omega),if_neg (by omega),if_neg (by omega)];have hp:=Nu v c.b c.c;generalize gy v c.b c.c=R at*;replace hz:=Xk hz;rw[h1]at hw;have bO:(ab (n.vpcs.map aD)).set k [.d (.v (.int .i64 R.1.id)),.d (.sl 3 (R.1.ranges.map cq)),.d (.sl 4 (R.1.subs.map bI))]=ab ((n.vpcs.set k R.1).map aD):=cL aD n.vpcs k R.1;refine im af al func53 rfl ntmps53 results53 (by kernel_rfl) (by simp) (by simp[ai,aj]) (by simp[az,aH,ai,aj,iN,aM,aq]) ?_;refine ay ?_;refine(aA 1 n.vpcs.length 88 3 ((n.vpcs.set k R.1).map aD) rfl).trans ?_;simp only[lG,fz,jE,iL,kG,iV,bg,cG,cS,Xm,Xx,XU,XW,reduceIte,and_true,true_and,and_self,and_false,false_and,XK,X0,reduceCtorEq];exact wf
theorem JM {α:Type}(p:α→Bool)(l:List α):db p l < 0∨∃(k:Nat) (x:α),db p l=k∧l[k]? =some x:=by
 unfold db;cases h:l.findIdx? p with
 |none=>left;simp
 |some k=>
  right;have hk:=(XV.1 h).1;exact⟨k,_,rfl,Xj hk⟩
theorem QP (b:Bok)(n:Net)(c:Cmd)(hz:∀p∈b.pools,p.leases.length≤3518437208882)(h6:n.vpcs.length≤1000000000)(ho:8≤c.op∧c.op≤14):
 MSpec prog 53 [.ptr 0 0] [.box 128 (iN b (.own 1 n.vpcs.length) (.d (.sl 2 (n.links.map cT))) c .zero),.row 88 3 n.vpcs.length (ab (n.vpcs.map aD))] (.d (.tup []))
  [.box 128 (iN (jK b n c).1 (.d (.sl 3 ((jK b n c).2.1.vpcs.map aD))) (.d (.sl 2 ((jK b n c).2.1.links.map cT))) c (jK b n c).2.2),.gone]:=by
 unfold jK;rcases JM (fun v:Vpc=>v.id==c.a) n.vpcs with h|⟨k,v,hk,hv⟩
 ·rw[if_pos h];exact Nv b n c h6 h
 ·rw[hk,if_neg (by omega),Int.toNat_natCast,hv];exact Nw b n c hz h6 k hk v hv ho
def JN (s:Ste)(c:Cmd):Ste × Ans:=
 if 1≤c.op∧c.op≤6 then (⟨(qi s.book s.net.vpcs c).1,s.net⟩,(qi s.book s.net.vpcs c).2)
 else if D1 c=true then (⟨s.book,(Bm s.book s.net c).1⟩,(Bm s.book s.net c).2)
 else if 8≤c.op∧c.op≤14 then (⟨(jK s.book s.net c).1,(jK s.book s.net c).2.1⟩,(jK s.book s.net c).2.2)
 else (s,.er 4)
def Bo (s:Ste)(c:Cmd):Ste × Ans × Int:=
 if eP s≠0 then (.zero,.zero,eP s)
 else if (JN s c).2.err≠0 then (s,.er (JN s c).2.err,0)else ((JN s c).1,(JN s c).2,0)
theorem xp {s:Ste}(h:eP s=0):bx s.book=0∧dy s.net=0:=by
 unfold eP at h;split at h
 ·rename_i h1;exact absurd h h1
 ·rename_i h1;split at h
  ·rename_i h2;exact absurd h h2
  ·rename_i h2;exact⟨by simpa using h1,by simpa using h2⟩
theorem Vz (s:Ste)(c:Cmd)(hz:∀p∈s.book.pools,p.leases.length≤3518437208882):ae prog 24 [.agg (dR s),.agg (oN c)] (.tup [.agg (dR (Bo s c).1),.agg (G9 (Bo s c).2.1),.v (.int .i64 (Bo s c).2.2)]):=by
 have hc:=w9 s hz;unfold Bo;by_cases h:eP s=0
 ·rw[if_neg (by simpa using h)];rw[h]at hc;obtain⟨GC,BP⟩:=xp h;have Ig:=eD GC;have cB:=iM.1 BP;have n8:=Ig.n8;have iG:=Ig.l32;have n6:=cB.n6;have Uv:∀v∈s.net.vpcs,v.ranges.length≤1000000000:=fun v hv=>by have:=(bc (cB.vp v hv)).n4;omega
  have how:=Ln.mk (ls:=[]) (Tt s Ig cB);have dv:=Ln.mk (ls:=[10,9]) (Ts s.book s.net.vpcs s.net.links c hz n6 Uv);clear h GC BP Ig cB Uv;unfold JN;by_cases l9:1≤c.op∧c.op≤6
  ·rw[if_pos l9];rw[decide_eq_true l9]at dv;replace l9:=Xk l9;replace hz:=Xk hz;replace iG:=Xk iG;generalize qi s.book s.net.vpcs c=X at*;simp only[iN,Ans.zero]at dv;by_cases he:X.2.err=0
   ·rw[if_neg (by simpa using he)];have e0:(X.2.err !=0)=false:=by simpa using he
    replace he:=Xk he;refine pj func24 ntmps24 results24 ?_;first|exact bo|(refine ay ?_;exact dz)
   ·rw[if_pos (by simpa using he)];have e0:(X.2.err !=0)=true:=by simpa using he
    replace he:=Xk he;refine pj func24 ntmps24 results24 ?_;first|exact bo|(refine ay ?_;exact dz)
  rw[if_neg l9];rw[decide_eq_false l9]at dv;have RT:qi s.book s.net.vpcs c=(s.book,.zero):=by unfold qi;rw[if_neg (by omega),if_neg (by omega),if_neg (by omega),if_neg (by omega),if_neg (by omega),if_neg (by omega)]
  rw[RT]at dv;clear RT;cases SH:D1 c with
  |true=>
   rw[if_pos rfl];have hnm:=Ln.mk (ls:=[10,9]) (Ty s.book s.net c (by omega) (fun p hp=>by have:=iG p hp;omega) SH);replace l9:=Xk l9;replace hz:=Xk hz;replace iG:=Xk iG;replace SH:=Xk SH;generalize Bm s.book s.net c=X at*;simp only[iN,Ans.zero]at dv hnm;by_cases he:X.2.err=0
   ·rw[if_neg (by simpa using he)];have e0:(X.2.err !=0)=false:=by simpa using he
    replace he:=Xk he;refine pj func24 ntmps24 results24 ?_;first|exact bo|(refine ay ?_;exact dz)
   ·rw[if_pos (by simpa using he)];have e0:(X.2.err !=0)=true:=by simpa using he
    replace he:=Xk he;refine pj func24 ntmps24 results24 ?_;first|exact bo|(refine ay ?_;exact dz)
  |false=>
   rw[if_neg Bool.false_ne_true];have hnm:=Ln.mk (ls:=[10,9]) (Tx s.book s.net c SH);by_cases OC:8≤c.op∧c.op≤14
   ·rw[if_pos OC];have fl:=Ln.mk (ls:=[10,9]) (QP s.book s.net c hz (by omega) OC);have e1:decide (c.op < 8)=false:=by simp;omega
    have e2:decide (c.op>14)=false:=by simp;omega
    replace l9:=Xk l9;replace hz:=Xk hz;replace iG:=Xk iG;replace SH:=Xk SH;replace OC:=Xk OC;generalize jK s.book s.net c=X at*;simp only[iN,Ans.zero]at dv hnm fl;by_cases he:X.2.2.err=0
    ·rw[if_neg (by simpa using he)];have e0:(X.2.2.err !=0)=false:=by simpa using he
     replace he:=Xk he;refine pj func24 ntmps24 results24 ?_;first|exact bo|(refine ay ?_;exact dz)
    ·rw[if_pos (by simpa using he)];have e0:(X.2.2.err !=0)=true:=by simpa using he
     replace he:=Xk he;refine pj func24 ntmps24 results24 ?_;first|exact bo|(refine ay ?_;exact dz)
   ·rw[if_neg OC];rw[if_pos (by simp[Ans.er])];replace hz:=Xk hz;replace iG:=Xk iG;replace SH:=Xk SH;replace l9:=Xk l9;simp only[iN,Ans.zero]at dv hnm;by_cases h8:c.op < 8
    ·have e1:decide (c.op < 8)=true:=by simpa using h8
     replace h8:=Xk h8;replace OC:=Xk OC;refine pj func24 ntmps24 results24 ?_;first|exact bo|(refine ay ?_;exact dz)
    ·have e1:decide (c.op < 8)=false:=by simpa using h8
     have e2:decide (c.op>14)=true:=by simp;omega
     replace h8:=Xk h8;replace OC:=Xk OC;refine pj func24 ntmps24 results24 ?_;first|exact bo|(refine ay ?_;exact dz)
 ·rw[if_pos h];have e1:(eP s !=0)=true:=by simpa using h
  generalize eP s=X at*;replace h:=Xk h;refine pj func24 ntmps24 results24 ?_;refine ay ?_;exact dz
theorem JO (p:Pol)(hb:p.leases.length≤3518437208882):ae prog 68 [.agg (am p)] (.agg (IT p.root (p.leases.map (·.at_)))):=by
 refine pj func68 ntmps68 results68 ?_;refine ay ?_<;>intros;refine cf af al (fun m e h=>∃k g:Nat,k≤p.leases.length∧m=p.leases.length - k∧e=[(4,.d (.v (.int .i64 k))),(3,.ptr 2 0),(2,.ptr 1 0),(1,.ptr 0 0)]∧
  h=[.box 83 ((am p).map .d),.box 149 [.d (.v (.int .i64 0)),.d (.v (.int .i64 0)),.d (.v (.slice none 0 0))],.box 149 [.d (.v (.int .i64 p.root.at_)),.d (.v (.int .i64 p.root.len)),.own 3 g],.row 23 2 g (ab (((p.leases.map (·.at_)).take k).map aK))]) _ _ _ ⟨0,0,XL _,rfl,rfl,rfl⟩ ?_ ?_
 ·exact(aL (by simp) 2 _ _ 2 _ _ rfl rfl rfl).trans (wf (x:=[]) (hh:=rfl) (he:=⟨rfl,rfl,rfl,rfl,trivial⟩))
 ·rintro m e h ⟨k,g,hk,rfl,rfl,rfl⟩ C hC;by_cases hlt:k < p.leases.length
  ·obtain⟨l,hl⟩:∃l,p.leases[k]? =some l:=⟨_,Xj hlt⟩;have ec:(k:Int) < (p.leases.length:Int):=by omega
   have dW:=wi k (by omega);have sF:(((p.leases.map (·.at_)).take k).length+1)*16≤140737488355328:=by rw[Xp,XF];omega
   repeat' (first|(with_reducible refine And.intro ?_ ?_)|(with_reducible refine dO (fun _=>?_) (fun _=>?_))|(with_reducible refine aN (fun _=>?_) (fun _=>?_))|(with_reducible refine cg (by kernel_rfl))|simp -dsimp only[go_sem,seval, *,am,aQ,hl,hlt,ec,dW,sF,Xp]|((with_reducible refine ci ?_);simp -dsimp only[go_sem,seval,am,aQ,hl,hlt,ec,dW,sF,Xp];first|refine aP (by first|assumption|fail) (by first|exact .inl rfl|exact .inr rfl) ?_|(refine aO (by assumption) ?_ ?_ ?_;(solve|(repeat(first|exact ap.refl _|exact ap.nil _|(refine ap.tup ?_)|(refine ap.agg ?_ rfl)|exact trivial|(refine And.intro ?_ ?_))));(solve|exact .inl rfl|exact .inr rfl)))|fail|omega|exact decide_eq_true (by omega)|exact ap.refl _)
   have UX:(p.leases.map (·.at_)).take (k+1)=(p.leases.map (·.at_)).take k++[l.at_]:=ah (by rw[XA,hl];rfl);refine hC _ _ _ _ _ ?_ ⟨k+1,g+1,hlt,rfl,rfl,rfl⟩ (wf (x:=[]) (hh:=?_) (he:=⟨rfl,rfl,rfl,rfl,trivial⟩))
   ·omega
   ·rw[UX,Xz];rfl
  ·obtain rfl:k=p.leases.length:=by omega
   refine ay ?_<;>intros;rw[XI (by simp)];all_goals exact ap.refl _
theorem pb {a b:Bool}(h:b=a):ap (.v (.bool a)) (.v (.bool b)):=h ▸ ap.refl _
theorem ux {a b:Int}(h:b=a):ap (.v (.int .i64 a)) (.v (.int .i64 b)):=h ▸ ap.refl _
theorem li (n lo hi:Int):ae prog 55 [.v (.int .i64 n),.v (.int .i64 lo),.v (.int .i64 hi)] (.v (.bool (decide (lo≤n)&&decide (n≤hi)))):=by
 refine pj func55 ntmps55 results55 ?_;exact bo;all_goals exact pb (by grind)
theorem Ge (r:Rul)(p:Pfx):ae prog 69 [.agg (A4 r),.agg (aK p)] (.v (.bool (iy r p.len))):=by
 have hw:=li r.cool 0 1024;have he:iy r p.len=((decide (p.len≤r.min)&&(decide (r.min≤r.usual)&&(decide (r.usual≤r.max)&&decide (r.max≤16))))&&(decide (0≤r.cool)&&decide (r.cool≤1024))):=by
  unfold iy;congr 1;simp[iw]
 replace he:=Xk he;refine pj func69 ntmps69 results69 ?_;refine rY ?_ ?_ ?_ ?_ ?_ ?_ ?_ ?_<;>first|(with_reducible exact True.intro)|intros
 all_goals exact pb (by rw[he.out];clear hw;grind)
def Sh (b:Bok)(id:Int):Int:=match b.pools.findIdx? fun p=>p.id==id with|some i=>i|none=> -1
theorem QQ {b:Bok}{id:Int}{k:Nat}{p:Pol}(hp:b.pools[k]? =some p)(hid:p.id=id)(cB:∀j q,j < k→b.pools[j]? =some q→q.id≠id):Sh b id=k:=by
 unfold Sh;have:b.pools.findIdx? (fun p=>p.id==id)=some k:=by
  obtain⟨hk,he⟩:=Xo.1 hp;rw[XV];refine⟨hk,by rw[he];simpa using hid,fun j hj=>?_⟩;have:=cB j _ hj (Xj (Nat.lt_trans hj hk));simpa using this
 rw[this]
theorem D4 {b:Bok}{id:Int}(cB:∀j q,j < b.pools.length→b.pools[j]? =some q→q.id≠id):Sh b id= -1:=by
 unfold Sh;have:b.pools.findIdx? (fun p=>p.id==id)=none:=by
  rw[Yx];intro q hq;obtain⟨j,hj,rfl⟩:=Yf.1 hq;have:=cB j _ hj (Xj hj);simpa using this
 rw[this]
theorem xq {b:Bok}{id:Int}{p:Pol}(h:cv b id=some p):∃i:Nat,Sh b id=i∧b.pools[i]? =some p∧p.id=id:=by
 unfold Sh;unfold cv at h;cases hf:b.pools.findIdx? fun p=>p.id==id with
 |none=>
  rw[Yx]at hf;have h1:=hf p (YO h);rw[Zv h]at h1;exact absurd h1 (by simp)
 |some i=>
  obtain⟨hi,hp,cB⟩:=XV.1 hf;refine⟨i,rfl,?_,by simpa using Zv h⟩;obtain⟨-,j,hj,he,BZ⟩:=Zg.1 h;have hij:i=j:=by
   rcases Y4 i j with hlt|h|hlt
   ·have:=BZ i hlt;rw[hp]at this;exact absurd this (by simp)
   ·exact h
   ·have h1:=cB j hlt;have h2:=Zv h;rw[he]at h1;exact absurd h2 h1
  rw[hij,Xj hj,he]
theorem Gf {b:Bok}{id:Int}(h:cv b id=none):Sh b id= -1:=by
 refine D4 fun j q _ hq he=>?_;have:=YF.1 h q (Xl hq);simp at this;exact this he
theorem xr (b:Bok)(id:Int)(hl:b.pools.length≤9223372036854775807):ae prog 76 [.agg (bN b),.v (.int .i64 id)] (.v (.int .i64 (Sh b id))):=by
 refine pj func76 ntmps76 results76 ?_;refine ay ?_<;>intros;refine br af al b.pools (fun k=>∀j (q:Pol),j < k→b.pools[j]? =some q→q.id≠id) (fun k=>[(5,.d (.v (.int .i64 k))),(4,.d (.v (.int .i64 0))),(2,.ptr 0 0),(1,.d (.v (.int .i64 id)))]) (fun _=>[.box 30 ((bN b).map .d)]) (fun j q h=>absurd h (YT _)) (wf) ?_ ?_
 ·intro k p hp hk hI C hC;have fy:(k:Int) < (b.pools.length:Int):=by omega
  have dW:=wi k (by omega);replace hI:=Xk hI;refine P5 ?_ ?_<;>intros
  ·rename_i h1;exact ux (QQ hp (by simpa using h1) hI.out)
  ·rename_i h1;refine hC _ _ (fun j q hj hq=>?_) (wf);rcases XO j k with h|h
   ·exact hI.out j q h hq
   ·obtain rfl:j=k:=by omega
    rw[hp]at hq;obtain rfl:=XX.inj hq;simpa using h1
 ·intro hI C;replace hI:=Xk hI;refine ay ?_<;>intros;exact ux (D4 hI.out)
theorem D5 (b:Bok)(p:Pol)(l:Lse)(hl:b.pools.length≤1000000000)(ht:0≤b.tick∧b.tick≤1073741824):ae prog 71 [.agg (bN b),.agg (am p),.agg (aQ l)] (.v (.bool (ez b p l))):=by
 have kf:=xr b l.owner (by omega);have bV:IntKind.i64.wrap (b.tick+1)=b.tick+1:=by rw[IntKind.wrap_i64];omega
 have cI:IntKind.i64.wrap (b.tick+1024)=b.tick+1024:=by rw[IntKind.wrap_i64];omega
 have hi:=li l.owner 1 65536;have htl:=li l.till (b.tick+1) (b.tick+1024);obtain⟨R,hR⟩:∃R,R=ez b p l:=⟨_,rfl⟩;rw[←hR];replace hR:=Xk hR;cases hq:cv b l.owner with
 |none=>
  rw[Gf hq]at kf
  replace hq:=Xk hq;have Ud:decide ((-1:Int)≥0)=false:=rfl;refine pj func71 ntmps71 results71 ?_;refine rY ?_ ?_ ?_ ?_ ?_ ?_ ?_ ?_<;>first|(with_reducible exact True.intro)|intros
  all_goals exact pb (by rw[hR.out];have hq:=hq.out;unfold ez fL;clear hi kf htl hR;grind)
 |some q=>
  obtain⟨i,e1,e2,e3⟩:=xq hq;rw[e1]at kf
  have hge:((i:Int)≥0):=by omega
  have he:=pI q.root l.at_;replace hq:=Xk hq;replace e1:=Xk e1;replace e3:=Xk e3;refine pj func71 ntmps71 results71 ?_;refine rY ?_ ?_ ?_ ?_ ?_ ?_ ?_ ?_<;>first|(with_reducible exact True.intro)|intros
  all_goals exact pb (by rw[hR.out];have hq:=hq.out;unfold ez fL;clear hi kf htl hR;grind)
theorem Nx (b:Bok)(p:Pol)(hl:b.pools.length≤1000000000)(iG:∀q∈b.pools,q.leases.length≤1000000000):ae prog 70 [.agg (bN b),.agg (am p)] (.v (.bool (iX b b.pools.length p))):=by
 obtain⟨R,hR⟩:∃R,R=iX b b.pools.length p:=⟨_,rfl⟩;rw[←hR];replace hR:=Xk hR;refine pj func70 ntmps70 results70 ?_;refine ay ?_<;>intros;refine cf af al (fun m e h=>∃(k:Nat) (q:Pol),k≤b.pools.length+1∧(k≤b.pools.length→R=iX b (b.pools.length - k) q)∧(k=b.pools.length+1→R=false)∧m=b.pools.length+1 - k∧e=[(5,.d (.v (.int .i64 k))),(4,.d (.v (.bool false))),(3,.ptr 1 0),(2,.ptr 0 0)]∧
  h=[.box 30 ((bN b).map .d),.box 83 ((am q).map .d)]) _ _ _ ⟨0,p,by omega,fun _=>hR.out,fun h=>by omega,rfl,rfl,rfl⟩ (wf) ?_
 rintro m e h ⟨k,q,hk,hZ,BN,hm,rfl,rfl⟩ C hC;replace hm:=Xk hm;by_cases Kl:k≤b.pools.length
 ·have fy:(k:Int)≤(b.pools.length:Int):=by omega
  have dW:=wi k (by omega);have hZ:=Xk (hZ Kl);replace BN:=Xk BN;have kf:=xr b q.up (by omega);cases hq:cv b q.up with
  |none=>
   rw[Gf hq]at kf
   have Ud:decide ((-1:Int) < 0)=true:=rfl;replace hq:=Xk hq;refine P5 ?_ ?_<;>intros;all_goals exact pb (by
    rename_i h1;cases hn:b.pools.length - k<;>simp_all[iX,hq.out])
  |some u=>
   obtain⟨i,e1,e2,e3⟩:=xq hq;rw[e1]at kf
   have p3:decide ((i:Int) < 0)=false:=by simp
   have WF:=iG u (Xl e2);replace hq:=Xk hq;replace e1:=Xk e1;replace e3:=Xk e3;refine P5 ?_ ?_<;>intros
   ·exact pb (by
     rename_i h1;cases hn:b.pools.length - k<;>simp_all[iX])
   ·rename_i h1;refine br af al u.leases (fun _=>True) (fun j=>[(8,.d (.v (.int .i64 j))),(7,.d (.v (.bool ((u.leases.take j).any (mL q.id))))),(6,.d (.v (.int .i64 i))),(5,.d (.v (.int .i64 k))),(4,.d (.v (.bool false))),(3,.ptr 1 0),(2,.ptr 0 0)])
     (fun _=>[.box 30 ((bN b).map .d),.box 83 ((am q).map .d)]) trivial (wf) ?_ ?_
    ·intro j l Az hj _ C hC;have mb:(j:Int) < (u.leases.length:Int):=by omega
     have rf:=wi j (by omega);have fU:(u.leases.take (j+1)).any (mL q.id)=((u.leases.take j).any (mL q.id)||mL q.id l):=by rw[ah Az];simp
     replace fU:=Xk fU;refine Ku ?_ ?_ ?_<;>intros;all_goals
      refine hC _ _ trivial (wf (he:=⟨rfl,?_,rfl,rfl,rfl,rfl,rfl,trivial⟩));refine congrArg (fun x=>PV.d (D.v (Value.bool x))) ?_;rw[fU.out];clear fU hC;generalize (u.leases.take j).any (mL q.id)=A at*;unfold mL;simp_all
    ·intro _ C;(try rw[Xq])
     refine P5 ?_ ?_<;>intros
     ·rename_i h2 kz h3 h4;refine hC _ _ _ _ _ ?_ ⟨k+1,u,by omega,fun hlt=>?_,fun he=>?_,rfl,rfl,rfl⟩ (wf)
      ·have:=hm.out;omega
      ·rw[hZ.out];obtain⟨n,hn⟩:∃n,b.pools.length - k=n+1:=⟨b.pools.length - k - 1,by omega⟩;rw[hn,show b.pools.length - (k+1)=n by omega];simp only[iX,hq.out,‹(q.up==0)=false›,‹u.leases.any (mL q.id)=true›,YC,Z0]
      ·rw[hZ.out,show b.pools.length - k=0 by omega];simp_all[iX]
     ·rename_i h2 kz h3 h4;refine pb ?_;cases hn:b.pools.length - k<;>simp only[iX,hq.out,‹(q.up==0)=false›,‹u.leases.any (mL q.id)=false›,Bool.false_and,Z0]
 ·obtain rfl:k=b.pools.length+1:=by omega
  have fy:¬(((b.pools.length+1:Nat):Int)≤(b.pools.length:Int)):=by omega
  have hr:=Xk (BN rfl);clear hZ BN;replace fy:decide (((b.pools.length+1:Nat):Int)≤(b.pools.length:Int))=false:=by simpa using fy
  refine ay ?_<;>intros;exact pb hr.out
def ja (b:Bok)(k:Nat):List Pfx:=((b.pools.take k).filter (fun p=>p.up==0)).map (·.root)
theorem D6 {b:Bok}{k:Nat}{p:Pol}(hp:b.pools[k]? =some p):ja b (k+1)=if p.up==0 then ja b k++[p.root]else ja b k:=by
 unfold ja;rw[ah hp,ZN,Xz];cases h:p.up==0<;>simp[h]
theorem xt {b:Bok}{k:Nat}{r:Pfx}(hk:k≤b.pools.length):(ja b k).any r.meets=true↔∃(j:Nat) (q:Pol),j < k∧b.pools[j]? =some q∧(q.up==0)=true∧r.meets q.root=true:=by
 unfold ja;rw[List.any_map,List.any_filter,Yd];constructor
 ·rintro⟨q,hq,h⟩;obtain⟨j,hj,rfl⟩:=Yf.1 hq;simp only[Xp]at hj;simp only[Xy,Function.comp]at h;exact⟨j,_,by omega,Xj (by omega),by simpa using h.1,by simpa using h.2⟩
 ·rintro⟨j,q,hj,hq,h1,h2⟩;refine⟨q,Xl (i:=j) ?_,by simp only[Xy,Function.comp];exact⟨h1,h2⟩⟩;rw[XQ hj,hq]
theorem D7 {b:Bok}{k:Nat}{p:Pol}(hp:b.pools[k]? =some p):dk b (b.pools.drop k) (ja b k)=((iX b b.pools.length p&&p.leases.all (ez b p))&&(!((p.up==0)&&(ja b k).any p.root.meets)&&dk b (b.pools.drop (k+1)) (ja b (k+1)))):=by
 rw[pJ hp,D6 hp];simp only[dk];cases h:p.up==0<;>simp
theorem D8 (b:Bok)(hz:∀p∈b.pools,p.leases.length≤3518437208882):ae prog 36 [.agg (bN b)] (.v (.int .i64 (bx b))):=by
 have SE:=li b.tick 0 1073741824;by_cases h8:b.pools.length>8
 ·have h8I:decide ((b.pools.length:Int)>8)=true:=by simp;omega
  have hr:bx b=2:=by simp[bx,h8]
  rw[hr];refine pj func36 ntmps36 results36 ?_;exact bo
 ·have h8I:decide ((b.pools.length:Int)>8)=false:=by simp;omega
  by_cases gx:b.tick < 0∨b.tick>1073741824
  ·have hr:bx b=1:=by simp[bx,h8,gx]
   have hd:(decide (0≤b.tick)&&decide (b.tick≤1073741824))=false:=by
    rcases gx with h|h
    ·simp;omega
    ·simp;omega
   rw[hr];rw[hd]at SE;replace hr:=Xk hr;refine pj func36 ntmps36 results36 ?_;exact bo
  ·have ht:0≤b.tick∧b.tick≤1073741824:=by omega
   have hd:(decide (0≤b.tick)&&decide (b.tick≤1073741824))=true:=by simp;omega
   rw[hd]at SE;have hr:bx b=if dP 0 b.pools&&dk b b.pools []then 0 else 1:=by simp only[bx,h8,gx,if_false]
   rw[hr];replace hr:=Xk hr;replace ht:=Xk ht;replace hd:=Xk hd;refine pj func36 ntmps36 results36 ?_;refine ay ?_<;>intros;refine cf af al (fun m e h=>∃(k:Nat) (last:Int),k≤b.pools.length∧dP 0 b.pools=dP last (b.pools.drop k)∧(k=0→last=0)∧(∀j,k=j+1→∃q,b.pools[j]? =some q∧q.id=last)∧m=b.pools.length - k∧e=[(3,.d (.v (.int .i64 k))),(2,.d (.v (.int .i64 0))),(1,.ptr 0 0)]∧
    h=[.box 30 ((bN b).map .d)]) _ _ _ ⟨0,0,XL _,rfl,fun _=>rfl,fun j h=>by omega,rfl,rfl,rfl⟩ (wf) ?_
   rintro m e h ⟨k,last,hk,hZ,p5,Uj,hm,rfl,rfl⟩ C hC;by_cases hlt:k < b.pools.length
   ·have ec:(k:Int) < (b.pools.length:Int):=by omega
    have dW:=wi k (by omega);obtain⟨p,hp⟩:∃p,b.pools[k]? =some p:=⟨_,Xj hlt⟩;have yn:p∈b.pools:=Xl hp;rw[pJ hp]at hZ;simp only[dP]at hZ;have hi:=li p.id 1 65536;have gx:=JO p (hz p yn);have SC:=Bh p.root (eE p);unfold eE at SC;have Kr:=Ge p.rule p.root;replace hZ:=Xk hZ;replace hm:=Xk hm;rcases Zl k with hk0|hk0
    ·have hkg:decide ((k:Int)>0)=false:=by simp;omega
     have p5:=Xk (p5 hk0);replace hk0:=Xk hk0;clear Uj;refine Vl ?_ ?_ ?_ ?_<;>intros;all_goals have p5:=p5.out
     all_goals first
      |(refine hC _ _ _ _ _ ?_ ⟨k+1,p.id,hlt,?_,fun h=>by omega,fun j h=>⟨p,by rw[show j=k by omega];exact hp,rfl⟩,rfl,rfl,rfl⟩ (wf);(have:=hm.out;omega);(rw[hZ.out];clear hC hi gx SC Kr hz hZ hm hr ht SE;unfold fL eE;grind))
      |exact ux (by
       have hf:dP 0 b.pools=false:=by
        rw[hZ.out];clear hC hi gx SC Kr hz hZ hm hr ht SE;unfold fL eE;grind
       rw[hf];rfl)
    ·have hkg:decide ((k:Int)>0)=true:=by simp;omega
     obtain⟨j,hj⟩:∃j,k=j+1:=⟨k - 1,by omega⟩;obtain⟨q,hq,AB⟩:=Uj j hj;have rf:IntKind.i64.wrap ((k:Int) - 1)=(j:Int):=by rw[IntKind.wrap_i64];omega
     replace AB:=Xk AB;replace hj:=Xk hj;replace hk0:=Xk hk0;clear p5 Uj;refine rY ?_ ?_ ?_ ?_ ?_ ?_ ?_ ?_<;>first|(with_reducible exact True.intro)|intros
     all_goals have AB:=AB.out
     all_goals first
      |(refine hC _ _ _ _ _ ?_ ⟨k+1,p.id,hlt,?_,fun h=>by omega,fun j h=>⟨p,by rw[show j=k by omega];exact hp,rfl⟩,rfl,rfl,rfl⟩ (wf);(have:=hm.out;omega);(rw[hZ.out];clear hC hi gx SC Kr hz hZ hm hr ht SE;unfold fL eE;grind))
      |exact ux (by
       have hf:dP 0 b.pools=false:=by
        rw[hZ.out];clear hC hi gx SC Kr hz hZ hm hr ht SE;unfold fL eE;grind
       rw[hf];rfl)
   ·obtain rfl:k=b.pools.length:=by omega
    rw[Zf]at hZ;have hf:dP 0 b.pools=true:=by rw[hZ];rfl
    obtain⟨OP,-⟩:=j7 _ _ hf;have ma:=lM _ _ hf;have p4:∀p∈b.pools,p.leases.length≤32:=fun p hp=>by
     have:=(ma p hp).2.1;unfold iK at this;split at this
     ·cases this
     ·rename_i h;simpa[eE]using h
    rw[hf];replace hf:=Xk hf;replace ma:=Xk ma;clear hZ hm p5 Uj hC;refine ay ?_<;>intros;refine ul af al b.pools.length (fun k=>dk b b.pools []=dk b (b.pools.drop k) (ja b k)) (fun k=>[(5,.d (.v (.int .i64 k))),(2,.d (.v (.int .i64 0))),(1,.ptr 0 0)]) (fun _=>[.box 30 ((bN b).map .d)]) rfl (wf) ?_ ?_
    ·intro k hlt hI C hC;have ec:(k:Int) < (b.pools.length:Int):=by omega
     have dW:=wi k (by omega);obtain⟨p,hp⟩:∃p,b.pools[k]? =some p:=⟨_,Xj hlt⟩;have yn:p∈b.pools:=Xl hp;rw[D7 hp]at hI;have hZ:=Nx b p (by omega) (fun q hq=>by have:=p4 q hq;omega);have oa:=p4 p yn;replace hI:=Xk hI;refine P5 ?_ ?_<;>intros
     ·rename_i hu;refine br af al p.leases (fun j=>∀i (l:Lse),i < j→p.leases[i]? =some l→ez b p l=true) (fun j=>[(7,.d (.v (.int .i64 j))),(6,.ptr 1 0),(5,.d (.v (.int .i64 k))),(2,.d (.v (.int .i64 0))),(1,.ptr 0 0)]) (fun _=>[.box 30 ((bN b).map .d),.box 83 ((am p).map .d)]) (fun i l h=>absurd h (YT _)) (wf) ?_ ?_
      ·intro j l Az hj UC C hC;have mb:(j:Int) < (p.leases.length:Int):=by omega
       have rf:=wi j (by omega);have hlf:=D5 b p l (by omega) ht.out;replace UC:=Xk UC;refine P5 ?_ ?_<;>intros
       ·rename_i jV;refine hC _ _ (fun i l' hi hl'=>?_) (wf);rcases XO i j with h|h
        ·exact UC.out i l' h hl'
        ·obtain rfl:i=j:=by omega
         rw[Az]at hl';obtain rfl:=XX.inj hl';exact jV
       ·rename_i jV;refine ux ?_;have bK:p.leases.all (ez b p)=false:=by
         rw[YX];exact⟨l,Xl Az,by rw[jV];simp⟩
        rw[hI.out,bK];simp
      ·intro UC C1;have bK:p.leases.all (ez b p)=true:=by
        rw[XB];intro l hl;obtain⟨i,hi,rfl⟩:=Yf.1 hl;exact UC i _ hi (Xj hi)
       replace UC:=Xk UC;replace bK:=Xk bK;refine ay ?_<;>intros;refine ul af al k (fun j=>∀i (q:Pol),i < j→b.pools[i]? =some q→((p.up==0)&&(q.up==0)&&p.root.meets q.root)=false) (fun j=>[(8,.d (.v (.int .i64 j))),(6,.ptr 1 0),(5,.d (.v (.int .i64 k))),(2,.d (.v (.int .i64 0))),(1,.ptr 0 0)]) (fun _=>[.box 30 ((bN b).map .d),.box 83 ((am p).map .d)]) (fun i l h=>absurd h (YT _)) (wf) ?_ ?_
       ·intro j hj UD C hC;have mb:(j:Int) < (k:Int):=by omega
        have rf:=wi j (by omega);obtain⟨q,hq⟩:∃q,b.pools[j]? =some q:=⟨_,Xj (by omega)⟩;have yk:=A7 p.root q.root;rw[jr]at yk;replace UD:=Xk UD;have key:∀t,((p.up==0)&&(q.up==0)&&p.root.meets q.root)=t→t=false→∀i (q:Pol),i < j+1→b.pools[i]? =some q→((p.up==0)&&(q.up==0)&&p.root.meets q.root)=false:=by
         intro t h1 h2 i q' hi hq';rcases XO i j with h|h
         ·exact UD.out i q' h hq'
         ·obtain rfl:i=j:=by omega
          rw[hq]at hq';obtain rfl:=XX.inj hq';rw[h1,h2]
        have bad:((p.up==0)&&(q.up==0)&&p.root.meets q.root)=true→dk b b.pools []=false:=fun h=>by
         simp only[Xy]at h;have:(ja b k).any p.root.meets=true:=(xt (by omega)).2 ⟨j,q,hj,hq,h.1.2,h.2⟩;rw[hI.out,this,h.1.1];simp
        replace key:=Xk key;replace bad:=Xk bad;refine Vl ?_ ?_ ?_ ?_<;>intros;all_goals first
         |(refine hC _ _ (key.out _ ?_ rfl) (wf);clear hC yk;grind)
         |exact ux (by rw[bad.out (by clear hC yk;grind)];simp)
       ·intro UD C1;have cB:((p.up==0)&&(ja b k).any p.root.meets)=false:=by
         cases h:p.up==0 with
         |false=>rfl
         |true=>
          cases h2:(ja b k).any p.root.meets with
          |false=>rfl
          |true=>
           obtain⟨i,q,hi,hq,h3,h4⟩:=(xt (by omega)).1 h2;have:=UD i q hi hq;rw[h,h3,h4]at this;exact absurd this (by simp)
        replace UD:=Xk UD;replace cB:=Xk cB;refine ay ?_<;>intros;refine hC _ _ ?_ (wf);rw[hI.out,hu,bK.out,cB.out];rfl
     ·rename_i hu;refine ux ?_;rw[hI.out,hu];simp
    ·intro hI C;replace hI:=Xk hI;refine ay ?_<;>intros;refine ux ?_;rw[hI.out,Zf];rfl
theorem Bok.zero_le:ap (.agg [.v (.int .i64 0),.v (.slice none 0 0)]) (.agg (bN Bok.zero)):=dg
@[go_sem] def Lse.zero:Lse:=⟨Pfx.zero,0,0,0⟩
def lj (b:Bok)(id:Int)(at_:Pfx):Option Lse:=match cv b id with|some p=>p.leases.find? (kZ at_)|none=>none
def xu (o:Option Lse):D:=match o with|some l=> .tup [.agg (aQ l),.v (.bool true)]|none=> .tup [.agg (aQ Lse.zero),.v (.bool false)]
theorem QR {α:Type}{p:α→Bool}{l:List α}{k:Nat}{x:α}(hx:l[k]? =some x)(hp:p x=true)(cB:∀j y,j < k→l[j]? =some y→p y=false):l.find? p=some x:=by
 rw[Zg];obtain⟨hk,he⟩:=Xo.1 hx;exact⟨hp,k,hk,he,fun j hj=>by rw[cB j _ hj (Xj (by omega))];rfl⟩
theorem QS {α:Type}{p:α→Bool}{l:List α}(cB:∀j y,j < l.length→l[j]? =some y→p y=false):l.find? p=none:=by
 rw[YF];intro x hx;obtain⟨j,hj,rfl⟩:=Yf.1 hx;rw[cB j _ hj (Xj hj)];simp
theorem JP (b:Bok)(id:Int)(at_:Pfx)(hl:b.pools.length≤1000000000)(iG:∀q∈b.pools,q.leases.length≤1000000000):ae prog 38 [.agg (bN b),.v (.int .i64 id),.agg (aK at_)] (xu (lj b id at_)):=by
 have kf:=xr b id (by omega);unfold lj;cases hq:cv b id with
 |none=>
  rw[Gf hq]at kf
  have Ud:decide ((-1:Int)≥0)=false:=rfl;replace hq:=Xk hq;simp only;refine pj func38 ntmps38 results38 ?_;refine ay ?_<;>intros;refine ul af al 0 (fun _=>True) (fun _=>[(9,.d (.v (.int .i64 0))),(8,.d (.v (.int .i64 (-1)))),(7,.d (.v (.bool false))),(6,.ptr 2 0),(5,.ptr 1 0),(3,.ptr 0 0)]) (fun _=>[.box 30 ((bN b).map .d),.box 23 ((aK at_).map .d),.box 96 ((aQ Lse.zero).map .d)]) trivial (wf) (fun k hk=>absurd hk (YT _)) ?_;intro _ C;exact bo;all_goals exact dg
 |some p=>
  obtain⟨i,e1,e2,e3⟩:=xq hq;rw[e1]at kf
  have p3:decide ((i:Int)≥0)=true:=by simp
  have a1d:=iG p (Xl e2);simp only;clear e1 e3 hq;refine pj func38 ntmps38 results38 ?_;refine ay ?_<;>intros;refine br af al p.leases (fun k=>∀j (l:Lse),j < k→p.leases[j]? =some l→kZ at_ l=false) (fun k=>[(9,.d (.v (.int .i64 k))),(8,.d (.v (.int .i64 i))),(7,.d (.v (.bool false))),(6,.ptr 2 0),(5,.ptr 1 0),(3,.ptr 0 0)]) (fun _=>[.box 30 ((bN b).map .d),.box 23 ((aK at_).map .d),.box 96 ((aQ Lse.zero).map .d)]) (fun j q h=>absurd h (YT _)) (wf) ?_ ?_
  ·intro k l pS hk hI C hC;have fy:(k:Int) < (p.leases.length:Int):=by omega
   have dW:=wi k (by omega);have he:=pI l.at_ at_;have UQ:kZ at_ l=((l.kind==1)&&decide (l.at_=at_)):=rfl;have key:kZ at_ l=false→∀j (l:Lse),j < k+1→p.leases[j]? =some l→kZ at_ l=false:=by
    intro h1 j l' hj hl';rcases XO j k with h|h
    ·exact hI j l' h hl'
    ·obtain rfl:j=k:=by omega
     rw[pS]at hl';obtain rfl:=XX.inj hl';exact h1
   have KD:kZ at_ l=true→p.leases.find? (kZ at_)=some l:=fun h=>QR pS h hI;replace KD:=Xk KD;replace UQ:=Xk UQ;replace key:=Xk key;replace hI:=Xk hI;cases hd:decide (l.at_=at_);all_goals
    rw[hd]at he;refine P5 ?_ ?_<;>intros;all_goals first
     |(refine hC _ _ (key.out ?_) (wf);(rw[UQ.out];clear hC;simp_all;done))
     |(rw[KD.out (by rw[UQ.out];clear hC;simp_all)];exact ap.refl _)
  ·intro hI C;rw[QS hI];replace hI:=Xk hI;exact bo;all_goals exact dg
def lR (b:Bok):Prop:=b.pools.length≤1000000000∧∀p∈b.pools,p.leases.length≤1000000000
@[go_sem] def Ny:Rul:=⟨8,16,12,3⟩
theorem QT:ae prog 56 [] (.agg (A4 Ny)):=by
 refine pj func56 ntmps56 results56 ?_;exact bo
theorem bL:lR Bok.zero:=⟨XL _,fun p hp=>by simp[Bok.zero]at hp⟩
theorem mR {b:Bok}(h:BookOK b):b.pools.length≤8∧∀p∈b.pools,p.leases.length≤32:=⟨h.n8,h.l32⟩
theorem D9 (p:Pol)(ps:List Pol):(uR p ps).length=ps.length+1:=by
 have:=vu (fun x:Pol=>x.id) p.id ps;unfold uR;simp;omega
theorem Ea {p q:Pol}{ps:List Pol}(h:q∈uR p ps):q=p∨q∈ps:=by
 unfold uR at h;simp only[X4,XY]at h;rcases h with h|h|h
 ·exact .inr (Yc h)
 ·exact .inl h
 ·exact .inr (Yb h)
theorem Eb (l:Lse)(ls:List Lse):(qR l ls).length=ls.length+1:=by
 have:=vu (fun x:Lse=>x.at_.at_) l.at_.at_ ls;unfold qR;simp;omega
theorem Aj (p:Pol)(i:Nat)(t:Int):(kY p i t).length≤p.leases.length:=by
 unfold kY;split
 ·rw[D'];split<;>omega
 ·split
  ·rw[A'];exact XC _
  ·exact XC _
theorem nI {b:Bok}{id:Int}{f:Pol→Pol}(h:b.pools.length≤8)(h2:∀p∈b.pools,p.leases.length≤32∧(f p).leases.length≤33):(uS b id f).pools.length≤8∧∀p∈(uS b id f).pools,p.leases.length≤33:=by
 unfold uS;refine⟨by simpa using h,fun p hp=>?_⟩;obtain⟨q,hq,rfl⟩:=XH.1 hp;split
 ·exact(h2 q hq).2
 ·have:=(h2 q hq).1;omega
theorem Ak {b:Bok}{id:Int}{f:Pol→Pol}(h:(uS b id f).pools.length≤8∧∀p∈(uS b id f).pools,p.leases.length≤33):lR (uS b id f):=⟨by have:=h.1;omega,fun q hq=>by have:=h.2 q hq;omega⟩
theorem JQ {b:Bok}{t:Int}{p:Pol}(h:b.pools.length≤8∧∀p∈b.pools,p.leases.length≤33)(hp:p.leases=[]):lR ⟨t,uR p b.pools⟩:=⟨by simp only[D9];omega,fun q hq=>by
 rcases Ea hq with rfl|hq
 ·rw[hp];exact XL _
 ·have:=h.2 q hq;omega⟩
theorem Ec (b:Bok)(id:Int)(root:Pfx)(r:Rul):lR (jv b id root r).1:=by
 unfold jv;split
 ·exact bL
 ·rename_i hc;have hk:=mR (eD (by simpa using hc));split
  ·exact bL
  ·refine⟨by simp only[D9];omega,fun p hp=>?_⟩;rcases Ea hp with rfl|hp
   ·exact XL _
   ·have:=hk.2 p hp;omega
theorem Ed (b:Bok)(id up size:Int)(r:Rul):lR (lO b id up size r).1:=by
 unfold lO;split
 ·exact bL
 ·rename_i hc;have hk:=mR (eD (by simpa using hc));split
  ·exact bL
  ·split
   ·exact bL
   ·split
    ·exact bL
    ·split
     ·exact bL
     ·split
      ·exact bL
      ·split
       ·exact bL
       ·exact JQ (nI hk.1 (fun q hq=>⟨hk.2 q hq,by simp only[Eb];have:=hk.2 q hq;omega⟩)) rfl
theorem uy (b:Bok)(id size owner:Int):lR (fX b id size owner).1:=by
 unfold fX;split
 ·exact bL
 ·rename_i hc;have hk:=mR (eD (by simpa using hc));split
  ·exact bL
  ·split
   ·exact bL
   ·rename_i p _ _;generalize dB p (if size=0 then p.rule.usual else size)=F;simp only;split
    ·exact bL
    ·exact Ak (nI hk.1 (fun q hq=>⟨hk.2 q hq,by simp only[Eb];have:=hk.2 q hq;omega⟩))
theorem uz (b:Bok)(id:Int)(at_:Pfx):lR (lc b id at_).1:=by
 unfold lc;split
 ·exact bL
 ·rename_i hc;have hk:=mR (eD (by simpa using hc));split
  ·exact bL
  ·split
   ·exact bL
   ·rename_i i _;exact Ak (nI hk.1 (fun q hq=>⟨hk.2 q hq,by have:=hk.2 q hq;have:=Aj q i b.tick;simp only;omega⟩))
theorem Bp (b:Bok)(id:Int):lR (ld b id).1:=by
 unfold ld;split
 ·exact bL
 ·rename_i hc;have hk:=mR (eD (by simpa using hc));split
  ·exact bL
  ·split
   ·exact bL
   ·rename_i p _ _;have gA:(l7 b p).length≤8∧∀q∈l7 b p,q.leases.length≤33:=by
     unfold l7;split
     ·exact⟨hk.1,fun q hq=>by have:=hk.2 q hq;omega⟩
     ·split
      ·rename_i u _ _ i _;exact nI (b:=b) (id:=u.id) (f:=fun q=>{q with leases:=kY q i b.tick}) hk.1 (fun q hq=>⟨hk.2 q hq,by have:=hk.2 q hq;have:=Aj q i b.tick;simp only;omega⟩)
      ·exact⟨hk.1,fun q hq=>by have:=hk.2 q hq;omega⟩
    exact⟨by have:=Zw (fun q:Pol=>!(q.id==id)) (l7 b p);simp only;omega,fun q hq=>by have:=gA.2 q (Zt.1 hq).1;omega⟩
theorem Ee (b:Bok)(n:Int):lR (qh b n).1:=by
 unfold qh;split
 ·exact bL
 ·rename_i hc;have hk:=mR (eD (by simpa using hc));split
  ·exact bL
  ·refine⟨by simp only[XF];omega,fun q hq=>?_⟩;obtain⟨p,hp,rfl⟩:=XH.1 hq;have:=hk.2 p hp;have:=Zw (fun l=>!r9 (b.tick+n) l) p.leases;simp only[ft];omega
def Gg (s:Sbn):Prop:=s.faces.length≤1000000000∧∀f∈s.faces,f.addrs.length≤1000000000
def nJ (v:Vpc):Prop:=v.ranges.length≤1000000000∧v.subs.length≤1000000000∧∀s∈v.subs,Gg s
theorem bf:nJ Vpc.zero:=⟨XL _,XL _,fun s h=>by simp[Vpc.zero]at h⟩
theorem pL {v:Vpc}(h:VpcOK v):∀s∈v.subs,Gg s:=fun s hs=>⟨by have:=(h.n8 s hs).1;omega,fun f hf=>by have:=(h.n8 s hs).2 f hf;omega⟩
theorem qY {v:Vpc}(h:VpcOK v){i:Nat}{s:Sbn}(hs:Gg s):nJ {v with subs:=v.subs.set i s}:=⟨by have:=h.n4;show v.ranges.length≤_;omega,by have:=h.n6;show (v.subs.set i s).length≤_;rw[A'];omega,fun t ht=>by
 rcases Y6 ht with ht|rfl
 ·exact pL h t ht
 ·exact hs⟩
theorem Ef (v:Vpc)(p:Pfx):nJ (iB v p).1:=by
 unfold iB;split
 ·exact bf
 ·rename_i hc;have hk:=bc (by simpa using hc);split
  ·exact bf
  ·split
   ·exact bf
   ·exact⟨by have:=hk.n4;show (v.ranges.eraseIdx _).length≤_;rw[D'];split<;>omega,by have:=hk.n6;show v.subs.length≤_;omega,fun s hs=>pL hk s hs⟩
theorem Gh (v:Vpc)(id:Int)(p:Pfx):nJ (yJ v id p).1:=by
 unfold yJ;split
 ·exact bf
 ·rename_i hc;have hk:=bc (by simpa using hc);split
  ·exact bf
  ·refine⟨by have:=hk.n4;show v.ranges.length≤_;omega,by have:=hk.n6;show (fw _ _ v.subs).length≤_;rw[io];omega,fun s hs=>?_⟩;rcases mF.1 hs with rfl|hs
   ·exact⟨XL _,fun f hf=>by simp at hf⟩
   ·exact pL hk s hs
theorem Bq (v:Vpc)(id:Int):nJ (jJ v id).1:=by
 unfold jJ;split
 ·exact bf
 ·rename_i hc;have hk:=bc (by simpa using hc);split
  ·exact bf
  ·split
   ·exact bf
   ·exact⟨by have:=hk.n4;show v.ranges.length≤_;omega,by have:=hk.n6;show (v.subs.eraseIdx _).length≤_;rw[D'];split<;>omega,fun s hs=>pL hk s (List.mem_of_mem_eraseIdx hs)⟩
theorem Eg (v:Vpc)(sub id:Int):nJ (mQ v sub id).1:=by
 unfold mQ;split
 ·exact bf
 ·rename_i hc;have hk:=bc (by simpa using hc);split
  ·exact bf
  ·split
   ·exact bf
   ·rename_i s hs;have h8:=hk.n8 s (Xl hs);split
    ·exact bf
    ·refine qY hk ⟨by show (fw _ _ s.faces).length≤_;rw[io];omega,fun f hf=>?_⟩;rcases mF.1 hf with rfl|hf
     ·show 1≤1000000000;omega
     ·have:=h8.2 f hf;omega
theorem yL (v:Vpc)(sub id:Int):nJ (gy v sub id).1:=by
 unfold gy;split
 ·exact bf
 ·rename_i hc;have hk:=bc (by simpa using hc);split
  ·exact bf
  ·split
   ·exact bf
   ·rename_i s hs;have h8:=hk.n8 s (Xl hs);split
    ·exact bf
    ·exact qY hk ⟨by show (s.faces.eraseIdx _).length≤_;rw[D'];split<;>omega,fun f hf=>by have:=h8.2 f (List.mem_of_mem_eraseIdx hf);omega⟩
theorem Eh (v:Vpc)(sub id:Int):nJ (lQ v sub id).1:=by
 unfold lQ;split
 ·exact bf
 ·rename_i hc;have hk:=bc (by simpa using hc);split
  ·exact bf
  ·split
   ·exact bf
   ·rename_i s hs;have h8:=hk.n8 s (Xl hs);split
    ·exact bf
    ·split
     ·exact bf
     ·rename_i f hf;have jC:=h8.2 f (Xl hf);split
      ·exact bf
      ·split
       ·exact bf
       ·refine qY hk ⟨by show (s.faces.set _ _).length≤_;rw[A'];omega,fun g hg=>?_⟩;rcases Y6 hg with hg|rfl
        ·have:=h8.2 g hg;omega
        ·show (fw _ _ f.addrs).length≤_;rw[io];omega
theorem sf (n:Net)(id:Int)(hl:n.vpcs.length≤1000000000):ae prog 39 [.agg (eI n),.v (.int .i64 id)] (.v (.int .i64 (db (fun v=>v.id==id) n.vpcs))):=by
 refine pj func39 ntmps39 results39 ?_;refine ay ?_<;>intros;refine br af al n.vpcs (fun k=>(n.vpcs.take k).all (fun v=>!(v.id==id))=true) (fun k=>[(5,.d (.v (.int .i64 k))),(4,.d (.v (.int .i64 0))),(2,.ptr 0 0),(1,.d (.v (.int .i64 id)))]) (fun _=>[.box 34 ((eI n).map .d)]) rfl (wf) ?_ ?_
 ·intro k p hp hk hI C hC;have fy:(k:Int) < (n.vpcs.length:Int):=by omega
  have dW:=wi k (by omega);replace hI:=Xk hI;refine P5 ?_ ?_<;>intros
  ·rename_i h1;exact Dy (My hp (by simpa using h1) hI.out).symm
  ·rename_i h1;exact hC _ _ (fp hp hI.out (by simpa using h1)) (wf)
 ·intro hI C;replace hI:=Xk hI;refine ay ?_<;>intros;exact Dy (P8 hI.out).symm
theorem xv (n:Net)(id:Int):db (fun v=>v.id==id) n.vpcs=match fM n id with|some i=>(i:Int)|none=> -1:=rfl
def lS (n:Net)(a b:Int):Bool:=n.links.any fun y=>decide (y=l6 a b)
theorem JR (n:Net)(a b:Int)(hl:n.links.length≤1000000000):ae prog 140 [.agg (eI n),.v (.int .i64 a),.v (.int .i64 b)] (.v (.bool (lS n a b))):=by
 obtain⟨R,hR⟩:∃R,R=lS n a b:=⟨_,rfl⟩;rw[←hR];replace hR:=Xk hR;refine pj func140 ntmps140 results140 ?_;refine ay ?_<;>intros;refine br af al n.links (fun k=>(n.links.take k).all (fun y=>!decide (y=l6 a b))=true) (fun k=>[(7,.d (.v (.int .i64 k))),(6,.d (.v (.bool false))),(3,.ptr 0 0),(2,.d (.v (.int .i64 b))),(1,.d (.v (.int .i64 a)))]) (fun _=>[.box 34 ((eI n).map .d)]) rfl (wf) ?_ ?_
 ·intro k p hp hk hI C hC;have fy:(k:Int) < (n.links.length:Int):=by omega
  have dW:=wi k (by omega);have he:([p.a,p.b]==[if b < a then b else a,if a < b then b else a])=decide (p=l6 a b):=DW p (l6 a b);have GT:decide (p=l6 a b)=true→R=true:=fun h=>by rw[hR.out];exact Yd.2 ⟨p,Xl hp,h⟩
  have cB:decide (p=l6 a b)=false→(n.links.take (k+1)).all (fun y=>!decide (y=l6 a b))=true:=fun h=>fp hp hI (by simpa using h);generalize decide (p=l6 a b)=t at*;replace hI:=Xk hI;replace GT:=Xk GT;replace cB:=Xk cB;cases t with
  |true=>
   have hr:=GT.out rfl;rw[hr];replace hr:=Xk hr;exact bo;all_goals exact ap.refl _
  |false=>
   refine ay ?_<;>intros;exact hC _ _ (cB.out rfl) (wf)
 ·intro hI C;have hr:R=false:=by
   rw[hR.out];unfold lS;rw[Xq,XB]at hI;rw[Yw];intro y hy;have:=hI y hy;simpa using this
  rw[hr];replace hr:=Xk hr;replace hI:=Xk hI;exact bo;all_goals exact ap.refl _
theorem Nz (v w:Vpc)(hv:v.ranges.length≤1000000000)(hw:w.ranges.length≤1000000000):ae prog 75 [.agg (aD v),.agg (aD w)] (.v (.bool (ip v w))):=by
 obtain⟨R,hR⟩:∃R,R=ip v w:=⟨_,rfl⟩;rw[←hR];replace hR:=Xk hR;refine pj func75 ntmps75 results75 ?_;refine ay ?_<;>intros;refine br af al v.ranges (fun k=>(v.ranges.take k).all (fun r=>!(w.ranges.any fun q=>r.at_.meets q.at_))=true) (fun k=>[(5,.d (.v (.int .i64 k))),(4,.d (.v (.bool false))),(3,.ptr 1 0),(2,.ptr 0 0)]) (fun _=>[.box 88 ((aD v).map .d),.box 88 ((aD w).map .d)]) rfl (wf) ?_ ?_
 ·intro k r UT hk hI C hC;have fy:(k:Int) < (v.ranges.length:Int):=by omega
  have dW:=wi k (by omega);have Sj:(w.ranges.any fun q=>r.at_.meets q.at_)=false→(v.ranges.take (k+1)).all (fun r=>!(w.ranges.any fun q=>r.at_.meets q.at_))=true:=fun h=>fp UT hI (by rw[h];rfl);have GT:(w.ranges.any fun q=>r.at_.meets q.at_)=true→R=true:=fun h=>by rw[hR.out];exact Yd.2 ⟨r,Xl UT,h⟩
  replace hI:=Xk hI;replace Sj:=Xk Sj;replace GT:=Xk GT;refine ay ?_<;>intros;refine br af al w.ranges (fun j=>(w.ranges.take j).all (fun q=>!(r.at_.meets q.at_))=true) (fun j=>[(6,.d (.v (.int .i64 j))),(5,.d (.v (.int .i64 k))),(4,.d (.v (.bool false))),(3,.ptr 1 0),(2,.ptr 0 0)]) (fun _=>[.box 88 ((aD v).map .d),.box 88 ((aD w).map .d)]) rfl (wf) ?_ ?_
  ·intro j q hq hj hJ C2 kz;have mb:(j:Int) < (w.ranges.length:Int):=by omega
   have rf:=wi j (by omega);have yk:=A7 r.at_ q.at_;rw[jr]at yk;cases b:r.at_.meets q.at_ with
   |true=>
    have hr:=GT.out (Yd.2 ⟨q,Xl hq,b⟩);rw[b]at yk;rw[hr];replace hr:=Xk hr;replace hJ:=Xk hJ;exact bo;all_goals exact ap.refl _
   |false=>
    rw[b]at yk;have hn:=fp hq hJ (by rw[b];rfl);replace hn:=Xk hn;replace hJ:=Xk hJ;refine ay ?_<;>intros;exact kz _ _ hn.out (wf)
  ·intro hJ C2;have hn:=Sj.out (by
    rw[Xq,XB]at hJ;rw[Yw];intro q hq;have:=hJ q hq;simpa using this)
   replace hJ:=Xk hJ;replace hn:=Xk hn;refine ay ?_<;>intros;exact hC _ _ hn.out (wf)
 ·intro hI C;have hr:R=false:=by
   rw[hR.out];rw[Xq,XB]at hI;unfold ip;rw[Yw];intro y hy;have:=hI y hy;simpa using this
  rw[hr];replace hr:=Xk hr;replace hI:=Xk hI;exact bo;all_goals exact ap.refl _
def uA (lk:Nat→Nat→Bool)(i k:Nat)(l:List Bool):List Bool:=l.set k (l.getD k false||(l.getD i false&&lk i k))
def qZ (lk:Nat→Nat→Bool)(l:List Bool)(i:Nat):Nat→List Bool
 |0=>l
 |k+1=>uA lk i k (qZ lk l i k)
def gR (lk:Nat→Nat→Bool)(l:List Bool):Nat→List Bool
 |0=>l
 |i+1=>qZ lk (gR lk l i) i l.length
def dr (lk:Nat→Nat→Bool)(l:List Bool):Nat→List Bool
 |0=>l
 |t+1=>gR lk (dr lk l t) l.length
def Ei:List Bool→List Bool→Prop
 |[],[]=>True
 |a::l,b::m=>(a=true→b=true)∧Ei l m
 |_,_=>False
theorem pc:∀l,Ei l l
 |[]=>trivial
 |_::l=>⟨id,pc l⟩
theorem pM:∀{l m k:List Bool},Ei l m→Ei m k→Ei l k
 |[],[],[],_,_=>trivial
 |_::_,_::_,_::_,⟨h1,h2⟩,⟨g1,g2⟩=>⟨fun h=>g1 (h1 h),pM h2 g2⟩
theorem pf:∀{l m:List Bool},Ei l m→Ei m l→l=m
 |[],[],_,_=>rfl
 |a::l,b::m,⟨h1,h2⟩,⟨g1,g2⟩=>by
  rw[pf h2 g2];cases a<;>cases b<;>simp_all
theorem sg:∀{l m:List Bool},Ei l m→m.length=l.length
 |[],[],_=>rfl
 |_::_,_::_,⟨_,h⟩=>by simp[sg h]
theorem HJ:∀{l m:List Bool},Ei l m→∀{k},l.getD k false=true→m.getD k false=true
 |[],[],_,_,h=>h
 |_::_,_::_,⟨h1,_⟩,0,h=>by simpa using h1 (by simpa using h)
 |_::_,_::_,⟨_,h2⟩,k+1,h=>by simpa using HJ h2 (k:=k) (by simpa using h)
theorem Al:∀{l m:List Bool},Ei l m→l=m∨l.count true < m.count true
 |[],[],_=> .inl rfl
 |a::l,b::m,⟨h1,h2⟩=>by
  rcases Al h2 with rfl|h
  ·cases a<;>cases b<;>simp_all
  ·right;cases a<;>cases b<;>simp_all<;>omega
theorem HK:∀(l:List Bool) (k:Nat) (b:Bool),Ei l (l.set k (l.getD k false||b))
 |[],_,_=>by simp[Ei]
 |a::l,0,b=>by simp only[Xv,List.getD_cons_zero];exact⟨fun h=>by simp[h],pc l⟩
 |a::l,k+1,b=>by simp only[Xw,List.getD_cons_succ];exact⟨id,HK l k b⟩
section
variable (lk:Nat→Nat→Bool)
theorem NA (i k:Nat)(l:List Bool):Ei l (uA lk i k l):=HK l k _
theorem nL (l:List Bool)(i:Nat):∀k d,Ei (qZ lk l i k) (qZ lk l i (k+d))
 |_,0=>pc _
 |k,d+1=>pM (nL l i k d) (NA lk i (k+d) _)
theorem jy (l:List Bool):∀i d,Ei (gR lk l i) (gR lk l (i+d))
 |_,0=>pc _
 |i,d+1=>pM (jy l i d) (by have:=nL lk (gR lk l (i+d)) (i+d) 0 l.length;rw[XK]at this;exact this)
theorem Ej (l:List Bool)(i:Nat):(gR lk l i).length=l.length:=sg (by have:=jy lk l 0 i;rw[XK]at this;exact this)
theorem Ek (l:List Bool)(i k:Nat):(qZ lk l i k).length=l.length:=sg (by have:=nL lk l i 0 k;rw[XK]at this;exact this)
theorem pN (l:List Bool):∀t,Ei l (dr lk l t)
 |0=>pc _
 |t+1=>pM (pN l t) (by have h:=sg (pN l t);have:=jy lk (dr lk l t) 0 l.length;rw[XK]at this;exact this)
theorem pg (l:List Bool)(t:Nat):(dr lk l t).length=l.length:=sg (pN lk l t)
theorem NB {l:List Bool}(h:gR lk l l.length=l){i k:Nat}(hi:i < l.length)(hk:k < l.length)(h1:l.getD i false=true)(h2:lk i k=true):l.getD k false=true:=by
 have a1:=jy lk l 0 i;have a2:=jy lk l i (l.length - i);rw[XK]at a1;rw[show i+(l.length - i)=l.length by omega,h]at a2;have e1:gR lk l i=l:=pf a2 a1;have a3:=jy lk l i 1;have a4:=jy lk l (i+1) (l.length - (i+1));rw[show i+1+(l.length - (i+1))=l.length by omega,h]at a4;have e2:gR lk l (i+1)=l:=by rw[e1]at a3;exact pf a4 a3
 simp only[gR,e1]at e2;have b1:=nL lk l i 0 k;have b2:=nL lk l i k (l.length - k);rw[XK]at b1;rw[show k+(l.length - k)=l.length by omega,e2]at b2;have e3:qZ lk l i k=l:=pf b2 b1;have b3:=nL lk l i k 1;have b4:=nL lk l i (k+1) (l.length - (k+1));rw[show k+1+(l.length - (k+1))=l.length by omega,e2]at b4;have e4:qZ lk l i (k+1)=l:=by rw[e3]at b3;exact pf b4 b3
 simp only[qZ,e3,uA]at e4;rw[←e4,h1,h2];simp[XE,hk]
theorem Am (l:List Bool)(hc:0 < l.count true):∀t,gR lk (dr lk l t) l.length=dr lk l t∨t < (dr lk l t).count true
 |0=> .inr hc
 |t+1=>by
  rcases Am l hc t with h|h
  ·left;simp only[dr,h]
  ·have hl:=pg lk l t;have hle:=jy lk (dr lk l t) 0 l.length;rw[XK]at hle;rcases Al (show Ei (dr lk l t) (dr lk l (t+1)) from hle)with he|he
   ·left;have e2:dr lk l (t+1)=gR lk (dr lk l t) l.length:=rfl;rw[←he];rw[←e2,←he]
   ·right;omega
theorem Br (l:List Bool)(hc:0 < l.count true){i k:Nat}(hi:i < l.length)(hk:k < l.length)(h1:(dr lk l l.length).getD i false=true)(h2:lk i k=true):(dr lk l l.length).getD k false=true:=by
 have hl:=pg lk l l.length;rcases Am lk l hc l.length with h|h
 ·exact NB lk (by rw[hl];exact h) (by rw[hl];exact hi) (by rw[hl];exact hk) h1 h2
 ·have:=List.count_le_length (a:=true) (l:=dr lk l l.length);omega
theorem NC {G:Nat→Prop}(hG:∀i k,G i→lk i k=true→G k){l:List Bool}(h:∀k,l.getD k false=true→G k)(i k:Nat):∀j,(uA lk i k l).getD j false=true→G j:=by
 intro j hj;unfold uA at hj;rw[XE,_a]at hj;split at hj
 ·rename_i e;subst e;split at hj
  ·simp only[Yy,Bool.or_eq_true,Xy]at hj;rcases hj with hj|hj
   ·exact h _ hj
   ·exact hG i k (h _ hj.1) hj.2
  ·simp at hj
 ·exact h j (by rw[XE];exact hj)
theorem HL {G:Nat→Prop}(hG:∀i k,G i→lk i k=true→G k){l:List Bool}(h:∀k,l.getD k false=true→G k)(i:Nat):∀k j,(qZ lk l i k).getD j false=true→G j
 |0=>h
 |k+1=>NC lk hG (HL hG h i k) i k
theorem El {G:Nat→Prop}(hG:∀i k,G i→lk i k=true→G k){l:List Bool}(h:∀k,l.getD k false=true→G k):∀i j,(gR lk l i).getD j false=true→G j
 |0=>h
 |i+1=>HL lk hG (El hG h i) i _
theorem An {G:Nat→Prop}(hG:∀i k,G i→lk i k=true→G k){l:List Bool}(h:∀k,l.getD k false=true→G k):∀t j,(dr lk l t).getD j false=true→G j
 |0=>h
 |t+1=>El lk hG (An hG h t) _
end
def mS (L:List Lnk):Int→Int:=L.foldl js (fun x=>x)
theorem Gi {F:Int→Int}{x y:Int}(h:F x=F y)(l:Lnk):js F l x=js F l y:=by unfold js;rw[h]
theorem xw {x y:Int}:∀(L:List Lnk) (F:Int→Int),F x=F y→L.foldl js F x=L.foldl js F y
 |[],_,h=>h
 |l::L,F,h=>xw L _ (Gi h l)
theorem xx {l:Lnk}:∀(L:List Lnk) (F:Int→Int),l∈L→L.foldl js F l.a=L.foldl js F l.b
 |m::L,F,h=>by
  rcases XY.1 h with rfl|h
  ·refine xw L _ ?_;unfold js;rw[if_pos rfl];split<;>rfl
  ·exact xx L _ h
theorem Gj {L:List Lnk}{l:Lnk}(h:l∈L):mS L l.a=mS L l.b:=xx L _ h
theorem uB {S:Int→Prop}:∀(L:List Lnk) (F:Int→Int),(∀l∈L,S l.a↔S l.b)→(∀x y,F x=F y→(S x↔S y))→∀x y,L.foldl js F x=L.foldl js F y→(S x↔S y)
 |[],_,_,hF,x,y,h=>hF x y h
 |l::L,F,hL,hF,x,y,h=>by
  refine uB L (js F l) (fun m hm=>hL m (YR _ hm)) (fun u v OY=>?_) x y h;have hl:=hL l (by simp);unfold js at OY;by_cases h1:F u=F l.b
  ·by_cases h2:F v=F l.b
   ·exact hF u v (h1.trans h2.symm)
   ·rw[if_pos h1,if_neg h2]at OY;exact(hF u l.b h1).trans (hl.symm.trans (hF l.a v OY))
  ·by_cases h2:F v=F l.b
   ·rw[if_neg h1,if_pos h2]at OY;exact(hF u l.a OY).trans (hl.trans (hF v l.b h2).symm)
   ·rw[if_neg h1,if_neg h2]at OY;exact hF u v OY
theorem Em {S:Int→Prop}{L:List Lnk}(hL:∀l∈L,S l.a↔S l.b){x y:Int}(h:mS L x=mS L y):S x↔S y:=
 uB L _ hL (fun x y h=>by rw[h]) x y h
theorem ND {l:Lnk}(h:l.a < l.b):l6 l.a l.b=l∧l6 l.b l.a=l:=by
 unfold l6;rw[if_neg (by omega),if_pos h,if_pos h,if_neg (by omega)];exact⟨rfl,rfl⟩
theorem NE {L:List Lnk}{a b:Int}(h:l6 a b∈L):mS L a=mS L b:=by
 have:=Gj h;unfold l6 at this;by_cases h1:b < a
 ·rw[if_pos h1,if_neg (by omega)]at this;exact this.symm
 ·rw[if_neg h1]at this;split at this
  ·exact this
  ·have:a=b:=by omega
   rw[this]
def O9 (L:List Lnk)(ids:List Int)(i k:Nat):Bool:=decide (l6 (ids.getD i 0) (ids.getD k 0)∈L)
theorem En {L:List Lnk}{ids:List Int}(hn:ids.Nodup)(hl:∀l∈L,l.a∈ids∧l.b∈ids∧l.a < l.b){i k:Nat}(hi:i < ids.length)(hk:k < ids.length):
 (dr (O9 L ids) ((XR ids.length false).set i true) ids.length).getD k false=(mS L (ids.getD k 0)==mS L (ids.getD i 0)):=by
 have aT:((XR ids.length false).set i true).length=ids.length:=by simp
 have pZ:0 < ((XR ids.length false).set i true).count true:=by
  rw[List.count_pos_iff,Yf];exact⟨i,by simpa using hi,by simp⟩
 have a0N:∀j,((XR ids.length false).set i true).getD j false=true→j=i:=by
  intro j hj;rw[XE,_a]at hj;split at hj
  ·rename_i e;exact e.symm
  ·rw[Z6]at hj;split at hj<;>simp at hj
 have gA:=fun(i k:Nat)=>Br (O9 L ids) _ pZ (i:=i) (k:=k);rw[aT]at gA;rw[Yl,beq_iff_eq];constructor
 ·intro h;exact An (O9 L ids) (G:=fun j=>mS L (ids.getD j 0)=mS L (ids.getD i 0)) (fun u v hu OY=>by
   unfold O9 at OY;rw[decide_eq_true_eq]at OY;show mS L _=_;rw[←NE OY];exact hu) (fun j hj=>by rw[a0N j hj]) _ k h
 ·intro h;have ma:∀x∈ids,∃j,j < ids.length∧ids.getD j 0=x:=fun x hx=>by
   obtain⟨j,hj,rfl⟩:=Yf.1 hx;exact⟨j,hj,by simp[XE,hj]⟩
  have hS:=Em (L:=L) (S:=fun x=>∃j,j < ids.length∧ids.getD j 0=x∧(dr (O9 L ids) ((XR ids.length false).set i true) ids.length).getD j false=true) (fun l sM=>by
   obtain⟨ha,hb,kh⟩:=hl l sM;obtain⟨u,hu,eu⟩:=ma _ ha;obtain⟨v,hv,ev⟩:=ma _ hb;constructor
   ·rintro⟨j,hj,ej,h2⟩;refine⟨v,hv,ev,gA j v hj hv h2 ?_⟩;unfold O9;rw[ej,ev,(ND kh).1,decide_eq_true_eq];exact sM
   ·rintro⟨j,hj,ej,h2⟩;refine⟨u,hu,eu,gA j u hj hu h2 ?_⟩;unfold O9;rw[ej,eu,(ND kh).2,decide_eq_true_eq];exact sM) h
  obtain⟨j,hj,ej,h2⟩:=hS.2 ⟨i,hi,rfl,HJ (pN _ _ _) (by simp[XE,hi])⟩;have:j=k:=by
   have e1:ids[j]=ids[k]:=by simpa[XE,hj,hk]using ej
   rcases Y4 j k with h|h|h
   ·exact absurd e1 (XM.1 hn j k hj hk h)
   ·exact h
   ·exact absurd e1.symm (XM.1 hn k j hk hj h)
  rw[←this];exact h2
theorem NF (n:Net):ck n=mS n.links:=by
 unfold ck Vq mS;have key:∀(L:List Lnk) (s:List (List Int × Int) × (Int→Int)),(L.foldl qf s).2=L.foldl js s.2:=by
  intro L;induction L with
  |nil=>intro s;rfl
  |cons l L ih=>intro s;rw[YG,YG,ih];rfl
 exact key _ _
@[go_sem] def mT (b:Bool):List D:=[.v (.bool b)]
@[go_sem] theorem HM (n:Nat)(b:Bool):XR n [PV.d (.v (.bool b))]=ab ((XR n b).map mT):=by simp[ab,mT,List.map_replicate]
theorem NG (l:List Bool)(i:Nat)(b:Bool):(ab (l.map mT)).set i [.d (.v (.bool b))]=ab ((l.set i b).map mT):=cL mT l i b
theorem TD {n:Net}{i k:Nat}{v w:Vpc}(hv:n.vpcs[i]? =some v)(hw:n.vpcs[k]? =some w):O9 n.links (n.vpcs.map (·.id)) i k=lS n v.id w.id:=by
 have e1:(n.vpcs.map (·.id)).getD i 0=v.id:=by simp[XE,hv]
 have e2:(n.vpcs.map (·.id)).getD k 0=w.id:=by simp[XE,hw]
 unfold O9 lS;rw[e1,e2,Yl,decide_eq_true_eq,Yd];simp
theorem JS {n:Net}(hr:n.vpcs.Pairwise fun a b=>a.id < b.id):(n.vpcs.map (·.id)).Nodup:=by
 unfold List.Nodup;rw[Y5];exact hr.imp fun h=>by omega
theorem NH (n:Net)(id:Int)(i0:Nat)(hx:fM n id=some i0)(h6:n.vpcs.length≤6)(Wp:n.links.length≤12)(hr:n.vpcs.Pairwise fun a b=>a.id < b.id)(hl:∀l∈n.links,l.a∈n.vpcs.map (·.id)∧l.b∈n.vpcs.map (·.id)∧l.a < l.b):
 ae prog 74 [.agg (eI n),.v (.int .i64 id)] (.sl 1 ((xg n id).map dF)):=by
 obtain⟨v0,Ot,he0,p3,GS⟩:=gE hx;have kf:=sf n id (by omega);rw[xv,hx]at kf
 simp only at kf
 obtain⟨lk,pS⟩:∃lk,lk=O9 n.links (n.vpcs.map (·.id)):=⟨_,rfl⟩;obtain⟨l0,p5⟩:∃l0,l0=(XR n.vpcs.length false).set i0 true:=⟨_,rfl⟩;have sM:l0.length=n.vpcs.length:=by rw[p5];simp
 have bZ:∀(k:Nat) (v:Vpc),n.vpcs[k]? =some v→(dr lk l0 n.vpcs.length)[k]? =some (ck n v.id==ck n id):=fun k v hv=>by
  have hk:=(Xo.1 hv).1;have h:=En (L:=n.links) (ids:=n.vpcs.map (·.id)) (JS hr) hl (i:=i0) (k:=k) (by simpa using p3) (by simpa using hk);have e1:(n.vpcs.map (·.id)).getD k 0=v.id:=by simp[XE,hv]
  have e2:(n.vpcs.map (·.id)).getD i0 0=id:=by simp[XE,Ot,he0]
  rw[e1,e2,XF,←pS,←p5,←NF]at h;have mX:k < (dr lk l0 n.vpcs.length).length:=by rw[pg,sM];exact hk
  rw[←h,XE,Xj mX];rfl
 have RL:0 < n.vpcs.length:=by omega
 have SI:0 < (n.vpcs.length:Int):=by omega
 have jQ:(ab ((XR n.vpcs.length false).map mT)).set i0 [.d (.v (.bool true))]=ab (l0.map mT):=by rw[NG,←p5]
 have SD:(0:Int)≤(i0:Int):=by omega
 have EV:(XR n.vpcs.length false)[i0]? =some false:=by rw[Z6,if_pos p3]
 have E9:xg n id=(n.vpcs.filter fun v=>ck n v.id==ck n id).map (·.id):=rfl;rw[E9];clear E9 hx GS hl hr;replace bZ:=Xk bZ;replace p5:=Xk p5;replace he0:=Xk he0;replace pS:=Xk pS;refine pj func74 ntmps74 results74 ?_;repeat' (first|(with_reducible refine And.intro ?_ ?_)|(with_reducible refine dO (fun _=>?_) (fun _=>?_))|(with_reducible refine aN (fun _=>?_) (fun _=>?_))|(with_reducible refine cg (by kernel_rfl))|simp -dsimp only[go_sem,seval, *,eI,mT,EV,HM,SI,p3,SD,jQ,List.length_replicate]|((with_reducible refine ci ?_);simp -dsimp only[go_sem,seval,eI,mT,EV,HM,SI,p3,SD,jQ,List.length_replicate];first|refine aP (by first|assumption|exact kf) (by first|exact .inl rfl|exact .inr rfl) ?_|(refine aO (by assumption) ?_ ?_ ?_;(solve|(repeat(first|exact ap.refl _|exact ap.nil _|(refine ap.tup ?_)|(refine ap.agg ?_ rfl)|exact trivial|(refine And.intro ?_ ?_))));(solve|exact .inl rfl|exact .inr rfl)))|fail|omega|exact decide_eq_true (by omega)|exact ap.refl _)
 clear kf jQ Ot EV;refine ul af al n.vpcs.length (fun _=>True) (fun t=>[(6,.d (.v (.int .i64 t))),(5,.own 1 0),(4,.d (.v (.slice none 0 0))),(2,.ptr 0 0)])
  (fun t=>[.box 34 ((eI n).map .d),.row 4 1 0 (ab ((dr lk l0 t).map mT))]) trivial (wf) ?_ ?_
 ·intro t ht _ CT hCT;have htI:(t:Int) < (n.vpcs.length:Int):=by omega
  have SE:=wi t (by omega);have hlt:=pg lk l0 t;rw[sM]at hlt;have t5:dr lk l0 (t+1)=gR lk (dr lk l0 t) n.vpcs.length:=by show gR lk (dr lk l0 t) l0.length=_;rw[sM]
  replace t5:=Xk t5;generalize dr lk l0 t=A at*;refine ay ?_<;>intros;refine ul af al n.vpcs.length (fun _=>True) (fun i=>[(7,.d (.v (.int .i64 i))),(6,.d (.v (.int .i64 t))),(5,.own 1 0),(4,.d (.v (.slice none 0 0))),(2,.ptr 0 0)])
   (fun i=>[.box 34 ((eI n).map .d),.row 4 1 0 (ab ((gR lk A i).map mT))]) trivial (wf) ?_ ?_
  ·intro i hi _ CI hCI;have a1e:(i:Int) < (n.vpcs.length:Int):=by omega
   have hwi:=wi i (by omega);have pY:=Ej lk A i;rw[hlt]at pY;have UE:gR lk A (i+1)=qZ lk (gR lk A i) i n.vpcs.length:=by show qZ lk (gR lk A i) i A.length=_;rw[hlt]
   replace UE:=Xk UE;obtain⟨vi,WQ⟩:∃v,n.vpcs[i]? =some v:=⟨_,Xj hi⟩;generalize gR lk A i=B at*;refine ay ?_<;>intros;refine ul af al n.vpcs.length (fun _=>True) (fun k=>[(8,.d (.v (.int .i64 k))),(7,.d (.v (.int .i64 i))),(6,.d (.v (.int .i64 t))),(5,.own 1 0),(4,.d (.v (.slice none 0 0))),(2,.ptr 0 0)])
    (fun k=>[.box 34 ((eI n).map .d),.row 4 1 0 (ab ((qZ lk B i k).map mT))]) trivial (wf) ?_ ?_
   ·intro k hk _ C hC;have fy:(k:Int) < (n.vpcs.length:Int):=by omega
    have Wx:=wi k (by omega);have a0O:=Ek lk B i k;rw[pY]at a0O;have fU:qZ lk B i (k+1)=uA lk i k (qZ lk B i k):=rfl;obtain⟨vk,KN⟩:∃v,n.vpcs[k]? =some v:=⟨_,Xj hk⟩;have hlq:=JR n vi.id vk.id (by omega);have jR:lk i k=lS n vi.id vk.id:=by rw[pS.out];exact TD WQ KN
    generalize qZ lk B i k=M at*;obtain⟨bk,dv⟩:∃b,M[k]? =some b:=⟨_,Xj (by omega)⟩;obtain⟨bi,VL⟩:∃b,M[i]? =some b:=⟨_,Xj (by omega)⟩;have pX:uA lk i k M=M.set k (bk||(bi&&lS n vi.id vk.id)):=by unfold uA;rw[jR];simp[XE,dv,VL]
    generalize lS n vi.id vk.id=q at*;have bO:=fun b=>NG M k b;clear jR;replace fU:=Xk fU;replace pX:=Xk pX;cases bk with
    |true=>
     refine ay ?_<;>intros;refine hC _ _ trivial ?_;rw[fU.out,pX.out];exact wf
    |false=>
     cases bi with
     |false=>
      refine ay ?_<;>intros;refine hC _ _ trivial ?_;rw[fU.out,pX.out];exact wf
     |true=>
      refine ay ?_<;>intros;refine hC _ _ trivial ?_;rw[fU.out,pX.out];exact wf
   ·intro _ C;have OZ:=Ek lk B i n.vpcs.length;rw[pY]at OZ;refine ay ?_<;>intros;refine hCI _ _ trivial ?_;rw[UE.out];exact wf
  ·intro _ C;have OZ:=Ej lk A n.vpcs.length;rw[hlt]at OZ;refine ay ?_<;>intros;refine hCT _ _ trivial ?_;rw[t5.out];exact wf
 ·intro _ C;have OZ:=pg lk l0 n.vpcs.length;rw[sM]at OZ;generalize dr lk l0 n.vpcs.length=M at*;refine ay ?_<;>intros;refine cf af al (fun m e h=>∃(k g:Nat),k≤n.vpcs.length∧m=n.vpcs.length - k∧e=[(10,.d (.v (.int .i64 k))),(9,.own 2 g),(5,.own 1 0),(4,.d (.v (.slice none 0 0))),(2,.ptr 0 0)]∧
   h=[.box 34 ((eI n).map .d),.row 4 1 0 (ab (M.map mT)),.row 3 1 g (ab ((((n.vpcs.take k).filter fun v=>ck n v.id==ck n id).map (·.id)).map dF))]) _ _ _ ⟨0,0,XL _,rfl,rfl,rfl⟩ ?_ ?_
  ·refine(dZ (by simp) 9 3 1 rfl).trans ?_;exact wf
  ·rintro m e h ⟨k,g,hk,hm,rfl,rfl⟩ C hC;by_cases hlt:k < n.vpcs.length
   ·have fy:(k:Int) < (n.vpcs.length:Int):=by omega
    have dW:=wi k (by omega);obtain⟨v,hv⟩:∃v,n.vpcs[k]? =some v:=⟨_,Xj hlt⟩;have dv:=bZ.out k v hv;have jC:((n.vpcs.take k).filter fun v=>ck n v.id==ck n id).length≤k:=by
     have:=Zw (fun v:Vpc=>ck n v.id==ck n id) (n.vpcs.take k);rw[Xp]at this;omega
    have Xc:((n.vpcs.take k).filter fun v=>ck n v.id==ck n id).length+1≤100:=by omega
    have fU:(n.vpcs.take (k+1)).filter (fun v=>ck n v.id==ck n id)=(n.vpcs.take k).filter (fun v=>ck n v.id==ck n id)++if (ck n v.id==ck n id)=true then [v]else []:=by
     rw[ah hv,ZN];congr 1;cases hb:ck n v.id==ck n id<;>simp[hb]
    replace fU:=Xk fU;replace jC:=Xk jC;replace hm:=Xk hm;generalize (n.vpcs.take k).filter (fun v=>ck n v.id==ck n id)=L at*;cases e1:(ck n v.id==ck n id)with
    |false=>
     rw[e1]at fU dv;refine ay ?_<;>intros;refine hC _ _ _ _ _ ?_ ⟨k+1,g,hlt,rfl,rfl,rfl⟩ (wf (hh:=(by rw[fU.out];simp only[YY,if_false,Ya];rfl)) (hb:=fW) (hbh:=fW));have:=hm.out;omega
    |true=>
     rw[e1]at fU dv;refine ay ?_<;>intros;refine hC _ _ _ _ _ ?_ ⟨k+1,g+1,hlt,rfl,rfl,rfl⟩ (wf (hh:=(by rw[fU.out];simp only[if_true,Xz,Xm,Xx,←aW];rfl)) (hb:=fW) (hbh:=fW));have:=hm.out;omega
   ·obtain rfl:k=n.vpcs.length:=by omega
    (try rw[Xq])
    replace hm:=Xk hm;exact bo;all_goals exact dg
theorem QU (y l:Lnk):rW y l < 0↔y.a < l.a∨(y.a=l.a∧y.b < l.b):=by
 unfold rW;simp only[DJ,d7];repeat' split
 all_goals omega
theorem Eo (v w:Vpc):ip v w=ip w v:=by
 have key:∀v w:Vpc,ip v w=true→ip w v=true:=fun v w h=>by
  unfold ip at h ⊢;obtain⟨r,hr,h⟩:=Yd.1 h;obtain⟨q,hq,h⟩:=Yd.1 h;exact Yd.2 ⟨q,hq,Yd.2 ⟨r,hr,by rw[wF];exact h⟩⟩
 rw[Yl];exact⟨key v w,key w v⟩
theorem JT (n:Net)(v w:Vpc):kS n v w=kS n w v:=by
 unfold kS;rw[Eo v w,Bool.beq_comm]
theorem JU {n:Net}{i j:Nat}{v w:Vpc}(hij:i≠j)(hv:n.vpcs[i]? =some v)(hw:n.vpcs[j]? =some w)(h:kS n v w=true):eK n=false:=by
 rcases Nat.lt_or_gt_of_ne hij with hlt|hlt
 ·exact tD hlt hw hv (by rw[JT];exact h)
 ·exact tD hlt hv hw h
theorem QV {n:Net}(hr:n.vpcs.Pairwise fun a b=>a.id < b.id){i:Nat}{v w:Vpc}(hv:n.vpcs[i]? =some v)(hw:w∈n.vpcs.take i):w.id≠v.id:=by
 obtain⟨j,hj,rfl⟩:=Yf.1 hw;rw[ZX];obtain⟨hi,rfl⟩:=Xo.1 hv;have:=XM.1 hr j i (by rw[Xp]at hj;omega) hi (by rw[Xp]at hj;omega);omega
theorem xy {n:Net}(hr:n.vpcs.Pairwise fun a b=>a.id < b.id){j:Nat}{w:Vpc}(hw:n.vpcs[j]? =some w):fM n w.id=some j:=by
 unfold fM;rw[XV];obtain⟨hj,rfl⟩:=Xo.1 hw;refine⟨hj,by simp,fun i hi=>?_⟩;have:=XM.1 hr i j (by omega) hj hi;simp;omega
theorem TE {n:Net}(hr:n.vpcs.Pairwise fun a b=>a.id < b.id){id x:Int}{k:Nat}(h:(xg n id)[k]? =some x):∃j w,n.vpcs[j]? =some w∧w.id=x∧fM n x=some j∧ck n x=ck n id:=by
 have hm:=Xl h;unfold xg at hm;obtain⟨w,hw,rfl⟩:=XH.1 hm;rw[Zt,beq_iff_eq]at hw;obtain⟨j,hj⟩:=List.mem_iff_getElem?.1 hw.1;exact⟨j,w,hj,rfl,xy hr hj,hw.2⟩
theorem QW {n:Net}{id:Int}{w:Vpc}(hw:w∈n.vpcs)(h:ck n w.id=ck n id):w.id∈xg n id:=by
 unfold xg;exact XH.2 ⟨w,Zt.2 ⟨hw,by simpa using h⟩,rfl⟩
theorem QZ (n:Net)(id:Int):(xg n id).length≤n.vpcs.length:=by
 unfold xg;rw[XF];exact Zw _ _
theorem Q0 {n:Net}(l:Lnk):kT n l=((fM n l.a).isSome&&((fM n l.b).isSome&&decide (l.a < l.b))):=by
 have key:∀x,(eO n x).isSome=(fM n x).isSome:=fun x=>by
  cases h:fM n x with
  |none=>rw[eW h];rfl
  |some i=>obtain⟨v,-,-,-,h2⟩:=gE h;rw[h2];rfl
 unfold kT;rw[key,key]
def JV (n:Net):Prop:=∀v∈n.vpcs,v.subs.length≤9223372036854775807∧∀s∈v.subs,s.faces.length≤9223372036854775807
theorem Gk (n:Net)(hz:JV n):ae prog 37 [.agg (eI n)] (.v (.int .i64 (dy n))):=by
 obtain⟨R,hR⟩:∃R,R=dy n:=⟨_,rfl⟩;rw[←hR];replace hR:=Xk hR;replace hz:=Xk hz;by_cases h6:n.vpcs.length>6
 ·have Wo:decide ((n.vpcs.length:Int)>6)=true:=by simp;omega
  have hr:R=2:=by rw[hR.out,dy,if_pos (.inl h6)]
  rw[hr];replace hr:=Xk hr;refine pj func37 ntmps37 results37 ?_;exact bo;all_goals exact ap.refl _
 by_cases Wp:n.links.length>12
 ·have Wo:decide ((n.vpcs.length:Int)>6)=false:=by simp;omega
  have Ul:decide ((n.links.length:Int)>12)=true:=by simp;omega
  have hr:R=2:=by rw[hR.out,dy,if_pos (.inr Wp)]
  rw[hr];replace hr:=Xk hr;refine pj func37 ntmps37 results37 ?_;exact bo;all_goals exact ap.refl _
 have Wo:decide ((n.vpcs.length:Int)>6)=false:=by simp;omega
 have Ul:decide ((n.links.length:Int)>12)=false:=by simp;omega
 have cB:¬(n.vpcs.length>6∨n.links.length>12):=by omega
 refine pj func37 ntmps37 results37 ?_;refine ay ?_<;>intros;refine br af al n.vpcs (fun k=>(∀v∈n.vpcs.take k,cn v=0)∧(n.vpcs.take k).Pairwise fun a b=>a.id < b.id) (fun k=>[(3,.d (.v (.int .i64 k))),(2,.d (.v (.int .i64 0))),(1,.ptr 0 0)]) (fun _=>[.box 34 ((eI n).map .d)]) (by simp) (wf) ?_ ?_
 ·intro k v hv hk hI C hC;have fy:(k:Int) < (n.vpcs.length:Int):=by omega
  have dW:=wi k (by omega);have gx:=ah hv;have hzv:=hz.out v (Xl hv);have hcv:=FQ v hzv.1 hzv.2;clear hzv;by_cases hc:cn v=0
  ·have hid:1≤v.id:=by have:=(bc hc).id;simp[cU]at this;exact this.1
   rw[hc]at hcv;have rj:(lK (n.vpcs.take k) < v.id)→(∀v∈n.vpcs.take (k+1),cn v=0)∧(n.vpcs.take (k+1)).Pairwise fun a b=>a.id < b.id:=fun h=>by
    rw[gx];exact⟨fun u hu=>by
     rcases X4.1 hu with hu|hu
     ·exact hI.1 u hu
     ·rw[X7.1 hu];exact hc,wK hI.2 h⟩
   have bP:v.id≤lK (n.vpcs.take k)→R=1:=fun h=>by
    rw[hR.out];refine gq cB (.inl ?_);cases hb:o4 n with
    |false=>rfl
    |true=>
     have:=(kU hb (k+1)).2;rw[gx]at this;exact absurd this (zT hid h)
   clear hI gx;replace hc:=Xk hc;replace rj:=Xk rj;replace bP:=Xk bP;by_cases hk0:k=0
   ·have Wq:decide ((k:Int)>0)=false:=by simp;omega
    have hg:=rj.out (by rw[hk0];simp[lK];omega);replace hg:=Xk hg;replace hk0:=Xk hk0;refine ay ?_<;>intros;exact hC _ _ hg.out (wf)
   ·obtain⟨j,hj⟩:∃j,k=j+1:=⟨k - 1,by omega⟩;obtain⟨u,hu⟩:∃u,n.vpcs[j]? =some u:=⟨_,Xj (by omega)⟩;have Wq:decide ((k:Int)>0)=true:=by simp;omega
    have bV:IntKind.i64.wrap ((k:Int) - 1)=(j:Int):=by rw[IntKind.wrap_i64];omega
    have mb:(j:Int) < (n.vpcs.length:Int):=by omega
    have tZ:lK (n.vpcs.take k)=u.id:=by rw[hj];unfold lK;rw[tG hu];rfl
    replace hj:=Xk hj;replace hk0:=Xk hk0;by_cases ho:u.id≥v.id
    ·have hr:R=1:=bP.out (by rw[tZ];exact ho);rw[hr];replace hr:=Xk hr;replace tZ:=Xk tZ;exact bo;all_goals exact ap.refl _
    ·have hg:=rj.out (by rw[tZ];omega);have hob:decide (u.id≥v.id)=false:=by simpa using ho
     replace tZ:=Xk tZ;replace hg:=Xk hg;replace ho:=Xk ho;refine ay ?_<;>intros;exact hC _ _ hg.out (wf)
  ·have hr:R=1:=by
    rw[hR.out];refine gq cB (.inl ?_);cases hb:o4 n with
    |false=>rfl
    |true=>exact absurd ((kU hb (k+1)).1 v (by rw[gx];simp)) hc
   have hcb:(cn v !=0)=true:=by simpa using hc
   rw[hr];clear hr hI hC gx;replace hc:=Xk hc;exact bo;all_goals exact ap.refl _
 ·intro hI C;rw[Xq]at hI;have OL:=wL hI.1 hI.2;have oq:=hI.2;replace hI:=Xk hI;replace oq:=Xk oq;replace OL:=Xk OL;refine ay ?_<;>intros;refine br af al n.links (fun k=>(∀l∈n.links.take k,kT n l=true)∧iJ (n.links.take k)=true) (fun k=>[(4,.d (.v (.int .i64 k))),(2,.d (.v (.int .i64 0))),(1,.ptr 0 0)]) (fun _=>[.box 34 ((eI n).map .d)]) (by simp[iJ]) (wf) ?_ ?_
  ·intro k l hl hk hJ C hC;have fy:(k:Int) < (n.links.length:Int):=by omega
   have dW:=wi k (by omega);have gx:=ah hl;have sL:=sf n l.a (by omega);have oe:=sf n l.b (by omega);rw[xv]at sL oe;have bP:kT n l=false→R=1:=fun h=>by
    rw[hR.out];refine gq cB (.inr (.inl ?_));rw[YX];exact⟨l,Xl hl,by simp[h]⟩
   have jR:=Q0 (n:=n) l;have fY:kT n l=true→iJ (n.links.take (k+1))=true→(∀l∈n.links.take (k+1),kT n l=true)∧iJ (n.links.take (k+1))=true:=fun h g=>by
    refine⟨?_,g⟩;rw[gx];intro u hu;rcases X4.1 hu with hu|hu
    ·exact hJ.1 u hu
    ·rw[X7.1 hu];exact h
   have x8:iJ (n.links.take (k+1))=false→R=1:=fun h=>by
    rw[hR.out];refine gq cB (.inr (.inr (.inl ?_)));cases hb:iJ n.links with
    |false=>rfl
    |true=>rw[zU hb]at h;cases h
   have t0:=tF (n.links.take k) l;rw[←gx,hJ.2,YC]at t0;have Ud:decide ((-1:Int) < 0)=true:=rfl;clear gx;replace hJ:=Xk hJ;replace bP:=Xk bP;replace x8:=Xk x8;replace fY:=Xk fY;by_cases kh:l.a < l.b
   ·have hge:decide (l.a≥l.b)=false:=by simp;omega
    cases ea:fM n l.a with
    |none=>
     rw[ea]at sL jR;simp only at sL;have hr:R=1:=bP.out (by rw[jR];rfl);rw[hr];clear hr jR t0 oe;replace ea:=Xk ea;replace kh:=Xk kh;exact bo;all_goals exact ap.refl _
    |some ia=>
     rw[ea]at sL jR;simp only at sL;have WM:decide ((ia:Int) < 0)=false:=by simp
     replace ea:=Xk ea;cases eb:fM n l.b with
     |none=>
      rw[eb]at oe jR;simp only at oe;have hr:R=1:=bP.out (by rw[jR];rfl);rw[hr];clear hr jR t0;replace eb:=Xk eb;replace kh:=Xk kh;exact bo;all_goals exact ap.refl _
     |some ib=>
      rw[eb]at oe jR;simp only at oe;have hib:decide ((ib:Int) < 0)=false:=by simp
      replace eb:=Xk eb;have hlt:kT n l=true:=by rw[jR];simp[kh]
      clear jR;replace hlt:=Xk hlt;replace kh:=Xk kh;by_cases hk0:k=0
      ·have Wq:decide ((k:Int)>0)=false:=by simp;omega
       have hg:=fY.out hlt.out (by rw[t0,hk0];rfl);clear t0;replace hg:=Xk hg;replace hk0:=Xk hk0;refine ay ?_<;>intros;exact hC _ _ hg.out (wf)
      ·obtain⟨j,hj⟩:∃j,k=j+1:=⟨k - 1,by omega⟩;obtain⟨y,hy⟩:∃y,n.links[j]? =some y:=⟨_,Xj (by omega)⟩;have Wq:decide ((k:Int)>0)=true:=by simp;omega
       have bV:IntKind.i64.wrap ((k:Int) - 1)=(j:Int):=by rw[IntKind.wrap_i64];omega
       have mb:(j:Int) < (n.links.length:Int):=by omega
       have hol:=QU y l;rw[hj,tG hy]at t0;simp only at t0;rw[←hj]at t0;replace hj:=Xk hj;replace hk0:=Xk hk0;by_cases ho:rW y l < 0
       ·have hg:=fY.out hlt.out (by rw[t0];simpa using ho);have ly:=hol.1 ho;clear t0 hol ho;replace hg:=Xk hg;by_cases pY:y.a < l.a
        ·have e1:decide (y.a>l.a)=false:=by simp;omega
         have e2:(y.a==l.a)=false:=by simp;omega
         clear ly pY;refine ay ?_<;>intros;exact hC _ _ hg.out (wf)
        ·have e1:decide (y.a>l.a)=false:=by simp;omega
         have e2:(y.a==l.a)=true:=by simp;omega
         have e3:decide (y.b≥l.b)=false:=by simp;omega
         clear ly pY;refine ay ?_<;>intros;exact hC _ _ hg.out (wf)
       ·have hr:R=1:=x8.out (by rw[t0];simpa using ho);have ly:¬(y.a < l.a∨(y.a=l.a∧y.b < l.b)):=fun h=>ho (hol.2 h);rw[hr];clear t0 hr hol ho;by_cases pY:y.a>l.a
        ·have e1:decide (y.a>l.a)=true:=by simpa using pY
         clear ly pY;exact bo;all_goals exact ap.refl _
        ·have e1:decide (y.a>l.a)=false:=by simpa using pY
         have e2:(y.a==l.a)=true:=by simp;omega
         have e3:decide (y.b≥l.b)=true:=by simp;omega
         clear ly pY;exact bo;all_goals exact ap.refl _
   ·have hge:decide (l.a≥l.b)=true:=by simp;omega
    have hr:R=1:=bP.out (by rw[jR];simp;omega);rw[hr];clear hr jR t0 sL oe;replace kh:=Xk kh;exact bo;all_goals exact ap.refl _
  ·intro hJ C;rw[Xq]at hJ;have Kt:∀l∈n.links,l.a∈n.vpcs.map (·.id)∧l.b∈n.vpcs.map (·.id)∧l.a < l.b:=fun l hl=>by
    have:=hJ.1 l hl;unfold kT at this;simp only[Xy,decide_eq_true_eq]at this;exact⟨iq this.1,iq this.2.1,this.2.2⟩
   replace hJ:=Xk hJ;replace Kt:=Xk Kt;refine ay ?_<;>intros;refine br af al n.vpcs (fun k=>∀v∈n.vpcs.take k,∀w∈n.vpcs,w.id≠v.id→kS n v w=false) (fun k=>[(6,.d (.v (.int .i64 k))),(2,.d (.v (.int .i64 0))),(1,.ptr 0 0)]) (fun _=>[.box 34 ((eI n).map .d)]) (by simp) (wf) ?_ ?_
   ·intro k v hv hk hK C hC;have fy:(k:Int) < (n.vpcs.length:Int):=by omega
    have dW:=wi k (by omega);have hgp:=NH n v.id k (xy oq.out hv) (by omega) (by omega) oq.out Kt.out;have hgl:=QZ n v.id;have fU:(∀w∈n.vpcs,w.id≠v.id→kS n v w=false)→∀v∈n.vpcs.take (k+1),∀w∈n.vpcs,w.id≠v.id→kS n v w=false:=fun h u hu=>by
     rw[ah hv]at hu;rcases X4.1 hu with hu|hu
     ·exact hK u hu
     ·rw[X7.1 hu];exact h
    have hgm:∀w∈n.vpcs,ck n w.id=ck n v.id→w.id∈xg n v.id:=fun w hw h=>QW hw h;have hga:∀(k:Nat) (x:Int),(xg n v.id)[k]? =some x→∃j w,n.vpcs[j]? =some w∧w.id=x∧fM n x=some j∧ck n x=ck n v.id:=fun k x h=>TE oq.out h;replace hK:=Xk hK;replace fU:=Xk fU;replace hgm:=Xk hgm;replace hga:=Xk hga;generalize xg n v.id=G at*;refine ay ?_<;>intros;refine br af al G (fun j=>∀w∈n.vpcs,w.id∈G.take j→w.id≠v.id→kS n v w=false) (fun j=>[(8,.d (.v (.int .i64 j))),(7,.d (.sl 1 (G.map dF))),(6,.d (.v (.int .i64 k))),(2,.d (.v (.int .i64 0))),(1,.ptr 0 0)]) (fun _=>[.box 34 ((eI n).map .d)]) (by simp) (wf) ?_ ?_
    ·intro j x hx hj hL C2 kz;have mb:(j:Int) < (G.length:Int):=by omega
     have rf:=wi j (by omega);obtain⟨q,w,hw,U2,hqx,hhx⟩:=hga.out j x hx;have yb:(x≠v.id→kS n v w=false)→∀w∈n.vpcs,w.id∈G.take (j+1)→w.id≠v.id→kS n v w=false:=fun h u hu hug bH=>by
      rw[ah hx]at hug;rcases X4.1 hug with hug|hug
      ·exact hL u hu hug bH
      ·have e1:u.id=x:=X7.1 hug;obtain⟨p,hp⟩:=List.mem_iff_getElem?.1 hu;have e2:=xy oq.out hp;rw[e1,hqx]at e2;cases e2;rw[hw]at hp;cases hp;exact h (by rw[←e1];exact bH)
     by_cases Ph:x=v.id
     ·have e1:(x !=v.id)=false:=by simpa using Ph
      have hn:=yb fun h=>absurd Ph h;clear yb hL;replace hn:=Xk hn;replace Ph:=Xk Ph;replace U2:=Xk U2;refine ay ?_<;>intros;exact kz _ _ hn.out (wf)
     ·have e1:(x !=v.id)=true:=by simpa using Ph
      have kf:=sf n x (by omega);rw[xv,hqx]at kf
      simp only at kf
      have Ay:=(bc (hI.out.1 v (Xl hv))).n4;have hrw:=(bc (hI.out.1 w (Xl hw))).n4;have gA:=Nz v w (by omega) (by omega);have hq0:(0:Int)≤(q:Int):=by omega
      have AB:(q:Int) < (n.vpcs.length:Int):=by have:=(Xo.1 hw).1;omega
      have Ky:kS n v w=ip v w:=by unfold kS;rw[U2,hhx];simp
      have hkq:k≠q:=fun e=>by subst e;rw[hv]at hw;cases hw;exact Ph U2.symm
      clear Ay hrw;replace U2:=Xk U2;replace hkq:=Xk hkq;replace hqx:=Xk hqx;replace hhx:=Xk hhx;replace hL:=Xk hL;cases b:ip v w with
      |true=>
       have hr:R=1:=by
        rw[hR.out];exact gq cB (.inr (.inr (.inr (JU hkq.out hv hw (by rw[Ky];exact b)))))
       rw[b]at gA;rw[hr];clear hr yb Ky b;replace Ph:=Xk Ph;exact bo;all_goals exact ap.refl _
      |false=>
       have hn:=yb fun _=>by rw[Ky];exact b
       rw[b]at gA;clear yb Ky b;replace hn:=Xk hn;replace Ph:=Xk Ph;refine ay ?_<;>intros;exact kz _ _ hn.out (wf)
    ·intro hL C2;rw[Xq]at hL;have hn:=fU.out fun w hw bH=>by
      by_cases hh:ck n w.id=ck n v.id
      ·exact hL w hw (hgm.out w hw hh) bH
      ·unfold kS;have:(ck n v.id==ck n w.id)=false:=by simpa using fun e=>hh e.symm
       rw[this];rfl
     replace hL:=Xk hL;replace hn:=Xk hn;refine ay ?_<;>intros;exact hC _ _ hn.out (wf)
   ·intro hK C;rw[Xq]at hK;have hr:R=0:=by
     rw[hR.out];refine tE cB OL.out (by rw[XB];exact hJ.out.1) hJ.out.2 (wJ fun i v w hv hw=>?_);exact hK v (Xl hv) w (Yc hw) (QV oq.out hv hw)
    rw[hr];replace hr:=Xk hr;replace hK:=Xk hK;exact bo;all_goals exact ap.refl _
def rdl:List (List D)→List (List D)→Prop
 |[],[]=>True
 |r::l,s::m=>tf r s∧rdl l m
 |_,_=>False
theorem NI:∀{l m:List (List D)},rdl l m→l.length=m.length∧∀(j:Nat) (a b:List D),l[j]? =some a→m[j]? =some b→tf a b
 |[],[],_=>⟨rfl,fun j a b h=>by simp at h⟩
 |[],_::_,h=>h.elim
 |_::_,[],h=>h.elim
 |r::l,s::m,⟨h1,h2⟩=>by
  obtain⟨q1,q2⟩:=NI h2;refine⟨by simp[q1],fun j a b ha hb=>?_⟩;cases j with
  |zero=>simp at ha hb;subst ha;subst hb;exact h1
  |succ j=>exact q2 j a b (by simpa using ha) (by simpa using hb)
theorem ap.sl {sz:Nat}{l m:List (List D)}(h:rdl l m)(h1:∀r∈m,∀d∈r,d.one=true):ap (.sl sz l) (.sl sz m):=fun M w v hr=>by
 obtain⟨q1,q2⟩:=NI h;cases hr with
 |nil _ ao cap hm=>
  have:m=[]:=XZ (by rw[←q1];rfl);subst this;exact .nil sz ao cap hm
 |sl _ rows b off cap f hM hb hc hm hr _ bY aY=>
  rw[q1];have row:∀(i:Nat) (s:List D),m[i]? =some s→∃r,l[i]? =some r∧tf r s:=fun i s hs=>by
   obtain⟨hlt,-⟩:=Xo.1 hs;exact⟨l[i]'(by omega),Xj (by omega),q2 i _ s (Xj (by omega)) hs⟩
  refine .sl sz m b off cap f hM hb (by omega) hm (fun s hs=>?_) h1 (fun i j hi hj=>bY i j (by omega) hj) (fun i j s d hs hd=>?_)
  ·obtain⟨i,hi,rfl⟩:=Yf.1 hs;obtain⟨r,e1,e2⟩:=row i _ (Xj hi);rw[←(vl e2).1];exact hr r (Xl e1)
  ·obtain⟨r,e1,e2⟩:=row i s hs;obtain⟨p1,p2⟩:=vl e2;obtain⟨hlt,-⟩:=Xo.1 hd;exact p2 j _ d (Xj (by omega)) hd M w _ (aY i j r _ e1 (Xj (by omega)))
theorem NJ {v:Vpc}(h:VpcOK v):cn v=0:=by
 rw[Mx];refine⟨?_,?_,h.ar,h.as_⟩
 ·simp only[kK,Zo,decide_eq_false_iff_not,Yw];refine⟨by have:=h.n4;omega,by have:=h.n6;omega,fun s hs=>?_⟩;have h8:=h.n8 s hs;simp only[nR,Bool.not_eq_true,Zo,decide_eq_false_iff_not,Yw];refine⟨by omega,fun f hf=>?_⟩;have:=h8.2 f hf;simp[qd];omega
 ·unfold qe;simp only[Xy,XB,fQ];exact⟨⟨h.id,h.rr,h.rs⟩,h.ranges,h.subs⟩
theorem JW {v:Vpc}{r:Rng}(h:(dK v r).2=0):cn (dK v r).1=0:=by
 unfold dK at h ⊢;by_cases h1:cn v≠0
 ·rw[if_pos h1]at h;exact absurd h h1
 rw[if_neg h1]at h ⊢;have hk:=bc (by simpa using h1);by_cases h2:oZ v r≠0
 ·rw[if_pos h2]at h;exact absurd h h2
 rw[if_neg h2]at h ⊢;have h3:oZ v r=0:=by simpa using h2
 obtain⟨g1,g2,g3,g4⟩:cU r.pool=true∧chk r.at_.at_ r.at_.len=0∧(v.ranges.any fun q=>q.at_.meets r.at_)=false∧v.ranges.length≠4:=by
  unfold oZ at h3;generalize (v.ranges.any fun q=>q.at_.meets r.at_)=M at*;generalize cU r.pool=I at*;grind
 have yg:r.at_.right=true:=by simp[Pfx.right,bq,g2]
 have cB:∀q∈v.ranges,q.at_.meets r.at_=false:=fun q hq=>by simpa using Yw.1 g3 q hq
 have bH:∀q∈v.ranges,q.at_.at_≠r.at_.at_:=fun q hq=>DC (j5 (hk.ranges q hq)) yg (cB q hq);refine NJ ⟨?_,hk.n6,hk.n8,hk.id,fJ hk.rr bH,hk.rs,fun q hq=>?_,fun s hs=>?_,?_,hk.as_⟩
 ·simp only[io];have:=hk.n4;omega
 ·rcases mF.1 hq with rfl|hq
  ·simp[d9,g1,g2]
  ·exact hk.ranges q hq
 ·have h4:=hk.subs s hs;unfold lZ at h4 ⊢;simp only[Xy]at h4 ⊢;refine⟨h4.1,?_,h4.2.2⟩;have h5:=h4.2.1;unfold eS at h5 ⊢;obtain⟨q,hq,h6⟩:=Yd.1 h5;exact Yd.2 ⟨q,mF.2 (.inr hq),h6⟩
 ·rw[o0];have hp:((fw (fun x:Rng=>x.at_.at_) r v.ranges).map (·.at_)).Perm (r.at_::v.ranges.map (·.at_)):=by
   refine((fR (fun x:Rng=>x.at_.at_) r v.ranges).map (·.at_)).trans ?_;rw[Xz];exact List.perm_append_singleton _ _
  refine(List.Perm.pairwise_iff (R:=fun a b:Pfx=>b.meets a=false) (fun {a b} kh=>by rw[wF];exact kh) hp).2 ?_;rw[YM];refine⟨fun a ha=>?_,o0.1 hk.ar⟩;obtain⟨q,hq,rfl⟩:=XH.1 ha;exact cB q hq
theorem JX {n:Net}(cC:NetOK n){i:Nat}{v:Vpc}(hv:n.vpcs[i]? =some v){r:Rng}(hg:(dK v r).2=0):(dy {n with vpcs:=n.vpcs.set i (dK v r).1}=0↔eK {n with vpcs:=n.vpcs.set i (dK v r).1}=true)∧JV {n with vpcs:=n.vpcs.set i (dK v r).1}:=by
 have KN:=cC.vp v (Xl hv);have Pb:=DY hg;have bD:cn (dK v r).1=0:=JW hg;obtain⟨hi,hve⟩:=Xo.1 hv;have Kt:(n.vpcs.set i (dK v r).1).map (·.id)=n.vpcs.map (·.id):=by
  rw[List.map_set,Pb.1];apply Yh;intro j;rw[_a];split
  ·rename_i hj;subst hj;rw[XF,if_pos hi,XA,hv];rfl
  ·rfl
 generalize (dK v r).1=w at*;have U1:∀u∈n.vpcs.set i w,cn u=0:=fun u hu=>by
  rcases Y6 hu with hu|rfl
  ·exact cC.vp u hu
  ·exact bD
 have H6:(n.vpcs.set i w).Pairwise fun a b=>a.id < b.id:=by
  have h1:=cC.rise;rw[←Y5 (f:=fun v:Vpc=>v.id) (R:=fun a b:Int=>a < b)]at h1 ⊢;rw[Kt];exact h1
 have Pf:∀x,(eO {n with vpcs:=n.vpcs.set i w} x).isSome=(eO n x).isSome:=fun x=>by
  have key:∀l:List Vpc,(l.find? fun v=>v.id==x).isSome=decide (x∈l.map (·.id)):=fun l=>by
   induction l with
   |nil=>simp
   |cons a l ih=>
    rw[List.find?_cons];split
    ·rename_i h;simp at h;simp[h]
    ·rename_i h;rw[ih];simp at h;simp;exact fun e=>absurd e.symm h
  unfold eO;simp only;rw[key,key,Kt]
 have pS:∀l∈n.links,kT {n with vpcs:=n.vpcs.set i w} l=true:=fun l hl=>by
  have:=cC.lk l hl;unfold kT at this ⊢;rw[Pf,Pf];exact this
 refine⟨⟨fun h=>(iM.1 h).pe,fun h=>iM.2 ⟨by simp;exact cC.n6,cC.n12,U1,H6,pS,cC.rk,h⟩⟩,fun u hu=>?_⟩;have:=bc (U1 u hu);exact⟨by have:=this.n6;omega,fun s hs=>by have:=(this.n8 s hs).1;omega⟩
def Q9 (s:Sbn):Prop:=s.faces.length≤1000000000∧∀f∈s.faces,f.addrs.length≤1000000000
def HN (v:Vpc):Prop:=v.ranges.length≤1000000000∧v.subs.length≤1000000000∧∀s∈v.subs,Q9 s
def ll (n:Net):Prop:=n.vpcs.length≤1000000000∧n.links.length≤1000000000∧∀v∈n.vpcs,HN v
theorem df:ll Net.zero:=⟨XL _,XL _,fun v h=>by simp[Net.zero]at h⟩
theorem Gl {v:Vpc}(h:VpcOK v):HN v:=⟨by have:=h.n4;omega,by have:=h.n6;omega,fun s hs=>⟨by have:=(h.n8 s hs).1;omega,fun f hf=>by have:=(h.n8 s hs).2 f hf;omega⟩⟩
theorem ei {n:Net}(h:NetOK n):ll n:=⟨by have:=h.n6;omega,by have:=h.n12;omega,fun v hv=>Gl (bc (h.vp v hv))⟩
theorem Ep (n:Net)(id:Int):ll (nU n id).1:=by
 unfold nU;split
 ·exact df
 ·rename_i hc;have cC:=iM.1 (by simpa using hc);split
  ·exact df
  ·obtain⟨a,b,c⟩:=ei cC;refine⟨?_,b,fun v hv=>?_⟩
   ·show (fw _ _ n.vpcs).length≤_;rw[io];have:=cC.n6;omega
   ·rcases mF.1 hv with rfl|hv
    ·exact⟨XL _,XL _,fun s hs=>by simp at hs⟩
    ·exact c v hv
theorem Er (n:Net)(id:Int)(r:Rng):ll (nT n id r).1:=by
 unfold nT;split
 ·exact df
 ·rename_i hc;have cC:=iM.1 (by simpa using hc);split
  ·exact df
  ·split
   ·exact df
   ·split
    ·exact df
    ·rename_i i hi v hv hg;split
     ·rename_i hp;exact ei (iM.1 ((JX cC hv (by simpa using hg)).1.2 hp))
     ·exact df
theorem Es (n:Net)(a b:Int):ll (qj n a b).1:=by
 unfold qj;split
 ·exact df
 ·rename_i hc;have cC:=iM.1 (by simpa using hc);split
  ·exact df
  ·obtain⟨x,y,z⟩:=ei cC;refine⟨x,?_,z⟩;show (fw _ _ n.links).length≤_;rw[io];have:=cC.n12;omega
theorem Et (n:Net)(a b:Int):ll (o9 n a b).1:=by
 unfold o9;split
 ·exact df
 ·rename_i hc;have cC:=iM.1 (by simpa using hc);split
  ·exact df
  ·obtain⟨x,y,z⟩:=ei cC;refine⟨x,?_,z⟩;rename_i i hi;show (n.links.eraseIdx i).length≤_;have:=List.length_eraseIdx_le n.links i;omega
def sh (s:Ste):Prop:=lR s.book∧ll s.net
theorem jb {b:Bok}(h:BookOK b):lR b:=⟨by have:=h.n8;omega,fun p hp=>by have:=h.l32 p hp;omega⟩
theorem si:sh .zero:=⟨bL,df⟩
theorem Eu {b:Bok}(h:BookOK b)(vs:List Vpc)(c:Cmd):lR (qi b vs c).1:=by
 have hb:=jb h;unfold qi;repeat' split
 all_goals first|exact hb|exact Ec ..|exact Ed ..|exact Bp ..|exact Ee ..|exact uy ..|exact uz ..
theorem Gm {n:Net}(h:NetOK n)(b:Bok)(c:Cmd):ll (Bm b n c).1:=by
 have hn:=ei h;unfold Bm;repeat' split
 all_goals first|exact hn|exact Ep ..|exact Es ..|exact Et ..
theorem jc {n:Net}(h:NetOK n){v:Vpc}(hv:nJ v)(k:Nat):ll {n with vpcs:=n.vpcs.set k v}:=by
 obtain⟨a,b,c⟩:=ei h;refine⟨by show (n.vpcs.set k v).length≤_;rw[A'];exact a,b,fun w hw=>?_⟩;rcases Y6 hw with hw|rfl
 ·exact c w hw
 ·exact hv
theorem Bs {b:Bok}{n:Net}(hb:BookOK b)(hn:NetOK n)(c:Cmd)(k:Nat)(v:Vpc):lR (nH b n c k v).1∧ll (nH b n c k v).2.1:=by
 have h1:=jb hb;have h2:=ei hn;unfold nH;repeat' split
 all_goals refine⟨?_,?_⟩
 all_goals first|exact h1|exact h2|exact uy ..|exact uz ..|exact Er ..|exact jc hn (Ef ..) _|exact jc hn (Gh ..) _|exact jc hn (Bq ..) _|exact jc hn (Eg ..) _|exact jc hn (Eh ..) _|exact jc hn (yL ..) _
theorem Bt {b:Bok}{n:Net}(hb:BookOK b)(hn:NetOK n)(c:Cmd):lR (jK b n c).1∧ll (jK b n c).2.1:=by
 unfold jK;split
 ·exact⟨jb hb,ei hn⟩
 ·split
  ·exact Bs hb hn ..
  ·exact⟨jb hb,ei hn⟩
theorem JY (s:Ste)(c:Cmd):sh (Bo s c).1:=by
 unfold Bo;by_cases h:eP s=0
 ·obtain⟨GC,BP⟩:=xp h;have hb:=eD GC;have hn:=iM.1 BP;rw[if_neg (by simpa using h)];split
  ·exact⟨jb hb,ei hn⟩
  ·unfold JN;split
   ·exact⟨Eu hb ..,ei hn⟩
   ·split
    ·exact⟨jb hb,Gm hn ..⟩
    ·split
     ·exact Bt hb hn c
     ·exact⟨jb hb,ei hn⟩
 ·rw[if_pos h];exact si
theorem sh.hz {s:Ste}(h:sh s):∀p∈s.book.pools,p.leases.length≤3518437208882:=fun p hp=>by have:=h.1.2 p hp;omega
def eQ (s:Ste)(l:List Cmd):Ste:=l.foldl (fun s c=>(Bo s c).1) s
def mU:Ste→List Cmd→List Ans
 |_,[]=>[]
 |s,c::l=>(Bo s c).2.1::mU (Bo s c).1 l
def Ao (l:List Cmd):Ste × List Ans × Int:=if 200 < l.length then (.zero,[],2)else (eQ .zero l,mU .zero l,0)
theorem xz (s:Ste)(l:List Cmd)(c:Cmd):eQ s (l++[c])=(Bo (eQ s l) c).1:=by
 unfold eQ;rw[Zr];rfl
theorem xA:∀(l:List Cmd) (s:Ste) (c:Cmd),mU s (l++[c])=mU s l++[(Bo (eQ s l) c).2.1]
 |[],_,_=>rfl
 |d::l,s,c=>by
  show _::mU _ (l++[c])=_;rw[xA l];rfl
theorem Ap:∀(l:List Cmd) (s:Ste),(mU s l).length=l.length
 |[],_=>rfl
 |_::l,s=>by show (mU _ l).length+1=_;rw[Ap l];rfl
theorem uC (l:List Cmd):sh (eQ .zero l):=by
 rcases List.eq_nil_or_concat l with rfl|⟨l,c,rfl⟩
 ·exact si
 ·rw[List.concat_eq_append,xz];exact JY ..
abbrev JZ:=List Int × Int
theorem HO:∀{m:List JZ}{k:List Int}{v:Int},(∀x∈m,x.1≠k)→mo m k v=m++[(k,v)]
 |[],k,v,_=>rfl
 |(k',x)::m,k,v,h=>by
  unfold mo;rw[if_neg (h _ (p' ..)),HO fun y hy=>h y (YR _ hy)];rfl
def VA (m:List JZ)(x:JZ):List JZ:=mo m x.1 x.2
theorem HQ:∀(l m:List JZ),(m++l).Pairwise (fun a b=>a.1≠b.1)→l.foldl VA m=m++l
 |[],m,_=>by simp
 |x::l,m,h=>by
  rw[YG];have h1:=(Zp.1 h).2.2;have e:VA m x=m++[x]:=HO fun y hy=>h1 y hy x (p' ..);rw[e,HQ l (m++[x]) (by simpa using h)];simp
def Gn (p:Pol):List JZ:=(p.leases.filter fun l=>l.kind==1).map fun l=>([l.at_.at_,l.at_.len,p.id],l.owner)
def sj (b:Bok):List JZ:=b.pools.flatMap Gn
theorem NK (p:Pol)(m:List JZ):MH m p=(Gn p).foldl VA m:=by
 unfold MH Gn;generalize p.leases=l;induction l generalizing m with
 |nil=>rfl
 |cons a l ih=>
  rw[YG,ih];unfold Kv;by_cases h:a.kind=1
  ·rw[if_pos h,List.filter_cons_of_pos (by simpa using h)];rfl
  ·rw[if_neg h,List.filter_cons_of_neg (by simpa using h)]
theorem NL (b:Bok):vt b=(sj b).foldl VA []:=by
 unfold vt sj;have key:∀(l:List Pol) (m:List JZ),l.foldl MH m=(l.flatMap Gn).foldl VA m:=by
  intro l;induction l with
  |nil=>intro m;rfl
  |cons p l ih=>intro m;rw[YG,ih,ZF,Zr,NK]
 exact key _ _
theorem jd {b:Bok}(h:BookOK b):(sj b).Pairwise fun x y=>x.1≠y.1:=by
 unfold sj;rw[List.pairwise_flatMap];constructor
 ·intro p hp;have hl:=qU (h.mem p hp).2.1;unfold Gn;rw[Y5];exact(hl.filter _).imp fun {a b} kh e=>by simp at e;omega
 ·refine h.rise.imp fun {p q} hpq x hx y hy e=>?_;unfold Gn at hx hy;obtain⟨l,-,rfl⟩:=XH.1 hx;obtain⟨l',-,rfl⟩:=XH.1 hy;simp at e;omega
theorem Gp {b:Bok}(h:BookOK b):vt b=sj b:=by
 rw[NL,HQ _ [] (by simpa using jd h)];rfl
theorem pO:∀{l:List JZ},l.Pairwise (fun x y=>x.1≠y.1)→∀{k:List Int}{o:Int},kl l k=some o↔(k,o)∈l
 |[],_,k,o=>by simp[kl]
 |(k',x)::l,h,k,o=>by
  have h':=YM.1 h;unfold kl;by_cases e:k'=k
  ·subst e;rw[if_pos rfl];constructor
   ·intro hx;cases hx;exact p' ..
   ·intro hx;rcases XY.1 hx with hx|hx
    ·cases hx;rfl
    ·exact absurd rfl (h'.1 (k',o) hx)
  ·rw[if_neg e,pO h'.2];constructor
   ·exact fun hx=>YR _ hx
   ·intro hx;rcases XY.1 hx with hx|hx
    ·cases hx;exact absurd rfl e
    ·exact hx
theorem xB {b:Bok}{k:List Int}{o:Int}:(k,o)∈sj b↔∃p∈b.pools,∃l∈p.leases,l.kind=1∧k=[l.at_.at_,l.at_.len,p.id]∧o=l.owner:=by
 unfold sj Gn;simp only[Z7,XH,Zt,Prod.mk.injEq,beq_iff_eq];constructor
 ·rintro⟨p,hp,l,⟨hl,hk⟩,rfl,rfl⟩;exact⟨p,hp,l,hl,hk,rfl,rfl⟩
 ·rintro⟨p,hp,l,hl,hk,rfl,rfl⟩;exact⟨p,hp,l,⟨hl,hk⟩,rfl,rfl⟩
theorem NN {α:Type}[DecidableEq α]{l m:List α}(hl:l.Nodup)(hm:m.Nodup)(hs:∀x∈l,x∈m):l.length≤m.length∧(l.length=m.length↔∀x∈m,x∈l):=by
 have h1:=hl.length_le_of_subset hs;refine⟨h1,fun h x hx=>?_,fun h=>Nat.le_antisymm h1 (hm.length_le_of_subset h)⟩;refine Classical.byContradiction fun hn=>?_;have h2:(x::l).Nodup:=List.nodup_cons.2 ⟨hn,hl⟩;have h3:=h2.length_le_of_subset (fun y hy=>by
  rcases XY.1 hy with rfl|hy
  ·exact hx
  ·exact hs y hy:(x::l) ⊆ m)
 simp at h3;omega
def xC (vs:List Vpc):List (List Int):=vs.flatMap fun v=>v.ranges.map fun r=>[r.at_.at_,r.at_.len,r.pool]
theorem J0 (vs:List Vpc):(xC vs).length=o3 vs:=by
 unfold xC o3;rw[List.length_flatMap];simp
theorem xD {E:List JZ}{id:Int}{r:Rng}(hid:id≠0):Bb E id r=true↔kl E [r.at_.at_,r.at_.len,r.pool]=some id:=by
 unfold Bb;cases h:kl E [r.at_.at_,r.at_.len,r.pool]with
 |none=>simp;omega
 |some x=>simp
theorem Ev {E:List JZ}{vs:List Vpc}(hr:vs.Pairwise fun a b=>a.id < b.id)(hv:∀v∈vs,v.id≠0∧v.ranges.Pairwise fun a b=>a.at_.at_ < b.at_.at_)(cC:kQ E vs=true):(xC vs).Nodup:=by
 unfold xC List.Nodup;rw[List.pairwise_flatMap];have pS:∀v∈vs,∀r∈v.ranges,kl E [r.at_.at_,r.at_.len,r.pool]=some v.id:=fun v vf r Ic=>
  (xD (hv v vf).1).1 (XB.1 (XB.1 cC v vf) r Ic)
 constructor
 ·intro v vf;rw[Y5];exact(hv v vf).2.imp fun {a b} kh e=>by simp at e;omega
 ·rw[XM]at hr ⊢;intro i j hi hj hij x hx y hy e;obtain⟨r,Ic,rfl⟩:=XH.1 hx;obtain⟨r',a0P,rfl⟩:=XH.1 hy;have h1:=pS _ (Ym hi) r Ic;have h2:=pS _ (Ym hj) r' a0P;rw[e,h2]at h1;have:=hr i j hi hj hij;simp at h1;omega
theorem J1 {E:List JZ}{vs:List Vpc}(hE:E.Pairwise fun x y=>x.1≠y.1)(hr:vs.Pairwise fun a b=>a.id < b.id)(hv:∀v∈vs,v.id≠0∧v.ranges.Pairwise fun a b=>a.at_.at_ < b.at_.at_)(cC:kQ E vs=true):
 o3 vs=(E.countP fun kv=>gM vs kv.2)↔∀kv∈E,gM vs kv.2=true→kv.1∈xC vs:=by
 have hA:=Ev hr hv cC;have hB:((E.filter fun kv=>gM vs kv.2).map (·.1)).Nodup:=by
  unfold List.Nodup;rw[Y5];exact(hE.filter _)
 have hs:∀x∈xC vs,x∈(E.filter fun kv=>gM vs kv.2).map (·.1):=by
  intro x hx;obtain⟨v,vf,hx⟩:=Z7.1 hx;obtain⟨r,Ic,rfl⟩:=XH.1 hx;have h1:=(xD (hv v vf).1).1 (XB.1 (XB.1 cC v vf) r Ic);have h2:=(pO hE).1 h1;exact XH.2 ⟨_,Zt.2 ⟨h2,Yd.2 ⟨v,vf,by simp⟩⟩,rfl⟩
 have h:=(NN hA hB hs).2;rw[J0,XF,←List.countP_eq_length_filter]at h;rw[h];constructor
 ·intro h kv H9 hh;exact h _ (XH.2 ⟨kv,Zt.2 ⟨H9,hh⟩,rfl⟩)
 ·intro h x hx;obtain⟨kv,H9,rfl⟩:=XH.1 hx;obtain⟨h1,h2⟩:=Zt.1 H9;exact h kv h1 h2
theorem J3 {b:Bok}(h:BookOK b){p q:Pol}(hp:p∈b.pools)(hq:q∈b.pools)(e:p.id=q.id):p=q:=by
 obtain⟨i,hi,rfl⟩:=X9 hp;obtain⟨j,hj,rfl⟩:=X9 hq;have hr:=XM.1 h.rise;rcases Y4 i j with h1|h1|h1
 ·have:=hr i j hi hj h1;omega
 ·subst h1;rfl
 ·have:=hr j i hj hi h1;omega
theorem NO {b:Bok}(h:BookOK b)(pid:Int)(at_:Pfx):kl (vt b) [at_.at_,at_.len,pid]=(lj b pid at_).map (·.owner):=by
 rw[Gp h];unfold lj cv;cases hf:b.pools.find? fun p=>p.id==pid with
 |none=>
  simp only[Zi];cases hk:kl (sj b) [at_.at_,at_.len,pid]with
  |none=>rfl
  |some o=>
   obtain⟨p,hp,l,hl,qr,he,-⟩:=xB.1 ((pO (jd h)).1 hk);have:=YF.1 hf p hp;simp at he this;omega
 |some p=>
  have yn:=YO hf;have AC:p.id=pid:=by have:=Zv hf;simpa using this
  simp only;cases hl:p.leases.find? (kZ at_)with
  |none=>
   simp only[Zi];cases hk:kl (sj b) [at_.at_,at_.len,pid]with
   |none=>rfl
   |some o=>
    obtain⟨q,hq,l,mc,qr,he,-⟩:=xB.1 ((pO (jd h)).1 hk);simp at he;obtain rfl:=J3 h yn hq (by omega);have:=YF.1 hl l mc;unfold kZ at this;exfalso;apply this;have:l.at_=at_:=by
     have h1:=he.1;have h2:=he.2.1;cases OG:l.at_ with
     |mk x y=>
      cases at_ with
      |mk x' y'=>rw[OG]at h1 h2;simp only at h1 h2;rw[h1,h2]
    simp[qr,this]
  |some l=>
   simp only[Yg];have mc:=YO hl;have hg:=Zv hl;unfold kZ at hg;rw[Xy]at hg;have g1:l.kind=1:=by simpa using hg.1
   have g2:l.at_=at_:=of_decide_eq_true hg.2;rw[pO (jd h)];exact xB.2 ⟨p,yn,l,mc,g1,by rw[g2,AC],rfl⟩
def Kw (b:Bok)(id:Int)(r:Rng):Bool:=match lj b r.pool r.at_ with|some l=>l.owner==id|none=>false
def J4 (vs:List Vpc)(pid:Int)(l:Lse):Bool:=!(l.kind==1)||(match vs.find? (·.id==l.owner)with|some v=>v.ranges.any fun r=>decide (r=(⟨l.at_,pid⟩:Rng))|none=>true)
def NP (s:Ste):Bool:=s.net.vpcs.all fun v=>v.ranges.all (Kw s.book v.id)
def Gq (s:Ste):Bool:=s.book.pools.all fun p=>p.leases.all (J4 s.net.vpcs p.id)
theorem Ra {s:Ste}(h:BookOK s.book)(hv:∀v∈s.net.vpcs,v.id≠0):kQ (vt s.book) s.net.vpcs=NP s:=by
 unfold kQ NP;have key:∀v∈s.net.vpcs,∀r∈v.ranges,Bb (vt s.book) v.id r=Kw s.book v.id r:=by
  intro v vf r _;unfold Bb Kw;rw[NO h];cases lj s.book r.pool r.at_ with
  |none=>have:=hv v vf;simp;omega
  |some l=>simp
 rw[Yl,XB,XB];refine forall_congr' fun v=>forall_congr' fun vf=>?_;rw[XB,XB];exact forall_congr' fun r=>forall_congr' fun Ic=>by rw[key v vf r Ic]
theorem NQ {vs:List Vpc}(hr:vs.Pairwise fun a b=>a.id < b.id){v w:Vpc}(hv:v∈vs)(hw:w∈vs)(e:v.id=w.id):v=w:=by
 obtain⟨i,hi,rfl⟩:=X9 hv;obtain⟨j,hj,rfl⟩:=X9 hw;have hr:=XM.1 hr;rcases Y4 i j with h1|h1|h1
 ·have:=hr i j hi hj h1;omega
 ·subst h1;rfl
 ·have:=hr j i hj hi h1;omega
theorem Rb {s:Ste}(h:BookOK s.book)(hr:s.net.vpcs.Pairwise fun a b=>a.id < b.id)(hv:∀v∈s.net.vpcs,v.id≠0)(cC:kQ (vt s.book) s.net.vpcs=true):
 (∀kv∈vt s.book,gM s.net.vpcs kv.2=true→kv.1∈xC s.net.vpcs)↔Gq s=true:=by
 rw[Gp h]at cC ⊢;unfold Gq;simp only[XB];constructor
 ·intro hk p hp l hl;unfold J4;by_cases qr:l.kind=1
  ·have hm:=xB.2 ⟨p,hp,l,hl,qr,rfl,rfl⟩;cases hf:s.net.vpcs.find? (·.id==l.owner)with
   |none=>simp
   |some v=>
    have vf:=YO hf;have WQ:v.id=l.owner:=by have:=Zv hf;simpa using this
    have hka:=hk _ hm (Yd.2 ⟨v,vf,by simpa using WQ⟩);obtain⟨w,GH,hx⟩:=Z7.1 hka;obtain⟨r,Ic,he⟩:=XH.1 hx;have h1:=(xD (hv w GH)).1 (XB.1 (XB.1 cC w GH) r Ic);have h2:=(pO (jd h)).2 hm;simp only at he;rw[he,h2]at h1;have hwv:w=v:=NQ hr GH vf (by simp at h1;omega);subst hwv;have:r=⟨l.at_,p.id⟩:=by
     cases r with
     |mk a pl=>
      cases a;cases OG:l.at_;simp_all
    simp only[qr,beq_self_eq_true,Bool.not_true,Z0];exact Yd.2 ⟨r,Ic,by simpa using this⟩
  ·simp[qr]
 ·rintro hk ⟨k,o⟩ H9 hh;obtain⟨p,hp,l,hl,qr,rfl,rfl⟩:=xB.1 H9;have h1:=hk p hp l hl;unfold J4 at h1;simp only[qr,beq_self_eq_true,Bool.not_true,Z0]at h1;obtain⟨v,vf,WQ⟩:=Yd.1 hh;cases hf:s.net.vpcs.find? (·.id==l.owner)with
  |none=>exact absurd WQ (by simpa using YF.1 hf v vf)
  |some w=>
   rw[hf]at h1;obtain⟨r,Ic,he⟩:=Yd.1 h1;have he:r=⟨l.at_,p.id⟩:=by simpa using he
   exact Z7.2 ⟨w,YO hf,XH.2 ⟨r,Ic,by rw[he]⟩⟩
theorem J5 (s:Ste):eP s=if bx s.book≠0 then bx s.book else if dy s.net≠0 then dy s.net else if (NP s&&Gq s)=true then 0 else 1:=by
 unfold eP;by_cases h1:bx s.book=0
 ·have n1:¬bx s.book≠0:=fun h=>h h1;by_cases h2:dy s.net=0
  ·have n2:¬dy s.net≠0:=fun h=>h h2;rw[if_neg n1,if_neg n1,if_neg n2,if_neg n2];have hb:=eD h1;have hn:=iM.1 h2;have hv:∀v∈s.net.vpcs,v.id≠0:=fun v vf e=>by
    have:=(bc (hn.vp v vf)).id;unfold cU at this;rw[e]at this;simp at this
   have KJ:∀v∈s.net.vpcs,v.id≠0∧v.ranges.Pairwise fun a b=>a.at_.at_ < b.at_.at_:=fun v vf=>⟨hv v vf,(bc (hn.vp v vf)).rr⟩;rw[←Ra hb hv];cases cC:kQ (vt s.book) s.net.vpcs with
   |false=>simp
   |true=>
    have hc:=J1 (E:=vt s.book) (by rw[Gp hb];exact jd hb) hn.rise KJ cC;rw[Rb hb hn.rise hv cC]at hc;simp only[YC,decide_eq_true_eq];by_cases h3:Gq s=true
    ·rw[if_pos (hc.2 h3),if_pos h3]
    ·rw[if_neg (fun e=>h3 (hc.1 e)),if_neg h3]
  ·rw[if_neg n1,if_neg n1,if_pos h2,if_pos h2]
 ·rw[if_pos h1,if_pos h1]
theorem NR {α:Type}{p:α→Bool}{l:List α}{k:Nat}{x:α}(hx:l[k]? =some x)(h:(l.take k).any p=false)(hp:p x=false):(l.take (k+1)).any p=false:=by
 rw[ah hx,List.any_append,h];simpa using hp
theorem Rc {α:Type}{p:α→Bool}{l:List α}{k:Nat}{x:α}(hx:l[k]? =some x)(hp:p x=true):l.any p=true:=Yd.2 ⟨x,Xl hx,hp⟩
theorem Gr (v:Vpc)(r:Rng)(hl:v.ranges.length≤1000000000):ae prog 40 [.agg (aD v),.agg (cq r)] (.v (.bool (v.ranges.any fun x=>decide (x=r)))):=by
 obtain⟨R,hR⟩:∃R,R=v.ranges.any fun x=>decide (x=r):=⟨_,rfl⟩;rw[←hR];replace hR:=Xk hR;refine pj func40 ntmps40 results40 ?_;refine ay ?_;refine br af al v.ranges (fun k=>((v.ranges.take k).any fun x=>decide (x=r))=false) (fun k=>[(5,.d (.v (.int .i64 k))),(4,.d (.v (.bool false))),(3,.ptr 1 0),(2,.ptr 0 0)]) (fun _=>[.box 88 ((aD v).map .d),.box 100 ((cq r).map .d)]) rfl wf ?_ ?_
 ·intro k x hx hk hI C hC;have fy:(k:Int) < (v.ranges.length:Int):=by omega
  have dW:=wi k (by omega);have he:=DU x r;replace hI:=Xk hI;cases hp:decide (x=r)with
  |true=>
   rw[hp]at he;have hr:R=true:=by rw[hR.out];exact Rc hx hp
   rw[hr];replace hp:=Xk hp;exact bo
  |false=>
   rw[hp]at he;have rj:=Xk (NR hx hI.out hp);replace hp:=Xk hp;refine ay ?_;exact hC _ _ rj.out wf
 ·intro hI C;rw[Xq]at hI;have hr:R=false:=by rw[hR.out,hI]
  rw[hr];replace hI:=Xk hI;exact bo
theorem NS {α:Type}(p:α→Bool)(l:List α):(db p l < 0∧l.find? p=none)∨∃(k:Nat) (x:α),db p l=k∧l[k]? =some x∧l.find? p=some x:=by
 unfold db;cases h:l.findIdx? p with
 |none=>
  left;exact⟨by simp,YF.2 fun x hx=>by simpa using Yx.1 h x hx⟩
 |some k=>
  right;obtain⟨hk,h1,h2⟩:=XV.1 h;refine⟨k,_,rfl,Xj hk,?_⟩;rw[Zg];exact⟨h1,k,hk,rfl,fun j hj=>by simpa using h2 j hj⟩
theorem Ew (s:Ste)(hz:∀p∈s.book.pools,p.leases.length≤3518437208882)(U3:JV s.net):ae prog 16 [.agg (dR s)] (.v (.int .i64 (eP s))):=by
 have hb:=D8 s.book hz;have hn:=Gk s.net U3;rw[J5];by_cases h1:bx s.book=0
 ·rw[if_neg (by simpa using h1)];rw[h1]at hb;by_cases h2:dy s.net=0
  ·rw[if_neg (by simpa using h2)];rw[h2]at hn;have Ig:=eD h1;have cB:=iM.1 h2;have h8:=Ig.n8;have iG:=Xk Ig.l32;have n6:=cB.n6;have Uw:∀v∈s.net.vpcs,v.ranges.length≤4:=fun v hv=>(bc (cB.vp v hv)).n4;replace Uw:=Xk Uw;obtain⟨R,hR⟩:∃R,R=if (NP s&&Gq s)=true then (0:Int)else 1:=⟨_,rfl⟩;rw[←hR];replace hR:=Xk hR;clear h1 h2 Ig cB hz U3;refine pj func16 ntmps16 results16 ?_;refine ay ?_;refine br af al s.net.vpcs (fun k=>((s.net.vpcs.take k).all fun v=>v.ranges.all (Kw s.book v.id))=true) (fun k=>[(5,.d (.v (.int .i64 k))),(2,.d (.v (.int .i64 0))),(1,.ptr 0 0)]) (fun _=>[.box 36 ((dR s).map .d)]) rfl wf ?_ ?_
   ·intro k v hx hk hI C hC;have fy:(k:Int) < (s.net.vpcs.length:Int):=by omega
    have dW:=wi k (by omega);have h4:=Xk (Uw.out v (Xl hx));have pW:=Xk hx;replace hI:=Xk hI;refine ay ?_;clear hx;refine br af al v.ranges (fun j=>((v.ranges.take j).all (Kw s.book v.id))=true) (fun j=>[(7,.d (.v (.int .i64 j))),(6,.ptr 1 0),(5,.d (.v (.int .i64 k))),(2,.d (.v (.int .i64 0))),(1,.ptr 0 0)]) (fun _=>[.box 36 ((dR s).map .d),.box 88 ((aD v).map .d)]) rfl wf ?_ ?_
    ·intro j r hy hj hJ C2 kz;have mb:(j:Int) < (v.ranges.length:Int):=by omega
     have rf:IntKind.i64.wrap ((j:Int)+1)=((j+1:Nat):Int):=by have:=h4.out;rw[IntKind.wrap_i64];omega
     have OG:=JP s.book r.pool r.at_ (by omega) (fun q hq=>by have:=iG.out q hq;omega);have T6:=Xk hy;replace hJ:=Xk hJ;have bP:Kw s.book v.id r=false→R=1:=fun e=>by
      rw[hR.out,if_neg];intro h;rw[Xy]at h;have:=XB.1 (XB.1 h.1 v (Xl pW.out)) r (Xl T6.out);rw[e]at this;cases this
     have fY:Kw s.book v.id r=true→((v.ranges.take (j+1)).all (Kw s.book v.id))=true:=fun e=>by
      rw[ah T6.out,ZU,hJ.out];simpa using e
     cases O0:lj s.book r.pool r.at_ with
     |none=>
      rw[O0]at OG;have hr:=bP (by unfold Kw;rw[O0]);rw[hr];clear bP fY hr;simp only[xu]at OG;replace O0:=Xk O0;exact bo
     |some l=>
      rw[O0]at OG;simp only[xu]at OG;cases ho:l.owner==v.id with
      |false=>
       have hr:=bP (by unfold Kw;rw[O0];exact ho);rw[hr];have e1:(l.owner !=v.id)=true:=by simpa using ho
       clear bP fY hr;replace O0:=Xk O0;exact bo
      |true=>
       have hg:=Xk (fY (by unfold Kw;rw[O0];exact ho));have e1:(l.owner !=v.id)=false:=by simpa using ho
       clear bP fY;replace O0:=Xk O0;refine ay ?_;exact kz _ _ hg.out wf
    ·intro hJ C2;rw[Xq]at hJ;have rj:((s.net.vpcs.take (k+1)).all fun v=>v.ranges.all (Kw s.book v.id))=true:=by
      rw[ah pW.out,ZU,hI.out];simpa using hJ
     replace rj:=Xk rj;replace hJ:=Xk hJ;refine ay ?_;exact hC _ _ rj.out wf
   ·intro hI C;rw[Xq]at hI;have hA:NP s=true:=hI;have cJ:R=if Gq s=true then 0 else 1:=by rw[hR.out,hA,YC]
    replace hI:=Xk hI;replace cJ:=Xk cJ;replace hA:=Xk hA;refine ay ?_;refine br af al s.book.pools (fun k=>((s.book.pools.take k).all fun p=>p.leases.all (J4 s.net.vpcs p.id))=true) (fun k=>[(10,.d (.v (.int .i64 k))),(2,.d (.v (.int .i64 0))),(1,.ptr 0 0)]) (fun _=>[.box 36 ((dR s).map .d)]) rfl wf ?_ ?_
    ·intro k p hx hk hI C hC;have fy:(k:Int) < (s.book.pools.length:Int):=by omega
     have dW:=wi k (by omega);have h4:=Xk (iG.out p (Xl hx));have pW:=Xk hx;replace hI:=Xk hI;refine ay ?_;clear hx;refine br af al p.leases (fun j=>((p.leases.take j).all (J4 s.net.vpcs p.id))=true) (fun j=>[(12,.d (.v (.int .i64 j))),(11,.ptr 1 0),(10,.d (.v (.int .i64 k))),(2,.d (.v (.int .i64 0))),(1,.ptr 0 0)]) (fun _=>[.box 36 ((dR s).map .d),.box 83 ((am p).map .d)]) rfl wf ?_ ?_
     ·intro j l hy hj hJ C2 kz;have mb:(j:Int) < (p.leases.length:Int):=by omega
      have rf:IntKind.i64.wrap ((j:Int)+1)=((j+1:Nat):Int):=by have:=h4.out;rw[IntKind.wrap_i64];omega
      have hva:=sf s.net l.owner (by omega);have T6:=Xk hy;replace hJ:=Xk hJ;have bP:J4 s.net.vpcs p.id l=false→R=1:=fun e=>by
       rw[cJ.out,if_neg];intro h;have:=XB.1 (XB.1 h p (Xl pW.out)) l (Xl T6.out);rw[e]at this;cases this
      have fY:J4 s.net.vpcs p.id l=true→((p.leases.take (j+1)).all (J4 s.net.vpcs p.id))=true:=fun e=>by
       rw[ah T6.out,ZU,hJ.out];simpa using e
      cases hkd:l.kind==1 with
      |false=>
       have hg:=Xk (fY (by unfold J4;rw[hkd];rfl));clear bP fY hva;refine ay ?_;exact kz _ _ hg.out wf
      |true=>
       rcases NS (fun v:Vpc=>v.id==l.owner) s.net.vpcs with⟨h0,hf⟩|⟨i,v,hi,hv,hf⟩
       ·have hg:=Xk (fY (by unfold J4;rw[hkd,hf];rfl));have e1:decide (db (fun v:Vpc=>v.id==l.owner) s.net.vpcs≥0)=false:=by simp;omega
        generalize db (fun v:Vpc=>v.id==l.owner) s.net.vpcs=ix at*;replace h0:=Xk h0;replace hf:=Xk hf;clear bP fY;refine ay ?_;exact kz _ _ hg.out wf
       ·rw[hi]at hva;have hil:=(Xo.1 hv).1;have SD:(i:Int) < (s.net.vpcs.length:Int):=by omega
        have p3:decide ((i:Int)≥0)=true:=by simp
        have hh:=Gr v ⟨l.at_,p.id⟩ (by have:=Uw.out v (Xl hv);omega);replace hi:=Xk hi;cases hb:v.ranges.any fun x=>decide (x=(⟨l.at_,p.id⟩:Rng))with
        |true=>
         have hg:=Xk (fY (by unfold J4;rw[hkd,hf];exact hb));rw[hb]at hh;replace hb:=Xk hb;replace hf:=Xk hf;clear bP fY;refine ay ?_;exact kz _ _ hg.out wf
        |false=>
         have hr:=bP (by unfold J4;rw[hkd,hf];exact hb);rw[hb]at hh;replace hb:=Xk hb;replace hf:=Xk hf;clear bP fY;rw[hr];exact bo
     ·intro hJ C2;rw[Xq]at hJ;have rj:((s.book.pools.take (k+1)).all fun p=>p.leases.all (J4 s.net.vpcs p.id))=true:=by
       rw[ah pW.out,ZU,hI.out];simpa using hJ
      replace rj:=Xk rj;replace hJ:=Xk hJ;refine ay ?_;exact hC _ _ rj.out wf
    ·intro hI C;rw[Xq]at hI;have hr:R=0:=by rw[cJ.out,if_pos (show Gq s=true from hI)]
     rw[hr];replace hI:=Xk hI;exact bo
  ·have e2:(dy s.net !=0)=true:=by simpa using h2
   rw[if_pos h2];generalize dy s.net=X at*;replace h1:=Xk h1;replace h2:=Xk h2;refine pj func16 ntmps16 results16 ?_;exact bo
 ·have e2:(bx s.book !=0)=true:=by simpa using h1
  rw[if_pos h1];generalize bx s.book=X at*;replace h1:=Xk h1;refine pj func16 ntmps16 results16 ?_;exact bo
structure SameAct (a b:Ste × Ans):Prop where
 err:a.2.err=b.2.err
 eq:a.2.err=0→a=b
theorem SameAct.refl (a:Ste × Ans):SameAct a a:=⟨rfl,fun _=>rfl⟩
theorem RealC.box_le {X:Cfg}{e:cm}{h:List Chunk}{a:Act}{w:World}{c:Cx}(hr:RealC X (bG e h) a w c){k T:Nat}{cells cells':List PV}(hk:aw h k= .box T cells)(hlt:k < h.length)(hle:uP cells cells')(h1:∀d∈cells',d.one=true):
 RealC X (bG e (bu h k (.box T cells'))) a w c:=by
 have hh:∀k',(bG e (bu h k (.box T cells'))).heap k'=if k'=k then .box T cells' else (bG e h).heap k':=fun k'=>fO (G' hlt) k';have hb:∀k',c.block k' ((bG e (bu h k (.box T cells'))).heap k')=c.block k' ((bG e h).heap k'):=by
  intro k';rw[hh];split
  ·rename_i he;subst he;show _=c.block k' (aw h k');rw[hk];rfl
  ·rfl
 refine⟨hr.size,hr.defers,hr.ext,hr.inv,hr.fresh,fun b=>?_,fun k' b H8=>?_,fun k' k'' b h1 h2=>?_,hr.env,fun k'=>?_,hr.lent⟩
 ·rw[hr.mu b];simp only[hb]
 ·rw[hb]at H8;exact hr.new k' b H8
 ·rw[hb]at h1 h2;exact hr.apart k' k'' b h1 h2
 ·rw[hh];split
  ·rename_i he;subst he;have bD:=hr.chunk k';rw[show (bG e h).heap k'=_ from hk]at bD;cases bD with
   |box _ _ b vs hb hhp EV di=>exact .box T cells' b vs hb hhp (rQ hle EV) h1
  ·exact hr.chunk k'
theorem Ex {P:Program}{n m:Nat}{e:cm}{h:List Chunk}(k:Nat){T:Nat}(ds ds':List D)(hk:aw h k= .box T (ds.map .d))(hlt:k < h.length)(hle:tf ds ds')(h1:ds'.all D.one=true):eo P n m e h e (bu h k (.box T (ds'.map .d))):=
 fun X _ _ _ a w ⟨c,hc⟩=>⟨c,hc.box_le hk hlt (FJ hle) fun d hd=>by
  obtain⟨x,hx,rfl⟩:=XH.1 hd;exact XB.1 h1 x hx⟩
theorem Re {l:List Cmd}{k:Nat}{c:Cmd}(h:l[k]? =some c):eQ .zero (l.take (k+1))=(Bo (eQ .zero (l.take k)) c).1∧mU .zero (l.take (k+1))=mU .zero (l.take k)++[(Bo (eQ .zero (l.take k)) c).2.1]:=by
 rw[ah h,xz,xA];exact⟨rfl,rfl⟩
theorem TF (l:List Cmd):ae prog 13 [.sl 10 (l.map oN)] (.tup [.agg (dR (Ao l).1),.sl 4 ((Ao l).2.1.map G9),.v (.int .i64 (Ao l).2.2)]):=by
 unfold Ao;by_cases h:200 < l.length
 ·rw[if_pos h];have e1:decide ((l.length:Int)>200)=true:=by simp;omega
  replace h:=Xk h;refine pj func13 ntmps13 results13 ?_;refine ay ?_;exact dz
 ·rw[if_neg h];have e1:decide ((l.length:Int)>200)=false:=by simp;omega
  have hle:l.length≤200:=by omega
  clear h;refine pj func13 ntmps13 results13 ?_;refine ay ?_;refine br af al l (fun _=>True) (fun k=>[(18,.d (.v (.int .i64 k))),(17,.d (.v (.int .i64 l.length))),(16,.d (.sl 10 (l.map oN))),(6,.own 2 k),(5,.ptr 1 0),(2,.ptr 0 0)])
   (fun k=>[.box 36 [.d (.v (.int .i64 0)),.d (.v (.slice none 0 0)),.d (.v (.slice none 0 0)),.d (.v (.slice none 0 0))],.box 36 ((dR (eQ .zero (l.take k))).map .d),.row 47 4 k (ab ((mU .zero (l.take k)).map G9))]) trivial ?_ ?_ ?_
  ·refine(dZ (by simp) 6 47 4 rfl).trans ((Ex 1 [.v (.int .i64 0),.v (.slice none 0 0),.v (.slice none 0 0),.v (.slice none 0 0)] (dR .zero) rfl (by simp) ⟨ap.refl _,ap.nil _,ap.nil _,ap.nil _,trivial⟩ rfl).trans ?_);exact wf
  ·intro k c hc hk _ C hC;have fy:(k:Int) < (l.length:Int):=by omega
   have dW:=wi k (by omega);have qs:=uC (l.take k);have hdo:=Vz (eQ .zero (l.take k)) c qs.hz;obtain⟨xT,Pg⟩:=Re hc;have oa:=Ap (l.take k) .zero;have hlt:(YD k l).length=k:=by rw[Xp];omega
   rw[hlt]at oa;generalize Bo (eQ .zero (l.take k)) c=R at*;generalize eQ .zero (l.take k)=S at*;generalize mU .zero (l.take k)=A at*;replace xT:=Xk xT;replace Pg:=Xk Pg;replace qs:=Xk qs;refine ay ?_;refine hC _ _ trivial ?_;rw[xT.out,Pg.out];exact wf (hh:=by rw[Xz,Xm,Xx];rfl)
  ·intro _ C;rw[Xq];first|exact bo|(refine ay ?_;exact dz)
theorem HR (s:ByteArray):repN s≤200∧42*repN s≤s.size:=by
 unfold repN;split
 ·rename_i h;have hr:=h.2.choose_spec;refine⟨hr.le,?_⟩;generalize h.2.choose=n at*;rcases Zl n with h0|h0
  ·omega
  ·have:=(hr.all (n - 1) (by omega)).1;omega
 ·omega
noncomputable def recS (s:ByteArray):Ste × Int × Int:=if oQ s≠0 then (.zero,0,oQ s)else (eQ .zero (repL s),repN s,0)
noncomputable def ansS (s:ByteArray) (c:Cmd):Ans:=(Bo (eQ .zero (repL s)) c).2.1
noncomputable def outS (s:ByteArray) (c:Cmd):ByteArray:=if (ansS s c).err=0 then s.extract 0 (42*repN s)++PT c else s.extract 0 (42*repN s)
noncomputable def storS (s:ByteArray) (c:Cmd):ByteArray × Ans × Int:=
 if oQ s≠0 then (⟨#[]⟩,.zero,oQ s)else if uO c=false then (⟨#[]⟩,.zero,3)else if repN s=200 then (⟨#[]⟩,.zero,2)else (outS s c,ansS s c,0)
theorem NT (s:ByteArray):Ao (repL s)=(eQ .zero (repL s),mU .zero (repL s),0):=by
 unfold Ao;rw[if_neg (by rw[uj];have:=(HR s).1;omega)]
theorem Rf {s:ByteArray}(h:oQ s=0):s.size≤16384:=by
 unfold oQ at h;split at h
 ·assumption
 ·cases h
theorem Aq (s:ByteArray):ae prog 6 [.v (.string s)] (.tup [.agg (dR (recS s).1),.v (.int .i64 (recS s).2.1),.v (.int .i64 (recS s).2.2)]):=by
 have h1:=Db s;have h2:=TF (repL s);have hl:=uj s;rw[NT]at h2;dsimp only at h2;unfold recS;generalize repL s=L at*;generalize repN s=n at*;generalize mU .zero L=A at*;generalize eQ .zero L=S at*;generalize oQ s=E at*;subst hl;by_cases hE:E=0
 ·subst hE;rw[if_neg (by simp)];refine pj func6 ntmps6 results6 ?_;first|exact bo|(refine ay ?_;exact dz)
 ·rw[if_pos hE];have hE2:(E==0)=false:=by simpa using hE
  have hE3:(E !=0)=true:=by simpa using hE
  replace hE:=Xk hE;refine pj func6 ntmps6 results6 ?_;first|exact bo|(refine ay ?_;exact dz)
theorem Rg (s:ByteArray)(c:Cmd):ae prog 9 [.v (.string s),.agg (oN c)] (.tup [.v (.string (storS s c).1),.agg (G9 (storS s c).2.1),.v (.int .i64 (storS s c).2.2)]):=by
 have h1:=Aq s;unfold storS;by_cases hE:oQ s=0
 ·rw[if_neg (by simpa using hE)];have cM:=Rf hE;have hr:recS s=(eQ .zero (repL s),(repN s:Int),0):=by unfold recS;rw[if_neg (by simpa using hE)]
  rw[hr]at h1;dsimp only at h1;clear hr;have h2:=PU c;cases hc:uO c with
  |false=>
   rw[hc]at h2;rw[if_pos rfl];refine pj func9 ntmps9 results9 ?_;first|exact bo|(refine ay ?_;exact dz)
  |true=>
   rw[hc]at h2;rw[if_neg (by simp)];obtain⟨hn,H4⟩:=HR s;by_cases Kf:repN s=200
   ·rw[if_pos Kf];rw[Kf]at h1;clear hn H4;refine pj func9 ntmps9 results9 ?_;first|exact bo|(refine ay ?_;exact dz)
   ·rw[if_neg Kf];have h3:=Vz (eQ .zero (repL s)) c (uC (repL s)).hz;have h4:=Db s;have h5:=PW (FD c) (by rw[IW];omega);have e1:((repN s:Int)==200)=false:=by simp;omega
    have h42:(0:Int)≤42*(repN s:Int):=by omega
    replace Kf:=Xk Kf;have OS:=IY c;have VI:(s.extract 0 (42*repN s)).size=42*repN s:=by rw[Y7];omega
    have hx:(42*(repN s:Int)).toNat=42*repN s:=by omega
    unfold outS ansS;unfold PT at OS ⊢;generalize Bo (eQ .zero (repL s)) c=R at*;generalize eQ .zero (repL s)=S at*;generalize iQ (FD c)=F at*;generalize FD c=T at*;generalize (repL s).map oN=L at*;generalize repN s=n at*;by_cases ha:R.2.1.err=0
    ·rw[if_pos ha];have Pg:(s.extract 0 (42*n)).size+F.size≤9223372036854775807:=by omega
     refine pj func9 ntmps9 results9 ?_;first|exact bo|(refine ay ?_;exact dz)
    ·rw[if_neg ha];have ha':(R.2.1.err==0)=false:=by simpa using ha
     replace ha:=Xk ha;refine pj func9 ntmps9 results9 ?_;first|exact bo|(refine ay ?_;exact dz)
 ·rw[if_pos hE];have hr:recS s=(.zero,0,oQ s):=by unfold recS;rw[if_pos hE]
  rw[hr]at h1;dsimp only at h1;have hE3:(oQ s !=0)=true:=by simpa using hE
  replace hE:=Xk hE;refine pj func9 ntmps9 results9 ?_;first|exact bo|(refine ay ?_;exact dz)
section
open Go.Proofs
theorem Rh (n:Int)(h:uJ n=true):UK (256*(256*(256*(256*0+n / 16777216 % 256)+n / 65536 % 256)+n / 256 % 256)+n % 256)=n:=by
 obtain⟨h1,h2⟩: -2147483648≤n∧n≤2147483647:=by simpa[uJ]using h
 unfold UK;split<;>omega
theorem J6 (n:Int):∀m∈GV n,qx m:=by
 intro m hm;simp[GV]at hm;rcases hm with rfl|rfl|rfl|rfl<;>exact⟨by omega,by omega⟩
theorem Gs (c:WCmd)(h:c.ok=true):vE (bn (qA c))=c:=by
 obtain⟨h0,h1,h2⟩:=SL h;unfold qA;rw[qy]
 ·have e:=fun n hn=>Rh n (h2 n hn);cases c with
  |mk op a b c at_ len min max usual cool=>
   simp only[WCmd.nums,XY,List.not_mem_nil,or_false]at e;have:=e a (by simp);have:=e b (by simp);have:=e c (by simp);have:=e at_ (by simp);have:=e len (by simp);have:=e min (by simp);have:=e max (by simp);have:=e usual (by simp);have:=e cool (by simp);show WCmd.mk _ _ _ _ _ _ _ _ _ _=_;congr 1
 ·intro m hm;rcases XY.1 hm with rfl|hm
  ·exact⟨by omega,by omega⟩
  ·obtain⟨n,-,hn⟩:=Z7.1 hm;exact J6 n m hn
theorem uD (a b c:ByteArray)(i j:Nat)(hi:i=a.size)(hj:j=a.size+b.size):(a++b++c).extract i j=b:=by
 subst hi hj;apply ZL;apply Z9;simp only[_b,ZQ,_h,N',I'];have ha:a.data.toList.length=a.size:=by rw[ZH];rfl
 have hb:b.data.toList.length=b.size:=by rw[ZH];rfl
 rw[XT,←ha,List.drop_left,ha,show a.size+b.size - a.size=b.data.toList.length from by omega,List.take_left]
theorem lT (a b:List WCmd):kD (a++b)=kD a++kD b:=by
 apply ZL;rw[ZQ];simp[kD,me]
theorem Ey (c:WCmd):kD [c]=m8 c:=by
 apply ZL;simp[kD,me]
theorem J7 (l:List WCmd)(tail:ByteArray)(k:Nat)(hk:k < l.length):∃a b,kD l++tail=a++m8 l[k]++b∧a.size=42*k:=by
 refine⟨kD (l.take k),kD (l.drop (k+1))++tail,?_,?_⟩
 ·have e:l=l.take k++[l[k]]++l.drop (k+1):=by simp
  conv=>lhs;rw[e]
  rw[lT,lT,Ey,_p]
 ·rw[mf,Xp];omega
theorem Ez (c:WCmd):∃a b,m8 c=a++qA c++b∧a.size=1:=by
 refine⟨strOfNums [((qA c).size:Int)],strOfNums (Pk (ow (Fb (qA c)))),?_,?_⟩
 ·unfold m8;rw[zd _ (by rw[pq];omega)]
 ·rw[strOfNums_size];rfl
theorem EA (l:List WCmd)(tail:ByteArray)(k:Nat)(hk:k < l.length):Fd (kD l++tail) (42*k)∧(kD l++tail).extract (42*k+1) (42*k+38)=qA l[k]:=by
 obtain⟨a,b,he,ha⟩:=J7 l tail k hk;obtain⟨a',b',he',ha'⟩:=Ez l[k];have h1:(kD l++tail).extract (42*k) (42*k+42)=m8 l[k]:=by
  rw[he];exact uD _ _ _ _ _ ha.symm (by rw[ha,oy])
 have h2:(kD l++tail).extract (42*k+1) (42*k+38)=qA l[k]:=by
  rw[he,he',show a++(a'++qA l[k]++b')++b=(a++a')++qA l[k]++(b'++b) from by simp only[_p]];exact uD _ _ _ _ _ (by rw[Zb,ha,ha']) (by rw[Zb,ha,ha',pq])
 refine⟨⟨?_,?_⟩,h2⟩
 ·rw[Zb,mf];omega
 ·rw[h1,h2];rfl
theorem NU (l:List WCmd)(hl:l.all WCmd.ok=true)(tail:ByteArray)(k:Nat)(hk:k < l.length):K9 (kD l++tail) k=l[k]:=by
 unfold K9;rw[(EA l tail k hk).2,Gs _ (XB.1 hl _ (Ym hk))]
theorem Gt (l:List WCmd)(hl:l.all WCmd.ok=true)(tail:ByteArray)(n:Nat)(hn:n≤l.length):kE (kD l++tail) n=l.take n:=by
 apply List.ext_getElem
 ·rw[fe,Xp];omega
 ·intro i h1 h2;rw[fe]at h1;simp[kE,NU l hl tail i (by omega)]
end
section
open Go.Proofs
theorem Bu (a b:ByteArray)(k:Nat)(h:a.size≤k):(a++b).extract 0 k=a++b.extract 0 (k - a.size):=by
 apply ZL;apply Z9;simp only[_b,ZQ,_h,N',I',List.drop_zero,Yr];have ha:a.data.toList.length=a.size:=by rw[ZH];rfl
 rw[List.take_append,XI (by omega),ha]
theorem HS (l:List WCmd)(k:Nat)(hk:k≤42*l.length):∃t,(kD l).extract 0 k=kD (l.take (k / 42))++t∧t.size < 42:=by
 have hm:42*(k / 42)≤k:=Nat.mul_div_le k 42;have hs:(kD (l.take (k / 42))).size=42*(k / 42):=by rw[mf,Xp];omega
 refine⟨(kD (l.drop (k / 42))).extract 0 (k - 42*(k / 42)),?_,?_⟩
 ·conv=>lhs;rw[←YU (k / 42) l,lT]
  rw[Bu _ _ _ (by rw[hs];exact hm),hs]
 ·rw[Y7];omega
theorem Bv (l:List WCmd)(hl:l.length≤200)(t:ByteArray)(ht:t.size < 42):Replayed (kD l++t) l.length:=
 ⟨hl,fun k hk=>(EA l t k hk).1,.inr fun hf=>by
  have:=hf.1;rw[Zb,mf]at this;omega⟩
theorem NV (l:List WCmd)(cC:l.all WCmd.ok=true)(k:Nat)(hk:k≤42*l.length):kE ((kD l).extract 0 k) (k / 42)=l.take (k / 42):=by
 obtain⟨t,ht,UX⟩:=HS l k hk;rw[ht,Gt _ (XB.2 fun x hx=>XB.1 cC x (Yc hx)) _ _ (by rw[Xp];omega)];rw[List.take_take,z']
end
theorem HT {s:ByteArray}{k:Nat}(h:k=s.size):s.extract 0 k=s:=by
 subst h;apply ZL;apply Z9;simp only[_b,_h,I',List.drop_zero,Yr];exact XI (by rw[ZH];exact XC _)
def uT (l:List Cmd):ByteArray:=kD (l.map yD)
theorem xE (l:List Cmd):(uT l).size=42*l.length:=by unfold uT;rw[mf,XF]
theorem NW (l:List Cmd)(c:Cmd):uT (l++[c])=uT l++PT c:=by
 unfold uT;rw[Xz,lT,List.map_singleton,Ey];rfl
theorem TG {l:List Cmd}(h:∀c∈l,uO c=true):(l.map yD).all WCmd.ok=true:=by
 rw[List.all_map,XB];exact h
theorem NX (l:List Cmd):(l.map yD).map S0=l:=by
 rw[Z8];exact(Y2 fun c _=>IV c).trans (List.map_id _)
theorem Ri (l:List Cmd)(hl:l.length≤200)(ho:∀c∈l,uO c=true)(k:Nat)(hk:k≤42*l.length):
 repN ((uT l).extract 0 k)=k / 42∧repL ((uT l).extract 0 k)=l.take (k / 42)∧oQ ((uT l).extract 0 k)=0:=by
 have hz:((uT l).extract 0 k).size≤16384:=by rw[Y7,xE];omega
 have mc:(l.map yD).length=l.length:=XF _;obtain⟨t,ht,UX⟩:=HS (l.map yD) k (by rw[mc];exact hk);have hr:Replayed ((uT l).extract 0 k) (k / 42):=by
  have:=Bv ((l.map yD).take (k / 42)) (by rw[Xp,mc];omega) t UX;rw[Xp,mc,Nat.min_eq_left (by omega)]at this;unfold uT;rw[ht];exact this
 have hn:=He hz hr;refine⟨hn,?_,by unfold oQ;rw[if_pos hz]⟩;unfold repL;rw[if_pos hz,hn];unfold uT;rw[NV _ (TG ho) k (by rw[mc];exact hk),←Zz];exact NX _
theorem HU (l:List Cmd)(hl:l.length≤200)(ho:∀c∈l,uO c=true):repN (uT l)=l.length∧repL (uT l)=l∧oQ (uT l)=0:=by
 have h:=Ri l hl ho (42*l.length) (XC _);rw[HT (xE l).symm,Nat.mul_div_cancel_left _ (by omega),Xq]at h;exact h
theorem Rj (l:List Cmd)(hl:l.length≤200)(ho:∀c∈l,uO c=true):recS (uT l)=(eQ .zero l,(l.length:Int),0):=by
 obtain⟨h1,h2,h3⟩:=HU l hl ho;unfold recS;rw[if_neg (by simpa using h3),h1,h2]
def mV (k:List Cmd)(c:Cmd):List Cmd:=if (Bo (eQ .zero k) c).2.1.err=0 then k++[c]else k
def jT (l:List Cmd):List Cmd:=l.foldl (fun k c=>if uO c=true then mV k c else k) []
theorem Gu (l:List Cmd)(c:Cmd):jT (l++[c])=if uO c=true then mV (jT l) c else jT l:=by
 unfold jT;rw[Zr];rfl
theorem Rk (l:List Cmd):∀k:List Cmd,(∀c∈k,uO c=true)→∀c∈l.foldl (fun k c=>if uO c=true then mV k c else k) k,uO c=true:=by
 induction l with
 |nil=>intro k hk;exact hk
 |cons x r ih=>
  intro k hk;refine ih _ ?_;show ∀c∈(if uO x=true then mV k x else k),uO c=true;split
  ·rename_i hx;unfold mV;split
   ·intro c hc;rcases X4.1 hc with hc|hc
    ·exact hk c hc
    ·rw[X7.1 hc];exact hx
   ·exact hk
  ·exact hk
theorem NY (l:List Cmd):∀c∈jT l,uO c=true:=Rk l [] (by simp)
theorem NZ (l:List Cmd):∀k:List Cmd,(l.foldl (fun k c=>if uO c=true then mV k c else k) k).length≤k.length+l.length:=by
 induction l with
 |nil=>intro k;exact XC _
 |cons x r ih=>
  intro k;have:=ih (if uO x=true then mV k x else k);have h2:(if uO x=true then mV k x else k).length≤k.length+1:=by
   unfold mV;split
   ·split
    ·simp
    ·omega
   ·omega
  simp only[YG,XD];omega
theorem J8 (l:List Cmd):(jT l).length≤l.length:=by
 have:=NZ l [];simpa[jT]using this
theorem N0 (l:List Cmd)(hl:l.length < 200)(ho:∀c∈l,uO c=true)(c:Cmd):
 storS (uT l) c=if uO c=true then (uT (mV l c),(Bo (eQ .zero l) c).2.1,0)else (⟨#[]⟩,.zero,3):=by
 obtain⟨h1,h2,h3⟩:=HU l (by omega) ho;unfold storS;rw[if_neg (by simpa using h3),h1];cases hc:uO c with
 |false=>rfl
 |true=>
  rw[if_neg (by simp),if_neg (by omega),if_pos rfl];unfold outS ansS mV;rw[h1,h2,HT (xE l).symm];split
  ·rw[NW]
  ·rfl
section
open Go.Proofs
theorem Gx:(prog.info? 76).map (·.size)=some 2:=by kernel_rfl
theorem EL:(prog.info? 5).map (fun i=>(i.zero,i.size,i.bytes))=some (some (.int .u8 0),1,1):=by kernel_rfl
theorem EB {w:World}{b:Nat}{cs:Array Value}{T:Nat}{fr:Nat × Nat}(h:w.heap[b]? =some (.cells cs T fr)):w.setRow b cs=w:=by
 have e:(w.setRow b cs).heap=w.heap:=by
  apply Array.ext_getElem?;intro i;by_cases e:i=b
  ·subst e;rw[setRow_heap w i _ cs _ _ h,h]
  ·exact setRow_other w b i cs e
 calc w.setRow b cs={w with heap:=(w.setRow b cs).heap}:=rfl
  _=w:=by rw[e]
theorem uU (b:Nat)(ad:Option Addr)(v:Value)(w:World)(dv:w.heap[b]? =some (.cells #[.pointer ad,v] 78 (0,0)))(Ii:ad=none∨ad=some ⟨b,0,none⟩):
 Calls prog 130 #[.pointer (some ⟨b,0,none⟩)] w fun e w'=>e= .returned (.tuple #[])∧w'=w.setRow b #[.pointer (some ⟨b,0,none⟩),v]:=by
 obtain⟨j,hj,hjs⟩:=XG.1 Gx;have h0:w.cell? ⟨b,0,none⟩=some (.pointer ad):=by rw[H' dv];rfl
 rcases Ii with rfl|rfl
 ·have WR:liesAt prog prog.depth 78 (2 / prog.cellsOf 78) 0 76 1=true:=by kernel_rfl
  have Kn:w.shape? b=some (78,2):=by simp[World.shape?,dv]
  have UA:w.frozen? ⟨b,0,none⟩=false:=Lib.frozen_of_heap dv 0;rw[show w.setRow b #[.pointer (some ⟨b,0,none⟩),v]=w.setCell ⟨b,0,none⟩ (.pointer (some ⟨b,0,none⟩)) from (setCell_eq_setRow w b 0 _ _ _ _ dv).symm];clear dv;go_enter func130,ntmps130
  go_wp2
  rw[Lib.run_to_unsafe w ⟨b,0,none⟩ underlying73 underlying278 hj (by rw[hjs];decide) Kn (ZM 1)];simp only[Result.andThen];rw[Oper.upon_value];go_wp2
  rw[run_callFunc_extern func220 (by kernel_rfl) (by kernel_rfl) (by kernel_rfl) (e:=Extern.AbiNoEscape.same) (by kernel_rfl)];rw[Lib.run_noEscape];simp only[Result.andThen];rw[Oper.upon_value];go_wp2
  rw[Lib.run_from_unsafe w ⟨b,0,none⟩ underlying278 underlying73 hj Kn WR];simp only[Result.andThen];rw[Oper.upon_value];go_wp2
  go_end0
  exact⟨rfl,rfl⟩
 ·rw[EB dv];clear dv;go_enter func130,ntmps130
  go_wp2
  rw[Lib.run_neq_ptr_same w _ underlying73 hj];go_wp2
  go_end0
  exact⟨rfl,rfl⟩
theorem Bw {P:Program}{w:World}(t u ty e:TypeId)(i:TypeInfo)(ht:P.underlying t=some (.slice e))(hu:P.underlying u=some .string)(hi:P.info? e=some i)(hz:i.zero=some (.int .u8 0))
 (lW:i.size=1) (B0:i.bytes=1) (v:Value) (n:Nat) (xs:List Value) (bt:OwnV w e 1 v n xs) (s:ByteArray) (hb:n+s.size≤140737488355328):
 ∃v' w',(Builtin.append_ #[t,u] ty #[v,.string s]).run P w= .ok v' w'∧OwnV w' e 1 v' (n+s.size) (xs++ZA s)∧OneB w w' (cQ v)∧(cQ v'=cQ v∨∀b,cQ v'=some b→w.heap.size≤b):=by
 have So:∀k,k≤140737488355328→k≤maxLen:=fun k hk=>by unfold maxLen;omega
 have WS:∀(k:Nat),k=0→s.size≤140737488355328→∃v' w',(Builtin.append_ #[t,u] ty #[.slice none 0 0,.string s]).run P w= .ok v' w'∧OwnV w' e 1 v' (k+s.size) ([]++ZA s)∧OneB w w' none∧(∀b,cQ v'=some b→w.heap.size≤b):=by
  rintro k rfl hs;obtain⟨v',w',hr,ho,hg,-⟩:=Lib.run_append_own_string (P:=P) w w.heap.size t u ty e i ht hu hi hz lW B0 _ 0 [] (Q' w _ e 1) s (So _ (by omega)) (by omega) (XC _);refine⟨v',w',hr,.of_row ho,⟨hg.os,hg.tape,hg.output,hg.size,fun b hb' _=>hg.block b hb' (by simp[Value.ownBlock])⟩,fun b hb'=>?_⟩;rcases ho.2 with⟨rfl,_⟩|⟨g,cap,cur,rfl,cK,_⟩
  ·cases hb'
  ·cases cap with
   |zero=>cases hb'
   |succ cap=>cases hb';exact cK
 cases bt with
 |nil=>
  obtain⟨v',w',g1,g2,g3,g4⟩:=WS 0 rfl (by omega);exact⟨v',w',g1,g2,g3,.inr g4⟩
 |zero a=>
  by_cases hm:s.size=0
  ·have hf:=Lib.run_firstCells_string (P:=P) w 1 s;have hn:ZA s=[]:=XZ (by rw[Lib.strCells_length];exact hm);rw[hm,hn]at hf;refine⟨.slice (some a) 0 0,w,?_,by rw[hm,hn];exact .zero a,⟨rfl,rfl,rfl,XC _,fun _ _ _=>rfl⟩,.inl rfl⟩;simp[Builtin.append_,run_underlying ht,run_underlying hu,sizeOf,typeInfo,hi,lW,Builtin.lenOf,hm,hf,storeCells]
  ·have BP:=run_append_nil_string (P:=P) w t u ty e i (.int .u8 0) ht hu hi hz s (by omega) (by omega) (by rw[B0];omega);have hg:=Lib.run_append_grow_string (P:=P) w t u ty e i (.int .u8 0) ht hu hi hz a 0 0 [] (by simp) (fun j v h=>by simp at h) s (by omega) (by omega) (by rw[B0];exact growslice_fits (by omega) (by omega));obtain⟨v',w',g1,g2,g3,g4⟩:=WS 0 rfl (by omega);rw[BP]at g1;have e1:(s.data.map fun b=>Value.int .u8 b.toNat)=(ZA s).toArray:=by
    apply Z9;simp[ZA]
   rw[e1]at g1;simp only[XK]at hg;have e2:(#[]++(ZA s).toArray:Array Value)=(ZA s).toArray:=by simp
   rw[show ([]:List Value).toArray=#[] from rfl,e2,g1]at hg;exact⟨v',w',hg,g2,g3,.inr g4⟩
 |row g n cap cur xs h0 hh hn hm hs hl ht'=>
  obtain⟨cap,rfl⟩:∃c,cap=c+1:=⟨cap - 1,by omega⟩;have bt:w.ownsRow 0 e 1 (.slice (some ⟨g,0,none⟩) n (cap+1)) n xs:=⟨hl,.inr ⟨g,cap+1,cur,rfl,XL _,hh,hn,hm,hs,ht'⟩⟩;obtain⟨v',w',hr,ho,hg,-⟩:=Lib.run_append_own_string (P:=P) w 0 t u ty e i ht hu hi hz lW B0 _ n xs bt s (So _ hb) hb (XL _);refine⟨v',w',hr,.of_row ho,⟨hg.os,hg.tape,hg.output,hg.size,fun b hb' bH=>hg.block b hb' (fun e=>bH e.symm)⟩,?_⟩;by_cases gZ:n+s.size≤cap+1
  ·have:=Lib.run_append_room_string (P:=P) w t u ty e i ht hu hi lW g n (cap+1) cur hh s gZ (by omega);rw[this]at hr;cases hr;exact .inl rfl
  ·have:=Lib.run_append_grow_string (P:=P) w t u ty e i (.int .u8 0) ht hu hi hz ⟨g,0,none⟩ n (cap+1) xs (by rw[lW];simpa using hl) (bt.cells (g:=g) rfl) s (by omega) (by omega) (by rw[B0];exact growslice_fits (by omega) (by omega));rw[this]at hr;cases hr;refine .inr fun b hb'=>?_;have:=cF (a:=⟨w.heap.size,0,none⟩) (n:=n+s.size) (cap:=grownCap w (n+s.size) (cap+1) e) (by have:=grownCap_ge w (n+s.size) (cap+1) e;omega);rw[this]at hb';cases hb';exact XC _
theorem uV {P:Program}{w:World}{ops:Array Oper}{rest:List Oper}{o:Oper}{a:Act}{Q:Exit→Act→World→Prop}(WC:o.guard=none)(sl x:Operand)(t u:TypeId)
 (ho:o.op= .call {callee:= .builtin .append,args:=#[sl,x],argTypes:=#[t,u]}) (e:TypeId) (i:TypeInfo) (ht:P.underlying t=some (.slice e)) (hu:P.underlying u=some .string) (hi:P.info? e=some i) (hz:i.zero=some (.int .u8 0))
 (lW:i.size=1) (B0:i.bytes=1) (v:Value) (n:Nat) (xs:List Value) (hs:a.eval sl=v) (bt:OwnV w e 1 v n xs) (s:ByteArray) (hx:a.eval x= .string s) (hb:n+s.size≤140737488355328)
 (h:∀v' w',OwnV w' e 1 v' (n+s.size) (xs++ZA s)→OneB w w' (cQ v)→(cQ v'=cQ v∨∀b,cQ v'=some b→w.heap.size≤b)→wpList P ops Q rest (a.put o.dst v') w'):wpList P ops Q (o::rest) a w:=by
 refine wpList_plain WC fun K hK=>?_;obtain⟨v',w',hr,h2,h3,h4⟩:=Bw (P:=P) (w:=w) t u o.type e i ht hu hi hz lW B0 v n xs bt s hb;unfold Oper.wp execOp;simp only[ho,resolve,invoke,builtin,Sem.run_bind,Sem.run_pure,Result.andThen_ok,List.map_toArray,Xm,Xx,hs,hx,hr];exact hK _ _ (h v' w' h2 h3 h4)
theorem nV (b:Nat)(ad:Option Addr)(v:Value)(n:Nat)(xs:List Value)(s:ByteArray)(w:World)(dv:w.heap[b]? =some (.cells #[.pointer ad,v] 78 (0,0)))(Ii:ad=none∨ad=some ⟨b,0,none⟩)
 (bt:OwnV w 5 1 v n xs) (bH:cQ v≠some b) (aT:n+s.size≤140737488355328):
 Calls prog 63 #[.pointer (some ⟨b,0,none⟩),.string s] w fun e w'=>e= .returned (.tuple #[.int .i64 s.size,.nilIface])∧
  ∃v' w2,OneB (w.setRow b #[.pointer (some ⟨b,0,none⟩),v]) w2 (cQ v)∧OwnV w2 5 1 v' (n+s.size) (xs++ZA s)∧(cQ v'=cQ v∨∀b',cQ v'=some b'→(w.setRow b #[.pointer (some ⟨b,0,none⟩),v]).heap.size≤b')∧w'=w2.setRow b #[.pointer (some ⟨b,0,none⟩),v']:=by
 obtain⟨i0,hi,Au,nZ,uZ⟩:=info_parts EL;have ee:=uU b ad v w dv Ii;have pT:=setRow_heap w b _ #[.pointer (some ⟨b,0,none⟩),v] _ _ dv;have WT:OwnV (w.setRow b #[.pointer (some ⟨b,0,none⟩),v]) 5 1 v n xs:=bt.same fun b' hb'=>setRow_other w b b' _ (fun e=>bH (by rw[hb',e]));generalize w.setRow b #[.pointer (some ⟨b,0,none⟩),v]=w1 at*;clear Ii dv bt;go_enter func63,ntmps63
 go_wp2_with fail
 refine ee.mono ?_;rintro e w1 ⟨rfl,rfl⟩;have c0:w1.cell? ⟨b,0,none⟩=some (.pointer (some ⟨b,0,none⟩)):=by rw[H' pT];rfl
 have c1:w1.cell? ⟨b,1,none⟩=some v:=by rw[H' pT];rfl
 have hlt:b < w1.heap.size:=by
  rcases XO b w1.heap.size with h'|h'
  ·exact h'
  ·simp[Yj h']at pT
 go_wp2_with (at_builtin;refine uV rfl _ _ 74 9 rfl 5 i0 underlying74 underlying9 hi Au nZ uZ _ _ _ rfl WT s rfl aT ?_)
 intro v' w2 dL di KF;have nQ:w2.heap[b]? =some (.cells #[.pointer (some ⟨b,0,none⟩),v] 78 (0,0)):=by
  rw[di.block b hlt bH];exact pT
 have d1:w2.cell? ⟨b,1,none⟩=some v:=by rw[H' nQ];rfl
 have f1:w2.frozen? ⟨b,1,none⟩=false:=Lib.frozen_of_heap nQ 1;have bZ:w2.setRow b #[.pointer (some ⟨b,0,none⟩),v']=w2.setCell ⟨b,1,none⟩ v':=(setCell_eq_setRow w2 b 1 _ _ _ _ nQ).symm;have sK:=dL.one;obtain⟨ao,n',cap,rfl⟩:∃ao n' cap,v'= .slice ao n' cap:=by
  clear bZ KF;generalize n+s.size=N at dL;generalize xs++ZA s=ys at dL;cases dL<;>exact⟨_,_,_,rfl⟩
 clear pT nQ c0 c1;go_wp2
 go_ret2
 exact⟨rfl,_,w2,di,dL,KF,bZ.symm⟩
theorem Gv (b:Nat)(p:Value)(v:Value)(l:List UInt8)(w:World)(dv:w.heap[b]? =some (.cells #[p,v] 78 (0,0)))(bt:OwnV w 5 1 v l.length (Ze l))(h0:l≠[]):
 Calls prog 35 #[.pointer (some ⟨b,0,none⟩)] w fun e w'=>e= .returned (.string ⟨l.toArray⟩)∧OneB w w' (cQ v):=by
 have p5:l.length≠0:=by simpa using h0
 generalize hn:l.length=n at bt;generalize EM:Ze l=ys at bt;cases bt with
 |nil=>omega
 |zero=>omega
 |row g _ cap cur _ KI hg KE Ki ly hl Sp=>
  subst hn EM;have UF:prog.cellsOf 5=1:=by kernel_rfl
  have c1:w.drew.cell? ⟨b,1,none⟩=some (.slice (some ⟨g,0,none⟩) l.length cap):=by
   have:w.drew.heap[b]? =some (.cells #[p,.slice (some ⟨g,0,none⟩) l.length cap] 78 (0,0)):=dv;rw[H' this];rfl
  have hSD:(Builtin.unsafeSliceData_ #[74] 145 #[.slice (some ⟨g,0,none⟩) l.length cap]).run prog w.drew= .ok (.pointer (some ⟨g,0,none⟩)) w.drew:=
   Lib.run_unsafeSliceData_row _ _ _ _ _ _ (by omega)
  have bO:w.ownsRow 0 5 1 (.slice (some ⟨g,0,none⟩) l.length cap) l.length (Ze l):=⟨hl,.inr ⟨g,cap,cur,rfl,XL _,hg,KE,Ki,ly,Sp⟩⟩;have hUS:(Builtin.unsafeString_ #[145,3] 9 #[.pointer (some ⟨g,0,none⟩),.int .i64 l.length]).run prog w.drew= .ok (.string ⟨l.toArray⟩) (w.drew.freeze ⟨g,0,none⟩ l.length):=by
   refine Lib.run_unsafeString_row w.drew 145 3 9 5 underlying145 UF g cur.size (by have hg':w.drew.heap[g]? =some (.cells cur 5 (0,0)):=hg;simp[World.shape?,hg']) l h0 (by omega) (by unfold maxLen at Ki;omega) ?_;intro j x hx;exact bO.cells (g:=g) rfl j (.int .u8 x.toNat) (by simp[Ze,hx])
  have UA:OneB w (w.drew.freeze ⟨g,0,none⟩ l.length) (cQ (.slice (some ⟨g,0,none⟩) l.length cap)):=by
   rw[cF KI];unfold World.freeze;split
   ·exact⟨rfl,rfl,rfl,XC _,fun _ _ _=>rfl⟩
   ·refine⟨rfl,rfl,rfl,by simp,fun k hk bH=>?_⟩;simp only[Y0];rw[if_neg (fun e=>bH (by rw[←e]))];rfl
  clear bO dv hg;have al:prog.follows .mixedOrders=true:=by kernel_rfl
  go_enter func35,ntmps35
  go_wp2
  go_region_o
  all_goals(go_wp2;go_ret;exact⟨rfl,UA⟩)
end
def bs (l:List UInt8):ByteArray:=⟨l.toArray⟩
theorem cl (l:List UInt8):(bs l).size=l.length:=by simp[bs,ByteArray.size]
theorem HV (l:List UInt8):(bs l).data.toList=l:=rfl
theorem eX (l m:List UInt8):bs l++bs m=bs (l++m):=by
 apply ZL;simp[bs]
@[go_sem] theorem a0i (xs:List Int):strOfNums xs=bs (xs.map fun n=>UInt8.ofNat n.toNat):=rfl
def dS (n:Nat):List UInt8:=Lib.decDigits n
theorem xF {n:Nat}(h:n < 10):dS n=[UInt8.ofNat (48+n)]:=Lib.decDigits_one h
theorem HW {n:Nat}(h:¬n < 10):dS n=dS (n / 10)++[UInt8.ofNat (48+n % 10)]:=by
 unfold dS;rw[Lib.decDigits,dif_neg h]
theorem lm:∀n:Nat,n≤9223372036854775807→(dS n).length≤19:=by
 have key:∀k n:Nat,n < 10 ^ (k+1)→(dS n).length≤k+1:=by
  intro k;induction k with
  |zero=>intro n h;rw[xF (by simpa using h)];simp
  |succ k ih=>
   intro n h;by_cases h1:n < 10
   ·rw[xF h1];simp
   ·rw[HW h1,Xt];have:=ih (n / 10) (by rw[Nat.pow_succ]at h;omega);simp;omega
 intro n h;exact key 18 n (by omega)
section
open Go.Proofs Go.Shelf
theorem N1 (w:World)(k:Nat)(os:Array Obj):cW w (Sort.grow (w.drewN k) os):=by
 refine⟨rfl,rfl,rfl,?_,fun b hb=>?_⟩
 ·rw[Sort.size_grow];simp
 ·rw[Sort.heap_grow_old _ _ (by simpa using hb)];rfl
theorem N2 {M:Nat→Prop}{w:World}(h:yo M w):Lib.TabIs prog w "internal/strconv.uint64pow10" .u64 Lib.pow10Tab:=by
 obtain⟨-,vs,E,sp,h2,h3⟩:=h (Lb,_) (by unfold Pn;exact p' ..);unfold Lib.TabIs World.var?;rw[show prog.globalNamed "internal/strconv.uint64pow10"=some Lb by kernel_rfl];simp only[YW,h2];rw[h3];rfl
theorem Rl {P:Program}{f:Nat}{ds:List D}{r:D}(hn:vR P f)(hf:∀d∈ds,d.flat=true)(h:∀M w,yo M w→Calls P f (ds.map C9).toArray w fun e w'=>∃v,e= .returned v∧RepD M w' r v∧cW w w'):ae P f ds r:=by
 refine⟨hn,fun M w vs _ hG dI=>?_⟩;rw[oO (f:=C9) dI.1 fun j d x hj hx=>Da (dI.2 j d x hj hx) (hf d (Xl hj))];exact h M w hG
theorem By (n:Nat)(hn:n≤9223372036854775807):ae prog 65 [.v (.int .i64 n)] (.v (.string (bs (dS n)))):=by
 refine Rl (bU func65 (by kernel_rfl) rfl) (by simp[D.flat]) fun M w hG=>?_;refine(strconv_Itoa n (by omega) (by omega) w (N2 hG)).mono fun e w' ⟨he,k,os,hw⟩=>⟨_,he,?_,by rw[hw];exact N1 _ _ _⟩;rw[Lib.itoa_nonneg];exact .v _
end
section
open Go.Proofs
def dA (l:List UInt8):List (List D):=l.map fun b=>[.v (.int .u8 b.toNat)]
abbrev gT (l:List UInt8):List (List PV):=ab (dA l)
theorem tO (l:List UInt8):(gT l).length=l.length:=by simp[gT,ab,dA]
theorem xG (l:List UInt8):(gT l).flatten=(l.map fun b=>D.v (.int .u8 b.toNat)).map .d:=by
 induction l with
 |nil=>rfl
 |cons a l ih=>
  have:gT (a::l)=[.d (.v (.int .u8 a.toNat))]::gT l:=rfl;rw[this,YE,ih];rfl
theorem N3 {c:Cx}{w:World}{l:List UInt8}{xs:List Value}(h:bj c w (gT l).flatten xs):xs=Ze l:=by
 rw[xG]at h;have h2:=vN h;apply Yh;intro j;unfold Ze;rw[XA];cases hl:l[j]? with
 |none=>
  have:=h2.1;rw[XF]at this;rw[XN (by rw[←this];simpa using hl)];rfl
 |some u=>
  have hlt:j < xs.length:=by have:=h2.1;rw[XF]at this;rw[←this];exact(Xo.1 hl).1
  have:=h2.2 j (.v (.int .u8 u.toNat)) xs[j] (by rw[XA,hl];rfl) (Xj hlt);rw[Xj hlt];generalize xs[j]=y at this;cases this;rfl
theorem Ar {c:Cx}{w:World}(l:List UInt8):bj c w (gT l).flatten (Ze l):=by
 rw[xG];refine pu ⟨by simp[Ze],fun j d x hj hx=>?_⟩;unfold Ze at hx;rw[XA]at hj hx;cases hl:l[j]? with
 |none=>rw[hl]at hj;cases hj
 |some u=>rw[hl]at hj hx;cases hj;cases hx;exact .v _
theorem EC (l:List UInt8):∀r∈gT l,r.length=1:=fun r hr=>by
 obtain⟨q,hq,rfl⟩:=XH.1 hr;obtain⟨u,-,rfl⟩:=XH.1 hq;rfl
theorem As (l:List UInt8):∀r∈gT l,∀d∈r,d.one=true:=fun r hr d hd=>by
 obtain⟨q,hq,rfl⟩:=XH.1 hr;obtain⟨u,-,rfl⟩:=XH.1 hq;simp at hd;subst hd;rfl
theorem VB {s:FS}{H:List Chunk}(h1:s.env=eG [])(h2:∀k,s.heap k=aw H k):s=bG [] H:=by
 cases s;simp only[bG,FS.mk.injEq]at*;exact⟨h1,funext h2⟩
theorem Bz {X:Cfg}{s:FS}{H:List Chunk}{a:Act}{w:World}{c:Cx}(h:RealC X s a w c)(h1:s.env=eG [])(h2:∀k,s.heap k=aw H k):RealC X (bG [] H) a w c:=VB h1 h2 ▸ h
structure Pap (c:Cx)(w:World)(g:Nat)(ad:PV)(l:List UInt8)(b:Nat)(adv v:Value):Prop where
 bl:c.bl 0=some b
 hh:w.heap[b]? =some (.cells #[adv,v] 78 (0,0))
 ov:c.ov 1 g=some v
 own:OwnV w 5 1 v l.length (Ze l)
 adr:RepP c w ad adv
 ne:cQ v≠some b
theorem N4 {X:Cfg}{w:World}{c:Cx}{g:Nat}{ad:PV}{l:List UInt8}(h:RealC X (bG [] [.box 78 [ad,.own 1 g],.row 5 1 g (gT l)]) IA w c):∃b adv v,Pap c w g ad l b adv v:=by
 have h0:=h.chunk 0;have h1:=h.chunk 1;cases h0 with
 |box _ _ b vs hb hh hr h1'=>
  cases h1 with
  |row _ _ _ _ v xs hv bt yg cM h1o hg=>
   obtain⟨adv,Ot⟩:∃u,vs[0]? =some u:=⟨_,Xj (by rw[←hr.1];simp)⟩;obtain⟨v1,sK⟩:∃u,vs[1]? =some u:=⟨_,Xj (by rw[←hr.1];simp)⟩;have ha:=hr.2 0 _ _ rfl Ot;have ho:=hr.2 1 _ _ rfl sK;have sy:vs=[adv,v1]:=by
    match vs,hr.1,Ot,sK with
    |[a,b],_,h0,h1=>cases h0;cases h1;rfl
   subst sy;cases ho with
   |own _ _ _ ed _=>
    rw[hv]at ed;cases ed;have hx:=N3 yg;subst hx;rw[tO]at bt;refine⟨b,adv,v,⟨hb,hh,hv,bt,ha,fun e=>?_⟩⟩;have:=h.apart 0 1 b hb (by show Cx.block c 1 (.row _ _ _ _)=_;simp only[Cx.block,hv];exact e);cases this
theorem yM (g:Nat)(ad:PV)(l t:List UInt8)(Ii:ad= .d (.v (.pointer none))∨ad= .ptr 0 0)(aT:l.length+t.length≤140737488355328):
 MSpec prog 63 [.ptr 0 0,.d (.v (.string (bs t)))] [.box 78 [ad,.own 1 g],.row 5 1 g (gT l)] (.d (.tup [.v (.int .i64 t.length),.v .nilIface]))
  [.box 78 [.ptr 0 0,.own 1 (g+1)],.row 5 1 (g+1) (gT (l++t))]:=by
 refine⟨bU func63 (by kernel_rfl) rfl,XC _,rfl,?_,fun X hP hn hm w c vs hR dI=>?_⟩
 ·rcases Ii with rfl|rfl<;>simp[az,aH,ai,aj,gT,aq]
 obtain⟨b,adv,v,hp⟩:=N4 hR;obtain⟨v1,sK⟩:∃u,vs[0]? =some u:=⟨_,Xj (by rw[←dI.1];simp)⟩;obtain⟨v2,KJ⟩:∃u,vs[1]? =some u:=⟨_,Xj (by rw[←dI.1];simp)⟩;have ha:=dI.2 0 _ _ rfl sK;have hb:=dI.2 1 _ _ rfl KJ;have sy:vs=[v1,v2]:=by
  match vs,dI.1,sK,KJ with
  |[a,b],_,h0,h1=>cases h0;cases h1;rfl
 subst sy;clear sK KJ;cases ha with
 |ptr _ _ b' hb'=>
  rw[hp.bl]at hb';cases hb';cases hb with
  |d _ _ hd=>
   cases hd;have a0Q:∃ao,adv= .pointer ao∧(ao=none∨ao=some ⟨b,0,none⟩):=by
    have:=hp.adr;rcases Ii with rfl|rfl
    ·cases this with
     |d _ _ h=>cases h;exact⟨_,rfl,.inl rfl⟩
    ·cases this with
     |ptr _ _ b' hb'=>rw[hp.bl]at hb';cases hb';exact⟨_,rfl,.inr rfl⟩
   obtain⟨ao,rfl,hao⟩:=a0Q;refine(nV b ao v l.length (Ze l) (bs t) w hp.hh hao hp.own hp.ne (by rw[cl];exact aT)).mono ?_;rintro e w' ⟨rfl,v',w2,di,dL,KF,rfl⟩;rw[cl]at dL ⊢;have r1:=hR.set_box (k:=0) (T:=78) (cells:=[ad,.own 1 g]) (cells':=[.ptr 0 0,.own 1 g]) (vs:=[.pointer ao,v]) (vs':=[.pointer (some ⟨b,0,none⟩),v]) rfl hp.bl hp.hh
    ⟨rfl,fun j d x hj hx=>by
     match j with
     |0=>cases hj;cases hx;exact .ptr 0 0 b hp.bl
     |1=>cases hj;cases hx;exact .own 1 g v hp.ov hp.own.one
     |j+2=>simp at hj⟩ (by intro d hd;simp at hd;rcases hd with rfl|rfl<;>rfl)
   obtain⟨c',r2,r3⟩:=r1.set_row (k:=1) (E:=5) (sz:=1) (g:=g) (rows:=gT l) (rows':=gT (l++t)) (v:=v) (v':=v') (xs':=Ze l++ZA (bs t)) rfl hp.ov di (by rw[tO,Xt];exact dL) KF
    (by rw[Lib.strCells_eq,HV,←Lib.byteCells_append];exact Ar _) (EC _) (As _)
   have O1:c'.bl 0=some b:=by rw[(r2.lent 0 (by rw[hm];exact ZM _)).1,←(hR.lent 0 (by rw[hm];exact ZM _)).1];exact hp.bl
   have hlt:b < (w.setRow b #[.pointer (some ⟨b,0,none⟩),v]).heap.size:=by
    rcases XO b (w.setRow b #[.pointer (some ⟨b,0,none⟩),v]).heap.size with h|h
    ·exact h
    ·have:=setRow_heap w b _ #[.pointer (some ⟨b,0,none⟩),v] _ _ hp.hh;rw[Yj h]at this;cases this
   have nQ:w2.heap[b]? =some (.cells #[.pointer (some ⟨b,0,none⟩),v] 78 (0,0)):=by
    rw[di.block b hlt hp.ne];exact setRow_heap w b _ _ _ _ hp.hh
   have r4:=r2.set_box (k:=0) (T:=78) (cells:=[.ptr 0 0,.own 1 g]) (cells':=[.ptr 0 0,.own 1 (g+1)]) (vs:=[.pointer (some ⟨b,0,none⟩),v]) (vs':=[.pointer (some ⟨b,0,none⟩),v']) rfl O1 nQ
    ⟨rfl,fun j d x hj hx=>by
     match j with
     |0=>cases hj;cases hx;exact .ptr 0 0 b O1
     |1=>cases hj;cases hx;exact r3
     |j+2=>simp at hj⟩ (by intro d hd;simp at hd;rcases hd with rfl|rfl<;>rfl)
   refine⟨_,c',rfl,.d _ _ (.tup _ [_,_] rfl fun j d x hj hx=>?_),?_⟩
   ·match j with
    |0=>cases hj;cases hx;exact .v _
    |1=>cases hj;cases hx;exact .v _
    |j+2=>simp at hj
   ·exact Bz r4 rfl fun k=>by match k with|0=>rfl|1=>rfl|k+2=>rfl
theorem N5 (g:Nat)(l:List UInt8)(h0:l≠[]):
 MSpec prog 35 [.ptr 0 0] [.box 78 [.ptr 0 0,.own 1 g],.row 5 1 g (gT l)] (.d (.v (.string (bs l)))) [.gone,.gone]:=by
 refine⟨bU func35 (by kernel_rfl) rfl,XC _,rfl,by simp[az,aH,ai,aj,gT,aq],fun X hP hn hm w c vs hR dI=>?_⟩;obtain⟨b,adv,v,hp⟩:=N4 hR;obtain⟨v1,sK⟩:∃u,vs[0]? =some u:=⟨_,Xj (by rw[←dI.1];simp)⟩;have ha:=dI.2 0 _ _ rfl sK;have sy:vs=[v1]:=by
  match vs,dI.1,sK with
  |[a],_,h0=>cases h0;rfl
 subst sy;cases ha with
 |ptr _ _ b' hb'=>
  rw[hp.bl]at hb';cases hb';refine(Gv b adv v l w hp.hh hp.own h0).mono ?_;rintro e w' ⟨rfl,ho⟩;have cV:c.block 1 ((bG [] [.box 78 [.ptr 0 0,.own 1 g],.row 5 1 g (gT l)]).heap 1)=cQ v:=by
   show Cx.block c 1 (.row _ _ _ _)=_;simp only[Cx.block,hp.ov];rfl
  have r1:=hR.turn (w':=w') (c':={c with M:=fun b=>c.M b∧cQ v≠some b}) (k:=1) (ch:= .gone) ⟨fun _ _ h=>h,fun _ _ _ h=>h⟩ rfl (fun _ _=>rfl) (fun _ _=>rfl) ho.os ho.tape ho.output ho.size
   (fun b hb bH=>ho.block b hb (by rw[←cV];exact bH)) (fun b=>by rw[cV];simp[Cx.block]) (fun b hb=>by simp[Cx.block]at hb) (fun _=> .gone)
  have r2:=r1.freeze [0];exact⟨_,_,rfl,.d _ _ (.v _),Bz r2 rfl fun k=>by match k with|0=>rfl|1=>rfl|k+2=>rfl⟩
theorem N6 {M:Nat→Prop}{w:World}{ws:List (List UInt8)}(h0:ws≠[]){v:Value}(h:RepD M w (.sl 1 (ws.map fun x=>[.v (.string (bs x))])) v):∃b o cap,v= .slice (some ⟨b,o,none⟩) ws.length cap∧b < w.heap.size∧ws.length≤cap∧∀j x,ws[j]? =some x→w.cell? ⟨b,o+j,none⟩=some (.string (bs x)):=by
 generalize hr:ws.map (fun x=>[D.v (.string (bs x))])=rows at h;have hl:ws.length=rows.length:=by rw[←hr];simp
 cases h with
 |nil=>exact absurd (XZ (by simpa using hl)) h0
 |sl _ _ b off cap f hM hb hc hm hr' h1 bY aY=>
  refine⟨b,off,cap,by rw[hl],hb,by omega,fun j x hj=>?_⟩;have hlt:j < rows.length:=by rw[←hl];exact(Xo.1 hj).1
  have bO:rows[j]? =some [.v (.string (bs x))]:=by rw[←hr,XA,hj];rfl
  have:=bY j 0 hlt (by omega);rw[Nat.mul_one,X0]at this;rw[this,oP (aY j 0 _ _ bO rfl)]
theorem TH (ws:List (List UInt8))(sep:List UInt8)(h0:ws≠[])(hn:ws.length≤140737488355328)(hl:(YH ws sep).length≤140737488355328):ae prog 64 [.sl 1 (ws.map fun x=>[.v (.string (bs x))]),.v (.string (bs sep))] (.v (.string (bs (YH ws sep)))):=by
 refine⟨bU func64 (by kernel_rfl) rfl,fun M w vs hM hG dI=>?_⟩;obtain⟨v,vs,rfl,h1,dI⟩:=eC dI;obtain⟨u,vs,rfl,h2,dI⟩:=eC dI;rw[ko dI,oP h2];obtain⟨b,o,cap,rfl,hb,hc,bY⟩:=N6 h0 h1;have hm:(ws.map bs).map (·.data.toList)=ws:=by rw[Z8];exact List.map_id _
 have:=strings_Join b o cap (ws.map bs) (bs sep) w (fun j x hj=>by
  rw[XA]at hj;simp only[XG]at hj;obtain⟨y,hy,rfl⟩:=hj;exact bY j y hy) hb (by simpa using hn) (by simpa using hc) (by rw[hm];exact hl)
 rw[hm,XF]at this;exact this.mono fun e w' ⟨he,hw⟩=>⟨_,he,.v _,hw⟩
theorem VC (n:Nat)(hn:n≤9223372036854775807):ae prog 32 [.v (.int .i64 n)] (.v (.string (bs (dS n)))):=by
 have h:=By n hn;generalize bs (dS n)=T at*;refine pj func32 ntmps32 results32 ?_;exact bo
end
theorem sk:∀(n:Nat),n≤9223372036854775807→ae prog 42 [.v (.int .i64 n)] (.v (.string (bs (dS n)))):=by
 intro n;induction n using Nat.strongRecOn with
 |ind n ih=>
  intro hn;have hx:IntKind.u8.wrap (IntKind.i64.wrap (48+(n:Int).tmod 10))=((48+n % 10:Nat):Int):=by
   have h1:(n:Int).tmod 10=((n % 10:Nat):Int):=by rw[ZO (by omega)];omega
   rw[h1,IntKind.wrap_i64];simp only[IntKind.wrap,IntKind.bits,IntKind.signed,Bool.false_and,YY,if_false];omega
  have hs:bs [UInt8.ofNat (((48+n % 10:Nat):Int).toNat)]=bs [UInt8.ofNat (48+n % 10)]:=rfl;by_cases h10:n < 10
  ·have e1:decide ((n:Int) < 10)=true:=by simp;omega
   have e2:n % 10=n:=by omega
   rw[xF h10];rw[e2]at hx;refine pj func42 ntmps42 results42 ?_;exact bo;all_goals exact dg
  ·have e1:decide ((n:Int) < 10)=false:=by simp;omega
   have hq:IntKind.i64.wrap ((n:Int).tdiv 10)=((n / 10:Nat):Int):=by
    have h1:(n:Int).tdiv 10=((n / 10:Nat):Int):=by rw[Int.tdiv_eq_ediv_of_nonneg (by omega)];omega
    rw[h1,IntKind.wrap_i64];omega
   have hd:=ih (n / 10) (by omega) (by omega);have hl:=lm (n / 10) (by omega);have cM:(bs (dS (n / 10))).size+(bs [UInt8.ofNat (48+n % 10)]).size≤9223372036854775807:=by rw[cl,cl];simp;omega
   rw[HW h10,←eX];refine pj func42 ntmps42 results42 ?_;exact bo;all_goals exact dg
def dt (p:Pfx):List UInt8:=dS (p.at_.toNat / 256)++(46::(dS (p.at_.toNat % 256)++(47::dS p.len.toNat)))
def ED (p:Pfx):List UInt8 × Int:=if chk p.at_ p.len≠0 then ([],chk p.at_ p.len)else (dt p,0)
theorem BA {p:Pfx}(hr:p.right=true):0≤p.at_∧p.at_≤65535∧0≤p.len∧p.len≤16:=by
 obtain⟨b1,b2,b3,b4,-⟩:=p.bd hr;exact⟨b3,b4,b1,b2⟩
theorem EE (a b c:List UInt8):bs (a++(46::(b++(47::c))))=(((bs a++bs [46])++bs b)++bs [47])++bs c:=by
 rw[eX,eX,eX,eX];congr 1;simp
theorem TJ (p:Pfx):ae prog 133 [.agg (aK p)] (.tup [.v (.string (bs (ED p).1)),.v (.int .i64 (ED p).2)]):=by
 have bD:=pC p;unfold ED;by_cases hc:chk p.at_ p.len=0
 ·rw[if_neg (by simpa using hc)];have hr:p.right=true:=by simp[Pfx.right,bq,hc]
  obtain⟨h1,h2,h3,h4⟩:=BA hr;rw[hc]at bD;clear hc;obtain⟨x,hx⟩:∃x:Nat,p.at_=x:=⟨p.at_.toNat,by omega⟩;obtain⟨z,hz⟩:∃z:Nat,p.len=z:=⟨p.len.toNat,by omega⟩;have i1:=By (x / 256) (by omega);have i2:=By (x % 256) (by omega);have i3:=By z (by omega);have ha:p.at_.fdiv (2 ^ min 8 64)=((x / 256:Nat):Int):=by
   have e:(2:Int) ^ min 8 64=256:=by decide
   rw[e,hx,ZP _ (by omega)];omega
  have hb:IntKind.i64.wrap ((BitVec.ofInt IntKind.i64.bits p.at_&&& BitVec.ofInt IntKind.i64.bits 255).toNat:Int)=((x % 256:Nat):Int):=by
   have e:(BitVec.ofInt 64 p.at_&&& BitVec.ofInt 64 255).toNat=x % 256:=by
    have e1:((x:Int) % ((2 ^ 64:Nat):Int)).toNat=x:=by omega
    have e2:((255:Int) % ((2 ^ 64:Nat):Int)).toNat=2 ^ 8 - 1:=by decide
    rw[hx,BitVec.toNat_and,BitVec.toNat_ofInt,BitVec.toNat_ofInt,e1,e2,Nat.and_two_pow_sub_one_eq_mod]
   show IntKind.i64.wrap ((BitVec.ofInt 64 p.at_&&& BitVec.ofInt 64 255).toNat:Int)=_;rw[e,IntKind.wrap_i64];omega
  have l1:=lm (x / 256) (by omega);have l2:=lm (x % 256) (by omega);have l3:=lm z (by omega);have ht:dt p=dS (x / 256)++(46::(dS (x % 256)++(47::dS z))):=by unfold dt;rw[hx,hz];rfl
  rw[ht,EE];have s1:(bs (dS (x / 256))).size+(bs [46]).size≤9223372036854775807:=by simp only[cl];simp;omega
  have s2:(bs (dS (x / 256))++bs [46]).size+(bs (dS (x % 256))).size≤9223372036854775807:=by simp only[eX,cl];simp;omega
  have s3:((bs (dS (x / 256))++bs [46])++bs (dS (x % 256))).size+(bs [47]).size≤9223372036854775807:=by simp only[eX,cl];simp;omega
  have s4:(((bs (dS (x / 256))++bs [46])++bs (dS (x % 256)))++bs [47]).size+(bs (dS z)).size≤9223372036854775807:=by simp only[eX,cl];simp;omega
  simp only[Zb]at s2 s3 s4;clear ht hr h1 h2 h3 h4;rw[←hz]at i3;replace hx:=Xk hx;replace hz:=Xk hz;generalize bs (dS (x / 256))=t1 at*;generalize bs (dS (x % 256))=t2 at*;generalize bs (dS z)=t3 at*;have c1:Yi #[46]=bs [46]:=rfl;have c2:Yi #[47]=bs [47]:=rfl;refine pj func133 ntmps133 results133 ?_;exact bo;all_goals exact dg
 ·rw[if_pos hc];have h1:(chk p.at_ p.len !=0)=true:=by simpa using hc
  generalize chk p.at_ p.len=E at*;refine pj func133 ntmps133 results133 ?_;exact bo;all_goals exact dg
theorem ke (p:Pfx)(hr:p.right=true):ae prog 43 [.agg (aK p)] (.v (.string (bs (dt p)))):=by
 obtain⟨h1,h2,h3,h4⟩:=BA hr;obtain⟨x,hx⟩:∃x:Nat,p.at_=x:=⟨p.at_.toNat,by omega⟩;obtain⟨z,hz⟩:∃z:Nat,p.len=z:=⟨p.len.toNat,by omega⟩;have i1:=sk (x / 256) (by omega);have i2:=sk (x % 256) (by omega);have i3:=sk z (by omega);have ha:IntKind.i64.wrap (p.at_.tdiv 256)=((x / 256:Nat):Int):=by rw[hx,Int.tdiv_eq_ediv_of_nonneg (by omega),IntKind.wrap_i64];omega
 have hb:p.at_.tmod 256=((x % 256:Nat):Int):=by rw[hx,ZO (by omega)];omega
 have l1:=lm (x / 256) (by omega);have l2:=lm (x % 256) (by omega);have l3:=lm z (by omega);have ht:dt p=dS (x / 256)++(46::(dS (x % 256)++(47::dS z))):=by unfold dt;rw[hx,hz];rfl
 rw[ht,EE];have s1:(bs (dS (x / 256))).size+(bs [46]).size≤9223372036854775807:=by simp only[cl];simp;omega
 have s2:(bs (dS (x / 256))++bs [46]).size+(bs (dS (x % 256))).size≤9223372036854775807:=by simp only[eX,cl];simp;omega
 have s3:((bs (dS (x / 256))++bs [46])++bs (dS (x % 256))).size+(bs [47]).size≤9223372036854775807:=by simp only[eX,cl];simp;omega
 have s4:(((bs (dS (x / 256))++bs [46])++bs (dS (x % 256)))++bs [47]).size+(bs (dS z)).size≤9223372036854775807:=by simp only[eX,cl];simp;omega
 simp only[Zb]at s2 s3 s4;clear ht hr h1 h2 h3 h4;rw[←hz]at i3;replace hx:=Xk hx;replace hz:=Xk hz;generalize bs (dS (x / 256))=t1 at*;generalize bs (dS (x % 256))=t2 at*;generalize bs (dS z)=t3 at*;have c1:Yi #[46]=bs [46]:=rfl;have c2:Yi #[47]=bs [47]:=rfl;refine pj func43 ntmps43 results43 ?_;exact bo;all_goals exact dg
@[go_sem] def mW (x:List UInt8):List D:=[.v (.string (bs x))]
def jL (x:List UInt8):List PV:=[.d (.v (.string (bs x)))]
theorem tP (ws:List (List UInt8)):ws.map jL=ab (ws.map mW):=by simp[ab,mW,jL]
def bJ (ws:List (List UInt8)):List UInt8:=YH ws [32]++[10]
theorem N7 (g:Nat)(ws:List (List UInt8))(sep:List UInt8)(h0:ws≠[])(hn:ws.length≤140737488355328)(hl:(YH ws sep).length≤140737488355328):
 MSpec prog 64 [.own 0 g,.d (.v (.string (bs sep)))] [.row 9 1 g (ws.map jL)] (.d (.v (.string (bs (YH ws sep))))) [.gone]:=by
 rw[tP];exact tu (TH ws sep h0 hn hl) rfl (by simp[az,aH,aq]) (by simp[vw,cA,aS,aw,d6];intros;rfl) (by simp[tc,iI,cO,aw,nf])
theorem nM (g gw:Nat)(ad:PV)(l:List UInt8)(ws:List (List UInt8))(Ii:ad= .d (.v (.pointer none))∨ad= .ptr 0 0)(h0:ws≠[])(hn:ws.length≤1000)(aT:l.length+(bJ ws).length≤1000000000):
 MSpec prog 31 [.ptr 0 0,.own 2 gw] [.box 78 [ad,.own 1 g],.row 5 1 g (ab (dA l)),.row 9 1 gw (ws.map jL)] (.d (.tup []))
  [.box 78 [.ptr 0 0,.own 1 (g+1)],.row 5 1 (g+1) (ab (dA (l++bJ ws))),.gone]:=by
 have sM:(bJ ws).length=(YH ws [32]).length+1:=by simp[bJ]
 have hj:=Ln.mk (ls:=[2]) (N7 gw ws [32] h0 (by omega) (by omega));have hw:=Ln.mk (ls:=[0,1]) (yM g ad l (bJ ws) Ii (by omega));have c1:Yi #[32]=bs [32]:=rfl;have c2:Yi #[10]=bs [10]:=rfl;have e:bs (YH ws [32])++bs [10]=bs (bJ ws):=eX _ _;have hs:(bs (YH ws [32])).size+(bs [10]).size≤9223372036854775807:=by rw[cl,cl];simp;omega
 rw[tP]at*;unfold gT at*;generalize ws.map mW=W at*;generalize bs (YH ws [32])=J at*;generalize bs [32]=B at*;generalize bs [10]=N at*;generalize dA (l++bJ ws)=R2 at*;generalize dA l=R1 at*;generalize bs (bJ ws)=T at*;clear h0 hn aT sM;rcases Ii with rfl|rfl
 ·refine mj func31 ntmps31 results31 ?_;refine ay ?_;exact aV rfl rfl
 ·refine mj func31 ntmps31 results31 ?_;refine ay ?_;exact aV rfl rfl
def Nn (n:Int):Prop:=0≤n∧n≤9223372036854775807
def dN (n:Int):List UInt8:=dS n.toNat
theorem jM (n:Int)(h:Nn n):ae prog 32 [.v (.int .i64 n)] (.v (.string (bs (dN n)))):=by
 have:=VC n.toNat (by have:=h.2;omega);rw[show ((n.toNat:Nat):Int)=n by have:=h.1;omega]at this;exact this
theorem vz (p:Pfx)(h:p.right=true):ae prog 66 [.agg (aK p)] (.v (.string (bs (dt p)))):=by
 have h1:=TJ p;have h2:ED p=(dt p,0):=by unfold ED;rw[if_neg (by simpa[Pfx.right,bq]using h)]
 rw[h2]at h1;dsimp only at h1;generalize bs (dt p)=T at*;clear h2 h;refine pj func66 ntmps66 results66 ?_;exact bo
def nW:List UInt8:=[112,111,111,108]
def Kx:List UInt8:=[117,112]
def qk:List UInt8:=[117,115,101,114]
def qm:List UInt8:=[110,101,115,116]
def qn:List UInt8:=[99,111,111,108]
def fd (x:Lse):List UInt8:=if x.kind=1 then bJ [qk,dN x.owner,dt x.at_]else if x.kind=2 then bJ [qm,dN x.owner,dt x.at_]else bJ [qn,dN x.till,dt x.at_]
def je (p:Pol):List UInt8:=bJ [nW,dN p.id,Kx,dN p.up,dt p.root]++p.leases.flatMap fd
structure LseT (x:Lse):Prop where
 at_:x.at_.right=true
 kind:x.kind=1∨x.kind=2∨x.kind=3
 owner:Nn x.owner
 till:Nn x.till
structure PolT (p:Pol):Prop where
 id:Nn p.id
 up:Nn p.up
 root:p.root.right=true
 n:p.leases.length≤1000
 ls:∀x∈p.leases,LseT x
theorem fu {α:Type}{l:List α}{k:Nat}{x:α}(h:l[k]? =some x)(f:α→List UInt8):(l.take (k+1)).flatMap f=(l.take k).flatMap f++f x:=by
 rw[ah h,Y1];simp
theorem lU {α:Type}(l:List α)(k:Nat)(f:α→List UInt8):((l.take k).flatMap f).length≤(l.flatMap f).length:=by
 conv=>rhs;rw[←YU k l,Y1,Xt]
 omega
theorem TK (g:Nat)(l:List UInt8)(p:Pol)(hp:PolT p)(aT:l.length+(je p).length≤1000000000):
 MSpec prog 33 [.ptr 0 0,.d (.agg (am p))] [.box 78 [.ptr 0 0,.own 1 g],.row 5 1 g (ab (dA l))] (.d (.tup []))
  [.box 78 [.ptr 0 0,.own 1 (g+1+p.leases.length)],.row 5 1 (g+1+p.leases.length) (ab (dA (l++je p)))]:=by
 have i1:=jM p.id hp.id;have i2:=jM p.up hp.up;have s1:=vz p.root hp.root;have hn:=hp.n;obtain⟨L0,vB⟩:∃L0,L0=l++bJ [nW,dN p.id,Kx,dN p.up,dt p.root]:=⟨_,rfl⟩;have hT:l++je p=L0++p.leases.flatMap fd:=by rw[vB];unfold je;rw[XT]
 have cy:L0.length+(p.leases.flatMap fd).length≤1000000000:=by rw[←Xt,←hT,Xt];exact aT
 have hl:=Ln.mk (ls:=[0,1,3]) (nM g 0 (.ptr 0 0) l [nW,dN p.id,Kx,dN p.up,dt p.root] (.inr rfl) (by simp) (by simp) (by rw[←Xt,←vB];omega));rw[←vB]at hl;rw[hT];simp only[Xm,Xx,jL]at hl;have c1:Yi #[112,111,111,108]=bs nW:=rfl;have c2:Yi #[117,112]=bs Kx:=rfl;have tZ:=hp.ls;generalize bs nW=B1 at*;generalize bs Kx=B2 at*;generalize bs (dN p.id)=B3 at*;generalize bs (dN p.up)=B4 at*;generalize bs (dt p.root)=B5 at*;clear hp aT hT;replace vB:=Xk vB;replace tZ:=Xk tZ;refine mj func33 ntmps33 results33 ?_;refine ay ?_;refine br af al p.leases (fun _=>True) (fun k=>[(21,.d (.v (.int .i64 k))),(20,.d (.v (.int .i64 p.leases.length))),(19,.d (.sl 5 (p.leases.map aQ))),(0,.ptr 0 0)])
  (fun k=>[.box 78 [.ptr 0 0,.own 1 (g+1+k)],.row 5 1 (g+1+k) (ab (dA (L0++(p.leases.take k).flatMap fd)))]) trivial ?_ ?_ ?_
 ·simp only[YA,YS,Ya];exact wf
 ·intro k x hx hk _ C hC;have fy:(k:Int) < (p.leases.length:Int):=by omega
  have dW:=wi k (by omega);have vh:=tZ.out x (Xl hx);have fV:=fu hx fd;have hle:=lU p.leases (k+1) fd;rw[fV,Xt]at hle;have i3:=jM x.owner vh.owner;have i4:=jM x.till vh.till;have s2:=vz x.at_ vh.at_;have hkd:=vh.kind;clear vh i1 i2 s1 hl c1 c2;obtain⟨L1,jD⟩:∃L1,L1=L0++(p.leases.take k).flatMap fd:=⟨_,rfl⟩;have hU:L1.length+(fd x).length≤1000000000:=by rw[jD,Xt];omega
  rw[←jD];have bZ:L0++(p.leases.take (k+1)).flatMap fd=L1++fd x:=by rw[fV,jD,XT]
  replace bZ:=Xk bZ;replace jD:=Xk jD;clear fV hle cy;rcases hkd with hkd|hkd|hkd
  ·have pR:fd x=bJ [qk,dN x.owner,dt x.at_]:=by unfold fd;rw[if_pos hkd]
   have hl:=Ln.mk (ls:=[0,1,3]) (nM (g+1+k) 0 (.ptr 0 0) L1 [qk,dN x.owner,dt x.at_] (.inr rfl) (by simp) (by simp) (by rw[←pR];exact hU));rw[←pR]at hl;simp only[Xm,Xx,jL]at hl;have c1:Yi #[117,115,101,114]=bs qk:=rfl;generalize bs qk=B1 at*;generalize bs (dN x.owner)=B2 at*;generalize bs (dt x.at_)=B3 at*;replace pR:=Xk pR;clear hU;refine ay ?_;refine hC _ _ trivial ?_;rw[bZ.out];exact wf
  ·have pR:fd x=bJ [qm,dN x.owner,dt x.at_]:=by unfold fd;rw[if_neg (by omega),if_pos hkd]
   have hl:=Ln.mk (ls:=[0,1,3]) (nM (g+1+k) 0 (.ptr 0 0) L1 [qm,dN x.owner,dt x.at_] (.inr rfl) (by simp) (by simp) (by rw[←pR];exact hU));rw[←pR]at hl;simp only[Xm,Xx,jL]at hl;have c1:Yi #[110,101,115,116]=bs qm:=rfl;generalize bs qm=B1 at*;generalize bs (dN x.owner)=B2 at*;generalize bs (dt x.at_)=B3 at*;replace pR:=Xk pR;clear hU;refine ay ?_;refine hC _ _ trivial ?_;rw[bZ.out];exact wf
  ·have pR:fd x=bJ [qn,dN x.till,dt x.at_]:=by unfold fd;rw[if_neg (by omega),if_neg (by omega)]
   have hl:=Ln.mk (ls:=[0,1,3]) (nM (g+1+k) 0 (.ptr 0 0) L1 [qn,dN x.till,dt x.at_] (.inr rfl) (by simp) (by simp) (by rw[←pR];exact hU));rw[←pR]at hl;simp only[Xm,Xx,jL]at hl;have c1:Yi #[99,111,111,108]=bs qn:=rfl;generalize bs qn=B1 at*;generalize bs (dN x.till)=B2 at*;generalize bs (dt x.at_)=B3 at*;replace pR:=Xk pR;clear hU;refine ay ?_;refine hC _ _ trivial ?_;rw[bZ.out];exact wf
 ·intro _ C;rw[Xq];refine ay ?_;exact aV rfl rfl
def xH:List UInt8:=[110,101,116]
def nN:List UInt8:=[114,97,110,103,101]
def xI:List UInt8:=[115,117,98]
def gU:List UInt8:=[102,97,99,101]
def ln (r:Rng):List UInt8:=bJ [nN,dt r.at_,dN r.pool]
def jz (f:Fce):List UInt8:=bJ (gU::dN f.id::f.addrs.map dN)
def jN (s:Sbn):List UInt8:=bJ [xI,dN s.id,dt s.at_]++s.faces.flatMap jz
def jf (v:Vpc):List UInt8:=bJ [xH,dN v.id]++v.ranges.flatMap ln++v.subs.flatMap jN
structure FceT (f:Fce):Prop where
 id:Nn f.id
 n:f.addrs.length≤90
 ad:∀a∈f.addrs,Nn a
structure SbnT (s:Sbn):Prop where
 id:Nn s.id
 at_:s.at_.right=true
 n:s.faces.length≤1000
 fc:∀f∈s.faces,FceT f
structure VpcT (v:Vpc):Prop where
 id:Nn v.id
 nr:v.ranges.length≤1000
 rg:∀r∈v.ranges,r.at_.right=true∧Nn r.pool
 ns:v.subs.length≤1000
 sb:∀s∈v.subs,SbnT s
def gS (l:List Sbn):Nat:=(l.map fun s=>1+s.faces.length).sum
theorem Rm {l:List Sbn}{k:Nat}{x:Sbn}(h:l[k]? =some x):gS (l.take (k+1))=gS (l.take k)+1+x.faces.length:=by
 unfold gS;rw[ah h,Xz,List.sum_append];simp;omega
theorem TL (g:Nat)(l:List UInt8)(v:Vpc)(hp:VpcT v)(aT:l.length+(jf v).length≤1000000000):
 MSpec prog 34 [.ptr 0 0,.d (.agg (aD v))] [.box 78 [.ptr 0 0,.own 1 g],.row 5 1 g (ab (dA l))] (.d (.tup []))
  [.box 78 [.ptr 0 0,.own 1 (g+1+v.ranges.length+gS v.subs)],.row 5 1 (g+1+v.ranges.length+gS v.subs) (ab (dA (l++jf v)))]:=by
 have i1:=jM v.id hp.id;have OI:=hp.nr;have Sw:=hp.ns;have hrg:=Xk hp.rg;have sx:=Xk hp.sb;obtain⟨L0,vB⟩:∃L0,L0=l++bJ [xH,dN v.id]:=⟨_,rfl⟩;obtain⟨L9,WU⟩:∃L9,L9=L0++v.ranges.flatMap ln:=⟨_,rfl⟩;have hT:l++jf v=L9++v.subs.flatMap jN:=by rw[WU,vB];unfold jf;simp only[XT]
 have cy:L9.length+(v.subs.flatMap jN).length≤1000000000:=by rw[←Xt,←hT,Xt];exact aT
 have O2:L0.length+(v.ranges.flatMap ln).length≤1000000000:=by rw[WU,Xt]at cy;omega
 have hl:=Ln.mk (ls:=[0,1,3]) (nM g 0 (.ptr 0 0) l [xH,dN v.id] (.inr rfl) (by simp) (by simp) (by rw[←Xt,←vB];omega));rw[←vB]at hl;rw[hT];simp only[Xm,Xx,jL]at hl;have c1:Yi #[110,101,116]=bs xH:=rfl;generalize bs xH=B1 at*;generalize bs (dN v.id)=B3 at*;clear hp aT hT;replace vB:=Xk vB;replace WU:=Xk WU;replace cy:=Xk cy;replace O2:=Xk O2;refine mj func34 ntmps34 results34 ?_;refine ay ?_;clear i1 hl c1;refine br af al v.ranges (fun _=>True) (fun k=>[(22,.d (.v (.int .i64 k))),(21,.d (.v (.int .i64 v.ranges.length))),(20,.d (.sl 3 (v.ranges.map cq))),(0,.ptr 0 0),(3,.ptr 2 0)])
  (fun k=>[.box 78 [.ptr 0 0,.own 1 (g+1+k)],.row 5 1 (g+1+k) (ab (dA (L0++(v.ranges.take k).flatMap ln))),.box 88 ((aD v).map .d)]) trivial ?_ ?_ ?_
 ·simp only[YA,YS,Ya];exact wf
 ·intro k x hx hk _ C hC;have fy:(k:Int) < (v.ranges.length:Int):=by omega
  have dW:=wi k (by omega);obtain⟨hxr,T7⟩:=hrg.out x (Xl hx);have fV:=fu hx ln;have hle:=lU v.ranges (k+1) ln;rw[fV,Xt]at hle;have i3:=jM x.pool T7;have s2:=vz x.at_ hxr;clear hxr T7;obtain⟨L1,jD⟩:∃L1,L1=L0++(v.ranges.take k).flatMap ln:=⟨_,rfl⟩;have hU:L1.length+(ln x).length≤1000000000:=by rw[jD,Xt];have:=O2.out;omega
  rw[←jD];have bZ:L0++(v.ranges.take (k+1)).flatMap ln=L1++ln x:=by rw[fV,jD,XT]
  replace bZ:=Xk bZ;replace jD:=Xk jD;clear fV hle;have hl:=Ln.mk (ls:=[0,1,4]) (nM (g+1+k) 0 (.ptr 0 0) L1 [nN,dt x.at_,dN x.pool] (.inr rfl) (by simp) (by simp) hU);change Ln _ _ _ _ _ _ [_,.row _ _ _ (ab (dA (L1++ln x))),_]at hl;simp only[Xm,Xx,jL]at hl;have c1:Yi #[114,97,110,103,101]=bs nN:=rfl;generalize bs nN=B1 at*;generalize bs (dN x.pool)=B2 at*;generalize bs (dt x.at_)=B3 at*;clear hU;refine ay ?_;refine hC _ _ trivial ?_;rw[bZ.out];exact wf
 ·intro _ C;rw[Xq,←WU.out];refine ay ?_;obtain⟨G,hG⟩:∃G,G=g+1+v.ranges.length:=⟨_,rfl⟩;rw[←hG];have g0:gS []=0:=rfl;refine br af al v.subs (fun _=>True) (fun k=>[(39,.d (.v (.int .i64 k))),(38,.d (.v (.int .i64 v.subs.length))),(37,.d (.sl 4 (v.subs.map bI))),(0,.ptr 0 0)])
   (fun k=>[.box 78 [.ptr 0 0,.own 1 (G+gS (v.subs.take k))],.row 5 1 (G+gS (v.subs.take k)) (ab (dA (L9++(v.subs.take k).flatMap jN)))]) trivial ?_ ?_ ?_
  ·simp only[YA,YS,Ya,g0,X0];exact wf
  ·intro k x hx hk _ C hC;have fy:(k:Int) < (v.subs.length:Int):=by omega
   have dW:=wi k (by omega);have vh:=sx.out x (Xl hx);have fV:=fu hx jN;have hle:=lU v.subs (k+1) jN;rw[fV,Xt]at hle;have i3:=jM x.id vh.id;have s2:=vz x.at_ vh.at_;have Wj:=vh.n;have T5:=Xk vh.fc;obtain⟨L1,jD⟩:∃L1,L1=L9++(v.subs.take k).flatMap jN:=⟨_,rfl⟩;have hU:L1.length+(jN x).length≤1000000000:=by rw[jD,Xt];have:=cy.out;omega
   rw[←jD];obtain⟨L2,yb⟩:∃L2,L2=L1++bJ [xI,dN x.id,dt x.at_]:=⟨_,rfl⟩;have GU:L1++jN x=L2++x.faces.flatMap jz:=by rw[yb];unfold jN;rw[XT]
   have yc:L2.length+(x.faces.flatMap jz).length≤1000000000:=by rw[←Xt,←GU,Xt];exact hU
   have bZ:L9++(v.subs.take (k+1)).flatMap jN=L2++x.faces.flatMap jz:=by rw[fV,←XT,←jD,GU]
   have O3:G+gS (v.subs.take (k+1))=G+gS (v.subs.take k)+1+x.faces.length:=by rw[Rm hx];omega
   generalize gS (v.subs.take k)=gk at*;have hl:=Ln.mk (ls:=[0,1,3]) (nM (G+gk) 0 (.ptr 0 0) L1 [xI,dN x.id,dt x.at_] (.inr rfl) (by simp) (by simp) (by rw[←Xt,←yb];omega));rw[←yb]at hl;simp only[Xm,Xx,jL]at hl;have c1:Yi #[115,117,98]=bs xI:=rfl;generalize bs xI=B1 at*;generalize bs (dN x.id)=B2 at*;generalize bs (dt x.at_)=B3 at*;replace bZ:=Xk bZ;replace O3:=Xk O3;replace jD:=Xk jD;replace yb:=Xk yb;replace yc:=Xk yc;replace hG:=Xk hG;clear fV hle hU vh GU;refine ay ?_;clear hl c1 i3 s2;refine br af al x.faces (fun _=>True) (fun j=>[(55,.d (.v (.int .i64 j))),(54,.d (.v (.int .i64 x.faces.length))),(53,.d (.sl 2 (x.faces.map cX))),(0,.ptr 0 0),(39,.d (.v (.int .i64 k))),(38,.d (.v (.int .i64 v.subs.length))),(37,.d (.sl 4 (v.subs.map bI)))])
    (fun j=>[.box 78 [.ptr 0 0,.own 1 (G+gk+1+j)],.row 5 1 (G+gk+1+j) (ab (dA (L2++(x.faces.take j).flatMap jz)))]) trivial ?_ ?_ ?_
   ·simp only[YA,YS,Ya];exact wf
   ·intro j f hf hj _ C2 kz;have mb:(j:Int) < (x.faces.length:Int):=by omega
    have rf:=wi j (by omega);have R3:=T5.out f (Xl hf);have fV:=fu hf jz;have hle:=lU x.faces (j+1) jz;rw[fV,Xt]at hle;have i3:=jM f.id R3.id;have SB:=R3.n;have Ii:=Xk R3.ad;obtain⟨L3,yd⟩:∃L3,L3=L2++(x.faces.take j).flatMap jz:=⟨_,rfl⟩;have og:L3.length+(jz f).length≤1000000000:=by rw[yd,Xt];have:=yc.out;omega
    rw[←yd];have gY:L2++(x.faces.take (j+1)).flatMap jz=L3++jz f:=by rw[fV,←XT,←yd]
    have hl:=Ln.mk (ls:=[0,1,3]) (nM (G+gk+1+j) f.addrs.length (.ptr 0 0) L3 (gU::dN f.id::f.addrs.map dN) (.inr rfl) (by simp) (by simp;omega) og);change Ln _ _ _ _ _ _ [_,.row _ _ _ (ab (dA (L3++jz f))),_]at hl;rw[tP]at hl;have c1:Yi #[102,97,99,101]=bs gU:=rfl;replace gY:=Xk gY;replace yd:=Xk yd;clear fV hle og R3;refine ay ?_;refine br af al f.addrs (fun _=>True) (fun m=>[(66,.d (.v (.int .i64 m))),(65,.d (.v (.int .i64 f.addrs.length))),(64,.d (.sl 1 (f.addrs.map dF))),(10,.own 3 m),(0,.ptr 0 0),(55,.d (.v (.int .i64 j))),(54,.d (.v (.int .i64 x.faces.length))),(53,.d (.sl 2 (x.faces.map cX))),(39,.d (.v (.int .i64 k))),(38,.d (.v (.int .i64 v.subs.length))),(37,.d (.sl 4 (v.subs.map bI)))])
     (fun m=>[.box 78 [.ptr 0 0,.own 1 (G+gk+1+j)],.row 5 1 (G+gk+1+j) (ab (dA L3)),.box 110 ((cX f).map .d),.row 9 1 m (ab ((gU::dN f.id::(f.addrs.take m).map dN).map mW))]) trivial ?_ ?_ ?_
    ·exact wf
    ·intro m a ha hm _ C3 RQ;have hmI:(m:Int) < (f.addrs.length:Int):=by omega
     have GH:=wi m (by omega);have i4:=jM a (Ii.out a (Xl ha));have hW:(gU::dN f.id::(f.addrs.take (m+1)).map dN).map mW=(gU::dN f.id::(f.addrs.take m).map dN).map mW++[[.v (.string (bs (dN a)))]]:=by rw[ah ha];simp[mW]
     have hWl:((gU::dN f.id::(f.addrs.take m).map dN).map mW).length=m+2:=by simp;omega
     have GC:m+2+1≤100:=by omega
     generalize (gU::dN f.id::(f.addrs.take m).map dN).map mW=W at*;replace hW:=Xk hW;clear hl;refine ay ?_;refine RQ _ _ trivial ?_;rw[hW.out,←aW];exact wf (hbh:=by simp[az,aH,ai,aj,aq,aM,aW])
    ·intro _ C3;rw[Xq];generalize (gU::dN f.id::f.addrs.map dN).map mW=W at*;refine ay ?_;refine kz _ _ trivial ?_;rw[gY.out];exact wf
   ·intro _ C2;rw[Xq];refine ay ?_;refine hC _ _ trivial ?_;rw[bZ.out,O3.out];exact wf
  ·intro _ C2;rw[Xq];subst hG;refine ay ?_;exact aV rfl rfl
section
open Go.Proofs
theorem yN (t:List UInt8)(aT:t.length≤140737488355328):
 MSpec prog 63 [.ptr 0 0,.d (.v (.string (bs t)))] [.box 78 [.d (.v (.pointer none)),.d (.v (.slice none 0 0))]] (.d (.tup [.v (.int .i64 t.length),.v .nilIface]))
  [.box 78 [.ptr 0 0,.own 1 0],.row 5 1 0 (ab (dA t))]:=by
 refine⟨bU func63 (by kernel_rfl) rfl,by simp,rfl,rfl,fun X hP hn hm w c vs hR dI=>?_⟩;obtain⟨v1,sK⟩:∃u,vs[0]? =some u:=⟨_,Xj (by rw[←dI.1];simp)⟩;obtain⟨v2,KJ⟩:∃u,vs[1]? =some u:=⟨_,Xj (by rw[←dI.1];simp)⟩;have ha:=dI.2 0 _ _ rfl sK;have hb:=dI.2 1 _ _ rfl KJ;have sy:vs=[v1,v2]:=by
  match vs,dI.1,sK,KJ with
  |[a,b],_,h0,h1=>cases h0;cases h1;rfl
 subst sy;clear sK KJ;have h0:=hR.chunk 0;cases h0 with
 |box _ _ b us rc hh hr h1'=>
  obtain⟨u0,hu0⟩:∃u,us[0]? =some u:=⟨_,Xj (by rw[←hr.1];simp)⟩;obtain⟨u1,hu1⟩:∃u,us[1]? =some u:=⟨_,Xj (by rw[←hr.1];simp)⟩;have q0:=hr.2 0 _ _ rfl hu0;have q1:=hr.2 1 _ _ rfl hu1;have hus:us=[u0,u1]:=by
   match us,hr.1,hu0,hu1 with
   |[a,b],_,h0,h1=>cases h0;cases h1;rfl
  subst hus;cases q0 with
  |d _ _ q0=>
   cases q0;cases q1 with
   |d _ _ q1=>
    cases q1;cases ha with
    |ptr _ _ b' hb'=>
     rw[rc]at hb';cases hb';cases hb with
     |d _ _ hd=>
      cases hd;refine(nV b none (.slice none 0 0) 0 [] (bs t) w hh (.inl rfl) .nil (by simp[cQ]) (by rw[cl];omega)).mono ?_;rintro e w' ⟨rfl,v',w2,di,dL,KF,rfl⟩;rw[cl,XK]at dL;rw[cl];have r1:=hR.set_box (k:=0) (T:=78) (cells:=[.d (.v (.pointer none)),.d (.v (.slice none 0 0))]) (cells':=[.ptr 0 0,.d (.v (.slice none 0 0))]) (vs:=[.pointer none,.slice none 0 0]) (vs':=[.pointer (some ⟨b,0,none⟩),.slice none 0 0]) rfl rc hh
       ⟨rfl,fun j d x hj hx=>by
        match j with
        |0=>cases hj;cases hx;exact .ptr 0 0 b rc
        |1=>cases hj;cases hx;exact .d _ _ (.v _)
        |j+2=>simp at hj⟩ (by intro d hd;simp at hd;rcases hd with rfl|rfl<;>rfl)
      have pV:cW (w.setRow b #[.pointer (some ⟨b,0,none⟩),.slice none 0 0]) w2:=⟨di.os,di.tape,di.output,di.size,fun k hk=>di.block k hk (by simp[cQ])⟩;obtain⟨c',r2,r3⟩:=r1.new_row (k:=1) (w':=w2) rfl (by rw[hm];simp) 5 1 (ab (dA t)) v' (Ze t) pV (by rw[show (ab (dA t)).length=t.length from tO t];simpa[Lib.strCells_eq,HV]using dL)
       (fun b' hb'=>KF.elim (fun e=>by rw[e]at hb';cases hb') (fun e=>e b' hb')) (Ar t) (EC t) (As t)
      have O1:c'.bl 0=some b:=by rw[(r2.lent 0 (by rw[hm];exact ZM _)).1,←(hR.lent 0 (by rw[hm];exact ZM _)).1];exact rc
      have hlt:b < (w.setRow b #[.pointer (some ⟨b,0,none⟩),.slice none 0 0]).heap.size:=by
       rcases XO b (w.setRow b #[.pointer (some ⟨b,0,none⟩),.slice none 0 0]).heap.size with h|h
       ·exact h
       ·have:=setRow_heap w b _ #[.pointer (some ⟨b,0,none⟩),.slice none 0 0] _ _ hh;rw[Yj h]at this;cases this
      have nQ:w2.heap[b]? =some (.cells #[.pointer (some ⟨b,0,none⟩),.slice none 0 0] 78 (0,0)):=by
       rw[di.block b hlt (by simp[cQ])];exact setRow_heap w b _ _ _ _ hh
      have r4:=r2.set_box (k:=0) (T:=78) (cells:=[.ptr 0 0,.d (.v (.slice none 0 0))]) (cells':=[.ptr 0 0,.own 1 0]) (vs:=[.pointer (some ⟨b,0,none⟩),.slice none 0 0]) (vs':=[.pointer (some ⟨b,0,none⟩),v']) rfl O1 nQ
       ⟨rfl,fun j d x hj hx=>by
        match j with
        |0=>cases hj;cases hx;exact .ptr 0 0 b O1
        |1=>cases hj;cases hx;exact r3
        |j+2=>simp at hj⟩ (by intro d hd;simp at hd;rcases hd with rfl|rfl<;>rfl)
      refine⟨_,c',rfl,.d _ _ (.tup _ [_,_] rfl fun j d x hj hx=>?_),?_⟩
      ·match j with
       |0=>cases hj;cases hx;exact .v _
       |1=>cases hj;cases hx;exact .v _
       |j+2=>simp at hj
      ·exact Bz r4 rfl fun k=>by match k with|0=>rfl|1=>rfl|k+2=>rfl
theorem TM (gw:Nat)(ws:List (List UInt8))(h0:ws≠[])(hn:ws.length≤1000)(aT:(bJ ws).length≤1000000000):
 MSpec prog 31 [.ptr 0 0,.own 1 gw] [.box 78 [.d (.v (.pointer none)),.d (.v (.slice none 0 0))],.row 9 1 gw (ws.map jL)] (.d (.tup []))
  [.box 78 [.ptr 0 0,.own 2 0],.gone,.row 5 1 0 (ab (dA (bJ ws)))]:=by
 have sM:(bJ ws).length=(YH ws [32]).length+1:=by simp[bJ]
 have hj:=Ln.mk (ls:=[1]) (N7 gw ws [32] h0 (by omega) (by omega));have hw:=Ln.mk (ls:=[0]) (yN (bJ ws) (by omega));have c1:Yi #[32]=bs [32]:=rfl;have c2:Yi #[10]=bs [10]:=rfl;have e:bs (YH ws [32])++bs [10]=bs (bJ ws):=eX _ _;have hs:(bs (YH ws [32])).size+(bs [10]).size≤9223372036854775807:=by rw[cl,cl];simp;omega
 rw[tP]at*;generalize ws.map mW=W at*;generalize bs (YH ws [32])=J at*;generalize bs [32]=B at*;generalize bs [10]=N at*;generalize dA (bJ ws)=R2 at*;generalize bs (bJ ws)=T at*;clear h0 hn aT sM;refine mj func31 ntmps31 results31 ?_;refine ay ?_;exact aV rfl rfl
def ph:List UInt8:=[116,105,99,107]
def sn:List UInt8:=[108,105,110,107]
def lC (k:Lnk):List UInt8:=bJ [sn,dN k.a,dN k.b]
def yO (s:Ste):List UInt8:=bJ [ph,dN s.book.tick]++s.book.pools.flatMap je++s.net.vpcs.flatMap jf++s.net.links.flatMap lC
structure SteT (s:Ste):Prop where
 tick:Nn s.book.tick
 np:s.book.pools.length≤1000
 ps:∀p∈s.book.pools,PolT p
 nv:s.net.vpcs.length≤1000
 vs:∀v∈s.net.vpcs,VpcT v
 nl:s.net.links.length≤1000
 ls:∀k∈s.net.links,Nn k.a∧Nn k.b
 len:(yO s).length≤1000000000
def gP (l:List Pol):Nat:=(l.map fun p=>1+p.leases.length).sum
theorem Rn {l:List Pol}{k:Nat}{x:Pol}(h:l[k]? =some x)(G:Nat):G+gP (l.take (k+1))=G+gP (l.take k)+1+x.leases.length:=by
 unfold gP;rw[ah h,Xz,List.sum_append];simp;omega
def gV (l:List Vpc):Nat:=(l.map fun v=>1+v.ranges.length+gS v.subs).sum
theorem Ro {l:List Vpc}{k:Nat}{x:Vpc}(h:l[k]? =some x)(G:Nat):G+gV (l.take (k+1))=G+gV (l.take k)+1+x.ranges.length+gS x.subs:=by
 unfold gV;rw[ah h,Xz,List.sum_append];simp;omega
end
theorem J9 (s:Ste)(hz:∀p∈s.book.pools,p.leases.length≤3518437208882)(h:eP s≠0):ae prog 15 [.agg (dR s)] (.tup [.v (.string ⟨#[]⟩),.v (.int .i64 (eP s))]):=by
 have hc:=w9 s hz;have h1:(eP s !=0)=true:=by simpa using h
 generalize eP s=E at*;replace h:=Xk h;refine pj func15 ntmps15 results15 ?_;first|exact bo|(refine ay ?_;exact dz)
theorem HX (s:Ste)(hs:SteT s)(h:eP s=0):ae prog 15 [.agg (dR s)] (.tup [.v (.string (bs (yO s))),.v (.int .i64 0)]):=by
 have hc:=w9 s (fun p hp=>by have:=(hs.ps p hp).n;omega);rw[h]at hc;have i1:=jM s.book.tick hs.tick;have hnp:=hs.np;have hnv:=hs.nv;have BK:=hs.nl;have kg:=Xk hs.ps;have sy:=Xk hs.vs;have tZ:=Xk hs.ls;obtain⟨L0,vB⟩:∃L0,L0=bJ [ph,dN s.book.tick]:=⟨_,rfl⟩;obtain⟨L7,KO⟩:∃L7,L7=L0++s.book.pools.flatMap je:=⟨_,rfl⟩;obtain⟨L8,KQ⟩:∃L8,L8=L7++s.net.vpcs.flatMap jf:=⟨_,rfl⟩;have hT:yO s=L8++s.net.links.flatMap lC:=by rw[KQ,KO,vB];rfl
 have aT:=hs.len;rw[hT,Xt]at aT;have sI:L7.length+(s.net.vpcs.flatMap jf).length≤1000000000:=by rw[KQ,Xt]at aT;omega
 have ye:L0.length+(s.book.pools.flatMap je).length≤1000000000:=by rw[KO,Xt]at sI;omega
 have bH:yO s≠[]:=by
  intro e;have:=congrArg List.length e;rw[hT,KQ,KO,vB]at this;simp[bJ]at this
 have hl:=Ln.mk (ls:=[1,2]) (TM 0 [ph,dN s.book.tick] (by simp) (by simp) (by rw[←vB];omega));rw[←vB]at hl;have R4:=fun g=>N5 g (yO s) bH;rw[hT]at R4 ⊢;simp only[Xm,Xx,jL]at hl;have c1:Yi #[116,105,99,107]=bs ph:=rfl;generalize bs ph=B1 at*;generalize bs (dN s.book.tick)=B2 at*;clear hs h hT bH;replace vB:=Xk vB;replace KO:=Xk KO;replace KQ:=Xk KQ;replace aT:=Xk aT;replace ye:=Xk ye;replace sI:=Xk sI;replace R4:=Xk R4;refine pj func15 ntmps15 results15 ?_;refine ay ?_;clear i1 hl c1 hc;have g0:gP []=0:=rfl;have g1:gV []=0:=rfl;refine br af al s.book.pools (fun _=>True) (fun k=>[(30,.d (.v (.int .i64 k))),(29,.d (.v (.int .i64 s.book.pools.length))),(28,.d (.sl 9 (s.book.pools.map am))),(5,.ptr 1 0),(1,.ptr 0 0)])
  (fun k=>[.box 36 ((dR s).map .d),.box 78 [.ptr 1 0,.own 3 (0+gP (s.book.pools.take k))],.gone,.row 5 1 (0+gP (s.book.pools.take k)) (ab (dA (L0++(s.book.pools.take k).flatMap je)))]) trivial ?_ ?_ ?_
 ·simp only[YA,YS,Ya,g0,X0];exact wf
 ·intro k x hx hk _ C hC;have fy:(k:Int) < (s.book.pools.length:Int):=by omega
  have dW:=wi k (by omega);have fV:=fu hx je;have hle:=lU s.book.pools (k+1) je;rw[fV,Xt]at hle;obtain⟨L1,jD⟩:∃L1,L1=L0++(s.book.pools.take k).flatMap je:=⟨_,rfl⟩;have hU:L1.length+(je x).length≤1000000000:=by rw[jD,Xt];have:=ye.out;omega
  rw[←jD];have bZ:L0++(s.book.pools.take (k+1)).flatMap je=L1++je x:=by rw[fV,←XT,←jD]
  have O3:=Rn hx 0;have yn:=Ln.mk (ls:=[1,3]) (TK (0+gP (s.book.pools.take k)) L1 x (kg.out x (Xl hx)) hU);generalize 0+gP (s.book.pools.take k)=gk at*;replace bZ:=Xk bZ;replace jD:=Xk jD;replace O3:=Xk O3;clear fV hle hU;refine ay ?_;refine hC _ _ trivial ?_;rw[bZ.out,O3.out];exact wf
 ·intro _ C;rw[Xq,←KO.out];generalize 0+gP s.book.pools=G;refine ay ?_;refine br af al s.net.vpcs (fun _=>True) (fun k=>[(42,.d (.v (.int .i64 k))),(41,.d (.v (.int .i64 s.net.vpcs.length))),(40,.d (.sl 3 (s.net.vpcs.map aD))),(5,.ptr 1 0),(1,.ptr 0 0)])
   (fun k=>[.box 36 ((dR s).map .d),.box 78 [.ptr 1 0,.own 3 (G+gV (s.net.vpcs.take k))],.gone,.row 5 1 (G+gV (s.net.vpcs.take k)) (ab (dA (L7++(s.net.vpcs.take k).flatMap jf)))]) trivial ?_ ?_ ?_
  ·simp only[YA,YS,Ya,g1,X0];exact wf
  ·intro k x hx hk _ C hC;have fy:(k:Int) < (s.net.vpcs.length:Int):=by omega
   have dW:=wi k (by omega);have fV:=fu hx jf;have hle:=lU s.net.vpcs (k+1) jf;rw[fV,Xt]at hle;obtain⟨L1,jD⟩:∃L1,L1=L7++(s.net.vpcs.take k).flatMap jf:=⟨_,rfl⟩;have hU:L1.length+(jf x).length≤1000000000:=by rw[jD,Xt];have:=sI.out;omega
   rw[←jD];have bZ:L7++(s.net.vpcs.take (k+1)).flatMap jf=L1++jf x:=by rw[fV,←XT,←jD]
   have O3:=Ro hx G;have yn:=Ln.mk (ls:=[1,3]) (TL (G+gV (s.net.vpcs.take k)) L1 x (sy.out x (Xl hx)) hU);generalize G+gV (s.net.vpcs.take k)=gk at*;replace bZ:=Xk bZ;replace jD:=Xk jD;replace O3:=Xk O3;clear fV hle hU;refine ay ?_;refine hC _ _ trivial ?_;rw[bZ.out,O3.out];exact wf
  ·intro _ C;rw[Xq,←KQ.out];generalize G+gV s.net.vpcs=G2;refine ay ?_;refine br af al s.net.links (fun _=>True) (fun k=>[(54,.d (.v (.int .i64 k))),(53,.d (.v (.int .i64 s.net.links.length))),(52,.d (.sl 2 (s.net.links.map cT))),(5,.ptr 1 0)])
    (fun k=>[.gone,.box 78 [.ptr 1 0,.own 3 (G2+k)],.gone,.row 5 1 (G2+k) (ab (dA (L8++(s.net.links.take k).flatMap lC)))]) trivial ?_ ?_ ?_
   ·simp only[YA,YS,Ya,X0];exact(aU 0 (by simp)).trans wf
   ·intro k x hx hk _ C hC;have fy:(k:Int) < (s.net.links.length:Int):=by omega
    have dW:=wi k (by omega);have fV:=fu hx lC;have hle:=lU s.net.links (k+1) lC;rw[fV,Xt]at hle;obtain⟨ha,hb⟩:=tZ.out x (Xl hx);have i2:=jM x.a ha;have i3:=jM x.b hb;obtain⟨L1,jD⟩:∃L1,L1=L8++(s.net.links.take k).flatMap lC:=⟨_,rfl⟩;have hU:L1.length+(lC x).length≤1000000000:=by rw[jD,Xt];have:=aT.out;omega
    rw[←jD];have bZ:L8++(s.net.links.take (k+1)).flatMap lC=L1++lC x:=by rw[fV,←XT,←jD]
    have hl:=Ln.mk (ls:=[1,3,5]) (nM (G2+k) 0 (.ptr 0 0) L1 [sn,dN x.a,dN x.b] (.inr rfl) (by simp) (by simp) hU);change Ln _ _ _ _ _ _ [_,.row _ _ _ (ab (dA (L1++lC x))),_]at hl;simp only[Xm,Xx,jL]at hl;have c1:Yi #[108,105,110,107]=bs sn:=rfl;generalize bs sn=B1 at*;generalize bs (dN x.a)=B2 at*;generalize bs (dN x.b)=B3 at*;replace bZ:=Xk bZ;replace jD:=Xk jD;clear fV hle hU ha hb;refine ay ?_;refine hC _ _ trivial ?_;rw[bZ.out];exact wf
   ·intro _ C;rw[Xq];have fU:=Ln.mk (ls:=[1,3]) (R4.out (G2+s.net.links.length));unfold gT at fU;generalize bs (L8++s.net.links.flatMap lC)=T at*;exact bo
theorem N8 (ws:List (List UInt8))(B:Nat)(h:∀w∈ws,w.length≤B):(_c [32] ws).length≤ws.length*(B+1):=by
 induction ws with
 |nil=>simp[_c]
 |cons x r ih=>
  have h1:=h x (by simp);have h2:=ih fun w hw=>h w (YR _ hw);unfold _c at h2 ⊢;simp only[Xm,YE,Xt,XD,X8,Zu]at h2 ⊢;omega
theorem gu (ws:List (List UInt8))(B:Nat)(h:∀w∈ws,w.length≤B):(bJ ws).length≤ws.length*(B+1)+1:=by
 unfold bJ;rw[Xt];cases ws with
 |nil=>rw[_q];simp
 |cons x r=>
  have h1:=h x (by simp);have h2:=N8 r B fun w hw=>h w (YR _ hw);rw[Lib.join_cons,Xt];simp only[XD,X8,Zu]at h2 ⊢;omega
theorem nO {α:Type}(l:List α)(f:α→List UInt8)(B:Nat)(h:∀x∈l,(f x).length≤B):(l.flatMap f).length≤l.length*B:=by
 induction l with
 |nil=>simp
 |cons x r ih=>
  have h1:=h x (by simp);have h2:=ih fun w hw=>h w (YR _ hw);simp only[ZF,Xt,XD,Zu];omega
theorem nX (n:Int)(h:Nn n):(dN n).length≤60:=by
 have:=lm n.toNat (by have:=h.1;have:=h.2;omega);unfold dN;omega
theorem BB {p:Pfx}(h:p.right=true):(dt p).length≤60:=by
 obtain⟨h1,h2,h3,h4⟩:=BA h;have a1:=lm (p.at_.toNat / 256) (by omega);have a2:=lm (p.at_.toNat % 256) (by omega);have a3:=lm p.len.toNat (by omega);unfold dt;simp only[Xt,XD];omega
theorem BC {n:Int}(h:fL n=true):Nn n:=by
 unfold fL at h;simp only[Xy,decide_eq_true_eq]at h;exact⟨by omega,by omega⟩
theorem EF {n:Int}(h:cU n=true):Nn n:=by
 unfold cU at h;simp only[Xy,decide_eq_true_eq]at h;exact⟨by omega,by omega⟩
theorem W5:Nn 0:=⟨by omega,by omega⟩
theorem N9 {p q:Pfx}(h:jq p q=true):p.right=true:=(oW.1 h).1
theorem Rp {b:Bok}(hb:BookOK b){p:Pol}{x:Lse}(hx:x∈p.leases)(hp:p∈b.pools):LseT x:=by
 obtain⟨-,h2,-⟩:=hb.mem p hp;have hs:=Bg.1 h2;have hl:=(iZ b.pools [] hb.second p hp).2 x hx;have ha:=N9 (hs.ins x.at_ (XH.2 ⟨x,hx,rfl⟩));have ht:=hb.tick;unfold ez at hl;by_cases h1:x.kind=1
 ·rw[if_pos (by simpa using h1)]at hl;simp only[Xy,beq_iff_eq]at hl;exact⟨ha,.inl h1,BC hl.1,hl.2 ▸ W5⟩
 ·rw[if_neg (by simpa using h1)]at hl;by_cases h3:x.kind=2
  ·rw[if_pos (by simpa using h3)]at hl;cases hq:cv b x.owner with
   |none=>rw[hq]at hl;cases hl
   |some q=>
    rw[hq]at hl;simp only[Xy,beq_iff_eq]at hl;obtain⟨i,hi,ho⟩:=gO hq;exact⟨ha,.inr (.inl h3),ho ▸ BC (hb.mem q (Xl hi)).1,hl.2.2 ▸ W5⟩
  ·rw[if_neg (by simpa using h3)]at hl;split at hl
   ·rename_i h4;simp only[Xy,beq_iff_eq,decide_eq_true_eq]at hl;refine⟨ha,.inr (.inr (by simpa using h4)),hl.1 ▸ W5,?_⟩;obtain⟨-,h5,h6⟩:=hl;exact⟨by omega,by omega⟩
   ·cases hl
theorem HY {b:Bok}(hb:BookOK b){p:Pol}(hp:p∈b.pools):PolT p:=by
 obtain⟨h1,h2,-⟩:=hb.mem p hp;have hu:=(iZ b.pools [] hb.second p hp).1;have iG:=hb.l32 p hp;refine⟨BC h1,?_,(Bg.1 h2).rr,by omega,fun x hx=>Rp hb hx hp⟩;have h8:b.pools.length≠0:=by
  intro e;rw[XZ e]at hp;cases hp
 obtain⟨n,hn⟩:∃n,b.pools.length=n+1:=⟨b.pools.length - 1,by omega⟩;rw[hn]at hu;unfold iX at hu;by_cases h0:p.up=0
 ·rw[h0];exact W5
 ·cases hq:cv b p.up with
  |none=>rw[hq]at hu;simp[h0]at hu
  |some q=>
   obtain⟨i,hi,ho⟩:=gO hq;exact ho ▸ BC (hb.mem q (Xl hi)).1
theorem TN {p:Pfx}{a:Int}(hr:p.right=true)(h:kL p a=true):Nn a:=by
 obtain⟨h1,h2,h3,h4⟩:=BA hr;have h5:=p.hi_bd hr;unfold kL at h;simp only[Xy,decide_eq_true_eq]at h;unfold Pfx.hi at h5;exact⟨by omega,by omega⟩
theorem Rq {v:Vpc}(hv:VpcOK v){s:Sbn}(hs:s∈v.subs):SbnT s:=by
 have h:=hv.subs s hs;have h8:=hv.n8 s hs;unfold lZ at h;simp only[Xy]at h;obtain⟨h1,h2,h3⟩:=h;unfold eS at h2;obtain⟨r,-,h2⟩:=Yd.1 h2;have hr:=N9 h2;unfold dh at h3;simp only[Xy,XB]at h3;refine⟨EF h1,hr,by omega,fun f hf=>?_⟩;have h4:=h3.1 f hf;unfold kM at h4;simp only[Xy,XB]at h4;have h5:=h8.2 f hf;exact⟨EF h4.1,by omega,fun a ha=>TN hr (h4.2.2.2 a ha)⟩
theorem HZ {v:Vpc}(hv:VpcOK v):VpcT v:=by
 have h4:=hv.n4;have h6:=hv.n6;refine⟨EF hv.id,by omega,fun r hr=>?_,by omega,fun s hs=>Rq hv hs⟩;have h:=hv.ranges r hr;refine⟨j5 h,?_⟩;unfold d9 at h;simp only[Xy]at h;exact EF h.1
theorem TO {x:Lse}(h:LseT x):(fd x).length≤184:=by
 have a1:=nX _ h.owner;have a2:=nX _ h.till;have a3:=BB h.at_;unfold fd;split
 ·exact gu [qk,dN x.owner,dt x.at_] 60 (by simp[qk,a1,a3])
 ·split
  ·exact gu [qm,dN x.owner,dt x.at_] 60 (by simp[qm,a1,a3])
  ·exact gu [qn,dN x.till,dt x.at_] 60 (by simp[qn,a2,a3])
theorem TP {p:Pol}(h:PolT p)(iG:p.leases.length≤32):(je p).length≤7000:=by
 have a1:=nX _ h.id;have a2:=nX _ h.up;have a3:=BB h.root;have a4:=gu [nW,dN p.id,Kx,dN p.up,dt p.root] 60 (by simp[nW,Kx,a1,a2,a3]);have a5:=nO p.leases fd 184 fun x hx=>TO (h.ls x hx);unfold je;rw[Xt];simp only[XD,X8]at a4;omega
theorem TQ {r:Rng}(h:r.at_.right=true∧Nn r.pool):(ln r).length≤184:=by
 have a1:=nX _ h.2;have a3:=BB h.1;exact gu [nN,dt r.at_,dN r.pool] 60 (by simp[nN,a1,a3])
theorem TR {f:Fce}(h:FceT f)(h4:f.addrs.length≤4):(jz f).length≤400:=by
 have a1:=nX _ h.id;have a2:=gu (gU::dN f.id::f.addrs.map dN) 60 (by
  intro w hw;rcases XY.1 hw with rfl|hw
  ·simp[gU]
  ·rcases XY.1 hw with rfl|hw
   ·exact a1
   ·obtain⟨a,ha,rfl⟩:=XH.1 hw;exact nX _ (h.ad a ha))
 unfold jz;simp only[XD,XF]at a2;omega
theorem TS {s:Sbn}(h:SbnT s)(h8:s.faces.length≤8∧∀f∈s.faces,f.addrs.length≤4):(jN s).length≤4000:=by
 have a1:=nX _ h.id;have a3:=BB h.at_;have a4:=gu [xI,dN s.id,dt s.at_] 60 (by simp[xI,a1,a3]);have a5:=nO s.faces jz 400 fun f hf=>TR (h.fc f hf) (h8.2 f hf);have a6:=h8.1;unfold jN;rw[Xt];simp only[XD,X8]at a4;omega
theorem TU {v:Vpc}(hv:VpcOK v):(jf v).length≤30000:=by
 have h:=HZ hv;have a1:=nX _ h.id;have a4:=gu [xH,dN v.id] 60 (by simp[xH,a1]);have a5:=nO v.ranges ln 184 fun r hr=>TQ (h.rg r hr);have a6:=nO v.subs jN 4000 fun s hs=>TS (h.sb s hs) (hv.n8 s hs);have h4:=hv.n4;have h6:=hv.n6;unfold jf;rw[Xt,Xt];simp only[XD,X8]at a4;omega
theorem Oa {n:Net}(hn:NetOK n){k:Lnk}(hk:k∈n.links):Nn k.a∧Nn k.b:=by
 have h:=hn.lk k hk;unfold kT at h;simp only[Xy]at h;have key:∀{x:Int},(eO n x).isSome=true→Nn x:=fun {x} hx=>by
  obtain⟨v,hv,rfl⟩:=XH.1 (iq hx);exact EF (bc (hn.vp v hv)).id
 exact⟨key h.1,key h.2.1⟩
theorem TV {k:Lnk}(h:Nn k.a∧Nn k.b):(lC k).length≤184:=by
 have a1:=nX _ h.1;have a2:=nX _ h.2;exact gu [sn,dN k.a,dN k.b] 60 (by simp[sn,a1,a2])
theorem H0 {s:Ste}(h:eP s=0):SteT s:=by
 obtain⟨h1,h2⟩:=xp h;have hb:=eD h1;have hn:=iM.1 h2;have n8:=hb.n8;have n6:=hn.n6;have n12:=hn.n12;have ht:Nn s.book.tick:=⟨hb.tick.1,by have:=hb.tick.2;omega⟩;have a1:=nX _ ht;have a2:=gu [ph,dN s.book.tick] 60 (by simp[ph,a1]);have a3:=nO s.book.pools je 7000 fun p hp=>TP (HY hb hp) (hb.l32 p hp);have a4:=nO s.net.vpcs jf 30000 fun v hv=>TU (bc (hn.vp v hv));have a5:=nO s.net.links lC 184 fun k hk=>TV (Oa hn hk);refine⟨ht,by omega,fun p hp=>HY hb hp,by omega,fun v hv=>HZ (bc (hn.vp v hv)),by omega,fun k hk=>Oa hn hk,?_⟩;unfold yO;rw[Xt,Xt,Xt];simp only[XD,X8]at a2;omega
def c0 (op a b c:Int):Cmd:=⟨op,a,b,c,⟨0,0⟩,⟨0,0,0,0⟩⟩
def lq:List Cmd:=[⟨1,7,0,0,⟨256,8⟩,Ny⟩,c0 7 1 0 0,c0 7 2 0 0,c0 8 1 7 10,c0 8 2 7 0,c0 15 2 1 0,⟨10,1,4,0,⟨256,14⟩,⟨0,0,0,0⟩⟩,c0 12 1 4 9,⟨9,2,0,0,⟨320,12⟩,⟨0,0,0,0⟩⟩,⟨6,7,0,0,⟨256,10⟩,⟨0,0,0,0⟩⟩]
theorem TW:ae prog 27 [] (.sl 10 (lq.map oN)):=by
 have h:=QT;refine pj func27 ntmps27 results27 ?_;first|exact bo|(refine ay ?_;exact dz)
def VD:Ste:=⟨⟨0,[⟨7,0,⟨256,8⟩,⟨8,16,12,3⟩,[⟨⟨256,10⟩,1,1,0⟩,⟨⟨320,12⟩,3,0,3⟩]⟩]⟩,⟨[⟨1,[⟨⟨256,10⟩,7⟩],[⟨4,⟨256,14⟩,[⟨9,[257]⟩]⟩]⟩,⟨2,[],[]⟩],[⟨1,2⟩]⟩⟩
theorem Ob:eP VD=0:=by kernel_rfl
theorem H1:∀c∈lq,uO c=true:=XB.1 (show lq.all uO=true by decide)
theorem Ka:jT lq=lq.take 9:=by kernel_rfl
theorem Rr:eQ .zero (lq.take 9)=VD:=by kernel_rfl
theorem Oc:yO VD=[116,105,99,107,32,48,10,112,111,111,108,32,55,32,117,112,32,48,32,49,46,48,47,56,10,117,115,101,114,32,49,32,49,46,48,47,49,48,10,99,111,111,108,32,51,32,49,46,54,52,47,49,50,10,110,101,116,32,49,10,114,97,110,103,101,32,49,46,48,47,49,48,32,55,10,115,117,98,32,52,32,49,46,48,47,49,52,10,102,97,99,101,32,57,32,50,53,55,10,110,101,116,32,50,10,108,105,110,107,32,49,32,50,10]:=by kernel_rfl
theorem EH:ae prog 11 [] (.v (.bool true)):=by
 have h1:=TW;have WV:=Aq (uT (lq.take 9));rw[Rj _ (by decide) (fun c hc=>H1 c (Yc hc)),Rr,show (lq.take 9).length=9 from rfl]at WV;dsimp only at WV;have Kn:=HX VD (H0 Ob) Ob;rw[Oc]at Kn;have c1:Yi (List.toArray (List.append [116,105,99,107,32,48,10,112,111,111,108,32,55,32,117,112,32,48,32,49,46,48,47,56,10,117,115,101,114,32,49,32,49,46,48,47,49,48,10,99,111,111,108,32,51,32,49,46,54,52,47,49,50,10,110,101,116] [32,49,10,114,97,110,103,101,32,49,46,48,47,49,48,32,55,10,115,117,98,32,52,32,49,46,48,47,49,52,10,102,97,99,101,32,57,32,50,53,55,10,110,101,116,32,50,10,108,105,110,107,32,49,32,50,10]))=bs [116,105,99,107,32,48,10,112,111,111,108,32,55,32,117,112,32,48,32,49,46,48,47,56,10,117,115,101,114,32,49,32,49,46,48,47,49,48,10,99,111,111,108,32,51,32,49,46,54,52,47,49,50,10,110,101,116,32,49,10,114,97,110,103,101,32,49,46,48,47,49,48,32,55,10,115,117,98,32,52,32,49,46,48,47,49,52,10,102,97,99,101,32,57,32,50,53,55,10,110,101,116,32,50,10,108,105,110,107,32,49,32,50,10]:=rfl;generalize bs [116,105,99,107,32,48,10,112,111,111,108,32,55,32,117,112,32,48,32,49,46,48,47,56,10,117,115,101,114,32,49,32,49,46,48,47,49,48,10,99,111,111,108,32,51,32,49,46,54,52,47,49,50,10,110,101,116,32,49,10,114,97,110,103,101,32,49,46,48,47,49,48,32,55,10,115,117,98,32,52,32,49,46,48,47,49,52,10,102,97,99,101,32,57,32,50,53,55,10,110,101,116,32,50,10,108,105,110,107,32,49,32,50,10]=T at*;generalize VD=S at*;have cC:=Xk H1;have aT:lq.length≤10:=by decide
 have e0:uT (jT (lq.take 0))=⟨#[]⟩:=rfl;have BN:uT (jT (lq.take lq.length))=uT (lq.take 9):=by rw[Xq,Ka]
 generalize uT (lq.take 9)=G at*;generalize lq=P at*;replace e0:=Xk e0;replace BN:=Xk BN;refine pj func11 ntmps11 results11 ?_;refine ay ?_;refine br af al P (fun _=>True) (fun k=>[(2,.d (.v (.int .i64 k))),(1,.d (.v (.string (uT (jT (P.take k))))))]) (fun _=>[]) trivial ?_ ?_ ?_
 ·rw[e0.out];exact wf
 ·intro k x hx hk _ C hC;have fy:(k:Int) < (P.length:Int):=by omega
  have dW:=wi k (by omega);have hxk:=cC.out x (Xl hx);have hlt:=J8 (P.take k);rw[Xp]at hlt;have hs:=Rg (uT (jT (P.take k))) x;rw[N0 _ (by omega) (NY _) x,if_pos hxk]at hs;dsimp only at hs;have hn:jT (P.take (k+1))=mV (jT (P.take k)) x:=by rw[ah hx,Gu,if_pos hxk]
  generalize mV (jT (P.take k)) x=K1 at*;generalize jT (P.take k)=K0 at*;generalize (Bo (eQ .zero K0) x).2.1=R at*;replace hn:=Xk hn;clear hlt aT hxk;refine ay ?_;refine hC _ _ trivial ?_;rw[hn.out];exact wf
 ·intro _ C;rw[BN.out];exact bo
theorem EI (a b:List (List UInt8))(h:a≠[]):YH (a++b) [32]=YH a [32]++_c [32] b:=by
 cases a with
 |nil=>exact absurd rfl h
 |cons x r=>rw[X6,Lib.join_cons,Lib.join_cons];simp[_c]
theorem At (l:List (List UInt8))(x:List UInt8)(h:l≠[]):YH (l++[x]) [32]=(YH l [32]++[32])++x:=by
 rw[EI l [x] h];simp[_c]
theorem Rs (l:List (List UInt8))(k:Nat):(YH (l.take k) [32]).length≤(YH l [32]).length:=by
 by_cases h:l.take k=[]
 ·rw[h,_q];simp
 ·conv=>rhs;rw[←YU k l,EI _ _ h,Xt]
  omega
theorem Rt (ws:List (List UInt8))(hn:ws.length≤1000)(aT:(bJ ws).length≤1000000000):ae prog 41 [.sl 1 (ws.map mW)] (.v (.string (bs (bJ ws)))):=by
 have sM:(bJ ws).length=(YH ws [32]).length+1:=by simp[bJ]
 have c1:Yi #[32]=bs [32]:=rfl;have c2:Yi #[10]=bs [10]:=rfl;have c0:Yi #[]=bs (YH [] [32]):=rfl;have e:bs (YH ws [32])++bs [10]=bs (bJ ws):=eX _ _;have hs:(bs (YH ws [32])).size+(bs [10]).size≤9223372036854775807:=by rw[cl,cl];simp;omega
 replace e:=Xk e;refine pj func41 ntmps41 results41 ?_;refine ay ?_;refine br af al ws (fun _=>True) (fun k=>[(4,.d (.v (.int .i64 k))),(3,.d (.v (.string (bs (YH (ws.take k) [32]))))),(0,.d (.sl 1 (ws.map mW)))]) (fun _=>[]) trivial ?_ ?_ ?_
 ·exact wf
 ·intro k x hx hk _ C hC;have fy:(k:Int) < (ws.length:Int):=by omega
  have dW:=wi k (by omega);have hle:=Rs ws (k+1);rw[ah hx]at hle;rcases Zl k with h0|h0
  ·have e1:bs (YH (ws.take k) [32])++bs x=bs (YH (ws.take (k+1)) [32]):=by rw[ah hx,eX];subst h0;simp[_q,Lib.join_one]
   have xT:(bs (YH (ws.take k) [32])).size+(bs x).size≤9223372036854775807:=by
    subst h0;rw[cl,cl];simp only[YA,Ye,Lib.join_one,_q,X8]at hle ⊢;omega
   have Xa:¬(0:Int) < (k:Int):=by omega
   have h0J:¬(k:Int)>0:=by omega
   generalize bs (YH (ws.take k) [32])=J at*;generalize bs (YH (ws.take (k+1)) [32])=J2 at*;replace h0:=Xk h0;clear hle c0 hs;refine ay ?_;refine hC _ _ trivial ?_;exact wf
  ·have bH:ws.take k≠[]:=by
    intro h;have:=congrArg List.length h;rw[Xp,X8]at this;omega
   rw[At _ _ bH]at hle;simp only[Xt,_e]at hle;have e1:bs (YH (ws.take k) [32])++bs [32]++bs x=bs (YH (ws.take (k+1)) [32]):=by rw[ah hx,At _ _ bH,eX,eX]
   have xT:(bs (YH (ws.take k) [32])).size+(bs [32]).size≤9223372036854775807:=by rw[cl,cl,_e];omega
   have Pg:(bs (YH (ws.take k) [32])++bs [32]).size+(bs x).size≤9223372036854775807:=by rw[eX,cl,cl,Xt,_e];omega
   have Xa:(0:Int) < (k:Int):=by omega
   simp only[Zb]at Pg;generalize bs (YH (ws.take k) [32])=J at*;generalize bs (YH (ws.take (k+1)) [32])=J2 at*;clear hle c0 hs bH;refine ay ?_;refine hC _ _ trivial ?_;exact wf
 ·intro _ C;rw[Xq];rw[←e.out];generalize bs (YH ws [32])=J at*;exact bo
theorem H2 (g:Nat)(ws:List (List UInt8))(hn:ws.length≤1000)(aT:(bJ ws).length≤1000000000):
 MSpec prog 41 [.own 0 g] [.row 9 1 g (ws.map jL)] (.d (.v (.string (bs (bJ ws))))) [.gone]:=by
 rw[tP];exact tu (Rt ws hn aT) rfl (by simp[az,aH,aq]) (by simp[vw,cA,aS,aw,d6]) (by simp[tc,iI,cO,aw,nf])
theorem nY (n:Int)(h:Nn n):ae prog 42 [.v (.int .i64 n)] (.v (.string (bs (dN n)))):=by
 have:=sk n.toNat (by have:=h.2;omega);rw[show ((n.toNat:Nat):Int)=n by have:=h.1;omega]at this;exact this
theorem nP (g:Nat)(ws:List (List UInt8))(L:List UInt8)(hn:ws.length≤1000)(aT:L.length+(bJ ws).length≤1000000000):
 MSpec prog 41 [.own 0 g] [.row 9 1 g (ws.map jL)] (.d (.v (.string (bs (bJ ws))))) [.gone]∧bs L++bs (bJ ws)=bs (L++bJ ws)∧(bs L).size+(bs (bJ ws)).size≤9223372036854775807:=
 ⟨H2 g ws hn (by omega),eX _ _,by rw[cl,cl];omega⟩
theorem Gw (s:Ste)(hs:SteT s):ae prog 17 [.agg (dR s)] (.v (.string (bs (yO s)))):=by
 have i1:=nY s.book.tick hs.tick;have hnp:=hs.np;have hnv:=hs.nv;have BK:=hs.nl;have kg:=Xk hs.ps;have sy:=Xk hs.vs;have tZ:=Xk hs.ls;obtain⟨L0,vB⟩:∃L0,L0=bJ [ph,dN s.book.tick]:=⟨_,rfl⟩;obtain⟨L7,KO⟩:∃L7,L7=L0++s.book.pools.flatMap je:=⟨_,rfl⟩;obtain⟨L8,KQ⟩:∃L8,L8=L7++s.net.vpcs.flatMap jf:=⟨_,rfl⟩;have hT:yO s=L8++s.net.links.flatMap lC:=by rw[KQ,KO,vB];rfl
 have aT:=hs.len;rw[hT,Xt]at aT;have sI:L7.length+(s.net.vpcs.flatMap jf).length≤1000000000:=by rw[KQ,Xt]at aT;omega
 have ye:L0.length+(s.book.pools.flatMap je).length≤1000000000:=by rw[KO,Xt]at sI;omega
 have hl:=Ln.mk (ls:=[1]) (H2 0 [ph,dN s.book.tick] (by simp) (by rw[←vB];omega));rw[←vB]at hl;rw[hT];simp only[Xm,Xx,jL]at hl;have c1:Yi #[116,105,99,107]=bs ph:=rfl;generalize bs ph=B1 at*;generalize bs (dN s.book.tick)=B2 at*;clear hs hT;replace vB:=Xk vB;replace KO:=Xk KO;replace KQ:=Xk KQ;replace aT:=Xk aT;replace ye:=Xk ye;replace sI:=Xk sI;refine pj func17 ntmps17 results17 ?_;refine ay ?_;clear i1 hl c1;refine br af al s.book.pools (fun _=>True) (fun k=>[(4,.d (.v (.int .i64 k))),(3,.d (.v (.string (bs (L0++(s.book.pools.take k).flatMap je))))),(1,.ptr 0 0)])
  (fun _=>[.box 36 ((dR s).map .d)]) trivial ?_ ?_ ?_
 ·simp only[YA,YS,Ya];exact wf
 ·intro k x hx hk _ C hC;have fy:(k:Int) < (s.book.pools.length:Int):=by omega
  have dW:=wi k (by omega);have vh:=kg.out x (Xl hx);have fV:=fu hx je;have hle:=lU s.book.pools (k+1) je;rw[fV,Xt]at hle;obtain⟨L1,jD⟩:∃L1,L1=L0++(s.book.pools.take k).flatMap je:=⟨_,rfl⟩;have hU:L1.length+(je x).length≤1000000000:=by rw[jD,Xt];have:=ye.out;omega
  rw[←jD];obtain⟨L2,yb⟩:∃L2,L2=L1++bJ [nW,dN x.id,Kx,dN x.up,dt x.root]:=⟨_,rfl⟩;have GU:L1++je x=L2++x.leases.flatMap fd:=by rw[yb];unfold je;rw[XT]
  have yc:L2.length+(x.leases.flatMap fd).length≤1000000000:=by rw[←Xt,←GU,Xt];exact hU
  have bZ:L0++(s.book.pools.take (k+1)).flatMap je=L2++x.leases.flatMap fd:=by rw[fV,←XT,←jD,GU]
  have i1:=nY x.id vh.id;have i2:=nY x.up vh.up;have i3:=ke x.root vh.root;have hn:=vh.n;have pR:=Xk vh.ls;obtain⟨hl,ha,hz⟩:=nP 0 [nW,dN x.id,Kx,dN x.up,dt x.root] L1 (by simp) (by rw[←Xt,←yb];omega);rw[←yb]at ha;replace hl:=Ln.mk (ls:=[2]) hl;simp only[Xm,Xx,jL]at hl;have c1:Yi #[112,111,111,108]=bs nW:=rfl;have c2:Yi #[117,112]=bs Kx:=rfl;generalize bs (bJ [nW,dN x.id,Kx,dN x.up,dt x.root])=T1 at*;generalize bs nW=B1 at*;generalize bs Kx=B2 at*;generalize bs (dN x.id)=B3 at*;generalize bs (dN x.up)=B4 at*;generalize bs (dt x.root)=B5 at*;replace bZ:=Xk bZ;replace jD:=Xk jD;replace yb:=Xk yb;replace yc:=Xk yc;clear fV hle hU vh GU;refine ay ?_;clear i1 i2 i3 hl ha hz c1 c2;refine br af al x.leases (fun _=>True) (fun j=>[(6,.d (.v (.int .i64 j))),(3,.d (.v (.string (bs (L2++(x.leases.take j).flatMap fd))))),(5,.ptr 1 0),(4,.d (.v (.int .i64 k))),(1,.ptr 0 0)])
   (fun _=>[.box 36 ((dR s).map .d),.box 83 ((am x).map .d)]) trivial ?_ ?_ ?_
  ·simp only[YA,YS,Ya];exact wf
  ·intro j y hy hj _ C2 kz;have mb:(j:Int) < (x.leases.length:Int):=by omega
   have rf:=wi j (by omega);have O4:=pR.out y (Xl hy);have fV:=fu hy fd;have hle:=lU x.leases (j+1) fd;rw[fV,Xt]at hle;obtain⟨L3,yd⟩:∃L3,L3=L2++(x.leases.take j).flatMap fd:=⟨_,rfl⟩;have og:L3.length+(fd y).length≤1000000000:=by rw[yd,Xt];have:=yc.out;omega
   rw[←yd];have gY:L2++(x.leases.take (j+1)).flatMap fd=L3++fd y:=by rw[fV,←XT,←yd]
   have i1:=nY y.owner O4.owner;have i2:=nY y.till O4.till;have i3:=ke y.at_ O4.at_;have hkd:=O4.kind;replace gY:=Xk gY;replace yd:=Xk yd;clear fV hle O4;rcases hkd with hkd|hkd|hkd
   ·have pR:fd y=bJ [qk,dN y.owner,dt y.at_]:=by unfold fd;rw[if_pos hkd]
    rw[pR]at og;obtain⟨hl,ha,hz⟩:=nP 0 [qk,dN y.owner,dt y.at_] L3 (by simp) og;rw[←pR]at hl ha hz;replace hl:=Ln.mk (ls:=[3]) hl;simp only[Xm,Xx,jL]at hl;have c1:Yi #[117,115,101,114]=bs qk:=rfl;generalize bs (fd y)=T1 at*;replace pR:=Xk pR;clear og;refine ay ?_;refine kz _ _ trivial ?_;rw[gY.out];exact wf
   ·have pR:fd y=bJ [qm,dN y.owner,dt y.at_]:=by unfold fd;rw[if_neg (by omega),if_pos hkd]
    rw[pR]at og;obtain⟨hl,ha,hz⟩:=nP 0 [qm,dN y.owner,dt y.at_] L3 (by simp) og;rw[←pR]at hl ha hz;replace hl:=Ln.mk (ls:=[3]) hl;simp only[Xm,Xx,jL]at hl;have c1:Yi #[110,101,115,116]=bs qm:=rfl;generalize bs (fd y)=T1 at*;replace pR:=Xk pR;clear og;refine ay ?_;refine kz _ _ trivial ?_;rw[gY.out];exact wf
   ·have pR:fd y=bJ [qn,dN y.till,dt y.at_]:=by unfold fd;rw[if_neg (by omega),if_neg (by omega)]
    rw[pR]at og;obtain⟨hl,ha,hz⟩:=nP 0 [qn,dN y.till,dt y.at_] L3 (by simp) og;rw[←pR]at hl ha hz;replace hl:=Ln.mk (ls:=[3]) hl;simp only[Xm,Xx,jL]at hl;have c1:Yi #[99,111,111,108]=bs qn:=rfl;generalize bs (fd y)=T1 at*;replace pR:=Xk pR;clear og;refine ay ?_;refine kz _ _ trivial ?_;rw[gY.out];exact wf
  ·intro _ C2;rw[Xq,←bZ.out];refine ay ?_;refine hC _ _ trivial ?_;exact wf
 ·intro _ C;rw[Xq,←KO.out];refine ay ?_;refine br af al s.net.vpcs (fun _=>True) (fun k=>[(8,.d (.v (.int .i64 k))),(3,.d (.v (.string (bs (L7++(s.net.vpcs.take k).flatMap jf))))),(1,.ptr 0 0)])
   (fun _=>[.box 36 ((dR s).map .d)]) trivial ?_ ?_ ?_
  ·simp only[YA,YS,Ya];exact wf
  ·intro k x hx hk _ C hC;have fy:(k:Int) < (s.net.vpcs.length:Int):=by omega
   have dW:=wi k (by omega);have vh:=sy.out x (Xl hx);have fV:=fu hx jf;have hle:=lU s.net.vpcs (k+1) jf;rw[fV,Xt]at hle;obtain⟨L1,jD⟩:∃L1,L1=L7++(s.net.vpcs.take k).flatMap jf:=⟨_,rfl⟩;have hU:L1.length+(jf x).length≤1000000000:=by rw[jD,Xt];have:=sI.out;omega
   rw[←jD];obtain⟨L2,yb⟩:∃L2,L2=L1++bJ [xH,dN x.id]:=⟨_,rfl⟩;obtain⟨L4,WW⟩:∃L4,L4=L2++x.ranges.flatMap ln:=⟨_,rfl⟩;have UG:L1++jf x=L4++x.subs.flatMap jN:=by rw[WW,yb];unfold jf;simp only[XT]
   have R5:L4.length+(x.subs.flatMap jN).length≤1000000000:=by rw[←Xt,←UG,Xt];exact hU
   have yc:L2.length+(x.ranges.flatMap ln).length≤1000000000:=by rw[WW,Xt]at R5;omega
   have bZ:L7++(s.net.vpcs.take (k+1)).flatMap jf=L4++x.subs.flatMap jN:=by rw[fV,←XT,←jD,UG]
   have i1:=nY x.id vh.id;have OI:=vh.nr;have Sw:=vh.ns;have hrg:=Xk vh.rg;have sx:=Xk vh.sb;obtain⟨hl,ha,hz⟩:=nP 0 [xH,dN x.id] L1 (by simp) (by rw[←Xt,←yb];omega);rw[←yb]at ha;replace hl:=Ln.mk (ls:=[2]) hl;simp only[Xm,Xx,jL]at hl;have c1:Yi #[110,101,116]=bs xH:=rfl;generalize bs (bJ [xH,dN x.id])=T1 at*;replace bZ:=Xk bZ;replace jD:=Xk jD;replace yb:=Xk yb;replace WW:=Xk WW;replace yc:=Xk yc;replace R5:=Xk R5;clear fV hle hU vh UG;refine ay ?_;clear i1 hl ha hz c1;refine br af al x.ranges (fun _=>True) (fun j=>[(10,.d (.v (.int .i64 j))),(3,.d (.v (.string (bs (L2++(x.ranges.take j).flatMap ln))))),(9,.ptr 1 0),(8,.d (.v (.int .i64 k))),(1,.ptr 0 0)])
    (fun _=>[.box 36 ((dR s).map .d),.box 88 ((aD x).map .d)]) trivial ?_ ?_ ?_
   ·simp only[YA,YS,Ya];exact wf
   ·intro j y hy hj _ C2 kz;have mb:(j:Int) < (x.ranges.length:Int):=by omega
    have rf:=wi j (by omega);obtain⟨y1,y2⟩:=hrg.out y (Xl hy);have fV:=fu hy ln;have hle:=lU x.ranges (j+1) ln;rw[fV,Xt]at hle;obtain⟨L3,yd⟩:∃L3,L3=L2++(x.ranges.take j).flatMap ln:=⟨_,rfl⟩;have og:L3.length+(ln y).length≤1000000000:=by rw[yd,Xt];have:=yc.out;omega
    rw[←yd];have gY:L2++(x.ranges.take (j+1)).flatMap ln=L3++ln y:=by rw[fV,←XT,←yd]
    have i2:=nY y.pool y2;have i3:=ke y.at_ y1;obtain⟨hl,ha,hz⟩:=nP 0 [nN,dt y.at_,dN y.pool] L3 (by simp) og;replace hl:=Ln.mk (ls:=[2]) hl;simp only[Xm,Xx,jL]at hl;have c1:Yi #[114,97,110,103,101]=bs nN:=rfl;change _=bs (L3++ln y)at ha;generalize bs (bJ [nN,dt y.at_,dN y.pool])=T1 at*;replace gY:=Xk gY;replace yd:=Xk yd;clear fV hle og y1 y2;refine ay ?_;refine kz _ _ trivial ?_;rw[gY.out];exact wf
   ·intro _ C2;rw[Xq,←WW.out];refine ay ?_;refine br af al x.subs (fun _=>True) (fun j=>[(11,.d (.v (.int .i64 j))),(3,.d (.v (.string (bs (L4++(x.subs.take j).flatMap jN))))),(9,.ptr 1 0),(8,.d (.v (.int .i64 k))),(1,.ptr 0 0)])
     (fun _=>[.box 36 ((dR s).map .d),.box 88 ((aD x).map .d)]) trivial ?_ ?_ ?_
    ·simp only[YA,YS,Ya];exact wf
    ·intro j y hy hj _ C3 RQ;have mb:(j:Int) < (x.subs.length:Int):=by omega
     have rf:=wi j (by omega);have O4:=sx.out y (Xl hy);have fV:=fu hy jN;have hle:=lU x.subs (j+1) jN;rw[fV,Xt]at hle;obtain⟨L3,yd⟩:∃L3,L3=L4++(x.subs.take j).flatMap jN:=⟨_,rfl⟩;have og:L3.length+(jN y).length≤1000000000:=by rw[yd,Xt];have:=R5.out;omega
     rw[←yd];obtain⟨L5,WX⟩:∃L5,L5=L3++bJ [xI,dN y.id,dt y.at_]:=⟨_,rfl⟩;have UH:L3++jN y=L5++y.faces.flatMap jz:=by rw[WX];unfold jN;rw[XT]
     have UI:L5.length+(y.faces.flatMap jz).length≤1000000000:=by rw[←Xt,←UH,Xt];exact og
     have gY:L4++(x.subs.take (j+1)).flatMap jN=L5++y.faces.flatMap jz:=by rw[fV,←XT,←yd,UH]
     have i2:=nY y.id O4.id;have i3:=ke y.at_ O4.at_;have Wj:=O4.n;have T5:=Xk O4.fc;obtain⟨hl,ha,hz⟩:=nP 0 [xI,dN y.id,dt y.at_] L3 (by simp) (by rw[←Xt,←WX];omega);rw[←WX]at ha;replace hl:=Ln.mk (ls:=[2]) hl;simp only[Xm,Xx,jL]at hl;have c1:Yi #[115,117,98]=bs xI:=rfl;generalize bs (bJ [xI,dN y.id,dt y.at_])=T1 at*;replace gY:=Xk gY;replace yd:=Xk yd;replace WX:=Xk WX;replace UI:=Xk UI;clear fV hle og O4 UH;refine ay ?_;clear i2 i3 hl ha hz c1;refine br af al y.faces (fun _=>True) (fun m=>[(12,.d (.v (.int .i64 m))),(3,.d (.v (.string (bs (L5++(y.faces.take m).flatMap jz))))),(11,.d (.v (.int .i64 j))),(9,.ptr 1 0),(8,.d (.v (.int .i64 k))),(1,.ptr 0 0)])
      (fun _=>[.box 36 ((dR s).map .d),.box 88 ((aD x).map .d)]) trivial ?_ ?_ ?_
     ·simp only[YA,YS,Ya];exact wf
     ·intro m f hf hm _ C4 hC4;have hmI:(m:Int) < (y.faces.length:Int):=by omega
      have GH:=wi m (by omega);have R3:=T5.out f (Xl hf);have fV:=fu hf jz;have hle:=lU y.faces (m+1) jz;rw[fV,Xt]at hle;have i3:=nY f.id R3.id;have SB:=R3.n;have Ii:=Xk R3.ad;obtain⟨L6,WY⟩:∃L6,L6=L5++(y.faces.take m).flatMap jz:=⟨_,rfl⟩;have WZ:L6.length+(jz f).length≤1000000000:=by rw[WY,Xt];have:=UI.out;omega
      rw[←WY];have O5:L5++(y.faces.take (m+1)).flatMap jz=L6++jz f:=by rw[fV,←XT,←WY]
      obtain⟨hl,ha,hz⟩:=nP f.addrs.length (gU::dN f.id::f.addrs.map dN) L6 (by simp;omega) WZ;replace hl:=Ln.mk (ls:=[3]) hl;rw[tP]at hl;have c1:Yi #[102,97,99,101]=bs gU:=rfl;change _=bs (L6++jz f)at ha;generalize bs (bJ (gU::dN f.id::f.addrs.map dN))=T1 at*;replace O5:=Xk O5;replace WY:=Xk WY;clear fV hle WZ R3;refine ay ?_;refine br af al f.addrs (fun _=>True) (fun q=>[(15,.d (.v (.int .i64 q))),(14,.own 3 q),(13,.ptr 2 0),(3,.d (.v (.string (bs L6)))),(12,.d (.v (.int .i64 m))),(11,.d (.v (.int .i64 j))),(9,.ptr 1 0),(8,.d (.v (.int .i64 k))),(1,.ptr 0 0)])
       (fun q=>[.box 36 ((dR s).map .d),.box 88 ((aD x).map .d),.box 110 ((cX f).map .d),.row 9 1 q (ab ((gU::dN f.id::(f.addrs.take q).map dN).map mW))]) trivial ?_ ?_ ?_
      ·exact wf
      ·intro q a ha' hq _ C5 hC5;have hqI:(q:Int) < (f.addrs.length:Int):=by omega
       have a1f:=wi q (by omega);have i4:=nY a (Ii.out a (Xl ha'));have hW:(gU::dN f.id::(f.addrs.take (q+1)).map dN).map mW=(gU::dN f.id::(f.addrs.take q).map dN).map mW++[[.v (.string (bs (dN a)))]]:=by rw[ah ha'];simp[mW]
       have hWl:((gU::dN f.id::(f.addrs.take q).map dN).map mW).length=q+2:=by simp;omega
       have GC:q+2+1≤100:=by omega
       generalize (gU::dN f.id::(f.addrs.take q).map dN).map mW=W at*;replace hW:=Xk hW;clear hl;refine ay ?_;refine hC5 _ _ trivial ?_;rw[hW.out,←aW];exact wf (hbh:=by simp[az,aH,ai,aj,aq,aM,aW])
      ·intro _ C5;rw[Xq];generalize (gU::dN f.id::f.addrs.map dN).map mW=W at*;refine ay ?_;refine hC4 _ _ trivial ?_;rw[O5.out];exact wf
     ·intro _ C4;rw[Xq,←gY.out];refine ay ?_;refine RQ _ _ trivial ?_;exact wf
    ·intro _ C3;rw[Xq,←bZ.out];refine ay ?_;refine hC _ _ trivial ?_;exact wf
  ·intro _ C;rw[Xq,←KQ.out];refine ay ?_;refine br af al s.net.links (fun _=>True) (fun k=>[(16,.d (.v (.int .i64 k))),(3,.d (.v (.string (bs (L8++(s.net.links.take k).flatMap lC))))),(1,.ptr 0 0)])
    (fun _=>[.box 36 ((dR s).map .d)]) trivial ?_ ?_ ?_
   ·simp only[YA,YS,Ya];exact wf
   ·intro k x hx hk _ C hC;have fy:(k:Int) < (s.net.links.length:Int):=by omega
    have dW:=wi k (by omega);have fV:=fu hx lC;have hle:=lU s.net.links (k+1) lC;rw[fV,Xt]at hle;obtain⟨h1,h2⟩:=tZ.out x (Xl hx);have i2:=nY x.a h1;have i3:=nY x.b h2;obtain⟨L1,jD⟩:∃L1,L1=L8++(s.net.links.take k).flatMap lC:=⟨_,rfl⟩;have hU:L1.length+(lC x).length≤1000000000:=by rw[jD,Xt];have:=aT.out;omega
    rw[←jD];have bZ:L8++(s.net.links.take (k+1)).flatMap lC=L1++lC x:=by rw[fV,←XT,←jD]
    obtain⟨hl,ha,hz⟩:=nP 0 [sn,dN x.a,dN x.b] L1 (by simp) hU;replace hl:=Ln.mk (ls:=[1]) hl;simp only[Xm,Xx,jL]at hl;have c1:Yi #[108,105,110,107]=bs sn:=rfl;change _=bs (L1++lC x)at ha;generalize bs (bJ [sn,dN x.a,dN x.b])=T1 at*;replace bZ:=Xk bZ;replace jD:=Xk jD;clear fV hle hU h1 h2;refine ay ?_;refine hC _ _ trivial ?_;rw[bZ.out];exact wf
   ·intro _ C;rw[Xq];exact bo
theorem EJ (s:Ste)(hz:∀p∈s.book.pools,p.leases.length≤3518437208882)(U3:JV s.net):ae prog 5 [.agg (dR s)] (.v (.bool true)):=by
 have h2:=Ew s hz U3;have h3:=EH;by_cases h:eP s=0
 ·have hs:=H0 h;have h1:=HX s hs h;have h4:=Gw s hs;rw[h]at h2;generalize bs (yO s)=T at*;clear hs h hz U3;refine pj func5 ntmps5 results5 ?_;exact bo
 ·have h1:=J9 s hz h;have e1:(eP s==0)=false:=by simpa using h
  generalize eP s=E at*;clear h hz U3;refine pj func5 ntmps5 results5 ?_;exact bo
section
open Go.Proofs Go.ChangeShapes Go.WideShapes Go.Deep
def NM:Nat→Prop:=fun _=>False
section
variable {H:Type}{enc:TypeId × Value→H}{P:Program}{w:World}{base:Nat}{spare:Nat→Bool}{held:Bool}
def yP {α:Type}(enc:TypeId × Value→H)(P:Program)(w:World)(base:Nat)(spare:Nat→Bool)(held:Bool)(t:TypeId)(R:List Value→α→Prop)(S:α→Prop):Prop:=
 ∀fuel cs x,DataW.trod enc P w base spare held fuel t cs=some x→∃a,R cs a∧((∀n∈x.1.weights P t,n≤reachBytes)→S a)
theorem BD {α:Type}{t:TypeId}{R:List Value→α→Prop}(h:Rd enc P w base spare held t R):yP enc P w base spare held t R (fun _=>True):=by
 intro fuel cs x hx;obtain⟨a,ha⟩:=h fuel cs x hx;exact⟨a,ha,fun _=>trivial⟩
theorem uE {e:TypeId}:∀{l:List (DataW H)}{d:DataW H},d∈l→∀n∈d.weights P e,n∈DataW.weightsAll P e l
 |a::l,d,h,n,hn=>by
  simp only[DataW.weightsAll,X4];rcases XY.1 h with rfl|h
  ·exact .inl hn
  ·exact .inr (uE h n hn)
theorem fj {α:Type}{t:TypeId}{fs:Array Field}{fuel:Nat}{cs:List Value}{x:DataW H × List MemPlace}(ht:P.underlying t=some (.struct fs))(h:DataW.trod enc P w base spare held fuel t cs=some x)
 (j:Nat) {f:Field} (hf:fs[j]? =some f) {R:List Value→α→Prop}{S:α→Prop} (hr:yP enc P w base spare held f.type R S):∃a,R ((cs.drop f.offset).take (P.cellsOf f.type)) a∧((∀n∈x.1.weights P t,n≤reachBytes)→S a):=by
 obtain⟨xs,n,_,rfl,_,aT,hg⟩:=DataW.trod_struct ht h;have h1:=hg j f hf;have hj:j < xs.length:=by rw[aT];exact(Yq.1 hf).1
 rw[Xj hj]at h1;obtain⟨a,ha,hs⟩:=hr _ _ _ h1;refine⟨a,ha,fun hw=>hs fun n hn=>hw n ?_⟩;simp only[DataW.weights,ht];exact DataW.weights_mem_each (j:=j) (t:=f.type) (d:=(xs[j]).1) (by simp[hf]) (by simp[Xj hj]) n hn
theorem gW {α:Type}{t e:TypeId}{k:Nat}{R:List Value→α→Prop}{S:α→Prop}(ht:P.underlying t=some (.slice e))(hc:P.cellsOf e=k+1)(he:yP enc P w base spare held e R S):
 yP enc P w base spare held t (fun cs (l:List α)=>∃v,cs=[v]∧U4 (inW w) w (k+1) R v l) (fun l=>l.length*P.bytesOf e≤reachBytes∧∀a∈l,S a):=by
 intro fuel cs x hx;rcases open_slice ht hx with⟨rfl,rfl⟩|⟨a,len,cap,m,n,D,Pl,rfl,hb,hl,hm,GN,rfl,hi⟩
 ·exact⟨[],⟨_,rfl,none,0,rfl,⟨XC _,by decide,fun i h=>by simp at h⟩⟩,fun _=>⟨by simp,fun a h=>by simp at h⟩⟩
 ·have mc:len≤m:=by rw[GN];split<;>omega
  obtain⟨l,sM,hq⟩:=tL (Q:=fun i y=>∃cs',w.cells? base (a.add (i*P.cellsOf e)) (P.cellsOf e)=some cs'∧R cs' y∧((∀n∈(D i).weights P e,n≤reachBytes)→S y)) len fun i h=>by
   obtain⟨cs',h1,h2⟩:=hi i (by omega);obtain⟨y,hy,hs⟩:=he _ _ _ h2;exact⟨y,cs',h1,hy,hs⟩
  refine⟨l,⟨_,rfl,some a,cap,by rw[sM],⟨by omega,by unfold maxLen at hm;omega,fun i h=>?_⟩⟩,fun hw=>⟨?_,fun y hy=>?_⟩⟩
  ·obtain⟨cs',h1,h2,-⟩:=hq i h;rw[hc]at h1;obtain⟨_,gA,kf⟩:=World.cells?_some h1;obtain⟨b,off,spot⟩:=a;have W3:spot=none:=by
    obtain⟨cs0,g1,_⟩:=hq 0 (by omega);rw[hc]at g1;obtain⟨_,gcl,gat⟩:=World.cells?_some g1;have g0:=gat (i:=0) (by omega);have g0':w.cell? ⟨b,off,spot⟩=some (cs0[0]'(by omega)):=by
     have:((⟨b,off,spot⟩:Addr).add (0*(k+1))).add 0=⟨b,off,spot⟩:=by simp[Addr.add]
     rw[this]at g0;rw[g0];exact Xj (by omega)
    exact World.cell?_spot g0'
   subst W3;have Oq:∀o j,((⟨b,o,none⟩:Addr).add j)=⟨b,o+j,none⟩:=by
    intro o j;unfold Addr.add;split<;>simp_all
   refine⟨b,off,cs',rfl,?_,gA,h2,fun j hj=>?_⟩
   ·have:=kf (i:=0) (by omega);rw[Oq,Oq]at this;exact dn (this.trans (Xj (by omega)))
   ·have:=kf (i:=j) (by omega);rw[Oq,Oq]at this;rw[this];exact Xj hj
  ·have:=hw (((X3 len).map D).length+((X3 (m - len)).map fun j=>D (len+j)).length|>(·*P.bytesOf e)) (by simp[DataW.weights,ht]);simp only[XF,List.length_range]at this;rw[sM];exact Yu (Yo _ (by omega)) this
  ·obtain⟨i,hil,rfl⟩:=Yf.1 hy;obtain⟨cs',h1,h2,h3⟩:=hq i hil;refine h3 fun n hn=>hw n ?_;simp only[DataW.weights,ht];refine YR _ (ZW _ (uE (d:=D i) (XH.2 ⟨i,by simp;omega,rfl⟩) n hn))
theorem a0j {α:Type}{R:List Value→α→Prop}{S:α→Prop}{r:Reach}{b0:Nat}{t:TypeId}{fs:Array Field}{v:Value}{d:DataW H}{p:List MemPlace}(ht:P.underlying t=some (.struct fs))(R6:Value.okWide P w r b0 t v)(hd:DataW.Trod enc P w base spare held t v d p)
 (hr:yP enc P w base spare held t R S):∃cs a,v= .agg cs∧R cs.toList a∧((∀n∈d.weights P t,n≤reachBytes)→S a):=by
 obtain⟨cs,rfl,_⟩:=okWide_struct ht R6;obtain⟨fuel,hf⟩:=hd;obtain⟨a,ha,hs⟩:=hr _ _ _ hf;exact⟨cs,a,rfl,by simpa[Value.cells]using ha,hs⟩
end
end
section
open Go.Proofs Go.ChangeShapes Go.WideShapes Go.Deep
theorem jA {α:Type}{enc:α→List D}{sz:Nat}{w:World}(h0:0 < sz)(hen:∀a,(enc a).length=sz∧∀d∈enc a,d.one=true){v:Value}{l:List α}(h:U4 (inW w) w sz (fun cs a=>co NM w (enc a) cs) v l):RepD NM w (.sl sz (l.map enc)) v:=by
 obtain⟨ao,cap,rfl,hs⟩:=h;cases l with
 |nil=>exact .nil sz ao cap hs.cap_max
 |cons u us=>
  obtain⟨b,off,cs,rfl,hAb,hl,hR,ly⟩:=hs.elem 0 (by simp);have key:∀i (hi:i < (u::us).length),∃cs:List Value,cs.length=sz∧co NM w (enc (u::us)[i]) cs∧lD w b (off+i*sz) cs:=by
   intro i hi;obtain⟨b',off',cs',e,-,hl',hR',ve⟩:=hs.elem i hi;cases e;exact⟨cs',hl',hR',ve⟩
  have aT:((u::us).map enc).length=(u::us).length:=by simp
  rw[←aT];refine .sl sz ((u::us).map enc) b off cap (fun i j=>(w.cell? ⟨b,off+i*sz+j,none⟩).getD undef) (fun h=>h) hAb (by rw[aT];exact hs.cap_le) hs.cap_max (fun r hr=>?_) (fun r hr=>?_) (fun i j hi hj=>?_) (fun i j row d hi hj=>?_)
  ·obtain⟨x,-,rfl⟩:=XH.1 hr;exact(hen x).1
  ·obtain⟨x,-,rfl⟩:=XH.1 hr;exact(hen x).2
  ·obtain⟨cs',hl',-,ve⟩:=key i (by simpa using hi);rw[ve j (by omega)];rfl
  ·have hi':i < (u::us).length:=by have:=(Xo.1 hi).1;simpa using this
   obtain⟨cs',hl',hR',ve⟩:=key i hi';rw[XA,Xj hi']at hi;simp only[Yg,XX.injEq]at hi;subst hi;have hj':j < cs'.length:=by rw[←hR'.1];exact(Xo.1 hj).1
   rw[ve j hj'];exact hR'.2 j d _ hj (Xj hj')
section
variable {H:Type}{enc:TypeId × Value→H}{w:World}{base:Nat}{spare:Nat→Bool}{held:Bool}
theorem iC:prog.cellsOf 23=2:=by kernel_rfl
theorem cH:prog.cellsOf 3=1:=by kernel_rfl
theorem yT:prog.cellsOf 108=1:=by kernel_rfl
theorem qq:prog.cellsOf 110=2:=by kernel_rfl
theorem su:prog.cellsOf 107=4:=by kernel_rfl
theorem pi:prog.cellsOf 100=3:=by kernel_rfl
theorem sr:prog.cellsOf 88=3:=by kernel_rfl
theorem xP:prog.cellsOf 105=1:=by kernel_rfl
theorem xN:prog.bytesOf 110=32:=by kernel_rfl
theorem y7:prog.cellsOf 86=1:=by kernel_rfl
theorem yS:prog.bytesOf 107=48:=by kernel_rfl
theorem uY:prog.cellsOf 85=1:=by kernel_rfl
theorem BE:Rd enc prog w base spare held 23 Pfx.R:=by
 intro fuel cs x hx;have hl:=jI underlying23 hx;rw[iC]at hl;obtain⟨a,ha⟩:=cw underlying23 hx 0 rfl (eV underlying3);obtain⟨b,hb⟩:=cw underlying23 hx 1 rfl (eV underlying3);match cs,hl with
 |[c0,c1],_=>
  simp[cH,xc]at ha hb;exact⟨⟨a,b⟩,by simp[Pfx.R,ha.1,hb.1]⟩
theorem eY (l:List Int):co NM w (l.map fun n=> .v (.int .i64 n)) (l.map fun n=> .int .i64 n):=by
 refine⟨by simp,fun j d x hj hx=>?_⟩;rw[XA,XG]at hj hx;obtain⟨a,ha,rfl⟩:=hj;obtain⟨c,hc,rfl⟩:=hx;rw[ha]at hc;obtain rfl:=XX.inj hc;exact .v _
theorem fN {M:Nat→Prop}{w:World}{ds es:List D}{vs us:List Value}(h:co M w ds vs)(g:co M w es us):co M w (ds++es) (vs++us):=by
 refine⟨by simp[h.1,g.1],fun j d x hj hx=>?_⟩;rcases XO j ds.length with hlt|hge
 ·rw[X5 hlt]at hj;rw[X5 (by rw[←h.1];exact hlt)]at hx;exact h.2 j d x hj hx
 ·rw[XP hge]at hj;rw[XP (by rw[←h.1];exact hge),←h.1]at hx;exact g.2 _ d x hj hx
theorem gX {M:Nat→Prop}{w:World}{d:D}{v:Value}(h:RepD M w d v):co M w [d] [v]:=⟨rfl,fun j e x hj hx=>by
 match j with
 |0=>cases hj;cases hx;exact h
 |j+1=>simp at hj⟩
theorem Od:yP enc prog w base spare held 108 (fun cs (l:List Int)=>∃v,cs=[v]∧RepD NM w (.sl 1 (l.map dF)) v) (fun _=>True):=by
 have h:=gW (enc:=enc) (base:=base) (spare:=spare) (held:=held) underlying108 cH (BD ((eV (w:=w) underlying3).map id (R':=fun cs (a:Int)=>co NM w (dF a) cs) fun cs a h=>by rw[h.1];exact eY [a]));intro fuel cs x hx;obtain⟨l,⟨v,rfl,hs⟩,hw⟩:=h fuel cs x hx;refine⟨l,⟨v,rfl,jA (sz:=1) (by omega) (fun a=>⟨rfl,fun d hd=>?_⟩) hs⟩,fun _=>trivial⟩;simp[dF]at hd;rcases hd with rfl;rfl
theorem Oe:yP enc prog w base spare held 110 (fun cs (f:Fce)=>co NM w (cX f) cs) (fun _=>True):=by
 intro fuel cs x hx;have hl:=jI underlying110 hx;rw[qq]at hl;obtain⟨a,ha⟩:=cw underlying110 hx 0 rfl (eV underlying3);obtain⟨l,hs,hw⟩:=fj underlying110 hx 1 rfl Od;match cs,hl with
 |[c0,c1],_=>
  simp[cH,yT,xc]at ha hs;refine⟨⟨a,l⟩,?_,fun _=>trivial⟩;rw[ha.1];exact fN (eY [a]) (gX hs)
theorem Kb:yP enc prog w base spare held 105 (fun cs (l:List Fce)=>∃v,cs=[v]∧RepD NM w (.sl 2 (l.map cX)) v) (fun l=>l.length*32≤reachBytes):=by
 have h:=gW (enc:=enc) (base:=base) (spare:=spare) (held:=held) underlying105 qq (Oe (w:=w));intro fuel cs x hx;obtain⟨l,⟨v,rfl,hs⟩,hw⟩:=h fuel cs x hx;refine⟨l,⟨v,rfl,jA (sz:=2) (by omega) (fun a=>⟨rfl,fun d hd=>?_⟩) hs⟩,fun hh=>by have:=(hw hh).1;rwa [xN]at this⟩;simp[cX]at hd;rcases hd with rfl|rfl<;>rfl
theorem Ru:yP enc prog w base spare held 107 (fun cs (s:Sbn)=>co NM w (bI s) cs) (fun s=>s.faces.length*32≤reachBytes):=by
 intro fuel cs x hx;have hl:=jI underlying107 hx;rw[su]at hl;obtain⟨a,ha⟩:=cw underlying107 hx 0 rfl (eV underlying3);obtain⟨p,hp⟩:=cw underlying107 hx 1 rfl BE;obtain⟨l,hs,hw⟩:=fj underlying107 hx 2 rfl Kb;match cs,hl with
 |[c0,c1,c2,c3],_=>
  simp[iC,cH,xP,xc,Pfx.R]at ha hp hs;refine⟨⟨a,p,l⟩,?_,hw⟩;rw[ha.1,hp.1,hp.2];exact fN (eY [a,p.at_,p.len]) (gX hs)
theorem Of:yP enc prog w base spare held 86 (fun cs (l:List Sbn)=>∃v,cs=[v]∧RepD NM w (.sl 4 (l.map bI)) v) (fun l=>l.length*48≤reachBytes∧∀s∈l,s.faces.length*32≤reachBytes):=by
 have h:=gW (enc:=enc) (base:=base) (spare:=spare) (held:=held) underlying86 su (Ru (w:=w));intro fuel cs x hx;obtain⟨l,⟨v,rfl,hs⟩,hw⟩:=h fuel cs x hx;refine⟨l,⟨v,rfl,jA (sz:=4) (by omega) (fun a=>⟨rfl,fun d hd=>?_⟩) hs⟩,fun hh=>⟨by have:=(hw hh).1;rwa [yS]at this,(hw hh).2⟩⟩;simp[bI]at hd;rcases hd with rfl|rfl|rfl|rfl<;>rfl
theorem TX:Rd enc prog w base spare held 100 fun cs (r:Rng)=>co NM w (cq r) cs:=by
 intro fuel cs x hx;have hl:=jI underlying100 hx;rw[pi]at hl;obtain⟨p,hp⟩:=cw underlying100 hx 0 rfl BE;obtain⟨a,ha⟩:=cw underlying100 hx 1 rfl (eV underlying3);match cs,hl with
 |[c0,c1,c2],_=>
  simp[iC,cH,xc,Pfx.R]at ha hp;refine⟨⟨p,a⟩,?_⟩;rw[ha.1,hp.1,hp.2];exact eY [p.at_,p.len,a]
theorem Rv:yP enc prog w base spare held 100 (fun cs (r:Rng)=>co NM w (cq r) cs) (fun _=>True):=BD TX
theorem Og:yP enc prog w base spare held 85 (fun cs (l:List Rng)=>∃v,cs=[v]∧RepD NM w (.sl 3 (l.map cq)) v) (fun _=>True):=by
 have h:=gW (enc:=enc) (base:=base) (spare:=spare) (held:=held) underlying85 pi (Rv (w:=w));intro fuel cs x hx;obtain⟨l,⟨v,rfl,hs⟩,hw⟩:=h fuel cs x hx;refine⟨l,⟨v,rfl,jA (sz:=3) (by omega) (fun a=>⟨rfl,fun d hd=>?_⟩) hs⟩,fun _=>trivial⟩;simp[cq]at hd;rcases hd with rfl|rfl|rfl<;>rfl
theorem Rw:yP enc prog w base spare held 88 (fun cs (v:Vpc)=>co NM w (aD v) cs) (fun v=>v.subs.length≤9223372036854775807∧∀s∈v.subs,s.faces.length≤9223372036854775807):=by
 intro fuel cs x hx;have hl:=jI underlying88 hx;rw[sr]at hl;obtain⟨a,ha⟩:=cw underlying88 hx 0 rfl (eV underlying3);obtain⟨r,hr,-⟩:=fj underlying88 hx 1 rfl Og;obtain⟨l,hs,hw⟩:=fj underlying88 hx 2 rfl Of;match cs,hl with
 |[c0,c1,c2],_=>
  simp[cH,uY,y7,xc]at ha hr hs;refine⟨⟨a,r,l⟩,?_,fun hh=>?_⟩
  ·rw[ha.1];exact fN (eY [a]) (fN (gX hr) (gX hs))
  ·have:=hw hh;unfold reachBytes at this;exact⟨by have:=this.1;show l.length≤9223372036854775807;omega,fun s hs=>by have:=this.2 s hs;omega⟩
end
theorem Rx {M:Nat→Prop}{w:World}:co M w [] []:=⟨rfl,fun j d x hj _=>by simp at hj⟩
theorem Ry {M:Nat→Prop}{w:World}{d:D}{v:Value}{ds:List D}{vs:List Value}(h:RepD M w d v)(g:co M w ds vs):co M w (d::ds) (v::vs):=⟨by simp[g.1],fun j e x hj hx=>by
 cases j with
 |zero=>simp at hj hx;subst hj;subst hx;exact h
 |succ j=>exact g.2 j e x (by simpa using hj) (by simpa using hx)⟩
theorem Rz {w:World}{cs:Array Value}{ds:List D}(h:co NM w ds cs.toList)(h1:ds.all D.one=true):RepD NM w (.agg ds) (.agg cs):=by
 have:=RepD.agg (M:=NM) (w:=w) ds cs.toList h.1 (fun d hd=>XB.1 h1 d hd) h.2;simpa using this
theorem TY {P:Program}{f:Nat}{args:List D}{vs:List Value}{W:World}(hp:ae P f args (.v (.bool true)))(dI:co NM W args vs)(hg:yo NM W:=by intro x hx;exact absurd hx (by simp[Pn])):Calls P f vs.toArray W fun e w'=>e= .returned (.bool true)∧cW W w':=by
 refine(hp.2 NM W vs (fun b h=>h.elim) hg dI).mono ?_;rintro e w' ⟨v,rfl,hv,hx⟩;cases hv;exact⟨rfl,hx⟩
section
variable {H:Type}{enc:TypeId × Value→H}{w:World}{base:Nat}{spare:Nat→Bool}{held:Bool}
end
end
section
variable {H:Type}{enc:TypeId × Value→H}{w:World}{base:Nat}{spare:Nat→Bool}{held:Bool}
theorem qo:prog.cellsOf 91=2:=by kernel_rfl
theorem xO:prog.cellsOf 32=1:=by kernel_rfl
theorem yZ:prog.cellsOf 31=1:=by kernel_rfl
theorem BJ:prog.cellsOf 34=2:=by kernel_rfl
theorem TZ:Rd enc prog w base spare held 91 fun cs (l:Lnk)=>co NM w (cT l) cs:=by
 intro fuel cs x hx;have hl:=jI underlying91 hx;rw[qo]at hl;obtain⟨a,ha⟩:=cw underlying91 hx 0 rfl (eV underlying3);obtain⟨b,hb⟩:=cw underlying91 hx 1 rfl (eV underlying3);match cs,hl with
 |[c0,c1],_=>
  simp[cH,xc]at ha hb;refine⟨⟨a,b⟩,?_⟩;rw[ha.1,hb.1];exact eY [a,b]
theorem Oh:yP enc prog w base spare held 32 (fun cs (l:List Lnk)=>∃v,cs=[v]∧RepD NM w (.sl 2 (l.map cT)) v) (fun _=>True):=by
 have h:=gW (enc:=enc) (base:=base) (spare:=spare) (held:=held) underlying32 qo (BD (TZ (w:=w)));intro fuel cs x hx;obtain⟨l,⟨v,rfl,hs⟩,hw⟩:=h fuel cs x hx;refine⟨l,⟨v,rfl,jA (sz:=2) (by omega) (fun a=>⟨rfl,fun d hd=>?_⟩) hs⟩,fun _=>trivial⟩;simp[cT]at hd;rcases hd with rfl|rfl<;>rfl
theorem Oi:yP enc prog w base spare held 31 (fun cs (l:List Vpc)=>∃v,cs=[v]∧RepD NM w (.sl 3 (l.map aD)) v) (fun l=>∀v∈l,v.subs.length≤9223372036854775807∧∀s∈v.subs,s.faces.length≤9223372036854775807):=by
 have h:=gW (enc:=enc) (base:=base) (spare:=spare) (held:=held) underlying31 sr (Rw (w:=w));intro fuel cs x hx;obtain⟨l,⟨v,rfl,hs⟩,hw⟩:=h fuel cs x hx;refine⟨l,⟨v,rfl,jA (sz:=3) (by omega) (fun a=>⟨rfl,fun d hd=>?_⟩) hs⟩,fun hh=>(hw hh).2⟩;simp[aD]at hd;rcases hd with rfl|rfl|rfl<;>rfl
theorem RA:yP enc prog w base spare held 34 (fun cs (n:Net)=>co NM w (eI n) cs) JV:=by
 intro fuel cs x hx;have hl:=jI underlying34 hx;rw[BJ]at hl;obtain⟨vs,hv,hw⟩:=fj underlying34 hx 0 rfl Oi;obtain⟨ls,hk,-⟩:=fj underlying34 hx 1 rfl Oh;match cs,hl with
 |[c0,c1],_=>
  simp[yZ,xO]at hv hk;exact⟨⟨vs,ls⟩,fN (gX hv) (gX hk),hw⟩
end
section
open Go.Proofs Go.ChangeShapes Go.WideShapes Go.Deep
section
variable {H:Type}{enc:TypeId × Value→H}{w:World}{base:Nat}{spare:Nat→Bool}{held:Bool}
theorem sw:prog.cellsOf 96=5:=by kernel_rfl
theorem sv:prog.cellsOf 83=9:=by kernel_rfl
theorem sq:prog.cellsOf 30=2:=by kernel_rfl
theorem ss:prog.cellsOf 25=4:=by kernel_rfl
theorem yU:prog.cellsOf 81=1:=by kernel_rfl
theorem yW:prog.cellsOf 28=1:=by kernel_rfl
theorem yV:prog.bytesOf 96=40:=by kernel_rfl
theorem T0:Rd enc prog w base spare held 96 fun cs (l:Lse)=>cs=[.int .i64 l.at_.at_,.int .i64 l.at_.len,.int .i64 l.kind,.int .i64 l.owner,.int .i64 l.till]:=by
 intro fuel cs x hx;have hl:=jI underlying96 hx;rw[sw]at hl;obtain⟨p,hp⟩:=cw underlying96 hx 0 rfl BE;obtain⟨k,hk⟩:=cw underlying96 hx 1 rfl (eV underlying3);obtain⟨o,ho⟩:=cw underlying96 hx 2 rfl (eV underlying3);obtain⟨t,ht⟩:=cw underlying96 hx 3 rfl (eV underlying3);match cs,hl with
 |[c0,c1,c2,c3,c4],_=>
  simp[iC,cH,xc,Pfx.R]at hp hk ho ht;exact⟨⟨p,k,o,t⟩,by simp[hp.1,hp.2,hk.1,ho.1,ht.1]⟩
theorem T2:Rd enc prog w base spare held 25 fun cs (r:Rul)=>cs=[.int .i64 r.min,.int .i64 r.max,.int .i64 r.usual,.int .i64 r.cool]:=by
 intro fuel cs x hx;have hl:=jI underlying25 hx;rw[ss]at hl;obtain⟨a,ha⟩:=cw underlying25 hx 0 rfl (eV underlying3);obtain⟨b,hb⟩:=cw underlying25 hx 1 rfl (eV underlying3);obtain⟨c,hc⟩:=cw underlying25 hx 2 rfl (eV underlying3);obtain⟨d,hd⟩:=cw underlying25 hx 3 rfl (eV underlying3);match cs,hl with
 |[c0,c1,c2,c3],_=>
  simp[cH,xc]at ha hb hc hd;exact⟨⟨a,b,c,d⟩,by simp[ha.1,hb.1,hc.1,hd.1]⟩
theorem RB:Rd enc prog w base spare held 96 fun cs (l:Lse)=>co NM w (aQ l) cs:=
 T0.map id fun cs l h=>by rw[h];exact eY [l.at_.at_,l.at_.len,l.kind,l.owner,l.till]
theorem Oj:yP enc prog w base spare held 81 (fun cs (l:List Lse)=>∃v,cs=[v]∧RepD NM w (.sl 5 (l.map aQ)) v) (fun l=>l.length*40≤reachBytes):=by
 have h:=gW (enc:=enc) (base:=base) (spare:=spare) (held:=held) underlying81 sw (BD (RB (w:=w)));intro fuel cs x hx;obtain⟨l,⟨v,rfl,hs⟩,hw⟩:=h fuel cs x hx;refine⟨l,⟨v,rfl,jA (sz:=5) (by omega) (fun a=>⟨rfl,fun d hd=>?_⟩) hs⟩,fun hh=>by have:=(hw hh).1;rwa [yV]at this⟩;simp[aQ]at hd;rcases hd with rfl|rfl|rfl|rfl|rfl<;>rfl
theorem RC:yP enc prog w base spare held 83 (fun cs (p:Pol)=>co NM w (am p) cs) (fun p=>p.leases.length*40≤reachBytes):=by
 intro fuel cs x hx;have hl:=jI underlying83 hx;rw[sv]at hl;obtain⟨a,ha⟩:=cw underlying83 hx 0 rfl (eV underlying3);obtain⟨b,hb⟩:=cw underlying83 hx 1 rfl (eV underlying3);obtain⟨p,hp⟩:=cw underlying83 hx 2 rfl BE;obtain⟨r,hr⟩:=cw underlying83 hx 3 rfl T2;obtain⟨l,hs,hw⟩:=fj underlying83 hx 4 rfl Oj;match cs,hl with
 |[c0,c1,c2,c3,c4,c5,c6,c7,c8],_=>
  simp[iC,cH,ss,yU,xc,Pfx.R]at ha hb hp hr hs;refine⟨⟨a,b,p,r,l⟩,?_,hw⟩;rw[ha.1,hb.1,hp.1,hp.2,hr.1,hr.2.1,hr.2.2.1,hr.2.2.2];exact fN (eY [a,b,p.at_,p.len,r.min,r.max,r.usual,r.cool]) (gX hs)
theorem Ok:yP enc prog w base spare held 28 (fun cs (l:List Pol)=>∃v,cs=[v]∧RepD NM w (.sl 9 (l.map am)) v) (fun l=>∀p∈l,p.leases.length*40≤reachBytes):=by
 have h:=gW (enc:=enc) (base:=base) (spare:=spare) (held:=held) underlying28 sv (RC (w:=w));intro fuel cs x hx;obtain⟨l,⟨v,rfl,hs⟩,hw⟩:=h fuel cs x hx;refine⟨l,⟨v,rfl,jA (sz:=9) (by omega) (fun a=>⟨rfl,fun d hd=>?_⟩) hs⟩,fun hh=>(hw hh).2⟩;simp[am]at hd;rcases hd with rfl|rfl|rfl|rfl|rfl|rfl|rfl|rfl|rfl<;>rfl
theorem RD:yP enc prog w base spare held 30 (fun cs (b:Bok)=>co NM w (bN b) cs) (fun b=>∀p∈b.pools,p.leases.length≤3518437208882):=by
 intro fuel cs x hx;have hl:=jI underlying30 hx;rw[sq]at hl;obtain⟨a,ha⟩:=cw underlying30 hx 0 rfl (eV underlying3);obtain⟨l,hs,hw⟩:=fj underlying30 hx 1 rfl Ok;match cs,hl with
 |[c0,c1],_=>
  simp[cH,yW,xc]at ha hs;refine⟨⟨a,l⟩,?_,fun hh p hp=>?_⟩
  ·rw[ha.1];exact fN (eY [a]) (gX hs)
  ·have:=hw hh p hp;unfold reachBytes at this;omega
theorem yX:prog.cellsOf 36=4:=by kernel_rfl
theorem yY:prog.cellsOf 34=2:=by kernel_rfl
theorem Ol:yP enc prog w base spare held 36 (fun cs (s:Ste)=>co NM w (dR s) cs) (fun s=>(∀p∈s.book.pools,p.leases.length≤3518437208882)∧JV s.net):=by
 intro fuel cs x hx;have hl:=jI underlying36 hx;rw[yX]at hl;obtain⟨b,hb,hw⟩:=fj underlying36 hx 0 rfl RD;obtain⟨n,hn,hv⟩:=fj underlying36 hx 1 rfl RA;match cs,hl with
 |[c0,c1,c2,c3],_=>
  simp[sq,yY]at hb hn;exact⟨⟨b,n⟩,fN hb hn,fun h=>⟨hw h,hv h⟩⟩
end
end
section
open Go.Proofs
def Om:List (String × DataW Unit):=[("math/bits.deBruijn32tab",Rows.laid_math_bits_deBruijn32tab),("math/bits.deBruijn64tab",Rows.laid_math_bits_deBruijn64tab),("internal/strconv.uint64pow10",Rows.laid_internal_strconv_uint64pow10)]
theorem On {P:Program}{w:World}{n:String}{g:Nat}{vs:Array Value}(hg:P.globalNamed n=some g)(h:w.var? P n=some vs):∃E sp,w.heap[g]? =some (.cells vs E sp):=by
 unfold World.var? at h;rw[hg]at h;simp only[YW]at h;split at h
 ·rename_i cs E sp hh;cases h;exact⟨E,sp,hh⟩
 ·cases h
theorem Si:prog.globalNamed "internal/strconv.uint64pow10"=some Lb:=by kernel_rfl
theorem VE:(prog.globals[Lb]?).map (·.type)=some 359:=by kernel_rfl
theorem Kc {W:World}(hH:laidMetH prog Om W):yo NM W:=by
 have h:laidMet prog Om W:=MakeChecks.laidMetH_plain prog Om W (by kernel_rfl) ▸ hH;have hP:=Lib.tabIs_of_head (k:= .u64) (zs:=Lib.pow10Tab) (rest:=[]) Si VE underlying359 underlying317 (by kernel_rfl) (by kernel_rfl) h.tail.tail;intro x hx;refine⟨fun e=>e.elim,?_⟩;unfold Pn at hx;simp only[XY,List.not_mem_nil,or_false]at hx;subst hx;obtain⟨E,sp,hh⟩:=On Si hP;exact⟨_,E,sp,hh,rfl⟩
end
section
open Go.Proofs Go.ChangeShapes Go.WideShapes Go.ChangeAt
theorem yQ:ownKnob prog.godebug=Option.none:=by kernel_rfl
theorem so:laidOutB prog=true:=by kernel_rfl
theorem yR (os:Os)(args:Array Value):laidMetH prog Rows.deskShowsRow.laid ((World.doorLaid prog 65 os).forCall (fun _ _=>0) ⟨#[],args,[]⟩).memory:=
 laidMetH_of_parts3 (fuel:=8) (laidMet_of_run' 8 (by kernel_rfl) (by kernel_rfl)) (by kernel_rfl) (by kernel_rfl)
theorem tQ (os:Os)(started:os.Started)(H:Type)(enc:TypeId × Value→H):
 ReturnsInHanded {} Tryz.checked os 5 .any (fun w args=>(Rows.deskShowsSpec.pre enc prog f5 Rows.deskShowsRow.domain false w args∧laidMetH prog Rows.deskShowsRow.laid w)∧sizedMet enc prog f5 (OpenSpec.ofChange Rows.deskShowsSpec) false w args)
  (Rows.deskShowsSpec.post enc prog f5 false true false false):=by
 refine returnsInHanded_of_change_and (C:=Tryz.checked) (X:=fun w _=>laidMetH prog Rows.deskShowsRow.laid w) (fun _ _ _ hh h=>h.of_heap hh) yQ started (by kernel_rfl) func5
  (ChangeSpec.witness_shaped (enc:=enc) (C:=Tryz.checked) (os:=os) (X:=fun w _=>laidMetH prog Rows.deskShowsRow.laid w) false (World.doorLaid prog 65 os) #[.agg #[.int .i64 0,.slice none 0 0,.slice none 0 0,.slice none 0 0]] 8 rfl (World.shaped_of_RefB (by kernel_rfl) (by kernel_rfl)) (by kernel_rfl) (by kernel_rfl) (by kernel_rfl) (yR os _)) ?_
 intro W base args ds gs before SJ hW hcnd cM hL _;have R6:∀(j:Nat) t v,f5.params[j]? =some t→args[j]? =some v→Value.okWide prog W .any base t v:=SJ;have hW':=hW;obtain⟨p,q,KL,hV,rfl,UA,lw⟩:=hW;have hA:DataW.TrodAll enc prog W 0 (fun _=>true) true f5.params.toList args.toList ds p:=KL;rw[params5]at hA R6 cM;obtain⟨v0,vs0,d0,ds0,p0,q0,Ax,rfl,rfl,h0,r0⟩:=trodAll_cons hA;obtain⟨rfl,rfl,rfl⟩:=trodAll_nil r0;obtain rfl:args=#[v0]:=by cases args;simp_all
 obtain⟨rfl,rfl⟩:=trodVars_none hV;obtain⟨cs0,a0,rfl,w0,s0⟩:=a0j underlying36 (R6 0 36 v0 rfl rfl) h0 Ol;replace s0:=s0 (fun n hn=>of_decide_eq_true (XB.1 cM _ (DataW.weights_mem_each (j:=0) (t:=36) rfl rfl n hn)));clear KL SJ;refine(TY (EJ a0 s0.1 s0.2) (vs:=[.agg cs0]) (Ry (Rz w0 rfl) Rx) (Kc hL)).mono fun e W' ⟨he,bel⟩=>?_;subst he;exact⟨_,rfl,_,_,_,[],_,[],hW',trodAll_mk1 (shut_bool underlying4 _),(trodAll_cons_mk (Below.trod so (by kernel_rfl) (of_decide_eq_true (by kernel_rfl)) h0 bel (M8 h0)) trodAll_mk0),rfl,bel.frame _,fun h=>by cases h⟩
set_option maxHeartbeats 0 in
theorem xL:Rows.deskShowsRow.holds Tryz.pinned (OpenSpec.ofChange Rows.deskShowsSpec):=
 OpenClaim.holds_of_wide 5 f5 rfl rfl rfl rfl rfl rfl rfl ⟨rfl,rfl,rfl,rfl,rfl⟩ rfl rfl rfl rfl rfl uW func5 tT xJ xK
  (fun os started H enc _=>tQ os started H enc)
theorem deskShows_holds:Rows.DeskShowsSaid:=xL
theorem uX (f:FuncId)(fn:Func)(hf:Tryz.pinned.checked.prog.funcNamed "parcelway/parcelwaylaw.DeskShows"=some f)(RU:Tryz.pinned.checked.prog.funcs[f]? =some fn):
 false=Tryz.pinned.checked.prog.looks []∧∀(j:Nat) t,fn.params[j]? =some t→Tryz.pinned.checked.prog.wantsStandIn t=false:=by
 obtain rfl:f=5:=XX.inj ((show prog.funcNamed "parcelway/parcelwaylaw.DeskShows"=some 5 by kernel_rfl).symm.trans hf)|>.symm;obtain rfl:fn=f5:=(XX.inj (func5.symm.trans RU)).symm;refine⟨by kernel_rfl,fun j t ht=>?_⟩;rw[params5]at ht;have hm:t∈[36]:=by simpa using ZR ht
 have bK:([36].all fun u=>!prog.wantsStandIn u)=true:=by kernel_rfl
 exact(show prog.wantsStandIn t=false by simpa using XB.1 bK t hm)
theorem xM:Rows.DeskShowsCardSaid:=
 Claim7.holds_tied_plain_at .later [] _ _ _ _ deskShows_holds (fun _ h=>by cases h) BF (fun _ h=>by cases h) deskShows_row_tie rfl ⟨rfl,rfl⟩ BG rfl uX BH
#print axioms xM
end
end Go.Proofs.YtojojebildofnaaGreatDoor
