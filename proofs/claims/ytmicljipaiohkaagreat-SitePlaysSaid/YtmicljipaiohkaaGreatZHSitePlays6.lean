/- SitePlays: its statement, for every input, out of its walk. (texts of this work, joined) -/
import Derived.Test.YtmicljipaiohkaaGreatZHSitePlays5
import Derived.SizedLaws
import Derived.Test.YtmicljipaiohkaaGreatRows
import Derived.WalkKit
import Derived.ProofKit
import Derived.OpenShut
import Derived.ShutString
import Derived.ChangeOld
import Derived.Below
set_option linter.unusedSimpArgs false
set_option linter.unusedVariables false
set_option maxRecDepth 100000
set_option maxHeartbeats 16000000
namespace Go.Proofs.YtmicljipaiohkaaGreat
open Go Go.RowKit Go.Proofs.Tryz
open Go.Lib renaming hid → Xj
open _root_.List renaming getElem?_eq_getElem → Xk, mem_of_getElem? → Xl, map_cons → Xm, getElem?_eq_some_iff → Xn, map_append → Xo, length_take → Xp, setIfInBounds_toArray → Xq, take_length → Xt, map_nil → Xu, set_cons_zero → Xv, set_cons_succ → Xx, getElem?_map → Xz, length_cons → XA, length_map → XC, all_eq_true → XE, pairwise_iff_getElem → XF, findIdx?_eq_some_iff_getElem → XH, length_drop → XI, getD_eq_getElem?_getD → XJ, getElem?_append_right → XK, take_of_length_le → XN, mem_map → XQ, getElem?_take_of_lt → XS, getElem?_eq_none → XT, any_eq_true → XU, replicate → XV, length_append → XY, length_nil → XZ, mem_iff_getElem → X0, mem_append → X2, append_assoc → X3, getElem?_append_left → X4, range → X5, mem_cons → X7, cons_append → X8, eq_nil_of_length_eq_zero → X9, nil_append → Ya, mem_singleton → Yc, mem_of_mem_drop → Yd, take → Yf, mem_of_mem_take → Yg, any_eq_false → Yh, ext_getElem? → Yj, getElem?_drop → Yk, take_append_of_le_length → Yl, getElem_mem → Ym, findIdx?_eq_none_iff → Yn, find?_eq_none → Yq, set_append_right → Yt, append_nil → Yv, getElem?_cons_succ → Yw, pairwise_cons → YC, mem_of_find?_eq_some → YF, size_toArray → YH, foldl_cons → YO, drop_eq_getElem_cons → YQ, mem_range → YR, pairwise_append → YT, length_set → YV, filter_append → YW, take_append_drop → YX, filter_eq_self → Y0, toList_toArray → Y1, all_eq_false → Y2, mem_or_eq_of_mem_set → Y4, drop_length → Y7, mem_map_of_mem → Y8, length_filter_le → Za, mem_cons_of_mem → Zc, mem_iff_getElem? → Ze, find?_some → Zh, filter_filter → Zi, getElem?_take → Zj, filter_eq_nil_iff → Zo, flatMap_append → Zs, mem_filter → Zt, filter_cons → Zu, getElem_take → ZA, map_take → ZH, contains_iff_mem → ZL, all_append → ZO, mem_append_left → ZP, getElem?_replicate → ZX, mem_flatMap → ZY, filter_congr → Z2, getElem?_set → Z3, take_zero → Z4, getElem?_set_ne → Z7, length_eraseIdx → Z8, length → I', nodup_append → N', take_sublist → O'
open Go.World renaming size_alloc → Xr, heap_drewN → Xs, size_drew → Xw, cell? → YS, cell?_of_block → Zl, setRow → ZE
open _root_.Bool renaming and_eq_true → Xy, eq_iff_iff → Yi, and_self → Yp, true_and → Yr, and_true → YA, false_eq_true → YB, eq_false_iff → YE, not_eq_true' → Zz, not_eq_true → ZI, and_eq_false_iff → ZK, false_or → ZT, not_true → Z0, and_assoc → P'
open _root_.Nat renaming le_refl → XB, zero_le → XD, zero_add → XG, reduceEqDiff → XL, reduceAdd → XM, lt_or_ge → XP, add_zero → XW, sub_zero → Yo, mul_le_mul_right → Ys, lt_of_lt_of_le → Yx, le_trans → Yy, sub_self → YG, not_lt_zero → YJ, lt_trichotomy → Zb, min_self → Zq, add_assoc → ZF, eq_zero_or_pos → ZJ, min → ZM, add_mul → ZQ, reduceLT → ZR, min_def → Z6, le_of_lt → p', lt_or_eq_of_le → G', lt_or_gt_of_ne → H', le_of_lt_succ → Q', one_le_two_pow → Z', not_lt → _g
open _root_.Option renaming map_eq_some_iff → XO, isSome_some → XR, some → XX, map_some → Ye, getD_some → YI, isSome_none → YZ, isSome_iff_exists → Zf, map_none → Zg, toList_some → _a
open _root_.Array renaming getElem?_toList → X6, getElem?_eq_none → YM, replicate → Y5
open _root_.Int renaming dvd_of_emod_eq_zero → YL, lt_irrefl → YN, emod_eq_zero_of_dvd → ZB, le_refl → ZG, fdiv_eq_ediv_of_nonneg → Z5, lt_or_le → z', dvd_trans → C', max_eq_right → _e, max_eq_left → _i
theorem LP (v:Vpc)(id:Int)(p:Pfx)(hl:v.subs.length≤9223372036854775807)(hf:∀s∈v.subs,s.faces.length≤9223372036854775807):af prog 171 [.agg (al v),.v (.int .i64 id),.agg (aN p)] (.tup [.agg (al (nD v id p).1),.v (.int .i64 (nD v id p).2)]):=by
 obtain⟨R,hR⟩:∃R,R=nD v id p:=⟨_,rfl⟩;rw[←hR];replace hR:=Xj hR;have bc:=gy v hl hf;clear hl hf;by_cases hc:bN v=0
 ·have hk:=aY hc;have IT:=hk.n4;have DN:=hk.n6;have gk:=wl v hk.n4 hk.n6 hk.n8;have hw:af prog 75 [.v (.int .i64 id),.v (.int .i64 1),.v (.int .i64 65536)] (.v (.bool (cF id))):=fZ _ _ _;have Mf:=yA v p (by omega);have aP:R=if k8 v id p≠0 then (Vpc.zero,k8 v id p)else ({v with subs:=df (·.id) ⟨id,p,[]⟩ v.subs},0):=by rw[hR.out];unfold nD;rw[if_neg (by simpa using hc)]
  unfold k8 at aP;replace aP:=Xj aP;rw[hc]at bc;clear hR hc hk;cases b1:cF id with
  |false=>
   have hr:R=(Vpc.zero,3):=by rw[aP.out];simp[b1]
   rw[b1]at hw;rw[hr];replace hr:=Xj hr;refine pj func171 ntmps171 results171 ?_;refine am ?_<;>intros;all_goals exact dg
  |true=>
  rw[b1]at hw;cases b2:fB v p with
  |false=>
   have hr:R=(Vpc.zero,3):=by rw[aP.out];simp[b2]
   rw[b2]at Mf;rw[hr];replace hr:=Xj hr;refine pj func171 ntmps171 results171 ?_;refine am ?_<;>intros;all_goals exact dg
  |true=>
  rw[b2]at Mf;have fI:R=if (v.subs.any fun s=>(s.id==id)||s.at_.meets p)=true then (Vpc.zero,6)else if v.subs.length=6 then (Vpc.zero,2)else ({v with subs:=df (·.id) ⟨id,p,[]⟩ v.subs},0):=by
   rw[aP.out,b1,b2];cases(v.subs.any fun s=>(s.id==id)||s.at_.meets p)
   ·by_cases h:v.subs.length=6<;>simp[h]
   ·simp
  replace fI:=Xj fI;clear aP;refine pj func171 ntmps171 results171 ?_;have z1z:=Ln.mk (ls:=[]) (gk);refine am ?_<;>intros;clear gk bc hw Mf;refine bL ae ak (fun m e h=>∃(k g:Nat) (out:List Sbn) (f:Bool),k≤v.subs.length∧ua (fun s:Sbn=>s.id) ⟨id,p,[]⟩ v.subs k out f∧(v.subs.take k).all (fun s=>!((s.id==id)||s.at_.meets p))=true∧m=v.subs.length - k∧
   e=[(12,.d (.v (.int .i64 k))),(11,.d (.v (.bool f))),(10,.own 7 v.subs.length),(9,.ptr 8 0),(7,.d (.v (.int .i64 0))),(6,.ptr 2 0),(5,.ptr 1 0),(3,.ptr 0 0),(1,.d (.v (.int .i64 id)))]∧h=[.box 55 ((al v).map .d),.box 32 ((aN p).map .d),.box 55 [.d (.v (.int .i64 0)),.d (.v (.slice none 0 0)),.d (.v (.slice none 0 0))],.gone,.gone,.row 58 3 1 (ab (v.ranges.map bv)),.gone,.row 71 4 v.subs.length (ab (v.subs.map aU)),.box 55 [.d (.v (.int .i64 v.id)),.own 5 1,.own 9 g],.row 71 4 g (ab (out.map aU))]) _ _ _ ⟨0,0,[],false,XD _,ET,rfl,rfl,rfl,rfl⟩ ?_ ?_
  ·refine(au (by simp) 8 55 [.d (.v (.int .i64 v.id)),.own 5 1,.d (.v (.slice none 0 0))] 2 71 4 rfl rfl rfl).trans ?_;exact wf
  ·rintro m e h ⟨k,g,out,f,hk,fq,bP,hm,rfl,rfl⟩ C hC;replace hm:=Xj hm;replace bP:=Xj bP;have nL:=fq.1;replace fq:=Xj fq;have xG:out.length≤7:=by omega
   have i7:(out.length+1)*48≤140737488355328:=by clear nL hk IT DN;omega
   have jd:(out.length+1+1)*48≤140737488355328:=by clear nL hk IT DN i7;omega
   by_cases hlt:k < v.subs.length
   ·have dH:(k:Int) < (v.subs.length:Int):=by omega
    have cM:=wi k (by omega);obtain⟨y,hy⟩:∃y,v.subs[k]? =some y:=⟨_,Xk hlt⟩;have Fg:=Xl hy;have nH:=pW y.at_ p;rw[eZ]at nH;cases b5:(y.id==id)with
    |true=>
     have hr:R=(Vpc.zero,6):=by rw[fI.out,if_pos (XU.2 ⟨y,Fg,by rw[b5];rfl⟩)]
     rw[hr];replace hr:=Xj hr;refine am ?_<;>intros;all_goals exact dg
    |false=>
    cases b3:y.at_.meets p with
    |true=>
     have hr:R=(Vpc.zero,6):=by rw[fI.out,if_pos (XU.2 ⟨y,Fg,by rw[b3];simp⟩)]
     rw[b3]at nH;rw[hr];replace hr:=Xj hr;refine am ?_<;>intros;all_goals exact dg
    |false=>
     rw[b3]at nH;have bB:y.id≠id:=by simpa using b5
     have lg:=d7 (p:=fun s:Sbn=>!((s.id==id)||s.at_.meets p)) hy bP.out (by rw[b3,b5];rfl);replace lg:=Xj lg;replace bB:=Xj bB;replace Fg:=Xj Fg;cases f with
     |true=>
      have DG:=Xj (EU fq.out hy);refine am ?_<;>intros;refine hC _ _ _ _ _ ?_ ⟨k+1,g+1,out++[y],true,hlt,DG.out,lg.out,rfl,rfl,rfl⟩ (wf (hh:=(by simp only[al,aU,Xo,Xm,Xu,←aI];rfl)));have:=hm.out;omega
     |false=>
      cases b4:decide (y.id>id)with
      |true=>
       have DG:=Xj (EV fq.out hy (of_decide_eq_true b4));refine am ?_<;>intros;refine hC _ _ _ _ _ ?_ ⟨k+1,g+1+1,out++[⟨id,p,[]⟩]++[y],true,hlt,DG.out,lg.out,rfl,rfl,rfl⟩ ((tu 9 rfl (by simp) (rows':=ab ((out++[(⟨id,p,[]⟩:Sbn)]++[y]).map aU)) (by(try rw[aI]);simp only[Xo,Xm,Xu,X3,X8,Ya];exact qO dg) (kH (fun _=>rfl) _)).trans (wf));have:=hm.out;omega
      |false=>
       have DG:=Xj (EW fq.out hy (by have:=bB.out;have:=of_decide_eq_false b4;show y.id < id;omega));refine am ?_<;>intros;refine hC _ _ _ _ _ ?_ ⟨k+1,g+1,out++[y],false,hlt,DG.out,lg.out,rfl,rfl,rfl⟩ (wf (hh:=(by simp only[al,aU,Xo,Xm,Xu,←aI];rfl)));have:=hm.out;omega
   ·obtain rfl:k=v.subs.length:=by omega
    have cf:(v.subs.any fun s=>(s.id==id)||s.at_.meets p)=false:=by
     have bP:=bP.out;rw[Xt]at bP;rw[Yh];intro x hx;have:=XE.1 bP x hx;simpa using this
    have jV:R=if v.subs.length=6 then (Vpc.zero,2)else ({v with subs:=df (·.id) ⟨id,p,[]⟩ v.subs},0):=by rw[fI.out,if_neg (by simp[cf])]
    clear fI cf hC;cases f with
    |true=>
     have he:=Am fq.out;have pF:out.length=v.subs.length+1:=by rw[he,fe]
     rw[←he]at jV;replace he:=Xj he;by_cases h4:v.subs.length=6
     ·rw[if_pos h4]at jV;have hd:decide ((out.length:Int)>6)=true:=by simp;omega
      rw[jV];replace jV:=Xj jV;replace pF:=Xj pF;replace h4:=Xj h4;refine am ?_<;>intros;all_goals exact dg
     ·rw[if_neg h4]at jV;have hd:decide ((out.length:Int)>6)=false:=by simp;omega
      rw[jV];replace jV:=Xj jV;replace pF:=Xj pF;exact aZ;all_goals exact dg
    |false=>
     have he:=An fq.out;have pF:out.length+1=v.subs.length+1:=by have h:=congrArg I' he;rw[fe]at h;simpa using h
     rw[←he]at jV;replace he:=Xj he;by_cases h4:v.subs.length=6
     ·rw[if_pos h4]at jV;have hd:decide (((out.length+1:Nat):Int)>6)=true:=by simp;omega
      rw[jV];replace jV:=Xj jV;replace pF:=Xj pF;replace h4:=Xj h4;refine am ?_<;>intros;all_goals exact dg
     ·rw[if_neg h4]at jV;have hd:decide (((out.length+1:Nat):Int)>6)=false:=by simp;omega
      rw[jV];replace jV:=Xj jV;replace pF:=Xj pF;refine am ?_<;>intros;all_goals
       simp only[al,Xo,Xm,Xu];exact ai.tup ⟨ai.agg ⟨ai.refl _,ai.refl _,ai.sl (Gl dg) (by intro r hr d hd;obtain⟨x,-,rfl⟩:=XQ.1 (by have h:r∈(out++[(⟨id,p,[]⟩:Sbn)]).map aU:=(by rw[Xo];exact hr);exact h);exact XE.1 (show (aU x).all D.one=true from rfl) d hd),trivial⟩ rfl,ai.refl _,trivial⟩
 ·have h1:(bN v !=0)=true:=by simpa using hc
  have hr:R=(Vpc.zero,bN v):=by rw[hR.out];unfold nD;rw[if_pos hc]
  rw[hr];replace hr:=Xj hr;clear hR;refine pj func171 ntmps171 results171 ?_;refine am ?_<;>intros;exact dg
theorem Iy (v:Vpc)(sub id:Int)(hl:v.subs.length≤9223372036854775807)(hf:∀s∈v.subs,s.faces.length≤9223372036854775807):af prog 174 [.agg (al v),.v (.int .i64 sub),.v (.int .i64 id)] (.tup [.agg (al (gh v sub id).1),.v (.int .i64 (gh v sub id).2.1),.v (.int .i64 (gh v sub id).2.2)]):=by
 obtain⟨R,hR⟩:∃R,R=gh v sub id:=⟨_,rfl⟩;rw[←hR];replace hR:=Xj hR;have bc:=gy v hl hf;clear hl hf;by_cases hc:bN v=0
 ·have hk:=aY hc;have IT:=hk.n4;have DN:=hk.n6;have cY:=uv v sub (by omega);unfold cv at cY
  have aP:=hR.out;unfold gh at aP;rw[if_neg (by simpa using hc)]at aP;rw[hc]at bc;clear hR hc;have ud:decide ((-1:Int) < 0)=true:=rfl;cases hf:v.subs.findIdx? (fun s=>s.id==sub)with
  |none=>
   rw[hf]at cY aP;simp only at cY aP;rw[aP];replace aP:=Xj aP;clear hk hf;refine pj func174 ntmps174 results174 ?_;refine am ?_<;>intros;all_goals exact dg
  |some i=>
   obtain⟨pre,s,post,hv,iG,-,hs⟩:=fH hf;have kq:=Xl hs;have iH:=hk.n8 s kq;obtain⟨s1,s2,s3,s4⟩:=o0 hk kq;have hle:=Db s iH.1 iH.2 s1;have jY:=wC s id (by omega);unfold cv at jY;have jU:decide ((i:Int) < 0)=false:=by simp
   have o9:v.subs.length=pre.length+1+post.length:=by rw[hv];simp;omega
   rw[hf]at cY aP;simp only[hs]at cY aP;clear hf;cases hg:s.faces.findIdx? (fun f=>f.id==id)with
   |none=>
    rw[hg]at jY aP;simp only at jY aP;rw[aP];replace aP:=Xj aP;clear hk hg hv iG o9 hle;refine pj func174 ntmps174 results174 ?_;refine am ?_<;>intros;all_goals exact dg
   |some k=>
    obtain⟨preF,f,postF,xQ,AM,-,sY⟩:=fH hg;have Du:=Xl sY;have gk:=QD v pre post s preF postF f hv xQ hk.n4 hk.n6 hk.n8;have gS:=iH.2 f Du;have Rt:s.faces.length=preF.length+1+postF.length:=by rw[xQ];simp;omega
    have hk0:decide ((k:Int) < 0)=false:=by simp
    rw[hg]at jY aP;simp only[sY]at jY aP;by_cases h4:f.addrs.length=4
    ·rw[if_pos h4]at aP;have hd:decide ((f.addrs.length:Int)≥4)=true:=by simp;omega
     rw[aP];replace aP:=Xj aP;replace h4:=Xj h4;clear hk hg hv iG o9 gk xQ AM Rt;refine pj func174 ntmps174 results174 ?_;refine am ?_<;>intros;all_goals exact dg
    ·rw[if_neg h4]at aP;have hd:decide ((f.addrs.length:Int)≥4)=false:=by simp;omega
     cases hl:eA s with
     |none=>
      rw[hl]at aP hle;simp only[Option.getD_none]at aP hle;rw[aP];replace aP:=Xj aP;clear hk hg hv iG o9 gk xQ AM Rt hl;refine pj func174 ntmps174 results174 ?_;refine am ?_<;>intros;all_goals exact dg
     |some a=>
      rw[hl]at aP hle;simp only[YI]at aP hle;have pF:=qc (show fG _ _ _ _=some a from hl);have VE:0≤a:=by
       have h1:=Ae pF.2;obtain⟨-,-,r3,-,-⟩:=s.at_.bd h1.1;omega
      have ha0:decide (a < 0)=false:=by simpa using VE
      have MQ:a∉f.addrs:=fun h=>pF.1 (ZY.2 ⟨f,Du,h⟩);have uh:f.addrs.Pairwise fun x y=>x < y:=by
       have:=s4 f Du;unfold kN at this;simp only[Xy,fX]at this;exact this.2.2.1
      have fI:R=({v with subs:=pre++{s with faces:=preF++{f with addrs:=df (fun x=>x) a f.addrs}::postF}::post},a,0):=by
       rw[aP];rw[hv,←iG,Yt _ _ (XB _),YG,Xv];rw[xQ,←AM,Yt _ _ (XB _),YG,Xv]
      have i7:(f.addrs.length+1)*8≤140737488355328:=by omega
      have Wz:IntKind.i64.wrap (((f.addrs.length+1:Nat):Int) - 1)=(f.addrs.length:Int):=by rw[IntKind.wrap_i64];omega
      replace fI:=Xj fI;replace MQ:=Xj MQ;replace uh:=Xj uh;replace hv:=Xj hv;replace xQ:=Xj xQ;clear aP pF hl hk hg s2 s3 s4;subst iG;subst AM;refine pj func174 ntmps174 results174 ?_;have z1z:=@ci.eq_1;have z2z:=@d6.eq_1;have z3z:=Ln.mk (ls:=[]) (gk);refine am ?_<;>intros;clear bc cY jY hle gk;refine bL ae ak (fun m e h=>∃(q:Nat) (out:List Int),Ao (fun x:Int=>x) a f.addrs q out∧out.length=f.addrs.length+1∧m=q∧e=[(15,.d (.v (.int .i64 q))),(14,.own 10 2),(13,.ptr 11 0),(12,.d (.v (.int .i64 a))),(11,.d (.v (.int .i64 preF.length))),(10,.d (.v (.int .i64 pre.length))),(6,.ptr 1 0)]∧h=[.box 55 ((al v).map .d),.box 55 [.d (.v (.int .i64 0)),.d (.v (.slice none 0 0)),.d (.v (.slice none 0 0))],.gone,.gone,.row 58 3 1 (ab (v.ranges.map bv)),.gone,.row 71 4 (pre.length+1+post.length) (eR aU pre (ci s (.own 8 (preF.length+1+postF.length))) post),.gone,.row 74 2 (preF.length+1+postF.length) (eR cl preF (d6 f (.own 10 1)) postF),.gone,.row 3 1 2 (ab (out.map cD)),.box 55 [.d (.v (.int .i64 v.id)),.own 4 1,.own 6 (pre.length+1+post.length)]]) _ _ _ ⟨f.addrs.length,f.addrs++[a],Lz,by simp,rfl,rfl,rfl⟩ (wf (hh:=(by rw[Xo];rfl)) (hb:=cI) (hbh:=cI)) ?_;rintro m e h ⟨q,out,tX,nL,hm,rfl,rfl⟩ C hC;have sS:=tX.1;have hx:=LB tX;replace tX:=Xj tX;replace hm:=Xj hm;by_cases h0:0 < q
      ·have Rz:decide ((q:Int)>0)=true:=by simp;omega
       obtain⟨y,hy⟩:∃y,f.addrs[q - 1]? =some y:=⟨_,Xk (by omega)⟩;have MP:=LC tX.out h0 hy;have AB:IntKind.i64.wrap ((q:Int) - 1)=((q - 1:Nat):Int):=by rw[IntKind.wrap_i64];omega
       have po:q < out.length:=by omega
       have WA:q - 1 < out.length:=by omega
       replace nL:=Xj nL;replace h0:=Xj h0;replace hy:=Xj hy;cases b5:decide (y>a)with
       |true=>
        have jd:=LD tX.out h0.out hy.out (of_decide_eq_true b5);replace jd:=Xj jd;have Mz:∀X:List PV,((ab (out.map cD)).set (q - 1) X)[q]? =some [.d (.v (.int .i64 a))]:=fun X=>by
         rw[Z7 (by have:=h0.out;omega),gG,Xz,hx];rfl
        have z1z:=@ci.eq_1;have z2z:=@d6.eq_1;refine am ?_<;>intros;refine hC _ _ _ _ _ ?_ ⟨q - 1,(out.set (q - 1) a).set q y,jd.out,by rw[YV,YV];exact nL.out,rfl,rfl,rfl⟩ (wf (hh:=(by simp only[List.map_set,ab];rfl)) (hb:=cI) (hbh:=cI));have:=hm.out;have:=h0.out;omega
       |false=>
        have he:=y7 tX.out uh.out (fun z _ hz=>by
         rw[hy.out]at hz;rw[←XX.inj hz];have h1:y≠a:=fun e=>MQ.out (e ▸ Xl hy.out);have h2:=of_decide_eq_false b5;show y < a;omega)
        rw[←he]at fI;have jV:=fI.out;rw[jV];replace jV:=Xj jV;replace he:=Xj he;have z1z:=@ci.eq_1;have z2z:=@d6.eq_1;refine am ?_<;>intros;all_goals(first|omega|(simp only[al,aU,cl,Xo,Xm];exact dg))
      ·have Rz:decide ((q:Int)>0)=false:=by simp;omega
       have he:=y7 tX.out uh.out (fun z h _=>absurd h h0);rw[←he]at fI;have jV:=fI.out;rw[jV];replace jV:=Xj jV;replace he:=Xj he;replace h0:=Xj h0;have po:q < out.length:=by omega
       replace nL:=Xj nL;have z1z:=@ci.eq_1;have z2z:=@d6.eq_1;refine am ?_<;>intros;all_goals(first|omega|(simp only[al,aU,cl,Xo,Xm];exact dg))
 ·have h1:(bN v !=0)=true:=by simpa using hc
  have hr:R=(Vpc.zero,0,bN v):=by rw[hR.out];unfold gh;rw[if_pos hc]
  rw[hr];replace hr:=Xj hr;clear hR;refine pj func174 ntmps174 results174 ?_;refine am ?_<;>intros;exact dg
def rz (b:Bok)(vs:List Vpc)(c:Cmd):Bok × Ans:=
 if c.op=1 then ((fO b c.a c.at_ c.rule).1,.er (fO b c.a c.at_ c.rule).2)
 else if c.op=2 then ((fP b c.a c.b c.c c.rule).1,⟨(fP b c.a c.b c.c c.rule).2.2,(fP b c.a c.b c.c c.rule).2.1,0⟩)
 else if c.op=3 then ((fh b c.a).1,.er (fh b c.a).2)
 else if c.op=4 then ((iU b c.a).1,.er (iU b c.a).2)
 else if c.op=5 then if gz vs c.c then (⟨0,[]⟩,.er 6)else ((cO b c.a c.b c.c).1,⟨(cO b c.a c.b c.c).2.2,(cO b c.a c.b c.c).2.1,0⟩)
 else if (vs.any fun v=>v.ranges.any fun x=>decide (x=⟨c.at_,c.a⟩))=true then (⟨0,[]⟩,.er 9)else ((fg b c.a c.at_).1,.er (fg b c.a c.at_).2)
theorem LQ (s:Ste)(c:Cmd)(hz:∀p∈s.book.pools,p.leases.length≤3518437208882)(h6:s.net.vpcs.length≤6)(h4:∀v∈s.net.vpcs,v.ranges.length≤1000000000):
 af prog 76 [.agg (eW s),.agg (kh c)] (.tup [.agg (aS (rz s.book s.net.vpcs c).1),.agg (ly (rz s.book s.net.vpcs c).2)]):=by
 have h6x:=h6;unfold rz;by_cases h1:c.op=1
 ·rw[if_pos h1];have hp:=Lh s.book c.a c.at_ c.rule hz;generalize fO s.book c.a c.at_ c.rule=R at*;replace hz:=Xj hz;replace h4:=Xj h4;refine pj func76 ntmps76 results76 ?_;first|exact aZ|(refine am ?_;exact dz)
 rw[if_neg h1];by_cases h2:c.op=2
 ·rw[if_pos h2];have hp:=Lk s.book c.a c.b c.c c.rule hz;generalize fP s.book c.a c.b c.c c.rule=R at*;clear h1;replace hz:=Xj hz;replace h4:=Xj h4;refine pj func76 ntmps76 results76 ?_;first|exact aZ|(refine am ?_;exact dz)
 rw[if_neg h2];by_cases h3:c.op=3
 ·rw[if_pos h3];have hp:=H8 s.book c.a hz;generalize fh s.book c.a=R at*;clear h1 h2;replace hz:=Xj hz;replace h4:=Xj h4;refine pj func76 ntmps76 results76 ?_;first|exact aZ|(refine am ?_;exact dz)
 rw[if_neg h3];by_cases h4':c.op=4
 ·rw[if_pos h4'];have hp:=Lo s.book c.a hz;generalize iU s.book c.a=R at*;clear h1 h2 h3;replace hz:=Xj hz;replace h4:=Xj h4;refine pj func76 ntmps76 results76 ?_;first|exact aZ|(refine am ?_;exact dz)
 rw[if_neg h4'];by_cases h5:c.op=5
 ·rw[if_pos h5];have Pa:=gJ s.net c.c (by omega);have hp:=Cz s.book c.a c.b c.c hz;have O6:=fK (fun v:Vpc=>v.id==c.c) s.net.vpcs;generalize cO s.book c.a c.b c.c=R at*;unfold gz;clear h1 h2 h3 h4';cases hb:s.net.vpcs.any fun v=>v.id==c.c
  ·rw[hb]at O6;replace hb:=Xj hb;replace hz:=Xj hz;replace h4:=Xj h4;refine pj func76 ntmps76 results76 ?_;first|exact aZ|(refine am ?_;exact dz)
  ·rw[hb]at O6;replace hb:=Xj hb;clear hp;replace hz:=Xj hz;replace h4:=Xj h4;refine pj func76 ntmps76 results76 ?_;first|exact aZ|(refine am ?_;exact dz)
 rw[if_neg h5];have e1:(c.op==1)=false:=by simpa using h1
 have e2:(c.op==2)=false:=by simpa using h2
 have e3:(c.op==3)=false:=by simpa using h3
 have e4:(c.op==4)=false:=by simpa using h4'
 have e5:(c.op==5)=false:=by simpa using h5
 have Mf:=Iw s.net ⟨c.at_,c.a⟩ (by omega) h4;have hp:=CA s.book c.a c.at_ hz;generalize fg s.book c.a c.at_=R at*;clear h1 h2 h3 h4' h5;cases hb:s.net.vpcs.any fun v=>v.ranges.any fun x=>decide (x=⟨c.at_,c.a⟩)
 ·rw[hb]at Mf;replace hb:=Xj hb;replace hz:=Xj hz;replace h4:=Xj h4;refine pj func76 ntmps76 results76 ?_;first|exact aZ|(refine am ?_;exact dz)
 ·rw[hb]at Mf;replace hb:=Xj hb;clear hp;replace hz:=Xj hz;replace h4:=Xj h4;refine pj func76 ntmps76 results76 ?_;first|exact aZ|(refine am ?_;exact dz)
def E6 (v:Vpc)(c:Cmd):Vpc × Ans:=
 if c.op=10 then ((nD v c.b c.at_).1,.er (nD v c.b c.at_).2)
 else if c.op=11 then ((fk v c.b).1,.er (fk v c.b).2)
 else if c.op=12 then ((gA v c.b c.c).1,⟨(gA v c.b c.c).2.2,⟨0,0⟩,(gA v c.b c.c).2.1⟩)
 else if c.op=13 then ((gh v c.b c.c).1,⟨(gh v c.b c.c).2.2,⟨0,0⟩,(gh v c.b c.c).2.1⟩)
 else ((dU v c.b c.c).1,.er (dU v c.b c.c).2)
theorem OB (v:Vpc)(c:Cmd)(h6:v.subs.length≤9223372036854775807)(h8:∀s∈v.subs,s.faces.length≤9223372036854775807):
 af prog 85 [.agg (al v),.agg (kh c)] (.tup [.agg (al (E6 v c).1),.agg (ly (E6 v c).2)]):=by
 unfold E6;by_cases h1:c.op=10
 ·rw[if_pos h1];have hp:=LP v c.b c.at_ h6 h8;generalize nD v c.b c.at_=R at*;replace h8:=Xj h8;refine pj func85 ntmps85 results85 ?_;first|exact aZ|(refine am ?_;exact dz)
 rw[if_neg h1];by_cases h2:c.op=11
 ·rw[if_pos h2];have hp:=E5 v c.b h6 h8;generalize fk v c.b=R at*;clear h1;replace h8:=Xj h8;refine pj func85 ntmps85 results85 ?_;first|exact aZ|(refine am ?_;exact dz)
 rw[if_neg h2];by_cases h3:c.op=12
 ·rw[if_pos h3];have hp:=Ix v c.b c.c h6 h8;generalize gA v c.b c.c=R at*;clear h1 h2;replace h8:=Xj h8;refine pj func85 ntmps85 results85 ?_;first|exact aZ|(refine am ?_;exact dz)
 rw[if_neg h3];by_cases h4:c.op=13
 ·rw[if_pos h4];have hp:=Iy v c.b c.c h6 h8;generalize gh v c.b c.c=R at*;clear h1 h2 h3;replace h8:=Xj h8;refine pj func85 ntmps85 results85 ?_;first|exact aZ|(refine am ?_;exact dz)
 rw[if_neg h4];have e1:(c.op==10)=false:=by simpa using h1
 have e2:(c.op==11)=false:=by simpa using h2
 have e3:(c.op==12)=false:=by simpa using h3
 have e4:(c.op==13)=false:=by simpa using h4
 have hp:=De v c.b c.c h6 h8;generalize dU v c.b c.c=R at*;clear h1 h2 h3 h4;replace h8:=Xj h8;refine pj func85 ntmps85 results85 ?_;first|exact aZ|(refine am ?_;exact dz)
theorem Iz {l:List Rng}{p:Pfx}(h:l.findIdx? (fun r=>decide (r.at_=p))=none):l.filter (fun r=>decide (r.at_=p))=[]:=by
 rw[Zo];intro x hx;have:=Yn.1 h x hx;simp[this]
theorem IA {l:List Rng}{p:Pfx}{i:Nat}{z:Rng}(hs:l.Pairwise fun a b=>a.at_.at_ < b.at_.at_)(h:l.findIdx? (fun r=>decide (r.at_=p))=some i)(hz:l[i]? =some z):l.filter (fun r=>decide (r.at_=p))=[z]∧l.filter (fun r=>!decide (r.at_=p))=l.eraseIdx i:=by
 obtain⟨pre,x,post,hl,iG,hp,hx⟩:=fH h;rw[hz]at hx;obtain rfl:=XX.inj hx;have Gw:z.at_=p:=of_decide_eq_true hp;subst hl;subst iG;rw[YT,YC]at hs;have h1:∀a∈pre,¬a.at_=p:=fun a ha e=>by
  have:=hs.2.2 a ha z (by simp);rw[e,Gw]at this;omega
 have h2:∀a∈post,¬a.at_=p:=fun a ha e=>by
  have:=hs.2.1.1 a ha;rw[e,Gw]at this;omega
 have e1:pre.filter (fun r=>decide (r.at_=p))=[]:=Zo.2 fun a ha=>by simp[h1 a ha]
 have e2:post.filter (fun r=>decide (r.at_=p))=[]:=Zo.2 fun a ha=>by simp[h2 a ha]
 have e3:pre.filter (fun r=>!decide (r.at_=p))=pre:=Y0.2 fun a ha=>by simp[h1 a ha]
 have e4:post.filter (fun r=>!decide (r.at_=p))=post:=Y0.2 fun a ha=>by simp[h2 a ha]
 constructor
 ·rw[YW,Zu,if_pos hp,e1,e2];rfl
 ·rw[YW,Zu,if_neg (by simp[hp]),e3,e4,List.eraseIdx_append_of_length_le (XB _)];simp
theorem IB (v:Vpc)(p:Pfx)(hl:v.subs.length≤9223372036854775807)(hf:∀s∈v.subs,s.faces.length≤9223372036854775807):af prog 83 [.agg (al v),.agg (aN p)] (.tup [.agg (al (dM v p).1),.agg (bv (dM v p).2.1),.v (.int .i64 (dM v p).2.2)]):=by
 obtain⟨R,hR⟩:∃R,R=dM v p:=⟨_,rfl⟩;rw[←hR];replace hR:=Xj hR;have bc:=gy v hl hf;clear hl hf;by_cases hc:bN v=0
 ·have hk:=aY hc;have IT:=hk.n4;have DN:=hk.n6;have gk:=wl v hk.n4 hk.n6 hk.n8;have aP:=hR.out;unfold dM at aP;rw[if_neg (by simpa using hc)]at aP;replace aP:=Xj aP;rw[hc]at bc;have ny:=Xj hk.rr;have Vr:=Xj hk.ranges;clear hR hc hk;refine pj func83 ntmps83 results83 ?_;have z1z:=Ln.mk (ls:=[]) (gk);refine am ?_<;>intros;clear gk bc;refine bL ae ak (fun m e h=>∃(k g:Nat) (out:List Rng) (x:Rng),k≤v.ranges.length∧out.length≤k∧out=(v.ranges.take k).filter (fun r=>!decide (r.at_=p))∧x=((v.ranges.take k).filter (fun r=>decide (r.at_=p))).getLastD Rng.zero∧m=v.ranges.length - k∧
   e=[(10,.d (.v (.int .i64 k))),(9,.ptr 10 0),(8,.ptr 9 0),(6,.d (.v (.int .i64 0))),(5,.ptr 3 0),(4,.ptr 2 0),(3,.ptr 1 0),(2,.ptr 0 0)]∧h=[.box 55 ((al v).map .d),.box 32 ((aN p).map .d),.box 55 [.d (.v (.int .i64 0)),.d (.v (.slice none 0 0)),.d (.v (.slice none 0 0))],.box 58 ((bv Rng.zero).map .d),.gone,.gone,.row 58 3 1 (ab (v.ranges.map bv)),.gone,.row 71 4 v.subs.length (ab (v.subs.map aU)),.box 55 [.d (.v (.int .i64 v.id)),.own 11 g,.own 8 v.subs.length],.box 58 ((bv x).map .d),.row 58 3 g (ab (out.map bv))]) _ _ _ ⟨0,0,[],Rng.zero,XD _,XD _,rfl,rfl,rfl,rfl,rfl⟩ ?_ ?_
  ·refine(au (by simp) 9 55 [.d (.v (.int .i64 v.id)),.d (.v (.slice none 0 0)),.own 8 v.subs.length] 1 58 3 rfl rfl rfl).trans ?_;exact wf
  ·rintro m e h ⟨k,g,out,x,hk,nL,wW,hx,hm,rfl,rfl⟩ C hC;replace hm:=Xj hm;replace wW:=Xj wW;replace hx:=Xj hx;have xG:out.length≤4:=by omega
   have i7:(out.length+1)*24≤140737488355328:=by clear nL hk IT;omega
   by_cases hlt:k < v.ranges.length
   ·have dH:(k:Int) < (v.ranges.length:Int):=by omega
    have cM:=wi k (by omega);obtain⟨y,hy⟩:∃y,v.ranges[k]? =some y:=⟨_,Xk hlt⟩;have he:=vX y.at_ p;have f1:=sM (f:=fun r:Rng=>!decide (r.at_=p)) hy;have f2:=sM (f:=fun r:Rng=>decide (r.at_=p)) hy;cases b3:decide (y.at_=p)with
    |true=>
     rw[b3]at he;simp only[b3,Z0,YB,if_false,if_true]at f1 f2;replace f1:=Xj f1;replace f2:=Xj f2;replace b3:=Xj b3;refine am ?_<;>intros;refine hC _ _ _ _ _ ?_ ⟨k+1,g,out,y,hlt,by omega,by rw[wW.out,f1.out],by rw[f2.out];simp,rfl,rfl,rfl⟩ (wf (hh:=(by simp only[al,bv,Xo,Xm,Xu,←aI];rfl)));have:=hm.out;omega
    |false=>
     rw[b3]at he;simp only[b3,Bool.not_false,YB,if_false,if_true]at f1 f2;replace f1:=Xj f1;replace f2:=Xj f2;replace b3:=Xj b3;refine am ?_<;>intros;refine hC _ _ _ _ _ ?_ ⟨k+1,g+1,out++[y],x,hlt,by simp;omega,by rw[wW.out,f1.out],by rw[f2.out,hx.out],rfl,rfl,rfl⟩ (wf (hh:=(by simp only[al,bv,Xo,Xm,Xu,←aI];rfl)));have:=hm.out;omega
   ·obtain rfl:k=v.ranges.length:=by omega
    have wW:=wW.out;have hx:=hx.out;rw[Xt]at wW hx;clear hC;have fI:=aP.out;cases hf:v.ranges.findIdx? (fun r=>decide (r.at_=p))with
    |none=>
     rw[hf]at fI;simp only at fI;rw[Iz hf]at hx;have Wy:x.pool=0:=by rw[hx];rfl
     rw[fI];replace fI:=Xj fI;replace hx:=Xj hx;replace wW:=Xj wW;clear hf;refine am ?_<;>intros;all_goals exact dg
    |some i=>
     obtain⟨z,hz⟩:∃z,v.ranges[i]? =some z:=⟨_,Xk (XH.1 hf).1⟩;obtain⟨e1,e2⟩:=IA ny.out hf hz;rw[hf]at fI;simp only[XJ,hz,YI,←e2,←wW]at fI;rw[e1]at hx;obtain rfl:x=z:=hx;have Wy:(x.pool==0)=false:=by
      have:=Vr.out x (Xl hz);unfold ey cF at this;simp only[Xy,decide_eq_true_eq]at this;simp;omega
     replace fI:=Xj fI;clear wW e1 e2 hz hf;refine am ?_<;>intros;refine bg ae ak v.subs (fun j=>(v.subs.take j).all (fun s=>!(dL s.at_ p))=true) (fun j=>[(11,.d (.v (.int .i64 j))),(9,.ptr 10 0),(8,.ptr 9 0),(6,.d (.v (.int .i64 0))),(5,.ptr 3 0),(4,.ptr 2 0),(3,.ptr 1 0),(2,.ptr 0 0)]) (fun _=>[.box 55 ((al v).map .d),.box 32 ((aN p).map .d),.box 55 [.d (.v (.int .i64 0)),.d (.v (.slice none 0 0)),.d (.v (.slice none 0 0))],.box 58 ((bv Rng.zero).map .d),.gone,.gone,.row 58 3 1 (ab (v.ranges.map bv)),.gone,.row 71 4 v.subs.length (ab (v.subs.map aU)),.box 55 [.d (.v (.int .i64 v.id)),.own 11 g,.own 8 v.subs.length],.box 58 ((bv x).map .d),.row 58 3 g (ab (out.map bv))]) rfl (wf) ?_ ?_
     ·intro j s hs hj hJ C2 jz;have ic:(j:Int) < (v.subs.length:Int):=by omega
      have j6:=wi j (by omega);have Dx:=vr s.at_ p;rw[um]at Dx;cases b4:dL s.at_ p with
      |true=>
       have hr:R=(Vpc.zero,Rng.zero,9):=by rw[fI.out,if_pos (XU.2 ⟨s,Xl hs,b4⟩)]
       rw[hr];replace hr:=Xj hr;rw[b4]at Dx;replace hJ:=Xj hJ;refine am ?_<;>intros;all_goals exact dg
      |false=>
       have AO:=Xj (d7 (p:=fun s:Sbn=>!(dL s.at_ p)) hs hJ (by rw[b4];rfl));rw[b4]at Dx;replace hJ:=Xj hJ;refine am ?_<;>intros;exact jz _ _ AO.out (wf)
     ·intro hJ C2;have cf:(v.subs.any fun s=>dL s.at_ p)=false:=by
       rw[Xt]at hJ;rw[Yh];intro x hx;have:=XE.1 hJ x hx;simpa using this
      have hr:R=({v with ranges:=out},x,0):=by rw[fI.out,if_neg (by simp[cf])]
      rw[hr];replace hr:=Xj hr;replace hJ:=Xj hJ;replace cf:=Xj cf;exact aZ;all_goals exact dg
 ·have h1:(bN v !=0)=true:=by simpa using hc
  have hr:R=(Vpc.zero,Rng.zero,bN v):=by rw[hR.out];unfold dM;rw[if_pos hc]
  rw[hr];replace hr:=Xj hr;clear hR;refine pj func83 ntmps83 results83 ?_;refine am ?_<;>intros;exact dg
def IC (s:Ste)(c:Cmd):Ste × Ans:=
 if 1≤c.op∧c.op≤6 then (⟨(rz s.book s.net.vpcs c).1,s.net⟩,(rz s.book s.net.vpcs c).2)
 else if c.op=7 then if wB s.book c.a=true then (s,.er 6)else (⟨s.book,(iD s.net c.a).1⟩,.er (iD s.net c.a).2)
 else if c.op=15 then (⟨s.book,(jb s.net c.a c.b).1⟩,.er (jb s.net c.a c.b).2)
 else if c.op=16 then (⟨s.book,(iC s.net c.a c.b).1⟩,.er (iC s.net c.a c.b).2)
 else if ¬(8≤c.op∧c.op≤14)then (s,.er 4)
 else if cv (fun v=>v.id==c.a) s.net.vpcs < 0 then (s,.er 5)
 else match s.net.vpcs[(cv (fun v=>v.id==c.a) s.net.vpcs).toNat]? with
  |none=>(s,.er 5)
  |some v=>
   if c.op=8 then
    if (cO s.book c.b c.c c.a).2.2=0 then (⟨(cO s.book c.b c.c c.a).1,(gP s.net c.a ⟨(cO s.book c.b c.c c.a).2.1,c.b⟩).1⟩,⟨(gP s.net c.a ⟨(cO s.book c.b c.c c.a).2.1,c.b⟩).2,(cO s.book c.b c.c c.a).2.1,0⟩)
    else (⟨(cO s.book c.b c.c c.a).1,s.net⟩,⟨(cO s.book c.b c.c c.a).2.2,(cO s.book c.b c.c c.a).2.1,0⟩)
   else if c.op=9 then
    if (dM v c.at_).2.2=0 then (⟨(fg s.book (dM v c.at_).2.1.pool (dM v c.at_).2.1.at_).1,{s.net with vpcs:=s.net.vpcs.set (cv (fun v=>v.id==c.a) s.net.vpcs).toNat (dM v c.at_).1}⟩,.er (fg s.book (dM v c.at_).2.1.pool (dM v c.at_).2.1.at_).2)
    else (⟨s.book,{s.net with vpcs:=s.net.vpcs.set (cv (fun v=>v.id==c.a) s.net.vpcs).toNat (dM v c.at_).1}⟩,.er (dM v c.at_).2.2)
   else (⟨s.book,{s.net with vpcs:=s.net.vpcs.set (cv (fun v=>v.id==c.a) s.net.vpcs).toNat (E6 v c).1}⟩,(E6 v c).2)
theorem QE (s:Ste)(c:Cmd)(hb:BookOK s.book)(hn:NetOK s.net)(pq:xE s.net):
 af prog 30 [.agg (eW s),.agg (kh c)] (.tup [.agg (eW (IC s c).1),.agg (ly (IC s c).2)]):=by
 have n8:=hb.n8;have fu:=hb.l32;have n6:=hn.n6;have hz:∀p∈s.book.pools,p.leases.length≤3518437208882:=fun p hp=>by have:=fu p hp;omega
 have pp:∀v∈s.net.vpcs,VpcOK v:=fun v hv=>aY (hn.vp v hv);have gk:=Ln.mk (ls:=[]) (iE s.book (by omega) fu);have OP:=Ln.mk (ls:=[]) (mF s.net n6 hn.n12 hn.vp);have Pa:=gJ s.net c.a (by omega);have cj:=fZ c.op 1 6;have cA:=fZ c.op 8 14;clear hb hn;unfold IC;by_cases ho:1≤c.op∧c.op≤6
 ·rw[if_pos ho];have hp:=LQ s c hz n6 (fun v hv=>by have:=(pp v hv).n4;omega);have e1:(decide (1≤c.op)&&decide (c.op≤6))=true:=by simp[ho.1,ho.2]
  rw[e1]at cj;generalize rz s.book s.net.vpcs c=R at*;clear cA;replace ho:=Xj ho;replace hz:=Xj hz;replace fu:=Xj fu;replace pp:=Xj pp;refine pj func30 ntmps30 results30 ?_;first|exact aZ|(refine am ?_;exact dz)
 rw[if_neg ho];have e1:(decide (1≤c.op)&&decide (c.op≤6))=false:=by rw[ZK];simp only[decide_eq_false_iff_not];omega
 rw[e1]at cj;replace ho:=Xj ho;by_cases h7:c.op=7
 ·rw[if_pos h7];have e7:(c.op==7)=true:=by simpa using h7
  replace h7:=Xj h7;have hp:=OA s.book c.a (by omega) (fun p hp=>by have:=fu p hp;omega);have hm:=Ij s.net c.a pq;generalize iD s.net c.a=R at*;clear cA;replace hz:=Xj hz;replace fu:=Xj fu;replace pp:=Xj pp;replace pq:=Xj pq;by_cases hw:wB s.book c.a=true
  ·rw[if_pos hw];rw[hw]at hp;refine pj func30 ntmps30 results30 ?_;first|exact aZ|(refine am ?_;exact dz)
  ·rw[if_neg hw];rw[ZI]at hw;rw[hw]at hp;refine pj func30 ntmps30 results30 ?_;first|exact aZ|(refine am ?_;exact dz)
 rw[if_neg h7];have e7:(c.op==7)=false:=by simpa using h7
 by_cases Fq:c.op=15
 ·rw[if_pos Fq];have e15:(c.op==15)=true:=by simpa using Fq
  replace Fq:=Xj Fq;have hm:=In s.net c.a c.b pq;generalize jb s.net c.a c.b=R at*;clear cA;replace hz:=Xj hz;replace fu:=Xj fu;replace pp:=Xj pp;replace pq:=Xj pq;refine pj func30 ntmps30 results30 ?_;first|exact aZ|(refine am ?_;exact dz)
 rw[if_neg Fq];have e15:(c.op==15)=false:=by simpa using Fq
 by_cases zi:c.op=16
 ·rw[if_pos zi];have e16:(c.op==16)=true:=by simpa using zi
  replace zi:=Xj zi;have hm:=Im s.net c.a c.b pq;generalize iC s.net c.a c.b=R at*;clear cA;replace hz:=Xj hz;replace fu:=Xj fu;replace pp:=Xj pp;replace pq:=Xj pq;refine pj func30 ntmps30 results30 ?_;first|exact aZ|(refine am ?_;exact dz)
 rw[if_neg zi];have e16:(c.op==16)=false:=by simpa using zi
 replace h7:=Xj h7;replace Fq:=Xj Fq;replace zi:=Xj zi;by_cases h8:8≤c.op∧c.op≤14
 ·rw[if_neg (by simpa using h8)];have e8:(decide (8≤c.op)&&decide (c.op≤14))=true:=by simp[h8.1,h8.2]
  rw[e8]at cA;replace h8:=Xj h8;rcases sJ (fun v:Vpc=>v.id==c.a) s.net.vpcs with hi|⟨k,v,hk,hv⟩
  ·rw[if_pos hi];have e9:decide (cv (fun v:Vpc=>v.id==c.a) s.net.vpcs < 0)=true:=by simpa using hi
   generalize cv (fun v:Vpc=>v.id==c.a) s.net.vpcs=i at*;replace hz:=Xj hz;replace fu:=Xj fu;replace pp:=Xj pp;replace pq:=Xj pq;replace hi:=Xj hi;refine pj func30 ntmps30 results30 ?_;first|exact aZ|(refine am ?_;exact dz)
  ·rw[hk]at Pa ⊢;rw[if_neg (by omega),Int.toNat_natCast,hv];dsimp only;have hlt:=(Xn.1 hv).1;have dH:(k:Int) < (s.net.vpcs.length:Int):=by omega
   have e9:decide ((k:Int) < 0)=false:=by simp
   have rL:=Xl hv;have bF:=pp v rL;have WD:v.subs.length≤9223372036854775807:=by have:=bF.n6;omega
   have WE:∀s∈v.subs,s.faces.length≤9223372036854775807:=fun s hs=>by have:=(bF.n8 s hs).1;omega
   have bY:=fun(x:Vpc)=>bO al s.net.vpcs k x;replace hk:=Xj hk;replace rL:=Xj rL;replace bF:=Xj bF;clear pp;by_cases h8:c.op=8
   ·rw[if_pos h8];have e8:(c.op==8)=true:=by simpa using h8
    replace h8:=Xj h8;have hp:=Cz s.book c.b c.c c.a hz;generalize cO s.book c.b c.c c.a=R at*;by_cases h0:R.2.2=0
    ·rw[if_pos h0];have hg:=Ik s.net c.a ⟨R.2.1,c.b⟩ pq;generalize gP s.net c.a ⟨R.2.1,c.b⟩=G at*;replace hz:=Xj hz;replace fu:=Xj fu;replace pq:=Xj pq;refine pj func30 ntmps30 results30 ?_;first|exact aZ|(refine am ?_;exact dz)
    ·rw[if_neg h0];have e0:(R.2.2==0)=false:=by simpa using h0
     replace hz:=Xj hz;replace fu:=Xj fu;replace pq:=Xj pq;replace h0:=Xj h0;refine pj func30 ntmps30 results30 ?_;first|exact aZ|(refine am ?_;exact dz)
   rw[if_neg h8];have e8:(c.op==8)=false:=by simpa using h8
   by_cases h9:c.op=9
   ·rw[if_pos h9];have e9:(c.op==9)=true:=by simpa using h9
    replace h9:=Xj h9;have hp:=IB v c.at_ WD WE;generalize dM v c.at_=R at*;have bY:(ab (s.net.vpcs.map al)).set k [.d (.v (.int .i64 R.1.id)),.d (.sl 3 (R.1.ranges.map bv)),.d (.sl 4 (R.1.subs.map aU))]=ab ((s.net.vpcs.set k R.1).map al):=bY R.1;by_cases h0:R.2.2=0
    ·rw[if_pos h0];have hg:=CA s.book R.2.1.pool R.2.1.at_ hz;generalize fg s.book R.2.1.pool R.2.1.at_=G at*;replace hz:=Xj hz;replace fu:=Xj fu;replace pq:=Xj pq;refine pj func30 ntmps30 results30 ?_;first|exact aZ|(refine am ?_;exact dz)
    ·rw[if_neg h0];have e0:(R.2.2==0)=false:=by simpa using h0
     replace h0:=Xj h0;replace hz:=Xj hz;replace fu:=Xj fu;replace pq:=Xj pq;refine pj func30 ntmps30 results30 ?_;first|exact aZ|(refine am ?_;exact dz)
   rw[if_neg h9];have e9:(c.op==9)=false:=by simpa using h9
   replace h9:=Xj h9;have hp:=OB v c WD WE;generalize E6 v c=R at*;have bY:(ab (s.net.vpcs.map al)).set k [.d (.v (.int .i64 R.1.id)),.d (.sl 3 (R.1.ranges.map bv)),.d (.sl 4 (R.1.subs.map aU))]=ab ((s.net.vpcs.set k R.1).map al):=bY R.1;replace hz:=Xj hz;replace fu:=Xj fu;replace pq:=Xj pq;refine pj func30 ntmps30 results30 ?_;first|exact aZ|(refine am ?_;exact dz)
 ·rw[if_pos h8];have e8:(decide (8≤c.op)&&decide (c.op≤14))=false:=by rw[ZK];simp only[decide_eq_false_iff_not];omega
  rw[e8]at cA;replace h8:=Xj h8;replace hz:=Xj hz;replace fu:=Xj fu;replace pp:=Xj pp;replace pq:=Xj pq;refine pj func30 ntmps30 results30 ?_;first|exact aZ|(refine am ?_;exact dz)
theorem OC {b:Bok}(h:BookOK b)(id:Int):tF (t9 b) id=wB b id:=by
 rw[As h,Yi];unfold tF wB;simp only[XU,Xy,beq_iff_eq];constructor
 ·rintro⟨⟨k,o⟩,hm,ho⟩;obtain⟨p,hp,l,hl,h1,-,h2⟩:=qg.1 hm;exact⟨p,hp,l,hl,h1,by rw[←h2];exact ho⟩
 ·rintro⟨p,hp,l,hl,h1,h2⟩;exact⟨([l.at_.at_,l.at_.len,p.id],l.owner),qg.2 ⟨p,hp,l,hl,h1,rfl,rfl⟩,h2⟩
theorem LR (vs:List Vpc)(r:Rng):Gb vs r=vs.any fun v=>v.ranges.any fun x=>decide (x=r):=by
 unfold Gb;have:(fun x:Rng=>decide (r=x))=fun x=>decide (x=r):=by funext x;exact decide_eq_decide.2 ⟨fun h=>h.symm,fun h=>h.symm⟩
 rw[this]
structure SameAct (a b:Ste × Ans):Prop where
 err:a.2.err=b.2.err
 eq:a.2.err=0→a=b
theorem SameAct.refl (a:Ste × Ans):SameAct a a:=⟨rfl,fun _=>rfl⟩
theorem ID (b:Bok)(vs:List Vpc)(lk:List Lnk)(c:Cmd)(h:1≤c.op∧c.op≤6):SameAct (⟨(rz b vs c).1,⟨vs,lk⟩⟩,(rz b vs c).2) (⟨(mC b vs c).1,⟨vs,lk⟩⟩,(mC b vs c).2):=by
 unfold rz mC;by_cases h1:c.op=1
 ·rw[if_pos h1,if_pos h1];exact .refl _
 rw[if_neg h1,if_neg h1];by_cases h2:c.op=2
 ·rw[if_pos h2,if_pos h2];exact .refl _
 rw[if_neg h2,if_neg h2];by_cases h3:c.op=3
 ·rw[if_pos h3,if_pos h3];exact .refl _
 rw[if_neg h3,if_neg h3];by_cases h4:c.op=4
 ·rw[if_pos h4,if_pos h4];exact .refl _
 rw[if_neg h4,if_neg h4];by_cases h5:c.op=5
 ·rw[if_pos h5,if_pos h5];cases gz vs c.c
  ·exact .refl _
  ·exact⟨rfl,fun e=>absurd e (by simp[Ans.er])⟩
 rw[if_neg h5,if_neg h5,if_pos (show c.op=6 by omega),LR];cases vs.any fun v=>v.ranges.any fun x=>decide (x=(⟨c.at_,c.a⟩:Rng))
 ·exact .refl _
 ·exact⟨rfl,fun e=>absurd e (by simp[Ans.er])⟩
theorem LU (s:Ste)(c:Cmd)(hb:BookOK s.book):SameAct (IC s c) (Af s c):=by
 unfold IC Af;by_cases h1:1≤c.op∧c.op≤6
 ·rw[if_pos h1,if_pos h1];exact ID s.book s.net.vpcs s.net.links c h1
 rw[if_neg h1,if_neg h1];unfold yP xB;by_cases h7:c.op=7
 ·rw[if_pos h7,if_pos (show decide (c.op=7∨c.op=15∨c.op=16)=true by simp[h7]),if_pos h7,OC hb];by_cases hw:wB s.book c.a=true
  ·rw[if_pos hw,if_pos hw];exact⟨rfl,fun e=>absurd e (by simp[Ans.er])⟩
  ·rw[if_neg hw,if_neg hw];exact .refl _
 rw[if_neg h7];by_cases Fq:c.op=15
 ·rw[if_pos Fq,if_pos (show decide (c.op=7∨c.op=15∨c.op=16)=true by simp[Fq]),if_neg h7,if_pos Fq];exact .refl _
 rw[if_neg Fq];by_cases zi:c.op=16
 ·rw[if_pos zi,if_pos (show decide (c.op=7∨c.op=15∨c.op=16)=true by simp[zi]),if_neg h7,if_neg Fq];exact .refl _
 rw[if_neg zi,if_neg (show ¬decide (c.op=7∨c.op=15∨c.op=16)=true by simp[h7,Fq,zi])];by_cases h8:8≤c.op∧c.op≤14
 ·rw[if_neg (by simpa using h8),if_pos h8];unfold jr;rcases sJ (fun v:Vpc=>v.id==c.a) s.net.vpcs with hi|⟨k,v,hk,hv⟩
  ·rw[if_pos hi,if_pos hi];exact .refl _
  ·have hk0:¬(k:Int) < 0:=by omega
   rw[hk,if_neg hk0,if_neg hk0,Int.toNat_natCast,hv];dsimp only;unfold lO;by_cases h9:c.op=8
   ·rw[if_pos h9,if_pos h9];by_cases h0:(cO s.book c.b c.c c.a).2.2=0
    ·rw[if_pos h0,if_pos h0];exact .refl _
    ·rw[if_neg h0,if_neg h0];exact .refl _
   rw[if_neg h9,if_neg h9];by_cases h9:c.op=9
   ·rw[if_pos h9,if_pos h9];by_cases h0:(dM v c.at_).2.2=0
    ·rw[if_pos h0,if_pos h0];exact .refl _
    ·rw[if_neg h0,if_neg h0];exact .refl _
   rw[if_neg h9,if_neg h9];unfold E6;by_cases h2:c.op=10
   ·rw[if_pos h2,if_pos h2];exact .refl _
   rw[if_neg h2,if_neg h2];by_cases h2:c.op=11
   ·rw[if_pos h2,if_pos h2];exact .refl _
   rw[if_neg h2,if_neg h2];by_cases h2:c.op=12
   ·rw[if_pos h2,if_pos h2];exact .refl _
   rw[if_neg h2,if_neg h2];by_cases h2:c.op=13
   ·rw[if_pos h2,if_pos h2];exact .refl _
   rw[if_neg h2,if_neg h2];exact .refl _
 ·rw[if_pos h8,if_neg h8];exact⟨rfl,fun e=>absurd e (by simp[Ans.er])⟩
theorem Sq (s:Ste)(c:Cmd)(hz:∀p∈s.book.pools,p.leases.length≤3518437208882)(pq:xE s.net):af prog 9 [.agg (eW s),.agg (kh c)] (.tup [.agg (eW (Ag s c).1),.agg (ly (Ag s c).2.1),.v (.int .i64 (Ag s c).2.2)]):=by
 have hc:=Da s hz pq;unfold Ag;by_cases h:iA s=0
 ·rw[if_neg (by simpa using h)];rw[h]at hc;obtain⟨xG,pb⟩:=wb h;have zk:=dF xG;have cf:=gO.1 pb;have WF:=QE s c zk cf pq;have zh:=LU s c zk;have gk:=Ln.mk (ls:=[]) (iE s.book zk.n8 zk.l32);have OP:=Ln.mk (ls:=[]) (mF s.net cf.n6 cf.n12 cf.vp);clear h xG pb zk cf;replace hz:=Xj hz;replace pq:=Xj pq;generalize IC s c=R at*;by_cases he:(Af s c).2.err=0
  ·rw[if_neg (by simpa using he)];have he':R.2.err=0:=by rw[zh.err];exact he
   rw[←zh.eq he'];replace he:=Xj he;clear zh;refine pj func9 ntmps9 results9 ?_;first|exact aZ|(refine am ?_;exact dz)
  ·rw[if_pos he];have he':(R.2.err !=0)=true:=by rw[zh.err];simpa using he
   rw[←zh.err];replace he:=Xj he;clear zh;refine pj func9 ntmps9 results9 ?_;first|exact aZ|(refine am ?_;exact dz)
 ·rw[if_pos h];have e1:(iA s !=0)=true:=by simpa using h
  generalize iA s=X at*;replace h:=Xj h;clear hz pq;refine pj func9 ntmps9 results9 ?_;first|exact aZ|(refine am ?_;exact dz)
theorem RealC.box_le {X:Cfg}{e:cu}{h:List Chunk}{a:Act}{w:World}{c:Cx}(hr:RealC X (bQ e h) a w c){k T:Nat}{cells cells':List PV}(hk:aG h k= .box T cells)(hlt:k < h.length)(hle:t6 cells cells')(h1:∀d∈cells',d.one=true):
 RealC X (bQ e (bw h k (.box T cells'))) a w c:=by
 have hh:∀k',(bQ e (bw h k (.box T cells'))).heap k'=if k'=k then .box T cells' else (bQ e h).heap k':=fun k'=>gF (p' hlt) k';have hb:∀k',c.block k' ((bQ e (bw h k (.box T cells'))).heap k')=c.block k' ((bQ e h).heap k'):=by
  intro k';rw[hh];split
  ·rename_i he;subst he;show _=c.block k' (aG h k');rw[hk];rfl
  ·rfl
 refine⟨hr.size,hr.defers,hr.ext,hr.inv,hr.fresh,fun b=>?_,fun k' b Gy=>?_,fun k' k'' b h1 h2=>?_,hr.env,fun k'=>?_,hr.lent⟩
 ·rw[hr.mu b];simp only[hb]
 ·rw[hb]at Gy;exact hr.new k' b Gy
 ·rw[hb]at h1 h2;exact hr.apart k' k'' b h1 h2
 ·rw[hh];split
  ·rename_i he;subst he;have bc:=hr.chunk k';rw[show (bQ e h).heap k'=_ from hk]at bc;cases bc with
   |box _ _ b vs hb hhp Dq eP=>exact .box T cells' b vs hb hhp (qL hle Dq) h1
  ·exact hr.chunk k'
theorem tN {P:Program}{n m:Nat}{e:cu}{h:List Chunk}(k:Nat){T:Nat}(ds ds':List D)(hk:aG h k= .box T (ds.map .d))(hlt:k < h.length)(hle:pO ds ds')(h1:ds'.all D.one=true):ew P n m e h e (bw h k (.box T (ds'.map .d))):=
 fun X _ _ _ a w ⟨c,hc⟩=>⟨c,hc.box_le hk hlt (Ef hle) fun d hd=>by
  obtain⟨x,hx,rfl⟩:=XQ.1 hd;exact XE.1 h1 x hx⟩
theorem Gs {l:List Cmd}{k:Nat}{c:Cmd}(h:l[k]? =some c):jT .zero (l.take (k+1))=(Ag (jT .zero (l.take k)) c).1∧lI .zero (l.take (k+1))=lI .zero (l.take k)++[(Ag (jT .zero (l.take k)) c).2.1]:=by
 rw[ag h,wv,ww];exact⟨rfl,rfl⟩
theorem LV (l:List Cmd):af prog 14 [.sl 10 (l.map kh)] (.tup [.agg (eW (lJ l).1),.sl 4 ((lJ l).2.1.map ly),.v (.int .i64 (lJ l).2.2)]):=by
 unfold lJ;by_cases h:200 < l.length
 ·rw[if_pos h];have e1:decide ((l.length:Int)>200)=true:=by simp;omega
  replace h:=Xj h;refine pj func14 ntmps14 results14 ?_;refine am ?_;exact dz
 ·rw[if_neg h];have e1:decide ((l.length:Int)>200)=false:=by simp;omega
  have hle:l.length≤200:=by omega
  clear h;refine pj func14 ntmps14 results14 ?_;refine am ?_;refine bg ae ak l (fun _=>True) (fun k=>[(18,.d (.v (.int .i64 k))),(17,.d (.v (.int .i64 l.length))),(16,.d (.sl 10 (l.map kh))),(6,.own 2 k),(5,.ptr 1 0),(2,.ptr 0 0)])
   (fun k=>[.box 30 [.d (.v (.int .i64 0)),.d (.v (.slice none 0 0)),.d (.v (.slice none 0 0)),.d (.v (.slice none 0 0))],.box 30 ((eW (jT .zero (l.take k))).map .d),.row 39 4 k (ab ((lI .zero (l.take k)).map ly))]) trivial ?_ ?_ ?_
  ·refine(cS (by simp) 6 39 4 rfl).trans ((tN 1 [.v (.int .i64 0),.v (.slice none 0 0),.v (.slice none 0 0),.v (.slice none 0 0)] (eW .zero) rfl (by simp) ⟨ai.refl _,ai.nil _,ai.nil _,ai.nil _,trivial⟩ rfl).trans ?_);exact wf
  ·intro k c hc hk _ C hC;have dH:(k:Int) < (l.length:Int):=by omega
   have cM:=wi k (by omega);have kq:=oG (l.take k);have WF:=Ud (jT .zero (l.take k)) c kq.hz;obtain⟨lh,oK⟩:=Gs hc;have iG:=o6 (l.take k) .zero;have hlt:(Yf k l).length=k:=by rw[Xp];omega
   rw[hlt]at iG;generalize Ag (jT .zero (l.take k)) c=R at*;generalize jT .zero (l.take k)=S at*;generalize lI .zero (l.take k)=A at*;replace lh:=Xj lh;replace oK:=Xj oK;replace kq:=Xj kq;refine am ?_;refine hC _ _ trivial ?_;rw[lh.out,oK.out];exact wf (hh:=by rw[Xo,Xm,Xu];rfl)
  ·intro _ C;rw[Xt];first|exact aZ|(refine am ?_;exact dz)
theorem OD (l:List Cmd):af prog 15 [.sl 10 (l.map kh)] (.tup [.agg (eW (lJ l).1),.sl 4 ((lJ l).2.1.map ly),.v (.int .i64 (lJ l).2.2)]):=by
 unfold lJ;by_cases h:200 < l.length
 ·rw[if_pos h];have e1:decide ((l.length:Int)>200)=true:=by simp;omega
  replace h:=Xj h;refine pj func15 ntmps15 results15 ?_;refine am ?_;exact dz
 ·rw[if_neg h];have e1:decide ((l.length:Int)>200)=false:=by simp;omega
  have hle:l.length≤200:=by omega
  clear h;refine pj func15 ntmps15 results15 ?_;refine am ?_;refine bg ae ak l (fun _=>True) (fun k=>[(7,.d (.v (.int .i64 k))),(6,.own 2 k),(5,.ptr 1 0),(2,.ptr 0 0),(0,.d (.sl 10 (l.map kh)))])
   (fun k=>[.box 30 [.d (.v (.int .i64 0)),.d (.v (.slice none 0 0)),.d (.v (.slice none 0 0)),.d (.v (.slice none 0 0))],.box 30 ((eW (jT .zero (l.take k))).map .d),.row 39 4 k (ab ((lI .zero (l.take k)).map ly))]) trivial ?_ ?_ ?_
  ·refine(cS (by simp) 6 39 4 rfl).trans ((tN 1 [.v (.int .i64 0),.v (.slice none 0 0),.v (.slice none 0 0),.v (.slice none 0 0)] (eW .zero) rfl (by simp) ⟨ai.refl _,ai.nil _,ai.nil _,ai.nil _,trivial⟩ rfl).trans ?_);exact wf
  ·intro k c hc hk _ C hC;have dH:(k:Int) < (l.length:Int):=by omega
   have cM:=wi k (by omega);have kq:=oG (l.take k);have WF:=Sq (jT .zero (l.take k)) c kq.hz kq.nz;obtain⟨lh,oK⟩:=Gs hc;have iG:=o6 (l.take k) .zero;have hlt:(Yf k l).length=k:=by rw[Xp];omega
   rw[hlt]at iG;generalize Ag (jT .zero (l.take k)) c=R at*;generalize jT .zero (l.take k)=S at*;generalize lI .zero (l.take k)=A at*;replace lh:=Xj lh;replace oK:=Xj oK;replace kq:=Xj kq;refine am ?_;refine hC _ _ trivial ?_;rw[lh.out,oK.out];exact wf (hh:=by rw[Xo,Xm,Xu];rfl)
  ·intro _ C;rw[Xt];first|exact aZ|(refine am ?_;exact dz)
theorem Df (s:Ste)(h:ko s):af prog 13 [.agg (eW s),.agg (eW s)] (.v (.bool true)):=by
 have h1:=CD s.book h.1;have h2:=E0 s.net h.2;clear h;refine pj func13 ntmps13 results13 ?_;exact aZ
theorem IE (l:List Ans)(hl:l.length≤1000000000):af prog 16 [.sl 4 (l.map ly),.sl 4 (l.map ly)] (.v (.bool true)):=by
 refine pj func16 ntmps16 results16 ?_;refine am ?_;refine bg ae ak l (fun _=>True) (fun k=>[(5,.d (.v (.int .i64 k))),(4,.d (.v (.bool false))),(1,.d (.sl 4 (l.map ly))),(0,.d (.sl 4 (l.map ly)))]) (fun _=>[]) trivial ?_ ?_ ?_
 ·exact wf
 ·intro k a ha hk _ C hC;have dH:(k:Int) < (l.length:Int):=by omega
  have cM:=wi k (by omega);refine am ?_;exact hC _ _ trivial wf
 ·intro _ C;exact aZ
def c0 (op a b c:Int):Cmd:=⟨op,a,b,c,⟨0,0⟩,⟨0,0,0,0⟩⟩
def Gt:List Cmd:=[⟨1,7,0,0,⟨256,8⟩,Lp⟩,c0 7 1 0 0,c0 7 2 0 0,c0 8 1 7 10,c0 8 2 7 0,c0 15 2 1 0,⟨10,1,4,0,⟨256,14⟩,⟨0,0,0,0⟩⟩,c0 12 1 4 9,⟨9,2,0,0,⟨320,12⟩,⟨0,0,0,0⟩⟩,⟨6,7,0,0,⟨256,10⟩,⟨0,0,0,0⟩⟩]
theorem QF:af prog 31 [] (.sl 10 (Gt.map kh)):=by
 have h:=Ot;refine pj func31 ntmps31 results31 ?_;first|exact aZ|(refine am ?_;exact dz)
def Sr:Ste:=⟨⟨0,[⟨7,0,⟨256,8⟩,⟨8,16,12,3⟩,[⟨⟨256,10⟩,1,1,0⟩,⟨⟨320,12⟩,3,0,3⟩]⟩]⟩,⟨[⟨1,[⟨⟨256,10⟩,7⟩],[⟨4,⟨256,14⟩,[⟨9,[257]⟩]⟩]⟩,⟨2,[],[]⟩],[⟨1,2⟩]⟩⟩
def VK:List Ans:=[.er 0,.er 0,.er 0,⟨0,⟨256,10⟩,0⟩,⟨0,⟨320,12⟩,0⟩,.er 0,.er 0,⟨0,⟨0,0⟩,257⟩,.er 0,.er 9]
theorem LW:lJ Gt=(Sr,VK,0):=by kernel_rfl
theorem QG:iA Sr=0:=by kernel_rfl
theorem Dg:af prog 10 [] (.v (.bool true)):=by
 have h1:=QF;have h2:=LV Gt;have h3:=Ci Sr (by simp[Sr]);rw[QG]at h3;rw[LW]at h2;generalize Gt.map kh=L at*;simp only[Sr,VK,Ans.er,eW,ah,al,bJ,ly,aV,bv,aU,cl,cD,Xm,Xu]at h2 h3;refine pj func10 ntmps10 results10 ?_;refine am ?_;simp only[List.append_eq,X8,Ya];exact aZ
theorem Dh (l:List Cmd):af prog 4 [.sl 10 (l.map kh)] (.v (.bool true)):=by
 have h1:=LV l;have h2:=OD l;have h3:=Dg;have h4:=Df _ (C8 l);have h5:=IE (lJ l).2.1 (by
  unfold lJ;split
  ·exact XD _
  ·show (lI _ l).length≤_;rw[o6];omega)
 generalize lJ l=R at*;refine pj func4 ntmps4 results4 ?_;exact aZ
section
open Go.Proofs Go.ChangeShapes Go.WideShapes Go.Deep
def NM:Nat→Prop:=fun _=>False
section
variable {H:Type}{enc:TypeId × Value→H}{P:Program}{w:World}{base:Nat}{spare:Nat→Bool}{held:Bool}
def RI {α:Type}(enc:TypeId × Value→H)(P:Program)(w:World)(base:Nat)(spare:Nat→Bool)(held:Bool)(t:TypeId)(R:List Value→α→Prop)(S:α→Prop):Prop:=
 ∀fuel cs x,DataW.trod enc P w base spare held fuel t cs=some x→∃a,R cs a∧((∀n∈x.1.weights P t,n≤reachBytes)→S a)
theorem QH {α:Type}{t:TypeId}{R:List Value→α→Prop}(h:Rd enc P w base spare held t R):RI enc P w base spare held t R (fun _=>True):=by
 intro fuel cs x hx;obtain⟨a,ha⟩:=h fuel cs x hx;exact⟨a,ha,fun _=>trivial⟩
theorem tO {e:TypeId}:∀{l:List (DataW H)}{d:DataW H},d∈l→∀n∈d.weights P e,n∈DataW.weightsAll P e l
 |a::l,d,h,n,hn=>by
  simp only[DataW.weightsAll,X2];rcases X7.1 h with rfl|h
  ·exact .inl hn
  ·exact .inr (tO h n hn)
theorem IF {α:Type}{t e:TypeId}{k:Nat}{R:List Value→α→Prop}{S:α→Prop}(ht:P.underlying t=some (.slice e))(hc:P.cellsOf e=k+1)(he:RI enc P w base spare held e R S):
 RI enc P w base spare held t (fun cs (l:List α)=>∃v,cs=[v]∧RW (inW w) w (k+1) R v l) (fun l=>l.length*P.bytesOf e≤reachBytes∧∀a∈l,S a):=by
 intro fuel cs x hx;rcases open_slice ht hx with⟨rfl,rfl⟩|⟨a,len,cap,m,n,D,Pl,rfl,hb,hl,hm,Fk,rfl,hi⟩
 ·exact⟨[],⟨_,rfl,none,0,rfl,⟨XB _,by decide,fun i h=>by simp at h⟩⟩,fun _=>⟨by simp,fun a h=>by simp at h⟩⟩
 ·have lR:len≤m:=by rw[Fk];split<;>omega
  obtain⟨l,wV,hq⟩:=sF (Q:=fun i y=>∃cs',w.cells? base (a.add (i*P.cellsOf e)) (P.cellsOf e)=some cs'∧R cs' y∧((∀n∈(D i).weights P e,n≤reachBytes)→S y)) len fun i h=>by
   obtain⟨cs',h1,h2⟩:=hi i (by omega);obtain⟨y,hy,hs⟩:=he _ _ _ h2;exact⟨y,cs',h1,hy,hs⟩
  refine⟨l,⟨_,rfl,some a,cap,by rw[wV],⟨by omega,by unfold maxLen at hm;omega,fun i h=>?_⟩⟩,fun hw=>⟨?_,fun y hy=>?_⟩⟩
  ·obtain⟨cs',h1,h2,-⟩:=hq i h;rw[hc]at h1;obtain⟨_,fS,cY⟩:=World.cells?_some h1;obtain⟨b,off,spot⟩:=a;have TD:spot=none:=by
    obtain⟨cs0,g1,_⟩:=hq 0 (by omega);rw[hc]at g1;obtain⟨_,gcl,gat⟩:=World.cells?_some g1;have g0:=gat (i:=0) (by omega);have g0':w.cell? ⟨b,off,spot⟩=some (cs0[0]'(by omega)):=by
     have:((⟨b,off,spot⟩:Addr).add (0*(k+1))).add 0=⟨b,off,spot⟩:=by simp[Addr.add]
     rw[this]at g0;rw[g0];exact Xk (by omega)
    exact World.cell?_spot g0'
   subst TD;have Pd:∀o j,((⟨b,o,none⟩:Addr).add j)=⟨b,o+j,none⟩:=by
    intro o j;unfold Addr.add;split<;>simp_all
   refine⟨b,off,cs',rfl,?_,fS,h2,fun j hj=>?_⟩
   ·have:=cY (i:=0) (by omega);rw[Pd,Pd]at this;exact dC (this.trans (Xk (by omega)))
   ·have:=cY (i:=j) (by omega);rw[Pd,Pd]at this;rw[this];exact Xk hj
  ·have:=hw (((X5 len).map D).length+((X5 (m - len)).map fun j=>D (len+j)).length|>(·*P.bytesOf e)) (by simp[DataW.weights,ht]);simp only[XC,List.length_range]at this;rw[wV];exact Yy (Ys _ (by omega)) this
  ·obtain⟨i,TV,rfl⟩:=X0.1 hy;obtain⟨cs',h1,h2,h3⟩:=hq i TV;refine h3 fun n hn=>hw n ?_;simp only[DataW.weights,ht];refine Zc _ (ZP _ (tO (d:=D i) (XQ.2 ⟨i,by simp;omega,rfl⟩) n hn))
end
end
section
open Go.Proofs Go.ChangeShapes Go.WideShapes Go.Deep
theorem LX {α:Type}{enc:α→List D}{sz:Nat}{w:World}(h0:0 < sz)(WG:∀a,(enc a).length=sz∧∀d∈enc a,d.one=true){v:Value}{l:List α}(h:RW (inW w) w sz (fun cs a=>dZ NM w (enc a) cs) v l):RepD NM w (.sl sz (l.map enc)) v:=by
 obtain⟨ao,cap,rfl,hs⟩:=h;cases l with
 |nil=>exact .nil sz ao cap hs.cap_max
 |cons u us=>
  obtain⟨b,off,cs,rfl,hAb,hl,hR,fl⟩:=hs.elem 0 (by simp);have key:∀i (hi:i < (u::us).length),∃cs:List Value,cs.length=sz∧dZ NM w (enc (u::us)[i]) cs∧lv w b (off+i*sz) cs:=by
   intro i hi;obtain⟨b',off',cs',e,-,hl',hR',xM⟩:=hs.elem i hi;cases e;exact⟨cs',hl',hR',xM⟩
  have bT:((u::us).map enc).length=(u::us).length:=by simp
  rw[←bT];refine .sl sz ((u::us).map enc) b off cap (fun i j=>(w.cell? ⟨b,off+i*sz+j,none⟩).getD undef) (fun h=>h) hAb (by rw[bT];exact hs.cap_le) hs.cap_max (fun r hr=>?_) (fun r hr=>?_) (fun i j hi hj=>?_) (fun i j row d hi hj=>?_)
  ·obtain⟨x,-,rfl⟩:=XQ.1 hr;exact(WG x).1
  ·obtain⟨x,-,rfl⟩:=XQ.1 hr;exact(WG x).2
  ·obtain⟨cs',hl',-,xM⟩:=key i (by simpa using hi);rw[xM j (by omega)];rfl
  ·have hi':i < (u::us).length:=by have:=(Xn.1 hi).1;simpa using this
   obtain⟨cs',hl',hR',xM⟩:=key i hi';rw[Xz,Xk hi']at hi;simp only[Ye,XX.injEq]at hi;subst hi;have hj':j < cs'.length:=by rw[←hR'.1];exact(Xn.1 hj).1
   rw[xM j hj'];exact hR'.2 j d _ hj (Xk hj')
section
variable {H:Type}{enc:TypeId × Value→H}{w:World}{base:Nat}{spare:Nat→Bool}{held:Bool}
theorem rB:prog.cellsOf 32=2:=by kernel_rfl
theorem lP:prog.cellsOf 3=1:=by kernel_rfl
theorem QI:Rd enc prog w base spare held 32 db:=by
 intro fuel cs x hx;have hl:=ED underlying32 hx;rw[rB]at hl;obtain⟨a,ha⟩:=fQ underlying32 hx 0 rfl (lN underlying3);obtain⟨b,hb⟩:=fQ underlying32 hx 1 rfl (lN underlying3);match cs,hl with
 |[c0,c1],_=>
  simp[lP,N3]at ha hb;exact⟨⟨a,b⟩,by simp[db,ha.1,hb.1]⟩
theorem E7 (l:List Int):dZ NM w (l.map fun n=> .v (.int .i64 n)) (l.map fun n=> .int .i64 n):=by
 refine⟨by simp,fun j d x hj hx=>?_⟩;rw[Xz,XO]at hj hx;obtain⟨a,ha,rfl⟩:=hj;obtain⟨c,hc,rfl⟩:=hx;rw[ha]at hc;obtain rfl:=XX.inj hc;exact .v _
end
theorem OE {M:Nat→Prop}{w:World}:dZ M w [] []:=⟨rfl,fun j d x hj _=>by simp at hj⟩
theorem OF {M:Nat→Prop}{w:World}{d:D}{v:Value}{ds:List D}{vs:List Value}(h:RepD M w d v)(g:dZ M w ds vs):dZ M w (d::ds) (v::vs):=⟨by simp[g.1],fun j e x hj hx=>by
 cases j with
 |zero=>simp at hj hx;subst hj;subst hx;exact h
 |succ j=>exact g.2 j e x (by simpa using hj) (by simpa using hx)⟩
theorem QJ {P:Program}{f:Nat}{args:List D}{vs:List Value}{W:World}(hp:af P f args (.v (.bool true)))(ft:dZ NM W args vs)(hg:DO NM W:=fun x hx=>absurd hx (by simp[RX])):Calls P f vs.toArray W fun e w'=>e= .returned (.bool true)∧dw W w':=by
 refine(hp.2 NM W vs (fun b h=>h.elim) hg ft).mono ?_;rintro e w' ⟨v,rfl,hv,hx⟩;cases hv;exact⟨rfl,hx⟩
section
variable {H:Type}{enc:TypeId × Value→H}{w:World}{base:Nat}{spare:Nat→Bool}{held:Bool}
end
end
section
open Go.Proofs Go.ChangeShapes Go.WideShapes Go.Deep
section
variable {H:Type}{enc:TypeId × Value→H}{w:World}{base:Nat}{spare:Nat→Bool}{held:Bool}
theorem rC:prog.cellsOf 34=4:=by kernel_rfl
theorem QK:Rd enc prog w base spare held 34 fun cs (r:Rul)=>cs=[.int .i64 r.min,.int .i64 r.max,.int .i64 r.usual,.int .i64 r.cool]:=by
 intro fuel cs x hx;have hl:=ED underlying34 hx;rw[rC]at hl;obtain⟨a,ha⟩:=fQ underlying34 hx 0 rfl (lN underlying3);obtain⟨b,hb⟩:=fQ underlying34 hx 1 rfl (lN underlying3);obtain⟨c,hc⟩:=fQ underlying34 hx 2 rfl (lN underlying3);obtain⟨d,hd⟩:=fQ underlying34 hx 3 rfl (lN underlying3);match cs,hl with
 |[c0,c1,c2,c3],_=>
  simp[lP,N3]at ha hb hc hd;exact⟨⟨a,b,c,d⟩,by simp[ha.1,hb.1,hc.1,hd.1]⟩
theorem OG {P:Program}{α:Type}{Q:Value→α→Prop}{S:α→Prop}{r:Reach}{b0:Nat}{t e:TypeId}{v:Value}{d:DataW H}{p:List MemPlace}(ht:P.underlying t=some (.slice e))(Pe:Value.okWide P w r b0 t v)(hd:DataW.Trod enc P w base spare held t v d p)
 (hr:RI enc P w base spare held t (fun cs a=>∃u,cs=[u]∧Q u a) S):∃a,Q v a∧((∀n∈d.weights P t,n≤reachBytes)→S a):=by
 obtain⟨a,len,cap,rfl⟩:=okWide_slice ht Pe;obtain⟨fuel,hf⟩:=hd;obtain⟨l,⟨u,hu,hq⟩,hs⟩:=hr _ _ _ hf;simp[Value.cells]at hu;subst hu;exact⟨l,hq,hs⟩
theorem rD:prog.cellsOf 36=10:=by kernel_rfl
theorem QL:Rd enc prog w base spare held 36 fun cs (c:Cmd)=>dZ NM w (kh c) cs:=by
 intro fuel cs x hx;have hl:=ED underlying36 hx;rw[rD]at hl;obtain⟨o,ho⟩:=fQ underlying36 hx 0 rfl (lN underlying3);obtain⟨a,ha⟩:=fQ underlying36 hx 1 rfl (lN underlying3);obtain⟨b,hb⟩:=fQ underlying36 hx 2 rfl (lN underlying3);obtain⟨c,hc⟩:=fQ underlying36 hx 3 rfl (lN underlying3);obtain⟨p,hp⟩:=fQ underlying36 hx 4 rfl QI;obtain⟨r,hr⟩:=fQ underlying36 hx 5 rfl QK;match cs,hl with
 |[c0,c1,c2,c3,c4,c5,c6,c7,c8,c9],_=>
  simp[rB,lP,rC,N3,db]at ho ha hb hc hp hr;refine⟨⟨o,a,b,c,p,r⟩,?_⟩;rw[ho.1,ha.1,hb.1,hc.1,hp.1,hp.2,hr.1,hr.2.1,hr.2.2.1,hr.2.2.2];exact E7 [o,a,b,c,p.at_,p.len,r.min,r.max,r.usual,r.cool]
theorem OH:RI enc prog w base spare held 36 (fun cs (c:Cmd)=>dZ NM w (kh c) cs) (fun _=>True):=QH QL
theorem LY:RI enc prog w base spare held 46 (fun cs (l:List Cmd)=>∃v,cs=[v]∧RepD NM w (.sl 10 (l.map kh)) v) (fun _=>True):=by
 have h:=IF (enc:=enc) (base:=base) (spare:=spare) (held:=held) underlying46 rD (OH (w:=w));intro fuel cs x hx;obtain⟨l,⟨v,rfl,hs⟩,hw⟩:=h fuel cs x hx;refine⟨l,⟨v,rfl,LX (sz:=10) (by omega) (fun a=>⟨rfl,fun d hd=>?_⟩) hs⟩,fun _=>trivial⟩;simp[kh]at hd;rcases hd with rfl|rfl|rfl|rfl|rfl|rfl|rfl|rfl|rfl|rfl<;>rfl
end
end
section
open Go.Proofs Go.ChangeShapes Go.WideShapes Go.ChangeAt
theorem xF:ownKnob prog.godebug=Option.none:=by kernel_rfl
theorem rA:laidOutB prog=true:=by kernel_rfl
theorem sN (os:Os)(started:os.Started)(H:Type)(enc:TypeId × Value→H):
 ReturnsInHanded {} Tryz.checked os 4 .any (Rows.sitePlaysSpec.pre6 enc prog Tryz.f4 Rows.sitePlaysRow.domain false) (Rows.sitePlaysSpec.post enc prog Tryz.f4 false true false false):=by
 refine returnsInHanded_of_change_sized (C:=Tryz.checked) xF started (by kernel_rfl) func4
  (ChangeSpec.witness6 (enc:=enc) (C:=Tryz.checked) false ⟨#[],#[.slice none 0 0],[]⟩ 8 (by kernel_rfl) (by kernel_rfl) (by kernel_rfl) (by kernel_rfl)) ?_
 intro W base args ds gs before PM hW hcnd cP _;have Pe:∀(j:Nat) t v,Tryz.f4.params[j]? =some t→args[j]? =some v→Value.okWide prog W .any base t v:=PM;have hW':=hW;obtain⟨p,q,I7,hV,rfl,TU,lf⟩:=hW;have hA:DataW.TrodAll enc prog W 0 (fun _=>true) true Tryz.f4.params.toList args.toList ds p:=I7;rw[params4]at hA Pe;obtain⟨v0,vs0,d0,ds0,p0,q0,zd,rfl,rfl,h0,r0⟩:=trodAll_cons hA;obtain⟨rfl,rfl,rfl⟩:=trodAll_nil r0;obtain rfl:args=#[v0]:=by cases args;simp_all
 obtain⟨rfl,rfl⟩:=trodVars_none hV;obtain⟨a0,w0,s0⟩:=OG underlying46 (Pe 0 46 v0 rfl rfl) h0 LY;clear I7 PM;refine(QJ (Dh a0) (vs:=[v0]) (OF w0 OE)).mono fun e W' ⟨he,bel⟩=>?_;subst he;exact⟨_,rfl,_,_,_,[],_,[],hW',trodAll_mk1 (shut_bool underlying4 _),(trodAll_cons_mk (Below.trod rA (by kernel_rfl) (of_decide_eq_true (by kernel_rfl)) h0 bel (KS h0)) trodAll_mk0),rfl,bel.frame _,fun h=>by cases h⟩
set_option maxHeartbeats 0 in
theorem sO:joinedFacts prog 4 Tryz.f4 Rows.sitePlaysSpec Rows.sitePlaysRow=true:=by
 unfold joinedFacts;repeat' (with_reducible refine Bool.and_eq_true_iff.2 ⟨?_,?_⟩)
 all_goals as_aux_lemma=>kernel_rfl
theorem ub:Tryz.pinned.checked.prog.funcNamed Rows.sitePlaysRow.func=some 4:=by kernel_rfl
theorem wE:Tryz.f4.isInstance Tryz.pinned.checked.prog Rows.sitePlaysRow.origin Rows.sitePlaysRow.targs:=of_decide_eq_true (by kernel_rfl)
theorem wF:Tryz.f4.isWrapper Tryz.pinned.checked.prog Rows.sitePlaysRow.wrapper Rows.sitePlaysRow.mainSum:=by unfold Func.isWrapper;first|(rw[if_pos (by decide+kernel)];kernel_rfl)|(rw[if_neg (by decide+kernel)];exact⟨rfl,rfl⟩)
theorem wG:Rows.sitePlaysRow.holds Tryz.pinned (OpenSpec.ofChange Rows.sitePlaysSpec):=
 OpenClaim.holds_of_wide 4 Tryz.f4 rfl rfl rfl rfl rfl rfl rfl ⟨rfl,rfl,rfl,rfl,rfl⟩ rfl rfl rfl rfl rfl ub func4 sO wE wF
  (fun os started H enc _=>sN os started H enc)
theorem sitePlays_holds:Rows.SitePlaysSaid:=wG
#print axioms sitePlays_holds
end
end Go.Proofs.YtmicljipaiohkaaGreat
