/- SiteDoes: its statement, for every input, out of its walk. (texts of this work, joined) -/
import Derived.Test.YtmicljipaiohkaaGreatZHSiteDoes5
import Derived.SizedLaws
import Derived.Test.YtmicljipaiohkaaGreatRows
import Derived.WalkKit
import Derived.ProofKit
import Derived.OpenShut
import Derived.ShutString
import Derived.ChangeOld
import Derived.Below
set_option linter.unusedSimpArgs false
set_option linter.unusedVariables false
set_option maxRecDepth 100000
set_option maxHeartbeats 16000000
namespace Go.Proofs.YtmicljipaiohkaaGreat
open Go Go.RowKit Go.Proofs.Tryz
open Go.Lib renaming hid → Xj
open _root_.List renaming getElem?_eq_getElem → Xk, mem_of_getElem? → Xl, map_cons → Xm, getElem?_eq_some_iff → Xn, map_append → Xo, setIfInBounds_toArray → Xp, length_take → Xq, take_length → Xt, set_cons_zero → Xu, map_nil → Xv, set_cons_succ → Xx, getElem?_map → Xz, length_cons → XA, all_eq_true → XC, length_map → XD, pairwise_iff_getElem → XF, getElem?_append_right → XH, findIdx?_eq_some_iff_getElem → XI, length_drop → XJ, getD_eq_getElem?_getD → XK, take_of_length_le → XN, mem_map → XQ, getElem?_take_of_lt → XS, getElem?_eq_none → XT, any_eq_true → XU, replicate → XV, length_append → XY, length_nil → XZ, mem_iff_getElem → X0, getElem?_append_left → X2, mem_append → X3, append_assoc → X4, range → X5, mem_cons → X7, cons_append → X8, eq_nil_of_length_eq_zero → X9, nil_append → Ya, mem_singleton → Yc, mem_of_mem_drop → Yd, mem_of_mem_take → Yf, take → Yg, any_eq_false → Yh, ext_getElem? → Yj, getElem?_drop → Yk, take_append_of_le_length → Yl, getElem_mem → Ym, findIdx?_eq_none_iff → Yn, find?_eq_none → Yq, set_append_right → Yu, append_nil → Yw, getElem?_cons_succ → Yx, pairwise_cons → YC, mem_of_find?_eq_some → YF, size_toArray → YH, foldl_cons → YO, drop_eq_getElem_cons → YQ, mem_range → YR, pairwise_append → YT, length_set → YV, filter_append → YW, take_append_drop → YX, filter_eq_self → Y0, toList_toArray → Y1, all_eq_false → Y2, mem_or_eq_of_mem_set → Y4, drop_length → Y7, mem_map_of_mem → Y8, length_filter_le → Za, mem_cons_of_mem → Zc, mem_iff_getElem? → Ze, find?_some → Zh, filter_filter → Zi, getElem?_take → Zj, filter_eq_nil_iff → Zo, flatMap_append → Zs, mem_filter → Zt, filter_cons → Zu, getElem_take → ZA, map_take → ZH, contains_iff_mem → ZL, all_append → ZO, mem_append_left → ZP, getElem?_replicate → ZX, mem_flatMap → ZY, filter_congr → Z2, getElem?_set → Z3, take_zero → Z4, getElem?_set_ne → Z7, length_eraseIdx → Z8, length → I', nodup_append → N', take_sublist → O'
open Go.World renaming size_alloc → Xr, heap_drewN → Xs, size_drew → Xw, cell? → YS, cell?_of_block → Zl, setRow → ZE
open _root_.Bool renaming and_eq_true → Xy, eq_iff_iff → Yi, and_self → Yp, true_and → Yr, and_true → YA, false_eq_true → YB, eq_false_iff → YE, not_eq_true' → Zz, not_eq_true → ZI, and_eq_false_iff → ZK, false_or → ZT, not_true → Z0, and_assoc → P'
open _root_.Nat renaming le_refl → XB, zero_le → XE, zero_add → XG, reduceEqDiff → XL, reduceAdd → XM, lt_or_ge → XP, add_zero → XW, sub_zero → Yo, mul_le_mul_right → Yt, lt_of_lt_of_le → Yy, le_trans → Yz, sub_self → YG, not_lt_zero → YJ, lt_trichotomy → Zb, min_self → Zq, add_assoc → ZF, eq_zero_or_pos → ZJ, min → ZM, add_mul → ZQ, reduceLT → ZR, min_def → Z6, le_of_lt → p', lt_or_eq_of_le → G', lt_or_gt_of_ne → H', le_of_lt_succ → Q', one_le_two_pow → Z', not_lt → _g
open _root_.Option renaming map_eq_some_iff → XO, isSome_some → XR, some → XX, map_some → Ye, getD_some → YI, isSome_none → YZ, isSome_iff_exists → Zf, map_none → Zg, toList_some → _a
open _root_.Array renaming getElem?_toList → X6, getElem?_eq_some_iff → Ys, getElem?_eq_none → YM, replicate → Y5
open _root_.Int renaming dvd_of_emod_eq_zero → YL, lt_irrefl → YN, emod_eq_zero_of_dvd → ZB, le_refl → ZG, fdiv_eq_ediv_of_nonneg → Z5, lt_or_le → z', dvd_trans → C', max_eq_right → _e, max_eq_left → _i
theorem Ml (v:Vpc)(id:Int)(p:Pfx)(hl:v.subs.length≤9223372036854775807)(hf:∀s∈v.subs,s.faces.length≤9223372036854775807):af prog 171 [.agg (al v),.v (.int .i64 id),.agg (aN p)] (.tup [.agg (al (nH v id p).1),.v (.int .i64 (nH v id p).2)]):=by
 obtain⟨R,hR⟩:∃R,R=nH v id p:=⟨_,rfl⟩;rw[←hR];replace hR:=Xj hR;have a9:=gC v hl hf;clear hl hf;by_cases hc:bN v=0
 ·have hk:=aY hc;have Jo:=hk.n4;have Ej:=hk.n6;have gp:=wD v hk.n4 hk.n6 hk.n8;have hw:af prog 75 [.v (.int .i64 id),.v (.int .i64 1),.v (.int .i64 65536)] (.v (.bool (cI id))):=f7 _ _ _;have MQ:=y8 v p (by omega);have aP:R=if lh v id p≠0 then (Vpc.zero,lh v id p)else ({v with subs:=di (·.id) ⟨id,p,[]⟩ v.subs},0):=by rw[hR.out];unfold nH;rw[if_neg (by simpa using hc)]
  unfold lh at aP;replace aP:=Xj aP;rw[hc]at a9;clear hR hc hk;cases b1:cI id with
  |false=>
   have hr:R=(Vpc.zero,3):=by rw[aP.out];simp[b1]
   rw[b1]at hw;rw[hr];replace hr:=Xj hr;refine pj func171 ntmps171 results171 ?_;refine am ?_<;>intros;all_goals exact dg
  |true=>
  rw[b1]at hw;cases b2:fF v p with
  |false=>
   have hr:R=(Vpc.zero,3):=by rw[aP.out];simp[b2]
   rw[b2]at MQ;rw[hr];replace hr:=Xj hr;refine pj func171 ntmps171 results171 ?_;refine am ?_<;>intros;all_goals exact dg
  |true=>
  rw[b2]at MQ;have fM:R=if (v.subs.any fun s=>(s.id==id)||s.at_.meets p)=true then (Vpc.zero,6)else if v.subs.length=6 then (Vpc.zero,2)else ({v with subs:=di (·.id) ⟨id,p,[]⟩ v.subs},0):=by
   rw[aP.out,b1,b2];cases(v.subs.any fun s=>(s.id==id)||s.at_.meets p)
   ·by_cases h:v.subs.length=6<;>simp[h]
   ·simp
  replace fM:=Xj fM;clear aP;refine pj func171 ntmps171 results171 ?_;have z1z:=Ln.mk (ls:=[]) (gp);refine am ?_<;>intros;clear gp a9 hw MQ;refine bL ae ak (fun m e h=>∃(k g:Nat) (out:List Sbn) (f:Bool),k≤v.subs.length∧uk (fun s:Sbn=>s.id) ⟨id,p,[]⟩ v.subs k out f∧(v.subs.take k).all (fun s=>!((s.id==id)||s.at_.meets p))=true∧m=v.subs.length - k∧
   e=[(12,.d (.v (.int .i64 k))),(11,.d (.v (.bool f))),(10,.own 7 v.subs.length),(9,.ptr 8 0),(7,.d (.v (.int .i64 0))),(6,.ptr 2 0),(5,.ptr 1 0),(3,.ptr 0 0),(1,.d (.v (.int .i64 id)))]∧h=[.box 55 ((al v).map .d),.box 32 ((aN p).map .d),.box 55 [.d (.v (.int .i64 0)),.d (.v (.slice none 0 0)),.d (.v (.slice none 0 0))],.gone,.gone,.row 58 3 1 (ab (v.ranges.map bp)),.gone,.row 71 4 v.subs.length (ab (v.subs.map aT)),.box 55 [.d (.v (.int .i64 v.id)),.own 5 1,.own 9 g],.row 71 4 g (ab (out.map aT))]) _ _ _ ⟨0,0,[],false,XE _,Fp,rfl,rfl,rfl,rfl⟩ ?_ ?_
  ·refine(au (by simp) 8 55 [.d (.v (.int .i64 v.id)),.own 5 1,.d (.v (.slice none 0 0))] 2 71 4 rfl rfl rfl).trans ?_;exact wf
  ·rintro m e h ⟨k,g,out,f,hk,fu,bP,hm,rfl,rfl⟩ C hC;replace hm:=Xj hm;replace bP:=Xj bP;have nQ:=fu.1;replace fu:=Xj fu;have yd:out.length≤7:=by omega
   have jf:(out.length+1)*48≤140737488355328:=by clear nQ hk Jo Ej;omega
   have jm:(out.length+1+1)*48≤140737488355328:=by clear nQ hk Jo Ej jf;omega
   by_cases hlt:k < v.subs.length
   ·have dM:(k:Int) < (v.subs.length:Int):=by omega
    have cR:=wi k (by omega);obtain⟨y,hy⟩:∃y,v.subs[k]? =some y:=⟨_,Xk hlt⟩;have FM:=Xl hy;have nN:=p5 y.at_ p;rw[fg]at nN;cases b5:(y.id==id)with
    |true=>
     have hr:R=(Vpc.zero,6):=by rw[fM.out,if_pos (XU.2 ⟨y,FM,by rw[b5];rfl⟩)]
     rw[hr];replace hr:=Xj hr;refine am ?_<;>intros;all_goals exact dg
    |false=>
    cases b3:y.at_.meets p with
    |true=>
     have hr:R=(Vpc.zero,6):=by rw[fM.out,if_pos (XU.2 ⟨y,FM,by rw[b3];simp⟩)]
     rw[b3]at nN;rw[hr];replace hr:=Xj hr;refine am ?_<;>intros;all_goals exact dg
    |false=>
     rw[b3]at nN;have bB:y.id≠id:=by simpa using b5
     have ln:=d9 (p:=fun s:Sbn=>!((s.id==id)||s.at_.meets p)) hy bP.out (by rw[b3,b5];rfl);replace ln:=Xj ln;replace bB:=Xj bB;replace FM:=Xj FM;cases f with
     |true=>
      have Ec:=Xj (Fq fu.out hy);refine am ?_<;>intros;refine hC _ _ _ _ _ ?_ ⟨k+1,g+1,out++[y],true,hlt,Ec.out,ln.out,rfl,rfl,rfl⟩ (wf (hh:=(by simp only[al,aT,Xo,Xm,Xv,←aI];rfl)));have:=hm.out;omega
     |false=>
      cases b4:decide (y.id>id)with
      |true=>
       have Ec:=Xj (Fr fu.out hy (of_decide_eq_true b4));refine am ?_<;>intros;refine hC _ _ _ _ _ ?_ ⟨k+1,g+1+1,out++[⟨id,p,[]⟩]++[y],true,hlt,Ec.out,ln.out,rfl,rfl,rfl⟩ ((tF 9 rfl (by simp) (rows':=ab ((out++[(⟨id,p,[]⟩:Sbn)]++[y]).map aT)) (by(try rw[aI]);simp only[Xo,Xm,Xv,X4,X8,Ya];exact qV dg) (kN (fun _=>rfl) _)).trans (wf));have:=hm.out;omega
      |false=>
       have Ec:=Xj (Fs fu.out hy (by have:=bB.out;have:=of_decide_eq_false b4;show y.id < id;omega));refine am ?_<;>intros;refine hC _ _ _ _ _ ?_ ⟨k+1,g+1,out++[y],false,hlt,Ec.out,ln.out,rfl,rfl,rfl⟩ (wf (hh:=(by simp only[al,aT,Xo,Xm,Xv,←aI];rfl)));have:=hm.out;omega
   ·obtain rfl:k=v.subs.length:=by omega
    have cg:(v.subs.any fun s=>(s.id==id)||s.at_.meets p)=false:=by
     have bP:=bP.out;rw[Xt]at bP;rw[Yh];intro x hx;have:=XC.1 bP x hx;simpa using this
    have j5:R=if v.subs.length=6 then (Vpc.zero,2)else ({v with subs:=di (·.id) ⟨id,p,[]⟩ v.subs},0):=by rw[fM.out,if_neg (by simp[cg])]
    clear fM cg hC;cases f with
    |true=>
     have he:=AP fu.out;have pL:out.length=v.subs.length+1:=by rw[he,fi]
     rw[←he]at j5;replace he:=Xj he;by_cases h4:v.subs.length=6
     ·rw[if_pos h4]at j5;have hd:decide ((out.length:Int)>6)=true:=by simp;omega
      rw[j5];replace j5:=Xj j5;replace pL:=Xj pL;replace h4:=Xj h4;refine am ?_<;>intros;all_goals exact dg
     ·rw[if_neg h4]at j5;have hd:decide ((out.length:Int)>6)=false:=by simp;omega
      rw[j5];replace j5:=Xj j5;replace pL:=Xj pL;exact bc;all_goals exact dg
    |false=>
     have he:=AQ fu.out;have pL:out.length+1=v.subs.length+1:=by have h:=congrArg I' he;rw[fi]at h;simpa using h
     rw[←he]at j5;replace he:=Xj he;by_cases h4:v.subs.length=6
     ·rw[if_pos h4]at j5;have hd:decide (((out.length+1:Nat):Int)>6)=true:=by simp;omega
      rw[j5];replace j5:=Xj j5;replace pL:=Xj pL;replace h4:=Xj h4;refine am ?_<;>intros;all_goals exact dg
     ·rw[if_neg h4]at j5;have hd:decide (((out.length+1:Nat):Int)>6)=false:=by simp;omega
      rw[j5];replace j5:=Xj j5;replace pL:=Xj pL;refine am ?_<;>intros;all_goals
       simp only[al,Xo,Xm,Xv];exact ai.tup ⟨ai.agg ⟨ai.refl _,ai.refl _,ai.sl (GU dg) (by intro r hr d hd;obtain⟨x,-,rfl⟩:=XQ.1 (by have h:r∈(out++[(⟨id,p,[]⟩:Sbn)]).map aT:=(by rw[Xo];exact hr);exact h);exact XC.1 (show (aT x).all D.one=true from rfl) d hd),trivial⟩ rfl,ai.refl _,trivial⟩
 ·have h1:(bN v !=0)=true:=by simpa using hc
  have hr:R=(Vpc.zero,bN v):=by rw[hR.out];unfold nH;rw[if_pos hc]
  rw[hr];replace hr:=Xj hr;clear hR;refine pj func171 ntmps171 results171 ?_;refine am ?_<;>intros;exact dg
theorem I5 (v:Vpc)(sub id:Int)(hl:v.subs.length≤9223372036854775807)(hf:∀s∈v.subs,s.faces.length≤9223372036854775807):af prog 174 [.agg (al v),.v (.int .i64 sub),.v (.int .i64 id)] (.tup [.agg (al (gn v sub id).1),.v (.int .i64 (gn v sub id).2.1),.v (.int .i64 (gn v sub id).2.2)]):=by
 obtain⟨R,hR⟩:∃R,R=gn v sub id:=⟨_,rfl⟩;rw[←hR];replace hR:=Xj hR;have a9:=gC v hl hf;clear hl hf;by_cases hc:bN v=0
 ·have hk:=aY hc;have Jo:=hk.n4;have Ej:=hk.n6;have db:=uH v sub (by omega);unfold cz at db
  have aP:=hR.out;unfold gn at aP;rw[if_neg (by simpa using hc)]at aP;rw[hc]at a9;clear hR hc;have ur:decide ((-1:Int) < 0)=true:=rfl;cases hf:v.subs.findIdx? (fun s=>s.id==sub)with
  |none=>
   rw[hf]at db aP;simp only at db aP;rw[aP];replace aP:=Xj aP;clear hk hf;refine pj func174 ntmps174 results174 ?_;refine am ?_<;>intros;all_goals exact dg
  |some i=>
   obtain⟨pre,s,post,hv,iP,-,hs⟩:=fL hf;have lN:=Xl hs;have iO:=hk.n8 s lN;obtain⟨s1,s2,s3,s4⟩:=o7 hk lN;have hle:=DH s iO.1 iO.2 s1;have j8:=wP s id (by omega);unfold cz at j8;have j4:decide ((i:Int) < 0)=false:=by simp
   have ph:v.subs.length=pre.length+1+post.length:=by rw[hv];simp;omega
   rw[hf]at db aP;simp only[hs]at db aP;clear hf;cases hg:s.faces.findIdx? (fun f=>f.id==id)with
   |none=>
    rw[hg]at j8 aP;simp only at j8 aP;rw[aP];replace aP:=Xj aP;clear hk hg hv iP ph hle;refine pj func174 ntmps174 results174 ?_;refine am ?_<;>intros;all_goals exact dg
   |some k=>
    obtain⟨preF,f,postF,yp,Bk,-,tj⟩:=fL hg;have D0:=Xl tj;have gp:=Ro v pre post s preF postF f hv yp hk.n4 hk.n6 hk.n8;have gY:=iO.2 f D0;have R9:s.faces.length=preF.length+1+postF.length:=by rw[yp];simp;omega
    have hk0:decide ((k:Int) < 0)=false:=by simp
    rw[hg]at j8 aP;simp only[tj]at j8 aP;by_cases h4:f.addrs.length=4
    ·rw[if_pos h4]at aP;have hd:decide ((f.addrs.length:Int)≥4)=true:=by simp;omega
     rw[aP];replace aP:=Xj aP;replace h4:=Xj h4;clear hk hg hv iP ph gp yp Bk R9;refine pj func174 ntmps174 results174 ?_;refine am ?_<;>intros;all_goals exact dg
    ·rw[if_neg h4]at aP;have hd:decide ((f.addrs.length:Int)≥4)=false:=by simp;omega
     cases hl:eD s with
     |none=>
      rw[hl]at aP hle;simp only[Option.getD_none]at aP hle;rw[aP];replace aP:=Xj aP;clear hk hg hv iP ph gp yp Bk R9 hl;refine pj func174 ntmps174 results174 ?_;refine am ?_<;>intros;all_goals exact dg
     |some a=>
      rw[hl]at aP hle;simp only[YI]at aP hle;have pL:=qi (show fK _ _ _ _=some a from hl);have Wj:0≤a:=by
       have h1:=AH pL.2;obtain⟨-,-,r3,-,-⟩:=s.at_.bd h1.1;omega
      have ha0:decide (a < 0)=false:=by simpa using Wj
      have Nw:a∉f.addrs:=fun h=>pL.1 (ZY.2 ⟨f,D0,h⟩);have uw:f.addrs.Pairwise fun x y=>x < y:=by
       have:=s4 f D0;unfold kT at this;simp only[Xy,f5]at this;exact this.2.2.1
      have fM:R=({v with subs:=pre++{s with faces:=preF++{f with addrs:=di (fun x=>x) a f.addrs}::postF}::post},a,0):=by
       rw[aP];rw[hv,←iP,Yu _ _ (XB _),YG,Xu];rw[yp,←Bk,Yu _ _ (XB _),YG,Xu]
      have jf:(f.addrs.length+1)*8≤140737488355328:=by omega
      have Xh:IntKind.i64.wrap (((f.addrs.length+1:Nat):Int) - 1)=(f.addrs.length:Int):=by rw[IntKind.wrap_i64];omega
      replace fM:=Xj fM;replace Nw:=Xj Nw;replace uw:=Xj uw;replace hv:=Xj hv;replace yp:=Xj yp;clear aP pL hl hk hg s2 s3 s4;subst iP;subst Bk;refine pj func174 ntmps174 results174 ?_;have z1z:=@ck.eq_1;have z2z:=@d8.eq_1;have z3z:=Ln.mk (ls:=[]) (gp);refine am ?_<;>intros;clear a9 db j8 hle gp;refine bL ae ak (fun m e h=>∃(q:Nat) (out:List Int),AR (fun x:Int=>x) a f.addrs q out∧out.length=f.addrs.length+1∧m=q∧e=[(15,.d (.v (.int .i64 q))),(14,.own 10 2),(13,.ptr 11 0),(12,.d (.v (.int .i64 a))),(11,.d (.v (.int .i64 preF.length))),(10,.d (.v (.int .i64 pre.length))),(6,.ptr 1 0)]∧h=[.box 55 ((al v).map .d),.box 55 [.d (.v (.int .i64 0)),.d (.v (.slice none 0 0)),.d (.v (.slice none 0 0))],.gone,.gone,.row 58 3 1 (ab (v.ranges.map bp)),.gone,.row 71 4 (pre.length+1+post.length) (eU aT pre (ck s (.own 8 (preF.length+1+postF.length))) post),.gone,.row 74 2 (preF.length+1+postF.length) (eU cj preF (d8 f (.own 10 1)) postF),.gone,.row 3 1 2 (ab (out.map cy)),.box 55 [.d (.v (.int .i64 v.id)),.own 4 1,.own 6 (pre.length+1+post.length)]]) _ _ _ ⟨f.addrs.length,f.addrs++[a],L7,by simp,rfl,rfl,rfl⟩ (wf (hh:=(by rw[Xo];rfl)) (hb:=cL) (hbh:=cL)) ?_;rintro m e h ⟨q,out,ua,nQ,hm,rfl,rfl⟩ C hC;have s6:=ua.1;have hx:=L8 ua;replace ua:=Xj ua;replace hm:=Xj hm;by_cases h0:0 < q
      ·have Sf:decide ((q:Int)>0)=true:=by simp;omega
       obtain⟨y,hy⟩:∃y,f.addrs[q - 1]? =some y:=⟨_,Xk (by omega)⟩;have Nv:=L9 ua.out h0 hy;have A9:IntKind.i64.wrap ((q:Int) - 1)=((q - 1:Nat):Int):=by rw[IntKind.wrap_i64];omega
       have pu:q < out.length:=by omega
       have Xi:q - 1 < out.length:=by omega
       replace nQ:=Xj nQ;replace h0:=Xj h0;replace hy:=Xj hy;cases b5:decide (y>a)with
       |true=>
        have jm:=Ma ua.out h0.out hy.out (of_decide_eq_true b5);replace jm:=Xj jm;have Nb:∀X:List PV,((ab (out.map cy)).set (q - 1) X)[q]? =some [.d (.v (.int .i64 a))]:=fun X=>by
         rw[Z7 (by have:=h0.out;omega),gM,Xz,hx];rfl
        have z1z:=@ck.eq_1;have z2z:=@d8.eq_1;refine am ?_<;>intros;refine hC _ _ _ _ _ ?_ ⟨q - 1,(out.set (q - 1) a).set q y,jm.out,by rw[YV,YV];exact nQ.out,rfl,rfl,rfl⟩ (wf (hh:=(by simp only[List.map_set,ab];rfl)) (hb:=cL) (hbh:=cL));have:=hm.out;have:=h0.out;omega
       |false=>
        have he:=zC ua.out uw.out (fun z _ hz=>by
         rw[hy.out]at hz;rw[←XX.inj hz];have h1:y≠a:=fun e=>Nw.out (e ▸ Xl hy.out);have h2:=of_decide_eq_false b5;show y < a;omega)
        rw[←he]at fM;have j5:=fM.out;rw[j5];replace j5:=Xj j5;replace he:=Xj he;have z1z:=@ck.eq_1;have z2z:=@d8.eq_1;refine am ?_<;>intros;all_goals(first|omega|(simp only[al,aT,cj,Xo,Xm];exact dg))
      ·have Sf:decide ((q:Int)>0)=false:=by simp;omega
       have he:=zC ua.out uw.out (fun z h _=>absurd h h0);rw[←he]at fM;have j5:=fM.out;rw[j5];replace j5:=Xj j5;replace he:=Xj he;replace h0:=Xj h0;have pu:q < out.length:=by omega
       replace nQ:=Xj nQ;have z1z:=@ck.eq_1;have z2z:=@d8.eq_1;refine am ?_<;>intros;all_goals(first|omega|(simp only[al,aT,cj,Xo,Xm];exact dg))
 ·have h1:(bN v !=0)=true:=by simpa using hc
  have hr:R=(Vpc.zero,0,bN v):=by rw[hR.out];unfold gn;rw[if_pos hc]
  rw[hr];replace hr:=Xj hr;clear hR;refine pj func174 ntmps174 results174 ?_;refine am ?_<;>intros;exact dg
def rH (b:Bok)(vs:List Vpc)(c:Cmd):Bok × Ans:=
 if c.op=1 then ((fS b c.a c.at_ c.rule).1,.er (fS b c.a c.at_ c.rule).2)
 else if c.op=2 then ((fT b c.a c.b c.c c.rule).1,⟨(fT b c.a c.b c.c c.rule).2.2,(fT b c.a c.b c.c c.rule).2.1,0⟩)
 else if c.op=3 then ((fk b c.a).1,.er (fk b c.a).2)
 else if c.op=4 then ((i6 b c.a).1,.er (i6 b c.a).2)
 else if c.op=5 then if gD vs c.c then (⟨0,[]⟩,.er 6)else ((cS b c.a c.b c.c).1,⟨(cS b c.a c.b c.c).2.2,(cS b c.a c.b c.c).2.1,0⟩)
 else if (vs.any fun v=>v.ranges.any fun x=>decide (x=⟨c.at_,c.a⟩))=true then (⟨0,[]⟩,.er 9)else ((fj b c.a c.at_).1,.er (fj b c.a c.at_).2)
theorem Mm (s:Ste)(c:Cmd)(hz:∀p∈s.book.pools,p.leases.length≤3518437208882)(h6:s.net.vpcs.length≤6)(h4:∀v∈s.net.vpcs,v.ranges.length≤1000000000):
 af prog 76 [.agg (fw s),.agg (mg c)] (.tup [.agg (aS (rH s.book s.net.vpcs c).1),.agg (tC (rH s.book s.net.vpcs c).2)]):=by
 have h6x:=h6;unfold rH;by_cases h1:c.op=1
 ·rw[if_pos h1];have hp:=LP s.book c.a c.at_ c.rule hz;generalize fS s.book c.a c.at_ c.rule=R at*;replace hz:=Xj hz;replace h4:=Xj h4;refine pj func76 ntmps76 results76 ?_;first|exact bc|(refine am ?_;exact dz)
 rw[if_neg h1];by_cases h2:c.op=2
 ·rw[if_pos h2];have hp:=LU s.book c.a c.b c.c c.rule hz;generalize fT s.book c.a c.b c.c c.rule=R at*;clear h1;replace hz:=Xj hz;replace h4:=Xj h4;refine pj func76 ntmps76 results76 ?_;first|exact bc|(refine am ?_;exact dz)
 rw[if_neg h2];by_cases h3:c.op=3
 ·rw[if_pos h3];have hp:=IG s.book c.a hz;generalize fk s.book c.a=R at*;clear h1 h2;replace hz:=Xj hz;replace h4:=Xj h4;refine pj func76 ntmps76 results76 ?_;first|exact bc|(refine am ?_;exact dz)
 rw[if_neg h3];by_cases h4':c.op=4
 ·rw[if_pos h4'];have hp:=LX s.book c.a hz;generalize i6 s.book c.a=R at*;clear h1 h2 h3;replace hz:=Xj hz;replace h4:=Xj h4;refine pj func76 ntmps76 results76 ?_;first|exact bc|(refine am ?_;exact dz)
 rw[if_neg h4'];by_cases h5:c.op=5
 ·rw[if_pos h5];have PR:=gP s.net c.c (by omega);have hp:=De s.book c.a c.b c.c hz;have PN:=fO (fun v:Vpc=>v.id==c.c) s.net.vpcs;generalize cS s.book c.a c.b c.c=R at*;unfold gD;clear h1 h2 h3 h4';cases hb:s.net.vpcs.any fun v=>v.id==c.c
  ·rw[hb]at PN;replace hb:=Xj hb;replace hz:=Xj hz;replace h4:=Xj h4;refine pj func76 ntmps76 results76 ?_;first|exact bc|(refine am ?_;exact dz)
  ·rw[hb]at PN;replace hb:=Xj hb;clear hp;replace hz:=Xj hz;replace h4:=Xj h4;refine pj func76 ntmps76 results76 ?_;first|exact bc|(refine am ?_;exact dz)
 rw[if_neg h5];have e1:(c.op==1)=false:=by simpa using h1
 have e2:(c.op==2)=false:=by simpa using h2
 have e3:(c.op==3)=false:=by simpa using h3
 have e4:(c.op==4)=false:=by simpa using h4'
 have e5:(c.op==5)=false:=by simpa using h5
 have MQ:=I3 s.net ⟨c.at_,c.a⟩ (by omega) h4;have hp:=Df s.book c.a c.at_ hz;generalize fj s.book c.a c.at_=R at*;clear h1 h2 h3 h4' h5;cases hb:s.net.vpcs.any fun v=>v.ranges.any fun x=>decide (x=⟨c.at_,c.a⟩)
 ·rw[hb]at MQ;replace hb:=Xj hb;replace hz:=Xj hz;replace h4:=Xj h4;refine pj func76 ntmps76 results76 ?_;first|exact bc|(refine am ?_;exact dz)
 ·rw[hb]at MQ;replace hb:=Xj hb;clear hp;replace hz:=Xj hz;replace h4:=Xj h4;refine pj func76 ntmps76 results76 ?_;first|exact bc|(refine am ?_;exact dz)
def FB (v:Vpc)(c:Cmd):Vpc × Ans:=
 if c.op=10 then ((nH v c.b c.at_).1,.er (nH v c.b c.at_).2)
 else if c.op=11 then ((fp v c.b).1,.er (fp v c.b).2)
 else if c.op=12 then ((gE v c.b c.c).1,⟨(gE v c.b c.c).2.2,⟨0,0⟩,(gE v c.b c.c).2.1⟩)
 else if c.op=13 then ((gn v c.b c.c).1,⟨(gn v c.b c.c).2.2,⟨0,0⟩,(gn v c.b c.c).2.1⟩)
 else ((dX v c.b c.c).1,.er (dX v c.b c.c).2)
theorem Pb (v:Vpc)(c:Cmd)(h6:v.subs.length≤9223372036854775807)(h8:∀s∈v.subs,s.faces.length≤9223372036854775807):
 af prog 85 [.agg (al v),.agg (mg c)] (.tup [.agg (al (FB v c).1),.agg (tC (FB v c).2)]):=by
 unfold FB;by_cases h1:c.op=10
 ·rw[if_pos h1];have hp:=Ml v c.b c.at_ h6 h8;generalize nH v c.b c.at_=R at*;replace h8:=Xj h8;refine pj func85 ntmps85 results85 ?_;first|exact bc|(refine am ?_;exact dz)
 rw[if_neg h1];by_cases h2:c.op=11
 ·rw[if_pos h2];have hp:=FA v c.b h6 h8;generalize fp v c.b=R at*;clear h1;replace h8:=Xj h8;refine pj func85 ntmps85 results85 ?_;first|exact bc|(refine am ?_;exact dz)
 rw[if_neg h2];by_cases h3:c.op=12
 ·rw[if_pos h3];have hp:=I4 v c.b c.c h6 h8;generalize gE v c.b c.c=R at*;clear h1 h2;replace h8:=Xj h8;refine pj func85 ntmps85 results85 ?_;first|exact bc|(refine am ?_;exact dz)
 rw[if_neg h3];by_cases h4:c.op=13
 ·rw[if_pos h4];have hp:=I5 v c.b c.c h6 h8;generalize gn v c.b c.c=R at*;clear h1 h2 h3;replace h8:=Xj h8;refine pj func85 ntmps85 results85 ?_;first|exact bc|(refine am ?_;exact dz)
 rw[if_neg h4];have e1:(c.op==10)=false:=by simpa using h1
 have e2:(c.op==11)=false:=by simpa using h2
 have e3:(c.op==12)=false:=by simpa using h3
 have e4:(c.op==13)=false:=by simpa using h4
 have hp:=DK v c.b c.c h6 h8;generalize dX v c.b c.c=R at*;clear h1 h2 h3 h4;replace h8:=Xj h8;refine pj func85 ntmps85 results85 ?_;first|exact bc|(refine am ?_;exact dz)
theorem I6 {l:List Rng}{p:Pfx}(h:l.findIdx? (fun r=>decide (r.at_=p))=none):l.filter (fun r=>decide (r.at_=p))=[]:=by
 rw[Zo];intro x hx;have:=Yn.1 h x hx;simp[this]
theorem I7 {l:List Rng}{p:Pfx}{i:Nat}{z:Rng}(hs:l.Pairwise fun a b=>a.at_.at_ < b.at_.at_)(h:l.findIdx? (fun r=>decide (r.at_=p))=some i)(hz:l[i]? =some z):l.filter (fun r=>decide (r.at_=p))=[z]∧l.filter (fun r=>!decide (r.at_=p))=l.eraseIdx i:=by
 obtain⟨pre,x,post,hl,iP,hp,hx⟩:=fL h;rw[hz]at hx;obtain rfl:=XX.inj hx;have G6:z.at_=p:=of_decide_eq_true hp;subst hl;subst iP;rw[YT,YC]at hs;have h1:∀a∈pre,¬a.at_=p:=fun a ha e=>by
  have:=hs.2.2 a ha z (by simp);rw[e,G6]at this;omega
 have h2:∀a∈post,¬a.at_=p:=fun a ha e=>by
  have:=hs.2.1.1 a ha;rw[e,G6]at this;omega
 have e1:pre.filter (fun r=>decide (r.at_=p))=[]:=Zo.2 fun a ha=>by simp[h1 a ha]
 have e2:post.filter (fun r=>decide (r.at_=p))=[]:=Zo.2 fun a ha=>by simp[h2 a ha]
 have e3:pre.filter (fun r=>!decide (r.at_=p))=pre:=Y0.2 fun a ha=>by simp[h1 a ha]
 have e4:post.filter (fun r=>!decide (r.at_=p))=post:=Y0.2 fun a ha=>by simp[h2 a ha]
 constructor
 ·rw[YW,Zu,if_pos hp,e1,e2];rfl
 ·rw[YW,Zu,if_neg (by simp[hp]),e3,e4,List.eraseIdx_append_of_length_le (XB _)];simp
theorem I8 (v:Vpc)(p:Pfx)(hl:v.subs.length≤9223372036854775807)(hf:∀s∈v.subs,s.faces.length≤9223372036854775807):af prog 83 [.agg (al v),.agg (aN p)] (.tup [.agg (al (dP v p).1),.agg (bp (dP v p).2.1),.v (.int .i64 (dP v p).2.2)]):=by
 obtain⟨R,hR⟩:∃R,R=dP v p:=⟨_,rfl⟩;rw[←hR];replace hR:=Xj hR;have a9:=gC v hl hf;clear hl hf;by_cases hc:bN v=0
 ·have hk:=aY hc;have Jo:=hk.n4;have Ej:=hk.n6;have gp:=wD v hk.n4 hk.n6 hk.n8;have aP:=hR.out;unfold dP at aP;rw[if_neg (by simpa using hc)]at aP;replace aP:=Xj aP;rw[hc]at a9;have nF:=Xj hk.rr;have V6:=Xj hk.ranges;clear hR hc hk;refine pj func83 ntmps83 results83 ?_;have z1z:=Ln.mk (ls:=[]) (gp);refine am ?_<;>intros;clear gp a9;refine bL ae ak (fun m e h=>∃(k g:Nat) (out:List Rng) (x:Rng),k≤v.ranges.length∧out.length≤k∧out=(v.ranges.take k).filter (fun r=>!decide (r.at_=p))∧x=((v.ranges.take k).filter (fun r=>decide (r.at_=p))).getLastD Rng.zero∧m=v.ranges.length - k∧
   e=[(10,.d (.v (.int .i64 k))),(9,.ptr 10 0),(8,.ptr 9 0),(6,.d (.v (.int .i64 0))),(5,.ptr 3 0),(4,.ptr 2 0),(3,.ptr 1 0),(2,.ptr 0 0)]∧h=[.box 55 ((al v).map .d),.box 32 ((aN p).map .d),.box 55 [.d (.v (.int .i64 0)),.d (.v (.slice none 0 0)),.d (.v (.slice none 0 0))],.box 58 ((bp Rng.zero).map .d),.gone,.gone,.row 58 3 1 (ab (v.ranges.map bp)),.gone,.row 71 4 v.subs.length (ab (v.subs.map aT)),.box 55 [.d (.v (.int .i64 v.id)),.own 11 g,.own 8 v.subs.length],.box 58 ((bp x).map .d),.row 58 3 g (ab (out.map bp))]) _ _ _ ⟨0,0,[],Rng.zero,XE _,XE _,rfl,rfl,rfl,rfl,rfl⟩ ?_ ?_
  ·refine(au (by simp) 9 55 [.d (.v (.int .i64 v.id)),.d (.v (.slice none 0 0)),.own 8 v.subs.length] 1 58 3 rfl rfl rfl).trans ?_;exact wf
  ·rintro m e h ⟨k,g,out,x,hk,nQ,xn,hx,hm,rfl,rfl⟩ C hC;replace hm:=Xj hm;replace xn:=Xj xn;replace hx:=Xj hx;have yd:out.length≤4:=by omega
   have jf:(out.length+1)*24≤140737488355328:=by clear nQ hk Jo;omega
   by_cases hlt:k < v.ranges.length
   ·have dM:(k:Int) < (v.ranges.length:Int):=by omega
    have cR:=wi k (by omega);obtain⟨y,hy⟩:∃y,v.ranges[k]? =some y:=⟨_,Xk hlt⟩;have he:=we y.at_ p;have f1:=sW (f:=fun r:Rng=>!decide (r.at_=p)) hy;have f2:=sW (f:=fun r:Rng=>decide (r.at_=p)) hy;cases b3:decide (y.at_=p)with
    |true=>
     rw[b3]at he;simp only[b3,Z0,YB,if_false,if_true]at f1 f2;replace f1:=Xj f1;replace f2:=Xj f2;replace b3:=Xj b3;refine am ?_<;>intros;refine hC _ _ _ _ _ ?_ ⟨k+1,g,out,y,hlt,by omega,by rw[xn.out,f1.out],by rw[f2.out];simp,rfl,rfl,rfl⟩ (wf (hh:=(by simp only[al,bp,Xo,Xm,Xv,←aI];rfl)));have:=hm.out;omega
    |false=>
     rw[b3]at he;simp only[b3,Bool.not_false,YB,if_false,if_true]at f1 f2;replace f1:=Xj f1;replace f2:=Xj f2;replace b3:=Xj b3;refine am ?_<;>intros;refine hC _ _ _ _ _ ?_ ⟨k+1,g+1,out++[y],x,hlt,by simp;omega,by rw[xn.out,f1.out],by rw[f2.out,hx.out],rfl,rfl,rfl⟩ (wf (hh:=(by simp only[al,bp,Xo,Xm,Xv,←aI];rfl)));have:=hm.out;omega
   ·obtain rfl:k=v.ranges.length:=by omega
    have xn:=xn.out;have hx:=hx.out;rw[Xt]at xn hx;clear hC;have fM:=aP.out;cases hf:v.ranges.findIdx? (fun r=>decide (r.at_=p))with
    |none=>
     rw[hf]at fM;simp only at fM;rw[I6 hf]at hx;have Xg:x.pool=0:=by rw[hx];rfl
     rw[fM];replace fM:=Xj fM;replace hx:=Xj hx;replace xn:=Xj xn;clear hf;refine am ?_<;>intros;all_goals exact dg
    |some i=>
     obtain⟨z,hz⟩:∃z,v.ranges[i]? =some z:=⟨_,Xk (XI.1 hf).1⟩;obtain⟨e1,e2⟩:=I7 nF.out hf hz;rw[hf]at fM;simp only[XK,hz,YI,←e2,←xn]at fM;rw[e1]at hx;obtain rfl:x=z:=hx;have Xg:(x.pool==0)=false:=by
      have:=V6.out x (Xl hz);unfold eB cI at this;simp only[Xy,decide_eq_true_eq]at this;simp;omega
     replace fM:=Xj fM;clear xn e1 e2 hz hf;refine am ?_<;>intros;refine bo ae ak v.subs (fun j=>(v.subs.take j).all (fun s=>!(dO s.at_ p))=true) (fun j=>[(11,.d (.v (.int .i64 j))),(9,.ptr 10 0),(8,.ptr 9 0),(6,.d (.v (.int .i64 0))),(5,.ptr 3 0),(4,.ptr 2 0),(3,.ptr 1 0),(2,.ptr 0 0)]) (fun _=>[.box 55 ((al v).map .d),.box 32 ((aN p).map .d),.box 55 [.d (.v (.int .i64 0)),.d (.v (.slice none 0 0)),.d (.v (.slice none 0 0))],.box 58 ((bp Rng.zero).map .d),.gone,.gone,.row 58 3 1 (ab (v.ranges.map bp)),.gone,.row 71 4 v.subs.length (ab (v.subs.map aT)),.box 55 [.d (.v (.int .i64 v.id)),.own 11 g,.own 8 v.subs.length],.box 58 ((bp x).map .d),.row 58 3 g (ab (out.map bp))]) rfl (wf) ?_ ?_
     ·intro j s hs hj hJ C2 jI;have ip:(j:Int) < (v.subs.length:Int):=by omega
      have kj:=wi j (by omega);have D3:=vG s.at_ p;rw[uB]at D3;cases b4:dO s.at_ p with
      |true=>
       have hr:R=(Vpc.zero,Rng.zero,9):=by rw[fM.out,if_pos (XU.2 ⟨s,Xl hs,b4⟩)]
       rw[hr];replace hr:=Xj hr;rw[b4]at D3;replace hJ:=Xj hJ;refine am ?_<;>intros;all_goals exact dg
      |false=>
       have Bm:=Xj (d9 (p:=fun s:Sbn=>!(dO s.at_ p)) hs hJ (by rw[b4];rfl));rw[b4]at D3;replace hJ:=Xj hJ;refine am ?_<;>intros;exact jI _ _ Bm.out (wf)
     ·intro hJ C2;have cg:(v.subs.any fun s=>dO s.at_ p)=false:=by
       rw[Xt]at hJ;rw[Yh];intro x hx;have:=XC.1 hJ x hx;simpa using this
      have hr:R=({v with ranges:=out},x,0):=by rw[fM.out,if_neg (by simp[cg])]
      rw[hr];replace hr:=Xj hr;replace hJ:=Xj hJ;replace cg:=Xj cg;exact bc;all_goals exact dg
 ·have h1:(bN v !=0)=true:=by simpa using hc
  have hr:R=(Vpc.zero,Rng.zero,bN v):=by rw[hR.out];unfold dP;rw[if_pos hc]
  rw[hr];replace hr:=Xj hr;clear hR;refine pj func83 ntmps83 results83 ?_;refine am ?_<;>intros;exact dg
def I9 (s:Ste)(c:Cmd):Ste × Ans:=
 if 1≤c.op∧c.op≤6 then (⟨(rH s.book s.net.vpcs c).1,s.net⟩,(rH s.book s.net.vpcs c).2)
 else if c.op=7 then if wO s.book c.a=true then (s,.er 6)else (⟨s.book,(iJ s.net c.a).1⟩,.er (iJ s.net c.a).2)
 else if c.op=15 then (⟨s.book,(jk s.net c.a c.b).1⟩,.er (jk s.net c.a c.b).2)
 else if c.op=16 then (⟨s.book,(iI s.net c.a c.b).1⟩,.er (iI s.net c.a c.b).2)
 else if ¬(8≤c.op∧c.op≤14)then (s,.er 4)
 else if cz (fun v=>v.id==c.a) s.net.vpcs < 0 then (s,.er 5)
 else match s.net.vpcs[(cz (fun v=>v.id==c.a) s.net.vpcs).toNat]? with
  |none=>(s,.er 5)
  |some v=>
   if c.op=8 then
    if (cS s.book c.b c.c c.a).2.2=0 then (⟨(cS s.book c.b c.c c.a).1,(gV s.net c.a ⟨(cS s.book c.b c.c c.a).2.1,c.b⟩).1⟩,⟨(gV s.net c.a ⟨(cS s.book c.b c.c c.a).2.1,c.b⟩).2,(cS s.book c.b c.c c.a).2.1,0⟩)
    else (⟨(cS s.book c.b c.c c.a).1,s.net⟩,⟨(cS s.book c.b c.c c.a).2.2,(cS s.book c.b c.c c.a).2.1,0⟩)
   else if c.op=9 then
    if (dP v c.at_).2.2=0 then (⟨(fj s.book (dP v c.at_).2.1.pool (dP v c.at_).2.1.at_).1,{s.net with vpcs:=s.net.vpcs.set (cz (fun v=>v.id==c.a) s.net.vpcs).toNat (dP v c.at_).1}⟩,.er (fj s.book (dP v c.at_).2.1.pool (dP v c.at_).2.1.at_).2)
    else (⟨s.book,{s.net with vpcs:=s.net.vpcs.set (cz (fun v=>v.id==c.a) s.net.vpcs).toNat (dP v c.at_).1}⟩,.er (dP v c.at_).2.2)
   else (⟨s.book,{s.net with vpcs:=s.net.vpcs.set (cz (fun v=>v.id==c.a) s.net.vpcs).toNat (FB v c).1}⟩,(FB v c).2)
theorem Rp (s:Ste)(c:Cmd)(hb:BookOK s.book)(hn:NetOK s.net)(nM:uj s.net):
 af prog 30 [.agg (fw s),.agg (mg c)] (.tup [.agg (fw (I9 s c).1),.agg (tC (I9 s c).2)]):=by
 have n8:=hb.n8;have fB:=hb.l32;have n6:=hn.n6;have hz:∀p∈s.book.pools,p.leases.length≤3518437208882:=fun p hp=>by have:=fB p hp;omega
 have pw:∀v∈s.net.vpcs,VpcOK v:=fun v hv=>aY (hn.vp v hv);have gp:=Ln.mk (ls:=[]) (iK s.book (by omega) fB);have Pw:=Ln.mk (ls:=[]) (mI s.net n6 hn.n12 hn.vp);have PR:=gP s.net c.a (by omega);have cl:=f7 c.op 1 6;have cD:=f7 c.op 8 14;clear hb hn;unfold I9;by_cases ho:1≤c.op∧c.op≤6
 ·rw[if_pos ho];have hp:=Mm s c hz n6 (fun v hv=>by have:=(pw v hv).n4;omega);have e1:(decide (1≤c.op)&&decide (c.op≤6))=true:=by simp[ho.1,ho.2]
  rw[e1]at cl;generalize rH s.book s.net.vpcs c=R at*;clear cD;replace ho:=Xj ho;replace hz:=Xj hz;replace fB:=Xj fB;replace pw:=Xj pw;refine pj func30 ntmps30 results30 ?_;first|exact bc|(refine am ?_;exact dz)
 rw[if_neg ho];have e1:(decide (1≤c.op)&&decide (c.op≤6))=false:=by rw[ZK];simp only[decide_eq_false_iff_not];omega
 rw[e1]at cl;replace ho:=Xj ho;by_cases h7:c.op=7
 ·rw[if_pos h7];have e7:(c.op==7)=true:=by simpa using h7
  replace h7:=Xj h7;have hp:=Pa s.book c.a (by omega) (fun p hp=>by have:=fB p hp;omega);have hm:=IR s.net c.a nM;generalize iJ s.net c.a=R at*;clear cD;replace hz:=Xj hz;replace fB:=Xj fB;replace pw:=Xj pw;replace nM:=Xj nM;by_cases hw:wO s.book c.a=true
  ·rw[if_pos hw];rw[hw]at hp;refine pj func30 ntmps30 results30 ?_;first|exact bc|(refine am ?_;exact dz)
  ·rw[if_neg hw];rw[ZI]at hw;rw[hw]at hp;refine pj func30 ntmps30 results30 ?_;first|exact bc|(refine am ?_;exact dz)
 rw[if_neg h7];have e7:(c.op==7)=false:=by simpa using h7
 by_cases FX:c.op=15
 ·rw[if_pos FX];have e15:(c.op==15)=true:=by simpa using FX
  replace FX:=Xj FX;have hm:=IV s.net c.a c.b nM;generalize jk s.net c.a c.b=R at*;clear cD;replace hz:=Xj hz;replace fB:=Xj fB;replace pw:=Xj pw;replace nM:=Xj nM;refine pj func30 ntmps30 results30 ?_;first|exact bc|(refine am ?_;exact dz)
 rw[if_neg FX];have e15:(c.op==15)=false:=by simpa using FX
 by_cases zP:c.op=16
 ·rw[if_pos zP];have e16:(c.op==16)=true:=by simpa using zP
  replace zP:=Xj zP;have hm:=IU s.net c.a c.b nM;generalize iI s.net c.a c.b=R at*;clear cD;replace hz:=Xj hz;replace fB:=Xj fB;replace pw:=Xj pw;replace nM:=Xj nM;refine pj func30 ntmps30 results30 ?_;first|exact bc|(refine am ?_;exact dz)
 rw[if_neg zP];have e16:(c.op==16)=false:=by simpa using zP
 replace h7:=Xj h7;replace FX:=Xj FX;replace zP:=Xj zP;by_cases h8:8≤c.op∧c.op≤14
 ·rw[if_neg (by simpa using h8)];have e8:(decide (8≤c.op)&&decide (c.op≤14))=true:=by simp[h8.1,h8.2]
  rw[e8]at cD;replace h8:=Xj h8;rcases sS (fun v:Vpc=>v.id==c.a) s.net.vpcs with hi|⟨k,v,hk,hv⟩
  ·rw[if_pos hi];have e9:decide (cz (fun v:Vpc=>v.id==c.a) s.net.vpcs < 0)=true:=by simpa using hi
   generalize cz (fun v:Vpc=>v.id==c.a) s.net.vpcs=i at*;replace hz:=Xj hz;replace fB:=Xj fB;replace pw:=Xj pw;replace nM:=Xj nM;replace hi:=Xj hi;refine pj func30 ntmps30 results30 ?_;first|exact bc|(refine am ?_;exact dz)
  ·rw[hk]at PR ⊢;rw[if_neg (by omega),Int.toNat_natCast,hv];dsimp only;have hlt:=(Xn.1 hv).1;have dM:(k:Int) < (s.net.vpcs.length:Int):=by omega
   have e9:decide ((k:Int) < 0)=false:=by simp
   have rV:=Xl hv;have bF:=pw v rV;have hs6:v.subs.length≤9223372036854775807:=by have:=bF.n6;omega
   have hs8:∀s∈v.subs,s.faces.length≤9223372036854775807:=fun s hs=>by have:=(bF.n8 s hs).1;omega
   have bZ:=fun(x:Vpc)=>bO al s.net.vpcs k x;replace hk:=Xj hk;replace rV:=Xj rV;replace bF:=Xj bF;clear pw;by_cases h8:c.op=8
   ·rw[if_pos h8];have e8:(c.op==8)=true:=by simpa using h8
    replace h8:=Xj h8;have hp:=De s.book c.b c.c c.a hz;generalize cS s.book c.b c.c c.a=R at*;by_cases h0:R.2.2=0
    ·rw[if_pos h0];have hg:=IS s.net c.a ⟨R.2.1,c.b⟩ nM;generalize gV s.net c.a ⟨R.2.1,c.b⟩=G at*;replace hz:=Xj hz;replace fB:=Xj fB;replace nM:=Xj nM;refine pj func30 ntmps30 results30 ?_;first|exact bc|(refine am ?_;exact dz)
    ·rw[if_neg h0];have e0:(R.2.2==0)=false:=by simpa using h0
     replace hz:=Xj hz;replace fB:=Xj fB;replace nM:=Xj nM;replace h0:=Xj h0;refine pj func30 ntmps30 results30 ?_;first|exact bc|(refine am ?_;exact dz)
   rw[if_neg h8];have e8:(c.op==8)=false:=by simpa using h8
   by_cases h9:c.op=9
   ·rw[if_pos h9];have e9:(c.op==9)=true:=by simpa using h9
    replace h9:=Xj h9;have hp:=I8 v c.at_ hs6 hs8;generalize dP v c.at_=R at*;have bZ:(ab (s.net.vpcs.map al)).set k [.d (.v (.int .i64 R.1.id)),.d (.sl 3 (R.1.ranges.map bp)),.d (.sl 4 (R.1.subs.map aT))]=ab ((s.net.vpcs.set k R.1).map al):=bZ R.1;by_cases h0:R.2.2=0
    ·rw[if_pos h0];have hg:=Df s.book R.2.1.pool R.2.1.at_ hz;generalize fj s.book R.2.1.pool R.2.1.at_=G at*;replace hz:=Xj hz;replace fB:=Xj fB;replace nM:=Xj nM;refine pj func30 ntmps30 results30 ?_;first|exact bc|(refine am ?_;exact dz)
    ·rw[if_neg h0];have e0:(R.2.2==0)=false:=by simpa using h0
     replace h0:=Xj h0;replace hz:=Xj hz;replace fB:=Xj fB;replace nM:=Xj nM;refine pj func30 ntmps30 results30 ?_;first|exact bc|(refine am ?_;exact dz)
   rw[if_neg h9];have e9:(c.op==9)=false:=by simpa using h9
   replace h9:=Xj h9;have hp:=Pb v c hs6 hs8;generalize FB v c=R at*;have bZ:(ab (s.net.vpcs.map al)).set k [.d (.v (.int .i64 R.1.id)),.d (.sl 3 (R.1.ranges.map bp)),.d (.sl 4 (R.1.subs.map aT))]=ab ((s.net.vpcs.set k R.1).map al):=bZ R.1;replace hz:=Xj hz;replace fB:=Xj fB;replace nM:=Xj nM;refine pj func30 ntmps30 results30 ?_;first|exact bc|(refine am ?_;exact dz)
 ·rw[if_pos h8];have e8:(decide (8≤c.op)&&decide (c.op≤14))=false:=by rw[ZK];simp only[decide_eq_false_iff_not];omega
  rw[e8]at cD;replace h8:=Xj h8;replace hz:=Xj hz;replace fB:=Xj fB;replace pw:=Xj pw;replace nM:=Xj nM;refine pj func30 ntmps30 results30 ?_;first|exact bc|(refine am ?_;exact dz)
theorem Pc {b:Bok}(h:BookOK b)(id:Int):tN (uh b) id=wO b id:=by
 rw[AV h,Yi];unfold tN wO;simp only[XU,Xy,beq_iff_eq];constructor
 ·rintro⟨⟨k,o⟩,hm,ho⟩;obtain⟨p,hp,l,hl,h1,-,h2⟩:=qn.1 hm;exact⟨p,hp,l,hl,h1,by rw[←h2];exact ho⟩
 ·rintro⟨p,hp,l,hl,h1,h2⟩;exact⟨([l.at_.at_,l.at_.len,p.id],l.owner),qn.2 ⟨p,hp,l,hl,h1,rfl,rfl⟩,h2⟩
theorem Mn (vs:List Vpc)(r:Rng):GJ vs r=vs.any fun v=>v.ranges.any fun x=>decide (x=r):=by
 unfold GJ;have:(fun x:Rng=>decide (r=x))=fun x=>decide (x=r):=by funext x;exact decide_eq_decide.2 ⟨fun h=>h.symm,fun h=>h.symm⟩
 rw[this]
structure SameAct (a b:Ste × Ans):Prop where
 err:a.2.err=b.2.err
 eq:a.2.err=0→a=b
theorem SameAct.refl (a:Ste × Ans):SameAct a a:=⟨rfl,fun _=>rfl⟩
theorem Ja (b:Bok)(vs:List Vpc)(lk:List Lnk)(c:Cmd)(h:1≤c.op∧c.op≤6):SameAct (⟨(rH b vs c).1,⟨vs,lk⟩⟩,(rH b vs c).2) (⟨(mF b vs c).1,⟨vs,lk⟩⟩,(mF b vs c).2):=by
 unfold rH mF;by_cases h1:c.op=1
 ·rw[if_pos h1,if_pos h1];exact .refl _
 rw[if_neg h1,if_neg h1];by_cases h2:c.op=2
 ·rw[if_pos h2,if_pos h2];exact .refl _
 rw[if_neg h2,if_neg h2];by_cases h3:c.op=3
 ·rw[if_pos h3,if_pos h3];exact .refl _
 rw[if_neg h3,if_neg h3];by_cases h4:c.op=4
 ·rw[if_pos h4,if_pos h4];exact .refl _
 rw[if_neg h4,if_neg h4];by_cases h5:c.op=5
 ·rw[if_pos h5,if_pos h5];cases gD vs c.c
  ·exact .refl _
  ·exact⟨rfl,fun e=>absurd e (by simp[Ans.er])⟩
 rw[if_neg h5,if_neg h5,if_pos (show c.op=6 by omega),Mn];cases vs.any fun v=>v.ranges.any fun x=>decide (x=(⟨c.at_,c.a⟩:Rng))
 ·exact .refl _
 ·exact⟨rfl,fun e=>absurd e (by simp[Ans.er])⟩
theorem Mo (s:Ste)(c:Cmd)(hb:BookOK s.book):SameAct (I9 s c) (AI s c):=by
 unfold I9 AI;by_cases h1:1≤c.op∧c.op≤6
 ·rw[if_pos h1,if_pos h1];exact Ja s.book s.net.vpcs s.net.links c h1
 rw[if_neg h1,if_neg h1];unfold zo xS;by_cases h7:c.op=7
 ·rw[if_pos h7,if_pos (show decide (c.op=7∨c.op=15∨c.op=16)=true by simp[h7]),if_pos h7,Pc hb];by_cases hw:wO s.book c.a=true
  ·rw[if_pos hw,if_pos hw];exact⟨rfl,fun e=>absurd e (by simp[Ans.er])⟩
  ·rw[if_neg hw,if_neg hw];exact .refl _
 rw[if_neg h7];by_cases FX:c.op=15
 ·rw[if_pos FX,if_pos (show decide (c.op=7∨c.op=15∨c.op=16)=true by simp[FX]),if_neg h7,if_pos FX];exact .refl _
 rw[if_neg FX];by_cases zP:c.op=16
 ·rw[if_pos zP,if_pos (show decide (c.op=7∨c.op=15∨c.op=16)=true by simp[zP]),if_neg h7,if_neg FX];exact .refl _
 rw[if_neg zP,if_neg (show ¬decide (c.op=7∨c.op=15∨c.op=16)=true by simp[h7,FX,zP])];by_cases h8:8≤c.op∧c.op≤14
 ·rw[if_neg (by simpa using h8),if_pos h8];unfold jB;rcases sS (fun v:Vpc=>v.id==c.a) s.net.vpcs with hi|⟨k,v,hk,hv⟩
  ·rw[if_pos hi,if_pos hi];exact .refl _
  ·have hk0:¬(k:Int) < 0:=by omega
   rw[hk,if_neg hk0,if_neg hk0,Int.toNat_natCast,hv];dsimp only;unfold lQ;by_cases h9:c.op=8
   ·rw[if_pos h9,if_pos h9];by_cases h0:(cS s.book c.b c.c c.a).2.2=0
    ·rw[if_pos h0,if_pos h0];exact .refl _
    ·rw[if_neg h0,if_neg h0];exact .refl _
   rw[if_neg h9,if_neg h9];by_cases h9:c.op=9
   ·rw[if_pos h9,if_pos h9];by_cases h0:(dP v c.at_).2.2=0
    ·rw[if_pos h0,if_pos h0];exact .refl _
    ·rw[if_neg h0,if_neg h0];exact .refl _
   rw[if_neg h9,if_neg h9];unfold FB;by_cases h2:c.op=10
   ·rw[if_pos h2,if_pos h2];exact .refl _
   rw[if_neg h2,if_neg h2];by_cases h2:c.op=11
   ·rw[if_pos h2,if_pos h2];exact .refl _
   rw[if_neg h2,if_neg h2];by_cases h2:c.op=12
   ·rw[if_pos h2,if_pos h2];exact .refl _
   rw[if_neg h2,if_neg h2];by_cases h2:c.op=13
   ·rw[if_pos h2,if_pos h2];exact .refl _
   rw[if_neg h2,if_neg h2];exact .refl _
 ·rw[if_pos h8,if_neg h8];exact⟨rfl,fun e=>absurd e (by simp[Ans.er])⟩
theorem S7 (s:Ste)(c:Cmd)(hz:∀p∈s.book.pools,p.leases.length≤3518437208882)(nM:uj s.net):af prog 9 [.agg (fw s),.agg (mg c)] (.tup [.agg (fw (AJ s c).1),.agg (tC (AJ s c).2.1),.v (.int .i64 (AJ s c).2.2)]):=by
 have hc:=tX s hz nM;unfold AJ;by_cases h:ig s=0
 ·rw[if_neg (by simpa using h)];rw[h]at hc;obtain⟨yd,pi⟩:=wu h;have zR:=dI yd;have cg:=gU.1 pi;have hdo:=Rp s c zR cg nM;have zO:=Mo s c zR;have gp:=Ln.mk (ls:=[]) (iK s.book zR.n8 zR.l32);have Pw:=Ln.mk (ls:=[]) (mI s.net cg.n6 cg.n12 cg.vp);clear h yd pi zR cg;replace hz:=Xj hz;replace nM:=Xj nM;generalize I9 s c=R at*;by_cases he:(AI s c).2.err=0
  ·rw[if_neg (by simpa using he)];have he':R.2.err=0:=by rw[zO.err];exact he
   rw[←zO.eq he'];replace he:=Xj he;clear zO;refine pj func9 ntmps9 results9 ?_;first|exact bc|(refine am ?_;exact dz)
  ·rw[if_pos he];have he':(R.2.err !=0)=true:=by rw[zO.err];simpa using he
   rw[←zO.err];replace he:=Xj he;clear zO;refine pj func9 ntmps9 results9 ?_;first|exact bc|(refine am ?_;exact dz)
 ·rw[if_pos h];have e1:(ig s !=0)=true:=by simpa using h
  generalize ig s=X at*;replace h:=Xj h;clear hz nM;refine pj func9 ntmps9 results9 ?_;first|exact bc|(refine am ?_;exact dz)
theorem RealC.box_le {X:Cfg}{e:cw}{h:List Chunk}{a:Act}{w:World}{c:Cx}(hr:RealC X (bQ e h) a w c){k T:Nat}{cells cells':List PV}(hk:aG h k= .box T cells)(hlt:k < h.length)(hle:ue cells cells')(h1:∀d∈cells',d.one=true):
 RealC X (bQ e (bw h k (.box T cells'))) a w c:=by
 have hh:∀k',(bQ e (bw h k (.box T cells'))).heap k'=if k'=k then .box T cells' else (bQ e h).heap k':=fun k'=>gL (p' hlt) k';have hb:∀k',c.block k' ((bQ e (bw h k (.box T cells'))).heap k')=c.block k' ((bQ e h).heap k'):=by
  intro k';rw[hh];split
  ·rename_i he;subst he;show _=c.block k' (aG h k');rw[hk];rfl
  ·rfl
 refine⟨hr.size,hr.defers,hr.ext,hr.inv,hr.fresh,fun b=>?_,fun k' b G8=>?_,fun k' k'' b h1 h2=>?_,hr.env,fun k'=>?_,hr.lent⟩
 ·rw[hr.mu b];simp only[hb]
 ·rw[hb]at G8;exact hr.new k' b G8
 ·rw[hb]at h1 h2;exact hr.apart k' k'' b h1 h2
 ·rw[hh];split
  ·rename_i he;subst he;have a9:=hr.chunk k';rw[show (bQ e h).heap k'=_ from hk]at a9;cases a9 with
   |box _ _ b vs hb hhp DW eS=>exact .box T cells' b vs hb hhp (qS hle DW) h1
  ·exact hr.chunk k'
theorem DL {P:Program}{n m:Nat}{e:cw}{h:List Chunk}(k:Nat){T:Nat}(ds ds':List D)(hk:aG h k= .box T (ds.map .d))(hlt:k < h.length)(hle:pU ds ds')(h1:ds'.all D.one=true):eA P n m e h e (bw h k (.box T (ds'.map .d))):=
 fun X _ _ _ a w ⟨c,hc⟩=>⟨c,hc.box_le hk hlt (EN hle) fun d hd=>by
  obtain⟨x,hx,rfl⟩:=XQ.1 hd;exact XC.1 h1 x hx⟩
theorem Pd {l:List Cmd}{k:Nat}{c:Cmd}(h:l[k]? =some c):mJ .zero (l.take (k+1))=(AJ (mJ .zero (l.take k)) c).1∧oL .zero (l.take (k+1))=oL .zero (l.take k)++[(AJ (mJ .zero (l.take k)) c).2.1]:=by
 rw[ag h,wJ,wK];exact⟨rfl,rfl⟩
theorem Rq (l:List Cmd):af prog 14 [.sl 10 (l.map mg)] (.tup [.agg (fw (DE l).1),.sl 4 ((DE l).2.1.map tC),.v (.int .i64 (DE l).2.2)]):=by
 unfold DE;by_cases h:200 < l.length
 ·rw[if_pos h];have e1:decide ((l.length:Int)>200)=true:=by simp;omega
  replace h:=Xj h;refine pj func14 ntmps14 results14 ?_;refine am ?_;exact dz
 ·rw[if_neg h];have e1:decide ((l.length:Int)>200)=false:=by simp;omega
  have hle:l.length≤200:=by omega
  clear h;refine pj func14 ntmps14 results14 ?_;refine am ?_;refine bo ae ak l (fun _=>True) (fun k=>[(18,.d (.v (.int .i64 k))),(17,.d (.v (.int .i64 l.length))),(16,.d (.sl 10 (l.map mg))),(6,.own 2 k),(5,.ptr 1 0),(2,.ptr 0 0)])
   (fun k=>[.box 30 [.d (.v (.int .i64 0)),.d (.v (.slice none 0 0)),.d (.v (.slice none 0 0)),.d (.v (.slice none 0 0))],.box 30 ((fw (mJ .zero (l.take k))).map .d),.row 39 4 k (ab ((oL .zero (l.take k)).map tC))]) trivial ?_ ?_ ?_
  ·refine(dr (by simp) 6 39 4 rfl).trans ((DL 1 [.v (.int .i64 0),.v (.slice none 0 0),.v (.slice none 0 0),.v (.slice none 0 0)] (fw .zero) rfl (by simp) ⟨ai.refl _,ai.nil _,ai.nil _,ai.nil _,trivial⟩ rfl).trans ?_);exact wf
  ·intro k c hc hk _ C hC;have dM:(k:Int) < (l.length:Int):=by omega
   have cR:=wi k (by omega);have lN:=DF (l.take k);have hdo:=S4 (mJ .zero (l.take k)) c lN.hz;obtain⟨lT,qs⟩:=Pd hc;have iP:=zG (l.take k) .zero;have hlt:(Yg k l).length=k:=by rw[Xq];omega
   rw[hlt]at iP;generalize AJ (mJ .zero (l.take k)) c=R at*;generalize mJ .zero (l.take k)=S at*;generalize oL .zero (l.take k)=A at*;replace lT:=Xj lT;replace qs:=Xj qs;replace lN:=Xj lN;refine am ?_;refine hC _ _ trivial ?_;rw[lT.out,qs.out];exact wf (hh:=by rw[Xo,Xm,Xv];rfl)
  ·intro _ C;rw[Xt];first|exact bc|(refine am ?_;exact dz)
theorem DM (s:Ste)(h:pc s):af prog 13 [.agg (fw s),.agg (fw s)] (.v (.bool true)):=by
 have h1:=Di s.book h.1;have h2:=Fv s.net h.2;clear h;refine pj func13 ntmps13 results13 ?_;exact bc
def c0 (op a b c:Int):Cmd:=⟨op,a,b,c,⟨0,0⟩,⟨0,0,0,0⟩⟩
def G1:List Cmd:=[⟨1,7,0,0,⟨256,8⟩,LY⟩,c0 7 1 0 0,c0 7 2 0 0,c0 8 1 7 10,c0 8 2 7 0,c0 15 2 1 0,⟨10,1,4,0,⟨256,14⟩,⟨0,0,0,0⟩⟩,c0 12 1 4 9,⟨9,2,0,0,⟨320,12⟩,⟨0,0,0,0⟩⟩,⟨6,7,0,0,⟨256,10⟩,⟨0,0,0,0⟩⟩]
theorem Rr:af prog 31 [] (.sl 10 (G1.map mg)):=by
 have h:=O3;refine pj func31 ntmps31 results31 ?_;first|exact bc|(refine am ?_;exact dz)
def S8:Ste:=⟨⟨0,[⟨7,0,⟨256,8⟩,⟨8,16,12,3⟩,[⟨⟨256,10⟩,1,1,0⟩,⟨⟨320,12⟩,3,0,3⟩]⟩]⟩,⟨[⟨1,[⟨⟨256,10⟩,7⟩],[⟨4,⟨256,14⟩,[⟨9,[257]⟩]⟩]⟩,⟨2,[],[]⟩],[⟨1,2⟩]⟩⟩
def Wp:List Ans:=[.er 0,.er 0,.er 0,⟨0,⟨256,10⟩,0⟩,⟨0,⟨320,12⟩,0⟩,.er 0,.er 0,⟨0,⟨0,0⟩,257⟩,.er 0,.er 9]
theorem Mp:DE G1=(S8,Wp,0):=by kernel_rfl
theorem Rs:ig S8=0:=by kernel_rfl
theorem DN:af prog 10 [] (.v (.bool true)):=by
 have h1:=Rr;have h2:=Rq G1;have h3:=v9 S8 (by simp[S8]);rw[Rs]at h3;rw[Mp]at h2;generalize G1.map mg=L at*;simp only[S8,Wp,Ans.er,fw,ah,al,bG,tC,aV,bp,aT,cj,cy,Xm,Xv]at h2 h3;refine pj func10 ntmps10 results10 ?_;refine am ?_;simp only[List.append_eq,X8,Ya];exact bc
theorem FC (s:Ste)(c:Cmd)(hz:∀p∈s.book.pools,p.leases.length≤3518437208882)(nM:uj s.net):af prog 3 [.agg (fw s),.agg (mg c)] (.v (.bool true)):=by
 have h1:=S4 s c hz;have h2:=S7 s c hz nM;have h3:=DN;have h4:=v9 s hz;have h5:=tX s hz nM;have h6:=DM _ (zF s c);generalize AJ s c=R at*;generalize ig s=E at*;clear hz nM;refine pj func3 ntmps3 results3 ?_;exact bc
section
open Go.Proofs Go.ChangeShapes Go.WideShapes Go.Deep
def NM:Nat→Prop:=fun _=>False
section
variable {H:Type}{enc:TypeId × Value→H}{P:Program}{w:World}{base:Nat}{spare:Nat→Bool}{held:Bool}
def xp {α:Type}(enc:TypeId × Value→H)(P:Program)(w:World)(base:Nat)(spare:Nat→Bool)(held:Bool)(t:TypeId)(R:List Value→α→Prop)(S:α→Prop):Prop:=
 ∀fuel cs x,DataW.trod enc P w base spare held fuel t cs=some x→∃a,R cs a∧((∀n∈x.1.weights P t,n≤reachBytes)→S a)
theorem wR {α:Type}{t:TypeId}{R:List Value→α→Prop}(h:Rd enc P w base spare held t R):xp enc P w base spare held t R (fun _=>True):=by
 intro fuel cs x hx;obtain⟨a,ha⟩:=h fuel cs x hx;exact⟨a,ha,fun _=>trivial⟩
theorem tY {e:TypeId}:∀{l:List (DataW H)}{d:DataW H},d∈l→∀n∈d.weights P e,n∈DataW.weightsAll P e l
 |a::l,d,h,n,hn=>by
  simp only[DataW.weightsAll,X3];rcases X7.1 h with rfl|h
  ·exact .inl hn
  ·exact .inr (tY h n hn)
theorem f8 {α:Type}{t:TypeId}{fs:Array Field}{fuel:Nat}{cs:List Value}{x:DataW H × List MemPlace}(ht:P.underlying t=some (.struct fs))(h:DataW.trod enc P w base spare held fuel t cs=some x)
 (j:Nat) {f:Field} (hf:fs[j]? =some f) {R:List Value→α→Prop}{S:α→Prop} (hr:xp enc P w base spare held f.type R S):∃a,R ((cs.drop f.offset).take (P.cellsOf f.type)) a∧((∀n∈x.1.weights P t,n≤reachBytes)→S a):=by
 obtain⟨xs,n,_,rfl,_,bR,hg⟩:=DataW.trod_struct ht h;have h1:=hg j f hf;have hj:j < xs.length:=by rw[bR];exact(Ys.1 hf).1
 rw[Xk hj]at h1;obtain⟨a,ha,hs⟩:=hr _ _ _ h1;refine⟨a,ha,fun hw=>hs fun n hn=>hw n ?_⟩;simp only[DataW.weights,ht];exact DataW.weights_mem_each (j:=j) (t:=f.type) (d:=(xs[j]).1) (by simp[hf]) (by simp[Xk hj]) n hn
theorem iM {α:Type}{t e:TypeId}{k:Nat}{R:List Value→α→Prop}{S:α→Prop}(ht:P.underlying t=some (.slice e))(hc:P.cellsOf e=k+1)(he:xp enc P w base spare held e R S):
 xp enc P w base spare held t (fun cs (l:List α)=>∃v,cs=[v]∧SB (inW w) w (k+1) R v l) (fun l=>l.length*P.bytesOf e≤reachBytes∧∀a∈l,S a):=by
 intro fuel cs x hx;rcases open_slice ht hx with⟨rfl,rfl⟩|⟨a,len,cap,m,n,D,Pl,rfl,hb,hl,hm,FQ,rfl,hi⟩
 ·exact⟨[],⟨_,rfl,none,0,rfl,⟨XB _,by decide,fun i h=>by simp at h⟩⟩,fun _=>⟨by simp,fun a h=>by simp at h⟩⟩
 ·have lS:len≤m:=by rw[FQ];split<;>omega
  obtain⟨l,xm,hq⟩:=sO (Q:=fun i y=>∃cs',w.cells? base (a.add (i*P.cellsOf e)) (P.cellsOf e)=some cs'∧R cs' y∧((∀n∈(D i).weights P e,n≤reachBytes)→S y)) len fun i h=>by
   obtain⟨cs',h1,h2⟩:=hi i (by omega);obtain⟨y,hy,hs⟩:=he _ _ _ h2;exact⟨y,cs',h1,hy,hs⟩
  refine⟨l,⟨_,rfl,some a,cap,by rw[xm],⟨by omega,by unfold maxLen at hm;omega,fun i h=>?_⟩⟩,fun hw=>⟨?_,fun y hy=>?_⟩⟩
  ·obtain⟨cs',h1,h2,-⟩:=hq i h;rw[hc]at h1;obtain⟨_,fV,db⟩:=World.cells?_some h1;obtain⟨b,off,spot⟩:=a;have Ul:spot=none:=by
    obtain⟨cs0,g1,_⟩:=hq 0 (by omega);rw[hc]at g1;obtain⟨_,gcl,gat⟩:=World.cells?_some g1;have g0:=gat (i:=0) (by omega);have g0':w.cell? ⟨b,off,spot⟩=some (cs0[0]'(by omega)):=by
     have:((⟨b,off,spot⟩:Addr).add (0*(k+1))).add 0=⟨b,off,spot⟩:=by simp[Addr.add]
     rw[this]at g0;rw[g0];exact Xk (by omega)
    exact World.cell?_spot g0'
   subst Ul;have PU:∀o j,((⟨b,o,none⟩:Addr).add j)=⟨b,o+j,none⟩:=by
    intro o j;unfold Addr.add;split<;>simp_all
   refine⟨b,off,cs',rfl,?_,fV,h2,fun j hj=>?_⟩
   ·have:=db (i:=0) (by omega);rw[PU,PU]at this;exact dF (this.trans (Xk (by omega)))
   ·have:=db (i:=j) (by omega);rw[PU,PU]at this;rw[this];exact Xk hj
  ·have:=hw (((X5 len).map D).length+((X5 (m - len)).map fun j=>D (len+j)).length|>(·*P.bytesOf e)) (by simp[DataW.weights,ht]);simp only[XD,List.length_range]at this;rw[xm];exact Yz (Yt _ (by omega)) this
  ·obtain⟨i,UB,rfl⟩:=X0.1 hy;obtain⟨cs',h1,h2,h3⟩:=hq i UB;refine h3 fun n hn=>hw n ?_;simp only[DataW.weights,ht];refine Zc _ (ZP _ (tY (d:=D i) (XQ.2 ⟨i,by simp;omega,rfl⟩) n hn))
theorem S9 {α:Type}{R:List Value→α→Prop}{S:α→Prop}{r:Reach}{b0:Nat}{t:TypeId}{fs:Array Field}{v:Value}{d:DataW H}{p:List MemPlace}(ht:P.underlying t=some (.struct fs))(Nj:Value.okWide P w r b0 t v)(hd:DataW.Trod enc P w base spare held t v d p)
 (hr:xp enc P w base spare held t R S):∃cs a,v= .agg cs∧R cs.toList a∧((∀n∈d.weights P t,n≤reachBytes)→S a):=by
 obtain⟨cs,rfl,_⟩:=okWide_struct ht Nj;obtain⟨fuel,hf⟩:=hd;obtain⟨a,ha,hs⟩:=hr _ _ _ hf;exact⟨cs,a,rfl,by simpa[Value.cells]using ha,hs⟩
end
end
section
open Go.Proofs Go.ChangeShapes Go.WideShapes Go.Deep
theorem j3 {α:Type}{enc:α→List D}{sz:Nat}{w:World}(h0:0 < sz)(hen:∀a,(enc a).length=sz∧∀d∈enc a,d.one=true){v:Value}{l:List α}(h:SB (inW w) w sz (fun cs a=>cu NM w (enc a) cs) v l):RepD NM w (.sl sz (l.map enc)) v:=by
 obtain⟨ao,cap,rfl,hs⟩:=h;cases l with
 |nil=>exact .nil sz ao cap hs.cap_max
 |cons u us=>
  obtain⟨b,off,cs,rfl,hAb,hl,hR,fq⟩:=hs.elem 0 (by simp);have key:∀i (hi:i < (u::us).length),∃cs:List Value,cs.length=sz∧cu NM w (enc (u::us)[i]) cs∧lA w b (off+i*sz) cs:=by
   intro i hi;obtain⟨b',off',cs',e,-,hl',hR',yk⟩:=hs.elem i hi;cases e;exact⟨cs',hl',hR',yk⟩
  have bR:((u::us).map enc).length=(u::us).length:=by simp
  rw[←bR];refine .sl sz ((u::us).map enc) b off cap (fun i j=>(w.cell? ⟨b,off+i*sz+j,none⟩).getD undef) (fun h=>h) hAb (by rw[bR];exact hs.cap_le) hs.cap_max (fun r hr=>?_) (fun r hr=>?_) (fun i j hi hj=>?_) (fun i j row d hi hj=>?_)
  ·obtain⟨x,-,rfl⟩:=XQ.1 hr;exact(hen x).1
  ·obtain⟨x,-,rfl⟩:=XQ.1 hr;exact(hen x).2
  ·obtain⟨cs',hl',-,yk⟩:=key i (by simpa using hi);rw[yk j (by omega)];rfl
  ·have hi':i < (u::us).length:=by have:=(Xn.1 hi).1;simpa using this
   obtain⟨cs',hl',hR',yk⟩:=key i hi';rw[Xz,Xk hi']at hi;simp only[Ye,XX.injEq]at hi;subst hi;have hj':j < cs'.length:=by rw[←hR'.1];exact(Xn.1 hj).1
   rw[yk j hj'];exact hR'.2 j d _ hj (Xk hj')
section
variable {H:Type}{enc:TypeId × Value→H}{w:World}{base:Nat}{spare:Nat→Bool}{held:Bool}
theorem gQ:prog.cellsOf 32=2:=by kernel_rfl
theorem cG:prog.cellsOf 3=1:=by kernel_rfl
theorem x8:prog.cellsOf 72=1:=by kernel_rfl
theorem pI:prog.cellsOf 74=2:=by kernel_rfl
theorem rJ:prog.cellsOf 71=4:=by kernel_rfl
theorem oN:prog.cellsOf 58=3:=by kernel_rfl
theorem rI:prog.cellsOf 55=3:=by kernel_rfl
theorem wW:prog.cellsOf 69=1:=by kernel_rfl
theorem wV:prog.bytesOf 74=32:=by kernel_rfl
theorem yc:prog.cellsOf 53=1:=by kernel_rfl
theorem xY:prog.bytesOf 71=48:=by kernel_rfl
theorem un:prog.cellsOf 52=1:=by kernel_rfl
theorem wS:Rd enc prog w base spare held 32 cQ:=by
 intro fuel cs x hx;have hl:=jA underlying32 hx;rw[gQ]at hl;obtain⟨a,ha⟩:=bY underlying32 hx 0 rfl (en underlying3);obtain⟨b,hb⟩:=bY underlying32 hx 1 rfl (en underlying3);match cs,hl with
 |[c0,c1],_=>
  simp[cG,ui]at ha hb;exact⟨⟨a,b⟩,by simp[cQ,ha.1,hb.1]⟩
theorem eV (l:List Int):cu NM w (l.map fun n=> .v (.int .i64 n)) (l.map fun n=> .int .i64 n):=by
 refine⟨by simp,fun j d x hj hx=>?_⟩;rw[Xz,XO]at hj hx;obtain⟨a,ha,rfl⟩:=hj;obtain⟨c,hc,rfl⟩:=hx;rw[ha]at hc;obtain rfl:=XX.inj hc;exact .v _
theorem gH {M:Nat→Prop}{w:World}{ds es:List D}{vs us:List Value}(h:cu M w ds vs)(g:cu M w es us):cu M w (ds++es) (vs++us):=by
 refine⟨by simp[h.1,g.1],fun j d x hj hx=>?_⟩;rcases XP j ds.length with hlt|hge
 ·rw[X2 hlt]at hj;rw[X2 (by rw[←h.1];exact hlt)]at hx;exact h.2 j d x hj hx
 ·rw[XH hge]at hj;rw[XH (by rw[←h.1];exact hge),←h.1]at hx;exact g.2 _ d x hj hx
theorem iN {M:Nat→Prop}{w:World}{d:D}{v:Value}(h:RepD M w d v):cu M w [d] [v]:=⟨rfl,fun j e x hj hx=>by
 match j with
 |0=>cases hj;cases hx;exact h
 |j+1=>simp at hj⟩
theorem Mq:xp enc prog w base spare held 72 (fun cs (l:List Int)=>∃v,cs=[v]∧RepD NM w (.sl 1 (l.map cy)) v) (fun _=>True):=by
 have h:=iM (enc:=enc) (base:=base) (spare:=spare) (held:=held) underlying72 cG (wR ((en (w:=w) underlying3).map id (R':=fun cs (a:Int)=>cu NM w (cy a) cs) fun cs a h=>by rw[h.1];exact eV [a]));intro fuel cs x hx;obtain⟨l,⟨v,rfl,hs⟩,hw⟩:=h fuel cs x hx;refine⟨l,⟨v,rfl,j3 (sz:=1) (by omega) (fun a=>⟨rfl,fun d hd=>?_⟩) hs⟩,fun _=>trivial⟩;simp[cy]at hd;rcases hd with rfl;rfl
theorem Mr:xp enc prog w base spare held 74 (fun cs (f:Fce)=>cu NM w (cj f) cs) (fun _=>True):=by
 intro fuel cs x hx;have hl:=jA underlying74 hx;rw[pI]at hl;obtain⟨a,ha⟩:=bY underlying74 hx 0 rfl (en underlying3);obtain⟨l,hs,hw⟩:=f8 underlying74 hx 1 rfl Mq;match cs,hl with
 |[c0,c1],_=>
  simp[cG,x8,ui]at ha hs;refine⟨⟨a,l⟩,?_,fun _=>trivial⟩;rw[ha.1];exact gH (eV [a]) (iN hs)
theorem Jb:xp enc prog w base spare held 69 (fun cs (l:List Fce)=>∃v,cs=[v]∧RepD NM w (.sl 2 (l.map cj)) v) (fun l=>l.length*32≤reachBytes):=by
 have h:=iM (enc:=enc) (base:=base) (spare:=spare) (held:=held) underlying69 pI (Mr (w:=w));intro fuel cs x hx;obtain⟨l,⟨v,rfl,hs⟩,hw⟩:=h fuel cs x hx;refine⟨l,⟨v,rfl,j3 (sz:=2) (by omega) (fun a=>⟨rfl,fun d hd=>?_⟩) hs⟩,fun hh=>by have:=(hw hh).1;rwa [wV]at this⟩;simp[cj]at hd;rcases hd with rfl|rfl<;>rfl
theorem Pe:xp enc prog w base spare held 71 (fun cs (s:Sbn)=>cu NM w (aT s) cs) (fun s=>s.faces.length*32≤reachBytes):=by
 intro fuel cs x hx;have hl:=jA underlying71 hx;rw[rJ]at hl;obtain⟨a,ha⟩:=bY underlying71 hx 0 rfl (en underlying3);obtain⟨p,hp⟩:=bY underlying71 hx 1 rfl wS;obtain⟨l,hs,hw⟩:=f8 underlying71 hx 2 rfl Jb;match cs,hl with
 |[c0,c1,c2,c3],_=>
  simp[gQ,cG,wW,ui,cQ]at ha hp hs;refine⟨⟨a,p,l⟩,?_,hw⟩;rw[ha.1,hp.1,hp.2];exact gH (eV [a,p.at_,p.len]) (iN hs)
theorem Ms:xp enc prog w base spare held 53 (fun cs (l:List Sbn)=>∃v,cs=[v]∧RepD NM w (.sl 4 (l.map aT)) v) (fun l=>l.length*48≤reachBytes∧∀s∈l,s.faces.length*32≤reachBytes):=by
 have h:=iM (enc:=enc) (base:=base) (spare:=spare) (held:=held) underlying53 rJ (Pe (w:=w));intro fuel cs x hx;obtain⟨l,⟨v,rfl,hs⟩,hw⟩:=h fuel cs x hx;refine⟨l,⟨v,rfl,j3 (sz:=4) (by omega) (fun a=>⟨rfl,fun d hd=>?_⟩) hs⟩,fun hh=>⟨by have:=(hw hh).1;rwa [xY]at this,(hw hh).2⟩⟩;simp[aT]at hd;rcases hd with rfl|rfl|rfl|rfl<;>rfl
theorem Rt:Rd enc prog w base spare held 58 fun cs (r:Rng)=>cu NM w (bp r) cs:=by
 intro fuel cs x hx;have hl:=jA underlying58 hx;rw[oN]at hl;obtain⟨p,hp⟩:=bY underlying58 hx 0 rfl wS;obtain⟨a,ha⟩:=bY underlying58 hx 1 rfl (en underlying3);match cs,hl with
 |[c0,c1,c2],_=>
  simp[gQ,cG,ui,cQ]at ha hp;refine⟨⟨p,a⟩,?_⟩;rw[ha.1,hp.1,hp.2];exact eV [p.at_,p.len,a]
theorem Pf:xp enc prog w base spare held 58 (fun cs (r:Rng)=>cu NM w (bp r) cs) (fun _=>True):=wR Rt
theorem Mt:xp enc prog w base spare held 52 (fun cs (l:List Rng)=>∃v,cs=[v]∧RepD NM w (.sl 3 (l.map bp)) v) (fun _=>True):=by
 have h:=iM (enc:=enc) (base:=base) (spare:=spare) (held:=held) underlying52 oN (Pf (w:=w));intro fuel cs x hx;obtain⟨l,⟨v,rfl,hs⟩,hw⟩:=h fuel cs x hx;refine⟨l,⟨v,rfl,j3 (sz:=3) (by omega) (fun a=>⟨rfl,fun d hd=>?_⟩) hs⟩,fun _=>trivial⟩;simp[bp]at hd;rcases hd with rfl|rfl|rfl<;>rfl
theorem Pg:xp enc prog w base spare held 55 (fun cs (v:Vpc)=>cu NM w (al v) cs) (fun v=>v.subs.length≤9223372036854775807∧∀s∈v.subs,s.faces.length≤9223372036854775807):=by
 intro fuel cs x hx;have hl:=jA underlying55 hx;rw[rI]at hl;obtain⟨a,ha⟩:=bY underlying55 hx 0 rfl (en underlying3);obtain⟨r,hr,-⟩:=f8 underlying55 hx 1 rfl Mt;obtain⟨l,hs,hw⟩:=f8 underlying55 hx 2 rfl Ms;match cs,hl with
 |[c0,c1,c2],_=>
  simp[cG,un,yc,ui]at ha hr hs;refine⟨⟨a,r,l⟩,?_,fun hh=>?_⟩
  ·rw[ha.1];exact gH (eV [a]) (gH (iN hr) (iN hs))
  ·have:=hw hh;unfold reachBytes at this;exact⟨by have:=this.1;show l.length≤9223372036854775807;omega,fun s hs=>by have:=this.2 s hs;omega⟩
end
theorem Ph {M:Nat→Prop}{w:World}:cu M w [] []:=⟨rfl,fun j d x hj _=>by simp at hj⟩
theorem G2 {M:Nat→Prop}{w:World}{d:D}{v:Value}{ds:List D}{vs:List Value}(h:RepD M w d v)(g:cu M w ds vs):cu M w (d::ds) (v::vs):=⟨by simp[g.1],fun j e x hj hx=>by
 cases j with
 |zero=>simp at hj hx;subst hj;subst hx;exact h
 |succ j=>exact g.2 j e x (by simpa using hj) (by simpa using hx)⟩
theorem G3 {w:World}{cs:Array Value}{ds:List D}(h:cu NM w ds cs.toList)(h1:ds.all D.one=true):RepD NM w (.agg ds) (.agg cs):=by
 have:=RepD.agg (M:=NM) (w:=w) ds cs.toList h.1 (fun d hd=>XC.1 h1 d hd) h.2;simpa using this
theorem Ru {P:Program}{f:Nat}{args:List D}{vs:List Value}{W:World}(hp:af P f args (.v (.bool true)))(fA:cu NM W args vs)(hg:Ek NM W:=fun x hx=>absurd hx (by simp[SC])):Calls P f vs.toArray W fun e w'=>e= .returned (.bool true)∧dA W w':=by
 refine(hp.2 NM W vs (fun b h=>h.elim) hg fA).mono ?_;rintro e w' ⟨v,rfl,hv,hx⟩;cases hv;exact⟨rfl,hx⟩
section
variable {H:Type}{enc:TypeId × Value→H}{w:World}{base:Nat}{spare:Nat→Bool}{held:Bool}
end
end
section
variable {H:Type}{enc:TypeId × Value→H}{w:World}{base:Nat}{spare:Nat→Bool}{held:Bool}
theorem pJ:prog.cellsOf 76=2:=by kernel_rfl
theorem wU:prog.cellsOf 26=1:=by kernel_rfl
theorem yb:prog.cellsOf 25=1:=by kernel_rfl
theorem AY:prog.cellsOf 28=2:=by kernel_rfl
theorem Rv:Rd enc prog w base spare held 76 fun cs (l:Lnk)=>cu NM w (bG l) cs:=by
 intro fuel cs x hx;have hl:=jA underlying76 hx;rw[pJ]at hl;obtain⟨a,ha⟩:=bY underlying76 hx 0 rfl (en underlying3);obtain⟨b,hb⟩:=bY underlying76 hx 1 rfl (en underlying3);match cs,hl with
 |[c0,c1],_=>
  simp[cG,ui]at ha hb;refine⟨⟨a,b⟩,?_⟩;rw[ha.1,hb.1];exact eV [a,b]
theorem Mu:xp enc prog w base spare held 26 (fun cs (l:List Lnk)=>∃v,cs=[v]∧RepD NM w (.sl 2 (l.map bG)) v) (fun _=>True):=by
 have h:=iM (enc:=enc) (base:=base) (spare:=spare) (held:=held) underlying26 pJ (wR (Rv (w:=w)));intro fuel cs x hx;obtain⟨l,⟨v,rfl,hs⟩,hw⟩:=h fuel cs x hx;refine⟨l,⟨v,rfl,j3 (sz:=2) (by omega) (fun a=>⟨rfl,fun d hd=>?_⟩) hs⟩,fun _=>trivial⟩;simp[bG]at hd;rcases hd with rfl|rfl<;>rfl
theorem Mv:xp enc prog w base spare held 25 (fun cs (l:List Vpc)=>∃v,cs=[v]∧RepD NM w (.sl 3 (l.map al)) v) (fun l=>∀v∈l,v.subs.length≤9223372036854775807∧∀s∈v.subs,s.faces.length≤9223372036854775807):=by
 have h:=iM (enc:=enc) (base:=base) (spare:=spare) (held:=held) underlying25 rI (Pg (w:=w));intro fuel cs x hx;obtain⟨l,⟨v,rfl,hs⟩,hw⟩:=h fuel cs x hx;refine⟨l,⟨v,rfl,j3 (sz:=3) (by omega) (fun a=>⟨rfl,fun d hd=>?_⟩) hs⟩,fun hh=>(hw hh).2⟩;simp[al]at hd;rcases hd with rfl|rfl|rfl<;>rfl
theorem Pj:xp enc prog w base spare held 28 (fun cs (n:Net)=>cu NM w (aK n) cs) uj:=by
 intro fuel cs x hx;have hl:=jA underlying28 hx;rw[AY]at hl;obtain⟨vs,hv,hw⟩:=f8 underlying28 hx 0 rfl Mv;obtain⟨ls,hk,-⟩:=f8 underlying28 hx 1 rfl Mu;match cs,hl with
 |[c0,c1],_=>
  simp[yb,wU]at hv hk;exact⟨⟨vs,ls⟩,gH (iN hv) (iN hk),hw⟩
end
section
open Go.Proofs Go.ChangeShapes Go.WideShapes Go.Deep
section
variable {H:Type}{enc:TypeId × Value→H}{w:World}{base:Nat}{spare:Nat→Bool}{held:Bool}
theorem rK:prog.cellsOf 68=5:=by kernel_rfl
theorem rL:prog.cellsOf 62=9:=by kernel_rfl
theorem rM:prog.cellsOf 24=2:=by kernel_rfl
theorem nq:prog.cellsOf 34=4:=by kernel_rfl
theorem x6:prog.cellsOf 60=1:=by kernel_rfl
theorem ya:prog.cellsOf 22=1:=by kernel_rfl
theorem x7:prog.bytesOf 68=40:=by kernel_rfl
theorem Rw:Rd enc prog w base spare held 68 fun cs (l:Lse)=>cs=[.int .i64 l.at_.at_,.int .i64 l.at_.len,.int .i64 l.kind,.int .i64 l.owner,.int .i64 l.till]:=by
 intro fuel cs x hx;have hl:=jA underlying68 hx;rw[rK]at hl;obtain⟨p,hp⟩:=bY underlying68 hx 0 rfl wS;obtain⟨k,hk⟩:=bY underlying68 hx 1 rfl (en underlying3);obtain⟨o,ho⟩:=bY underlying68 hx 2 rfl (en underlying3);obtain⟨t,ht⟩:=bY underlying68 hx 3 rfl (en underlying3);match cs,hl with
 |[c0,c1,c2,c3,c4],_=>
  simp[gQ,cG,ui,cQ]at hp hk ho ht;exact⟨⟨p,k,o,t⟩,by simp[hp.1,hp.2,hk.1,ho.1,ht.1]⟩
theorem Mw:Rd enc prog w base spare held 34 fun cs (r:Rul)=>cs=[.int .i64 r.min,.int .i64 r.max,.int .i64 r.usual,.int .i64 r.cool]:=by
 intro fuel cs x hx;have hl:=jA underlying34 hx;rw[nq]at hl;obtain⟨a,ha⟩:=bY underlying34 hx 0 rfl (en underlying3);obtain⟨b,hb⟩:=bY underlying34 hx 1 rfl (en underlying3);obtain⟨c,hc⟩:=bY underlying34 hx 2 rfl (en underlying3);obtain⟨d,hd⟩:=bY underlying34 hx 3 rfl (en underlying3);match cs,hl with
 |[c0,c1,c2,c3],_=>
  simp[cG,ui]at ha hb hc hd;exact⟨⟨a,b,c,d⟩,by simp[ha.1,hb.1,hc.1,hd.1]⟩
theorem Pk:Rd enc prog w base spare held 68 fun cs (l:Lse)=>cu NM w (aV l) cs:=
 Rw.map id fun cs l h=>by rw[h];exact eV [l.at_.at_,l.at_.len,l.kind,l.owner,l.till]
theorem Mx:xp enc prog w base spare held 60 (fun cs (l:List Lse)=>∃v,cs=[v]∧RepD NM w (.sl 5 (l.map aV)) v) (fun l=>l.length*40≤reachBytes):=by
 have h:=iM (enc:=enc) (base:=base) (spare:=spare) (held:=held) underlying60 rK (wR (Pk (w:=w)));intro fuel cs x hx;obtain⟨l,⟨v,rfl,hs⟩,hw⟩:=h fuel cs x hx;refine⟨l,⟨v,rfl,j3 (sz:=5) (by omega) (fun a=>⟨rfl,fun d hd=>?_⟩) hs⟩,fun hh=>by have:=(hw hh).1;rwa [x7]at this⟩;simp[aV]at hd;rcases hd with rfl|rfl|rfl|rfl|rfl<;>rfl
theorem Pm:xp enc prog w base spare held 62 (fun cs (p:Pol)=>cu NM w (ah p) cs) (fun p=>p.leases.length*40≤reachBytes):=by
 intro fuel cs x hx;have hl:=jA underlying62 hx;rw[rL]at hl;obtain⟨a,ha⟩:=bY underlying62 hx 0 rfl (en underlying3);obtain⟨b,hb⟩:=bY underlying62 hx 1 rfl (en underlying3);obtain⟨p,hp⟩:=bY underlying62 hx 2 rfl wS;obtain⟨r,hr⟩:=bY underlying62 hx 3 rfl Mw;obtain⟨l,hs,hw⟩:=f8 underlying62 hx 4 rfl Mx;match cs,hl with
 |[c0,c1,c2,c3,c4,c5,c6,c7,c8],_=>
  simp[gQ,cG,nq,x6,ui,cQ]at ha hb hp hr hs;refine⟨⟨a,b,p,r,l⟩,?_,hw⟩;rw[ha.1,hb.1,hp.1,hp.2,hr.1,hr.2.1,hr.2.2.1,hr.2.2.2];exact gH (eV [a,b,p.at_,p.len,r.min,r.max,r.usual,r.cool]) (iN hs)
theorem My:xp enc prog w base spare held 22 (fun cs (l:List Pol)=>∃v,cs=[v]∧RepD NM w (.sl 9 (l.map ah)) v) (fun l=>∀p∈l,p.leases.length*40≤reachBytes):=by
 have h:=iM (enc:=enc) (base:=base) (spare:=spare) (held:=held) underlying22 rL (Pm (w:=w));intro fuel cs x hx;obtain⟨l,⟨v,rfl,hs⟩,hw⟩:=h fuel cs x hx;refine⟨l,⟨v,rfl,j3 (sz:=9) (by omega) (fun a=>⟨rfl,fun d hd=>?_⟩) hs⟩,fun hh=>(hw hh).2⟩;simp[ah]at hd;rcases hd with rfl|rfl|rfl|rfl|rfl|rfl|rfl|rfl|rfl<;>rfl
theorem Pn:xp enc prog w base spare held 24 (fun cs (b:Bok)=>cu NM w (aS b) cs) (fun b=>∀p∈b.pools,p.leases.length≤3518437208882):=by
 intro fuel cs x hx;have hl:=jA underlying24 hx;rw[rM]at hl;obtain⟨a,ha⟩:=bY underlying24 hx 0 rfl (en underlying3);obtain⟨l,hs,hw⟩:=f8 underlying24 hx 1 rfl My;match cs,hl with
 |[c0,c1],_=>
  simp[cG,ya,ui]at ha hs;refine⟨⟨a,l⟩,?_,fun hh p hp=>?_⟩
  ·rw[ha.1];exact gH (eV [a]) (iN hs)
  ·have:=hw hh p hp;unfold reachBytes at this;omega
theorem x9:prog.cellsOf 30=4:=by kernel_rfl
theorem AX:prog.cellsOf 36=10:=by kernel_rfl
theorem Rx:Rd enc prog w base spare held 36 fun cs (c:Cmd)=>cu NM w (mg c) cs:=by
 intro fuel cs x hx;have hl:=jA underlying36 hx;rw[AX]at hl;obtain⟨o,ho⟩:=bY underlying36 hx 0 rfl (en underlying3);obtain⟨a,ha⟩:=bY underlying36 hx 1 rfl (en underlying3);obtain⟨b,hb⟩:=bY underlying36 hx 2 rfl (en underlying3);obtain⟨c,hc⟩:=bY underlying36 hx 3 rfl (en underlying3);obtain⟨p,hp⟩:=bY underlying36 hx 4 rfl wS;obtain⟨r,hr⟩:=bY underlying36 hx 5 rfl Mw;match cs,hl with
 |[c0,c1,c2,c3,c4,c5,c6,c7,c8,c9],_=>
  simp[gQ,cG,nq,ui,cQ]at ho ha hb hc hp hr;refine⟨⟨o,a,b,c,p,r⟩,?_⟩;rw[ho.1,ha.1,hb.1,hc.1,hp.1,hp.2,hr.1,hr.2.1,hr.2.2.1,hr.2.2.2];exact eV [o,a,b,c,p.at_,p.len,r.min,r.max,r.usual,r.cool]
theorem Po:xp enc prog w base spare held 36 (fun cs (c:Cmd)=>cu NM w (mg c) cs) (fun _=>True):=wR Rx
theorem xZ:prog.cellsOf 28=2:=by kernel_rfl
theorem Mz:xp enc prog w base spare held 30 (fun cs (s:Ste)=>cu NM w (fw s) cs) (fun s=>(∀p∈s.book.pools,p.leases.length≤3518437208882)∧uj s.net):=by
 intro fuel cs x hx;have hl:=jA underlying30 hx;rw[x9]at hl;obtain⟨b,hb,hw⟩:=f8 underlying30 hx 0 rfl Pn;obtain⟨n,hn,hv⟩:=f8 underlying30 hx 1 rfl Pj;match cs,hl with
 |[c0,c1,c2,c3],_=>
  simp[rM,xZ]at hb hn;exact⟨⟨b,n⟩,gH hb hn,fun h=>⟨hw h,hv h⟩⟩
end
end
section
open Go.Proofs Go.ChangeShapes Go.WideShapes Go.ChangeAt
theorem AW:ownKnob prog.godebug=Option.none:=by kernel_rfl
theorem mK:laidOutB prog=true:=by kernel_rfl
theorem ul (os:Os)(started:os.Started)(H:Type)(enc:TypeId × Value→H):
 ReturnsInHanded {} Tryz.checked os 3 .any (Rows.siteDoesSpec.pre6 enc prog Tryz.f3 Rows.siteDoesRow.domain false) (Rows.siteDoesSpec.post enc prog Tryz.f3 false true false false):=by
 refine returnsInHanded_of_change_sized (C:=Tryz.checked) AW started (by kernel_rfl) func3
  (ChangeSpec.witness6 (enc:=enc) (C:=Tryz.checked) false ⟨#[],#[.agg #[.int .i64 0,.slice none 0 0,.slice none 0 0,.slice none 0 0],.agg #[.int .i64 0,.int .i64 0,.int .i64 0,.int .i64 0,.int .i64 0,.int .i64 0,.int .i64 0,.int .i64 0,.int .i64 0,.int .i64 0]],[]⟩ 8 (by kernel_rfl) (by kernel_rfl) (by kernel_rfl) (by kernel_rfl)) ?_
 intro W base args ds gs before Qr hW hcnd cT _;have Nj:∀(j:Nat) t v,Tryz.f3.params[j]? =some t→args[j]? =some v→Value.okWide prog W .any base t v:=Qr;have hW':=hW;obtain⟨p,q,JC,hV,rfl,UA,lm⟩:=hW;have hA:DataW.TrodAll enc prog W 0 (fun _=>true) true Tryz.f3.params.toList args.toList ds p:=JC;rw[params3]at hA Nj;obtain⟨v0,vs0,d0,ds0,p0,q0,zL,rfl,rfl,h0,r0⟩:=trodAll_cons hA;obtain⟨v1,vs1,d1,ds1,p1,q1,rfl,rfl,rfl,h1,r1⟩:=trodAll_cons r0;obtain⟨rfl,rfl,rfl⟩:=trodAll_nil r1;obtain rfl:args=#[v0,v1]:=by cases args;simp_all
 obtain⟨rfl,rfl⟩:=trodVars_none hV;obtain⟨cs0,a0,rfl,w0,s0⟩:=S9 underlying30 (Nj 0 30 v0 rfl rfl) h0 Mz;replace s0:=s0 (fun n hn=>of_decide_eq_true (XC.1 cT _ (DataW.weights_mem_each (j:=0) (t:=30) rfl rfl n hn)));obtain⟨cs1,a1,rfl,w1,s1⟩:=S9 underlying36 (Nj 1 36 v1 rfl rfl) h1 Po;clear JC Qr;refine(Ru (FC a0 a1 s0.1 s0.2) (vs:=[.agg cs0,.agg cs1]) (G2 (G3 w0 rfl) (G2 (G3 w1 rfl) Ph))).mono fun e W' ⟨he,bel⟩=>?_;subst he;exact⟨_,rfl,_,_,_,[],_,[],hW',trodAll_mk1 (shut_bool underlying4 _),(trodAll_cons_mk (Below.trod mK (by kernel_rfl) (of_decide_eq_true (by kernel_rfl)) h0 bel (CV h0)) (trodAll_cons_mk (Below.trod mK (by kernel_rfl) (of_decide_eq_true (by kernel_rfl)) h1 bel (CV h1)) trodAll_mk0)),rfl,bel.frame _,fun h=>by cases h⟩
set_option maxHeartbeats 0 in
theorem um:joinedFacts prog 3 Tryz.f3 Rows.siteDoesSpec Rows.siteDoesRow=true:=by
 unfold joinedFacts;repeat' (with_reducible refine Bool.and_eq_true_iff.2 ⟨?_,?_⟩)
 all_goals as_aux_lemma=>kernel_rfl
theorem wT:Tryz.pinned.checked.prog.funcNamed Rows.siteDoesRow.func=some 3:=by kernel_rfl
theorem xV:Tryz.f3.isInstance Tryz.pinned.checked.prog Rows.siteDoesRow.origin Rows.siteDoesRow.targs:=of_decide_eq_true (by kernel_rfl)
theorem xW:Tryz.f3.isWrapper Tryz.pinned.checked.prog Rows.siteDoesRow.wrapper Rows.siteDoesRow.mainSum:=by unfold Func.isWrapper;first|(rw[if_pos (by decide+kernel)];kernel_rfl)|(rw[if_neg (by decide+kernel)];exact⟨rfl,rfl⟩)
theorem xX:Rows.siteDoesRow.holds Tryz.pinned (OpenSpec.ofChange Rows.siteDoesSpec):=
 OpenClaim.holds_of_wide 3 Tryz.f3 rfl rfl rfl rfl rfl rfl rfl ⟨rfl,rfl,rfl,rfl,rfl⟩ rfl rfl rfl rfl rfl wT func3 um xV xW
  (fun os started H enc _=>ul os started H enc)
theorem siteDoes_holds:Rows.SiteDoesSaid:=xX
#print axioms siteDoes_holds
end
end Go.Proofs.YtmicljipaiohkaaGreat
